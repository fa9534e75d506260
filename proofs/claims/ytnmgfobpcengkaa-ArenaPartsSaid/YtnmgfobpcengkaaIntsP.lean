/-
  The reference's Ints; cmp.Compare of ints; path.Compare and the reference's Compare.
-/
import Derived.Test.YtnmgfobpcengkaaBase
import Derived.Test.YtnmgfobpcengkaaProg
import Derived.BigQuiet
import Derived.Deep.QuietTactic
namespace Go.Proofs.Ytnmgfobpcengkaa
open Go.RowKit

theorem take_same {a b : List Int} {k : Nat} (h : a.take k = b.take k) (hk : k < a.length) (hb : k < b.length) (he : a[k] = b[k]) : a.take (k + 1) = b.take (k + 1) := by
  rw [List.take_succ_eq_append_getElem hk, List.take_succ_eq_append_getElem hb, h, he]
theorem take_all {a b : List Int} (h : a.take a.length = b.take a.length) (hl : a.length = b.length) : a = b := by
  rwa [List.take_length, hl, List.take_length] at h
theorem ret_bool {a b : Bool} (h : a = b) : Ending.returned (.bool a) = .returned (.bool b) := by rw [h]

set_option maxHeartbeats 1000000 in
theorem Ints_any (a b : List Int) (u v : Value) (w : World) (hu : IntsAt w u a) (hv : IntsAt w v b) (ha : a.length ≤ 4000000) (hb : b.length ≤ 4000000) :
    Calls Try.prog 16 #[u, v] w fun e w' => e = .returned (.bool (decide (a = b))) ∧ Below w.heap.size w w' := by
  obtain ⟨pu, cu, hus⟩ := hu.slice
  obtain ⟨pv, cv, hvs⟩ := hv.slice
  subst hus
  subst hvs
  by_cases hl : a.length = b.length
  · have hlt : ((a.length : Int) != (b.length : Int)) = false := by simp [hl]
    have HL := Lib.hid hl
    clear hl
    go_enter Try.func16, Try.ntmps16
    go_wp2
    go_loopw [5] (fun i wr => ∃ k : Nat, i = .int .i64 k ∧ k ≤ a.length ∧ Hid (a.take k = b.take k) ∧ Below w.heap.size w wr) (fun i _ => a.length - (intOf i).toNat)
    case atStart => exact ⟨0, rfl, Nat.zero_le _, Lib.hid rfl, Below.refl _ _⟩
    case round =>
      obtain ⟨k, rfl, hk, ht, hB⟩ := hrel
      by_cases hlt : k < a.length
      · have hltb : k < b.length := by have := HL.out; omega
        rcases hu.open with ⟨rfl, _⟩ | ⟨b1, o1, c1, hs1, hp1, hc1, hb1, hx1⟩
        · simp at hlt
        rcases hv.open with ⟨rfl, _⟩ | ⟨b2, o2, c2, hs2, hp2, hc2, hb2, hx2⟩
        · simp at hltb
        obtain ⟨rfl, rfl⟩ : pu = some ⟨b1, o1, none⟩ ∧ cu = c1 := by simpa using hs1
        obtain ⟨rfl, rfl⟩ : pv = some ⟨b2, o2, none⟩ ∧ cv = c2 := by simpa using hs2
        have g1 := (hB.cell (p := ⟨b1, o1 + k, none⟩) hb1).trans (hx1 k hlt)
        have g2 := (hB.cell (p := ⟨b2, o2 + k, none⟩) hb2).trans (hx2 k hltb)
        clear hx1 hx2 hs1 hs2
        by_cases he : a[k] = b[k]
        · have heb : (a[k] != b[k]) = false := by simp [he]
          have HE := Lib.hid he
          clear he
          have n1 : (k : Int) < (a.length : Int) := by omega
          have n2 : (k : Int) < (b.length : Int) := by omega
          go_wp2
          go_quiet (fail)
          go_wp2
          go_roundw
          case rel => exact ⟨k + 1, by go_num, by omega, Lib.hid (take_same ht.out hlt hltb HE.out), below_drewN hB _⟩
          case measure => simp [intOf]; omega
        · have heb : (a[k] != b[k]) = true := by simp [he]
          have HE := Lib.hid he
          clear he
          have n1 : (k : Int) < (a.length : Int) := by omega
          have n2 : (k : Int) < (b.length : Int) := by omega
          go_wp2
          go_quiet (fail)
          go_wp2
          go_ret
          exact ⟨ret_bool (by rw [decide_eq_false]; rintro rfl; exact HE.out rfl), below_drewN hB _⟩
      · go_wp2
        go_ret
        exact ⟨ret_bool (by rw [decide_eq_true]; exact (take_all (by have := ht.out; rwa [show k = a.length from by omega] at this) HL.out)), hB⟩
  · have hlt : ((a.length : Int) != (b.length : Int)) = true := by rw [bne_iff_ne]; omega
    have HL := Lib.hid hl
    clear hl
    go_enter Try.func16, Try.ntmps16
    go_wp2
    go_ret
    exact ⟨ret_bool (by rw [decide_eq_false]; intro h; exact HL.out (by rw [h])), Below.refl _ _⟩
end Go.Proofs.Ytnmgfobpcengkaa
