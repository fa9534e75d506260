/-
  The reference's Compare.
-/
import Derived.Test.YtnmgfobpcengkaaCompare
namespace Go.Proofs.Ytnmgfobpcengkaa
open Go.RowKit
set_option maxHeartbeats 2000000 in
theorem refCompare_any (a b : List Int) (u v : Value) (w : World) (hu : IntsAt w u a) (hv : IntsAt w v b) (ha : a.length ≤ 4000000) (hb : b.length ≤ 4000000) :
    Calls Try.prog 21 #[u, v] w fun e w' => e = .returned (.int .i64 (cmpL a b)) ∧ Below w.heap.size w w' := by
  obtain ⟨pu, cu, hus⟩ := hu.slice
  obtain ⟨pv, cv, hvs⟩ := hv.slice
  subst hus
  subst hvs
  go_enter Try.func21, Try.ntmps21
  go_wp2
  go_loopw [5] (fun i wr => ∃ k : Nat, i = .int .i64 k ∧ k ≤ a.length ∧ k ≤ b.length ∧ Hid (cmpL a b = cmpL (a.drop k) (b.drop k)) ∧ Below w.heap.size w wr) (fun i _ => a.length - (intOf i).toNat)
  case atStart => exact ⟨0, rfl, Nat.zero_le _, Nat.zero_le _, Lib.hid rfl, Below.refl _ _⟩
  case round =>
    obtain ⟨k, rfl, hk, hk2, ht, hB⟩ := hrel
    by_cases hkm : k < a.length ∧ k < b.length
    · obtain ⟨hlt, hltb⟩ := hkm
      rcases hu.open with ⟨rfl, _⟩ | ⟨b1, o1, c1, hs1, hp1, hc1, hb1, hx1⟩
      · simp at hlt
      rcases hv.open with ⟨rfl, _⟩ | ⟨b2, o2, c2, hs2, hp2, hc2, hb2, hx2⟩
      · simp at hltb
      obtain ⟨rfl, rfl⟩ : pu = some ⟨b1, o1, none⟩ ∧ cu = c1 := by simpa using hs1
      obtain ⟨rfl, rfl⟩ : pv = some ⟨b2, o2, none⟩ ∧ cv = c2 := by simpa using hs2
      have g1 := (hB.cell (p := ⟨b1, o1 + k, none⟩) hb1).trans (hx1 k hlt)
      have g2 := (hB.cell (p := ⟨b2, o2 + k, none⟩) hb2).trans (hx2 k hltb)
      clear hx1 hx2 hs1 hs2
      have n1 : (k : Int) < (a.length : Int) := by omega
      have n2 : (k : Int) < (b.length : Int) := by omega
      rcases Int.lt_trichotomy a[k] b[k] with he | he | he
      · go_wp2
        go_quiet (fail)
        go_wp2
        go_ret
        exact ⟨ret_int (by rw [ht.out, cmpL_apart a b k hlt hltb (by omega), cmpI, if_pos he]), below_drewN hB _⟩
      · have h1 : ¬ a[k] < b[k] := by omega
        have h2 : ¬ b[k] < a[k] := by omega
        have HE := Lib.hid he
        clear he
        go_wp2
        go_quiet (fail)
        go_wp2
        go_quiet (fail)
        go_wp2
        go_roundw
        case rel => exact ⟨k + 1, by go_num, by omega, by omega, Lib.hid (by rw [ht.out, cmpL_drop a b k hlt hltb HE.out]), by first | exact below_drewN hB _ | exact below_drewN (below_drewN hB _) _⟩
        case measure => simp [intOf]; omega
      · have h1 : ¬ a[k] < b[k] := by omega
        go_wp2
        go_quiet (fail)
        go_wp2
        go_quiet (fail)
        go_wp2
        go_ret
        exact ⟨ret_int (by rw [ht.out, cmpL_apart a b k hlt hltb (by omega), cmpI, if_neg (by omega), if_pos he]), below_drewN (below_drewN hB _) _⟩
    · have he : cmpL a b = cmpI a.length b.length := by rw [ht.out, cmpL_end a b k (by omega) (by omega) (by omega)]
      have HE := Lib.hid he
      clear he
      by_cases h3 : k < a.length
      all_goals
        go_wp2
        all_goals
          go_ret
          exact ⟨ret_int (by rw [HE.out, cmpI]; first | rw [if_pos (by omega)] | rw [if_neg (by omega), if_pos (by omega)] | rw [if_neg (by omega), if_neg (by omega)]), hB⟩
end Go.Proofs.Ytnmgfobpcengkaa
