/-
  slices.Equal, arena.Same and the reference's Same: are nodes alike?
-/
import Derived.Test.YtnmgfobpcengkaaBase
import Derived.Test.YtnmgfobpcengkaaProg
import Derived.BigQuiet
import Derived.Deep.QuietTactic
namespace Go.Proofs.Ytnmgfobpcengkaa
open Go.RowKit
set_option linter.unusedVariables false

theorem take_sameN {a b : List Nd} {k : Nat} (h : a.take k = b.take k) (hk : k < a.length) (hb : k < b.length) (he : a[k] = b[k]) : a.take (k + 1) = b.take (k + 1) := by
  rw [List.take_succ_eq_append_getElem hk, List.take_succ_eq_append_getElem hb, h, he]
theorem take_allN {a b : List Nd} (h : a.take a.length = b.take a.length) (hl : a.length = b.length) : a = b := by
  rwa [List.take_length, hl, List.take_length] at h
theorem ret_boolN {a b : Bool} (h : a = b) : Ending.returned (.bool a) = .returned (.bool b) := by rw [h]

/-- Two nodes held against each other. -/
theorem node_neq (w : World) (a b c d : Int) (v : Bool) (h : v = !(a == c && b == d)) :
    (binOp .neq 36 (.agg #[.int .i64 a, .int .i64 b]) (.agg #[.int .i64 c, .int .i64 d])).run Try.prog w = .ok (.bool v) w := by
  subst h
  by_cases h1 : a = c
  · subst h1
    by_cases h2 : b = d
    · subst h2
      simp [go_sem]
    · simp [go_sem, h2]
  · simp [go_sem, h1]

set_option maxHeartbeats 2000000 in
theorem refSame_any (a b : List Nd) (u v : Value) (w : World) (hu : NodesAt w u a) (hv : NodesAt w v b) (ha : a.length ≤ 4000000) (hb : b.length ≤ 4000000) :
    Calls Try.prog 24 #[u, v] w fun e w' => e = .returned (.bool (decide (a = b))) ∧ Below w.heap.size w w' := by
  obtain ⟨pu, cu, hus⟩ := hu.slice
  obtain ⟨pv, cv, hvs⟩ := hv.slice
  subst hus
  subst hvs
  by_cases hl : a.length = b.length
  · have hlt : ((a.length : Int) != (b.length : Int)) = false := by simp [hl]
    have HL := Lib.hid hl
    clear hl
    go_enter Try.func24, Try.ntmps24
    go_wp2
    go_loopw [5] (fun i wr => ∃ k : Nat, i = .int .i64 k ∧ k ≤ a.length ∧ Hid (a.take k = b.take k) ∧ Below w.heap.size w wr) (fun i _ => a.length - (intOf i).toNat)
    case atStart => exact ⟨0, rfl, Nat.zero_le _, Lib.hid rfl, Below.refl _ _⟩
    case round =>
      obtain ⟨k, rfl, hk, ht, hB⟩ := hrel
      by_cases hlt : k < a.length
      · have hltb : k < b.length := by have := HL.out; omega
        rcases hu.open with ⟨rfl, _⟩ | ⟨b1, o1, c1, hs1, hp1, hc1, hb1, hx1⟩
        · simp at hlt
        rcases hv.open with ⟨rfl, _⟩ | ⟨b2, o2, c2, hs2, hp2, hc2, hb2, hx2⟩
        · simp at hltb
        obtain ⟨rfl, rfl⟩ : pu = some ⟨b1, o1, none⟩ ∧ cu = c1 := by simpa using hs1
        obtain ⟨rfl, rfl⟩ : pv = some ⟨b2, o2, none⟩ ∧ cv = c2 := by simpa using hs2
        have g1 := (hB.cell (p := ⟨b1, o1 + k * 2, none⟩) hb1).trans (hx1 k hlt).1
        have g2 := (hB.cell (p := ⟨b1, o1 + k * 2 + 1, none⟩) hb1).trans (hx1 k hlt).2
        have g3 := (hB.cell (p := ⟨b2, o2 + k * 2, none⟩) hb2).trans (hx2 k hltb).1
        have g4 := (hB.cell (p := ⟨b2, o2 + k * 2 + 1, none⟩) hb2).trans (hx2 k hltb).2
        clear hx1 hx2 hs1 hs2
        have n1 : (k : Int) < (a.length : Int) := by omega
        have n2 : (k : Int) < (b.length : Int) := by omega
        by_cases he : a[k] = b[k]
        · have e1 : (a[k].1 == b[k].1) = true := by simp [he]
          have e2 : (a[k].2 == b[k].2) = true := by simp [he]
          have HE := Lib.hid he
          clear he
          go_wp2
          go_quiet (fail)
          go_wp2
          go_roundw
          case rel => exact ⟨k + 1, by go_num, by omega, Lib.hid (take_sameN ht.out hlt hltb HE.out), below_drewN hB _⟩
          case measure => simp [intOf]; omega
        · have HN := Lib.hid he
          rcases e1 : (a[k].1 == b[k].1) with _ | _
          · have e1x := e1
            clear he
            go_wp2
            go_quiet (fail)
            go_wp2
            go_ret
            exact ⟨ret_boolN (by rw [decide_eq_false]; intro h; subst h; exact HN.out rfl), below_drewN hB _⟩
          · rcases e2 : (a[k].2 == b[k].2) with _ | _
            · clear he
              go_wp2
              go_quiet (fail)
              go_wp2
              go_ret
              exact ⟨ret_boolN (by rw [decide_eq_false]; intro h; subst h; exact HN.out rfl), below_drewN hB _⟩
            · exact absurd (Prod.ext (by simpa using e1) (by simpa using e2)) HN.out
      · go_wp2
        go_ret
        exact ⟨ret_boolN (by rw [decide_eq_true]; exact (take_allN (by have := ht.out; rwa [show k = a.length from by omega] at this) HL.out)), hB⟩
  · have hlt : ((a.length : Int) != (b.length : Int)) = true := by rw [bne_iff_ne]; omega
    have HL := Lib.hid hl
    clear hl
    go_enter Try.func24, Try.ntmps24
    go_wp2
    go_ret
    exact ⟨ret_boolN (by rw [decide_eq_false]; intro h; exact HL.out (by rw [h])), Below.refl _ _⟩
set_option maxHeartbeats 2000000 in
theorem equal_any (a b : List Nd) (u v : Value) (w : World) (hu : NodesAt w u a) (hv : NodesAt w v b) (ha : a.length ≤ 4000000) (hb : b.length ≤ 4000000) :
    Calls Try.prog 45 #[u, v] w fun e w' => e = .returned (.bool (decide (a = b))) ∧ Below w.heap.size w w' := by
  obtain ⟨pu, cu, hus⟩ := hu.slice
  obtain ⟨pv, cv, hvs⟩ := hv.slice
  subst hus
  subst hvs
  by_cases hl : a.length = b.length
  · have hlt : ((a.length : Int) != (b.length : Int)) = false := by simp [hl]
    have HL := Lib.hid hl
    clear hl
    go_enter Try.func45, Try.ntmps45
    go_wp2
    go_loopw [13] (fun i wr => ∃ k : Nat, i = .int .i64 k ∧ k ≤ a.length ∧ Hid (a.take k = b.take k) ∧ Below w.heap.size w wr) (fun i _ => a.length - (intOf i).toNat)
    case atStart => exact ⟨0, rfl, Nat.zero_le _, Lib.hid rfl, Below.refl _ _⟩
    case round =>
      obtain ⟨k, rfl, hk, ht, hB⟩ := hrel
      by_cases hlt : k < a.length
      · have hltb : k < b.length := by have := HL.out; omega
        rcases hu.open with ⟨rfl, _⟩ | ⟨b1, o1, c1, hs1, hp1, hc1, hb1, hx1⟩
        · simp at hlt
        rcases hv.open with ⟨rfl, _⟩ | ⟨b2, o2, c2, hs2, hp2, hc2, hb2, hx2⟩
        · simp at hltb
        obtain ⟨rfl, rfl⟩ : pu = some ⟨b1, o1, none⟩ ∧ cu = c1 := by simpa using hs1
        obtain ⟨rfl, rfl⟩ : pv = some ⟨b2, o2, none⟩ ∧ cv = c2 := by simpa using hs2
        have g1 := (hB.cell (p := ⟨b1, o1 + k * 2, none⟩) hb1).trans (hx1 k hlt).1
        have g2 := (hB.cell (p := ⟨b1, o1 + k * 2 + 1, none⟩) hb1).trans (hx1 k hlt).2
        have g3 := (hB.cell (p := ⟨b2, o2 + k * 2, none⟩) hb2).trans (hx2 k hltb).1
        have g4 := (hB.cell (p := ⟨b2, o2 + k * 2 + 1, none⟩) hb2).trans (hx2 k hltb).2
        clear hx1 hx2 hs1 hs2
        have n1 : (k : Int) < (a.length : Int) := by omega
        have n2 : (k : Int) < (b.length : Int) := by omega
        by_cases he : a[k] = b[k]
        · have e1 : (a[k].1 == b[k].1) = true := by simp [he]
          have e2 : (a[k].2 == b[k].2) = true := by simp [he]
          have HE := Lib.hid he
          clear he
          go_wp2
          go_quiet (fail)
          go_wp2
          go_roundw
          case rel => exact ⟨k + 1, by go_num, by omega, Lib.hid (take_sameN ht.out hlt hltb HE.out), below_drewN hB _⟩
          case measure => simp [intOf]; omega
        · have HN := Lib.hid he
          rcases e1 : (a[k].1 == b[k].1) with _ | _
          · have e1x := e1
            clear he
            go_wp2
            go_quiet (fail)
            go_wp2
            go_ret
            exact ⟨ret_boolN (by rw [decide_eq_false]; intro h; subst h; exact HN.out rfl), below_drewN hB _⟩
          · rcases e2 : (a[k].2 == b[k].2) with _ | _
            · clear he
              go_wp2
              go_quiet (fail)
              go_wp2
              go_ret
              exact ⟨ret_boolN (by rw [decide_eq_false]; intro h; subst h; exact HN.out rfl), below_drewN hB _⟩
            · exact absurd (Prod.ext (by simpa using e1) (by simpa using e2)) HN.out
      · go_wp2
        go_ret
        exact ⟨ret_boolN (by rw [decide_eq_true]; exact (take_allN (by have := ht.out; rwa [show k = a.length from by omega] at this) HL.out)), hB⟩
  · have hlt : ((a.length : Int) != (b.length : Int)) = true := by rw [bne_iff_ne]; omega
    have HL := Lib.hid hl
    clear hl
    go_enter Try.func45, Try.ntmps45
    go_wp2
    go_ret
    exact ⟨ret_boolN (by rw [decide_eq_false]; intro h; exact HL.out (by rw [h])), Below.refl _ _⟩
end Go.Proofs.Ytnmgfobpcengkaa
