/-
  arena.Check$1, slices.IndexFunc and slices.ContainsFunc with it: has a node too great a number?
-/
import Derived.Test.YtnmgfobpcengkaaArenaA
import Derived.Test.YtnmgfobpcengkaaSameP
namespace Go.Proofs.Ytnmgfobpcengkaa
set_option maxRecDepth 100000
open Go.RowKit
set_option linter.unusedVariables false

/-- Has a node too great a number, or no tag? -/
def hasBad (l : List Nd) : Bool := l.any fun x => decide (ar x < 0)
theorem hasBad_take {l : List Nd} {k : Nat} (h : hasBad (l.take k) = false) (hk : k < l.length) (ha : ¬ ar l[k] < 0) : hasBad (l.take (k + 1)) = false := by
  simp only [hasBad] at h ⊢
  rw [List.take_succ_eq_append_getElem hk, List.any_append, h]
  simpa using ha
theorem hasBad_at {l : List Nd} {k : Nat} (hk : k < l.length) (ha : ar l[k] < 0) : hasBad l = true := by
  simp only [hasBad, List.any_eq_true]
  exact ⟨l[k], List.getElem_mem hk, by simpa using ha⟩

theorem lit_any (x : Nd) (w : World) :
    Calls Try.prog 44 #[.agg #[.int .i64 x.1, .int .i64 x.2]] w fun e w' => e = .returned (.bool (decide (ar x < 0))) ∧ Below w.heap.size w w' := by
  have hb0 := ar_bound x
  go_enter Try.func44, Try.ntmps44
  go_wp2_with (go_at_call 25; refine (Arity_any x _).mono ?_; rintro e w1 ⟨rfl, hb⟩)
  go_ret
  exact ⟨rfl, ((Below.refl _ _).alloc (Nat.le_refl _) _).trans (hb.mono (by simp))⟩

set_option maxHeartbeats 2000000 in
theorem index_any (l : List Nd) (v : Value) (w : World) (hv : NodesAt w v l) (hl : l.length ≤ 4000000) :
    Calls Try.prog 51 #[v, .func (.func 44) #[] #[]] w fun e w' => (∃ r : Int, e = .returned (.int .i64 r) ∧ (0 ≤ r ↔ hasBad l = true)) ∧ Below w.heap.size w w' := by
  obtain ⟨pv, cv, hvs⟩ := hv.slice
  subst hvs
  go_enter Try.func51, Try.ntmps51
  go_wp2
  go_loopw [8] (fun i wr => ∃ k : Nat, i = .int .i64 k ∧ k ≤ l.length ∧ Hid (hasBad (l.take k) = false) ∧ Below w.heap.size w wr) (fun i _ => l.length - (intOf i).toNat)
  case atStart => exact ⟨0, rfl, Nat.zero_le _, Lib.hid rfl, Below.refl _ _⟩
  case round =>
    obtain ⟨k, rfl, hk, ht, hB⟩ := hrel
    by_cases hlt : k < l.length
    · rcases hv.open with ⟨rfl, _⟩ | ⟨b1, o1, c1, hs1, hp1, hc1, hb1, hx1⟩
      · simp at hlt
      obtain ⟨rfl, rfl⟩ : pv = some ⟨b1, o1, none⟩ ∧ cv = c1 := by simpa using hs1
      have g1 := (hB.cell (p := ⟨b1, o1 + k * 2, none⟩) hb1).trans (hx1 k hlt).1
      have g2 := (hB.cell (p := ⟨b1, o1 + k * 2 + 1, none⟩) hb1).trans (hx1 k hlt).2
      clear hx1 hs1
      have n1 : (k : Int) < (l.length : Int) := by omega
      by_cases he : ar l[k] < 0
      · have HE := Lib.hid he
        have HD : decide (ar l[k] < 0) = true := by simp [he]
        clear he
        go_wp2_with (go_at_call 44; refine (lit_any l[k] _).mono ?_; rintro e w1 ⟨rfl, hb⟩)
        go_ret
        exact ⟨⟨k, rfl, ⟨fun _ => hasBad_at hlt HE.out, fun _ => by omega⟩⟩, hB.trans (hb.mono hB.size)⟩
      · have HE := Lib.hid he
        have HD : decide (ar l[k] < 0) = false := by simp [he]
        clear he
        go_wp2_with (go_at_call 44; refine (lit_any l[k] _).mono ?_; rintro e w1 ⟨rfl, hb⟩)
        go_roundw
        case rel => exact ⟨k + 1, by go_num, by omega, Lib.hid (hasBad_take ht.out hlt (Int.not_lt.2 HE.out)), hB.trans (hb.mono hB.size)⟩
        case measure => simp [intOf]; omega
    · go_wp2
      go_ret
      exact ⟨⟨-1, rfl, by constructor; (intro h; omega); (intro h; have := ht.out; rw [List.take_of_length_le (by omega), h] at this; cases this)⟩, hB⟩

theorem contains_any (l : List Nd) (v : Value) (w : World) (hv : NodesAt w v l) (hl : l.length ≤ 4000000) :
    Calls Try.prog 43 #[v, .func (.func 44) #[] #[]] w fun e w' => e = .returned (.bool (hasBad l)) ∧ Below w.heap.size w w' := by
  go_enter Try.func43, Try.ntmps43
  go_wp2_with (fail)
  refine (index_any l v w hv hl).mono ?_
  rintro e w1 ⟨⟨r, rfl, hr⟩, hB⟩
  have HR := Lib.hid hr
  clear hr
  go_wp2_with (fail)
  go_ret
  exact ⟨ret_boolN (by have := HR.out; rw [Bool.eq_iff_iff, decide_eq_true_iff]; exact this), hB⟩
end Go.Proofs.Ytnmgfobpcengkaa
