/-
  arena.limits, Arity, End and the reference's Arity, End: what each computes.
-/
import Derived.Test.YtnmgfobpcengkaaBase
import Derived.Test.YtnmgfobpcengkaaProg
import Derived.BigQuiet
import Derived.Deep.QuietTactic
namespace Go.Proofs.Ytnmgfobpcengkaa
open Go.RowKit
set_option maxHeartbeats 1000000 in
theorem limits_any (t n : Int) (w : World) :
    Calls Try.prog 42 #[.agg #[.int .i64 t, .int .i64 n]] w fun e w' => e = .returned (.tuple #[.int .i64 (lim t n).1, .int .i64 (lim t n).2]) ∧ Below w.heap.size w w' := by
  go_enter Try.func42, Try.ntmps42
  go_wp2
  all_goals first
    | (go_ret2; refine ⟨pair_eq ?_, (Below.refl _ _).alloc (Nat.le_refl _) _⟩; simp only [beq_iff_eq, beq_eq_false_iff_ne] at *; simp [lim, *]; done)
    | (go_ret2; refine ⟨pair_eq ?_, (Below.refl _ _).alloc (Nat.le_refl _) _⟩; simp only [beq_eq_false_iff_ne] at *; rw [lim]; simp only [*, if_false, or_false]; rw [if_neg (by omega)])
    | skip
  go_quiet (fail)
  go_wp2
  go_ret2
  refine ⟨pair_eq ?_, below_drewN ((Below.refl _ _).alloc (Nat.le_refl _) _) _⟩
  simp only [beq_iff_eq, beq_eq_false_iff_ne] at *
  simp [lim, *]

set_option maxHeartbeats 1000000 in
theorem Arity_any (x : Nd) (w : World) :
    Calls Try.prog 25 #[.agg #[.int .i64 x.1, .int .i64 x.2]] w fun e w' => e = .returned (.int .i64 (ar x)) ∧ Below w.heap.size w w' := by
  obtain ⟨t, n⟩ := x
  go_enter Try.func25, Try.ntmps25
  go_wp2_with (go_at_call 42; refine (limits_any _ _ _).mono ?_; rintro e w1 ⟨rfl, hb⟩; obtain ⟨hc, hf⟩ := bcell hb)
  all_goals go_ret
  · refine ⟨ret_int ?_, (Below.refl _ _).alloc (Nat.le_refl _) _⟩
    simp_all [ar]
  all_goals
    refine ⟨ret_int ?_, ((Below.refl _ _).alloc (Nat.le_refl _) _).trans (hb.mono (by simp))⟩
    simp only [beq_eq_false_iff_ne, ne_eq, ar] at *
    rw [if_neg (by assumption)]
    first | rw [if_pos (by omega)] | rw [if_neg (by omega)]

end Go.Proofs.Ytnmgfobpcengkaa
