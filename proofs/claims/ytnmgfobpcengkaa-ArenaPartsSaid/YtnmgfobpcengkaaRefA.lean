/-
  The reference's Arity: what it computes.
-/
import Derived.Test.YtnmgfobpcengkaaAr
import Derived.Test.YtnmgfobpcengkaaProg
namespace Go.Proofs.Ytnmgfobpcengkaa
set_option maxRecDepth 100000
open Go.RowKit
set_option maxHeartbeats 4000000 in
theorem refArity_any (x : Nd) (w : World) :
    Calls Try.prog 26 #[.agg #[.int .i64 x.1, .int .i64 x.2]] w fun e w' => e = .returned (.int .i64 (ar x)) ∧ Below w.heap.size w w' := by
  obtain ⟨t, n⟩ := x
  have ht : t = 1 ∨ t = 2 ∨ t = 3 ∨ t = 4 ∨ t = 5 ∨ t = 6 ∨ t = 7 ∨ t = 8 ∨ t = 9 ∨ t = 10 ∨ t = 11 ∨ t = 12 ∨ t = 13 ∨ t = 14 ∨ t = 15 ∨ t = 16 ∨ t = 17 ∨ t = 18 ∨ t = 19 ∨ t = 20 ∨ t = 21 ∨ t = 22 ∨ t = 23 ∨ t = 24 ∨ t = 25 ∨ t = 26 ∨ (t < 1 ∨ 26 < t) := by omega
  rcases ht with rfl | rfl | rfl | rfl | rfl | rfl | rfl | rfl | rfl | rfl | rfl | rfl | rfl | rfl | rfl | rfl | rfl | rfl | rfl | rfl | rfl | rfl | rfl | rfl | rfl | rfl | ht
  · go_enter Try.func26, Try.ntmps26
    go_wp2
    all_goals
      go_ret
      refine ⟨ret_int ?_, below_alloc1 _ _⟩
      first | rfl | (simp only [ar, lim]; simp; done) | (simp only [ar, lim]; simp; omega) | (simp only [ar, lim]; simp; split <;> omega)
  · go_enter Try.func26, Try.ntmps26
    go_wp2
    all_goals
      go_ret
      refine ⟨ret_int ?_, below_alloc1 _ _⟩
      first | rfl | (simp only [ar, lim]; simp; done) | (simp only [ar, lim]; simp; omega) | (simp only [ar, lim]; simp; split <;> omega)
  · go_enter Try.func26, Try.ntmps26
    go_wp2
    all_goals
      go_ret
      refine ⟨ret_int ?_, below_alloc1 _ _⟩
      first | rfl | (simp only [ar, lim]; simp; done) | (simp only [ar, lim]; simp; omega) | (simp only [ar, lim]; simp; split <;> omega)
  · go_enter Try.func26, Try.ntmps26
    go_wp2
    all_goals
      go_ret
      refine ⟨ret_int ?_, below_alloc1 _ _⟩
      first | rfl | (simp only [ar, lim]; simp; done) | (simp only [ar, lim]; simp; omega) | (simp only [ar, lim]; simp; split <;> omega)
  · go_enter Try.func26, Try.ntmps26
    go_wp2
    all_goals
      go_ret
      refine ⟨ret_int ?_, below_alloc1 _ _⟩
      first | rfl | (simp only [ar, lim]; simp; done) | (simp only [ar, lim]; simp; omega) | (simp only [ar, lim]; simp; split <;> omega)
  · go_enter Try.func26, Try.ntmps26
    go_wp2
    all_goals
      go_ret
      refine ⟨ret_int ?_, below_alloc1 _ _⟩
      first | rfl | (simp only [ar, lim]; simp; done) | (simp only [ar, lim]; simp; omega) | (simp only [ar, lim]; simp; split <;> omega)
  · go_enter Try.func26, Try.ntmps26
    go_wp2
    all_goals
      go_ret
      refine ⟨ret_int ?_, below_alloc1 _ _⟩
      first | rfl | (simp only [ar, lim]; simp; done) | (simp only [ar, lim]; simp; omega) | (simp only [ar, lim]; simp; split <;> omega)
  · go_enter Try.func26, Try.ntmps26
    go_wp2
    all_goals
      go_ret
      refine ⟨ret_int ?_, below_alloc1 _ _⟩
      first | rfl | (simp only [ar, lim]; simp; done) | (simp only [ar, lim]; simp; omega) | (simp only [ar, lim]; simp; split <;> omega)
  · go_enter Try.func26, Try.ntmps26
    go_wp2
    all_goals
      go_ret
      refine ⟨ret_int ?_, below_alloc1 _ _⟩
      first | rfl | (simp only [ar, lim]; simp; done) | (simp only [ar, lim]; simp; omega) | (simp only [ar, lim]; simp; split <;> omega)
  · go_enter Try.func26, Try.ntmps26
    go_wp2
    all_goals
      go_ret
      refine ⟨ret_int ?_, below_alloc1 _ _⟩
      first | rfl | (simp only [ar, lim]; simp; done) | (simp only [ar, lim]; simp; omega) | (simp only [ar, lim]; simp; split <;> omega)
  · go_enter Try.func26, Try.ntmps26
    go_wp2
    all_goals
      go_ret
      refine ⟨ret_int ?_, below_alloc1 _ _⟩
      first | rfl | (simp only [ar, lim]; simp; done) | (simp only [ar, lim]; simp; omega) | (simp only [ar, lim]; simp; split <;> omega)
  · go_enter Try.func26, Try.ntmps26
    go_wp2
    all_goals
      go_ret
      refine ⟨ret_int ?_, below_alloc1 _ _⟩
      first | rfl | (simp only [ar, lim]; simp; done) | (simp only [ar, lim]; simp; omega) | (simp only [ar, lim]; simp; split <;> omega)
  · go_enter Try.func26, Try.ntmps26
    go_wp2
    all_goals
      go_ret
      refine ⟨ret_int ?_, below_alloc1 _ _⟩
      first | rfl | (simp only [ar, lim]; simp; done) | (simp only [ar, lim]; simp; omega) | (simp only [ar, lim]; simp; split <;> omega)
  · go_enter Try.func26, Try.ntmps26
    go_wp2
    all_goals
      go_ret
      refine ⟨ret_int ?_, below_alloc1 _ _⟩
      first | rfl | (simp only [ar, lim]; simp; done) | (simp only [ar, lim]; simp; omega) | (simp only [ar, lim]; simp; split <;> omega)
  · go_enter Try.func26, Try.ntmps26
    go_wp2
    all_goals
      go_ret
      refine ⟨ret_int ?_, below_alloc1 _ _⟩
      first | rfl | (simp only [ar, lim]; simp; done) | (simp only [ar, lim]; simp; omega) | (simp only [ar, lim]; simp; split <;> omega)
  · go_enter Try.func26, Try.ntmps26
    go_wp2
    all_goals
      go_ret
      refine ⟨ret_int ?_, below_alloc1 _ _⟩
      first | rfl | (simp only [ar, lim]; simp; done) | (simp only [ar, lim]; simp; omega) | (simp only [ar, lim]; simp; split <;> omega)
  · go_enter Try.func26, Try.ntmps26
    go_wp2
    all_goals
      go_ret
      refine ⟨ret_int ?_, below_alloc1 _ _⟩
      first | rfl | (simp only [ar, lim]; simp; done) | (simp only [ar, lim]; simp; omega) | (simp only [ar, lim]; simp; split <;> omega)
  · go_enter Try.func26, Try.ntmps26
    go_wp2
    all_goals
      go_ret
      refine ⟨ret_int ?_, below_alloc1 _ _⟩
      first | rfl | (simp only [ar, lim]; simp; done) | (simp only [ar, lim]; simp; omega) | (simp only [ar, lim]; simp; split <;> omega)
  · go_enter Try.func26, Try.ntmps26
    go_wp2
    all_goals
      go_ret
      refine ⟨ret_int ?_, below_alloc1 _ _⟩
      first | rfl | (simp only [ar, lim]; simp; done) | (simp only [ar, lim]; simp; omega) | (simp only [ar, lim]; simp; split <;> omega)
  · go_enter Try.func26, Try.ntmps26
    go_wp2
    all_goals
      go_ret
      refine ⟨ret_int ?_, below_alloc1 _ _⟩
      first | rfl | (simp only [ar, lim]; simp; done) | (simp only [ar, lim]; simp; omega) | (simp only [ar, lim]; simp; split <;> omega)
  · go_enter Try.func26, Try.ntmps26
    go_wp2
    all_goals
      go_ret
      refine ⟨ret_int ?_, below_alloc1 _ _⟩
      first | rfl | (simp only [ar, lim]; simp; done) | (simp only [ar, lim]; simp; omega) | (simp only [ar, lim]; simp; split <;> omega)
  · go_enter Try.func26, Try.ntmps26
    go_wp2
    all_goals
      go_ret
      refine ⟨ret_int ?_, below_alloc1 _ _⟩
      first | rfl | (simp only [ar, lim]; simp; done) | (simp only [ar, lim]; simp; omega) | (simp only [ar, lim]; simp; split <;> omega)
  · go_enter Try.func26, Try.ntmps26
    go_wp2
    all_goals
      go_ret
      refine ⟨ret_int ?_, below_alloc1 _ _⟩
      first | rfl | (simp only [ar, lim]; simp; done) | (simp only [ar, lim]; simp; omega) | (simp only [ar, lim]; simp; split <;> omega)
  · go_enter Try.func26, Try.ntmps26
    go_wp2
    all_goals
      go_ret
      refine ⟨ret_int ?_, below_alloc1 _ _⟩
      first | rfl | (simp only [ar, lim]; simp; done) | (simp only [ar, lim]; simp; omega) | (simp only [ar, lim]; simp; split <;> omega)
  · go_enter Try.func26, Try.ntmps26
    go_wp2
    all_goals
      go_ret
      refine ⟨ret_int ?_, below_alloc1 _ _⟩
      first | rfl | (simp only [ar, lim]; simp; done) | (simp only [ar, lim]; simp; omega) | (simp only [ar, lim]; simp; split <;> omega)
  · go_enter Try.func26, Try.ntmps26
    go_wp2
    all_goals
      go_ret
      refine ⟨ret_int ?_, below_alloc1 _ _⟩
      first | rfl | (simp only [ar, lim]; simp; done) | (simp only [ar, lim]; simp; omega) | (simp only [ar, lim]; simp; split <;> omega)
  have hl : lim t n = (-1, -1) := by
    unfold lim
    repeat rw [if_neg (by omega)]
  have har : ar (t, n) = -1 := by
    simp only [ar, hl]
    rw [if_neg (by omega)]
    split <;> rfl
  have HA := Lib.hid har
  clear har hl
  have e1 : (t == 1) = false := beq_eq_false_iff_ne.2 (by omega)
  have e2 : (t == 2) = false := beq_eq_false_iff_ne.2 (by omega)
  have e3 : (t == 3) = false := beq_eq_false_iff_ne.2 (by omega)
  have e4 : (t == 4) = false := beq_eq_false_iff_ne.2 (by omega)
  have e5 : (t == 5) = false := beq_eq_false_iff_ne.2 (by omega)
  have e6 : (t == 6) = false := beq_eq_false_iff_ne.2 (by omega)
  have e7 : (t == 7) = false := beq_eq_false_iff_ne.2 (by omega)
  have e8 : (t == 8) = false := beq_eq_false_iff_ne.2 (by omega)
  have e9 : (t == 9) = false := beq_eq_false_iff_ne.2 (by omega)
  have e10 : (t == 10) = false := beq_eq_false_iff_ne.2 (by omega)
  have e11 : (t == 11) = false := beq_eq_false_iff_ne.2 (by omega)
  have e12 : (t == 12) = false := beq_eq_false_iff_ne.2 (by omega)
  have e13 : (t == 13) = false := beq_eq_false_iff_ne.2 (by omega)
  have e14 : (t == 14) = false := beq_eq_false_iff_ne.2 (by omega)
  have e15 : (t == 15) = false := beq_eq_false_iff_ne.2 (by omega)
  have e16 : (t == 16) = false := beq_eq_false_iff_ne.2 (by omega)
  have e17 : (t == 17) = false := beq_eq_false_iff_ne.2 (by omega)
  have e18 : (t == 18) = false := beq_eq_false_iff_ne.2 (by omega)
  have e19 : (t == 19) = false := beq_eq_false_iff_ne.2 (by omega)
  have e20 : (t == 20) = false := beq_eq_false_iff_ne.2 (by omega)
  have e21 : (t == 21) = false := beq_eq_false_iff_ne.2 (by omega)
  have e22 : (t == 22) = false := beq_eq_false_iff_ne.2 (by omega)
  have e23 : (t == 23) = false := beq_eq_false_iff_ne.2 (by omega)
  have e24 : (t == 24) = false := beq_eq_false_iff_ne.2 (by omega)
  have e25 : (t == 25) = false := beq_eq_false_iff_ne.2 (by omega)
  have e26 : (t == 26) = false := beq_eq_false_iff_ne.2 (by omega)
  clear ht
  go_enter Try.func26, Try.ntmps26
  go_wp2
  all_goals
    go_ret
    refine ⟨ret_int ?_, below_alloc1 _ _⟩
    rw [HA.out]

end Go.Proofs.Ytnmgfobpcengkaa
