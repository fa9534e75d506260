/-
  How many kids a node has: plain.
-/
import Derived.WalkKit
import Derived.Lib.Hide
import Derived.Deep.Draws
namespace Go.Proofs.Ytnmgfobpcengkaa
open Go.RowKit

/-- A node: its tag, its number. -/
abbrev Nd := Int × Int

/-- How many kids a node of tag t may have, and the most that its number may be. -/
def lim (t n : Int) : Int × Int :=
  if t = 2 then (1, 0) else if t = 3 then (11, 0) else if t = 4 ∨ t = 21 then (11, 1) else if t = 22 then (11, 2)
  else if t = 5 ∨ t = 6 ∨ t = 25 then (0, 1) else if t = 24 then (0, 2) else if t = 20 then (200, n) else if t = 23 then (0, 3) else if t = 26 then (0, 0)
  else if 7 ≤ t ∧ t ≤ 19 then (0, 2) else (-1, -1)
/-- How many kids a node has; -1: it may not be. -/
def ar (x : Nd) : Int := if x.1 = 1 then 0 else if x.2 < 0 ∨ (lim x.1 x.2).1 < x.2 then -1 else (lim x.1 x.2).2

theorem lim_or (t n : Int) : lim t n = (200, n) ∨ (-1 ≤ (lim t n).2 ∧ (lim t n).2 ≤ 3) := by
  unfold lim
  repeat' split
  all_goals simp
theorem ar_bound (x : Nd) : -1 ≤ ar x ∧ ar x ≤ 200 := by
  obtain ⟨t, n⟩ := x
  unfold ar
  have h := lim_or t n
  simp only []
  split
  · omega
  · split
    · omega
    · rcases h with h | h
      · rename_i hh
        rw [h] at hh ⊢
        simp only [] at hh ⊢
        omega
      · omega

theorem ret_int {k : IntKind} {a b : Int} (h : a = b) : Ending.returned (.int k a) = .returned (.int k b) := by rw [h]
theorem pair_eq {a b c d : Int} (h : (a, b) = (c, d)) : Ending.returned (.tuple #[.int .i64 a, .int .i64 b]) = .returned (.tuple #[.int .i64 c, .int .i64 d]) := by
  cases h; rfl

theorem below_alloc1 (w : World) (o : Obj) : Below w.heap.size w (w.alloc o) := (Below.refl _ _).alloc (Nat.le_refl _) _
end Go.Proofs.Ytnmgfobpcengkaa
