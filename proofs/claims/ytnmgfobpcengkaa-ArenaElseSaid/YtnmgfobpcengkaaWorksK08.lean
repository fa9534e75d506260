/-
  Chapter 8's laws: the fixed facts, and the table with them.
-/
import Derived.Test.YtnmgfobpcengkaaTab08
import Derived.Test.YtnmgfobpcengkaaDenK
namespace Go.Proofs.Ytnmgfobpcengkaa
open Go.RowKit
set_option linter.unusedVariables false

theorem mixed : Try.prog.follows .mixedOrders = true := by kernel_rfl
/-- A function without parameters that gives true. -/
def F_true : List D → Option D
  | [] => some (bD true)
  | _ => none
theorem callOk_true {T : Tab} (hT : TabOk Try.prog T) {f : FuncId} {fn : Func} (hf : Try.prog.funcs[f]? = some fn) (hb : fn.body.isSome = true) (hname : fn.name ≠ "runtime.NumGoroutine") (n : Nat) (h : textK Try.prog T n fn [] = some (bD true)) : CallOk Try.prog f F_true := by
  refine callOk_text hT mixed hf hb hname fun ds d hF => ?_
  unfold F_true at hF
  split at hF
  · cases hF
    exact ⟨n, h⟩
  · cases hF
theorem C_works08 : CallOk Try.prog 23 F_true := callOk_true T08_ok Try.func23 (by kernel_rfl) (by decide) 10 (by kernel_rfl)
abbrev F_works08 := F_true
def L08 : Tab := (23, F_works08) :: T08
theorem L08_ok : TabOk Try.prog L08 := by
  intro p hp
  simp only [L08, List.mem_cons] at hp
  rcases hp with rfl | hp
  · exact C_works08
  · exact T08_ok p hp
end Go.Proofs.Ytnmgfobpcengkaa
