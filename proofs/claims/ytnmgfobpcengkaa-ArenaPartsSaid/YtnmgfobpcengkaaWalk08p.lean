/-
  A node and its kids' parts: the law, called.
-/
import Derived.Test.YtnmgfobpcengkaaLaw08p
namespace Go.Proofs.Ytnmgfobpcengkaa
open Go.RowKit
set_option linter.unusedVariables false

theorem arenaParts_walk (l : List Nd) (v : Value) (i : Int) (w : World) (hv : NodesAt w v l) :
    Calls Try.prog 10 #[v, .int .i64 i] w fun e w' => e = .returned (.bool true) ∧ Below w.heap.size w w' := by
  obtain ⟨H, hH⟩ := arenaParts_text l i
  exact law_walk L08_ok mixed Try.func10 (by kernel_rfl) (by decide) hH (vs := [v, .int .i64 i]) (RepA.cons (nodesD_rep hv) (RepA.cons (rep_int i) RepA.nil))
end Go.Proofs.Ytnmgfobpcengkaa
