/-
  What functions come to by their text.
-/
import Derived.Test.YtnmgfobpcengkaaHTab08
namespace Go.Proofs.Ytnmgfobpcengkaa
open Go.RowKit
set_option linter.unusedVariables false
set_option maxRecDepth 100000

def kp_arena_Same : List Nat := []
theorem sh_arena_Same (n : Nat) (x0 x1 : D) (h : Heap) : textK Try.prog T08 kp_arena_Same n Try.f29 [x0, x1] h =
(thnH (liftF F_EqualNodes [x0, x1] h) fun y0 h1 =>
some (y0, h1)) := by kernel_rfl

end Go.Proofs.Ytnmgfobpcengkaa
