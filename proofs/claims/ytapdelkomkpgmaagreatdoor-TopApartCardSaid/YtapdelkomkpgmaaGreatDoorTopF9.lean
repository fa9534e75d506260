import Derived.Test.YtapdelkomkpgmaaGreatDoorRows
import Derived.SevenTiedAt
namespace Go.Proofs.YtapdelkomkpgmaaGreatDoor
open Go.Proofs.Tryz (prog)
set_option linter.all false
open Go
set_option linter.unusedVariables false
def QdL:true=prog.looks []:=by kernel_rfl
end Go.Proofs.YtapdelkomkpgmaaGreatDoor
