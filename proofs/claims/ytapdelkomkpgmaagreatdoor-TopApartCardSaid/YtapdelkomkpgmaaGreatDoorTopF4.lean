import Derived.Test.YtapdelkomkpgmaaGreatDoorRows
namespace Go.Proofs.YtapdelkomkpgmaaGreatDoor
open Go.Proofs.Tryz (prog)
set_option linter.all false
open Go
set_option linter.unusedVariables false
def JoX:(Rows.topApartRow.named==prog.varsNamed 3)=true:=by kernel_rfl
end Go.Proofs.YtapdelkomkpgmaaGreatDoor
