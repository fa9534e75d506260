import Derived.Test.YtapdelkomkpgmaaGreatDoorRows
import Derived.SevenTiedAt
namespace Go.Proofs.YtapdelkomkpgmaaGreatDoor
open Go
set_option linter.all false
set_option linter.unusedVariables false
def Jtr:false=Rows.topApartRow.goesBy Tryz.pinned.checked.prog:=by kernel_rfl
end Go.Proofs.YtapdelkomkpgmaaGreatDoor
