import Derived.Test.YtapdelkomkpgmaaGreatDoorRows
import Derived.SevenTiedAt
namespace Go.Proofs.YtapdelkomkpgmaaGreatDoor
open Go.Proofs.Tryz (prog)
set_option linter.all false
open Go
set_option linter.unusedVariables false
def JqE:Rows.topApartRow.wfByText (OpenSpec.ofChange Rows.topApartSpec)=true:=by kernel_rfl
def Qbk:([25,26,25,26,3].all fun u=> !prog.wantsStandIn u)=true:=by kernel_rfl
end Go.Proofs.YtapdelkomkpgmaaGreatDoor
