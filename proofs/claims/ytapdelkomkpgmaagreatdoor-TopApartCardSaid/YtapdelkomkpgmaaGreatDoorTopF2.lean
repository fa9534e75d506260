import Derived.Test.YtapdelkomkpgmaaGreatDoorRows
namespace Go.Proofs.YtapdelkomkpgmaaGreatDoor
open Go.Proofs.Tryz (prog)
set_option linter.all false
open Go
set_option linter.unusedVariables false
def QeN:(Rows.topApartRow.unfollowed==prog.unfollowed 3)=true:=by kernel_rfl
end Go.Proofs.YtapdelkomkpgmaaGreatDoor
