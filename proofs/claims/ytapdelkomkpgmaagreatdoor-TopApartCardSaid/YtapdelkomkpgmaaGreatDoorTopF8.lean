import Derived.Test.YtapdelkomkpgmaaGreatDoorRows
import Derived.SevenTiedAt
namespace Go.Proofs.YtapdelkomkpgmaaGreatDoor
open Go
set_option linter.all false
set_option linter.unusedVariables false
def Jpw: Tryz.pinned.checked.prog.mainIs=some (true, "356362d32cd495f107608f2c32aff5ad721ff1b3e5bba0016c9ffc02b42eaef6".toList):=by kernel_rfl
end Go.Proofs.YtapdelkomkpgmaaGreatDoor
