import Derived.Test.YtapdelkomkpgmaaGreatDoorTopF1
import Derived.Test.YtapdelkomkpgmaaGreatDoorTopF2
import Derived.Test.YtapdelkomkpgmaaGreatDoorTopF3
import Derived.Test.YtapdelkomkpgmaaGreatDoorTopF4
import Derived.JoinedOf
namespace Go.Proofs.YtapdelkomkpgmaaGreatDoor
open Go.Proofs.Tryz (prog)
set_option linter.all false
open Go
set_option linter.unusedVariables false
def Jnv:joinedFacts prog 3 Tryz.f3 Rows.topApartSpec Rows.topApartRow=true:=by
 unfold joinedFacts;rw[JqU,QeN,Jxv,JoX];kernel_rfl
end Go.Proofs.YtapdelkomkpgmaaGreatDoor
