import Derived.Test.YtapdelkomkpgmaaGreatDoorTopF5
import Derived.Test.YtapdelkomkpgmaaGreatDoorTopF7
import Derived.JoinedOf
namespace Go.Proofs.YtapdelkomkpgmaaGreatDoor
open Go.Proofs.Tryz (prog)
set_option linter.all false
open Go
set_option linter.unusedVariables false
def Jwf(lifted:∀(os:Os) (started:os.Started) (H:Type) (enc:TypeId×Value->H),
  ReturnsInHanded {} Tryz.checked os 3 .any (fun w args=>(Rows.topApartSpec.pre enc prog Tryz.f3 Rows.topApartRow.domain false w args/\laidMetH prog Rows.topApartRow.laid w)/\sizedMet enc prog Tryz.f3 (OpenSpec.ofChange Rows.topApartSpec) false w args)
   (Rows.topApartSpec.post enc prog Tryz.f3 false true false false)):Rows.topApartRow.holds Tryz.pinned (OpenSpec.ofChange Rows.topApartSpec):=
 OpenClaim.holds_of_wide 3 Tryz.f3 rfl rfl rfl rfl rfl rfl rfl ⟨rfl,rfl,rfl,rfl,rfl⟩ rfl rfl rfl rfl rfl JiV Tryz.func3 Jnv Jmp Jvf
  (fun os started H enc _=>lifted os started H enc)
end Go.Proofs.YtapdelkomkpgmaaGreatDoor
