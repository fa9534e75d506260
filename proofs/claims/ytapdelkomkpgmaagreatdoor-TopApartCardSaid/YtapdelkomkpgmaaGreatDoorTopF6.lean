import Derived.Test.YtapdelkomkpgmaaGreatDoorRows
import Derived.LaidMore
import Derived.LaidHandle
import Derived.OpenShut
import Derived.Stop.Joined
namespace Go.Proofs.YtapdelkomkpgmaaGreatDoor
open Go.Proofs.Tryz (prog)
open Go Go.RowKit
set_option linter.unusedVariables false
set_option maxRecDepth 100000
set_option linter.all false
def FE:Array Value:= #[.agg #[.int .i64 0,.slice none 0 0,.slice none 0 0],.slice none 0 0,.agg #[.int .i64 0,.slice none 0 0,.slice none 0 0],.slice none 0 0,.int .i64 0]
def Qd0(os:Os)(args:Array Value):laidMetH prog Rows.topApartRow.laid ((World.doorLaid prog 400 os).forCall (fun _ _=>0) ⟨#[],args,[]⟩).memory:=
 laidMetH_of_parts3 (fuel:=8) (laidMet_of_run' 8 (by kernel_rfl) (by kernel_rfl)) (by kernel_rfl) (by kernel_rfl)
def JqM(os:Os):((World.doorLaid prog 400 os).forCall (fun _ _=>0) ⟨#[],FE,[]⟩).Shaped Tryz.checked.prog:=World.shaped_of_RefB (by kernel_rfl) (by kernel_rfl)
def JnD(os:Os):Input.okWideB Tryz.checked.prog ((World.doorLaid prog 400 os).forCall (fun _ _=>0) ⟨#[],FE,[]⟩) 3 ⟨#[],FE,[]⟩=true:=by kernel_rfl
end Go.Proofs.YtapdelkomkpgmaaGreatDoor
