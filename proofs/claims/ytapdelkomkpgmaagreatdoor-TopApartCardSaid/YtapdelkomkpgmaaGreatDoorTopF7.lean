import Derived.Test.YtapdelkomkpgmaaGreatDoorRows
import Derived.JoinedOf
namespace Go.Proofs.YtapdelkomkpgmaaGreatDoor
open Go.Proofs.Tryz (prog)
set_option linter.all false
open Go
set_option linter.unusedVariables false
def JiV:prog.funcNamed "offshoot/offshoottop.TopApart" =some 3 :=by kernel_rfl
def Jmp: Tryz.f3.isInstance prog Rows.topApartRow.origin Rows.topApartRow.targs:=of_decide_eq_true (by kernel_rfl)
def Jvf: Tryz.f3.isWrapper prog Rows.topApartRow.wrapper Rows.topApartRow.mainSum:=by unfold Func.isWrapper;first|(rw[if_pos (by decide+kernel)];kernel_rfl)|(rw[if_neg (by decide+kernel)];exact⟨rfl,rfl⟩)
end Go.Proofs.YtapdelkomkpgmaaGreatDoor
