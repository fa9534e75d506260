/-
  No cell of these rows narrows 'for every input' (looked for: loops, veiled, ifaces, maps, wideKeys, modest, calm, conditions, laid).
  DERIVED. THE GIVEN ROWS OF THIS SEAT. 10 by the template 'for every input the law returns true; each argument reads behind the call as it read before'; 0 by the template 'total and deterministic' (their statements: YtnmgfobpcengkaaTotals.lean).
  GIVEN WITH THE SEED: the statements are not yours to turn. If you find one false, say at which input.
  Laid BY PROGRAM, IN A SANDBOX (cutbox-rows.mjs): the forced cells as the released guide's own fill.sh prints them over the translation e0bbe9610f89a7e9… (all of the seat's roots in one cut). By AI agents, Wed Nov 11 2026. No macro, syntax, notation, axiom, sorry.
-/
import Derived.Test.YtnmgfobpcengkaaChecked
import GoSem.Claim
import GoSem.ClaimJoined
import GoSem.ClaimMapViews
import Derived.JoinedTies
import Derived.KernelRfl
namespace Go.Proofs.Ytnmgfobpcengkaa
/- THE CELL 'sum', in the pinned program and in every row, IS THE sha256 OF THE DUMP (.gsa) THAT YtnmgfobpcengkaaProg.lean LOADS. Nothing in Lean hashes anything: it is a label: what it is worth is what the hold of that sum in a sandbox is worth. -/
noncomputable def Try.pinned : Pinned := { name := "ytnmgfobpcengkaa", sum := "e0bbe9610f89a7e93e20c96479bc2469fff0ce6e7b4aa1ed5217af9597abae75", checked := Try.checked }
namespace Rows
def none {H : Type} : Left H := { results := [], args := [] }

/-- 'offshootlaw11.PathTells': WHATEVER THE INPUT: true; the input reads as it did. -/
def pathTellsSpec : ChangeSpec := { name := "pathTells", fn := fun _ => fun
  | [d1, d2, d3] => { results := [.lit (.bool true)], args := [d1, d2, d3] }
  | _ => none }
def pathTellsRow : OpenClaim := { program := "ytnmgfobpcengkaa", sum := "e0bbe9610f89a7e93e20c96479bc2469fff0ce6e7b4aa1ed5217af9597abae75", func := "offshoot/offshootlaw11.PathTells", spec := "pathTells", unfollowed := true, recurses := true, apart := false }
def PathTellsSaid : Prop := pathTellsRow.holds Try.pinned (OpenSpec.ofChange pathTellsSpec)

/-- ITS FALSE NEIGHBOUR: 'it returns false'. Refute it at one input. -/
def pathTellsWrong : ChangeSpec := { name := "pathTells", fn := fun _ => fun
  | [d1, d2, d3] => { results := [.lit (.bool false)], args := [d1, d2, d3] }
  | _ => none }
def PathTellsWrongFalsely : Prop := pathTellsRow.holds Try.pinned (OpenSpec.ofChange pathTellsWrong)

/-- 'offshootlaw11.PathBack': WHATEVER THE INPUT: true; the input reads as it did. -/
def pathBackSpec : ChangeSpec := { name := "pathBack", fn := fun _ => fun
  | [d1, d2, d3] => { results := [.lit (.bool true)], args := [d1, d2, d3] }
  | _ => none }
def pathBackRow : OpenClaim := { program := "ytnmgfobpcengkaa", sum := "e0bbe9610f89a7e93e20c96479bc2469fff0ce6e7b4aa1ed5217af9597abae75", func := "offshoot/offshootlaw11.PathBack", spec := "pathBack", unfollowed := true, recurses := true, apart := false }
def PathBackSaid : Prop := pathBackRow.holds Try.pinned (OpenSpec.ofChange pathBackSpec)

/-- ITS FALSE NEIGHBOUR: 'it returns false'. Refute it at one input. -/
def pathBackWrong : ChangeSpec := { name := "pathBack", fn := fun _ => fun
  | [d1, d2, d3] => { results := [.lit (.bool false)], args := [d1, d2, d3] }
  | _ => none }
def PathBackWrongFalsely : Prop := pathBackRow.holds Try.pinned (OpenSpec.ofChange pathBackWrong)

/-- 'offshootlaw11.PathOrder': WHATEVER THE INPUT: true; the input reads as it did. -/
def pathOrderSpec : ChangeSpec := { name := "pathOrder", fn := fun _ => fun
  | [d1, d2, d3] => { results := [.lit (.bool true)], args := [d1, d2, d3] }
  | _ => none }
def pathOrderRow : OpenClaim := { program := "ytnmgfobpcengkaa", sum := "e0bbe9610f89a7e93e20c96479bc2469fff0ce6e7b4aa1ed5217af9597abae75", func := "offshoot/offshootlaw11.PathOrder", spec := "pathOrder", unfollowed := true, recurses := true, apart := false }
def PathOrderSaid : Prop := pathOrderRow.holds Try.pinned (OpenSpec.ofChange pathOrderSpec)

/-- ITS FALSE NEIGHBOUR: 'it returns false'. Refute it at one input. -/
def pathOrderWrong : ChangeSpec := { name := "pathOrder", fn := fun _ => fun
  | [d1, d2, d3] => { results := [.lit (.bool false)], args := [d1, d2, d3] }
  | _ => none }
def PathOrderWrongFalsely : Prop := pathOrderRow.holds Try.pinned (OpenSpec.ofChange pathOrderWrong)

/-- 'offshootlaw11.PathCompares': WHATEVER THE INPUT: true; the input reads as it did. -/
def pathComparesSpec : ChangeSpec := { name := "pathCompares", fn := fun _ => fun
  | [d1, d2, d3] => { results := [.lit (.bool true)], args := [d1, d2, d3] }
  | _ => none }
def pathComparesRow : OpenClaim := { program := "ytnmgfobpcengkaa", sum := "e0bbe9610f89a7e93e20c96479bc2469fff0ce6e7b4aa1ed5217af9597abae75", func := "offshoot/offshootlaw11.PathCompares", spec := "pathCompares", unfollowed := true, recurses := true, apart := false }
def PathComparesSaid : Prop := pathComparesRow.holds Try.pinned (OpenSpec.ofChange pathComparesSpec)

/-- ITS FALSE NEIGHBOUR: 'it returns false'. Refute it at one input. -/
def pathComparesWrong : ChangeSpec := { name := "pathCompares", fn := fun _ => fun
  | [d1, d2, d3] => { results := [.lit (.bool false)], args := [d1, d2, d3] }
  | _ => none }
def PathComparesWrongFalsely : Prop := pathComparesRow.holds Try.pinned (OpenSpec.ofChange pathComparesWrong)

/-- 'offshootlaw11.PathKids': WHATEVER THE INPUT: true; the input reads as it did. -/
def pathKidsSpec : ChangeSpec := { name := "pathKids", fn := fun _ => fun
  | [d1, d2, d3] => { results := [.lit (.bool true)], args := [d1, d2, d3] }
  | _ => none }
def pathKidsRow : OpenClaim := { program := "ytnmgfobpcengkaa", sum := "e0bbe9610f89a7e93e20c96479bc2469fff0ce6e7b4aa1ed5217af9597abae75", func := "offshoot/offshootlaw11.PathKids", spec := "pathKids", unfollowed := true, recurses := true, apart := false }
def PathKidsSaid : Prop := pathKidsRow.holds Try.pinned (OpenSpec.ofChange pathKidsSpec)

/-- ITS FALSE NEIGHBOUR: 'it returns false'. Refute it at one input. -/
def pathKidsWrong : ChangeSpec := { name := "pathKids", fn := fun _ => fun
  | [d1, d2, d3] => { results := [.lit (.bool false)], args := [d1, d2, d3] }
  | _ => none }
def PathKidsWrongFalsely : Prop := pathKidsRow.holds Try.pinned (OpenSpec.ofChange pathKidsWrong)

/-- 'offshootlaw08.ArenaChecks': WHATEVER THE INPUT: true; the input reads as it did. -/
def arenaChecksSpec : ChangeSpec := { name := "arenaChecks", fn := fun _ => fun
  | [d1, d2, d3] => { results := [.lit (.bool true)], args := [d1, d2, d3] }
  | _ => none }
def arenaChecksRow : OpenClaim := { program := "ytnmgfobpcengkaa", sum := "e0bbe9610f89a7e93e20c96479bc2469fff0ce6e7b4aa1ed5217af9597abae75", func := "offshoot/offshootlaw08.ArenaChecks", spec := "arenaChecks", unfollowed := true, recurses := true, apart := false }
def ArenaChecksSaid : Prop := arenaChecksRow.holds Try.pinned (OpenSpec.ofChange arenaChecksSpec)

/-- ITS FALSE NEIGHBOUR: 'it returns false'. Refute it at one input. -/
def arenaChecksWrong : ChangeSpec := { name := "arenaChecks", fn := fun _ => fun
  | [d1, d2, d3] => { results := [.lit (.bool false)], args := [d1, d2, d3] }
  | _ => none }
def ArenaChecksWrongFalsely : Prop := arenaChecksRow.holds Try.pinned (OpenSpec.ofChange arenaChecksWrong)

/-- 'offshootlaw08.ArenaTells': WHATEVER THE INPUT: true; the input reads as it did. -/
def arenaTellsSpec : ChangeSpec := { name := "arenaTells", fn := fun _ => fun
  | [d1, d2, d3] => { results := [.lit (.bool true)], args := [d1, d2, d3] }
  | _ => none }
def arenaTellsRow : OpenClaim := { program := "ytnmgfobpcengkaa", sum := "e0bbe9610f89a7e93e20c96479bc2469fff0ce6e7b4aa1ed5217af9597abae75", func := "offshoot/offshootlaw08.ArenaTells", spec := "arenaTells", unfollowed := true, recurses := true, apart := false }
def ArenaTellsSaid : Prop := arenaTellsRow.holds Try.pinned (OpenSpec.ofChange arenaTellsSpec)

/-- ITS FALSE NEIGHBOUR: 'it returns false'. Refute it at one input. -/
def arenaTellsWrong : ChangeSpec := { name := "arenaTells", fn := fun _ => fun
  | [d1, d2, d3] => { results := [.lit (.bool false)], args := [d1, d2, d3] }
  | _ => none }
def ArenaTellsWrongFalsely : Prop := arenaTellsRow.holds Try.pinned (OpenSpec.ofChange arenaTellsWrong)

/-- 'offshootlaw08.ArenaParts': WHATEVER THE INPUT: true; the input reads as it did. -/
def arenaPartsSpec : ChangeSpec := { name := "arenaParts", fn := fun _ => fun
  | [d1, d2] => { results := [.lit (.bool true)], args := [d1, d2] }
  | _ => none }
def arenaPartsRow : OpenClaim := { program := "ytnmgfobpcengkaa", sum := "e0bbe9610f89a7e93e20c96479bc2469fff0ce6e7b4aa1ed5217af9597abae75", func := "offshoot/offshootlaw08.ArenaParts", spec := "arenaParts", unfollowed := true, recurses := true, apart := false }
def ArenaPartsSaid : Prop := arenaPartsRow.holds Try.pinned (OpenSpec.ofChange arenaPartsSpec)

/-- ITS FALSE NEIGHBOUR: 'it returns false'. Refute it at one input. -/
def arenaPartsWrong : ChangeSpec := { name := "arenaParts", fn := fun _ => fun
  | [d1, d2] => { results := [.lit (.bool false)], args := [d1, d2] }
  | _ => none }
def ArenaPartsWrongFalsely : Prop := arenaPartsRow.holds Try.pinned (OpenSpec.ofChange arenaPartsWrong)

/-- 'offshootlaw08.ArenaBack': WHATEVER THE INPUT: true; the input reads as it did. -/
def arenaBackSpec : ChangeSpec := { name := "arenaBack", fn := fun _ => fun
  | [d1, d2, d3] => { results := [.lit (.bool true)], args := [d1, d2, d3] }
  | _ => none }
def arenaBackRow : OpenClaim := { program := "ytnmgfobpcengkaa", sum := "e0bbe9610f89a7e93e20c96479bc2469fff0ce6e7b4aa1ed5217af9597abae75", func := "offshoot/offshootlaw08.ArenaBack", spec := "arenaBack", unfollowed := true, recurses := true, apart := false }
def ArenaBackSaid : Prop := arenaBackRow.holds Try.pinned (OpenSpec.ofChange arenaBackSpec)

/-- ITS FALSE NEIGHBOUR: 'it returns false'. Refute it at one input. -/
def arenaBackWrong : ChangeSpec := { name := "arenaBack", fn := fun _ => fun
  | [d1, d2, d3] => { results := [.lit (.bool false)], args := [d1, d2, d3] }
  | _ => none }
def ArenaBackWrongFalsely : Prop := arenaBackRow.holds Try.pinned (OpenSpec.ofChange arenaBackWrong)

/-- 'offshootlaw08.ArenaElse': WHATEVER THE INPUT: true; the input reads as it did. -/
def arenaElseSpec : ChangeSpec := { name := "arenaElse", fn := fun _ => fun
  | [d1, d2, d3, d4] => { results := [.lit (.bool true)], args := [d1, d2, d3, d4] }
  | _ => none }
def arenaElseRow : OpenClaim := { program := "ytnmgfobpcengkaa", sum := "e0bbe9610f89a7e93e20c96479bc2469fff0ce6e7b4aa1ed5217af9597abae75", func := "offshoot/offshootlaw08.ArenaElse", spec := "arenaElse", unfollowed := true, recurses := true, apart := false }
def ArenaElseSaid : Prop := arenaElseRow.holds Try.pinned (OpenSpec.ofChange arenaElseSpec)

/-- ITS FALSE NEIGHBOUR: 'it returns false'. Refute it at one input. -/
def arenaElseWrong : ChangeSpec := { name := "arenaElse", fn := fun _ => fun
  | [d1, d2, d3, d4] => { results := [.lit (.bool false)], args := [d1, d2, d3, d4] }
  | _ => none }
def ArenaElseWrongFalsely : Prop := arenaElseRow.holds Try.pinned (OpenSpec.ofChange arenaElseWrong)

/- THE SECOND FORM. 'bulk': how many values and letters a reading holds, each counted each time it is reached (what is shared counts as often as it is met; a slice's spare places count too). A statement '..UptoSaid' is the law's where the arguments, and the package variables that the reading takes, are together of bulk at most 1048576: NARROWER than '..Said'. Prove '..Said' where nothing that the law and all that it calls make is longer than what came in: it says more and counts as full. Else prove '..UptoSaid'. A law counts once. -/
mutual
def uptoBulk {H : Type} : DataW H → Nat
  | .lit (.string bytes) => bytes.length + 1
  | .lit _ => 1
  | .nil => 1
  | .ptr d => uptoBulk d + 1
  | .slice elems spare => uptoBulkAll elems + uptoBulkAll spare + 1
  | .agg parts => uptoBulkAll parts + 1
  | .iface _ d => uptoBulk d + 1
  | .map entries => uptoBulkEntries entries + 1
  | .held _ => 1
def uptoBulkAll {H : Type} : List (DataW H) → Nat
  | [] => 0
  | d :: r => uptoBulk d + uptoBulkAll r
def uptoBulkEntries {H : Type} : List (Lit × DataW H) → Nat
  | [] => 0
  | x :: r => uptoBulkEntry x + uptoBulkEntries r
def uptoBulkEntry {H : Type} : Lit × DataW H → Nat
  | (.string bytes, d) => bytes.length + uptoBulk d + 1
  | (_, d) => uptoBulk d + 1
 end
def uptoSmall : (H : Type) → List (DataW H) → Bool := fun _ ds => decide (uptoBulkAll ds ≤ 1048576)
def OpenSpec.upto (s : _root_.Go.ChangeSpec) : _root_.Go.OpenSpec := { _root_.Go.OpenSpec.ofChange s with cond := some uptoSmall }

/-- 'offshootlaw11.PathTells', WHERE WHAT IT READS IS OF BULK AT MOST 1048576: true; the input reads as it did. -/
def pathTellsUptoRow : OpenClaim := { program := "ytnmgfobpcengkaa", sum := "e0bbe9610f89a7e93e20c96479bc2469fff0ce6e7b4aa1ed5217af9597abae75", func := "offshoot/offshootlaw11.PathTells", spec := "pathTells", unfollowed := true, recurses := true, apart := false, narrowed := true }
def PathTellsUptoSaid : Prop := pathTellsUptoRow.holds Try.pinned (OpenSpec.upto pathTellsSpec)

/-- 'offshootlaw11.PathBack', WHERE WHAT IT READS IS OF BULK AT MOST 1048576: true; the input reads as it did. -/
def pathBackUptoRow : OpenClaim := { program := "ytnmgfobpcengkaa", sum := "e0bbe9610f89a7e93e20c96479bc2469fff0ce6e7b4aa1ed5217af9597abae75", func := "offshoot/offshootlaw11.PathBack", spec := "pathBack", unfollowed := true, recurses := true, apart := false, narrowed := true }
def PathBackUptoSaid : Prop := pathBackUptoRow.holds Try.pinned (OpenSpec.upto pathBackSpec)

/-- 'offshootlaw11.PathOrder', WHERE WHAT IT READS IS OF BULK AT MOST 1048576: true; the input reads as it did. -/
def pathOrderUptoRow : OpenClaim := { program := "ytnmgfobpcengkaa", sum := "e0bbe9610f89a7e93e20c96479bc2469fff0ce6e7b4aa1ed5217af9597abae75", func := "offshoot/offshootlaw11.PathOrder", spec := "pathOrder", unfollowed := true, recurses := true, apart := false, narrowed := true }
def PathOrderUptoSaid : Prop := pathOrderUptoRow.holds Try.pinned (OpenSpec.upto pathOrderSpec)

/-- 'offshootlaw11.PathCompares', WHERE WHAT IT READS IS OF BULK AT MOST 1048576: true; the input reads as it did. -/
def pathComparesUptoRow : OpenClaim := { program := "ytnmgfobpcengkaa", sum := "e0bbe9610f89a7e93e20c96479bc2469fff0ce6e7b4aa1ed5217af9597abae75", func := "offshoot/offshootlaw11.PathCompares", spec := "pathCompares", unfollowed := true, recurses := true, apart := false, narrowed := true }
def PathComparesUptoSaid : Prop := pathComparesUptoRow.holds Try.pinned (OpenSpec.upto pathComparesSpec)

/-- 'offshootlaw11.PathKids', WHERE WHAT IT READS IS OF BULK AT MOST 1048576: true; the input reads as it did. -/
def pathKidsUptoRow : OpenClaim := { program := "ytnmgfobpcengkaa", sum := "e0bbe9610f89a7e93e20c96479bc2469fff0ce6e7b4aa1ed5217af9597abae75", func := "offshoot/offshootlaw11.PathKids", spec := "pathKids", unfollowed := true, recurses := true, apart := false, narrowed := true }
def PathKidsUptoSaid : Prop := pathKidsUptoRow.holds Try.pinned (OpenSpec.upto pathKidsSpec)

/-- 'offshootlaw08.ArenaChecks', WHERE WHAT IT READS IS OF BULK AT MOST 1048576: true; the input reads as it did. -/
def arenaChecksUptoRow : OpenClaim := { program := "ytnmgfobpcengkaa", sum := "e0bbe9610f89a7e93e20c96479bc2469fff0ce6e7b4aa1ed5217af9597abae75", func := "offshoot/offshootlaw08.ArenaChecks", spec := "arenaChecks", unfollowed := true, recurses := true, apart := false, narrowed := true }
def ArenaChecksUptoSaid : Prop := arenaChecksUptoRow.holds Try.pinned (OpenSpec.upto arenaChecksSpec)

/-- 'offshootlaw08.ArenaTells', WHERE WHAT IT READS IS OF BULK AT MOST 1048576: true; the input reads as it did. -/
def arenaTellsUptoRow : OpenClaim := { program := "ytnmgfobpcengkaa", sum := "e0bbe9610f89a7e93e20c96479bc2469fff0ce6e7b4aa1ed5217af9597abae75", func := "offshoot/offshootlaw08.ArenaTells", spec := "arenaTells", unfollowed := true, recurses := true, apart := false, narrowed := true }
def ArenaTellsUptoSaid : Prop := arenaTellsUptoRow.holds Try.pinned (OpenSpec.upto arenaTellsSpec)

/-- 'offshootlaw08.ArenaParts', WHERE WHAT IT READS IS OF BULK AT MOST 1048576: true; the input reads as it did. -/
def arenaPartsUptoRow : OpenClaim := { program := "ytnmgfobpcengkaa", sum := "e0bbe9610f89a7e93e20c96479bc2469fff0ce6e7b4aa1ed5217af9597abae75", func := "offshoot/offshootlaw08.ArenaParts", spec := "arenaParts", unfollowed := true, recurses := true, apart := false, narrowed := true }
def ArenaPartsUptoSaid : Prop := arenaPartsUptoRow.holds Try.pinned (OpenSpec.upto arenaPartsSpec)

/-- 'offshootlaw08.ArenaBack', WHERE WHAT IT READS IS OF BULK AT MOST 1048576: true; the input reads as it did. -/
def arenaBackUptoRow : OpenClaim := { program := "ytnmgfobpcengkaa", sum := "e0bbe9610f89a7e93e20c96479bc2469fff0ce6e7b4aa1ed5217af9597abae75", func := "offshoot/offshootlaw08.ArenaBack", spec := "arenaBack", unfollowed := true, recurses := true, apart := false, narrowed := true }
def ArenaBackUptoSaid : Prop := arenaBackUptoRow.holds Try.pinned (OpenSpec.upto arenaBackSpec)

/-- 'offshootlaw08.ArenaElse', WHERE WHAT IT READS IS OF BULK AT MOST 1048576: true; the input reads as it did. -/
def arenaElseUptoRow : OpenClaim := { program := "ytnmgfobpcengkaa", sum := "e0bbe9610f89a7e93e20c96479bc2469fff0ce6e7b4aa1ed5217af9597abae75", func := "offshoot/offshootlaw08.ArenaElse", spec := "arenaElse", unfollowed := true, recurses := true, apart := false, narrowed := true }
def ArenaElseUptoSaid : Prop := arenaElseUptoRow.holds Try.pinned (OpenSpec.upto arenaElseSpec)

end Rows
end Go.Proofs.Ytnmgfobpcengkaa
