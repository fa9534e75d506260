/-
  No cell of these rows narrows 'for every input' (looked for: loops, veiled, ifaces, maps, wideKeys, modest, calm, conditions, laid).
  DERIVED. THE GIVEN ROWS OF THIS SEAT. 12 by the template 'for every input the law returns true; each argument reads behind the call as it read before'; 0 by the template 'total and deterministic' (their statements: YtbnmkdlmalobaaaTotals.lean).
  GIVEN WITH THE SEED: the statements are not yours to turn. If you find one false, say at which input.
  Laid BY PROGRAM, IN A SANDBOX (cutbox-rows.mjs): the forced cells as the released guide's own fill.sh prints them over the translation c1cd6a69eec6e384… (all of the seat's roots in one cut). By AI agents, Wed Nov 11 2026. No macro, syntax, notation, axiom, sorry.
-/
import Derived.Test.YtbnmkdlmalobaaaChecked
import GoSem.Claim
import GoSem.ClaimJoined
import GoSem.ClaimMapViews
import Derived.JoinedTies
import Derived.KernelRfl
namespace Go.Proofs.Ytbnmkdlmalobaaa
/- THE CELL 'sum', in the pinned program and in every row, IS THE sha256 OF THE DUMP (.gsa) THAT YtbnmkdlmalobaaaProg.lean LOADS. Nothing in Lean hashes anything: it is a label: what it is worth is what the hold of that sum in a sandbox is worth. -/
noncomputable def Try.pinned : Pinned := { name := "ytbnmkdlmalobaaa", sum := "c1cd6a69eec6e384256e6111ef38cff0611568a2fea8bb57ec0b7be69f75c8a9", checked := Try.checked }
namespace Rows
def none {H : Type} : Left H := { results := [], args := [] }

/-- 'offshootlaw09.KindsChecks': WHATEVER THE INPUT: true; the input reads as it did. -/
def kindsChecksSpec : ChangeSpec := { name := "kindsChecks", fn := fun _ => fun
  | [d1, d2, d3] => { results := [.lit (.bool true)], args := [d1, d2, d3] }
  | _ => none }
def kindsChecksRow : OpenClaim := { program := "ytbnmkdlmalobaaa", sum := "c1cd6a69eec6e384256e6111ef38cff0611568a2fea8bb57ec0b7be69f75c8a9", func := "offshoot/offshootlaw09.KindsChecks", spec := "kindsChecks", unfollowed := true, recurses := true, apart := false }
def KindsChecksSaid : Prop := kindsChecksRow.holds Try.pinned (OpenSpec.ofChange kindsChecksSpec)

/-- ITS FALSE NEIGHBOUR: 'it returns false'. Refute it at one input. -/
def kindsChecksWrong : ChangeSpec := { name := "kindsChecks", fn := fun _ => fun
  | [d1, d2, d3] => { results := [.lit (.bool false)], args := [d1, d2, d3] }
  | _ => none }
def KindsChecksWrongFalsely : Prop := kindsChecksRow.holds Try.pinned (OpenSpec.ofChange kindsChecksWrong)

/-- 'offshootlaw09.KindsOf': WHATEVER THE INPUT: true; the input reads as it did. -/
def kindsOfSpec : ChangeSpec := { name := "kindsOf", fn := fun _ => fun
  | [d1, d2] => { results := [.lit (.bool true)], args := [d1, d2] }
  | _ => none }
def kindsOfRow : OpenClaim := { program := "ytbnmkdlmalobaaa", sum := "c1cd6a69eec6e384256e6111ef38cff0611568a2fea8bb57ec0b7be69f75c8a9", func := "offshoot/offshootlaw09.KindsOf", spec := "kindsOf", unfollowed := true, recurses := true, apart := false }
def KindsOfSaid : Prop := kindsOfRow.holds Try.pinned (OpenSpec.ofChange kindsOfSpec)

/-- ITS FALSE NEIGHBOUR: 'it returns false'. Refute it at one input. -/
def kindsOfWrong : ChangeSpec := { name := "kindsOf", fn := fun _ => fun
  | [d1, d2] => { results := [.lit (.bool false)], args := [d1, d2] }
  | _ => none }
def KindsOfWrongFalsely : Prop := kindsOfRow.holds Try.pinned (OpenSpec.ofChange kindsOfWrong)

/-- 'offshootlaw09.KindsVars': WHATEVER THE INPUT: true; the input reads as it did. -/
def kindsVarsSpec : ChangeSpec := { name := "kindsVars", fn := fun _ => fun
  | [d1, d2] => { results := [.lit (.bool true)], args := [d1, d2] }
  | _ => none }
def kindsVarsRow : OpenClaim := { program := "ytbnmkdlmalobaaa", sum := "c1cd6a69eec6e384256e6111ef38cff0611568a2fea8bb57ec0b7be69f75c8a9", func := "offshoot/offshootlaw09.KindsVars", spec := "kindsVars", unfollowed := true, recurses := true, apart := false }
def KindsVarsSaid : Prop := kindsVarsRow.holds Try.pinned (OpenSpec.ofChange kindsVarsSpec)

/-- ITS FALSE NEIGHBOUR: 'it returns false'. Refute it at one input. -/
def kindsVarsWrong : ChangeSpec := { name := "kindsVars", fn := fun _ => fun
  | [d1, d2] => { results := [.lit (.bool false)], args := [d1, d2] }
  | _ => none }
def KindsVarsWrongFalsely : Prop := kindsVarsRow.holds Try.pinned (OpenSpec.ofChange kindsVarsWrong)

/-- 'offshootlaw09.KindsBelow': WHATEVER THE INPUT: true; the input reads as it did. -/
def kindsBelowSpec : ChangeSpec := { name := "kindsBelow", fn := fun _ => fun
  | [d1, d2] => { results := [.lit (.bool true)], args := [d1, d2] }
  | _ => none }
def kindsBelowRow : OpenClaim := { program := "ytbnmkdlmalobaaa", sum := "c1cd6a69eec6e384256e6111ef38cff0611568a2fea8bb57ec0b7be69f75c8a9", func := "offshoot/offshootlaw09.KindsBelow", spec := "kindsBelow", unfollowed := true, recurses := true, apart := false }
def KindsBelowSaid : Prop := kindsBelowRow.holds Try.pinned (OpenSpec.ofChange kindsBelowSpec)

/-- ITS FALSE NEIGHBOUR: 'it returns false'. Refute it at one input. -/
def kindsBelowWrong : ChangeSpec := { name := "kindsBelow", fn := fun _ => fun
  | [d1, d2] => { results := [.lit (.bool false)], args := [d1, d2] }
  | _ => none }
def KindsBelowWrongFalsely : Prop := kindsBelowRow.holds Try.pinned (OpenSpec.ofChange kindsBelowWrong)

/-- 'offshootlaw09.KindsReplaced': WHATEVER THE INPUT: true; the input reads as it did. -/
def kindsReplacedSpec : ChangeSpec := { name := "kindsReplaced", fn := fun _ => fun
  | [d1, d2, d3] => { results := [.lit (.bool true)], args := [d1, d2, d3] }
  | _ => none }
def kindsReplacedRow : OpenClaim := { program := "ytbnmkdlmalobaaa", sum := "c1cd6a69eec6e384256e6111ef38cff0611568a2fea8bb57ec0b7be69f75c8a9", func := "offshoot/offshootlaw09.KindsReplaced", spec := "kindsReplaced", unfollowed := true, recurses := true, apart := false }
def KindsReplacedSaid : Prop := kindsReplacedRow.holds Try.pinned (OpenSpec.ofChange kindsReplacedSpec)

/-- ITS FALSE NEIGHBOUR: 'it returns false'. Refute it at one input. -/
def kindsReplacedWrong : ChangeSpec := { name := "kindsReplaced", fn := fun _ => fun
  | [d1, d2, d3] => { results := [.lit (.bool false)], args := [d1, d2, d3] }
  | _ => none }
def KindsReplacedWrongFalsely : Prop := kindsReplacedRow.holds Try.pinned (OpenSpec.ofChange kindsReplacedWrong)

/-- 'offshootlaw09.KindsPart': WHATEVER THE INPUT: true; the input reads as it did. -/
def kindsPartSpec : ChangeSpec := { name := "kindsPart", fn := fun _ => fun
  | [d1, d2] => { results := [.lit (.bool true)], args := [d1, d2] }
  | _ => none }
def kindsPartRow : OpenClaim := { program := "ytbnmkdlmalobaaa", sum := "c1cd6a69eec6e384256e6111ef38cff0611568a2fea8bb57ec0b7be69f75c8a9", func := "offshoot/offshootlaw09.KindsPart", spec := "kindsPart", unfollowed := true, recurses := true, apart := false }
def KindsPartSaid : Prop := kindsPartRow.holds Try.pinned (OpenSpec.ofChange kindsPartSpec)

/-- ITS FALSE NEIGHBOUR: 'it returns false'. Refute it at one input. -/
def kindsPartWrong : ChangeSpec := { name := "kindsPart", fn := fun _ => fun
  | [d1, d2] => { results := [.lit (.bool false)], args := [d1, d2] }
  | _ => none }
def KindsPartWrongFalsely : Prop := kindsPartRow.holds Try.pinned (OpenSpec.ofChange kindsPartWrong)

/-- 'offshootlaw10.CodePuts': WHATEVER THE INPUT: true; the input reads as it did. -/
def codePutsSpec : ChangeSpec := { name := "codePuts", fn := fun _ => fun
  | [d] => { results := [.lit (.bool true)], args := [d] }
  | _ => none }
def codePutsRow : OpenClaim := { program := "ytbnmkdlmalobaaa", sum := "c1cd6a69eec6e384256e6111ef38cff0611568a2fea8bb57ec0b7be69f75c8a9", func := "offshoot/offshootlaw10.CodePuts", spec := "codePuts", unfollowed := true, recurses := true, apart := false }
def CodePutsSaid : Prop := codePutsRow.holds Try.pinned (OpenSpec.ofChange codePutsSpec)

/-- ITS FALSE NEIGHBOUR: 'it returns false'. Refute it at one input. -/
def codePutsWrong : ChangeSpec := { name := "codePuts", fn := fun _ => fun
  | [d] => { results := [.lit (.bool false)], args := [d] }
  | _ => none }
def CodePutsWrongFalsely : Prop := codePutsRow.holds Try.pinned (OpenSpec.ofChange codePutsWrong)

/-- 'offshootlaw10.CodeGets': WHATEVER THE INPUT: true; the input reads as it did. -/
def codeGetsSpec : ChangeSpec := { name := "codeGets", fn := fun _ => fun
  | [d] => { results := [.lit (.bool true)], args := [d] }
  | _ => none }
def codeGetsRow : OpenClaim := { program := "ytbnmkdlmalobaaa", sum := "c1cd6a69eec6e384256e6111ef38cff0611568a2fea8bb57ec0b7be69f75c8a9", func := "offshoot/offshootlaw10.CodeGets", spec := "codeGets", unfollowed := true, recurses := true, apart := false }
def CodeGetsSaid : Prop := codeGetsRow.holds Try.pinned (OpenSpec.ofChange codeGetsSpec)

/-- ITS FALSE NEIGHBOUR: 'it returns false'. Refute it at one input. -/
def codeGetsWrong : ChangeSpec := { name := "codeGets", fn := fun _ => fun
  | [d] => { results := [.lit (.bool false)], args := [d] }
  | _ => none }
def CodeGetsWrongFalsely : Prop := codeGetsRow.holds Try.pinned (OpenSpec.ofChange codeGetsWrong)

/-- 'offshootlaw10.CodeBack': WHATEVER THE INPUT: true; the input reads as it did. -/
def codeBackSpec : ChangeSpec := { name := "codeBack", fn := fun _ => fun
  | [d] => { results := [.lit (.bool true)], args := [d] }
  | _ => none }
def codeBackRow : OpenClaim := { program := "ytbnmkdlmalobaaa", sum := "c1cd6a69eec6e384256e6111ef38cff0611568a2fea8bb57ec0b7be69f75c8a9", func := "offshoot/offshootlaw10.CodeBack", spec := "codeBack", unfollowed := true, recurses := true, apart := false }
def CodeBackSaid : Prop := codeBackRow.holds Try.pinned (OpenSpec.ofChange codeBackSpec)

/-- ITS FALSE NEIGHBOUR: 'it returns false'. Refute it at one input. -/
def codeBackWrong : ChangeSpec := { name := "codeBack", fn := fun _ => fun
  | [d] => { results := [.lit (.bool false)], args := [d] }
  | _ => none }
def CodeBackWrongFalsely : Prop := codeBackRow.holds Try.pinned (OpenSpec.ofChange codeBackWrong)

/-- 'offshootlaw10.CodeOnly': WHATEVER THE INPUT: true; the input reads as it did. -/
def codeOnlySpec : ChangeSpec := { name := "codeOnly", fn := fun _ => fun
  | [d] => { results := [.lit (.bool true)], args := [d] }
  | _ => none }
def codeOnlyRow : OpenClaim := { program := "ytbnmkdlmalobaaa", sum := "c1cd6a69eec6e384256e6111ef38cff0611568a2fea8bb57ec0b7be69f75c8a9", func := "offshoot/offshootlaw10.CodeOnly", spec := "codeOnly", unfollowed := true, recurses := true, apart := false }
def CodeOnlySaid : Prop := codeOnlyRow.holds Try.pinned (OpenSpec.ofChange codeOnlySpec)

/-- ITS FALSE NEIGHBOUR: 'it returns false'. Refute it at one input. -/
def codeOnlyWrong : ChangeSpec := { name := "codeOnly", fn := fun _ => fun
  | [d] => { results := [.lit (.bool false)], args := [d] }
  | _ => none }
def CodeOnlyWrongFalsely : Prop := codeOnlyRow.holds Try.pinned (OpenSpec.ofChange codeOnlyWrong)

/-- 'offshootlaw10.CodeCut': WHATEVER THE INPUT: true; the input reads as it did. -/
def codeCutSpec : ChangeSpec := { name := "codeCut", fn := fun _ => fun
  | [d1, d2, d3] => { results := [.lit (.bool true)], args := [d1, d2, d3] }
  | _ => none }
def codeCutRow : OpenClaim := { program := "ytbnmkdlmalobaaa", sum := "c1cd6a69eec6e384256e6111ef38cff0611568a2fea8bb57ec0b7be69f75c8a9", func := "offshoot/offshootlaw10.CodeCut", spec := "codeCut", unfollowed := true, recurses := true, apart := false }
def CodeCutSaid : Prop := codeCutRow.holds Try.pinned (OpenSpec.ofChange codeCutSpec)

/-- ITS FALSE NEIGHBOUR: 'it returns false'. Refute it at one input. -/
def codeCutWrong : ChangeSpec := { name := "codeCut", fn := fun _ => fun
  | [d1, d2, d3] => { results := [.lit (.bool false)], args := [d1, d2, d3] }
  | _ => none }
def CodeCutWrongFalsely : Prop := codeCutRow.holds Try.pinned (OpenSpec.ofChange codeCutWrong)

/-- 'offshootlaw10.CodeApart': WHATEVER THE INPUT: true; the input reads as it did. -/
def codeApartSpec : ChangeSpec := { name := "codeApart", fn := fun _ => fun
  | [d1, d2] => { results := [.lit (.bool true)], args := [d1, d2] }
  | _ => none }
def codeApartRow : OpenClaim := { program := "ytbnmkdlmalobaaa", sum := "c1cd6a69eec6e384256e6111ef38cff0611568a2fea8bb57ec0b7be69f75c8a9", func := "offshoot/offshootlaw10.CodeApart", spec := "codeApart", unfollowed := true, recurses := true, apart := false }
def CodeApartSaid : Prop := codeApartRow.holds Try.pinned (OpenSpec.ofChange codeApartSpec)

/-- ITS FALSE NEIGHBOUR: 'it returns false'. Refute it at one input. -/
def codeApartWrong : ChangeSpec := { name := "codeApart", fn := fun _ => fun
  | [d1, d2] => { results := [.lit (.bool false)], args := [d1, d2] }
  | _ => none }
def CodeApartWrongFalsely : Prop := codeApartRow.holds Try.pinned (OpenSpec.ofChange codeApartWrong)

/- THE SECOND FORM. 'bulk': how many values and letters a reading holds, each counted each time it is reached (what is shared counts as often as it is met; a slice's spare places count too). A statement '..UptoSaid' is the law's where the arguments, and the package variables that the reading takes, are together of bulk at most 1048576: NARROWER than '..Said'. Prove '..Said' where nothing that the law and all that it calls make is longer than what came in: it says more and counts as full. Else prove '..UptoSaid'. A law counts once. -/
mutual
def uptoBulk {H : Type} : DataW H → Nat
  | .lit (.string bytes) => bytes.length + 1
  | .lit _ => 1
  | .nil => 1
  | .ptr d => uptoBulk d + 1
  | .slice elems spare => uptoBulkAll elems + uptoBulkAll spare + 1
  | .agg parts => uptoBulkAll parts + 1
  | .iface _ d => uptoBulk d + 1
  | .map entries => uptoBulkEntries entries + 1
  | .held _ => 1
def uptoBulkAll {H : Type} : List (DataW H) → Nat
  | [] => 0
  | d :: r => uptoBulk d + uptoBulkAll r
def uptoBulkEntries {H : Type} : List (Lit × DataW H) → Nat
  | [] => 0
  | x :: r => uptoBulkEntry x + uptoBulkEntries r
def uptoBulkEntry {H : Type} : Lit × DataW H → Nat
  | (.string bytes, d) => bytes.length + uptoBulk d + 1
  | (_, d) => uptoBulk d + 1
 end
def uptoSmall : (H : Type) → List (DataW H) → Bool := fun _ ds => decide (uptoBulkAll ds ≤ 1048576)
def OpenSpec.upto (s : _root_.Go.ChangeSpec) : _root_.Go.OpenSpec := { _root_.Go.OpenSpec.ofChange s with cond := some uptoSmall }

/-- 'offshootlaw09.KindsChecks', WHERE WHAT IT READS IS OF BULK AT MOST 1048576: true; the input reads as it did. -/
def kindsChecksUptoRow : OpenClaim := { program := "ytbnmkdlmalobaaa", sum := "c1cd6a69eec6e384256e6111ef38cff0611568a2fea8bb57ec0b7be69f75c8a9", func := "offshoot/offshootlaw09.KindsChecks", spec := "kindsChecks", unfollowed := true, recurses := true, apart := false, narrowed := true }
def KindsChecksUptoSaid : Prop := kindsChecksUptoRow.holds Try.pinned (OpenSpec.upto kindsChecksSpec)

/-- 'offshootlaw09.KindsOf', WHERE WHAT IT READS IS OF BULK AT MOST 1048576: true; the input reads as it did. -/
def kindsOfUptoRow : OpenClaim := { program := "ytbnmkdlmalobaaa", sum := "c1cd6a69eec6e384256e6111ef38cff0611568a2fea8bb57ec0b7be69f75c8a9", func := "offshoot/offshootlaw09.KindsOf", spec := "kindsOf", unfollowed := true, recurses := true, apart := false, narrowed := true }
def KindsOfUptoSaid : Prop := kindsOfUptoRow.holds Try.pinned (OpenSpec.upto kindsOfSpec)

/-- 'offshootlaw09.KindsVars', WHERE WHAT IT READS IS OF BULK AT MOST 1048576: true; the input reads as it did. -/
def kindsVarsUptoRow : OpenClaim := { program := "ytbnmkdlmalobaaa", sum := "c1cd6a69eec6e384256e6111ef38cff0611568a2fea8bb57ec0b7be69f75c8a9", func := "offshoot/offshootlaw09.KindsVars", spec := "kindsVars", unfollowed := true, recurses := true, apart := false, narrowed := true }
def KindsVarsUptoSaid : Prop := kindsVarsUptoRow.holds Try.pinned (OpenSpec.upto kindsVarsSpec)

/-- 'offshootlaw09.KindsBelow', WHERE WHAT IT READS IS OF BULK AT MOST 1048576: true; the input reads as it did. -/
def kindsBelowUptoRow : OpenClaim := { program := "ytbnmkdlmalobaaa", sum := "c1cd6a69eec6e384256e6111ef38cff0611568a2fea8bb57ec0b7be69f75c8a9", func := "offshoot/offshootlaw09.KindsBelow", spec := "kindsBelow", unfollowed := true, recurses := true, apart := false, narrowed := true }
def KindsBelowUptoSaid : Prop := kindsBelowUptoRow.holds Try.pinned (OpenSpec.upto kindsBelowSpec)

/-- 'offshootlaw09.KindsReplaced', WHERE WHAT IT READS IS OF BULK AT MOST 1048576: true; the input reads as it did. -/
def kindsReplacedUptoRow : OpenClaim := { program := "ytbnmkdlmalobaaa", sum := "c1cd6a69eec6e384256e6111ef38cff0611568a2fea8bb57ec0b7be69f75c8a9", func := "offshoot/offshootlaw09.KindsReplaced", spec := "kindsReplaced", unfollowed := true, recurses := true, apart := false, narrowed := true }
def KindsReplacedUptoSaid : Prop := kindsReplacedUptoRow.holds Try.pinned (OpenSpec.upto kindsReplacedSpec)

/-- 'offshootlaw09.KindsPart', WHERE WHAT IT READS IS OF BULK AT MOST 1048576: true; the input reads as it did. -/
def kindsPartUptoRow : OpenClaim := { program := "ytbnmkdlmalobaaa", sum := "c1cd6a69eec6e384256e6111ef38cff0611568a2fea8bb57ec0b7be69f75c8a9", func := "offshoot/offshootlaw09.KindsPart", spec := "kindsPart", unfollowed := true, recurses := true, apart := false, narrowed := true }
def KindsPartUptoSaid : Prop := kindsPartUptoRow.holds Try.pinned (OpenSpec.upto kindsPartSpec)

/-- 'offshootlaw10.CodePuts', WHERE WHAT IT READS IS OF BULK AT MOST 1048576: true; the input reads as it did. -/
def codePutsUptoRow : OpenClaim := { program := "ytbnmkdlmalobaaa", sum := "c1cd6a69eec6e384256e6111ef38cff0611568a2fea8bb57ec0b7be69f75c8a9", func := "offshoot/offshootlaw10.CodePuts", spec := "codePuts", unfollowed := true, recurses := true, apart := false, narrowed := true }
def CodePutsUptoSaid : Prop := codePutsUptoRow.holds Try.pinned (OpenSpec.upto codePutsSpec)

/-- 'offshootlaw10.CodeGets', WHERE WHAT IT READS IS OF BULK AT MOST 1048576: true; the input reads as it did. -/
def codeGetsUptoRow : OpenClaim := { program := "ytbnmkdlmalobaaa", sum := "c1cd6a69eec6e384256e6111ef38cff0611568a2fea8bb57ec0b7be69f75c8a9", func := "offshoot/offshootlaw10.CodeGets", spec := "codeGets", unfollowed := true, recurses := true, apart := false, narrowed := true }
def CodeGetsUptoSaid : Prop := codeGetsUptoRow.holds Try.pinned (OpenSpec.upto codeGetsSpec)

/-- 'offshootlaw10.CodeBack', WHERE WHAT IT READS IS OF BULK AT MOST 1048576: true; the input reads as it did. -/
def codeBackUptoRow : OpenClaim := { program := "ytbnmkdlmalobaaa", sum := "c1cd6a69eec6e384256e6111ef38cff0611568a2fea8bb57ec0b7be69f75c8a9", func := "offshoot/offshootlaw10.CodeBack", spec := "codeBack", unfollowed := true, recurses := true, apart := false, narrowed := true }
def CodeBackUptoSaid : Prop := codeBackUptoRow.holds Try.pinned (OpenSpec.upto codeBackSpec)

/-- 'offshootlaw10.CodeOnly', WHERE WHAT IT READS IS OF BULK AT MOST 1048576: true; the input reads as it did. -/
def codeOnlyUptoRow : OpenClaim := { program := "ytbnmkdlmalobaaa", sum := "c1cd6a69eec6e384256e6111ef38cff0611568a2fea8bb57ec0b7be69f75c8a9", func := "offshoot/offshootlaw10.CodeOnly", spec := "codeOnly", unfollowed := true, recurses := true, apart := false, narrowed := true }
def CodeOnlyUptoSaid : Prop := codeOnlyUptoRow.holds Try.pinned (OpenSpec.upto codeOnlySpec)

/-- 'offshootlaw10.CodeCut', WHERE WHAT IT READS IS OF BULK AT MOST 1048576: true; the input reads as it did. -/
def codeCutUptoRow : OpenClaim := { program := "ytbnmkdlmalobaaa", sum := "c1cd6a69eec6e384256e6111ef38cff0611568a2fea8bb57ec0b7be69f75c8a9", func := "offshoot/offshootlaw10.CodeCut", spec := "codeCut", unfollowed := true, recurses := true, apart := false, narrowed := true }
def CodeCutUptoSaid : Prop := codeCutUptoRow.holds Try.pinned (OpenSpec.upto codeCutSpec)

/-- 'offshootlaw10.CodeApart', WHERE WHAT IT READS IS OF BULK AT MOST 1048576: true; the input reads as it did. -/
def codeApartUptoRow : OpenClaim := { program := "ytbnmkdlmalobaaa", sum := "c1cd6a69eec6e384256e6111ef38cff0611568a2fea8bb57ec0b7be69f75c8a9", func := "offshoot/offshootlaw10.CodeApart", spec := "codeApart", unfollowed := true, recurses := true, apart := false, narrowed := true }
def CodeApartUptoSaid : Prop := codeApartUptoRow.holds Try.pinned (OpenSpec.upto codeApartSpec)

end Rows
end Go.Proofs.Ytbnmkdlmalobaaa
