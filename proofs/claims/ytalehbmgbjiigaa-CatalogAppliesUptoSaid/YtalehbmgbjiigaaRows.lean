/-
  No cell of these rows narrows 'for every input' (looked for: loops, veiled, ifaces, maps, wideKeys, modest, calm, conditions, laid).
  DERIVED. THE GIVEN ROWS OF THIS SEAT. 12 by the template 'for every input the law returns true; each argument reads behind the call as it read before'; 0 by the template 'total and deterministic' (their statements: YtalehbmgbjiigaaTotals.lean).
  GIVEN WITH THE SEED: the statements are not yours to turn. If you find one false, say at which input.
  Laid BY PROGRAM, IN A SANDBOX (cutbox-rows.mjs): the forced cells as the released guide's own fill.sh prints them over the translation d3601c9d385f185c… (all of the seat's roots in one cut). By AI agents, Wed Nov 11 2026. No macro, syntax, notation, axiom, sorry.
-/
import Derived.Test.YtalehbmgbjiigaaChecked
import GoSem.Claim
import GoSem.ClaimJoined
import GoSem.ClaimMapViews
import Derived.JoinedTies
import Derived.KernelRfl
namespace Go.Proofs.Ytalehbmgbjiigaa
/- THE CELL 'sum', in the pinned program and in every row, IS THE sha256 OF THE DUMP (.gsa) THAT YtalehbmgbjiigaaProg.lean LOADS. Nothing in Lean hashes anything: it is a label: what it is worth is what the hold of that sum in a sandbox is worth. -/
noncomputable def Try.pinned : Pinned := { name := "ytalehbmgbjiigaa", sum := "d3601c9d385f185c575affd9d47fc9e9d5f54d46698c95cdf6eb70d90aa59363", checked := Try.checked }
namespace Rows
def none {H : Type} : Left H := { results := [], args := [] }

/-- 'offshootlaw12.DeltaApplies': WHATEVER THE INPUT: true; the input reads as it did. -/
def deltaAppliesSpec : ChangeSpec := { name := "deltaApplies", fn := fun _ => fun
  | [d1, d2] => { results := [.lit (.bool true)], args := [d1, d2] }
  | _ => none }
def deltaAppliesRow : OpenClaim := { program := "ytalehbmgbjiigaa", sum := "d3601c9d385f185c575affd9d47fc9e9d5f54d46698c95cdf6eb70d90aa59363", func := "offshoot/offshootlaw12.DeltaApplies", spec := "deltaApplies", inPlace := ["slices.overlaps[offshoot/api.Node]"], unfollowed := true, recurses := true, apart := false }
def DeltaAppliesSaid : Prop := deltaAppliesRow.holds Try.pinned (OpenSpec.ofChange deltaAppliesSpec)

/-- ITS FALSE NEIGHBOUR: 'it returns false'. Refute it at one input. -/
def deltaAppliesWrong : ChangeSpec := { name := "deltaApplies", fn := fun _ => fun
  | [d1, d2] => { results := [.lit (.bool false)], args := [d1, d2] }
  | _ => none }
def DeltaAppliesWrongFalsely : Prop := deltaAppliesRow.holds Try.pinned (OpenSpec.ofChange deltaAppliesWrong)

/-- 'offshootlaw12.DeltaBytes': WHATEVER THE INPUT: true; the input reads as it did. -/
def deltaBytesSpec : ChangeSpec := { name := "deltaBytes", fn := fun _ => fun
  | [d1, d2] => { results := [.lit (.bool true)], args := [d1, d2] }
  | _ => none }
def deltaBytesRow : OpenClaim := { program := "ytalehbmgbjiigaa", sum := "d3601c9d385f185c575affd9d47fc9e9d5f54d46698c95cdf6eb70d90aa59363", func := "offshoot/offshootlaw12.DeltaBytes", spec := "deltaBytes", inPlace := ["slices.overlaps[offshoot/api.Node]"], unfollowed := true, recurses := true, apart := false }
def DeltaBytesSaid : Prop := deltaBytesRow.holds Try.pinned (OpenSpec.ofChange deltaBytesSpec)

/-- ITS FALSE NEIGHBOUR: 'it returns false'. Refute it at one input. -/
def deltaBytesWrong : ChangeSpec := { name := "deltaBytes", fn := fun _ => fun
  | [d1, d2] => { results := [.lit (.bool false)], args := [d1, d2] }
  | _ => none }
def DeltaBytesWrongFalsely : Prop := deltaBytesRow.holds Try.pinned (OpenSpec.ofChange deltaBytesWrong)

/-- 'offshootlaw12.DeltaBack': WHATEVER THE INPUT: true; the input reads as it did. -/
def deltaBackSpec : ChangeSpec := { name := "deltaBack", fn := fun _ => fun
  | [d1, d2] => { results := [.lit (.bool true)], args := [d1, d2] }
  | _ => none }
def deltaBackRow : OpenClaim := { program := "ytalehbmgbjiigaa", sum := "d3601c9d385f185c575affd9d47fc9e9d5f54d46698c95cdf6eb70d90aa59363", func := "offshoot/offshootlaw12.DeltaBack", spec := "deltaBack", inPlace := ["slices.overlaps[offshoot/api.Node]"], unfollowed := true, recurses := true, apart := false }
def DeltaBackSaid : Prop := deltaBackRow.holds Try.pinned (OpenSpec.ofChange deltaBackSpec)

/-- ITS FALSE NEIGHBOUR: 'it returns false'. Refute it at one input. -/
def deltaBackWrong : ChangeSpec := { name := "deltaBack", fn := fun _ => fun
  | [d1, d2] => { results := [.lit (.bool false)], args := [d1, d2] }
  | _ => none }
def DeltaBackWrongFalsely : Prop := deltaBackRow.holds Try.pinned (OpenSpec.ofChange deltaBackWrong)

/-- 'offshootlaw12.DeltaElse': WHATEVER THE INPUT: true; the input reads as it did. -/
def deltaElseSpec : ChangeSpec := { name := "deltaElse", fn := fun _ => fun
  | [d1, d2, d3] => { results := [.lit (.bool true)], args := [d1, d2, d3] }
  | _ => none }
def deltaElseRow : OpenClaim := { program := "ytalehbmgbjiigaa", sum := "d3601c9d385f185c575affd9d47fc9e9d5f54d46698c95cdf6eb70d90aa59363", func := "offshoot/offshootlaw12.DeltaElse", spec := "deltaElse", inPlace := ["slices.overlaps[offshoot/api.Node]"], unfollowed := true, recurses := true, apart := false }
def DeltaElseSaid : Prop := deltaElseRow.holds Try.pinned (OpenSpec.ofChange deltaElseSpec)

/-- ITS FALSE NEIGHBOUR: 'it returns false'. Refute it at one input. -/
def deltaElseWrong : ChangeSpec := { name := "deltaElse", fn := fun _ => fun
  | [d1, d2, d3] => { results := [.lit (.bool false)], args := [d1, d2, d3] }
  | _ => none }
def DeltaElseWrongFalsely : Prop := deltaElseRow.holds Try.pinned (OpenSpec.ofChange deltaElseWrong)

/-- 'offshootlaw12.DeltaOrder': WHATEVER THE INPUT: true; the input reads as it did. -/
def deltaOrderSpec : ChangeSpec := { name := "deltaOrder", fn := fun _ => fun
  | [d1, d2, d3] => { results := [.lit (.bool true)], args := [d1, d2, d3] }
  | _ => none }
def deltaOrderRow : OpenClaim := { program := "ytalehbmgbjiigaa", sum := "d3601c9d385f185c575affd9d47fc9e9d5f54d46698c95cdf6eb70d90aa59363", func := "offshoot/offshootlaw12.DeltaOrder", spec := "deltaOrder", inPlace := ["slices.overlaps[offshoot/api.Node]"], unfollowed := true, recurses := true, apart := false }
def DeltaOrderSaid : Prop := deltaOrderRow.holds Try.pinned (OpenSpec.ofChange deltaOrderSpec)

/-- ITS FALSE NEIGHBOUR: 'it returns false'. Refute it at one input. -/
def deltaOrderWrong : ChangeSpec := { name := "deltaOrder", fn := fun _ => fun
  | [d1, d2, d3] => { results := [.lit (.bool false)], args := [d1, d2, d3] }
  | _ => none }
def DeltaOrderWrongFalsely : Prop := deltaOrderRow.holds Try.pinned (OpenSpec.ofChange deltaOrderWrong)

/-- 'offshootlaw12.DeltaTwice': WHATEVER THE INPUT: true; the input reads as it did. -/
def deltaTwiceSpec : ChangeSpec := { name := "deltaTwice", fn := fun _ => fun
  | [d1, d2] => { results := [.lit (.bool true)], args := [d1, d2] }
  | _ => none }
def deltaTwiceRow : OpenClaim := { program := "ytalehbmgbjiigaa", sum := "d3601c9d385f185c575affd9d47fc9e9d5f54d46698c95cdf6eb70d90aa59363", func := "offshoot/offshootlaw12.DeltaTwice", spec := "deltaTwice", inPlace := ["slices.overlaps[offshoot/api.Node]"], unfollowed := true, recurses := true, apart := false }
def DeltaTwiceSaid : Prop := deltaTwiceRow.holds Try.pinned (OpenSpec.ofChange deltaTwiceSpec)

/-- ITS FALSE NEIGHBOUR: 'it returns false'. Refute it at one input. -/
def deltaTwiceWrong : ChangeSpec := { name := "deltaTwice", fn := fun _ => fun
  | [d1, d2] => { results := [.lit (.bool false)], args := [d1, d2] }
  | _ => none }
def DeltaTwiceWrongFalsely : Prop := deltaTwiceRow.holds Try.pinned (OpenSpec.ofChange deltaTwiceWrong)

/-- 'offshootlaw13.CatalogTells': WHATEVER THE INPUT: true; the input reads as it did. -/
def catalogTellsSpec : ChangeSpec := { name := "catalogTells", fn := fun _ => fun
  | [d1, d2, d3, d4] => { results := [.lit (.bool true)], args := [d1, d2, d3, d4] }
  | _ => none }
def catalogTellsRow : OpenClaim := { program := "ytalehbmgbjiigaa", sum := "d3601c9d385f185c575affd9d47fc9e9d5f54d46698c95cdf6eb70d90aa59363", func := "offshoot/offshootlaw13.CatalogTells", spec := "catalogTells", unfollowed := true, recurses := true, apart := false }
def CatalogTellsSaid : Prop := catalogTellsRow.holds Try.pinned (OpenSpec.ofChange catalogTellsSpec)

/-- ITS FALSE NEIGHBOUR: 'it returns false'. Refute it at one input. -/
def catalogTellsWrong : ChangeSpec := { name := "catalogTells", fn := fun _ => fun
  | [d1, d2, d3, d4] => { results := [.lit (.bool false)], args := [d1, d2, d3, d4] }
  | _ => none }
def CatalogTellsWrongFalsely : Prop := catalogTellsRow.holds Try.pinned (OpenSpec.ofChange catalogTellsWrong)

/-- 'offshootlaw13.CatalogJust': WHATEVER THE INPUT: true; the input reads as it did. -/
def catalogJustSpec : ChangeSpec := { name := "catalogJust", fn := fun _ => fun
  | [d1, d2, d3, d4] => { results := [.lit (.bool true)], args := [d1, d2, d3, d4] }
  | _ => none }
def catalogJustRow : OpenClaim := { program := "ytalehbmgbjiigaa", sum := "d3601c9d385f185c575affd9d47fc9e9d5f54d46698c95cdf6eb70d90aa59363", func := "offshoot/offshootlaw13.CatalogJust", spec := "catalogJust", unfollowed := true, recurses := true, apart := false }
def CatalogJustSaid : Prop := catalogJustRow.holds Try.pinned (OpenSpec.ofChange catalogJustSpec)

/-- ITS FALSE NEIGHBOUR: 'it returns false'. Refute it at one input. -/
def catalogJustWrong : ChangeSpec := { name := "catalogJust", fn := fun _ => fun
  | [d1, d2, d3, d4] => { results := [.lit (.bool false)], args := [d1, d2, d3, d4] }
  | _ => none }
def CatalogJustWrongFalsely : Prop := catalogJustRow.holds Try.pinned (OpenSpec.ofChange catalogJustWrong)

/-- 'offshootlaw13.CatalogPart': WHATEVER THE INPUT: true; the input reads as it did. -/
def catalogPartSpec : ChangeSpec := { name := "catalogPart", fn := fun _ => fun
  | [d1, d2] => { results := [.lit (.bool true)], args := [d1, d2] }
  | _ => none }
def catalogPartRow : OpenClaim := { program := "ytalehbmgbjiigaa", sum := "d3601c9d385f185c575affd9d47fc9e9d5f54d46698c95cdf6eb70d90aa59363", func := "offshoot/offshootlaw13.CatalogPart", spec := "catalogPart", unfollowed := true, recurses := true, apart := false }
def CatalogPartSaid : Prop := catalogPartRow.holds Try.pinned (OpenSpec.ofChange catalogPartSpec)

/-- ITS FALSE NEIGHBOUR: 'it returns false'. Refute it at one input. -/
def catalogPartWrong : ChangeSpec := { name := "catalogPart", fn := fun _ => fun
  | [d1, d2] => { results := [.lit (.bool false)], args := [d1, d2] }
  | _ => none }
def CatalogPartWrongFalsely : Prop := catalogPartRow.holds Try.pinned (OpenSpec.ofChange catalogPartWrong)

/-- 'offshootlaw12.DeltaTyped': WHATEVER THE INPUT: true; the input reads as it did. -/
def deltaTypedSpec : ChangeSpec := { name := "deltaTyped", fn := fun _ => fun
  | [d1, d2] => { results := [.lit (.bool true)], args := [d1, d2] }
  | _ => none }
def deltaTypedRow : OpenClaim := { program := "ytalehbmgbjiigaa", sum := "d3601c9d385f185c575affd9d47fc9e9d5f54d46698c95cdf6eb70d90aa59363", func := "offshoot/offshootlaw12.DeltaTyped", spec := "deltaTyped", inPlace := ["slices.overlaps[offshoot/api.Node]"], unfollowed := true, recurses := true, apart := false }
def DeltaTypedSaid : Prop := deltaTypedRow.holds Try.pinned (OpenSpec.ofChange deltaTypedSpec)

/-- ITS FALSE NEIGHBOUR: 'it returns false'. Refute it at one input. -/
def deltaTypedWrong : ChangeSpec := { name := "deltaTyped", fn := fun _ => fun
  | [d1, d2] => { results := [.lit (.bool false)], args := [d1, d2] }
  | _ => none }
def DeltaTypedWrongFalsely : Prop := deltaTypedRow.holds Try.pinned (OpenSpec.ofChange deltaTypedWrong)

/-- 'offshootlaw13.CatalogBack': WHATEVER THE INPUT: true; the input reads as it did. -/
def catalogBackSpec : ChangeSpec := { name := "catalogBack", fn := fun _ => fun
  | [d1, d2, d3] => { results := [.lit (.bool true)], args := [d1, d2, d3] }
  | _ => none }
def catalogBackRow : OpenClaim := { program := "ytalehbmgbjiigaa", sum := "d3601c9d385f185c575affd9d47fc9e9d5f54d46698c95cdf6eb70d90aa59363", func := "offshoot/offshootlaw13.CatalogBack", spec := "catalogBack", inPlace := ["slices.overlaps[offshoot/api.Node]"], unfollowed := true, recurses := true, apart := false }
def CatalogBackSaid : Prop := catalogBackRow.holds Try.pinned (OpenSpec.ofChange catalogBackSpec)

/-- ITS FALSE NEIGHBOUR: 'it returns false'. Refute it at one input. -/
def catalogBackWrong : ChangeSpec := { name := "catalogBack", fn := fun _ => fun
  | [d1, d2, d3] => { results := [.lit (.bool false)], args := [d1, d2, d3] }
  | _ => none }
def CatalogBackWrongFalsely : Prop := catalogBackRow.holds Try.pinned (OpenSpec.ofChange catalogBackWrong)

/-- 'offshootlaw13.CatalogApplies': WHATEVER THE INPUT: true; the input reads as it did. -/
def catalogAppliesSpec : ChangeSpec := { name := "catalogApplies", fn := fun _ => fun
  | [d1, d2, d3] => { results := [.lit (.bool true)], args := [d1, d2, d3] }
  | _ => none }
def catalogAppliesRow : OpenClaim := { program := "ytalehbmgbjiigaa", sum := "d3601c9d385f185c575affd9d47fc9e9d5f54d46698c95cdf6eb70d90aa59363", func := "offshoot/offshootlaw13.CatalogApplies", spec := "catalogApplies", inPlace := ["slices.overlaps[offshoot/api.Node]"], unfollowed := true, recurses := true, apart := false }
def CatalogAppliesSaid : Prop := catalogAppliesRow.holds Try.pinned (OpenSpec.ofChange catalogAppliesSpec)

/-- ITS FALSE NEIGHBOUR: 'it returns false'. Refute it at one input. -/
def catalogAppliesWrong : ChangeSpec := { name := "catalogApplies", fn := fun _ => fun
  | [d1, d2, d3] => { results := [.lit (.bool false)], args := [d1, d2, d3] }
  | _ => none }
def CatalogAppliesWrongFalsely : Prop := catalogAppliesRow.holds Try.pinned (OpenSpec.ofChange catalogAppliesWrong)

/- THE SECOND FORM. 'bulk': how many values and letters a reading holds, each counted each time it is reached (what is shared counts as often as it is met; a slice's spare places count too). A statement '..UptoSaid' is the law's where the arguments, and the package variables that the reading takes, are together of bulk at most 1048576: NARROWER than '..Said'. Prove '..Said' where nothing that the law and all that it calls make is longer than what came in: it says more and counts as full. Else prove '..UptoSaid'. A law counts once. -/
mutual
def uptoBulk {H : Type} : DataW H → Nat
  | .lit (.string bytes) => bytes.length + 1
  | .lit _ => 1
  | .nil => 1
  | .ptr d => uptoBulk d + 1
  | .slice elems spare => uptoBulkAll elems + uptoBulkAll spare + 1
  | .agg parts => uptoBulkAll parts + 1
  | .iface _ d => uptoBulk d + 1
  | .map entries => uptoBulkEntries entries + 1
  | .held _ => 1
def uptoBulkAll {H : Type} : List (DataW H) → Nat
  | [] => 0
  | d :: r => uptoBulk d + uptoBulkAll r
def uptoBulkEntries {H : Type} : List (Lit × DataW H) → Nat
  | [] => 0
  | x :: r => uptoBulkEntry x + uptoBulkEntries r
def uptoBulkEntry {H : Type} : Lit × DataW H → Nat
  | (.string bytes, d) => bytes.length + uptoBulk d + 1
  | (_, d) => uptoBulk d + 1
 end
def uptoSmall : (H : Type) → List (DataW H) → Bool := fun _ ds => decide (uptoBulkAll ds ≤ 1048576)
def OpenSpec.upto (s : _root_.Go.ChangeSpec) : _root_.Go.OpenSpec := { _root_.Go.OpenSpec.ofChange s with cond := some uptoSmall }

/-- 'offshootlaw12.DeltaApplies', WHERE WHAT IT READS IS OF BULK AT MOST 1048576: true; the input reads as it did. -/
def deltaAppliesUptoRow : OpenClaim := { program := "ytalehbmgbjiigaa", sum := "d3601c9d385f185c575affd9d47fc9e9d5f54d46698c95cdf6eb70d90aa59363", func := "offshoot/offshootlaw12.DeltaApplies", spec := "deltaApplies", inPlace := ["slices.overlaps[offshoot/api.Node]"], unfollowed := true, recurses := true, apart := false, narrowed := true }
def DeltaAppliesUptoSaid : Prop := deltaAppliesUptoRow.holds Try.pinned (OpenSpec.upto deltaAppliesSpec)

/-- 'offshootlaw12.DeltaBytes', WHERE WHAT IT READS IS OF BULK AT MOST 1048576: true; the input reads as it did. -/
def deltaBytesUptoRow : OpenClaim := { program := "ytalehbmgbjiigaa", sum := "d3601c9d385f185c575affd9d47fc9e9d5f54d46698c95cdf6eb70d90aa59363", func := "offshoot/offshootlaw12.DeltaBytes", spec := "deltaBytes", inPlace := ["slices.overlaps[offshoot/api.Node]"], unfollowed := true, recurses := true, apart := false, narrowed := true }
def DeltaBytesUptoSaid : Prop := deltaBytesUptoRow.holds Try.pinned (OpenSpec.upto deltaBytesSpec)

/-- 'offshootlaw12.DeltaBack', WHERE WHAT IT READS IS OF BULK AT MOST 1048576: true; the input reads as it did. -/
def deltaBackUptoRow : OpenClaim := { program := "ytalehbmgbjiigaa", sum := "d3601c9d385f185c575affd9d47fc9e9d5f54d46698c95cdf6eb70d90aa59363", func := "offshoot/offshootlaw12.DeltaBack", spec := "deltaBack", inPlace := ["slices.overlaps[offshoot/api.Node]"], unfollowed := true, recurses := true, apart := false, narrowed := true }
def DeltaBackUptoSaid : Prop := deltaBackUptoRow.holds Try.pinned (OpenSpec.upto deltaBackSpec)

/-- 'offshootlaw12.DeltaElse', WHERE WHAT IT READS IS OF BULK AT MOST 1048576: true; the input reads as it did. -/
def deltaElseUptoRow : OpenClaim := { program := "ytalehbmgbjiigaa", sum := "d3601c9d385f185c575affd9d47fc9e9d5f54d46698c95cdf6eb70d90aa59363", func := "offshoot/offshootlaw12.DeltaElse", spec := "deltaElse", inPlace := ["slices.overlaps[offshoot/api.Node]"], unfollowed := true, recurses := true, apart := false, narrowed := true }
def DeltaElseUptoSaid : Prop := deltaElseUptoRow.holds Try.pinned (OpenSpec.upto deltaElseSpec)

/-- 'offshootlaw12.DeltaOrder', WHERE WHAT IT READS IS OF BULK AT MOST 1048576: true; the input reads as it did. -/
def deltaOrderUptoRow : OpenClaim := { program := "ytalehbmgbjiigaa", sum := "d3601c9d385f185c575affd9d47fc9e9d5f54d46698c95cdf6eb70d90aa59363", func := "offshoot/offshootlaw12.DeltaOrder", spec := "deltaOrder", inPlace := ["slices.overlaps[offshoot/api.Node]"], unfollowed := true, recurses := true, apart := false, narrowed := true }
def DeltaOrderUptoSaid : Prop := deltaOrderUptoRow.holds Try.pinned (OpenSpec.upto deltaOrderSpec)

/-- 'offshootlaw12.DeltaTwice', WHERE WHAT IT READS IS OF BULK AT MOST 1048576: true; the input reads as it did. -/
def deltaTwiceUptoRow : OpenClaim := { program := "ytalehbmgbjiigaa", sum := "d3601c9d385f185c575affd9d47fc9e9d5f54d46698c95cdf6eb70d90aa59363", func := "offshoot/offshootlaw12.DeltaTwice", spec := "deltaTwice", inPlace := ["slices.overlaps[offshoot/api.Node]"], unfollowed := true, recurses := true, apart := false, narrowed := true }
def DeltaTwiceUptoSaid : Prop := deltaTwiceUptoRow.holds Try.pinned (OpenSpec.upto deltaTwiceSpec)

/-- 'offshootlaw13.CatalogTells', WHERE WHAT IT READS IS OF BULK AT MOST 1048576: true; the input reads as it did. -/
def catalogTellsUptoRow : OpenClaim := { program := "ytalehbmgbjiigaa", sum := "d3601c9d385f185c575affd9d47fc9e9d5f54d46698c95cdf6eb70d90aa59363", func := "offshoot/offshootlaw13.CatalogTells", spec := "catalogTells", unfollowed := true, recurses := true, apart := false, narrowed := true }
def CatalogTellsUptoSaid : Prop := catalogTellsUptoRow.holds Try.pinned (OpenSpec.upto catalogTellsSpec)

/-- 'offshootlaw13.CatalogJust', WHERE WHAT IT READS IS OF BULK AT MOST 1048576: true; the input reads as it did. -/
def catalogJustUptoRow : OpenClaim := { program := "ytalehbmgbjiigaa", sum := "d3601c9d385f185c575affd9d47fc9e9d5f54d46698c95cdf6eb70d90aa59363", func := "offshoot/offshootlaw13.CatalogJust", spec := "catalogJust", unfollowed := true, recurses := true, apart := false, narrowed := true }
def CatalogJustUptoSaid : Prop := catalogJustUptoRow.holds Try.pinned (OpenSpec.upto catalogJustSpec)

/-- 'offshootlaw13.CatalogPart', WHERE WHAT IT READS IS OF BULK AT MOST 1048576: true; the input reads as it did. -/
def catalogPartUptoRow : OpenClaim := { program := "ytalehbmgbjiigaa", sum := "d3601c9d385f185c575affd9d47fc9e9d5f54d46698c95cdf6eb70d90aa59363", func := "offshoot/offshootlaw13.CatalogPart", spec := "catalogPart", unfollowed := true, recurses := true, apart := false, narrowed := true }
def CatalogPartUptoSaid : Prop := catalogPartUptoRow.holds Try.pinned (OpenSpec.upto catalogPartSpec)

/-- 'offshootlaw12.DeltaTyped', WHERE WHAT IT READS IS OF BULK AT MOST 1048576: true; the input reads as it did. -/
def deltaTypedUptoRow : OpenClaim := { program := "ytalehbmgbjiigaa", sum := "d3601c9d385f185c575affd9d47fc9e9d5f54d46698c95cdf6eb70d90aa59363", func := "offshoot/offshootlaw12.DeltaTyped", spec := "deltaTyped", inPlace := ["slices.overlaps[offshoot/api.Node]"], unfollowed := true, recurses := true, apart := false, narrowed := true }
def DeltaTypedUptoSaid : Prop := deltaTypedUptoRow.holds Try.pinned (OpenSpec.upto deltaTypedSpec)

/-- 'offshootlaw13.CatalogBack', WHERE WHAT IT READS IS OF BULK AT MOST 1048576: true; the input reads as it did. -/
def catalogBackUptoRow : OpenClaim := { program := "ytalehbmgbjiigaa", sum := "d3601c9d385f185c575affd9d47fc9e9d5f54d46698c95cdf6eb70d90aa59363", func := "offshoot/offshootlaw13.CatalogBack", spec := "catalogBack", inPlace := ["slices.overlaps[offshoot/api.Node]"], unfollowed := true, recurses := true, apart := false, narrowed := true }
def CatalogBackUptoSaid : Prop := catalogBackUptoRow.holds Try.pinned (OpenSpec.upto catalogBackSpec)

/-- 'offshootlaw13.CatalogApplies', WHERE WHAT IT READS IS OF BULK AT MOST 1048576: true; the input reads as it did. -/
def catalogAppliesUptoRow : OpenClaim := { program := "ytalehbmgbjiigaa", sum := "d3601c9d385f185c575affd9d47fc9e9d5f54d46698c95cdf6eb70d90aa59363", func := "offshoot/offshootlaw13.CatalogApplies", spec := "catalogApplies", inPlace := ["slices.overlaps[offshoot/api.Node]"], unfollowed := true, recurses := true, apart := false, narrowed := true }
def CatalogAppliesUptoSaid : Prop := catalogAppliesUptoRow.holds Try.pinned (OpenSpec.upto catalogAppliesSpec)

end Rows
end Go.Proofs.Ytalehbmgbjiigaa
