/-
  No cell of these rows narrows 'for every input' (looked for: loops, veiled, ifaces, maps, wideKeys, modest, calm, conditions, laid).
  DERIVED. THE GIVEN ROWS OF THIS SEAT. 7 by the template 'for every input the law returns true; each argument reads behind the call as it read before'; 0 by the template 'total and deterministic' (their statements: YtinnbafplhcnpaaGreatTotals.lean).
  GIVEN WITH THE SEED: the statements are not yours to turn. If you find one false, say at which input.
  Laid BY PROGRAM, IN A SANDBOX (cutbox-rows.mjs): the forced cells as the released guide's own fill.sh prints them over the translation f5d2bddb63daea2c… (all of the seat's roots in one cut). By AI agents, Wed Nov 11 2026. No macro, syntax, notation, axiom, sorry.
-/
import Derived.Test.YtinnbafplhcnpaaGreatChecked
import GoSem.Claim
import GoSem.ClaimJoined
import GoSem.ClaimMapViews
import Derived.JoinedTies
import Derived.KernelRfl
namespace Go.Proofs.YtinnbafplhcnpaaGreat
/- THE CELL 'sum', in the pinned program and in every row, IS THE sha256 OF THE DUMP (.gsa) THAT YtinnbafplhcnpaaGreatProg.lean LOADS. Nothing in Lean hashes anything: it is a label: what it is worth is what the hold of that sum in a sandbox is worth. -/
noncomputable def Tryz.pinned : Pinned := { name := "ytinnbafplhcnpaagreat", sum := "f5d2bddb63daea2c44fb4eabb0a78d4afeb582e18939a1d9a2008348c8fcb30a", checked := Tryz.checked }
namespace Rows
def none {H : Type} : Left H := { results := [], args := [] }

/-- 'offshootlaw14.SitesAll': WHATEVER THE INPUT: true; the input reads as it did. -/
def sitesAllSpec : ChangeSpec := { name := "sitesAll", fn := fun _ => fun
  | [d] => { results := [.lit (.bool true)], args := [d] }
  | _ => none }
def sitesAllRow : OpenClaim := { program := "ytinnbafplhcnpaagreat", sum := "f5d2bddb63daea2c44fb4eabb0a78d4afeb582e18939a1d9a2008348c8fcb30a", func := "offshoot/offshootlaw14.SitesAll", spec := "sitesAll", inPlace := ["sync/atomic.LoadUint32", "(*internal/sync.Mutex).Lock", "internal/race.Disable", "sync/atomic.CompareAndSwapInt32", "internal/race.Enable", "internal/race.Acquire", "(*internal/sync.Mutex).lockSlow", "internal/sync.runtime_canSpin", "internal/sync.runtime_doSpin", "internal/sync.throw", "internal/sync.runtime_nanotime", "internal/sync.runtime_SemacquireMutex", "sync/atomic.AddInt32", "(*internal/sync.Mutex).Unlock", "internal/race.ReleaseMerge", "(*internal/sync.Mutex).unlockSlow", "internal/sync.fatal", "internal/sync.runtime_Semrelease", "sync/atomic.StoreUint32", "slices.overlaps[offshoot/api.Node]"], unfollowed := true, recurses := true, apart := false }
def SitesAllSaid : Prop := sitesAllRow.holds Tryz.pinned (OpenSpec.ofChange sitesAllSpec)

/-- ITS FALSE NEIGHBOUR: 'it returns false'. Refute it at one input. -/
def sitesAllWrong : ChangeSpec := { name := "sitesAll", fn := fun _ => fun
  | [d] => { results := [.lit (.bool false)], args := [d] }
  | _ => none }
def SitesAllWrongFalsely : Prop := sitesAllRow.holds Tryz.pinned (OpenSpec.ofChange sitesAllWrong)

/-- 'offshootlaw14.SitesMutant': WHATEVER THE INPUT: true; the input reads as it did. -/
def sitesMutantSpec : ChangeSpec := { name := "sitesMutant", fn := fun _ => fun
  | [d1, d2] => { results := [.lit (.bool true)], args := [d1, d2] }
  | _ => none }
def sitesMutantRow : OpenClaim := { program := "ytinnbafplhcnpaagreat", sum := "f5d2bddb63daea2c44fb4eabb0a78d4afeb582e18939a1d9a2008348c8fcb30a", func := "offshoot/offshootlaw14.SitesMutant", spec := "sitesMutant", inPlace := ["sync/atomic.LoadUint32", "(*internal/sync.Mutex).Lock", "internal/race.Disable", "sync/atomic.CompareAndSwapInt32", "internal/race.Enable", "internal/race.Acquire", "(*internal/sync.Mutex).lockSlow", "internal/sync.runtime_canSpin", "internal/sync.runtime_doSpin", "internal/sync.throw", "internal/sync.runtime_nanotime", "internal/sync.runtime_SemacquireMutex", "sync/atomic.AddInt32", "(*internal/sync.Mutex).Unlock", "internal/race.ReleaseMerge", "(*internal/sync.Mutex).unlockSlow", "internal/sync.fatal", "internal/sync.runtime_Semrelease", "sync/atomic.StoreUint32", "slices.overlaps[offshoot/api.Node]"], unfollowed := true, recurses := true, apart := false }
def SitesMutantSaid : Prop := sitesMutantRow.holds Tryz.pinned (OpenSpec.ofChange sitesMutantSpec)

/-- ITS FALSE NEIGHBOUR: 'it returns false'. Refute it at one input. -/
def sitesMutantWrong : ChangeSpec := { name := "sitesMutant", fn := fun _ => fun
  | [d1, d2] => { results := [.lit (.bool false)], args := [d1, d2] }
  | _ => none }
def SitesMutantWrongFalsely : Prop := sitesMutantRow.holds Tryz.pinned (OpenSpec.ofChange sitesMutantWrong)

/-- 'offshootlaw14.SitesCount': WHATEVER THE INPUT: true; the input reads as it did. -/
def sitesCountSpec : ChangeSpec := { name := "sitesCount", fn := fun _ => fun
  | [d1, d2] => { results := [.lit (.bool true)], args := [d1, d2] }
  | _ => none }
def sitesCountRow : OpenClaim := { program := "ytinnbafplhcnpaagreat", sum := "f5d2bddb63daea2c44fb4eabb0a78d4afeb582e18939a1d9a2008348c8fcb30a", func := "offshoot/offshootlaw14.SitesCount", spec := "sitesCount", inPlace := ["sync/atomic.LoadUint32", "(*internal/sync.Mutex).Lock", "internal/race.Disable", "sync/atomic.CompareAndSwapInt32", "internal/race.Enable", "internal/race.Acquire", "(*internal/sync.Mutex).lockSlow", "internal/sync.runtime_canSpin", "internal/sync.runtime_doSpin", "internal/sync.throw", "internal/sync.runtime_nanotime", "internal/sync.runtime_SemacquireMutex", "sync/atomic.AddInt32", "(*internal/sync.Mutex).Unlock", "internal/race.ReleaseMerge", "(*internal/sync.Mutex).unlockSlow", "internal/sync.fatal", "internal/sync.runtime_Semrelease", "sync/atomic.StoreUint32", "slices.overlaps[offshoot/api.Node]"], unfollowed := true, recurses := true, apart := false }
def SitesCountSaid : Prop := sitesCountRow.holds Tryz.pinned (OpenSpec.ofChange sitesCountSpec)

/-- ITS FALSE NEIGHBOUR: 'it returns false'. Refute it at one input. -/
def sitesCountWrong : ChangeSpec := { name := "sitesCount", fn := fun _ => fun
  | [d1, d2] => { results := [.lit (.bool false)], args := [d1, d2] }
  | _ => none }
def SitesCountWrongFalsely : Prop := sitesCountRow.holds Tryz.pinned (OpenSpec.ofChange sitesCountWrong)

/-- 'offshootlaw14.SitesFind': WHATEVER THE INPUT: true; the input reads as it did. -/
def sitesFindSpec : ChangeSpec := { name := "sitesFind", fn := fun _ => fun
  | [d1, d2] => { results := [.lit (.bool true)], args := [d1, d2] }
  | _ => none }
def sitesFindRow : OpenClaim := { program := "ytinnbafplhcnpaagreat", sum := "f5d2bddb63daea2c44fb4eabb0a78d4afeb582e18939a1d9a2008348c8fcb30a", func := "offshoot/offshootlaw14.SitesFind", spec := "sitesFind", inPlace := ["sync/atomic.LoadUint32", "(*internal/sync.Mutex).Lock", "internal/race.Disable", "sync/atomic.CompareAndSwapInt32", "internal/race.Enable", "internal/race.Acquire", "(*internal/sync.Mutex).lockSlow", "internal/sync.runtime_canSpin", "internal/sync.runtime_doSpin", "internal/sync.throw", "internal/sync.runtime_nanotime", "internal/sync.runtime_SemacquireMutex", "sync/atomic.AddInt32", "(*internal/sync.Mutex).Unlock", "internal/race.ReleaseMerge", "(*internal/sync.Mutex).unlockSlow", "internal/sync.fatal", "internal/sync.runtime_Semrelease", "sync/atomic.StoreUint32", "slices.overlaps[offshoot/api.Node]"], unfollowed := true, recurses := true, apart := false }
def SitesFindSaid : Prop := sitesFindRow.holds Tryz.pinned (OpenSpec.ofChange sitesFindSpec)

/-- ITS FALSE NEIGHBOUR: 'it returns false'. Refute it at one input. -/
def sitesFindWrong : ChangeSpec := { name := "sitesFind", fn := fun _ => fun
  | [d1, d2] => { results := [.lit (.bool false)], args := [d1, d2] }
  | _ => none }
def SitesFindWrongFalsely : Prop := sitesFindRow.holds Tryz.pinned (OpenSpec.ofChange sitesFindWrong)

/-- 'offshootlaw14.SitesJust': WHATEVER THE INPUT: true; the input reads as it did. -/
def sitesJustSpec : ChangeSpec := { name := "sitesJust", fn := fun _ => fun
  | [d1, d2] => { results := [.lit (.bool true)], args := [d1, d2] }
  | _ => none }
def sitesJustRow : OpenClaim := { program := "ytinnbafplhcnpaagreat", sum := "f5d2bddb63daea2c44fb4eabb0a78d4afeb582e18939a1d9a2008348c8fcb30a", func := "offshoot/offshootlaw14.SitesJust", spec := "sitesJust", inPlace := ["sync/atomic.LoadUint32", "(*internal/sync.Mutex).Lock", "internal/race.Disable", "sync/atomic.CompareAndSwapInt32", "internal/race.Enable", "internal/race.Acquire", "(*internal/sync.Mutex).lockSlow", "internal/sync.runtime_canSpin", "internal/sync.runtime_doSpin", "internal/sync.throw", "internal/sync.runtime_nanotime", "internal/sync.runtime_SemacquireMutex", "sync/atomic.AddInt32", "(*internal/sync.Mutex).Unlock", "internal/race.ReleaseMerge", "(*internal/sync.Mutex).unlockSlow", "internal/sync.fatal", "internal/sync.runtime_Semrelease", "sync/atomic.StoreUint32", "slices.overlaps[offshoot/api.Node]"], unfollowed := true, recurses := true, apart := false }
def SitesJustSaid : Prop := sitesJustRow.holds Tryz.pinned (OpenSpec.ofChange sitesJustSpec)

/-- ITS FALSE NEIGHBOUR: 'it returns false'. Refute it at one input. -/
def sitesJustWrong : ChangeSpec := { name := "sitesJust", fn := fun _ => fun
  | [d1, d2] => { results := [.lit (.bool false)], args := [d1, d2] }
  | _ => none }
def SitesJustWrongFalsely : Prop := sitesJustRow.holds Tryz.pinned (OpenSpec.ofChange sitesJustWrong)

/-- 'offshootlaw14.SitesTyped': WHATEVER THE INPUT: true; the input reads as it did. -/
def sitesTypedSpec : ChangeSpec := { name := "sitesTyped", fn := fun _ => fun
  | [d1, d2] => { results := [.lit (.bool true)], args := [d1, d2] }
  | _ => none }
def sitesTypedRow : OpenClaim := { program := "ytinnbafplhcnpaagreat", sum := "f5d2bddb63daea2c44fb4eabb0a78d4afeb582e18939a1d9a2008348c8fcb30a", func := "offshoot/offshootlaw14.SitesTyped", spec := "sitesTyped", inPlace := ["sync/atomic.LoadUint32", "(*internal/sync.Mutex).Lock", "internal/race.Disable", "sync/atomic.CompareAndSwapInt32", "internal/race.Enable", "internal/race.Acquire", "(*internal/sync.Mutex).lockSlow", "internal/sync.runtime_canSpin", "internal/sync.runtime_doSpin", "internal/sync.throw", "internal/sync.runtime_nanotime", "internal/sync.runtime_SemacquireMutex", "sync/atomic.AddInt32", "(*internal/sync.Mutex).Unlock", "internal/race.ReleaseMerge", "(*internal/sync.Mutex).unlockSlow", "internal/sync.fatal", "internal/sync.runtime_Semrelease", "sync/atomic.StoreUint32", "slices.overlaps[offshoot/api.Node]"], unfollowed := true, recurses := true, apart := false }
def SitesTypedSaid : Prop := sitesTypedRow.holds Tryz.pinned (OpenSpec.ofChange sitesTypedSpec)

/-- ITS FALSE NEIGHBOUR: 'it returns false'. Refute it at one input. -/
def sitesTypedWrong : ChangeSpec := { name := "sitesTyped", fn := fun _ => fun
  | [d1, d2] => { results := [.lit (.bool false)], args := [d1, d2] }
  | _ => none }
def SitesTypedWrongFalsely : Prop := sitesTypedRow.holds Tryz.pinned (OpenSpec.ofChange sitesTypedWrong)

/-- 'offshootlaw14.SitesApart': WHATEVER THE INPUT: true; the input reads as it did. -/
def sitesApartSpec : ChangeSpec := { name := "sitesApart", fn := fun _ => fun
  | [d1, d2, d3] => { results := [.lit (.bool true)], args := [d1, d2, d3] }
  | _ => none }
def sitesApartRow : OpenClaim := { program := "ytinnbafplhcnpaagreat", sum := "f5d2bddb63daea2c44fb4eabb0a78d4afeb582e18939a1d9a2008348c8fcb30a", func := "offshoot/offshootlaw14.SitesApart", spec := "sitesApart", inPlace := ["sync/atomic.LoadUint32", "(*internal/sync.Mutex).Lock", "internal/race.Disable", "sync/atomic.CompareAndSwapInt32", "internal/race.Enable", "internal/race.Acquire", "(*internal/sync.Mutex).lockSlow", "internal/sync.runtime_canSpin", "internal/sync.runtime_doSpin", "internal/sync.throw", "internal/sync.runtime_nanotime", "internal/sync.runtime_SemacquireMutex", "sync/atomic.AddInt32", "(*internal/sync.Mutex).Unlock", "internal/race.ReleaseMerge", "(*internal/sync.Mutex).unlockSlow", "internal/sync.fatal", "internal/sync.runtime_Semrelease", "sync/atomic.StoreUint32", "slices.overlaps[offshoot/api.Node]"], unfollowed := true, recurses := true, apart := false }
def SitesApartSaid : Prop := sitesApartRow.holds Tryz.pinned (OpenSpec.ofChange sitesApartSpec)

/-- ITS FALSE NEIGHBOUR: 'it returns false'. Refute it at one input. -/
def sitesApartWrong : ChangeSpec := { name := "sitesApart", fn := fun _ => fun
  | [d1, d2, d3] => { results := [.lit (.bool false)], args := [d1, d2, d3] }
  | _ => none }
def SitesApartWrongFalsely : Prop := sitesApartRow.holds Tryz.pinned (OpenSpec.ofChange sitesApartWrong)

/- THE SECOND FORM. 'bulk': how many values and letters a reading holds, each counted each time it is reached (what is shared counts as often as it is met; a slice's spare places count too). A statement '..UptoSaid' is the law's where the arguments, and the package variables that the reading takes, are together of bulk at most 1048576: NARROWER than '..Said'. Prove '..Said' where nothing that the law and all that it calls make is longer than what came in: it says more and counts as full. Else prove '..UptoSaid'. A law counts once. -/
mutual
def uptoBulk {H : Type} : DataW H → Nat
  | .lit (.string bytes) => bytes.length + 1
  | .lit _ => 1
  | .nil => 1
  | .ptr d => uptoBulk d + 1
  | .slice elems spare => uptoBulkAll elems + uptoBulkAll spare + 1
  | .agg parts => uptoBulkAll parts + 1
  | .iface _ d => uptoBulk d + 1
  | .map entries => uptoBulkEntries entries + 1
  | .held _ => 1
def uptoBulkAll {H : Type} : List (DataW H) → Nat
  | [] => 0
  | d :: r => uptoBulk d + uptoBulkAll r
def uptoBulkEntries {H : Type} : List (Lit × DataW H) → Nat
  | [] => 0
  | x :: r => uptoBulkEntry x + uptoBulkEntries r
def uptoBulkEntry {H : Type} : Lit × DataW H → Nat
  | (.string bytes, d) => bytes.length + uptoBulk d + 1
  | (_, d) => uptoBulk d + 1
 end
def uptoSmall : (H : Type) → List (DataW H) → Bool := fun _ ds => decide (uptoBulkAll ds ≤ 1048576)
def OpenSpec.upto (s : _root_.Go.ChangeSpec) : _root_.Go.OpenSpec := { _root_.Go.OpenSpec.ofChange s with cond := some uptoSmall }

/-- 'offshootlaw14.SitesAll', WHERE WHAT IT READS IS OF BULK AT MOST 1048576: true; the input reads as it did. -/
def sitesAllUptoRow : OpenClaim := { program := "ytinnbafplhcnpaagreat", sum := "f5d2bddb63daea2c44fb4eabb0a78d4afeb582e18939a1d9a2008348c8fcb30a", func := "offshoot/offshootlaw14.SitesAll", spec := "sitesAll", inPlace := ["sync/atomic.LoadUint32", "(*internal/sync.Mutex).Lock", "internal/race.Disable", "sync/atomic.CompareAndSwapInt32", "internal/race.Enable", "internal/race.Acquire", "(*internal/sync.Mutex).lockSlow", "internal/sync.runtime_canSpin", "internal/sync.runtime_doSpin", "internal/sync.throw", "internal/sync.runtime_nanotime", "internal/sync.runtime_SemacquireMutex", "sync/atomic.AddInt32", "(*internal/sync.Mutex).Unlock", "internal/race.ReleaseMerge", "(*internal/sync.Mutex).unlockSlow", "internal/sync.fatal", "internal/sync.runtime_Semrelease", "sync/atomic.StoreUint32", "slices.overlaps[offshoot/api.Node]"], unfollowed := true, recurses := true, apart := false, narrowed := true }
def SitesAllUptoSaid : Prop := sitesAllUptoRow.holds Tryz.pinned (OpenSpec.upto sitesAllSpec)

/-- 'offshootlaw14.SitesMutant', WHERE WHAT IT READS IS OF BULK AT MOST 1048576: true; the input reads as it did. -/
def sitesMutantUptoRow : OpenClaim := { program := "ytinnbafplhcnpaagreat", sum := "f5d2bddb63daea2c44fb4eabb0a78d4afeb582e18939a1d9a2008348c8fcb30a", func := "offshoot/offshootlaw14.SitesMutant", spec := "sitesMutant", inPlace := ["sync/atomic.LoadUint32", "(*internal/sync.Mutex).Lock", "internal/race.Disable", "sync/atomic.CompareAndSwapInt32", "internal/race.Enable", "internal/race.Acquire", "(*internal/sync.Mutex).lockSlow", "internal/sync.runtime_canSpin", "internal/sync.runtime_doSpin", "internal/sync.throw", "internal/sync.runtime_nanotime", "internal/sync.runtime_SemacquireMutex", "sync/atomic.AddInt32", "(*internal/sync.Mutex).Unlock", "internal/race.ReleaseMerge", "(*internal/sync.Mutex).unlockSlow", "internal/sync.fatal", "internal/sync.runtime_Semrelease", "sync/atomic.StoreUint32", "slices.overlaps[offshoot/api.Node]"], unfollowed := true, recurses := true, apart := false, narrowed := true }
def SitesMutantUptoSaid : Prop := sitesMutantUptoRow.holds Tryz.pinned (OpenSpec.upto sitesMutantSpec)

/-- 'offshootlaw14.SitesCount', WHERE WHAT IT READS IS OF BULK AT MOST 1048576: true; the input reads as it did. -/
def sitesCountUptoRow : OpenClaim := { program := "ytinnbafplhcnpaagreat", sum := "f5d2bddb63daea2c44fb4eabb0a78d4afeb582e18939a1d9a2008348c8fcb30a", func := "offshoot/offshootlaw14.SitesCount", spec := "sitesCount", inPlace := ["sync/atomic.LoadUint32", "(*internal/sync.Mutex).Lock", "internal/race.Disable", "sync/atomic.CompareAndSwapInt32", "internal/race.Enable", "internal/race.Acquire", "(*internal/sync.Mutex).lockSlow", "internal/sync.runtime_canSpin", "internal/sync.runtime_doSpin", "internal/sync.throw", "internal/sync.runtime_nanotime", "internal/sync.runtime_SemacquireMutex", "sync/atomic.AddInt32", "(*internal/sync.Mutex).Unlock", "internal/race.ReleaseMerge", "(*internal/sync.Mutex).unlockSlow", "internal/sync.fatal", "internal/sync.runtime_Semrelease", "sync/atomic.StoreUint32", "slices.overlaps[offshoot/api.Node]"], unfollowed := true, recurses := true, apart := false, narrowed := true }
def SitesCountUptoSaid : Prop := sitesCountUptoRow.holds Tryz.pinned (OpenSpec.upto sitesCountSpec)

/-- 'offshootlaw14.SitesFind', WHERE WHAT IT READS IS OF BULK AT MOST 1048576: true; the input reads as it did. -/
def sitesFindUptoRow : OpenClaim := { program := "ytinnbafplhcnpaagreat", sum := "f5d2bddb63daea2c44fb4eabb0a78d4afeb582e18939a1d9a2008348c8fcb30a", func := "offshoot/offshootlaw14.SitesFind", spec := "sitesFind", inPlace := ["sync/atomic.LoadUint32", "(*internal/sync.Mutex).Lock", "internal/race.Disable", "sync/atomic.CompareAndSwapInt32", "internal/race.Enable", "internal/race.Acquire", "(*internal/sync.Mutex).lockSlow", "internal/sync.runtime_canSpin", "internal/sync.runtime_doSpin", "internal/sync.throw", "internal/sync.runtime_nanotime", "internal/sync.runtime_SemacquireMutex", "sync/atomic.AddInt32", "(*internal/sync.Mutex).Unlock", "internal/race.ReleaseMerge", "(*internal/sync.Mutex).unlockSlow", "internal/sync.fatal", "internal/sync.runtime_Semrelease", "sync/atomic.StoreUint32", "slices.overlaps[offshoot/api.Node]"], unfollowed := true, recurses := true, apart := false, narrowed := true }
def SitesFindUptoSaid : Prop := sitesFindUptoRow.holds Tryz.pinned (OpenSpec.upto sitesFindSpec)

/-- 'offshootlaw14.SitesJust', WHERE WHAT IT READS IS OF BULK AT MOST 1048576: true; the input reads as it did. -/
def sitesJustUptoRow : OpenClaim := { program := "ytinnbafplhcnpaagreat", sum := "f5d2bddb63daea2c44fb4eabb0a78d4afeb582e18939a1d9a2008348c8fcb30a", func := "offshoot/offshootlaw14.SitesJust", spec := "sitesJust", inPlace := ["sync/atomic.LoadUint32", "(*internal/sync.Mutex).Lock", "internal/race.Disable", "sync/atomic.CompareAndSwapInt32", "internal/race.Enable", "internal/race.Acquire", "(*internal/sync.Mutex).lockSlow", "internal/sync.runtime_canSpin", "internal/sync.runtime_doSpin", "internal/sync.throw", "internal/sync.runtime_nanotime", "internal/sync.runtime_SemacquireMutex", "sync/atomic.AddInt32", "(*internal/sync.Mutex).Unlock", "internal/race.ReleaseMerge", "(*internal/sync.Mutex).unlockSlow", "internal/sync.fatal", "internal/sync.runtime_Semrelease", "sync/atomic.StoreUint32", "slices.overlaps[offshoot/api.Node]"], unfollowed := true, recurses := true, apart := false, narrowed := true }
def SitesJustUptoSaid : Prop := sitesJustUptoRow.holds Tryz.pinned (OpenSpec.upto sitesJustSpec)

/-- 'offshootlaw14.SitesTyped', WHERE WHAT IT READS IS OF BULK AT MOST 1048576: true; the input reads as it did. -/
def sitesTypedUptoRow : OpenClaim := { program := "ytinnbafplhcnpaagreat", sum := "f5d2bddb63daea2c44fb4eabb0a78d4afeb582e18939a1d9a2008348c8fcb30a", func := "offshoot/offshootlaw14.SitesTyped", spec := "sitesTyped", inPlace := ["sync/atomic.LoadUint32", "(*internal/sync.Mutex).Lock", "internal/race.Disable", "sync/atomic.CompareAndSwapInt32", "internal/race.Enable", "internal/race.Acquire", "(*internal/sync.Mutex).lockSlow", "internal/sync.runtime_canSpin", "internal/sync.runtime_doSpin", "internal/sync.throw", "internal/sync.runtime_nanotime", "internal/sync.runtime_SemacquireMutex", "sync/atomic.AddInt32", "(*internal/sync.Mutex).Unlock", "internal/race.ReleaseMerge", "(*internal/sync.Mutex).unlockSlow", "internal/sync.fatal", "internal/sync.runtime_Semrelease", "sync/atomic.StoreUint32", "slices.overlaps[offshoot/api.Node]"], unfollowed := true, recurses := true, apart := false, narrowed := true }
def SitesTypedUptoSaid : Prop := sitesTypedUptoRow.holds Tryz.pinned (OpenSpec.upto sitesTypedSpec)

/-- 'offshootlaw14.SitesApart', WHERE WHAT IT READS IS OF BULK AT MOST 1048576: true; the input reads as it did. -/
def sitesApartUptoRow : OpenClaim := { program := "ytinnbafplhcnpaagreat", sum := "f5d2bddb63daea2c44fb4eabb0a78d4afeb582e18939a1d9a2008348c8fcb30a", func := "offshoot/offshootlaw14.SitesApart", spec := "sitesApart", inPlace := ["sync/atomic.LoadUint32", "(*internal/sync.Mutex).Lock", "internal/race.Disable", "sync/atomic.CompareAndSwapInt32", "internal/race.Enable", "internal/race.Acquire", "(*internal/sync.Mutex).lockSlow", "internal/sync.runtime_canSpin", "internal/sync.runtime_doSpin", "internal/sync.throw", "internal/sync.runtime_nanotime", "internal/sync.runtime_SemacquireMutex", "sync/atomic.AddInt32", "(*internal/sync.Mutex).Unlock", "internal/race.ReleaseMerge", "(*internal/sync.Mutex).unlockSlow", "internal/sync.fatal", "internal/sync.runtime_Semrelease", "sync/atomic.StoreUint32", "slices.overlaps[offshoot/api.Node]"], unfollowed := true, recurses := true, apart := false, narrowed := true }
def SitesApartUptoSaid : Prop := sitesApartUptoRow.holds Tryz.pinned (OpenSpec.upto sitesApartSpec)

end Rows
end Go.Proofs.YtinnbafplhcnpaaGreat
