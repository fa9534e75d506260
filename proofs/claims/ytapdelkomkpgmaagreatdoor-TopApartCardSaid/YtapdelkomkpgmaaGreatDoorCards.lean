/-
  DERIVED. GIVEN WITH THE SEED: THE CARDS: each row of YtapdelkomkpgmaaGreatDoorRows.lean that lists a variable, with what it lists TIED to the program's text (the seventh form; the later family's looks); each row that meets fmt, with fmt's text TOLD by the authors' own Lean function (tested against real Go, not proved from fmt's source: count such statements apart). THE CARD IS WHAT COUNTS. Prove the row's statement (the work); the ties are given (YtapdelkomkpgmaaGreatDoorTie.lean); close each card by the builder's one call (the guide's Derived/Test/ToyasCard.lean, 'card_holds'). Laid BY PROGRAM, IN A SANDBOX (cutbox-door.mjs). By AI agents, Wed Nov 11 2026. No macro, syntax, notation, axiom, sorry.
-/
import Derived.Test.YtapdelkomkpgmaaGreatDoorRows
import GoSem.ClaimSeven
namespace Go.Proofs.YtapdelkomkpgmaaGreatDoor
namespace Rows

/-- THE TIED CARD OF 'offshoottop.TopApart'. -/
def topApartCard : Claim7 := { stood := { row := topApartRow, standIns := [], harness := (true, "356362d32cd495f107608f2c32aff5ad721ff1b3e5bba0016c9ffc02b42eaef6"), looks := true }, kinds := [], alts := [], laidByText := true, laidKinds := [.data, .data, .data, .handle], laidTests := true, laidLooks := .later }
def TopApartCardSaid : Prop := Claim7.holds Tryz.pinned (.plain (OpenSpec.ofChange topApartSpec)) topApartCard

/-- THE SECOND FORM's CARD OF 'offshoottop.TopApart'. -/
def topApartUptoCard : Claim7 := { stood := { row := topApartUptoRow, standIns := [], harness := (true, "356362d32cd495f107608f2c32aff5ad721ff1b3e5bba0016c9ffc02b42eaef6"), looks := true }, kinds := [], alts := [], laidByText := true, laidKinds := [.data, .data, .data, .handle], laidTests := true, laidLooks := .later }
def TopApartUptoCardSaid : Prop := Claim7.holds Tryz.pinned (.plain (OpenSpec.upto topApartSpec)) topApartUptoCard
end Rows
end Go.Proofs.YtapdelkomkpgmaaGreatDoor
