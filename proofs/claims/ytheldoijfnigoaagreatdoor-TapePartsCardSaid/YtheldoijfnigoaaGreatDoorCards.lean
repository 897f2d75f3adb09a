/-
  DERIVED. GIVEN WITH THE SEED: THE CARDS: each row of YtheldoijfnigoaaGreatDoorRows.lean that lists a variable, with what it lists TIED to the program's text (the seventh form; the later family's looks); each row that meets fmt, with fmt's text TOLD by the authors' own Lean function (tested against real Go, not proved from fmt's source: count such statements apart). THE CARD IS WHAT COUNTS. Prove the row's statement (the work); the ties are given (YtheldoijfnigoaaGreatDoorTie.lean); close each card by the builder's one call (the guide's Derived/Test/ToyasCard.lean, 'card_holds'). Laid BY PROGRAM, IN A SANDBOX (cutbox-door.mjs). By AI agents, Wed Nov 11 2026. No macro, syntax, notation, axiom, sorry.
-/
import Derived.Test.YtheldoijfnigoaaGreatDoorRows
import GoSem.ClaimSeven
namespace Go.Proofs.YtheldoijfnigoaaGreatDoor
namespace Rows

/-- THE TIED CARD OF 'vitrinelaw28.TapeParts'. -/
def tapePartsCard : Claim7 := { stood := { row := tapePartsRow, standIns := [], harness := (true, "7d82c8cb842cdefabbbd58e4edb56855b47c950cd8398cbfedcdd271c0554e31"), looks := true }, kinds := [], alts := [], laidByText := true, laidKinds := [.data, .data, .data, .data, .sentinel, .sentinel, .data, .data, .pinned], laidTests := true, laidLooks := .later }
def TapePartsCardSaid : Prop := Claim7.holds Tryz.pinned (.plain (OpenSpec.ofChange tapePartsSpec)) tapePartsCard

/-- THE SECOND FORM's CARD OF 'vitrinelaw28.TapeParts'. -/
def tapePartsUptoCard : Claim7 := { stood := { row := tapePartsUptoRow, standIns := [], harness := (true, "7d82c8cb842cdefabbbd58e4edb56855b47c950cd8398cbfedcdd271c0554e31"), looks := true }, kinds := [], alts := [], laidByText := true, laidKinds := [.data, .data, .data, .data, .sentinel, .sentinel, .data, .data, .pinned], laidTests := true, laidLooks := .later }
def TapePartsUptoCardSaid : Prop := Claim7.holds Tryz.pinned (.plain (OpenSpec.upto tapePartsSpec)) tapePartsUptoCard
end Rows
end Go.Proofs.YtheldoijfnigoaaGreatDoor
