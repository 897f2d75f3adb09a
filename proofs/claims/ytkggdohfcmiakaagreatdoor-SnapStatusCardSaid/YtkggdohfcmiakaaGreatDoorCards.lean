/-
  DERIVED. GIVEN WITH THE SEED: THE CARDS: each row of YtkggdohfcmiakaaGreatDoorRows.lean that lists a variable, with what it lists TIED to the program's text (the seventh form; the later family's looks); each row that meets fmt, with fmt's text TOLD by the authors' own Lean function (tested against real Go, not proved from fmt's source: count such statements apart). THE CARD IS WHAT COUNTS. Prove the row's statement (the work); the ties are given (YtkggdohfcmiakaaGreatDoorTie.lean); close each card by the builder's one call (the guide's Derived/Test/ToyasCard.lean, 'card_holds'). Laid BY PROGRAM, IN A SANDBOX (cutbox-door.mjs). By AI agents, Wed Nov 11 2026. No macro, syntax, notation, axiom, sorry.
-/
import Derived.Test.YtkggdohfcmiakaaGreatDoorRows
import GoSem.ClaimSeven
namespace Go.Proofs.YtkggdohfcmiakaaGreatDoor
namespace Rows

/-- THE TIED CARD OF 'vitrinelaw26.SnapStatus'. -/
def snapStatusCard : Claim7 := { stood := { row := snapStatusRow, standIns := [], harness := (true, "b07cad3c1d55e9ac18f08af82b53418d690b63c0a800874cccf7ea1cdfe9c28b"), looks := false }, kinds := [], alts := [], laidByText := true, laidKinds := [.data, .data, .data, .data, .data, .pinned], laidTests := true, laidLooks := .later }
def SnapStatusCardSaid : Prop := Claim7.holds Tryz.pinned (.plain (OpenSpec.ofChange snapStatusSpec)) snapStatusCard

/-- THE SECOND FORM's CARD OF 'vitrinelaw26.SnapStatus'. -/
def snapStatusUptoCard : Claim7 := { stood := { row := snapStatusUptoRow, standIns := [], harness := (true, "b07cad3c1d55e9ac18f08af82b53418d690b63c0a800874cccf7ea1cdfe9c28b"), looks := false }, kinds := [], alts := [], laidByText := true, laidKinds := [.data, .data, .data, .data, .data, .pinned], laidTests := true, laidLooks := .later }
def SnapStatusUptoCardSaid : Prop := Claim7.holds Tryz.pinned (.plain (OpenSpec.upto snapStatusSpec)) snapStatusUptoCard
end Rows
end Go.Proofs.YtkggdohfcmiakaaGreatDoor
