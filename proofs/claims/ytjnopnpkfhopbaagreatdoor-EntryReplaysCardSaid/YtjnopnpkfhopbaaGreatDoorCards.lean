/-
  DERIVED. GIVEN WITH THE SEED: THE CARDS: each row of YtjnopnpkfhopbaaGreatDoorRows.lean that lists a variable, with what it lists TIED to the program's text (the seventh form; the later family's looks); each row that meets fmt, with fmt's text TOLD by the authors' own Lean function (tested against real Go, not proved from fmt's source: count such statements apart). THE CARD IS WHAT COUNTS. Prove the row's statement (the work); the ties are given (YtjnopnpkfhopbaaGreatDoorTie.lean); close each card by the builder's one call (the guide's Derived/Test/ToyasCard.lean, 'card_holds'). Laid BY PROGRAM, IN A SANDBOX (cutbox-door.mjs). By AI agents, Wed Nov 11 2026. No macro, syntax, notation, axiom, sorry.
-/
import Derived.Test.YtjnopnpkfhopbaaGreatDoorRows
import GoSem.ClaimSeven
namespace Go.Proofs.YtjnopnpkfhopbaaGreatDoor
namespace Rows

/-- THE TIED CARD OF 'vitrinelaw20.EntryReplays'. -/
def entryReplaysCard : Claim7 := { stood := { row := entryReplaysRow, standIns := [], harness := (true, "d1a64a823e047c0acf8a9e375dfc3a08f5d6bd67739d23c683b2b94f70f388fd"), looks := false }, kinds := [], alts := [], laidByText := true, laidKinds := [.data], laidTests := true, laidLooks := .later }
def EntryReplaysCardSaid : Prop := Claim7.holds Tryz.pinned (.plain (OpenSpec.ofChange entryReplaysSpec)) entryReplaysCard

/-- THE SECOND FORM's CARD OF 'vitrinelaw20.EntryReplays'. -/
def entryReplaysUptoCard : Claim7 := { stood := { row := entryReplaysUptoRow, standIns := [], harness := (true, "d1a64a823e047c0acf8a9e375dfc3a08f5d6bd67739d23c683b2b94f70f388fd"), looks := false }, kinds := [], alts := [], laidByText := true, laidKinds := [.data], laidTests := true, laidLooks := .later }
def EntryReplaysUptoCardSaid : Prop := Claim7.holds Tryz.pinned (.plain (OpenSpec.upto entryReplaysSpec)) entryReplaysUptoCard
end Rows
end Go.Proofs.YtjnopnpkfhopbaaGreatDoor
