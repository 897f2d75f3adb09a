/-
  DERIVED. GIVEN WITH THE SEED: THE CARDS: each row of YtnlggjbcdienfaaGreatDoorRows.lean that lists a variable, with what it lists TIED to the program's text (the seventh form; the later family's looks); each row that meets fmt, with fmt's text TOLD by the authors' own Lean function (tested against real Go, not proved from fmt's source: count such statements apart). THE CARD IS WHAT COUNTS. Prove the row's statement (the work); the ties are given (YtnlggjbcdienfaaGreatDoorTie.lean); close each card by the builder's one call (the guide's Derived/Test/ToyasCard.lean, 'card_holds'). Laid BY PROGRAM, IN A SANDBOX (cutbox-door.mjs). By AI agents, Wed Nov 11 2026. No macro, syntax, notation, axiom, sorry.
-/
import Derived.Test.YtnlggjbcdienfaaGreatDoorRows
import GoSem.ClaimSeven
namespace Go.Proofs.YtnlggjbcdienfaaGreatDoor
namespace Rows

/-- THE TIED CARD OF 'vitrinelaw17.WriteJoins'. -/
def writeJoinsCard : Claim7 := { stood := { row := writeJoinsRow, standIns := [], harness := (true, "b07f81dc0a122ffe5a529342b4be6a8a56aba098f132a72a32568255a278f537"), looks := false }, kinds := [], alts := [], laidByText := true, laidKinds := [.data], laidTests := true, laidLooks := .later }
def WriteJoinsCardSaid : Prop := Claim7.holds Tryz.pinned (.plain (OpenSpec.ofChange writeJoinsSpec)) writeJoinsCard

/-- THE TIED CARD OF 'vitrinelaw20.EntryReplays'. -/
def entryReplaysCard : Claim7 := { stood := { row := entryReplaysRow, standIns := [], harness := (true, "b07f81dc0a122ffe5a529342b4be6a8a56aba098f132a72a32568255a278f537"), looks := false }, kinds := [], alts := [], laidByText := true, laidKinds := [.data], laidTests := true, laidLooks := .later }
def EntryReplaysCardSaid : Prop := Claim7.holds Tryz.pinned (.plain (OpenSpec.ofChange entryReplaysSpec)) entryReplaysCard

/-- THE SECOND FORM's CARD OF 'vitrinelaw17.WriteJoins'. -/
def writeJoinsUptoCard : Claim7 := { stood := { row := writeJoinsUptoRow, standIns := [], harness := (true, "b07f81dc0a122ffe5a529342b4be6a8a56aba098f132a72a32568255a278f537"), looks := false }, kinds := [], alts := [], laidByText := true, laidKinds := [.data], laidTests := true, laidLooks := .later }
def WriteJoinsUptoCardSaid : Prop := Claim7.holds Tryz.pinned (.plain (OpenSpec.upto writeJoinsSpec)) writeJoinsUptoCard

/-- THE SECOND FORM's CARD OF 'vitrinelaw20.EntryReplays'. -/
def entryReplaysUptoCard : Claim7 := { stood := { row := entryReplaysUptoRow, standIns := [], harness := (true, "b07f81dc0a122ffe5a529342b4be6a8a56aba098f132a72a32568255a278f537"), looks := false }, kinds := [], alts := [], laidByText := true, laidKinds := [.data], laidTests := true, laidLooks := .later }
def EntryReplaysUptoCardSaid : Prop := Claim7.holds Tryz.pinned (.plain (OpenSpec.upto entryReplaysSpec)) entryReplaysUptoCard
end Rows
end Go.Proofs.YtnlggjbcdienfaaGreatDoor
