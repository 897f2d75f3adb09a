/-
  DERIVED. GIVEN WITH THE SEED: THE CARDS: each row of YtnlggjbcdienfaaDoorRows.lean that lists a variable, with what it lists TIED to the program's text (the seventh form; the later family's looks); each row that meets fmt, with fmt's text TOLD by the authors' own Lean function (tested against real Go, not proved from fmt's source: count such statements apart). THE CARD IS WHAT COUNTS. Prove the row's statement (the work); the ties are given (YtnlggjbcdienfaaDoorTie.lean); close each card by the builder's one call (the guide's Derived/Test/ToyasCard.lean, 'card_holds'). Laid BY PROGRAM, IN A SANDBOX (cutbox-door.mjs). By AI agents, Wed Nov 11 2026. No macro, syntax, notation, axiom, sorry.
-/
import Derived.Test.YtnlggjbcdienfaaDoorRows
import GoSem.ClaimSeven
namespace Go.Proofs.YtnlggjbcdienfaaDoor
namespace Rows

/-- THE TIED CARD OF 'vitrinelaw17.WriteErases'. -/
def writeErasesCard : Claim7 := { stood := { row := writeErasesRow, standIns := [], harness := (true, "3275627df403280fa5ba2a7a61ffab460e7a556daa80cae7dba3301726959cc3"), looks := false }, kinds := [], alts := [], laidByText := true, laidKinds := [.data], laidTests := true, laidLooks := .later }
def WriteErasesCardSaid : Prop := Claim7.holds Tryd.pinned (.plain (OpenSpec.ofChange writeErasesSpec)) writeErasesCard

/-- THE TIED CARD OF 'vitrinelaw17.WriteNames'. -/
def writeNamesCard : Claim7 := { stood := { row := writeNamesRow, standIns := [], harness := (true, "3275627df403280fa5ba2a7a61ffab460e7a556daa80cae7dba3301726959cc3"), looks := false }, kinds := [], alts := [], laidByText := true, laidKinds := [.data], laidTests := true, laidLooks := .later }
def WriteNamesCardSaid : Prop := Claim7.holds Tryd.pinned (.plain (OpenSpec.ofChange writeNamesSpec)) writeNamesCard

/-- THE TIED CARD OF 'vitrinelaw17.WriteAgain'. -/
def writeAgainCard : Claim7 := { stood := { row := writeAgainRow, standIns := [], harness := (true, "3275627df403280fa5ba2a7a61ffab460e7a556daa80cae7dba3301726959cc3"), looks := false }, kinds := [], alts := [], laidByText := true, laidKinds := [.data], laidTests := true, laidLooks := .later }
def WriteAgainCardSaid : Prop := Claim7.holds Tryd.pinned (.plain (OpenSpec.ofChange writeAgainSpec)) writeAgainCard

/-- THE SECOND FORM's CARD OF 'vitrinelaw17.WriteErases'. -/
def writeErasesUptoCard : Claim7 := { stood := { row := writeErasesUptoRow, standIns := [], harness := (true, "3275627df403280fa5ba2a7a61ffab460e7a556daa80cae7dba3301726959cc3"), looks := false }, kinds := [], alts := [], laidByText := true, laidKinds := [.data], laidTests := true, laidLooks := .later }
def WriteErasesUptoCardSaid : Prop := Claim7.holds Tryd.pinned (.plain (OpenSpec.upto writeErasesSpec)) writeErasesUptoCard

/-- THE SECOND FORM's CARD OF 'vitrinelaw17.WriteNames'. -/
def writeNamesUptoCard : Claim7 := { stood := { row := writeNamesUptoRow, standIns := [], harness := (true, "3275627df403280fa5ba2a7a61ffab460e7a556daa80cae7dba3301726959cc3"), looks := false }, kinds := [], alts := [], laidByText := true, laidKinds := [.data], laidTests := true, laidLooks := .later }
def WriteNamesUptoCardSaid : Prop := Claim7.holds Tryd.pinned (.plain (OpenSpec.upto writeNamesSpec)) writeNamesUptoCard

/-- THE SECOND FORM's CARD OF 'vitrinelaw17.WriteAgain'. -/
def writeAgainUptoCard : Claim7 := { stood := { row := writeAgainUptoRow, standIns := [], harness := (true, "3275627df403280fa5ba2a7a61ffab460e7a556daa80cae7dba3301726959cc3"), looks := false }, kinds := [], alts := [], laidByText := true, laidKinds := [.data], laidTests := true, laidLooks := .later }
def WriteAgainUptoCardSaid : Prop := Claim7.holds Tryd.pinned (.plain (OpenSpec.upto writeAgainSpec)) writeAgainUptoCard
end Rows
end Go.Proofs.YtnlggjbcdienfaaDoor
