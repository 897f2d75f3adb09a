/-
  DERIVED. GIVEN WITH THE SEED: THE CARDS: each row of YtbeohjinefaaoaaDoorRows.lean that lists a variable, with what it lists TIED to the program's text (the seventh form; the later family's looks); each row that meets fmt, with fmt's text TOLD by the authors' own Lean function (tested against real Go, not proved from fmt's source: count such statements apart). THE CARD IS WHAT COUNTS. Prove the row's statement (the work); the ties are given (YtbeohjinefaaoaaDoorTie.lean); close each card by the builder's one call (the guide's Derived/Test/ToyasCard.lean, 'card_holds'). Laid BY PROGRAM, IN A SANDBOX (cutbox-door.mjs). By AI agents, Wed Nov 11 2026. No macro, syntax, notation, axiom, sorry.
-/
import Derived.Test.YtbeohjinefaaoaaDoorRows
import GoSem.ClaimSeven
namespace Go.Proofs.YtbeohjinefaaoaaDoor
namespace Rows

/-- THE TIED CARD OF 'vitrinelaw24.HostForms'. -/
def hostFormsCard : Claim7 := { stood := { row := hostFormsRow, standIns := [], harness := (true, "e041df31231cc6cd85095fcb1aa7bcf0b0b2888034374a73e8dbd7a44830f73c"), looks := false }, kinds := [], alts := [], laidByText := true, laidKinds := [.data], laidTests := true, laidLooks := .later }
def HostFormsCardSaid : Prop := Claim7.holds Tryd.pinned (.plain (OpenSpec.ofChange hostFormsSpec)) hostFormsCard

/-- THE TIED CARD OF 'vitrinelaw24.HostAnswers'. -/
def hostAnswersCard : Claim7 := { stood := { row := hostAnswersRow, standIns := [], harness := (true, "e041df31231cc6cd85095fcb1aa7bcf0b0b2888034374a73e8dbd7a44830f73c"), looks := false }, kinds := [], alts := [], laidByText := true, laidKinds := [.data], laidTests := true, laidLooks := .later }
def HostAnswersCardSaid : Prop := Claim7.holds Tryd.pinned (.plain (OpenSpec.ofChange hostAnswersSpec)) hostAnswersCard

/-- THE SECOND FORM's CARD OF 'vitrinelaw24.HostForms'. -/
def hostFormsUptoCard : Claim7 := { stood := { row := hostFormsUptoRow, standIns := [], harness := (true, "e041df31231cc6cd85095fcb1aa7bcf0b0b2888034374a73e8dbd7a44830f73c"), looks := false }, kinds := [], alts := [], laidByText := true, laidKinds := [.data], laidTests := true, laidLooks := .later }
def HostFormsUptoCardSaid : Prop := Claim7.holds Tryd.pinned (.plain (OpenSpec.upto hostFormsSpec)) hostFormsUptoCard

/-- THE SECOND FORM's CARD OF 'vitrinelaw24.HostAnswers'. -/
def hostAnswersUptoCard : Claim7 := { stood := { row := hostAnswersUptoRow, standIns := [], harness := (true, "e041df31231cc6cd85095fcb1aa7bcf0b0b2888034374a73e8dbd7a44830f73c"), looks := false }, kinds := [], alts := [], laidByText := true, laidKinds := [.data], laidTests := true, laidLooks := .later }
def HostAnswersUptoCardSaid : Prop := Claim7.holds Tryd.pinned (.plain (OpenSpec.upto hostAnswersSpec)) hostAnswersUptoCard
end Rows
end Go.Proofs.YtbeohjinefaaoaaDoor
