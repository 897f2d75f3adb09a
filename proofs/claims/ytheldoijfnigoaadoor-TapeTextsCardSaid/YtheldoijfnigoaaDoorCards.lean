/-
  DERIVED. GIVEN WITH THE SEED: THE CARDS: each row of YtheldoijfnigoaaDoorRows.lean that lists a variable, with what it lists TIED to the program's text (the seventh form; the later family's looks); each row that meets fmt, with fmt's text TOLD by the authors' own Lean function (tested against real Go, not proved from fmt's source: count such statements apart). THE CARD IS WHAT COUNTS. Prove the row's statement (the work); the ties are given (YtheldoijfnigoaaDoorTie.lean); close each card by the builder's one call (the guide's Derived/Test/ToyasCard.lean, 'card_holds'). Laid BY PROGRAM, IN A SANDBOX (cutbox-door.mjs). By AI agents, Wed Nov 11 2026. No macro, syntax, notation, axiom, sorry.
-/
import Derived.Test.YtheldoijfnigoaaDoorRows
import GoSem.ClaimSeven
namespace Go.Proofs.YtheldoijfnigoaaDoor
namespace Rows

/-- THE TIED CARD OF 'vitrinelaw28.TapeParses'. -/
def tapeParsesCard : Claim7 := { stood := { row := tapeParsesRow, standIns := [], harness := (true, "5fc223550678fb19f45d5a715113f56bdccc80a2edd6105d6f00a6684d50747f"), looks := true }, kinds := [], alts := [], laidByText := true, laidKinds := [.data, .data, .data, .data, .sentinel, .sentinel, .pinned], laidTests := true, laidLooks := .later }
def TapeParsesCardSaid : Prop := Claim7.holds Tryd.pinned (.plain (OpenSpec.ofChange tapeParsesSpec)) tapeParsesCard

/-- THE TIED CARD OF 'vitrinelaw28.TapeTexts'. -/
def tapeTextsCard : Claim7 := { stood := { row := tapeTextsRow, standIns := [], harness := (true, "5fc223550678fb19f45d5a715113f56bdccc80a2edd6105d6f00a6684d50747f"), looks := true }, kinds := [], alts := [], laidByText := true, laidKinds := [.data, .data, .data, .data, .sentinel, .sentinel, .pinned], laidTests := true, laidLooks := .later }
def TapeTextsCardSaid : Prop := Claim7.holds Tryd.pinned (.plain (OpenSpec.ofChange tapeTextsSpec)) tapeTextsCard

/-- THE SECOND FORM's CARD OF 'vitrinelaw28.TapeParses'. -/
def tapeParsesUptoCard : Claim7 := { stood := { row := tapeParsesUptoRow, standIns := [], harness := (true, "5fc223550678fb19f45d5a715113f56bdccc80a2edd6105d6f00a6684d50747f"), looks := true }, kinds := [], alts := [], laidByText := true, laidKinds := [.data, .data, .data, .data, .sentinel, .sentinel, .pinned], laidTests := true, laidLooks := .later }
def TapeParsesUptoCardSaid : Prop := Claim7.holds Tryd.pinned (.plain (OpenSpec.upto tapeParsesSpec)) tapeParsesUptoCard

/-- THE SECOND FORM's CARD OF 'vitrinelaw28.TapeTexts'. -/
def tapeTextsUptoCard : Claim7 := { stood := { row := tapeTextsUptoRow, standIns := [], harness := (true, "5fc223550678fb19f45d5a715113f56bdccc80a2edd6105d6f00a6684d50747f"), looks := true }, kinds := [], alts := [], laidByText := true, laidKinds := [.data, .data, .data, .data, .sentinel, .sentinel, .pinned], laidTests := true, laidLooks := .later }
def TapeTextsUptoCardSaid : Prop := Claim7.holds Tryd.pinned (.plain (OpenSpec.upto tapeTextsSpec)) tapeTextsUptoCard
end Rows
end Go.Proofs.YtheldoijfnigoaaDoor
