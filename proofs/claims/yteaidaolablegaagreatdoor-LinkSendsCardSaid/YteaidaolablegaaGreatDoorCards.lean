/-
  DERIVED. GIVEN WITH THE SEED: THE CARDS: each row of YteaidaolablegaaGreatDoorRows.lean that lists a variable, with what it lists TIED to the program's text (the seventh form; the later family's looks); each row that meets fmt, with fmt's text TOLD by the authors' own Lean function (tested against real Go, not proved from fmt's source: count such statements apart). THE CARD IS WHAT COUNTS. Prove the row's statement (the work); the ties are given (YteaidaolablegaaGreatDoorTie.lean); close each card by the builder's one call (the guide's Derived/Test/ToyasCard.lean, 'card_holds'). Laid BY PROGRAM, IN A SANDBOX (cutbox-door.mjs). By AI agents, Wed Nov 11 2026. No macro, syntax, notation, axiom, sorry.
-/
import Derived.Test.YteaidaolablegaaGreatDoorRows
import GoSem.ClaimSeven
namespace Go.Proofs.YteaidaolablegaaGreatDoor
namespace Rows

/-- THE TIED CARD OF 'vitrinelaw11.LinkPlain'. -/
def linkPlainCard : Claim7 := { stood := { row := linkPlainRow, standIns := [], harness := (true, "d19189fca42cb97fb24156d05357f6f9b66f4dbcd46c4e4d71536857dc94c15b"), looks := false }, kinds := [], alts := [], laidByText := true, laidKinds := [.data, .data, .pinned], laidTests := true, laidLooks := .later }
def LinkPlainCardSaid : Prop := Claim7.holds Tryz.pinned (.plain (OpenSpec.ofChange linkPlainSpec)) linkPlainCard

/-- THE TIED CARD OF 'vitrinelaw11.LinkSends'. -/
def linkSendsCard : Claim7 := { stood := { row := linkSendsRow, standIns := [], harness := (true, "d19189fca42cb97fb24156d05357f6f9b66f4dbcd46c4e4d71536857dc94c15b"), looks := false }, kinds := [], alts := [], laidByText := true, laidKinds := [.data, .data, .pinned], laidTests := true, laidLooks := .later }
def LinkSendsCardSaid : Prop := Claim7.holds Tryz.pinned (.plain (OpenSpec.ofChange linkSendsSpec)) linkSendsCard

/-- THE TIED CARD OF 'vitrinelaw11.LinkResponds'. -/
def linkRespondsCard : Claim7 := { stood := { row := linkRespondsRow, standIns := [], harness := (true, "d19189fca42cb97fb24156d05357f6f9b66f4dbcd46c4e4d71536857dc94c15b"), looks := false }, kinds := [], alts := [], laidByText := true, laidKinds := [.data, .data, .pinned], laidTests := true, laidLooks := .later }
def LinkRespondsCardSaid : Prop := Claim7.holds Tryz.pinned (.plain (OpenSpec.ofChange linkRespondsSpec)) linkRespondsCard

/-- THE TIED CARD OF 'vitrinelaw11.LinkCuts'. -/
def linkCutsCard : Claim7 := { stood := { row := linkCutsRow, standIns := [], harness := (true, "d19189fca42cb97fb24156d05357f6f9b66f4dbcd46c4e4d71536857dc94c15b"), looks := false }, kinds := [], alts := [], laidByText := true, laidKinds := [.data, .data, .pinned], laidTests := true, laidLooks := .later }
def LinkCutsCardSaid : Prop := Claim7.holds Tryz.pinned (.plain (OpenSpec.ofChange linkCutsSpec)) linkCutsCard

/-- THE TIED CARD OF 'vitrinelaw11.LinkNil'. -/
def linkNilCard : Claim7 := { stood := { row := linkNilRow, standIns := [], harness := (true, "d19189fca42cb97fb24156d05357f6f9b66f4dbcd46c4e4d71536857dc94c15b"), looks := false }, kinds := [], alts := [], laidByText := true, laidKinds := [.data, .data, .pinned], laidTests := true, laidLooks := .later }
def LinkNilCardSaid : Prop := Claim7.holds Tryz.pinned (.plain (OpenSpec.ofChange linkNilSpec)) linkNilCard

/-- THE SECOND FORM's CARD OF 'vitrinelaw11.LinkPlain'. -/
def linkPlainUptoCard : Claim7 := { stood := { row := linkPlainUptoRow, standIns := [], harness := (true, "d19189fca42cb97fb24156d05357f6f9b66f4dbcd46c4e4d71536857dc94c15b"), looks := false }, kinds := [], alts := [], laidByText := true, laidKinds := [.data, .data, .pinned], laidTests := true, laidLooks := .later }
def LinkPlainUptoCardSaid : Prop := Claim7.holds Tryz.pinned (.plain (OpenSpec.upto linkPlainSpec)) linkPlainUptoCard

/-- THE SECOND FORM's CARD OF 'vitrinelaw11.LinkSends'. -/
def linkSendsUptoCard : Claim7 := { stood := { row := linkSendsUptoRow, standIns := [], harness := (true, "d19189fca42cb97fb24156d05357f6f9b66f4dbcd46c4e4d71536857dc94c15b"), looks := false }, kinds := [], alts := [], laidByText := true, laidKinds := [.data, .data, .pinned], laidTests := true, laidLooks := .later }
def LinkSendsUptoCardSaid : Prop := Claim7.holds Tryz.pinned (.plain (OpenSpec.upto linkSendsSpec)) linkSendsUptoCard

/-- THE SECOND FORM's CARD OF 'vitrinelaw11.LinkResponds'. -/
def linkRespondsUptoCard : Claim7 := { stood := { row := linkRespondsUptoRow, standIns := [], harness := (true, "d19189fca42cb97fb24156d05357f6f9b66f4dbcd46c4e4d71536857dc94c15b"), looks := false }, kinds := [], alts := [], laidByText := true, laidKinds := [.data, .data, .pinned], laidTests := true, laidLooks := .later }
def LinkRespondsUptoCardSaid : Prop := Claim7.holds Tryz.pinned (.plain (OpenSpec.upto linkRespondsSpec)) linkRespondsUptoCard

/-- THE SECOND FORM's CARD OF 'vitrinelaw11.LinkCuts'. -/
def linkCutsUptoCard : Claim7 := { stood := { row := linkCutsUptoRow, standIns := [], harness := (true, "d19189fca42cb97fb24156d05357f6f9b66f4dbcd46c4e4d71536857dc94c15b"), looks := false }, kinds := [], alts := [], laidByText := true, laidKinds := [.data, .data, .pinned], laidTests := true, laidLooks := .later }
def LinkCutsUptoCardSaid : Prop := Claim7.holds Tryz.pinned (.plain (OpenSpec.upto linkCutsSpec)) linkCutsUptoCard

/-- THE SECOND FORM's CARD OF 'vitrinelaw11.LinkNil'. -/
def linkNilUptoCard : Claim7 := { stood := { row := linkNilUptoRow, standIns := [], harness := (true, "d19189fca42cb97fb24156d05357f6f9b66f4dbcd46c4e4d71536857dc94c15b"), looks := false }, kinds := [], alts := [], laidByText := true, laidKinds := [.data, .data, .pinned], laidTests := true, laidLooks := .later }
def LinkNilUptoCardSaid : Prop := Claim7.holds Tryz.pinned (.plain (OpenSpec.upto linkNilSpec)) linkNilUptoCard
end Rows
end Go.Proofs.YteaidaolablegaaGreatDoor
