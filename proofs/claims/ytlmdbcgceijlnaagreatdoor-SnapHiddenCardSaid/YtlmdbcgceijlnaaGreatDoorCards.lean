/-
  DERIVED. GIVEN WITH THE SEED: THE CARDS: each row of YtlmdbcgceijlnaaGreatDoorRows.lean that lists a variable, with what it lists TIED to the program's text (the seventh form; the later family's looks); each row that meets fmt, with fmt's text TOLD by the authors' own Lean function (tested against real Go, not proved from fmt's source: count such statements apart). THE CARD IS WHAT COUNTS. Prove the row's statement (the work); the ties are given (YtlmdbcgceijlnaaGreatDoorTie.lean); close each card by the builder's one call (the guide's Derived/Test/ToyasCard.lean, 'card_holds'). Laid BY PROGRAM, IN A SANDBOX (cutbox-door.mjs). By AI agents, Wed Nov 11 2026. No macro, syntax, notation, axiom, sorry.
-/
import Derived.Test.YtlmdbcgceijlnaaGreatDoorRows
import GoSem.ClaimSeven
namespace Go.Proofs.YtlmdbcgceijlnaaGreatDoor
namespace Rows

/-- THE TIED CARD OF 'vitrinelaw26.SnapFinds'. -/
def snapFindsCard : Claim7 := { stood := { row := snapFindsRow, standIns := [], harness := (true, "5a1ad0a2d04f834780bc346c34c429b76a38c5027598146cd46bac42d6781b5d"), looks := false }, kinds := [], alts := [], laidByText := true, laidKinds := [.data, .pinned], laidTests := true, laidLooks := .later }
def SnapFindsCardSaid : Prop := Claim7.holds Tryz.pinned (.plain (OpenSpec.ofChange snapFindsSpec)) snapFindsCard

/-- THE TIED CARD OF 'vitrinelaw26.SnapDiffs'. -/
def snapDiffsCard : Claim7 := { stood := { row := snapDiffsRow, standIns := [], harness := (true, "5a1ad0a2d04f834780bc346c34c429b76a38c5027598146cd46bac42d6781b5d"), looks := false }, kinds := [], alts := [], laidByText := true, laidKinds := [.data, .pinned], laidTests := true, laidLooks := .later }
def SnapDiffsCardSaid : Prop := Claim7.holds Tryz.pinned (.plain (OpenSpec.ofChange snapDiffsSpec)) snapDiffsCard

/-- THE TIED CARD OF 'vitrinelaw26.SnapLines'. -/
def snapLinesCard : Claim7 := { stood := { row := snapLinesRow, standIns := [], harness := (true, "5a1ad0a2d04f834780bc346c34c429b76a38c5027598146cd46bac42d6781b5d"), looks := false }, kinds := [], alts := [], laidByText := true, laidKinds := [.data, .pinned], laidTests := true, laidLooks := .later }
def SnapLinesCardSaid : Prop := Claim7.holds Tryz.pinned (.plain (OpenSpec.ofChange snapLinesSpec)) snapLinesCard

/-- THE TIED CARD OF 'vitrinelaw26.SnapFields'. -/
def snapFieldsCard : Claim7 := { stood := { row := snapFieldsRow, standIns := [], harness := (true, "5a1ad0a2d04f834780bc346c34c429b76a38c5027598146cd46bac42d6781b5d"), looks := false }, kinds := [], alts := [], laidByText := true, laidKinds := [.data, .data, .data, .data, .pinned], laidTests := true, laidLooks := .later }
def SnapFieldsCardSaid : Prop := Claim7.holds Tryz.pinned (.plain (OpenSpec.ofChange snapFieldsSpec)) snapFieldsCard

/-- THE TIED CARD OF 'vitrinelaw18.KeysAIDs'. -/
def keysAIDsCard : Claim7 := { stood := { row := keysAIDsRow, standIns := [], harness := (true, "5a1ad0a2d04f834780bc346c34c429b76a38c5027598146cd46bac42d6781b5d"), looks := false }, kinds := [], alts := [], laidByText := true, laidKinds := [.data, .data, .data], laidTests := true, laidLooks := .later }
def KeysAIDsCardSaid : Prop := Claim7.holds Tryz.pinned (.plain (OpenSpec.ofChange keysAIDsSpec)) keysAIDsCard

/-- THE TIED CARD OF 'vitrinelaw26.SnapHidden'. -/
def snapHiddenCard : Claim7 := { stood := { row := snapHiddenRow, standIns := [], harness := (true, "5a1ad0a2d04f834780bc346c34c429b76a38c5027598146cd46bac42d6781b5d"), looks := false }, kinds := [], alts := [], laidByText := true, laidKinds := [.data, .data, .data, .data, .pinned], laidTests := true, laidLooks := .later }
def SnapHiddenCardSaid : Prop := Claim7.holds Tryz.pinned (.plain (OpenSpec.ofChange snapHiddenSpec)) snapHiddenCard

/-- THE SECOND FORM's CARD OF 'vitrinelaw26.SnapFinds'. -/
def snapFindsUptoCard : Claim7 := { stood := { row := snapFindsUptoRow, standIns := [], harness := (true, "5a1ad0a2d04f834780bc346c34c429b76a38c5027598146cd46bac42d6781b5d"), looks := false }, kinds := [], alts := [], laidByText := true, laidKinds := [.data, .pinned], laidTests := true, laidLooks := .later }
def SnapFindsUptoCardSaid : Prop := Claim7.holds Tryz.pinned (.plain (OpenSpec.upto snapFindsSpec)) snapFindsUptoCard

/-- THE SECOND FORM's CARD OF 'vitrinelaw26.SnapDiffs'. -/
def snapDiffsUptoCard : Claim7 := { stood := { row := snapDiffsUptoRow, standIns := [], harness := (true, "5a1ad0a2d04f834780bc346c34c429b76a38c5027598146cd46bac42d6781b5d"), looks := false }, kinds := [], alts := [], laidByText := true, laidKinds := [.data, .pinned], laidTests := true, laidLooks := .later }
def SnapDiffsUptoCardSaid : Prop := Claim7.holds Tryz.pinned (.plain (OpenSpec.upto snapDiffsSpec)) snapDiffsUptoCard

/-- THE SECOND FORM's CARD OF 'vitrinelaw26.SnapLines'. -/
def snapLinesUptoCard : Claim7 := { stood := { row := snapLinesUptoRow, standIns := [], harness := (true, "5a1ad0a2d04f834780bc346c34c429b76a38c5027598146cd46bac42d6781b5d"), looks := false }, kinds := [], alts := [], laidByText := true, laidKinds := [.data, .pinned], laidTests := true, laidLooks := .later }
def SnapLinesUptoCardSaid : Prop := Claim7.holds Tryz.pinned (.plain (OpenSpec.upto snapLinesSpec)) snapLinesUptoCard

/-- THE SECOND FORM's CARD OF 'vitrinelaw26.SnapFields'. -/
def snapFieldsUptoCard : Claim7 := { stood := { row := snapFieldsUptoRow, standIns := [], harness := (true, "5a1ad0a2d04f834780bc346c34c429b76a38c5027598146cd46bac42d6781b5d"), looks := false }, kinds := [], alts := [], laidByText := true, laidKinds := [.data, .data, .data, .data, .pinned], laidTests := true, laidLooks := .later }
def SnapFieldsUptoCardSaid : Prop := Claim7.holds Tryz.pinned (.plain (OpenSpec.upto snapFieldsSpec)) snapFieldsUptoCard

/-- THE SECOND FORM's CARD OF 'vitrinelaw18.KeysAIDs'. -/
def keysAIDsUptoCard : Claim7 := { stood := { row := keysAIDsUptoRow, standIns := [], harness := (true, "5a1ad0a2d04f834780bc346c34c429b76a38c5027598146cd46bac42d6781b5d"), looks := false }, kinds := [], alts := [], laidByText := true, laidKinds := [.data, .data, .data], laidTests := true, laidLooks := .later }
def KeysAIDsUptoCardSaid : Prop := Claim7.holds Tryz.pinned (.plain (OpenSpec.upto keysAIDsSpec)) keysAIDsUptoCard

/-- THE SECOND FORM's CARD OF 'vitrinelaw26.SnapHidden'. -/
def snapHiddenUptoCard : Claim7 := { stood := { row := snapHiddenUptoRow, standIns := [], harness := (true, "5a1ad0a2d04f834780bc346c34c429b76a38c5027598146cd46bac42d6781b5d"), looks := false }, kinds := [], alts := [], laidByText := true, laidKinds := [.data, .data, .data, .data, .pinned], laidTests := true, laidLooks := .later }
def SnapHiddenUptoCardSaid : Prop := Claim7.holds Tryz.pinned (.plain (OpenSpec.upto snapHiddenSpec)) snapHiddenUptoCard
end Rows
end Go.Proofs.YtlmdbcgceijlnaaGreatDoor
