/-
  DERIVED. GIVEN WITH THE SEED: THE CARDS: each row of YtkfhpnfgnjmdbaaDoorRows.lean that lists a variable, with what it lists TIED to the program's text (the seventh form; the later family's looks); each row that meets fmt, with fmt's text TOLD by the authors' own Lean function (tested against real Go, not proved from fmt's source: count such statements apart). THE CARD IS WHAT COUNTS. Prove the row's statement (the work); the ties are given (YtkfhpnfgnjmdbaaDoorTie.lean); close each card by the builder's one call (the guide's Derived/Test/ToyasCard.lean, 'card_holds'). Laid BY PROGRAM, IN A SANDBOX (cutbox-door.mjs). By AI agents, Wed Nov 11 2026. No macro, syntax, notation, axiom, sorry.
-/
import Derived.Test.YtkfhpnfgnjmdbaaDoorRows
import GoSem.ClaimSeven
namespace Go.Proofs.YtkfhpnfgnjmdbaaDoor
namespace Rows

/-- THE TIED CARD OF 'vitrinelaw06.TelnetLong'. -/
def telnetLongCard : Claim7 := { stood := { row := telnetLongRow, standIns := [], harness := (true, "aff377d722ce4fe91f63d939b4765468665cf2dacceb1a93fe48518f3c3607e5"), looks := false }, kinds := [], alts := [], laidByText := true, laidKinds := [.data, .pinned], laidTests := true, laidLooks := .later }
def TelnetLongCardSaid : Prop := Claim7.holds Tryd.pinned (.plain (OpenSpec.ofChange telnetLongSpec)) telnetLongCard

/-- THE TIED CARD OF 'vitrinelaw06.TelnetWrites'. -/
def telnetWritesCard : Claim7 := { stood := { row := telnetWritesRow, standIns := [], harness := (true, "aff377d722ce4fe91f63d939b4765468665cf2dacceb1a93fe48518f3c3607e5"), looks := false }, kinds := [], alts := [], laidByText := true, laidKinds := [.data, .pinned], laidTests := true, laidLooks := .later }
def TelnetWritesCardSaid : Prop := Claim7.holds Tryd.pinned (.plain (OpenSpec.ofChange telnetWritesSpec)) telnetWritesCard

/-- THE SECOND FORM's CARD OF 'vitrinelaw06.TelnetLong'. -/
def telnetLongUptoCard : Claim7 := { stood := { row := telnetLongUptoRow, standIns := [], harness := (true, "aff377d722ce4fe91f63d939b4765468665cf2dacceb1a93fe48518f3c3607e5"), looks := false }, kinds := [], alts := [], laidByText := true, laidKinds := [.data, .pinned], laidTests := true, laidLooks := .later }
def TelnetLongUptoCardSaid : Prop := Claim7.holds Tryd.pinned (.plain (OpenSpec.upto telnetLongSpec)) telnetLongUptoCard

/-- THE SECOND FORM's CARD OF 'vitrinelaw06.TelnetWrites'. -/
def telnetWritesUptoCard : Claim7 := { stood := { row := telnetWritesUptoRow, standIns := [], harness := (true, "aff377d722ce4fe91f63d939b4765468665cf2dacceb1a93fe48518f3c3607e5"), looks := false }, kinds := [], alts := [], laidByText := true, laidKinds := [.data, .pinned], laidTests := true, laidLooks := .later }
def TelnetWritesUptoCardSaid : Prop := Claim7.holds Tryd.pinned (.plain (OpenSpec.upto telnetWritesSpec)) telnetWritesUptoCard
end Rows
end Go.Proofs.YtkfhpnfgnjmdbaaDoor
