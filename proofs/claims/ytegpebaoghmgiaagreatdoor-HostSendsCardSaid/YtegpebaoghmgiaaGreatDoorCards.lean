/-
  DERIVED. GIVEN WITH THE SEED: THE CARDS: each row of YtegpebaoghmgiaaGreatDoorRows.lean that lists a variable, with what it lists TIED to the program's text (the seventh form; the later family's looks); each row that meets fmt, with fmt's text TOLD by the authors' own Lean function (tested against real Go, not proved from fmt's source: count such statements apart). THE CARD IS WHAT COUNTS. Prove the row's statement (the work); the ties are given (YtegpebaoghmgiaaGreatDoorTie.lean); close each card by the builder's one call (the guide's Derived/Test/ToyasCard.lean, 'card_holds'). Laid BY PROGRAM, IN A SANDBOX (cutbox-door.mjs). By AI agents, Wed Nov 11 2026. No macro, syntax, notation, axiom, sorry.
-/
import Derived.Test.YtegpebaoghmgiaaGreatDoorRows
import GoSem.ClaimSeven
namespace Go.Proofs.YtegpebaoghmgiaaGreatDoor
namespace Rows

/-- THE TIED CARD OF 'vitrinelaw24.HostSends'. -/
def hostSendsCard : Claim7 := { stood := { row := hostSendsRow, standIns := [], harness := (true, "1ebd7b34e3d28931678999f4aa0a1ef872ae2af59d711ba7ac4b90c225cc7074"), looks := false }, kinds := [], alts := [], laidByText := true, laidKinds := [.data, .data, .pinned], laidTests := true, laidLooks := .later }
def HostSendsCardSaid : Prop := Claim7.holds Tryz.pinned (.plain (OpenSpec.ofChange hostSendsSpec)) hostSendsCard

/-- THE SECOND FORM's CARD OF 'vitrinelaw24.HostSends'. -/
def hostSendsUptoCard : Claim7 := { stood := { row := hostSendsUptoRow, standIns := [], harness := (true, "1ebd7b34e3d28931678999f4aa0a1ef872ae2af59d711ba7ac4b90c225cc7074"), looks := false }, kinds := [], alts := [], laidByText := true, laidKinds := [.data, .data, .pinned], laidTests := true, laidLooks := .later }
def HostSendsUptoCardSaid : Prop := Claim7.holds Tryz.pinned (.plain (OpenSpec.upto hostSendsSpec)) hostSendsUptoCard
end Rows
end Go.Proofs.YtegpebaoghmgiaaGreatDoor
