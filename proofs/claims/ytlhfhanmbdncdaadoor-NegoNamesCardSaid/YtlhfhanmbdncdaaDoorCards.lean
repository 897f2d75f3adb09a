/-
  DERIVED. GIVEN WITH THE SEED: THE CARDS: each row of YtlhfhanmbdncdaaDoorRows.lean that lists a variable, with what it lists TIED to the program's text (the seventh form; the later family's looks); each row that meets fmt, with fmt's text TOLD by the authors' own Lean function (tested against real Go, not proved from fmt's source: count such statements apart). THE CARD IS WHAT COUNTS. Prove the row's statement (the work); the ties are given (YtlhfhanmbdncdaaDoorTie.lean); close each card by the builder's one call (the guide's Derived/Test/ToyasCard.lean, 'card_holds'). Laid BY PROGRAM, IN A SANDBOX (cutbox-door.mjs). By AI agents, Wed Nov 11 2026. No macro, syntax, notation, axiom, sorry.
-/
import Derived.Test.YtlhfhanmbdncdaaDoorRows
import GoSem.ClaimSeven
namespace Go.Proofs.YtlhfhanmbdncdaaDoor
namespace Rows

/-- THE TIED CARD OF 'vitrinelaw10.NegoNames'. -/
def negoNamesCard : Claim7 := { stood := { row := negoNamesRow, standIns := [], harness := (true, "9f4e5c0452dcdafaefe7b70834bdc99d8566d7113aaede59a49f8ec184062d92"), looks := false }, kinds := [], alts := [], laidByText := true, laidKinds := [.data], laidTests := true, laidLooks := .later }
def NegoNamesCardSaid : Prop := Claim7.holds Tryd.pinned (.plain (OpenSpec.ofChange negoNamesSpec)) negoNamesCard

/-- THE SECOND FORM's CARD OF 'vitrinelaw10.NegoNames'. -/
def negoNamesUptoCard : Claim7 := { stood := { row := negoNamesUptoRow, standIns := [], harness := (true, "9f4e5c0452dcdafaefe7b70834bdc99d8566d7113aaede59a49f8ec184062d92"), looks := false }, kinds := [], alts := [], laidByText := true, laidKinds := [.data], laidTests := true, laidLooks := .later }
def NegoNamesUptoCardSaid : Prop := Claim7.holds Tryd.pinned (.plain (OpenSpec.upto negoNamesSpec)) negoNamesUptoCard
end Rows
end Go.Proofs.YtlhfhanmbdncdaaDoor
