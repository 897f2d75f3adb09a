/-
  NARROWER THAN 'FOR EVERY INPUT', by the rows' own cells (each row's printed sentence says how): NegoNames: laid.
  DERIVED. THE GIVEN ROWS OF THIS SEAT. 1 by the template 'for every input the law returns true; each argument reads behind the call as it read before'; 0 by the template 'total and deterministic' (their statements: YtlhfhanmbdncdaaDoorTotals.lean).
  GIVEN WITH THE SEED: the statements are not yours to turn. If you find one false, say at which input.
  Laid BY PROGRAM, IN A SANDBOX (cutbox-rows.mjs): the forced cells as the released guide's own fill.sh prints them over the translation 0b25eded38800799… (all of the seat's roots in one cut). By AI agents, Wed Nov 11 2026. No macro, syntax, notation, axiom, sorry.
-/
import Derived.Test.YtlhfhanmbdncdaaDoorChecked
import GoSem.Claim
import GoSem.ClaimJoined
import GoSem.ClaimMapViews
import Derived.JoinedTies
import Derived.KernelRfl
namespace Go.Proofs.YtlhfhanmbdncdaaDoor
/- THE CELL 'sum', in the pinned program and in every row, IS THE sha256 OF THE DUMP (.gsa) THAT YtlhfhanmbdncdaaDoorProg.lean LOADS. Nothing in Lean hashes anything: it is a label: what it is worth is what the hold of that sum in a sandbox is worth. -/
noncomputable def Tryd.pinned : Pinned := { name := "ytlhfhanmbdncdaadoor", sum := "0b25eded3880079909babec3d4cb31122173b91369285cb872027c778eb04c31", checked := Tryd.checked }
namespace Rows
def none {H : Type} : Left H := { results := [], args := [] }

/- WHAT THE LISTED PACKAGE-LEVEL VARIABLES READ AS WHEN THE CALL BEGINS. Each datum BY PROGRAM (the guide's laid-datum.mjs) off the statement by which the dump's own 'gosem.cut.vars' lays the variable. In a bare row this is a premise. The card (YtlhfhanmbdncdaaDoorCards.lean) ties it to the program's text. -/
def laid_vitrine_nego_reasons {H : Type} : DataW H := .agg [.lit (.string [67, 79, 78, 78, 45, 80, 65, 82, 84, 78, 69, 82]), .lit (.string [68, 69, 86, 73, 67, 69, 45, 73, 78, 45, 85, 83, 69]), .lit (.string [73, 78, 86, 45, 65, 83, 83, 79, 67, 73, 65, 84, 69]), .lit (.string [73, 78, 86, 45, 78, 65, 77, 69]), .lit (.string [73, 78, 86, 45, 68, 69, 86, 73, 67, 69, 45, 84, 89, 80, 69]), .lit (.string [84, 89, 80, 69, 45, 78, 65, 77, 69, 45, 69, 82, 82, 79, 82]), .lit (.string [85, 78, 75, 78, 79, 87, 78, 45, 69, 82, 82, 79, 82]), .lit (.string [85, 78, 83, 85, 80, 80, 79, 82, 84, 69, 68, 45, 82, 69, 81])]

/-- 'vitrinelaw10.NegoNames': WHATEVER THE INPUT: true; the input reads as it did. -/
def negoNamesSpec : ChangeSpec := { name := "negoNames", fn := fun _ => fun
  | [d1, d2, d3] => { results := [.lit (.bool true)], args := [d1, d2, d3] }
  | _ => none }
def negoNamesRow : OpenClaim := { program := "ytlhfhanmbdncdaadoor", sum := "0b25eded3880079909babec3d4cb31122173b91369285cb872027c778eb04c31", func := "vitrine/vitrinelaw10.NegoNames", spec := "negoNames", inPlace := ["internal/bytealg.IndexByte", "internal/bytealg.Index"], unfollowed := true, recurses := true, named := ["internal/bytealg.MaxLen", "vitrine/nego.reasons"], apart := false, laid := [("vitrine/nego.reasons", laid_vitrine_nego_reasons)] }
def NegoNamesSaid : Prop := negoNamesRow.holds Tryd.pinned (OpenSpec.ofChange negoNamesSpec)

/-- ITS FALSE NEIGHBOUR: 'it returns false'. Refute it at one input. -/
def negoNamesWrong : ChangeSpec := { name := "negoNames", fn := fun _ => fun
  | [d1, d2, d3] => { results := [.lit (.bool false)], args := [d1, d2, d3] }
  | _ => none }
def NegoNamesWrongFalsely : Prop := negoNamesRow.holds Tryd.pinned (OpenSpec.ofChange negoNamesWrong)

/- THE SECOND FORM. 'bulk': how many values and letters a reading holds, each counted each time it is reached (what is shared counts as often as it is met; a slice's spare places count too). A statement '..UptoSaid' is the law's where the arguments, and the package variables that the reading takes, are together of bulk at most 1048576: NARROWER than '..Said'. Prove '..Said' where nothing that the law and all that it calls make is longer than what came in: it says more and counts as full. Else prove '..UptoSaid'. A law counts once. -/
mutual
def uptoBulk {H : Type} : DataW H → Nat
  | .lit (.string bytes) => bytes.length + 1
  | .lit _ => 1
  | .nil => 1
  | .ptr d => uptoBulk d + 1
  | .slice elems spare => uptoBulkAll elems + uptoBulkAll spare + 1
  | .agg parts => uptoBulkAll parts + 1
  | .iface _ d => uptoBulk d + 1
  | .map entries => uptoBulkEntries entries + 1
  | .held _ => 1
def uptoBulkAll {H : Type} : List (DataW H) → Nat
  | [] => 0
  | d :: r => uptoBulk d + uptoBulkAll r
def uptoBulkEntries {H : Type} : List (Lit × DataW H) → Nat
  | [] => 0
  | x :: r => uptoBulkEntry x + uptoBulkEntries r
def uptoBulkEntry {H : Type} : Lit × DataW H → Nat
  | (.string bytes, d) => bytes.length + uptoBulk d + 1
  | (_, d) => uptoBulk d + 1
 end
def uptoSmall : (H : Type) → List (DataW H) → Bool := fun _ ds => decide (uptoBulkAll ds ≤ 1048576)
def OpenSpec.upto (s : _root_.Go.ChangeSpec) : _root_.Go.OpenSpec := { _root_.Go.OpenSpec.ofChange s with cond := some uptoSmall }

/-- 'vitrinelaw10.NegoNames', WHERE WHAT IT READS IS OF BULK AT MOST 1048576: true; the input reads as it did. -/
def negoNamesUptoRow : OpenClaim := { program := "ytlhfhanmbdncdaadoor", sum := "0b25eded3880079909babec3d4cb31122173b91369285cb872027c778eb04c31", func := "vitrine/vitrinelaw10.NegoNames", spec := "negoNames", inPlace := ["internal/bytealg.IndexByte", "internal/bytealg.Index"], unfollowed := true, recurses := true, named := ["internal/bytealg.MaxLen", "vitrine/nego.reasons"], apart := false, laid := [("vitrine/nego.reasons", laid_vitrine_nego_reasons)], narrowed := true }
def NegoNamesUptoSaid : Prop := negoNamesUptoRow.holds Tryd.pinned (OpenSpec.upto negoNamesSpec)

end Rows
end Go.Proofs.YtlhfhanmbdncdaaDoor
