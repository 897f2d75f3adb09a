/-
  NARROWER THAN 'FOR EVERY INPUT', by the rows' own cells (each row's printed sentence says how): EntryReplays: laid.
  DERIVED. THE GIVEN ROWS OF THIS SEAT. 1 by the template 'for every input the law returns true; each argument reads behind the call as it read before'; 0 by the template 'total and deterministic' (their statements: YtjnopnpkfhopbaaGreatDoorTotals.lean).
  GIVEN WITH THE SEED: the statements are not yours to turn. If you find one false, say at which input.
  Laid BY PROGRAM, IN A SANDBOX (cutbox-rows.mjs): the forced cells as the released guide's own fill.sh prints them over the translation 0b716bcac4a62c2d… (all of the seat's roots in one cut). By AI agents, Wed Nov 11 2026. No macro, syntax, notation, axiom, sorry.
-/
import Derived.Test.YtjnopnpkfhopbaaGreatDoorChecked
import GoSem.Claim
import GoSem.ClaimJoined
import GoSem.ClaimMapViews
import Derived.JoinedTies
import Derived.KernelRfl
namespace Go.Proofs.YtjnopnpkfhopbaaGreatDoor
/- THE CELL 'sum', in the pinned program and in every row, IS THE sha256 OF THE DUMP (.gsa) THAT YtjnopnpkfhopbaaGreatDoorProg.lean LOADS. Nothing in Lean hashes anything: it is a label: what it is worth is what the hold of that sum in a sandbox is worth. -/
noncomputable def Tryz.pinned : Pinned := { name := "ytjnopnpkfhopbaagreatdoor", sum := "0b716bcac4a62c2d330c6b2d9cf638b17d73587216794b4691969299b55f7bbd", checked := Tryz.checked }
namespace Rows
def none {H : Type} : Left H := { results := [], args := [] }

/- WHAT THE LISTED PACKAGE-LEVEL VARIABLES READ AS WHEN THE CALL BEGINS. Each datum BY PROGRAM (the guide's laid-datum.mjs) off the statement by which the dump's own 'gosem.cut.vars' lays the variable. In a bare row this is a premise. The card (YtjnopnpkfhopbaaGreatDoorCards.lean) ties it to the program's text. -/
def laid_vitrine_write_names {H : Type} : DataW H := .agg [.agg [.lit (.string [78, 111, 116, 104, 105, 110, 103]), .lit (.int .u8 3), .lit (.int .u8 3)], .agg [.lit (.string [87, 114, 105, 116, 101]), .lit (.int .u8 1), .lit (.int .u8 241)], .agg [.lit (.string [69, 114, 97, 115, 101, 87, 114, 105, 116, 101]), .lit (.int .u8 5), .lit (.int .u8 245)], .agg [.lit (.string [69, 114, 97, 115, 101, 65, 108, 116, 101, 114, 110, 97, 116, 101]), .lit (.int .u8 13), .lit (.int .u8 126)], .agg [.lit (.string [69, 114, 97, 115, 101, 85, 110, 112, 114, 111, 116, 101, 99, 116, 101, 100]), .lit (.int .u8 15), .lit (.int .u8 111)], .agg [.lit (.string [82, 101, 97, 100, 66, 117, 102, 102, 101, 114]), .lit (.int .u8 2), .lit (.int .u8 242)], .agg [.lit (.string [82, 101, 97, 100, 77, 111, 100, 105, 102, 105, 101, 100]), .lit (.int .u8 6), .lit (.int .u8 246)], .agg [.lit (.string [82, 101, 97, 100, 65, 108, 108]), .lit (.int .u8 14), .lit (.int .u8 110)], .agg [.lit (.string [83, 116, 114, 117, 99, 116, 117, 114, 101, 100]), .lit (.int .u8 17), .lit (.int .u8 243)]]

/-- 'vitrinelaw20.EntryReplays': WHATEVER THE INPUT: true; the input reads as it did. -/
def entryReplaysSpec : ChangeSpec := { name := "entryReplays", fn := fun _ => fun
  | [d1, d2, d3, d4, d5] => { results := [.lit (.bool true)], args := [d1, d2, d3, d4, d5] }
  | _ => none }
def entryReplaysRow : OpenClaim := { program := "ytjnopnpkfhopbaagreatdoor", sum := "0b716bcac4a62c2d330c6b2d9cf638b17d73587216794b4691969299b55f7bbd", func := "vitrine/vitrinelaw20.EntryReplays", spec := "entryReplays", unfollowed := true, recurses := true, named := ["vitrine/write.names"], apart := false, laid := [("vitrine/write.names", laid_vitrine_write_names)] }
def EntryReplaysSaid : Prop := entryReplaysRow.holds Tryz.pinned (OpenSpec.ofChange entryReplaysSpec)

/-- ITS FALSE NEIGHBOUR: 'it returns false'. Refute it at one input. -/
def entryReplaysWrong : ChangeSpec := { name := "entryReplays", fn := fun _ => fun
  | [d1, d2, d3, d4, d5] => { results := [.lit (.bool false)], args := [d1, d2, d3, d4, d5] }
  | _ => none }
def EntryReplaysWrongFalsely : Prop := entryReplaysRow.holds Tryz.pinned (OpenSpec.ofChange entryReplaysWrong)

/- THE SECOND FORM. 'bulk': how many values and letters a reading holds, each counted each time it is reached (what is shared counts as often as it is met; a slice's spare places count too). A statement '..UptoSaid' is the law's where the arguments, and the package variables that the reading takes, are together of bulk at most 1048576: NARROWER than '..Said'. Prove '..Said' where nothing that the law and all that it calls make is longer than what came in: it says more and counts as full. Else prove '..UptoSaid'. A law counts once. -/
mutual
def uptoBulk {H : Type} : DataW H → Nat
  | .lit (.string bytes) => bytes.length + 1
  | .lit _ => 1
  | .nil => 1
  | .ptr d => uptoBulk d + 1
  | .slice elems spare => uptoBulkAll elems + uptoBulkAll spare + 1
  | .agg parts => uptoBulkAll parts + 1
  | .iface _ d => uptoBulk d + 1
  | .map entries => uptoBulkEntries entries + 1
  | .held _ => 1
def uptoBulkAll {H : Type} : List (DataW H) → Nat
  | [] => 0
  | d :: r => uptoBulk d + uptoBulkAll r
def uptoBulkEntries {H : Type} : List (Lit × DataW H) → Nat
  | [] => 0
  | x :: r => uptoBulkEntry x + uptoBulkEntries r
def uptoBulkEntry {H : Type} : Lit × DataW H → Nat
  | (.string bytes, d) => bytes.length + uptoBulk d + 1
  | (_, d) => uptoBulk d + 1
 end
def uptoSmall : (H : Type) → List (DataW H) → Bool := fun _ ds => decide (uptoBulkAll ds ≤ 1048576)
def OpenSpec.upto (s : _root_.Go.ChangeSpec) : _root_.Go.OpenSpec := { _root_.Go.OpenSpec.ofChange s with cond := some uptoSmall }

/-- 'vitrinelaw20.EntryReplays', WHERE WHAT IT READS IS OF BULK AT MOST 1048576: true; the input reads as it did. -/
def entryReplaysUptoRow : OpenClaim := { program := "ytjnopnpkfhopbaagreatdoor", sum := "0b716bcac4a62c2d330c6b2d9cf638b17d73587216794b4691969299b55f7bbd", func := "vitrine/vitrinelaw20.EntryReplays", spec := "entryReplays", unfollowed := true, recurses := true, named := ["vitrine/write.names"], apart := false, laid := [("vitrine/write.names", laid_vitrine_write_names)], narrowed := true }
def EntryReplaysUptoSaid : Prop := entryReplaysUptoRow.holds Tryz.pinned (OpenSpec.upto entryReplaysSpec)

end Rows
end Go.Proofs.YtjnopnpkfhopbaaGreatDoor
