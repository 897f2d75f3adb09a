/-
  No cell of these rows narrows 'for every input' (looked for: loops, veiled, ifaces, maps, wideKeys, modest, calm, conditions, laid).
  DERIVED. THE GIVEN ROWS OF THIS SEAT. 2 by the template 'for every input the law returns true; each argument reads behind the call as it read before'; 0 by the template 'total and deterministic' (their statements: YtkbokmokklbahaaTotals.lean).
  GIVEN WITH THE SEED: the statements are not yours to turn. If you find one false, say at which input.
  Laid BY PROGRAM, IN A SANDBOX (cutbox-rows.mjs): the forced cells as the released guide's own fill.sh prints them over the translation 88b375639020ed22… (all of the seat's roots in one cut). By AI agents, Wed Nov 11 2026. No macro, syntax, notation, axiom, sorry.
-/
import Derived.Test.YtkbokmokklbahaaChecked
import GoSem.Claim
import GoSem.ClaimJoined
import GoSem.ClaimMapViews
import Derived.JoinedTies
import Derived.KernelRfl
namespace Go.Proofs.Ytkbokmokklbahaa
/- THE CELL 'sum', in the pinned program and in every row, IS THE sha256 OF THE DUMP (.gsa) THAT YtkbokmokklbahaaProg.lean LOADS. Nothing in Lean hashes anything: it is a label: what it is worth is what the hold of that sum in a sandbox is worth. -/
noncomputable def Try.pinned : Pinned := { name := "ytkbokmokklbahaa", sum := "88b375639020ed2253feacf06212225f6ca891f6789b9f1c2f94d95539932ab1", checked := Try.checked }
namespace Rows
def none {H : Type} : Left H := { results := [], args := [] }

/-- 'vitrinelaw20.EntryWrites': WHATEVER THE INPUT: true; the input reads as it did. -/
def entryWritesSpec : ChangeSpec := { name := "entryWrites", fn := fun _ => fun
  | [d] => { results := [.lit (.bool true)], args := [d] }
  | _ => none }
def entryWritesRow : OpenClaim := { program := "ytkbokmokklbahaa", sum := "88b375639020ed2253feacf06212225f6ca891f6789b9f1c2f94d95539932ab1", func := "vitrine/vitrinelaw20.EntryWrites", spec := "entryWrites", unfollowed := true, recurses := true, apart := false }
def EntryWritesSaid : Prop := entryWritesRow.holds Try.pinned (OpenSpec.ofChange entryWritesSpec)

/-- ITS FALSE NEIGHBOUR: 'it returns false'. Refute it at one input. -/
def entryWritesWrong : ChangeSpec := { name := "entryWrites", fn := fun _ => fun
  | [d] => { results := [.lit (.bool false)], args := [d] }
  | _ => none }
def EntryWritesWrongFalsely : Prop := entryWritesRow.holds Try.pinned (OpenSpec.ofChange entryWritesWrong)

/-- 'vitrinelaw20.EntryAgain': WHATEVER THE INPUT: true; the input reads as it did. -/
def entryAgainSpec : ChangeSpec := { name := "entryAgain", fn := fun _ => fun
  | [d] => { results := [.lit (.bool true)], args := [d] }
  | _ => none }
def entryAgainRow : OpenClaim := { program := "ytkbokmokklbahaa", sum := "88b375639020ed2253feacf06212225f6ca891f6789b9f1c2f94d95539932ab1", func := "vitrine/vitrinelaw20.EntryAgain", spec := "entryAgain", unfollowed := true, recurses := true, apart := false }
def EntryAgainSaid : Prop := entryAgainRow.holds Try.pinned (OpenSpec.ofChange entryAgainSpec)

/-- ITS FALSE NEIGHBOUR: 'it returns false'. Refute it at one input. -/
def entryAgainWrong : ChangeSpec := { name := "entryAgain", fn := fun _ => fun
  | [d] => { results := [.lit (.bool false)], args := [d] }
  | _ => none }
def EntryAgainWrongFalsely : Prop := entryAgainRow.holds Try.pinned (OpenSpec.ofChange entryAgainWrong)

/- THE SECOND FORM. 'bulk': how many values and letters a reading holds, each counted each time it is reached (what is shared counts as often as it is met; a slice's spare places count too). A statement '..UptoSaid' is the law's where the arguments, and the package variables that the reading takes, are together of bulk at most 1048576: NARROWER than '..Said'. Prove '..Said' where nothing that the law and all that it calls make is longer than what came in: it says more and counts as full. Else prove '..UptoSaid'. A law counts once. -/
mutual
def uptoBulk {H : Type} : DataW H → Nat
  | .lit (.string bytes) => bytes.length + 1
  | .lit _ => 1
  | .nil => 1
  | .ptr d => uptoBulk d + 1
  | .slice elems spare => uptoBulkAll elems + uptoBulkAll spare + 1
  | .agg parts => uptoBulkAll parts + 1
  | .iface _ d => uptoBulk d + 1
  | .map entries => uptoBulkEntries entries + 1
  | .held _ => 1
def uptoBulkAll {H : Type} : List (DataW H) → Nat
  | [] => 0
  | d :: r => uptoBulk d + uptoBulkAll r
def uptoBulkEntries {H : Type} : List (Lit × DataW H) → Nat
  | [] => 0
  | x :: r => uptoBulkEntry x + uptoBulkEntries r
def uptoBulkEntry {H : Type} : Lit × DataW H → Nat
  | (.string bytes, d) => bytes.length + uptoBulk d + 1
  | (_, d) => uptoBulk d + 1
 end
def uptoSmall : (H : Type) → List (DataW H) → Bool := fun _ ds => decide (uptoBulkAll ds ≤ 1048576)
def OpenSpec.upto (s : _root_.Go.ChangeSpec) : _root_.Go.OpenSpec := { _root_.Go.OpenSpec.ofChange s with cond := some uptoSmall }

/-- 'vitrinelaw20.EntryWrites', WHERE WHAT IT READS IS OF BULK AT MOST 1048576: true; the input reads as it did. -/
def entryWritesUptoRow : OpenClaim := { program := "ytkbokmokklbahaa", sum := "88b375639020ed2253feacf06212225f6ca891f6789b9f1c2f94d95539932ab1", func := "vitrine/vitrinelaw20.EntryWrites", spec := "entryWrites", unfollowed := true, recurses := true, apart := false, narrowed := true }
def EntryWritesUptoSaid : Prop := entryWritesUptoRow.holds Try.pinned (OpenSpec.upto entryWritesSpec)

/-- 'vitrinelaw20.EntryAgain', WHERE WHAT IT READS IS OF BULK AT MOST 1048576: true; the input reads as it did. -/
def entryAgainUptoRow : OpenClaim := { program := "ytkbokmokklbahaa", sum := "88b375639020ed2253feacf06212225f6ca891f6789b9f1c2f94d95539932ab1", func := "vitrine/vitrinelaw20.EntryAgain", spec := "entryAgain", unfollowed := true, recurses := true, apart := false, narrowed := true }
def EntryAgainUptoSaid : Prop := entryAgainUptoRow.holds Try.pinned (OpenSpec.upto entryAgainSpec)

end Rows
end Go.Proofs.Ytkbokmokklbahaa
