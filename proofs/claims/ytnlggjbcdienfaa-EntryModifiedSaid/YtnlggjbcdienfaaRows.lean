/-
  No cell of these rows narrows 'for every input' (looked for: loops, veiled, ifaces, maps, wideKeys, modest, calm, conditions, laid).
  DERIVED. THE GIVEN ROWS OF THIS SEAT. 4 by the template 'for every input the law returns true; each argument reads behind the call as it read before'; 0 by the template 'total and deterministic' (their statements: YtnlggjbcdienfaaTotals.lean).
  GIVEN WITH THE SEED: the statements are not yours to turn. If you find one false, say at which input.
  Laid BY PROGRAM, IN A SANDBOX (cutbox-rows.mjs): the forced cells as the released guide's own fill.sh prints them over the translation d0ed9cb3daab6e77… (all of the seat's roots in one cut). By AI agents, Wed Nov 11 2026. No macro, syntax, notation, axiom, sorry.
-/
import Derived.Test.YtnlggjbcdienfaaChecked
import GoSem.Claim
import GoSem.ClaimJoined
import GoSem.ClaimMapViews
import Derived.JoinedTies
import Derived.KernelRfl
namespace Go.Proofs.Ytnlggjbcdienfaa
/- THE CELL 'sum', in the pinned program and in every row, IS THE sha256 OF THE DUMP (.gsa) THAT YtnlggjbcdienfaaProg.lean LOADS. Nothing in Lean hashes anything: it is a label: what it is worth is what the hold of that sum in a sandbox is worth. -/
noncomputable def Try.pinned : Pinned := { name := "ytnlggjbcdienfaa", sum := "d0ed9cb3daab6e77a5c2451e4f78cf86e98f0dcb73451968af15d42e589d3770", checked := Try.checked }
namespace Rows
def none {H : Type} : Left H := { results := [], args := [] }

/-- 'vitrinelaw19.ReadFields': WHATEVER THE INPUT: true; the input reads as it did. -/
def readFieldsSpec : ChangeSpec := { name := "readFields", fn := fun _ => fun
  | [d1, d2, d3] => { results := [.lit (.bool true)], args := [d1, d2, d3] }
  | _ => none }
def readFieldsRow : OpenClaim := { program := "ytnlggjbcdienfaa", sum := "d0ed9cb3daab6e77a5c2451e4f78cf86e98f0dcb73451968af15d42e589d3770", func := "vitrine/vitrinelaw19.ReadFields", spec := "readFields", unfollowed := true, recurses := true, apart := false }
def ReadFieldsSaid : Prop := readFieldsRow.holds Try.pinned (OpenSpec.ofChange readFieldsSpec)

/-- ITS FALSE NEIGHBOUR: 'it returns false'. Refute it at one input. -/
def readFieldsWrong : ChangeSpec := { name := "readFields", fn := fun _ => fun
  | [d1, d2, d3] => { results := [.lit (.bool false)], args := [d1, d2, d3] }
  | _ => none }
def ReadFieldsWrongFalsely : Prop := readFieldsRow.holds Try.pinned (OpenSpec.ofChange readFieldsWrong)

/-- 'vitrinelaw19.ReadShort': WHATEVER THE INPUT: true; the input reads as it did. -/
def readShortSpec : ChangeSpec := { name := "readShort", fn := fun _ => fun
  | [d1, d2, d3, d4] => { results := [.lit (.bool true)], args := [d1, d2, d3, d4] }
  | _ => none }
def readShortRow : OpenClaim := { program := "ytnlggjbcdienfaa", sum := "d0ed9cb3daab6e77a5c2451e4f78cf86e98f0dcb73451968af15d42e589d3770", func := "vitrine/vitrinelaw19.ReadShort", spec := "readShort", unfollowed := true, recurses := true, apart := false }
def ReadShortSaid : Prop := readShortRow.holds Try.pinned (OpenSpec.ofChange readShortSpec)

/-- ITS FALSE NEIGHBOUR: 'it returns false'. Refute it at one input. -/
def readShortWrong : ChangeSpec := { name := "readShort", fn := fun _ => fun
  | [d1, d2, d3, d4] => { results := [.lit (.bool false)], args := [d1, d2, d3, d4] }
  | _ => none }
def ReadShortWrongFalsely : Prop := readShortRow.holds Try.pinned (OpenSpec.ofChange readShortWrong)

/-- 'vitrinelaw19.ReadNil': WHATEVER THE INPUT: true; the input reads as it did. -/
def readNilSpec : ChangeSpec := { name := "readNil", fn := fun _ => fun
  | [d1, d2, d3] => { results := [.lit (.bool true)], args := [d1, d2, d3] }
  | _ => none }
def readNilRow : OpenClaim := { program := "ytnlggjbcdienfaa", sum := "d0ed9cb3daab6e77a5c2451e4f78cf86e98f0dcb73451968af15d42e589d3770", func := "vitrine/vitrinelaw19.ReadNil", spec := "readNil", unfollowed := true, recurses := true, apart := false }
def ReadNilSaid : Prop := readNilRow.holds Try.pinned (OpenSpec.ofChange readNilSpec)

/-- ITS FALSE NEIGHBOUR: 'it returns false'. Refute it at one input. -/
def readNilWrong : ChangeSpec := { name := "readNil", fn := fun _ => fun
  | [d1, d2, d3] => { results := [.lit (.bool false)], args := [d1, d2, d3] }
  | _ => none }
def ReadNilWrongFalsely : Prop := readNilRow.holds Try.pinned (OpenSpec.ofChange readNilWrong)

/-- 'vitrinelaw20.EntryModified': WHATEVER THE INPUT: true; the input reads as it did. -/
def entryModifiedSpec : ChangeSpec := { name := "entryModified", fn := fun _ => fun
  | [d1, d2, d3, d4] => { results := [.lit (.bool true)], args := [d1, d2, d3, d4] }
  | _ => none }
def entryModifiedRow : OpenClaim := { program := "ytnlggjbcdienfaa", sum := "d0ed9cb3daab6e77a5c2451e4f78cf86e98f0dcb73451968af15d42e589d3770", func := "vitrine/vitrinelaw20.EntryModified", spec := "entryModified", unfollowed := true, recurses := true, apart := false }
def EntryModifiedSaid : Prop := entryModifiedRow.holds Try.pinned (OpenSpec.ofChange entryModifiedSpec)

/-- ITS FALSE NEIGHBOUR: 'it returns false'. Refute it at one input. -/
def entryModifiedWrong : ChangeSpec := { name := "entryModified", fn := fun _ => fun
  | [d1, d2, d3, d4] => { results := [.lit (.bool false)], args := [d1, d2, d3, d4] }
  | _ => none }
def EntryModifiedWrongFalsely : Prop := entryModifiedRow.holds Try.pinned (OpenSpec.ofChange entryModifiedWrong)

/- THE SECOND FORM. 'bulk': how many values and letters a reading holds, each counted each time it is reached (what is shared counts as often as it is met; a slice's spare places count too). A statement '..UptoSaid' is the law's where the arguments, and the package variables that the reading takes, are together of bulk at most 1048576: NARROWER than '..Said'. Prove '..Said' where nothing that the law and all that it calls make is longer than what came in: it says more and counts as full. Else prove '..UptoSaid'. A law counts once. -/
mutual
def uptoBulk {H : Type} : DataW H → Nat
  | .lit (.string bytes) => bytes.length + 1
  | .lit _ => 1
  | .nil => 1
  | .ptr d => uptoBulk d + 1
  | .slice elems spare => uptoBulkAll elems + uptoBulkAll spare + 1
  | .agg parts => uptoBulkAll parts + 1
  | .iface _ d => uptoBulk d + 1
  | .map entries => uptoBulkEntries entries + 1
  | .held _ => 1
def uptoBulkAll {H : Type} : List (DataW H) → Nat
  | [] => 0
  | d :: r => uptoBulk d + uptoBulkAll r
def uptoBulkEntries {H : Type} : List (Lit × DataW H) → Nat
  | [] => 0
  | x :: r => uptoBulkEntry x + uptoBulkEntries r
def uptoBulkEntry {H : Type} : Lit × DataW H → Nat
  | (.string bytes, d) => bytes.length + uptoBulk d + 1
  | (_, d) => uptoBulk d + 1
 end
def uptoSmall : (H : Type) → List (DataW H) → Bool := fun _ ds => decide (uptoBulkAll ds ≤ 1048576)
def OpenSpec.upto (s : _root_.Go.ChangeSpec) : _root_.Go.OpenSpec := { _root_.Go.OpenSpec.ofChange s with cond := some uptoSmall }

/-- 'vitrinelaw19.ReadFields', WHERE WHAT IT READS IS OF BULK AT MOST 1048576: true; the input reads as it did. -/
def readFieldsUptoRow : OpenClaim := { program := "ytnlggjbcdienfaa", sum := "d0ed9cb3daab6e77a5c2451e4f78cf86e98f0dcb73451968af15d42e589d3770", func := "vitrine/vitrinelaw19.ReadFields", spec := "readFields", unfollowed := true, recurses := true, apart := false, narrowed := true }
def ReadFieldsUptoSaid : Prop := readFieldsUptoRow.holds Try.pinned (OpenSpec.upto readFieldsSpec)

/-- 'vitrinelaw19.ReadShort', WHERE WHAT IT READS IS OF BULK AT MOST 1048576: true; the input reads as it did. -/
def readShortUptoRow : OpenClaim := { program := "ytnlggjbcdienfaa", sum := "d0ed9cb3daab6e77a5c2451e4f78cf86e98f0dcb73451968af15d42e589d3770", func := "vitrine/vitrinelaw19.ReadShort", spec := "readShort", unfollowed := true, recurses := true, apart := false, narrowed := true }
def ReadShortUptoSaid : Prop := readShortUptoRow.holds Try.pinned (OpenSpec.upto readShortSpec)

/-- 'vitrinelaw19.ReadNil', WHERE WHAT IT READS IS OF BULK AT MOST 1048576: true; the input reads as it did. -/
def readNilUptoRow : OpenClaim := { program := "ytnlggjbcdienfaa", sum := "d0ed9cb3daab6e77a5c2451e4f78cf86e98f0dcb73451968af15d42e589d3770", func := "vitrine/vitrinelaw19.ReadNil", spec := "readNil", unfollowed := true, recurses := true, apart := false, narrowed := true }
def ReadNilUptoSaid : Prop := readNilUptoRow.holds Try.pinned (OpenSpec.upto readNilSpec)

/-- 'vitrinelaw20.EntryModified', WHERE WHAT IT READS IS OF BULK AT MOST 1048576: true; the input reads as it did. -/
def entryModifiedUptoRow : OpenClaim := { program := "ytnlggjbcdienfaa", sum := "d0ed9cb3daab6e77a5c2451e4f78cf86e98f0dcb73451968af15d42e589d3770", func := "vitrine/vitrinelaw20.EntryModified", spec := "entryModified", unfollowed := true, recurses := true, apart := false, narrowed := true }
def EntryModifiedUptoSaid : Prop := entryModifiedUptoRow.holds Try.pinned (OpenSpec.upto entryModifiedSpec)

end Rows
end Go.Proofs.Ytnlggjbcdienfaa
