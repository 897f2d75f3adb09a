/-
  No cell of these rows narrows 'for every input' (looked for: loops, veiled, ifaces, maps, wideKeys, modest, calm, conditions, laid).
  DERIVED. THE GIVEN ROWS OF THIS SEAT. 4 by the template 'for every input the law returns true; each argument reads behind the call as it read before'; 0 by the template 'total and deterministic' (their statements: YtkfhpnfgnjmdbaaTotals.lean).
  GIVEN WITH THE SEED: the statements are not yours to turn. If you find one false, say at which input.
  Laid BY PROGRAM, IN A SANDBOX (cutbox-rows.mjs): the forced cells as the released guide's own fill.sh prints them over the translation 5c914c8f85ba446f… (all of the seat's roots in one cut). By AI agents, Wed Nov 11 2026. No macro, syntax, notation, axiom, sorry.
-/
import Derived.Test.YtkfhpnfgnjmdbaaChecked
import GoSem.Claim
import GoSem.ClaimJoined
import GoSem.ClaimMapViews
import Derived.JoinedTies
import Derived.KernelRfl
namespace Go.Proofs.Ytkfhpnfgnjmdbaa
/- THE CELL 'sum', in the pinned program and in every row, IS THE sha256 OF THE DUMP (.gsa) THAT YtkfhpnfgnjmdbaaProg.lean LOADS. Nothing in Lean hashes anything: it is a label: what it is worth is what the hold of that sum in a sandbox is worth. -/
noncomputable def Try.pinned : Pinned := { name := "ytkfhpnfgnjmdbaa", sum := "5c914c8f85ba446fbccdb80adbe79194cdc621f0e38a62c242e50530c9ffd7dc", checked := Try.checked }
namespace Rows
def none {H : Type} : Left H := { results := [], args := [] }

/-- 'vitrinelaw06.TelnetEvents': WHATEVER THE INPUT: true; the input reads as it did. -/
def telnetEventsSpec : ChangeSpec := { name := "telnetEvents", fn := fun _ => fun
  | [d1, d2] => { results := [.lit (.bool true)], args := [d1, d2] }
  | _ => none }
def telnetEventsRow : OpenClaim := { program := "ytkfhpnfgnjmdbaa", sum := "5c914c8f85ba446fbccdb80adbe79194cdc621f0e38a62c242e50530c9ffd7dc", func := "vitrine/vitrinelaw06.TelnetEvents", spec := "telnetEvents", unfollowed := true, recurses := true, apart := false }
def TelnetEventsSaid : Prop := telnetEventsRow.holds Try.pinned (OpenSpec.ofChange telnetEventsSpec)

/-- ITS FALSE NEIGHBOUR: 'it returns false'. Refute it at one input. -/
def telnetEventsWrong : ChangeSpec := { name := "telnetEvents", fn := fun _ => fun
  | [d1, d2] => { results := [.lit (.bool false)], args := [d1, d2] }
  | _ => none }
def TelnetEventsWrongFalsely : Prop := telnetEventsRow.holds Try.pinned (OpenSpec.ofChange telnetEventsWrong)

/-- 'vitrinelaw06.TelnetMerges': WHATEVER THE INPUT: true; the input reads as it did. -/
def telnetMergesSpec : ChangeSpec := { name := "telnetMerges", fn := fun _ => fun
  | [d] => { results := [.lit (.bool true)], args := [d] }
  | _ => none }
def telnetMergesRow : OpenClaim := { program := "ytkfhpnfgnjmdbaa", sum := "5c914c8f85ba446fbccdb80adbe79194cdc621f0e38a62c242e50530c9ffd7dc", func := "vitrine/vitrinelaw06.TelnetMerges", spec := "telnetMerges", apart := false }
def TelnetMergesSaid : Prop := telnetMergesRow.holds Try.pinned (OpenSpec.ofChange telnetMergesSpec)

/-- ITS FALSE NEIGHBOUR: 'it returns false'. Refute it at one input. -/
def telnetMergesWrong : ChangeSpec := { name := "telnetMerges", fn := fun _ => fun
  | [d] => { results := [.lit (.bool false)], args := [d] }
  | _ => none }
def TelnetMergesWrongFalsely : Prop := telnetMergesRow.holds Try.pinned (OpenSpec.ofChange telnetMergesWrong)

/-- 'vitrinelaw06.TelnetReads': WHATEVER THE INPUT: true; the input reads as it did. -/
def telnetReadsSpec : ChangeSpec := { name := "telnetReads", fn := fun _ => fun
  | [d1, d2] => { results := [.lit (.bool true)], args := [d1, d2] }
  | _ => none }
def telnetReadsRow : OpenClaim := { program := "ytkfhpnfgnjmdbaa", sum := "5c914c8f85ba446fbccdb80adbe79194cdc621f0e38a62c242e50530c9ffd7dc", func := "vitrine/vitrinelaw06.TelnetReads", spec := "telnetReads", apart := false }
def TelnetReadsSaid : Prop := telnetReadsRow.holds Try.pinned (OpenSpec.ofChange telnetReadsSpec)

/-- ITS FALSE NEIGHBOUR: 'it returns false'. Refute it at one input. -/
def telnetReadsWrong : ChangeSpec := { name := "telnetReads", fn := fun _ => fun
  | [d1, d2] => { results := [.lit (.bool false)], args := [d1, d2] }
  | _ => none }
def TelnetReadsWrongFalsely : Prop := telnetReadsRow.holds Try.pinned (OpenSpec.ofChange telnetReadsWrong)

/-- 'vitrinelaw06.TelnetCuts': WHATEVER THE INPUT: true; the input reads as it did. -/
def telnetCutsSpec : ChangeSpec := { name := "telnetCuts", fn := fun _ => fun
  | [d1, d2, d3] => { results := [.lit (.bool true)], args := [d1, d2, d3] }
  | _ => none }
def telnetCutsRow : OpenClaim := { program := "ytkfhpnfgnjmdbaa", sum := "5c914c8f85ba446fbccdb80adbe79194cdc621f0e38a62c242e50530c9ffd7dc", func := "vitrine/vitrinelaw06.TelnetCuts", spec := "telnetCuts", apart := false }
def TelnetCutsSaid : Prop := telnetCutsRow.holds Try.pinned (OpenSpec.ofChange telnetCutsSpec)

/-- ITS FALSE NEIGHBOUR: 'it returns false'. Refute it at one input. -/
def telnetCutsWrong : ChangeSpec := { name := "telnetCuts", fn := fun _ => fun
  | [d1, d2, d3] => { results := [.lit (.bool false)], args := [d1, d2, d3] }
  | _ => none }
def TelnetCutsWrongFalsely : Prop := telnetCutsRow.holds Try.pinned (OpenSpec.ofChange telnetCutsWrong)

/- THE SECOND FORM. 'bulk': how many values and letters a reading holds, each counted each time it is reached (what is shared counts as often as it is met; a slice's spare places count too). A statement '..UptoSaid' is the law's where the arguments, and the package variables that the reading takes, are together of bulk at most 1048576: NARROWER than '..Said'. Prove '..Said' where nothing that the law and all that it calls make is longer than what came in: it says more and counts as full. Else prove '..UptoSaid'. A law counts once. -/
mutual
def uptoBulk {H : Type} : DataW H → Nat
  | .lit (.string bytes) => bytes.length + 1
  | .lit _ => 1
  | .nil => 1
  | .ptr d => uptoBulk d + 1
  | .slice elems spare => uptoBulkAll elems + uptoBulkAll spare + 1
  | .agg parts => uptoBulkAll parts + 1
  | .iface _ d => uptoBulk d + 1
  | .map entries => uptoBulkEntries entries + 1
  | .held _ => 1
def uptoBulkAll {H : Type} : List (DataW H) → Nat
  | [] => 0
  | d :: r => uptoBulk d + uptoBulkAll r
def uptoBulkEntries {H : Type} : List (Lit × DataW H) → Nat
  | [] => 0
  | x :: r => uptoBulkEntry x + uptoBulkEntries r
def uptoBulkEntry {H : Type} : Lit × DataW H → Nat
  | (.string bytes, d) => bytes.length + uptoBulk d + 1
  | (_, d) => uptoBulk d + 1
 end
def uptoSmall : (H : Type) → List (DataW H) → Bool := fun _ ds => decide (uptoBulkAll ds ≤ 1048576)
def OpenSpec.upto (s : _root_.Go.ChangeSpec) : _root_.Go.OpenSpec := { _root_.Go.OpenSpec.ofChange s with cond := some uptoSmall }

/-- 'vitrinelaw06.TelnetEvents', WHERE WHAT IT READS IS OF BULK AT MOST 1048576: true; the input reads as it did. -/
def telnetEventsUptoRow : OpenClaim := { program := "ytkfhpnfgnjmdbaa", sum := "5c914c8f85ba446fbccdb80adbe79194cdc621f0e38a62c242e50530c9ffd7dc", func := "vitrine/vitrinelaw06.TelnetEvents", spec := "telnetEvents", unfollowed := true, recurses := true, apart := false, narrowed := true }
def TelnetEventsUptoSaid : Prop := telnetEventsUptoRow.holds Try.pinned (OpenSpec.upto telnetEventsSpec)

/-- 'vitrinelaw06.TelnetMerges', WHERE WHAT IT READS IS OF BULK AT MOST 1048576: true; the input reads as it did. -/
def telnetMergesUptoRow : OpenClaim := { program := "ytkfhpnfgnjmdbaa", sum := "5c914c8f85ba446fbccdb80adbe79194cdc621f0e38a62c242e50530c9ffd7dc", func := "vitrine/vitrinelaw06.TelnetMerges", spec := "telnetMerges", apart := false, narrowed := true }
def TelnetMergesUptoSaid : Prop := telnetMergesUptoRow.holds Try.pinned (OpenSpec.upto telnetMergesSpec)

/-- 'vitrinelaw06.TelnetReads', WHERE WHAT IT READS IS OF BULK AT MOST 1048576: true; the input reads as it did. -/
def telnetReadsUptoRow : OpenClaim := { program := "ytkfhpnfgnjmdbaa", sum := "5c914c8f85ba446fbccdb80adbe79194cdc621f0e38a62c242e50530c9ffd7dc", func := "vitrine/vitrinelaw06.TelnetReads", spec := "telnetReads", apart := false, narrowed := true }
def TelnetReadsUptoSaid : Prop := telnetReadsUptoRow.holds Try.pinned (OpenSpec.upto telnetReadsSpec)

/-- 'vitrinelaw06.TelnetCuts', WHERE WHAT IT READS IS OF BULK AT MOST 1048576: true; the input reads as it did. -/
def telnetCutsUptoRow : OpenClaim := { program := "ytkfhpnfgnjmdbaa", sum := "5c914c8f85ba446fbccdb80adbe79194cdc621f0e38a62c242e50530c9ffd7dc", func := "vitrine/vitrinelaw06.TelnetCuts", spec := "telnetCuts", apart := false, narrowed := true }
def TelnetCutsUptoSaid : Prop := telnetCutsUptoRow.holds Try.pinned (OpenSpec.upto telnetCutsSpec)

end Rows
end Go.Proofs.Ytkfhpnfgnjmdbaa
