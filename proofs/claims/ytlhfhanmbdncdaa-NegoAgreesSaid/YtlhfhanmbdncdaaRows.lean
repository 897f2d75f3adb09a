/-
  No cell of these rows narrows 'for every input' (looked for: loops, veiled, ifaces, maps, wideKeys, modest, calm, conditions, laid).
  DERIVED. THE GIVEN ROWS OF THIS SEAT. 3 by the template 'for every input the law returns true; each argument reads behind the call as it read before'; 0 by the template 'total and deterministic' (their statements: YtlhfhanmbdncdaaTotals.lean).
  GIVEN WITH THE SEED: the statements are not yours to turn. If you find one false, say at which input.
  Laid BY PROGRAM, IN A SANDBOX (cutbox-rows.mjs): the forced cells as the released guide's own fill.sh prints them over the translation dfc2d7f689ecfbce… (all of the seat's roots in one cut). By AI agents, Wed Nov 11 2026. No macro, syntax, notation, axiom, sorry.
-/
import Derived.Test.YtlhfhanmbdncdaaChecked
import GoSem.Claim
import GoSem.ClaimJoined
import GoSem.ClaimMapViews
import Derived.JoinedTies
import Derived.KernelRfl
namespace Go.Proofs.Ytlhfhanmbdncdaa
/- THE CELL 'sum', in the pinned program and in every row, IS THE sha256 OF THE DUMP (.gsa) THAT YtlhfhanmbdncdaaProg.lean LOADS. Nothing in Lean hashes anything: it is a label: what it is worth is what the hold of that sum in a sandbox is worth. -/
noncomputable def Try.pinned : Pinned := { name := "ytlhfhanmbdncdaa", sum := "dfc2d7f689ecfbce2b2a7a1b1bcb3ced97fdb8c276fd284b26d54204f25f67cd", checked := Try.checked }
namespace Rows
def none {H : Type} : Left H := { results := [], args := [] }

/-- 'vitrinelaw10.NegoRefused': WHATEVER THE INPUT: true; the input reads as it did. -/
def negoRefusedSpec : ChangeSpec := { name := "negoRefused", fn := fun _ => fun
  | [d1, d2, d3] => { results := [.lit (.bool true)], args := [d1, d2, d3] }
  | _ => none }
def negoRefusedRow : OpenClaim := { program := "ytlhfhanmbdncdaa", sum := "dfc2d7f689ecfbce2b2a7a1b1bcb3ced97fdb8c276fd284b26d54204f25f67cd", func := "vitrine/vitrinelaw10.NegoRefused", spec := "negoRefused", inPlace := ["internal/bytealg.IndexByte", "internal/bytealg.Index"], unfollowed := true, recurses := true, named := ["internal/bytealg.MaxLen"], apart := false }
def NegoRefusedSaid : Prop := negoRefusedRow.holds Try.pinned (OpenSpec.ofChange negoRefusedSpec)

/-- ITS FALSE NEIGHBOUR: 'it returns false'. Refute it at one input. -/
def negoRefusedWrong : ChangeSpec := { name := "negoRefused", fn := fun _ => fun
  | [d1, d2, d3] => { results := [.lit (.bool false)], args := [d1, d2, d3] }
  | _ => none }
def NegoRefusedWrongFalsely : Prop := negoRefusedRow.holds Try.pinned (OpenSpec.ofChange negoRefusedWrong)

/-- 'vitrinelaw10.NegoAgrees': WHATEVER THE INPUT: true; the input reads as it did. -/
def negoAgreesSpec : ChangeSpec := { name := "negoAgrees", fn := fun _ => fun
  | [d1, d2, d3, d4] => { results := [.lit (.bool true)], args := [d1, d2, d3, d4] }
  | _ => none }
def negoAgreesRow : OpenClaim := { program := "ytlhfhanmbdncdaa", sum := "dfc2d7f689ecfbce2b2a7a1b1bcb3ced97fdb8c276fd284b26d54204f25f67cd", func := "vitrine/vitrinelaw10.NegoAgrees", spec := "negoAgrees", inPlace := ["internal/bytealg.IndexByte", "internal/bytealg.Index"], unfollowed := true, recurses := true, named := ["internal/bytealg.MaxLen"], apart := false }
def NegoAgreesSaid : Prop := negoAgreesRow.holds Try.pinned (OpenSpec.ofChange negoAgreesSpec)

/-- ITS FALSE NEIGHBOUR: 'it returns false'. Refute it at one input. -/
def negoAgreesWrong : ChangeSpec := { name := "negoAgrees", fn := fun _ => fun
  | [d1, d2, d3, d4] => { results := [.lit (.bool false)], args := [d1, d2, d3, d4] }
  | _ => none }
def NegoAgreesWrongFalsely : Prop := negoAgreesRow.holds Try.pinned (OpenSpec.ofChange negoAgreesWrong)

/-- 'vitrinelaw10.NegoPlays': WHATEVER THE INPUT: true; the input reads as it did. -/
def negoPlaysSpec : ChangeSpec := { name := "negoPlays", fn := fun _ => fun
  | [d1, d2] => { results := [.lit (.bool true)], args := [d1, d2] }
  | _ => none }
def negoPlaysRow : OpenClaim := { program := "ytlhfhanmbdncdaa", sum := "dfc2d7f689ecfbce2b2a7a1b1bcb3ced97fdb8c276fd284b26d54204f25f67cd", func := "vitrine/vitrinelaw10.NegoPlays", spec := "negoPlays", inPlace := ["internal/bytealg.IndexByte", "internal/bytealg.Index"], unfollowed := true, recurses := true, named := ["internal/bytealg.MaxLen"], apart := false }
def NegoPlaysSaid : Prop := negoPlaysRow.holds Try.pinned (OpenSpec.ofChange negoPlaysSpec)

/-- ITS FALSE NEIGHBOUR: 'it returns false'. Refute it at one input. -/
def negoPlaysWrong : ChangeSpec := { name := "negoPlays", fn := fun _ => fun
  | [d1, d2] => { results := [.lit (.bool false)], args := [d1, d2] }
  | _ => none }
def NegoPlaysWrongFalsely : Prop := negoPlaysRow.holds Try.pinned (OpenSpec.ofChange negoPlaysWrong)

/- THE SECOND FORM. 'bulk': how many values and letters a reading holds, each counted each time it is reached (what is shared counts as often as it is met; a slice's spare places count too). A statement '..UptoSaid' is the law's where the arguments, and the package variables that the reading takes, are together of bulk at most 1048576: NARROWER than '..Said'. Prove '..Said' where nothing that the law and all that it calls make is longer than what came in: it says more and counts as full. Else prove '..UptoSaid'. A law counts once. -/
mutual
def uptoBulk {H : Type} : DataW H → Nat
  | .lit (.string bytes) => bytes.length + 1
  | .lit _ => 1
  | .nil => 1
  | .ptr d => uptoBulk d + 1
  | .slice elems spare => uptoBulkAll elems + uptoBulkAll spare + 1
  | .agg parts => uptoBulkAll parts + 1
  | .iface _ d => uptoBulk d + 1
  | .map entries => uptoBulkEntries entries + 1
  | .held _ => 1
def uptoBulkAll {H : Type} : List (DataW H) → Nat
  | [] => 0
  | d :: r => uptoBulk d + uptoBulkAll r
def uptoBulkEntries {H : Type} : List (Lit × DataW H) → Nat
  | [] => 0
  | x :: r => uptoBulkEntry x + uptoBulkEntries r
def uptoBulkEntry {H : Type} : Lit × DataW H → Nat
  | (.string bytes, d) => bytes.length + uptoBulk d + 1
  | (_, d) => uptoBulk d + 1
 end
def uptoSmall : (H : Type) → List (DataW H) → Bool := fun _ ds => decide (uptoBulkAll ds ≤ 1048576)
def OpenSpec.upto (s : _root_.Go.ChangeSpec) : _root_.Go.OpenSpec := { _root_.Go.OpenSpec.ofChange s with cond := some uptoSmall }

/-- 'vitrinelaw10.NegoRefused', WHERE WHAT IT READS IS OF BULK AT MOST 1048576: true; the input reads as it did. -/
def negoRefusedUptoRow : OpenClaim := { program := "ytlhfhanmbdncdaa", sum := "dfc2d7f689ecfbce2b2a7a1b1bcb3ced97fdb8c276fd284b26d54204f25f67cd", func := "vitrine/vitrinelaw10.NegoRefused", spec := "negoRefused", inPlace := ["internal/bytealg.IndexByte", "internal/bytealg.Index"], unfollowed := true, recurses := true, named := ["internal/bytealg.MaxLen"], apart := false, narrowed := true }
def NegoRefusedUptoSaid : Prop := negoRefusedUptoRow.holds Try.pinned (OpenSpec.upto negoRefusedSpec)

/-- 'vitrinelaw10.NegoAgrees', WHERE WHAT IT READS IS OF BULK AT MOST 1048576: true; the input reads as it did. -/
def negoAgreesUptoRow : OpenClaim := { program := "ytlhfhanmbdncdaa", sum := "dfc2d7f689ecfbce2b2a7a1b1bcb3ced97fdb8c276fd284b26d54204f25f67cd", func := "vitrine/vitrinelaw10.NegoAgrees", spec := "negoAgrees", inPlace := ["internal/bytealg.IndexByte", "internal/bytealg.Index"], unfollowed := true, recurses := true, named := ["internal/bytealg.MaxLen"], apart := false, narrowed := true }
def NegoAgreesUptoSaid : Prop := negoAgreesUptoRow.holds Try.pinned (OpenSpec.upto negoAgreesSpec)

/-- 'vitrinelaw10.NegoPlays', WHERE WHAT IT READS IS OF BULK AT MOST 1048576: true; the input reads as it did. -/
def negoPlaysUptoRow : OpenClaim := { program := "ytlhfhanmbdncdaa", sum := "dfc2d7f689ecfbce2b2a7a1b1bcb3ced97fdb8c276fd284b26d54204f25f67cd", func := "vitrine/vitrinelaw10.NegoPlays", spec := "negoPlays", inPlace := ["internal/bytealg.IndexByte", "internal/bytealg.Index"], unfollowed := true, recurses := true, named := ["internal/bytealg.MaxLen"], apart := false, narrowed := true }
def NegoPlaysUptoSaid : Prop := negoPlaysUptoRow.holds Try.pinned (OpenSpec.upto negoPlaysSpec)

end Rows
end Go.Proofs.Ytlhfhanmbdncdaa
