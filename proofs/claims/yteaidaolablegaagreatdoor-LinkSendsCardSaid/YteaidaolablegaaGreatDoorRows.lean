/-
  NARROWER THAN 'FOR EVERY INPUT', by the rows' own cells (each row's printed sentence says how): LinkPlain: laid · LinkSends: laid · LinkResponds: laid · LinkCuts: laid · LinkNil: laid.
  DERIVED. THE GIVEN ROWS OF THIS SEAT. 5 by the template 'for every input the law returns true; each argument reads behind the call as it read before'; 0 by the template 'total and deterministic' (their statements: YteaidaolablegaaGreatDoorTotals.lean).
  GIVEN WITH THE SEED: the statements are not yours to turn. If you find one false, say at which input.
  Laid BY PROGRAM, IN A SANDBOX (cutbox-rows.mjs): the forced cells as the released guide's own fill.sh prints them over the translation ed77faa7509b30cf… (all of the seat's roots in one cut). By AI agents, Wed Nov 11 2026. No macro, syntax, notation, axiom, sorry.
-/
import Derived.Test.YteaidaolablegaaGreatDoorChecked
import GoSem.PinnedTables
import GoSem.Claim
import GoSem.ClaimJoined
import GoSem.ClaimMapViews
import Derived.JoinedTies
import Derived.KernelRfl
namespace Go.Proofs.YteaidaolablegaaGreatDoor
/- THE CELL 'sum', in the pinned program and in every row, IS THE sha256 OF THE DUMP (.gsa) THAT YteaidaolablegaaGreatDoorProg.lean LOADS. Nothing in Lean hashes anything: it is a label: what it is worth is what the hold of that sum in a sandbox is worth. -/
noncomputable def Tryz.pinned : Pinned := { name := "yteaidaolablegaagreatdoor", sum := "ed77faa7509b30cfafb6c31f6b2cd00a4bbebe23f1834fdd848ec32350ac5fca", checked := Tryz.checked }
namespace Rows
def none {H : Type} : Left H := { results := [], args := [] }

/- WHAT THE LISTED PACKAGE-LEVEL VARIABLES READ AS WHEN THE CALL BEGINS. Each datum BY PROGRAM (the guide's laid-datum.mjs) off the statement by which the dump's own 'gosem.cut.vars' lays the variable. In a bare row this is a premise. The card (YteaidaolablegaaGreatDoorCards.lean) ties it to the program's text. -/
def laid_unicode_utf8_acceptRanges {H : Type} : DataW H := .agg [.agg [.lit (.int .u8 128), .lit (.int .u8 191)], .agg [.lit (.int .u8 160), .lit (.int .u8 191)], .agg [.lit (.int .u8 128), .lit (.int .u8 159)], .agg [.lit (.int .u8 144), .lit (.int .u8 191)], .agg [.lit (.int .u8 128), .lit (.int .u8 143)], .agg [.lit (.int .u8 0), .lit (.int .u8 0)], .agg [.lit (.int .u8 0), .lit (.int .u8 0)], .agg [.lit (.int .u8 0), .lit (.int .u8 0)], .agg [.lit (.int .u8 0), .lit (.int .u8 0)], .agg [.lit (.int .u8 0), .lit (.int .u8 0)], .agg [.lit (.int .u8 0), .lit (.int .u8 0)], .agg [.lit (.int .u8 0), .lit (.int .u8 0)], .agg [.lit (.int .u8 0), .lit (.int .u8 0)], .agg [.lit (.int .u8 0), .lit (.int .u8 0)], .agg [.lit (.int .u8 0), .lit (.int .u8 0)], .agg [.lit (.int .u8 0), .lit (.int .u8 0)]]
def laid_vitrine_header_names {H : Type} : DataW H := .agg [.lit (.string [51, 50, 55, 48, 45, 68, 65, 84, 65]), .lit (.string [83, 67, 83, 45, 68, 65, 84, 65]), .lit (.string [82, 69, 83, 80, 79, 78, 83, 69]), .lit (.string [66, 73, 78, 68, 45, 73, 77, 65, 71, 69]), .lit (.string [85, 78, 66, 73, 78, 68]), .lit (.string [78, 86, 84, 45, 68, 65, 84, 65]), .lit (.string [82, 69, 81, 85, 69, 83, 84]), .lit (.string [83, 83, 67, 80, 45, 76, 85, 45, 68, 65, 84, 65]), .lit (.string [80, 82, 73, 78, 84, 45, 69, 79, 74])]
/-- One of Go's own tables, pinned by name: the form's constant. -/
def laid_unicode_utf8_first : DataW Unit := Go.Pinned.utf8First

/-- 'vitrinelaw11.LinkPlain': WHATEVER THE INPUT: true; the input reads as it did. -/
def linkPlainSpec : ChangeSpec := { name := "linkPlain", fn := fun _ => fun
  | [d1, d2, d3] => { results := [.lit (.bool true)], args := [d1, d2, d3] }
  | _ => none }
def linkPlainRow : OpenClaim := { program := "yteaidaolablegaagreatdoor", sum := "ed77faa7509b30cfafb6c31f6b2cd00a4bbebe23f1834fdd848ec32350ac5fca", func := "vitrine/vitrinelaw11.LinkPlain", spec := "linkPlain", inPlace := ["internal/bytealg.IndexByte", "internal/bytealg.Index", "internal/bytealg.Count"], unfollowed := true, recurses := true, named := ["internal/bytealg.MaxLen", "unicode/utf8.first", "unicode/utf8.acceptRanges", "vitrine/header.names"], apart := false, laid := [("unicode/utf8.acceptRanges", laid_unicode_utf8_acceptRanges), ("vitrine/header.names", laid_vitrine_header_names), ("unicode/utf8.first", laid_unicode_utf8_first)] }
def LinkPlainSaid : Prop := linkPlainRow.holds Tryz.pinned (OpenSpec.ofChange linkPlainSpec)

/-- ITS FALSE NEIGHBOUR: 'it returns false'. Refute it at one input. -/
def linkPlainWrong : ChangeSpec := { name := "linkPlain", fn := fun _ => fun
  | [d1, d2, d3] => { results := [.lit (.bool false)], args := [d1, d2, d3] }
  | _ => none }
def LinkPlainWrongFalsely : Prop := linkPlainRow.holds Tryz.pinned (OpenSpec.ofChange linkPlainWrong)

/-- 'vitrinelaw11.LinkSends': WHATEVER THE INPUT: true; the input reads as it did. -/
def linkSendsSpec : ChangeSpec := { name := "linkSends", fn := fun _ => fun
  | [d1, d2, d3] => { results := [.lit (.bool true)], args := [d1, d2, d3] }
  | _ => none }
def linkSendsRow : OpenClaim := { program := "yteaidaolablegaagreatdoor", sum := "ed77faa7509b30cfafb6c31f6b2cd00a4bbebe23f1834fdd848ec32350ac5fca", func := "vitrine/vitrinelaw11.LinkSends", spec := "linkSends", inPlace := ["internal/bytealg.IndexByte", "internal/bytealg.Index", "internal/bytealg.Count"], unfollowed := true, recurses := true, named := ["internal/bytealg.MaxLen", "unicode/utf8.first", "unicode/utf8.acceptRanges", "vitrine/header.names"], apart := false, laid := [("unicode/utf8.acceptRanges", laid_unicode_utf8_acceptRanges), ("vitrine/header.names", laid_vitrine_header_names), ("unicode/utf8.first", laid_unicode_utf8_first)] }
def LinkSendsSaid : Prop := linkSendsRow.holds Tryz.pinned (OpenSpec.ofChange linkSendsSpec)

/-- ITS FALSE NEIGHBOUR: 'it returns false'. Refute it at one input. -/
def linkSendsWrong : ChangeSpec := { name := "linkSends", fn := fun _ => fun
  | [d1, d2, d3] => { results := [.lit (.bool false)], args := [d1, d2, d3] }
  | _ => none }
def LinkSendsWrongFalsely : Prop := linkSendsRow.holds Tryz.pinned (OpenSpec.ofChange linkSendsWrong)

/-- 'vitrinelaw11.LinkResponds': WHATEVER THE INPUT: true; the input reads as it did. -/
def linkRespondsSpec : ChangeSpec := { name := "linkResponds", fn := fun _ => fun
  | [d1, d2] => { results := [.lit (.bool true)], args := [d1, d2] }
  | _ => none }
def linkRespondsRow : OpenClaim := { program := "yteaidaolablegaagreatdoor", sum := "ed77faa7509b30cfafb6c31f6b2cd00a4bbebe23f1834fdd848ec32350ac5fca", func := "vitrine/vitrinelaw11.LinkResponds", spec := "linkResponds", inPlace := ["internal/bytealg.IndexByte", "internal/bytealg.Index", "internal/bytealg.Count"], unfollowed := true, recurses := true, named := ["internal/bytealg.MaxLen", "unicode/utf8.first", "unicode/utf8.acceptRanges", "vitrine/header.names"], apart := false, laid := [("unicode/utf8.acceptRanges", laid_unicode_utf8_acceptRanges), ("vitrine/header.names", laid_vitrine_header_names), ("unicode/utf8.first", laid_unicode_utf8_first)] }
def LinkRespondsSaid : Prop := linkRespondsRow.holds Tryz.pinned (OpenSpec.ofChange linkRespondsSpec)

/-- ITS FALSE NEIGHBOUR: 'it returns false'. Refute it at one input. -/
def linkRespondsWrong : ChangeSpec := { name := "linkResponds", fn := fun _ => fun
  | [d1, d2] => { results := [.lit (.bool false)], args := [d1, d2] }
  | _ => none }
def LinkRespondsWrongFalsely : Prop := linkRespondsRow.holds Tryz.pinned (OpenSpec.ofChange linkRespondsWrong)

/-- 'vitrinelaw11.LinkCuts': WHATEVER THE INPUT: true; the input reads as it did. -/
def linkCutsSpec : ChangeSpec := { name := "linkCuts", fn := fun _ => fun
  | [d1, d2, d3, d4, d5, d6] => { results := [.lit (.bool true)], args := [d1, d2, d3, d4, d5, d6] }
  | _ => none }
def linkCutsRow : OpenClaim := { program := "yteaidaolablegaagreatdoor", sum := "ed77faa7509b30cfafb6c31f6b2cd00a4bbebe23f1834fdd848ec32350ac5fca", func := "vitrine/vitrinelaw11.LinkCuts", spec := "linkCuts", inPlace := ["internal/bytealg.IndexByte", "internal/bytealg.Index", "internal/bytealg.Count"], unfollowed := true, recurses := true, named := ["internal/bytealg.MaxLen", "unicode/utf8.first", "unicode/utf8.acceptRanges", "vitrine/header.names"], apart := false, laid := [("unicode/utf8.acceptRanges", laid_unicode_utf8_acceptRanges), ("vitrine/header.names", laid_vitrine_header_names), ("unicode/utf8.first", laid_unicode_utf8_first)] }
def LinkCutsSaid : Prop := linkCutsRow.holds Tryz.pinned (OpenSpec.ofChange linkCutsSpec)

/-- ITS FALSE NEIGHBOUR: 'it returns false'. Refute it at one input. -/
def linkCutsWrong : ChangeSpec := { name := "linkCuts", fn := fun _ => fun
  | [d1, d2, d3, d4, d5, d6] => { results := [.lit (.bool false)], args := [d1, d2, d3, d4, d5, d6] }
  | _ => none }
def LinkCutsWrongFalsely : Prop := linkCutsRow.holds Tryz.pinned (OpenSpec.ofChange linkCutsWrong)

/-- 'vitrinelaw11.LinkNil': WHATEVER THE INPUT: true; the input reads as it did. -/
def linkNilSpec : ChangeSpec := { name := "linkNil", fn := fun _ => fun
  | [d] => { results := [.lit (.bool true)], args := [d] }
  | _ => none }
def linkNilRow : OpenClaim := { program := "yteaidaolablegaagreatdoor", sum := "ed77faa7509b30cfafb6c31f6b2cd00a4bbebe23f1834fdd848ec32350ac5fca", func := "vitrine/vitrinelaw11.LinkNil", spec := "linkNil", inPlace := ["internal/bytealg.IndexByte", "internal/bytealg.Index", "internal/bytealg.Count"], unfollowed := true, recurses := true, named := ["internal/bytealg.MaxLen", "unicode/utf8.first", "unicode/utf8.acceptRanges", "vitrine/header.names"], apart := false, laid := [("unicode/utf8.acceptRanges", laid_unicode_utf8_acceptRanges), ("vitrine/header.names", laid_vitrine_header_names), ("unicode/utf8.first", laid_unicode_utf8_first)] }
def LinkNilSaid : Prop := linkNilRow.holds Tryz.pinned (OpenSpec.ofChange linkNilSpec)

/-- ITS FALSE NEIGHBOUR: 'it returns false'. Refute it at one input. -/
def linkNilWrong : ChangeSpec := { name := "linkNil", fn := fun _ => fun
  | [d] => { results := [.lit (.bool false)], args := [d] }
  | _ => none }
def LinkNilWrongFalsely : Prop := linkNilRow.holds Tryz.pinned (OpenSpec.ofChange linkNilWrong)

/- THE SECOND FORM. 'bulk': how many values and letters a reading holds, each counted each time it is reached (what is shared counts as often as it is met; a slice's spare places count too). A statement '..UptoSaid' is the law's where the arguments, and the package variables that the reading takes, are together of bulk at most 1048576: NARROWER than '..Said'. Prove '..Said' where nothing that the law and all that it calls make is longer than what came in: it says more and counts as full. Else prove '..UptoSaid'. A law counts once. -/
mutual
def uptoBulk {H : Type} : DataW H → Nat
  | .lit (.string bytes) => bytes.length + 1
  | .lit _ => 1
  | .nil => 1
  | .ptr d => uptoBulk d + 1
  | .slice elems spare => uptoBulkAll elems + uptoBulkAll spare + 1
  | .agg parts => uptoBulkAll parts + 1
  | .iface _ d => uptoBulk d + 1
  | .map entries => uptoBulkEntries entries + 1
  | .held _ => 1
def uptoBulkAll {H : Type} : List (DataW H) → Nat
  | [] => 0
  | d :: r => uptoBulk d + uptoBulkAll r
def uptoBulkEntries {H : Type} : List (Lit × DataW H) → Nat
  | [] => 0
  | x :: r => uptoBulkEntry x + uptoBulkEntries r
def uptoBulkEntry {H : Type} : Lit × DataW H → Nat
  | (.string bytes, d) => bytes.length + uptoBulk d + 1
  | (_, d) => uptoBulk d + 1
 end
def uptoSmall : (H : Type) → List (DataW H) → Bool := fun _ ds => decide (uptoBulkAll ds ≤ 1048576)
def OpenSpec.upto (s : _root_.Go.ChangeSpec) : _root_.Go.OpenSpec := { _root_.Go.OpenSpec.ofChange s with cond := some uptoSmall }

/-- 'vitrinelaw11.LinkPlain', WHERE WHAT IT READS IS OF BULK AT MOST 1048576: true; the input reads as it did. -/
def linkPlainUptoRow : OpenClaim := { program := "yteaidaolablegaagreatdoor", sum := "ed77faa7509b30cfafb6c31f6b2cd00a4bbebe23f1834fdd848ec32350ac5fca", func := "vitrine/vitrinelaw11.LinkPlain", spec := "linkPlain", inPlace := ["internal/bytealg.IndexByte", "internal/bytealg.Index", "internal/bytealg.Count"], unfollowed := true, recurses := true, named := ["internal/bytealg.MaxLen", "unicode/utf8.first", "unicode/utf8.acceptRanges", "vitrine/header.names"], apart := false, laid := [("unicode/utf8.acceptRanges", laid_unicode_utf8_acceptRanges), ("vitrine/header.names", laid_vitrine_header_names), ("unicode/utf8.first", laid_unicode_utf8_first)], narrowed := true }
def LinkPlainUptoSaid : Prop := linkPlainUptoRow.holds Tryz.pinned (OpenSpec.upto linkPlainSpec)

/-- 'vitrinelaw11.LinkSends', WHERE WHAT IT READS IS OF BULK AT MOST 1048576: true; the input reads as it did. -/
def linkSendsUptoRow : OpenClaim := { program := "yteaidaolablegaagreatdoor", sum := "ed77faa7509b30cfafb6c31f6b2cd00a4bbebe23f1834fdd848ec32350ac5fca", func := "vitrine/vitrinelaw11.LinkSends", spec := "linkSends", inPlace := ["internal/bytealg.IndexByte", "internal/bytealg.Index", "internal/bytealg.Count"], unfollowed := true, recurses := true, named := ["internal/bytealg.MaxLen", "unicode/utf8.first", "unicode/utf8.acceptRanges", "vitrine/header.names"], apart := false, laid := [("unicode/utf8.acceptRanges", laid_unicode_utf8_acceptRanges), ("vitrine/header.names", laid_vitrine_header_names), ("unicode/utf8.first", laid_unicode_utf8_first)], narrowed := true }
def LinkSendsUptoSaid : Prop := linkSendsUptoRow.holds Tryz.pinned (OpenSpec.upto linkSendsSpec)

/-- 'vitrinelaw11.LinkResponds', WHERE WHAT IT READS IS OF BULK AT MOST 1048576: true; the input reads as it did. -/
def linkRespondsUptoRow : OpenClaim := { program := "yteaidaolablegaagreatdoor", sum := "ed77faa7509b30cfafb6c31f6b2cd00a4bbebe23f1834fdd848ec32350ac5fca", func := "vitrine/vitrinelaw11.LinkResponds", spec := "linkResponds", inPlace := ["internal/bytealg.IndexByte", "internal/bytealg.Index", "internal/bytealg.Count"], unfollowed := true, recurses := true, named := ["internal/bytealg.MaxLen", "unicode/utf8.first", "unicode/utf8.acceptRanges", "vitrine/header.names"], apart := false, laid := [("unicode/utf8.acceptRanges", laid_unicode_utf8_acceptRanges), ("vitrine/header.names", laid_vitrine_header_names), ("unicode/utf8.first", laid_unicode_utf8_first)], narrowed := true }
def LinkRespondsUptoSaid : Prop := linkRespondsUptoRow.holds Tryz.pinned (OpenSpec.upto linkRespondsSpec)

/-- 'vitrinelaw11.LinkCuts', WHERE WHAT IT READS IS OF BULK AT MOST 1048576: true; the input reads as it did. -/
def linkCutsUptoRow : OpenClaim := { program := "yteaidaolablegaagreatdoor", sum := "ed77faa7509b30cfafb6c31f6b2cd00a4bbebe23f1834fdd848ec32350ac5fca", func := "vitrine/vitrinelaw11.LinkCuts", spec := "linkCuts", inPlace := ["internal/bytealg.IndexByte", "internal/bytealg.Index", "internal/bytealg.Count"], unfollowed := true, recurses := true, named := ["internal/bytealg.MaxLen", "unicode/utf8.first", "unicode/utf8.acceptRanges", "vitrine/header.names"], apart := false, laid := [("unicode/utf8.acceptRanges", laid_unicode_utf8_acceptRanges), ("vitrine/header.names", laid_vitrine_header_names), ("unicode/utf8.first", laid_unicode_utf8_first)], narrowed := true }
def LinkCutsUptoSaid : Prop := linkCutsUptoRow.holds Tryz.pinned (OpenSpec.upto linkCutsSpec)

/-- 'vitrinelaw11.LinkNil', WHERE WHAT IT READS IS OF BULK AT MOST 1048576: true; the input reads as it did. -/
def linkNilUptoRow : OpenClaim := { program := "yteaidaolablegaagreatdoor", sum := "ed77faa7509b30cfafb6c31f6b2cd00a4bbebe23f1834fdd848ec32350ac5fca", func := "vitrine/vitrinelaw11.LinkNil", spec := "linkNil", inPlace := ["internal/bytealg.IndexByte", "internal/bytealg.Index", "internal/bytealg.Count"], unfollowed := true, recurses := true, named := ["internal/bytealg.MaxLen", "unicode/utf8.first", "unicode/utf8.acceptRanges", "vitrine/header.names"], apart := false, laid := [("unicode/utf8.acceptRanges", laid_unicode_utf8_acceptRanges), ("vitrine/header.names", laid_vitrine_header_names), ("unicode/utf8.first", laid_unicode_utf8_first)], narrowed := true }
def LinkNilUptoSaid : Prop := linkNilUptoRow.holds Tryz.pinned (OpenSpec.upto linkNilSpec)

end Rows
end Go.Proofs.YteaidaolablegaaGreatDoor
