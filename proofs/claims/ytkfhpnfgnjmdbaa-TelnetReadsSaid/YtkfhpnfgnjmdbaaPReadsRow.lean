/-
  TelnetReads: any stream, in any parts, says what the document says, and is under way just if that is, for every input.
-/
import Derived.Test.YtkfhpnfgnjmdbaaPTake
import Derived.Test.YtkfhpnfgnjmdbaaRows
import Derived.Test.YtkfhpnfgnjmdbaaALLaw
namespace Go.Proofs.Ytkfhpnfgnjmdbaa
open Go Go.AL Go.ChangeShapes Go.WideShapes Go.ChangeAt Go.RowKit

theorem Try.own : ownKnob Try.prog.godebug = none := by kernel_rfl
theorem Try.laidOut : laidOutB Try.prog = true := by kernel_rfl
theorem cells5 : Try.prog.cellsOf 5 = 1 := by kernel_rfl
theorem rec22 : Try.prog.readableRec 22 = true := by kernel_rfl
theorem row22 : (22 : TypeId) < Try.prog.types.size := of_decide_eq_true (by kernel_rfl)

set_option maxRecDepth 100000 in
theorem reads_lifted (os : Os) (started : os.Started) (H : Type) (enc : TypeId × Value → H) :
    ReturnsInHanded {} Try.checked os 5 .any (Rows.telnetReadsSpec.pre6 enc Try.prog Try.f5 Rows.telnetReadsRow.domain false) (Rows.telnetReadsSpec.post enc Try.prog Try.f5 false true false false) := by
  refine returnsInHanded_of_change (C := Try.checked) Try.own started (by kernel_rfl) Try.func5
    (ChangeSpec.witness6 (enc := enc) (C := Try.checked) false ⟨#[], #[.slice none 0 0, .slice none 0 0], []⟩ 8 (by kernel_rfl) (by kernel_rfl) (by kernel_rfl) (by kernel_rfl)) ?_
  intro W base args ds gs before hval0 hW hcnd _
  have hval : ∀ (j : Nat) t v, Try.f5.params[j]? = some t → args[j]? = some v → Value.okWide Try.prog W .any base t v := hval0
  have hW' := hW
  obtain ⟨p, q, hA0, hV, rfl, hfz, hnd⟩ := hW
  have hA : DataW.TrodAll enc Try.prog W 0 (fun _ => true) true Try.f5.params.toList args.toList ds p := hA0
  rw [Try.params5] at hA hval
  obtain ⟨v0, v1, d0, d1, p0, p1, rfl, rfl, rfl, h0, h1⟩ := trodAll_two hA
  obtain ⟨rfl, rfl⟩ := trodVars_none hV
  obtain ⟨l0, w0, m0⟩ := open_bytesVR Try.underlying22 Try.underlying5 cells5 (hval 0 22 v0 rfl rfl) h0
  obtain ⟨l1, w1, m1⟩ := open_bytesVR Try.underlying22 Try.underlying5 cells5 (hval 1 22 v1 rfl rfl) h1
  clear hA0 hval0
  simp only [List.append_nil] at hW'
  have hlt : ∀ x ∈ p0 ++ p1, x.block < W.heap.size := fun x hx => hW'.lt x hx
  refine (law_calls (reads_law l0 l1 (by simpa using m1)) W #[v0, v1] rfl (fun i c u hc hu => ?_)).mono fun e W' ⟨he, hb⟩ => ?_
  · match i with
    | 0 => simp at hc hu; subst hc hu; exact ⟨w0, rfl⟩
    | 1 => simp at hc hu; subst hc hu; exact ⟨w1, rfl⟩
    | n + 2 => simp at hc
  subst he
  refine ⟨_, rfl, [d0, d1], [], p0 ++ p1, [], p0 ++ p1, [], hW', ?_, ?_, rfl, hb.frame _, fun h => (by cases h)⟩
  · exact trodAll_mk1 (shut_bool Try.underlying4 true)
  · refine trodAll_mk2 (Below.trod Try.laidOut rec22 row22 h0 hb fun x hx => hlt x (by simp [hx])) (Below.trod Try.laidOut rec22 row22 h1 hb fun x hx => hlt x (by simp [hx]))

theorem telnetReads_holds : Rows.TelnetReadsSaid :=
  OpenClaim.holds_of_wide 5 Try.f5 rfl rfl rfl rfl rfl rfl rfl ⟨rfl, rfl, rfl, rfl, rfl⟩ rfl rfl rfl rfl rfl (by kernel_rfl) Try.func5 (by kernel_rfl)
    (of_decide_eq_true (by kernel_rfl)) (by unfold Func.isWrapper; first | (rw [if_pos (by decide +kernel)]; kernel_rfl) | (rw [if_neg (by decide +kernel)]; exact ⟨rfl, rfl⟩))
    (fun os started H enc _ => reads_lifted os started H enc)
end Go.Proofs.Ytkfhpnfgnjmdbaa
