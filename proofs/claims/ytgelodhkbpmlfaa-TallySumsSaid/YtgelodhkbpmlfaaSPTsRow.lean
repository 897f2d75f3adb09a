/-
  TallySums: for every input the law returns true, and the arguments read as they did.
-/
import Derived.Test.YtgelodhkbpmlfaaSPart15
import Derived.Test.YtgelodhkbpmlfaaRows
set_option linter.unusedSimpArgs false
set_option linter.unusedVariables false
namespace Go.Proofs.Ytgelodhkbpmlfaa
open Go Go.AL Go.ChangeShapes Go.WideShapes Go.ChangeAt Go.RowKit

theorem own_tallySums : ownKnob Try.prog.godebug = none := by kernel_rfl
theorem laid_tallySums : laidOutB Try.prog = true := by kernel_rfl
theorem rec22_tallySums : Try.prog.readableRec 22 = true := by kernel_rfl
theorem row22_tallySums : (22 : TypeId) < Try.prog.types.size := of_decide_eq_true (by kernel_rfl)
theorem rec23_tallySums : Try.prog.readableRec 23 = true := by kernel_rfl
theorem row23_tallySums : (23 : TypeId) < Try.prog.types.size := of_decide_eq_true (by kernel_rfl)

set_option maxRecDepth 100000 in
theorem tallySums_lifted (os : Os) (started : os.Started) (H : Type) (enc : TypeId × Value → H) :
    ReturnsInHanded {} Try.checked os 4 .any (Rows.tallySumsSpec.pre6 enc Try.prog Try.f4 Rows.tallySumsRow.domain false) (Rows.tallySumsSpec.post enc Try.prog Try.f4 false true false false) := by
  refine returnsInHanded_of_change (C := Try.checked) own_tallySums started (by kernel_rfl) Try.func4
    (ChangeSpec.witness6 (enc := enc) (C := Try.checked) false ⟨#[], #[.slice none 0 0, .slice none 0 0, .slice none 0 0, .slice none 0 0], []⟩ 8 (by kernel_rfl) (by kernel_rfl) (by kernel_rfl) (by kernel_rfl)) ?_
  intro W base args ds gs before hval0 hW hcnd _
  have hval : ∀ (j : Nat) t v, Try.f4.params[j]? = some t → args[j]? = some v → Value.okWide Try.prog W .any base t v := hval0
  have hW' := hW
  obtain ⟨p, q, hA0, hV, rfl, hfz, hnd⟩ := hW
  have hA : DataW.TrodAll enc Try.prog W 0 (fun _ => true) true Try.f4.params.toList args.toList ds p := hA0
  rw [Try.params4] at hA hval
  obtain ⟨v0, v1, v2, v3, d0, d1, d2, d3, p0, p1, p2, p3, rfl, rfl, rfl, h0, h1, h2, h3⟩ := trodAll_four hA
  obtain ⟨rfl, rfl⟩ := trodVars_none hV
  obtain ⟨_, _, _, hv0⟩ := okWide_slice Try.underlying22 (hval 0 22 v0 rfl rfl)
  obtain ⟨a0, m0, w0⟩ := (open_strs).arg _ (fun _ => rfl) (by rw [hv0]; rfl) h0
  obtain ⟨_, _, _, hv1⟩ := okWide_slice Try.underlying22 (hval 1 22 v1 rfl rfl)
  obtain ⟨a1, m1, w1⟩ := (open_strs).arg _ (fun _ => rfl) (by rw [hv1]; rfl) h1
  obtain ⟨_, _, _, hv2⟩ := okWide_slice Try.underlying23 (hval 2 23 v2 rfl rfl)
  obtain ⟨a2, m2, w2⟩ := (open_opns).arg _ (fun _ => rfl) (by rw [hv2]; rfl) h2
  obtain ⟨_, _, _, hv3⟩ := okWide_slice Try.underlying23 (hval 3 23 v3 rfl rfl)
  obtain ⟨a3, m3, w3⟩ := (open_opns).arg _ (fun _ => rfl) (by rw [hv3]; rfl) h3
  clear hA0 hval0
  simp only [List.append_nil] at hW'
  have hlt : ∀ x ∈ p0 ++ p1 ++ p2 ++ p3, x.block < W.heap.size := fun x hx => hW'.lt x hx
  refine (law_calls (tallySums_law a0 a1 m0 m1 a2 a3 m2 m3 _) W #[v0, v1, v2, v3] rfl (fun i c u hc hu => ?_) (laid_none W)).mono fun e W' ⟨he, hb⟩ => ?_
  · match i with
    | 0 => simp at hc hu; subst hc hu; exact ⟨w0, rfl⟩
    | 1 => simp at hc hu; subst hc hu; exact ⟨w1, rfl⟩
    | 2 => simp at hc hu; subst hc hu; exact ⟨w2, rfl⟩
    | 3 => simp at hc hu; subst hc hu; exact ⟨w3, rfl⟩
    | n + 4 => simp at hc
  subst he
  refine ⟨_, rfl, [d0, d1, d2, d3], [], p0 ++ p1 ++ p2 ++ p3, [], p0 ++ (p1 ++ (p2 ++ p3)), [], hW', ?_, ?_, rfl, hb.frame _, fun h => (by cases h)⟩
  · exact trodAll_mk1 (shut_bool Try.underlying4 true)
  · refine trodAll_mk4 (Below.trod laid_tallySums rec22_tallySums row22_tallySums h0 hb fun x hx => hlt x (by simp [hx])) (Below.trod laid_tallySums rec22_tallySums row22_tallySums h1 hb fun x hx => hlt x (by simp [hx])) (Below.trod laid_tallySums rec23_tallySums row23_tallySums h2 hb fun x hx => hlt x (by simp [hx])) (Below.trod laid_tallySums rec23_tallySums row23_tallySums h3 hb fun x hx => hlt x (by simp [hx]))

theorem tallySums_holds : Rows.TallySumsSaid :=
  OpenClaim.holds_of_wide 4 Try.f4 rfl rfl rfl rfl rfl rfl rfl ⟨rfl, rfl, rfl, rfl, rfl⟩ rfl rfl rfl rfl rfl (by kernel_rfl) Try.func4 (by kernel_rfl)
    (of_decide_eq_true (by kernel_rfl)) (by unfold Func.isWrapper; first | (rw [if_pos (by decide +kernel)]; kernel_rfl) | (rw [if_neg (by decide +kernel)]; exact ⟨rfl, rfl⟩))
    (fun os started H enc _ => tallySums_lifted os started H enc)
end Go.Proofs.Ytgelodhkbpmlfaa
