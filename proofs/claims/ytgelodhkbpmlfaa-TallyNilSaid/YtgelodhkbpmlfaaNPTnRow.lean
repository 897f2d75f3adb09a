/-
  TallyNil: for every input the law returns true, and the arguments read as they did.
-/
import Derived.Test.YtgelodhkbpmlfaaNPart13
import Derived.Test.YtgelodhkbpmlfaaRows
set_option linter.unusedSimpArgs false
set_option linter.unusedVariables false
namespace Go.Proofs.Ytgelodhkbpmlfaa
open Go Go.AL Go.ChangeShapes Go.WideShapes Go.ChangeAt Go.RowKit

theorem own_tallyNil : ownKnob Try.prog.godebug = none := by kernel_rfl
theorem laid_tallyNil : laidOutB Try.prog = true := by kernel_rfl
theorem rec33_tallyNil : Try.prog.readableRec 33 = true := by kernel_rfl
theorem row33_tallyNil : (33 : TypeId) < Try.prog.types.size := of_decide_eq_true (by kernel_rfl)
theorem rec9_tallyNil : Try.prog.readableRec 9 = true := by kernel_rfl
theorem row9_tallyNil : (9 : TypeId) < Try.prog.types.size := of_decide_eq_true (by kernel_rfl)

set_option maxRecDepth 100000 in
theorem tallyNil_lifted (os : Os) (started : os.Started) (H : Type) (enc : TypeId × Value → H) :
    ReturnsInHanded {} Try.checked os 5 .any (Rows.tallyNilSpec.pre6 enc Try.prog Try.f5 Rows.tallyNilRow.domain false) (Rows.tallyNilSpec.post enc Try.prog Try.f5 false true false false) := by
  refine returnsInHanded_of_change (C := Try.checked) own_tallyNil started (by kernel_rfl) Try.func5
    (ChangeSpec.witness6 (enc := enc) (C := Try.checked) false ⟨#[], #[.string ⟨#[]⟩, .int .u64 0], []⟩ 8 (by kernel_rfl) (by kernel_rfl) (by kernel_rfl) (by kernel_rfl)) ?_
  intro W base args ds gs before hval0 hW hcnd _
  have hval : ∀ (j : Nat) t v, Try.f5.params[j]? = some t → args[j]? = some v → Value.okWide Try.prog W .any base t v := hval0
  have hW' := hW
  obtain ⟨p, q, hA0, hV, rfl, hfz, hnd⟩ := hW
  have hA : DataW.TrodAll enc Try.prog W 0 (fun _ => true) true Try.f5.params.toList args.toList ds p := hA0
  rw [Try.params5] at hA hval
  obtain ⟨v0, v1, d0, d1, p0, p1, rfl, rfl, rfl, h0, h1⟩ := trodAll_two hA
  obtain ⟨rfl, rfl⟩ := trodVars_none hV
  obtain ⟨_, hv0⟩ := okWide_string Try.underlying9 (hval 0 9 v0 rfl rfl)
  obtain ⟨a0, m0, w0⟩ := (Opens.string Try.underlying9).arg _ (fun _ => rfl) (by rw [hv0]; rfl) h0
  obtain ⟨_, hv1⟩ := okWide_int Try.underlying33 (hval 1 33 v1 rfl rfl)
  obtain ⟨a1, m1, w1⟩ := (open_u64).arg _ (fun _ => rfl) (by rw [hv1]; rfl) h1
  clear hA0 hval0
  simp only [List.append_nil] at hW'
  have hlt : ∀ x ∈ p0 ++ p1, x.block < W.heap.size := fun x hx => hW'.lt x hx
  refine (law_calls (tallyNil_law a0 a1 _) W #[v0, v1] rfl (fun i c u hc hu => ?_) (laid_none W)).mono fun e W' ⟨he, hb⟩ => ?_
  · match i with
    | 0 => simp at hc hu; subst hc hu; exact ⟨w0, rfl⟩
    | 1 => simp at hc hu; subst hc hu; exact ⟨w1, rfl⟩
    | n + 2 => simp at hc
  subst he
  refine ⟨_, rfl, [d0, d1], [], p0 ++ p1, [], p0 ++ p1, [], hW', ?_, ?_, rfl, hb.frame _, fun h => (by cases h)⟩
  · exact trodAll_mk1 (shut_bool Try.underlying4 true)
  · refine trodAll_mk2 (Below.trod laid_tallyNil rec9_tallyNil row9_tallyNil h0 hb fun x hx => hlt x (by simp [hx])) (Below.trod laid_tallyNil rec33_tallyNil row33_tallyNil h1 hb fun x hx => hlt x (by simp [hx]))

theorem tallyNil_holds : Rows.TallyNilSaid :=
  OpenClaim.holds_of_wide 5 Try.f5 rfl rfl rfl rfl rfl rfl rfl ⟨rfl, rfl, rfl, rfl, rfl⟩ rfl rfl rfl rfl rfl (by kernel_rfl) Try.func5 (by kernel_rfl)
    (of_decide_eq_true (by kernel_rfl)) (by unfold Func.isWrapper; first | (rw [if_pos (by decide +kernel)]; kernel_rfl) | (rw [if_neg (by decide +kernel)]; exact ⟨rfl, rfl⟩))
    (fun os started H enc _ => tallyNil_lifted os started H enc)
end Go.Proofs.Ytgelodhkbpmlfaa
