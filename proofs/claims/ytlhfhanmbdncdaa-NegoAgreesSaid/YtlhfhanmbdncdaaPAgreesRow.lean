/-
  NegoAgrees: for every input the law returns true, and the arguments read as they did.
-/
import Derived.Test.YtlhfhanmbdncdaaPart12
import Derived.Test.YtlhfhanmbdncdaaRows
namespace Go.Proofs.Ytlhfhanmbdncdaa
open Go Go.AL Go.ChangeShapes Go.WideShapes Go.ChangeAt Go.RowKit

theorem own_negoAgrees : ownKnob Try.prog.godebug = none := by kernel_rfl
theorem laid_negoAgrees : laidOutB Try.prog = true := by kernel_rfl
theorem rec22_negoAgrees : Try.prog.readableRec 22 = true := by kernel_rfl
theorem row22_negoAgrees : (22 : TypeId) < Try.prog.types.size := of_decide_eq_true (by kernel_rfl)
theorem rec24_negoAgrees : Try.prog.readableRec 24 = true := by kernel_rfl
theorem row24_negoAgrees : (24 : TypeId) < Try.prog.types.size := of_decide_eq_true (by kernel_rfl)
theorem rec4_negoAgrees : Try.prog.readableRec 4 = true := by kernel_rfl
theorem row4_negoAgrees : (4 : TypeId) < Try.prog.types.size := of_decide_eq_true (by kernel_rfl)
theorem rec9_negoAgrees : Try.prog.readableRec 9 = true := by kernel_rfl
theorem row9_negoAgrees : (9 : TypeId) < Try.prog.types.size := of_decide_eq_true (by kernel_rfl)

set_option maxRecDepth 100000 in
theorem negoAgrees_lifted (os : Os) (started : os.Started) (H : Type) (enc : TypeId × Value → H) :
    ReturnsInHanded {} Try.checked os 4 .any (Rows.negoAgreesSpec.pre6 enc Try.prog Try.f4 Rows.negoAgreesRow.domain false) (Rows.negoAgreesSpec.post enc Try.prog Try.f4 false true false false) := by
  refine returnsInHanded_of_change (C := Try.checked) own_negoAgrees started (by kernel_rfl) Try.func4
    (ChangeSpec.witness6 (enc := enc) (C := Try.checked) false ⟨#[], #[.agg #[.string ⟨#[]⟩, .string ⟨#[]⟩, .slice none 0 0], .slice none 0 0, .string ⟨#[]⟩, .bool false], []⟩ 8 (by kernel_rfl) (by kernel_rfl) (by kernel_rfl) (by kernel_rfl)) ?_
  intro W base args ds gs before hval0 hW hcnd _
  have hval : ∀ (j : Nat) t v, Try.f4.params[j]? = some t → args[j]? = some v → Value.okWide Try.prog W .any base t v := hval0
  have hW' := hW
  obtain ⟨p, q, hA0, hV, rfl, hfz, hnd⟩ := hW
  have hA : DataW.TrodAll enc Try.prog W 0 (fun _ => true) true Try.f4.params.toList args.toList ds p := hA0
  rw [Try.params4] at hA hval
  obtain ⟨v0, v1, v2, v3, d0, d1, d2, d3, p0, p1, p2, p3, rfl, rfl, rfl, h0, h1, h2, h3⟩ := trodAll_four hA
  obtain ⟨rfl, rfl⟩ := trodVars_none hV
  obtain ⟨_, hv0, _⟩ := okWide_struct Try.underlying24 (hval 0 24 v0 rfl rfl)
  obtain ⟨a0, m0, w0⟩ := (open_conf).args hv0 h0
  obtain ⟨_, _, _, hv1⟩ := okWide_slice Try.underlying22 (hval 1 22 v1 rfl rfl)
  obtain ⟨a1, m1, w1⟩ := (open_bytes).arg _ (fun _ => rfl) (by rw [hv1]; rfl) h1
  obtain ⟨_, hv2⟩ := okWide_string Try.underlying9 (hval 2 9 v2 rfl rfl)
  obtain ⟨a2, m2, w2⟩ := (open_str).arg _ (fun _ => rfl) (by rw [hv2]; rfl) h2
  obtain ⟨_, hv3⟩ := okWide_bool Try.underlying4 (hval 3 4 v3 rfl rfl)
  obtain ⟨a3, m3, w3⟩ := (Opens.bool Try.underlying4).arg _ (fun _ => rfl) (by rw [hv3]; rfl) h3
  clear hA0 hval0
  simp only [List.append_nil] at hW'
  have hlt : ∀ x ∈ p0 ++ p1 ++ p2 ++ p3, x.block < W.heap.size := fun x hx => hW'.lt x hx
  refine (law_calls (negoAgrees_said a0 a1 a2 a3 m1 _) W #[v0, v1, v2, v3] rfl (fun i c u hc hu => ?_) (laid_none W)).mono fun e W' ⟨he, hb⟩ => ?_
  · match i with
    | 0 => simp at hc hu; subst hc hu; exact ⟨w0, rfl⟩
    | 1 => simp at hc hu; subst hc hu; exact ⟨w1, rfl⟩
    | 2 => simp at hc hu; subst hc hu; exact ⟨w2, rfl⟩
    | 3 => simp at hc hu; subst hc hu; exact ⟨w3, rfl⟩
    | n + 4 => simp at hc
  subst he
  refine ⟨_, rfl, [d0, d1, d2, d3], [], p0 ++ p1 ++ p2 ++ p3, [], p0 ++ (p1 ++ (p2 ++ p3)), [], hW', ?_, ?_, rfl, hb.frame _, fun h => (by cases h)⟩
  · exact trodAll_mk1 (shut_bool Try.underlying4 true)
  · refine trodAll_mk4 (Below.trod laid_negoAgrees rec24_negoAgrees row24_negoAgrees h0 hb fun x hx => hlt x (by simp [hx])) (Below.trod laid_negoAgrees rec22_negoAgrees row22_negoAgrees h1 hb fun x hx => hlt x (by simp [hx])) (Below.trod laid_negoAgrees rec9_negoAgrees row9_negoAgrees h2 hb fun x hx => hlt x (by simp [hx])) (Below.trod laid_negoAgrees rec4_negoAgrees row4_negoAgrees h3 hb fun x hx => hlt x (by simp [hx]))

theorem negoAgrees_holds : Rows.NegoAgreesSaid :=
  OpenClaim.holds_of_wide 4 Try.f4 rfl rfl rfl rfl rfl rfl rfl ⟨rfl, rfl, rfl, rfl, rfl⟩ rfl rfl rfl rfl rfl (by kernel_rfl) Try.func4 (by kernel_rfl)
    (of_decide_eq_true (by kernel_rfl)) (by unfold Func.isWrapper; first | (rw [if_pos (by decide +kernel)]; kernel_rfl) | (rw [if_neg (by decide +kernel)]; exact ⟨rfl, rfl⟩))
    (fun os started H enc _ => negoAgrees_lifted os started H enc)
end Go.Proofs.Ytlhfhanmbdncdaa
