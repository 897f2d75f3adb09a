/-
  KeysSelect: for every input the law returns true, and the arguments read as they did.
-/
import Derived.Test.YtlmdbcgceijlnaaGreatSPart25
import Derived.Test.YtlmdbcgceijlnaaGreatRows
set_option linter.unusedSimpArgs false
set_option linter.unusedVariables false
namespace Go.Proofs.YtlmdbcgceijlnaaGreat
open Go Go.AL Go.ChangeShapes Go.WideShapes Go.ChangeAt Go.RowKit

theorem open_i32 : Opens Tryz.prog 21 (fun n : Int => [.lit (.int .i32 n)]) (fun n => (Lit.int .i32 n).wf = true) := Opens.int Tryz.underlying21
theorem own_keysSelect : ownKnob Tryz.prog.godebug = none := by kernel_rfl
theorem laid_keysSelect : laidOutB Tryz.prog = true := by kernel_rfl
theorem rec21_keysSelect : Tryz.prog.readableRec 21 = true := by kernel_rfl
theorem row21_keysSelect : (21 : TypeId) < Tryz.prog.types.size := of_decide_eq_true (by kernel_rfl)
theorem rec4_keysSelect : Tryz.prog.readableRec 4 = true := by kernel_rfl
theorem row4_keysSelect : (4 : TypeId) < Tryz.prog.types.size := of_decide_eq_true (by kernel_rfl)
theorem rec5_keysSelect : Tryz.prog.readableRec 5 = true := by kernel_rfl
theorem row5_keysSelect : (5 : TypeId) < Tryz.prog.types.size := of_decide_eq_true (by kernel_rfl)

set_option maxRecDepth 100000 in
theorem keysSelect_lifted (os : Os) (started : os.Started) (H : Type) (enc : TypeId × Value → H) :
    ReturnsInHanded {} Tryz.checked os 5 .any (Rows.keysSelectSpec.pre6 enc Tryz.prog Tryz.f5 Rows.keysSelectRow.domain false) (Rows.keysSelectSpec.post enc Tryz.prog Tryz.f5 false true false false) := by
  refine returnsInHanded_of_change (C := Tryz.checked) own_keysSelect started (by kernel_rfl) Tryz.func5
    (ChangeSpec.witness6 (enc := enc) (C := Tryz.checked) false ⟨#[], #[.int .u8 0, .int .u8 0, .int .i32 0, .bool false], []⟩ 8 (by kernel_rfl) (by kernel_rfl) (by kernel_rfl) (by kernel_rfl)) ?_
  intro W base args ds gs before hval0 hW hcnd _
  have hval : ∀ (j : Nat) t v, Tryz.f5.params[j]? = some t → args[j]? = some v → Value.okWide Tryz.prog W .any base t v := hval0
  have hW' := hW
  obtain ⟨p, q, hA0, hV, rfl, hfz, hnd⟩ := hW
  have hA : DataW.TrodAll enc Tryz.prog W 0 (fun _ => true) true Tryz.f5.params.toList args.toList ds p := hA0
  rw [Tryz.params5] at hA hval
  obtain ⟨v0, v1, v2, v3, d0, d1, d2, d3, p0, p1, p2, p3, rfl, rfl, rfl, h0, h1, h2, h3⟩ := trodAll_four hA
  obtain ⟨rfl, rfl⟩ := trodVars_none hV
  obtain ⟨_, hv0⟩ := okWide_int Tryz.underlying5 (hval 0 5 v0 rfl rfl)
  obtain ⟨a0, m0, w0⟩ := (Opens.u8 Tryz.underlying5).arg _ (fun _ => rfl) (by rw [hv0]; rfl) h0
  obtain ⟨_, hv1⟩ := okWide_int Tryz.underlying5 (hval 1 5 v1 rfl rfl)
  obtain ⟨a1, m1, w1⟩ := (Opens.u8 Tryz.underlying5).arg _ (fun _ => rfl) (by rw [hv1]; rfl) h1
  obtain ⟨_, hv2⟩ := okWide_int Tryz.underlying21 (hval 2 21 v2 rfl rfl)
  obtain ⟨a2, m2, w2⟩ := (open_i32).arg _ (fun _ => rfl) (by rw [hv2]; rfl) h2
  obtain ⟨_, hv3⟩ := okWide_bool Tryz.underlying4 (hval 3 4 v3 rfl rfl)
  obtain ⟨a3, m3, w3⟩ := (Opens.bool Tryz.underlying4).arg _ (fun _ => rfl) (by rw [hv3]; rfl) h3
  clear hA0 hval0
  simp only [List.append_nil] at hW'
  have hlt : ∀ x ∈ p0 ++ p1 ++ p2 ++ p3, x.block < W.heap.size := fun x hx => hW'.lt x hx
  refine (law_calls (keysSelect_law a0 a1 a2 a3 _) W #[v0, v1, v2, v3] rfl (fun i c u hc hu => ?_) (laid_none W)).mono fun e W' ⟨he, hb⟩ => ?_
  · match i with
    | 0 => simp at hc hu; subst hc hu; exact ⟨w0, rfl⟩
    | 1 => simp at hc hu; subst hc hu; exact ⟨w1, rfl⟩
    | 2 => simp at hc hu; subst hc hu; exact ⟨w2, rfl⟩
    | 3 => simp at hc hu; subst hc hu; exact ⟨w3, rfl⟩
    | n + 4 => simp at hc
  subst he
  refine ⟨_, rfl, [d0, d1, d2, d3], [], p0 ++ p1 ++ p2 ++ p3, [], p0 ++ (p1 ++ (p2 ++ p3)), [], hW', ?_, ?_, rfl, hb.frame _, fun h => (by cases h)⟩
  · exact trodAll_mk1 (shut_bool Tryz.underlying4 true)
  · refine trodAll_mk4 (Below.trod laid_keysSelect rec5_keysSelect row5_keysSelect h0 hb fun x hx => hlt x (by simp [hx])) (Below.trod laid_keysSelect rec5_keysSelect row5_keysSelect h1 hb fun x hx => hlt x (by simp [hx])) (Below.trod laid_keysSelect rec21_keysSelect row21_keysSelect h2 hb fun x hx => hlt x (by simp [hx])) (Below.trod laid_keysSelect rec4_keysSelect row4_keysSelect h3 hb fun x hx => hlt x (by simp [hx]))

theorem keysSelect_holds : Rows.KeysSelectSaid :=
  OpenClaim.holds_of_wide 5 Tryz.f5 rfl rfl rfl rfl rfl rfl rfl ⟨rfl, rfl, rfl, rfl, rfl⟩ rfl rfl rfl rfl rfl (by kernel_rfl) Tryz.func5 (by kernel_rfl)
    (of_decide_eq_true (by kernel_rfl)) (by unfold Func.isWrapper; first | (rw [if_pos (by decide +kernel)]; kernel_rfl) | (rw [if_neg (by decide +kernel)]; exact ⟨rfl, rfl⟩))
    (fun os started H enc _ => keysSelect_lifted os started H enc)
end Go.Proofs.YtlmdbcgceijlnaaGreat
