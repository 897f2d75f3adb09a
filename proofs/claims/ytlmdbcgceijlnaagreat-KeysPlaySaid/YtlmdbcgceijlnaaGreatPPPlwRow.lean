/-
 KeysPlay: for every input the law returns true, and the arguments read as they did.
-/
import Derived.Test.YtlmdbcgceijlnaaGreatPPart29
import Derived.Test.YtlmdbcgceijlnaaGreatRows
set_option linter.unusedSimpArgs false
set_option linter.unusedVariables false
set_option maxRecDepth 8000
set_option maxHeartbeats 8000000

namespace Go.Proofs.YtlmdbcgceijlnaaGreat
open Go Go.AL Go.ChangeShapes Go.WideShapes Go.ChangeAt Go.RowKit
theorem own_keysPlay : ownKnob Tryz.prog.godebug = none := by kernel_rfl
theorem laid_keysPlay : laidOutB Tryz.prog = true := by kernel_rfl
theorem rec23_keysPlay : Tryz.prog.readableRec 23 = true := by kernel_rfl
theorem row23_keysPlay : (23 : TypeId) < Tryz.prog.types.size := of_decide_eq_true (by kernel_rfl)
theorem rec29_keysPlay : Tryz.prog.readableRec 29 = true := by kernel_rfl
theorem row29_keysPlay : (29 : TypeId) < Tryz.prog.types.size := of_decide_eq_true (by kernel_rfl)
theorem rec5_keysPlay : Tryz.prog.readableRec 5 = true := by kernel_rfl
theorem row5_keysPlay : (5 : TypeId) < Tryz.prog.types.size := of_decide_eq_true (by kernel_rfl)
set_option maxRecDepth 100000 in
theorem keysPlay_lifted (os : Os) (started : os.Started) (H : Type) (enc : TypeId × Value → H) :
  ReturnsInHanded {} Tryz.checked os 7 .any (Rows.keysPlaySpec.pre6 enc Tryz.prog Tryz.f7 Rows.keysPlayRow.domain false) (Rows.keysPlaySpec.post enc Tryz.prog Tryz.f7 false true false false) := by
 refine returnsInHanded_of_change (C := Tryz.checked) own_keysPlay started (by kernel_rfl) Tryz.func7
  (ChangeSpec.witness6 (enc := enc) (C := Tryz.checked) false ⟨#[], #[.int .u8 0, .int .u8 0, .slice none 0 0, .slice none 0 0], []⟩ 8 (by kernel_rfl) (by kernel_rfl) (by kernel_rfl) (by kernel_rfl)) ?_
 intro W base args ds gs before hval0 hW hcnd _
 have hval : ∀ (j : Nat) t v, Tryz.f7.params[j]? = some t → args[j]? = some v → Value.okWide Tryz.prog W .any base t v := hval0
 have hW' := hW
 obtain ⟨p, q, hA0, hV, rfl, hfz, hnd⟩ := hW
 have hA : DataW.TrodAll enc Tryz.prog W 0 (fun _ => true) true Tryz.f7.params.toList args.toList ds p := hA0
 rw [Tryz.params7] at hA hval
 obtain ⟨v0, v1, v2, v3, d0, d1, d2, d3, p0, p1, p2, p3, rfl, rfl, rfl, h0, h1, h2, h3⟩ := trodAll_four hA
 obtain ⟨rfl, rfl⟩ := trodVars_none hV
 obtain ⟨_, hv0⟩ := okWide_int Tryz.underlying5 (hval 0 5 v0 rfl rfl)
 obtain ⟨a0, m0, w0⟩ := (Opens.u8 Tryz.underlying5).arg _ (fun _ => rfl) (by rw [hv0]; rfl) h0
 obtain ⟨_, hv1⟩ := okWide_int Tryz.underlying5 (hval 1 5 v1 rfl rfl)
 obtain ⟨a1, m1, w1⟩ := (Opens.u8 Tryz.underlying5).arg _ (fun _ => rfl) (by rw [hv1]; rfl) h1
 obtain ⟨_, _, _, hv2⟩ := okWide_slice Tryz.underlying29 (hval 2 29 v2 rfl rfl)
 obtain ⟨a2, m2, w2⟩ := (open_acts).arg _ (fun _ => rfl) (by rw [hv2]; rfl) h2
 obtain ⟨_, _, _, hv3⟩ := okWide_slice Tryz.underlying23 (hval 3 23 v3 rfl rfl)
 obtain ⟨a3, m3, w3⟩ := (open_keys).arg _ (fun _ => rfl) (by rw [hv3]; rfl) h3
 clear hA0 hval0
 simp only [List.append_nil] at hW'
 have hlt : ∀ x ∈ p0 ++ p1 ++ p2 ++ p3, x.block < W.heap.size := fun x hx => hW'.lt x hx
 refine (law_calls (keysPlay_law a0 a1 a2 a3 m2.1 m2.2 m3 _) W #[v0, v1, v2, v3] rfl (fun i c u hc hu => ?_) (laid_none W)).mono fun e W' ⟨he, hb⟩ => ?_
 ·match i with
  | 0 => simp at hc hu; subst hc hu; exact ⟨w0, rfl⟩
  | 1 => simp at hc hu; subst hc hu; exact ⟨w1, rfl⟩
  | 2 => simp at hc hu; subst hc hu; exact ⟨w2, rfl⟩
  | 3 => simp at hc hu; subst hc hu; exact ⟨w3, rfl⟩
  | n + 4 => simp at hc
 subst he
 refine ⟨_, rfl, [d0, d1, d2, d3], [], p0 ++ p1 ++ p2 ++ p3, [], p0 ++ (p1 ++ (p2 ++ p3)), [], hW', ?_, ?_, rfl, hb.frame _, fun h => (by cases h)⟩
 ·exact trodAll_mk1 (shut_bool Tryz.underlying4 true)
 ·refine trodAll_mk4 (Below.trod laid_keysPlay rec5_keysPlay row5_keysPlay h0 hb fun x hx => hlt x (by simp [hx])) (Below.trod laid_keysPlay rec5_keysPlay row5_keysPlay h1 hb fun x hx => hlt x (by simp [hx])) (Below.trod laid_keysPlay rec29_keysPlay row29_keysPlay h2 hb fun x hx => hlt x (by simp [hx])) (Below.trod laid_keysPlay rec23_keysPlay row23_keysPlay h3 hb fun x hx => hlt x (by simp [hx]))
theorem keysPlay_holds : Rows.KeysPlaySaid :=
 OpenClaim.holds_of_wide 7 Tryz.f7 rfl rfl rfl rfl rfl rfl rfl ⟨rfl, rfl, rfl, rfl, rfl⟩ rfl rfl rfl rfl rfl (by kernel_rfl) Tryz.func7 (by kernel_rfl)
  (of_decide_eq_true (by kernel_rfl)) (by unfold Func.isWrapper; first | (rw [if_pos (by decide +kernel)]; kernel_rfl) | (rw [if_neg (by decide +kernel)]; exact ⟨rfl, rfl⟩))
  (fun os started H enc _ => keysPlay_lifted os started H enc)
end Go.Proofs.YtlmdbcgceijlnaaGreat
