/-
  EntryValues: for every input the law returns true, and the arguments read as they did.
-/
import Derived.Test.YtkjcdnmjdanmpaaVPart18
import Derived.Test.YtkjcdnmjdanmpaaRows
set_option linter.unusedSimpArgs false
set_option linter.unusedVariables false
namespace Go.Proofs.Ytkjcdnmjdanmpaa
open Go Go.AL Go.ChangeShapes Go.WideShapes Go.ChangeAt Go.RowKit

theorem own_entryValues : ownKnob Try.prog.godebug = none := by kernel_rfl
theorem laid_entryValues : laidOutB Try.prog = true := by kernel_rfl
theorem rec24_entryValues : Try.prog.readableRec 24 = true := by kernel_rfl
theorem row24_entryValues : (24 : TypeId) < Try.prog.types.size := of_decide_eq_true (by kernel_rfl)
theorem rec25_entryValues : Try.prog.readableRec 25 = true := by kernel_rfl
theorem row25_entryValues : (25 : TypeId) < Try.prog.types.size := of_decide_eq_true (by kernel_rfl)
theorem rec3_entryValues : Try.prog.readableRec 3 = true := by kernel_rfl
theorem row3_entryValues : (3 : TypeId) < Try.prog.types.size := of_decide_eq_true (by kernel_rfl)

set_option maxRecDepth 100000 in
theorem entryValues_lifted (os : Os) (started : os.Started) (H : Type) (enc : TypeId × Value → H) :
    ReturnsInHanded {} Try.checked os 3 .any (Rows.entryValuesSpec.pre6 enc Try.prog Try.f3 Rows.entryValuesRow.domain false) (Rows.entryValuesSpec.post enc Try.prog Try.f3 false true false false) := by
  refine returnsInHanded_of_change (C := Try.checked) own_entryValues started (by kernel_rfl) Try.func3
    (ChangeSpec.witness6 (enc := enc) (C := Try.checked) false ⟨#[], #[.agg #[.int .u8 0, .bool false, .int .i64 0, .slice none 0 0], .int .i64 0, .slice none 0 0], []⟩ 8 (by kernel_rfl) (by kernel_rfl) (by kernel_rfl) (by kernel_rfl)) ?_
  intro W base args ds gs before hval0 hW hcnd _
  have hval : ∀ (j : Nat) t v, Try.f3.params[j]? = some t → args[j]? = some v → Value.okWide Try.prog W .any base t v := hval0
  have hW' := hW
  obtain ⟨p, q, hA0, hV, rfl, hfz, hnd⟩ := hW
  have hA : DataW.TrodAll enc Try.prog W 0 (fun _ => true) true Try.f3.params.toList args.toList ds p := hA0
  rw [Try.params3] at hA hval
  obtain ⟨v0, v1, v2, d0, d1, d2, p0, p1, p2, rfl, rfl, rfl, h0, h1, h2⟩ := trodAll_three hA
  obtain ⟨rfl, rfl⟩ := trodVars_none hV
  obtain ⟨_, hv0, _⟩ := okWide_struct Try.underlying24 (hval 0 24 v0 rfl rfl)
  obtain ⟨a0, m0, w0⟩ := (open_rp).args hv0 h0
  obtain ⟨_, hv1⟩ := okWide_int Try.underlying3 (hval 1 3 v1 rfl rfl)
  obtain ⟨a1, m1, w1⟩ := (Opens.i64 Try.underlying3).arg _ (fun _ => rfl) (by rw [hv1]; rfl) h1
  obtain ⟨_, _, _, hv2⟩ := okWide_slice Try.underlying25 (hval 2 25 v2 rfl rfl)
  obtain ⟨a2, m2, w2⟩ := (open_ces).arg _ (fun _ => rfl) (by rw [hv2]; rfl) h2
  clear hA0 hval0
  simp only [List.append_nil] at hW'
  have hlt : ∀ x ∈ p0 ++ p1 ++ p2, x.block < W.heap.size := fun x hx => hW'.lt x hx
  refine (law_calls (entryValues_law a0 a1 a2 m0.1 m0.2 m2 _) W #[v0, v1, v2] rfl (fun i c u hc hu => ?_) (laid_none W)).mono fun e W' ⟨he, hb⟩ => ?_
  · match i with
    | 0 => simp at hc hu; subst hc hu; exact ⟨w0, rfl⟩
    | 1 => simp at hc hu; subst hc hu; exact ⟨w1, rfl⟩
    | 2 => simp at hc hu; subst hc hu; exact ⟨w2, rfl⟩
    | n + 3 => simp at hc
  subst he
  refine ⟨_, rfl, [d0, d1, d2], [], p0 ++ p1 ++ p2, [], p0 ++ (p1 ++ p2), [], hW', ?_, ?_, rfl, hb.frame _, fun h => (by cases h)⟩
  · exact trodAll_mk1 (shut_bool Try.underlying4 true)
  · refine trodAll_mk3 (Below.trod laid_entryValues rec24_entryValues row24_entryValues h0 hb fun x hx => hlt x (by simp [hx])) (Below.trod laid_entryValues rec3_entryValues row3_entryValues h1 hb fun x hx => hlt x (by simp [hx])) (Below.trod laid_entryValues rec25_entryValues row25_entryValues h2 hb fun x hx => hlt x (by simp [hx]))

theorem entryValues_holds : Rows.EntryValuesSaid :=
  OpenClaim.holds_of_wide 3 Try.f3 rfl rfl rfl rfl rfl rfl rfl ⟨rfl, rfl, rfl, rfl, rfl⟩ rfl rfl rfl rfl rfl (by kernel_rfl) Try.func3 (by kernel_rfl)
    (of_decide_eq_true (by kernel_rfl)) (by unfold Func.isWrapper; first | (rw [if_pos (by decide +kernel)]; kernel_rfl) | (rw [if_neg (by decide +kernel)]; exact ⟨rfl, rfl⟩))
    (fun os started H enc _ => entryValues_lifted os started H enc)
end Go.Proofs.Ytkjcdnmjdanmpaa
