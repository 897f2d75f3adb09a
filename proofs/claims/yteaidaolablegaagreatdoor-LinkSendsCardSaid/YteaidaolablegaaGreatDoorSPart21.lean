/-
  What the table of the names reads as.
-/
import Derived.Test.YteaidaolablegaaGreatDoorSPart20
import Derived.Test.YteaidaolablegaaGreatDoorRows
import Derived.Lay
import Derived.LaidMore
set_option linter.unusedSimpArgs false
set_option linter.unusedVariables false
namespace Go.Proofs.YteaidaolablegaaGreatDoor
open Go Go.AL Go.ChangeShapes Go.WideShapes Go.ChangeAt Go.RowKit Go.Lib

def laid1 : List (String × DataW Unit) := [("unicode/utf8.acceptRanges", Rows.laid_unicode_utf8_acceptRanges), ("vitrine/header.names", Rows.laid_vitrine_header_names), ("unicode/utf8.first", Rows.laid_unicode_utf8_first)]
def nameV (x : List UInt8) : Value := .string ⟨x.toArray⟩
def nameD (x : List UInt8) : DataW Unit := .lit (.string x)
theorem laid_names : (Rows.laid_vitrine_header_names : DataW Unit) = .agg (namesL.map nameD) := rfl
theorem laid_vr {W : World} (h : laidMetH Tryz.prog laid1 W) : ∀ g cs, GL.tab g = some cs → VR (allFrz W) (.fptr cs) (.pointer (some ⟨g, 0, none⟩)) := by
  rw [MakeChecks.laidMetH_plain _ _ _ (by kernel_rfl)] at h
  obtain ⟨ps, ⟨_, _, _, _, _, _, _, _, _, _, ⟨g, t, cs, fuel, p, q, hg, ht, hv, hd, _, _⟩, _⟩, _, _⟩ := h
  obtain rfl := Option.some.inj ((show Tryz.prog.globalNamed "vitrine/header.names" = some 1 by kernel_rfl).symm.trans hg)
  obtain rfl := Option.some.inj ((show (Tryz.prog.globals[1]?).map (·.type) = some 189 by kernel_rfl).symm.trans ht)
  obtain ⟨xs, m, _, ex, hc, hl, hel⟩ := DataW.trod_array Tryz.underlying189 hd
  have c9 : Tryz.prog.cellsOf 9 = 1 := by kernel_rfl
  have c189 : Tryz.prog.cellsOf 189 = 9 := by kernel_rfl
  rw [c189] at hc
  have e3 : xs.map (·.1) = namesL.map nameD := (DataW.agg.inj ((Prod.mk.inj ex).1.symm.trans laid_names)).symm ▸ rfl
  have hcs : cs.toList = namesL.map nameV := by
    refine List.ext_getElem? fun r => ?_
    by_cases hr : r < 9
    · have he := hel r hr
      rw [c9] at he
      have e4 : (xs.map (·.1))[r]? = (namesL.map nameD)[r]? := by rw [e3]
      rw [List.getElem?_map, List.getElem?_map] at e4
      have hx : r < namesL.length := hr
      rw [List.getElem?_map, List.getElem?_eq_getElem hx] at *
      cases hxr : xs[r]? with
      | none => rw [hxr] at e4; cases e4
      | some y =>
        rw [hxr] at e4 he
        obtain ⟨d, p⟩ := y
        simp only [Option.map_some, Option.some.injEq] at e4
        subst e4
        obtain ⟨s, g0, d0, _⟩ := DataW.trod_string Tryz.underlying9 (he.trans rfl)
        have hs : namesL[r] = s.data.toList := by
          have := d0
          simp only [nameD, DataW.lit.injEq, Lit.string.injEq] at this
          simp at this; exact this.1
        rw [Nat.mul_one] at g0
        have hlr : r < cs.toList.length := by omega
        have g1 : cs.toList[r]? = some (Value.string s) := by
          have := congrArg (·[0]?) g0
          simpa [List.getElem?_take, List.getElem?_drop] using this
        rw [g1, Option.map_some, nameV, hs]
    · rw [List.getElem?_eq_none (by omega), List.getElem?_eq_none (by rw [List.length_map]; exact Nat.le_of_not_lt hr)]
  intro g cs2 hg2
  have : g = 1 ∧ cs2 = namesO := by
    have hg3 : (if g = 1 then some namesO else none) = some cs2 := hg2
    split at hg3
    · exact ⟨‹_›, (Option.some.inj hg3).symm⟩
    · cases hg3
  obtain ⟨rfl, rfl⟩ := this
  have hlit : namesO = (namesL.map nameV).map .lit := rfl
  refine .fptr _ _ _ (namesL.map nameV) rfl (fun i u hu => ⟨?_, ?_⟩) fun i c u hc hu => ?_
  · rw [Nat.zero_add]
    refine cell_back ?_
    rw [World.var?_cell hg hv i, ← Array.getElem?_toList, hcs]; exact hu
  · have : (namesL.map nameV).all Value.oneCell' = true := by decide
    exact List.all_eq_true.1 this u (List.mem_of_getElem? hu)
  · rw [hlit, List.getElem?_map, hu] at hc
    obtain rfl := Option.some.inj hc
    exact .lit _
end Go.Proofs.YteaidaolablegaaGreatDoor
/-
  LinkSends: for every input the law returns true, and the arguments read as they did.
-/
namespace Go.Proofs.YteaidaolablegaaGreatDoor
open Go Go.AL Go.ChangeShapes Go.WideShapes Go.ChangeAt Go.RowKit Go.Lib

theorem own_linkSends : ownKnob Tryz.prog.godebug = none := by kernel_rfl
theorem laid_linkSends : laidOutB Tryz.prog = true := by kernel_rfl
theorem rec25_linkSends : Tryz.prog.readableRec 25 = true := by kernel_rfl
theorem row25_linkSends : (25 : TypeId) < Tryz.prog.types.size := of_decide_eq_true (by kernel_rfl)
theorem rec4_linkSends : Tryz.prog.readableRec 4 = true := by kernel_rfl
theorem row4_linkSends : (4 : TypeId) < Tryz.prog.types.size := of_decide_eq_true (by kernel_rfl)

set_option maxRecDepth 100000 in
theorem linkSends_lifted (os : Os) (started : os.Started) (H : Type) (enc : TypeId × Value → H) :
    ReturnsInHanded {} Tryz.checked os 4 .any (fun w args => (Rows.linkSendsSpec.pre enc Tryz.prog Tryz.f4 [] false w args ∧ laidMetH Tryz.prog laid1 w) ∧ sizedMet enc Tryz.prog Tryz.f4 (OpenSpec.ofChange Rows.linkSendsSpec) false w args) (Rows.linkSendsSpec.post enc Tryz.prog Tryz.f4 false true false false) := by
  refine returnsInHanded_of_change_and (C := Tryz.checked) (X := fun w _ => laidMetH Tryz.prog laid1 w) (fun _ _ _ hh h => h.of_heap hh) own_linkSends started (by kernel_rfl) Tryz.func4
    (ChangeSpec.witness_shaped (enc := enc) (C := Tryz.checked) (os := os) (X := fun w _ => laidMetH Tryz.prog laid1 w) false (World.laidAll Tryz.prog os laid1) #[.bool false, .bool false, .slice none 0 0] 8 (World.laidAll_os _ _ _)
      (World.shaped_of_ZipB (by kernel_rfl) (by kernel_rfl)) (by kernel_rfl) (by kernel_rfl) (by kernel_rfl)
      (by rw [MakeChecks.laidMetH_plain _ _ _ (by kernel_rfl)]; exact laidMet_laidAll _ (by kernel_rfl) (by kernel_rfl))) ?_
  intro W base args ds gs before hval0 hW _ _ hL _
  have hval : ∀ (j : Nat) t v, Tryz.f4.params[j]? = some t → args[j]? = some v → Value.okWide Tryz.prog W .any base t v := hval0
  have hW' := hW
  obtain ⟨p, q, hA0, hV, rfl, hfz, hnd⟩ := hW
  have hA : DataW.TrodAll enc Tryz.prog W 0 (fun _ => true) true Tryz.f4.params.toList args.toList ds p := hA0
  rw [Tryz.params4] at hA hval
  obtain ⟨v0, v1, v2, d0, d1, d2, p0, p1, p2, rfl, rfl, rfl, h0, h1, h2⟩ := trodAll_three hA
  obtain ⟨rfl, rfl⟩ := trodVars_none hV
  obtain ⟨_, hv0⟩ := okWide_bool Tryz.underlying4 (hval 0 4 v0 rfl rfl)
  obtain ⟨a0, m0, w0⟩ := (Opens.bool Tryz.underlying4).arg _ (fun _ => rfl) (by rw [hv0]; rfl) h0
  obtain ⟨_, hv1⟩ := okWide_bool Tryz.underlying4 (hval 1 4 v1 rfl rfl)
  obtain ⟨a1, m1, w1⟩ := (Opens.bool Tryz.underlying4).arg _ (fun _ => rfl) (by rw [hv1]; rfl) h1
  obtain ⟨_, _, _, hv2⟩ := okWide_slice Tryz.underlying25 (hval 2 25 v2 rfl rfl)
  obtain ⟨a2, m2, w2⟩ := (open_lists).arg _ (fun _ => rfl) (by rw [hv2]; rfl) h2
  clear hA0 hval0
  simp only [List.append_nil] at hW'
  have hlt : ∀ x ∈ p0 ++ p1 ++ p2, x.block < W.heap.size := fun x hx => hW'.lt x hx
  refine (law_calls (linkSends_calls a0 a1 a2 (Nat.le_trans m2 (by decide)) _) W #[v0, v1, v2] rfl (fun i c u hc hu => ?_) (laid_vr hL)).mono fun e W' ⟨he, hb⟩ => ?_
  · match i with
    | 0 => simp at hc hu; subst hc hu; exact ⟨w0, rfl⟩
    | 1 => simp at hc hu; subst hc hu; exact ⟨w1, rfl⟩
    | 2 => simp at hc hu; subst hc hu; exact ⟨w2, rfl⟩
    | n + 3 => simp at hc
  subst he
  refine ⟨_, rfl, [d0, d1, d2], [], p0 ++ p1 ++ p2, [], p0 ++ (p1 ++ p2), [], hW', ?_, ?_, rfl, hb.frame _, fun h => (by cases h)⟩
  · exact trodAll_mk1 (shut_bool Tryz.underlying4 true)
  · refine trodAll_mk3 (Below.trod laid_linkSends rec4_linkSends row4_linkSends h0 hb fun x hx => hlt x (by simp [hx])) (Below.trod laid_linkSends rec4_linkSends row4_linkSends h1 hb fun x hx => hlt x (by simp [hx])) (Below.trod laid_linkSends rec25_linkSends row25_linkSends h2 hb fun x hx => hlt x (by simp [hx]))

theorem linkSends_holds : Rows.LinkSendsSaid :=
  OpenClaim.holds_of_wide 4 Tryz.f4 rfl rfl rfl rfl rfl rfl rfl ⟨rfl, rfl, rfl, rfl, rfl⟩ rfl rfl rfl rfl rfl (by kernel_rfl) Tryz.func4 (by kernel_rfl)
    (of_decide_eq_true (by kernel_rfl)) (by unfold Func.isWrapper; first | (rw [if_pos (by decide +kernel)]; kernel_rfl) | (rw [if_neg (by decide +kernel)]; exact ⟨rfl, rfl⟩))
    (fun os started H enc _ => linkSends_lifted os started H enc)
end Go.Proofs.YteaidaolablegaaGreatDoor
