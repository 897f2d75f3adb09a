/-
  Arguments opened; what is laid: the powers of ten, the locks' words.
-/
import Derived.Test.YtkggdohfcmiakaaGreatDoorSPart21
import Derived.Test.YtkggdohfcmiakaaGreatDoorRows
import Derived.Lay
import Derived.LaidMore
import Derived.Lib.LaidTab
set_option linter.unusedSimpArgs false
set_option linter.unusedVariables false
namespace Go.Proofs.YtkggdohfcmiakaaGreatDoor
open Go Go.AL Go.Sp
def laid6 : List (String × DataW Unit) := [("math/bits.deBruijn32tab", Rows.laid_math_bits_deBruijn32tab), ("math/bits.deBruijn64tab", Rows.laid_math_bits_deBruijn64tab), ("internal/strconv.uint64pow10", Rows.laid_internal_strconv_uint64pow10), ("unicode/utf8.acceptRanges", Rows.laid_unicode_utf8_acceptRanges), ("vitrine/snap.locks", Rows.laid_vitrine_snap_locks), ("unicode/utf8.first", Rows.laid_unicode_utf8_first)]
theorem laid_pow10 : (Rows.laid_internal_strconv_uint64pow10 : DataW Unit) = Lib.tabData .u64 Lib.pow10Tab := by rfl
theorem laid_locks : (Rows.laid_vitrine_snap_locks : DataW Unit) = .agg (lockN.map fun x => .lit (.string x)) := rfl
theorem vars6 {W : World} (h : laidMetH Tryz.prog laid6 W) : ∀ g cs, GL.vars g = some cs → ∃ T fz, W.heap[g]? = some (.cells cs T fz) := by
  rw [MakeChecks.laidMetH_plain _ _ _ (by kernel_rfl)] at h
  obtain ⟨ps, ⟨_, _, _, _, _, _, _, _, _, _, h1, _⟩, _, _⟩ := h
  obtain ⟨_, _, _, _, _, _, _, _, _, _, h2, _⟩ := h1
  obtain ⟨g, t, cs, fuel, p, q, hg, ht, hv, hd, _, _⟩ := h2
  have hg0 : Tryz.prog.globalNamed "internal/strconv.uint64pow10" = some 2 := by kernel_rfl
  obtain rfl := Option.some.inj (hg0.symm.trans hg)
  obtain rfl := Option.some.inj ((show (Tryz.prog.globals[2]?).map (·.type) = some 192 by kernel_rfl).symm.trans ht)
  rw [laid_pow10] at hd
  have hcs := Lib.cells_of_tab Tryz.underlying192 Tryz.underlying180 (by kernel_rfl) (by kernel_rfl) hd
  have hcs2 : cs = pow10A := by
    rw [show cs = cs.toList.toArray by simp, hcs]; rfl
  rw [hcs2] at hv
  clear hd hcs
  intro g' cs' hg'
  have h3 : g' = 2 ∧ cs' = pow10A := by
    have h4 : (if g' = 2 then some pow10A else none) = some cs' := hg'
    split at h4
    · exact ⟨‹_›, (Option.some.inj h4).symm⟩
    · cases h4
  obtain ⟨rfl, rfl⟩ := h3
  unfold World.var? at hv
  rw [hg0] at hv
  simp only [Option.bind_some] at hv
  cases e : W.heap[2]? with
  | none => rw [e] at hv; cases hv
  | some o =>
    rw [e] at hv
    cases o with
    | cells c t z => simp only [Option.some.injEq] at hv; subst hv; exact ⟨t, z, rfl⟩
    | _ => cases hv
theorem laid_vr {W : World} (h : laidMetH Tryz.prog laid6 W) : ∀ g cs, GL.tab g = some cs → VR (allFrz W) (.fptr cs) (.pointer (some ⟨g, 0, none⟩)) := by
  rw [MakeChecks.laidMetH_plain _ _ _ (by kernel_rfl)] at h
  obtain ⟨ps, ⟨_, _, _, _, _, _, _, _, _, _, h1, _⟩, _, _⟩ := h
  obtain ⟨_, _, _, _, _, _, _, _, _, _, h2, _⟩ := h1
  obtain ⟨_, _, _, _, _, _, _, _, _, _, h3, _⟩ := h2
  obtain ⟨_, _, _, _, _, _, _, _, _, _, h4, _⟩ := h3
  obtain ⟨g, t, cs, fuel, p, q, hg, ht, hv, hd, _, _⟩ := h4
  obtain rfl := Option.some.inj ((show Tryz.prog.globalNamed "vitrine/snap.locks" = some 0 by kernel_rfl).symm.trans hg)
  obtain rfl := Option.some.inj ((show (Tryz.prog.globals[0]?).map (·.type) = some 71 by kernel_rfl).symm.trans ht)
  obtain ⟨xs, m, _, ex, hc, hl, hel⟩ := DataW.trod_array Tryz.underlying71 hd
  have c9 : Tryz.prog.cellsOf 9 = 1 := by kernel_rfl
  have c71 : Tryz.prog.cellsOf 71 = 5 := by kernel_rfl
  rw [c71] at hc
  have e3 : xs.map (·.1) = lockN.map fun x => .lit (.string x) := (DataW.agg.inj ((Prod.mk.inj ex).1.symm.trans laid_locks)).symm ▸ rfl
  have hcs : cs.toList = lockN.map fun x => Value.string ⟨x.toArray⟩ := by
    refine List.ext_getElem? fun r => ?_
    by_cases hr5 : r < 5
    · have he := hel r hr5
      rw [c9, Nat.mul_one] at he
      have e4 : (xs.map (·.1))[r]? = (lockN.map fun x => (DataW.lit (.string x) : DataW Unit))[r]? := by rw [e3]
      have hN : lockN.length = 5 := rfl
      obtain ⟨x, hx⟩ : ∃ x, lockN[r]? = some x := ⟨_, List.getElem?_eq_getElem (show r < lockN.length by omega)⟩
      rw [List.getElem?_map, List.getElem?_map, hx] at e4
      rw [List.getElem?_map, hx]
      cases hxr : xs[r]? with
      | none => rw [hxr] at e4; cases e4
      | some y =>
        rw [hxr] at e4 he
        obtain ⟨d, p⟩ := y
        simp only [Option.map_some, Option.some.injEq] at e4
        subst e4
        obtain ⟨s, g0, d0, _⟩ := DataW.trod_string Tryz.underlying9 he
        have d1 : x = s.data.toList := by
          have := (Prod.mk.inj d0).1
          simpa using this
        have g1 : (List.take 1 (List.drop r cs.toList))[0]? = some (.string s) := by rw [g0]; rfl
        rw [List.getElem?_take_of_lt (by omega), List.getElem?_drop] at g1
        rw [Nat.add_zero] at g1
        rw [g1, d1]
        simp
    · rw [List.getElem?_eq_none (by omega), List.getElem?_eq_none (by simp [lockN]; omega)]
  intro g cs2 hg2
  have : g = 0 ∧ cs2 = locksO := by
    have hg3 : (if g = 0 then some locksO else none) = some cs2 := hg2
    split at hg3
    · exact ⟨‹_›, (Option.some.inj hg3).symm⟩
    · cases hg3
  obtain ⟨rfl, rfl⟩ := this
  have hlit : locksO = (lockN.map fun x => Value.string ⟨x.toArray⟩).map .lit := by simp [locksO]
  refine .fptr _ _ _ (lockN.map fun x => Value.string ⟨x.toArray⟩) rfl (fun i u hu => ⟨?_, ?_⟩) fun i c u hc hu => ?_
  · rw [Nat.zero_add]
    refine cell_back ?_
    rw [World.var?_cell hg hv i, ← Array.getElem?_toList, hcs]; exact hu
  · obtain ⟨x, _, rfl⟩ := List.mem_map.1 (List.mem_of_getElem? hu)
    rfl
  · rw [hlit, List.getElem?_map, hu] at hc
    obtain rfl := Option.some.inj hc
    exact .lit _
structure Stt where
  md : Int
  pg : Int
  alt : Bool
  cur : Int
  lock : Int
  ins : Bool
  aid : UInt8
  mode : Int
def sttC (s : Stt) : List AV := stA s.md s.pg s.alt s.cur s.lock s.ins s.aid s.mode
theorem open_stt : Opens Tryz.prog 23 (fun s : Stt => sttC s) (fun s => -9223372036854775808 ≤ s.cur ∧ s.cur ≤ 9223372036854775807) :=
  (Opens.struct (total := 8) Tryz.underlying23 (by kernel_rfl)
    (.cons (k := 1) rfl (by kernel_rfl) (by omega) (Opens.i64 Tryz.underlying3) (.cons (k := 1) rfl (by kernel_rfl) (by omega) (Opens.i64 Tryz.underlying3) (.cons (k := 1) rfl (by kernel_rfl) (by omega) (Opens.bool Tryz.underlying4)
      (.cons (k := 1) rfl (by kernel_rfl) (by omega) (Opens.i64 Tryz.underlying3) (.cons (k := 1) rfl (by kernel_rfl) (by omega) (Opens.i64 Tryz.underlying3) (.cons (k := 1) rfl (by kernel_rfl) (by omega) (Opens.bool Tryz.underlying4)
        (.cons (k := 1) rfl (by kernel_rfl) (by omega) (Opens.u8 Tryz.underlying5) (.cons (k := 1) rfl (by kernel_rfl) (by omega) (Opens.i64 Tryz.underlying3) .nil))))))))).by
    (fun x => ⟨x.1, x.2.1, x.2.2.1, x.2.2.2.1, x.2.2.2.2.1, x.2.2.2.2.2.1, x.2.2.2.2.2.2.1, x.2.2.2.2.2.2.2.1⟩) fun _ h => ⟨h.2.2.2.1, rfl⟩
end Go.Proofs.YtkggdohfcmiakaaGreatDoor
/-
  SnapStatus: for every input the law returns true, and the arguments read as they did.
-/
namespace Go.Proofs.YtkggdohfcmiakaaGreatDoor
open Go Go.AL Go.ChangeShapes Go.WideShapes Go.ChangeAt Go.RowKit Go.Lib

theorem own_snapStatus : ownKnob Tryz.prog.godebug = none := by kernel_rfl
theorem laid_snapStatus : laidOutB Tryz.prog = true := by kernel_rfl
theorem rec23_snapStatus : Tryz.prog.readableRec 23 = true := by kernel_rfl
theorem row23_snapStatus : (23 : TypeId) < Tryz.prog.types.size := of_decide_eq_true (by kernel_rfl)
theorem rec3_snapStatus : Tryz.prog.readableRec 3 = true := by kernel_rfl
theorem row3_snapStatus : (3 : TypeId) < Tryz.prog.types.size := of_decide_eq_true (by kernel_rfl)

set_option maxRecDepth 100000 in
theorem snapStatus_lifted (os : Os) (started : os.Started) (H : Type) (enc : TypeId × Value → H) :
    ReturnsInHanded {} Tryz.checked os 3 .any (fun w args => (Rows.snapStatusSpec.pre enc Tryz.prog Tryz.f3 [] false w args ∧ laidMetH Tryz.prog laid6 w) ∧ sizedMet enc Tryz.prog Tryz.f3 (OpenSpec.ofChange Rows.snapStatusSpec) false w args) (Rows.snapStatusSpec.post enc Tryz.prog Tryz.f3 false true false false) := by
  refine returnsInHanded_of_change_and (C := Tryz.checked) (X := fun w _ => laidMetH Tryz.prog laid6 w) (fun _ _ _ hh h => h.of_heap hh) own_snapStatus started (by kernel_rfl) Tryz.func3
    (ChangeSpec.witness_shaped (enc := enc) (C := Tryz.checked) (os := os) (X := fun w _ => laidMetH Tryz.prog laid6 w) false (World.laidAll Tryz.prog os laid6) #[.agg #[.int .i64 0, .int .i64 0, .bool false, .int .i64 0, .int .i64 0, .bool false, .int .u8 0, .int .i64 0], .int .i64 0] 8 (World.laidAll_os _ _ _)
      (World.shaped_of_ZipB (by kernel_rfl) (by kernel_rfl)) (by kernel_rfl) (by kernel_rfl) (by kernel_rfl)
      (by rw [MakeChecks.laidMetH_plain _ _ _ (by kernel_rfl)]; exact laidMet_laidAll _ (by kernel_rfl) (by kernel_rfl))) ?_
  intro W base args ds gs before hval0 hW _ _ hL _
  have hval : ∀ (j : Nat) t v, Tryz.f3.params[j]? = some t → args[j]? = some v → Value.okWide Tryz.prog W .any base t v := hval0
  have hW' := hW
  obtain ⟨p, q, hA0, hV, rfl, hfz, hnd⟩ := hW
  have hA : DataW.TrodAll enc Tryz.prog W 0 (fun _ => true) true Tryz.f3.params.toList args.toList ds p := hA0
  rw [Tryz.params3] at hA hval
  obtain ⟨v0, v1, d0, d1, p0, p1, rfl, rfl, rfl, h0, h1⟩ := trodAll_two hA
  obtain ⟨rfl, rfl⟩ := trodVars_none hV
  obtain ⟨_, hv0, _⟩ := okWide_struct Tryz.underlying23 (hval 0 23 v0 rfl rfl)
  obtain ⟨a0, m0, w0⟩ := (open_stt).args hv0 h0
  obtain ⟨_, hv1⟩ := okWide_int Tryz.underlying3 (hval 1 3 v1 rfl rfl)
  obtain ⟨a1, m1, w1⟩ := (Opens.i64 Tryz.underlying3).arg _ (fun _ => rfl) (by rw [hv1]; rfl) h1
  clear hA0 hval0
  simp only [List.append_nil] at hW'
  have hlt : ∀ x ∈ p0 ++ p1, x.block < W.heap.size := fun x hx => hW'.lt x hx
  refine (law_calls (snapStatus_law a0.md a0.pg a0.alt a0.cur a0.lock a0.ins a0.aid a0.mode a1 m0.1 m0.2 _) W #[v0, v1] rfl (fun i c u hc hu => ?_) (laid_vr hL) (vars6 hL)).mono fun e W' ⟨he, hb⟩ => ?_
  · match i with
    | 0 => simp at hc hu; subst hc hu; exact ⟨w0, rfl⟩
    | 1 => simp at hc hu; subst hc hu; exact ⟨w1, rfl⟩
    | n + 2 => simp at hc
  subst he
  refine ⟨_, rfl, [d0, d1], [], p0 ++ p1, [], p0 ++ p1, [], hW', ?_, ?_, rfl, hb.frame _, fun h => (by cases h)⟩
  · exact trodAll_mk1 (shut_bool Tryz.underlying4 true)
  · refine trodAll_mk2 (Below.trod laid_snapStatus rec23_snapStatus row23_snapStatus h0 hb fun x hx => hlt x (by simp [hx])) (Below.trod laid_snapStatus rec3_snapStatus row3_snapStatus h1 hb fun x hx => hlt x (by simp [hx]))

theorem snapStatus_holds : Rows.SnapStatusSaid :=
  OpenClaim.holds_of_wide 3 Tryz.f3 rfl rfl rfl rfl rfl rfl rfl ⟨rfl, rfl, rfl, rfl, rfl⟩ rfl rfl rfl rfl rfl (by kernel_rfl) Tryz.func3 (by kernel_rfl)
    (of_decide_eq_true (by kernel_rfl)) (by unfold Func.isWrapper; first | (rw [if_pos (by decide +kernel)]; kernel_rfl) | (rw [if_neg (by decide +kernel)]; exact ⟨rfl, rfl⟩))
    (fun os started H enc _ => snapStatus_lifted os started H enc)
end Go.Proofs.YtkggdohfcmiakaaGreatDoor
