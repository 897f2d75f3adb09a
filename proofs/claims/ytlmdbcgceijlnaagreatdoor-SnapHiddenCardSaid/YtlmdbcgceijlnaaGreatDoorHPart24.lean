/-
  SnapHidden.
-/
import Derived.Test.YtlmdbcgceijlnaaGreatDoorHPart23
import Derived.Test.YtlmdbcgceijlnaaGreatDoorRows
set_option linter.unusedSimpArgs false
set_option linter.unusedVariables false
namespace Go.Proofs.YtlmdbcgceijlnaaGreatDoor
open Go Go.AL Go.Sp
variable {σ Y Z τ : Store} {q p q2 p2 b x y : Nat} {s t : Sp} {n : Int} {pv : AV}

theorem PS.copy (h : PS Y q p n pv τ) {q2 p2 : Nat} (hq : τ q2 = none) (hp : τ p2 = none) (hne : q2 ≠ p2) (s : Sp) : PS (putS spO Y q2 p2 s) q p n pv (putS spO τ q2 p2 s) ∧ Y q2 = none ∧ Y p2 = none := by
  obtain ⟨y1, h1⟩ := h.new hq (spO s p2)
  obtain ⟨y2, h2⟩ := h1.new (z := p2) (by simp [hp, Ne.symm hne]) (cellsO s.cells)
  exact ⟨h2, y1, by simpa [Ne.symm hne] using y2⟩
set_option maxHeartbeats 4000000 in
set_option maxRecDepth 8000 in
theorem snapHidden_law (m u : UInt8) (l : List Sp.Act) (k : Int) (c : UInt8) (hl : l.length ≤ 9223372036854775807) (ht : ∀ a ∈ l, a.text.length ≤ 9223372036854775807) (σ : Store) :
    ACalls Tryz.prog 8 [byteA m, byteA u, .list false 11 (actsA l), .lit (.int .i64 k), byteA c] σ fun v _ => v = .lit (.bool true) := by
  have hm : 2 ≤ 2 + m.toNat % 4 ∧ 2 + m.toNat % 4 ≤ 5 := by omega
  have hg : (Sp.lays m l).good := Sp.foldl_good _ (Sp.new_good hm)
  have haw := fun τ => sawake_calls τ
  have hlay := fun τ => slayP_calls m u l hl ht τ
  generalize Sp.lays m l = S at *
  refine ACalls.of_awp follows (st := st8) (plans := pl8) (n := 96) Tryz.func8 rfl (by kernel_rfl) (by kernel_rfl) (by kernel_rfl) ?_
  have hbc : byteA c = .lit (.int .u8 c.toNat) := rfl
  have hpp := fun τ (q2 p2 : Nat) (h' : Prg τ q2 p2 (upTo S S.n)) => pput_calls h' k c
  rw [hbc] at hpp ⊢
  have hbm : byteA m = .lit (.int .u8 m.toNat) := rfl
  have hbu : byteA u = .lit (.int .u8 u.toNat) := rfl
  rw [hbm, hbu] at hlay ⊢
  simp
  refine callK.eq (haw _) ?_
  simp
  refine callK.of (hlay _) ?_
  rintro v τ ⟨hL, -⟩
  unfold LayP at hL
  obtain ⟨q, p, x, y, n, pv, w, hv, hn, hPS, hP, hR, hs⟩ := hL
  subst hv
  obtain ⟨a, ha⟩ := hPS.ptr
  rw [ha] at hPS ⊢
  have r1 := hPS.ref hR
  have hwk : wrap S.n k < S.n := wrap_lt S.n_pos k
  have hst := rstartI_calls r1 k
  have hgu := upTo_good hg (Nat.le_refl S.n)
  have hcu := upTo_cells hg
  have hun : (upTo S S.n).n = S.n := rfl
  have hru : (upTo S S.n).rows = S.rows := rfl
  have ho := r1.obj
  have hrow := r1.row
  have hln := hg.len
  unfold rfO at ho
  have hT := text_calls hP hPS
  rw [hru, textTo_upTo n hg] at hT
  have hX := fun τ' (h' : Ref τ' x y S) => rtext_calls h' hn
  have hwr := fun τ' (h' : Ref τ' x y S) => rswrap_calls h' k
  have hKc : wrap S.n k < S.cells.length := by omega
  have hca : (cellsO S.cells)[wrap S.n k * 6 + 1]? = some (.lit (.bool (attrAt S.cells (wrap S.n k)))) := by
    rw [cellsO_get1 hKc (by omega)]
    have e : attrAt S.cells (wrap S.n k) = S.cells[wrap S.n k].attr := by simp [attrAt, hKc]
    rw [e]; rfl
  clear hlay haw
  simp
  refine callK.eq hst ?_
  by_cases hneg : startS S.cells (wrap S.n k) < 0
  · simp [hneg]
    repeat' with_reducible apply And.intro
    all_goals
      refine callK.of hT ?_
      rintro v τ1 ⟨rfl, hPS1⟩
      simp
      refine callK.eq (hX _ (hPS1.ref hR)) ?_
      simp
      exact ⟨_, Store.sub_refl _⟩
  · have h0 : 0 ≤ startS S.cells (wrap S.n k) := by omega
    have hAn : (startS S.cells (wrap S.n k)).toNat < S.n := by
      by_cases hc0 : S.count = 0
      · rw [startS_none hc0] at h0; omega
      · exact (startS_at hg hwk hc0).2
    have hhp := hide_put hgu k c
    rw [hun, hcu] at hhp
    obtain ⟨A, hA⟩ : ∃ A : Nat, startS S.cells (wrap S.n k) = (A : Int) := ⟨_, (Int.toNat_of_nonneg h0).symm⟩
    rw [hA, Int.toNat_natCast] at hAn
    rw [hA, Int.toNat_natCast] at hhp
    rw [hA] at hneg ⊢
    have hfd := rfield_calls r1 A hAn
    have hfa : fldA (fld (S.cells[A]?.getD .zero).fa) = .agg [.lit (.bool (fldAt S A).prot), .lit (.bool (fldAt S A).num), .lit (.int .i64 (fldAt S A).disp), .lit (.bool (fldAt S A).mod)] := rfl
    rw [hfa] at hfd
    have hfu : fldAt (upTo S S.n) A = fldAt S A := by unfold fldAt; rw [hcu]
    rw [hfu] at hhp
    generalize fldAt S A = F at *
    by_cases hd : F.disp = 3
    · have hdz : ((F.disp : Nat) : Int) = 3 := by omega
      by_cases hat : attrAt S.cells (wrap S.n k) = true
      · simp [hneg]
        refine callK.eq hfd ?_
        simp [hdz, ho, rowC]
        repeat' with_reducible apply And.intro
        all_goals
          refine callK.eq (hwr _ r1) ?_
          simp [hdz, ho, rowC, hrow, hca, hwk, hat]
          repeat' with_reducible apply And.intro
          all_goals
            refine callK.of hT ?_
            rintro v τ1 ⟨rfl, hPS1⟩
            simp
            refine callK.eq (hX _ (hPS1.ref hR)) ?_
            simp
            exact ⟨_, Store.sub_refl _⟩
      · have hat' : attrAt S.cells (wrap S.n k) = false := by simpa using hat
        obtain ⟨g1, g2, g3, g4, g5⟩ := hhp (by omega) hd hat'
        have hsg := Tw.sign (s := upTo S S.n) (t := (upTo S S.n).put k c) (by rw [hcu]; exact g2) (by rw [hcu]; exact g3) n
        have e1 := textTo_eq hsg g4 g5 S.rows
        have e2 := fieldsL_eq (s := upTo S S.n) (t := (upTo S S.n).put k c) (by rw [hcu]; exact g2) hsg g5
        have e3 := diffTo_eq hsg g4 g5 S.rows
        have e4 : signAt n (upTo S S.n) (wrap S.n k) = 32 := by
          unfold signAt
          rw [g1]; unfold signN; simp
        have hgT : ((upTo S S.n).put k c).good := hgu.put k c
        have hal : (fieldsL n (upTo S S.n)).length ≤ 1000000 := by
          have h1 : (upTo S S.n).attrs.length ≤ (upTo S S.n).cells.length := by simpa [Sp.attrs] using List.length_filter_le _ (List.range (upTo S S.n).cells.length)
          have h2 := hgu.len
          have h3 := (upTo S S.n).n_le
          simp [fieldsL]; omega
        have hE := fun τ' => strEq_calls (fieldsL n (upTo S S.n)) hal τ'
        have hcp := scopy_calls (hPS.prg hP)
        have hrT : ((upTo S S.n).put k c).rows = S.rows := g4
        clear hhp g2 g3 g4 g5 hX hat hst
        generalize (upTo S S.n).put k c = T at *
        generalize upTo S S.n = S0 at *
        have key : ∀ q2 p2 : Nat, τ q2 = none → τ p2 = none → q2 ≠ p2 → ∃ Y2, PS Y2 q p n (.lit (.pointer a)) (putS spO τ q2 p2 T) ∧ Prg Y2 q p S0 ∧ Prg Y2 q2 p2 T := fun q2 p2 f1 f2 ne => by
          obtain ⟨hC, y1, y2⟩ := hPS.copy f1 f2 ne T
          exact ⟨_, hC, (hP.new y1 _).new (by simp [Ne.symm ne, y2]) _, Scr.of_put ne hgT⟩
        simp [hneg]
        refine callK.eq hfd ?_
        simp [hdz, ho, rowC]
        repeat' with_reducible apply And.intro
        all_goals
          refine callK.eq (hwr _ r1) ?_
          simp [hdz, ho, rowC, hrow, hca, hwk, hat']
          repeat' with_reducible apply And.intro
          all_goals
            refine callK.of hcp ?_
            rintro v τ2 ⟨q2, p2, rfl, f1, f2, ne, rfl⟩
            obtain ⟨Y2, hC, hP1, hP2⟩ := key q2 p2 f1 f2 ne
            simp
            refine callK.of (hpp _ q2 p2 (Scr.of_put ne hgu)) ?_
            rintro v τ3 ⟨rfl, e9⟩
            rw [putS_put ne] at e9
            rw [← e9] at hC
            clear e9
            have s1 := signI_calls hP1 hC k
            rw [hun, e4] at s1
            simp
            refine callK.of s1 ?_
            rintro v τ4 ⟨rfl, hC4⟩
            have s2 := text_calls hP2 (hC4.change hP2)
            rw [hrT, e1] at s2
            simp
            refine callK.of s2 ?_
            rintro v τ5 ⟨rfl, hC5⟩
            have s3 := text_calls hP1 (hC5.change hP1)
            rw [hru] at s3
            simp
            refine callK.of s3 ?_
            rintro v τ6 ⟨rfl, hC6⟩
            have s4 := pfields_calls hP2 (hC6.change hP2)
            rw [e2] at s4
            simp
            refine callK.of s4 ?_
            rintro v τ7 ⟨rfl, hC7⟩
            simp
            refine callK.of (pfields_calls hP1 (hC7.change hP1)) ?_
            rintro v τ8 ⟨rfl, hC8⟩
            simp
            refine callK.eq (hE _) ?_
            have s5 := diff_calls hP1 hP2 hC8
            rw [hrT, e3] at s5
            simp
            refine callK.of s5 ?_
            rintro v τ9 ⟨rfl, hC9⟩
            simp [rwsA]
            exact ⟨_, Store.sub_refl _⟩
    · have hdz : ¬ ((F.disp : Nat) : Int) = 3 := by omega
      simp [hneg]
      refine callK.eq hfd ?_
      simp [hdz]
      repeat' with_reducible apply And.intro
      all_goals
        refine callK.of hT ?_
        rintro v τ1 ⟨rfl, hPS1⟩
        simp
        refine callK.eq (hX _ (hPS1.ref hR)) ?_
        simp
        exact ⟨_, Store.sub_refl _⟩
end Go.Proofs.YtlmdbcgceijlnaaGreatDoor
/-
  SnapHidden: for every input the law returns true, and the arguments read as they did.
-/
namespace Go.Proofs.YtlmdbcgceijlnaaGreatDoor
open Go Go.AL Go.ChangeShapes Go.WideShapes Go.ChangeAt Go.RowKit Go.Lib

theorem own_snapHidden : ownKnob Tryz.prog.godebug = none := by kernel_rfl
theorem laid_snapHidden : laidOutB Tryz.prog = true := by kernel_rfl
theorem rec22_snapHidden : Tryz.prog.readableRec 22 = true := by kernel_rfl
theorem row22_snapHidden : (22 : TypeId) < Tryz.prog.types.size := of_decide_eq_true (by kernel_rfl)
theorem rec3_snapHidden : Tryz.prog.readableRec 3 = true := by kernel_rfl
theorem row3_snapHidden : (3 : TypeId) < Tryz.prog.types.size := of_decide_eq_true (by kernel_rfl)
theorem rec5_snapHidden : Tryz.prog.readableRec 5 = true := by kernel_rfl
theorem row5_snapHidden : (5 : TypeId) < Tryz.prog.types.size := of_decide_eq_true (by kernel_rfl)

set_option maxRecDepth 100000 in
theorem snapHidden_lifted (os : Os) (started : os.Started) (H : Type) (enc : TypeId × Value → H) :
    ReturnsInHanded {} Tryz.checked os 8 .any (fun w args => (Rows.snapHiddenSpec.pre enc Tryz.prog Tryz.f8 [] false w args ∧ laidMetH Tryz.prog laid5 w) ∧ sizedMet enc Tryz.prog Tryz.f8 (OpenSpec.ofChange Rows.snapHiddenSpec) false w args) (Rows.snapHiddenSpec.post enc Tryz.prog Tryz.f8 false true false false) := by
  refine returnsInHanded_of_change_and (C := Tryz.checked) (X := fun w _ => laidMetH Tryz.prog laid5 w) (fun _ _ _ hh h => h.of_heap hh) own_snapHidden started (by kernel_rfl) Tryz.func8
    (ChangeSpec.witness_shaped (enc := enc) (C := Tryz.checked) (os := os) (X := fun w _ => laidMetH Tryz.prog laid5 w) false (World.laidAll Tryz.prog os laid5) #[.int .u8 0, .int .u8 0, .slice none 0 0, .int .i64 0, .int .u8 0] 8 (World.laidAll_os _ _ _)
      (World.shaped_of_ZipB (by kernel_rfl) (by kernel_rfl)) (by kernel_rfl) (by kernel_rfl) (by kernel_rfl)
      (by rw [MakeChecks.laidMetH_plain _ _ _ (by kernel_rfl)]; exact laidMet_laidAll _ (by kernel_rfl) (by kernel_rfl))) ?_
  intro W base args ds gs before hval0 hW _ _ hL _
  have hval : ∀ (j : Nat) t v, Tryz.f8.params[j]? = some t → args[j]? = some v → Value.okWide Tryz.prog W .any base t v := hval0
  have hW' := hW
  obtain ⟨p, q, hA0, hV, rfl, hfz, hnd⟩ := hW
  have hA : DataW.TrodAll enc Tryz.prog W 0 (fun _ => true) true Tryz.f8.params.toList args.toList ds p := hA0
  rw [Tryz.params8] at hA hval
  obtain ⟨v0, v1, v2, v3, v4, d0, d1, d2, d3, d4, p0, p1, p2, p3, p4, rfl, rfl, rfl, h0, h1, h2, h3, h4⟩ := trodAll_five hA
  obtain ⟨rfl, rfl⟩ := trodVars_none hV
  obtain ⟨_, hv0⟩ := okWide_int Tryz.underlying5 (hval 0 5 v0 rfl rfl)
  obtain ⟨a0, m0, w0⟩ := (Opens.u8 Tryz.underlying5).arg _ (fun _ => rfl) (by rw [hv0]; rfl) h0
  obtain ⟨_, hv1⟩ := okWide_int Tryz.underlying5 (hval 1 5 v1 rfl rfl)
  obtain ⟨a1, m1, w1⟩ := (Opens.u8 Tryz.underlying5).arg _ (fun _ => rfl) (by rw [hv1]; rfl) h1
  obtain ⟨_, _, _, hv2⟩ := okWide_slice Tryz.underlying22 (hval 2 22 v2 rfl rfl)
  obtain ⟨a2, m2, w2⟩ := (open_acts).arg _ (fun _ => rfl) (by rw [hv2]; rfl) h2
  obtain ⟨_, hv3⟩ := okWide_int Tryz.underlying3 (hval 3 3 v3 rfl rfl)
  obtain ⟨a3, m3, w3⟩ := (Opens.i64 Tryz.underlying3).arg _ (fun _ => rfl) (by rw [hv3]; rfl) h3
  obtain ⟨_, hv4⟩ := okWide_int Tryz.underlying5 (hval 4 5 v4 rfl rfl)
  obtain ⟨a4, m4, w4⟩ := (Opens.u8 Tryz.underlying5).arg _ (fun _ => rfl) (by rw [hv4]; rfl) h4
  clear hA0 hval0
  simp only [List.append_nil] at hW'
  have hlt : ∀ x ∈ p0 ++ p1 ++ p2 ++ p3 ++ p4, x.block < W.heap.size := fun x hx => hW'.lt x hx
  refine (law_calls (snapHidden_law a0 a1 a2 a3 a4 m2.1 m2.2 _) W #[v0, v1, v2, v3, v4] rfl (fun i c u hc hu => ?_) (laid_none W) (vars5 hL)).mono fun e W' ⟨he, hb⟩ => ?_
  · match i with
    | 0 => simp at hc hu; subst hc hu; exact ⟨w0, rfl⟩
    | 1 => simp at hc hu; subst hc hu; exact ⟨w1, rfl⟩
    | 2 => simp at hc hu; subst hc hu; exact ⟨w2, rfl⟩
    | 3 => simp at hc hu; subst hc hu; exact ⟨w3, rfl⟩
    | 4 => simp at hc hu; subst hc hu; exact ⟨w4, rfl⟩
    | n + 5 => simp at hc
  subst he
  refine ⟨_, rfl, [d0, d1, d2, d3, d4], [], p0 ++ p1 ++ p2 ++ p3 ++ p4, [], p0 ++ (p1 ++ (p2 ++ (p3 ++ p4))), [], hW', ?_, ?_, rfl, hb.frame _, fun h => (by cases h)⟩
  · exact trodAll_mk1 (shut_bool Tryz.underlying4 true)
  · refine trodAll_mk5 (Below.trod laid_snapHidden rec5_snapHidden row5_snapHidden h0 hb fun x hx => hlt x (by simp [hx])) (Below.trod laid_snapHidden rec5_snapHidden row5_snapHidden h1 hb fun x hx => hlt x (by simp [hx])) (Below.trod laid_snapHidden rec22_snapHidden row22_snapHidden h2 hb fun x hx => hlt x (by simp [hx])) (Below.trod laid_snapHidden rec3_snapHidden row3_snapHidden h3 hb fun x hx => hlt x (by simp [hx])) (Below.trod laid_snapHidden rec5_snapHidden row5_snapHidden h4 hb fun x hx => hlt x (by simp [hx]))

theorem snapHidden_holds : Rows.SnapHiddenSaid :=
  OpenClaim.holds_of_wide 8 Tryz.f8 rfl rfl rfl rfl rfl rfl rfl ⟨rfl, rfl, rfl, rfl, rfl⟩ rfl rfl rfl rfl rfl (by kernel_rfl) Tryz.func8 (by kernel_rfl)
    (of_decide_eq_true (by kernel_rfl)) (by unfold Func.isWrapper; first | (rw [if_pos (by decide +kernel)]; kernel_rfl) | (rw [if_neg (by decide +kernel)]; exact ⟨rfl, rfl⟩))
    (fun os started H enc _ => snapHidden_lifted os started H enc)
end Go.Proofs.YtlmdbcgceijlnaaGreatDoor
