/-
  Whether all cells of the document's screen look as they may.
-/
import Derived.Test.YtnlggjbcdienfaaPart20
namespace Go.Proofs.Ytnlggjbcdienfaa
open Go Go.AL Go.Sp

theorem chkE_ok (t x : UInt8) : chkE t x = 0 ↔ okP t.toNat x.toNat := by
  unfold chkE; split <;> simp_all
theorem okP_zero : okP 65 0 ∧ okP 66 0 ∧ okP 67 0 := by decide
theorem okCell_diff (c : Cell) : okCell c ↔ ∀ x ∈ diffP .zero c, okP x.1.toNat x.2.toNat := by
  have e1 : ∀ v : UInt8, (0 : UInt8) = v → v.toNat = 0 := fun v h => by subst h; rfl
  simp only [okCell, chkE_ok, diffP, List.mem_append, d1, d2, d3, Cell.zero]
  have a1 : (0x41 : UInt8).toNat = 65 := rfl
  have a2 : (0x42 : UInt8).toNat = 66 := rfl
  have a3 : (0x43 : UInt8).toNat = 67 := rfl
  rw [a1, a2, a3]
  constructor
  · rintro ⟨h1, h2, h3⟩ x hx
    rcases hx with hx | hx | hx
    · by_cases e : (0 : UInt8) = c.high
      · simp [e] at hx
      · simp [e] at hx; subst hx; exact h1
    · by_cases e : (0 : UInt8) = c.color
      · simp [e] at hx
      · simp [e] at hx; subst hx; exact h2
    · by_cases e : (0 : UInt8) = c.set
      · simp [e] at hx
      · simp [e] at hx; subst hx; exact h3
  · intro h
    refine ⟨?_, ?_, ?_⟩
    · by_cases h0 : (0 : UInt8) = c.high
      · rw [e1 _ h0]; exact okP_zero.1
      · exact h (0x41, c.high) (.inl (by simp [h0]))
    · by_cases h0 : (0 : UInt8) = c.color
      · rw [e1 _ h0]; exact okP_zero.2.1
      · exact h (0x42, c.color) (.inr (.inl (by simp [h0])))
    · by_cases h0 : (0 : UInt8) = c.set
      · rw [e1 _ h0]; exact okP_zero.2.2
      · exact h (0x43, c.set) (.inr (.inr (by simp [h0])))
set_option maxRecDepth 8000 in
theorem looks2_calls {x y : Nat} {s : Sp} {σ : Store} (h : Ref σ x y s) : ACalls Try.prog 27 [ptrA x] σ fun v σ' => v = .lit (.bool (decide (looksS s))) ∧ σ' = σ := by
  have hro := h.obj
  have hrow := h.row
  have hln := h.good.len
  have hn := s.n_le
  unfold rfO at hro
  refine ACalls.of_awp follows (st := st27) (plans := pl27) (n := 29) Try.func27 rfl (by kernel_rfl) (by kernel_rfl) (by kernel_rfl) ?_
  simp [hro, rowC]
  refine codeK.loop follows (st := st27) (plans := pl27) (X := Nat) (fun i => i ≤ s.n ∧ ∀ j (hj : j < s.cells.length), j < i → okCell s.cells[j])
    (fun i => [(10, rowC y s.n), (11, .lit (.int .i64 s.n)), (12, .lit (.int .i64 i))]) (fun _ => σ) (fun i => s.n - i) 0 (by kernel_rfl) (by simp) (by simp [rowC]) (Store.sub_refl _) fun i hi => ?_
  obtain ⟨hi, hk⟩ := hi
  by_cases hlt : i < s.n
  · have hw : IntKind.i64.wrap ((i : Int) + 1) = ((i + 1 : Nat) : Int) := wrap_i64 (by omega) (by omega)
    have hic : i < s.cells.length := by omega
    have hgi := cellsO_get hic
    have hle : i * 6 + 6 ≤ (cellsO s.cells).length := by rw [cellsO_length]; omega
    have hnx : okCell s.cells[i] → ∀ j (hj : j < s.cells.length), j < i + 1 → okCell s.cells[j] := fun h j hj hji => by
      by_cases e : j = i
      · subst e; exact h
      · exact hk j hj (by omega)
    have hno : ¬ okCell s.cells[i] → ¬ looksS s := fun h h2 => h (h2 _ (List.getElem_mem hic))
    generalize s.cells[i] = c at *
    have hd := fun τ => rdiff_calls .zero c τ
    have hoc := okCell_diff c
    have hdl := diffP_length .zero c
    generalize diffP .zero c = L at *
    have hcz : cellA .zero = .agg [.lit (.int .u8 0), .lit (.bool false), .lit (.int .u8 0), .lit (.int .u8 0), .lit (.int .u8 0), .lit (.int .u8 0)] := rfl
    rw [hcz] at hd
    rw [cellA_eq] at hd
    have hcx : cellC c = [byteA c.char, .lit (.bool c.attr), byteA c.fa, byteA c.high, byteA c.color, byteA c.set] := rfl
    rw [hcx] at hgi
    simp [hlt, rowC, hrow, hle, hgi]
    intro b hb
    refine callK.of (hd _) ?_
    rintro v σ' ⟨rfl, rfl⟩
    simp
    refine codeK.loop follows (st := st27) (plans := pl27) (X := Nat) (fun j => j ≤ L.length ∧ ∀ k (hk : k < L.length), k < j → okP L[k].1.toNat L[k].2.toNat)
      (fun j => [(10, rowC y s.n), (11, .lit (.int .i64 s.n)), (12, .lit (.int .i64 i)), (18, .list false 2 (L.map p2A)), (19, .lit (.int .i64 L.length)), (20, .lit (.int .i64 j))]) (fun _ => σ) (fun j => L.length - j) 0 (by kernel_rfl) (by simp) (by simp [rowC]) (sub_upd_self _ _ _ hb) fun j hj => ?_
    obtain ⟨hj, hjk⟩ := hj
    by_cases hjl : j < L.length
    · have hwj : IntKind.i64.wrap ((j : Int) + 1) = ((j + 1 : Nat) : Int) := wrap_i64 (by omega) (by omega)
      have hkj : (L.map p2A)[j]'(by simpa using hjl) = p2A L[j] := by simp
      have hjn : okP L[j].1.toNat L[j].2.toNat → ∀ k (hk : k < L.length), k < j + 1 → okP L[k].1.toNat L[k].2.toNat := fun h k hk' hkj => by
        by_cases e : k = j
        · subst e; exact h
        · exact hjk k hk' (by omega)
      have hjo : ¬ okP L[j].1.toNat L[j].2.toNat → ¬ okCell c := fun h h2 => h (hoc.1 h2 _ (List.getElem_mem hjl))
      generalize L[j] = z at *
      have hk2 : p2A z = .agg [byteA z.1, byteA z.2] := rfl
      have hr := fun τ => right_calls z.1 z.2 τ
      simp [hjl, hkj, hk2]
      intro b2 hb2
      refine callK.of (hr _) ?_
      rintro v σ2 ⟨rfl, rfl⟩
      by_cases ho : okP z.1.toNat z.2.toNat
      · simp [ho]
        exact ⟨j + 1, ⟨by omega, hjn ho⟩, by omega, by rw [hwj]; exact AV.le_refl _, sub_upd_self _ _ _ hb2⟩
      · have hf := hno (hjo ho)
        simp [ho, hf]
        exact sub_upd_self _ _ _ hb2
    · obtain rfl : j = L.length := by omega
      have hc : okCell c := hoc.2 fun x hx => by
        obtain ⟨k, hk, rfl⟩ := List.getElem_of_mem hx
        exact hjk k hk hk
      simp
      exact ⟨i + 1, ⟨by omega, hnx hc⟩, by omega, by rw [hw]; exact ⟨AV.le_refl _, AV.le_refl _⟩⟩
  · obtain rfl : i = s.n := by omega
    have hl : looksS s := fun c hc => by
      obtain ⟨k, hk', rfl⟩ := List.getElem_of_mem hc
      exact hk k hk' (by omega)
    simp [hl]
end Go.Proofs.Ytnlggjbcdienfaa
/-
  The screens of acts, laid by the other chapter.
-/
namespace Go.Proofs.Ytnlggjbcdienfaa
open Go Go.AL Go.Sp

set_option maxRecDepth 8000 in
set_option maxHeartbeats 1000000 in
theorem lay25_calls (m : UInt8) (l : List Sp.Act) (hl : l.length ≤ 9223372036854775807) (ht : ∀ a ∈ l, a.text.length ≤ 9223372036854775807) (σ : Store) : ACalls Try.prog 25 [byteA m, .list false 11 (actsA l)] σ (LayR σ (Sp.lays m l)) := by
  have hm : 2 ≤ 2 + m.toNat % 4 ∧ 2 + m.toNat % 4 ≤ 5 := by omega
  have hmw : IntKind.i64.wrap (2 + IntKind.i64.wrap ((m.toNat : Int).tmod 4)) = ((2 + m.toNat % 4 : Nat) : Int) := by
    have e : (m.toNat : Int).tmod 4 = ((m.toNat % 4 : Nat) : Int) := rfl
    rw [e, wrap_i64 (n := ((m.toNat % 4 : Nat) : Int)) (by omega) (by omega), wrap_i64 (by omega) (by omega)]; simp
  have hstep := lays_step m l
  have hS : Sp.lays m l = ((l.take 30).take l.length).foldl Sp.act (Sp.new (2 + m.toNat % 4)) := by
    rw [List.take_of_length_le (show (l.take 30).length ≤ l.length by simp; omega)]; rfl
  have hn1 := new_calls hm
  have hn2 := rnew_calls hm
  have hgood := fun k => Sp.foldl_good ((l.take 30).take k) (Sp.new_good hm)
  have hmod : (Sp.lays m l).model = 2 + m.toNat % 4 := (foldl_model _ _).trans rfl
  have hng := Sp.new_good hm
  refine ACalls.of_awp follows (st := st25) (plans := pl25) (n := 70) Try.func25 rfl (by kernel_rfl) (by kernel_rfl) (by kernel_rfl) ?_
  generalize hN : Sp.new (2 + m.toNat % 4) = N0 at *
  simp [byteA, hmw]
  refine callK.of (hn1 _) ?_
  rintro v σ' ⟨q, p, rfl, hq, hp, hqp, rfl⟩
  simp
  refine callK.of (hn2 _) ?_
  rintro v σ' ⟨x, y0, rfl, hx, hy, hxy, rfl⟩
  simp
  have hx' : σ x = none ∧ x ≠ q ∧ x ≠ p := by
    simp only [putS, supd_apply, ite_none] at hx; exact ⟨hx.2.2, hx.2.1, hx.1⟩
  have hy' : σ y0 = none ∧ y0 ≠ q ∧ y0 ≠ p := by
    simp only [putS, supd_apply, ite_none] at hy; exact ⟨hy.2.2, hy.2.1, hy.1⟩
  refine codeK.cut (fun e A σ' => e = .exit 0 ∧ ∃ y, Four σ q p x y ∧ LeL A [(6, .lit (.int .i64 (2 + m.toNat % 4 : Nat))), (7, ptrA q), (9, ptrA x)] ∧ Store.sub (both σ q p x y N0 (Sp.lays m l)) σ') ?_ ?_
  · refine codeK.loop follows (st := st25) (plans := pl25) (X := Nat × Nat) (fun k => k.1 ≤ l.length ∧ Four σ q p x k.2)
      (fun k => [(6, .lit (.int .i64 (2 + m.toNat % 4 : Nat))), (7, ptrA q), (9, ptrA x), (25, .list false 11 (actsA l)), (26, .lit (.int .i64 l.length)), (27, .lit (.int .i64 k.1))])
      (fun k => both σ q p x k.2 N0 (((l.take 30).take k.1).foldl Sp.act N0)) (fun k => l.length - k.1) (0, y0) (by kernel_rfl) ⟨by simp, ⟨hq, hp, hx'.1, hy'.1, hqp, Ne.symm hx'.2.1, Ne.symm hy'.2.1, Ne.symm hx'.2.2, Ne.symm hy'.2.2, hxy⟩⟩ (by simp) ?_ fun k hk => ?_
    · simp only [List.take_zero, List.foldl_nil]
      have h1 := hx'.2; have h2 := hy'.2
      simp only [both, putS]
      (intro q; simp only [Store.upd, Store.del]; (repeat' split) <;> first | exact Or.inr rfl | exact Or.inl rfl | (exfalso; omega) | (left; subst_vars; assumption) | simp_all)
    · obtain ⟨i, y⟩ := k
      obtain ⟨hi, h4⟩ := hk
      dsimp only at hi h4 ⊢
      by_cases hlt : i < l.length
      · have hw : IntKind.i64.wrap ((i : Int) + 1) = ((i + 1 : Nat) : Int) := wrap_i64 (by omega) (by omega)
        have ha := actsA_at l i hlt
        have hst := hstep i hlt
        have htx := ht l[i] (List.getElem_mem hlt)
        have hg := hgood i
        have hg2 := hgood (i + 1)
        by_cases h30 : i < 30
        · have h30i : (i : Int) < 30 := by omega
          rw [hst h30] at hg2
          have hst2 := hst h30
          generalize ((l.take 30).take i).foldl Sp.act N0 = t at *
          generalize l[i] = a at *
          have hdo := fun τ (hτ : Ref τ x y t) => rdo_calls hτ a htx
          have hac : actA a = .agg [byteA a.what, .lit (.int .i64 a.n), .lit (.bool a.on), byteA a.code, byteA a.c.char, .lit (.bool a.c.attr), byteA a.c.fa, byteA a.c.high, byteA a.c.color, byteA a.c.set, .list false 1 (bytesA a.text)] := rfl
          rw [hac] at hdo ha
          have hR := both_ref (s := N0) h4 hg
          simp +contextual [hlt, h30i, ha]
          intro b hb
          obtain ⟨m1, m2, m3, m4⟩ := hR.fresh hb
          refine callK.of (hdo _ (hR.new hb _)) ?_
          rintro v σ' ⟨rfl, y', hy2, rfl⟩
          have hb2 : σ b = none ∧ ¬ b = q ∧ ¬ b = p := by
            simp only [both, putS, supd_apply, ite_none] at hb; exact ⟨hb.2.2.2.2, hb.2.1, hb.1⟩
          have hy3 : ¬ y' = b ∧ ¬ y' = x ∧ ¬ y' = p ∧ ¬ y' = q ∧ σ y' = none := by
            rcases hy2 with rfl | hy2
            · exact ⟨m2, Ne.symm h4.xy, Ne.symm h4.py, Ne.symm h4.qy, h4.y0⟩
            · simp only [both, putS, supd_apply, ite_none] at hy2
              exact ⟨hy2.1, hy2.2.2.2.2.1, hy2.2.1, hy2.2.2.1, hy2.2.2.2.2.2⟩
          obtain ⟨y1, y2, y3, y4, y5⟩ := hy3
          obtain ⟨b1, b2, b3⟩ := hb2
          simp
          refine ⟨i + 1, y', ⟨by omega, ⟨h4.q0, h4.p0, h4.x0, y5, h4.qp, h4.qx, Ne.symm y4, h4.px, Ne.symm y3, Ne.symm y2⟩⟩, by omega, by rw [hw]; exact AV.le_refl _, ?_⟩
          rw [hst2]
          obtain ⟨_, _, _, _, f1, f2, f3, f4, f5, f6⟩ := h4
          simp only [both, putS]
          (intro q; simp only [Store.upd, Store.del]; (repeat' split) <;> first | exact Or.inr rfl | exact Or.inl rfl | (exfalso; omega) | (left; subst_vars; assumption) | simp_all)
        · have h30i : ¬ (i : Int) < 30 := by omega
          have hl30 : (l.take 30).length ≤ 30 := by simp; omega
          have hsame : (l.take 30).take (i + 1) = (l.take 30).take i :=
            (List.take_of_length_le (show (l.take 30).length ≤ i + 1 by omega)).trans (List.take_of_length_le (show (l.take 30).length ≤ i by omega)).symm
          have hac : ∀ a, actA a = .agg [byteA a.what, .lit (.int .i64 a.n), .lit (.bool a.on), byteA a.code, byteA a.c.char, .lit (.bool a.c.attr), byteA a.c.fa, byteA a.c.high, byteA a.c.color, byteA a.c.set, .list false 1 (bytesA a.text)] := fun _ => rfl
          rw [hac] at ha
          simp +contextual [hlt, h30i, ha]
          intro b hb
          refine ⟨i + 1, y, ⟨by omega, h4⟩, by omega, by rw [hw]; exact AV.le_refl _, ?_⟩
          rw [hsame]
          exact sub_upd_self _ _ _ hb
      · obtain rfl : i = l.length := by omega
        rw [← hS]
        simp
        exact ⟨y, h4, Store.sub_refl _⟩
  · rintro e A' σ2 ⟨rfl, y, h4, hA, hσ⟩
    refine View.leL hA (View.sub hσ (View.here ?_))
    clear hA hσ hstep
    have hg := hgood l.length
    rw [← hS] at hg
    clear hS hgood
    generalize hSS : Sp.lays m l = S at *
    have hRo := fun p' (h4 : Four σ q p' x y) t => (both_ref (s := t) h4 hg).obj
    have hRr := fun p' (h4 : Four σ q p' x y) t => (both_ref (s := t) h4 hg).row
    unfold rfO at hRo
    have hcl := fun τ (hτ : Prg τ q p N0) => clear_calls (σ := τ) true hτ.good.model hτ.obj
    have hN0 : N0 = Sp.clear ⟨2 + m.toNat % 4, false, [], 0⟩ false := hN.symm
    have hN1 : N0.clear true = Sp.clear ⟨2 + m.toNat % 4, false, [], 0⟩ true := by rw [hN0]; rfl
    have hz := upTo_zero S
    rw [hmod] at hz
    have hen : ∀ (j : Nat) (hj : j < S.cells.length), ((cellsO S.cells).drop (j * 6)).take 6 = cellC S.cells[j] := fun j hj => cellsO_get hj
    have hcl6 := cellsO_length S.cells
    have hSl := hg.len
    have hSn := S.n_le
    have hmain : ∀ p', Four σ q p' x y → True := fun _ _ => trivial
    by_cases halt : S.alt = true
    · rw [halt] at hz
      rw [← hN1] at hz
      simp [hRo p h4, halt]
      refine callK.of (hcl _ (both_prg h4 hng)) ?_
      rintro v σ' ⟨rfl, p', hp', rfl⟩
      have h4' : Four σ q p' x y := by
        simp only [both, putS, supd_apply, ite_none] at hp'
        obtain ⟨f1, f2, f3, f4, f5, f6, f7, f8, f9, f10⟩ := h4
        exact ⟨f1, hp'.2.2.2.2, f3, f4, Ne.symm hp'.2.1, f6, f7, hp'.2.2.2.1, hp'.2.2.1, f10⟩
      rw [← hz]
      have hsub : Store.sub (both σ q p' x y (upTo S 0) S) (putS spO (both σ q p x y N0 S) q p' (upTo S 0)) := by
        have h10 := h4'
        obtain ⟨f1, f2, f3, f4, f5, f6, f7, f8, f9, f10⟩ := h4
        obtain ⟨g1, g2, g3, g4, g5, g6, g7, g8, g9, g10⟩ := h4'
        simp only [both, putS]
        (intro q; simp only [Store.upd, Store.del]; (repeat' split) <;> first | exact Or.inr rfl | exact Or.inl rfl | (exfalso; omega) | (left; subst_vars; assumption) | simp_all)
      have e1 : putS spO (both σ q p x y N0 S) q p' (upTo S 0) x = some (rfO S y) := by
        obtain ⟨f1, f2, f3, f4, f5, f6, f7, f8, f9, f10⟩ := h4
        obtain ⟨g1, g2, g3, g4, g5, g6, g7, g8, g9, g10⟩ := h4'
        simp [both, putS, Ne.symm f6, Ne.symm f8, Ne.symm g8, f10]
      unfold rfO at e1
      simp [e1, rowC]
      clear e1
      refine codeK.loop follows (st := st25) (plans := pl25) (X := Nat) (fun j => j ≤ S.n)
        (fun j => [(7, ptrA q), (9, ptrA x), (47, rowC y S.n), (48, .lit (.int .i64 S.n)), (49, .lit (.int .i64 j))])
        (fun j => both σ q p' x y (upTo S j) S) (fun j => S.n - j) 0 (by kernel_rfl) (by simp) (by simp [rowC]) hsub fun j hj => ?_
      by_cases hlt : j < S.n
      · have hw : IntKind.i64.wrap ((j : Int) + 1) = ((j + 1 : Nat) : Int) := wrap_i64 (by omega) (by omega)
        have hjc : j < S.cells.length := by omega
        have hnx := upTo_next hg hlt hjc
        have hsm := upTo_same hg hlt hjc
        have hgj := hen j hjc
        have hP := both_prg (t := S) h4' (upTo_good hg hj)
        have hst := fun τ (hτ : Prg τ q p' (upTo S j)) => set_calls hτ (j : Int) S.cells[j]
        rw [← hnx] at hst
        have hz0 := eqLits_zero S.cells[j]
        have hcx : cellC S.cells[j] = [byteA S.cells[j].char, .lit (.bool S.cells[j].attr), byteA S.cells[j].fa, byteA S.cells[j].high, byteA S.cells[j].color, byteA S.cells[j].set] := rfl
        rw [hcx] at hgj
        rw [cellA_eq] at hst
        have hrow := hRr p' h4' (upTo S j)
        generalize S.cells[j] = c at *
        have hle : j * 6 + 6 ≤ (cellsO S.cells).length := by omega
        by_cases hc : c = .zero
        · have hsm := hsm hc
          have hz1 := hz0.trans (congrArg some (decide_eq_true hc))
          clear hc
          simp +contextual [-e_eqLits_2, rowC, hlt, hrow, hle, hgj, hz1]
          intro b hb
          refine ⟨j + 1, by omega, by omega, by rw [hw]; exact AV.le_refl _, ?_⟩
          rw [hsm]
          exact sub_upd_self _ _ _ hb
        · have hz1 := hz0.trans (congrArg some (decide_eq_false hc))
          simp +contextual [-e_eqLits_2, rowC, hlt, hrow, hle, hgj, hz1]
          intro b hb
          refine callK.of (hst _ (hP.new hb _)) ?_
          rintro v σ' ⟨rfl, rfl⟩
          obtain ⟨m1, m2, m3, m4⟩ := hP.fresh hb
          simp
          refine ⟨j + 1, by omega, by omega, by rw [hw]; exact AV.le_refl _, ?_⟩
          simp only [both, putS] at hb ⊢
          simp only [supd_apply, ite_none] at hb
          obtain ⟨b1, b2, b3, b4, b5⟩ := hb
          clear hrow hst hP hnx hsm hgj hcx hz0
          (intro q; simp only [Store.upd, Store.del]; (repeat' split) <;> first | exact Or.inr rfl | exact Or.inl rfl | (exfalso; omega) | (left; subst_vars; assumption) | simp_all)
      · obtain rfl : j = S.n := by omega
        have hP := both_prg (t := S) h4' (upTo_good hg (Nat.le_refl _))
        have hpl := fun τ (hτ : Prg τ q p' (upTo S S.n)) => place_calls hτ (S.cursor : Int)
        rw [upTo_all hg] at hpl
        simp [hRo p' h4' (upTo S S.n)]
        refine callK.of (hpl _ hP) ?_
        rintro v σ' ⟨rfl, rfl⟩
        simp
        refine ⟨_, AV.le_refl _, _, ?_, q, p', x, y, rfl, h4', rfl⟩
        simp only [both, putS]
        obtain ⟨g1, g2, g3, g4, g5, g6, g7, g8, g9, g10⟩ := h4'
        (intro q; simp only [Store.upd, Store.del]; (repeat' split) <;> first | exact Or.inr rfl | exact Or.inl rfl | (exfalso; omega) | (left; subst_vars; assumption) | simp_all)
    · have halt' : S.alt = false := by simpa using halt
      rw [halt'] at hz
      rw [← hN0] at hz
      rw [← hz]
      have h4' := h4
      have hsub := Store.sub_refl (both σ q p x y (upTo S 0) S)
      obtain ⟨p', hpp⟩ : ∃ p', p' = p := ⟨_, rfl⟩
      have e1 := hRo p h4 (upTo S 0)
      rw [halt'] at e1
      simp [e1]
      rw [← hpp] at h4' hsub e1 ⊢
      simp [rowC]
      clear e1
      refine codeK.loop follows (st := st25) (plans := pl25) (X := Nat) (fun j => j ≤ S.n)
        (fun j => [(7, ptrA q), (9, ptrA x), (47, rowC y S.n), (48, .lit (.int .i64 S.n)), (49, .lit (.int .i64 j))])
        (fun j => both σ q p' x y (upTo S j) S) (fun j => S.n - j) 0 (by kernel_rfl) (by simp) (by simp [rowC]) hsub fun j hj => ?_
      by_cases hlt : j < S.n
      · have hw : IntKind.i64.wrap ((j : Int) + 1) = ((j + 1 : Nat) : Int) := wrap_i64 (by omega) (by omega)
        have hjc : j < S.cells.length := by omega
        have hnx := upTo_next hg hlt hjc
        have hsm := upTo_same hg hlt hjc
        have hgj := hen j hjc
        have hP := both_prg (t := S) h4' (upTo_good hg hj)
        have hst := fun τ (hτ : Prg τ q p' (upTo S j)) => set_calls hτ (j : Int) S.cells[j]
        rw [← hnx] at hst
        have hz0 := eqLits_zero S.cells[j]
        have hcx : cellC S.cells[j] = [byteA S.cells[j].char, .lit (.bool S.cells[j].attr), byteA S.cells[j].fa, byteA S.cells[j].high, byteA S.cells[j].color, byteA S.cells[j].set] := rfl
        rw [hcx] at hgj
        rw [cellA_eq] at hst
        have hrow := hRr p' h4' (upTo S j)
        generalize S.cells[j] = c at *
        have hle : j * 6 + 6 ≤ (cellsO S.cells).length := by omega
        by_cases hc : c = .zero
        · have hsm := hsm hc
          have hz1 := hz0.trans (congrArg some (decide_eq_true hc))
          clear hc
          simp +contextual [-e_eqLits_2, rowC, hlt, hrow, hle, hgj, hz1]
          intro b hb
          refine ⟨j + 1, by omega, by omega, by rw [hw]; exact AV.le_refl _, ?_⟩
          rw [hsm]
          exact sub_upd_self _ _ _ hb
        · have hz1 := hz0.trans (congrArg some (decide_eq_false hc))
          simp +contextual [-e_eqLits_2, rowC, hlt, hrow, hle, hgj, hz1]
          intro b hb
          refine callK.of (hst _ (hP.new hb _)) ?_
          rintro v σ' ⟨rfl, rfl⟩
          obtain ⟨m1, m2, m3, m4⟩ := hP.fresh hb
          simp
          refine ⟨j + 1, by omega, by omega, by rw [hw]; exact AV.le_refl _, ?_⟩
          simp only [both, putS] at hb ⊢
          simp only [supd_apply, ite_none] at hb
          obtain ⟨b1, b2, b3, b4, b5⟩ := hb
          clear hrow hst hP hnx hsm hgj hcx hz0
          (intro q; simp only [Store.upd, Store.del]; (repeat' split) <;> first | exact Or.inr rfl | exact Or.inl rfl | (exfalso; omega) | (left; subst_vars; assumption) | simp_all)
      · obtain rfl : j = S.n := by omega
        have hP := both_prg (t := S) h4' (upTo_good hg (Nat.le_refl _))
        have hpl := fun τ (hτ : Prg τ q p' (upTo S S.n)) => place_calls hτ (S.cursor : Int)
        rw [upTo_all hg] at hpl
        simp [hRo p' h4' (upTo S S.n)]
        refine callK.of (hpl _ hP) ?_
        rintro v σ' ⟨rfl, rfl⟩
        simp
        refine ⟨_, AV.le_refl _, _, ?_, q, p', x, y, rfl, h4', rfl⟩
        simp only [both, putS]
        obtain ⟨g1, g2, g3, g4, g5, g6, g7, g8, g9, g10⟩ := h4'
        (intro q; simp only [Store.upd, Store.del]; (repeat' split) <;> first | exact Or.inr rfl | exact Or.inl rfl | (exfalso; omega) | (left; subst_vars; assumption) | simp_all)
end Go.Proofs.Ytnlggjbcdienfaa
/-
  Reports from the document's form to the program's and back; when two are the same.
-/
namespace Go.Proofs.Ytnlggjbcdienfaa
open Go Go.AL

theorem ensA_take_succ (l : List En) (i : Nat) (h : i < l.length) : ensA (l.take (i + 1)) = ensA (l.take i) ++ [enA l[i]] := by
  rw [List.take_succ_eq_append_getElem h, ensA_append]; rfl

set_option maxRecDepth 4000 in
theorem back_calls (o : Bool) (r : Rp) (h1 : r.es.length ≤ 1000000) (σ : Store) : ACalls Try.prog 31 [rpO o r] σ fun v σ' => v = rpO false r ∧ σ' = σ := by
  obtain ⟨aid, short, cursor, es⟩ := r
  dsimp only at h1
  have hrp : ∀ o, rpO o ⟨aid, short, cursor, es⟩ = .agg [byteA aid, .lit (.bool short), .lit (.int .i64 cursor), .list o 2 (ensA es)] := fun _ => rfl
  rw [hrp, hrp]
  refine ACalls.of_awp follows (st := st31) (plans := pl31) (n := 28) Try.func31 rfl (by kernel_rfl) (by kernel_rfl) (by kernel_rfl) ?_
  simp +contextual [ite_free]
  intro p hp r0 n1 n2 _ q n3 n4 n5 n6 _
  refine codeK.loop follows (st := st31) (plans := pl31) (X := Nat) (fun i => i ≤ es.length)
    (fun i => [(2, ptrA r0), (3, ptrA q), (14, .list false 2 (ensA es)), (15, .lit (.int .i64 es.length)), (16, .lit (.int .i64 i))])
    (fun i => (σ.upd r0 [.lit (.int .u8 0), .lit (.bool false), .lit (.int .i64 0), .list true 2 []]).upd q [byteA aid, .lit (.bool short), .lit (.int .i64 cursor), .list true 2 (ensA (es.take i))])
    (fun i => es.length - i) 0 (by kernel_rfl) (by simp) (by simp) (by simp [ensA]; (intro q; simp only [Store.upd, Store.del]; (repeat' split) <;> first | exact Or.inr rfl | exact Or.inl rfl | (exfalso; omega) | (left; subst_vars; assumption) | simp_all)) fun i hi => ?_
  by_cases hlt : i < es.length
  · have hw : IntKind.i64.wrap ((i : Int) + 1) = ((i + 1 : Nat) : Int) := wrap_i64 (by omega) (by omega)
    have ha := ensA_at es i hlt
    have hs := ensA_take_succ es i hlt
    generalize es[i] = e at *
    obtain ⟨ad, tx⟩ := e
    simp +contextual [hlt, ha, enA, ite_free]
    intro c c1 c2 c3 c4 c5
    refine ⟨by omega, by omega, i + 1, by omega, by omega, by rw [hw]; exact AV.le_refl _, ?_⟩
    rw [hs]
    (intro q; simp only [Store.upd, Store.del]; (repeat' split) <;> first | exact Or.inr rfl | exact Or.inl rfl | (exfalso; omega) | (left; subst_vars; assumption) | simp_all)
  · obtain rfl : i = es.length := by omega
    simp [n4]
    (intro q; simp only [Store.upd, Store.del]; (repeat' split) <;> first | exact Or.inr rfl | exact Or.inl rfl | (exfalso; omega) | (left; subst_vars; assumption) | simp_all)

def sameE (x y : En) : Bool := decide (x.addr = y.addr) && (x.text == y.text)
theorem sameE_iff {x y : En} : sameE x y = true ↔ x = y := by
  obtain ⟨a, t⟩ := x; obtain ⟨b, u⟩ := y
  simp [sameE]
set_option maxRecDepth 4000 in
theorem rsame_calls (o o' : Bool) (r s : Rp) (h1 : r.es.length ≤ 1000000) (σ : Store) : ACalls Try.prog 30 [rpO o r, rpO o' s] σ fun v σ' => v = .lit (.bool (decide (r = s))) ∧ σ' = σ := by
  obtain ⟨aid, short, cursor, es⟩ := r
  obtain ⟨aid', short', cursor', fs⟩ := s
  dsimp only at h1
  have hrp : ∀ o aid short cursor es, rpO o ⟨aid, short, cursor, es⟩ = .agg [byteA aid, .lit (.bool short), .lit (.int .i64 cursor), .list o 2 (ensA es)] := fun _ _ _ _ _ => rfl
  rw [hrp, hrp]
  refine ACalls.of_awp follows (st := st30) (plans := pl30) (n := 70) Try.func30 rfl (by kernel_rfl) (by kernel_rfl) (by kernel_rfl) ?_
  by_cases e1 : aid = aid'
  case neg =>
    have e1' : ¬ (aid.toNat : Int) = aid'.toNat := fun h => e1 (UInt8.toNat_inj.1 (by omega))
    simp +contextual [ite_free, byteA, e1, e1']
    intros; (intro q; simp only [Store.upd, Store.del]; (repeat' split) <;> first | exact Or.inr rfl | exact Or.inl rfl | (exfalso; omega) | (left; subst_vars; assumption) | simp_all)
  subst e1
  by_cases e2 : short = short'
  case neg =>
    simp +contextual [ite_free, byteA, e2]
    intros; (intro q; simp only [Store.upd, Store.del]; (repeat' split) <;> first | exact Or.inr rfl | exact Or.inl rfl | (exfalso; omega) | (left; subst_vars; assumption) | simp_all)
  subst e2
  by_cases e3 : cursor = cursor'
  case neg =>
    simp +contextual [ite_free, byteA, e3]
    intros; (intro q; simp only [Store.upd, Store.del]; (repeat' split) <;> first | exact Or.inr rfl | exact Or.inl rfl | (exfalso; omega) | (left; subst_vars; assumption) | simp_all)
  subst e3
  by_cases e4 : es.length = fs.length
  case neg =>
    have e4' : ¬ (es.length : Int) = fs.length := by omega
    have e5 : ¬ es = fs := fun h => e4 (h ▸ rfl)
    simp +contextual [ite_free, byteA, e4', e5]
    intros; (intro q; simp only [Store.upd, Store.del]; (repeat' split) <;> first | exact Or.inr rfl | exact Or.inl rfl | (exfalso; omega) | (left; subst_vars; assumption) | simp_all)
  simp +contextual [ite_free, byteA, e4]
  intro p hp q n1 n2 _
  refine codeK.loop follows (st := st30) (plans := pl30) (X := Nat) (fun i => i ≤ es.length ∧ ∀ j, (h : j < es.length) → j < i → sameE es[j] (fs[j]'(by omega)) = true)
    (fun i => [(2, ptrA p), (3, ptrA q), (36, .lit (.int .i64 es.length)), (37, .lit (.int .i64 i))])
    (fun i => (σ.upd p [byteA aid, .lit (.bool short), .lit (.int .i64 cursor), .list o 2 (ensA es)]).upd q [byteA aid, .lit (.bool short), .lit (.int .i64 cursor), .list o' 2 (ensA fs)])
    (fun i => es.length - i) 0 (by kernel_rfl) (by simp) (by simp [e4]) (by simp [byteA]) fun i ⟨hi, hk⟩ => ?_
  by_cases hlt : i < es.length
  · have hw : IntKind.i64.wrap ((i : Int) + 1) = ((i + 1 : Nat) : Int) := wrap_i64 (by omega) (by omega)
    have hlt' : i < fs.length := by omega
    have ha := ensA_at es i hlt
    have hb := ensA_at fs i hlt'
    have hno : sameE es[i] fs[i] = true → ∀ j, (h : j < es.length) → j < i + 1 → sameE es[j] (fs[j]'(by omega)) = true := fun h j hj hji => by
      by_cases e : j = i
      · subst e; exact h
      · exact hk j hj (by omega)
    have hyes : sameE es[i] fs[i] = false → ¬ es = fs := fun h e => by
      subst e
      rw [sameE_iff.2 rfl] at h; cases h
    have hcp := fun σ => same_calls false false es[i].text fs[i].text σ
    generalize es[i] = x at *
    generalize fs[i] = y at *
    obtain ⟨a, t⟩ := x; obtain ⟨b, u⟩ := y
    simp only [sameE] at hno hyes
    by_cases e5 : a = b
    · subst e5
      simp +contextual [hlt, hlt', ha, hb, enA, n2]
      refine callK.of (hcp _) ?_
      rintro v σ' ⟨rfl, rfl⟩
      by_cases e6 : (t == u) = true
      · simp [e6]
        exact ⟨i + 1, ⟨by omega, hno (by simp [e6])⟩, by omega, by rw [hw]; exact AV.le_refl _⟩
      · have e7 := hyes (by simpa using e6)
        simp [e6, e7]
        (intro q; simp only [Store.upd, Store.del]; (repeat' split) <;> first | exact Or.inr rfl | exact Or.inl rfl | (exfalso; omega) | (left; subst_vars; assumption) | simp_all)
    · have e7 := hyes (by simp [e5])
      simp +contextual [hlt, hlt', ha, hb, enA, n2, e5, e7]
      (intro q; simp only [Store.upd, Store.del]; (repeat' split) <;> first | exact Or.inr rfl | exact Or.inl rfl | (exfalso; omega) | (left; subst_vars; assumption) | simp_all)
  · obtain rfl : i = es.length := by omega
    have heq : es = fs := by
      refine List.ext_getElem e4 fun j h1 h2 => ?_
      exact sameE_iff.1 (hk j h1 h1)
    simp [heq]
    (intro q; simp only [Store.upd, Store.del]; (repeat' split) <;> first | exact Or.inr rfl | exact Or.inl rfl | (exfalso; omega) | (left; subst_vars; assumption) | simp_all)

def exRp : Rp := ⟨0x7d, false, 2, [⟨1, [0xc1, 0xc2]⟩]⟩
theorem ex_par {r : Rp} {e : Nat} (hp : ParS [0x7d, 0x40, 0xc2, 0x11, 0x40, 0xc1, 0xc1, 0xc2] r e) : r = exRp ∧ e = 0 := by
  have hd : decM 0x40 0xc2 = (2, 0) := by decide +kernel
  have hp' : if (decM 0x40 0xc2).2 ≠ 0 then e = (decM 0x40 0xc2).2 else TailS 0x7d false (decM 0x40 0xc2).1 [0x11, 0x40, 0xc1, 0xc1, 0xc2] r e := hp
  rw [hd, if_neg (by simp)] at hp'
  obtain ⟨os, e3, h1, _, h2⟩ := hp'
  have e2 : entF [] [0x11, 0x40, 0xc1, 0xc1, 0xc2] = some [⟨1, [0xc1, 0xc2]⟩] := by
    rw [entF_sba (n := 1) (by decide +kernel), entF_text (by decide), entF_text (by decide), entF_nil]; rfl
  obtain ⟨h3, h4⟩ := entF_some e2
  rw [h1.fn] at h3 h4
  dsimp only at h3 h4
  rw [if_neg (by omega)] at h2
  have h5 : entsS os = some [⟨1, [0xc1, 0xc2]⟩] := h4
  rw [h5] at h2
  exact h2
set_option maxRecDepth 4000 in
/-- The document's example. -/
theorem eawake_calls (σ : Store) : ACalls Try.prog 24 [] σ fun v σ' => v = .lit (.bool true) ∧ σ' = σ := by
  have hp : ∀ σ, ACalls Try.prog 26 [.list true 1 (bytesA [0x7d, 0x40, 0xc2, 0x11, 0x40, 0xc1, 0xc1, 0xc2])] σ fun v σ' => (∃ ow, v = .tuple [rpO ow exRp, .lit (.int .i64 0)]) ∧ σ' = σ := fun σ =>
    (parse_calls true [0x7d, 0x40, 0xc2, 0x11, 0x40, 0xc1, 0xc1, 0xc2] (by simp) σ).mono fun v σ' ⟨ow, r, e, h1, h2, h3⟩ => by
      obtain ⟨rfl, rfl⟩ := ex_par h3
      exact ⟨⟨ow, h1⟩, h2⟩
  simp only [bytesA, byteA, List.map_cons, List.map_nil] at hp
  have hc : ∀ ow, rpO ow exRp = .agg [.lit (.int .u8 125), .lit (.bool false), .lit (.int .i64 2), .list ow 2 [.agg [.lit (.int .i64 1), .list false 1 (bytesA [0xc1, 0xc2])]]] := fun _ => rfl
  refine ACalls.of_awp follows (st := st24) (plans := pl24) (n := 43) Try.func24 rfl (by kernel_rfl) (by kernel_rfl) (by kernel_rfl) ?_
  simp
  refine callK.of (hp _) ?_
  rintro v σ' ⟨⟨ow, rfl⟩, rfl⟩
  simp +contextual [hc, bytesOf_bytesA]
end Go.Proofs.Ytnlggjbcdienfaa
/-
  One character, as the document's Characters send it.
-/
namespace Go.Proofs.Ytnlggjbcdienfaa
open Go Go.AL Go.Sp

set_option maxRecDepth 8000 in
theorem rchars_calls (o : Bool) (c d : Cell) (mode : Nat) (hm : mode < 2) (σ : Store) : ACalls Try.prog 16 [.list o 6 [cellA c], cellA d, .lit (.int .i64 mode)] σ fun v σ' => v = .tuple [.list false 1 (bytesA (charB c)), cellA c] ∧ σ' = σ := by
  have hch := fun τ => rchar_calls c d mode hm τ
  have hlen : (charB c).length ≤ 2 := by unfold charB; split <;> simp
  have hcd : ∀ x : Cell, cellC x = [byteA x.char, .lit (.bool x.attr), byteA x.fa, byteA x.high, byteA x.color, byteA x.set] := fun _ => rfl
  simp only [cellA_eq] at hch ⊢
  refine ACalls.of_awp follows (st := st16) (plans := pl16) (n := 27) Try.func16 rfl (by kernel_rfl) (by kernel_rfl) (by kernel_rfl) ?_
  simp
  intro b4 hb4 b7 h7
  simp only [ite_none] at h7
  obtain ⟨n1, hb7⟩ := h7
  refine codeK.loop follows (st := st16) (plans := pl16) (X := Bool) (fun _ => True)
    (fun i => [(2, .lit (.int .i64 mode)), (4, ptrA b4), (7, ptrA b7), (8, .list true 1 (bytesA (if i = true then charB c else []))), (11, .list false 6 [cellA c]), (12, .lit (.int .i64 (1 : Nat))), (13, .lit (.int .i64 (if i = true then 1 else 0 : Nat)))])
    (fun i => (σ.upd b4 (cellC (if i = true then c else d))).upd b7 (cellC .zero)) (fun i => if i = true then 0 else 1) false (by kernel_rfl) trivial (by simp [cellA_eq, bytesA]) (by simp [hcd, Cell.zero, byteA]) fun i _ => ?_
  cases i
  · simp [cellA_eq]
    intro b hb
    simp only [ite_none] at hb
    obtain ⟨m1, m2, hb⟩ := hb
    have n2 : ¬ b4 = b7 := Ne.symm n1
    have m3 : ¬ b4 = b := Ne.symm m2
    simp [m3, n2, hcd]
    refine callK.of (hch _) ?_
    rintro v σ' ⟨rfl, rfl⟩
    simp [bytesA_nil]
    refine ⟨by omega, by omega, ?_⟩
    simp [m3, n2]
    intro o
    simp only [supd_apply, hcd]
    by_cases g1 : o = b4
    · right; simp [g1, n2]
    · by_cases g2 : o = b7
      · right; simp [g2, n1, show ¬ b7 = b from Ne.symm m1]
      · by_cases g3 : o = b
        · left; simp [g3, m1, m2, hb]
        · right; simp [g1, g2, g3]
  · have n2 : ¬ b4 = b7 := Ne.symm n1
    simp [n2, hcd]
    refine ⟨AV.le_tuple ⟨AV.le1_list _ _ _, AV.le1_refl _, trivial⟩, fun o => ?_⟩
    simp only [supd_apply]
    by_cases g1 : o = b4
    · left; rw [g1]; exact hb4
    · by_cases g2 : o = b7
      · left; rw [g2]; exact hb7
      · right; simp [g1, g2]
end Go.Proofs.Ytnlggjbcdienfaa
