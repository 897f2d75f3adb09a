/-
  A screen is laid, a board stands on it.
-/
import Derived.Test.YtlmdbcgceijlnaaGreatDoorPart21
set_option linter.unusedSimpArgs false
set_option linter.unusedVariables false
namespace Go.Proofs.YtlmdbcgceijlnaaGreatDoor
open Go Go.AL Go.Sp

def pagesL : List Nat := [37, 273, 297, 500, 1047, 1140]
def pageN (u : UInt8) : Int := ((pagesL[u.toNat % 6]?.getD 0 : Nat) : Int)
theorem pageN_ok (u : UInt8) : isPage (pageN u) := all_bytes (p := fun u => isPage (pageN u)) (by decide +kernel) u
theorem pages_calls (σ : Store) : ACalls Tryz.prog 125 [] σ fun v σ' => v = .list true 1 (natsA pagesL) ∧ σ' = σ := by
  refine ACalls.of_awp follows (st := st125) (plans := pl125) (n := 2) Tryz.func125 rfl (by kernel_rfl) (by kernel_rfl) (by kernel_rfl) ?_
  simp [natsA, natA, pagesL]
def newB (s : Sp) : Bd := { s := s, lock := 0, ins := false, aid := 0x60 }
def LayK (σ : Store) (n : Int) (s : Sp) (v : AV) (σ' : Store) : Prop := ∃ (k q p b c : Nat) (base : Store), v = .tuple [ptrA k, ptrA q, ptrA c] ∧ Store.sub σ base ∧ base k = none ∧ base q = none ∧ base b = none ∧ KOk base k q p b n (newB s) ∧ σ' = kS base k q p b n none (newB s)
/-- The document's keyboard, in a store. -/
def rbdO (x : Nat) (n lock : Int) (ins : Bool) (aid : UInt8) : List AV := [ptrA x, .lit (.int .i64 n), .lit (.int .i64 lock), .lit (.bool ins), byteA aid]
/-- The same, and the document's keyboard on its screen. -/
def LayD (σ : Store) (n : Int) (s : Sp) (v : AV) (σ' : Store) : Prop := ∃ (k q p b c : Nat) (base : Store), v = .tuple [ptrA k, ptrA q, ptrA c] ∧ Store.sub σ base ∧ base k = none ∧ base q = none ∧ base b = none ∧ KOk base k q p b n (newB s) ∧ σ' = kS base k q p b n none (newB s) ∧
  ∃ (x y : Nat), base c = some (rbdO x n 0 false 0x60) ∧ Ref base x y s ∧ σ c = none
theorem lay_sub {σ : Store} {b k q p x y c : Nat} (X K PG SQ CS RX CY SQ0 CS0 : List AV) (hbk : ¬ b = k) (hbq : ¬ b = q) (hbp : ¬ b = p) (hbx : ¬ b = x) (hby : ¬ b = y) (hbc : ¬ b = c) (hkq : ¬ k = q) (hkp : ¬ k = p) (hkx : ¬ k = x) (hky : ¬ k = y) (hkc : ¬ k = c) (hqp : ¬ q = p) (hqx : ¬ q = x) (hqy : ¬ q = y) (hqc : ¬ q = c) (hpx : ¬ p = x) (hpy : ¬ p = y) (hpc : ¬ p = c) (hxy : ¬ x = y) (hxc : ¬ x = c) (hyc : ¬ y = c) :
    Store.sub (((((((σ.upd x RX).upd y CY).upd c X).upd q SQ).upd p CS).upd k K).upd b PG) (((((((((σ.upd b PG).upd x RX).upd y CY).upd q SQ0).upd p CS0).upd q SQ).upd p CS).upd k K).upd c X) := by
  refine Store.sub2 (fun o => .inr ?_) (fun i => by simp)
  simp only [supd_apply]
  by_cases eb : o = b
  · subst eb
    simp [hbk, hbq, hbp, hbx, hby, hbc]
  by_cases ek : o = k
  · subst ek
    simp [Ne.symm hbk, hkc]
  by_cases eq : o = q
  · subst eq
    simp [Ne.symm hbq, Ne.symm hkq, hqp, hqc]
  by_cases ep : o = p
  · subst ep
    simp [Ne.symm hbp, Ne.symm hkp, hpc]
  by_cases ex : o = x
  · subst ex
    simp [Ne.symm hbx, Ne.symm hkx, Ne.symm hqx, Ne.symm hpx, hxy, hxc]
  by_cases ey : o = y
  · subst ey
    simp [Ne.symm hby, Ne.symm hky, Ne.symm hqy, Ne.symm hpy, hyc]
  by_cases ec : o = c
  · subst ec
    simp [Ne.symm hbc, Ne.symm hkc, Ne.symm hqc, Ne.symm hpc]
  simp only [if_neg eb, if_neg ek, if_neg eq, if_neg ep, if_neg ex, if_neg ey, if_neg ec]
theorem knew_calls (q b : Nat) (σ : Store) : ACalls Tryz.prog 35 [ptrA q, ptrA b] σ fun v σ' => ∃ k : Nat, σ k = none ∧ v = .tuple [ptrA k, .lit (.int .i64 0)] ∧ σ' = σ.upd k [ptrA q, ptrA b, .lit (.int .i64 0), .lit (.bool false), byteA 0x60] := by
  refine ACalls.of_awp follows (st := st35) (plans := pl35) (n := 16) Tryz.func35 rfl (by kernel_rfl) (by kernel_rfl) (by kernel_rfl) ?_
  simp
  intro k hk
  exact ⟨_, AV.le_refl _, _, Store.sub_refl _, k, hk, rfl, rfl⟩
theorem rfnew_calls (x : Nat) (n : Int) (σ : Store) : ACalls Tryz.prog 127 [ptrA x, .lit (.int .i64 n)] σ fun v σ' => ∃ (c : Nat), σ c = none ∧ v = ptrA c ∧ σ' = σ.upd c (rbdO x n 0 false 0x60) := by
  refine ACalls.of_awp follows (st := st127) (plans := pl127) (n := 9) Tryz.func127 rfl (by kernel_rfl) (by kernel_rfl) (by kernel_rfl) ?_
  simp
  intro k hk
  exact ⟨_, AV.le_refl _, _, Store.sub_refl _, k, hk, rfl, rfl⟩
set_option maxHeartbeats 2000000 in
set_option maxRecDepth 8000 in
theorem layD_calls (m u : UInt8) (l : List Sp.Act) (hl : l.length ≤ 9223372036854775807) (ht : ∀ a ∈ l, a.text.length ≤ 9223372036854775807) (σ : Store) : ACalls Tryz.prog 85 [byteA m, byteA u, .list false 11 (actsA l)] σ (LayD σ (pageN u) (Sp.lays m l)) := by
  have hm : 2 ≤ 2 + m.toNat % 4 ∧ 2 + m.toNat % 4 ≤ 5 := by omega
  have hmw : IntKind.i64.wrap (2 + IntKind.i64.wrap ((m.toNat : Int).tmod 4)) = ((2 + m.toNat % 4 : Nat) : Int) := by
    have e : (m.toNat : Int).tmod 4 = ((m.toNat % 4 : Nat) : Int) := rfl
    rw [e, wrap_i64 (n := ((m.toNat % 4 : Nat) : Int)) (by omega) (by omega), wrap_i64 (by omega) (by omega)]; simp
  have hstep := lays_step m l
  have hS : Sp.lays m l = ((l.take 30).take l.length).foldl Sp.act (Sp.new (2 + m.toNat % 4)) := by
    rw [List.take_of_length_le (show (l.take 30).length ≤ l.length by simp; omega)]; rfl
  have hn1 := new_calls hm
  have hn2 := rnew_calls hm
  have hgood := fun k => Sp.foldl_good ((l.take 30).take k) (Sp.new_good hm)
  have hmod : (Sp.lays m l).model = 2 + m.toNat % 4 := (foldl_model _ _).trans rfl
  have hng := Sp.new_good hm
  refine ACalls.of_awp follows (st := st85) (plans := pl85) (n := 97) Tryz.func85 rfl (by kernel_rfl) (by kernel_rfl) (by kernel_rfl) ?_
  generalize hN : Sp.new (2 + m.toNat % 4) = N0 at *
  simp [byteA, hmw]
  have h6 : (u.toNat : Int).tmod 6 = ((u.toNat % 6 : Nat) : Int) := rfl
  have hi6 : u.toNat % 6 < pagesL.length := Nat.mod_lt _ (by decide)
  have hpv : ((pagesL[u.toNat % 6] : Nat) : Int) = pageN u := by unfold pageN; rw [List.getElem?_eq_getElem hi6]; rfl
  have hok := pageN_ok u
  refine callK.of (pages_calls _) ?_
  rintro v τ ⟨rfl, eτ⟩
  rw [h6, eτ]
  generalize u.toNat % 6 = j6 at *
  generalize hL6 : pagesL = L6 at *
  have h60 : ¬ (j6 : Int) < 0 := by omega
  simp [hi6, hpv]
  generalize hnn : pageN u = nn at *
  refine callK.of (hn1 _) ?_
  rintro v σ' ⟨q, p, rfl, hq, hp, hqp, rfl⟩
  simp
  refine callK.of (page_new nn hok _) ?_
  rintro v σ' ⟨b0, hb0, rfl, rfl⟩
  simp
  have hb1 : σ b0 = none ∧ ¬ q = b0 ∧ ¬ p = b0 := by
    simp only [putS, supd_apply, ite_none] at hb0; exact ⟨hb0.2.2, fun e => hb0.2.1 e.symm, fun e => hb0.1 e.symm⟩
  have hpe : pgS b0 nn none (putS spO σ q p N0) = putS spO (pgS b0 nn none σ) q p N0 := by
    unfold putS; rw [pgS_upd hb1.2.1, pgS_upd hb1.2.2]
  rw [hpe]
  have hq1 : (pgS b0 nn none σ) q = none := by rw [pgS_other hb1.2.1]; exact hq
  have hp1 : (pgS b0 nn none σ) p = none := by rw [pgS_other hb1.2.2]; exact hp
  obtain ⟨σp, hσp⟩ : ∃ σp, σp = pgS b0 nn none σ := ⟨_, rfl⟩
  rw [← hσp] at hq1 hp1 ⊢
  refine callK.of (hn2 _) ?_
  rintro v σ' ⟨x, y0, rfl, hx, hy, hxy, rfl⟩
  simp
  have hx' : σp x = none ∧ x ≠ q ∧ x ≠ p := by
    simp only [putS, supd_apply, ite_none] at hx; exact ⟨hx.2.2, hx.2.1, hx.1⟩
  have hy' : σp y0 = none ∧ y0 ≠ q ∧ y0 ≠ p := by
    simp only [putS, supd_apply, ite_none] at hy; exact ⟨hy.2.2, hy.2.1, hy.1⟩
  refine codeK.cut (fun e A σ' => e = .exit 0 ∧ ∃ y, Four σp q p x y ∧ LeL A [(10, .lit (.int .i64 nn)), (13, pgP b0), (11, ptrA q), (15, ptrA x)] ∧ Store.sub (both σp q p x y N0 (Sp.lays m l)) σ') ?_ ?_
  · refine codeK.loop follows (st := st85) (plans := pl85) (X := Nat × Nat) (fun k => k.1 ≤ l.length ∧ Four σp q p x k.2)
      (fun k => [(10, .lit (.int .i64 nn)), (13, pgP b0), (11, ptrA q), (15, ptrA x), (43, .list false 11 (actsA l)), (44, .lit (.int .i64 l.length)), (45, .lit (.int .i64 k.1))])
      (fun k => both σp q p x k.2 N0 (((l.take 30).take k.1).foldl Sp.act N0)) (fun k => l.length - k.1) (0, y0) (by kernel_rfl) ⟨by simp, ⟨hq1, hp1, hx'.1, hy'.1, hqp, Ne.symm hx'.2.1, Ne.symm hy'.2.1, Ne.symm hx'.2.2, Ne.symm hy'.2.2, hxy⟩⟩ (by simp) ?_ fun k hk => ?_
    · simp only [List.take_zero, List.foldl_nil]
      have h1 := hx'.2; have h2 := hy'.2
      simp only [both, putS]
      (intro q; simp only [Store.upd, Store.del]; (repeat' split) <;> first | exact Or.inr rfl | exact Or.inl rfl | (exfalso; omega) | (left; subst_vars; assumption) | simp_all)
    · obtain ⟨i, y⟩ := k
      obtain ⟨hi, h4⟩ := hk
      dsimp only at hi h4 ⊢
      by_cases hlt : i < l.length
      · have hw : IntKind.i64.wrap ((i : Int) + 1) = ((i + 1 : Nat) : Int) := wrap_i64 (by omega) (by omega)
        have ha := actsA_at l i hlt
        have hst := hstep i hlt
        have htx := ht l[i] (List.getElem_mem hlt)
        have hg := hgood i
        have hg2 := hgood (i + 1)
        by_cases h30 : i < 30
        · have h30i : (i : Int) < 30 := by omega
          rw [hst h30] at hg2
          have hst2 := hst h30
          generalize ((l.take 30).take i).foldl Sp.act N0 = t at *
          generalize l[i] = a at *
          have hdo := fun τ (hτ : Ref τ x y t) => rdo_calls hτ a htx
          have hac : actA a = .agg [byteA a.what, .lit (.int .i64 a.n), .lit (.bool a.on), byteA a.code, byteA a.c.char, .lit (.bool a.c.attr), byteA a.c.fa, byteA a.c.high, byteA a.c.color, byteA a.c.set, .list false 1 (bytesA a.text)] := rfl
          rw [hac] at hdo ha
          have hR := both_ref (s := N0) h4 hg
          simp +contextual [hlt, h30i, ha]
          intro b hb
          obtain ⟨m1, m2, m3, m4⟩ := hR.fresh hb
          refine callK.of (hdo _ (hR.new hb _)) ?_
          rintro v σ' ⟨rfl, y', hy2, rfl⟩
          have hb2 : σp b = none ∧ ¬ b = q ∧ ¬ b = p := by
            simp only [both, putS, supd_apply, ite_none] at hb; exact ⟨hb.2.2.2.2, hb.2.1, hb.1⟩
          have hy3 : ¬ y' = b ∧ ¬ y' = x ∧ ¬ y' = p ∧ ¬ y' = q ∧ σp y' = none := by
            rcases hy2 with rfl | hy2
            · exact ⟨m2, Ne.symm h4.xy, Ne.symm h4.py, Ne.symm h4.qy, h4.y0⟩
            · simp only [both, putS, supd_apply, ite_none] at hy2
              exact ⟨hy2.1, hy2.2.2.2.2.1, hy2.2.1, hy2.2.2.1, hy2.2.2.2.2.2⟩
          obtain ⟨y1, y2, y3, y4, y5⟩ := hy3
          obtain ⟨b1, b2, b3⟩ := hb2
          simp
          refine ⟨i + 1, y', ⟨by omega, ⟨h4.q0, h4.p0, h4.x0, y5, h4.qp, h4.qx, Ne.symm y4, h4.px, Ne.symm y3, Ne.symm y2⟩⟩, by omega, by rw [hw]; exact AV.le_refl _, ?_⟩
          rw [hst2]
          obtain ⟨_, _, _, _, f1, f2, f3, f4, f5, f6⟩ := h4
          simp only [both, putS]
          (intro q; simp only [Store.upd, Store.del]; (repeat' split) <;> first | exact Or.inr rfl | exact Or.inl rfl | (exfalso; omega) | (left; subst_vars; assumption) | simp_all)
        · have h30i : ¬ (i : Int) < 30 := by omega
          have hl30 : (l.take 30).length ≤ 30 := by simp; omega
          have hsame : (l.take 30).take (i + 1) = (l.take 30).take i :=
            (List.take_of_length_le (show (l.take 30).length ≤ i + 1 by omega)).trans (List.take_of_length_le (show (l.take 30).length ≤ i by omega)).symm
          have hac : ∀ a, actA a = .agg [byteA a.what, .lit (.int .i64 a.n), .lit (.bool a.on), byteA a.code, byteA a.c.char, .lit (.bool a.c.attr), byteA a.c.fa, byteA a.c.high, byteA a.c.color, byteA a.c.set, .list false 1 (bytesA a.text)] := fun _ => rfl
          rw [hac] at ha
          simp +contextual [hlt, h30i, ha]
          intro b hb
          refine ⟨i + 1, y, ⟨by omega, h4⟩, by omega, by rw [hw]; exact AV.le_refl _, ?_⟩
          rw [hsame]
          exact sub_upd_self _ _ _ hb
      · obtain rfl : i = l.length := by omega
        rw [← hS]
        simp
        exact ⟨y, h4, Store.sub_refl _⟩
  · rintro e A' σ2 ⟨rfl, y, h4, hA, hσp⟩
    refine View.leL hA (View.sub hσp (View.here ?_))
    clear hA hσp hstep
    have hg := hgood l.length
    rw [← hS] at hg
    clear hS hgood
    generalize hSS : Sp.lays m l = S at *
    have hRo := fun p' (h4 : Four σp q p' x y) t => (both_ref (s := t) h4 hg).obj
    have hRr := fun p' (h4 : Four σp q p' x y) t => (both_ref (s := t) h4 hg).row
    unfold rfO at hRo
    have hcl := fun τ (hτ : Prg τ q p N0) => clear_calls (σ := τ) true hτ.good.model hτ.obj
    have hN0 : N0 = Sp.clear ⟨2 + m.toNat % 4, false, [], 0⟩ false := hN.symm
    have hN1 : N0.clear true = Sp.clear ⟨2 + m.toNat % 4, false, [], 0⟩ true := by rw [hN0]; rfl
    have hz := upTo_zero S
    rw [hmod] at hz
    have hen : ∀ (j : Nat) (hj : j < S.cells.length), ((cellsO S.cells).drop (j * 6)).take 6 = cellC S.cells[j] := fun j hj => cellsO_get hj
    have hcl6 := cellsO_length S.cells
    have hSl := hg.len
    have hSn := S.n_le
    have hmain : ∀ p', Four σp q p' x y → True := fun _ _ => trivial
    by_cases halt : S.alt = true
    · rw [halt] at hz
      rw [← hN1] at hz
      simp [hRo p h4, halt]
      refine callK.of (hcl _ (both_prg h4 hng)) ?_
      rintro v σ' ⟨rfl, p', hp', rfl⟩
      have h4' : Four σp q p' x y := by
        simp only [both, putS, supd_apply, ite_none] at hp'
        obtain ⟨f1, f2, f3, f4, f5, f6, f7, f8, f9, f10⟩ := h4
        exact ⟨f1, hp'.2.2.2.2, f3, f4, Ne.symm hp'.2.1, f6, f7, hp'.2.2.2.1, hp'.2.2.1, f10⟩
      rw [← hz]
      have hsub : Store.sub (both σp q p' x y (upTo S 0) S) (putS spO (both σp q p x y N0 S) q p' (upTo S 0)) := by
        have h10 := h4'
        obtain ⟨f1, f2, f3, f4, f5, f6, f7, f8, f9, f10⟩ := h4
        obtain ⟨g1, g2, g3, g4, g5, g6, g7, g8, g9, g10⟩ := h4'
        simp only [both, putS]
        (intro q; simp only [Store.upd, Store.del]; (repeat' split) <;> first | exact Or.inr rfl | exact Or.inl rfl | (exfalso; omega) | (left; subst_vars; assumption) | simp_all)
      have e1 : putS spO (both σp q p x y N0 S) q p' (upTo S 0) x = some (rfO S y) := by
        obtain ⟨f1, f2, f3, f4, f5, f6, f7, f8, f9, f10⟩ := h4
        obtain ⟨g1, g2, g3, g4, g5, g6, g7, g8, g9, g10⟩ := h4'
        simp [both, putS, Ne.symm f6, Ne.symm f8, Ne.symm g8, f10]
      unfold rfO at e1
      simp [e1, rowC]
      clear e1
      refine codeK.loop follows (st := st85) (plans := pl85) (X := Nat) (fun j => j ≤ S.n)
        (fun j => [(10, .lit (.int .i64 nn)), (13, pgP b0), (11, ptrA q), (15, ptrA x), (65, rowC y S.n), (66, .lit (.int .i64 S.n)), (67, .lit (.int .i64 j))])
        (fun j => both σp q p' x y (upTo S j) S) (fun j => S.n - j) 0 (by kernel_rfl) (by simp) (by simp [rowC]) hsub fun j hj => ?_
      by_cases hlt : j < S.n
      · have hw : IntKind.i64.wrap ((j : Int) + 1) = ((j + 1 : Nat) : Int) := wrap_i64 (by omega) (by omega)
        have hjc : j < S.cells.length := by omega
        have hnx := upTo_next hg hlt hjc
        have hsm := upTo_same hg hlt hjc
        have hgj := hen j hjc
        have hP := both_prg (t := S) h4' (upTo_good hg hj)
        have hst := fun τ (hτ : Prg τ q p' (upTo S j)) => set_calls hτ (j : Int) S.cells[j]
        rw [← hnx] at hst
        have hz0 := eqLits_zero S.cells[j]
        have hcx : cellC S.cells[j] = [byteA S.cells[j].char, .lit (.bool S.cells[j].attr), byteA S.cells[j].fa, byteA S.cells[j].high, byteA S.cells[j].color, byteA S.cells[j].set] := rfl
        rw [hcx] at hgj
        rw [cellA_eq] at hst
        have hrow := hRr p' h4' (upTo S j)
        generalize S.cells[j] = c at *
        have hle : j * 6 + 6 ≤ (cellsO S.cells).length := by omega
        by_cases hc : c = .zero
        · have hsm := hsm hc
          have hz1 := hz0.trans (congrArg some (decide_eq_true hc))
          clear hc
          simp +contextual [-e_eqLits_2, rowC, hlt, hrow, hle, hgj, hz1]
          intro b hb
          refine ⟨j + 1, by omega, by omega, by rw [hw]; exact AV.le_refl _, ?_⟩
          rw [hsm]
          exact sub_upd_self _ _ _ hb
        · have hz1 := hz0.trans (congrArg some (decide_eq_false hc))
          simp +contextual [-e_eqLits_2, rowC, hlt, hrow, hle, hgj, hz1]
          intro b hb
          refine callK.of (hst _ (hP.new hb _)) ?_
          rintro v σ' ⟨rfl, rfl⟩
          obtain ⟨m1, m2, m3, m4⟩ := hP.fresh hb
          simp
          refine ⟨j + 1, by omega, by omega, by rw [hw]; exact AV.le_refl _, ?_⟩
          simp only [both, putS] at hb ⊢
          simp only [supd_apply, ite_none] at hb
          obtain ⟨b1, b2, b3, b4, b5⟩ := hb
          clear hrow hst hP hnx hsm hgj hcx hz0
          (intro q; simp only [Store.upd, Store.del]; (repeat' split) <;> first | exact Or.inr rfl | exact Or.inl rfl | (exfalso; omega) | (left; subst_vars; assumption) | simp_all)
      · obtain rfl : j = S.n := by omega
        have hP := both_prg (t := S) h4' (upTo_good hg (Nat.le_refl _))
        have hpl := fun τ (hτ : Prg τ q p' (upTo S S.n)) => place_calls hτ (S.cursor : Int)
        rw [upTo_all hg] at hpl
        simp [hRo p' h4' (upTo S S.n)]
        refine callK.of (hpl _ hP) ?_
        rintro v σ' ⟨rfl, rfl⟩
        simp
        obtain ⟨g1, g2, g3, g4, g5, g6, g7, g8, g9, g10⟩ := h4'
        refine callK.of (knew_calls q b0 _) ?_
        rintro v σ' ⟨k, hk0, rfl, rfl⟩
        simp
        refine callK.of (rfnew_calls x nn _) ?_
        rintro v σ' ⟨c, hc0, rfl, rfl⟩
        generalize hX : rbdO x nn 0 false 0x60 = X at *
        simp
        have hbb : ¬ q = b0 ∧ ¬ p' = b0 ∧ ¬ x = b0 ∧ ¬ y = b0 := by
          have h0 : ∀ z : Nat, σp z = none → ¬ z = b0 := fun z hz e => by rw [e, hσp, pgS_cell] at hz; cases hz
          exact ⟨h0 _ g1, h0 _ g2, h0 _ g3, h0 _ g4⟩
        simp only [both, putS, supd_apply, ite_none] at hk0 hc0
        have hk1 : σp k = none ∧ ¬ k = q ∧ ¬ k = p' ∧ ¬ k = x ∧ ¬ k = y := by simp_all
        have hc1 : σp c = none ∧ ¬ c = q ∧ ¬ c = p' ∧ ¬ c = x ∧ ¬ c = y ∧ ¬ c = k := by simp_all
        have h0 : ∀ z : Nat, σp z = none → ¬ z = b0 ∧ σ z = none := fun z hz => by
          have e : ¬ z = b0 := fun e => by rw [e, hσp, pgS_cell] at hz; cases hz
          rw [hσp, pgS_other e] at hz
          exact ⟨e, hz⟩
        have q0 := h0 _ g1
        have p0 := h0 _ g2
        have x0 := h0 _ g3
        have y0' := h0 _ g4
        have k0 := h0 _ hk1.1
        have c0 := h0 _ hc1.1
        have hgB : (newB S).s.good := hg
        have hσ2 : σp = σ.upd b0 (pgA (.new nn)) := hσp
        refine ⟨_, AV.le_refl _, kS ((putS rfO σ x y S).upd c X) k q p' b0 nn none (newB S), ?_, k, q, p', b0, c, (putS rfO σ x y S).upd c X, rfl, ?_, by simp [putS, hk1.2.2.2.1, hk1.2.2.2.2, Ne.symm hc1.2.2.2.2.2, k0.2], by simp [putS, g6, g7, Ne.symm hc1.2.1, q0.2], by simp [putS, Ne.symm x0.1, Ne.symm y0'.1, Ne.symm c0.1, hb1.1], ⟨hk1.2.1, hk1.2.2.1, k0.1, g5, q0.1, p0.1, ?_, hok, hgB⟩, rfl, x, y, by rw [hX]; simp, ⟨?_, ?_, g10, hg⟩, c0.2⟩
        · have hnb : bdO q b0 (newB S) = [ptrA q, ptrA b0, .lit (.int .i64 0), .lit (.bool false), byteA 0x60] := rfl
          have hns : (newB S).s = S := rfl
          rw [hσ2]
          unfold kS pgS
          rw [hnb, hns]
          dsimp only
          obtain ⟨hk1a, hk1b, hk1c, hk1d, hk1e⟩ := hk1
          obtain ⟨hc1a, hc1b, hc1c, hc1d, hc1e, hc1f⟩ := hc1
          obtain ⟨q01, q02⟩ := q0
          obtain ⟨p01, p02⟩ := p0
          obtain ⟨x01, x02⟩ := x0
          obtain ⟨y01, y02⟩ := y0'
          obtain ⟨k01, k02⟩ := k0
          obtain ⟨c01, c02⟩ := c0
          simp only [both, putS]
          exact lay_sub X _ _ _ _ _ _ _ _ (fun e => k01 e.symm) (fun e => q01 e.symm) (fun e => p01 e.symm) (fun e => x01 e.symm) (fun e => y01 e.symm) (fun e => c01 e.symm) hk1b hk1c hk1d hk1e (fun e => hc1f e.symm) g5 g6 g7 (fun e => hc1b e.symm) g8 g9 (fun e => hc1c e.symm) g10 (fun e => hc1d e.symm) (fun e => hc1e e.symm)
        · unfold putS
          refine Store.sub_trans (Store.sub_upd x0.2 (Store.sub_refl _)) (Store.sub_trans (Store.sub_upd ?_ (Store.sub_refl _)) (Store.sub_upd ?_ (Store.sub_refl _)))
          · simp [Ne.symm g10, y0'.2]
          · simp [hc1.2.2.2.1, hc1.2.2.2.2.1, c0.2]
        · simp [putS, Ne.symm hc1.2.2.1, g8, g9, p0.2]
        · simp [putS, Ne.symm hc1.2.2.2.1, g10]
        · simp [putS, Ne.symm hc1.2.2.2.2.1]
    · have halt' : S.alt = false := by simpa using halt
      rw [halt'] at hz
      rw [← hN0] at hz
      rw [← hz]
      have h4' := h4
      have hsub := Store.sub_refl (both σp q p x y (upTo S 0) S)
      obtain ⟨p', hpp⟩ : ∃ p', p' = p := ⟨_, rfl⟩
      have e1 := hRo p h4 (upTo S 0)
      rw [halt'] at e1
      simp [e1]
      rw [← hpp] at h4' hsub e1 ⊢
      simp [rowC]
      clear e1
      refine codeK.loop follows (st := st85) (plans := pl85) (X := Nat) (fun j => j ≤ S.n)
        (fun j => [(10, .lit (.int .i64 nn)), (13, pgP b0), (11, ptrA q), (15, ptrA x), (65, rowC y S.n), (66, .lit (.int .i64 S.n)), (67, .lit (.int .i64 j))])
        (fun j => both σp q p' x y (upTo S j) S) (fun j => S.n - j) 0 (by kernel_rfl) (by simp) (by simp [rowC]) hsub fun j hj => ?_
      by_cases hlt : j < S.n
      · have hw : IntKind.i64.wrap ((j : Int) + 1) = ((j + 1 : Nat) : Int) := wrap_i64 (by omega) (by omega)
        have hjc : j < S.cells.length := by omega
        have hnx := upTo_next hg hlt hjc
        have hsm := upTo_same hg hlt hjc
        have hgj := hen j hjc
        have hP := both_prg (t := S) h4' (upTo_good hg hj)
        have hst := fun τ (hτ : Prg τ q p' (upTo S j)) => set_calls hτ (j : Int) S.cells[j]
        rw [← hnx] at hst
        have hz0 := eqLits_zero S.cells[j]
        have hcx : cellC S.cells[j] = [byteA S.cells[j].char, .lit (.bool S.cells[j].attr), byteA S.cells[j].fa, byteA S.cells[j].high, byteA S.cells[j].color, byteA S.cells[j].set] := rfl
        rw [hcx] at hgj
        rw [cellA_eq] at hst
        have hrow := hRr p' h4' (upTo S j)
        generalize S.cells[j] = c at *
        have hle : j * 6 + 6 ≤ (cellsO S.cells).length := by omega
        by_cases hc : c = .zero
        · have hsm := hsm hc
          have hz1 := hz0.trans (congrArg some (decide_eq_true hc))
          clear hc
          simp +contextual [-e_eqLits_2, rowC, hlt, hrow, hle, hgj, hz1]
          intro b hb
          refine ⟨j + 1, by omega, by omega, by rw [hw]; exact AV.le_refl _, ?_⟩
          rw [hsm]
          exact sub_upd_self _ _ _ hb
        · have hz1 := hz0.trans (congrArg some (decide_eq_false hc))
          simp +contextual [-e_eqLits_2, rowC, hlt, hrow, hle, hgj, hz1]
          intro b hb
          refine callK.of (hst _ (hP.new hb _)) ?_
          rintro v σ' ⟨rfl, rfl⟩
          obtain ⟨m1, m2, m3, m4⟩ := hP.fresh hb
          simp
          refine ⟨j + 1, by omega, by omega, by rw [hw]; exact AV.le_refl _, ?_⟩
          simp only [both, putS] at hb ⊢
          simp only [supd_apply, ite_none] at hb
          obtain ⟨b1, b2, b3, b4, b5⟩ := hb
          clear hrow hst hP hnx hsm hgj hcx hz0
          (intro q; simp only [Store.upd, Store.del]; (repeat' split) <;> first | exact Or.inr rfl | exact Or.inl rfl | (exfalso; omega) | (left; subst_vars; assumption) | simp_all)
      · obtain rfl : j = S.n := by omega
        have hP := both_prg (t := S) h4' (upTo_good hg (Nat.le_refl _))
        have hpl := fun τ (hτ : Prg τ q p' (upTo S S.n)) => place_calls hτ (S.cursor : Int)
        rw [upTo_all hg] at hpl
        simp [hRo p' h4' (upTo S S.n)]
        refine callK.of (hpl _ hP) ?_
        rintro v σ' ⟨rfl, rfl⟩
        simp
        obtain ⟨g1, g2, g3, g4, g5, g6, g7, g8, g9, g10⟩ := h4'
        refine callK.of (knew_calls q b0 _) ?_
        rintro v σ' ⟨k, hk0, rfl, rfl⟩
        simp
        refine callK.of (rfnew_calls x nn _) ?_
        rintro v σ' ⟨c, hc0, rfl, rfl⟩
        generalize hX : rbdO x nn 0 false 0x60 = X at *
        simp
        have hbb : ¬ q = b0 ∧ ¬ p' = b0 ∧ ¬ x = b0 ∧ ¬ y = b0 := by
          have h0 : ∀ z : Nat, σp z = none → ¬ z = b0 := fun z hz e => by rw [e, hσp, pgS_cell] at hz; cases hz
          exact ⟨h0 _ g1, h0 _ g2, h0 _ g3, h0 _ g4⟩
        simp only [both, putS, supd_apply, ite_none] at hk0 hc0
        have hk1 : σp k = none ∧ ¬ k = q ∧ ¬ k = p' ∧ ¬ k = x ∧ ¬ k = y := by simp_all
        have hc1 : σp c = none ∧ ¬ c = q ∧ ¬ c = p' ∧ ¬ c = x ∧ ¬ c = y ∧ ¬ c = k := by simp_all
        have h0 : ∀ z : Nat, σp z = none → ¬ z = b0 ∧ σ z = none := fun z hz => by
          have e : ¬ z = b0 := fun e => by rw [e, hσp, pgS_cell] at hz; cases hz
          rw [hσp, pgS_other e] at hz
          exact ⟨e, hz⟩
        have q0 := h0 _ g1
        have p0 := h0 _ g2
        have x0 := h0 _ g3
        have y0' := h0 _ g4
        have k0 := h0 _ hk1.1
        have c0 := h0 _ hc1.1
        have hgB : (newB S).s.good := hg
        have hσ2 : σp = σ.upd b0 (pgA (.new nn)) := hσp
        refine ⟨_, AV.le_refl _, kS ((putS rfO σ x y S).upd c X) k q p' b0 nn none (newB S), ?_, k, q, p', b0, c, (putS rfO σ x y S).upd c X, rfl, ?_, by simp [putS, hk1.2.2.2.1, hk1.2.2.2.2, Ne.symm hc1.2.2.2.2.2, k0.2], by simp [putS, g6, g7, Ne.symm hc1.2.1, q0.2], by simp [putS, Ne.symm x0.1, Ne.symm y0'.1, Ne.symm c0.1, hb1.1], ⟨hk1.2.1, hk1.2.2.1, k0.1, g5, q0.1, p0.1, ?_, hok, hgB⟩, rfl, x, y, by rw [hX]; simp, ⟨?_, ?_, g10, hg⟩, c0.2⟩
        · have hnb : bdO q b0 (newB S) = [ptrA q, ptrA b0, .lit (.int .i64 0), .lit (.bool false), byteA 0x60] := rfl
          have hns : (newB S).s = S := rfl
          rw [hσ2]
          unfold kS pgS
          rw [hnb, hns]
          dsimp only
          obtain ⟨hk1a, hk1b, hk1c, hk1d, hk1e⟩ := hk1
          obtain ⟨hc1a, hc1b, hc1c, hc1d, hc1e, hc1f⟩ := hc1
          obtain ⟨q01, q02⟩ := q0
          obtain ⟨p01, p02⟩ := p0
          obtain ⟨x01, x02⟩ := x0
          obtain ⟨y01, y02⟩ := y0'
          obtain ⟨k01, k02⟩ := k0
          obtain ⟨c01, c02⟩ := c0
          simp only [both, putS]
          exact lay_sub X _ _ _ _ _ _ _ _ (fun e => k01 e.symm) (fun e => q01 e.symm) (fun e => p01 e.symm) (fun e => x01 e.symm) (fun e => y01 e.symm) (fun e => c01 e.symm) hk1b hk1c hk1d hk1e (fun e => hc1f e.symm) g5 g6 g7 (fun e => hc1b e.symm) g8 g9 (fun e => hc1c e.symm) g10 (fun e => hc1d e.symm) (fun e => hc1e e.symm)
        · unfold putS
          refine Store.sub_trans (Store.sub_upd x0.2 (Store.sub_refl _)) (Store.sub_trans (Store.sub_upd ?_ (Store.sub_refl _)) (Store.sub_upd ?_ (Store.sub_refl _)))
          · simp [Ne.symm g10, y0'.2]
          · simp [hc1.2.2.2.1, hc1.2.2.2.2.1, c0.2]
        · simp [putS, Ne.symm hc1.2.2.1, g8, g9, p0.2]
        · simp [putS, Ne.symm hc1.2.2.2.1, g10]
        · simp [putS, Ne.symm hc1.2.2.2.2.1]
theorem lay_calls (m u : UInt8) (l : List Sp.Act) (hl : l.length ≤ 9223372036854775807) (ht : ∀ a ∈ l, a.text.length ≤ 9223372036854775807) (σ : Store) : ACalls Tryz.prog 85 [byteA m, byteA u, .list false 11 (actsA l)] σ (LayK σ (pageN u) (Sp.lays m l)) := by
  refine ACalls.mono (layD_calls m u l hl ht σ) ?_
  rintro v τ ⟨k, q, p, b, c, base, h1, h2, h3, h4, h5, h6, h7, _⟩
  exact ⟨k, q, p, b, c, base, h1, h2, h3, h4, h5, h6, h7⟩
end Go.Proofs.YtlmdbcgceijlnaaGreatDoor
/-
  The example that awake asks for.
-/
namespace Go.Proofs.YtlmdbcgceijlnaaGreatDoor
open Go Go.AL Go.Sp

def awS : Sp := Sp.lays 0 [{ what := 3, n := 0, on := false, code := 0, c := .zero, text := [] }, { what := 1, n := 1, on := false, code := 0, c := .zero, text := [] }]
def awT : Bd × Int × Int := typeF 37 ⟨#[65, 98]⟩ 2 0 0 (newB awS)
theorem aw_ex : awT.2.1 = 2 ∧ awT.2.2 = 0 ∧ (awT.1.s.at 1).char = 193 ∧ (awT.1.s.at 2).char = 130 ∧ (awT.1.s.at 0).fa = 1 ∧ (pressB 37 awT.1 ⟨19, 0, 0⟩).2 = (true, 0) ∧ (pressB 37 awT.1 ⟨19, 0, 0⟩).1.aid = 125 ∧ (pressB 37 awT.1 ⟨19, 0, 0⟩).1.lock = 1 := by
  decide +kernel
end Go.Proofs.YtlmdbcgceijlnaaGreatDoor
/-
  awake: the walk.
-/
namespace Go.Proofs.YtlmdbcgceijlnaaGreatDoor
open Go Go.AL Go.Sp

theorem aw_ex2 : ((pressB 37 awT.1 ⟨19, 0, 0⟩).1.s.at 1).char = 193 ∧ ((pressB 37 awT.1 ⟨19, 0, 0⟩).1.s.at 2).char = 130 ∧ ((pressB 37 awT.1 ⟨19, 0, 0⟩).1.s.at 0).fa = 1 := by decide +kernel
theorem kS_over {σ base : Store} {k q r b : Nat} {n : Int} {B : Bd} (h : KOk base k q r b n B) (x : Option Nat) (hs : Store.sub σ base) (n1 : base k = none) (n2 : base q = none) (n3 : base b = none) (hx : NxP base none x) : Store.sub σ (kS base k q r b n x B) := by
  have nn : ∀ o : Int, base o = none → σ o = none := fun o ho => by
    rcases hs o with e | e
    · exact e
    · rw [e, ho]
  refine Store.sub2 (fun o => ?_) (fun i => ?_)
  · by_cases e1 : o = b
    · subst e1; exact .inl (nn _ n3)
    by_cases e2 : o = k
    · subst e2; exact .inl (nn _ n1)
    by_cases e3 : o = q
    · subst e3; exact .inl (nn _ n2)
    by_cases e4 : o = r
    · subst e4; exact .inl (nn _ h.none)
    unfold kS
    rw [pgS_other e1]
    simpa [putS, e2, e3, e4] using hs o
  · rcases hx with rfl | ⟨g, rfl, hg⟩
    · simpa [kS, pgS, putS] using hs (mkey i)
    · by_cases e : i = g
      · subst e; exact .inl (nn _ hg)
      · simpa [kS, pgS, putS, e] using hs (mkey i)
set_option maxHeartbeats 1000000 in
set_option maxRecDepth 8000 in
theorem awake_calls (σ : Store) : ACalls Tryz.prog 28 [] σ fun v σ' => v = .lit (.bool true) ∧ σ' = σ := by
  have hl := lay_calls 0 0 [{ what := 3, n := 0, on := false, code := 0, c := .zero, text := [] }, { what := 1, n := 1, on := false, code := 0, c := .zero, text := [] }] (by simp) (by simp) σ
  refine ACalls.of_awp follows (st := st28) (plans := pl28) (n := 68) Tryz.func28 rfl (by kernel_rfl) (by kernel_rfl) (by kernel_rfl) ?_
  simp
  refine callK.le (args' := [byteA 0, byteA 0, .list false 11 (actsA [{ what := 3, n := 0, on := false, code := 0, c := .zero, text := [] }, { what := 1, n := 1, on := false, code := 0, c := .zero, text := [] }])]) ?_ hl ?_
  · simp [AllLe, actsA, actA, actC, cellC, byteA, bytesA, Cell.zero]
  rintro v τ ⟨k, q, p, b, c, base, rfl, hsub, n1, n2, n3, hK, rfl⟩
  have hlays : Sp.lays 0 [{ what := 3, n := 0, on := false, code := 0, c := .zero, text := [] }, { what := 1, n := 1, on := false, code := 0, c := .zero, text := [] }] = awS := rfl
  have hpn : pageN 0 = 37 := by decide +kernel
  rw [hlays, hpn] at hK ⊢
  simp
  have hty := type_calls hK none ⟨#[65, 98]⟩ (by decide)
  have hT : typeF 37 ⟨#[65, 98]⟩ (ByteArray.size ⟨#[65, 98]⟩) 0 0 (newB awS) = awT := rfl
  rw [hT] at hty
  refine callK.of hty ?_
  rintro v τ ⟨rfl, r2, x2, hK2, nx2, rfl⟩
  obtain ⟨a1, a2, a3, a4, a5, a6, a7, a8⟩ := aw_ex
  have hpr := press_calls hK2 x2 ⟨19, 0, 0⟩
  simp only [keyA, keyC] at hpr
  simp
  refine callK.of hpr ?_
  rintro v τ ⟨rfl, r3, x3, hK3, nx3, rfl⟩
  obtain ⟨a3', a4', a5'⟩ := aw_ex2
  have b1 := at_calls (kS_prg hK3 x3) 1
  have b2 := at_calls (kS_prg hK3 x3) 2
  have b0 := at_calls (kS_prg hK3 x3) 0
  have hai := baid_calls hK3 x3
  have hlo := lock_calls hK3 x3
  rw [a7] at hai
  rw [a8] at hlo
  simp only [cellA_eq, a3', a4', a5', byteA] at b0 b1 b2 hai
  rw [a1, a2, a6]
  simp
  refine callK.of b1 ?_
  rintro v τ ⟨rfl, rfl⟩
  simp
  refine callK.of b2 ?_
  rintro v τ ⟨rfl, rfl⟩
  simp
  refine callK.of b0 ?_
  rintro v τ ⟨rfl, rfl⟩
  simp
  refine callK.of hai ?_
  rintro v τ ⟨rfl, rfl⟩
  simp
  refine callK.of hlo ?_
  rintro v τ ⟨rfl, rfl⟩
  simp
  exact kS_over hK3 x3 hsub n1 n2 n3 (nx2.trans nx3)
end Go.Proofs.YtlmdbcgceijlnaaGreatDoor
/-
  The document's keys that send.
-/
namespace Go.Proofs.YtlmdbcgceijlnaaGreatDoor
open Go Go.AL Go.Sp
variable {σ : Store} {n : Int}

def aidsL : List UInt8 := [102, 49, 102, 50, 102, 51, 102, 52, 102, 53, 102, 54, 102, 55, 102, 56, 102, 57, 55, 97, 55, 98, 55, 99, 99, 49, 99, 50, 99, 51, 99, 52, 99, 53, 99, 54, 99, 55, 99, 56, 99, 57, 52, 97, 52, 98, 52, 99, 54, 99, 54, 101, 54, 98]
def aidT : List Nat := pfT ++ paT
theorem aids_len : aidsL.length = 54 := by decide
theorem aids_at : ∀ i : Fin 27, numL ((aidsL.drop (2 * i.val)).take 2) = aidT.getD i.val 0 := by decide +kernel
theorem aidT_lt : ∀ i : Fin 27, aidT.getD i.val 0 < 256 := by decide +kernel
theorem mk_aids (a : Array UInt8) (h : a = aidsL.toArray) : ByteArray.mk a = toB aidsL := by rw [h]; rfl
set_option maxRecDepth 8000 in
theorem rat27_calls (i : Nat) (hi : i < 27) (σ : Store) : ACalls Tryz.prog 94 [.lit (.int .i64 i)] σ fun v σ' => v = .lit (.int .u8 (aidT.getD i 0 : Nat)) ∧ σ' = σ := by
  obtain ⟨p1, p2⟩ := numS_part aidsL (2 * i) 2 (by rw [aids_len]; omega)
  have ha := aids_at ⟨i, hi⟩
  have hlt := aidT_lt ⟨i, hi⟩
  dsimp only at ha hlt
  have hn1 := nums_calls ((toB aidsL).extract (2 * i) (2 * i + 2)) (by rw [p1]; omega) σ
  rw [p2, ha] at hn1
  have hw2 : IntKind.i64.wrap (2 * (i : Int)) = 2 * (i : Int) := wrap_i64 (by omega) (by omega)
  have hw4 : IntKind.i64.wrap (2 * (i : Int) + 2) = 2 * (i : Int) + 2 := wrap_i64 (by omega) (by omega)
  have hsB := toB_size aidsL
  rw [aids_len] at hsB
  have g0 : (0 : Int) ≤ 2 * (i : Int) := by omega
  have g4 : (0 : Int) ≤ 2 * (i : Int) + 2 := by omega
  have t0 : (2 * (i : Int)).toNat = 2 * i := by omega
  have t4 : (2 * (i : Int) + 2).toNat = 2 * i + 2 := by omega
  have l4 : 2 * i ≤ 2 * i + 2 ∧ 2 * i + 2 ≤ (toB aidsL).size := by omega
  have hwi : IntKind.u8.wrap ((aidT.getD i 0 : Nat) : Int) = (aidT.getD i 0 : Nat) := wrap_u8 (by omega) (by omega)
  generalize aidT.getD i 0 = w at *
  refine ACalls.of_awp follows (st := st94) (plans := pl94) (n := 11) Tryz.func94 rfl (by kernel_rfl) (by kernel_rfl) (by kernel_rfl) ?_
  simp [hw2, hw4]
  rw [mk_aids]
  rotate_left
  · kernel_rfl
  rw [if_pos g0, if_pos g4, t0, t4]
  dsimp only
  rw [if_pos l4]
  simp
  refine callK.of hn1 ?_
  rintro v τ ⟨rfl, eτ⟩
  rw [eτ]
  simp [hwi]
set_option maxRecDepth 8000 in
theorem raid_calls (K : Key) (σ : Store) : ACalls Tryz.prog 37 [keyA K] σ fun v σ' => v = .lit (.int .u8 ((aidN K).getD 0 : Nat)) ∧ σ' = σ := by
  have h27 := fun τ i hi => rat27_calls i hi τ
  obtain ⟨kind, sg, num⟩ := K
  refine ACalls.of_awp follows (st := st37) (plans := pl37) (n := 37) Tryz.func37 rfl (by kernel_rfl) (by kernel_rfl) (by kernel_rfl) ?_
  unfold aidN
  dsimp only
  simp [keyA, keyC]
  intro z hz
  have hzs := fun X => sub_upd_self σ z X hz
  by_cases k19 : kind = 19
  · subst k19
    simp
    exact hzs _
  · by_cases k22 : kind = 22
    · subst k22
      simp
      exact hzs _
    · by_cases k20 : kind = 20
      · subst k20
        by_cases n1 : 1 ≤ num
        · by_cases n2 : num ≤ 24
          · have hw : IntKind.i64.wrap (num - 1) = (((num - 1).toNat : Nat) : Int) := by rw [wrap_i64 (by omega) (by omega)]; omega
            have hi : (num - 1).toNat < 27 := by omega
            have hT : aidT.getD (num - 1).toNat 0 = (pfT[(num - 1).toNat]?).getD 0 := by
              unfold aidT
              rw [List.getD_eq_getElem?_getD, List.getElem?_append_left (by simp [pfT]; omega)]
            have h := fun τ => h27 τ _ hi
            rw [hT] at h
            generalize hj : (num - 1).toNat = j at *
            simp [n1, n2, hw]
            refine callK.of (h _) ?_
            rintro v τ ⟨rfl, eτ⟩
            rw [eτ]
            simp
            refine ⟨?_, hzs _⟩
            rw [if_pos ⟨n1, n2⟩, show num.toNat - 1 = j from by omega]
            exact AV.le_refl _
          · simp [n1, n2]
            exact hzs _
        · simp [n1]
          exact ⟨by omega, hzs _⟩
      · by_cases k21 : kind = 21
        · subst k21
          by_cases n1 : 1 ≤ num
          · by_cases n2 : num ≤ 3
            · have hw : IntKind.i64.wrap (23 + num) = ((24 + (num - 1).toNat : Nat) : Int) := by rw [wrap_i64 (by omega) (by omega)]; omega
              have hi : 24 + (num - 1).toNat < 27 := by omega
              have hT : aidT.getD (24 + (num - 1).toNat) 0 = (paT[(num - 1).toNat]?).getD 0 := by
                unfold aidT
                rw [List.getD_eq_getElem?_getD, List.getElem?_append_right (by simp [pfT])]
                simp [pfT]
              have h := fun τ => h27 τ _ hi
              rw [hT] at h
              generalize hj : (num - 1).toNat = j at *
              simp [n1, n2, hw]
              refine callK.of (h _) ?_
              rintro v τ ⟨rfl, eτ⟩
              rw [eτ]
              simp
              refine ⟨?_, hzs _⟩
              rw [if_pos ⟨n1, n2⟩, show num.toNat - 1 = j from by omega]
              exact AV.le_refl _
            · simp [n1, n2]
              exact hzs _
          · simp [n1]
            exact ⟨by omega, hzs _⟩
        · simp [k19, k22, k20, k21]
          exact hzs _
end Go.Proofs.YtlmdbcgceijlnaaGreatDoor
