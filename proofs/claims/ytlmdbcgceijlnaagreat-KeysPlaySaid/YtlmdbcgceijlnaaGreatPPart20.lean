/-
 A screen's copy.
-/
import Derived.Test.YtlmdbcgceijlnaaGreatPPart19
set_option linter.unusedSimpArgs false
set_option linter.unusedVariables false
set_option maxRecDepth 8000
set_option maxHeartbeats 8000000

namespace Go.Proofs.YtlmdbcgceijlnaaGreat
open Go Go.AL Go.Sp
theorem cellsO_plain (l : List Cell) : ∀ c ∈ cellsO l, c.plain1 = true := by
 intro c hc
 unfold cellsO at hc
 rw [List.mem_flatMap] at hc
 obtain ⟨d, _, hc⟩ := hc
 simp [cellC] at hc
 rcases hc with rfl | rfl | rfl | rfl | rfl | rfl <;> rfl
theorem sclone_calls {p : Nat} {s : Sp} {σ : Store} (hr : σ p = some (cellsO s.cells)) (hg : s.good) : ACalls Tryz.prog 68 [rowC p s.n] σ fun v σ' => ∃ p2 : Nat, v = rowC p2 s.n ∧ σ p2 = none ∧ σ' = σ.upd p2 (cellsO s.cells) := by
 have hpl := cellsO_plain s.cells
 have hn := s.n_pos
 have hle := s.n_le
 have hlen : (cellsO s.cells).length = s.n * 6 := by rw [cellsO_length, hg.len]
 have htk : (cellsO s.cells).take (s.n * 6) = cellsO s.cells := by rw [← hlen, List.take_length]
 generalize s.n = n at *
 generalize cellsO s.cells = L at *
 refine aw st68 pl68 8 Tryz.func68 rfl ?_
 simp [rowC, hr]
 intro r hr0
 have hpr : ¬ p = r := by rintro rfl; rw [hr] at hr0; cases hr0
 simp [hpr, hlen, htk]
 refine ⟨hn, by omega, by omega, hpl, fun p2 h1 => ?_⟩
 rw [ite_none] at h1
 obtain ⟨h1, h2⟩ := h1
 refine ⟨_, AV.le_refl _, _, ?_, p2, rfl, h2, rfl⟩
 (intro q; simp only [Store.upd, Store.del]; (repeat' split) <;> first | exact Or.inr rfl | exact Or.inl rfl | (exfalso; omega) | (left; subst_vars; assumption) | simp_all)
theorem scopy_calls {q p : Nat} {s : Sp} {σ : Store} (h : Prg σ q p s) : ACalls Tryz.prog 23 [ptrA q] σ fun v σ' => ∃ (q2 p2 : Nat), v = ptrA q2 ∧ σ q2 = none ∧ σ p2 = none ∧ q2 ≠ p2 ∧ σ' = putS spO σ q2 p2 s := by
 have ho := h.obj
 have hcl := fun τ hτ => sclone_calls (p := p) (s := s) (σ := τ) hτ h.good
 unfold spO at ho
 unfold rowC at hcl ho
 refine aw st23 pl23 15 Tryz.func23 rfl ?_
 simp [ho]
 intro q2 hq2
 have hf := h.fresh hq2
 refine callK.of (hcl _ (by simp [hf.2.1, h.row])) ?_
 rintro v σ' ⟨p2, rfl, hp2, rfl⟩
 simp only [supd_apply, ite_none] at hp2
 obtain ⟨n1, hp2⟩ := hp2
 simp [Ne.symm n1]
 refine ⟨_, AV.le_refl _, _, ?_, q2, rfl, hq2, p2, hp2, Ne.symm n1, rfl⟩
 unfold putS spO rowC
 (intro q; simp only [Store.upd, Store.del]; (repeat' split) <;> first | exact Or.inr rfl | exact Or.inl rfl | (exfalso; omega) | (left; subst_vars; assumption) | simp_all)
def pagesL : List Nat := [37, 273, 297, 500, 1047, 1140]
def pageN (u : UInt8) : Int := ((pagesL[u.toNat % 6]?.getD 0 : Nat) : Int)
theorem pageN_ok (u : UInt8) : isPage (pageN u) := all_bytes (p := fun u => isPage (pageN u)) (by decide +kernel) u
theorem pages_calls (σ : Store) : ACalls Tryz.prog 38 [] σ fun v σ' => v = .list true 1 (natsA pagesL) ∧ σ' = σ := by
 refine aw st38 pl38 2 Tryz.func38 rfl ?_
 simp [natsA, natA, pagesL]
def newB (s : Sp) : Bd := { s := s, lock := 0, ins := false, aid := 0x60 }
def LayK (σ : Store) (n : Int) (s : Sp) (v : AV) (σ' : Store) : Prop := ∃ (k q p b c : Nat) (base : Store), v = .tuple [ptrA k, ptrA q, ptrA c] ∧ Store.sub σ base ∧ base k = none ∧ base q = none ∧ base b = none ∧ KOk base k q p b n (newB s) ∧ σ' = kS base k q p b n none (newB s)
def rbdO (x : Nat) (n lock : Int) (ins : Bool) (aid : UInt8) : List AV := [ptrA x, .lit (.int .i64 n), .lit (.int .i64 lock), .lit (.bool ins), byteA aid]
def LayD (σ : Store) (n : Int) (s : Sp) (v : AV) (σ' : Store) : Prop := ∃ (k q p b c : Nat) (base : Store), v = .tuple [ptrA k, ptrA q, ptrA c] ∧ Store.sub σ base ∧ base k = none ∧ base q = none ∧ base b = none ∧ KOk base k q p b n (newB s) ∧ σ' = kS base k q p b n none (newB s) ∧
 ∃ (x y : Nat), base c = some (rbdO x n 0 false 0x60) ∧ Ref base x y s ∧ σ c = none
theorem lay_sub {σ : Store} {b k q p x y c : Nat} (X K PG SQ CS RX CY SQ0 CS0 : List AV) (hbk : ¬ b = k) (hbq : ¬ b = q) (hbp : ¬ b = p) (hbx : ¬ b = x) (hby : ¬ b = y) (hbc : ¬ b = c) (hkq : ¬ k = q) (hkp : ¬ k = p) (hkx : ¬ k = x) (hky : ¬ k = y) (hkc : ¬ k = c) (hqp : ¬ q = p) (hqx : ¬ q = x) (hqy : ¬ q = y) (hqc : ¬ q = c) (hpx : ¬ p = x) (hpy : ¬ p = y) (hpc : ¬ p = c) (hxy : ¬ x = y) (hxc : ¬ x = c) (hyc : ¬ y = c) :
  Store.sub (((((((σ.upd x RX).upd y CY).upd c X).upd q SQ).upd p CS).upd k K).upd b PG) (((((((((σ.upd b PG).upd x RX).upd y CY).upd q SQ0).upd p CS0).upd q SQ).upd p CS).upd k K).upd c X) := by
 refine Store.sub2 (fun o => .inr ?_) (fun i => by simp)
 simp only [supd_apply]
 by_cases eb : o = b
 ·subst eb
  simp [hbk, hbq, hbp, hbx, hby, hbc]
 by_cases ek : o = k
 ·subst ek
  simp [Ne.symm hbk, hkc]
 by_cases eq : o = q
 ·subst eq
  simp [Ne.symm hbq, Ne.symm hkq, hqp, hqc]
 by_cases ep : o = p
 ·subst ep
  simp [Ne.symm hbp, Ne.symm hkp, hpc]
 by_cases ex : o = x
 ·subst ex
  simp [Ne.symm hbx, Ne.symm hkx, Ne.symm hqx, Ne.symm hpx, hxy, hxc]
 by_cases ey : o = y
 ·subst ey
  simp [Ne.symm hby, Ne.symm hky, Ne.symm hqy, Ne.symm hpy, hyc]
 by_cases ec : o = c
 ·subst ec
  simp [Ne.symm hbc, Ne.symm hkc, Ne.symm hqc, Ne.symm hpc]
 simp only [if_neg eb, if_neg ek, if_neg eq, if_neg ep, if_neg ex, if_neg ey, if_neg ec]
theorem knew_calls (q b : Nat) (σ : Store) : ACalls Tryz.prog 44 [ptrA q, ptrA b] σ fun v σ' => ∃ k : Nat, σ k = none ∧ v = .tuple [ptrA k, .lit (.int .i64 0)] ∧ σ' = σ.upd k [ptrA q, ptrA b, .lit (.int .i64 0), .lit (.bool false), byteA 0x60] := by
 refine aw st44 pl44 16 Tryz.func44 rfl ?_
 simp
 intro k hk
 exact ⟨_, AV.le_refl _, _, Store.sub_refl _, k, hk, rfl, rfl⟩
theorem rfnew_calls (x : Nat) (n : Int) (σ : Store) : ACalls Tryz.prog 45 [ptrA x, .lit (.int .i64 n)] σ fun v σ' => ∃ (c : Nat), σ c = none ∧ v = ptrA c ∧ σ' = σ.upd c (rbdO x n 0 false 0x60) := by
 refine aw st45 pl45 9 Tryz.func45 rfl ?_
 simp
 intro k hk
 exact ⟨_, AV.le_refl _, _, Store.sub_refl _, k, hk, rfl, rfl⟩
theorem layD_calls (m u : UInt8) (l : List Sp.Act) (hl : l.length ≤ 9223372036854775807) (ht : ∀ a ∈ l, a.text.length ≤ 9223372036854775807) (σ : Store) : ACalls Tryz.prog 10 [byteA m, byteA u, .list false 11 (actsA l)] σ (LayD σ (pageN u) (Sp.lays m l)) := by
 have hm : 2 ≤ 2 + m.toNat % 4 ∧ 2 + m.toNat % 4 ≤ 5 := by omega
 have hmw : IntKind.i64.wrap (2 + IntKind.i64.wrap ((m.toNat : Int).tmod 4)) = ((2 + m.toNat % 4 : Nat) : Int) := by
  have e : (m.toNat : Int).tmod 4 = ((m.toNat % 4 : Nat) : Int) := rfl
  rw [e, wrap_i64 (n := ((m.toNat % 4 : Nat) : Int)) (by omega) (by omega), wrap_i64 (by omega) (by omega)]; simp
 have hstep := lays_step m l
 have hS : Sp.lays m l = ((l.take 30).take l.length).foldl Sp.act (Sp.new (2 + m.toNat % 4)) := by
  rw [List.take_of_length_le (show (l.take 30).length ≤ l.length by simp; omega)]; rfl
 have hn1 := new_calls hm
 have hn2 := rnew_calls hm
 have hgood := fun k => Sp.foldl_good ((l.take 30).take k) (Sp.new_good hm)
 have hmod : (Sp.lays m l).model = 2 + m.toNat % 4 := (foldl_model _ _).trans rfl
 have hng := Sp.new_good hm
 refine aw st10 pl10 97 Tryz.func10 rfl ?_
 generalize hN : Sp.new (2 + m.toNat % 4) = N0 at *
 simp [byteA, hmw]
 have h6 : (u.toNat : Int).tmod 6 = ((u.toNat % 6 : Nat) : Int) := rfl
 have hi6 : u.toNat % 6 < pagesL.length := Nat.mod_lt _ (by decide)
 have hpv : ((pagesL[u.toNat % 6] : Nat) : Int) = pageN u := by unfold pageN; rw [List.getElem?_eq_getElem hi6]; rfl
 have hok := pageN_ok u
 refine callK.of (pages_calls _) ?_
 rintro v τ ⟨rfl, eτ⟩
 rw [h6, eτ]
 generalize u.toNat % 6 = j6 at *
 generalize hL6 : pagesL = L6 at *
 have h60 : ¬ (j6 : Int) < 0 := by omega
 simp [hi6, hpv]
 generalize hnn : pageN u = nn at *
 refine callK.of (hn1 _) ?_
 rintro v σ' ⟨q, p, rfl, hq, hp, hqp, rfl⟩
 simp
 refine callK.of (page_new nn hok _) ?_
 rintro v σ' ⟨b0, hb0, rfl, rfl⟩
 simp
 have hb1 : σ b0 = none ∧ ¬ q = b0 ∧ ¬ p = b0 := by
  simp only [putS, supd_apply, ite_none] at hb0; exact ⟨hb0.2.2, fun e => hb0.2.1 e.symm, fun e => hb0.1 e.symm⟩
 have hpe : pgS b0 nn none (putS spO σ q p N0) = putS spO (pgS b0 nn none σ) q p N0 := by
  unfold putS; rw [pgS_upd hb1.2.1, pgS_upd hb1.2.2]
 rw [hpe]
 have hq1 : (pgS b0 nn none σ) q = none := by rw [pgS_other hb1.2.1]; exact hq
 have hp1 : (pgS b0 nn none σ) p = none := by rw [pgS_other hb1.2.2]; exact hp
 obtain ⟨σp, hσp⟩ : ∃ σp, σp = pgS b0 nn none σ := ⟨_, rfl⟩
 rw [← hσp] at hq1 hp1 ⊢
 refine callK.of (hn2 _) ?_
 rintro v σ' ⟨x, y0, rfl, hx, hy, hxy, rfl⟩
 simp
 have hx' : σp x = none ∧ x ≠ q ∧ x ≠ p := by
  simp only [putS, supd_apply, ite_none] at hx; exact ⟨hx.2.2, hx.2.1, hx.1⟩
 have hy' : σp y0 = none ∧ y0 ≠ q ∧ y0 ≠ p := by
  simp only [putS, supd_apply, ite_none] at hy; exact ⟨hy.2.2, hy.2.1, hy.1⟩
 refine codeK.cut (fun e A σ' => e = .exit 0 ∧ ∃ y, Four σp q p x y ∧ LeL A [(10, .lit (.int .i64 nn)), (13, pgP b0), (11, ptrA q), (15, ptrA x)] ∧ Store.sub (both σp q p x y N0 (Sp.lays m l)) σ') ?_ ?_
 ·refine codeK.loop follows (st := st10) (plans := pl10) (X := Nat × Nat) (fun k => k.1 ≤ l.length ∧ Four σp q p x k.2)
   (fun k => [(10, .lit (.int .i64 nn)), (13, pgP b0), (11, ptrA q), (15, ptrA x), (43, .list false 11 (actsA l)), (44, .lit (.int .i64 l.length)), (45, .lit (.int .i64 k.1))])
   (fun k => both σp q p x k.2 N0 (((l.take 30).take k.1).foldl Sp.act N0)) (fun k => l.length - k.1) (0, y0) (by kernel_rfl) ⟨by simp, ⟨hq1, hp1, hx'.1, hy'.1, hqp, Ne.symm hx'.2.1, Ne.symm hy'.2.1, Ne.symm hx'.2.2, Ne.symm hy'.2.2, hxy⟩⟩ (by simp) ?_ fun k hk => ?_
  ·simp only [List.take_zero, List.foldl_nil]
   have h1 := hx'.2; have h2 := hy'.2
   simp only [both, putS]
   (intro q; simp only [Store.upd, Store.del]; (repeat' split) <;> first | exact Or.inr rfl | exact Or.inl rfl | (exfalso; omega) | (left; subst_vars; assumption) | simp_all)
  ·obtain ⟨i, y⟩ := k
   obtain ⟨hi, h4⟩ := hk
   dsimp only at hi h4 ⊢
   by_cases hlt : i < l.length
   ·have hw : IntKind.i64.wrap ((i : Int) + 1) = ((i + 1 : Nat) : Int) := wrap_i64 (by omega) (by omega)
    have ha := actsA_at l i hlt
    have hst := hstep i hlt
    have htx := ht l[i] (List.getElem_mem hlt)
    have hg := hgood i
    have hg2 := hgood (i + 1)
    by_cases h30 : i < 30
    ·have h30i : (i : Int) < 30 := by omega
     rw [hst h30] at hg2
     have hst2 := hst h30
     generalize ((l.take 30).take i).foldl Sp.act N0 = t at *
     generalize l[i] = a at *
     have hdo := fun τ (hτ : Ref τ x y t) => rdo_calls hτ a htx
     have hac : actA a = .agg [byteA a.what, .lit (.int .i64 a.n), .lit (.bool a.on), byteA a.code, byteA a.c.char, .lit (.bool a.c.attr), byteA a.c.fa, byteA a.c.high, byteA a.c.color, byteA a.c.set, .list false 1 (bytesA a.text)] := rfl
     rw [hac] at hdo ha
     have hR := both_ref (s := N0) h4 hg
     simp +contextual [hlt, h30i, ha]
     intro b hb
     obtain ⟨m1, m2, m3, m4⟩ := hR.fresh hb
     refine callK.of (hdo _ (hR.new hb _)) ?_
     rintro v σ' ⟨rfl, y', hy2, rfl⟩
     have hb2 : σp b = none ∧ ¬ b = q ∧ ¬ b = p := by
      simp only [both, putS, supd_apply, ite_none] at hb; exact ⟨hb.2.2.2.2, hb.2.1, hb.1⟩
     have hy3 : ¬ y' = b ∧ ¬ y' = x ∧ ¬ y' = p ∧ ¬ y' = q ∧ σp y' = none := by
      rcases hy2 with rfl | hy2
      ·exact ⟨m2, Ne.symm h4.xy, Ne.symm h4.py, Ne.symm h4.qy, h4.y0⟩
      ·simp only [both, putS, supd_apply, ite_none] at hy2
       exact ⟨hy2.1, hy2.2.2.2.2.1, hy2.2.1, hy2.2.2.1, hy2.2.2.2.2.2⟩
     obtain ⟨y1, y2, y3, y4, y5⟩ := hy3
     obtain ⟨b1, b2, b3⟩ := hb2
     simp
     refine ⟨i + 1, y', ⟨by omega, ⟨h4.q0, h4.p0, h4.x0, y5, h4.qp, h4.qx, Ne.symm y4, h4.px, Ne.symm y3, Ne.symm y2⟩⟩, by omega, by rw [hw]; exact AV.le_refl _, ?_⟩
     rw [hst2]
     obtain ⟨_, _, _, _, f1, f2, f3, f4, f5, f6⟩ := h4
     simp only [both, putS]
     (intro q; simp only [Store.upd, Store.del]; (repeat' split) <;> first | exact Or.inr rfl | exact Or.inl rfl | (exfalso; omega) | (left; subst_vars; assumption) | simp_all)
    ·have h30i : ¬ (i : Int) < 30 := by omega
     have hl30 : (l.take 30).length ≤ 30 := by simp; omega
     have hsame : (l.take 30).take (i + 1) = (l.take 30).take i :=
      (List.take_of_length_le (show (l.take 30).length ≤ i + 1 by omega)).trans (List.take_of_length_le (show (l.take 30).length ≤ i by omega)).symm
     have hac : ∀ a, actA a = .agg [byteA a.what, .lit (.int .i64 a.n), .lit (.bool a.on), byteA a.code, byteA a.c.char, .lit (.bool a.c.attr), byteA a.c.fa, byteA a.c.high, byteA a.c.color, byteA a.c.set, .list false 1 (bytesA a.text)] := fun _ => rfl
     rw [hac] at ha
     simp +contextual [hlt, h30i, ha]
     intro b hb
     refine ⟨i + 1, y, ⟨by omega, h4⟩, by omega, by rw [hw]; exact AV.le_refl _, ?_⟩
     rw [hsame]
     exact sub_upd_self _ _ _ hb
   ·obtain rfl : i = l.length := by omega
    rw [← hS]
    simp
    exact ⟨y, h4, Store.sub_refl _⟩
 ·rintro e A' σ2 ⟨rfl, y, h4, hA, hσp⟩
  refine View.leL hA (View.sub hσp (View.here ?_))
  clear hA hσp hstep
  have hg := hgood l.length
  rw [← hS] at hg
  clear hS hgood
  generalize hSS : Sp.lays m l = S at *
  have hRo := fun p' (h4 : Four σp q p' x y) t => (both_ref (s := t) h4 hg).obj
  have hRr := fun p' (h4 : Four σp q p' x y) t => (both_ref (s := t) h4 hg).row
  unfold rfO at hRo
  have hcl := fun τ (hτ : Prg τ q p N0) => clear_calls (σ := τ) true hτ.good.model hτ.obj
  have hN0 : N0 = Sp.clear ⟨2 + m.toNat % 4, false, [], 0⟩ false := hN.symm
  have hN1 : N0.clear true = Sp.clear ⟨2 + m.toNat % 4, false, [], 0⟩ true := by rw [hN0]; rfl
  have hz := upTo_zero S
  rw [hmod] at hz
  have hen : ∀ (j : Nat) (hj : j < S.cells.length), ((cellsO S.cells).drop (j * 6)).take 6 = cellC S.cells[j] := fun j hj => cellsO_get hj
  have hcl6 := cellsO_length S.cells
  have hSl := hg.len
  have hSn := S.n_le
  have hmain : ∀ p', Four σp q p' x y → True := fun _ _ => trivial
  by_cases halt : S.alt = true
  ·rw [halt] at hz
   rw [← hN1] at hz
   simp [hRo p h4, halt]
   refine callK.of (hcl _ (both_prg h4 hng)) ?_
   rintro v σ' ⟨rfl, p', hp', rfl⟩
   have h4' : Four σp q p' x y := by
    simp only [both, putS, supd_apply, ite_none] at hp'
    obtain ⟨f1, f2, f3, f4, f5, f6, f7, f8, f9, f10⟩ := h4
    exact ⟨f1, hp'.2.2.2.2, f3, f4, Ne.symm hp'.2.1, f6, f7, hp'.2.2.2.1, hp'.2.2.1, f10⟩
   rw [← hz]
   have hsub : Store.sub (both σp q p' x y (upTo S 0) S) (putS spO (both σp q p x y N0 S) q p' (upTo S 0)) := by
    have h10 := h4'
    obtain ⟨f1, f2, f3, f4, f5, f6, f7, f8, f9, f10⟩ := h4
    obtain ⟨g1, g2, g3, g4, g5, g6, g7, g8, g9, g10⟩ := h4'
    simp only [both, putS]
    (intro q; simp only [Store.upd, Store.del]; (repeat' split) <;> first | exact Or.inr rfl | exact Or.inl rfl | (exfalso; omega) | (left; subst_vars; assumption) | simp_all)
   have e1 : putS spO (both σp q p x y N0 S) q p' (upTo S 0) x = some (rfO S y) := by
    obtain ⟨f1, f2, f3, f4, f5, f6, f7, f8, f9, f10⟩ := h4
    obtain ⟨g1, g2, g3, g4, g5, g6, g7, g8, g9, g10⟩ := h4'
    simp [both, putS, Ne.symm f6, Ne.symm f8, Ne.symm g8, f10]
   unfold rfO at e1
   simp [e1, rowC]
   clear e1
   refine codeK.loop follows (st := st10) (plans := pl10) (X := Nat) (fun j => j ≤ S.n)
    (fun j => [(10, .lit (.int .i64 nn)), (13, pgP b0), (11, ptrA q), (15, ptrA x), (65, rowC y S.n), (66, .lit (.int .i64 S.n)), (67, .lit (.int .i64 j))])
    (fun j => both σp q p' x y (upTo S j) S) (fun j => S.n - j) 0 (by kernel_rfl) (by simp) (by simp [rowC]) hsub fun j hj => ?_
   by_cases hlt : j < S.n
   ·have hw : IntKind.i64.wrap ((j : Int) + 1) = ((j + 1 : Nat) : Int) := wrap_i64 (by omega) (by omega)
    have hjc : j < S.cells.length := by omega
    have hnx := upTo_next hg hlt hjc
    have hsm := upTo_same hg hlt hjc
    have hgj := hen j hjc
    have hP := both_prg (t := S) h4' (upTo_good hg hj)
    have hst := fun τ (hτ : Prg τ q p' (upTo S j)) => set_calls hτ (j : Int) S.cells[j]
    rw [← hnx] at hst
    have hz0 := eqLits_zero S.cells[j]
    have hcx : cellC S.cells[j] = [byteA S.cells[j].char, .lit (.bool S.cells[j].attr), byteA S.cells[j].fa, byteA S.cells[j].high, byteA S.cells[j].color, byteA S.cells[j].set] := rfl
    rw [hcx] at hgj
    rw [cellA_eq] at hst
    have hrow := hRr p' h4' (upTo S j)
    generalize S.cells[j] = c at *
    have hle : j * 6 + 6 ≤ (cellsO S.cells).length := by omega
    by_cases hc : c = .zero
    ·have hsm := hsm hc
     have hz1 := hz0.trans (congrArg some (decide_eq_true hc))
     clear hc
     simp +contextual [-e_eqLits_2, rowC, hlt, hrow, hle, hgj, hz1]
     intro b hb
     refine ⟨j + 1, by omega, by omega, by rw [hw]; exact AV.le_refl _, ?_⟩
     rw [hsm]
     exact sub_upd_self _ _ _ hb
    ·have hz1 := hz0.trans (congrArg some (decide_eq_false hc))
     simp +contextual [-e_eqLits_2, rowC, hlt, hrow, hle, hgj, hz1]
     intro b hb
     refine callK.of (hst _ (hP.new hb _)) ?_
     rintro v σ' ⟨rfl, rfl⟩
     obtain ⟨m1, m2, m3, m4⟩ := hP.fresh hb
     simp
     refine ⟨j + 1, by omega, by omega, by rw [hw]; exact AV.le_refl _, ?_⟩
     simp only [both, putS] at hb ⊢
     simp only [supd_apply, ite_none] at hb
     obtain ⟨b1, b2, b3, b4, b5⟩ := hb
     clear hrow hst hP hnx hsm hgj hcx hz0
     (intro q; simp only [Store.upd, Store.del]; (repeat' split) <;> first | exact Or.inr rfl | exact Or.inl rfl | (exfalso; omega) | (left; subst_vars; assumption) | simp_all)
   ·obtain rfl : j = S.n := by omega
    have hP := both_prg (t := S) h4' (upTo_good hg (Nat.le_refl _))
    have hpl := fun τ (hτ : Prg τ q p' (upTo S S.n)) => place_calls hτ (S.cursor : Int)
    rw [upTo_all hg] at hpl
    simp [hRo p' h4' (upTo S S.n)]
    refine callK.of (hpl _ hP) ?_
    rintro v σ' ⟨rfl, rfl⟩
    simp
    obtain ⟨g1, g2, g3, g4, g5, g6, g7, g8, g9, g10⟩ := h4'
    refine callK.of (knew_calls q b0 _) ?_
    rintro v σ' ⟨k, hk0, rfl, rfl⟩
    simp
    refine callK.of (rfnew_calls x nn _) ?_
    rintro v σ' ⟨c, hc0, rfl, rfl⟩
    generalize hX : rbdO x nn 0 false 0x60 = X at *
    simp
    have hbb : ¬ q = b0 ∧ ¬ p' = b0 ∧ ¬ x = b0 ∧ ¬ y = b0 := by
     have h0 : ∀ z : Nat, σp z = none → ¬ z = b0 := fun z hz e => by rw [e, hσp, pgS_cell] at hz; cases hz
     exact ⟨h0 _ g1, h0 _ g2, h0 _ g3, h0 _ g4⟩
    simp only [both, putS, supd_apply, ite_none] at hk0 hc0
    have hk1 : σp k = none ∧ ¬ k = q ∧ ¬ k = p' ∧ ¬ k = x ∧ ¬ k = y := by simp_all
    have hc1 : σp c = none ∧ ¬ c = q ∧ ¬ c = p' ∧ ¬ c = x ∧ ¬ c = y ∧ ¬ c = k := by simp_all
    have h0 : ∀ z : Nat, σp z = none → ¬ z = b0 ∧ σ z = none := fun z hz => by
     have e : ¬ z = b0 := fun e => by rw [e, hσp, pgS_cell] at hz; cases hz
     rw [hσp, pgS_other e] at hz
     exact ⟨e, hz⟩
    have q0 := h0 _ g1
    have p0 := h0 _ g2
    have x0 := h0 _ g3
    have y0' := h0 _ g4
    have k0 := h0 _ hk1.1
    have c0 := h0 _ hc1.1
    have hgB : (newB S).s.good := hg
    have hσ2 : σp = σ.upd b0 (pgA (.new nn)) := hσp
    refine ⟨_, AV.le_refl _, kS ((putS rfO σ x y S).upd c X) k q p' b0 nn none (newB S), ?_, k, q, p', b0, c, (putS rfO σ x y S).upd c X, rfl, ?_, by simp [putS, hk1.2.2.2.1, hk1.2.2.2.2, Ne.symm hc1.2.2.2.2.2, k0.2], by simp [putS, g6, g7, Ne.symm hc1.2.1, q0.2], by simp [putS, Ne.symm x0.1, Ne.symm y0'.1, Ne.symm c0.1, hb1.1], ⟨hk1.2.1, hk1.2.2.1, k0.1, g5, q0.1, p0.1, ?_, hok, hgB⟩, rfl, x, y, by rw [hX]; simp, ⟨?_, ?_, g10, hg⟩, c0.2⟩
    ·have hnb : bdO q b0 (newB S) = [ptrA q, ptrA b0, .lit (.int .i64 0), .lit (.bool false), byteA 0x60] := rfl
     have hns : (newB S).s = S := rfl
     rw [hσ2]
     unfold kS pgS
     rw [hnb, hns]
     dsimp only
     obtain ⟨hk1a, hk1b, hk1c, hk1d, hk1e⟩ := hk1
     obtain ⟨hc1a, hc1b, hc1c, hc1d, hc1e, hc1f⟩ := hc1
     obtain ⟨q01, q02⟩ := q0
     obtain ⟨p01, p02⟩ := p0
     obtain ⟨x01, x02⟩ := x0
     obtain ⟨y01, y02⟩ := y0'
     obtain ⟨k01, k02⟩ := k0
     obtain ⟨c01, c02⟩ := c0
     simp only [both, putS]
     exact lay_sub X _ _ _ _ _ _ _ _ (fun e => k01 e.symm) (fun e => q01 e.symm) (fun e => p01 e.symm) (fun e => x01 e.symm) (fun e => y01 e.symm) (fun e => c01 e.symm) hk1b hk1c hk1d hk1e (fun e => hc1f e.symm) g5 g6 g7 (fun e => hc1b e.symm) g8 g9 (fun e => hc1c e.symm) g10 (fun e => hc1d e.symm) (fun e => hc1e e.symm)
    ·unfold putS
     refine Store.sub_trans (Store.sub_upd x0.2 (Store.sub_refl _)) (Store.sub_trans (Store.sub_upd ?_ (Store.sub_refl _)) (Store.sub_upd ?_ (Store.sub_refl _)))
     ·simp [Ne.symm g10, y0'.2]
     ·simp [hc1.2.2.2.1, hc1.2.2.2.2.1, c0.2]
    ·simp [putS, Ne.symm hc1.2.2.1, g8, g9, p0.2]
    ·simp [putS, Ne.symm hc1.2.2.2.1, g10]
    ·simp [putS, Ne.symm hc1.2.2.2.2.1]
  ·have halt' : S.alt = false := by simpa using halt
   rw [halt'] at hz
   rw [← hN0] at hz
   rw [← hz]
   have h4' := h4
   have hsub := Store.sub_refl (both σp q p x y (upTo S 0) S)
   obtain ⟨p', hpp⟩ : ∃ p', p' = p := ⟨_, rfl⟩
   have e1 := hRo p h4 (upTo S 0)
   rw [halt'] at e1
   simp [e1]
   rw [← hpp] at h4' hsub e1 ⊢
   simp [rowC]
   clear e1
   refine codeK.loop follows (st := st10) (plans := pl10) (X := Nat) (fun j => j ≤ S.n)
    (fun j => [(10, .lit (.int .i64 nn)), (13, pgP b0), (11, ptrA q), (15, ptrA x), (65, rowC y S.n), (66, .lit (.int .i64 S.n)), (67, .lit (.int .i64 j))])
    (fun j => both σp q p' x y (upTo S j) S) (fun j => S.n - j) 0 (by kernel_rfl) (by simp) (by simp [rowC]) hsub fun j hj => ?_
   by_cases hlt : j < S.n
   ·have hw : IntKind.i64.wrap ((j : Int) + 1) = ((j + 1 : Nat) : Int) := wrap_i64 (by omega) (by omega)
    have hjc : j < S.cells.length := by omega
    have hnx := upTo_next hg hlt hjc
    have hsm := upTo_same hg hlt hjc
    have hgj := hen j hjc
    have hP := both_prg (t := S) h4' (upTo_good hg hj)
    have hst := fun τ (hτ : Prg τ q p' (upTo S j)) => set_calls hτ (j : Int) S.cells[j]
    rw [← hnx] at hst
    have hz0 := eqLits_zero S.cells[j]
    have hcx : cellC S.cells[j] = [byteA S.cells[j].char, .lit (.bool S.cells[j].attr), byteA S.cells[j].fa, byteA S.cells[j].high, byteA S.cells[j].color, byteA S.cells[j].set] := rfl
    rw [hcx] at hgj
    rw [cellA_eq] at hst
    have hrow := hRr p' h4' (upTo S j)
    generalize S.cells[j] = c at *
    have hle : j * 6 + 6 ≤ (cellsO S.cells).length := by omega
    by_cases hc : c = .zero
    ·have hsm := hsm hc
     have hz1 := hz0.trans (congrArg some (decide_eq_true hc))
     clear hc
     simp +contextual [-e_eqLits_2, rowC, hlt, hrow, hle, hgj, hz1]
     intro b hb
     refine ⟨j + 1, by omega, by omega, by rw [hw]; exact AV.le_refl _, ?_⟩
     rw [hsm]
     exact sub_upd_self _ _ _ hb
    ·have hz1 := hz0.trans (congrArg some (decide_eq_false hc))
     simp +contextual [-e_eqLits_2, rowC, hlt, hrow, hle, hgj, hz1]
     intro b hb
     refine callK.of (hst _ (hP.new hb _)) ?_
     rintro v σ' ⟨rfl, rfl⟩
     obtain ⟨m1, m2, m3, m4⟩ := hP.fresh hb
     simp
     refine ⟨j + 1, by omega, by omega, by rw [hw]; exact AV.le_refl _, ?_⟩
     simp only [both, putS] at hb ⊢
     simp only [supd_apply, ite_none] at hb
     obtain ⟨b1, b2, b3, b4, b5⟩ := hb
     clear hrow hst hP hnx hsm hgj hcx hz0
     (intro q; simp only [Store.upd, Store.del]; (repeat' split) <;> first | exact Or.inr rfl | exact Or.inl rfl | (exfalso; omega) | (left; subst_vars; assumption) | simp_all)
   ·obtain rfl : j = S.n := by omega
    have hP := both_prg (t := S) h4' (upTo_good hg (Nat.le_refl _))
    have hpl := fun τ (hτ : Prg τ q p' (upTo S S.n)) => place_calls hτ (S.cursor : Int)
    rw [upTo_all hg] at hpl
    simp [hRo p' h4' (upTo S S.n)]
    refine callK.of (hpl _ hP) ?_
    rintro v σ' ⟨rfl, rfl⟩
    simp
    obtain ⟨g1, g2, g3, g4, g5, g6, g7, g8, g9, g10⟩ := h4'
    refine callK.of (knew_calls q b0 _) ?_
    rintro v σ' ⟨k, hk0, rfl, rfl⟩
    simp
    refine callK.of (rfnew_calls x nn _) ?_
    rintro v σ' ⟨c, hc0, rfl, rfl⟩
    generalize hX : rbdO x nn 0 false 0x60 = X at *
    simp
    have hbb : ¬ q = b0 ∧ ¬ p' = b0 ∧ ¬ x = b0 ∧ ¬ y = b0 := by
     have h0 : ∀ z : Nat, σp z = none → ¬ z = b0 := fun z hz e => by rw [e, hσp, pgS_cell] at hz; cases hz
     exact ⟨h0 _ g1, h0 _ g2, h0 _ g3, h0 _ g4⟩
    simp only [both, putS, supd_apply, ite_none] at hk0 hc0
    have hk1 : σp k = none ∧ ¬ k = q ∧ ¬ k = p' ∧ ¬ k = x ∧ ¬ k = y := by simp_all
    have hc1 : σp c = none ∧ ¬ c = q ∧ ¬ c = p' ∧ ¬ c = x ∧ ¬ c = y ∧ ¬ c = k := by simp_all
    have h0 : ∀ z : Nat, σp z = none → ¬ z = b0 ∧ σ z = none := fun z hz => by
     have e : ¬ z = b0 := fun e => by rw [e, hσp, pgS_cell] at hz; cases hz
     rw [hσp, pgS_other e] at hz
     exact ⟨e, hz⟩
    have q0 := h0 _ g1
    have p0 := h0 _ g2
    have x0 := h0 _ g3
    have y0' := h0 _ g4
    have k0 := h0 _ hk1.1
    have c0 := h0 _ hc1.1
    have hgB : (newB S).s.good := hg
    have hσ2 : σp = σ.upd b0 (pgA (.new nn)) := hσp
    refine ⟨_, AV.le_refl _, kS ((putS rfO σ x y S).upd c X) k q p' b0 nn none (newB S), ?_, k, q, p', b0, c, (putS rfO σ x y S).upd c X, rfl, ?_, by simp [putS, hk1.2.2.2.1, hk1.2.2.2.2, Ne.symm hc1.2.2.2.2.2, k0.2], by simp [putS, g6, g7, Ne.symm hc1.2.1, q0.2], by simp [putS, Ne.symm x0.1, Ne.symm y0'.1, Ne.symm c0.1, hb1.1], ⟨hk1.2.1, hk1.2.2.1, k0.1, g5, q0.1, p0.1, ?_, hok, hgB⟩, rfl, x, y, by rw [hX]; simp, ⟨?_, ?_, g10, hg⟩, c0.2⟩
    ·have hnb : bdO q b0 (newB S) = [ptrA q, ptrA b0, .lit (.int .i64 0), .lit (.bool false), byteA 0x60] := rfl
     have hns : (newB S).s = S := rfl
     rw [hσ2]
     unfold kS pgS
     rw [hnb, hns]
     dsimp only
     obtain ⟨hk1a, hk1b, hk1c, hk1d, hk1e⟩ := hk1
     obtain ⟨hc1a, hc1b, hc1c, hc1d, hc1e, hc1f⟩ := hc1
     obtain ⟨q01, q02⟩ := q0
     obtain ⟨p01, p02⟩ := p0
     obtain ⟨x01, x02⟩ := x0
     obtain ⟨y01, y02⟩ := y0'
     obtain ⟨k01, k02⟩ := k0
     obtain ⟨c01, c02⟩ := c0
     simp only [both, putS]
     exact lay_sub X _ _ _ _ _ _ _ _ (fun e => k01 e.symm) (fun e => q01 e.symm) (fun e => p01 e.symm) (fun e => x01 e.symm) (fun e => y01 e.symm) (fun e => c01 e.symm) hk1b hk1c hk1d hk1e (fun e => hc1f e.symm) g5 g6 g7 (fun e => hc1b e.symm) g8 g9 (fun e => hc1c e.symm) g10 (fun e => hc1d e.symm) (fun e => hc1e e.symm)
    ·unfold putS
     refine Store.sub_trans (Store.sub_upd x0.2 (Store.sub_refl _)) (Store.sub_trans (Store.sub_upd ?_ (Store.sub_refl _)) (Store.sub_upd ?_ (Store.sub_refl _)))
     ·simp [Ne.symm g10, y0'.2]
     ·simp [hc1.2.2.2.1, hc1.2.2.2.2.1, c0.2]
    ·simp [putS, Ne.symm hc1.2.2.1, g8, g9, p0.2]
    ·simp [putS, Ne.symm hc1.2.2.2.1, g10]
    ·simp [putS, Ne.symm hc1.2.2.2.2.1]
theorem lay_calls (m u : UInt8) (l : List Sp.Act) (hl : l.length ≤ 9223372036854775807) (ht : ∀ a ∈ l, a.text.length ≤ 9223372036854775807) (σ : Store) : ACalls Tryz.prog 10 [byteA m, byteA u, .list false 11 (actsA l)] σ (LayK σ (pageN u) (Sp.lays m l)) := by
 refine ACalls.mono (layD_calls m u l hl ht σ) ?_
 rintro v τ ⟨k, q, p, b, c, base, h1, h2, h3, h4, h5, h6, h7, _⟩
 exact ⟨k, q, p, b, c, base, h1, h2, h3, h4, h5, h6, h7⟩
@[simp] theorem natsA_length (l : List Nat) : (natsA l).length = l.length := by simp [natsA, natA]
theorem le_row (p n : Nat) : AV.le (.lit (.slice (some ⟨p, 0, none⟩) n n)) (.row p n) := by
 intro F v h
 cases h
 exact ⟨.row p n n (Nat.le_refl _), fun G D r h => OwnAt.of_plain rfl⟩
def attrsTo (s : Sp) (m : Nat) : List Nat := (List.range m).filter (isAt s)
theorem attrsTo_succ (s : Sp) (m : Nat) : attrsTo s (m + 1) = attrsTo s m ++ (if isAt s m = true then [m] else []) := by
 unfold attrsTo
 rw [List.range_succ, List.filter_append, List.filter_cons, List.filter_nil]
theorem attrsTo_length (s : Sp) (m : Nat) : (attrsTo s m).length ≤ m := by
 unfold attrsTo; have := List.length_filter_le (isAt s) (List.range m); simpa using this
theorem attrsTo_all {s : Sp} (h : s.good) : attrsTo s s.n = s.attrs := (attrs_eq s h).symm
theorem attrs_calls {x y : Nat} {s : Sp} {σ : Store} (h : Ref σ x y s) : ACalls Tryz.prog 71 [ptrA x] σ fun v σ' => v = .list false 1 (natsA s.attrs) ∧ σ' = σ := by
 have ho := h.obj
 have hr := h.row
 have hg := h.good
 have hln := hg.len
 have hn := s.n_le
 unfold rfO at ho
 refine aw st71 pl71 24 Tryz.func71 rfl ?_
 simp [ho, rowC]
 refine codeK.loop follows (st := st71) (plans := pl71) (X := Nat) (fun i => i ≤ s.n)
  (fun i => [(3, .list true 1 (natsA (attrsTo s i))), (9, rowC y s.n), (10, .lit (.int .i64 s.n)), (11, .lit (.int .i64 i))])
  (fun _ => σ) (fun i => s.n - i) 0 (by kernel_rfl) (by simp) (by simp [rowC, attrsTo, natsA]) (Store.sub_refl _) fun i hi => ?_
 by_cases hlt : i < s.n
 ·have hw : IntKind.i64.wrap ((i : Int) + 1) = ((i + 1 : Nat) : Int) := wrap_i64 (by omega) (by omega)
  have hic : i < s.cells.length := by omega
  have hgi := cellsO_get hic
  have hcx : cellC s.cells[i] = [byteA s.cells[i].char, .lit (.bool s.cells[i].attr), byteA s.cells[i].fa, byteA s.cells[i].high, byteA s.cells[i].color, byteA s.cells[i].set] := rfl
  rw [hcx] at hgi
  have hle : i * 6 + 6 ≤ (cellsO s.cells).length := by rw [cellsO_length]; omega
  have hat : isAt s i = s.cells[i].attr := by simp [isAt, hic]
  have hsu := attrsTo_succ s i
  have hal := attrsTo_length s i
  rw [hat] at hsu
  generalize s.cells[i] = c at *
  by_cases hca : c.attr = true
  ·rw [if_pos hca] at hsu
   have e1 : natsA (attrsTo s (i + 1)) = natsA (attrsTo s i) ++ [.lit (.int .i64 (i : Nat))] := by rw [hsu, natsA_append]; rfl
   simp +contextual [rowC, hlt, hr, hle, hgi, hca]
   intro b hb
   refine ⟨by omega, by omega, i + 1, by omega, by omega, by rw [e1]; exact AV.le_refl _, by rw [hw]; exact AV.le_refl _⟩
  ·rw [if_neg hca, List.append_nil] at hsu
   have hcf : c.attr = false := by simpa using hca
   simp +contextual [rowC, hlt, hr, hle, hgi, hcf]
   intro b hb
   refine ⟨i + 1, by omega, by omega, by rw [hsu]; exact AV.le_refl _, by rw [hw]; exact AV.le_refl _⟩
 ·obtain rfl : i = s.n := by omega
  rw [attrsTo_all hg]
  simp
theorem lastA_attrs (s : Sp) : ∀ m : Nat, lastA s.cells (-1) m = match (attrsTo s m).getLast? with | some a => (a : Int) | none => -1
 | 0 => rfl
 | m + 1 => by
  rw [attrsTo_succ, lastA]
  by_cases h : isAt s m = true
  ·have h' : attrAt s.cells m = true := h
   rw [if_pos h, if_pos h', List.getLast?_append]; rfl
  ·have h' : ¬ attrAt s.cells m = true := h
   rw [if_neg h, if_neg h', List.append_nil]; exact lastA_attrs s m
def intsA (l : List Int) : List AV := l.map fun n => .lit (.int .i64 n)
@[simp] theorem intsA_length (l : List Int) : (intsA l).length = l.length := by simp [intsA]
def startsTo (s : Sp) (m : Nat) : List Int := (List.range m).map (fun i => startS s.cells i) ++ List.replicate (s.n - m) 0
theorem startsTo_length (s : Sp) {m : Nat} (h : m ≤ s.n) : (startsTo s m).length = s.n := by simp [startsTo]; omega
theorem startsTo_succ (s : Sp) {m : Nat} (h : m < s.n) : startsTo s (m + 1) = (startsTo s m).set m (startS s.cells m) := by
 unfold startsTo
 rw [List.range_succ, List.map_append, List.set_append_right (h := by simp), show s.n - m = (s.n - (m + 1)) + 1 by omega, List.replicate_succ]
 simp
def starts (s : Sp) : List Int := (List.range s.n).map fun i => startS s.cells i
theorem startsTo_all (s : Sp) : startsTo s s.n = starts s := by simp [startsTo, starts]
theorem startsTo_zero (s : Sp) : startsTo s 0 = List.replicate s.n 0 := by simp [startsTo]
theorem intsA_set (l : List Int) (i : Nat) (n : Int) : (intsA l).set i (.lit (.int .i64 n)) = intsA (l.set i n) := by simp [intsA, List.map_set]
def lastTo (s : Sp) (m : Nat) : Int := lastA s.cells (lastA s.cells (-1) s.cells.length) m
theorem lastTo_succ (s : Sp) (m : Nat) : lastTo s (m + 1) = if isAt s m = true then (m : Int) else lastTo s m := rfl
theorem startS_eq (s : Sp) (m : Nat) : startS s.cells m = lastTo s (m + 1) := rfl
theorem natsA_last {l : List Nat} {a : Nat} (h : l.getLast? = some a) : (natsA l)[l.length - 1]? = some (.lit (.int .i64 a)) := by
 rw [List.getLast?_eq_getElem?] at h
 simp [natsA, natA, h]
theorem attrs_length (s : Sp) : s.attrs.length ≤ s.cells.length := by
 have h2 : s.attrs.length ≤ (List.range s.cells.length).length := by unfold Sp.attrs; exact List.length_filter_le _ _
 simpa using h2
theorem sub_over {σ : Store} {p b : Nat} {X Y Z : List AV} (hb : σ b = none) (hn : ¬ b = p) : Store.sub (σ.upd p X) (((σ.upd p Y).upd b Z).upd p X) := by
 refine Store.sub2 (fun o => ?_) (fun i => by simp)
 simp only [supd_apply]
 by_cases h1 : o = p
 ·right; simp [h1]
 ·by_cases h2 : o = b
  ·left; simp [h2, hb, hn]
  ·right; simp [h1, h2]
theorem starts_calls {x y : Nat} {s : Sp} {σ : Store} (h : Ref σ x y s) : ACalls Tryz.prog 30 [ptrA x] σ fun v σ' => ∃ p : Nat, σ p = none ∧ v = rowC p s.n ∧ σ' = σ.upd p (intsA (starts s)) := by
 have ho := h.obj
 have hr := h.row
 have hg := h.good
 have hln := hg.len
 have hn := s.n_le
 have hat := attrs_calls h
 have hlast : lastTo s 0 = match s.attrs.getLast? with | some a => (a : Int) | none => -1 := by
  rw [← attrsTo_all hg]; rw [← hln]; exact lastA_attrs s s.cells.length
 have hal := attrs_length s
 unfold rfO at ho
 have hi1 : (s.n : Int) ≤ 9223372036854775807 := by omega
 have hi2 : 8 * (s.n : Int) ≤ 281474976710656 := by omega
 have hz0 : List.replicate s.n (.lit (.int .i64 0)) = intsA (startsTo s 0) := by rw [startsTo_zero]; simp [intsA]
 refine aw st30 pl30 44 Tryz.func30 rfl ?_
 simp
 refine callK.of hat ?_
 rintro v σ' ⟨rfl, rfl⟩
 generalize s.attrs = L at *
 have hxy := h.ne
 cases hL : L.getLast?
 case' none =>
  rw [hL] at hlast
  have hl0 : L.length = 0 := by rw [List.getLast?_eq_none_iff] at hL; simp [hL]
  dsimp only at hlast
  simp [ho, rowC, hi1, hi2, hl0, hz0]
  intro p hp
  obtain ⟨f1, f2, f3, f4⟩ := h.fresh hp
  simp [f1]
 case' some a =>
  rw [hL] at hlast
  dsimp only at hlast
  have hget := natsA_last hL
  have hl0 : 0 < L.length := by
   rcases L with _ | ⟨b, L⟩
   ·cases hL
   ·simp
  have hw0 : IntKind.i64.wrap ((L.length : Int) - 1) = ((L.length - 1 : Nat) : Int) := by rw [wrap_i64 (by omega) (by omega)]; omega
  have hl1 : L.length - 1 < L.length := by omega
  have hw1 : (0 : Int) ≤ ((L.length - 1 : Nat) : Int) := by omega
  simp [ho, rowC, hi1, hi2, hl0, hz0, hw0, hget, hw1]
  intro p hp
  obtain ⟨f1, f2, f3, f4⟩ := h.fresh hp
  simp [f1]
 all_goals
  refine codeK.loop follows (st := st30) (plans := pl30) (X := Nat) (fun i => i ≤ s.n)
   (fun i => [(4, rowC p s.n), (5, .lit (.int .i64 (lastTo s i))), (28, rowC y s.n), (29, .lit (.int .i64 s.n)), (30, .lit (.int .i64 i))])
   (fun i => σ'.upd p (intsA (startsTo s i))) (fun i => s.n - i) 0 (by kernel_rfl) (by simp) (by simp [rowC, hlast, le_row]) (Store.sub_refl _) fun i hi => ?_
  by_cases hlt : i < s.n
  ·have hw : IntKind.i64.wrap ((i : Int) + 1) = ((i + 1 : Nat) : Int) := wrap_i64 (by omega) (by omega)
   have hic : i < s.cells.length := by omega
   have hgi := cellsO_get hic
   have hcx : cellC s.cells[i] = [byteA s.cells[i].char, .lit (.bool s.cells[i].attr), byteA s.cells[i].fa, byteA s.cells[i].high, byteA s.cells[i].color, byteA s.cells[i].set] := rfl
   rw [hcx] at hgi
   have hle : i * 6 + 6 ≤ (cellsO s.cells).length := by rw [cellsO_length]; omega
   have hia : isAt s i = s.cells[i].attr := by simp [isAt, hic]
   have hla := lastTo_succ s i
   have hst := startsTo_succ s hlt
   have hsl := startsTo_length s hi
   rw [startS_eq] at hst
   rw [hia] at hla
   generalize s.cells[i] = c at *
   by_cases hca : c.attr = true
   ·rw [if_pos hca] at hla
    rw [hla] at hst
    simp +contextual [rowC, hlt, hr, hle, hgi, ite_free, hca, f2]
    intro b n1 n2 hb
    refine ⟨by omega, i + 1, by omega, by omega, ⟨by rw [hla]; exact AV.le_refl _, by rw [hw]; exact AV.le_refl _⟩, ?_⟩
    rw [hst, ← intsA_set]
    exact sub_over hb n1
   ·rw [if_neg hca] at hla
    have hcf : c.attr = false := by simpa using hca
    rw [hla] at hst
    simp +contextual [rowC, hlt, hr, hle, hgi, ite_free, hcf, f2]
    intro b n1 n2 hb
    refine ⟨by omega, i + 1, by omega, by omega, ⟨by rw [hla]; exact AV.le_refl _, by rw [hw]; exact AV.le_refl _⟩, ?_⟩
    rw [hst, ← intsA_set]
    exact sub_over hb n1
  ·obtain rfl : i = s.n := by omega
   rw [startsTo_all]
   simp [rowC]
   exact ⟨_, AV.le_refl _, _, Store.sub_refl _, p, hp, rfl, rfl⟩
theorem rfield_calls {x y : Nat} {s : Sp} {σ : Store} (h : Ref σ x y s) (a : Nat) (ha : a < s.n) : ACalls Tryz.prog 31 [ptrA x, .lit (.int .i64 a)] σ fun v σ' => v = fldA (fld (s.cells[a]?.getD .zero).fa) ∧ σ' = σ := by
 have ho := h.obj
 have hr := h.row
 have hln := h.good.len
 unfold rfO at ho
 have hac : a < s.cells.length := by omega
 have h2 : (cellsO s.cells)[a * 6 + 2]? = some (byteA s.cells[a].fa) := cellsO_get1 hac (by omega)
 have hle : a * 6 + 6 ≤ (cellsO s.cells).length := by rw [cellsO_length]; omega
 rw [show s.cells[a]?.getD .zero = s.cells[a] by simp [hac]]
 generalize s.cells[a] = c at *
 have hof := rof_calls c.fa
 have hfa : ∀ f : Fld, fldA f = .agg [.lit (.bool f.prot), .lit (.bool f.num), .lit (.int .i64 f.disp), .lit (.bool f.mod)] := fun _ => rfl
 rw [hfa] at hof ⊢
 refine aw st31 pl31 14 Tryz.func31 rfl ?_
 simp
 intro b hb
 obtain ⟨f1, f2, f3, f4⟩ := h.fresh hb
 simp [ho, rowC, ha, hr, h2, f1, f2]
 refine callK.of (hof _) ?_
 rintro v σ' ⟨rfl, rfl⟩
 simp
 (intro q; simp only [Store.upd, Store.del]; (repeat' split) <;> first | exact Or.inr rfl | exact Or.inl rfl | (exfalso; omega) | (left; subst_vars; assumption) | simp_all)
theorem places_take_succ {s : Sp} {a k : Nat} (h : k < Sp.len s.cells a) : (Sp.places s.cells a).take (k + 1) = (Sp.places s.cells a).take k ++ [(a + k + 1) % s.cells.length] := by
 have hl : k < (Sp.places s.cells a).length := by rw [places_length']; exact h
 rw [List.take_succ_eq_append_getElem hl, places_get' _ _ _ hl]
theorem starts_at {s : Sp} {m : Nat} (h : m < s.n) : (intsA (starts s))[m]? = some (.lit (.int .i64 (startS s.cells m))) := by
 simp [intsA, starts, h]
end Go.Proofs.YtlmdbcgceijlnaaGreat
