/-
 A code is entered at the cursor.
-/
import Derived.Test.YtlmdbcgceijlnaaGreatPPart17
set_option linter.unusedSimpArgs false
set_option linter.unusedVariables false
set_option maxRecDepth 8000
set_option maxHeartbeats 8000000

namespace Go.Proofs.YtlmdbcgceijlnaaGreat
open Go Go.AL Go.Sp
variable {σ : Store} {k q r b : Nat} {n : Int} {B : Bd}
def fofF (s : Sp) (n : Nat) : Fld := if 0 ≤ startS s.cells n then fldAt s (startS s.cells n).toNat else ⟨false, false, 0, false⟩
def okF (s : Sp) (n : Nat) : Bool := decide (0 ≤ startS s.cells n)
theorem fofF_calls {s : Sp} (h : Prg σ q r s) {n : Nat} (hn : n < s.n) : ACalls Tryz.prog 79 [ptrA q, .lit (.int .i64 n)] σ fun v σ' => v = .tuple [.agg [.lit (.bool (fofF s n).prot), .lit (.bool (fofF s n).num), .lit (.int .i64 (fofF s n).disp), .lit (.bool (fofF s n).mod)], .lit (.bool (okF s n))] ∧ σ' = σ := by
 have := fof_calls h hn
 unfold fofF okF
 by_cases h0 : 0 ≤ startS s.cells n
 ·simp only [if_pos h0] at this ⊢; exact this
 ·simp only [if_neg h0] at this ⊢; exact this
def cellE (c : Cell) (b : UInt8) : Cell := { c with char := b, set := 0 }
def setE (s : Sp) (n : Nat) (c : UInt8) : Sp := s.set n (cellE (s.at n) c)
def entS (s : Sp) (n : Nat) (c : UInt8) : Sp := if c = 28 then tabS (modS (setE s n c) n) else afterS (modS (setE s n c) n)
def enterB (n : Int) (B : Bd) (c : UInt8) : Bd × Int :=
 if openS B.s B.s.cursor = false then ({ B with lock := 2 }, 13)
 else if (okF B.s B.s.cursor && (fofF B.s B.s.cursor).num && !(numB n c)) = true then ({ B with lock := 3 }, 14)
 else if (B.ins && !(c == 28)) = true then
  (if (insS B.s B.s.cursor c).2 = false then ({ B with lock := 4 }, 7) else ({ B with s := entS (insS B.s B.s.cursor c).1 B.s.cursor c }, 0))
 else ({ B with s := entS B.s B.s.cursor c }, 0)
theorem insS_same {s : Sp} (h : s.good) (n : Nat) (c : UInt8) : SameN s (insS s n c).1 := by
 unfold insS
 split
 ·have h1 := insTo_same h (roundL s n) (nulN s (roundL s n)) (nulN s (roundL s n))
  have h2 := h1.put ((roundL s n)[0]?.getD 0 : Nat) c
  exact h2.trans (modS_same h2.1 n)
 ·exact .refl h
theorem kS_other {z : Nat} (f : Free σ k q r b z) (x : Option Nat) (B : Bd) (X : List AV) : (kS (σ.upd z X) k q r b n x B) z = some X := by
 rw [← kS_new f]; simp
theorem enter_calls (h : KOk σ k q r b n B) (x : Option Nat) (c : UInt8) : ACalls Tryz.prog 91 [ptrA k, byteA c] (kS σ k q r b n x B) fun v σ' => v = .lit (.int .i64 (enterB n B c).2) ∧ ∃ x', NxP σ x x' ∧ σ' = kS σ k q r b n x' (enterB n B c).1 := by
 have hn := h.good.cursor
 have hk := kS_k' h x
 have hP := kS_prg h x
 have hcu := cursor_calls hP
 have hfo := fofF_calls hP hn
 generalize hm : B.s.cursor = m at *
 generalize hff : fofF B.s m = ff at *
 generalize hok : okF B.s m = okk at *
 simp only [byteA] at hk
 refine aw st91 pl91 103 Tryz.func91 rfl ?_
 simp [hk, byteA]
 refine callK.of hcu ?_
 rintro v τ ⟨rfl, rfl⟩
 simp [hk]
 refine callK.of hfo ?_
 rintro v τ ⟨rfl, rfl⟩
 simp
 intro z hz
 have fz := kS_free h hz
 have h1 := fz.ok h [.lit (.bool ff.prot), .lit (.bool ff.num), .lit (.int .i64 ff.disp), .lit (.bool ff.mod)]
 have hzv := fun x2 B2 => kS_other (n := n) fz x2 B2 [.lit (.bool ff.prot), .lit (.bool ff.num), .lit (.int .i64 ff.disp), .lit (.bool ff.mod)]
 have hdr := fun x2 B2 => fz.drop (n := n) x2 B2 [.lit (.bool ff.prot), .lit (.bool ff.num), .lit (.int .i64 ff.disp), .lit (.bool ff.mod)]
 have hkz : ¬ k = z := fun e => fz.k e.symm
 simp [hkz, hk]
 have hmk : ∀ g : Nat, (σ.upd z [.lit (.bool ff.prot), .lit (.bool ff.num), .lit (.int .i64 ff.disp), .lit (.bool ff.mod)]) (mkey g) = σ (mkey g) := fun g => by simp
 simp only [kS_new fz]
 have hk1 := kS_k' h1 x
 have hop := open_calls (kS_prg h1 x) hn
 simp only [byteA] at hk1
 generalize σ.upd z [.lit (.bool ff.prot), .lit (.bool ff.num), .lit (.int .i64 ff.disp), .lit (.bool ff.mod)] = σ1 at *
 refine callK.of hop ?_
 rintro v τ ⟨rfl, rfl⟩
 cases ho : openS B.s m
 ·have hE : enterB n B c = ({ B with lock := 2 }, 13) := by unfold enterB; rw [hm, ho]; rfl
  simp [hE]
  refine callK.of (refuse_calls h1 x 2 (.inl rfl)) ?_
  rintro v τ ⟨rfl, rfl⟩
  simp [refE]
  exact ⟨_, AV.le_refl _, _, hdr _ _, rfl, x, .inl rfl, rfl⟩
 ·simp
  have hnu : ACalls Tryz.prog 14 [ptrA b, byteA c] (kS σ1 k q r b n x B) fun v σ' => v = .lit (.bool (numB n c)) ∧ ∃ x', NxP σ1 x x' ∧ σ' = kS σ1 k q r b n x' B :=
   (numeric_calls b n h.page x c _).mono fun v σ' ⟨e1, x', e2, e3⟩ => ⟨e1, x', e2.base, e3⟩
  simp only [byteA] at hnu
  have hrf := fun xc => refuse_calls h1 xc 3 (.inr (.inl rfl))
  have hB : (okk && ff.num && !(numB n c)) = true → enterB n B c = ({ B with lock := 3 }, 14) := fun e => by
   unfold enterB; rw [hm, ho, hok, hff, if_neg (by simp), if_pos e]
  have hC : (okk && ff.num && !(numB n c)) = false → enterB n B c = if (B.ins && !(c == 28)) = true then
    (if (insS B.s m c).2 = false then ({ B with lock := 4 }, 7) else ({ B with s := entS (insS B.s m c).1 m c }, 0))
   else ({ B with s := entS B.s m c }, 0) := fun e => by
   unfold enterB; rw [hm, ho, hok, hff, if_neg (by simp), if_neg (by simp [e])]
  generalize hnb : numB n c = nb at *
  have hz1 := hzv x B
  cases okk
  ·obtain ⟨xc, hxc⟩ : ∃ xc, xc = x := ⟨x, rfl⟩
   have nxc : NxP σ xc xc := .inl rfl
   rw [← hxc]
   have hE := hC (by simp)
   simp
   clear hnu hrf hk1 hop hzv hz1 hcu hfo
   have hkc0 := kS_k' h1 xc
   simp only [byteA] at hkc0
   have hins := insert_calls (kS_prg h1 xc) hn c
   rw [kS_put h1] at hins
   have hss := insS_same h.good m c
   have hm3 : m < B.s.n := hn
   cases hi : B.ins
   ·rw [hi] at hkc0
    simp [hkc0]
    rw [if_neg (by simp [hi])] at hE
    obtain ⟨Bc, hBc⟩ : ∃ Bc, Bc = B := ⟨B, rfl⟩
    rw [← hBc] at hE h1 hn
    rw [← hBc]
    have H2 := h1
    have hm2 := hn
    clear hins hss
    have hP2 := kS_prg H2 xc
    have hkc := kS_k' H2 xc
    have hat := at_calls hP2 (m : Int)
    have hset := fun τ (hτ : Prg τ q r Bc.s) => set_calls hτ (m : Int) (cellE (Bc.s.at (m : Int)) c)
    have hE1 : setE Bc.s m c = Bc.s.set (m : Int) (cellE (Bc.s.at (m : Int)) c) := rfl
    rw [← hE1] at hset
    have hcell : cellA (cellE (Bc.s.at (m : Int)) c) = .agg [byteA c, .lit (.bool (Bc.s.at (m : Int)).attr), byteA (Bc.s.at (m : Int)).fa, byteA (Bc.s.at (m : Int)).high, byteA (Bc.s.at (m : Int)).color, .lit (.int .u8 0)] := rfl
    rw [hcell] at hset
    simp only [cellA_eq] at hat
    have hs3 : SameN Bc.s (setE Bc.s m c) := by rw [hE1]; exact (SameN.refl H2.good).set _ _
    have hs4 := modS_same hs3.1 m
    have hmo := fun τ (hτ : Prg τ q r (setE Bc.s m c)) => modify_calls hτ (n := m) (by rw [hs3.n]; exact hm2)
    have hen : entS Bc.s m c = if c = 28 then tabS (modS (setE Bc.s m c) m) else afterS (modS (setE Bc.s m c) m) := rfl
    rw [hen] at hE
    clear hE1 hcell hen
    generalize Bc.s.at (m : Int) = cc at *
    generalize setE Bc.s m c = s3 at *
    generalize hs4e : modS s3 m = s4 at *
    simp only [byteA] at hat hset hkc
    try simp [hkc]
    refine callK.of hat ?_
    rintro v τ ⟨rfl, rfl⟩
    simp
    intro y hy
    have fy := kS_free H2 hy
    have hky : ¬ k = y := fun e => fy.k e.symm
    have H3 := fy.ok H2 [.lit (.int .u8 c.toNat), .lit (.bool cc.attr), .lit (.int .u8 cc.fa.toNat), .lit (.int .u8 cc.high.toNat), .lit (.int .u8 cc.color.toNat), .lit (.int .u8 0)]
    have hdy := fun x2 B2 => fy.drop (n := n) x2 B2 [.lit (.int .u8 c.toNat), .lit (.bool cc.attr), .lit (.int .u8 cc.fa.toNat), .lit (.int .u8 cc.high.toNat), .lit (.int .u8 cc.color.toNat), .lit (.int .u8 0)]
    simp [hky, hkc]
    simp only [kS_new fy]
    generalize σ1.upd y [.lit (.int .u8 c.toNat), .lit (.bool cc.attr), .lit (.int .u8 cc.fa.toNat), .lit (.int .u8 cc.high.toNat), .lit (.int .u8 cc.color.toNat), .lit (.int .u8 0)] = σ2 at *
    refine callK.of (hset _ (kS_prg H3 xc)) ?_
    rintro v τ ⟨rfl, rfl⟩
    rw [kS_put H3]
    have H4 : KOk σ2 k q r b n { Bc with s := s3 } := H3.s hs3.1
    have hk4 := kS_k' H4 xc
    simp only [byteA] at hk4
    simp [hk4]
    refine callK.of (hmo _ (kS_prg H4 xc)) ?_
    rintro v τ ⟨rfl, rfl⟩
    rw [kS_put H4]
    have H5 : KOk σ2 k q r b n { Bc with s := s4 } := H3.s hs4.1
    have hk5 := kS_k' H5 xc
    simp only [byteA] at hk5
    simp [hk5]
    by_cases h28 : c = 28
    ·have h28' : (c.toNat : Int) = 28 := by rw [h28]; rfl
     rw [if_pos h28] at hE
     simp [h28']
     refine callK.of (tab_calls (kS_prg H5 xc)) ?_
     rintro v τ ⟨rfl, rfl⟩
     rw [kS_put H5]
     simp [hE]
     exact ⟨_, AV.le_refl _, _, Store.sub_trans (hdr _ _) (hdy _ _), rfl, xc, nxc, rfl⟩
    ·have h28' : ¬ (c.toNat : Int) = 28 := fun e => h28 (UInt8.toNat_inj.1 (show c.toNat = (28 : UInt8).toNat from (by have h9 : c.toNat = 28 := (by omega); simpa using h9)))
     rw [if_neg h28] at hE
     simp [h28']
     refine callK.of (after_calls (kS_prg H5 xc)) ?_
     rintro v τ ⟨rfl, rfl⟩
     rw [kS_put H5]
     simp [hE]
     exact ⟨_, AV.le_refl _, _, Store.sub_trans (hdr _ _) (hdy _ _), rfl, xc, nxc, rfl⟩
   ·rw [hi] at hkc0
    by_cases h28 : c = 28
    ·have h28' : (c.toNat : Int) = 28 := by rw [h28]; rfl
     simp [hkc0, h28']
     rw [if_neg (by simp [hi, h28])] at hE
     obtain ⟨Bc, hBc⟩ : ∃ Bc, Bc = B := ⟨B, rfl⟩
     rw [← hBc] at hE h1 hn
     rw [← hBc]
     have H2 := h1
     have hm2 := hn
     clear hins hss
     have hP2 := kS_prg H2 xc
     have hkc := kS_k' H2 xc
     have hat := at_calls hP2 (m : Int)
     have hset := fun τ (hτ : Prg τ q r Bc.s) => set_calls hτ (m : Int) (cellE (Bc.s.at (m : Int)) c)
     have hE1 : setE Bc.s m c = Bc.s.set (m : Int) (cellE (Bc.s.at (m : Int)) c) := rfl
     rw [← hE1] at hset
     have hcell : cellA (cellE (Bc.s.at (m : Int)) c) = .agg [byteA c, .lit (.bool (Bc.s.at (m : Int)).attr), byteA (Bc.s.at (m : Int)).fa, byteA (Bc.s.at (m : Int)).high, byteA (Bc.s.at (m : Int)).color, .lit (.int .u8 0)] := rfl
     rw [hcell] at hset
     simp only [cellA_eq] at hat
     have hs3 : SameN Bc.s (setE Bc.s m c) := by rw [hE1]; exact (SameN.refl H2.good).set _ _
     have hs4 := modS_same hs3.1 m
     have hmo := fun τ (hτ : Prg τ q r (setE Bc.s m c)) => modify_calls hτ (n := m) (by rw [hs3.n]; exact hm2)
     have hen : entS Bc.s m c = if c = 28 then tabS (modS (setE Bc.s m c) m) else afterS (modS (setE Bc.s m c) m) := rfl
     rw [hen] at hE
     clear hE1 hcell hen
     generalize Bc.s.at (m : Int) = cc at *
     generalize setE Bc.s m c = s3 at *
     generalize hs4e : modS s3 m = s4 at *
     simp only [byteA] at hat hset hkc
     rw [h28'] at hset
     try simp [hkc]
     refine callK.of hat ?_
     rintro v τ ⟨rfl, rfl⟩
     simp
     intro y hy
     have fy := kS_free H2 hy
     have hky : ¬ k = y := fun e => fy.k e.symm
     have H3 := fy.ok H2 [.lit (.int .u8 28), .lit (.bool cc.attr), .lit (.int .u8 cc.fa.toNat), .lit (.int .u8 cc.high.toNat), .lit (.int .u8 cc.color.toNat), .lit (.int .u8 0)]
     have hdy := fun x2 B2 => fy.drop (n := n) x2 B2 [.lit (.int .u8 28), .lit (.bool cc.attr), .lit (.int .u8 cc.fa.toNat), .lit (.int .u8 cc.high.toNat), .lit (.int .u8 cc.color.toNat), .lit (.int .u8 0)]
     simp [hky, hkc]
     simp only [kS_new fy]
     generalize σ1.upd y [.lit (.int .u8 28), .lit (.bool cc.attr), .lit (.int .u8 cc.fa.toNat), .lit (.int .u8 cc.high.toNat), .lit (.int .u8 cc.color.toNat), .lit (.int .u8 0)] = σ2 at *
     refine callK.of (hset _ (kS_prg H3 xc)) ?_
     rintro v τ ⟨rfl, rfl⟩
     rw [kS_put H3]
     have H4 : KOk σ2 k q r b n { Bc with s := s3 } := H3.s hs3.1
     have hk4 := kS_k' H4 xc
     simp only [byteA] at hk4
     simp [hk4]
     refine callK.of (hmo _ (kS_prg H4 xc)) ?_
     rintro v τ ⟨rfl, rfl⟩
     rw [kS_put H4]
     have H5 : KOk σ2 k q r b n { Bc with s := s4 } := H3.s hs4.1
     have hk5 := kS_k' H5 xc
     simp only [byteA] at hk5
     simp [hk5]
     have h28' : (c.toNat : Int) = 28 := by rw [h28]; rfl
     rw [if_pos h28] at hE
     refine callK.of (tab_calls (kS_prg H5 xc)) ?_
     rintro v τ ⟨rfl, rfl⟩
     rw [kS_put H5]
     simp [hE]
     exact ⟨_, AV.le_refl _, _, Store.sub_trans (hdr _ _) (hdy _ _), rfl, xc, nxc, rfl⟩
    ·have h28' : ¬ (c.toNat : Int) = 28 := fun e => h28 (UInt8.toNat_inj.1 (show c.toNat = (28 : UInt8).toNat from (by have h9 : c.toNat = 28 := (by omega); simpa using h9)))
     simp [hkc0, h28']
     rw [if_pos (by simp [hi, h28])] at hE
     simp only [byteA] at hins
     refine callK.of hins ?_
     rintro v τ ⟨rfl, rfl⟩
     cases hi2 : (insS B.s m c).2
     ·rw [hi2, if_pos rfl] at hE
      have hff : (insS B.s m c).1 = B.s := by
       unfold insS at hi2 ⊢
       split
       ·rename_i h9; rw [if_pos h9] at hi2; cases hi2
       ·rfl
      rw [hff]
      simp
      refine callK.of (refuse_calls h1 xc 4 (.inr (.inr rfl))) ?_
      rintro v τ ⟨rfl, rfl⟩
      simp [hE, refE]
      exact ⟨_, AV.le_refl _, _, hdr _ _, rfl, xc, nxc, rfl⟩
     ·rw [hi2, if_neg (by simp)] at hE
      simp
      have H2 : KOk σ1 k q r b n { B with s := (insS B.s m c).1 } := h1.s hss.1
      have hm2 : m < (insS B.s m c).1.n := by rw [hss.n]; exact hn
      generalize (insS B.s m c).1 = s2 at *
      obtain ⟨Bc, hBc⟩ : ∃ Bc : Bd, Bc = { B with s := s2 } := ⟨_, rfl⟩
      have hBs : Bc.s = s2 := by rw [hBc]
      have hE : enterB n B c = ({ Bc with s := entS Bc.s m c }, 0) := by rw [hE, hBs, hBc]
      rw [← hBc] at H2
      rw [← hBs] at hm2
      rw [← hBc]
      have hP2 := kS_prg H2 xc
      have hkc := kS_k' H2 xc
      have hat := at_calls hP2 (m : Int)
      have hset := fun τ (hτ : Prg τ q r Bc.s) => set_calls hτ (m : Int) (cellE (Bc.s.at (m : Int)) c)
      have hE1 : setE Bc.s m c = Bc.s.set (m : Int) (cellE (Bc.s.at (m : Int)) c) := rfl
      rw [← hE1] at hset
      have hcell : cellA (cellE (Bc.s.at (m : Int)) c) = .agg [byteA c, .lit (.bool (Bc.s.at (m : Int)).attr), byteA (Bc.s.at (m : Int)).fa, byteA (Bc.s.at (m : Int)).high, byteA (Bc.s.at (m : Int)).color, .lit (.int .u8 0)] := rfl
      rw [hcell] at hset
      simp only [cellA_eq] at hat
      have hs3 : SameN Bc.s (setE Bc.s m c) := by rw [hE1]; exact (SameN.refl H2.good).set _ _
      have hs4 := modS_same hs3.1 m
      have hmo := fun τ (hτ : Prg τ q r (setE Bc.s m c)) => modify_calls hτ (n := m) (by rw [hs3.n]; exact hm2)
      have hen : entS Bc.s m c = if c = 28 then tabS (modS (setE Bc.s m c) m) else afterS (modS (setE Bc.s m c) m) := rfl
      rw [hen] at hE
      clear hE1 hcell hen
      generalize Bc.s.at (m : Int) = cc at *
      generalize setE Bc.s m c = s3 at *
      generalize hs4e : modS s3 m = s4 at *
      simp only [byteA] at hat hset hkc
      try simp [hkc]
      refine callK.of hat ?_
      rintro v τ ⟨rfl, rfl⟩
      simp
      intro y hy
      have fy := kS_free H2 hy
      have hky : ¬ k = y := fun e => fy.k e.symm
      have H3 := fy.ok H2 [.lit (.int .u8 c.toNat), .lit (.bool cc.attr), .lit (.int .u8 cc.fa.toNat), .lit (.int .u8 cc.high.toNat), .lit (.int .u8 cc.color.toNat), .lit (.int .u8 0)]
      have hdy := fun x2 B2 => fy.drop (n := n) x2 B2 [.lit (.int .u8 c.toNat), .lit (.bool cc.attr), .lit (.int .u8 cc.fa.toNat), .lit (.int .u8 cc.high.toNat), .lit (.int .u8 cc.color.toNat), .lit (.int .u8 0)]
      simp [hky, hkc]
      simp only [kS_new fy]
      generalize σ1.upd y [.lit (.int .u8 c.toNat), .lit (.bool cc.attr), .lit (.int .u8 cc.fa.toNat), .lit (.int .u8 cc.high.toNat), .lit (.int .u8 cc.color.toNat), .lit (.int .u8 0)] = σ2 at *
      refine callK.of (hset _ (kS_prg H3 xc)) ?_
      rintro v τ ⟨rfl, rfl⟩
      rw [kS_put H3]
      have H4 : KOk σ2 k q r b n { Bc with s := s3 } := H3.s hs3.1
      have hk4 := kS_k' H4 xc
      simp only [byteA] at hk4
      simp [hk4]
      refine callK.of (hmo _ (kS_prg H4 xc)) ?_
      rintro v τ ⟨rfl, rfl⟩
      rw [kS_put H4]
      have H5 : KOk σ2 k q r b n { Bc with s := s4 } := H3.s hs4.1
      have hk5 := kS_k' H5 xc
      simp only [byteA] at hk5
      simp [hk5]
      by_cases h28 : c = 28
      ·have h28' : (c.toNat : Int) = 28 := by rw [h28]; rfl
       rw [if_pos h28] at hE
       simp [h28']
       refine callK.of (tab_calls (kS_prg H5 xc)) ?_
       rintro v τ ⟨rfl, rfl⟩
       rw [kS_put H5]
       simp [hE]
       exact ⟨_, AV.le_refl _, _, Store.sub_trans (hdr _ _) (hdy _ _), rfl, xc, nxc, rfl⟩
      ·have h28' : ¬ (c.toNat : Int) = 28 := fun e => h28 (UInt8.toNat_inj.1 (show c.toNat = (28 : UInt8).toNat from (by have h9 : c.toNat = 28 := (by omega); simpa using h9)))
       rw [if_neg h28] at hE
       simp [h28']
       refine callK.of (after_calls (kS_prg H5 xc)) ?_
       rintro v τ ⟨rfl, rfl⟩
       rw [kS_put H5]
       simp [hE]
       exact ⟨_, AV.le_refl _, _, Store.sub_trans (hdr _ _) (hdy _ _), rfl, xc, nxc, rfl⟩
  ·cases hfn : ff.num
   ·obtain ⟨xc, hxc⟩ : ∃ xc, xc = x := ⟨x, rfl⟩
    have nxc : NxP σ xc xc := .inl rfl
    rw [hfn] at hz1
    have hE := hC (by simp [hfn])
    simp [hz1]
    rw [← hxc]
    clear hnu hrf hk1 hop hzv hz1 hcu hfo
    have hkc0 := kS_k' h1 xc
    simp only [byteA] at hkc0
    have hins := insert_calls (kS_prg h1 xc) hn c
    rw [kS_put h1] at hins
    have hss := insS_same h.good m c
    have hm3 : m < B.s.n := hn
    cases hi : B.ins
    ·rw [hi] at hkc0
     simp [hkc0]
     rw [if_neg (by simp [hi])] at hE
     obtain ⟨Bc, hBc⟩ : ∃ Bc, Bc = B := ⟨B, rfl⟩
     rw [← hBc] at hE h1 hn
     rw [← hBc]
     have H2 := h1
     have hm2 := hn
     clear hins hss
     have hP2 := kS_prg H2 xc
     have hkc := kS_k' H2 xc
     have hat := at_calls hP2 (m : Int)
     have hset := fun τ (hτ : Prg τ q r Bc.s) => set_calls hτ (m : Int) (cellE (Bc.s.at (m : Int)) c)
     have hE1 : setE Bc.s m c = Bc.s.set (m : Int) (cellE (Bc.s.at (m : Int)) c) := rfl
     rw [← hE1] at hset
     have hcell : cellA (cellE (Bc.s.at (m : Int)) c) = .agg [byteA c, .lit (.bool (Bc.s.at (m : Int)).attr), byteA (Bc.s.at (m : Int)).fa, byteA (Bc.s.at (m : Int)).high, byteA (Bc.s.at (m : Int)).color, .lit (.int .u8 0)] := rfl
     rw [hcell] at hset
     simp only [cellA_eq] at hat
     have hs3 : SameN Bc.s (setE Bc.s m c) := by rw [hE1]; exact (SameN.refl H2.good).set _ _
     have hs4 := modS_same hs3.1 m
     have hmo := fun τ (hτ : Prg τ q r (setE Bc.s m c)) => modify_calls hτ (n := m) (by rw [hs3.n]; exact hm2)
     have hen : entS Bc.s m c = if c = 28 then tabS (modS (setE Bc.s m c) m) else afterS (modS (setE Bc.s m c) m) := rfl
     rw [hen] at hE
     clear hE1 hcell hen
     generalize Bc.s.at (m : Int) = cc at *
     generalize setE Bc.s m c = s3 at *
     generalize hs4e : modS s3 m = s4 at *
     simp only [byteA] at hat hset hkc
     try simp [hkc]
     refine callK.of hat ?_
     rintro v τ ⟨rfl, rfl⟩
     simp
     intro y hy
     have fy := kS_free H2 hy
     have hky : ¬ k = y := fun e => fy.k e.symm
     have H3 := fy.ok H2 [.lit (.int .u8 c.toNat), .lit (.bool cc.attr), .lit (.int .u8 cc.fa.toNat), .lit (.int .u8 cc.high.toNat), .lit (.int .u8 cc.color.toNat), .lit (.int .u8 0)]
     have hdy := fun x2 B2 => fy.drop (n := n) x2 B2 [.lit (.int .u8 c.toNat), .lit (.bool cc.attr), .lit (.int .u8 cc.fa.toNat), .lit (.int .u8 cc.high.toNat), .lit (.int .u8 cc.color.toNat), .lit (.int .u8 0)]
     simp [hky, hkc]
     simp only [kS_new fy]
     generalize σ1.upd y [.lit (.int .u8 c.toNat), .lit (.bool cc.attr), .lit (.int .u8 cc.fa.toNat), .lit (.int .u8 cc.high.toNat), .lit (.int .u8 cc.color.toNat), .lit (.int .u8 0)] = σ2 at *
     refine callK.of (hset _ (kS_prg H3 xc)) ?_
     rintro v τ ⟨rfl, rfl⟩
     rw [kS_put H3]
     have H4 : KOk σ2 k q r b n { Bc with s := s3 } := H3.s hs3.1
     have hk4 := kS_k' H4 xc
     simp only [byteA] at hk4
     simp [hk4]
     refine callK.of (hmo _ (kS_prg H4 xc)) ?_
     rintro v τ ⟨rfl, rfl⟩
     rw [kS_put H4]
     have H5 : KOk σ2 k q r b n { Bc with s := s4 } := H3.s hs4.1
     have hk5 := kS_k' H5 xc
     simp only [byteA] at hk5
     simp [hk5]
     by_cases h28 : c = 28
     ·have h28' : (c.toNat : Int) = 28 := by rw [h28]; rfl
      rw [if_pos h28] at hE
      simp [h28']
      refine callK.of (tab_calls (kS_prg H5 xc)) ?_
      rintro v τ ⟨rfl, rfl⟩
      rw [kS_put H5]
      simp [hE]
      exact ⟨_, AV.le_refl _, _, Store.sub_trans (hdr _ _) (hdy _ _), rfl, xc, nxc, rfl⟩
     ·have h28' : ¬ (c.toNat : Int) = 28 := fun e => h28 (UInt8.toNat_inj.1 (show c.toNat = (28 : UInt8).toNat from (by have h9 : c.toNat = 28 := (by omega); simpa using h9)))
      rw [if_neg h28] at hE
      simp [h28']
      refine callK.of (after_calls (kS_prg H5 xc)) ?_
      rintro v τ ⟨rfl, rfl⟩
      rw [kS_put H5]
      simp [hE]
      exact ⟨_, AV.le_refl _, _, Store.sub_trans (hdr _ _) (hdy _ _), rfl, xc, nxc, rfl⟩
    ·rw [hi] at hkc0
     by_cases h28 : c = 28
     ·have h28' : (c.toNat : Int) = 28 := by rw [h28]; rfl
      simp [hkc0, h28']
      rw [if_neg (by simp [hi, h28])] at hE
      obtain ⟨Bc, hBc⟩ : ∃ Bc, Bc = B := ⟨B, rfl⟩
      rw [← hBc] at hE h1 hn
      rw [← hBc]
      have H2 := h1
      have hm2 := hn
      clear hins hss
      have hP2 := kS_prg H2 xc
      have hkc := kS_k' H2 xc
      have hat := at_calls hP2 (m : Int)
      have hset := fun τ (hτ : Prg τ q r Bc.s) => set_calls hτ (m : Int) (cellE (Bc.s.at (m : Int)) c)
      have hE1 : setE Bc.s m c = Bc.s.set (m : Int) (cellE (Bc.s.at (m : Int)) c) := rfl
      rw [← hE1] at hset
      have hcell : cellA (cellE (Bc.s.at (m : Int)) c) = .agg [byteA c, .lit (.bool (Bc.s.at (m : Int)).attr), byteA (Bc.s.at (m : Int)).fa, byteA (Bc.s.at (m : Int)).high, byteA (Bc.s.at (m : Int)).color, .lit (.int .u8 0)] := rfl
      rw [hcell] at hset
      simp only [cellA_eq] at hat
      have hs3 : SameN Bc.s (setE Bc.s m c) := by rw [hE1]; exact (SameN.refl H2.good).set _ _
      have hs4 := modS_same hs3.1 m
      have hmo := fun τ (hτ : Prg τ q r (setE Bc.s m c)) => modify_calls hτ (n := m) (by rw [hs3.n]; exact hm2)
      have hen : entS Bc.s m c = if c = 28 then tabS (modS (setE Bc.s m c) m) else afterS (modS (setE Bc.s m c) m) := rfl
      rw [hen] at hE
      clear hE1 hcell hen
      generalize Bc.s.at (m : Int) = cc at *
      generalize setE Bc.s m c = s3 at *
      generalize hs4e : modS s3 m = s4 at *
      simp only [byteA] at hat hset hkc
      rw [h28'] at hset
      try simp [hkc]
      refine callK.of hat ?_
      rintro v τ ⟨rfl, rfl⟩
      simp
      intro y hy
      have fy := kS_free H2 hy
      have hky : ¬ k = y := fun e => fy.k e.symm
      have H3 := fy.ok H2 [.lit (.int .u8 28), .lit (.bool cc.attr), .lit (.int .u8 cc.fa.toNat), .lit (.int .u8 cc.high.toNat), .lit (.int .u8 cc.color.toNat), .lit (.int .u8 0)]
      have hdy := fun x2 B2 => fy.drop (n := n) x2 B2 [.lit (.int .u8 28), .lit (.bool cc.attr), .lit (.int .u8 cc.fa.toNat), .lit (.int .u8 cc.high.toNat), .lit (.int .u8 cc.color.toNat), .lit (.int .u8 0)]
      simp [hky, hkc]
      simp only [kS_new fy]
      generalize σ1.upd y [.lit (.int .u8 28), .lit (.bool cc.attr), .lit (.int .u8 cc.fa.toNat), .lit (.int .u8 cc.high.toNat), .lit (.int .u8 cc.color.toNat), .lit (.int .u8 0)] = σ2 at *
      refine callK.of (hset _ (kS_prg H3 xc)) ?_
      rintro v τ ⟨rfl, rfl⟩
      rw [kS_put H3]
      have H4 : KOk σ2 k q r b n { Bc with s := s3 } := H3.s hs3.1
      have hk4 := kS_k' H4 xc
      simp only [byteA] at hk4
      simp [hk4]
      refine callK.of (hmo _ (kS_prg H4 xc)) ?_
      rintro v τ ⟨rfl, rfl⟩
      rw [kS_put H4]
      have H5 : KOk σ2 k q r b n { Bc with s := s4 } := H3.s hs4.1
      have hk5 := kS_k' H5 xc
      simp only [byteA] at hk5
      simp [hk5]
      have h28' : (c.toNat : Int) = 28 := by rw [h28]; rfl
      rw [if_pos h28] at hE
      refine callK.of (tab_calls (kS_prg H5 xc)) ?_
      rintro v τ ⟨rfl, rfl⟩
      rw [kS_put H5]
      simp [hE]
      exact ⟨_, AV.le_refl _, _, Store.sub_trans (hdr _ _) (hdy _ _), rfl, xc, nxc, rfl⟩
     ·have h28' : ¬ (c.toNat : Int) = 28 := fun e => h28 (UInt8.toNat_inj.1 (show c.toNat = (28 : UInt8).toNat from (by have h9 : c.toNat = 28 := (by omega); simpa using h9)))
      simp [hkc0, h28']
      rw [if_pos (by simp [hi, h28])] at hE
      simp only [byteA] at hins
      refine callK.of hins ?_
      rintro v τ ⟨rfl, rfl⟩
      cases hi2 : (insS B.s m c).2
      ·rw [hi2, if_pos rfl] at hE
       have hff : (insS B.s m c).1 = B.s := by
        unfold insS at hi2 ⊢
        split
        ·rename_i h9; rw [if_pos h9] at hi2; cases hi2
        ·rfl
       rw [hff]
       simp
       refine callK.of (refuse_calls h1 xc 4 (.inr (.inr rfl))) ?_
       rintro v τ ⟨rfl, rfl⟩
       simp [hE, refE]
       exact ⟨_, AV.le_refl _, _, hdr _ _, rfl, xc, nxc, rfl⟩
      ·rw [hi2, if_neg (by simp)] at hE
       simp
       have H2 : KOk σ1 k q r b n { B with s := (insS B.s m c).1 } := h1.s hss.1
       have hm2 : m < (insS B.s m c).1.n := by rw [hss.n]; exact hn
       generalize (insS B.s m c).1 = s2 at *
       obtain ⟨Bc, hBc⟩ : ∃ Bc : Bd, Bc = { B with s := s2 } := ⟨_, rfl⟩
       have hBs : Bc.s = s2 := by rw [hBc]
       have hE : enterB n B c = ({ Bc with s := entS Bc.s m c }, 0) := by rw [hE, hBs, hBc]
       rw [← hBc] at H2
       rw [← hBs] at hm2
       rw [← hBc]
       have hP2 := kS_prg H2 xc
       have hkc := kS_k' H2 xc
       have hat := at_calls hP2 (m : Int)
       have hset := fun τ (hτ : Prg τ q r Bc.s) => set_calls hτ (m : Int) (cellE (Bc.s.at (m : Int)) c)
       have hE1 : setE Bc.s m c = Bc.s.set (m : Int) (cellE (Bc.s.at (m : Int)) c) := rfl
       rw [← hE1] at hset
       have hcell : cellA (cellE (Bc.s.at (m : Int)) c) = .agg [byteA c, .lit (.bool (Bc.s.at (m : Int)).attr), byteA (Bc.s.at (m : Int)).fa, byteA (Bc.s.at (m : Int)).high, byteA (Bc.s.at (m : Int)).color, .lit (.int .u8 0)] := rfl
       rw [hcell] at hset
       simp only [cellA_eq] at hat
       have hs3 : SameN Bc.s (setE Bc.s m c) := by rw [hE1]; exact (SameN.refl H2.good).set _ _
       have hs4 := modS_same hs3.1 m
       have hmo := fun τ (hτ : Prg τ q r (setE Bc.s m c)) => modify_calls hτ (n := m) (by rw [hs3.n]; exact hm2)
       have hen : entS Bc.s m c = if c = 28 then tabS (modS (setE Bc.s m c) m) else afterS (modS (setE Bc.s m c) m) := rfl
       rw [hen] at hE
       clear hE1 hcell hen
       generalize Bc.s.at (m : Int) = cc at *
       generalize setE Bc.s m c = s3 at *
       generalize hs4e : modS s3 m = s4 at *
       simp only [byteA] at hat hset hkc
       try simp [hkc]
       refine callK.of hat ?_
       rintro v τ ⟨rfl, rfl⟩
       simp
       intro y hy
       have fy := kS_free H2 hy
       have hky : ¬ k = y := fun e => fy.k e.symm
       have H3 := fy.ok H2 [.lit (.int .u8 c.toNat), .lit (.bool cc.attr), .lit (.int .u8 cc.fa.toNat), .lit (.int .u8 cc.high.toNat), .lit (.int .u8 cc.color.toNat), .lit (.int .u8 0)]
       have hdy := fun x2 B2 => fy.drop (n := n) x2 B2 [.lit (.int .u8 c.toNat), .lit (.bool cc.attr), .lit (.int .u8 cc.fa.toNat), .lit (.int .u8 cc.high.toNat), .lit (.int .u8 cc.color.toNat), .lit (.int .u8 0)]
       simp [hky, hkc]
       simp only [kS_new fy]
       generalize σ1.upd y [.lit (.int .u8 c.toNat), .lit (.bool cc.attr), .lit (.int .u8 cc.fa.toNat), .lit (.int .u8 cc.high.toNat), .lit (.int .u8 cc.color.toNat), .lit (.int .u8 0)] = σ2 at *
       refine callK.of (hset _ (kS_prg H3 xc)) ?_
       rintro v τ ⟨rfl, rfl⟩
       rw [kS_put H3]
       have H4 : KOk σ2 k q r b n { Bc with s := s3 } := H3.s hs3.1
       have hk4 := kS_k' H4 xc
       simp only [byteA] at hk4
       simp [hk4]
       refine callK.of (hmo _ (kS_prg H4 xc)) ?_
       rintro v τ ⟨rfl, rfl⟩
       rw [kS_put H4]
       have H5 : KOk σ2 k q r b n { Bc with s := s4 } := H3.s hs4.1
       have hk5 := kS_k' H5 xc
       simp only [byteA] at hk5
       simp [hk5]
       by_cases h28 : c = 28
       ·have h28' : (c.toNat : Int) = 28 := by rw [h28]; rfl
        rw [if_pos h28] at hE
        simp [h28']
        refine callK.of (tab_calls (kS_prg H5 xc)) ?_
        rintro v τ ⟨rfl, rfl⟩
        rw [kS_put H5]
        simp [hE]
        exact ⟨_, AV.le_refl _, _, Store.sub_trans (hdr _ _) (hdy _ _), rfl, xc, nxc, rfl⟩
       ·have h28' : ¬ (c.toNat : Int) = 28 := fun e => h28 (UInt8.toNat_inj.1 (show c.toNat = (28 : UInt8).toNat from (by have h9 : c.toNat = 28 := (by omega); simpa using h9)))
        rw [if_neg h28] at hE
        simp [h28']
        refine callK.of (after_calls (kS_prg H5 xc)) ?_
        rintro v τ ⟨rfl, rfl⟩
        rw [kS_put H5]
        simp [hE]
        exact ⟨_, AV.le_refl _, _, Store.sub_trans (hdr _ _) (hdy _ _), rfl, xc, nxc, rfl⟩
   ·rw [hfn] at hz1
    cases nb
    ·simp [hz1, hk1]
     refine callK.of hnu ?_
     rintro v τ ⟨rfl, xc, nx, rfl⟩
     have nxc := nx.of hmk
     simp
     refine callK.of (hrf _) ?_
     rintro v τ ⟨rfl, rfl⟩
     simp [hB (by simp [hfn]), refE]
     exact ⟨_, AV.le_refl _, _, hdr _ _, rfl, xc, nxc, rfl⟩
    ·simp [hz1, hk1]
     refine callK.of hnu ?_
     rintro v τ ⟨rfl, xc, nx, rfl⟩
     have nxc := nx.of hmk
     have hE := hC (by simp)
     simp
     clear hnu hrf hk1 hop hzv hz1 hcu hfo
     have hkc0 := kS_k' h1 xc
     simp only [byteA] at hkc0
     have hins := insert_calls (kS_prg h1 xc) hn c
     rw [kS_put h1] at hins
     have hss := insS_same h.good m c
     have hm3 : m < B.s.n := hn
     cases hi : B.ins
     ·rw [hi] at hkc0
      simp [hkc0]
      rw [if_neg (by simp [hi])] at hE
      obtain ⟨Bc, hBc⟩ : ∃ Bc, Bc = B := ⟨B, rfl⟩
      rw [← hBc] at hE h1 hn
      rw [← hBc]
      have H2 := h1
      have hm2 := hn
      clear hins hss
      have hP2 := kS_prg H2 xc
      have hkc := kS_k' H2 xc
      have hat := at_calls hP2 (m : Int)
      have hset := fun τ (hτ : Prg τ q r Bc.s) => set_calls hτ (m : Int) (cellE (Bc.s.at (m : Int)) c)
      have hE1 : setE Bc.s m c = Bc.s.set (m : Int) (cellE (Bc.s.at (m : Int)) c) := rfl
      rw [← hE1] at hset
      have hcell : cellA (cellE (Bc.s.at (m : Int)) c) = .agg [byteA c, .lit (.bool (Bc.s.at (m : Int)).attr), byteA (Bc.s.at (m : Int)).fa, byteA (Bc.s.at (m : Int)).high, byteA (Bc.s.at (m : Int)).color, .lit (.int .u8 0)] := rfl
      rw [hcell] at hset
      simp only [cellA_eq] at hat
      have hs3 : SameN Bc.s (setE Bc.s m c) := by rw [hE1]; exact (SameN.refl H2.good).set _ _
      have hs4 := modS_same hs3.1 m
      have hmo := fun τ (hτ : Prg τ q r (setE Bc.s m c)) => modify_calls hτ (n := m) (by rw [hs3.n]; exact hm2)
      have hen : entS Bc.s m c = if c = 28 then tabS (modS (setE Bc.s m c) m) else afterS (modS (setE Bc.s m c) m) := rfl
      rw [hen] at hE
      clear hE1 hcell hen
      generalize Bc.s.at (m : Int) = cc at *
      generalize setE Bc.s m c = s3 at *
      generalize hs4e : modS s3 m = s4 at *
      simp only [byteA] at hat hset hkc
      try simp [hkc]
      refine callK.of hat ?_
      rintro v τ ⟨rfl, rfl⟩
      simp
      intro y hy
      have fy := kS_free H2 hy
      have hky : ¬ k = y := fun e => fy.k e.symm
      have H3 := fy.ok H2 [.lit (.int .u8 c.toNat), .lit (.bool cc.attr), .lit (.int .u8 cc.fa.toNat), .lit (.int .u8 cc.high.toNat), .lit (.int .u8 cc.color.toNat), .lit (.int .u8 0)]
      have hdy := fun x2 B2 => fy.drop (n := n) x2 B2 [.lit (.int .u8 c.toNat), .lit (.bool cc.attr), .lit (.int .u8 cc.fa.toNat), .lit (.int .u8 cc.high.toNat), .lit (.int .u8 cc.color.toNat), .lit (.int .u8 0)]
      simp [hky, hkc]
      simp only [kS_new fy]
      generalize σ1.upd y [.lit (.int .u8 c.toNat), .lit (.bool cc.attr), .lit (.int .u8 cc.fa.toNat), .lit (.int .u8 cc.high.toNat), .lit (.int .u8 cc.color.toNat), .lit (.int .u8 0)] = σ2 at *
      refine callK.of (hset _ (kS_prg H3 xc)) ?_
      rintro v τ ⟨rfl, rfl⟩
      rw [kS_put H3]
      have H4 : KOk σ2 k q r b n { Bc with s := s3 } := H3.s hs3.1
      have hk4 := kS_k' H4 xc
      simp only [byteA] at hk4
      simp [hk4]
      refine callK.of (hmo _ (kS_prg H4 xc)) ?_
      rintro v τ ⟨rfl, rfl⟩
      rw [kS_put H4]
      have H5 : KOk σ2 k q r b n { Bc with s := s4 } := H3.s hs4.1
      have hk5 := kS_k' H5 xc
      simp only [byteA] at hk5
      simp [hk5]
      by_cases h28 : c = 28
      ·have h28' : (c.toNat : Int) = 28 := by rw [h28]; rfl
       rw [if_pos h28] at hE
       simp [h28']
       refine callK.of (tab_calls (kS_prg H5 xc)) ?_
       rintro v τ ⟨rfl, rfl⟩
       rw [kS_put H5]
       simp [hE]
       exact ⟨_, AV.le_refl _, _, Store.sub_trans (hdr _ _) (hdy _ _), rfl, xc, nxc, rfl⟩
      ·have h28' : ¬ (c.toNat : Int) = 28 := fun e => h28 (UInt8.toNat_inj.1 (show c.toNat = (28 : UInt8).toNat from (by have h9 : c.toNat = 28 := (by omega); simpa using h9)))
       rw [if_neg h28] at hE
       simp [h28']
       refine callK.of (after_calls (kS_prg H5 xc)) ?_
       rintro v τ ⟨rfl, rfl⟩
       rw [kS_put H5]
       simp [hE]
       exact ⟨_, AV.le_refl _, _, Store.sub_trans (hdr _ _) (hdy _ _), rfl, xc, nxc, rfl⟩
     ·rw [hi] at hkc0
      by_cases h28 : c = 28
      ·have h28' : (c.toNat : Int) = 28 := by rw [h28]; rfl
       simp [hkc0, h28']
       rw [if_neg (by simp [hi, h28])] at hE
       obtain ⟨Bc, hBc⟩ : ∃ Bc, Bc = B := ⟨B, rfl⟩
       rw [← hBc] at hE h1 hn
       rw [← hBc]
       have H2 := h1
       have hm2 := hn
       clear hins hss
       have hP2 := kS_prg H2 xc
       have hkc := kS_k' H2 xc
       have hat := at_calls hP2 (m : Int)
       have hset := fun τ (hτ : Prg τ q r Bc.s) => set_calls hτ (m : Int) (cellE (Bc.s.at (m : Int)) c)
       have hE1 : setE Bc.s m c = Bc.s.set (m : Int) (cellE (Bc.s.at (m : Int)) c) := rfl
       rw [← hE1] at hset
       have hcell : cellA (cellE (Bc.s.at (m : Int)) c) = .agg [byteA c, .lit (.bool (Bc.s.at (m : Int)).attr), byteA (Bc.s.at (m : Int)).fa, byteA (Bc.s.at (m : Int)).high, byteA (Bc.s.at (m : Int)).color, .lit (.int .u8 0)] := rfl
       rw [hcell] at hset
       simp only [cellA_eq] at hat
       have hs3 : SameN Bc.s (setE Bc.s m c) := by rw [hE1]; exact (SameN.refl H2.good).set _ _
       have hs4 := modS_same hs3.1 m
       have hmo := fun τ (hτ : Prg τ q r (setE Bc.s m c)) => modify_calls hτ (n := m) (by rw [hs3.n]; exact hm2)
       have hen : entS Bc.s m c = if c = 28 then tabS (modS (setE Bc.s m c) m) else afterS (modS (setE Bc.s m c) m) := rfl
       rw [hen] at hE
       clear hE1 hcell hen
       generalize Bc.s.at (m : Int) = cc at *
       generalize setE Bc.s m c = s3 at *
       generalize hs4e : modS s3 m = s4 at *
       simp only [byteA] at hat hset hkc
       rw [h28'] at hset
       try simp [hkc]
       refine callK.of hat ?_
       rintro v τ ⟨rfl, rfl⟩
       simp
       intro y hy
       have fy := kS_free H2 hy
       have hky : ¬ k = y := fun e => fy.k e.symm
       have H3 := fy.ok H2 [.lit (.int .u8 28), .lit (.bool cc.attr), .lit (.int .u8 cc.fa.toNat), .lit (.int .u8 cc.high.toNat), .lit (.int .u8 cc.color.toNat), .lit (.int .u8 0)]
       have hdy := fun x2 B2 => fy.drop (n := n) x2 B2 [.lit (.int .u8 28), .lit (.bool cc.attr), .lit (.int .u8 cc.fa.toNat), .lit (.int .u8 cc.high.toNat), .lit (.int .u8 cc.color.toNat), .lit (.int .u8 0)]
       simp [hky, hkc]
       simp only [kS_new fy]
       generalize σ1.upd y [.lit (.int .u8 28), .lit (.bool cc.attr), .lit (.int .u8 cc.fa.toNat), .lit (.int .u8 cc.high.toNat), .lit (.int .u8 cc.color.toNat), .lit (.int .u8 0)] = σ2 at *
       refine callK.of (hset _ (kS_prg H3 xc)) ?_
       rintro v τ ⟨rfl, rfl⟩
       rw [kS_put H3]
       have H4 : KOk σ2 k q r b n { Bc with s := s3 } := H3.s hs3.1
       have hk4 := kS_k' H4 xc
       simp only [byteA] at hk4
       simp [hk4]
       refine callK.of (hmo _ (kS_prg H4 xc)) ?_
       rintro v τ ⟨rfl, rfl⟩
       rw [kS_put H4]
       have H5 : KOk σ2 k q r b n { Bc with s := s4 } := H3.s hs4.1
       have hk5 := kS_k' H5 xc
       simp only [byteA] at hk5
       simp [hk5]
       have h28' : (c.toNat : Int) = 28 := by rw [h28]; rfl
       rw [if_pos h28] at hE
       refine callK.of (tab_calls (kS_prg H5 xc)) ?_
       rintro v τ ⟨rfl, rfl⟩
       rw [kS_put H5]
       simp [hE]
       exact ⟨_, AV.le_refl _, _, Store.sub_trans (hdr _ _) (hdy _ _), rfl, xc, nxc, rfl⟩
      ·have h28' : ¬ (c.toNat : Int) = 28 := fun e => h28 (UInt8.toNat_inj.1 (show c.toNat = (28 : UInt8).toNat from (by have h9 : c.toNat = 28 := (by omega); simpa using h9)))
       simp [hkc0, h28']
       rw [if_pos (by simp [hi, h28])] at hE
       simp only [byteA] at hins
       refine callK.of hins ?_
       rintro v τ ⟨rfl, rfl⟩
       cases hi2 : (insS B.s m c).2
       ·rw [hi2, if_pos rfl] at hE
        have hff : (insS B.s m c).1 = B.s := by
         unfold insS at hi2 ⊢
         split
         ·rename_i h9; rw [if_pos h9] at hi2; cases hi2
         ·rfl
        rw [hff]
        simp
        refine callK.of (refuse_calls h1 xc 4 (.inr (.inr rfl))) ?_
        rintro v τ ⟨rfl, rfl⟩
        simp [hE, refE]
        exact ⟨_, AV.le_refl _, _, hdr _ _, rfl, xc, nxc, rfl⟩
       ·rw [hi2, if_neg (by simp)] at hE
        simp
        have H2 : KOk σ1 k q r b n { B with s := (insS B.s m c).1 } := h1.s hss.1
        have hm2 : m < (insS B.s m c).1.n := by rw [hss.n]; exact hn
        generalize (insS B.s m c).1 = s2 at *
        obtain ⟨Bc, hBc⟩ : ∃ Bc : Bd, Bc = { B with s := s2 } := ⟨_, rfl⟩
        have hBs : Bc.s = s2 := by rw [hBc]
        have hE : enterB n B c = ({ Bc with s := entS Bc.s m c }, 0) := by rw [hE, hBs, hBc]
        rw [← hBc] at H2
        rw [← hBs] at hm2
        rw [← hBc]
        have hP2 := kS_prg H2 xc
        have hkc := kS_k' H2 xc
        have hat := at_calls hP2 (m : Int)
        have hset := fun τ (hτ : Prg τ q r Bc.s) => set_calls hτ (m : Int) (cellE (Bc.s.at (m : Int)) c)
        have hE1 : setE Bc.s m c = Bc.s.set (m : Int) (cellE (Bc.s.at (m : Int)) c) := rfl
        rw [← hE1] at hset
        have hcell : cellA (cellE (Bc.s.at (m : Int)) c) = .agg [byteA c, .lit (.bool (Bc.s.at (m : Int)).attr), byteA (Bc.s.at (m : Int)).fa, byteA (Bc.s.at (m : Int)).high, byteA (Bc.s.at (m : Int)).color, .lit (.int .u8 0)] := rfl
        rw [hcell] at hset
        simp only [cellA_eq] at hat
        have hs3 : SameN Bc.s (setE Bc.s m c) := by rw [hE1]; exact (SameN.refl H2.good).set _ _
        have hs4 := modS_same hs3.1 m
        have hmo := fun τ (hτ : Prg τ q r (setE Bc.s m c)) => modify_calls hτ (n := m) (by rw [hs3.n]; exact hm2)
        have hen : entS Bc.s m c = if c = 28 then tabS (modS (setE Bc.s m c) m) else afterS (modS (setE Bc.s m c) m) := rfl
        rw [hen] at hE
        clear hE1 hcell hen
        generalize Bc.s.at (m : Int) = cc at *
        generalize setE Bc.s m c = s3 at *
        generalize hs4e : modS s3 m = s4 at *
        simp only [byteA] at hat hset hkc
        try simp [hkc]
        refine callK.of hat ?_
        rintro v τ ⟨rfl, rfl⟩
        simp
        intro y hy
        have fy := kS_free H2 hy
        have hky : ¬ k = y := fun e => fy.k e.symm
        have H3 := fy.ok H2 [.lit (.int .u8 c.toNat), .lit (.bool cc.attr), .lit (.int .u8 cc.fa.toNat), .lit (.int .u8 cc.high.toNat), .lit (.int .u8 cc.color.toNat), .lit (.int .u8 0)]
        have hdy := fun x2 B2 => fy.drop (n := n) x2 B2 [.lit (.int .u8 c.toNat), .lit (.bool cc.attr), .lit (.int .u8 cc.fa.toNat), .lit (.int .u8 cc.high.toNat), .lit (.int .u8 cc.color.toNat), .lit (.int .u8 0)]
        simp [hky, hkc]
        simp only [kS_new fy]
        generalize σ1.upd y [.lit (.int .u8 c.toNat), .lit (.bool cc.attr), .lit (.int .u8 cc.fa.toNat), .lit (.int .u8 cc.high.toNat), .lit (.int .u8 cc.color.toNat), .lit (.int .u8 0)] = σ2 at *
        refine callK.of (hset _ (kS_prg H3 xc)) ?_
        rintro v τ ⟨rfl, rfl⟩
        rw [kS_put H3]
        have H4 : KOk σ2 k q r b n { Bc with s := s3 } := H3.s hs3.1
        have hk4 := kS_k' H4 xc
        simp only [byteA] at hk4
        simp [hk4]
        refine callK.of (hmo _ (kS_prg H4 xc)) ?_
        rintro v τ ⟨rfl, rfl⟩
        rw [kS_put H4]
        have H5 : KOk σ2 k q r b n { Bc with s := s4 } := H3.s hs4.1
        have hk5 := kS_k' H5 xc
        simp only [byteA] at hk5
        simp [hk5]
        by_cases h28 : c = 28
        ·have h28' : (c.toNat : Int) = 28 := by rw [h28]; rfl
         rw [if_pos h28] at hE
         simp [h28']
         refine callK.of (tab_calls (kS_prg H5 xc)) ?_
         rintro v τ ⟨rfl, rfl⟩
         rw [kS_put H5]
         simp [hE]
         exact ⟨_, AV.le_refl _, _, Store.sub_trans (hdr _ _) (hdy _ _), rfl, xc, nxc, rfl⟩
        ·have h28' : ¬ (c.toNat : Int) = 28 := fun e => h28 (UInt8.toNat_inj.1 (show c.toNat = (28 : UInt8).toNat from (by have h9 : c.toNat = 28 := (by omega); simpa using h9)))
         rw [if_neg h28] at hE
         simp [h28']
         refine callK.of (after_calls (kS_prg H5 xc)) ?_
         rintro v τ ⟨rfl, rfl⟩
         rw [kS_put H5]
         simp [hE]
         exact ⟨_, AV.le_refl _, _, Store.sub_trans (hdr _ _) (hdy _ _), rfl, xc, nxc, rfl⟩
end Go.Proofs.YtlmdbcgceijlnaaGreat
