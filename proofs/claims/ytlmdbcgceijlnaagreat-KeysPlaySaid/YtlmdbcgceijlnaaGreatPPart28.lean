/-
 The document's keyboard: a key is pressed.
-/
import Derived.Test.YtlmdbcgceijlnaaGreatPPart27
import Derived.Laws.RangeString
import Derived.Laws.RangeAny
set_option linter.unusedSimpArgs false
set_option linter.unusedVariables false
set_option maxRecDepth 8000
set_option maxHeartbeats 8000000

namespace Go.Proofs.YtlmdbcgceijlnaaGreat
open Go Go.AL Go.Sp
variable {σ : Store} {c x y : Nat} {n : Int} {D : Bd}
theorem dbS_bd (h : DOk σ c x y n D) (lock : Int) (ins : Bool) (aid : UInt8) : σ.upd c [ptrA x, .lit (.int .i64 n), .lit (.int .i64 lock), .lit (.bool ins), .lit (.int .u8 (aid.toNat : Int))] = dbS σ c x y n { D with lock := lock, ins := ins, aid := aid } := by
 unfold dbS rbdO; rw [h.ref.put_self]; rfl
theorem dbS_scr' (h : DOk σ c x y n D) {p : Nat} (hp : σ p = none) (s : Sp) : putS rfO σ x p s = dbS σ c x p n { D with s := s } := by
 have h1 : ¬ c = p := fun e => by have := h.obj; rw [e, hp] at this; cases this
 have hc := h.obj
 have hx := h.cx
 unfold dbS putS
 refine Store.ext2 (fun o => ?_) (fun i => by simp)
 simp only [supd_apply]
 by_cases e : o = c
 ·subst e; simp [hx, h1, hc]
 ·simp [e]
theorem DOk.row (h : DOk σ c x y n D) {p : Nat} (hp : σ p = none) {D2 : Bd} (hg : D2.s.good) : DOk (dbS σ c x p n D2) c x p n D2 := by
 have h1 : ¬ c = p := fun e => by have := h.obj; rw [e, hp] at this; cases this
 have h2 : ¬ x = p := fun e => by have := h.ref.obj; rw [e, hp] at this; cases this
 exact ⟨by simp [dbS], (Scr.of_put h2 hg).upd ⟨fun e => h.cx e.symm, fun e => h1 e.symm⟩ _, h.cx, h1⟩
theorem code_in {sg : Int} : ((codeIx n sg).isSome && dataB (codeU n sg)) = true ↔ 64 ≤ codeZ n sg ∧ codeZ n sg ≤ 254 := by
 have hu := codeU_nat n sg
 unfold codeZ dataB
 cases h : codeIx n sg with
 | none => simp
 | some j =>
  rw [h] at hu
  simp only [Option.getD_some] at hu
  rw [hu]
  simp
  omega
theorem code_pos2 {sg : Int} (h : 0 ≤ codeZ n sg) : codeZ n sg = ((codeU n sg).toNat : Int) := by
 unfold codeZ at h ⊢
 unfold codeU
 cases hx : codeIx n sg with
 | none => rw [hx] at h; simp at h
 | some j =>
  have hj := (codeIx_lt hx).1
  have hn : (UInt8.ofNat j).toNat = j := by simp; omega
  simp only [Option.getD_some]
  rw [hn]
theorem aid_pos {K : Key} {a : Nat} (h : aidN K = some a) : 0 < a := by
 have h1 : ∀ j ∈ pfT, 0 < j := by decide
 have h2 : ∀ j ∈ paT, 0 < j := by decide
 unfold aidN at h
 repeat' split at h
 ·cases h; omega
 ·cases h; omega
 ·exact h1 _ (List.mem_of_getElem? h)
 ·exact h2 _ (List.mem_of_getElem? h)
 ·cases h
def PrTo (σ : Store) (c x y : Nat) (n : Int) (B : Bd) (σ' : Store) : Prop := ∃ y' : Nat, (y' = y ∨ σ y' = none) ∧ σ' = dbS σ c x y' n B
theorem PrTo.same (σ : Store) (c x y : Nat) (n : Int) (B : Bd) : PrTo σ c x y n B (dbS σ c x y n B) := ⟨y, .inl rfl, rfl⟩
theorem rpress_calls (h : DOk σ c x y n D) (hn : isPage n) (K : Key) : ACalls Tryz.prog 21 [ptrA c, keyA K] σ fun v σ' => v = .tuple [.lit (.bool (pressB n D K).2.1), .lit (.int .i64 (pressB n D K).2.2)] ∧ PrTo σ c x y n (pressB n D K).1 σ' := by
 have haid := fun τ => raid_calls K τ
 obtain ⟨kind, sg, num⟩ := K
 simp only [keyA, keyC] at haid
 refine aw st21 pl21 181 Tryz.func21 rfl ?_
 have ho := h.obj
 have hx := h.ref.obj
 have hcn := h.ref.good.cursor
 unfold rbdO at ho
 unfold rfO at hx
 simp [keyA, keyC]
 intro z hz
 have zc : ¬ c = z := fun e => by subst e; rw [ho] at hz; cases hz
 have zc' : ¬ z = c := fun e => zc e.symm
 have f := h.ref.fresh hz
 have h1 : DOk (σ.upd z [.lit (.int .i64 kind), .lit (.int .i32 sg), .lit (.int .i64 num)]) c x y n D := ⟨by simp [zc, h.obj], h.ref.new hz _, h.cx, h.cy⟩
 have hdr : ∀ (p : Nat) (D2 : Bd), ¬ z = p → Store.sub (dbS σ c x p n D2) (dbS (σ.upd z [.lit (.int .i64 kind), .lit (.int .i32 sg), .lit (.int .i64 num)]) c x p n D2) := fun p D2 hp => by
  have e : dbS (σ.upd z [.lit (.int .i64 kind), .lit (.int .i32 sg), .lit (.int .i64 num)]) c x p n D2 = (dbS σ c x p n D2).upd z [.lit (.int .i64 kind), .lit (.int .i32 sg), .lit (.int .i64 num)] := by
   unfold dbS
   rw [putS_upd _ _ f.2.2.1 hp, supd_swap _ zc]
  rw [e]
  refine Store.sub_upd ?_ (Store.sub_refl _)
  simp [dbS, putS, zc', f.2.2.1, hp, hz]
 have hdry := fun D2 => hdr y D2 f.2.2.2
 have hz1 : (σ.upd z [.lit (.int .i64 kind), .lit (.int .i32 sg), .lit (.int .i64 num)]) z = some [.lit (.int .i64 kind), .lit (.int .i32 sg), .lit (.int .i64 num)] := by simp
 have hfr : ∀ o : Nat, ¬ o = z → (σ.upd z [.lit (.int .i64 kind), .lit (.int .i32 sg), .lit (.int .i64 num)]) o = σ o := fun o ho => by simp [ho]
 have hfin : ∀ P : Bd × Bool × Int, PrTo σ c x y n P.1 (dbS σ c x y n P.1) := fun P => PrTo.same σ c x y n P.1
 generalize σ.upd z [.lit (.int .i64 kind), .lit (.int .i32 sg), .lit (.int .i64 num)] = σ1 at *
 have hob := h1.obj
 have hob2 := h1.ref.obj
 have hself := h1.self
 have hg1 := h1.ref.good
 unfold rbdO at hob
 unfold rfO at hob2
 have z1 : True := trivial
 simp only [byteA] at hob
 have hscr := fun s => dbS_scr h1 s
 have hbd := fun l i a => dbS_bd h1 l i a
 by_cases c1 : kind < 1 ∨ 22 < kind
 ·have hE : pressB n D ⟨kind, sg, num⟩ = (D, false, 1) := by unfold pressB; rw [if_pos c1]
  have hd := hdry D
  rw [hself] at hd
  rw [hE]
  by_cases c2 : kind < 1
  ·have c3 : ¬ 1 ≤ kind := by omega
   simp [zc, ho, hob, hz1, c2, c3]
   exact ⟨_, AV.le_refl _, _, hd, rfl, hfin (D, false, 1)⟩
  ·have c3 : 1 ≤ kind := by omega
   have c4 : 22 < kind := by omega
   simp [zc, ho, hob, hz1, c2, c3, c4]
   exact ⟨_, AV.le_refl _, _, hd, rfl, hfin (D, false, 1)⟩
 have c2 : ¬ kind < 1 := by omega
 have c3 : ¬ 22 < kind := by omega
 by_cases e17 : kind = 17
 ·subst e17
  have hE : pressB n D ⟨17, sg, num⟩ = (resetB D, false, 0) := by unfold pressB; simp
  rw [hE]
  by_cases hl : D.lock = 1
  ·have hr : resetB D = { D with lock := 1, ins := false, aid := D.aid } := by unfold resetB; rw [if_pos hl]
   have hb := hbd 1 false D.aid
   rw [← hr] at hb
   simp [zc, ho, hob, hz1, hl]
   rw [hb]
   exact ⟨_, AV.le_refl _, _, hdry _, rfl, hfin (resetB D, false, 0)⟩
  ·have hr : resetB D = { D with lock := 0, ins := false, aid := D.aid } := by unfold resetB; rw [if_neg hl]
   have hl' : ¬ (1 : Int) = D.lock := fun e => hl e.symm
   have hlb : (D.lock == 1) = false := by simpa using hl
   have hb := hbd 0 false D.aid
   rw [← hr] at hb
   simp [zc, ho, hob, hz1, hl, hlb]
   rw [hb]
   exact ⟨_, AV.le_refl _, _, hdry _, rfl, hfin (resetB D, false, 0)⟩
 by_cases hl : D.lock = 0
 case neg =>
  have hE : pressB n D ⟨kind, sg, num⟩ = (D, false, 8) := by unfold pressB; simp [c2, c3, e17, hl]
  have hl' : ¬ (0 : Int) = D.lock := fun e => hl e.symm
  have hd := hdry D
  rw [hself] at hd
  rw [hE]
  have c2' : 1 ≤ kind := by omega
  have c3' : kind ≤ 22 := by omega
  simp [zc, ho, hob, hz1, hl, c2, c3, c2', c3', e17]
  exact ⟨_, AV.le_refl _, _, hd, rfl, hfin (D, false, 8)⟩
 rw [hl] at hob
 have hch := rchoose_calls h1 hn
 have hcd := rcode_calls n hn sg σ1
 have hent := fun b => renter_calls h1 hn b
 have hkk : kind = 1 ∨ kind = 2 ∨ kind = 3 ∨ kind = 4 ∨ kind = 5 ∨ kind = 6 ∨ kind = 7 ∨ kind = 8 ∨ kind = 9 ∨ kind = 10 ∨ kind = 11 ∨ kind = 12 ∨ kind = 13 ∨ kind = 14 ∨ kind = 15 ∨ kind = 16 ∨ kind = 18 ∨ kind = 19 ∨ kind = 20 ∨ kind = 21 ∨ kind = 22 := by omega
 simp only [byteA] at hent
 rcases hkk with rfl | rfl | rfl | rfl | rfl | rfl | rfl | rfl | rfl | rfl | rfl | rfl | rfl | rfl | rfl | rfl | rfl | rfl | rfl | rfl | rfl
 ·have hE0 : pressB n D ⟨1, sg, num⟩ = ((charB n D sg).1, false, (charB n D sg).2) := by unfold pressB; simp [hl, aidN, movK, enteredB]
  have hin := code_in (n := n) (sg := sg)
  unfold charB at hE0
  have hent1 := hent (codeU n sg)
  have hcp := fun (h0 : 0 ≤ codeZ n sg) => code_pos2 (n := n) (sg := sg) h0
  have hul := (codeU n sg).toNat_lt
  generalize codeU n sg = cu at *
  generalize (codeIx n sg).isSome = so at *
  generalize codeZ n sg = cz at *
  by_cases hc : (so && dataB cu) = true
  ·have hE : pressB n D ⟨1, sg, num⟩ = ((enterB n D cu).1, false, (enterB n D cu).2) := by rw [hE0, if_pos hc]
   obtain ⟨g1, g2⟩ := hin.1 hc
   have g1' : ¬ cz < 64 := by omega
   have g2' : ¬ 254 < cz := by omega
   have hcv := hcp (by omega)
   have hwu : IntKind.u8.wrap cz = (cu.toNat : Int) := by rw [hcv]; exact wrap_u8 (by omega) (by omega)
   rw [hE]
   simp [zc, ho, hob, hob2, hz1]
   refine callK.eq hcd ?_
   simp [g1, g1', g2, g2', hwu]
   refine callK.eq hent1 ?_
   simp
   exact ⟨_, AV.le_refl _, _, hdry _, rfl, hfin ((enterB n D cu).1, false, (enterB n D cu).2)⟩
  ·have hE : pressB n D ⟨1, sg, num⟩ = (D, false, 12) := by rw [hE0, if_neg hc]
   have hd := hdry D
   rw [hself] at hd
   rw [hE]
   simp [zc, ho, hob, hob2, hz1]
   refine callK.eq hcd ?_
   by_cases g1 : cz < 64
   ·simp [g1]
    exact ⟨_, AV.le_refl _, _, hd, rfl, hfin (D, false, 12)⟩
   ·have g2 : 254 < cz := by
     rcases Int.lt_or_le 254 cz with e | e
     ·exact e
     ·exact absurd (hin.2 ⟨by omega, e⟩) hc
    have g3 : 64 ≤ cz := by omega
    simp [g1, g2, g3]
    exact ⟨_, AV.le_refl _, _, hd, rfl, hfin (D, false, 12)⟩
 ·by_cases hc : 64 ≤ num ∧ num ≤ 254
  ·obtain ⟨g1, g2⟩ := hc
   have g1' : ¬ num < 64 := by omega
   have g2' : ¬ 254 < num := by omega
   obtain ⟨cu, hcu⟩ : ∃ cu : UInt8, cu = UInt8.ofNat num.toNat := ⟨_, rfl⟩
   have hcn2 : (cu.toNat : Int) = num := by rw [hcu]; simp; omega
   have hdb : dataB cu = true := by unfold dataB; simp; omega
   have hE : pressB n D ⟨2, sg, num⟩ = ((enterB n D cu).1, false, (enterB n D cu).2) := by
    have e : enteredB n D ⟨2, sg, num⟩ = enterB n D cu := by
     unfold enteredB
     simp only []
     rw [if_neg (by decide), if_pos trivial, ← hcu, if_pos ⟨by omega, by omega, hdb⟩]
    unfold pressB
    rw [e]
    simp [hl, aidN, movK]
   rw [hE]
   have hwu : IntKind.u8.wrap num = (cu.toNat : Int) := by rw [← hcn2]; exact wrap_u8 (by omega) (by have := cu.toNat_lt; omega)
   simp [zc, ho, hob, hob2, hz1, g1, g1', g2, g2', hwu]
   refine callK.eq (hent cu) ?_
   simp
   exact ⟨_, AV.le_refl _, _, hdry _, rfl, hfin ((enterB n D cu).1, false, (enterB n D cu).2)⟩
  ·have hE : pressB n D ⟨2, sg, num⟩ = (D, false, 1) := by
    have e : enteredB n D ⟨2, sg, num⟩ = (D, 1) := by
     unfold enteredB
     simp only []
     rw [if_neg (by decide), if_pos trivial, if_neg]
     rintro ⟨a1, a2, a3⟩
     unfold dataB at a3
     simp at a3
     have : (UInt8.ofNat num.toNat).toNat = num.toNat := by simp; omega
     omega
    unfold pressB
    rw [e]
    simp [hl, aidN, movK]
   have hd := hdry D
   rw [hself] at hd
   rw [hE]
   by_cases g1 : num < 64
   ·simp [zc, ho, hob, hob2, hz1, g1]
    exact ⟨_, AV.le_refl _, _, hd, rfl, hfin (D, false, 1)⟩
   ·have g2 : 254 < num := by omega
    have g3 : 64 ≤ num := by omega
    simp [zc, ho, hob, hob2, hz1, g1, g2, g3]
    exact ⟨_, AV.le_refl _, _, hd, rfl, hfin (D, false, 1)⟩
 ·have hE : pressB n D ⟨3, sg, num⟩ = ((enterB n D 28).1, false, (enterB n D 28).2) := by unfold pressB; simp [hl, aidN, movK, enteredB]
  rw [hE]
  have hent1 := hent 28
  have eb : (((28 : UInt8).toNat : Nat) : Int) = 28 := rfl
  rw [eb] at hent1
  simp [zc, ho, hob, hob2, hz1]
  refine callK.eq hent1 ?_
  simp
  exact ⟨_, AV.le_refl _, _, hdry _, rfl, hfin ((enterB n D 28).1, false, (enterB n D 28).2)⟩
 ·have hE : pressB n D ⟨4, sg, num⟩ = ((enterB n D 30).1, false, (enterB n D 30).2) := by unfold pressB; simp [hl, aidN, movK, enteredB]
  rw [hE]
  have hent1 := hent 30
  have eb : (((30 : UInt8).toNat : Nat) : Int) = 30 := rfl
  rw [eb] at hent1
  simp [zc, ho, hob, hob2, hz1]
  refine callK.eq hent1 ?_
  simp
  exact ⟨_, AV.le_refl _, _, hdry _, rfl, hfin ((enterB n D 30).1, false, (enterB n D 30).2)⟩
 ·have hE : pressB n D ⟨5, sg, num⟩ = ({ D with s := tabS D.s }, false, 0) := by unfold pressB; simp [hl, aidN, movK, enteredB]
  rw [hE]
  have hdo : ACalls Tryz.prog 60 [ptrA x, .agg [.lit (.int .u8 0), .lit (.int .i64 0), .lit (.int .i64 0)]] σ1 (fun v σ' => v = .tuple [] ∧ σ' = putS rfO σ1 x y (tabS D.s)) := rdo_tab h1.ref 0 0 false
  rw [hscr] at hdo
  generalize tabS D.s = S2 at *
  simp [zc, ho, hob, hob2, hz1]
  refine callK.eq hdo ?_
  simp
  exact ⟨_, AV.le_refl _, _, hdry _, rfl, hfin ({ D with s := S2 }, false, 0)⟩
 ·have hE : pressB n D ⟨6, sg, num⟩ = ({ D with s := btabS D.s }, false, 0) := by unfold pressB; simp [hl, aidN, movK, enteredB]
  rw [hE]
  have hdo : ACalls Tryz.prog 60 [ptrA x, .agg [.lit (.int .u8 1), .lit (.int .i64 0), .lit (.int .i64 0)]] σ1 (fun v σ' => v = .tuple [] ∧ σ' = putS rfO σ1 x y (btabS D.s)) := rdo_tab h1.ref 0 0 true
  rw [hscr] at hdo
  generalize btabS D.s = S2 at *
  simp [zc, ho, hob, hob2, hz1]
  refine callK.eq hdo ?_
  simp
  exact ⟨_, AV.le_refl _, _, hdry _, rfl, hfin ({ D with s := S2 }, false, 0)⟩
 ·have hE : pressB n D ⟨7, sg, num⟩ = ({ D with s := newlineS D.s }, false, 0) := by unfold pressB; simp [hl, aidN, movK, enteredB]
  rw [hE]
  have hdo : ACalls Tryz.prog 60 [ptrA x, .agg [.lit (.int .u8 2), .lit (.int .i64 0), .lit (.int .i64 0)]] σ1 (fun v σ' => v = .tuple [] ∧ σ' = putS rfO σ1 x y (newlineS D.s)) := rdo_newline h1.ref 0 0
  rw [hscr] at hdo
  generalize newlineS D.s = S2 at *
  simp [zc, ho, hob, hob2, hz1]
  refine callK.eq hdo ?_
  simp
  exact ⟨_, AV.le_refl _, _, hdry _, rfl, hfin ({ D with s := S2 }, false, 0)⟩
 ·have hE : pressB n D ⟨8, sg, num⟩ = ({ D with s := homeS D.s }, false, 0) := by unfold pressB; simp [hl, aidN, movK, enteredB]
  rw [hE]
  have hdo : ACalls Tryz.prog 60 [ptrA x, .agg [.lit (.int .u8 3), .lit (.int .i64 0), .lit (.int .i64 0)]] σ1 (fun v σ' => v = .tuple [] ∧ σ' = putS rfO σ1 x y (homeS D.s)) := rdo_home h1.ref 0 0
  rw [hscr] at hdo
  generalize homeS D.s = S2 at *
  simp [zc, ho, hob, hob2, hz1]
  refine callK.eq hdo ?_
  simp
  exact ⟨_, AV.le_refl _, _, hdry _, rfl, hfin ({ D with s := S2 }, false, 0)⟩
 ·have hE : pressB n D ⟨9, sg, num⟩ = ({ D with s := moveS D.s (-1) 0 }, false, 0) := by unfold pressB; simp [hl, aidN, movK, enteredB]
  rw [hE]
  have hdo : ACalls Tryz.prog 60 [ptrA x, .agg [.lit (.int .u8 4), .lit (.int .i64 (-1)), .lit (.int .i64 0)]] σ1 (fun v σ' => v = .tuple [] ∧ σ' = putS rfO σ1 x y (moveS D.s (-1) 0)) := rdo_move h1.ref (-1) 0
  rw [hscr] at hdo
  generalize moveS D.s (-1) 0 = S2 at *
  simp [zc, ho, hob, hob2, hz1]
  refine callK.eq hdo ?_
  simp
  exact ⟨_, AV.le_refl _, _, hdry _, rfl, hfin ({ D with s := S2 }, false, 0)⟩
 ·have hE : pressB n D ⟨10, sg, num⟩ = ({ D with s := moveS D.s 1 0 }, false, 0) := by unfold pressB; simp [hl, aidN, movK, enteredB]
  rw [hE]
  have hdo : ACalls Tryz.prog 60 [ptrA x, .agg [.lit (.int .u8 4), .lit (.int .i64 1), .lit (.int .i64 0)]] σ1 (fun v σ' => v = .tuple [] ∧ σ' = putS rfO σ1 x y (moveS D.s 1 0)) := rdo_move h1.ref 1 0
  rw [hscr] at hdo
  generalize moveS D.s 1 0 = S2 at *
  simp [zc, ho, hob, hob2, hz1]
  refine callK.eq hdo ?_
  simp
  exact ⟨_, AV.le_refl _, _, hdry _, rfl, hfin ({ D with s := S2 }, false, 0)⟩
 ·have hE : pressB n D ⟨11, sg, num⟩ = ({ D with s := moveS D.s 0 (-1) }, false, 0) := by unfold pressB; simp [hl, aidN, movK, enteredB]
  rw [hE]
  have hdo : ACalls Tryz.prog 60 [ptrA x, .agg [.lit (.int .u8 4), .lit (.int .i64 0), .lit (.int .i64 (-1))]] σ1 (fun v σ' => v = .tuple [] ∧ σ' = putS rfO σ1 x y (moveS D.s 0 (-1))) := rdo_move h1.ref 0 (-1)
  rw [hscr] at hdo
  generalize moveS D.s 0 (-1) = S2 at *
  simp [zc, ho, hob, hob2, hz1]
  refine callK.eq hdo ?_
  simp
  exact ⟨_, AV.le_refl _, _, hdry _, rfl, hfin ({ D with s := S2 }, false, 0)⟩
 ·have hE : pressB n D ⟨12, sg, num⟩ = ({ D with s := moveS D.s 0 1 }, false, 0) := by unfold pressB; simp [hl, aidN, movK, enteredB]
  rw [hE]
  have hdo : ACalls Tryz.prog 60 [ptrA x, .agg [.lit (.int .u8 4), .lit (.int .i64 0), .lit (.int .i64 1)]] σ1 (fun v σ' => v = .tuple [] ∧ σ' = putS rfO σ1 x y (moveS D.s 0 1)) := rdo_move h1.ref 0 1
  rw [hscr] at hdo
  generalize moveS D.s 0 1 = S2 at *
  simp [zc, ho, hob, hob2, hz1]
  refine callK.eq hdo ?_
  simp
  exact ⟨_, AV.le_refl _, _, hdry _, rfl, hfin ({ D with s := S2 }, false, 0)⟩
 ·have hE : pressB n D ⟨13, sg, num⟩ = if openS D.s D.s.cursor = true then ({ D with s := delS D.s D.s.cursor }, false, 0) else ({ D with lock := 2 }, false, 13) := by
   unfold pressB
   cases hop0 : openS D.s D.s.cursor <;> simp [hl, aidN, movK, enteredB, hop0]
  rw [hE]
  have hdo := rdelete_calls h1.ref hcn
  have hrf := rrefuse_calls h1 2 13
  rw [hscr] at hdo
  have hcl : openS D.s D.s.cursor = false → delS D.s D.s.cursor = D.s := fun e => by unfold delS; rw [if_neg (by simp [e])]
  cases hop : openS D.s D.s.cursor
  ·rw [hop, hcl hop, hself] at hdo
   rw [if_neg Bool.false_ne_true]
   simp [zc, ho, hob, hob2, hz1]
   refine callK.eq hdo ?_
   simp
   refine callK.eq hrf ?_
   simp
   exact ⟨_, AV.le_refl _, _, hdry _, rfl, hfin ({ D with lock := 2 }, false, 13)⟩
  ·rw [hop] at hdo
   rw [if_pos rfl]
   generalize delS D.s D.s.cursor = S2 at *
   simp [zc, ho, hob, hob2, hz1]
   refine callK.eq hdo ?_
   simp
   exact ⟨_, AV.le_refl _, _, hdry _, rfl, hfin ({ D with s := S2 }, false, 0)⟩
 ·have hE : pressB n D ⟨14, sg, num⟩ = if openS D.s D.s.cursor = true then ({ D with s := endS D.s D.s.cursor }, false, 0) else ({ D with lock := 2 }, false, 13) := by
   unfold pressB
   cases hop0 : openS D.s D.s.cursor <;> simp [hl, aidN, movK, enteredB, hop0]
  rw [hE]
  have hdo := rend_calls h1.ref hcn
  have hrf := rrefuse_calls h1 2 13
  rw [hscr] at hdo
  have hcl : openS D.s D.s.cursor = false → endS D.s D.s.cursor = D.s := fun e => by unfold endS; rw [if_neg (by simp [e])]
  cases hop : openS D.s D.s.cursor
  ·rw [hop, hcl hop, hself] at hdo
   rw [if_neg Bool.false_ne_true]
   simp [zc, ho, hob, hob2, hz1]
   refine callK.eq hdo ?_
   simp
   refine callK.eq hrf ?_
   simp
   exact ⟨_, AV.le_refl _, _, hdry _, rfl, hfin ({ D with lock := 2 }, false, 13)⟩
  ·rw [hop] at hdo
   rw [if_pos rfl]
   generalize endS D.s D.s.cursor = S2 at *
   simp [zc, ho, hob, hob2, hz1]
   refine callK.eq hdo ?_
   simp
   exact ⟨_, AV.le_refl _, _, hdry _, rfl, hfin ({ D with s := S2 }, false, 0)⟩
 ·have hE : pressB n D ⟨15, sg, num⟩ = ({ D with s := unprotS D.s }, false, 0) := by unfold pressB; simp [hl, aidN, movK, enteredB]
  rw [hE]
  have hdo := runprot_calls h1.ref
  rw [hscr] at hdo
  generalize unprotS D.s = S2 at *
  simp [zc, ho, hob, hob2, hz1]
  refine callK.eq hdo ?_
  simp
  exact ⟨_, AV.le_refl _, _, hdry _, rfl, hfin ({ D with s := S2 }, false, 0)⟩
 ·have hE : pressB n D ⟨16, sg, num⟩ = ({ D with ins := !D.ins }, false, 0) := by unfold pressB; simp [hl, aidN, movK, enteredB]
  rw [hE]
  have hb := hbd 0 (!D.ins) D.aid
  have hde : ({ D with lock := 0, ins := !D.ins, aid := D.aid } : Bd) = { D with ins := !D.ins } := by rw [← hl]
  rw [hde] at hb
  generalize hdi : D.ins = di at *
  simp [zc, ho, hob, hob2, hz1]
  rw [hb]
  exact ⟨_, AV.le_refl _, _, hdry _, rfl, hfin ({ D with ins := !di }, false, 0)⟩
 ·have hE : pressB n D ⟨18, sg, num⟩ = chooseB n D := by unfold pressB; simp [hl, aidN, movK, enteredB]
  rw [hE]
  simp [zc, ho, hob, hob2, hz1]
  refine callK.eq hch ?_
  simp
  exact ⟨_, AV.le_refl _, _, hdry _, rfl, hfin (chooseB n D)⟩
 ·have hE : pressB n D ⟨19, sg, num⟩ = ({ s := D.s, lock := 1, ins := false, aid := 125 }, true, 0) := by unfold pressB; simp [hl, aidN, movK, enteredB]
  rw [hE]
  have ha1 : aidN ⟨19, sg, num⟩ = some 125 := by simp [aidN]
  rw [ha1] at haid
  have hsn := rsend_calls h1 125
  have eb : (((125 : UInt8).toNat : Nat) : Int) = 125 := rfl
  simp only [byteA, eb] at hsn
  simp [zc, ho, hob, hob2, hz1]
  refine callK.eq (haid _) ?_
  simp [hz1]
  refine callK.eq hsn ?_
  simp
  exact ⟨_, AV.le_refl _, _, hdry _, rfl, hfin ({ s := D.s, lock := 1, ins := false, aid := 125 }, true, 0)⟩
 ·cases hao : aidN ⟨20, sg, num⟩ with
  | none =>
   have hE : pressB n D ⟨20, sg, num⟩ = (D, false, 1) := by unfold pressB; rw [hao]; simp [hl]
   rw [hE]
   rw [hao] at haid
   have hd := hdry D
   rw [hself] at hd
   simp [zc, ho, hob, hob2, hz1]
   refine callK.eq (haid _) ?_
   simp
   exact ⟨_, AV.le_refl _, _, hd, rfl, hfin (D, false, 1)⟩
  | some a =>
   have hlt := aidN_lt hao
   have ha0 : ¬ a = 0 := by
    have := aid_pos hao
    omega
   have hE : pressB n D ⟨20, sg, num⟩ = ({ s := D.s, lock := 1, ins := false, aid := UInt8.ofNat a }, true, 0) := by unfold pressB; rw [hao]; simp [hl]
   rw [hE]
   rw [hao] at haid
   have hsn := rsend_calls h1 (UInt8.ofNat a)
   have eb : ((UInt8.ofNat a).toNat : Nat) = a := by simp; omega
   simp only [byteA, eb] at hsn
   have ha0' : ¬ (a : Int) = 0 := by omega
   simp [zc, ho, hob, hob2, hz1]
   refine callK.eq (haid _) ?_
   simp [ha0, ha0', hz1]
   refine callK.eq hsn ?_
   simp
   exact ⟨_, AV.le_refl _, _, hdry _, rfl, hfin ({ s := D.s, lock := 1, ins := false, aid := UInt8.ofNat a }, true, 0)⟩
 ·cases hao : aidN ⟨21, sg, num⟩ with
  | none =>
   have hE : pressB n D ⟨21, sg, num⟩ = (D, false, 1) := by unfold pressB; rw [hao]; simp [hl]
   rw [hE]
   rw [hao] at haid
   have hd := hdry D
   rw [hself] at hd
   simp [zc, ho, hob, hob2, hz1]
   refine callK.eq (haid _) ?_
   simp
   exact ⟨_, AV.le_refl _, _, hd, rfl, hfin (D, false, 1)⟩
  | some a =>
   have hlt := aidN_lt hao
   have ha0 : ¬ a = 0 := by
    have := aid_pos hao
    omega
   have hE : pressB n D ⟨21, sg, num⟩ = ({ s := D.s, lock := 1, ins := false, aid := UInt8.ofNat a }, true, 0) := by unfold pressB; rw [hao]; simp [hl]
   rw [hE]
   rw [hao] at haid
   have hsn := rsend_calls h1 (UInt8.ofNat a)
   have eb : ((UInt8.ofNat a).toNat : Nat) = a := by simp; omega
   simp only [byteA, eb] at hsn
   have ha0' : ¬ (a : Int) = 0 := by omega
   simp [zc, ho, hob, hob2, hz1]
   refine callK.eq (haid _) ?_
   simp [ha0, ha0', hz1]
   refine callK.eq hsn ?_
   simp
   exact ⟨_, AV.le_refl _, _, hdry _, rfl, hfin ({ s := D.s, lock := 1, ins := false, aid := UInt8.ofNat a }, true, 0)⟩
 ·have hE : pressB n D ⟨22, sg, num⟩ = ({ s := D.s.clear false, lock := 1, ins := false, aid := 109 }, true, 0) := by unfold pressB; simp [hl, aidN, movK, enteredB]
  rw [hE]
  have ha1 : aidN ⟨22, sg, num⟩ = some 109 := by simp [aidN]
  rw [ha1] at haid
  have hcl := rclear_calls false hg1.model hob2
  simp [zc, ho, hob, hob2, hz1]
  refine callK.eq (haid _) ?_
  simp [hz1]
  refine callK.of hcl ?_
  rintro v τ ⟨rfl, p, hp, eτ⟩
  rw [eτ]
  clear eτ τ
  have hpz : ¬ z = p := fun e => by subst e; rw [hz1] at hp; cases hp
  have hp0 : σ p = none := by rw [← hfr p (fun e => hpz e.symm)]; exact hp
  rw [dbS_scr' h1 hp]
  have hcg : (D.s.clear false).good := Sp.clear_good hg1.model false
  have h2 : DOk (dbS σ1 c x p n { D with s := D.s.clear false }) c x p n { D with s := D.s.clear false } := h1.row hp hcg
  have hsn := rsend_calls h2 109
  have eb : (((109 : UInt8).toNat : Nat) : Int) = 109 := rfl
  simp only [byteA, eb] at hsn
  rw [dbS_dbS] at hsn
  simp
  refine callK.eq hsn ?_
  simp
  exact ⟨_, AV.le_refl _, _, hdr p _ hpz, rfl, ⟨p, .inr hp0, rfl⟩⟩
end Go.Proofs.YtlmdbcgceijlnaaGreat
namespace Go.Proofs.YtlmdbcgceijlnaaGreat
open Go Go.AL Go.Sp
variable {σ : Store} {k q r b : Nat} {n : Int} {B : Bd}
theorem widthK_pos (s : ByteArray) (pos : Nat) (h : pos < s.size) : 1 ≤ (Utf8.decode s pos).2 := by
 by_cases ha : (s[pos]'h).toNat < 128
 ·rw [decode_ascii s pos h ha]
  exact Nat.le_refl _
 ·exact (decode_high s pos h (by omega)).2
def runeK (s : ByteArray) (pos : Nat) : Key := ⟨1, ((Utf8.decode s pos).1 : Nat), 0⟩
def typeF (n : Int) (s : ByteArray) : Nat → Nat → Int → Bd → Bd × Int × Int
 | 0, _, c, B => (B, c, 0)
 | f + 1, pos, c, B =>
  if pos < s.size then
   (if (pressB n B (runeK s pos)).2.2 = 0 then typeF n s f (pos + (Utf8.decode s pos).2) (c + 1) (pressB n B (runeK s pos)).1
    else ((pressB n B (runeK s pos)).1, c, (pressB n B (runeK s pos)).2.2))
  else (B, c, 0)
theorem kS_copy {q2 p2 : Nat} (h : KOk σ k q r b n B) (x : Option Nat) (f1 : Free σ k q r b q2) (f2 : Free σ k q r b p2) (hne : q2 ≠ p2) (s : Sp) :
  putS spO (kS σ k q r b n x B) q2 p2 s = kS (putS spO σ q2 p2 s) k q r b n x B ∧ KOk (putS spO σ q2 p2 s) k q r b n B := by
 have f2' : Free (σ.upd q2 (spO s p2)) k q r b p2 := ⟨f2.k, f2.q, f2.r, f2.b, by simp [Ne.symm hne, f2.free]⟩
 refine ⟨?_, ?_⟩
 ·unfold putS
  rw [kS_new f1, kS_new f2']
 ·unfold putS
  exact f2'.ok (f1.ok h _) _
theorem kS_mput {g : Nat} {x : Option Nat} (hx : ¬ x = some g) (X : List AV) : (kS σ k q r b n x B).put g X = kS (σ.put g X) k q r b n x B := by
 unfold kS putS pgS
 cases x with
 | none =>
  refine Store.ext2 (fun o => by simp) (fun i => by simp)
 | some p =>
  have hp : ¬ p = g := fun e => hx (by rw [e])
  refine Store.ext2 (fun o => by simp) (fun i => ?_)
  by_cases e1 : i = g
  ·subst e1; simp [Ne.symm hp]
  ·by_cases e2 : i = p
   ·subst e2; simp [hp]
   ·simp [e1, e2]
theorem KOk.mput (h : KOk σ k q r b n B) (g : Nat) (X : List AV) : KOk (σ.put g X) k q r b n B := { h with none := by simpa using h.none }
theorem kS_mdrop {g : Nat} {x : Option Nat} (hx : ¬ x = some g) (hg : σ (mkey g) = none) (X : List AV) : Store.sub (kS σ k q r b n x B) (kS (σ.put g X) k q r b n x B) := by
 rw [← kS_mput hx]
 have h0 : (kS σ k q r b n x B) (mkey g) = none := by
  cases x with
  | none => simpa [kS, pgS, putS] using hg
  | some p =>
   have hp : ¬ g = p := fun e => hx (by rw [e])
   simpa [kS, pgS, putS, hp] using hg
 refine Store.sub2 (fun o => .inr (by simp)) (fun i => ?_)
 by_cases e : i = g
 ·subst e; exact .inl h0
 ·right; simp [e]
structure TySt where
 f : Nat
 pos : Nat
 c : Nat
 r : Nat
 x : Option Nat
 B : Bd
theorem type_calls (h : KOk σ k q r b n B) (x : Option Nat) (s : ByteArray) (hs : s.size ≤ 1000000000) : ACalls Tryz.prog 16 [ptrA k, .lit (.string s)] (kS σ k q r b n x B) fun v σ' => v = .tuple [.lit (.int .i64 (typeF n s s.size 0 0 B).2.1), .lit (.int .i64 (typeF n s s.size 0 0 B).2.2)] ∧
  ∃ (r' : Nat) (x' : Option Nat), KOk σ k q r' b n (typeF n s s.size 0 0 B).1 ∧ NxP σ x x' ∧ σ' = kS σ k q r' b n x' (typeF n s s.size 0 0 B).1 := by
 generalize hT : typeF n s s.size 0 0 B = T at *
 refine aw st16 pl16 32 Tryz.func16 rfl ?_
 simp
 intro g hg
 have hxg : ¬ x = some g := by
  rintro rfl
  simp [kS, pgS] at hg
 have hσg : σ (mkey g) = none := by
  cases x with
  | none => simpa [kS, pgS, putS] using hg
  | some p => 
   have hp : ¬ g = p := fun e => hxg (by rw [e])
   simpa [kS, pgS, putS, hp] using hg
 rw [kS_mput hxg]
 refine codeK.loop follows (st := st16) (plans := pl16) (X := TySt) (fun y => s.size - y.pos ≤ y.f ∧ y.c ≤ y.pos ∧ KOk σ k q y.r b n y.B ∧ NxP σ x y.x ∧ ¬ y.x = some g ∧ typeF n s y.f y.pos y.c y.B = T)
  (fun y => [(0, ptrA k), (6, .lit (.int .i64 y.c)), (14, .lit (.pointer (some ⟨g, 0, none⟩)))]) (fun y => kS (σ.put g (iterA s y.pos)) k q y.r b n y.x y.B) (fun y => s.size - y.pos) ⟨s.size, 0, 0, r, x, B⟩ (by kernel_rfl) ⟨by simp, by simp, h, .inl rfl, hxg, by simpa using hT⟩ (by simp) (Store.sub_refl _) fun y hy => ?_
 obtain ⟨f, pos, c, r1, x1, B1⟩ := y
 obtain ⟨h1, h2, hK, hnx, hx1, hTy⟩ := hy
 dsimp only at h1 h2 hK hnx hx1 hTy ⊢
 have hread : (kS (σ.put g (iterA s pos)) k q r1 b n x1 B1) (mkey g) = some (iterA s pos) := by
  cases x1 with
  | none => simp [kS, pgS, putS]
  | some p =>
   have hp : ¬ g = p := fun e => hx1 (by rw [e])
   simp [kS, pgS, putS, hp]
 have hput : ∀ A2, (kS (σ.put g (iterA s pos)) k q r1 b n x1 B1).put g A2 = kS (σ.put g A2) k q r1 b n x1 B1 := fun A2 => by
  rw [kS_mput hx1]
  congr 1
  refine Store.ext2 (fun o => by simp) (fun i => ?_)
  by_cases e : i = g <;> simp [e]
 by_cases hlt : pos < s.size
 ·have hw := widthK_pos s pos hlt
  have hc1 : IntKind.i64.wrap ((c : Int) + 1) = ((c + 1 : Nat) : Int) := wrap_i64 (by omega) (by omega)
  obtain ⟨f, rfl⟩ : ∃ f', f = f' + 1 := ⟨f - 1, by omega⟩
  have hpr := press_calls (hK.mput g (iterA s (pos + (Utf8.decode s pos).2))) x1 (runeK s pos)
  have hty : T = (if (pressB n B1 (runeK s pos)).2.2 = 0 then typeF n s f (pos + (Utf8.decode s pos).2) (c + 1) (pressB n B1 (runeK s pos)).1
     else ((pressB n B1 (runeK s pos)).1, (c : Int), (pressB n B1 (runeK s pos)).2.2)) := by
   rw [← hTy, typeF, if_pos hlt]
  have hka : keyA (runeK s pos) = .agg [.lit (.int .i64 1), .lit (.int .i32 ((Utf8.decode s pos).1 : Nat)), .lit (.int .i64 0)] := rfl
  rw [hka] at hpr
  generalize pressB n B1 (runeK s pos) = P at *
  simp [hread, hlt, hput]
  generalize (Utf8.decode s pos).2 = w at *
  refine callK.of hpr ?_
  rintro v τ ⟨rfl, r2, x2, hK2, nx2, rfl⟩
  have hK3 : KOk σ k q r2 b n P.1 := { hK2 with none := by simpa using hK2.none }
  have hx2 : ¬ x2 = some g ∧ NxP σ x x2 := by
   rcases nx2 with rfl | ⟨g2, rfl, hg2⟩
   ·exact ⟨hx1, hnx⟩
   ·have e : ¬ g2 = g := by rintro rfl; simp at hg2
    refine ⟨fun e2 => e (Option.some.inj e2), .inr ⟨g2, rfl, ?_⟩⟩
    simpa [e] using hg2
  by_cases hz : P.2.2 = 0
  ·rw [if_pos hz] at hty
   simp [hz, hc1]
   exact ⟨⟨f, pos + w, c + 1, r2, x2, P.1⟩, ⟨by show s.size ≤ f + (pos + w); omega, by show c + 1 ≤ pos + w; omega, hK3, hx2.2, hx2.1, by rw [hty]; simp⟩, by show s.size - (pos + w) < s.size - pos; omega, by simp, Store.sub_refl _⟩
  ·rw [if_neg hz] at hty
   have hz2 : ¬ (0 : Int) = P.2.2 := fun e => hz e.symm
   simp [hz]
   refine ⟨_, AV.le_refl _, kS σ k q r2 b n x2 P.1, ?_, by rw [hty], r2, by rw [hty]; exact hK3, x2, hx2.2, by rw [hty]⟩
   exact kS_mdrop hx2.1 hσg _
 ·have hty : T = (B1, (c : Int), 0) := by
   rw [← hTy]
   cases f with
   | zero => rfl
   | succ f => rw [typeF, if_neg hlt]
  simp [hread, hlt]
  exact ⟨_, AV.le_refl _, kS σ k q r1 b n x1 B1, kS_mdrop hx1 hσg _, by rw [hty], r1, by rw [hty]; exact hK, x1, hnx, by rw [hty]⟩
end Go.Proofs.YtlmdbcgceijlnaaGreat
namespace Go.Proofs.YtlmdbcgceijlnaaGreat
open Go Go.AL Go.Sp
def awS : Sp := Sp.lays 0 [{ what := 3, n := 0, on := false, code := 0, c := .zero, text := [] }, { what := 1, n := 1, on := false, code := 0, c := .zero, text := [] }]
def awT : Bd × Int × Int := typeF 37 ⟨#[65, 98]⟩ 2 0 0 (newB awS)
theorem aw_ex : awT.2.1 = 2 ∧ awT.2.2 = 0 ∧ (awT.1.s.at 1).char = 193 ∧ (awT.1.s.at 2).char = 130 ∧ (awT.1.s.at 0).fa = 1 ∧ (pressB 37 awT.1 ⟨19, 0, 0⟩).2 = (true, 0) ∧ (pressB 37 awT.1 ⟨19, 0, 0⟩).1.aid = 125 ∧ (pressB 37 awT.1 ⟨19, 0, 0⟩).1.lock = 1 := by
 decide +kernel
theorem aw_ex2 : ((pressB 37 awT.1 ⟨19, 0, 0⟩).1.s.at 1).char = 193 ∧ ((pressB 37 awT.1 ⟨19, 0, 0⟩).1.s.at 2).char = 130 ∧ ((pressB 37 awT.1 ⟨19, 0, 0⟩).1.s.at 0).fa = 1 := by decide +kernel
theorem kS_over {σ base : Store} {k q r b : Nat} {n : Int} {B : Bd} (h : KOk base k q r b n B) (x : Option Nat) (hs : Store.sub σ base) (n1 : base k = none) (n2 : base q = none) (n3 : base b = none) (hx : NxP base none x) : Store.sub σ (kS base k q r b n x B) := by
 have nn : ∀ o : Int, base o = none → σ o = none := fun o ho => by
  rcases hs o with e | e
  ·exact e
  ·rw [e, ho]
 refine Store.sub2 (fun o => ?_) (fun i => ?_)
 ·by_cases e1 : o = b
  ·subst e1; exact .inl (nn _ n3)
  by_cases e2 : o = k
  ·subst e2; exact .inl (nn _ n1)
  by_cases e3 : o = q
  ·subst e3; exact .inl (nn _ n2)
  by_cases e4 : o = r
  ·subst e4; exact .inl (nn _ h.none)
  unfold kS
  rw [pgS_other e1]
  simpa [putS, e2, e3, e4] using hs o
 ·rcases hx with rfl | ⟨g, rfl, hg⟩
  ·simpa [kS, pgS, putS] using hs (mkey i)
  ·by_cases e : i = g
   ·subst e; exact .inl (nn _ hg)
   ·simpa [kS, pgS, putS, e] using hs (mkey i)
theorem awake_calls (σ : Store) : ACalls Tryz.prog 9 [] σ fun v σ' => v = .lit (.bool true) ∧ σ' = σ := by
 have hl := lay_calls 0 0 [{ what := 3, n := 0, on := false, code := 0, c := .zero, text := [] }, { what := 1, n := 1, on := false, code := 0, c := .zero, text := [] }] (by simp) (by simp) σ
 refine aw st9 pl9 68 Tryz.func9 rfl ?_
 simp
 refine callK.le (args' := [byteA 0, byteA 0, .list false 11 (actsA [{ what := 3, n := 0, on := false, code := 0, c := .zero, text := [] }, { what := 1, n := 1, on := false, code := 0, c := .zero, text := [] }])]) ?_ hl ?_
 ·simp [AllLe, actsA, actA, actC, cellC, byteA, bytesA, Cell.zero]
 rintro v τ ⟨k, q, p, b, c, base, rfl, hsub, n1, n2, n3, hK, rfl⟩
 have hlays : Sp.lays 0 [{ what := 3, n := 0, on := false, code := 0, c := .zero, text := [] }, { what := 1, n := 1, on := false, code := 0, c := .zero, text := [] }] = awS := rfl
 have hpn : pageN 0 = 37 := by decide +kernel
 rw [hlays, hpn] at hK ⊢
 simp
 have hty := type_calls hK none ⟨#[65, 98]⟩ (by decide)
 have hT : typeF 37 ⟨#[65, 98]⟩ (ByteArray.size ⟨#[65, 98]⟩) 0 0 (newB awS) = awT := rfl
 rw [hT] at hty
 refine callK.of hty ?_
 rintro v τ ⟨rfl, r2, x2, hK2, nx2, rfl⟩
 obtain ⟨a1, a2, a3, a4, a5, a6, a7, a8⟩ := aw_ex
 have hpr := press_calls hK2 x2 ⟨19, 0, 0⟩
 simp only [keyA, keyC] at hpr
 simp
 refine callK.of hpr ?_
 rintro v τ ⟨rfl, r3, x3, hK3, nx3, rfl⟩
 obtain ⟨a3', a4', a5'⟩ := aw_ex2
 have b1 := at_calls (kS_prg hK3 x3) 1
 have b2 := at_calls (kS_prg hK3 x3) 2
 have b0 := at_calls (kS_prg hK3 x3) 0
 have hai := baid_calls hK3 x3
 have hlo := lock_calls hK3 x3
 rw [a7] at hai
 rw [a8] at hlo
 simp only [cellA_eq, a3', a4', a5', byteA] at b0 b1 b2 hai
 rw [a1, a2, a6]
 simp
 refine callK.of b1 ?_
 rintro v τ ⟨rfl, rfl⟩
 simp
 refine callK.of b2 ?_
 rintro v τ ⟨rfl, rfl⟩
 simp
 refine callK.of b0 ?_
 rintro v τ ⟨rfl, rfl⟩
 simp
 refine callK.of hai ?_
 rintro v τ ⟨rfl, rfl⟩
 simp
 refine callK.of hlo ?_
 rintro v τ ⟨rfl, rfl⟩
 simp
 exact kS_over hK3 x3 hsub n1 n2 n3 (nx2.trans nx3)
variable {σ : Store} {k q r b : Nat} {n : Int} {B : Bd}
def keysA (ks : List Key) : List AV := ks.map keyA
theorem keysA_at (ks : List Key) (i : Nat) (h : i < ks.length) : (keysA ks)[i]? = some (keyA ks[i]) := by simp [keysA, h]
theorem keysA_len (ks : List Key) : (keysA ks).length = ks.length := by simp [keysA]
theorem kS_base {z : Nat} {X : List AV} (h : KOk σ k q r b n B) (x : Option Nat) (hz : σ z = some X) (h1 : ¬ z = k) (h2 : ¬ z = q) (h3 : ¬ z = b) : (kS σ k q r b n x B) z = some X := by
 have h4 : ¬ z = r := fun e => by subst e; rw [h.none] at hz; cases hz
 unfold kS
 rw [pgS_other h3]
 simp [putS, h1, h2, h4, hz]
structure Oth (σ : Store) (k q b q2 p2 : Nat) (s : Sp) : Prop where
 prg : Prg σ q2 p2 s
 q2k : ¬ q2 = k
 q2q : ¬ q2 = q
 q2b : ¬ q2 = b
 p2k : ¬ p2 = k
 p2q : ¬ p2 = q
 p2b : ¬ p2 = b
theorem Oth.at {q2 p2 : Nat} {s : Sp} (o : Oth σ k q b q2 p2 s) (h : KOk σ k q r b n B) (x : Option Nat) : Prg (kS σ k q r b n x B) q2 p2 s :=
 ⟨kS_base h x o.prg.obj o.q2k o.q2q o.q2b, kS_base h x o.prg.row o.p2k o.p2q o.p2b, o.prg.ne, o.prg.good⟩
theorem kcopy_calls (h : KOk σ k q r b n B) (x : Option Nat) : ACalls Tryz.prog 23 [ptrA q] (kS σ k q r b n x B) fun v σ' => ∃ (q2 p2 : Nat), v = ptrA q2 ∧ Free σ k q r b q2 ∧ Free σ k q r b p2 ∧ q2 ≠ p2 ∧
  KOk (putS spO σ q2 p2 B.s) k q r b n B ∧ Oth (putS spO σ q2 p2 B.s) k q b q2 p2 B.s ∧ σ' = kS (putS spO σ q2 p2 B.s) k q r b n x B := by
 refine ACalls.mono (scopy_calls (kS_prg h x)) ?_
 rintro v τ ⟨q2, p2, rfl, h1, h2, hne, rfl⟩
 have f1 := kS_free h h1
 have f2 := kS_free h h2
 obtain ⟨e1, e2⟩ := kS_copy h x f1 f2 hne B.s
 refine ⟨q2, p2, rfl, f1, f2, hne, e2, ⟨⟨?_, ?_, hne, h.good⟩, f1.k, f1.q, f1.b, f2.k, f2.q, f2.b⟩, e1⟩
 ·simp [putS, hne]
 ·simp [putS]
theorem Free.back {z r2 : Nat} {X : List AV} (f : Free σ k q r b z) (h : KOk (σ.upd z X) k q r2 b n B) : Free σ k q r2 b z ∧ KOk σ k q r2 b n B :=
 have hr : ¬ z = r2 := by rintro rfl; have := h.none; simp at this
 ⟨⟨f.k, f.q, hr, f.b, f.free⟩, { h with none := by have := h.none; simpa [Ne.symm hr] using this }⟩
structure LcSt where
 i : Nat
 r : Nat
 x : Option Nat
end Go.Proofs.YtlmdbcgceijlnaaGreat
