/-
 The document's choice by the cursor is the program's.
-/
import Derived.Test.YtlmdbcgceijlnaaGreatPPart22
set_option linter.unusedSimpArgs false
set_option linter.unusedVariables false
set_option maxRecDepth 8000
set_option maxHeartbeats 8000000

namespace Go.Proofs.YtlmdbcgceijlnaaGreat
open Go Go.AL Go.Sp
variable {σ : Store} {c x y : Nat} {n : Int} {D : Bd}
theorem sp_ext {s t : Sp} (h1 : s.model = t.model) (h2 : s.alt = t.alt) (h3 : s.cursor = t.cursor) (h4 : s.cells.length = t.cells.length) (h : ∀ j, cellAt s j = cellAt t j) : s = t := by
 obtain ⟨m, a, l, cu⟩ := s
 obtain ⟨m', a', l', cu'⟩ := t
 dsimp only at h1 h2 h3 h4
 subst h1 h2 h3
 have : l = l' := by
  refine List.ext_getElem h4 fun j hj hj' => ?_
  have := h j
  unfold cellAt at this
  dsimp only at this
  rw [List.getElem?_eq_getElem hj, List.getElem?_eq_getElem hj'] at this
  exact this
 rw [this]
theorem put_same (s : Sp) (k : Int) (b : UInt8) : (s.put k b).model = s.model ∧ (s.put k b).alt = s.alt ∧ (s.put k b).cursor = s.cursor := by unfold Sp.put; split <;> exact ⟨rfl, rfl, rfl⟩
theorem mod_same (s : Sp) (i : Nat) : (modS s i).model = s.model ∧ (modS s i).alt = s.alt ∧ (modS s i).cursor = s.cursor := by unfold modS; split <;> exact ⟨rfl, rfl, rfl⟩
theorem mod_put {s : Sp} (h : s.good) {i a : Nat} (hi : i < s.n) (ha : startS s.cells i = (a : Nat)) (b : UInt8) : (modS s i).put ((a : Int) + 1) b = modS (s.put ((a : Int) + 1) b) i := by
 obtain ⟨a', ha', hal, hat⟩ := start_attr h hi (by omega)
 have haa : a' = a := by omega
 subst haa
 have hb := n_big s
 have hw : wrap s.n ((a' : Int) + 1) = (a' + 1) % s.n := by unfold wrap; rw [← Int.natCast_one, ← Int.natCast_add, ← Int.natCast_emod, Int.toNat_natCast]
 have hlt : (a' + 1) % s.n < s.n := Nat.mod_lt _ s.n_pos
 have hne : ¬ (a' + 1) % s.n = a' := by
  rcases Nat.lt_or_ge (a' + 1) s.n with h1 | h1
  ·rw [Nat.mod_eq_of_lt h1]; omega
  ·rw [show a' + 1 = s.n from by omega, Nat.mod_self]; omega
 have hmg := (modS_same h i)
 have hk := keep_mod (KeepA.refl h) h hi
 have hmn : (modS s i).n = s.n := hmg.n
 rw [put_wrap s, put_wrap (modS s i), hmn, hw]
 generalize (a' + 1) % s.n = j at *
 cases hja : attrAt s.cells j
 ·have hp := keep_put (KeepA.refl h) (j : Nat) b
  have e1 := cellAt_put hmg.1 (k := j) (by rw [hmn]; exact hlt) (by rw [hk.attr]; exact hja) b
  have e2 := fun j => cellAt_mod h hi j
  have e3 := cellAt_put h hlt hja b
  have e4 := fun j => cellAt_mod hp.same.1 (n := i) (by rw [hp.same.n]; exact hi) j
  rw [hp.start h, ha] at e4
  rw [ha] at e2
  have l1 := keep_len (keep_put hk (j : Nat) b) h
  have l2 := keep_len (keep_mod hp h hi) h
  refine sp_ext ?_ ?_ ?_ (by rw [l1, l2]) fun z => ?_
  ·rw [(put_same _ _ _).1, (mod_same _ _).1, (mod_same _ _).1, (put_same _ _ _).1]
  ·rw [(put_same _ _ _).2.1, (mod_same _ _).2.1, (mod_same _ _).2.1, (put_same _ _ _).2.1]
  ·rw [(put_same _ _ _).2.2, (mod_same _ _).2.2, (mod_same _ _).2.2, (put_same _ _ _).2.2]
  ·rw [e1, e2, e4, e3]
   by_cases h1 : z = j
   ·rw [if_pos h1, if_neg (by omega), if_neg (by omega), if_pos h1]
   ·rw [if_neg h1, if_neg h1]
 ·rw [put_attr (s := modS s i) (by rw [at_attr (by rw [hmn]; exact hlt), hk.attr]; exact hja), put_attr (s := s) (by rw [at_attr hlt]; exact hja)]
theorem code63 (hn : isPage n) : codeZ n 63 = ((codeU n 63).toNat : Int) ∧ codeZ n 62 = ((codeU n 62).toNat : Int) := by
 rcases hn with rfl | rfl | rfl | rfl | rfl | rfl <;> decide +kernel
structure DOk (σ : Store) (c x y : Nat) (n : Int) (D : Bd) : Prop where
 obj : σ c = some (rbdO x n D.lock D.ins D.aid)
 ref : Ref σ x y D.s
 cx : ¬ c = x
 cy : ¬ c = y
def dbS (σ : Store) (c x y : Nat) (n : Int) (D : Bd) : Store := (putS rfO σ x y D.s).upd c (rbdO x n D.lock D.ins D.aid)
theorem DOk.self (h : DOk σ c x y n D) : dbS σ c x y n D = σ := by
 unfold dbS
 rw [h.ref.put_self, upd_back h.obj]
theorem rrefuse_calls (h : DOk σ c x y n D) (lock e : Int) : ACalls Tryz.prog 67 [ptrA c, .lit (.int .i64 lock), .lit (.int .i64 e)] σ fun v σ' => v = .tuple [.lit (.bool false), .lit (.int .i64 e)] ∧ σ' = dbS σ c x y n { D with lock := lock } := by
 have ho := h.obj
 have hs : dbS σ c x y n { D with lock := lock } = σ.upd c (rbdO x n lock D.ins D.aid) := by unfold dbS; rw [h.ref.put_self]
 rw [hs]
 unfold rbdO at ho ⊢
 refine aw st67 pl67 13 Tryz.func67 rfl ?_
 simp [ho]
theorem rsend_calls (h : DOk σ c x y n D) (aid : UInt8) : ACalls Tryz.prog 66 [ptrA c, byteA aid] σ fun v σ' => v = .tuple [.lit (.bool true), .lit (.int .i64 0)] ∧ σ' = dbS σ c x y n { D with lock := 1, ins := false, aid := aid } := by
 have ho := h.obj
 have hs : dbS σ c x y n { D with lock := 1, ins := false, aid := aid } = σ.upd c (rbdO x n 1 false aid) := by unfold dbS; rw [h.ref.put_self]
 rw [hs]
 unfold rbdO at ho ⊢
 refine aw st66 pl66 16 Tryz.func66 rfl ?_
 simp [ho]
theorem DOk.up (h : DOk σ c x y n D) {D2 : Bd} (hg : D2.s.good) : DOk (dbS σ c x y n D2) c x y n D2 :=
 ⟨by simp [dbS], (Scr.of_put h.ref.ne hg).upd ⟨fun e => h.cx e.symm, fun e => h.cy e.symm⟩ _, h.cx, h.cy⟩
theorem dbS_dbS {D2 D3 : Bd} : dbS (dbS σ c x y n D2) c x y n D3 = dbS σ c x y n D3 := by
 unfold dbS putS
 refine Store.ext2 (fun o => ?_) (fun i => by simp)
 simp only [supd_apply]
 by_cases h1 : o = c
 ·simp [h1]
 ·by_cases h2 : o = y
  ·simp [h1, h2]
  ·by_cases h3 : o = x
   ·simp [h1, h2, h3]
   ·simp [h1, h2, h3]
theorem dbS_scr (h : DOk σ c x y n D) (s : Sp) : putS rfO σ x y s = dbS σ c x y n { D with s := s } := by
 unfold dbS putS
 refine Store.ext2 (fun o => ?_) (fun i => by simp)
 simp only [supd_apply]
 by_cases h1 : o = c
 ·subst h1; simp [h.cx, h.cy, h.obj]
 ·simp [h1]
theorem rchoose_calls (h : DOk σ c x y n D) (hn : isPage n) : ACalls Tryz.prog 64 [ptrA c] σ fun v σ' => v = .tuple [.lit (.bool (chooseB n D).2.1), .lit (.int .i64 (chooseB n D).2.2)] ∧ σ' = dbS σ c x y n (chooseB n D).1 := by
 have ho := h.obj
 have hx := h.ref.obj
 have hy := h.ref.row
 have hg := h.ref.good
 have hcn := hg.cursor
 have hln := hg.len
 have hst := rstart_calls h.ref hcn
 have href := fun lock e => rrefuse_calls h lock e
 have hac : D.s.cursor < D.s.cells.length := by omega
 have hgj := cellsO_get hac
 have hce : D.s.cells[D.s.cursor] = cellAt D.s D.s.cursor := by unfold cellAt; rw [List.getElem?_eq_getElem hac]; rfl
 have hcx : cellC (cellAt D.s D.s.cursor) = [byteA (cellAt D.s D.s.cursor).char, .lit (.bool (cellAt D.s D.s.cursor).attr), byteA (cellAt D.s D.s.cursor).fa, byteA (cellAt D.s D.s.cursor).high, byteA (cellAt D.s D.s.cursor).color, byteA (cellAt D.s D.s.cursor).set] := rfl
 rw [hce, hcx] at hgj
 have hcl6 := cellsO_length D.s.cells
 have hle6 : D.s.cursor * 6 + 6 ≤ (cellsO D.s.cells).length := by omega
 have hat1 : (D.s.at (D.s.cursor : Nat)).attr = (cellAt D.s D.s.cursor).attr := by rw [cellAt_at hcn]
 unfold rbdO at ho
 unfold rfO at hx
 refine aw st64 pl64 117 Tryz.func64 rfl ?_
 have hcr : (cellsO D.s.cells)[D.s.cursor * 6 + 1]? = some (.lit (.bool (cellAt D.s D.s.cursor).attr)) := by
  have := congrArg (fun l => l[1]?) hgj
  simpa [List.getElem?_take, List.getElem?_drop] using this
 by_cases hs0 : startS D.s.cells D.s.cursor < 0
 ·have hch : chooseB n D = ({ D with lock := 2 }, false, 13) := by
   unfold chooseB okF
   rw [if_pos (by rw [decide_eq_false (by omega)]; simp)]
  rw [hch]
  simp [ho, hx]
  refine callK.of hst ?_
  rintro v τ ⟨rfl, rfl⟩
  simp [hs0]
  refine callK.of (href 2 13) ?_
  rintro v τ ⟨rfl, rfl⟩
  simp
 ·cases hca : (cellAt D.s D.s.cursor).attr
  ·obtain ⟨a, ha, hal, hata⟩ := start_attr hg hcn (by omega)
   have hfl := fun τ (hτ : Ref τ x y D.s) => rfield_calls hτ a hal
   rw [show D.s.cells[a]?.getD .zero = cellAt D.s a from rfl] at hfl
   have hfof : fofF D.s D.s.cursor = fld (cellAt D.s a).fa := by
    unfold fofF; rw [ha, if_pos (by omega)]; rfl
   have hok : okF D.s D.s.cursor = true := by unfold okF; rw [ha]; simp
   obtain ⟨j, hj⟩ : ∃ j, j = wrap D.s.n ((a : Int) + 1) := ⟨_, rfl⟩
   have hjl : j < D.s.n := by rw [hj]; exact wrap_lt D.s.n_pos _
   have hwr := fun τ (hτ : Ref τ x y D.s) => rswrap_calls hτ ((a : Int) + 1)
   rw [← hj] at hwr
   have hatj : D.s.at ((a : Int) + 1) = cellAt D.s j := by unfold Sp.at; rw [← hj]; rfl
   have hgj2 := cellsO_get (show j < D.s.cells.length by omega)
   have hce2 : D.s.cells[j]'(by omega) = cellAt D.s j := by unfold cellAt; rw [List.getElem?_eq_getElem (by omega)]; rfl
   rw [hce2, show cellC (cellAt D.s j) = [byteA (cellAt D.s j).char, .lit (.bool (cellAt D.s j).attr), byteA (cellAt D.s j).fa, byteA (cellAt D.s j).high, byteA (cellAt D.s j).color, byteA (cellAt D.s j).set] from rfl] at hgj2
   have hch0 : (cellsO D.s.cells)[j * 6]? = some (byteA (cellAt D.s j).char) := by
    have := congrArg (fun l => l[0]?) hgj2
    simpa [List.getElem?_take, List.getElem?_drop] using this
   have hwa : IntKind.i64.wrap ((a : Int) + 1) = (a : Int) + 1 := wrap_i64 (by omega) (by have := D.s.n_le; omega)
   have hdes := fun τ => rdesig_calls hn (cellAt D.s j).char τ
   rw [ha] at hst hs0
   rw [hca] at hcr
   generalize hff : fld (cellAt D.s a).fa = ff at *
   obtain ⟨pr, nu, di, mo⟩ := ff
   have hcB : chooseB n D = if detB ⟨pr, nu, di, mo⟩ = false then ({ D with lock := 2 }, false, 13)
    else if desigN n (cellAt D.s j).char = 0 ∨ desigN n (cellAt D.s j).char < 3 ∧ pr = true then ({ D with lock := 2 }, false, 13)
    else if desigN n (cellAt D.s j).char = 1 then ({ D with s := modS (D.s.put ((a : Int) + 1) (codeU n 62)) D.s.cursor }, false, 0)
    else if desigN n (cellAt D.s j).char = 2 then ({ D with s := D.s.put ((a : Int) + 1) (codeU n 63) }, false, 0)
    else ({ D with s := modS D.s D.s.cursor, lock := 1, ins := false, aid := if desigN n (cellAt D.s j).char = 3 then 126 else 125 }, true, 0) := by
    unfold chooseB
    dsimp only
    rw [hat1, hca, hok, hfof, ha, hatj]
    cases hd : detB ⟨pr, nu, di, mo⟩
    ·simp
    ·simp
   simp only [byteA] at hch0 hdes
   have hdle : desigN n (cellAt D.s j).char ≤ 4 := by unfold desigN; repeat' split
                                                      all_goals omega
   generalize (cellAt D.s j).char = ch at *
   generalize hdd : desigN n ch = d at *
   have hnew : ∀ (b7 : Nat) X, σ b7 = none → DOk (σ.upd b7 X) c x y n D := fun b7 X hb => by
    have f := h.ref.fresh hb
    have fc : ¬ c = b7 := fun e => by subst e; rw [h.obj] at hb; cases hb
    exact ⟨by simp [fc, h.obj], h.ref.new hb X, h.cx, h.cy⟩
   simp [ho, hx]
   refine callK.eq hst ?_
   simp [hs0, hx, hy, rowC, hcn, hcr]
   refine callK.eq (hfl _ h.ref) ?_
   simp [fldA]
   intro b7 hb7
   have D7 := hnew b7 [.lit (.bool pr), .lit (.bool nu), .lit (.int .i64 di), .lit (.bool mo)] hb7
   obtain ⟨f1, f2, f3, f4⟩ := h.ref.fresh hb7
   have fc : ¬ c = b7 := fun e => by subst e; rw [h.obj] at hb7; cases hb7
   have fc' : ¬ b7 = c := fun e => fc e.symm
   have hfin : ∀ D', Store.sub (dbS σ c x y n D') (dbS (σ.upd b7 [.lit (.bool pr), .lit (.bool nu), .lit (.int .i64 di), .lit (.bool mo)]) c x y n D') := fun D' => by
    have e : dbS (σ.upd b7 [.lit (.bool pr), .lit (.bool nu), .lit (.int .i64 di), .lit (.bool mo)]) c x y n D' = (dbS σ c x y n D').upd b7 [.lit (.bool pr), .lit (.bool nu), .lit (.int .i64 di), .lit (.bool mo)] := by
     unfold dbS
     rw [putS_upd _ _ f3 f4, supd_swap _ fc]
    rw [e]
    refine Store.sub_upd ?_ (Store.sub_refl _)
    simp [dbS, putS, fc', f3, f4, hb7]
   have hup : Store.upd (Store.upd σ b7 [.lit (.bool false), .lit (.bool false), .lit (.int .i64 0), .lit (.bool false)]) b7 [.lit (.bool pr), .lit (.bool nu), .lit (.int .i64 di), .lit (.bool mo)] = σ.upd b7 [.lit (.bool pr), .lit (.bool nu), .lit (.int .i64 di), .lit (.bool mo)] := by
    refine Store.ext2 (fun o => ?_) (fun i => by simp)
    by_cases e : o = b7 <;> simp [e]
   have g7 : Store.upd σ b7 [.lit (.bool pr), .lit (.bool nu), .lit (.int .i64 di), .lit (.bool mo)] b7 = some [.lit (.bool pr), .lit (.bool nu), .lit (.int .i64 di), .lit (.bool mo)] := by simp
   have gc := D7.obj
   have gx := D7.ref.obj
   have gy := D7.ref.row
   unfold rbdO at gc
   unfold rfO at gx
   have hmn : D.s.good := hg
   have hm1 : ACalls Tryz.prog 106 [ptrA x, .lit (.int .i64 D.s.cursor)] (σ.upd b7 [.lit (.bool pr), .lit (.bool nu), .lit (.int .i64 di), .lit (.bool mo)]) fun v σ' => v = .lit (.bool true) ∧ σ' = dbS (σ.upd b7 [.lit (.bool pr), .lit (.bool nu), .lit (.int .i64 di), .lit (.bool mo)]) c x y n { D with s := modS D.s D.s.cursor } := by
    have := rmodify_calls D7.ref hcn
    rw [ha, dbS_scr D7] at this
    simpa using this
   have D8 := D7.up (D2 := { D with s := modS D.s D.s.cursor }) (modS_same hg _).1
   have hpu : ∀ b, ACalls Tryz.prog 20 [ptrA x, .lit (.int .i64 ((a : Int) + 1)), byteA b] (dbS (σ.upd b7 [.lit (.bool pr), .lit (.bool nu), .lit (.int .i64 di), .lit (.bool mo)]) c x y n { D with s := modS D.s D.s.cursor }) fun v σ' => v = .tuple [] ∧ σ' = dbS (σ.upd b7 [.lit (.bool pr), .lit (.bool nu), .lit (.int .i64 di), .lit (.bool mo)]) c x y n { D with s := modS (D.s.put ((a : Int) + 1) b) D.s.cursor } := fun b => by
    have := rput_calls D8.ref ((a : Int) + 1) b
    rw [dbS_scr D8, dbS_dbS] at this
    rw [← mod_put hg hcn ha]
    exact this
   have hp3 : ∀ b, ACalls Tryz.prog 20 [ptrA x, .lit (.int .i64 ((a : Int) + 1)), byteA b] (σ.upd b7 [.lit (.bool pr), .lit (.bool nu), .lit (.int .i64 di), .lit (.bool mo)]) fun v σ' => v = .tuple [] ∧ σ' = dbS (σ.upd b7 [.lit (.bool pr), .lit (.bool nu), .lit (.int .i64 di), .lit (.bool mo)]) c x y n { D with s := D.s.put ((a : Int) + 1) b } := fun b => by
    have := rput_calls D7.ref ((a : Int) + 1) b
    rw [dbS_scr D7] at this
    exact this
   have hse : ∀ aid, ACalls Tryz.prog 66 [ptrA c, byteA aid] (dbS (σ.upd b7 [.lit (.bool pr), .lit (.bool nu), .lit (.int .i64 di), .lit (.bool mo)]) c x y n { D with s := modS D.s D.s.cursor }) fun v σ' => v = .tuple [.lit (.bool true), .lit (.int .i64 0)] ∧ σ' = dbS (σ.upd b7 [.lit (.bool pr), .lit (.bool nu), .lit (.int .i64 di), .lit (.bool mo)]) c x y n { D with s := modS D.s D.s.cursor, lock := 1, ins := false, aid := aid } := fun aid => by
    have := rsend_calls D8 aid
    rw [dbS_dbS] at this
    exact this
   have hre := rrefuse_calls D7 2 13
   have hcd := fun τ sg => rcode_calls n hn sg τ
   obtain ⟨z63, z62⟩ := code63 hn
   have w63 : IntKind.u8.wrap (codeZ n 63) = ((codeU n 63).toNat : Int) := by rw [z63]; have := (codeU n 63).toNat_lt; exact wrap_u8 (by omega) (by omega)
   have w62 : IntKind.u8.wrap (codeZ n 62) = ((codeU n 62).toNat : Int) := by rw [z62]; have := (codeU n 62).toNat_lt; exact wrap_u8 (by omega) (by omega)
   have hwr7 := hwr _ D7.ref
   have hgc2 : ∀ D', dbS (σ.upd b7 [.lit (.bool pr), .lit (.bool nu), .lit (.int .i64 di), .lit (.bool mo)]) c x y n D' c = some [ptrA x, .lit (.int .i64 n), .lit (.int .i64 D'.lock), .lit (.bool D'.ins), byteA D'.aid] := fun D' => by simp [dbS, rbdO]
   simp only [byteA] at gc hpu hp3 hse
   rw [hup]
   generalize σ.upd b7 [.lit (.bool pr), .lit (.bool nu), .lit (.int .i64 di), .lit (.bool mo)] = T at *
   by_cases hdt : di = 1 ∨ di = 2
   ·have hdf : ¬ detB ⟨pr, nu, di, mo⟩ = false := by unfold detB; rcases hdt with e | e <;> simp [e]
    rw [if_neg hdf] at hcB
    clear hnew D7 D8 hg hmn hff hata
    rcases hdt with rfl | rfl
    ·rcases (by omega : d = 0 ∨ d = 1 ∨ d = 2 ∨ d = 3 ∨ d = 4) with rfl | rfl | rfl | rfl | rfl
     ·rw [if_pos (.inl rfl)] at hcB
      rw [hcB]
      simp [ho, hx, hy, gc, gx, gy, g7, fc, fc', f1, f2, f3, f4, hwa, rowC, hjl, hch0, hgc2, w62, w63]
      repeat' first
       | with_reducible apply And.intro
       | (refine callK.eq (hwr7) ?_; simp [ho, hx, hy, gc, gx, gy, g7, fc, fc', f1, f2, f3, f4, hwa, rowC, hjl, hch0, hgc2, w62, w63])
       | (refine callK.eq (hdes _) ?_; simp [ho, hx, hy, gc, gx, gy, g7, fc, fc', f1, f2, f3, f4, hwa, rowC, hjl, hch0, hgc2, w62, w63])
       | (refine callK.eq (hre) ?_; simp [ho, hx, hy, gc, gx, gy, g7, fc, fc', f1, f2, f3, f4, hwa, rowC, hjl, hch0, hgc2, w62, w63])
       | exact hfin _
     ·cases pr
      ·rw [if_neg (by simp), if_pos rfl] at hcB
       rw [hcB]
       simp [ho, hx, hy, gc, gx, gy, g7, fc, fc', f1, f2, f3, f4, hwa, rowC, hjl, hch0, hgc2, w62, w63]
       repeat' first
        | with_reducible apply And.intro
        | (refine callK.eq (hwr7) ?_; simp [ho, hx, hy, gc, gx, gy, g7, fc, fc', f1, f2, f3, f4, hwa, rowC, hjl, hch0, hgc2, w62, w63])
        | (refine callK.eq (hdes _) ?_; simp [ho, hx, hy, gc, gx, gy, g7, fc, fc', f1, f2, f3, f4, hwa, rowC, hjl, hch0, hgc2, w62, w63])
        | (refine callK.eq (hm1) ?_; simp [ho, hx, hy, gc, gx, gy, g7, fc, fc', f1, f2, f3, f4, hwa, rowC, hjl, hch0, hgc2, w62, w63])
        | (refine callK.eq (hcd _ 62) ?_; simp [ho, hx, hy, gc, gx, gy, g7, fc, fc', f1, f2, f3, f4, hwa, rowC, hjl, hch0, hgc2, w62, w63])
        | (refine callK.eq (hpu _) ?_; simp [ho, hx, hy, gc, gx, gy, g7, fc, fc', f1, f2, f3, f4, hwa, rowC, hjl, hch0, hgc2, w62, w63])
        | exact hfin _
      ·rw [if_pos (.inr ⟨by decide, rfl⟩)] at hcB
       rw [hcB]
       simp [ho, hx, hy, gc, gx, gy, g7, fc, fc', f1, f2, f3, f4, hwa, rowC, hjl, hch0, hgc2, w62, w63]
       repeat' first
        | with_reducible apply And.intro
        | (refine callK.eq (hwr7) ?_; simp [ho, hx, hy, gc, gx, gy, g7, fc, fc', f1, f2, f3, f4, hwa, rowC, hjl, hch0, hgc2, w62, w63])
        | (refine callK.eq (hdes _) ?_; simp [ho, hx, hy, gc, gx, gy, g7, fc, fc', f1, f2, f3, f4, hwa, rowC, hjl, hch0, hgc2, w62, w63])
        | (refine callK.eq (hre) ?_; simp [ho, hx, hy, gc, gx, gy, g7, fc, fc', f1, f2, f3, f4, hwa, rowC, hjl, hch0, hgc2, w62, w63])
        | exact hfin _
     ·cases pr
      ·rw [if_neg (by simp), if_neg (by simp), if_pos rfl] at hcB
       rw [hcB]
       simp [ho, hx, hy, gc, gx, gy, g7, fc, fc', f1, f2, f3, f4, hwa, rowC, hjl, hch0, hgc2, w62, w63]
       repeat' first
        | with_reducible apply And.intro
        | (refine callK.eq (hwr7) ?_; simp [ho, hx, hy, gc, gx, gy, g7, fc, fc', f1, f2, f3, f4, hwa, rowC, hjl, hch0, hgc2, w62, w63])
        | (refine callK.eq (hdes _) ?_; simp [ho, hx, hy, gc, gx, gy, g7, fc, fc', f1, f2, f3, f4, hwa, rowC, hjl, hch0, hgc2, w62, w63])
        | (refine callK.eq (hcd _ 63) ?_; simp [ho, hx, hy, gc, gx, gy, g7, fc, fc', f1, f2, f3, f4, hwa, rowC, hjl, hch0, hgc2, w62, w63])
        | (refine callK.eq (hp3 _) ?_; simp [ho, hx, hy, gc, gx, gy, g7, fc, fc', f1, f2, f3, f4, hwa, rowC, hjl, hch0, hgc2, w62, w63])
        | exact hfin _
      ·rw [if_pos (.inr ⟨by decide, rfl⟩)] at hcB
       rw [hcB]
       simp [ho, hx, hy, gc, gx, gy, g7, fc, fc', f1, f2, f3, f4, hwa, rowC, hjl, hch0, hgc2, w62, w63]
       repeat' first
        | with_reducible apply And.intro
        | (refine callK.eq (hwr7) ?_; simp [ho, hx, hy, gc, gx, gy, g7, fc, fc', f1, f2, f3, f4, hwa, rowC, hjl, hch0, hgc2, w62, w63])
        | (refine callK.eq (hdes _) ?_; simp [ho, hx, hy, gc, gx, gy, g7, fc, fc', f1, f2, f3, f4, hwa, rowC, hjl, hch0, hgc2, w62, w63])
        | (refine callK.eq (hre) ?_; simp [ho, hx, hy, gc, gx, gy, g7, fc, fc', f1, f2, f3, f4, hwa, rowC, hjl, hch0, hgc2, w62, w63])
        | exact hfin _
     ·rw [if_neg (by simp), if_neg (by simp), if_neg (by simp)] at hcB
      rw [hcB]
      simp [ho, hx, hy, gc, gx, gy, g7, fc, fc', f1, f2, f3, f4, hwa, rowC, hjl, hch0, hgc2, w62, w63]
      repeat' first
       | with_reducible apply And.intro
       | (refine callK.eq (hwr7) ?_; simp [ho, hx, hy, gc, gx, gy, g7, fc, fc', f1, f2, f3, f4, hwa, rowC, hjl, hch0, hgc2, w62, w63])
       | (refine callK.eq (hdes _) ?_; simp [ho, hx, hy, gc, gx, gy, g7, fc, fc', f1, f2, f3, f4, hwa, rowC, hjl, hch0, hgc2, w62, w63])
       | (refine callK.eq (hm1) ?_; simp [ho, hx, hy, gc, gx, gy, g7, fc, fc', f1, f2, f3, f4, hwa, rowC, hjl, hch0, hgc2, w62, w63])
       | (refine callK.eq (hse 126) ?_; simp [ho, hx, hy, gc, gx, gy, g7, fc, fc', f1, f2, f3, f4, hwa, rowC, hjl, hch0, hgc2, w62, w63])
       | exact hfin _
     ·rw [if_neg (by simp), if_neg (by simp), if_neg (by simp)] at hcB
      rw [hcB]
      simp [ho, hx, hy, gc, gx, gy, g7, fc, fc', f1, f2, f3, f4, hwa, rowC, hjl, hch0, hgc2, w62, w63]
      repeat' first
       | with_reducible apply And.intro
       | (refine callK.eq (hwr7) ?_; simp [ho, hx, hy, gc, gx, gy, g7, fc, fc', f1, f2, f3, f4, hwa, rowC, hjl, hch0, hgc2, w62, w63])
       | (refine callK.eq (hdes _) ?_; simp [ho, hx, hy, gc, gx, gy, g7, fc, fc', f1, f2, f3, f4, hwa, rowC, hjl, hch0, hgc2, w62, w63])
       | (refine callK.eq (hm1) ?_; simp [ho, hx, hy, gc, gx, gy, g7, fc, fc', f1, f2, f3, f4, hwa, rowC, hjl, hch0, hgc2, w62, w63])
       | (refine callK.eq (hse 125) ?_; simp [ho, hx, hy, gc, gx, gy, g7, fc, fc', f1, f2, f3, f4, hwa, rowC, hjl, hch0, hgc2, w62, w63])
       | exact hfin _
    ·rcases (by omega : d = 0 ∨ d = 1 ∨ d = 2 ∨ d = 3 ∨ d = 4) with rfl | rfl | rfl | rfl | rfl
     ·rw [if_pos (.inl rfl)] at hcB
      rw [hcB]
      simp [ho, hx, hy, gc, gx, gy, g7, fc, fc', f1, f2, f3, f4, hwa, rowC, hjl, hch0, hgc2, w62, w63]
      repeat' first
       | with_reducible apply And.intro
       | (refine callK.eq (hwr7) ?_; simp [ho, hx, hy, gc, gx, gy, g7, fc, fc', f1, f2, f3, f4, hwa, rowC, hjl, hch0, hgc2, w62, w63])
       | (refine callK.eq (hdes _) ?_; simp [ho, hx, hy, gc, gx, gy, g7, fc, fc', f1, f2, f3, f4, hwa, rowC, hjl, hch0, hgc2, w62, w63])
       | (refine callK.eq (hre) ?_; simp [ho, hx, hy, gc, gx, gy, g7, fc, fc', f1, f2, f3, f4, hwa, rowC, hjl, hch0, hgc2, w62, w63])
       | exact hfin _
     ·cases pr
      ·rw [if_neg (by simp), if_pos rfl] at hcB
       rw [hcB]
       simp [ho, hx, hy, gc, gx, gy, g7, fc, fc', f1, f2, f3, f4, hwa, rowC, hjl, hch0, hgc2, w62, w63]
       repeat' first
        | with_reducible apply And.intro
        | (refine callK.eq (hwr7) ?_; simp [ho, hx, hy, gc, gx, gy, g7, fc, fc', f1, f2, f3, f4, hwa, rowC, hjl, hch0, hgc2, w62, w63])
        | (refine callK.eq (hdes _) ?_; simp [ho, hx, hy, gc, gx, gy, g7, fc, fc', f1, f2, f3, f4, hwa, rowC, hjl, hch0, hgc2, w62, w63])
        | (refine callK.eq (hm1) ?_; simp [ho, hx, hy, gc, gx, gy, g7, fc, fc', f1, f2, f3, f4, hwa, rowC, hjl, hch0, hgc2, w62, w63])
        | (refine callK.eq (hcd _ 62) ?_; simp [ho, hx, hy, gc, gx, gy, g7, fc, fc', f1, f2, f3, f4, hwa, rowC, hjl, hch0, hgc2, w62, w63])
        | (refine callK.eq (hpu _) ?_; simp [ho, hx, hy, gc, gx, gy, g7, fc, fc', f1, f2, f3, f4, hwa, rowC, hjl, hch0, hgc2, w62, w63])
        | exact hfin _
      ·rw [if_pos (.inr ⟨by decide, rfl⟩)] at hcB
       rw [hcB]
       simp [ho, hx, hy, gc, gx, gy, g7, fc, fc', f1, f2, f3, f4, hwa, rowC, hjl, hch0, hgc2, w62, w63]
       repeat' first
        | with_reducible apply And.intro
        | (refine callK.eq (hwr7) ?_; simp [ho, hx, hy, gc, gx, gy, g7, fc, fc', f1, f2, f3, f4, hwa, rowC, hjl, hch0, hgc2, w62, w63])
        | (refine callK.eq (hdes _) ?_; simp [ho, hx, hy, gc, gx, gy, g7, fc, fc', f1, f2, f3, f4, hwa, rowC, hjl, hch0, hgc2, w62, w63])
        | (refine callK.eq (hre) ?_; simp [ho, hx, hy, gc, gx, gy, g7, fc, fc', f1, f2, f3, f4, hwa, rowC, hjl, hch0, hgc2, w62, w63])
        | exact hfin _
     ·cases pr
      ·rw [if_neg (by simp), if_neg (by simp), if_pos rfl] at hcB
       rw [hcB]
       simp [ho, hx, hy, gc, gx, gy, g7, fc, fc', f1, f2, f3, f4, hwa, rowC, hjl, hch0, hgc2, w62, w63]
       repeat' first
        | with_reducible apply And.intro
        | (refine callK.eq (hwr7) ?_; simp [ho, hx, hy, gc, gx, gy, g7, fc, fc', f1, f2, f3, f4, hwa, rowC, hjl, hch0, hgc2, w62, w63])
        | (refine callK.eq (hdes _) ?_; simp [ho, hx, hy, gc, gx, gy, g7, fc, fc', f1, f2, f3, f4, hwa, rowC, hjl, hch0, hgc2, w62, w63])
        | (refine callK.eq (hcd _ 63) ?_; simp [ho, hx, hy, gc, gx, gy, g7, fc, fc', f1, f2, f3, f4, hwa, rowC, hjl, hch0, hgc2, w62, w63])
        | (refine callK.eq (hp3 _) ?_; simp [ho, hx, hy, gc, gx, gy, g7, fc, fc', f1, f2, f3, f4, hwa, rowC, hjl, hch0, hgc2, w62, w63])
        | exact hfin _
      ·rw [if_pos (.inr ⟨by decide, rfl⟩)] at hcB
       rw [hcB]
       simp [ho, hx, hy, gc, gx, gy, g7, fc, fc', f1, f2, f3, f4, hwa, rowC, hjl, hch0, hgc2, w62, w63]
       repeat' first
        | with_reducible apply And.intro
        | (refine callK.eq (hwr7) ?_; simp [ho, hx, hy, gc, gx, gy, g7, fc, fc', f1, f2, f3, f4, hwa, rowC, hjl, hch0, hgc2, w62, w63])
        | (refine callK.eq (hdes _) ?_; simp [ho, hx, hy, gc, gx, gy, g7, fc, fc', f1, f2, f3, f4, hwa, rowC, hjl, hch0, hgc2, w62, w63])
        | (refine callK.eq (hre) ?_; simp [ho, hx, hy, gc, gx, gy, g7, fc, fc', f1, f2, f3, f4, hwa, rowC, hjl, hch0, hgc2, w62, w63])
        | exact hfin _
     ·rw [if_neg (by simp), if_neg (by simp), if_neg (by simp)] at hcB
      rw [hcB]
      simp [ho, hx, hy, gc, gx, gy, g7, fc, fc', f1, f2, f3, f4, hwa, rowC, hjl, hch0, hgc2, w62, w63]
      repeat' first
       | with_reducible apply And.intro
       | (refine callK.eq (hwr7) ?_; simp [ho, hx, hy, gc, gx, gy, g7, fc, fc', f1, f2, f3, f4, hwa, rowC, hjl, hch0, hgc2, w62, w63])
       | (refine callK.eq (hdes _) ?_; simp [ho, hx, hy, gc, gx, gy, g7, fc, fc', f1, f2, f3, f4, hwa, rowC, hjl, hch0, hgc2, w62, w63])
       | (refine callK.eq (hm1) ?_; simp [ho, hx, hy, gc, gx, gy, g7, fc, fc', f1, f2, f3, f4, hwa, rowC, hjl, hch0, hgc2, w62, w63])
       | (refine callK.eq (hse 126) ?_; simp [ho, hx, hy, gc, gx, gy, g7, fc, fc', f1, f2, f3, f4, hwa, rowC, hjl, hch0, hgc2, w62, w63])
       | exact hfin _
     ·rw [if_neg (by simp), if_neg (by simp), if_neg (by simp)] at hcB
      rw [hcB]
      simp [ho, hx, hy, gc, gx, gy, g7, fc, fc', f1, f2, f3, f4, hwa, rowC, hjl, hch0, hgc2, w62, w63]
      repeat' first
       | with_reducible apply And.intro
       | (refine callK.eq (hwr7) ?_; simp [ho, hx, hy, gc, gx, gy, g7, fc, fc', f1, f2, f3, f4, hwa, rowC, hjl, hch0, hgc2, w62, w63])
       | (refine callK.eq (hdes _) ?_; simp [ho, hx, hy, gc, gx, gy, g7, fc, fc', f1, f2, f3, f4, hwa, rowC, hjl, hch0, hgc2, w62, w63])
       | (refine callK.eq (hm1) ?_; simp [ho, hx, hy, gc, gx, gy, g7, fc, fc', f1, f2, f3, f4, hwa, rowC, hjl, hch0, hgc2, w62, w63])
       | (refine callK.eq (hse 125) ?_; simp [ho, hx, hy, gc, gx, gy, g7, fc, fc', f1, f2, f3, f4, hwa, rowC, hjl, hch0, hgc2, w62, w63])
       | exact hfin _
   ·have hd1 : ¬ di = 1 := fun e => hdt (.inl e)
    have hd2 : ¬ di = 2 := fun e => hdt (.inr e)
    have hd1' : ¬ (di : Int) = 1 := by omega
    have hd2' : ¬ (di : Int) = 2 := by omega
    have hdf : detB ⟨pr, nu, di, mo⟩ = false := by unfold detB; simp [hd1, hd2]
    rw [if_pos hdf] at hcB
    rw [hcB]
    simp [ho, hx, hy, gc, gx, gy, g7, fc, fc', f1, f2, f3, f4, hwa, rowC, hjl, hch0, hd1, hd2, hd1', hd2']
    repeat' first
     | with_reducible apply And.intro
     | (refine callK.eq (hwr7) ?_; simp [ho, hx, hy, gc, gx, gy, g7, fc, fc', f1, f2, f3, f4, hwa, rowC, hjl, hch0, hd1, hd2, hd1', hd2'])
     | (refine callK.eq (hdes _) ?_; simp [ho, hx, hy, gc, gx, gy, g7, fc, fc', f1, f2, f3, f4, hwa, rowC, hjl, hch0, hd1, hd2, hd1', hd2'])
     | (refine callK.eq (hre) ?_; simp [ho, hx, hy, gc, gx, gy, g7, fc, fc', f1, f2, f3, f4, hwa, rowC, hjl, hch0, hd1, hd2, hd1', hd2'])
     | exact hfin _
  ·have hch : chooseB n D = ({ D with lock := 2 }, false, 13) := by
    unfold chooseB
    rw [hat1, hca, if_pos (by simp)]
   rw [hch]
   rw [hca] at hcr
   simp [ho, hx]
   refine callK.of hst ?_
   rintro v τ ⟨rfl, rfl⟩
   simp [hs0, hx, hy, rowC, hcn, hcr]
   refine callK.of (href 2 13) ?_
   rintro v τ ⟨rfl, rfl⟩
   simp
end Go.Proofs.YtlmdbcgceijlnaaGreat
namespace Go.Proofs.YtlmdbcgceijlnaaGreat
open Go Go.AL Go.Sp
variable {σ : Store} {c x y : Nat} {n : Int} {D : Bd}
theorem rdata_calls (b : UInt8) (σ : Store) : ACalls Tryz.prog 140 [byteA b] σ fun v σ' => v = .lit (.bool (dataB b)) ∧ σ' = σ := by
 refine aw st140 pl140 9 Tryz.func140 rfl ?_
 unfold dataB
 by_cases h : 64 ≤ b.toNat
 ·have h' : (64 : Int) ≤ b.toNat := by omega
  by_cases h2 : b.toNat < 255
  ·have h2' : (b.toNat : Int) ≤ 254 := by omega
   have h3 : b.toNat ≤ 254 := by omega
   simp [byteA, h, h', h2, h2', h3]
  ·have h2' : ¬ (b.toNat : Int) ≤ 254 := by omega
   have h3 : ¬ b.toNat ≤ 254 := by omega
   simp [byteA, h, h', h2, h2', h3]
 ·have h' : ¬ (64 : Int) ≤ b.toNat := by omega
  simp [byteA, h, h']
theorem ropen_calls {s : Sp} (h : Ref σ x y s) {i : Nat} (hi : i < s.n) : ACalls Tryz.prog 102 [ptrA x, .lit (.int .i64 i)] σ fun v σ' => v = .lit (.bool (openS s i)) ∧ σ' = σ := by
 have hw := rswrap_calls h (i : Int)
 rw [wrap_of_lt hi] at hw
 have hst := rstart_calls h hi
 have hfl := fun a (ha : a < s.n) => rfield_calls h a ha
 have ho := h.obj
 have hr := h.row
 have hln := h.good.len
 have hic : i < s.cells.length := by omega
 have hgj := cellsO_get hic
 have hce : s.cells[i] = cellAt s i := by unfold cellAt; rw [List.getElem?_eq_getElem hic]; rfl
 have hcx : cellC (cellAt s i) = [byteA (cellAt s i).char, .lit (.bool (cellAt s i).attr), byteA (cellAt s i).fa, byteA (cellAt s i).high, byteA (cellAt s i).color, byteA (cellAt s i).set] := rfl
 rw [hce, hcx] at hgj
 have hcl6 := cellsO_length s.cells
 have hcr : (cellsO s.cells)[i * 6 + 1]? = some (.lit (.bool (cellAt s i).attr)) := by
  have := congrArg (fun l => l[1]?) hgj
  simpa [List.getElem?_take, List.getElem?_drop] using this
 unfold rfO at ho
 refine aw st102 pl102 32 Tryz.func102 rfl ?_
 have hop : openS s i = (!(cellAt s i).attr && !(decide (0 ≤ startS s.cells i) && (fldAt s (startS s.cells i).toNat).prot)) := rfl
 rw [hop]
 simp
 refine callK.eq hw ?_
 simp
 refine callK.eq hst ?_
 cases hat : (cellAt s i).attr
 ·rw [hat] at hcr
  by_cases hs0 : startS s.cells i < 0
  ·have hs1 : ¬ 0 ≤ startS s.cells i := by omega
   simp [ho, hr, rowC, hi, hcr, hs0, hs1]
  ·have hs1 : 0 ≤ startS s.cells i := by omega
   obtain ⟨a, ha, hal, _⟩ := start_attr h.good hi (by omega)
   have hf := hfl a hal
   rw [ha] at hs0 hs1 ⊢
   rw [show s.cells[a]?.getD .zero = cellAt s a from rfl] at hf
   have hfa : fldAt s ((a : Nat) : Int).toNat = fld (cellAt s a).fa := rfl
   rw [hfa]
   generalize fld (cellAt s a).fa = ff at *
   obtain ⟨pr, nu, di, mo⟩ := ff
   simp [ho, hr, rowC, hi, hcr]
   refine callK.eq hf ?_
   cases pr <;> simp [fldA, hs0]
 ·rw [hat] at hcr
  simp [ho, hr, rowC, hi, hcr]
theorem rnumeric_calls (hn : isPage n) (b : UInt8) (σ : Store) : ACalls Tryz.prog 104 [.lit (.int .i64 n), byteA b] σ fun v σ' => v = .lit (.bool (numB n b)) ∧ σ' = σ := by
 have hs := rsign_calls n hn b σ
 have hd := rdata_calls b σ
 simp only [byteA] at hs hd
 refine aw st104 pl104 31 Tryz.func104 rfl ?_
 simp [byteA]
 refine callK.eq hs ?_
 unfold numB
 by_cases h28 : b = 28
 ·subst h28
  simp
 ·have h1 : ¬ b.toNat = 28 := fun e => h28 (UInt8.toNat_inj.1 e)
  have h2 : ¬ (b.toNat : Int) = 28 := by omega
  have hb : (b == 28) = false := by simpa using h28
  simp [h1, h2, hb]
  refine callK.eq hd ?_
  generalize sgF n b.toNat = sg at *
  unfold numSign
  cases dataB b
  ·simp [h1, h2]
  ·by_cases c1 : 48 ≤ sg
   ·have c1' : (48 : Int) ≤ sg := by omega
    by_cases c2 : sg ≤ 57
    ·have c2' : (sg : Int) ≤ 57 := by omega
     simp [h1, h2, c1, c1', c2, c2']
    ·have c2' : ¬ (sg : Int) ≤ 57 := by omega
     have c3 : ¬ sg = 46 := by omega
     have c3' : ¬ (sg : Int) = 46 := by omega
     have c4 : ¬ sg = 45 := by omega
     have c4' : ¬ (sg : Int) = 45 := by omega
     have d4 : ((sg : Int) == 45) = false := by simpa using c4'
     have d5 : (sg == 45) = false := by simpa using c4
     have d6 : (sg == 46) = false := by simpa using c3
     simp [h1, h2, c1, c1', c2, c2', c3, c3', c4, c4', d4, d5, d6]
   ·have c1' : ¬ (48 : Int) ≤ sg := by omega
    by_cases c3 : sg = 46
    ·subst c3; simp [h1, h2]
    ·have c3' : ¬ (sg : Int) = 46 := by omega
     by_cases c4 : sg = 45
     ·subst c4; simp [h1, h2]
     ·have c4' : ¬ (sg : Int) = 45 := by omega
      have d4 : ((sg : Int) == 45) = false := by simpa using c4'
      have d5 : (sg == 45) = false := by simpa using c4
      have d6 : (sg == 46) = false := by simpa using c3
      simp [h1, h2, c1, c1', c3, c3', c4, c4', d4, d5, d6]
end Go.Proofs.YtlmdbcgceijlnaaGreat
namespace Go.Proofs.YtlmdbcgceijlnaaGreat
open Go Go.AL Go.Sp
variable {σ : Store} {n : Int}
def aidsL : List UInt8 := [102, 49, 102, 50, 102, 51, 102, 52, 102, 53, 102, 54, 102, 55, 102, 56, 102, 57, 55, 97, 55, 98, 55, 99, 99, 49, 99, 50, 99, 51, 99, 52, 99, 53, 99, 54, 99, 55, 99, 56, 99, 57, 52, 97, 52, 98, 52, 99, 54, 99, 54, 101, 54, 98]
def aidT : List Nat := pfT ++ paT
theorem aids_len : aidsL.length = 54 := by decide
theorem aids_at : ∀ i : Fin 27, numL ((aidsL.drop (2 * i.val)).take 2) = aidT.getD i.val 0 := by decide +kernel
theorem aidT_lt : ∀ i : Fin 27, aidT.getD i.val 0 < 256 := by decide +kernel
theorem mk_aids (a : Array UInt8) (h : a = aidsL.toArray) : ByteArray.mk a = toB aidsL := by rw [h]; rfl
theorem rat27_calls (i : Nat) (hi : i < 27) (σ : Store) : ACalls Tryz.prog 117 [.lit (.int .i64 i)] σ fun v σ' => v = .lit (.int .u8 (aidT.getD i 0 : Nat)) ∧ σ' = σ := by
 obtain ⟨p1, p2⟩ := numS_part aidsL (2 * i) 2 (by rw [aids_len]; omega)
 have ha := aids_at ⟨i, hi⟩
 have hlt := aidT_lt ⟨i, hi⟩
 dsimp only at ha hlt
 have hn1 := nums_calls ((toB aidsL).extract (2 * i) (2 * i + 2)) (by rw [p1]; omega) σ
 rw [p2, ha] at hn1
 have hw2 : IntKind.i64.wrap (2 * (i : Int)) = 2 * (i : Int) := wrap_i64 (by omega) (by omega)
 have hw4 : IntKind.i64.wrap (2 * (i : Int) + 2) = 2 * (i : Int) + 2 := wrap_i64 (by omega) (by omega)
 have hsB := toB_size aidsL
 rw [aids_len] at hsB
 have g0 : (0 : Int) ≤ 2 * (i : Int) := by omega
 have g4 : (0 : Int) ≤ 2 * (i : Int) + 2 := by omega
 have t0 : (2 * (i : Int)).toNat = 2 * i := by omega
 have t4 : (2 * (i : Int) + 2).toNat = 2 * i + 2 := by omega
 have l4 : 2 * i ≤ 2 * i + 2 ∧ 2 * i + 2 ≤ (toB aidsL).size := by omega
 have hwi : IntKind.u8.wrap ((aidT.getD i 0 : Nat) : Int) = (aidT.getD i 0 : Nat) := wrap_u8 (by omega) (by omega)
 generalize aidT.getD i 0 = w at *
 refine aw st117 pl117 11 Tryz.func117 rfl ?_
 simp [hw2, hw4]
 rw [mk_aids]
 rotate_left
 ·kernel_rfl
 rw [if_pos g0, if_pos g4, t0, t4]
 dsimp only
 rw [if_pos l4]
 simp
 refine callK.of hn1 ?_
 rintro v τ ⟨rfl, eτ⟩
 rw [eτ]
 simp [hwi]
theorem raid_calls (K : Key) (σ : Store) : ACalls Tryz.prog 65 [keyA K] σ fun v σ' => v = .lit (.int .u8 ((aidN K).getD 0 : Nat)) ∧ σ' = σ := by
 have h27 := fun τ i hi => rat27_calls i hi τ
 obtain ⟨kind, sg, num⟩ := K
 refine aw st65 pl65 37 Tryz.func65 rfl ?_
 unfold aidN
 dsimp only
 simp [keyA, keyC]
 intro z hz
 have hzs := fun X => sub_upd_self σ z X hz
 by_cases k19 : kind = 19
 ·subst k19
  simp
  exact hzs _
 ·by_cases k22 : kind = 22
  ·subst k22
   simp
   exact hzs _
  ·by_cases k20 : kind = 20
   ·subst k20
    by_cases n1 : 1 ≤ num
    ·by_cases n2 : num ≤ 24
     ·have hw : IntKind.i64.wrap (num - 1) = (((num - 1).toNat : Nat) : Int) := by rw [wrap_i64 (by omega) (by omega)]; omega
      have hi : (num - 1).toNat < 27 := by omega
      have hT : aidT.getD (num - 1).toNat 0 = (pfT[(num - 1).toNat]?).getD 0 := by
       unfold aidT
       rw [List.getD_eq_getElem?_getD, List.getElem?_append_left (by simp [pfT]; omega)]
      have h := fun τ => h27 τ _ hi
      rw [hT] at h
      generalize hj : (num - 1).toNat = j at *
      simp [n1, n2, hw]
      refine callK.of (h _) ?_
      rintro v τ ⟨rfl, eτ⟩
      rw [eτ]
      simp
      refine ⟨?_, hzs _⟩
      rw [if_pos ⟨n1, n2⟩, show num.toNat - 1 = j from by omega]
      exact AV.le_refl _
     ·simp [n1, n2]
      exact hzs _
    ·simp [n1]
     exact ⟨by omega, hzs _⟩
   ·by_cases k21 : kind = 21
    ·subst k21
     by_cases n1 : 1 ≤ num
     ·by_cases n2 : num ≤ 3
      ·have hw : IntKind.i64.wrap (23 + num) = ((24 + (num - 1).toNat : Nat) : Int) := by rw [wrap_i64 (by omega) (by omega)]; omega
       have hi : 24 + (num - 1).toNat < 27 := by omega
       have hT : aidT.getD (24 + (num - 1).toNat) 0 = (paT[(num - 1).toNat]?).getD 0 := by
        unfold aidT
        rw [List.getD_eq_getElem?_getD, List.getElem?_append_right (by simp [pfT])]
        simp [pfT]
       have h := fun τ => h27 τ _ hi
       rw [hT] at h
       generalize hj : (num - 1).toNat = j at *
       simp [n1, n2, hw]
       refine callK.of (h _) ?_
       rintro v τ ⟨rfl, eτ⟩
       rw [eτ]
       simp
       refine ⟨?_, hzs _⟩
       rw [if_pos ⟨n1, n2⟩, show num.toNat - 1 = j from by omega]
       exact AV.le_refl _
      ·simp [n1, n2]
       exact hzs _
     ·simp [n1]
      exact ⟨by omega, hzs _⟩
    ·simp [k19, k22, k20, k21]
     exact hzs _
end Go.Proofs.YtlmdbcgceijlnaaGreat
