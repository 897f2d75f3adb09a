/-
  The document's choice by the cursor is the program's.
-/
import Derived.Test.YtlmdbcgceijlnaaGreatSPart22
import Derived.Laws.RangeString
import Derived.Laws.RangeAny
set_option linter.unusedSimpArgs false
set_option linter.unusedVariables false
namespace Go.Proofs.YtlmdbcgceijlnaaGreat
open Go Go.AL Go.Sp
variable {σ : Store} {c x y : Nat} {n : Int} {D : Bd}

theorem sp_ext {s t : Sp} (h1 : s.model = t.model) (h2 : s.alt = t.alt) (h3 : s.cursor = t.cursor) (h4 : s.cells.length = t.cells.length) (h : ∀ j, cellAt s j = cellAt t j) : s = t := by
  obtain ⟨m, a, l, cu⟩ := s
  obtain ⟨m', a', l', cu'⟩ := t
  dsimp only at h1 h2 h3 h4
  subst h1 h2 h3
  have : l = l' := by
    refine List.ext_getElem h4 fun j hj hj' => ?_
    have := h j
    unfold cellAt at this
    dsimp only at this
    rw [List.getElem?_eq_getElem hj, List.getElem?_eq_getElem hj'] at this
    exact this
  rw [this]
theorem put_same (s : Sp) (k : Int) (b : UInt8) : (s.put k b).model = s.model ∧ (s.put k b).alt = s.alt ∧ (s.put k b).cursor = s.cursor := by unfold Sp.put; split <;> exact ⟨rfl, rfl, rfl⟩
theorem mod_same (s : Sp) (i : Nat) : (modS s i).model = s.model ∧ (modS s i).alt = s.alt ∧ (modS s i).cursor = s.cursor := by unfold modS; split <;> exact ⟨rfl, rfl, rfl⟩
/-- To modify a field and to write its first place: in any order. -/
theorem mod_put {s : Sp} (h : s.good) {i a : Nat} (hi : i < s.n) (ha : startS s.cells i = (a : Nat)) (b : UInt8) : (modS s i).put ((a : Int) + 1) b = modS (s.put ((a : Int) + 1) b) i := by
  obtain ⟨a', ha', hal, hat⟩ := start_attr h hi (by omega)
  have haa : a' = a := by omega
  subst haa
  have hb := n_big s
  have hw : wrap s.n ((a' : Int) + 1) = (a' + 1) % s.n := by unfold wrap; rw [← Int.natCast_one, ← Int.natCast_add, ← Int.natCast_emod, Int.toNat_natCast]
  have hlt : (a' + 1) % s.n < s.n := Nat.mod_lt _ s.n_pos
  have hne : ¬ (a' + 1) % s.n = a' := by
    rcases Nat.lt_or_ge (a' + 1) s.n with h1 | h1
    · rw [Nat.mod_eq_of_lt h1]; omega
    · rw [show a' + 1 = s.n from by omega, Nat.mod_self]; omega
  have hmg := (modS_same h i)
  have hk := keep_mod (KeepA.refl h) h hi
  have hmn : (modS s i).n = s.n := hmg.n
  rw [put_wrap s, put_wrap (modS s i), hmn, hw]
  generalize (a' + 1) % s.n = j at *
  cases hja : attrAt s.cells j
  · have hp := keep_put (KeepA.refl h) (j : Nat) b
    have e1 := cellAt_put hmg.1 (k := j) (by rw [hmn]; exact hlt) (by rw [hk.attr]; exact hja) b
    have e2 := fun j => cellAt_mod h hi j
    have e3 := cellAt_put h hlt hja b
    have e4 := fun j => cellAt_mod hp.same.1 (n := i) (by rw [hp.same.n]; exact hi) j
    rw [hp.start h, ha] at e4
    rw [ha] at e2
    have l1 := keep_len (keep_put hk (j : Nat) b) h
    have l2 := keep_len (keep_mod hp h hi) h
    refine sp_ext ?_ ?_ ?_ (by rw [l1, l2]) fun z => ?_
    · rw [(put_same _ _ _).1, (mod_same _ _).1, (mod_same _ _).1, (put_same _ _ _).1]
    · rw [(put_same _ _ _).2.1, (mod_same _ _).2.1, (mod_same _ _).2.1, (put_same _ _ _).2.1]
    · rw [(put_same _ _ _).2.2, (mod_same _ _).2.2, (mod_same _ _).2.2, (put_same _ _ _).2.2]
    · rw [e1, e2, e4, e3]
      by_cases h1 : z = j
      · rw [if_pos h1, if_neg (by omega), if_neg (by omega), if_pos h1]
      · rw [if_neg h1, if_neg h1]
  · rw [put_attr (s := modS s i) (by rw [at_attr (by rw [hmn]; exact hlt), hk.attr]; exact hja), put_attr (s := s) (by rw [at_attr hlt]; exact hja)]
theorem code63 (hn : isPage n) : codeZ n 63 = ((codeU n 63).toNat : Int) ∧ codeZ n 62 = ((codeU n 62).toNat : Int) := by
  rcases hn with rfl | rfl | rfl | rfl | rfl | rfl <;> decide +kernel
/-- The document's keyboard c on its screen x, with its row at y. -/
structure DOk (σ : Store) (c x y : Nat) (n : Int) (D : Bd) : Prop where
  obj : σ c = some (rbdO x n D.lock D.ins D.aid)
  ref : Ref σ x y D.s
  cx : ¬ c = x
  cy : ¬ c = y
def dbS (σ : Store) (c x y : Nat) (n : Int) (D : Bd) : Store := (putS rfO σ x y D.s).upd c (rbdO x n D.lock D.ins D.aid)
set_option maxRecDepth 8000 in
theorem rrefuse_calls (h : DOk σ c x y n D) (lock e : Int) : ACalls Tryz.prog 67 [ptrA c, .lit (.int .i64 lock), .lit (.int .i64 e)] σ fun v σ' => v = .tuple [.lit (.bool false), .lit (.int .i64 e)] ∧ σ' = dbS σ c x y n { D with lock := lock } := by
  have ho := h.obj
  have hs : dbS σ c x y n { D with lock := lock } = σ.upd c (rbdO x n lock D.ins D.aid) := by unfold dbS; rw [h.ref.put_self]
  rw [hs]
  unfold rbdO at ho ⊢
  refine ACalls.of_awp follows (st := st67) (plans := pl67) (n := 13) Tryz.func67 rfl (by kernel_rfl) (by kernel_rfl) (by kernel_rfl) ?_
  simp [ho]
set_option maxRecDepth 8000 in
theorem rsend_calls (h : DOk σ c x y n D) (aid : UInt8) : ACalls Tryz.prog 66 [ptrA c, byteA aid] σ fun v σ' => v = .tuple [.lit (.bool true), .lit (.int .i64 0)] ∧ σ' = dbS σ c x y n { D with lock := 1, ins := false, aid := aid } := by
  have ho := h.obj
  have hs : dbS σ c x y n { D with lock := 1, ins := false, aid := aid } = σ.upd c (rbdO x n 1 false aid) := by unfold dbS; rw [h.ref.put_self]
  rw [hs]
  unfold rbdO at ho ⊢
  refine ACalls.of_awp follows (st := st66) (plans := pl66) (n := 16) Tryz.func66 rfl (by kernel_rfl) (by kernel_rfl) (by kernel_rfl) ?_
  simp [ho]
theorem DOk.up (h : DOk σ c x y n D) {D2 : Bd} (hg : D2.s.good) : DOk (dbS σ c x y n D2) c x y n D2 :=
  ⟨by simp [dbS], (Scr.of_put h.ref.ne hg).upd ⟨fun e => h.cx e.symm, fun e => h.cy e.symm⟩ _, h.cx, h.cy⟩
theorem dbS_dbS {D2 D3 : Bd} : dbS (dbS σ c x y n D2) c x y n D3 = dbS σ c x y n D3 := by
  unfold dbS putS
  refine Store.ext2 (fun o => ?_) (fun i => by simp)
  simp only [supd_apply]
  by_cases h1 : o = c
  · simp [h1]
  · by_cases h2 : o = y
    · simp [h1, h2]
    · by_cases h3 : o = x
      · simp [h1, h2, h3]
      · simp [h1, h2, h3]
theorem dbS_scr (h : DOk σ c x y n D) (s : Sp) : putS rfO σ x y s = dbS σ c x y n { D with s := s } := by
  unfold dbS putS
  refine Store.ext2 (fun o => ?_) (fun i => by simp)
  simp only [supd_apply]
  by_cases h1 : o = c
  · subst h1; simp [h.cx, h.cy, h.obj]
  · simp [h1]
set_option maxHeartbeats 2000000 in
set_option maxRecDepth 8000 in
theorem rchoose_calls (h : DOk σ c x y n D) (hn : isPage n) : ACalls Tryz.prog 64 [ptrA c] σ fun v σ' => v = .tuple [.lit (.bool (chooseB n D).2.1), .lit (.int .i64 (chooseB n D).2.2)] ∧ σ' = dbS σ c x y n (chooseB n D).1 := by
  have ho := h.obj
  have hx := h.ref.obj
  have hy := h.ref.row
  have hg := h.ref.good
  have hcn := hg.cursor
  have hln := hg.len
  have hst := rstart_calls h.ref hcn
  have href := fun lock e => rrefuse_calls h lock e
  have hac : D.s.cursor < D.s.cells.length := by omega
  have hgj := cellsO_get hac
  have hce : D.s.cells[D.s.cursor] = cellAt D.s D.s.cursor := by unfold cellAt; rw [List.getElem?_eq_getElem hac]; rfl
  have hcx : cellC (cellAt D.s D.s.cursor) = [byteA (cellAt D.s D.s.cursor).char, .lit (.bool (cellAt D.s D.s.cursor).attr), byteA (cellAt D.s D.s.cursor).fa, byteA (cellAt D.s D.s.cursor).high, byteA (cellAt D.s D.s.cursor).color, byteA (cellAt D.s D.s.cursor).set] := rfl
  rw [hce, hcx] at hgj
  have hcl6 := cellsO_length D.s.cells
  have hle6 : D.s.cursor * 6 + 6 ≤ (cellsO D.s.cells).length := by omega
  have hat1 : (D.s.at (D.s.cursor : Nat)).attr = (cellAt D.s D.s.cursor).attr := by rw [cellAt_at hcn]
  unfold rbdO at ho
  unfold rfO at hx
  refine ACalls.of_awp follows (st := st64) (plans := pl64) (n := 117) Tryz.func64 rfl (by kernel_rfl) (by kernel_rfl) (by kernel_rfl) ?_
  have hcr : (cellsO D.s.cells)[D.s.cursor * 6 + 1]? = some (.lit (.bool (cellAt D.s D.s.cursor).attr)) := by
    have := congrArg (fun l => l[1]?) hgj
    simpa [List.getElem?_take, List.getElem?_drop] using this
  by_cases hs0 : startS D.s.cells D.s.cursor < 0
  · have hch : chooseB n D = ({ D with lock := 2 }, false, 13) := by
      unfold chooseB okF
      rw [if_pos (by rw [decide_eq_false (by omega)]; simp)]
    rw [hch]
    simp [ho, hx]
    refine callK.of hst ?_
    rintro v τ ⟨rfl, rfl⟩
    simp [hs0]
    refine callK.of (href 2 13) ?_
    rintro v τ ⟨rfl, rfl⟩
    simp
  · cases hca : (cellAt D.s D.s.cursor).attr
    · obtain ⟨a, ha, hal, hata⟩ := start_attr hg hcn (by omega)
      have hfl := fun τ (hτ : Ref τ x y D.s) => rfield_calls hτ a hal
      rw [show D.s.cells[a]?.getD .zero = cellAt D.s a from rfl] at hfl
      have hfof : fofF D.s D.s.cursor = fld (cellAt D.s a).fa := by
        unfold fofF; rw [ha, if_pos (by omega)]; rfl
      have hok : okF D.s D.s.cursor = true := by unfold okF; rw [ha]; simp
      obtain ⟨j, hj⟩ : ∃ j, j = wrap D.s.n ((a : Int) + 1) := ⟨_, rfl⟩
      have hjl : j < D.s.n := by rw [hj]; exact wrap_lt D.s.n_pos _
      have hwr := fun τ (hτ : Ref τ x y D.s) => rswrap_calls hτ ((a : Int) + 1)
      rw [← hj] at hwr
      have hatj : D.s.at ((a : Int) + 1) = cellAt D.s j := by unfold Sp.at; rw [← hj]; rfl
      have hgj2 := cellsO_get (show j < D.s.cells.length by omega)
      have hce2 : D.s.cells[j]'(by omega) = cellAt D.s j := by unfold cellAt; rw [List.getElem?_eq_getElem (by omega)]; rfl
      rw [hce2, show cellC (cellAt D.s j) = [byteA (cellAt D.s j).char, .lit (.bool (cellAt D.s j).attr), byteA (cellAt D.s j).fa, byteA (cellAt D.s j).high, byteA (cellAt D.s j).color, byteA (cellAt D.s j).set] from rfl] at hgj2
      have hch0 : (cellsO D.s.cells)[j * 6]? = some (byteA (cellAt D.s j).char) := by
        have := congrArg (fun l => l[0]?) hgj2
        simpa [List.getElem?_take, List.getElem?_drop] using this
      have hwa : IntKind.i64.wrap ((a : Int) + 1) = (a : Int) + 1 := wrap_i64 (by omega) (by have := D.s.n_le; omega)
      have hdes := fun τ => rdesig_calls hn (cellAt D.s j).char τ
      rw [ha] at hst hs0
      rw [hca] at hcr
      generalize hff : fld (cellAt D.s a).fa = ff at *
      obtain ⟨pr, nu, di, mo⟩ := ff
      have hcB : chooseB n D = if detB ⟨pr, nu, di, mo⟩ = false then ({ D with lock := 2 }, false, 13)
        else if desigN n (cellAt D.s j).char = 0 ∨ desigN n (cellAt D.s j).char < 3 ∧ pr = true then ({ D with lock := 2 }, false, 13)
        else if desigN n (cellAt D.s j).char = 1 then ({ D with s := modS (D.s.put ((a : Int) + 1) (codeU n 62)) D.s.cursor }, false, 0)
        else if desigN n (cellAt D.s j).char = 2 then ({ D with s := D.s.put ((a : Int) + 1) (codeU n 63) }, false, 0)
        else ({ D with s := modS D.s D.s.cursor, lock := 1, ins := false, aid := if desigN n (cellAt D.s j).char = 3 then 126 else 125 }, true, 0) := by
        unfold chooseB
        dsimp only
        rw [hat1, hca, hok, hfof, ha, hatj]
        cases hd : detB ⟨pr, nu, di, mo⟩
        · simp
        · simp
      simp only [byteA] at hch0 hdes
      have hdle : desigN n (cellAt D.s j).char ≤ 4 := by unfold desigN; repeat' split
                                                         all_goals omega
      generalize (cellAt D.s j).char = ch at *
      generalize hdd : desigN n ch = d at *
      have hnew : ∀ (b7 : Nat) X, σ b7 = none → DOk (σ.upd b7 X) c x y n D := fun b7 X hb => by
        have f := h.ref.fresh hb
        have fc : ¬ c = b7 := fun e => by subst e; rw [h.obj] at hb; cases hb
        exact ⟨by simp [fc, h.obj], h.ref.new hb X, h.cx, h.cy⟩
      simp [ho, hx]
      refine callK.of hst ?_
      rintro v τ ⟨rfl, eτ⟩
      rw [eτ]
      clear eτ τ
      simp [hs0, hx, hy, rowC, hcn, hcr]
      refine callK.of (hfl _ h.ref) ?_
      rintro v τ ⟨rfl, eτ⟩
      rw [eτ]
      clear eτ τ
      simp [fldA]
      intro b7 hb7
      have D7 := hnew b7 [.lit (.bool pr), .lit (.bool nu), .lit (.int .i64 di), .lit (.bool mo)] hb7
      obtain ⟨f1, f2, f3, f4⟩ := h.ref.fresh hb7
      have fc : ¬ c = b7 := fun e => by subst e; rw [h.obj] at hb7; cases hb7
      have fc' : ¬ b7 = c := fun e => fc e.symm
      have hfin : ∀ D', Store.sub (dbS σ c x y n D') (dbS (σ.upd b7 [.lit (.bool pr), .lit (.bool nu), .lit (.int .i64 di), .lit (.bool mo)]) c x y n D') := fun D' => by
        have e : dbS (σ.upd b7 [.lit (.bool pr), .lit (.bool nu), .lit (.int .i64 di), .lit (.bool mo)]) c x y n D' = (dbS σ c x y n D').upd b7 [.lit (.bool pr), .lit (.bool nu), .lit (.int .i64 di), .lit (.bool mo)] := by
          unfold dbS
          rw [putS_upd _ _ f3 f4, supd_swap _ fc]
        rw [e]
        refine Store.sub_upd ?_ (Store.sub_refl _)
        simp [dbS, putS, fc', f3, f4, hb7]
      have hup : Store.upd (Store.upd σ b7 [.lit (.bool false), .lit (.bool false), .lit (.int .i64 0), .lit (.bool false)]) b7 [.lit (.bool pr), .lit (.bool nu), .lit (.int .i64 di), .lit (.bool mo)] = σ.upd b7 [.lit (.bool pr), .lit (.bool nu), .lit (.int .i64 di), .lit (.bool mo)] := by
        refine Store.ext2 (fun o => ?_) (fun i => by simp)
        by_cases e : o = b7 <;> simp [e]
      have g7 : Store.upd σ b7 [.lit (.bool pr), .lit (.bool nu), .lit (.int .i64 di), .lit (.bool mo)] b7 = some [.lit (.bool pr), .lit (.bool nu), .lit (.int .i64 di), .lit (.bool mo)] := by simp
      have gc := D7.obj
      have gx := D7.ref.obj
      have gy := D7.ref.row
      unfold rbdO at gc
      unfold rfO at gx
      have hmn : D.s.good := hg
      have hm1 : ACalls Tryz.prog 106 [ptrA x, .lit (.int .i64 D.s.cursor)] (σ.upd b7 [.lit (.bool pr), .lit (.bool nu), .lit (.int .i64 di), .lit (.bool mo)]) fun v σ' => v = .lit (.bool true) ∧ σ' = dbS (σ.upd b7 [.lit (.bool pr), .lit (.bool nu), .lit (.int .i64 di), .lit (.bool mo)]) c x y n { D with s := modS D.s D.s.cursor } := by
        have := rmodify_calls D7.ref hcn
        rw [ha, dbS_scr D7] at this
        simpa using this
      have D8 := D7.up (D2 := { D with s := modS D.s D.s.cursor }) (modS_same hg _).1
      have hpu : ∀ b, ACalls Tryz.prog 20 [ptrA x, .lit (.int .i64 ((a : Int) + 1)), byteA b] (dbS (σ.upd b7 [.lit (.bool pr), .lit (.bool nu), .lit (.int .i64 di), .lit (.bool mo)]) c x y n { D with s := modS D.s D.s.cursor }) fun v σ' => v = .tuple [] ∧ σ' = dbS (σ.upd b7 [.lit (.bool pr), .lit (.bool nu), .lit (.int .i64 di), .lit (.bool mo)]) c x y n { D with s := modS (D.s.put ((a : Int) + 1) b) D.s.cursor } := fun b => by
        have := rput_calls D8.ref ((a : Int) + 1) b
        rw [dbS_scr D8, dbS_dbS] at this
        rw [← mod_put hg hcn ha]
        exact this
      have hp3 : ∀ b, ACalls Tryz.prog 20 [ptrA x, .lit (.int .i64 ((a : Int) + 1)), byteA b] (σ.upd b7 [.lit (.bool pr), .lit (.bool nu), .lit (.int .i64 di), .lit (.bool mo)]) fun v σ' => v = .tuple [] ∧ σ' = dbS (σ.upd b7 [.lit (.bool pr), .lit (.bool nu), .lit (.int .i64 di), .lit (.bool mo)]) c x y n { D with s := D.s.put ((a : Int) + 1) b } := fun b => by
        have := rput_calls D7.ref ((a : Int) + 1) b
        rw [dbS_scr D7] at this
        exact this
      have hse : ∀ aid, ACalls Tryz.prog 66 [ptrA c, byteA aid] (dbS (σ.upd b7 [.lit (.bool pr), .lit (.bool nu), .lit (.int .i64 di), .lit (.bool mo)]) c x y n { D with s := modS D.s D.s.cursor }) fun v σ' => v = .tuple [.lit (.bool true), .lit (.int .i64 0)] ∧ σ' = dbS (σ.upd b7 [.lit (.bool pr), .lit (.bool nu), .lit (.int .i64 di), .lit (.bool mo)]) c x y n { D with s := modS D.s D.s.cursor, lock := 1, ins := false, aid := aid } := fun aid => by
        have := rsend_calls D8 aid
        rw [dbS_dbS] at this
        exact this
      have hre := rrefuse_calls D7 2 13
      have hcd := fun τ sg => rcode_calls n hn sg τ
      obtain ⟨z63, z62⟩ := code63 hn
      have w63 : IntKind.u8.wrap (codeZ n 63) = ((codeU n 63).toNat : Int) := by rw [z63]; have := (codeU n 63).toNat_lt; exact wrap_u8 (by omega) (by omega)
      have w62 : IntKind.u8.wrap (codeZ n 62) = ((codeU n 62).toNat : Int) := by rw [z62]; have := (codeU n 62).toNat_lt; exact wrap_u8 (by omega) (by omega)
      have hwr7 := hwr _ D7.ref
      have hgc2 : ∀ D', dbS (σ.upd b7 [.lit (.bool pr), .lit (.bool nu), .lit (.int .i64 di), .lit (.bool mo)]) c x y n D' c = some [ptrA x, .lit (.int .i64 n), .lit (.int .i64 D'.lock), .lit (.bool D'.ins), byteA D'.aid] := fun D' => by simp [dbS, rbdO]
      simp only [byteA] at gc hpu hp3 hse
      rw [hup]
      generalize σ.upd b7 [.lit (.bool pr), .lit (.bool nu), .lit (.int .i64 di), .lit (.bool mo)] = T at *
      by_cases hdt : di = 1 ∨ di = 2
      · have hdf : ¬ detB ⟨pr, nu, di, mo⟩ = false := by unfold detB; rcases hdt with e | e <;> simp [e]
        rw [if_neg hdf] at hcB
        clear hnew D7 D8 hg hmn hff hata
        rcases hdt with rfl | rfl
        · rcases (by omega : d = 0 ∨ d = 1 ∨ d = 2 ∨ d = 3 ∨ d = 4) with rfl | rfl | rfl | rfl | rfl
          · rw [if_pos (.inl rfl)] at hcB
            rw [hcB]
            simp [ho, hx, hy, gc, gx, gy, g7, fc, fc', f1, f2, f3, f4, hwa, rowC, hjl, hch0, hgc2, w62, w63]
            repeat' first
              | with_reducible apply And.intro
              | (refine callK.of (hwr7) ?_; rintro v τ ⟨rfl, eτ⟩; rw [eτ]; clear eτ τ; simp [ho, hx, hy, gc, gx, gy, g7, fc, fc', f1, f2, f3, f4, hwa, rowC, hjl, hch0, hgc2, w62, w63])
              | (refine callK.of (hdes _) ?_; rintro v τ ⟨rfl, eτ⟩; rw [eτ]; clear eτ τ; simp [ho, hx, hy, gc, gx, gy, g7, fc, fc', f1, f2, f3, f4, hwa, rowC, hjl, hch0, hgc2, w62, w63])
              | (refine callK.of (hre) ?_; rintro v τ ⟨rfl, eτ⟩; rw [eτ]; clear eτ τ; simp [ho, hx, hy, gc, gx, gy, g7, fc, fc', f1, f2, f3, f4, hwa, rowC, hjl, hch0, hgc2, w62, w63])
              | exact hfin _
          · cases pr
            · rw [if_neg (by simp), if_pos rfl] at hcB
              rw [hcB]
              simp [ho, hx, hy, gc, gx, gy, g7, fc, fc', f1, f2, f3, f4, hwa, rowC, hjl, hch0, hgc2, w62, w63]
              repeat' first
                | with_reducible apply And.intro
                | (refine callK.of (hwr7) ?_; rintro v τ ⟨rfl, eτ⟩; rw [eτ]; clear eτ τ; simp [ho, hx, hy, gc, gx, gy, g7, fc, fc', f1, f2, f3, f4, hwa, rowC, hjl, hch0, hgc2, w62, w63])
                | (refine callK.of (hdes _) ?_; rintro v τ ⟨rfl, eτ⟩; rw [eτ]; clear eτ τ; simp [ho, hx, hy, gc, gx, gy, g7, fc, fc', f1, f2, f3, f4, hwa, rowC, hjl, hch0, hgc2, w62, w63])
                | (refine callK.of (hm1) ?_; rintro v τ ⟨rfl, eτ⟩; rw [eτ]; clear eτ τ; simp [ho, hx, hy, gc, gx, gy, g7, fc, fc', f1, f2, f3, f4, hwa, rowC, hjl, hch0, hgc2, w62, w63])
                | (refine callK.of (hcd _ 62) ?_; rintro v τ ⟨rfl, eτ⟩; rw [eτ]; clear eτ τ; simp [ho, hx, hy, gc, gx, gy, g7, fc, fc', f1, f2, f3, f4, hwa, rowC, hjl, hch0, hgc2, w62, w63])
                | (refine callK.of (hpu _) ?_; rintro v τ ⟨rfl, eτ⟩; rw [eτ]; clear eτ τ; simp [ho, hx, hy, gc, gx, gy, g7, fc, fc', f1, f2, f3, f4, hwa, rowC, hjl, hch0, hgc2, w62, w63])
                | exact hfin _
            · rw [if_pos (.inr ⟨by decide, rfl⟩)] at hcB
              rw [hcB]
              simp [ho, hx, hy, gc, gx, gy, g7, fc, fc', f1, f2, f3, f4, hwa, rowC, hjl, hch0, hgc2, w62, w63]
              repeat' first
                | with_reducible apply And.intro
                | (refine callK.of (hwr7) ?_; rintro v τ ⟨rfl, eτ⟩; rw [eτ]; clear eτ τ; simp [ho, hx, hy, gc, gx, gy, g7, fc, fc', f1, f2, f3, f4, hwa, rowC, hjl, hch0, hgc2, w62, w63])
                | (refine callK.of (hdes _) ?_; rintro v τ ⟨rfl, eτ⟩; rw [eτ]; clear eτ τ; simp [ho, hx, hy, gc, gx, gy, g7, fc, fc', f1, f2, f3, f4, hwa, rowC, hjl, hch0, hgc2, w62, w63])
                | (refine callK.of (hre) ?_; rintro v τ ⟨rfl, eτ⟩; rw [eτ]; clear eτ τ; simp [ho, hx, hy, gc, gx, gy, g7, fc, fc', f1, f2, f3, f4, hwa, rowC, hjl, hch0, hgc2, w62, w63])
                | exact hfin _
          · cases pr
            · rw [if_neg (by simp), if_neg (by simp), if_pos rfl] at hcB
              rw [hcB]
              simp [ho, hx, hy, gc, gx, gy, g7, fc, fc', f1, f2, f3, f4, hwa, rowC, hjl, hch0, hgc2, w62, w63]
              repeat' first
                | with_reducible apply And.intro
                | (refine callK.of (hwr7) ?_; rintro v τ ⟨rfl, eτ⟩; rw [eτ]; clear eτ τ; simp [ho, hx, hy, gc, gx, gy, g7, fc, fc', f1, f2, f3, f4, hwa, rowC, hjl, hch0, hgc2, w62, w63])
                | (refine callK.of (hdes _) ?_; rintro v τ ⟨rfl, eτ⟩; rw [eτ]; clear eτ τ; simp [ho, hx, hy, gc, gx, gy, g7, fc, fc', f1, f2, f3, f4, hwa, rowC, hjl, hch0, hgc2, w62, w63])
                | (refine callK.of (hcd _ 63) ?_; rintro v τ ⟨rfl, eτ⟩; rw [eτ]; clear eτ τ; simp [ho, hx, hy, gc, gx, gy, g7, fc, fc', f1, f2, f3, f4, hwa, rowC, hjl, hch0, hgc2, w62, w63])
                | (refine callK.of (hp3 _) ?_; rintro v τ ⟨rfl, eτ⟩; rw [eτ]; clear eτ τ; simp [ho, hx, hy, gc, gx, gy, g7, fc, fc', f1, f2, f3, f4, hwa, rowC, hjl, hch0, hgc2, w62, w63])
                | exact hfin _
            · rw [if_pos (.inr ⟨by decide, rfl⟩)] at hcB
              rw [hcB]
              simp [ho, hx, hy, gc, gx, gy, g7, fc, fc', f1, f2, f3, f4, hwa, rowC, hjl, hch0, hgc2, w62, w63]
              repeat' first
                | with_reducible apply And.intro
                | (refine callK.of (hwr7) ?_; rintro v τ ⟨rfl, eτ⟩; rw [eτ]; clear eτ τ; simp [ho, hx, hy, gc, gx, gy, g7, fc, fc', f1, f2, f3, f4, hwa, rowC, hjl, hch0, hgc2, w62, w63])
                | (refine callK.of (hdes _) ?_; rintro v τ ⟨rfl, eτ⟩; rw [eτ]; clear eτ τ; simp [ho, hx, hy, gc, gx, gy, g7, fc, fc', f1, f2, f3, f4, hwa, rowC, hjl, hch0, hgc2, w62, w63])
                | (refine callK.of (hre) ?_; rintro v τ ⟨rfl, eτ⟩; rw [eτ]; clear eτ τ; simp [ho, hx, hy, gc, gx, gy, g7, fc, fc', f1, f2, f3, f4, hwa, rowC, hjl, hch0, hgc2, w62, w63])
                | exact hfin _
          · rw [if_neg (by simp), if_neg (by simp), if_neg (by simp)] at hcB
            rw [hcB]
            simp [ho, hx, hy, gc, gx, gy, g7, fc, fc', f1, f2, f3, f4, hwa, rowC, hjl, hch0, hgc2, w62, w63]
            repeat' first
              | with_reducible apply And.intro
              | (refine callK.of (hwr7) ?_; rintro v τ ⟨rfl, eτ⟩; rw [eτ]; clear eτ τ; simp [ho, hx, hy, gc, gx, gy, g7, fc, fc', f1, f2, f3, f4, hwa, rowC, hjl, hch0, hgc2, w62, w63])
              | (refine callK.of (hdes _) ?_; rintro v τ ⟨rfl, eτ⟩; rw [eτ]; clear eτ τ; simp [ho, hx, hy, gc, gx, gy, g7, fc, fc', f1, f2, f3, f4, hwa, rowC, hjl, hch0, hgc2, w62, w63])
              | (refine callK.of (hm1) ?_; rintro v τ ⟨rfl, eτ⟩; rw [eτ]; clear eτ τ; simp [ho, hx, hy, gc, gx, gy, g7, fc, fc', f1, f2, f3, f4, hwa, rowC, hjl, hch0, hgc2, w62, w63])
              | (refine callK.of (hse 126) ?_; rintro v τ ⟨rfl, eτ⟩; rw [eτ]; clear eτ τ; simp [ho, hx, hy, gc, gx, gy, g7, fc, fc', f1, f2, f3, f4, hwa, rowC, hjl, hch0, hgc2, w62, w63])
              | exact hfin _
          · rw [if_neg (by simp), if_neg (by simp), if_neg (by simp)] at hcB
            rw [hcB]
            simp [ho, hx, hy, gc, gx, gy, g7, fc, fc', f1, f2, f3, f4, hwa, rowC, hjl, hch0, hgc2, w62, w63]
            repeat' first
              | with_reducible apply And.intro
              | (refine callK.of (hwr7) ?_; rintro v τ ⟨rfl, eτ⟩; rw [eτ]; clear eτ τ; simp [ho, hx, hy, gc, gx, gy, g7, fc, fc', f1, f2, f3, f4, hwa, rowC, hjl, hch0, hgc2, w62, w63])
              | (refine callK.of (hdes _) ?_; rintro v τ ⟨rfl, eτ⟩; rw [eτ]; clear eτ τ; simp [ho, hx, hy, gc, gx, gy, g7, fc, fc', f1, f2, f3, f4, hwa, rowC, hjl, hch0, hgc2, w62, w63])
              | (refine callK.of (hm1) ?_; rintro v τ ⟨rfl, eτ⟩; rw [eτ]; clear eτ τ; simp [ho, hx, hy, gc, gx, gy, g7, fc, fc', f1, f2, f3, f4, hwa, rowC, hjl, hch0, hgc2, w62, w63])
              | (refine callK.of (hse 125) ?_; rintro v τ ⟨rfl, eτ⟩; rw [eτ]; clear eτ τ; simp [ho, hx, hy, gc, gx, gy, g7, fc, fc', f1, f2, f3, f4, hwa, rowC, hjl, hch0, hgc2, w62, w63])
              | exact hfin _
        · rcases (by omega : d = 0 ∨ d = 1 ∨ d = 2 ∨ d = 3 ∨ d = 4) with rfl | rfl | rfl | rfl | rfl
          · rw [if_pos (.inl rfl)] at hcB
            rw [hcB]
            simp [ho, hx, hy, gc, gx, gy, g7, fc, fc', f1, f2, f3, f4, hwa, rowC, hjl, hch0, hgc2, w62, w63]
            repeat' first
              | with_reducible apply And.intro
              | (refine callK.of (hwr7) ?_; rintro v τ ⟨rfl, eτ⟩; rw [eτ]; clear eτ τ; simp [ho, hx, hy, gc, gx, gy, g7, fc, fc', f1, f2, f3, f4, hwa, rowC, hjl, hch0, hgc2, w62, w63])
              | (refine callK.of (hdes _) ?_; rintro v τ ⟨rfl, eτ⟩; rw [eτ]; clear eτ τ; simp [ho, hx, hy, gc, gx, gy, g7, fc, fc', f1, f2, f3, f4, hwa, rowC, hjl, hch0, hgc2, w62, w63])
              | (refine callK.of (hre) ?_; rintro v τ ⟨rfl, eτ⟩; rw [eτ]; clear eτ τ; simp [ho, hx, hy, gc, gx, gy, g7, fc, fc', f1, f2, f3, f4, hwa, rowC, hjl, hch0, hgc2, w62, w63])
              | exact hfin _
          · cases pr
            · rw [if_neg (by simp), if_pos rfl] at hcB
              rw [hcB]
              simp [ho, hx, hy, gc, gx, gy, g7, fc, fc', f1, f2, f3, f4, hwa, rowC, hjl, hch0, hgc2, w62, w63]
              repeat' first
                | with_reducible apply And.intro
                | (refine callK.of (hwr7) ?_; rintro v τ ⟨rfl, eτ⟩; rw [eτ]; clear eτ τ; simp [ho, hx, hy, gc, gx, gy, g7, fc, fc', f1, f2, f3, f4, hwa, rowC, hjl, hch0, hgc2, w62, w63])
                | (refine callK.of (hdes _) ?_; rintro v τ ⟨rfl, eτ⟩; rw [eτ]; clear eτ τ; simp [ho, hx, hy, gc, gx, gy, g7, fc, fc', f1, f2, f3, f4, hwa, rowC, hjl, hch0, hgc2, w62, w63])
                | (refine callK.of (hm1) ?_; rintro v τ ⟨rfl, eτ⟩; rw [eτ]; clear eτ τ; simp [ho, hx, hy, gc, gx, gy, g7, fc, fc', f1, f2, f3, f4, hwa, rowC, hjl, hch0, hgc2, w62, w63])
                | (refine callK.of (hcd _ 62) ?_; rintro v τ ⟨rfl, eτ⟩; rw [eτ]; clear eτ τ; simp [ho, hx, hy, gc, gx, gy, g7, fc, fc', f1, f2, f3, f4, hwa, rowC, hjl, hch0, hgc2, w62, w63])
                | (refine callK.of (hpu _) ?_; rintro v τ ⟨rfl, eτ⟩; rw [eτ]; clear eτ τ; simp [ho, hx, hy, gc, gx, gy, g7, fc, fc', f1, f2, f3, f4, hwa, rowC, hjl, hch0, hgc2, w62, w63])
                | exact hfin _
            · rw [if_pos (.inr ⟨by decide, rfl⟩)] at hcB
              rw [hcB]
              simp [ho, hx, hy, gc, gx, gy, g7, fc, fc', f1, f2, f3, f4, hwa, rowC, hjl, hch0, hgc2, w62, w63]
              repeat' first
                | with_reducible apply And.intro
                | (refine callK.of (hwr7) ?_; rintro v τ ⟨rfl, eτ⟩; rw [eτ]; clear eτ τ; simp [ho, hx, hy, gc, gx, gy, g7, fc, fc', f1, f2, f3, f4, hwa, rowC, hjl, hch0, hgc2, w62, w63])
                | (refine callK.of (hdes _) ?_; rintro v τ ⟨rfl, eτ⟩; rw [eτ]; clear eτ τ; simp [ho, hx, hy, gc, gx, gy, g7, fc, fc', f1, f2, f3, f4, hwa, rowC, hjl, hch0, hgc2, w62, w63])
                | (refine callK.of (hre) ?_; rintro v τ ⟨rfl, eτ⟩; rw [eτ]; clear eτ τ; simp [ho, hx, hy, gc, gx, gy, g7, fc, fc', f1, f2, f3, f4, hwa, rowC, hjl, hch0, hgc2, w62, w63])
                | exact hfin _
          · cases pr
            · rw [if_neg (by simp), if_neg (by simp), if_pos rfl] at hcB
              rw [hcB]
              simp [ho, hx, hy, gc, gx, gy, g7, fc, fc', f1, f2, f3, f4, hwa, rowC, hjl, hch0, hgc2, w62, w63]
              repeat' first
                | with_reducible apply And.intro
                | (refine callK.of (hwr7) ?_; rintro v τ ⟨rfl, eτ⟩; rw [eτ]; clear eτ τ; simp [ho, hx, hy, gc, gx, gy, g7, fc, fc', f1, f2, f3, f4, hwa, rowC, hjl, hch0, hgc2, w62, w63])
                | (refine callK.of (hdes _) ?_; rintro v τ ⟨rfl, eτ⟩; rw [eτ]; clear eτ τ; simp [ho, hx, hy, gc, gx, gy, g7, fc, fc', f1, f2, f3, f4, hwa, rowC, hjl, hch0, hgc2, w62, w63])
                | (refine callK.of (hcd _ 63) ?_; rintro v τ ⟨rfl, eτ⟩; rw [eτ]; clear eτ τ; simp [ho, hx, hy, gc, gx, gy, g7, fc, fc', f1, f2, f3, f4, hwa, rowC, hjl, hch0, hgc2, w62, w63])
                | (refine callK.of (hp3 _) ?_; rintro v τ ⟨rfl, eτ⟩; rw [eτ]; clear eτ τ; simp [ho, hx, hy, gc, gx, gy, g7, fc, fc', f1, f2, f3, f4, hwa, rowC, hjl, hch0, hgc2, w62, w63])
                | exact hfin _
            · rw [if_pos (.inr ⟨by decide, rfl⟩)] at hcB
              rw [hcB]
              simp [ho, hx, hy, gc, gx, gy, g7, fc, fc', f1, f2, f3, f4, hwa, rowC, hjl, hch0, hgc2, w62, w63]
              repeat' first
                | with_reducible apply And.intro
                | (refine callK.of (hwr7) ?_; rintro v τ ⟨rfl, eτ⟩; rw [eτ]; clear eτ τ; simp [ho, hx, hy, gc, gx, gy, g7, fc, fc', f1, f2, f3, f4, hwa, rowC, hjl, hch0, hgc2, w62, w63])
                | (refine callK.of (hdes _) ?_; rintro v τ ⟨rfl, eτ⟩; rw [eτ]; clear eτ τ; simp [ho, hx, hy, gc, gx, gy, g7, fc, fc', f1, f2, f3, f4, hwa, rowC, hjl, hch0, hgc2, w62, w63])
                | (refine callK.of (hre) ?_; rintro v τ ⟨rfl, eτ⟩; rw [eτ]; clear eτ τ; simp [ho, hx, hy, gc, gx, gy, g7, fc, fc', f1, f2, f3, f4, hwa, rowC, hjl, hch0, hgc2, w62, w63])
                | exact hfin _
          · rw [if_neg (by simp), if_neg (by simp), if_neg (by simp)] at hcB
            rw [hcB]
            simp [ho, hx, hy, gc, gx, gy, g7, fc, fc', f1, f2, f3, f4, hwa, rowC, hjl, hch0, hgc2, w62, w63]
            repeat' first
              | with_reducible apply And.intro
              | (refine callK.of (hwr7) ?_; rintro v τ ⟨rfl, eτ⟩; rw [eτ]; clear eτ τ; simp [ho, hx, hy, gc, gx, gy, g7, fc, fc', f1, f2, f3, f4, hwa, rowC, hjl, hch0, hgc2, w62, w63])
              | (refine callK.of (hdes _) ?_; rintro v τ ⟨rfl, eτ⟩; rw [eτ]; clear eτ τ; simp [ho, hx, hy, gc, gx, gy, g7, fc, fc', f1, f2, f3, f4, hwa, rowC, hjl, hch0, hgc2, w62, w63])
              | (refine callK.of (hm1) ?_; rintro v τ ⟨rfl, eτ⟩; rw [eτ]; clear eτ τ; simp [ho, hx, hy, gc, gx, gy, g7, fc, fc', f1, f2, f3, f4, hwa, rowC, hjl, hch0, hgc2, w62, w63])
              | (refine callK.of (hse 126) ?_; rintro v τ ⟨rfl, eτ⟩; rw [eτ]; clear eτ τ; simp [ho, hx, hy, gc, gx, gy, g7, fc, fc', f1, f2, f3, f4, hwa, rowC, hjl, hch0, hgc2, w62, w63])
              | exact hfin _
          · rw [if_neg (by simp), if_neg (by simp), if_neg (by simp)] at hcB
            rw [hcB]
            simp [ho, hx, hy, gc, gx, gy, g7, fc, fc', f1, f2, f3, f4, hwa, rowC, hjl, hch0, hgc2, w62, w63]
            repeat' first
              | with_reducible apply And.intro
              | (refine callK.of (hwr7) ?_; rintro v τ ⟨rfl, eτ⟩; rw [eτ]; clear eτ τ; simp [ho, hx, hy, gc, gx, gy, g7, fc, fc', f1, f2, f3, f4, hwa, rowC, hjl, hch0, hgc2, w62, w63])
              | (refine callK.of (hdes _) ?_; rintro v τ ⟨rfl, eτ⟩; rw [eτ]; clear eτ τ; simp [ho, hx, hy, gc, gx, gy, g7, fc, fc', f1, f2, f3, f4, hwa, rowC, hjl, hch0, hgc2, w62, w63])
              | (refine callK.of (hm1) ?_; rintro v τ ⟨rfl, eτ⟩; rw [eτ]; clear eτ τ; simp [ho, hx, hy, gc, gx, gy, g7, fc, fc', f1, f2, f3, f4, hwa, rowC, hjl, hch0, hgc2, w62, w63])
              | (refine callK.of (hse 125) ?_; rintro v τ ⟨rfl, eτ⟩; rw [eτ]; clear eτ τ; simp [ho, hx, hy, gc, gx, gy, g7, fc, fc', f1, f2, f3, f4, hwa, rowC, hjl, hch0, hgc2, w62, w63])
              | exact hfin _
      · have hd1 : ¬ di = 1 := fun e => hdt (.inl e)
        have hd2 : ¬ di = 2 := fun e => hdt (.inr e)
        have hd1' : ¬ (di : Int) = 1 := by omega
        have hd2' : ¬ (di : Int) = 2 := by omega
        have hdf : detB ⟨pr, nu, di, mo⟩ = false := by unfold detB; simp [hd1, hd2]
        rw [if_pos hdf] at hcB
        rw [hcB]
        simp [ho, hx, hy, gc, gx, gy, g7, fc, fc', f1, f2, f3, f4, hwa, rowC, hjl, hch0, hd1, hd2, hd1', hd2']
        repeat' first
          | with_reducible apply And.intro
          | (refine callK.of (hwr7) ?_; rintro v τ ⟨rfl, eτ⟩; rw [eτ]; clear eτ τ; simp [ho, hx, hy, gc, gx, gy, g7, fc, fc', f1, f2, f3, f4, hwa, rowC, hjl, hch0, hd1, hd2, hd1', hd2'])
          | (refine callK.of (hdes _) ?_; rintro v τ ⟨rfl, eτ⟩; rw [eτ]; clear eτ τ; simp [ho, hx, hy, gc, gx, gy, g7, fc, fc', f1, f2, f3, f4, hwa, rowC, hjl, hch0, hd1, hd2, hd1', hd2'])
          | (refine callK.of (hre) ?_; rintro v τ ⟨rfl, eτ⟩; rw [eτ]; clear eτ τ; simp [ho, hx, hy, gc, gx, gy, g7, fc, fc', f1, f2, f3, f4, hwa, rowC, hjl, hch0, hd1, hd2, hd1', hd2'])
          | exact hfin _
    · have hch : chooseB n D = ({ D with lock := 2 }, false, 13) := by
        unfold chooseB
        rw [hat1, hca, if_pos (by simp)]
      rw [hch]
      rw [hca] at hcr
      simp [ho, hx]
      refine callK.of hst ?_
      rintro v τ ⟨rfl, rfl⟩
      simp [hs0, hx, hy, rowC, hcn, hcr]
      refine callK.of (href 2 13) ?_
      rintro v τ ⟨rfl, rfl⟩
      simp
end Go.Proofs.YtlmdbcgceijlnaaGreat
/-
  A text is typed.
-/
namespace Go.Proofs.YtlmdbcgceijlnaaGreat
open Go Go.AL Go.Sp
variable {σ : Store} {k q r b : Nat} {n : Int} {B : Bd}

theorem widthK_pos (s : ByteArray) (pos : Nat) (h : pos < s.size) : 1 ≤ (Utf8.decode s pos).2 := by
  by_cases ha : (s[pos]'h).toNat < 128
  · rw [decode_ascii s pos h ha]
    exact Nat.le_refl _
  · exact (decode_high s pos h (by omega)).2
def runeK (s : ByteArray) (pos : Nat) : Key := ⟨1, ((Utf8.decode s pos).1 : Nat), 0⟩
def typeF (n : Int) (s : ByteArray) : Nat → Nat → Int → Bd → Bd × Int × Int
  | 0, _, c, B => (B, c, 0)
  | f + 1, pos, c, B =>
    if pos < s.size then
      (if (pressB n B (runeK s pos)).2.2 = 0 then typeF n s f (pos + (Utf8.decode s pos).2) (c + 1) (pressB n B (runeK s pos)).1
       else ((pressB n B (runeK s pos)).1, c, (pressB n B (runeK s pos)).2.2))
    else (B, c, 0)
theorem kS_mput {g : Nat} {x : Option Nat} (hx : ¬ x = some g) (X : List AV) : (kS σ k q r b n x B).put g X = kS (σ.put g X) k q r b n x B := by
  unfold kS putS pgS
  cases x with
  | none =>
    refine Store.ext2 (fun o => by simp) (fun i => by simp)
  | some p =>
    have hp : ¬ p = g := fun e => hx (by rw [e])
    refine Store.ext2 (fun o => by simp) (fun i => ?_)
    by_cases e1 : i = g
    · subst e1; simp [Ne.symm hp]
    · by_cases e2 : i = p
      · subst e2; simp [hp]
      · simp [e1, e2]
theorem KOk.mput (h : KOk σ k q r b n B) (g : Nat) (X : List AV) : KOk (σ.put g X) k q r b n B := { h with none := by simpa using h.none }
theorem kS_mdrop {g : Nat} {x : Option Nat} (hx : ¬ x = some g) (hg : σ (mkey g) = none) (X : List AV) : Store.sub (kS σ k q r b n x B) (kS (σ.put g X) k q r b n x B) := by
  rw [← kS_mput hx]
  have h0 : (kS σ k q r b n x B) (mkey g) = none := by
    cases x with
    | none => simpa [kS, pgS, putS] using hg
    | some p =>
      have hp : ¬ g = p := fun e => hx (by rw [e])
      simpa [kS, pgS, putS, hp] using hg
  refine Store.sub2 (fun o => .inr (by simp)) (fun i => ?_)
  by_cases e : i = g
  · subst e; exact .inl h0
  · right; simp [e]
structure TySt where
  f : Nat
  pos : Nat
  c : Nat
  r : Nat
  x : Option Nat
  B : Bd
set_option maxHeartbeats 1000000 in
set_option maxRecDepth 8000 in
theorem type_calls (h : KOk σ k q r b n B) (x : Option Nat) (s : ByteArray) (hs : s.size ≤ 1000000000) : ACalls Tryz.prog 16 [ptrA k, .lit (.string s)] (kS σ k q r b n x B) fun v σ' => v = .tuple [.lit (.int .i64 (typeF n s s.size 0 0 B).2.1), .lit (.int .i64 (typeF n s s.size 0 0 B).2.2)] ∧
    ∃ (r' : Nat) (x' : Option Nat), KOk σ k q r' b n (typeF n s s.size 0 0 B).1 ∧ NxP σ x x' ∧ σ' = kS σ k q r' b n x' (typeF n s s.size 0 0 B).1 := by
  generalize hT : typeF n s s.size 0 0 B = T at *
  refine ACalls.of_awp follows (st := st16) (plans := pl16) (n := 32) Tryz.func16 rfl (by kernel_rfl) (by kernel_rfl) (by kernel_rfl) ?_
  simp
  intro g hg
  have hxg : ¬ x = some g := by
    rintro rfl
    simp [kS, pgS] at hg
  have hσg : σ (mkey g) = none := by
    cases x with
    | none => simpa [kS, pgS, putS] using hg
    | some p => 
      have hp : ¬ g = p := fun e => hxg (by rw [e])
      simpa [kS, pgS, putS, hp] using hg
  rw [kS_mput hxg]
  refine codeK.loop follows (st := st16) (plans := pl16) (X := TySt) (fun y => s.size - y.pos ≤ y.f ∧ y.c ≤ y.pos ∧ KOk σ k q y.r b n y.B ∧ NxP σ x y.x ∧ ¬ y.x = some g ∧ typeF n s y.f y.pos y.c y.B = T)
    (fun y => [(0, ptrA k), (6, .lit (.int .i64 y.c)), (14, .lit (.pointer (some ⟨g, 0, none⟩)))]) (fun y => kS (σ.put g (iterA s y.pos)) k q y.r b n y.x y.B) (fun y => s.size - y.pos) ⟨s.size, 0, 0, r, x, B⟩ (by kernel_rfl) ⟨by simp, by simp, h, .inl rfl, hxg, by simpa using hT⟩ (by simp) (Store.sub_refl _) fun y hy => ?_
  obtain ⟨f, pos, c, r1, x1, B1⟩ := y
  obtain ⟨h1, h2, hK, hnx, hx1, hTy⟩ := hy
  dsimp only at h1 h2 hK hnx hx1 hTy ⊢
  have hread : (kS (σ.put g (iterA s pos)) k q r1 b n x1 B1) (mkey g) = some (iterA s pos) := by
    cases x1 with
    | none => simp [kS, pgS, putS]
    | some p =>
      have hp : ¬ g = p := fun e => hx1 (by rw [e])
      simp [kS, pgS, putS, hp]
  have hput : ∀ A2, (kS (σ.put g (iterA s pos)) k q r1 b n x1 B1).put g A2 = kS (σ.put g A2) k q r1 b n x1 B1 := fun A2 => by
    rw [kS_mput hx1]
    congr 1
    refine Store.ext2 (fun o => by simp) (fun i => ?_)
    by_cases e : i = g <;> simp [e]
  by_cases hlt : pos < s.size
  · have hw := widthK_pos s pos hlt
    have hc1 : IntKind.i64.wrap ((c : Int) + 1) = ((c + 1 : Nat) : Int) := wrap_i64 (by omega) (by omega)
    obtain ⟨f, rfl⟩ : ∃ f', f = f' + 1 := ⟨f - 1, by omega⟩
    have hpr := press_calls (hK.mput g (iterA s (pos + (Utf8.decode s pos).2))) x1 (runeK s pos)
    have hty : T = (if (pressB n B1 (runeK s pos)).2.2 = 0 then typeF n s f (pos + (Utf8.decode s pos).2) (c + 1) (pressB n B1 (runeK s pos)).1
       else ((pressB n B1 (runeK s pos)).1, (c : Int), (pressB n B1 (runeK s pos)).2.2)) := by
      rw [← hTy, typeF, if_pos hlt]
    have hka : keyA (runeK s pos) = .agg [.lit (.int .i64 1), .lit (.int .i32 ((Utf8.decode s pos).1 : Nat)), .lit (.int .i64 0)] := rfl
    rw [hka] at hpr
    generalize pressB n B1 (runeK s pos) = P at *
    simp [hread, hlt, hput]
    generalize (Utf8.decode s pos).2 = w at *
    refine callK.of hpr ?_
    rintro v τ ⟨rfl, r2, x2, hK2, nx2, rfl⟩
    have hK3 : KOk σ k q r2 b n P.1 := { hK2 with none := by simpa using hK2.none }
    have hx2 : ¬ x2 = some g ∧ NxP σ x x2 := by
      rcases nx2 with rfl | ⟨g2, rfl, hg2⟩
      · exact ⟨hx1, hnx⟩
      · have e : ¬ g2 = g := by rintro rfl; simp at hg2
        refine ⟨fun e2 => e (Option.some.inj e2), .inr ⟨g2, rfl, ?_⟩⟩
        simpa [e] using hg2
    by_cases hz : P.2.2 = 0
    · rw [if_pos hz] at hty
      simp [hz, hc1]
      exact ⟨⟨f, pos + w, c + 1, r2, x2, P.1⟩, ⟨by show s.size ≤ f + (pos + w); omega, by show c + 1 ≤ pos + w; omega, hK3, hx2.2, hx2.1, by rw [hty]; simp⟩, by show s.size - (pos + w) < s.size - pos; omega, by simp, Store.sub_refl _⟩
    · rw [if_neg hz] at hty
      have hz2 : ¬ (0 : Int) = P.2.2 := fun e => hz e.symm
      simp [hz]
      refine ⟨_, AV.le_refl _, kS σ k q r2 b n x2 P.1, ?_, by rw [hty], r2, by rw [hty]; exact hK3, x2, hx2.2, by rw [hty]⟩
      exact kS_mdrop hx2.1 hσg _
  · have hty : T = (B1, (c : Int), 0) := by
      rw [← hTy]
      cases f with
      | zero => rfl
      | succ f => rw [typeF, if_neg hlt]
    simp [hread, hlt]
    exact ⟨_, AV.le_refl _, kS σ k q r1 b n x1 B1, kS_mdrop hx1 hσg _, by rw [hty], r1, by rw [hty]; exact hK, x1, hnx, by rw [hty]⟩
end Go.Proofs.YtlmdbcgceijlnaaGreat
/-
  The example that awake asks for.
-/
namespace Go.Proofs.YtlmdbcgceijlnaaGreat
open Go Go.AL Go.Sp

def awS : Sp := Sp.lays 0 [{ what := 3, n := 0, on := false, code := 0, c := .zero, text := [] }, { what := 1, n := 1, on := false, code := 0, c := .zero, text := [] }]
def awT : Bd × Int × Int := typeF 37 ⟨#[65, 98]⟩ 2 0 0 (newB awS)
theorem aw_ex : awT.2.1 = 2 ∧ awT.2.2 = 0 ∧ (awT.1.s.at 1).char = 193 ∧ (awT.1.s.at 2).char = 130 ∧ (awT.1.s.at 0).fa = 1 ∧ (pressB 37 awT.1 ⟨19, 0, 0⟩).2 = (true, 0) ∧ (pressB 37 awT.1 ⟨19, 0, 0⟩).1.aid = 125 ∧ (pressB 37 awT.1 ⟨19, 0, 0⟩).1.lock = 1 := by
  decide +kernel
end Go.Proofs.YtlmdbcgceijlnaaGreat
