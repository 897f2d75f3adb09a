/-
  A character is put on the program's screen.
-/
import Derived.Test.YtnlggjbcdienfaaGreatDoorPart14
namespace Go.Proofs.YtnlggjbcdienfaaGreatDoor
open Go Go.AL Go.Sp

theorem cellsO_char : ∀ (l : List Cell) (i : Nat) (h : i < l.length) (b : UInt8), (cellsO l).set (i * 6) (byteA b) = cellsO (l.set i { l[i] with char := b })
  | c :: l, 0, _, b => by simp [cellsO, cellC]
  | c :: l, i + 1, h, b => by
    have ih := cellsO_char l i (by simpa using h) b
    have e : (i + 1) * 6 = 6 + i * 6 := by omega
    simp only [cellsO, List.flatMap_cons, List.set_cons_succ, List.getElem_cons_succ] at ih ⊢
    rw [e, List.set_append, if_neg (by rw [cellC_length]; omega), cellC_length, show 6 + i * 6 - 6 = i * 6 from by omega, ih]
theorem put_cells {s : Sp} (h : s.good) (k : Int) (b : UInt8) (hc : (s.at k).attr = false) : (s.put k b).cells = s.cells.set (wrap s.n k) { s.at k with char := b } ∧ (s.put k b).count = s.count := by
  have hlt := wrap_lt s.n_pos k
  have hlt' : wrap s.n k < s.cells.length := by rw [h.len]; exact hlt
  have hak : s.at k = s.cells[wrap s.n k] := by simp [Sp.at, hlt']
  have hf := h.fit _ (List.getElem_mem hlt')
  rw [← hak] at hf
  unfold fitted Sp.fit at hf
  rw [if_neg (by simp [hc])] at hf
  have hfa : (s.at k).fa = 0 := by rw [← hf]
  have hput : s.put k b = s.set k { s.at k with char := b } := by unfold Sp.put; rw [if_neg (by simp [hc])]
  have hfit : Sp.fit { s.at k with char := b } = { s.at k with char := b } := by unfold Sp.fit; rw [if_neg (by simp [hc]), ← hfa]
  have hcells : (s.put k b).cells = s.cells.set (wrap s.n k) { s.at k with char := b } := by rw [hput]; unfold Sp.set Sp.put1; rw [hfit]
  refine ⟨hcells, ?_⟩
  have hda : ({ s.at k with char := b } : Cell).attr = false := hc
  generalize ({ s.at k with char := b } : Cell) = d at *
  have hcn := count_set hlt' d
  rw [← hak, hc, hda] at hcn
  simp at hcn
  unfold Sp.count
  rw [hcells]; exact Int.ofNat.inj hcn
theorem spO_put (s : Sp) (k : Int) (b : UInt8) (p : Nat) (h : (s.put k b).count = s.count) : spO (s.put k b) p = spO s p := by
  have hm := s.model_put k b
  have hcu : (s.put k b).cursor = s.cursor := by unfold Sp.put; split <;> rfl
  unfold spO Sp.rows Sp.cols Sp.n Sp.rows Sp.cols
  rw [hm.1, hm.2, hcu, h]
set_option maxRecDepth 8000 in
theorem pput_calls {q p : Nat} {s : Sp} {σ : Store} (h : Prg σ q p s) (k : Int) (b : UInt8) : ACalls Tryz.prog 96 [ptrA q, .lit (.int .i64 k), byteA b] σ fun v σ' => v = .tuple [] ∧ σ' = putS spO σ q p (s.put k b) := by
  have ho := h.obj
  have hr := h.row
  have hw := fun τ => swrap_calls s k τ
  have hlt := wrap_lt s.n_pos k
  have hlt' : wrap s.n k < s.cells.length := by rw [h.good.len]; exact hlt
  have hak : s.at k = s.cells[wrap s.n k] := by simp [Sp.at, hlt']
  have hg1 := cellsO_get1 (j := 1) hlt' (by omega)
  rw [← hak] at hg1
  have hg2 : (cellsO s.cells)[wrap s.n k * 6 + 1]? = some (.lit (.bool (s.at k).attr)) := hg1
  have hle : wrap s.n k * 6 + 1 ≤ (cellsO s.cells).length := by rw [cellsO_length]; omega
  have hset := cellsO_char s.cells (wrap s.n k) hlt' b
  rw [← hak] at hset
  have hpq : ¬ p = q := Ne.symm h.ne
  have hqp : ¬ q = p := h.ne
  unfold spO at ho
  refine ACalls.of_awp follows (st := st96) (plans := pl96) (n := 29) Tryz.func96 rfl (by kernel_rfl) (by kernel_rfl) (by kernel_rfl) ?_
  by_cases hc : (s.at k).attr = true
  · have hp : s.put k b = s := by unfold Sp.put; rw [if_pos hc]
    rw [hp, h.put_self]
    rw [hc] at hg2
    simp [ho, rowC]
    refine ⟨?_, ?_⟩
    all_goals
      refine callK.of (hw _) ?_
      rintro v σ' ⟨rfl, rfl⟩
      simp [ho, hr, rowC, hlt, hg2]
  · have hc' : (s.at k).attr = false := by simpa using hc
    obtain ⟨hp1, hp2⟩ := put_cells h.good k b hc'
    have hfin : putS spO σ q p (s.put k b) = σ.upd p (cellsO (s.cells.set (wrap s.n k) { s.at k with char := b })) := by
      rw [putS, spO_put s k b p hp2, upd_back h.obj, hp1]
    rw [hfin, ← hset]
    rw [hc'] at hg2
    simp [ho, rowC]
    refine ⟨?_, ?_⟩
    all_goals
      refine callK.of (hw _) ?_
      rintro v σ' ⟨rfl, rfl⟩
      simp [ho, hr, rowC, hlt, hg2]
      exact hle
end Go.Proofs.YtnlggjbcdienfaaGreatDoor
/-
  A screen and the document's, made alike.
-/
namespace Go.Proofs.YtnlggjbcdienfaaGreatDoor
open Go Go.AL Go.Sp

theorem byteA_lit (b : UInt8) : byteA b = .lit (.int .u8 b.toNat) := rfl
theorem eqLits_cell (c d : Cell) : eqLits [.int, .bool, .int, .int, .int, .int] [byteA c.char, .lit (.bool c.attr), byteA c.fa, byteA c.high, byteA c.color, byteA c.set]
    [byteA d.char, .lit (.bool d.attr), byteA d.fa, byteA d.high, byteA d.color, byteA d.set] = some (decide (c = d)) := by
  obtain ⟨a1, a2, a3, a4, a5, a6⟩ := c
  obtain ⟨b1, b2, b3, b4, b5, b6⟩ := d
  have h : ∀ x y : UInt8, ((x.toNat : Int) == (y.toNat : Int)) = decide (x = y) := fun x y => by rw [byte_eq]; rfl
  simp only [byteA_lit]
  simp [h]
  rw [Bool.eq_iff_iff]
  simp
theorem eqLits_zero (c : Cell) : eqLits [.int, .bool, .int, .int, .int, .int] [byteA c.char, .lit (.bool c.attr), byteA c.fa, byteA c.high, byteA c.color, byteA c.set]
    [.lit (.int .u8 0), .lit (.bool false), .lit (.int .u8 0), .lit (.int .u8 0), .lit (.int .u8 0), .lit (.int .u8 0)] = some (decide (c = .zero)) := eqLits_cell c .zero

def actsA (l : List Sp.Act) : List AV := l.map actA
@[simp] theorem actsA_length (l : List Sp.Act) : (actsA l).length = l.length := by simp [actsA]
theorem actsA_at (l : List Sp.Act) (i : Nat) (h : i < l.length) : (actsA l)[i]'(by simpa using h) = actA l[i] := by simp [actsA]

/-- Cells up to a place; the rest are null. -/
def upTo (s : Sp) (j : Nat) : Sp := { s with cells := s.cells.take j ++ List.replicate (s.n - j) .zero, cursor := 0 }
theorem upTo_len {s : Sp} (h : s.good) {j : Nat} (hj : j ≤ s.n) : (upTo s j).cells.length = s.n := by
  simp [upTo, h.len]; omega
theorem upTo_good {s : Sp} (h : s.good) {j : Nat} (hj : j ≤ s.n) : (upTo s j).good := by
  refine ⟨h.model, upTo_len h hj, s.n_pos, fun c hc => ?_⟩
  simp only [upTo, List.mem_append, List.mem_replicate] at hc
  rcases hc with hc | ⟨_, rfl⟩
  · exact h.fit c (List.mem_of_mem_take hc)
  · exact fitted_zero
theorem upTo_next {s : Sp} (h : s.good) {j : Nat} (hj : j < s.n) (hjc : j < s.cells.length) : (upTo s (j + 1)) = (upTo s j).set j s.cells[j] := by
  have hf : Sp.fit s.cells[j] = s.cells[j] := h.fit _ (List.getElem_mem hjc)
  have hw : wrap (upTo s j).n (j : Int) = j := wrap_of_lt hj
  simp only [Sp.set, hw, hf, Sp.put1]
  simp only [upTo]
  congr 1
  rw [List.take_succ_eq_append_getElem hjc, show s.n - j = (s.n - (j + 1)) + 1 by omega, List.replicate_succ]
  have hl : (s.cells.take j).length = j := by simp; omega
  rw [List.set_append_right _ _ (by omega), hl]
  simp only [List.append_assoc, Nat.sub_self, List.set_cons_zero, List.singleton_append]
theorem upTo_same {s : Sp} {j : Nat} (_h : s.good) (hj : j < s.n) (hjc : j < s.cells.length) (hz : s.cells[j] = .zero) : upTo s (j + 1) = upTo s j := by
  simp only [upTo]
  congr 1
  rw [List.take_succ_eq_append_getElem hjc, show s.n - j = (s.n - (j + 1)) + 1 by omega, List.replicate_succ, hz]
  simp only [List.append_assoc, List.singleton_append]
theorem upTo_all {s : Sp} (h : s.good) : (upTo s s.n).place s.cursor = s := by
  have hc : wrap (upTo s s.n).n (s.cursor : Int) = s.cursor := wrap_of_lt h.cursor
  obtain ⟨m, a, l, c⟩ := s
  simp only [Sp.place, hc]
  simp only [upTo]
  have : l.take (Sp.n ⟨m, a, l, c⟩) = l := List.take_of_length_le (by have := h.len; simp at this; omega)
  simp [this]
theorem upTo_zero (s : Sp) : upTo s 0 = Sp.clear ⟨s.model, false, [], 0⟩ s.alt := by simp [upTo, Sp.clear, Sp.n, Sp.rows, Sp.cols]

/-- Four blocks, apart. -/
structure Four (σ : Store) (q p x y : Nat) : Prop where
  q0 : σ q = none
  p0 : σ p = none
  x0 : σ x = none
  y0 : σ y = none
  qp : q ≠ p
  qx : q ≠ x
  qy : q ≠ y
  px : p ≠ x
  py : p ≠ y
  xy : x ≠ y
/-- The program's screen and the document's. -/
def both (σ : Store) (q p x y : Nat) (s t : Sp) : Store := putS spO (putS rfO σ x y t) q p s
theorem both_ref {σ : Store} {q p x y : Nat} {s t : Sp} (h : Four σ q p x y) (hg : t.good) : Ref (both σ q p x y s t) x y t :=
  ⟨by simp [both, putS, h.xy, Ne.symm h.qx, Ne.symm h.px], by simp [both, putS, Ne.symm h.qy, Ne.symm h.py], h.xy, hg⟩
theorem both_prg {σ : Store} {q p x y : Nat} {s t : Sp} (h : Four σ q p x y) (hg : s.good) : Prg (both σ q p x y s t) q p s := Scr.of_put h.qp hg
def LayR (σ : Store) (s : Sp) (v : AV) (σ' : Store) : Prop := ∃ q p x y, v = .tuple [ptrA q, ptrA x] ∧ Four σ q p x y ∧ σ' = both σ q p x y s s

theorem lays_step (m : UInt8) (l : List Sp.Act) (i : Nat) (h : i < l.length) (h2 : i < 30) : ((l.take 30).take (i + 1)).foldl Sp.act (Sp.new (2 + m.toNat % 4)) = (((l.take 30).take i).foldl Sp.act (Sp.new (2 + m.toNat % 4))).act l[i] := by
  have h3 : i < (l.take 30).length := by simp; omega
  rw [List.take_succ_eq_append_getElem h3, List.foldl_append]; simp
theorem foldl_model : ∀ (l : List Sp.Act) (s : Sp), (l.foldl Sp.act s).model = s.model
  | [], _ => rfl
  | a :: l, s => (foldl_model l (s.act a)).trans (s.model_act a)

set_option maxRecDepth 8000 in
set_option maxHeartbeats 1000000 in
theorem lay_calls (m : UInt8) (l : List Sp.Act) (hl : l.length ≤ 9223372036854775807) (ht : ∀ a ∈ l, a.text.length ≤ 9223372036854775807) (σ : Store) : ACalls Tryz.prog 6 [byteA m, .list false 11 (actsA l)] σ (LayR σ (Sp.lays m l)) := by
  have hm : 2 ≤ 2 + m.toNat % 4 ∧ 2 + m.toNat % 4 ≤ 5 := by omega
  have hmw : IntKind.i64.wrap (2 + IntKind.i64.wrap ((m.toNat : Int).tmod 4)) = ((2 + m.toNat % 4 : Nat) : Int) := by
    have e : (m.toNat : Int).tmod 4 = ((m.toNat % 4 : Nat) : Int) := rfl
    rw [e, wrap_i64 (n := ((m.toNat % 4 : Nat) : Int)) (by omega) (by omega), wrap_i64 (by omega) (by omega)]; simp
  have hstep := lays_step m l
  have hS : Sp.lays m l = ((l.take 30).take l.length).foldl Sp.act (Sp.new (2 + m.toNat % 4)) := by
    rw [List.take_of_length_le (show (l.take 30).length ≤ l.length by simp; omega)]; rfl
  have hn1 := new_calls hm
  have hn2 := rnew_calls hm
  have hgood := fun k => Sp.foldl_good ((l.take 30).take k) (Sp.new_good hm)
  have hmod : (Sp.lays m l).model = 2 + m.toNat % 4 := (foldl_model _ _).trans rfl
  have hng := Sp.new_good hm
  refine ACalls.of_awp follows (st := st6) (plans := pl6) (n := 70) Tryz.func6 rfl (by kernel_rfl) (by kernel_rfl) (by kernel_rfl) ?_
  generalize hN : Sp.new (2 + m.toNat % 4) = N0 at *
  simp [byteA, hmw]
  refine callK.of (hn1 _) ?_
  rintro v σ' ⟨q, p, rfl, hq, hp, hqp, rfl⟩
  simp
  refine callK.of (hn2 _) ?_
  rintro v σ' ⟨x, y0, rfl, hx, hy, hxy, rfl⟩
  simp
  have hx' : σ x = none ∧ x ≠ q ∧ x ≠ p := by
    simp only [putS, supd_apply, ite_none] at hx; exact ⟨hx.2.2, hx.2.1, hx.1⟩
  have hy' : σ y0 = none ∧ y0 ≠ q ∧ y0 ≠ p := by
    simp only [putS, supd_apply, ite_none] at hy; exact ⟨hy.2.2, hy.2.1, hy.1⟩
  refine codeK.cut (fun e A σ' => e = .exit 0 ∧ ∃ y, Four σ q p x y ∧ LeL A [(6, .lit (.int .i64 (2 + m.toNat % 4 : Nat))), (7, ptrA q), (9, ptrA x)] ∧ Store.sub (both σ q p x y N0 (Sp.lays m l)) σ') ?_ ?_
  · refine codeK.loop follows (st := st6) (plans := pl6) (X := Nat × Nat) (fun k => k.1 ≤ l.length ∧ Four σ q p x k.2)
      (fun k => [(6, .lit (.int .i64 (2 + m.toNat % 4 : Nat))), (7, ptrA q), (9, ptrA x), (25, .list false 11 (actsA l)), (26, .lit (.int .i64 l.length)), (27, .lit (.int .i64 k.1))])
      (fun k => both σ q p x k.2 N0 (((l.take 30).take k.1).foldl Sp.act N0)) (fun k => l.length - k.1) (0, y0) (by kernel_rfl) ⟨by simp, ⟨hq, hp, hx'.1, hy'.1, hqp, Ne.symm hx'.2.1, Ne.symm hy'.2.1, Ne.symm hx'.2.2, Ne.symm hy'.2.2, hxy⟩⟩ (by simp) ?_ fun k hk => ?_
    · simp only [List.take_zero, List.foldl_nil]
      have h1 := hx'.2; have h2 := hy'.2
      simp only [both, putS]
      (intro q; simp only [Store.upd, Store.del]; (repeat' split) <;> first | exact Or.inr rfl | exact Or.inl rfl | (exfalso; omega) | (left; subst_vars; assumption) | simp_all)
    · obtain ⟨i, y⟩ := k
      obtain ⟨hi, h4⟩ := hk
      dsimp only at hi h4 ⊢
      by_cases hlt : i < l.length
      · have hw : IntKind.i64.wrap ((i : Int) + 1) = ((i + 1 : Nat) : Int) := wrap_i64 (by omega) (by omega)
        have ha := actsA_at l i hlt
        have hst := hstep i hlt
        have htx := ht l[i] (List.getElem_mem hlt)
        have hg := hgood i
        have hg2 := hgood (i + 1)
        by_cases h30 : i < 30
        · have h30i : (i : Int) < 30 := by omega
          rw [hst h30] at hg2
          have hst2 := hst h30
          generalize ((l.take 30).take i).foldl Sp.act N0 = t at *
          generalize l[i] = a at *
          have hdo := fun τ (hτ : Ref τ x y t) => rdo_calls hτ a htx
          have hac : actA a = .agg [byteA a.what, .lit (.int .i64 a.n), .lit (.bool a.on), byteA a.code, byteA a.c.char, .lit (.bool a.c.attr), byteA a.c.fa, byteA a.c.high, byteA a.c.color, byteA a.c.set, .list false 1 (bytesA a.text)] := rfl
          rw [hac] at hdo ha
          have hR := both_ref (s := N0) h4 hg
          simp +contextual [hlt, h30i, ha]
          intro b hb
          obtain ⟨m1, m2, m3, m4⟩ := hR.fresh hb
          refine callK.of (hdo _ (hR.new hb _)) ?_
          rintro v σ' ⟨rfl, y', hy2, rfl⟩
          have hb2 : σ b = none ∧ ¬ b = q ∧ ¬ b = p := by
            simp only [both, putS, supd_apply, ite_none] at hb; exact ⟨hb.2.2.2.2, hb.2.1, hb.1⟩
          have hy3 : ¬ y' = b ∧ ¬ y' = x ∧ ¬ y' = p ∧ ¬ y' = q ∧ σ y' = none := by
            rcases hy2 with rfl | hy2
            · exact ⟨m2, Ne.symm h4.xy, Ne.symm h4.py, Ne.symm h4.qy, h4.y0⟩
            · simp only [both, putS, supd_apply, ite_none] at hy2
              exact ⟨hy2.1, hy2.2.2.2.2.1, hy2.2.1, hy2.2.2.1, hy2.2.2.2.2.2⟩
          obtain ⟨y1, y2, y3, y4, y5⟩ := hy3
          obtain ⟨b1, b2, b3⟩ := hb2
          simp
          refine ⟨i + 1, y', ⟨by omega, ⟨h4.q0, h4.p0, h4.x0, y5, h4.qp, h4.qx, Ne.symm y4, h4.px, Ne.symm y3, Ne.symm y2⟩⟩, by omega, by rw [hw]; exact AV.le_refl _, ?_⟩
          rw [hst2]
          obtain ⟨_, _, _, _, f1, f2, f3, f4, f5, f6⟩ := h4
          simp only [both, putS]
          (intro q; simp only [Store.upd, Store.del]; (repeat' split) <;> first | exact Or.inr rfl | exact Or.inl rfl | (exfalso; omega) | (left; subst_vars; assumption) | simp_all)
        · have h30i : ¬ (i : Int) < 30 := by omega
          have hl30 : (l.take 30).length ≤ 30 := by simp; omega
          have hsame : (l.take 30).take (i + 1) = (l.take 30).take i :=
            (List.take_of_length_le (show (l.take 30).length ≤ i + 1 by omega)).trans (List.take_of_length_le (show (l.take 30).length ≤ i by omega)).symm
          have hac : ∀ a, actA a = .agg [byteA a.what, .lit (.int .i64 a.n), .lit (.bool a.on), byteA a.code, byteA a.c.char, .lit (.bool a.c.attr), byteA a.c.fa, byteA a.c.high, byteA a.c.color, byteA a.c.set, .list false 1 (bytesA a.text)] := fun _ => rfl
          rw [hac] at ha
          simp +contextual [hlt, h30i, ha]
          intro b hb
          refine ⟨i + 1, y, ⟨by omega, h4⟩, by omega, by rw [hw]; exact AV.le_refl _, ?_⟩
          rw [hsame]
          exact sub_upd_self _ _ _ hb
      · obtain rfl : i = l.length := by omega
        rw [← hS]
        simp
        exact ⟨y, h4, Store.sub_refl _⟩
  · rintro e A' σ2 ⟨rfl, y, h4, hA, hσ⟩
    refine View.leL hA (View.sub hσ (View.here ?_))
    clear hA hσ hstep
    have hg := hgood l.length
    rw [← hS] at hg
    clear hS hgood
    generalize hSS : Sp.lays m l = S at *
    have hRo := fun p' (h4 : Four σ q p' x y) t => (both_ref (s := t) h4 hg).obj
    have hRr := fun p' (h4 : Four σ q p' x y) t => (both_ref (s := t) h4 hg).row
    unfold rfO at hRo
    have hcl := fun τ (hτ : Prg τ q p N0) => clear_calls (σ := τ) true hτ.good.model hτ.obj
    have hN0 : N0 = Sp.clear ⟨2 + m.toNat % 4, false, [], 0⟩ false := hN.symm
    have hN1 : N0.clear true = Sp.clear ⟨2 + m.toNat % 4, false, [], 0⟩ true := by rw [hN0]; rfl
    have hz := upTo_zero S
    rw [hmod] at hz
    have hen : ∀ (j : Nat) (hj : j < S.cells.length), ((cellsO S.cells).drop (j * 6)).take 6 = cellC S.cells[j] := fun j hj => cellsO_get hj
    have hcl6 := cellsO_length S.cells
    have hSl := hg.len
    have hSn := S.n_le
    have hmain : ∀ p', Four σ q p' x y → True := fun _ _ => trivial
    by_cases halt : S.alt = true
    · rw [halt] at hz
      rw [← hN1] at hz
      simp [hRo p h4, halt]
      refine callK.of (hcl _ (both_prg h4 hng)) ?_
      rintro v σ' ⟨rfl, p', hp', rfl⟩
      have h4' : Four σ q p' x y := by
        simp only [both, putS, supd_apply, ite_none] at hp'
        obtain ⟨f1, f2, f3, f4, f5, f6, f7, f8, f9, f10⟩ := h4
        exact ⟨f1, hp'.2.2.2.2, f3, f4, Ne.symm hp'.2.1, f6, f7, hp'.2.2.2.1, hp'.2.2.1, f10⟩
      rw [← hz]
      have hsub : Store.sub (both σ q p' x y (upTo S 0) S) (putS spO (both σ q p x y N0 S) q p' (upTo S 0)) := by
        have h10 := h4'
        obtain ⟨f1, f2, f3, f4, f5, f6, f7, f8, f9, f10⟩ := h4
        obtain ⟨g1, g2, g3, g4, g5, g6, g7, g8, g9, g10⟩ := h4'
        simp only [both, putS]
        (intro q; simp only [Store.upd, Store.del]; (repeat' split) <;> first | exact Or.inr rfl | exact Or.inl rfl | (exfalso; omega) | (left; subst_vars; assumption) | simp_all)
      have e1 : putS spO (both σ q p x y N0 S) q p' (upTo S 0) x = some (rfO S y) := by
        obtain ⟨f1, f2, f3, f4, f5, f6, f7, f8, f9, f10⟩ := h4
        obtain ⟨g1, g2, g3, g4, g5, g6, g7, g8, g9, g10⟩ := h4'
        simp [both, putS, Ne.symm f6, Ne.symm f8, Ne.symm g8, f10]
      unfold rfO at e1
      simp [e1, rowC]
      clear e1
      refine codeK.loop follows (st := st6) (plans := pl6) (X := Nat) (fun j => j ≤ S.n)
        (fun j => [(7, ptrA q), (9, ptrA x), (47, rowC y S.n), (48, .lit (.int .i64 S.n)), (49, .lit (.int .i64 j))])
        (fun j => both σ q p' x y (upTo S j) S) (fun j => S.n - j) 0 (by kernel_rfl) (by simp) (by simp [rowC]) hsub fun j hj => ?_
      by_cases hlt : j < S.n
      · have hw : IntKind.i64.wrap ((j : Int) + 1) = ((j + 1 : Nat) : Int) := wrap_i64 (by omega) (by omega)
        have hjc : j < S.cells.length := by omega
        have hnx := upTo_next hg hlt hjc
        have hsm := upTo_same hg hlt hjc
        have hgj := hen j hjc
        have hP := both_prg (t := S) h4' (upTo_good hg hj)
        have hst := fun τ (hτ : Prg τ q p' (upTo S j)) => set_calls hτ (j : Int) S.cells[j]
        rw [← hnx] at hst
        have hz0 := eqLits_zero S.cells[j]
        have hcx : cellC S.cells[j] = [byteA S.cells[j].char, .lit (.bool S.cells[j].attr), byteA S.cells[j].fa, byteA S.cells[j].high, byteA S.cells[j].color, byteA S.cells[j].set] := rfl
        rw [hcx] at hgj
        rw [cellA_eq] at hst
        have hrow := hRr p' h4' (upTo S j)
        generalize S.cells[j] = c at *
        have hle : j * 6 + 6 ≤ (cellsO S.cells).length := by omega
        by_cases hc : c = .zero
        · have hsm := hsm hc
          have hz1 := hz0.trans (congrArg some (decide_eq_true hc))
          clear hc
          simp +contextual [-e_eqLits_2, rowC, hlt, hrow, hle, hgj, hz1]
          intro b hb
          refine ⟨j + 1, by omega, by omega, by rw [hw]; exact AV.le_refl _, ?_⟩
          rw [hsm]
          exact sub_upd_self _ _ _ hb
        · have hz1 := hz0.trans (congrArg some (decide_eq_false hc))
          simp +contextual [-e_eqLits_2, rowC, hlt, hrow, hle, hgj, hz1]
          intro b hb
          refine callK.of (hst _ (hP.new hb _)) ?_
          rintro v σ' ⟨rfl, rfl⟩
          obtain ⟨m1, m2, m3, m4⟩ := hP.fresh hb
          simp
          refine ⟨j + 1, by omega, by omega, by rw [hw]; exact AV.le_refl _, ?_⟩
          simp only [both, putS] at hb ⊢
          simp only [supd_apply, ite_none] at hb
          obtain ⟨b1, b2, b3, b4, b5⟩ := hb
          clear hrow hst hP hnx hsm hgj hcx hz0
          (intro q; simp only [Store.upd, Store.del]; (repeat' split) <;> first | exact Or.inr rfl | exact Or.inl rfl | (exfalso; omega) | (left; subst_vars; assumption) | simp_all)
      · obtain rfl : j = S.n := by omega
        have hP := both_prg (t := S) h4' (upTo_good hg (Nat.le_refl _))
        have hpl := fun τ (hτ : Prg τ q p' (upTo S S.n)) => place_calls hτ (S.cursor : Int)
        rw [upTo_all hg] at hpl
        simp [hRo p' h4' (upTo S S.n)]
        refine callK.of (hpl _ hP) ?_
        rintro v σ' ⟨rfl, rfl⟩
        simp
        refine ⟨_, AV.le_refl _, _, ?_, q, p', x, y, rfl, h4', rfl⟩
        simp only [both, putS]
        obtain ⟨g1, g2, g3, g4, g5, g6, g7, g8, g9, g10⟩ := h4'
        (intro q; simp only [Store.upd, Store.del]; (repeat' split) <;> first | exact Or.inr rfl | exact Or.inl rfl | (exfalso; omega) | (left; subst_vars; assumption) | simp_all)
    · have halt' : S.alt = false := by simpa using halt
      rw [halt'] at hz
      rw [← hN0] at hz
      rw [← hz]
      have h4' := h4
      have hsub := Store.sub_refl (both σ q p x y (upTo S 0) S)
      obtain ⟨p', hpp⟩ : ∃ p', p' = p := ⟨_, rfl⟩
      have e1 := hRo p h4 (upTo S 0)
      rw [halt'] at e1
      simp [e1]
      rw [← hpp] at h4' hsub e1 ⊢
      simp [rowC]
      clear e1
      refine codeK.loop follows (st := st6) (plans := pl6) (X := Nat) (fun j => j ≤ S.n)
        (fun j => [(7, ptrA q), (9, ptrA x), (47, rowC y S.n), (48, .lit (.int .i64 S.n)), (49, .lit (.int .i64 j))])
        (fun j => both σ q p' x y (upTo S j) S) (fun j => S.n - j) 0 (by kernel_rfl) (by simp) (by simp [rowC]) hsub fun j hj => ?_
      by_cases hlt : j < S.n
      · have hw : IntKind.i64.wrap ((j : Int) + 1) = ((j + 1 : Nat) : Int) := wrap_i64 (by omega) (by omega)
        have hjc : j < S.cells.length := by omega
        have hnx := upTo_next hg hlt hjc
        have hsm := upTo_same hg hlt hjc
        have hgj := hen j hjc
        have hP := both_prg (t := S) h4' (upTo_good hg hj)
        have hst := fun τ (hτ : Prg τ q p' (upTo S j)) => set_calls hτ (j : Int) S.cells[j]
        rw [← hnx] at hst
        have hz0 := eqLits_zero S.cells[j]
        have hcx : cellC S.cells[j] = [byteA S.cells[j].char, .lit (.bool S.cells[j].attr), byteA S.cells[j].fa, byteA S.cells[j].high, byteA S.cells[j].color, byteA S.cells[j].set] := rfl
        rw [hcx] at hgj
        rw [cellA_eq] at hst
        have hrow := hRr p' h4' (upTo S j)
        generalize S.cells[j] = c at *
        have hle : j * 6 + 6 ≤ (cellsO S.cells).length := by omega
        by_cases hc : c = .zero
        · have hsm := hsm hc
          have hz1 := hz0.trans (congrArg some (decide_eq_true hc))
          clear hc
          simp +contextual [-e_eqLits_2, rowC, hlt, hrow, hle, hgj, hz1]
          intro b hb
          refine ⟨j + 1, by omega, by omega, by rw [hw]; exact AV.le_refl _, ?_⟩
          rw [hsm]
          exact sub_upd_self _ _ _ hb
        · have hz1 := hz0.trans (congrArg some (decide_eq_false hc))
          simp +contextual [-e_eqLits_2, rowC, hlt, hrow, hle, hgj, hz1]
          intro b hb
          refine callK.of (hst _ (hP.new hb _)) ?_
          rintro v σ' ⟨rfl, rfl⟩
          obtain ⟨m1, m2, m3, m4⟩ := hP.fresh hb
          simp
          refine ⟨j + 1, by omega, by omega, by rw [hw]; exact AV.le_refl _, ?_⟩
          simp only [both, putS] at hb ⊢
          simp only [supd_apply, ite_none] at hb
          obtain ⟨b1, b2, b3, b4, b5⟩ := hb
          clear hrow hst hP hnx hsm hgj hcx hz0
          (intro q; simp only [Store.upd, Store.del]; (repeat' split) <;> first | exact Or.inr rfl | exact Or.inl rfl | (exfalso; omega) | (left; subst_vars; assumption) | simp_all)
      · obtain rfl : j = S.n := by omega
        have hP := both_prg (t := S) h4' (upTo_good hg (Nat.le_refl _))
        have hpl := fun τ (hτ : Prg τ q p' (upTo S S.n)) => place_calls hτ (S.cursor : Int)
        rw [upTo_all hg] at hpl
        simp [hRo p' h4' (upTo S S.n)]
        refine callK.of (hpl _ hP) ?_
        rintro v σ' ⟨rfl, rfl⟩
        simp
        refine ⟨_, AV.le_refl _, _, ?_, q, p', x, y, rfl, h4', rfl⟩
        simp only [both, putS]
        obtain ⟨g1, g2, g3, g4, g5, g6, g7, g8, g9, g10⟩ := h4'
        (intro q; simp only [Store.upd, Store.del]; (repeat' split) <;> first | exact Or.inr rfl | exact Or.inl rfl | (exfalso; omega) | (left; subst_vars; assumption) | simp_all)
end Go.Proofs.YtnlggjbcdienfaaGreatDoor
/-
  The iterators over a screen.
-/
namespace Go.Proofs.YtnlggjbcdienfaaGreatDoor
open Go Go.AL Go.Sp

/-- What an iterator over a screen finds. -/
def NeedS (b q p : Nat) (s : Sp) (_k : Nat) (τ : Store) : Prop := τ b = some [ptrA q] ∧ Prg τ q p s
theorem prg_mono {σ τ : Store} {q p : Nat} {s : Sp} {f : Sp → Nat → List AV} (h : Scr f τ q p s) (hs : Store.sub τ σ) : Scr f σ q p s := by
  refine ⟨?_, ?_, h.ne, h.good⟩
  · rcases hs q with h' | h'
    · rw [h.obj] at h'; cases h'
    · rw [← h', h.obj]
  · rcases hs p with h' | h'
    · rw [h.row] at h'; cases h'
    · rw [← h', h.row]
theorem sub_at {σ τ : Store} {b : Nat} {x : List AV} (h : τ b = some x) (hs : Store.sub τ σ) : σ b = some x := by
  rcases hs b with h' | h'
  · rw [h] at h'; cases h'
  · rw [← h', h]
theorem needS_mono {b q p : Nat} {s : Sp} {k : Nat} {τ τ' : Store} (h : NeedS b q p s k τ) (hs : Store.sub τ τ') : NeedS b q p s k τ' :=
  ⟨sub_at h.1 hs, prg_mono h.2 hs⟩

theorem all_calls2 (q : Nat) (σ : Store) : ACalls Tryz.prog 41 [ptrA q] σ fun v σ' => ∃ b, σ b = none ∧ v = .func (.func 79) [] [ptrA b] ∧ σ' = σ.upd b [ptrA q] := by
  refine ACalls.of_awp follows (st := st41) (plans := pl41) (n := 4) Tryz.func41 rfl (by kernel_rfl) (by kernel_rfl) (by kernel_rfl) ?_
  simp
  exact fun b hb => ⟨_, AV.le_refl _, _, Store.sub_refl _, b, hb, rfl, rfl⟩

set_option maxRecDepth 8000 in
theorem all_iter (b q p : Nat) (s : Sp) (σ : Store) : IterG Tryz.prog 79 [ptrA b] σ s.n (NeedS b q p s) fun k _ => [.lit (.int .i64 (k : Nat)), cellA (s.at k)] := by
  refine ⟨fun k τ τ' h hs => ⟨needS_mono h hs, rfl⟩, fun X l I J hneed hy τ E h0 hs => ?_⟩
  obtain ⟨hb, hP⟩ := needS_mono (hneed 0 τ E (Nat.zero_le _) h0) hs
  have hsz := size_calls hP
  have hcl := scells_calls s
  have hn := s.n_le
  refine ACallsY.of_awp follows (st := st79) (plans := pl79) (n := 18) Tryz.func79 rfl (by kernel_rfl) (by kernel_rfl) (by kernel_rfl) ?_
  simp [hb]
  refine callK.of hsz ?_
  rintro v σ' ⟨rfl, rfl⟩
  simp
  refine callK.of (hcl _) ?_
  rintro v σ' ⟨rfl, rfl⟩
  simp
  refine codeYK.loop follows (st := st79) (plans := pl79) (S := Nat × Store) (fun x => x.1 ≤ s.n)
    (fun x => [(0, .func (.yield l) [] []), (1, ptrA b), (6, .lit (.int .i64 s.n)), (7, .lit (.int .i64 x.1))]) (fun x => x.2) (fun x E => I x.1 x.2 E) (fun x => s.n - x.1) (0, τ) (by kernel_rfl) (by simp) (by simp) hs h0 ?_
  rintro ⟨k, τ1⟩ E1 hk hI
  dsimp only at hk hI ⊢
  obtain ⟨hb1, hP1⟩ := hneed k τ1 E1 hk hI
  by_cases hlt : k < s.n
  · have hat := at_calls hP1 (k : Int)
    have hw : IntKind.i64.wrap ((k : Int) + 1) = ((k + 1 : Nat) : Int) := wrap_i64 (by omega) (by omega)
    have hyk := hy k hlt τ1 E1 hI
    simp only [cellA_eq] at hat hyk
    simp [hlt, hb1]
    refine callK.of hat ?_
    rintro v σ' ⟨rfl, rfl⟩
    simp
    refine yieldK.of (by simp) hyk (Store.sub_refl _) ?_
    intro b2 τ' E' hR hap
    cases b2
    · simp
      exact ⟨⟨_, AV.le_refl _⟩, _, Store.sub_over _ _ _, τ', Store.sub_refl _, .inr (by simpa using hR)⟩
    · simp
      refine ⟨k + 1, by omega, by omega, by rw [hw]; exact AV.le_refl _, τ', Store.sub_over _ _ _, by simpa using hR⟩
  · obtain rfl : k = s.n := by omega
    simp
    exact ⟨⟨_, AV.le_refl _⟩, _, Store.sub_refl _, τ1, Store.sub_refl _, .inl hI⟩
end Go.Proofs.YtnlggjbcdienfaaGreatDoor
/-
  The iterators over a screen's attributes.
-/
namespace Go.Proofs.YtnlggjbcdienfaaGreatDoor
open Go Go.AL Go.Sp

theorem filter_at {α : Type} (P : α → Bool) (xs : List α) (k : Nat) (h : k < xs.length) : (xs.take (k + 1)).filter P = (xs.take k).filter P ++ (if P xs[k] = true then [xs[k]] else []) ∧ (P xs[k] = true → (xs.filter P)[((xs.take k).filter P).length]? = some xs[k]) := by
  refine ⟨?_, fun hp => ?_⟩
  · rw [List.take_succ_eq_append_getElem h, List.filter_append]
    congr 1
    simp only [List.filter_cons, List.filter_nil]
  · have e : xs = xs.take k ++ (xs[k] :: xs.drop (k + 1)) := by rw [← List.drop_eq_getElem_cons h, List.take_append_drop]
    conv => lhs; rw [e]
    rw [List.filter_append, List.filter_cons_of_pos hp]
    have e2 : ((List.take k (xs.take k ++ xs[k] :: xs.drop (k + 1))).filter P).length = ((xs.take k).filter P).length := by rw [← e]
    rw [e2, List.getElem?_append_right (Nat.le_refl _), Nat.sub_self]; rfl

/-- How many of the first ones are so. -/
def cntP {α : Type} (P : α → Bool) (xs : List α) (k : Nat) : Nat := ((xs.take k).filter P).length
theorem cntP_zero {α : Type} (P : α → Bool) (xs : List α) : cntP P xs 0 = 0 := by simp [cntP]
theorem cntP_all {α : Type} (P : α → Bool) (xs : List α) : cntP P xs xs.length = (xs.filter P).length := by simp [cntP]
theorem cntP_yes {α : Type} {P : α → Bool} {xs : List α} {k : Nat} (h : k < xs.length) (hp : P xs[k] = true) : cntP P xs (k + 1) = cntP P xs k + 1 ∧ cntP P xs k < (xs.filter P).length ∧ (xs.filter P)[cntP P xs k]? = some xs[k] := by
  obtain ⟨h1, h2⟩ := filter_at P xs k h
  have h2 := h2 hp
  refine ⟨?_, (List.getElem?_eq_some_iff.1 h2).1, h2⟩
  rw [cntP, h1, if_pos hp]; simp [cntP]
theorem cntP_no {α : Type} {P : α → Bool} {xs : List α} {k : Nat} (h : k < xs.length) (hp : P xs[k] = false) : cntP P xs (k + 1) = cntP P xs k := by
  obtain ⟨h1, _⟩ := filter_at P xs k h
  rw [cntP, h1, if_neg (by simp [hp])]; simp [cntP]

def isAt (s : Sp) (i : Nat) : Bool := (s.cells[i]?.getD .zero).attr
theorem attrs_eq (s : Sp) (h : s.good) : s.attrs = (List.range s.n).filter (isAt s) := by rw [← h.len]; rfl
theorem at_of {s : Sp} (_h : s.good) {i : Nat} (hi : i < s.n) : s.at (i : Int) = s.cells[i]?.getD .zero := by
  unfold Sp.at; rw [wrap_of_lt hi]
theorem attrs_calls2 (q : Nat) (σ : Store) : ACalls Tryz.prog 124 [ptrA q] σ fun v σ' => ∃ b, σ b = none ∧ v = .func (.func 134) [] [ptrA b] ∧ σ' = σ.upd b [ptrA q] := by
  refine ACalls.of_awp follows (st := st124) (plans := pl124) (n := 4) Tryz.func124 rfl (by kernel_rfl) (by kernel_rfl) (by kernel_rfl) ?_
  simp
  exact fun b hb => ⟨_, AV.le_refl _, _, Store.sub_refl _, b, hb, rfl, rfl⟩

/-- What an iterator keeps beside what its rounds know of. -/
structure Beside (τ ρ : Store) (b2 y : Nat) (f g : AV) : Prop where
  b0 : τ b2 = none
  y0 : τ y = none
  ne : b2 ≠ y
  eq : ρ = (τ.upd b2 [f]).upd y [g]
theorem Beside.sub {τ ρ : Store} {b2 y : Nat} {f g : AV} (h : Beside τ ρ b2 y f g) : Store.sub τ ρ := by
  rw [h.eq]
  exact Store.sub_upd h.y0 (Store.sub_upd h.b0 (Store.sub_refl _))
/-- Behind a round. -/
theorem Beside.next {τ ρ τ' cur : Store} {b2 y : Nat} {f g : AV} (h : Beside τ ρ b2 y f g) (hc : Store.sub ρ cur) (hap : Apart τ' τ cur) : ∃ ρ', Store.sub ρ' (Store.over τ' τ cur) ∧ Beside τ' ρ' b2 y f g := by
  have c1 : cur b2 = some [f] := sub_at (by rw [h.eq]; simp [h.ne]) hc
  have c2 : cur y = some [g] := sub_at (by rw [h.eq]; simp) hc
  have d1 := hap b2 h.b0 (by rw [c1]; simp)
  have d2 := hap y h.y0 (by rw [c2]; simp)
  refine ⟨(τ'.upd b2 [f]).upd y [g], fun o => ?_, ⟨d1, d2, h.ne, rfl⟩⟩
  by_cases h1 : o = y
  · subst h1; right; simp [Store.over, d2, h.y0, c2]
  · by_cases h2 : o = b2
    · subst h2; right; simp [Store.over, d1, h.b0, c1, h.ne]
    · simp only [supd_apply, if_neg h1, if_neg h2]
      exact Store.sub_over τ' τ cur o

set_option maxRecDepth 8000 in
theorem attrs_iter (b q p : Nat) (s : Sp) (σ : Store) : IterG Tryz.prog 134 [ptrA b] σ s.attrs.length (NeedS b q p s) fun k _ => [.lit (.int .i64 (s.attrs[k]?.getD 0 : Nat))] := by
  refine ⟨fun k τ τ' h hs => ⟨needS_mono h hs, rfl⟩, fun X l I J hneed hy τ E h0 hs => ?_⟩
  have hN0 := hneed 0 τ E (Nat.zero_le _) h0
  obtain ⟨hb, hP⟩ := needS_mono hN0 hs
  have hg := hP.good
  have hae := attrs_eq s hg
  have hc0 := cntP_zero (isAt s) (List.range s.n)
  have hcN := cntP_all (isAt s) (List.range s.n)
  rw [List.length_range, ← hae] at hcN
  refine ACallsY.of_awp follows (st := st134) (plans := pl134) (n := 17) Tryz.func134 rfl (by kernel_rfl) (by kernel_rfl) (by kernel_rfl) ?_
  simp [hb]
  intro y hyn
  have hby : ¬ b = y := by rintro rfl; rw [hb] at hyn; cases hyn
  simp [hby]
  refine callK.of (all_calls2 q _) ?_
  rintro v σ' ⟨b2, hb2, rfl, rfl⟩
  simp only [supd_apply, ite_none] at hb2
  obtain ⟨e1, hb2⟩ := hb2
  have tn : ∀ o, σ o = none → τ o = none := fun o ho => by
    rcases hs o with h | h
    · exact h
    · rw [h, ho]
  simp
  have hB0 : Beside τ ((τ.upd b2 [ptrA q]).upd y [.func (.yield l) [] []]) b2 y (ptrA q) (.func (.yield l) [] []) := ⟨tn _ hb2, tn _ hyn, e1, rfl⟩
  refine codeYK.rangeG follows (st := st134) (plans := pl134) (all_iter b2 q p s _) (by simp) (by simp) (by simp) (by kernel_rfl) (by kernel_rfl) (by kernel_rfl)
    (fun k ρ E => ∃ τ, I (cntP (isAt s) (List.range s.n) k) τ E ∧ Beside τ ρ b2 y (ptrA q) (.func (.yield l) [] [])) (fun c ρ E => c = .ret ∧ ∃ τ, J τ E ∧ Store.sub τ ρ)
    _ ⟨τ, by rw [hc0]; exact h0, hB0⟩ ?_ ?_ ?_ ?_ ?_
  · intro o
    simp only [supd_apply]
    by_cases h1 : o = y
    · subst h1; right; simp [Ne.symm e1]
    · by_cases h2 : o = b2
      · subst h2; right; simp [h1]
      · simp only [if_neg h1, if_neg h2]; exact hs o
  · rintro k ρ E hk ⟨τ1, hI, hB⟩
    have hle : cntP (isAt s) (List.range s.n) k ≤ s.attrs.length := by
      rw [hae]; exact (List.Sublist.filter _ (List.take_sublist _ _)).length_le
    have := hneed _ τ1 E hle hI
    refine ⟨?_, prg_mono this.2 hB.sub⟩
    rw [hB.eq]; simp [e1]
  · rintro k hk ρ E ⟨τ1, hI, hB⟩
    have hkr : k < (List.range s.n).length := by simpa using hk
    have hgk : (List.range s.n)[k] = k := by simp
    have hat := at_of hg hk
    have hρy : ρ y = some [.func (.yield l) [] []] := by rw [hB.eq]; simp
    by_cases ha : isAt s k = true
    · obtain ⟨c1, c2, c3⟩ := cntP_yes (P := isAt s) hkr (by rw [hgk]; exact ha)
      rw [← hae] at c2 c3
      rw [hgk] at c3
      have hyk := hy _ c2 τ1 E hI
      rw [c3] at hyk
      rw [← c1] at hyk
      have hca : (s.at (k : Int)).attr = true := by rw [hat]; exact ha
      simp +contextual [cellA, cellC, hca]
      intro c hc
      have hyc : ¬ y = c := by rintro rfl; rw [hρy] at hc; cases hc
      simp [hρy, hyc]
      have hcur : Store.sub ρ (ρ.upd c [byteA (s.at (k : Int)).char, .lit (.bool true), byteA (s.at (k : Int)).fa, byteA (s.at (k : Int)).high, byteA (s.at (k : Int)).color, byteA (s.at (k : Int)).set]) := Store.sub_upd hc (Store.sub_refl _)
      refine yieldK.of (args' := [.lit (.int .i64 (k : Nat))]) (by simp) hyk (Store.sub_trans hB.sub hcur) ?_
      intro b3 τ' E' hR hap
      cases b3
      · simp
        exact ⟨_, Store.sub_refl _, τ', by simpa using hR, Store.sub_over _ _ _⟩
      · simp
        obtain ⟨ρ', h1, h2⟩ := hB.next hcur hap
        exact ⟨ρ', h1, τ', by simpa using hR, h2⟩
    · have ha' : isAt s k = false := by simpa using ha
      have c1 := cntP_no (P := isAt s) hkr (by rw [hgk]; exact ha')
      have hca : (s.at (k : Int)).attr = false := by rw [hat]; exact ha'
      simp +contextual [cellA, cellC, hca]
      intro c hc
      exact ⟨ρ, Store.sub_upd hc (Store.sub_refl _), τ1, by rw [c1]; exact hI, hB⟩
  · rintro ρ E2 σ2 hs2 ⟨τ1, hI, hB⟩
    rw [hcN] at hI
    simp
    exact ⟨⟨_, AV.le_refl _⟩, _, Store.sub_refl _, τ1, Store.sub_trans hB.sub hs2, .inl hI⟩
  · rintro c ρ E2 σ2 hs2 ⟨rfl, τ1, hJ, hsub⟩
    simp
    exact ⟨⟨_, AV.le_refl _⟩, _, Store.sub_refl _, τ1, Store.sub_trans hsub hs2, .inr hJ⟩
end Go.Proofs.YtnlggjbcdienfaaGreatDoor
