/-
 Screens as objects: the program's.
-/
import Derived.Test.YtlmdbcgceijlnaaGreatPPart10
set_option linter.unusedSimpArgs false
set_option linter.unusedVariables false
set_option maxRecDepth 8000
set_option maxHeartbeats 8000000

namespace Go.Proofs.YtlmdbcgceijlnaaGreat
open Go Go.AL Go.Sp
def spO (s : Sp) (p : Nat) : List AV := [.lit (.int .i64 s.model), .lit (.bool s.alt), .lit (.int .i64 s.rows), .lit (.int .i64 s.cols), rowC p s.n, .lit (.int .i64 s.cursor), .lit (.int .i64 s.count)]
abbrev Prg := Scr spO
theorem size_calls {q p : Nat} {s : Sp} {σ : Store} (h : Prg σ q p s) : ACalls Tryz.prog 121 [ptrA q] σ fun v σ' => v = .agg [.lit (.int .i64 s.rows), .lit (.int .i64 s.cols)] ∧ σ' = σ := by
 have ho := h.obj
 unfold spO at ho
 refine aw st121 pl121 10 Tryz.func121 rfl ?_
 simp [ho]
 intro r hr
 obtain ⟨m1, m2, m3, m4⟩ := h.fresh hr
 simp [m1]
 (intro q; simp only [Store.upd, Store.del]; (repeat' split) <;> first | exact Or.inr rfl | exact Or.inl rfl | (exfalso; omega) | (left; subst_vars; assumption) | simp_all)
theorem count_calls (c : Cell) (σ : Store) : ACalls Tryz.prog 77 [cellA c] σ fun v σ' => v = .lit (.int .i64 (if c.attr = true then 1 else 0)) ∧ σ' = σ := by
 refine aw st77 pl77 5 Tryz.func77 rfl ?_
 obtain ⟨ch, a, fa, hi, co, se⟩ := c
 cases a <;> simp +contextual [cellA, cellC]
theorem cursor_calls {q p : Nat} {s : Sp} {σ : Store} (h : Prg σ q p s) : ACalls Tryz.prog 24 [ptrA q] σ fun v σ' => v = .lit (.int .i64 s.cursor) ∧ σ' = σ := by
 have ho := h.obj
 unfold spO at ho
 refine aw st24 pl24 9 Tryz.func24 rfl ?_
 simp [ho]
theorem formatted_calls {q p : Nat} {s : Sp} {σ : Store} (h : Prg σ q p s) : ACalls Tryz.prog 120 [ptrA q] σ fun v σ' => v = .lit (.bool (decide (0 < s.count))) ∧ σ' = σ := by
 have ho := h.obj
 unfold spO at ho
 refine aw st120 pl120 12 Tryz.func120 rfl ?_
 simp [ho]
theorem swrap_calls (s : Sp) (k : Int) (σ : Store) : ACalls Tryz.prog 53 [.agg [.lit (.int .i64 s.rows), .lit (.int .i64 s.cols)], .lit (.int .i64 k)] σ fun v σ' => v = .lit (.int .i64 (wrap s.n k)) ∧ σ' = σ := wrap_calls (dim_of s.model s.alt) k σ
theorem scells_calls (s : Sp) (σ : Store) : ACalls Tryz.prog 76 [.agg [.lit (.int .i64 s.rows), .lit (.int .i64 s.cols)]] σ fun v σ' => v = .lit (.int .i64 s.n) ∧ σ' = σ := cells_calls (dim_of s.model s.alt) σ
theorem at_calls {q p : Nat} {s : Sp} {σ : Store} (h : Prg σ q p s) (k : Int) : ACalls Tryz.prog 13 [ptrA q, .lit (.int .i64 k)] σ fun v σ' => v = cellA (s.at k) ∧ σ' = σ := by
 have ho := h.obj
 have hr := h.row
 have hw := fun τ => swrap_calls s k τ
 obtain ⟨hlt, hlL, hg⟩ := at_row h.good k
 unfold spO at ho
 generalize s.at k = c at *
 generalize cellsO s.cells = L at *
 refine aw st13 pl13 20 Tryz.func13 rfl ?_
 simp [ho, rowC]
 intro r hx
 obtain ⟨n1, n2, _⟩ := h.fresh hx
 simp [ho, rowC, n1]
 repeat' apply And.intro
 all_goals
  refine callK.of (hw _) ?_
  rintro v σ' ⟨rfl, rfl⟩
  simp [ho, hr, rowC, n1, n2, hlt, hlL, hg, cellC]
  exact ⟨AV.le_refl _, by (intro q; simp only [Store.upd, Store.del]; (repeat' split) <;> first | exact Or.inr rfl | exact Or.inl rfl | (exfalso; omega) | (left; subst_vars; assumption) | simp_all)⟩
theorem place_calls {q p : Nat} {s : Sp} {σ : Store} (h : Prg σ q p s) (k : Int) : ACalls Tryz.prog 43 [ptrA q, .lit (.int .i64 k)] σ fun v σ' => v = .tuple [] ∧ σ' = putS spO σ q p (s.place k) := by
 have ho := h.obj
 have hr := h.row
 have hw := fun τ => swrap_calls s k τ
 have hrf : spO (s.place k) p = [.lit (.int .i64 s.model), .lit (.bool s.alt), .lit (.int .i64 s.rows), .lit (.int .i64 s.cols), rowC p s.n, .lit (.int .i64 (wrap s.n k)), .lit (.int .i64 s.count)] := rfl
 have hps : putS spO σ q p (s.place k) = (σ.upd q (spO (s.place k) p)) := by
  rw [putS]; exact upd_back (by simp [Ne.symm h.ne]; exact hr)
 rw [hps, hrf]
 unfold spO at ho
 refine aw st43 pl43 15 Tryz.func43 rfl ?_
 simp [ho]
 refine callK.of (hw _) ?_
 rintro v σ' ⟨rfl, rfl⟩
 simp [ho]
theorem count_set {l : List Cell} {i : Nat} (h : i < l.length) (c : Cell) : ((l.set i c).countP (·.attr) : Int) = (l.countP (·.attr) : Int) + ((if c.attr = true then 1 else 0) - (if l[i].attr = true then 1 else 0)) := by
 induction l generalizing i with
 | nil => simp at h
 | cons x l ih =>
  cases i with
  | zero => simp [List.countP_cons]; split <;> split <;> omega
  | succ i =>
   have := ih (i := i) (by simpa using h)
   simp [List.countP_cons] at this ⊢; omega
theorem count_le (s : Sp) : s.count ≤ s.cells.length := List.countP_le_length
theorem and61 (b : UInt8) : pureBin .and (.int .u8 (b.toNat : Int)) (.int .u8 61) = some (.int .u8 ((Sp.six b).toNat : Int)) := and_u8 b 61
theorem setRange_one {α : Type} (cs : List α) (off : Nat) (x : α) : setRange cs off [x] = cs.set off x := nr rfl
theorem set_calls {q p : Nat} {s : Sp} {σ : Store} (h : Prg σ q p s) (k : Int) (c : Cell) : ACalls Tryz.prog 42 [ptrA q, .lit (.int .i64 k), cellA c] σ fun v σ' => v = .tuple [] ∧ σ' = putS spO σ q p (s.set k c) := by
 have ho := h.obj
 have hr := h.row
 have hw := fun τ => swrap_calls s k τ
 obtain ⟨hlt, hlL, hg⟩ := at_row h.good k
 have hlt' : wrap s.n k < s.cells.length := by rw [h.good.len]; exact hlt
 have hset := cellsO_set hlt' (Sp.fit c)
 have hcn := count_set hlt' (Sp.fit c)
 have hca := count_calls (Sp.fit c)
 have hcb := count_calls (s.at k)
 have hak : s.at k = s.cells[wrap s.n k] := by simp [Sp.at, hlt']
 have hcl := count_le s
 have hn := s.n_le
 rw [h.good.len] at hcl
 have hcc : (s.set k c).cells = s.cells.set (wrap s.n k) (Sp.fit c) := rfl
 have hrf : spO (s.set k c) p = [.lit (.int .i64 s.model), .lit (.bool s.alt), .lit (.int .i64 s.rows), .lit (.int .i64 s.cols), rowC p s.n, .lit (.int .i64 s.cursor), .lit (.int .i64 (s.set k c).count)] := rfl
 have hc2 : ((s.set k c).count : Int) = (s.count : Int) + ((if (Sp.fit c).attr = true then 1 else 0) - (if (s.at k).attr = true then 1 else 0)) := by rw [hak]; exact hcn
 have hx : ∃ x : Int, (if (Sp.fit c).attr = true then (1 : Int) else 0) = x ∧ 0 ≤ x ∧ x ≤ 1 := ⟨_, rfl, by split <;> omega, by split <;> omega⟩
 have hy : ∃ y : Int, (if (s.at k).attr = true then (1 : Int) else 0) = y ∧ 0 ≤ y ∧ y ≤ 1 := ⟨_, rfl, by split <;> omega, by split <;> omega⟩
 obtain ⟨x, hx, x0, x1⟩ := hx
 obtain ⟨y, hy, y0, y1⟩ := hy
 rw [hx, hy] at hc2
 rw [hx] at hca
 rw [hy] at hcb
 have hs1 : IntKind.i64.wrap (x - y) = x - y := wrap_i64 (by omega) (by omega)
 have hs2 : IntKind.i64.wrap ((s.count : Int) + (x - y)) = ((s.set k c).count : Int) := by rw [wrap_i64 (by omega) (by omega), hc2]
 simp only [putS, hcc, hrf]
 generalize cellsO (s.cells.set (wrap s.n k) (Sp.fit c)) = M at *
 unfold spO at ho
 clear hak hcn hcc hrf hc2 hx hy hcl
 generalize (s.set k c).count = cnt at *
 generalize s.count = cnt0 at *
 have hgc : cellC (s.at k) = [byteA (s.at k).char, .lit (.bool (s.at k).attr), byteA (s.at k).fa, byteA (s.at k).high, byteA (s.at k).color, byteA (s.at k).set] := rfl
 rw [cellA_eq] at hcb
 rw [hgc] at hg
 generalize s.at k = old at *
 generalize cellsO s.cells = L at *
 have hpq : ¬ p = q := Ne.symm h.ne
 have hqp : ¬ q = p := h.ne
 by_cases hc : c.attr = true
 ·have hf : Sp.fit c = ⟨0, true, Sp.six c.fa, c.high, c.color, c.set⟩ := by unfold Sp.fit; rw [if_pos hc, hc]
  rw [hf] at hca hset
  have e1 : cellA ⟨0, true, Sp.six c.fa, c.high, c.color, c.set⟩ = .agg [.lit (.int .u8 0), .lit (.bool true), .lit (.int .u8 (Sp.six c.fa).toNat), byteA c.high, byteA c.color, byteA c.set] := rfl
  have e2 : cellC ⟨0, true, Sp.six c.fa, c.high, c.color, c.set⟩ = [.lit (.int .u8 0), .lit (.bool true), .lit (.int .u8 (Sp.six c.fa).toNat), byteA c.high, byteA c.color, byteA c.set] := rfl
  rw [e1] at hca
  rw [e2] at hset
  rw [cellA_eq, hc]
  have e3 : byteA c.fa = .lit (.int .u8 c.fa.toNat) := rfl
  rw [e3]
  refine aw st42 pl42 47 Tryz.func42 rfl ?_
  simp [-e_pureBin_8, and61]
  intro b hb
  obtain ⟨m1, m2, m3, m4⟩ := h.fresh hb
  simp [-e_pureBin_8, m1, ho, rowC]
  refine callK.of (hw _) ?_
  rintro v σ' ⟨rfl, rfl⟩
  simp [m1, m2, ho, hr, rowC, hlt, hlL, hg]
  repeat' apply And.intro
  all_goals
   refine callK.of (hca _) ?_
   rintro v σ' ⟨rfl, rfl⟩
   simp [m1, m2, ho, hr, rowC, hlt, hlL, hg]
   repeat' apply And.intro
  all_goals
   refine callK.of (hcb _) ?_
   rintro v σ' ⟨rfl, rfl⟩
   simp [-e_setRange_1, -e_setRange_2, setRange_one, m1, m2, m3, ho, hr, rowC, hlt, hlL, hs1, hs2, hpq, hset]
   (intro q; simp only [Store.upd, Store.del]; (repeat' split) <;> first | exact Or.inr rfl | exact Or.inl rfl | (exfalso; omega) | (left; subst_vars; assumption) | simp_all)
 ·have hc' : c.attr = false := by simpa using hc
  have hf : Sp.fit c = ⟨c.char, false, 0, c.high, c.color, c.set⟩ := by unfold Sp.fit; rw [if_neg hc, hc']
  rw [hf] at hca hset
  have e1 : cellA ⟨c.char, false, 0, c.high, c.color, c.set⟩ = .agg [byteA c.char, .lit (.bool false), .lit (.int .u8 0), byteA c.high, byteA c.color, byteA c.set] := rfl
  have e2 : cellC ⟨c.char, false, 0, c.high, c.color, c.set⟩ = [byteA c.char, .lit (.bool false), .lit (.int .u8 0), byteA c.high, byteA c.color, byteA c.set] := rfl
  rw [e1] at hca
  rw [e2] at hset
  rw [cellA_eq, hc']
  refine aw st42 pl42 47 Tryz.func42 rfl ?_
  simp
  intro b hb
  obtain ⟨m1, m2, m3, m4⟩ := h.fresh hb
  simp [m1, ho, rowC]
  refine callK.of (hw _) ?_
  rintro v σ' ⟨rfl, rfl⟩
  simp [m1, m2, ho, hr, rowC, hlt, hlL, hg]
  repeat' apply And.intro
  all_goals
   refine callK.of (hca _) ?_
   rintro v σ' ⟨rfl, rfl⟩
   simp [m1, m2, ho, hr, rowC, hlt, hlL, hg]
   repeat' apply And.intro
  all_goals
   refine callK.of (hcb _) ?_
   rintro v σ' ⟨rfl, rfl⟩
   simp [-e_setRange_1, -e_setRange_2, setRange_one, m1, m2, m3, ho, hr, rowC, hlt, hlL, hs1, hs2, hpq, hset]
   (intro q; simp only [Store.upd, Store.del]; (repeat' split) <;> first | exact Or.inr rfl | exact Or.inl rfl | (exfalso; omega) | (left; subst_vars; assumption) | simp_all)
theorem count_zeros (n : Nat) : (List.replicate n Cell.zero).countP (·.attr) = 0 := by
 induction n with
 | zero => rfl
 | succ n ih => rw [List.replicate_succ, List.countP_cons, ih]; rfl
theorem clear_calls {q : Nat} {s : Sp} {B : AV} {cu cn r c : Int} {L : AV} {σ : Store} (alt : Bool) (hm : 2 ≤ s.model ∧ s.model ≤ 5) (ho : σ q = some [.lit (.int .i64 s.model), B, .lit (.int .i64 r), .lit (.int .i64 c), L, .lit (.int .i64 cu), .lit (.int .i64 cn)]) :
  ACalls Tryz.prog 41 [ptrA q, .lit (.bool alt)] σ fun v σ' => v = .tuple [] ∧ ∃ p : Nat, σ p = none ∧ σ' = putS spO σ q p (s.clear alt) := by
 have h2 := model_calls (m := 2) (by omega)
 have hmm := model_calls hm
 have hcl := cells_calls (dim_of s.model alt)
 have hz := cellsO_zeros ((dims s.model alt).1 * (dims s.model alt).2)
 have hbd := dims_bound s.model alt
 have hd2 : (dims s.model alt) = if alt = true then dims s.model true else dims 2 true := by cases alt <;> simp [dims]
 have hcz : (s.clear alt).count = 0 := count_zeros _
 have hrf : ∀ p, spO (s.clear alt) p = [.lit (.int .i64 s.model), .lit (.bool alt), .lit (.int .i64 (dims s.model alt).1), .lit (.int .i64 (dims s.model alt).2), rowC p ((dims s.model alt).1 * (dims s.model alt).2), .lit (.int .i64 (0 : Nat)), .lit (.int .i64 (0 : Nat))] := fun p => by
  simp only [spO, hcz]; rfl
 have hce : (s.clear alt).cells = List.replicate ((dims s.model alt).1 * (dims s.model alt).2) .zero := rfl
 have h22 : dimM 2 = dimA (dims 2 true).1 (dims 2 true).2 := rfl
 have hmq : dimM s.model = dimA (dims s.model true).1 (dims s.model true).2 := rfl
 rw [h22] at h2
 rw [hmq] at hmm
 simp only [putS, hrf, hce, ← hz]
 have hzz : cellC .zero = [.lit (.int .u8 0), .lit (.bool false), .lit (.int .u8 0), .lit (.int .u8 0), .lit (.int .u8 0), .lit (.int .u8 0)] := rfl
 refine aw st41 pl41 39 Tryz.func41 rfl ?_
 cases alt
 ·simp only [Bool.false_eq_true, if_false] at hd2
  rw [← hd2] at h2
  clear hmm hmq h22 hcz
  generalize (dims s.model false).1 = R at *
  generalize (dims s.model false).2 = C at *
  unfold dimA at h2 hcl
  have hT : ((R : Int) * (C : Int)).toNat = R * C := by rw [← Int.natCast_mul]; rfl
  have hb1 : (0 : Int) ≤ (R : Int) * (C : Int) := by rw [← Int.natCast_mul]; omega
  have hb2 : (R : Int) * (C : Int) ≤ 3564 := by rw [← Int.natCast_mul]; omega
  have hb3 : (R : Int) * (C : Int) ≤ 9223372036854775807 := by omega
  have hb4 : 6 * ((R : Int) * (C : Int)) ≤ 281474976710656 := by omega
  simp [ho]
  refine callK.of (h2 _) ?_
  rintro v σ' ⟨rfl, rfl⟩
  simp
  refine callK.of (hcl _) ?_
  rintro v σ' ⟨rfl, rfl⟩
  simp +contextual [hT, hb1, hb3, hb4, ite_free]
  intro p n1 n2 hp
  refine ⟨_, AV.le_refl _, _, ?_, rfl, p, hp, rfl⟩
  simp only [rowC, hzz]
  (intro q; simp only [Store.upd, Store.del]; (repeat' split) <;> first | exact Or.inr rfl | exact Or.inl rfl | (exfalso; omega) | (left; subst_vars; assumption) | simp_all)
 ·simp only [if_true] at hd2
  generalize (dims s.model true).1 = R at *
  generalize (dims s.model true).2 = C at *
  unfold dimA at hmm hcl
  have hT : ((R : Int) * (C : Int)).toNat = R * C := by rw [← Int.natCast_mul]; rfl
  have hb1 : (0 : Int) ≤ (R : Int) * (C : Int) := by rw [← Int.natCast_mul]; omega
  have hb2 : (R : Int) * (C : Int) ≤ 3564 := by rw [← Int.natCast_mul]; omega
  have hb3 : (R : Int) * (C : Int) ≤ 9223372036854775807 := by omega
  have hb4 : 6 * ((R : Int) * (C : Int)) ≤ 281474976710656 := by omega
  simp [ho]
  refine callK.of (hmm _) ?_
  rintro v σ' ⟨rfl, rfl⟩
  simp
  refine callK.of (hcl _) ?_
  rintro v σ' ⟨rfl, rfl⟩
  simp +contextual [hT, hb1, hb3, hb4, ite_free]
  intro p n1 n2 hp
  refine ⟨_, AV.le_refl _, _, ?_, rfl, p, hp, rfl⟩
  simp only [rowC, hzz]
  (intro q; simp only [Store.upd, Store.del]; (repeat' split) <;> first | exact Or.inr rfl | exact Or.inl rfl | (exfalso; omega) | (left; subst_vars; assumption) | simp_all)
theorem new_calls {m : Nat} (hm : 2 ≤ m ∧ m ≤ 5) (σ : Store) : ACalls Tryz.prog 39 [.lit (.int .i64 m)] σ fun v σ' => ∃ q p : Nat, v = .tuple [ptrA q, .lit (.int .i64 0)] ∧ σ q = none ∧ σ p = none ∧ q ≠ p ∧ σ' = putS spO σ q p (Sp.new m) := by
 have hmo := model_calls hm
 have hmq : dimM m = .agg [.lit (.int .i64 (dims m true).1), .lit (.int .i64 (dims m true).2)] := rfl
 rw [hmq] at hmo
 have hcl := fun (q : Nat) (L B : AV) (r c cu cn : Int) (τ : Store) (ho : τ q = some [.lit (.int .i64 m), B, .lit (.int .i64 r), .lit (.int .i64 c), L, .lit (.int .i64 cu), .lit (.int .i64 cn)]) => clear_calls (s := ⟨m, false, [], 0⟩) false hm ho
 refine aw st39 pl39 21 Tryz.func39 rfl ?_
 simp
 refine callK.of (hmo _) ?_
 rintro v σ' ⟨rfl, rfl⟩
 simp +contextual [ite_free]
 intro r hr q n1 n2 hq
 refine callK.of (hcl q (.list true 6 []) (.lit (.bool false)) 0 0 0 0 _ (by simp)) ?_
 rintro v σ1 ⟨rfl, p, hp, rfl⟩
 simp [ite_free] at hp
 obtain ⟨p1, p2, p3, p4, p5⟩ := hp
 simp
 refine ⟨_, AV.le_refl _, _, ?_, q, rfl, hq, p, p5, by omega, rfl⟩
 simp only [putS]
 have : spO (Sp.clear { model := m, alt := false, cells := [], cursor := 0 } false) p = spO (Sp.new m) p := rfl
 have h2 : (Sp.clear { model := m, alt := false, cells := [], cursor := 0 } false).cells = (Sp.new m).cells := rfl
 rw [this, h2]
 (intro q; simp only [Store.upd, Store.del]; (repeat' split) <;> first | exact Or.inr rfl | exact Or.inl rfl | (exfalso; omega) | (left; subst_vars; assumption) | simp_all)
theorem cellsO_char : ∀ (l : List Cell) (i : Nat) (h : i < l.length) (b : UInt8), (cellsO l).set (i * 6) (byteA b) = cellsO (l.set i { l[i] with char := b })
 | c :: l, 0, _, b => by simp [cellsO, cellC]
 | c :: l, i + 1, h, b => by
  have ih := cellsO_char l i (by simpa using h) b
  have e : (i + 1) * 6 = 6 + i * 6 := by omega
  simp only [cellsO, List.flatMap_cons, List.set_cons_succ, List.getElem_cons_succ] at ih ⊢
  rw [e, List.set_append, if_neg (by rw [cellC_length]; omega), cellC_length, show 6 + i * 6 - 6 = i * 6 from by omega, ih]
theorem put_cells {s : Sp} (h : s.good) (k : Int) (b : UInt8) (hc : (s.at k).attr = false) : (s.put k b).cells = s.cells.set (wrap s.n k) { s.at k with char := b } ∧ (s.put k b).count = s.count := by
 have hlt := wrap_lt s.n_pos k
 have hlt' : wrap s.n k < s.cells.length := by rw [h.len]; exact hlt
 have hak : s.at k = s.cells[wrap s.n k] := by simp [Sp.at, hlt']
 have hf := h.fit _ (List.getElem_mem hlt')
 rw [← hak] at hf
 unfold fitted Sp.fit at hf
 rw [if_neg (by simp [hc])] at hf
 have hfa : (s.at k).fa = 0 := by rw [← hf]
 have hput : s.put k b = s.set k { s.at k with char := b } := by unfold Sp.put; rw [if_neg (by simp [hc])]
 have hfit : Sp.fit { s.at k with char := b } = { s.at k with char := b } := by unfold Sp.fit; rw [if_neg (by simp [hc]), ← hfa]
 have hcells : (s.put k b).cells = s.cells.set (wrap s.n k) { s.at k with char := b } := by rw [hput]; unfold Sp.set Sp.put1; rw [hfit]
 refine ⟨hcells, ?_⟩
 have hda : ({ s.at k with char := b } : Cell).attr = false := hc
 generalize ({ s.at k with char := b } : Cell) = d at *
 have hcn := count_set hlt' d
 rw [← hak, hc, hda] at hcn
 simp at hcn
 unfold Sp.count
 rw [hcells]; exact Int.ofNat.inj hcn
theorem spO_put (s : Sp) (k : Int) (b : UInt8) (p : Nat) (h : (s.put k b).count = s.count) : spO (s.put k b) p = spO s p := by
 have hm := s.model_put k b
 have hcu : (s.put k b).cursor = s.cursor := by unfold Sp.put; split <;> rfl
 unfold spO Sp.rows Sp.cols Sp.n Sp.rows Sp.cols
 rw [hm.1, hm.2, hcu, h]
theorem pput_calls {q p : Nat} {s : Sp} {σ : Store} (h : Prg σ q p s) (k : Int) (b : UInt8) : ACalls Tryz.prog 19 [ptrA q, .lit (.int .i64 k), byteA b] σ fun v σ' => v = .tuple [] ∧ σ' = putS spO σ q p (s.put k b) := by
 have ho := h.obj
 have hr := h.row
 have hw := fun τ => swrap_calls s k τ
 have hlt := wrap_lt s.n_pos k
 have hlt' : wrap s.n k < s.cells.length := by rw [h.good.len]; exact hlt
 have hak : s.at k = s.cells[wrap s.n k] := by simp [Sp.at, hlt']
 have hg1 := cellsO_get1 (j := 1) hlt' (by omega)
 rw [← hak] at hg1
 have hg2 : (cellsO s.cells)[wrap s.n k * 6 + 1]? = some (.lit (.bool (s.at k).attr)) := hg1
 have hle : wrap s.n k * 6 + 1 ≤ (cellsO s.cells).length := by rw [cellsO_length]; omega
 have hset := cellsO_char s.cells (wrap s.n k) hlt' b
 rw [← hak] at hset
 have hpq : ¬ p = q := Ne.symm h.ne
 have hqp : ¬ q = p := h.ne
 unfold spO at ho
 refine aw st19 pl19 29 Tryz.func19 rfl ?_
 by_cases hc : (s.at k).attr = true
 ·have hp : s.put k b = s := by unfold Sp.put; rw [if_pos hc]
  rw [hp, h.put_self]
  rw [hc] at hg2
  simp [ho, rowC]
  refine ⟨?_, ?_⟩
  all_goals
   refine callK.of (hw _) ?_
   rintro v σ' ⟨rfl, rfl⟩
   simp [ho, hr, rowC, hlt, hg2]
 ·have hc' : (s.at k).attr = false := by simpa using hc
  obtain ⟨hp1, hp2⟩ := put_cells h.good k b hc'
  have hfin : putS spO σ q p (s.put k b) = σ.upd p (cellsO (s.cells.set (wrap s.n k) { s.at k with char := b })) := by
   rw [putS, spO_put s k b p hp2, upd_back h.obj, hp1]
  rw [hfin, ← hset]
  rw [hc'] at hg2
  simp [ho, rowC]
  refine ⟨?_, ?_⟩
  all_goals
   refine callK.of (hw _) ?_
   rintro v σ' ⟨rfl, rfl⟩
   simp [ho, hr, rowC, hlt, hg2]
   exact hle
theorem byteA_lit (b : UInt8) : byteA b = .lit (.int .u8 b.toNat) := rfl
theorem eqLits_cell (c d : Cell) : eqLits [.int, .bool, .int, .int, .int, .int] [byteA c.char, .lit (.bool c.attr), byteA c.fa, byteA c.high, byteA c.color, byteA c.set]
  [byteA d.char, .lit (.bool d.attr), byteA d.fa, byteA d.high, byteA d.color, byteA d.set] = some (decide (c = d)) := by
 obtain ⟨a1, a2, a3, a4, a5, a6⟩ := c
 obtain ⟨b1, b2, b3, b4, b5, b6⟩ := d
 have h : ∀ x y : UInt8, ((x.toNat : Int) == (y.toNat : Int)) = decide (x = y) := fun x y => by rw [byte_eq]; rfl
 simp only [byteA_lit]
 simp [h]
 rw [Bool.eq_iff_iff]
 simp
theorem eqLits_zero (c : Cell) : eqLits [.int, .bool, .int, .int, .int, .int] [byteA c.char, .lit (.bool c.attr), byteA c.fa, byteA c.high, byteA c.color, byteA c.set]
  [.lit (.int .u8 0), .lit (.bool false), .lit (.int .u8 0), .lit (.int .u8 0), .lit (.int .u8 0), .lit (.int .u8 0)] = some (decide (c = .zero)) := eqLits_cell c .zero
def actsA (l : List Sp.Act) : List AV := l.map actA
@[simp] theorem actsA_length (l : List Sp.Act) : (actsA l).length = l.length := by simp [actsA]
theorem actsA_at (l : List Sp.Act) (i : Nat) (h : i < l.length) : (actsA l)[i]'(by simpa using h) = actA l[i] := by simp [actsA]
def upTo (s : Sp) (j : Nat) : Sp := { s with cells := s.cells.take j ++ List.replicate (s.n - j) .zero, cursor := 0 }
theorem upTo_len {s : Sp} (h : s.good) {j : Nat} (hj : j ≤ s.n) : (upTo s j).cells.length = s.n := by
 simp [upTo, h.len]; omega
theorem upTo_good {s : Sp} (h : s.good) {j : Nat} (hj : j ≤ s.n) : (upTo s j).good := by
 refine ⟨h.model, upTo_len h hj, s.n_pos, fun c hc => ?_⟩
 simp only [upTo, List.mem_append, List.mem_replicate] at hc
 rcases hc with hc | ⟨_, rfl⟩
 ·exact h.fit c (List.mem_of_mem_take hc)
 ·exact fitted_zero
theorem upTo_next {s : Sp} (h : s.good) {j : Nat} (hj : j < s.n) (hjc : j < s.cells.length) : (upTo s (j + 1)) = (upTo s j).set j s.cells[j] := by
 have hf : Sp.fit s.cells[j] = s.cells[j] := h.fit _ (List.getElem_mem hjc)
 have hw : wrap (upTo s j).n (j : Int) = j := wrap_of_lt hj
 simp only [Sp.set, hw, hf, Sp.put1]
 simp only [upTo]
 congr 1
 rw [List.take_succ_eq_append_getElem hjc, show s.n - j = (s.n - (j + 1)) + 1 by omega, List.replicate_succ]
 have hl : (s.cells.take j).length = j := by simp; omega
 rw [List.set_append_right _ _ (by omega), hl]
 simp only [List.append_assoc, Nat.sub_self, List.set_cons_zero, List.singleton_append]
theorem upTo_same {s : Sp} {j : Nat} (_h : s.good) (hj : j < s.n) (hjc : j < s.cells.length) (hz : s.cells[j] = .zero) : upTo s (j + 1) = upTo s j := by
 simp only [upTo]
 congr 1
 rw [List.take_succ_eq_append_getElem hjc, show s.n - j = (s.n - (j + 1)) + 1 by omega, List.replicate_succ, hz]
 simp only [List.append_assoc, List.singleton_append]
theorem upTo_all {s : Sp} (h : s.good) : (upTo s s.n).place s.cursor = s := by
 have hc : wrap (upTo s s.n).n (s.cursor : Int) = s.cursor := wrap_of_lt h.cursor
 obtain ⟨m, a, l, c⟩ := s
 simp only [Sp.place, hc]
 simp only [upTo]
 have : l.take (Sp.n ⟨m, a, l, c⟩) = l := List.take_of_length_le (by have := h.len; simp at this; omega)
 simp [this]
theorem upTo_zero (s : Sp) : upTo s 0 = Sp.clear ⟨s.model, false, [], 0⟩ s.alt := by simp [upTo, Sp.clear, Sp.n, Sp.rows, Sp.cols]
structure Four (σ : Store) (q p x y : Nat) : Prop where
 q0 : σ q = none
 p0 : σ p = none
 x0 : σ x = none
 y0 : σ y = none
 qp : q ≠ p
 qx : q ≠ x
 qy : q ≠ y
 px : p ≠ x
 py : p ≠ y
 xy : x ≠ y
def both (σ : Store) (q p x y : Nat) (s t : Sp) : Store := putS spO (putS rfO σ x y t) q p s
theorem both_ref {σ : Store} {q p x y : Nat} {s t : Sp} (h : Four σ q p x y) (hg : t.good) : Ref (both σ q p x y s t) x y t :=
 ⟨by simp [both, putS, h.xy, Ne.symm h.qx, Ne.symm h.px], by simp [both, putS, Ne.symm h.qy, Ne.symm h.py], h.xy, hg⟩
theorem both_prg {σ : Store} {q p x y : Nat} {s t : Sp} (h : Four σ q p x y) (hg : s.good) : Prg (both σ q p x y s t) q p s := Scr.of_put h.qp hg
def LayR (σ : Store) (s : Sp) (v : AV) (σ' : Store) : Prop := ∃ q p x y : Nat, v = .tuple [ptrA q, ptrA x] ∧ Four σ q p x y ∧ σ' = both σ q p x y s s
theorem lays_step (m : UInt8) (l : List Sp.Act) (i : Nat) (h : i < l.length) (h2 : i < 30) : ((l.take 30).take (i + 1)).foldl Sp.act (Sp.new (2 + m.toNat % 4)) = (((l.take 30).take i).foldl Sp.act (Sp.new (2 + m.toNat % 4))).act l[i] := by
 have h3 : i < (l.take 30).length := by simp; omega
 rw [List.take_succ_eq_append_getElem h3, List.foldl_append]; simp
theorem foldl_model : ∀ (l : List Sp.Act) (s : Sp), (l.foldl Sp.act s).model = s.model
 | [], _ => rfl
 | a :: l, s => (foldl_model l (s.act a)).trans (s.model_act a)
def NeedS (b q p : Nat) (s : Sp) (_k : Nat) (τ : Store) : Prop := τ b = some [ptrA q] ∧ Prg τ q p s
theorem prg_mono {σ τ : Store} {q p : Nat} {s : Sp} {f : Sp → Nat → List AV} (h : Scr f τ q p s) (hs : Store.sub τ σ) : Scr f σ q p s := by
 refine ⟨?_, ?_, h.ne, h.good⟩
 ·rcases hs q with h' | h'
  ·rw [h.obj] at h'; cases h'
  ·rw [← h', h.obj]
 ·rcases hs p with h' | h'
  ·rw [h.row] at h'; cases h'
  ·rw [← h', h.row]
theorem sub_at {σ τ : Store} {b : Nat} {x : List AV} (h : τ b = some x) (hs : Store.sub τ σ) : σ b = some x := by
 rcases hs b with h' | h'
 ·rw [h] at h'; cases h'
 ·rw [← h', h]
theorem all_calls2 (q : Nat) (σ : Store) : ACalls Tryz.prog 165 [ptrA q] σ fun v σ' => ∃ b : Nat, σ b = none ∧ v = .func (.func 169) [] [ptrA b] ∧ σ' = σ.upd b [ptrA q] := by
 refine aw st165 pl165 4 Tryz.func165 rfl ?_
 simp
 exact fun b hb => ⟨_, AV.le_refl _, _, Store.sub_refl _, b, hb, rfl, rfl⟩
theorem filter_at {α : Type} (P : α → Bool) (xs : List α) (k : Nat) (h : k < xs.length) : (xs.take (k + 1)).filter P = (xs.take k).filter P ++ (if P xs[k] = true then [xs[k]] else []) ∧ (P xs[k] = true → (xs.filter P)[((xs.take k).filter P).length]? = some xs[k]) := by
 refine ⟨?_, fun hp => ?_⟩
 ·rw [List.take_succ_eq_append_getElem h, List.filter_append]
  congr 1
  simp only [List.filter_cons, List.filter_nil]
 ·have e : xs = xs.take k ++ (xs[k] :: xs.drop (k + 1)) := by rw [← List.drop_eq_getElem_cons h, List.take_append_drop]
  conv => lhs; rw [e]
  rw [List.filter_append, List.filter_cons_of_pos hp]
  have e2 : ((List.take k (xs.take k ++ xs[k] :: xs.drop (k + 1))).filter P).length = ((xs.take k).filter P).length := by rw [← e]
  rw [e2, List.getElem?_append_right (Nat.le_refl _), Nat.sub_self]; rfl
def cntP {α : Type} (P : α → Bool) (xs : List α) (k : Nat) : Nat := ((xs.take k).filter P).length
theorem cntP_zero {α : Type} (P : α → Bool) (xs : List α) : cntP P xs 0 = 0 := by simp [cntP]
theorem cntP_all {α : Type} (P : α → Bool) (xs : List α) : cntP P xs xs.length = (xs.filter P).length := by simp [cntP]
theorem cntP_yes {α : Type} {P : α → Bool} {xs : List α} {k : Nat} (h : k < xs.length) (hp : P xs[k] = true) : cntP P xs (k + 1) = cntP P xs k + 1 ∧ cntP P xs k < (xs.filter P).length ∧ (xs.filter P)[cntP P xs k]? = some xs[k] := by
 obtain ⟨h1, h2⟩ := filter_at P xs k h
 have h2 := h2 hp
 refine ⟨?_, (List.getElem?_eq_some_iff.1 h2).1, h2⟩
 rw [cntP, h1, if_pos hp]; simp [cntP]
theorem cntP_no {α : Type} {P : α → Bool} {xs : List α} {k : Nat} (h : k < xs.length) (hp : P xs[k] = false) : cntP P xs (k + 1) = cntP P xs k := by
 obtain ⟨h1, _⟩ := filter_at P xs k h
 rw [cntP, h1, if_neg (by simp [hp])]; simp [cntP]
def isAt (s : Sp) (i : Nat) : Bool := (s.cells[i]?.getD .zero).attr
theorem attrs_eq (s : Sp) (h : s.good) : s.attrs = (List.range s.n).filter (isAt s) := by rw [← h.len]; rfl
theorem at_of {s : Sp} (_h : s.good) {i : Nat} (hi : i < s.n) : s.at (i : Int) = s.cells[i]?.getD .zero := by
 unfold Sp.at; rw [wrap_of_lt hi]
theorem attrs_calls2 (q : Nat) (σ : Store) : ACalls Tryz.prog 157 [ptrA q] σ fun v σ' => ∃ b : Nat, σ b = none ∧ v = .func (.func 164) [] [ptrA b] ∧ σ' = σ.upd b [ptrA q] := by
 refine aw st157 pl157 4 Tryz.func157 rfl ?_
 simp
 exact fun b hb => ⟨_, AV.le_refl _, _, Store.sub_refl _, b, hb, rfl, rfl⟩
structure Beside (τ ρ : Store) (b2 y : Nat) (f g : AV) : Prop where
 b0 : τ b2 = none
 y0 : τ y = none
 ne : b2 ≠ y
 eq : ρ = (τ.upd b2 [f]).upd y [g]
theorem Beside.sub {τ ρ : Store} {b2 y : Nat} {f g : AV} (h : Beside τ ρ b2 y f g) : Store.sub τ ρ := by
 rw [h.eq]
 exact Store.sub_upd h.y0 (Store.sub_upd h.b0 (Store.sub_refl _))
theorem Beside.next {τ ρ τ' cur : Store} {b2 y : Nat} {f g : AV} (h : Beside τ ρ b2 y f g) (hc : Store.sub ρ cur) (hap : Apart τ' τ cur) : ∃ ρ', Store.sub ρ' (Store.over τ' τ cur) ∧ Beside τ' ρ' b2 y f g := by
 have c1 : cur b2 = some [f] := sub_at (by rw [h.eq]; simp [h.ne]) hc
 have c2 : cur y = some [g] := sub_at (by rw [h.eq]; simp) hc
 have d1 := hap b2 h.b0 (by rw [c1]; simp)
 have d2 := hap y h.y0 (by rw [c2]; simp)
 refine ⟨(τ'.upd b2 [f]).upd y [g], Store.sub2 (fun o => ?_) (fun i => by simpa using Store.sub_over τ' τ cur (mkey i)), ⟨d1, d2, h.ne, rfl⟩⟩
 by_cases h1 : o = y
 ·subst h1; right; simp [Store.over, d2, h.y0, c2]
 ·by_cases h2 : o = b2
  ·subst h2; right; simp [Store.over, d1, h.b0, c1, h.ne]
  ·simp only [supd_apply, if_neg h1, if_neg h2]
   exact Store.sub_over τ' τ cur o
theorem fld_prg (b : UInt8) : ((((b &&& 32).toNat : Nat) : Int) != 0) = (fld b).prot ∧ ((((b &&& 16).toNat : Nat) : Int) != 0) = (fld b).num ∧ (b &&& 12).toNat / 4 = (fld b).disp ∧ ((((b &&& 1).toNat : Nat) : Int) != 0) = (fld b).mod :=
 all_bytes (p := fun b => ((((b &&& 32).toNat : Nat) : Int) != 0) = (fld b).prot ∧ ((((b &&& 16).toNat : Nat) : Int) != 0) = (fld b).num ∧ (b &&& 12).toNat / 4 = (fld b).disp ∧ ((((b &&& 1).toNat : Nat) : Int) != 0) = (fld b).mod) (by decide +kernel) b
theorem of_calls (b : UInt8) (σ : Store) : ACalls Tryz.prog 122 [byteA b] σ fun v σ' => v = fldA (fld b) ∧ σ' = σ := by
 obtain ⟨h1, h2, h3, h4⟩ := fld_prg b
 rw [fldA, ← h1, ← h2, ← h3, ← h4]
 have a1 : pureBin .and (.int .u8 (b.toNat : Int)) (.int .u8 32) = some (.int .u8 ((b &&& 32).toNat : Int)) := and_u8 b 32
 have a2 : pureBin .and (.int .u8 (b.toNat : Int)) (.int .u8 16) = some (.int .u8 ((b &&& 16).toNat : Int)) := and_u8 b 16
 have a3 : pureBin .and (.int .u8 (b.toNat : Int)) (.int .u8 12) = some (.int .u8 ((b &&& 12).toNat : Int)) := and_u8 b 12
 have a4 : pureBin .and (.int .u8 (b.toNat : Int)) (.int .u8 1) = some (.int .u8 ((b &&& 1).toNat : Int)) := and_u8 b 1
 have hl := (b &&& 12).toNat_lt
 have hw : IntKind.i64.wrap ((b &&& 12).toNat : Int) = ((b &&& 12).toNat : Int) := wrap_i64 (by omega) (by omega)
 have hs := shr_nat (b &&& 12).toNat 2 (by omega)
 have hs' : pureBin .shr (.int .i64 ((b &&& 12).toNat : Int)) (.int .u64 2) = some (.int .i64 (((b &&& 12).toNat / 4 : Nat) : Int)) := hs
 refine aw st122 pl122 17 Tryz.func122 rfl ?_
 generalize (b &&& 32).toNat = x1 at *
 generalize (b &&& 16).toNat = x2 at *
 generalize (b &&& 12).toNat = x3 at *
 generalize (b &&& 1).toNat = x4 at *
 simp [-e_pureBin_8, -e_pureBin_2, byteA, a1, a2, a3, a4, hw, hs']
 intro p hp
 (intro q; simp only [Store.upd, Store.del]; (repeat' split) <;> first | exact Or.inr rfl | exact Or.inl rfl | (exfalso; omega) | (left; subst_vars; assumption) | simp_all)
theorem fields_calls2 (q : Nat) (σ : Store) : ACalls Tryz.prog 136 [ptrA q] σ fun v σ' => ∃ b : Nat, σ b = none ∧ v = .func (.func 156) [] [ptrA b] ∧ σ' = σ.upd b [ptrA q] := by
 refine aw st136 pl136 4 Tryz.func136 rfl ?_
 simp
 exact fun b hb => ⟨_, AV.le_refl _, _, Store.sub_refl _, b, hb, rfl, rfl⟩
def pl106t : List (Nat × Plan) := [(3, Plan.tail 7 (Plan.seq [1, 2, 3] (.alt (Plan.seq [0, 4, 5, 6] (.done)) (Plan.seq [4, 5] (.alt (Plan.seq [0, 6] (.done)) (Plan.seq [6, 0] (.done)))))))]
def atFld (s : Sp) (k : Nat) : Nat × Fld := (s.attrs[k]?.getD 0, fld ((s.cells[s.attrs[k]?.getD 0]?.getD .zero).fa))
def isMod (s : Sp) (a : Nat) : Bool := (fld (s.cells[a]?.getD .zero).fa).mod
theorem places_calls2 (q : Nat) (a : Int) (σ : Store) : ACalls Tryz.prog 137 [ptrA q, .lit (.int .i64 a)] σ fun v σ' => ∃ (b c : Nat), σ b = none ∧ σ c = none ∧ b ≠ c ∧ v = .func (.func 158) [] [ptrA b, ptrA c] ∧ σ' = (σ.upd b [ptrA q]).upd c [.lit (.int .i64 a)] := by
 refine aw st137 pl137 6 Tryz.func137 rfl ?_
 simp +contextual [ite_free]
 exact fun b hb c h1 h2 hc => ⟨_, AV.le_refl _, _, Store.sub_refl _, b, hb, c, hc, h2, rfl, rfl⟩
def NeedP (b c q p : Nat) (s : Sp) (a : Nat) (_k : Nat) (τ : Store) : Prop := τ b = some [ptrA q] ∧ τ c = some [.lit (.int .i64 a)] ∧ Prg τ q p s
theorem needP_mono {b c q p a : Nat} {s : Sp} {k : Nat} {τ τ' : Store} (h : NeedP b c q p s a k τ) (hs : Store.sub τ τ') : NeedP b c q p s a k τ' :=
 ⟨sub_at h.1 hs, sub_at h.2.1 hs, prg_mono h.2.2 hs⟩
theorem wrap_mod {n k : Nat} (_h : 0 < n) : wrap n (k : Int) = k % n := by
 unfold wrap
 rw [← Int.natCast_emod]; rfl
theorem places_iter (b c q p : Nat) (s : Sp) (a : Nat) (ha : a < s.n) (hat : attrAt s.cells a = true) (σ : Store) : IterG Tryz.prog 158 [ptrA b, ptrA c] σ (Sp.len s.cells a) (NeedP b c q p s a) fun k _ => [.lit (.int .i64 ((a + k + 1) % s.n : Nat))] := by
 refine ⟨fun k τ τ' h hs => ⟨needP_mono h hs, rfl⟩, fun X l I J hneed hy τ E h0 hs => ?_⟩
 have hN0 := hneed 0 τ E (Nat.zero_le _) h0
 obtain ⟨hb, hc, hP⟩ := needP_mono hN0 hs
 have hg := hP.good
 have hln := hg.len
 have hn := s.n_le
 have hnp := s.n_pos
 have tn : ∀ o : Nat, σ o = none → τ o = none := fun o ho => by
  rcases hs o with h | h
  ·exact h
  ·rw [h, ho]
 have hsz := size_calls hP
 have hw1 := swrap_calls s (a : Int)
 rw [wrap_of_lt ha] at hw1
 have hca : (s.at (a : Int)).attr = true := by rw [at_of hg ha]; exact hat
 have hat1 := fun τ (hτ : Prg τ q p s) => at_calls hτ (a : Int)
 simp only [cellA_eq, hca] at hat1
 have hw2 := swrap_calls s ((a : Int) + 1)
 have e2 : wrap s.n ((a : Int) + 1) = (a + 0 + 1) % s.n := by
  rw [show ((a : Int) + 1) = ((a + 1 : Nat) : Int) by omega, wrap_mod hnp]
 rw [e2] at hw2
 have hi1 : IntKind.i64.wrap ((a : Int) + 1) = (a : Int) + 1 := wrap_i64 (by omega) (by omega)
 refine ACallsY.of_awp follows (st := st158) (plans := pl158) (n := 33) Tryz.func158 rfl (by kernel_rfl) (by kernel_rfl) (by kernel_rfl) ?_
 simp [hb]
 refine callK.of hsz ?_
 rintro v σ' ⟨rfl, rfl⟩
 simp
 intro z hz
 have hcz : ¬ c = z := by rintro rfl; rw [hc] at hz; cases hz
 have hbz : ¬ b = z := by rintro rfl; rw [hb] at hz; cases hz
 simp [hc, hcz]
 refine callK.of (hw1 _) ?_
 rintro v σ' ⟨rfl, rfl⟩
 have hqc : ¬ q = c := by
  rintro rfl; have := hP.obj; rw [hc] at this; simp [spO] at this
 have hpc : ¬ p = c := by
  rintro rfl
  have h1 := hP.row; rw [hc] at h1
  have h2 := congrArg (fun o => (o.getD []).length) h1
  simp only [Option.getD_some, cellsO_length, List.length_cons, List.length_nil] at h2; omega
 obtain ⟨m1, m2, m3, m4⟩ := hP.fresh hz
 have hbc : ¬ b = c := by
  rintro rfl; rw [hb] at hc; simp at hc
 simp [hc, hcz, hb, hbz, hbc]
 refine callK.of (hat1 _ ((hP.new hz _).upd ⟨hqc, hpc⟩ _)) ?_
 rintro v σ' ⟨rfl, rfl⟩
 simp [Ne.symm hcz, hi1]
 refine callK.of (hw2 _) ?_
 rintro v σ' ⟨rfl, rfl⟩
 simp
 have hlen := Sp.len_lt (l := s.cells) (a := a) (by omega)
 refine codeYK.loop follows (st := st158) (plans := pl158) (S := Nat × Store) (fun x => x.1 ≤ Sp.len s.cells a ∧ x.2 z = none)
  (fun x => [(0, .func (.yield l) [] []), (1, ptrA b), (2, ptrA c), (4, ptrA z), (5, .lit (.int .i64 ((a + x.1 + 1) % s.n : Nat)))]) (fun x => x.2.upd z [.lit (.int .i64 s.rows), .lit (.int .i64 s.cols)]) (fun x E => I x.1 x.2 E) (fun x => Sp.len s.cells a - x.1) (0, τ) (by kernel_rfl) ⟨Nat.zero_le _, tn _ hz⟩ (by simp) ?_ h0 ?_
 ·refine Store.sub2 (fun o => ?_) (fun i => by simpa using hs (mkey i))
  dsimp only
  simp only [supd_apply]
  by_cases h1 : o = z
  ·subst h1; right; simp [Ne.symm hcz]
  ·by_cases h2 : o = c
   ·subst h2
    rcases hs o with h | h
    ·left; simp [h1, h]
    ·right; simp [h1, h, hc]
   ·simp only [if_neg h1, if_neg h2]; exact hs o
 rintro ⟨k, τ1⟩ E1 ⟨hk, hz1⟩ hI
 dsimp only at hk hz1 hI ⊢
 have hNk := hneed k τ1 E1 hk hI
 have hsub : Store.sub τ1 (τ1.upd z [.lit (.int .i64 s.rows), .lit (.int .i64 s.cols)]) := Store.sub_upd hz1 (Store.sub_refl _)
 have hPk := prg_mono hNk.2.2 hsub
 have hbk := sub_at hNk.1 hsub
 have hml : (a + k + 1) % s.n < s.n := Nat.mod_lt _ hnp
 have hatk := at_calls hPk (((a + k + 1) % s.n : Nat) : Int)
 have hae := at_of hg hml
 by_cases hlt : k < Sp.len s.cells a
 ·have hfree := Sp.len_free (l := s.cells) (a := a) (j := k + 1) (by omega) (by omega)
  rw [show a + (k + 1) = a + k + 1 by omega, hln] at hfree
  have hcf : (s.at (((a + k + 1) % s.n : Nat) : Int)).attr = false := by rw [hae]; exact hfree
  have hyk := hy k hlt τ1 E1 hI
  have hwk := swrap_calls s ((((a + k + 1) % s.n : Nat) : Int) + 1)
  have e3 : wrap s.n ((((a + k + 1) % s.n : Nat) : Int) + 1) = (a + (k + 1) + 1) % s.n := by
   rw [show ((((a + k + 1) % s.n : Nat) : Int) + 1) = (((a + k + 1) % s.n + 1 : Nat) : Int) by omega, wrap_mod hnp, Nat.mod_add_mod, show a + (k + 1) + 1 = a + k + 1 + 1 by omega]
  rw [e3] at hwk
  have hik : IntKind.i64.wrap ((((a + k + 1) % s.n : Nat) : Int) + 1) = (((a + k + 1) % s.n : Nat) : Int) + 1 := wrap_i64 (by omega) (by omega)
  generalize (a + k + 1) % s.n = m at *
  simp only [cellA_eq, hcf] at hatk
  have hbk' : τ1 b = some [ptrA q] := hNk.1
  simp [hbk', hbz]
  refine callK.of hatk ?_
  rintro v σ' ⟨rfl, rfl⟩
  simp
  refine yieldK.of (args' := [.lit (.int .i64 (m : Nat))]) (by simp) hyk hsub ?_
  intro b3 τ' E' hR hap
  have hz2 : τ' z = none := hap z hz1 (by simp)
  have hov : Store.over τ' τ1 (τ1.upd z [.lit (.int .i64 s.rows), .lit (.int .i64 s.cols)]) z = some [.lit (.int .i64 s.rows), .lit (.int .i64 s.cols)] := by
   rw [Store.over_apart hap hz1 (by simp)]; simp
  cases b3
  ·simp
   exact ⟨⟨_, AV.le_refl _⟩, _, Store.sub_refl _, τ', Store.sub_over _ _ _, .inr (by simpa using hR)⟩
  ·simp [hov, hik]
   refine callK.of (hwk _) ?_
   rintro v σ' ⟨rfl, rfl⟩
   simp
   refine ⟨k + 1, τ', ⟨by omega, hz2⟩, by omega, AV.le_refl _, Store.sub2 (fun o => ?_) (fun i => by simpa using Store.sub_over _ _ _ (mkey i)), by simpa using hR⟩
   by_cases h1 : o = z
   ·subst h1; right; rw [hov]; simp
   ·simp only [supd_apply, if_neg h1]; exact Store.sub_over _ _ _ o
 ·obtain rfl : k = Sp.len s.cells a := by omega
  have hstop := Sp.len_stop hat (by omega)
  rw [hln] at hstop
  have hcf : (s.at (((a + Sp.len s.cells a + 1) % s.n : Nat) : Int)).attr = true := by rw [hae]; exact hstop
  generalize (a + Sp.len s.cells a + 1) % s.n = m at *
  simp only [cellA_eq, hcf] at hatk
  have hbk' : τ1 b = some [ptrA q] := hNk.1
  simp [hbk', hbz]
  refine callK.of hatk ?_
  rintro v σ' ⟨rfl, rfl⟩
  simp
  exact ⟨⟨_, AV.le_refl _⟩, _, Store.sub_refl _, τ1, hsub, .inl hI⟩
end Go.Proofs.YtlmdbcgceijlnaaGreat
