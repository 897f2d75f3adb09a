/-
  Screens as objects: the program's ways to make one.
-/
import Derived.Test.YtnlggjbcdienfaaPart11
namespace Go.Proofs.Ytnlggjbcdienfaa
open Go Go.AL Go.Sp

theorem and61 (b : UInt8) : pureBin .and (.int .u8 (b.toNat : Int)) (.int .u8 61) = some (.int .u8 ((Sp.six b).toNat : Int)) := and_u8 b 61
theorem setRange_one {α : Type} (cs : List α) (off : Nat) (x : α) : setRange cs off [x] = cs.set off x := nr rfl
/-- A cell is that; d: as it stands then. -/
theorem set_core {q p : Nat} {s : Sp} {σ : Store} (h : Prg σ q p s) (k : Int) (c : Cell) (b1 : UInt8) (at1 : Bool) (fa1 : UInt8) (hd : Sp.fit c = ⟨b1, at1, fa1, c.high, c.color, c.set⟩) (hat : c.attr = at1) : True := trivial

set_option maxRecDepth 8000 in
set_option maxHeartbeats 1000000 in
theorem set_calls {q p : Nat} {s : Sp} {σ : Store} (h : Prg σ q p s) (k : Int) (c : Cell) : ACalls Try.prog 36 [ptrA q, .lit (.int .i64 k), cellA c] σ fun v σ' => v = .tuple [] ∧ σ' = putS spO σ q p (s.set k c) := by
  have ho := h.obj
  have hr := h.row
  have hw := fun τ => swrap_calls s k τ
  obtain ⟨hlt, hlL, hg⟩ := at_row h.good k
  have hlt' : wrap s.n k < s.cells.length := by rw [h.good.len]; exact hlt
  have hset := cellsO_set hlt' (Sp.fit c)
  have hcn := count_set hlt' (Sp.fit c)
  have hca := count_calls (Sp.fit c)
  have hcb := count_calls (s.at k)
  have hak : s.at k = s.cells[wrap s.n k] := by simp [Sp.at, hlt']
  have hcl := count_le s
  have hn := s.n_le
  rw [h.good.len] at hcl
  have hcc : (s.set k c).cells = s.cells.set (wrap s.n k) (Sp.fit c) := rfl
  have hrf : spO (s.set k c) p = [.lit (.int .i64 s.model), .lit (.bool s.alt), .lit (.int .i64 s.rows), .lit (.int .i64 s.cols), rowC p s.n, .lit (.int .i64 s.cursor), .lit (.int .i64 (s.set k c).count)] := rfl
  have hc2 : ((s.set k c).count : Int) = (s.count : Int) + ((if (Sp.fit c).attr = true then 1 else 0) - (if (s.at k).attr = true then 1 else 0)) := by rw [hak]; exact hcn
  have hx : ∃ x : Int, (if (Sp.fit c).attr = true then (1 : Int) else 0) = x ∧ 0 ≤ x ∧ x ≤ 1 := ⟨_, rfl, by split <;> omega, by split <;> omega⟩
  have hy : ∃ y : Int, (if (s.at k).attr = true then (1 : Int) else 0) = y ∧ 0 ≤ y ∧ y ≤ 1 := ⟨_, rfl, by split <;> omega, by split <;> omega⟩
  obtain ⟨x, hx, x0, x1⟩ := hx
  obtain ⟨y, hy, y0, y1⟩ := hy
  rw [hx, hy] at hc2
  rw [hx] at hca
  rw [hy] at hcb
  have hs1 : IntKind.i64.wrap (x - y) = x - y := wrap_i64 (by omega) (by omega)
  have hs2 : IntKind.i64.wrap ((s.count : Int) + (x - y)) = ((s.set k c).count : Int) := by rw [wrap_i64 (by omega) (by omega), hc2]
  simp only [putS, hcc, hrf]
  generalize cellsO (s.cells.set (wrap s.n k) (Sp.fit c)) = M at *
  unfold spO at ho
  clear hak hcn hcc hrf hc2 hx hy hcl
  generalize (s.set k c).count = cnt at *
  generalize s.count = cnt0 at *
  have hgc : cellC (s.at k) = [byteA (s.at k).char, .lit (.bool (s.at k).attr), byteA (s.at k).fa, byteA (s.at k).high, byteA (s.at k).color, byteA (s.at k).set] := rfl
  rw [cellA_eq] at hcb
  rw [hgc] at hg
  generalize s.at k = old at *
  generalize cellsO s.cells = L at *
  have hpq : ¬ p = q := Ne.symm h.ne
  have hqp : ¬ q = p := h.ne
  by_cases hc : c.attr = true
  · have hf : Sp.fit c = ⟨0, true, Sp.six c.fa, c.high, c.color, c.set⟩ := by unfold Sp.fit; rw [if_pos hc, hc]
    rw [hf] at hca hset
    have e1 : cellA ⟨0, true, Sp.six c.fa, c.high, c.color, c.set⟩ = .agg [.lit (.int .u8 0), .lit (.bool true), .lit (.int .u8 (Sp.six c.fa).toNat), byteA c.high, byteA c.color, byteA c.set] := rfl
    have e2 : cellC ⟨0, true, Sp.six c.fa, c.high, c.color, c.set⟩ = [.lit (.int .u8 0), .lit (.bool true), .lit (.int .u8 (Sp.six c.fa).toNat), byteA c.high, byteA c.color, byteA c.set] := rfl
    rw [e1] at hca
    rw [e2] at hset
    rw [cellA_eq, hc]
    have e3 : byteA c.fa = .lit (.int .u8 c.fa.toNat) := rfl
    rw [e3]
    refine ACalls.of_awp follows (st := st36) (plans := pl36) (n := 47) Try.func36 rfl (by kernel_rfl) (by kernel_rfl) (by kernel_rfl) ?_
    simp [-e_pureBin_8, and61]
    intro b hb
    obtain ⟨m1, m2, m3, m4⟩ := h.fresh hb
    simp [-e_pureBin_8, m1, ho, rowC]
    refine callK.of (hw _) ?_
    rintro v σ' ⟨rfl, rfl⟩
    simp [m1, m2, ho, hr, rowC, hlt, hlL, hg]
    repeat' apply And.intro
    all_goals
      refine callK.of (hca _) ?_
      rintro v σ' ⟨rfl, rfl⟩
      simp [m1, m2, ho, hr, rowC, hlt, hlL, hg]
      repeat' apply And.intro
    all_goals
      refine callK.of (hcb _) ?_
      rintro v σ' ⟨rfl, rfl⟩
      simp [-e_setRange_1, -e_setRange_2, setRange_one, m1, m2, m3, ho, hr, rowC, hlt, hlL, hs1, hs2, hpq, hset]
      (intro q; simp only [Store.upd, Store.del]; (repeat' split) <;> first | exact Or.inr rfl | exact Or.inl rfl | (exfalso; omega) | (left; subst_vars; assumption) | simp_all)
  · have hc' : c.attr = false := by simpa using hc
    have hf : Sp.fit c = ⟨c.char, false, 0, c.high, c.color, c.set⟩ := by unfold Sp.fit; rw [if_neg hc, hc']
    rw [hf] at hca hset
    have e1 : cellA ⟨c.char, false, 0, c.high, c.color, c.set⟩ = .agg [byteA c.char, .lit (.bool false), .lit (.int .u8 0), byteA c.high, byteA c.color, byteA c.set] := rfl
    have e2 : cellC ⟨c.char, false, 0, c.high, c.color, c.set⟩ = [byteA c.char, .lit (.bool false), .lit (.int .u8 0), byteA c.high, byteA c.color, byteA c.set] := rfl
    rw [e1] at hca
    rw [e2] at hset
    rw [cellA_eq, hc']
    refine ACalls.of_awp follows (st := st36) (plans := pl36) (n := 47) Try.func36 rfl (by kernel_rfl) (by kernel_rfl) (by kernel_rfl) ?_
    simp
    intro b hb
    obtain ⟨m1, m2, m3, m4⟩ := h.fresh hb
    simp [m1, ho, rowC]
    refine callK.of (hw _) ?_
    rintro v σ' ⟨rfl, rfl⟩
    simp [m1, m2, ho, hr, rowC, hlt, hlL, hg]
    repeat' apply And.intro
    all_goals
      refine callK.of (hca _) ?_
      rintro v σ' ⟨rfl, rfl⟩
      simp [m1, m2, ho, hr, rowC, hlt, hlL, hg]
      repeat' apply And.intro
    all_goals
      refine callK.of (hcb _) ?_
      rintro v σ' ⟨rfl, rfl⟩
      simp [-e_setRange_1, -e_setRange_2, setRange_one, m1, m2, m3, ho, hr, rowC, hlt, hlL, hs1, hs2, hpq, hset]
      (intro q; simp only [Store.upd, Store.del]; (repeat' split) <;> first | exact Or.inr rfl | exact Or.inl rfl | (exfalso; omega) | (left; subst_vars; assumption) | simp_all)
end Go.Proofs.Ytnlggjbcdienfaa
/-
  Screens as objects: the program's, as at first.
-/
namespace Go.Proofs.Ytnlggjbcdienfaa
open Go Go.AL Go.Sp

theorem count_zeros (n : Nat) : (List.replicate n Cell.zero).countP (·.attr) = 0 := by
  induction n with
  | zero => rfl
  | succ n ih => rw [List.replicate_succ, List.countP_cons, ih]; rfl
set_option maxRecDepth 4000 in
theorem clear_calls {q : Nat} {s : Sp} {B : AV} {cu cn r c : Int} {L : AV} {σ : Store} (alt : Bool) (hm : 2 ≤ s.model ∧ s.model ≤ 5) (ho : σ q = some [.lit (.int .i64 s.model), B, .lit (.int .i64 r), .lit (.int .i64 c), L, .lit (.int .i64 cu), .lit (.int .i64 cn)]) :
    ACalls Try.prog 35 [ptrA q, .lit (.bool alt)] σ fun v σ' => v = .tuple [] ∧ ∃ p, σ p = none ∧ σ' = putS spO σ q p (s.clear alt) := by
  have h2 := model_calls (m := 2) (by omega)
  have hmm := model_calls hm
  have hcl := cells_calls (dim_of s.model alt)
  have hz := cellsO_zeros ((dims s.model alt).1 * (dims s.model alt).2)
  have hbd := dims_bound s.model alt
  have hd2 : (dims s.model alt) = if alt = true then dims s.model true else dims 2 true := by cases alt <;> simp [dims]
  have hcz : (s.clear alt).count = 0 := count_zeros _
  have hrf : ∀ p, spO (s.clear alt) p = [.lit (.int .i64 s.model), .lit (.bool alt), .lit (.int .i64 (dims s.model alt).1), .lit (.int .i64 (dims s.model alt).2), rowC p ((dims s.model alt).1 * (dims s.model alt).2), .lit (.int .i64 (0 : Nat)), .lit (.int .i64 (0 : Nat))] := fun p => by
    simp only [spO, hcz]; rfl
  have hce : (s.clear alt).cells = List.replicate ((dims s.model alt).1 * (dims s.model alt).2) .zero := rfl
  have h22 : dimM 2 = dimA (dims 2 true).1 (dims 2 true).2 := rfl
  have hmq : dimM s.model = dimA (dims s.model true).1 (dims s.model true).2 := rfl
  rw [h22] at h2
  rw [hmq] at hmm
  simp only [putS, hrf, hce, ← hz]
  have hzz : cellC .zero = [.lit (.int .u8 0), .lit (.bool false), .lit (.int .u8 0), .lit (.int .u8 0), .lit (.int .u8 0), .lit (.int .u8 0)] := rfl
  refine ACalls.of_awp follows (st := st35) (plans := pl35) (n := 39) Try.func35 rfl (by kernel_rfl) (by kernel_rfl) (by kernel_rfl) ?_
  cases alt
  · simp only [Bool.false_eq_true, if_false] at hd2
    rw [← hd2] at h2
    clear hmm hmq h22 hcz
    generalize (dims s.model false).1 = R at *
    generalize (dims s.model false).2 = C at *
    unfold dimA at h2 hcl
    have hT : ((R : Int) * (C : Int)).toNat = R * C := by rw [← Int.natCast_mul]; rfl
    have hb1 : (0 : Int) ≤ (R : Int) * (C : Int) := by rw [← Int.natCast_mul]; omega
    have hb2 : (R : Int) * (C : Int) ≤ 3564 := by rw [← Int.natCast_mul]; omega
    have hb3 : (R : Int) * (C : Int) ≤ 9223372036854775807 := by omega
    have hb4 : 6 * ((R : Int) * (C : Int)) ≤ 281474976710656 := by omega
    simp [ho]
    refine callK.of (h2 _) ?_
    rintro v σ' ⟨rfl, rfl⟩
    simp
    refine callK.of (hcl _) ?_
    rintro v σ' ⟨rfl, rfl⟩
    simp +contextual [hT, hb1, hb3, hb4, ite_free]
    intro p n1 n2 hp
    refine ⟨_, AV.le_refl _, _, ?_, rfl, p, hp, rfl⟩
    simp only [rowC, hzz]
    (intro q; simp only [Store.upd, Store.del]; (repeat' split) <;> first | exact Or.inr rfl | exact Or.inl rfl | (exfalso; omega) | (left; subst_vars; assumption) | simp_all)
  · simp only [if_true] at hd2
    generalize (dims s.model true).1 = R at *
    generalize (dims s.model true).2 = C at *
    unfold dimA at hmm hcl
    have hT : ((R : Int) * (C : Int)).toNat = R * C := by rw [← Int.natCast_mul]; rfl
    have hb1 : (0 : Int) ≤ (R : Int) * (C : Int) := by rw [← Int.natCast_mul]; omega
    have hb2 : (R : Int) * (C : Int) ≤ 3564 := by rw [← Int.natCast_mul]; omega
    have hb3 : (R : Int) * (C : Int) ≤ 9223372036854775807 := by omega
    have hb4 : 6 * ((R : Int) * (C : Int)) ≤ 281474976710656 := by omega
    simp [ho]
    refine callK.of (hmm _) ?_
    rintro v σ' ⟨rfl, rfl⟩
    simp
    refine callK.of (hcl _) ?_
    rintro v σ' ⟨rfl, rfl⟩
    simp +contextual [hT, hb1, hb3, hb4, ite_free]
    intro p n1 n2 hp
    refine ⟨_, AV.le_refl _, _, ?_, rfl, p, hp, rfl⟩
    simp only [rowC, hzz]
    (intro q; simp only [Store.upd, Store.del]; (repeat' split) <;> first | exact Or.inr rfl | exact Or.inl rfl | (exfalso; omega) | (left; subst_vars; assumption) | simp_all)
set_option maxRecDepth 4000 in
theorem new_calls {m : Nat} (hm : 2 ≤ m ∧ m ≤ 5) (σ : Store) : ACalls Try.prog 32 [.lit (.int .i64 m)] σ fun v σ' => ∃ q p, v = .tuple [ptrA q, .lit (.int .i64 0)] ∧ σ q = none ∧ σ p = none ∧ q ≠ p ∧ σ' = putS spO σ q p (Sp.new m) := by
  have hmo := model_calls hm
  have hmq : dimM m = .agg [.lit (.int .i64 (dims m true).1), .lit (.int .i64 (dims m true).2)] := rfl
  rw [hmq] at hmo
  have hcl := fun q (L B : AV) (r c cu cn : Int) (τ : Store) (ho : τ q = some [.lit (.int .i64 m), B, .lit (.int .i64 r), .lit (.int .i64 c), L, .lit (.int .i64 cu), .lit (.int .i64 cn)]) => clear_calls (s := ⟨m, false, [], 0⟩) false hm ho
  refine ACalls.of_awp follows (st := st32) (plans := pl32) (n := 21) Try.func32 rfl (by kernel_rfl) (by kernel_rfl) (by kernel_rfl) ?_
  simp
  refine callK.of (hmo _) ?_
  rintro v σ' ⟨rfl, rfl⟩
  simp +contextual [ite_free]
  intro r hr q n1 n2 hq
  refine callK.of (hcl q (.list true 6 []) (.lit (.bool false)) 0 0 0 0 _ (by simp)) ?_
  rintro v σ1 ⟨rfl, p, hp, rfl⟩
  simp [ite_free] at hp
  obtain ⟨p1, p2, p3, p4, p5⟩ := hp
  simp
  refine ⟨_, AV.le_refl _, _, ?_, q, rfl, hq, p, p5, by omega, rfl⟩
  simp only [putS]
  have : spO (Sp.clear { model := m, alt := false, cells := [], cursor := 0 } false) p = spO (Sp.new m) p := rfl
  have h2 : (Sp.clear { model := m, alt := false, cells := [], cursor := 0 } false).cells = (Sp.new m).cells := rfl
  rw [this, h2]
  (intro q; simp only [Store.upd, Store.del]; (repeat' split) <;> first | exact Or.inr rfl | exact Or.inl rfl | (exfalso; omega) | (left; subst_vars; assumption) | simp_all)
end Go.Proofs.Ytnlggjbcdienfaa
/-
  A screen and the document's, made alike.
-/
namespace Go.Proofs.Ytnlggjbcdienfaa
open Go Go.AL Go.Sp

theorem byteA_lit (b : UInt8) : byteA b = .lit (.int .u8 b.toNat) := rfl
theorem eqLits_cell (c d : Cell) : eqLits [.int, .bool, .int, .int, .int, .int] [byteA c.char, .lit (.bool c.attr), byteA c.fa, byteA c.high, byteA c.color, byteA c.set]
    [byteA d.char, .lit (.bool d.attr), byteA d.fa, byteA d.high, byteA d.color, byteA d.set] = some (decide (c = d)) := by
  obtain ⟨a1, a2, a3, a4, a5, a6⟩ := c
  obtain ⟨b1, b2, b3, b4, b5, b6⟩ := d
  have h : ∀ x y : UInt8, ((x.toNat : Int) == (y.toNat : Int)) = decide (x = y) := fun x y => by rw [byte_eq]; rfl
  simp only [byteA_lit]
  simp [h]
  rw [Bool.eq_iff_iff]
  simp
theorem eqLits_zero (c : Cell) : eqLits [.int, .bool, .int, .int, .int, .int] [byteA c.char, .lit (.bool c.attr), byteA c.fa, byteA c.high, byteA c.color, byteA c.set]
    [.lit (.int .u8 0), .lit (.bool false), .lit (.int .u8 0), .lit (.int .u8 0), .lit (.int .u8 0), .lit (.int .u8 0)] = some (decide (c = .zero)) := eqLits_cell c .zero

def actsA (l : List Sp.Act) : List AV := l.map actA
@[simp] theorem actsA_length (l : List Sp.Act) : (actsA l).length = l.length := by simp [actsA]
theorem actsA_at (l : List Sp.Act) (i : Nat) (h : i < l.length) : (actsA l)[i]'(by simpa using h) = actA l[i] := by simp [actsA]

/-- Cells up to a place; the rest are null. -/
def upTo (s : Sp) (j : Nat) : Sp := { s with cells := s.cells.take j ++ List.replicate (s.n - j) .zero, cursor := 0 }
theorem upTo_len {s : Sp} (h : s.good) {j : Nat} (hj : j ≤ s.n) : (upTo s j).cells.length = s.n := by
  simp [upTo, h.len]; omega
theorem upTo_good {s : Sp} (h : s.good) {j : Nat} (hj : j ≤ s.n) : (upTo s j).good := by
  refine ⟨h.model, upTo_len h hj, s.n_pos, fun c hc => ?_⟩
  simp only [upTo, List.mem_append, List.mem_replicate] at hc
  rcases hc with hc | ⟨_, rfl⟩
  · exact h.fit c (List.mem_of_mem_take hc)
  · exact fitted_zero
theorem upTo_next {s : Sp} (h : s.good) {j : Nat} (hj : j < s.n) (hjc : j < s.cells.length) : (upTo s (j + 1)) = (upTo s j).set j s.cells[j] := by
  have hf : Sp.fit s.cells[j] = s.cells[j] := h.fit _ (List.getElem_mem hjc)
  have hw : wrap (upTo s j).n (j : Int) = j := wrap_of_lt hj
  simp only [Sp.set, hw, hf, Sp.put1]
  simp only [upTo]
  congr 1
  rw [List.take_succ_eq_append_getElem hjc, show s.n - j = (s.n - (j + 1)) + 1 by omega, List.replicate_succ]
  have hl : (s.cells.take j).length = j := by simp; omega
  rw [List.set_append_right _ _ (by omega), hl]
  simp only [List.append_assoc, Nat.sub_self, List.set_cons_zero, List.singleton_append]
theorem upTo_same {s : Sp} {j : Nat} (h : s.good) (hj : j < s.n) (hjc : j < s.cells.length) (hz : s.cells[j] = .zero) : upTo s (j + 1) = upTo s j := by
  simp only [upTo]
  congr 1
  rw [List.take_succ_eq_append_getElem hjc, show s.n - j = (s.n - (j + 1)) + 1 by omega, List.replicate_succ, hz]
  simp only [List.append_assoc, List.singleton_append]
theorem upTo_all {s : Sp} (h : s.good) : (upTo s s.n).place s.cursor = s := by
  have hc : wrap (upTo s s.n).n (s.cursor : Int) = s.cursor := wrap_of_lt h.cursor
  obtain ⟨m, a, l, c⟩ := s
  simp only [Sp.place, hc]
  simp only [upTo]
  have : l.take (Sp.n ⟨m, a, l, c⟩) = l := List.take_of_length_le (by have := h.len; simp at this; omega)
  simp [this]
theorem upTo_zero (s : Sp) : upTo s 0 = Sp.clear ⟨s.model, false, [], 0⟩ s.alt := by simp [upTo, Sp.clear, Sp.n, Sp.rows, Sp.cols]

/-- Four blocks, apart. -/
structure Four (σ : Store) (q p x y : Nat) : Prop where
  q0 : σ q = none
  p0 : σ p = none
  x0 : σ x = none
  y0 : σ y = none
  qp : q ≠ p
  qx : q ≠ x
  qy : q ≠ y
  px : p ≠ x
  py : p ≠ y
  xy : x ≠ y
/-- The program's screen and the document's. -/
def both (σ : Store) (q p x y : Nat) (s t : Sp) : Store := putS spO (putS rfO σ x y t) q p s
theorem both_ref {σ : Store} {q p x y : Nat} {s t : Sp} (h : Four σ q p x y) (hg : t.good) : Ref (both σ q p x y s t) x y t :=
  ⟨by simp [both, putS, h.xy, Ne.symm h.qx, Ne.symm h.px], by simp [both, putS, Ne.symm h.qy, Ne.symm h.py], h.xy, hg⟩
theorem both_prg {σ : Store} {q p x y : Nat} {s t : Sp} (h : Four σ q p x y) (hg : s.good) : Prg (both σ q p x y s t) q p s := Scr.of_put h.qp hg
def LayR (σ : Store) (s : Sp) (v : AV) (σ' : Store) : Prop := ∃ q p x y, v = .tuple [ptrA q, ptrA x] ∧ Four σ q p x y ∧ σ' = both σ q p x y s s

theorem lays_step (m : UInt8) (l : List Sp.Act) (i : Nat) (h : i < l.length) (h2 : i < 30) : ((l.take 30).take (i + 1)).foldl Sp.act (Sp.new (2 + m.toNat % 4)) = (((l.take 30).take i).foldl Sp.act (Sp.new (2 + m.toNat % 4))).act l[i] := by
  have h3 : i < (l.take 30).length := by simp; omega
  rw [List.take_succ_eq_append_getElem h3, List.foldl_append]; simp
theorem foldl_model : ∀ (l : List Sp.Act) (s : Sp), (l.foldl Sp.act s).model = s.model
  | [], _ => rfl
  | a :: l, s => (foldl_model l (s.act a)).trans (s.model_act a)

set_option maxRecDepth 8000 in
set_option maxHeartbeats 1000000 in
theorem lay_calls (m : UInt8) (l : List Sp.Act) (hl : l.length ≤ 9223372036854775807) (ht : ∀ a ∈ l, a.text.length ≤ 9223372036854775807) (σ : Store) : ACalls Try.prog 8 [byteA m, .list false 11 (actsA l)] σ (LayR σ (Sp.lays m l)) := by
  have hm : 2 ≤ 2 + m.toNat % 4 ∧ 2 + m.toNat % 4 ≤ 5 := by omega
  have hmw : IntKind.i64.wrap (2 + IntKind.i64.wrap ((m.toNat : Int).tmod 4)) = ((2 + m.toNat % 4 : Nat) : Int) := by
    have e : (m.toNat : Int).tmod 4 = ((m.toNat % 4 : Nat) : Int) := rfl
    rw [e, wrap_i64 (n := ((m.toNat % 4 : Nat) : Int)) (by omega) (by omega), wrap_i64 (by omega) (by omega)]; simp
  have hstep := lays_step m l
  have hS : Sp.lays m l = ((l.take 30).take l.length).foldl Sp.act (Sp.new (2 + m.toNat % 4)) := by
    rw [List.take_of_length_le (show (l.take 30).length ≤ l.length by simp; omega)]; rfl
  have hn1 := new_calls hm
  have hn2 := rnew_calls hm
  have hgood := fun k => Sp.foldl_good ((l.take 30).take k) (Sp.new_good hm)
  have hmod : (Sp.lays m l).model = 2 + m.toNat % 4 := (foldl_model _ _).trans rfl
  have hng := Sp.new_good hm
  refine ACalls.of_awp follows (st := st8) (plans := pl8) (n := 70) Try.func8 rfl (by kernel_rfl) (by kernel_rfl) (by kernel_rfl) ?_
  generalize hN : Sp.new (2 + m.toNat % 4) = N0 at *
  simp [byteA, hmw]
  refine callK.of (hn1 _) ?_
  rintro v σ' ⟨q, p, rfl, hq, hp, hqp, rfl⟩
  simp
  refine callK.of (hn2 _) ?_
  rintro v σ' ⟨x, y0, rfl, hx, hy, hxy, rfl⟩
  simp
  have hx' : σ x = none ∧ x ≠ q ∧ x ≠ p := by
    simp only [putS, supd_apply, ite_none] at hx; exact ⟨hx.2.2, hx.2.1, hx.1⟩
  have hy' : σ y0 = none ∧ y0 ≠ q ∧ y0 ≠ p := by
    simp only [putS, supd_apply, ite_none] at hy; exact ⟨hy.2.2, hy.2.1, hy.1⟩
  refine codeK.cut (fun e A σ' => e = .exit 0 ∧ ∃ y, Four σ q p x y ∧ LeL A [(6, .lit (.int .i64 (2 + m.toNat % 4 : Nat))), (7, ptrA q), (9, ptrA x)] ∧ Store.sub (both σ q p x y N0 (Sp.lays m l)) σ') ?_ ?_
  · refine codeK.loop follows (st := st8) (plans := pl8) (X := Nat × Nat) (fun k => k.1 ≤ l.length ∧ Four σ q p x k.2)
      (fun k => [(6, .lit (.int .i64 (2 + m.toNat % 4 : Nat))), (7, ptrA q), (9, ptrA x), (25, .list false 11 (actsA l)), (26, .lit (.int .i64 l.length)), (27, .lit (.int .i64 k.1))])
      (fun k => both σ q p x k.2 N0 (((l.take 30).take k.1).foldl Sp.act N0)) (fun k => l.length - k.1) (0, y0) (by kernel_rfl) ⟨by simp, ⟨hq, hp, hx'.1, hy'.1, hqp, Ne.symm hx'.2.1, Ne.symm hy'.2.1, Ne.symm hx'.2.2, Ne.symm hy'.2.2, hxy⟩⟩ (by simp) ?_ fun k hk => ?_
    · simp only [List.take_zero, List.foldl_nil]
      have h1 := hx'.2; have h2 := hy'.2
      simp only [both, putS]
      (intro q; simp only [Store.upd, Store.del]; (repeat' split) <;> first | exact Or.inr rfl | exact Or.inl rfl | (exfalso; omega) | (left; subst_vars; assumption) | simp_all)
    · obtain ⟨i, y⟩ := k
      obtain ⟨hi, h4⟩ := hk
      dsimp only at hi h4 ⊢
      by_cases hlt : i < l.length
      · have hw : IntKind.i64.wrap ((i : Int) + 1) = ((i + 1 : Nat) : Int) := wrap_i64 (by omega) (by omega)
        have ha := actsA_at l i hlt
        have hst := hstep i hlt
        have htx := ht l[i] (List.getElem_mem hlt)
        have hg := hgood i
        have hg2 := hgood (i + 1)
        by_cases h30 : i < 30
        · have h30i : (i : Int) < 30 := by omega
          rw [hst h30] at hg2
          have hst2 := hst h30
          generalize ((l.take 30).take i).foldl Sp.act N0 = t at *
          generalize l[i] = a at *
          have hdo := fun τ (hτ : Ref τ x y t) => rdo_calls hτ a htx
          have hac : actA a = .agg [byteA a.what, .lit (.int .i64 a.n), .lit (.bool a.on), byteA a.code, byteA a.c.char, .lit (.bool a.c.attr), byteA a.c.fa, byteA a.c.high, byteA a.c.color, byteA a.c.set, .list false 1 (bytesA a.text)] := rfl
          rw [hac] at hdo ha
          have hR := both_ref (s := N0) h4 hg
          simp +contextual [hlt, h30i, ha]
          intro b hb
          obtain ⟨m1, m2, m3, m4⟩ := hR.fresh hb
          refine callK.of (hdo _ (hR.new hb _)) ?_
          rintro v σ' ⟨rfl, y', hy2, rfl⟩
          have hb2 : σ b = none ∧ ¬ b = q ∧ ¬ b = p := by
            simp only [both, putS, supd_apply, ite_none] at hb; exact ⟨hb.2.2.2.2, hb.2.1, hb.1⟩
          have hy3 : ¬ y' = b ∧ ¬ y' = x ∧ ¬ y' = p ∧ ¬ y' = q ∧ σ y' = none := by
            rcases hy2 with rfl | hy2
            · exact ⟨m2, Ne.symm h4.xy, Ne.symm h4.py, Ne.symm h4.qy, h4.y0⟩
            · simp only [both, putS, supd_apply, ite_none] at hy2
              exact ⟨hy2.1, hy2.2.2.2.2.1, hy2.2.1, hy2.2.2.1, hy2.2.2.2.2.2⟩
          obtain ⟨y1, y2, y3, y4, y5⟩ := hy3
          obtain ⟨b1, b2, b3⟩ := hb2
          simp
          refine ⟨i + 1, y', ⟨by omega, ⟨h4.q0, h4.p0, h4.x0, y5, h4.qp, h4.qx, Ne.symm y4, h4.px, Ne.symm y3, Ne.symm y2⟩⟩, by omega, by rw [hw]; exact AV.le_refl _, ?_⟩
          rw [hst2]
          obtain ⟨_, _, _, _, f1, f2, f3, f4, f5, f6⟩ := h4
          simp only [both, putS]
          (intro q; simp only [Store.upd, Store.del]; (repeat' split) <;> first | exact Or.inr rfl | exact Or.inl rfl | (exfalso; omega) | (left; subst_vars; assumption) | simp_all)
        · have h30i : ¬ (i : Int) < 30 := by omega
          have hl30 : (l.take 30).length ≤ 30 := by simp; omega
          have hsame : (l.take 30).take (i + 1) = (l.take 30).take i :=
            (List.take_of_length_le (show (l.take 30).length ≤ i + 1 by omega)).trans (List.take_of_length_le (show (l.take 30).length ≤ i by omega)).symm
          have hac : ∀ a, actA a = .agg [byteA a.what, .lit (.int .i64 a.n), .lit (.bool a.on), byteA a.code, byteA a.c.char, .lit (.bool a.c.attr), byteA a.c.fa, byteA a.c.high, byteA a.c.color, byteA a.c.set, .list false 1 (bytesA a.text)] := fun _ => rfl
          rw [hac] at ha
          simp +contextual [hlt, h30i, ha]
          intro b hb
          refine ⟨i + 1, y, ⟨by omega, h4⟩, by omega, by rw [hw]; exact AV.le_refl _, ?_⟩
          rw [hsame]
          exact sub_upd_self _ _ _ hb
      · obtain rfl : i = l.length := by omega
        rw [← hS]
        simp
        exact ⟨y, h4, Store.sub_refl _⟩
  · rintro e A' σ2 ⟨rfl, y, h4, hA, hσ⟩
    refine View.leL hA (View.sub hσ (View.here ?_))
    clear hA hσ hstep
    have hg := hgood l.length
    rw [← hS] at hg
    clear hS hgood
    generalize hSS : Sp.lays m l = S at *
    have hRo := fun p' (h4 : Four σ q p' x y) t => (both_ref (s := t) h4 hg).obj
    have hRr := fun p' (h4 : Four σ q p' x y) t => (both_ref (s := t) h4 hg).row
    unfold rfO at hRo
    have hcl := fun τ (hτ : Prg τ q p N0) => clear_calls (σ := τ) true hτ.good.model hτ.obj
    have hN0 : N0 = Sp.clear ⟨2 + m.toNat % 4, false, [], 0⟩ false := hN.symm
    have hN1 : N0.clear true = Sp.clear ⟨2 + m.toNat % 4, false, [], 0⟩ true := by rw [hN0]; rfl
    have hz := upTo_zero S
    rw [hmod] at hz
    have hen : ∀ (j : Nat) (hj : j < S.cells.length), ((cellsO S.cells).drop (j * 6)).take 6 = cellC S.cells[j] := fun j hj => cellsO_get hj
    have hcl6 := cellsO_length S.cells
    have hSl := hg.len
    have hSn := S.n_le
    have hmain : ∀ p', Four σ q p' x y → True := fun _ _ => trivial
    by_cases halt : S.alt = true
    · rw [halt] at hz
      rw [← hN1] at hz
      simp [hRo p h4, halt]
      refine callK.of (hcl _ (both_prg h4 hng)) ?_
      rintro v σ' ⟨rfl, p', hp', rfl⟩
      have h4' : Four σ q p' x y := by
        simp only [both, putS, supd_apply, ite_none] at hp'
        obtain ⟨f1, f2, f3, f4, f5, f6, f7, f8, f9, f10⟩ := h4
        exact ⟨f1, hp'.2.2.2.2, f3, f4, Ne.symm hp'.2.1, f6, f7, hp'.2.2.2.1, hp'.2.2.1, f10⟩
      rw [← hz]
      have hsub : Store.sub (both σ q p' x y (upTo S 0) S) (putS spO (both σ q p x y N0 S) q p' (upTo S 0)) := by
        have h10 := h4'
        obtain ⟨f1, f2, f3, f4, f5, f6, f7, f8, f9, f10⟩ := h4
        obtain ⟨g1, g2, g3, g4, g5, g6, g7, g8, g9, g10⟩ := h4'
        simp only [both, putS]
        (intro q; simp only [Store.upd, Store.del]; (repeat' split) <;> first | exact Or.inr rfl | exact Or.inl rfl | (exfalso; omega) | (left; subst_vars; assumption) | simp_all)
      have e1 : putS spO (both σ q p x y N0 S) q p' (upTo S 0) x = some (rfO S y) := by
        obtain ⟨f1, f2, f3, f4, f5, f6, f7, f8, f9, f10⟩ := h4
        obtain ⟨g1, g2, g3, g4, g5, g6, g7, g8, g9, g10⟩ := h4'
        simp [both, putS, Ne.symm f6, Ne.symm f8, Ne.symm g8, f10]
      unfold rfO at e1
      simp [e1, rowC]
      clear e1
      refine codeK.loop follows (st := st8) (plans := pl8) (X := Nat) (fun j => j ≤ S.n)
        (fun j => [(7, ptrA q), (9, ptrA x), (47, rowC y S.n), (48, .lit (.int .i64 S.n)), (49, .lit (.int .i64 j))])
        (fun j => both σ q p' x y (upTo S j) S) (fun j => S.n - j) 0 (by kernel_rfl) (by simp) (by simp [rowC]) hsub fun j hj => ?_
      by_cases hlt : j < S.n
      · have hw : IntKind.i64.wrap ((j : Int) + 1) = ((j + 1 : Nat) : Int) := wrap_i64 (by omega) (by omega)
        have hjc : j < S.cells.length := by omega
        have hnx := upTo_next hg hlt hjc
        have hsm := upTo_same hg hlt hjc
        have hgj := hen j hjc
        have hP := both_prg (t := S) h4' (upTo_good hg hj)
        have hst := fun τ (hτ : Prg τ q p' (upTo S j)) => set_calls hτ (j : Int) S.cells[j]
        rw [← hnx] at hst
        have hz0 := eqLits_zero S.cells[j]
        have hcx : cellC S.cells[j] = [byteA S.cells[j].char, .lit (.bool S.cells[j].attr), byteA S.cells[j].fa, byteA S.cells[j].high, byteA S.cells[j].color, byteA S.cells[j].set] := rfl
        rw [hcx] at hgj
        rw [cellA_eq] at hst
        have hrow := hRr p' h4' (upTo S j)
        generalize S.cells[j] = c at *
        have hle : j * 6 + 6 ≤ (cellsO S.cells).length := by omega
        by_cases hc : c = .zero
        · have hsm := hsm hc
          have hz1 := hz0.trans (congrArg some (decide_eq_true hc))
          clear hc
          simp +contextual [-e_eqLits_2, rowC, hlt, hrow, hle, hgj, hz1]
          intro b hb
          refine ⟨j + 1, by omega, by omega, by rw [hw]; exact AV.le_refl _, ?_⟩
          rw [hsm]
          exact sub_upd_self _ _ _ hb
        · have hz1 := hz0.trans (congrArg some (decide_eq_false hc))
          simp +contextual [-e_eqLits_2, rowC, hlt, hrow, hle, hgj, hz1]
          intro b hb
          refine callK.of (hst _ (hP.new hb _)) ?_
          rintro v σ' ⟨rfl, rfl⟩
          obtain ⟨m1, m2, m3, m4⟩ := hP.fresh hb
          simp
          refine ⟨j + 1, by omega, by omega, by rw [hw]; exact AV.le_refl _, ?_⟩
          simp only [both, putS] at hb ⊢
          simp only [supd_apply, ite_none] at hb
          obtain ⟨b1, b2, b3, b4, b5⟩ := hb
          clear hrow hst hP hnx hsm hgj hcx hz0
          (intro q; simp only [Store.upd, Store.del]; (repeat' split) <;> first | exact Or.inr rfl | exact Or.inl rfl | (exfalso; omega) | (left; subst_vars; assumption) | simp_all)
      · obtain rfl : j = S.n := by omega
        have hP := both_prg (t := S) h4' (upTo_good hg (Nat.le_refl _))
        have hpl := fun τ (hτ : Prg τ q p' (upTo S S.n)) => place_calls hτ (S.cursor : Int)
        rw [upTo_all hg] at hpl
        simp [hRo p' h4' (upTo S S.n)]
        refine callK.of (hpl _ hP) ?_
        rintro v σ' ⟨rfl, rfl⟩
        simp
        refine ⟨_, AV.le_refl _, _, ?_, q, p', x, y, rfl, h4', rfl⟩
        simp only [both, putS]
        obtain ⟨g1, g2, g3, g4, g5, g6, g7, g8, g9, g10⟩ := h4'
        (intro q; simp only [Store.upd, Store.del]; (repeat' split) <;> first | exact Or.inr rfl | exact Or.inl rfl | (exfalso; omega) | (left; subst_vars; assumption) | simp_all)
    · have halt' : S.alt = false := by simpa using halt
      rw [halt'] at hz
      rw [← hN0] at hz
      rw [← hz]
      have h4' := h4
      have hsub := Store.sub_refl (both σ q p x y (upTo S 0) S)
      obtain ⟨p', hpp⟩ : ∃ p', p' = p := ⟨_, rfl⟩
      have e1 := hRo p h4 (upTo S 0)
      rw [halt'] at e1
      simp [e1]
      rw [← hpp] at h4' hsub e1 ⊢
      simp [rowC]
      clear e1
      refine codeK.loop follows (st := st8) (plans := pl8) (X := Nat) (fun j => j ≤ S.n)
        (fun j => [(7, ptrA q), (9, ptrA x), (47, rowC y S.n), (48, .lit (.int .i64 S.n)), (49, .lit (.int .i64 j))])
        (fun j => both σ q p' x y (upTo S j) S) (fun j => S.n - j) 0 (by kernel_rfl) (by simp) (by simp [rowC]) hsub fun j hj => ?_
      by_cases hlt : j < S.n
      · have hw : IntKind.i64.wrap ((j : Int) + 1) = ((j + 1 : Nat) : Int) := wrap_i64 (by omega) (by omega)
        have hjc : j < S.cells.length := by omega
        have hnx := upTo_next hg hlt hjc
        have hsm := upTo_same hg hlt hjc
        have hgj := hen j hjc
        have hP := both_prg (t := S) h4' (upTo_good hg hj)
        have hst := fun τ (hτ : Prg τ q p' (upTo S j)) => set_calls hτ (j : Int) S.cells[j]
        rw [← hnx] at hst
        have hz0 := eqLits_zero S.cells[j]
        have hcx : cellC S.cells[j] = [byteA S.cells[j].char, .lit (.bool S.cells[j].attr), byteA S.cells[j].fa, byteA S.cells[j].high, byteA S.cells[j].color, byteA S.cells[j].set] := rfl
        rw [hcx] at hgj
        rw [cellA_eq] at hst
        have hrow := hRr p' h4' (upTo S j)
        generalize S.cells[j] = c at *
        have hle : j * 6 + 6 ≤ (cellsO S.cells).length := by omega
        by_cases hc : c = .zero
        · have hsm := hsm hc
          have hz1 := hz0.trans (congrArg some (decide_eq_true hc))
          clear hc
          simp +contextual [-e_eqLits_2, rowC, hlt, hrow, hle, hgj, hz1]
          intro b hb
          refine ⟨j + 1, by omega, by omega, by rw [hw]; exact AV.le_refl _, ?_⟩
          rw [hsm]
          exact sub_upd_self _ _ _ hb
        · have hz1 := hz0.trans (congrArg some (decide_eq_false hc))
          simp +contextual [-e_eqLits_2, rowC, hlt, hrow, hle, hgj, hz1]
          intro b hb
          refine callK.of (hst _ (hP.new hb _)) ?_
          rintro v σ' ⟨rfl, rfl⟩
          obtain ⟨m1, m2, m3, m4⟩ := hP.fresh hb
          simp
          refine ⟨j + 1, by omega, by omega, by rw [hw]; exact AV.le_refl _, ?_⟩
          simp only [both, putS] at hb ⊢
          simp only [supd_apply, ite_none] at hb
          obtain ⟨b1, b2, b3, b4, b5⟩ := hb
          clear hrow hst hP hnx hsm hgj hcx hz0
          (intro q; simp only [Store.upd, Store.del]; (repeat' split) <;> first | exact Or.inr rfl | exact Or.inl rfl | (exfalso; omega) | (left; subst_vars; assumption) | simp_all)
      · obtain rfl : j = S.n := by omega
        have hP := both_prg (t := S) h4' (upTo_good hg (Nat.le_refl _))
        have hpl := fun τ (hτ : Prg τ q p' (upTo S S.n)) => place_calls hτ (S.cursor : Int)
        rw [upTo_all hg] at hpl
        simp [hRo p' h4' (upTo S S.n)]
        refine callK.of (hpl _ hP) ?_
        rintro v σ' ⟨rfl, rfl⟩
        simp
        refine ⟨_, AV.le_refl _, _, ?_, q, p', x, y, rfl, h4', rfl⟩
        simp only [both, putS]
        obtain ⟨g1, g2, g3, g4, g5, g6, g7, g8, g9, g10⟩ := h4'
        (intro q; simp only [Store.upd, Store.del]; (repeat' split) <;> first | exact Or.inr rfl | exact Or.inl rfl | (exfalso; omega) | (left; subst_vars; assumption) | simp_all)
end Go.Proofs.Ytnlggjbcdienfaa
/-
  The iterators over a screen.
-/
namespace Go.Proofs.Ytnlggjbcdienfaa
open Go Go.AL Go.Sp

/-- What an iterator over a screen finds. -/
def NeedS (b q p : Nat) (s : Sp) (_k : Nat) (τ : Store) : Prop := τ b = some [ptrA q] ∧ Prg τ q p s
theorem prg_mono {σ τ : Store} {q p : Nat} {s : Sp} {f : Sp → Nat → List AV} (h : Scr f τ q p s) (hs : Store.sub τ σ) : Scr f σ q p s := by
  refine ⟨?_, ?_, h.ne, h.good⟩
  · rcases hs q with h' | h'
    · rw [h.obj] at h'; cases h'
    · rw [← h', h.obj]
  · rcases hs p with h' | h'
    · rw [h.row] at h'; cases h'
    · rw [← h', h.row]
theorem sub_at {σ τ : Store} {b : Nat} {x : List AV} (h : τ b = some x) (hs : Store.sub τ σ) : σ b = some x := by
  rcases hs b with h' | h'
  · rw [h] at h'; cases h'
  · rw [← h', h]
theorem needS_mono {b q p : Nat} {s : Sp} {k : Nat} {τ τ' : Store} (h : NeedS b q p s k τ) (hs : Store.sub τ τ') : NeedS b q p s k τ' :=
  ⟨sub_at h.1 hs, prg_mono h.2 hs⟩

theorem all_calls2 (q : Nat) (σ : Store) : ACalls Try.prog 48 [ptrA q] σ fun v σ' => ∃ b, σ b = none ∧ v = .func (.func 77) [] [ptrA b] ∧ σ' = σ.upd b [ptrA q] := by
  refine ACalls.of_awp follows (st := st48) (plans := pl48) (n := 4) Try.func48 rfl (by kernel_rfl) (by kernel_rfl) (by kernel_rfl) ?_
  simp
  exact fun b hb => ⟨_, AV.le_refl _, _, Store.sub_refl _, b, hb, rfl, rfl⟩

set_option maxRecDepth 8000 in
theorem all_iter (b q p : Nat) (s : Sp) (σ : Store) : IterG Try.prog 77 [ptrA b] σ s.n (NeedS b q p s) fun k _ => [.lit (.int .i64 (k : Nat)), cellA (s.at k)] := by
  refine ⟨fun k τ τ' h hs => ⟨needS_mono h hs, rfl⟩, fun X l I J hneed hy τ E h0 hs => ?_⟩
  obtain ⟨hb, hP⟩ := needS_mono (hneed 0 τ E (Nat.zero_le _) h0) hs
  have hsz := size_calls hP
  have hcl := scells_calls s
  have hn := s.n_le
  refine ACallsY.of_awp follows (st := st77) (plans := pl77) (n := 18) Try.func77 rfl (by kernel_rfl) (by kernel_rfl) (by kernel_rfl) ?_
  simp [hb]
  refine callK.of hsz ?_
  rintro v σ' ⟨rfl, rfl⟩
  simp
  refine callK.of (hcl _) ?_
  rintro v σ' ⟨rfl, rfl⟩
  simp
  refine codeYK.loop follows (st := st77) (plans := pl77) (S := Nat × Store) (fun x => x.1 ≤ s.n)
    (fun x => [(0, .func (.yield l) [] []), (1, ptrA b), (6, .lit (.int .i64 s.n)), (7, .lit (.int .i64 x.1))]) (fun x => x.2) (fun x E => I x.1 x.2 E) (fun x => s.n - x.1) (0, τ) (by kernel_rfl) (by simp) (by simp) hs h0 ?_
  rintro ⟨k, τ1⟩ E1 hk hI
  dsimp only at hk hI ⊢
  obtain ⟨hb1, hP1⟩ := hneed k τ1 E1 hk hI
  by_cases hlt : k < s.n
  · have hat := at_calls hP1 (k : Int)
    have hw : IntKind.i64.wrap ((k : Int) + 1) = ((k + 1 : Nat) : Int) := wrap_i64 (by omega) (by omega)
    have hyk := hy k hlt τ1 E1 hI
    simp only [cellA_eq] at hat hyk
    simp [hlt, hb1]
    refine callK.of hat ?_
    rintro v σ' ⟨rfl, rfl⟩
    simp
    refine yieldK.of (by simp) hyk (Store.sub_refl _) ?_
    intro b2 τ' E' hR hap
    cases b2
    · simp
      exact ⟨⟨_, AV.le_refl _⟩, _, Store.sub_over _ _ _, τ', Store.sub_refl _, .inr (by simpa using hR)⟩
    · simp
      refine ⟨k + 1, by omega, by omega, by rw [hw]; exact AV.le_refl _, τ', Store.sub_over _ _ _, by simpa using hR⟩
  · obtain rfl : k = s.n := by omega
    simp
    exact ⟨⟨_, AV.le_refl _⟩, _, Store.sub_refl _, τ1, Store.sub_refl _, .inl hI⟩
end Go.Proofs.Ytnlggjbcdienfaa
