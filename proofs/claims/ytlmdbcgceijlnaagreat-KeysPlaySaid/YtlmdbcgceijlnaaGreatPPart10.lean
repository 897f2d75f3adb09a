/-
 Sizes of screens, places, models: the program's and the document's.
-/
import Derived.Test.YtlmdbcgceijlnaaGreatPPart9
set_option linter.unusedSimpArgs false
set_option linter.unusedVariables false
set_option maxRecDepth 8000
set_option maxHeartbeats 8000000

namespace Go.Proofs.YtlmdbcgceijlnaaGreat
open Go Go.AL Go.Sp
structure Dim (r c : Nat) : Prop where
 r1 : 1 ≤ r
 r2 : r ≤ 43
 c1 : 1 ≤ c
 c2 : c ≤ 132
 m : r * c ≤ 3564
 p : 0 < r * c
theorem dim_of (m : Nat) (a : Bool) : Dim (dims m a).1 (dims m a).2 := by
 have := dims_bound m a
 exact ⟨by omega, by omega, by omega, by omega, by omega, by omega⟩
theorem mul_wrap {r c : Nat} (h : Dim r c) : IntKind.i64.wrap ((r : Int) * (c : Int)) = ((r * c : Nat) : Int) := by
 have := h.m
 rw [← Int.natCast_mul, wrap_i64 (by omega) (by omega)]
def dimA (r c : Nat) : AV := .agg [.lit (.int .i64 r), .lit (.int .i64 c)]
theorem tmod_wrap (n : Int) (m : Nat) (h : 0 < m) : n.tmod m = (wrap m n : Int) - if n.tmod m < 0 then (m : Int) else 0 := by
 unfold wrap
 have h1 := Int.emod_nonneg n (show (m : Int) ≠ 0 by omega)
 have h2 := Int.emod_lt_of_pos n (show (0 : Int) < m by omega)
 have h3 := Int.tmod_eq_emod (a := n) (b := m)
 have h4 : ((n % (m : Int)).toNat : Int) = n % m := Int.toNat_of_nonneg h1
 rw [h4]
 rw [h3]
 split
 ·simp; omega
 ·rename_i hc
  have h5 : ¬ n % (m : Int) = 0 := fun he => hc (.inr (Int.dvd_of_emod_eq_zero he))
  have h6 : (m : Int).natAbs = m := by simp
  rw [h6]
  rw [if_pos (by omega)]
theorem rest_calls (n : Int) (m : Nat) (h : 0 < m) (hm : m ≤ 1000000) (σ : Store) : ACalls Tryz.prog 97 [.lit (.int .i64 n), .lit (.int .i64 m)] σ fun v σ' => v = .lit (.int .i64 (wrap m n)) ∧ σ' = σ := by
 have ht := tmod_wrap n m h
 have hw := wrap_lt h n
 have h0 : ¬ m = 0 := by omega
 refine aw st97 pl97 14 Tryz.func97 rfl ?_
 by_cases hc : n.tmod m < 0
 ·rw [if_pos hc] at ht
  have hs : IntKind.i64.wrap (n.tmod m + (m : Int)) = (wrap m n : Int) := by rw [wrap_i64 (by omega) (by omega)]; omega
  simp [h0, hc, hs]
 ·rw [if_neg hc] at ht
  have hs : n.tmod m = (wrap m n : Int) := by omega
  rw [hs] at hc
  simp [h0, hc, hs]
theorem valid_calls {r c : Nat} (h : Dim r c) (σ : Store) : ACalls Tryz.prog 96 [dimA r c] σ fun v σ' => v = .lit (.bool true) ∧ σ' = σ := by
 have hm := mul_wrap h
 obtain ⟨h1, h2, h3, h4, h5, h6⟩ := h
 have k1 : (1 : Int) ≤ r := by omega
 have k2 : (r : Int) ≤ 43 := by omega
 have k3 : (1 : Int) ≤ c := by omega
 have k4 : (c : Int) ≤ 132 := by omega
 have k5 : (((r * c : Nat) : Int)) ≤ 3564 := by omega
 generalize r * c = m at *
 refine aw st96 pl96 29 Tryz.func96 rfl ?_
 simp +contextual [dimA, k1, k2, k3, k4, k5, hm]
theorem cells_calls {r c : Nat} (h : Dim r c) (σ : Store) : ACalls Tryz.prog 76 [dimA r c] σ fun v σ' => v = .lit (.int .i64 ((r * c : Nat) : Int)) ∧ σ' = σ := by
 have hm := mul_wrap h
 have hv := valid_calls h
 unfold dimA at hv
 generalize r * c = m at *
 refine aw st76 pl76 11 Tryz.func76 rfl ?_
 simp [dimA]
 intro p hp
 refine callK.of (hv _) ?_
 rintro v σ' ⟨rfl, rfl⟩
 simp [hm, hp]
theorem wrap_calls {r c : Nat} (h : Dim r c) (n : Int) (σ : Store) : ACalls Tryz.prog 53 [dimA r c, .lit (.int .i64 n)] σ fun v σ' => v = .lit (.int .i64 (wrap (r * c) n)) ∧ σ' = σ := by
 have hv := valid_calls h
 have hc := cells_calls h
 have hr := rest_calls n (r * c) h.p (by have := h.m; omega)
 unfold dimA at hv hc
 generalize r * c = m at *
 refine aw st53 pl53 12 Tryz.func53 rfl ?_
 simp [dimA]
 intro p hp
 refine callK.of (hv _) ?_
 rintro v σ' ⟨rfl, rfl⟩
 simp
 refine callK.of (hc _) ?_
 rintro v σ' ⟨rfl, rfl⟩
 simp
 refine callK.of (hr _) ?_
 rintro v σ' ⟨rfl, rfl⟩
 simp [hp]
theorem tmod_abs (n : Int) (m : Nat) (h : 0 < m) : -(m : Int) < n.tmod m ∧ n.tmod m < m := by
 have h1 : (n.tmod m).natAbs = n.natAbs % m := by rw [Int.natAbs_tmod]; simp
 have h2 := Nat.mod_lt n.natAbs h
 omega
theorem rmod_calls (n : Int) (m : Nat) (h : 0 < m) (hm : m ≤ 1000000) (σ : Store) : ACalls Tryz.prog 141 [.lit (.int .i64 n), .lit (.int .i64 m)] σ fun v σ' => v = .lit (.int .i64 (wrap m n)) ∧ σ' = σ := by
 have ht := tmod_abs n m h
 have h0 : ¬ m = 0 := by omega
 have h1 : ¬ (m : Int) < 1 := by omega
 have hs : IntKind.i64.wrap (n.tmod m + (m : Int)) = n.tmod m + m := wrap_i64 (by omega) (by omega)
 have he : (n.tmod m + (m : Int)).tmod m = (wrap m n : Int) := by
  have h2 := tmod_wrap n m h
  have h3 := wrap_lt h n
  rw [Int.tmod_eq_emod_of_nonneg (by omega)]
  split at h2
  ·rw [h2, show ((wrap m n : Int) - m + m) = (wrap m n : Int) by omega]
   exact Int.emod_eq_of_lt (by omega) (by omega)
  ·rw [h2, show ((wrap m n : Int) - 0 + m) = (wrap m n : Int) + m by omega, Int.add_emod_right]
   exact Int.emod_eq_of_lt (by omega) (by omega)
 refine aw st141 pl141 14 Tryz.func141 rfl ?_
 simp [h0, h1, hs, he]
theorem rvalid_calls {r c : Nat} (h : Dim r c) (σ : Store) : ACalls Tryz.prog 118 [dimA r c] σ fun v σ' => v = .lit (.bool true) ∧ σ' = σ := by
 have hm := mul_wrap h
 obtain ⟨h1, h2, h3, h4, h5, h6⟩ := h
 have k1 : (1 : Int) ≤ r := by omega
 have k2 : (r : Int) ≤ 43 := by omega
 have k3 : (1 : Int) ≤ c := by omega
 have k4 : (c : Int) ≤ 132 := by omega
 have k5 : (((r * c : Nat) : Int)) ≤ 3564 := by omega
 generalize r * c = m at *
 refine aw st118 pl118 29 Tryz.func118 rfl ?_
 simp +contextual [dimA, k1, k2, k3, k4, k5, hm]
theorem rcells_calls {r c : Nat} (h : Dim r c) (σ : Store) : ACalls Tryz.prog 70 [dimA r c] σ fun v σ' => v = .lit (.int .i64 ((r * c : Nat) : Int)) ∧ σ' = σ := by
 have hm := mul_wrap h
 have hv := rvalid_calls h
 unfold dimA at hv
 generalize r * c = m at *
 refine aw st70 pl70 11 Tryz.func70 rfl ?_
 simp [dimA]
 intro p hp
 refine callK.of (hv _) ?_
 rintro v σ' ⟨rfl, rfl⟩
 simp [hm, hp]
theorem rwrap_calls {r c : Nat} (h : Dim r c) (n : Int) (σ : Store) : ACalls Tryz.prog 119 [dimA r c, .lit (.int .i64 n)] σ fun v σ' => v = .lit (.int .i64 (wrap (r * c) n)) ∧ σ' = σ := by
 have hc := rcells_calls h
 have hr := rmod_calls n (r * c) h.p (by have := h.m; omega)
 unfold dimA at hc
 generalize r * c = m at *
 refine aw st119 pl119 9 Tryz.func119 rfl ?_
 simp [dimA]
 intro p hp
 refine callK.of (hc _) ?_
 rintro v σ' ⟨rfl, rfl⟩
 simp
 refine callK.of (hr _) ?_
 rintro v σ' ⟨rfl, rfl⟩
 simp [hp]
@[simp] theorem wr3 : IntKind.i64.wrap 3 = 3 := by decide
theorem model_cases {m : Nat} (h : 2 ≤ m ∧ m ≤ 5) : m = 2 ∨ m = 3 ∨ m = 4 ∨ m = 5 := by omega
def dimM (m : Nat) : AV := dimA (dims m true).1 (dims m true).2
theorem model_calls {m : Nat} (h : 2 ≤ m ∧ m ≤ 5) (σ : Store) : ACalls Tryz.prog 74 [.lit (.int .i64 m)] σ fun v σ' => v = .tuple [dimM m, .lit (.int .i64 0)] ∧ σ' = σ := by
 refine aw st74 pl74 18 Tryz.func74 rfl ?_
 rcases model_cases h with rfl | rfl | rfl | rfl <;>
  (simp +contextual [dimM, dimA, dims])
theorem rmodel_calls {m : Nat} (h : 2 ≤ m ∧ m ≤ 5) (σ : Store) : ACalls Tryz.prog 69 [.lit (.int .i64 m)] σ fun v σ' => v = .tuple [dimM m, .lit (.bool true)] ∧ σ' = σ := by
 refine aw st69 pl69 20 Tryz.func69 rfl ?_
 rcases model_cases h with rfl | rfl | rfl | rfl <;>
  (simp +contextual [dimM, dimA, dims]; try decide)
structure Fld where
 prot : Bool
 num : Bool
 disp : Nat
 mod : Bool
 deriving DecidableEq
def fld (b : UInt8) : Fld := ⟨b &&& 0x20 != 0, b &&& 0x10 != 0, (b.toNat / 4) % 4, b &&& 1 == 1⟩
def fldA (f : Fld) : AV := .agg [.lit (.bool f.prot), .lit (.bool f.num), .lit (.int .i64 f.disp), .lit (.bool f.mod)]
def bitsN (f : Fld) : Nat := 4 * f.disp + (if f.prot = true then 32 else 0) + (if f.num = true then 16 else 0) + (if f.mod = true then 1 else 0)
theorem bits_fld (b : UInt8) : UInt8.ofNat (bitsN (fld b)) = Sp.six b ∧ bitsN (fld b) < 64 := all_bytes (p := fun b => UInt8.ofNat (bitsN (fld b)) = Sp.six b ∧ bitsN (fld b) < 64) (by decide +kernel) b
theorem fld_ref (b : UInt8) : decide (32 ≤ b.toNat % 64) = (fld b).prot ∧ decide (b.toNat % 64 / 16 % 2 = 1) = (fld b).num ∧ b.toNat % 64 / 4 % 4 = (fld b).disp ∧ decide (b.toNat % 64 % 2 = 1) = (fld b).mod :=
 all_bytes (p := fun b => decide (32 ≤ b.toNat % 64) = (fld b).prot ∧ decide (b.toNat % 64 / 16 % 2 = 1) = (fld b).num ∧ b.toNat % 64 / 4 % 4 = (fld b).disp ∧ decide (b.toNat % 64 % 2 = 1) = (fld b).mod) (by decide +kernel) b
theorem fld_disp (b : UInt8) : (fld b).disp ≤ 3 := by unfold fld; simp only; omega
theorem rof_calls (b : UInt8) (σ : Store) : ACalls Tryz.prog 72 [byteA b] σ fun v σ' => v = fldA (fld b) ∧ σ' = σ := by
 obtain ⟨h1, h2, h3, h4⟩ := fld_ref b
 rw [fldA, ← h1, ← h2, ← h3, ← h4]
 have hb := byte_lt b
 refine aw st72 pl72 20 Tryz.func72 rfl ?_
 simp [byteA]
 intro p hp
 have e1 : (b.toNat : Int).tmod 64 = ((b.toNat % 64 : Nat) : Int) := rfl
 have hw : IntKind.i64.wrap (b.toNat : Int) = (b.toNat : Int) := wrap_i64 (by omega) (by omega)
 rw [hw, e1]
 have hk : b.toNat % 64 < 64 := Nat.mod_lt _ (by omega)
 obtain ⟨k, hkk⟩ : ∃ k, b.toNat % 64 = k := ⟨_, rfl⟩
 rw [hkk] at hk ⊢
 have e2 : (k : Int).tdiv 16 = ((k / 16 : Nat) : Int) := rfl
 have e3 : (k : Int).tdiv 4 = ((k / 4 : Nat) : Int) := rfl
 have e4 : (k : Int).tmod 2 = ((k % 2 : Nat) : Int) := rfl
 have w2 : IntKind.i64.wrap ((k / 16 : Nat) : Int) = ((k / 16 : Nat) : Int) := wrap_i64 (by omega) (by omega)
 have w3 : IntKind.i64.wrap ((k / 4 : Nat) : Int) = ((k / 4 : Nat) : Int) := wrap_i64 (by omega) (by omega)
 have e5 : ((k / 16 : Nat) : Int).tmod 2 = ((k / 16 % 2 : Nat) : Int) := rfl
 have e6 : ((k / 4 : Nat) : Int).tmod 4 = ((k / 4 % 4 : Nat) : Int) := rfl
 simp only [e2, e3, w2, w3, e5, e6]
 try rw [e4]
 have q : ∀ n : Nat, ((n : Int) == 1) = decide (n = 1) := fun n => by
  rw [Bool.eq_iff_iff]; simp; omega
 have q2 : decide ((32 : Int) ≤ k) = decide (32 ≤ k) := by
  rw [Bool.eq_iff_iff]; simp; omega
 try simp only [q, q2]
 have e7 : ((b.toNat : Int).tmod 2 == 1) = decide (b.toNat % 2 = 1) := q (b.toNat % 2)
 have e8 : ((k / 4 % 4 : Nat) : Int) = (b.toNat : Int) % 64 / 4 % 4 := by omega
 rw [e7, e8]
 exact ⟨by simp, by (intro q; simp only [Store.upd, Store.del]; (repeat' split) <;> first | exact Or.inr rfl | exact Or.inl rfl | (exfalso; omega) | (left; subst_vars; assumption) | simp_all)⟩
theorem rbits_calls (b : UInt8) (σ : Store) : ACalls Tryz.prog 18 [fldA (fld b)] σ fun v σ' => v = .tuple [byteA (Sp.six b), .lit (.int .i64 0)] ∧ σ' = σ := by
 obtain ⟨h1, h2⟩ := bits_fld b
 have hd := fld_disp b
 rw [← h1]
 generalize fld b = f at *
 obtain ⟨p, n, d, m⟩ := f
 simp only at hd
 have hd4 : d = 0 ∨ d = 1 ∨ d = 2 ∨ d = 3 := by omega
 refine aw st18 pl18 30 Tryz.func18 rfl ?_
 clear h1 h2
 rcases hd4 with rfl | rfl | rfl | rfl <;> cases p <;> cases n <;> cases m <;>
  (simp +contextual [fldA, bitsN, byteA, tInt]
   exact fun _ _ => le_of_eq rfl)
theorem rsix_calls (b : UInt8) (σ : Store) : ACalls Tryz.prog 139 [byteA b] σ fun v σ' => v = byteA (Sp.six b) ∧ σ' = σ := by
 have h1 := rof_calls b
 have h2 := rbits_calls b
 generalize Sp.six b = s at *
 generalize fld b = f at *
 have e : byteA b = .lit (.int .u8 b.toNat) := rfl
 rw [e] at h1 ⊢
 have e2 : byteA s = .lit (.int .u8 s.toNat) := rfl
 rw [e2] at h2 ⊢
 refine aw st139 pl139 12 Tryz.func139 rfl ?_
 simp
 refine callK.of (h1 _) ?_
 rintro v σ' ⟨rfl, rfl⟩
 simp [fldA]
 refine callK.of (h2 _) ?_
 rintro v σ' ⟨rfl, rfl⟩
 simp
def cellC (c : Cell) : List AV := [byteA c.char, .lit (.bool c.attr), byteA c.fa, byteA c.high, byteA c.color, byteA c.set]
def cellA (c : Cell) : AV := .agg (cellC c)
def cellsO (l : List Cell) : List AV := l.flatMap cellC
theorem cellC_length (c : Cell) : (cellC c).length = 6 := rfl
theorem cellsO_length (l : List Cell) : (cellsO l).length = l.length * 6 := by
 induction l with
 | nil => rfl
 | cons c l ih => simp only [cellsO, List.flatMap_cons, List.length_append, List.length_cons, cellC_length] at ih ⊢; omega
theorem cellsO_drop (l : List Cell) (i : Nat) : (cellsO l).drop (i * 6) = cellsO (l.drop i) := by
 induction i generalizing l with
 | zero => simp
 | succ i ih =>
  cases l with
  | nil => simp [cellsO]
  | cons c l =>
   rw [Nat.succ_mul, Nat.add_comm, ← List.drop_drop]
   show List.drop (i * 6) (List.drop 6 (cellC c ++ cellsO l)) = cellsO (l.drop i)
   rw [show (6 : Nat) = (cellC c).length from rfl, List.drop_left, cellC_length]
   exact ih l
theorem cellsO_get {l : List Cell} {i : Nat} (h : i < l.length) : ((cellsO l).drop (i * 6)).take 6 = cellC l[i] := by
 rw [cellsO_drop, List.drop_eq_getElem_cons h]
 show List.take 6 (cellC l[i] ++ cellsO (l.drop (i + 1))) = _
 rw [show (6 : Nat) = (cellC l[i]).length from rfl, List.take_left]
theorem cellsO_get1 {l : List Cell} {i j : Nat} (h : i < l.length) (hj : j < 6) : (cellsO l)[i * 6 + j]? = (cellC l[i])[j]? := by
 rw [← List.getElem?_drop, cellsO_drop, List.drop_eq_getElem_cons h]
 show (cellC l[i] ++ cellsO (l.drop (i + 1)))[j]? = _
 rw [List.getElem?_append_left (by rw [cellC_length]; exact hj)]
theorem cellsO_set {l : List Cell} {i : Nat} (h : i < l.length) (c : Cell) : setRange (cellsO l) (i * 6) (cellC c) = cellsO (l.set i c) := by
 apply List.ext_getElem?
 intro k
 rw [setRange_get _ _ _ _ (by rw [cellC_length, cellsO_length]; omega)]
 by_cases hk : k < l.length * 6
 ·have hkk : k = k / 6 * 6 + k % 6 := by omega
  have hlt : k / 6 < l.length := by omega
  have hm : k % 6 < 6 := by omega
  have e2 : (cellsO (l.set i c))[k]? = (cellC ((l.set i c)[k / 6]'(by simpa using hlt)))[k % 6]? := by
   conv => lhs; rw [hkk]
   exact cellsO_get1 (by simpa using hlt) hm
  have e1 : (cellsO l)[k]? = (cellC l[k / 6])[k % 6]? := by
   conv => lhs; rw [hkk]
   exact cellsO_get1 hlt hm
  rw [e2, List.getElem_set]
  rw [cellC_length]
  by_cases hi : i = k / 6
  ·rw [if_pos (by omega), if_pos hi]
   congr 1; omega
  ·rw [if_neg (by omega), if_neg hi, e1]
 ·rw [if_neg (by rw [cellC_length]; omega), List.getElem?_eq_none (by rw [cellsO_length]; omega), List.getElem?_eq_none (by rw [cellsO_length]; simp; omega)]
theorem cellsO_zeros (n : Nat) : (List.replicate n (cellC .zero)).flatten = cellsO (List.replicate n .zero) := by
 induction n with
 | zero => rfl
 | succ n ih => rw [List.replicate_succ, List.flatten_cons, ih, List.replicate_succ]; rfl
def rowC (p n : Nat) : AV := .row p n
structure Scr (f : Sp → Nat → List AV) (σ : Store) (q p : Nat) (s : Sp) : Prop where
 obj : σ q = some (f s p)
 row : σ p = some (cellsO s.cells)
 ne : q ≠ p
 good : s.good
def putS (f : Sp → Nat → List AV) (σ : Store) (q p : Nat) (s : Sp) : Store := (σ.upd q (f s p)).upd p (cellsO s.cells)
section
variable {f : Sp → Nat → List AV} {σ : Store} {q p : Nat} {s : Sp}
theorem Scr.fresh (h : Scr f σ q p s) {r : Nat} (hr : σ r = none) : ¬ q = r ∧ ¬ p = r ∧ ¬ r = q ∧ ¬ r = p := by
 have h1 : ¬ q = r := by rintro rfl; rw [h.obj] at hr; cases hr
 have h2 : ¬ p = r := by rintro rfl; rw [h.row] at hr; cases hr
 exact ⟨h1, h2, Ne.symm h1, Ne.symm h2⟩
theorem Scr.upd (h : Scr f σ q p s) {r : Nat} (hr : ¬ q = r ∧ ¬ p = r) (x : List AV) : Scr f (σ.upd r x) q p s :=
 ⟨by simp [hr.1, h.obj], by simp [hr.2, h.row], h.ne, h.good⟩
theorem Scr.new (h : Scr f σ q p s) {r : Nat} (hr : σ r = none) (x : List AV) : Scr f (σ.upd r x) q p s := h.upd ⟨(h.fresh hr).1, (h.fresh hr).2.1⟩ x
theorem Scr.of_put (hne : q ≠ p) (hg : s.good) : Scr f (putS f σ q p s) q p s := ⟨by simp [putS, hne], by simp [putS], hne, hg⟩
theorem Scr.put_self (h : Scr f σ q p s) : putS f σ q p s = σ := by rw [putS, upd_back h.obj, upd_back h.row]
end
def rfO (s : Sp) (p : Nat) : List AV := [.lit (.int .i64 s.model), .lit (.bool s.alt), .lit (.int .i64 s.rows), .lit (.int .i64 s.cols), rowC p s.n, .lit (.int .i64 s.cursor)]
abbrev Ref := Scr rfO
theorem rswrap_calls {q p : Nat} {s : Sp} {σ : Store} (h : Ref σ q p s) (k : Int) : ACalls Tryz.prog 75 [ptrA q, .lit (.int .i64 k)] σ fun v σ' => v = .lit (.int .i64 (wrap s.n k)) ∧ σ' = σ := by
 have ho := h.obj
 unfold rfO at ho
 have hw := rwrap_calls (dim_of s.model s.alt) k
 rw [dimA] at hw
 change ∀ σ, ACalls Tryz.prog 119 [.agg [.lit (.int .i64 s.rows), .lit (.int .i64 s.cols)], _] σ fun v σ' => v = .lit (.int .i64 (wrap s.n k)) ∧ _ at hw
 refine aw st75 pl75 11 Tryz.func75 rfl ?_
 simp [ho]
 refine callK.of (hw _) ?_
 rintro v σ' ⟨rfl, rfl⟩
 simp
structure AtRow (s : Sp) (k : Int) (L : List AV) (c : Cell) : Prop where
 lt : wrap s.n k < s.n
 le : wrap s.n k * 6 + 6 ≤ L.length
 get : (L.drop (wrap s.n k * 6)).take 6 = cellC c
theorem at_row {s : Sp} (h : s.good) (k : Int) : AtRow s k (cellsO s.cells) (s.at k) := by
 have hlt := wrap_lt s.n_pos k
 have hlen := h.len
 have hlt' : wrap s.n k < s.cells.length := by omega
 refine ⟨hlt, by rw [cellsO_length]; omega, ?_⟩
 rw [cellsO_get hlt']
 simp [Sp.at, hlt']
theorem rat_calls {q p : Nat} {s : Sp} {σ : Store} (h : Ref σ q p s) (k : Int) : ACalls Tryz.prog 57 [ptrA q, .lit (.int .i64 k)] σ fun v σ' => v = cellA (s.at k) ∧ σ' = σ := by
 have ho := h.obj
 have hr := h.row
 have hw := fun τ (ht : Ref τ q p s) => rswrap_calls ht k
 obtain ⟨hlt, hlL, hg⟩ := at_row h.good k
 unfold rfO at ho
 generalize s.at k = c at *
 generalize cellsO s.cells = L at *
 refine aw st57 pl57 14 Tryz.func57 rfl ?_
 simp [ho, rowC]
 intro r hx
 obtain ⟨n1, n2, _⟩ := h.fresh hx
 simp [n1]
 refine ⟨?_, ?_⟩ <;>
 ·refine callK.of (hw _ (h.new hx _)) ?_
  rintro v σ' ⟨rfl, rfl⟩
  simp [ho, hr, rowC, n1, n2, hlt, hlL, hg, cellC]
  exact ⟨AV.le_refl _, by (intro q; simp only [Store.upd, Store.del]; (repeat' split) <;> first | exact Or.inr rfl | exact Or.inl rfl | (exfalso; omega) | (left; subst_vars; assumption) | simp_all)⟩
theorem rfit_calls (c : Cell) (σ : Store) : ACalls Tryz.prog 101 [cellA c] σ fun v σ' => v = cellA (Sp.fit c) ∧ σ' = σ := by
 obtain ⟨ch, a, fa, hi, co, se⟩ := c
 have h6 := rsix_calls fa
 refine aw st101 pl101 12 Tryz.func101 rfl ?_
 cases a
 ·simp +contextual [cellA, cellC, ite_free, Sp.fit]
  intros
  exact ⟨AV.le_refl _, by (intro q; simp only [Store.upd, Store.del]; (repeat' split) <;> first | exact Or.inr rfl | exact Or.inl rfl | (exfalso; omega) | (left; subst_vars; assumption) | simp_all)⟩
 ·simp +contextual [cellA, cellC, ite_free, Sp.fit]
  intro p hp q n1 n2 _
  refine callK.of (h6 _) ?_
  rintro v σ' ⟨rfl, rfl⟩
  simp [n1, n2]
  exact ⟨AV.le_refl _, by (intro q; simp only [Store.upd, Store.del]; (repeat' split) <;> first | exact Or.inr rfl | exact Or.inl rfl | (exfalso; omega) | (left; subst_vars; assumption) | simp_all)⟩
theorem put_ref {σ : Store} {q p : Nat} {s : Sp} (h : Ref σ q p s) (k : Int) (c : Cell) : putS rfO σ q p (s.set k c) = σ.upd p (cellsO (s.cells.set (wrap s.n k) (Sp.fit c))) := by
 have : rfO (s.set k c) p = rfO s p := rfl
 rw [putS, this, upd_back h.obj]; rfl
theorem rset_calls {q p : Nat} {s : Sp} {σ : Store} (h : Ref σ q p s) (k : Int) (c : Cell) : ACalls Tryz.prog 58 [ptrA q, .lit (.int .i64 k), cellA c] σ fun v σ' => v = .tuple [] ∧ σ' = putS rfO σ q p (s.set k c) := by
 have ho := h.obj
 have hr := h.row
 have hw := fun τ (ht : Ref τ q p s) => rswrap_calls ht k
 have hf := rfit_calls c
 obtain ⟨hlt, hlL, hg⟩ := at_row h.good k
 have hlt' : wrap s.n k < s.cells.length := by rw [h.good.len]; exact hlt
 have hset := cellsO_set hlt' (Sp.fit c)
 rw [put_ref h]
 unfold rfO at ho
 generalize Sp.fit c = d at *
 generalize cellsO (s.cells.set (wrap s.n k) d) = M at *
 generalize cellsO s.cells = L at *
 have hca : cellA c = .agg (cellC c) := rfl
 have hda : cellA d = .agg [byteA d.char, .lit (.bool d.attr), byteA d.fa, byteA d.high, byteA d.color, byteA d.set] := rfl
 have hdc : cellC d = [byteA d.char, .lit (.bool d.attr), byteA d.fa, byteA d.high, byteA d.color, byteA d.set] := rfl
 have hcc : cellC c = [byteA c.char, .lit (.bool c.attr), byteA c.fa, byteA c.high, byteA c.color, byteA c.set] := rfl
 rw [hda] at hf
 rw [hdc] at hset
 rw [hca, hcc] at hf
 rw [hca, hcc]
 have hpq : ¬ p = q := Ne.symm h.ne
 have hqp : ¬ q = p := h.ne
 refine aw st58 pl58 16 Tryz.func58 rfl ?_
 simp [ho, rowC]
 intro r hx
 obtain ⟨n1, n2, n3, n4⟩ := h.fresh hx
 simp [n1]
 repeat' apply And.intro
 all_goals
  refine callK.of (hw _ (h.new hx _)) ?_
  rintro v σ' ⟨rfl, rfl⟩
  simp [ho, rowC, n1]
  repeat' apply And.intro
 all_goals
  refine callK.of (hf _) ?_
  rintro v σ' ⟨rfl, rfl⟩
  simp [-e_setRange_1, -e_setRange_2, ho, hr, rowC, n1, n2, hlt, hlL, hset]
  (intro q; simp only [Store.upd, Store.del]; (repeat' split) <;> first | exact Or.inr rfl | exact Or.inl rfl | (exfalso; omega) | (left; subst_vars; assumption) | simp_all)
end Go.Proofs.YtlmdbcgceijlnaaGreat
namespace Go.Proofs.YtlmdbcgceijlnaaGreat
open Go Go.AL Go.Sp
theorem cellA_eq (c : Cell) : cellA c = .agg [byteA c.char, .lit (.bool c.attr), byteA c.fa, byteA c.high, byteA c.color, byteA c.set] := rfl
theorem rput_calls {q p : Nat} {s : Sp} {σ : Store} (h : Ref σ q p s) (k : Int) (b : UInt8) : ACalls Tryz.prog 20 [ptrA q, .lit (.int .i64 k), byteA b] σ fun v σ' => v = .tuple [] ∧ σ' = putS rfO σ q p (s.put k b) := by
 have ha := fun τ (ht : Ref τ q p s) => rat_calls ht k
 have hs := fun τ (ht : Ref τ q p s) c => rset_calls ht k c
 simp only [cellA_eq] at ha hs
 refine aw st20 pl20 19 Tryz.func20 rfl ?_
 simp
 refine callK.of (ha _ h) ?_
 rintro v σ' ⟨rfl, rfl⟩
 by_cases hc : (s.at k).attr = true
 ·have hp : s.put k b = s := by unfold Sp.put; rw [if_pos hc]
  simp +contextual [hc, hp, h.put_self]
 ·have hc' : (s.at k).attr = false := by simpa using hc
  have hp : s.put k b = s.set k { s.at k with char := b } := by unfold Sp.put; rw [if_neg hc]
  rw [hp]
  have hs2 : ∀ (τ : Store), Ref τ q p s → ACalls Tryz.prog 58 [ptrA q, .lit (.int .i64 k), .agg [byteA b, .lit (.bool false), byteA (s.at k).fa, byteA (s.at k).high, byteA (s.at k).color, byteA (s.at k).set]] τ fun v σ' => v = .tuple [] ∧ σ' = putS rfO τ q p (s.set k { s.at k with char := b }) := fun τ ht => by
   have := hs τ ht { s.at k with char := b }
   rw [← hc']; exact this
  generalize s.set k { s.at k with char := b } = s2 at *
  simp [hc']
  intro r hr
  obtain ⟨n1, n2, n3, n4⟩ := h.fresh hr
  refine callK.of (hs2 _ (h.new hr _)) ?_
  rintro v σ' ⟨rfl, rfl⟩
  simp [putS]
  (intro q; simp only [Store.upd, Store.del]; (repeat' split) <;> first | exact Or.inr rfl | exact Or.inl rfl | (exfalso; omega) | (left; subst_vars; assumption) | simp_all)
theorem rclear_calls {q : Nat} {s : Sp} {B : AV} {cu : Int} {r c : Int} {L : AV} {σ : Store} (alt : Bool) (hm : 2 ≤ s.model ∧ s.model ≤ 5) (ho : σ q = some [.lit (.int .i64 s.model), B, .lit (.int .i64 r), .lit (.int .i64 c), L, .lit (.int .i64 cu)]) :
  ACalls Tryz.prog 29 [ptrA q, .lit (.bool alt)] σ fun v σ' => v = .tuple [] ∧ ∃ p : Nat, σ p = none ∧ σ' = putS rfO σ q p (s.clear alt) := by
 have h2 := rmodel_calls (m := 2) (by omega)
 have hmm := rmodel_calls hm
 have hcl := rcells_calls (dim_of s.model alt)
 have hz := cellsO_zeros ((dims s.model alt).1 * (dims s.model alt).2)
 have hbd := dims_bound s.model alt
 have hd2 : (dims s.model alt) = if alt = true then dims s.model true else dims 2 true := by cases alt <;> simp [dims]
 have hrf : ∀ p, rfO (s.clear alt) p = [.lit (.int .i64 s.model), .lit (.bool alt), .lit (.int .i64 (dims s.model alt).1), .lit (.int .i64 (dims s.model alt).2), rowC p ((dims s.model alt).1 * (dims s.model alt).2), .lit (.int .i64 (0 : Nat))] := fun _ => rfl
 have hce : (s.clear alt).cells = List.replicate ((dims s.model alt).1 * (dims s.model alt).2) .zero := rfl
 have h22 : dimM 2 = dimA (dims 2 true).1 (dims 2 true).2 := rfl
 have hmq : dimM s.model = dimA (dims s.model true).1 (dims s.model true).2 := rfl
 rw [h22] at h2
 rw [hmq] at hmm
 simp only [putS, hrf, hce, ← hz]
 refine aw st29 pl29 39 Tryz.func29 rfl ?_
 cases alt
 ·simp only [Bool.false_eq_true, if_false] at hd2
  rw [← hd2] at h2
  generalize (dims s.model false).1 = R at *
  generalize (dims s.model false).2 = C at *
  unfold dimA at h2 hcl
  simp [ho]
  refine callK.of (h2 _) ?_
  rintro v σ' ⟨rfl, rfl⟩
  simp
  refine callK.of (hcl _) ?_
  rintro v σ' ⟨rfl, rfl⟩
  have hT : ((R : Int) * (C : Int)).toNat = R * C := by rw [← Int.natCast_mul]; rfl
  have hb1 : (0 : Int) ≤ (R : Int) * (C : Int) := by rw [← Int.natCast_mul]; omega
  have hb2 : (R : Int) * (C : Int) ≤ 3564 := by rw [← Int.natCast_mul]; omega
  have hb3 : (R : Int) * (C : Int) ≤ 9223372036854775807 := by omega
  have hb4 : 6 * ((R : Int) * (C : Int)) ≤ 281474976710656 := by omega
  have hzz : cellC .zero = [.lit (.int .u8 0), .lit (.bool false), .lit (.int .u8 0), .lit (.int .u8 0), .lit (.int .u8 0), .lit (.int .u8 0)] := rfl
  simp +contextual [hT, hb1, hb3, hb4, ite_free]
  intro p n1 n2 hp
  refine ⟨_, AV.le_refl _, _, ?_, rfl, p, hp, rfl⟩
  simp only [rowC, hzz]
  (intro q; simp only [Store.upd, Store.del]; (repeat' split) <;> first | exact Or.inr rfl | exact Or.inl rfl | (exfalso; omega) | (left; subst_vars; assumption) | simp_all)
 ·simp only [if_true] at hd2
  have h2' : ∃ R2 C2 : Nat, dimA (dims 2 true).1 (dims 2 true).2 = .agg [.lit (.int .i64 R2), .lit (.int .i64 C2)] := ⟨_, _, rfl⟩
  obtain ⟨R2, C2, h2'⟩ := h2'
  rw [h2'] at h2
  generalize (dims s.model true).1 = R at *
  generalize (dims s.model true).2 = C at *
  unfold dimA at hmm hcl
  have hT : ((R : Int) * (C : Int)).toNat = R * C := by rw [← Int.natCast_mul]; rfl
  have hb1 : (0 : Int) ≤ (R : Int) * (C : Int) := by rw [← Int.natCast_mul]; omega
  have hb2 : (R : Int) * (C : Int) ≤ 3564 := by rw [← Int.natCast_mul]; omega
  have hb3 : (R : Int) * (C : Int) ≤ 9223372036854775807 := by omega
  have hb4 : 6 * ((R : Int) * (C : Int)) ≤ 281474976710656 := by omega
  have hzz : cellC .zero = [.lit (.int .u8 0), .lit (.bool false), .lit (.int .u8 0), .lit (.int .u8 0), .lit (.int .u8 0), .lit (.int .u8 0)] := rfl
  simp [ho]
  refine callK.of (h2 _) ?_
  rintro v σ' ⟨rfl, rfl⟩
  simp
  refine callK.of (hmm _) ?_
  rintro v σ' ⟨rfl, rfl⟩
  simp
  refine callK.of (hcl _) ?_
  rintro v σ' ⟨rfl, rfl⟩
  simp +contextual [hT, hb1, hb3, hb4, ite_free]
  intro p n1 n2 hp
  refine ⟨_, AV.le_refl _, _, ?_, rfl, p, hp, rfl⟩
  simp only [rowC, hzz]
  (intro q; simp only [Store.upd, Store.del]; (repeat' split) <;> first | exact Or.inr rfl | exact Or.inl rfl | (exfalso; omega) | (left; subst_vars; assumption) | simp_all)
theorem rnew_calls {m : Nat} (hm : 2 ≤ m ∧ m ≤ 5) (σ : Store) : ACalls Tryz.prog 26 [.lit (.int .i64 m)] σ fun v σ' => ∃ q p : Nat, v = ptrA q ∧ σ q = none ∧ σ p = none ∧ q ≠ p ∧ σ' = putS rfO σ q p (Sp.new m) := by
 have hmo := rmodel_calls hm
 have hmq : dimM m = .agg [.lit (.int .i64 (dims m true).1), .lit (.int .i64 (dims m true).2)] := rfl
 rw [hmq] at hmo
 have hcl := fun (q : Nat) (L B : AV) (r c cu : Int) (τ : Store) (ho : τ q = some [.lit (.int .i64 m), B, .lit (.int .i64 r), .lit (.int .i64 c), L, .lit (.int .i64 cu)]) => rclear_calls (s := ⟨m, false, [], 0⟩) false hm ho
 refine aw st26 pl26 19 Tryz.func26 rfl ?_
 simp
 refine callK.of (hmo _) ?_
 rintro v σ' ⟨rfl, rfl⟩
 simp +contextual [ite_free]
 intro r hr q n1 n2 hq
 refine callK.of (hcl q (.list true 6 []) (.lit (.bool false)) 0 0 0 _ (by simp)) ?_
 rintro v σ1 ⟨rfl, p, hp, rfl⟩
 simp [ite_free] at hp
 obtain ⟨p1, p2, p3, p4, p5⟩ := hp
 simp
 refine ⟨_, AV.le_refl _, _, ?_, q, rfl, hq, p, p5, by omega, rfl⟩
 simp only [putS]
 have : rfO (Sp.clear { model := m, alt := false, cells := [], cursor := 0 } false) p = rfO (Sp.new m) p := rfl
 have h2 : (Sp.clear { model := m, alt := false, cells := [], cursor := 0 } false).cells = (Sp.new m).cells := rfl
 rw [this, h2]
 (intro q; simp only [Store.upd, Store.del]; (repeat' split) <;> first | exact Or.inr rfl | exact Or.inl rfl | (exfalso; omega) | (left; subst_vars; assumption) | simp_all)
def actC (a : Sp.Act) : List AV := [byteA a.what, .lit (.int .i64 a.n), .lit (.bool a.on), byteA a.code] ++ cellC a.c ++ [.list false 1 (bytesA a.text)]
def actA (a : Sp.Act) : AV := .agg (actC a)
theorem putAll_snoc (s : Sp) (k : Int) : ∀ (l : List UInt8) (i : Nat) (c : UInt8), Sp.putAll s k i (l ++ [c]) = (Sp.putAll s k i l).put (k + ((i + l.length : Nat) : Int)) c := by
 intro l
 induction l generalizing s with
 | nil => intro i c; simp [Sp.putAll]
 | cons x l ih =>
  intro i c
  simp only [List.cons_append, Sp.putAll, ih, List.length_cons]
  congr 2; omega
def DoR (σ : Store) (q p : Nat) (s2 : Sp) (v : AV) (σ' : Store) : Prop := v = .tuple [] ∧ ∃ p', (p' = p ∨ σ p' = none) ∧ σ' = putS rfO σ q p' s2
theorem act_what {a : Sp.Act} {j : Nat} (h : a.what.toNat % 6 = j) : ((a.what.toNat : Int).tmod 6) = (j : Int) := by rw [← h]; rfl
theorem putS_twice {f : Sp → Nat → List AV} {σ : Store} {q p : Nat} (s s2 : Sp) (_hne : q ≠ p) : putS f (putS f σ q p s) q p s2 = putS f σ q p s2 := by
 funext k; simp only [putS, Store.upd]
 (repeat' split) <;> first | rfl | (exfalso; omega)
theorem rdo_0 {q p : Nat} {s : Sp} {σ : Store} (h : Ref σ q p s) (a : Sp.Act) (hk : a.what.toNat % 6 = 0) : ACalls Tryz.prog 40 [ptrA q, actA a] σ (DoR σ q p (s.clear a.on)) := by
 have ht := act_what hk
 have hc := fun τ (hτ : Ref τ q p s) => rclear_calls (σ := τ) a.on hτ.good.model hτ.obj
 refine aw st40 pl40 69 Tryz.func40 rfl ?_
 simp [actA, actC, cellC, byteA, ht]
 intro b hb
 refine callK.of (hc _ (h.new hb _)) ?_
 rintro v σ' ⟨rfl, p', hp', rfl⟩
 simp [ite_free] at hp'
 obtain ⟨n1, n2, n3⟩ := hp'
 obtain ⟨m1, m2, m3, m4⟩ := h.fresh hb
 simp
 refine ⟨_, AV.le_refl _, putS rfO σ q p' (s.clear a.on), ?_, rfl, p', .inr n3, rfl⟩
 simp only [putS]
 (intro q; simp only [Store.upd, Store.del]; (repeat' split) <;> first | exact Or.inr rfl | exact Or.inl rfl | (exfalso; omega) | (left; subst_vars; assumption) | simp_all)
theorem rdo_1 {q p : Nat} {s : Sp} {σ : Store} (h : Ref σ q p s) (a : Sp.Act) (hk : a.what.toNat % 6 = 1) : ACalls Tryz.prog 40 [ptrA q, actA a] σ (DoR σ q p (s.place a.n)) := by
 have ht := act_what hk
 have hw := fun τ (hτ : Ref τ q p s) => rswrap_calls hτ a.n
 have ho := h.obj
 have hr := h.row
 have hrf : rfO (s.place a.n) p = [.lit (.int .i64 s.model), .lit (.bool s.alt), .lit (.int .i64 s.rows), .lit (.int .i64 s.cols), rowC p s.n, .lit (.int .i64 (wrap s.n a.n))] := rfl
 have hcc : (s.place a.n).cells = s.cells := rfl
 have hps : putS rfO σ q p (s.place a.n) = (σ.upd q (rfO (s.place a.n) p)) := by
  rw [putS, hcc]; exact upd_back (by simp [Ne.symm h.ne, hr])
 unfold rfO at ho
 refine aw st40 pl40 69 Tryz.func40 rfl ?_
 simp [actA, actC, cellC, byteA, ht]
 intro b hb
 obtain ⟨m1, m2, m3, m4⟩ := h.fresh hb
 refine callK.of (hw _ (h.new hb _)) ?_
 rintro v σ' ⟨rfl, rfl⟩
 simp [m1, ho]
 refine ⟨_, AV.le_refl _, putS rfO σ q p (s.place a.n), ?_, rfl, p, .inl rfl, rfl⟩
 rw [hps, hrf]
 (intro q; simp only [Store.upd, Store.del]; (repeat' split) <;> first | exact Or.inr rfl | exact Or.inl rfl | (exfalso; omega) | (left; subst_vars; assumption) | simp_all)
theorem rdo_2 {q p : Nat} {s : Sp} {σ : Store} (h : Ref σ q p s) (a : Sp.Act) (hk : a.what.toNat % 6 = 2) : ACalls Tryz.prog 40 [ptrA q, actA a] σ (DoR σ q p (s.put a.n a.code)) := by
 have ht := act_what hk
 have hw := fun τ (hτ : Ref τ q p s) => rput_calls hτ a.n a.code
 refine aw st40 pl40 69 Tryz.func40 rfl ?_
 simp [actA, actC, cellC, byteA, ht]
 intro b hb
 obtain ⟨m1, m2, m3, m4⟩ := h.fresh hb
 refine callK.of (hw _ (h.new hb _)) ?_
 rintro v σ' ⟨rfl, rfl⟩
 simp
 refine ⟨_, AV.le_refl _, putS rfO σ q p _, ?_, rfl, p, .inl rfl, rfl⟩
 simp only [putS]
 (intro q; simp only [Store.upd, Store.del]; (repeat' split) <;> first | exact Or.inr rfl | exact Or.inl rfl | (exfalso; omega) | (left; subst_vars; assumption) | simp_all)
theorem rdo_3 {q p : Nat} {s : Sp} {σ : Store} (h : Ref σ q p s) (a : Sp.Act) (hk : a.what.toNat % 6 = 3) : ACalls Tryz.prog 40 [ptrA q, actA a] σ (DoR σ q p (s.set a.n { attr := true, fa := a.code })) := by
 have ht := act_what hk
 have hw := fun τ (hτ : Ref τ q p s) => rset_calls hτ a.n { attr := true, fa := a.code }
 simp only [cellA_eq, byteA] at hw
 refine aw st40 pl40 69 Tryz.func40 rfl ?_
 simp [actA, actC, cellC, byteA, ht]
 intro b hb
 obtain ⟨m1, m2, m3, m4⟩ := h.fresh hb
 refine callK.of (hw _ (h.new hb _)) ?_
 rintro v σ' ⟨rfl, rfl⟩
 simp
 refine ⟨_, AV.le_refl _, putS rfO σ q p _, ?_, rfl, p, .inl rfl, rfl⟩
 simp only [putS]
 (intro q; simp only [Store.upd, Store.del]; (repeat' split) <;> first | exact Or.inr rfl | exact Or.inl rfl | (exfalso; omega) | (left; subst_vars; assumption) | simp_all)
theorem rdo_4 {q p : Nat} {s : Sp} {σ : Store} (h : Ref σ q p s) (a : Sp.Act) (hk : a.what.toNat % 6 = 4) : ACalls Tryz.prog 40 [ptrA q, actA a] σ (DoR σ q p (s.set a.n a.c)) := by
 have ht := act_what hk
 have hw := fun τ (hτ : Ref τ q p s) => rset_calls hτ a.n a.c
 simp only [cellA_eq, byteA] at hw
 refine aw st40 pl40 69 Tryz.func40 rfl ?_
 simp [actA, actC, cellC, byteA, ht]
 intro b hb
 obtain ⟨m1, m2, m3, m4⟩ := h.fresh hb
 refine callK.of (hw _ (h.new hb _)) ?_
 rintro v σ' ⟨rfl, rfl⟩
 simp
 refine ⟨_, AV.le_refl _, putS rfO σ q p _, ?_, rfl, p, .inl rfl, rfl⟩
 simp only [putS]
 (intro q; simp only [Store.upd, Store.del]; (repeat' split) <;> first | exact Or.inr rfl | exact Or.inl rfl | (exfalso; omega) | (left; subst_vars; assumption) | simp_all)
theorem take_min_succ {l : List UInt8} {i : Nat} (h : i < l.length) (h2 : i < 200) : (l.take 200).take (i + 1) = (l.take 200).take i ++ [l[i]] := by
 have h3 : i < (l.take 200).length := by simp; omega
 rw [List.take_succ_eq_append_getElem h3]; simp
theorem rdo_5 {q p : Nat} {s : Sp} {σ : Store} (h : Ref σ q p s) (a : Sp.Act) (hk : a.what.toNat % 6 = 5) (hl : a.text.length ≤ 9223372036854775807) : ACalls Tryz.prog 40 [ptrA q, actA a] σ (DoR σ q p (Sp.putAll s (wrap s.n a.n) 0 (a.text.take 200))) := by
 have ht := act_what hk
 have hln := wrap_lt s.n_pos a.n
 have hn := s.n_le
 refine aw st40 pl40 69 Tryz.func40 rfl ?_
 have hac : actC a = [.lit (.int .u8 a.what.toNat), .lit (.int .i64 a.n), .lit (.bool a.on), .lit (.int .u8 a.code.toNat), .lit (.int .u8 a.c.char.toNat), .lit (.bool a.c.attr), .lit (.int .u8 a.c.fa.toNat), .lit (.int .u8 a.c.high.toNat), .lit (.int .u8 a.c.color.toNat), .lit (.int .u8 a.c.set.toNat), .list false 1 (bytesA a.text)] := rfl
 simp [actA, actC, cellC, byteA, ht]
 intro b hb
 obtain ⟨m1, m2, m3, m4⟩ := h.fresh hb
 refine codeK.loop follows (st := st40) (plans := pl40) (X := Nat) (fun i => i ≤ a.text.length)
  (fun i => [(0, ptrA q), (3, ptrA b), (10, .list false 1 (bytesA a.text)), (11, .lit (.int .i64 a.text.length)), (12, .lit (.int .i64 i))])
  (fun i => (putS rfO σ q p (Sp.putAll s (wrap s.n a.n) 0 ((a.text.take 200).take i))).upd b (actC a))
  (fun i => a.text.length - i) 0 (by kernel_rfl) (by simp) (by simp) (by simp [Sp.putAll, hac]; rw [h.put_self]; (intro q; simp only [Store.upd, Store.del]; (repeat' split) <;> first | exact Or.inr rfl | exact Or.inl rfl | (exfalso; omega) | (left; subst_vars; assumption) | simp_all)) fun i hi => ?_
 by_cases hlt : i < a.text.length
 ·have hw : IntKind.i64.wrap ((i : Int) + 1) = ((i + 1 : Nat) : Int) := wrap_i64 (by omega) (by omega)
  have hbt := bytesA_at a.text i hlt
  by_cases h2 : i < 200
  ·have h2i : (i : Int) < 200 := by omega
   have hsn := take_min_succ hlt h2
   have hpa := putAll_snoc s (wrap s.n a.n) ((a.text.take 200).take i) 0 a.text[i]
   rw [← hsn] at hpa
   have hlen : ((a.text.take 200).take i).length = i := by simp; omega
   rw [hlen] at hpa
   have hmi : (Sp.putAll s (wrap s.n a.n) 0 ((a.text.take 200).take i)).n = s.n := Sp.putAll_n _ _ _ _
   have hgi : (Sp.putAll s (wrap s.n a.n) 0 ((a.text.take 200).take i)).good := Sp.putAll_good _ _ _ h.good
   have hw2 : IntKind.i64.wrap ((wrap s.n a.n : Int) + (i : Int)) = (wrap s.n a.n : Int) + ((0 + i : Nat) : Int) := by
    rw [wrap_i64 (by omega) (by omega)]; simp
   rw [hac]
   obtain ⟨s2, hs2⟩ : ∃ s2, Sp.putAll s (wrap s.n a.n) 0 ((a.text.take 200).take (i + 1)) = s2 := ⟨_, rfl⟩
   rw [hs2] at hpa
   generalize Sp.putAll s (wrap s.n a.n) 0 ((a.text.take 200).take i) = s1 at *
   have hR : Ref (putS rfO σ q p s1) q p s1 := Scr.of_put h.ne hgi
   have hR2 := hR.upd ⟨m1, m2⟩ (actC a)
   rw [hac] at hR2
   have hwr := rswrap_calls hR2 a.n
   rw [hmi] at hwr
   have hpu := rput_calls hR2 ((wrap s.n a.n : Int) + ((0 + i : Nat) : Int)) a.text[i]
   rw [← hpa] at hpu
   simp +contextual [hlt, h2i, hbt, byteA]
   refine callK.of hwr ?_
   rintro v σ' ⟨rfl, rfl⟩
   simp [hw2]
   refine callK.of (by simpa [byteA] using hpu) ?_
   rintro v σ' ⟨rfl, rfl⟩
   simp
   refine ⟨i + 1, by omega, by omega, by rw [hw]; exact AV.le_refl _, ?_⟩
   rw [hs2]
   simp only [putS]
   (intro q; simp only [Store.upd, Store.del]; (repeat' split) <;> first | exact Or.inr rfl | exact Or.inl rfl | (exfalso; omega) | (left; subst_vars; assumption) | simp_all)
  ·have h2i : ¬ (i : Int) < 200 := by omega
   have h200 : (a.text.take 200).length ≤ 200 := by simp; omega
   have hsame : (a.text.take 200).take (i + 1) = (a.text.take 200).take i :=
    (List.take_of_length_le (show (a.text.take 200).length ≤ i + 1 by omega)).trans (List.take_of_length_le (show (a.text.take 200).length ≤ i by omega)).symm
   rw [hac]
   simp +contextual [hlt, h2i, hbt, byteA]
   refine ⟨i + 1, by omega, by omega, by rw [hw]; exact AV.le_refl _, ?_⟩
   rw [hsame]
   exact Store.sub_refl _
 ·obtain rfl : i = a.text.length := by omega
  have hall : (a.text.take 200).take a.text.length = a.text.take 200 := List.take_of_length_le (by simp; omega)
  rw [hall]
  simp
  refine ⟨_, AV.le_refl _, putS rfO σ q p _, ?_, rfl, p, .inl rfl, rfl⟩
  simp only [putS]
  (intro q; simp only [Store.upd, Store.del]; (repeat' split) <;> first | exact Or.inr rfl | exact Or.inl rfl | (exfalso; omega) | (left; subst_vars; assumption) | simp_all)
theorem rdo_calls {q p : Nat} {s : Sp} {σ : Store} (h : Ref σ q p s) (a : Sp.Act) (hl : a.text.length ≤ 9223372036854775807) : ACalls Tryz.prog 40 [ptrA q, actA a] σ (DoR σ q p (s.act a)) := by
 unfold Sp.act
 by_cases h0 : a.what.toNat % 6 = 0
 ·rw [if_pos h0]; exact rdo_0 h a h0
 by_cases h1 : a.what.toNat % 6 = 1
 ·rw [if_neg h0, if_pos h1]; exact rdo_1 h a h1
 by_cases h2 : a.what.toNat % 6 = 2
 ·rw [if_neg h0, if_neg h1, if_pos h2]; exact rdo_2 h a h2
 by_cases h3 : a.what.toNat % 6 = 3
 ·rw [if_neg h0, if_neg h1, if_neg h2, if_pos h3]; exact rdo_3 h a h3
 by_cases h4 : a.what.toNat % 6 = 4
 ·rw [if_neg h0, if_neg h1, if_neg h2, if_neg h3, if_pos h4]; exact rdo_4 h a h4
 ·rw [if_neg h0, if_neg h1, if_neg h2, if_neg h3, if_neg h4]; exact rdo_5 h a (by omega) hl
end Go.Proofs.YtlmdbcgceijlnaaGreat
