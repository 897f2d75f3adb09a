/-
 Fields, plainly: where one may write, the next one, runs of places.
-/
import Derived.Test.YtlmdbcgceijlnaaGreatPPart11
set_option linter.unusedSimpArgs false
set_option linter.unusedVariables false
set_option maxRecDepth 8000
set_option maxHeartbeats 8000000

namespace Go.Proofs.YtlmdbcgceijlnaaGreat
open Go Go.AL Go.Sp
def spanLen (N f t : Nat) : Nat := if (t + N - f) % N = 0 then N else (t + N - f) % N
def spanL (N f t : Nat) : List Nat := (List.range (spanLen N f t)).map fun i => (f + i) % N
def fldAt (s : Sp) (a : Nat) : Fld := fld (s.cells[a]?.getD .zero).fa
def openS (s : Sp) (n : Nat) : Bool := !(attrAt s.cells n) && !(decide (0 ≤ startS s.cells n) && (fldAt s (startS s.cells n).toNat).prot)
def rangeS (s : Sp) (l : List Nat) : Sp := l.foldl (fun s (n : Nat) => if openS s n = true then s.put n 0 else s) s
def repeatS (s : Sp) (l : List Nat) (c : Cell) : Sp := l.foldl (fun s (n : Nat) => s.set n c) s
def firstS (s : Sp) (n : Nat) : Bool := (s.at ((n : Int) - 1)).attr && !(s.at n).attr && !(fld (s.at ((n : Int) - 1)).fa).prot
def nextS (s : Sp) (n : Nat) : Int := match (List.range s.n).find? (fun i => firstS s ((n + i + 1) % s.n)) with
 | some i => ((n + i + 1) % s.n : Nat)
 | none => -1
def nullsL (s : Sp) (n : Nat) : List Nat := ((List.range (s.n - n)).map fun i => n + i).takeWhile fun k => !attrAt s.cells k
def nullS (s : Sp) (l : List Nat) : Sp := l.foldl (fun s (n : Nat) => s.put n 0) s
theorem putS_upd {f : Sp → Nat → List AV} {σ : Store} {q r z : Nat} (s : Sp) (X : List AV) (h1 : ¬ z = q) (h2 : ¬ z = r) : putS f (σ.upd z X) q r s = (putS f σ q r s).upd z X := by
 refine Store.ext2 (fun o => ?_) (fun i => by simp [putS])
 simp only [putS, supd_apply]
 by_cases e : o = z
 ·subst e; simp [h1, h2]
 ·simp [e]
theorem wrap_sub {N f t : Nat} (hf : f < N) (_ht : t < N) : wrap N ((t : Int) - (f : Int)) = (t + N - f) % N := by
 unfold wrap
 have e : ((t : Int) - f) % (N : Int) = ((t + N - f : Nat) : Int) % (N : Int) := by
  rw [show ((t + N - f : Nat) : Int) = ((t : Int) - f) + N from by omega, Int.add_emod_right]
 rw [e, ← Int.natCast_emod]; rfl
abbrev sizeA (s : Sp) : AV := .agg [.lit (.int .i64 s.rows), .lit (.int .i64 s.cols)]
theorem spanLen_pos {N f t : Nat} (h : 0 < N) : 0 < spanLen N f t ∧ spanLen N f t ≤ N := by
 unfold spanLen
 have := Nat.mod_lt (t + N - f) h
 split <;> omega
theorem length_calls (s : Sp) {f t : Nat} (hf : f < s.n) (ht : t < s.n) (σ : Store) : ACalls Tryz.prog 163 [sizeA s, .lit (.int .i64 f), .lit (.int .i64 t)] σ fun v σ' => v = .lit (.int .i64 (spanLen s.n f t)) ∧ σ' = σ := by
 have hn := s.n_le
 have hwt := fun τ => swrap_calls s (t : Int) τ
 have hwf := fun τ => swrap_calls s (f : Int) τ
 have hws := fun τ => swrap_calls s ((t : Int) - f) τ
 have hcl := fun τ => scells_calls s τ
 rw [wrap_of_lt ht] at hwt
 rw [wrap_of_lt hf] at hwf
 rw [wrap_sub hf ht] at hws
 have hi : IntKind.i64.wrap ((t : Int) - f) = (t : Int) - f := wrap_i64 (by omega) (by omega)
 unfold spanLen
 generalize (t + s.n - f) % s.n = d at *
 refine aw st163 pl163 22 Tryz.func163 rfl ?_
 simp
 intro b hb
 repeat' (with_reducible apply And.intro)
 all_goals
  refine callK.of (hwt _) ?_
  rintro v σ' ⟨rfl, rfl⟩
  simp
  repeat' (with_reducible apply And.intro)
 all_goals
  refine callK.of (hwf _) ?_
  rintro v σ' ⟨rfl, rfl⟩
  simp [hi]
  refine callK.of (hws _) ?_
  rintro v σ' ⟨rfl, rfl⟩
  by_cases h0 : d = 0
  ·simp [h0]
   refine callK.of (hcl _) ?_
   rintro v σ' ⟨rfl, rfl⟩
   simp
   exact sub_upd_self _ _ _ hb
  ·have h1 : 0 < d := by omega
   simp [h0, h1]
   exact sub_upd_self _ _ _ hb
theorem span_calls2 (s : Sp) (f t : Nat) (σ : Store) : ACalls Tryz.prog 154 [sizeA s, .lit (.int .i64 f), .lit (.int .i64 t)] σ fun v σ' => ∃ b1 b2 b3, v = .func (.func 162) [] [ptrA b1, ptrA b2, ptrA b3] ∧ σ b1 = none ∧ σ b2 = none ∧ σ b3 = none ∧ b1 ≠ b2 ∧ b1 ≠ b3 ∧ b2 ≠ b3 ∧
      σ' = ((σ.upd b1 [.lit (.int .i64 s.rows), .lit (.int .i64 s.cols)]).upd b2 [.lit (.int .i64 f)]).upd b3 [.lit (.int .i64 t)] := by
 refine aw st154 pl154 8 Tryz.func154 rfl ?_
 simp +contextual [ite_free]
 intro b1 h1 b2 n1 n2 h2 b3 n3 n4 n5 n6 h3
 exact ⟨_, AV.le_refl _, _, Store.sub_refl _, b1, b2, b3, rfl, h1, h2, h3, Ne.symm n1, by first | assumption | exact Ne.symm (by assumption), by first | assumption | exact Ne.symm (by assumption), rfl⟩
def NeedB (b1 b2 b3 : Nat) (s : Sp) (f t : Nat) (τ : Store) : Prop := τ b1 = some [.lit (.int .i64 s.rows), .lit (.int .i64 s.cols)] ∧ τ b2 = some [.lit (.int .i64 f)] ∧ τ b3 = some [.lit (.int .i64 t)]
theorem NeedB.mono {b1 b2 b3 : Nat} {s : Sp} {f t : Nat} {τ τ' : Store} (h : NeedB b1 b2 b3 s f t τ) (hs : Store.sub τ τ') : NeedB b1 b2 b3 s f t τ' := ⟨sub_at h.1 hs, sub_at h.2.1 hs, sub_at h.2.2 hs⟩
theorem span_iter (b1 b2 b3 : Nat) (s : Sp) {f t : Nat} (hf : f < s.n) (ht : t < s.n) (σ : Store) : IterG Tryz.prog 162 [ptrA b1, ptrA b2, ptrA b3] σ (spanLen s.n f t) (fun _ => NeedB b1 b2 b3 s f t) fun k _ => [.lit (.int .i64 ((f + k) % s.n : Nat))] := by
 refine ⟨fun k τ τ' h hs => ⟨h.mono hs, rfl⟩, fun X l I J hneed hy τ E h0 hs => ?_⟩
 obtain ⟨hb1, hb2, hb3⟩ := (hneed 0 τ E (Nat.zero_le _) h0).mono hs
 have hln := fun τ => length_calls s hf ht τ
 have hn := s.n_le
 have hsl := spanLen_pos (f := f) (t := t) s.n_pos
 generalize spanLen s.n f t = N at *
 refine ACallsY.of_awp follows (st := st162) (plans := pl162) (n := 24) Tryz.func162 rfl (by kernel_rfl) (by kernel_rfl) (by kernel_rfl) ?_
 simp [hb1, hb2, hb3]
 refine callK.of (hln _) ?_
 rintro v σ' ⟨rfl, rfl⟩
 simp
 refine codeYK.loop follows (st := st162) (plans := pl162) (S := Nat × Store) (fun x => x.1 ≤ N)
  (fun x => [(0, .func (.yield l) [] []), (1, ptrA b1), (2, ptrA b2), (3, ptrA b3), (9, .lit (.int .i64 N)), (10, .lit (.int .i64 x.1))]) (fun x => x.2) (fun x E => I x.1 x.2 E) (fun x => N - x.1) (0, τ) (by kernel_rfl) (by simp) (by simp) hs h0 ?_
 rintro ⟨k, τ1⟩ E1 hk hI
 dsimp only at hk hI ⊢
 obtain ⟨c1, c2, c3⟩ := hneed k τ1 E1 hk hI
 by_cases hlt : k < N
 ·have hw : IntKind.i64.wrap ((k : Int) + 1) = ((k + 1 : Nat) : Int) := wrap_i64 (by omega) (by omega)
  have hyk := hy k hlt τ1 E1 hI
  have hwf := fun τ => swrap_calls s (f : Int) τ
  rw [wrap_of_lt hf] at hwf
  have hws := fun τ => swrap_calls s ((f + k : Nat) : Int) τ
  rw [wrap_mod s.n_pos] at hws
  have hi : IntKind.i64.wrap ((f : Int) + k) = ((f + k : Nat) : Int) := by rw [wrap_i64 (by omega) (by omega)]; omega
  simp [hlt, c1, c2]
  repeat' (with_reducible apply And.intro)
  all_goals
   refine callK.of (hwf _) ?_
   rintro v σ' ⟨rfl, rfl⟩
   simp [hi, c1]
   refine callK.of (hws _) ?_
   rintro v σ' ⟨rfl, rfl⟩
   simp
   refine yieldK.of (by simp) hyk (Store.sub_refl _) ?_
   intro b4 τ' E' hR hap
   cases b4
   ·simp
    exact ⟨⟨_, AV.le_refl _⟩, _, Store.sub_over _ _ _, τ', Store.sub_refl _, .inr (by simpa using hR)⟩
   ·simp
    exact ⟨k + 1, by omega, by omega, by rw [hw]; exact AV.le_refl _, τ', Store.sub_over _ _ _, by simpa using hR⟩
 ·obtain rfl : k = N := by omega
  simp
  exact ⟨⟨_, AV.le_refl _⟩, _, Store.sub_refl _, τ1, Store.sub_refl _, .inl hI⟩
theorem attrAt_at {s : Sp} {n : Nat} (hn : n < s.n) : (s.at (n : Int)).attr = attrAt s.cells n := by
 unfold Sp.at attrAt; rw [wrap_of_lt hn]
theorem count_some {s : Sp} (h : 0 < s.count) : ∃ a, a < s.cells.length ∧ attrAt s.cells a = true := by
 unfold Sp.count at h
 rw [List.countP_pos_iff] at h
 obtain ⟨c, hm, hc⟩ := h
 obtain ⟨i, hi, rfl⟩ := List.getElem_of_mem hm
 exact ⟨i, hi, by unfold attrAt; rw [List.getElem?_eq_getElem hi]; exact hc⟩
theorem startS_none {s : Sp} (h : s.count = 0) (n : Nat) : startS s.cells n = -1 := by
 have hno : ∀ i, attrAt s.cells i = false := fun i => by
  cases ha : attrAt s.cells i with
  | false => rfl
  | true =>
   exfalso
   unfold attrAt at ha
   cases hi : s.cells[i]? with
   | none => rw [hi] at ha; exact absurd ha (by decide)
   | some c =>
    rw [hi] at ha
    have : 0 < s.cells.countP (·.attr) := List.countP_pos_iff.2 ⟨c, List.mem_of_getElem? hi, ha⟩
    unfold Sp.count at h; omega
 unfold startS
 rw [lastA_none fun i _ => hno i, lastA_none fun i _ => hno i]
theorem back_start {s : Sp} (h : s.good) {n j : Nat} (hn : n < s.n) (hj : j < s.n) (hfree : ∀ i, i < j → attrAt s.cells ((n + s.n - i) % s.n) = false) (hat : attrAt s.cells ((n + s.n - j) % s.n) = true) : startS s.cells n = ((n + s.n - j) % s.n : Nat) := by
 have hl := h.len
 have hpos := s.n_pos
 have ha : (n + s.n - j) % s.n < s.cells.length := by rw [hl]; exact Nat.mod_lt _ hpos
 have key := startS_in hat ha (i := j) (by omega) (fun k h1 h2 => by
  have := hfree (j - k) (by omega)
  rw [hl]
  have e : ((n + s.n - j) % s.n + k) % s.n = (n + s.n - (j - k)) % s.n := by
   rw [Nat.mod_add_mod]; congr 1; omega
  rw [e]; exact this)
 have e2 : ((n + s.n - j) % s.n + j) % s.cells.length = n := by
  rw [hl, Nat.mod_add_mod, show n + s.n - j + j = n + s.n from by omega, Nat.add_mod_right, Nat.mod_eq_of_lt hn]
 rw [e2] at key
 exact key
theorem wrap_pred {N m : Nat} (hN : 0 < N) (hm : m < N) : wrap N ((m : Int) - 1) = (m + N - 1) % N := by
 unfold wrap
 have e : ((m : Int) - 1) % (N : Int) = ((m + N - 1 : Nat) : Int) % (N : Int) := by
  rw [show ((m + N - 1 : Nat) : Int) = ((m : Int) - 1) + N from by omega, Int.add_emod_right]
 rw [e, ← Int.natCast_emod]; rfl
theorem start_calls {q r : Nat} {s : Sp} {σ : Store} (h : Prg σ q r s) {n : Nat} (hn : n < s.n) : ACalls Tryz.prog 78 [ptrA q, .lit (.int .i64 n)] σ fun v σ' => v = .lit (.int .i64 (startS s.cells n)) ∧ σ' = σ := by
 have hf := fun τ (hτ : Prg τ q r s) => formatted_calls hτ
 have hsz := fun τ (hτ : Prg τ q r s) => size_calls hτ
 have hnl := s.n_le
 refine aw st78 pl78 24 Tryz.func78 rfl ?_
 by_cases hc : s.count = 0
 ·have hs := startS_none hc n
  rw [hs]
  simp
  refine callK.of (hf _ h) ?_
  rintro v σ' ⟨rfl, rfl⟩
  simp [hc]
 ·have hc' : 0 < s.count := by omega
  obtain ⟨a, ha, hat⟩ := count_some hc'
  have hw := fun τ => swrap_calls s (n : Int) τ
  rw [wrap_of_lt hn] at hw
  simp
  refine callK.of (hf _ h) ?_
  rintro v σ' ⟨rfl, rfl⟩
  simp [hc']
  refine callK.of (hsz _ h) ?_
  rintro v σ' ⟨rfl, rfl⟩
  simp
  intro b hb
  have hbq := h.fresh hb
  refine callK.of (hw _) ?_
  rintro v σ2 ⟨rfl, rfl⟩
  simp
  have hbk := @back_start s h.good n
  have hgood := h.good
  have hpos := s.n_pos
  have hstop : ∀ j, j < s.n → (∀ i, i < j → attrAt s.cells ((n + s.n - i) % s.n) = false) → attrAt s.cells ((n + s.n - j) % s.n) = false → j + 1 < s.n := fun j hj hfree hthis => by
   rcases Nat.lt_or_ge (j + 1) s.n with h1 | h1
   ·exact h1
   ·exfalso
    rw [h.good.len] at ha
    have e : (n + s.n - (n + s.n - a) % s.n) % s.n = a := by
     rcases Nat.lt_or_ge n a with h2 | h2
     ·rw [Nat.mod_eq_of_lt (by omega : n + s.n - a < s.n), show n + s.n - (n + s.n - a) = a from by omega, Nat.mod_eq_of_lt ha]
     ·rw [show n + s.n - a = (n - a) + s.n from by omega, Nat.add_mod_right, Nat.mod_eq_of_lt (by omega : n - a < s.n), show n + s.n - (n - a) = a + s.n from by omega, Nat.add_mod_right, Nat.mod_eq_of_lt ha]
    have hm := Nat.mod_lt (n + s.n - a) hpos
    rcases Nat.lt_or_ge ((n + s.n - a) % s.n) j with h3 | h3
    ·have := hfree _ h3; rw [e, hat] at this; cases this
    ·have : (n + s.n - a) % s.n = j := by omega
     rw [this] at e; rw [e, hat] at hthis; cases hthis
  refine codeK.loop follows (st := st78) (plans := pl78) (X := Nat) (fun j => j < s.n ∧ ∀ i, i < j → attrAt s.cells ((n + s.n - i) % s.n) = false)
   (fun j => [(0, ptrA q), (1, .lit (.int .i64 ((n + s.n - j) % s.n : Nat))), (5, ptrA b)]) (fun _ => σ'.upd b [.lit (.int .i64 s.rows), .lit (.int .i64 s.cols)]) (fun j => s.n - j) 0 (by kernel_rfl) ⟨hpos, fun i hi => by omega⟩ (by simp [Nat.mod_eq_of_lt hn]) (by first | exact Store.sub_refl _ | (intro q; simp only [Store.upd, Store.del]; (repeat' split) <;> first | exact Or.inr rfl | exact Or.inl rfl | (exfalso; omega) | (left; subst_vars; assumption) | simp_all)) fun j hj => ?_
  obtain ⟨hj, hfree⟩ := hj
  have hbk2 := hbk hn hj hfree
  have hstop2 := hstop j hj hfree
  have hm := Nat.mod_lt (n + s.n - j) hpos
  have hnext : ((n + s.n - j) % s.n + s.n - 1) % s.n = (n + s.n - (j + 1)) % s.n := by
   rcases Nat.lt_or_ge (n + s.n - j) s.n with h1 | h1
   ·rw [Nat.mod_eq_of_lt h1, show n + s.n - j + s.n - 1 = (n + s.n - (j + 1)) + s.n from by omega, Nat.add_mod_right]
   ·rw [show n + s.n - j = (n - j) + s.n from by omega, Nat.add_mod_right, Nat.mod_eq_of_lt (by omega : n - j < s.n), show n + s.n - (j + 1) = n - j + s.n - 1 from by omega]
  have hfree2 : attrAt s.cells ((n + s.n - j) % s.n) = false → ∀ i, i < j + 1 → attrAt s.cells ((n + s.n - i) % s.n) = false := fun h0 i hi => by
   by_cases e : i = j
   ·subst e; exact h0
   ·exact hfree i (by omega)
  have hnI : (((n + s.n - j) % s.n + s.n - 1 : Nat) : Int) % (s.n : Int) = ((n + s.n - (j + 1) : Nat) : Int) % (s.n : Int) := by
   have := congrArg (fun x : Nat => (x : Int)) hnext
   simpa using this
  have hat2 := attrAt_at hm
  have hwp := wrap_pred hpos hm
  generalize (n + s.n - j) % s.n = m at *
  have hsw := fun τ => swrap_calls s ((m : Int) - 1) τ
  rw [hwp] at hsw
  have hatc := fun τ (hτ : Prg τ q r s) => at_calls hτ (m : Int)
  simp only [cellA_eq, hat2] at hatc
  have hi : IntKind.i64.wrap ((m : Int) - 1) = (m : Int) - 1 := wrap_i64 (by omega) (by omega)
  simp
  refine callK.of (hatc _ (h.new hb _)) ?_
  rintro v σ3 ⟨rfl, rfl⟩
  by_cases h0 : attrAt s.cells m = true
  ·rw [hbk2 h0]
   simp [h0]
   (intro q; simp only [Store.upd, Store.del]; (repeat' split) <;> first | exact Or.inr rfl | exact Or.inl rfl | (exfalso; omega) | (left; subst_vars; assumption) | simp_all)
  ·have h0' : attrAt s.cells m = false := by simpa using h0
   simp [h0', hi]
   refine callK.of (hsw _) ?_
   rintro v σ3 ⟨rfl, rfl⟩
   simp
   exact ⟨j + 1, ⟨hstop2 h0', hfree2 h0'⟩, by omega, by rw [hnI]; exact AV.le_refl _⟩
theorem startS_at {s : Sp} (h : s.good) {n : Nat} (hn : n < s.n) (hc : ¬ s.count = 0) : 0 ≤ startS s.cells n ∧ (startS s.cells n).toNat < s.n := by
 have key : ∀ (l : List Cell) (i : Int) (m : Nat), lastA l i m = i ∨ ∃ a, a < m ∧ lastA l i m = (a : Nat) ∧ attrAt l a = true := by
  intro l i m
  induction m with
  | zero => exact .inl rfl
  | succ m ih =>
   have e : lastA l i (m + 1) = if attrAt l m = true then (m : Int) else lastA l i m := rfl
   rw [e]
   split
   ·rename_i ha; exact .inr ⟨m, by omega, rfl, ha⟩
   ·rcases ih with ih | ⟨a, h1, h2, h3⟩
    ·exact .inl ih
    ·exact .inr ⟨a, by omega, h2, h3⟩
 obtain ⟨b, hb, hbt⟩ := count_some (by omega : 0 < s.count)
 have hl := h.len
 have h2 : ∃ a, a < s.cells.length ∧ lastA s.cells (-1) s.cells.length = (a : Nat) := by
  rcases key s.cells (-1) s.cells.length with h1 | ⟨a, h1, h2, _⟩
  ·exfalso
   have : ∀ m, m ≤ s.cells.length → b < m → lastA s.cells (-1) m ≠ -1 := by
    intro m hm hbm
    induction m with
    | zero => omega
    | succ m ih =>
     have e : lastA s.cells (-1) (m + 1) = if attrAt s.cells m = true then (m : Int) else lastA s.cells (-1) m := rfl
     rw [e]
     split
     ·omega
     ·rename_i hm'
      exact ih (by omega) (by
       rcases Nat.lt_or_ge b m with h | h
       ·exact h
       ·exfalso; obtain rfl : b = m := by omega
        exact hm' hbt)
   exact this _ (Nat.le_refl _) hb h1
  ·exact ⟨a, h1, h2⟩
 obtain ⟨a, ha, he⟩ := h2
 unfold startS
 rw [he]
 rcases key s.cells (a : Int) (n + 1) with h1 | ⟨c, h1, h2, _⟩
 ·rw [h1]; omega
 ·rw [h2]; omega
theorem fof_calls {q r : Nat} {s : Sp} {σ : Store} (h : Prg σ q r s) {n : Nat} (hn : n < s.n) : ACalls Tryz.prog 79 [ptrA q, .lit (.int .i64 n)] σ fun v σ' => v = .tuple [if 0 ≤ startS s.cells n then fldA (fldAt s (startS s.cells n).toNat) else .agg [.lit (.bool false), .lit (.bool false), .lit (.int .i64 0), .lit (.bool false)], .lit (.bool (decide (0 ≤ startS s.cells n)))] ∧ σ' = σ := by
 have hst := fun τ (hτ : Prg τ q r s) => start_calls hτ hn
 have hfa : ∀ f : Fld, fldA f = .agg [.lit (.bool f.prot), .lit (.bool f.num), .lit (.int .i64 f.disp), .lit (.bool f.mod)] := fun _ => rfl
 refine aw st79 pl79 18 Tryz.func79 rfl ?_
 by_cases hc : s.count = 0
 ·rw [startS_none hc n] at hst ⊢
  simp
  intro b hb
  refine callK.of (hst _ (h.new hb _)) ?_
  rintro v σ' ⟨rfl, rfl⟩
  simp
  exact sub_upd_self _ _ _ hb
 ·obtain ⟨h1, h2⟩ := startS_at h.good hn hc
  obtain ⟨a, ha⟩ : ∃ a : Nat, startS s.cells n = a := ⟨_, (Int.toNat_of_nonneg h1).symm⟩
  rw [ha] at hst h2 ⊢
  simp only [Int.toNat_natCast] at h2 ⊢
  rw [if_pos (by omega)]
  have hat := fun τ (hτ : Prg τ q r s) => at_calls hτ (a : Int)
  have hae := at_of h.good h2
  have hfe : fldAt s a = fld (s.at (a : Int)).fa := by unfold fldAt; rw [hae]
  have hof := fun τ => of_calls (s.at (a : Int)).fa τ
  rw [hfe]
  simp only [cellA_eq] at hat
  rw [hfa] at hof ⊢
  have ha1 : ¬ (a : Int) = -1 := by omega
  have ha0 : (0 : Int) ≤ a := by omega
  simp
  intro b hb
  refine callK.of (hst _ (h.new hb _)) ?_
  rintro v σ' ⟨rfl, rfl⟩
  simp [ha1]
  refine callK.of (hat _ (h.new hb _)) ?_
  rintro v σ' ⟨rfl, rfl⟩
  simp
  refine callK.of (hof _) ?_
  rintro v σ' ⟨rfl, rfl⟩
  simp
  (intro q; simp only [Store.upd, Store.del]; (repeat' split) <;> first | exact Or.inr rfl | exact Or.inl rfl | (exfalso; omega) | (left; subst_vars; assumption) | simp_all)
theorem open_calls {q r : Nat} {s : Sp} {σ : Store} (h : Prg σ q r s) {n : Nat} (hn : n < s.n) : ACalls Tryz.prog 129 [ptrA q, .lit (.int .i64 n)] σ fun v σ' => v = .lit (.bool (openS s n)) ∧ σ' = σ := by
 have hof := fun τ (hτ : Prg τ q r s) => fof_calls hτ hn
 have hat := fun τ (hτ : Prg τ q r s) => at_calls hτ (n : Int)
 simp only [cellA_eq, attrAt_at hn] at hat
 have hfa : ∀ f : Fld, fldA f = .agg [.lit (.bool f.prot), .lit (.bool f.num), .lit (.int .i64 f.disp), .lit (.bool f.mod)] := fun _ => rfl
 refine aw st129 pl129 30 Tryz.func129 rfl ?_
 unfold openS
 generalize fldAt s (startS s.cells n).toNat = f at *
 generalize startS s.cells n = a at *
 generalize attrAt s.cells n = at0 at *
 rw [hfa] at hof
 by_cases h0 : 0 ≤ a
 ·simp [h0] at hof
  simp
  refine callK.of (hof _ h) ?_
  rintro v σ' ⟨rfl, rfl⟩
  simp
  intro b hb
  refine callK.of (hat _ (h.new hb _)) ?_
  rintro v σ' ⟨rfl, rfl⟩
  cases at0 <;> simp [h0] <;> exact sub_upd_self _ _ _ hb
 ·simp [h0] at hof
  simp
  refine callK.of (hof _ h) ?_
  rintro v σ' ⟨rfl, rfl⟩
  simp
  intro b hb
  refine callK.of (hat _ (h.new hb _)) ?_
  rintro v σ' ⟨rfl, rfl⟩
  cases at0 <;> simp [h0] <;> exact sub_upd_self _ _ _ hb
theorem first_calls {q r : Nat} {s : Sp} {σ : Store} (h : Prg σ q r s) {n : Nat} (hn : n < s.n) : ACalls Tryz.prog 161 [ptrA q, .lit (.int .i64 n)] σ fun v σ' => v = .lit (.bool (firstS s n)) ∧ σ' = σ := by
 have hat := fun τ (hτ : Prg τ q r s) => at_calls hτ (n : Int)
 have hat1 := fun τ (hτ : Prg τ q r s) => at_calls hτ ((n : Int) - 1)
 have hof := fun τ => of_calls (s.at ((n : Int) - 1)).fa τ
 have hfa : ∀ f : Fld, fldA f = .agg [.lit (.bool f.prot), .lit (.bool f.num), .lit (.int .i64 f.disp), .lit (.bool f.mod)] := fun _ => rfl
 have hnl := s.n_le
 have hi : IntKind.i64.wrap ((n : Int) - 1) = (n : Int) - 1 := wrap_i64 (by omega) (by omega)
 unfold firstS
 simp only [cellA_eq] at hat hat1
 rw [hfa] at hof
 generalize fld (s.at ((n : Int) - 1)).fa = f at *
 generalize s.at ((n : Int) - 1) = c at *
 generalize s.at (n : Int) = d at *
 refine aw st161 pl161 26 Tryz.func161 rfl ?_
 cases hc : c.attr
 ·simp [hi]
  refine callK.of (hat1 _ h) ?_
  rintro v σ' ⟨rfl, rfl⟩
  simp [hc]
  exact fun b hb => sub_upd_self _ _ _ hb
 ·cases hd : d.attr
  ·simp [hi]
   refine callK.of (hat1 _ h) ?_
   rintro v σ' ⟨rfl, rfl⟩
   simp [hc]
   intro b hb
   refine callK.of (hat _ (h.new hb _)) ?_
   rintro v σ' ⟨rfl, rfl⟩
   simp [hd]
   refine callK.of (hof _) ?_
   rintro v σ' ⟨rfl, rfl⟩
   simp
   exact sub_upd_self _ _ _ hb
  ·simp [hi]
   refine callK.of (hat1 _ h) ?_
   rintro v σ' ⟨rfl, rfl⟩
   simp [hc]
   intro b hb
   refine callK.of (hat _ (h.new hb _)) ?_
   rintro v σ' ⟨rfl, rfl⟩
   simp [hd]
   exact sub_upd_self _ _ _ hb
theorem find_calls {q r : Nat} {s : Sp} {σ : Store} (h : Prg σ q r s) {n : Nat} (hn : n < s.n) : ACalls Tryz.prog 144 [ptrA q, .lit (.int .i64 n), .lit (.int .i64 1)] σ fun v σ' => v = .lit (.int .i64 (nextS s n)) ∧ σ' = σ := by
 have hsz := fun τ (hτ : Prg τ q r s) => size_calls hτ
 have hcl := fun τ => scells_calls s τ
 have hnl := s.n_le
 have hpos := s.n_pos
 refine aw st144 pl144 24 Tryz.func144 rfl ?_
 simp
 refine callK.of (hsz _ h) ?_
 rintro v σ' ⟨rfl, rfl⟩
 simp
 intro b hb
 refine callK.of (hcl _) ?_
 rintro v σ2 ⟨rfl, rfl⟩
 simp
 refine codeK.loop follows (st := st144) (plans := pl144) (X := Nat) (fun j => j ≤ s.n ∧ ∀ i, i < j → firstS s ((n + i + 1) % s.n) = false)
  (fun j => [(0, ptrA q), (1, .lit (.int .i64 ((n + j) % s.n : Nat))), (2, .lit (.int .i64 1)), (7, ptrA b), (11, .lit (.int .i64 s.n)), (12, .lit (.int .i64 j))]) (fun _ => σ'.upd b [.lit (.int .i64 s.rows), .lit (.int .i64 s.cols)]) (fun j => s.n - j) 0 (by kernel_rfl) (by simp) (by simp [Nat.mod_eq_of_lt hn]) (by first | exact Store.sub_refl _ | (intro q; simp only [Store.upd, Store.del]; (repeat' split) <;> first | exact Or.inr rfl | exact Or.inl rfl | (exfalso; omega) | (left; subst_vars; assumption) | simp_all)) fun j hj => ?_
 obtain ⟨hj, hk⟩ := hj
 by_cases hlt : j < s.n
 ·have hw : IntKind.i64.wrap ((j : Int) + 1) = ((j + 1 : Nat) : Int) := wrap_i64 (by omega) (by omega)
  have hm := Nat.mod_lt (n + j) hpos
  have e1 : ((n + j) % s.n + 1) % s.n = (n + j + 1) % s.n := Nat.mod_add_mod ..
  have e2 : (n + (j + 1)) % s.n = (n + j + 1) % s.n := rfl
  have hsw := fun τ => swrap_calls s (((n + j) % s.n + 1 : Nat) : Int) τ
  rw [wrap_mod hpos, e1] at hsw
  have hi : IntKind.i64.wrap ((((n + j) % s.n : Nat) : Int) + 1) = (((n + j) % s.n + 1 : Nat) : Int) := by rw [wrap_i64 (by omega) (by omega)]; omega
  have hm2 := Nat.mod_lt (n + j + 1) hpos
  have hfc := fun τ (hτ : Prg τ q r s) => first_calls hτ hm2
  have hfound : firstS s ((n + j + 1) % s.n) = true → nextS s n = ((n + j + 1) % s.n : Nat) := fun h1 => by
   have : (List.range s.n).find? (fun i => firstS s ((n + i + 1) % s.n)) = some j := by
    rw [List.find?_range_eq_some]
    exact ⟨h1, by simp [hlt], fun i hi => by simp [hk i hi]⟩
   unfold nextS; rw [this]
  have hnx : firstS s ((n + j + 1) % s.n) = false → ∀ i, i < j + 1 → firstS s ((n + i + 1) % s.n) = false := fun h1 i hi => by
   by_cases e : i = j
   ·subst e; exact h1
   ·exact hk i (by omega)
  have hcast : ((n : Int) + ((j : Int) + 1)) % (s.n : Int) = (((n + j + 1) % s.n : Nat) : Int) := by rw [Int.natCast_emod, show (n : Int) + ((j : Int) + 1) = ((n + j + 1 : Nat) : Int) from by omega]
  generalize (n + j + 1) % s.n = m2 at *
  generalize (n + j) % s.n = m at *
  simp [hlt, hi]
  refine callK.of (hsw _) ?_
  rintro v σ3 ⟨rfl, rfl⟩
  simp
  refine callK.of (hfc _ (h.new hb _)) ?_
  rintro v σ3 ⟨rfl, rfl⟩
  cases h1 : firstS s m2
  ·simp
   exact ⟨j + 1, ⟨by omega, hnx h1⟩, by omega, by simpa [hw] using le_of_eq (by rw [hcast])⟩
  ·rw [hfound h1]
   simp
   exact sub_upd_self _ _ _ hb
 ·obtain rfl : j = s.n := by omega
  have hnone : nextS s n = -1 := by
   have : (List.range s.n).find? (fun i => firstS s ((n + i + 1) % s.n)) = none := by
    rw [List.find?_eq_none]
    intro i hi
    simp at hi
    simp [hk i hi]
   unfold nextS; rw [this]
  rw [hnone]
  simp
  exact sub_upd_self _ _ _ hb
theorem fnext_calls {q r : Nat} {s : Sp} {σ : Store} (h : Prg σ q r s) {n : Nat} (hn : n < s.n) : ACalls Tryz.prog 124 [ptrA q, .lit (.int .i64 n)] σ fun v σ' => v = .lit (.int .i64 (nextS s n)) ∧ σ' = σ := by
 have hsz := fun τ (hτ : Prg τ q r s) => size_calls hτ
 have hw := fun τ => swrap_calls s (n : Int) τ
 rw [wrap_of_lt hn] at hw
 refine aw st124 pl124 11 Tryz.func124 rfl ?_
 simp
 refine callK.of (hsz _ h) ?_
 rintro v σ' ⟨rfl, rfl⟩
 simp
 refine callK.of (hw _) ?_
 rintro v σ' ⟨rfl, rfl⟩
 simp
 refine callK.of (find_calls h hn) ?_
 rintro v σ' ⟨rfl, rfl⟩
 simp
end Go.Proofs.YtlmdbcgceijlnaaGreat
