/-
 Slices of places: collected, looked into.
-/
import Derived.Test.YtlmdbcgceijlnaaGreatPPart13
set_option linter.unusedSimpArgs false
set_option linter.unusedVariables false
set_option maxRecDepth 8000
set_option maxHeartbeats 8000000

namespace Go.Proofs.YtlmdbcgceijlnaaGreat
open Go Go.AL Go.Sp
def natA (n : Nat) : AV := .lit (.int .i64 n)
def natsA (L : List Nat) : List AV := L.map natA
@[simp] theorem natsA_len (L : List Nat) : (natsA L).length = L.length := by simp [natsA]
theorem natsA_append (a b : List Nat) : natsA (a ++ b) = natsA a ++ natsA b := by simp [natsA]
@[simp] theorem natsA_get (L : List Nat) (i : Nat) (h : i < (natsA L).length) : (natsA L)[i] = .lit (.int .i64 (L[i]'(by simpa using h) : Nat)) := by simp [natsA, natA]
theorem appseqG {fi : Nat} {fr : List AV} {L : List Nat} {Need : Nat → Store → Prop} (hN2 : L.length ≤ 1000000) (σ : Store) (_hsh : fr.map AV.share = fr)
  (hi : ∀ τ, IterG Tryz.prog fi fr τ L.length Need fun k _ => [.lit (.int .i64 (L[k]?.getD 0 : Nat))]) (hneed : ∀ k τ, Store.sub σ τ → Need k τ) (hc : callable Tryz.prog fi = true) :
  ACalls Tryz.prog 152 [.list true 1 [], .func (.func fi) [] fr] σ fun v σ' => v = .list false 1 (natsA L) ∧ σ' = σ := by
 refine ACalls.of_awpY follows (st := st152) (plans := pl152) (n := 13) Tryz.func152 rfl (by kernel_rfl) (by kernel_rfl) (by kernel_rfl) ?_
 simp
 intro q hq
 refine codeYK.rangeG follows (st := st152) (plans := pl152) (hi (σ.upd q [.list true 1 []])) (by simp) hc (by simp) (by kernel_rfl) (by kernel_rfl) (by kernel_rfl)
  (fun k τ _ => τ = σ.upd q [.list true 1 (natsA (L.take k))]) (fun _ _ _ => False)
  (σ.upd q [.list true 1 []]) (by simp [natsA]) (Store.sub_refl _) ?_ ?_ ?_ ?_
 ·rintro k τ E hk rfl
  exact hneed k _ (Store.sub_upd hq (Store.sub_refl _))
 ·rintro k hk τ E rfl
  obtain ⟨c, hc⟩ : ∃ c, L[k] = c := ⟨_, rfl⟩
  have ht : L.take (k + 1) = L.take k ++ [c] := by rw [List.take_succ_eq_append_getElem hk, hc]
  have hlk : (L.take k).length ≤ 1000000 := by simp; omega
  have hx : L[k]?.getD 0 = c := by simp [hk, hc]
  rw [hx]
  simp
  refine ⟨by omega, by omega, ?_⟩
  rw [ht, natsA_append]
  exact Store.sub_refl _
 ·rintro τ E σ' hs rfl
  have e2 : σ' q = some [.list true 1 (natsA L)] := by
   rcases hs q with h | h
   ·simp at h
   ·rw [← h]; simp
  simp [e2]
  refine Store.sub_trans ?_ hs
  (intro q; simp only [Store.upd, Store.del]; (repeat' split) <;> simp_all)
 ·rintro c τ E σ' hs h
  exact h.elim
theorem collectG {fi : Nat} {fr : List AV} {L : List Nat} {Need : Nat → Store → Prop} (hN2 : L.length ≤ 1000000) (σ : Store) (hsh : fr.map AV.share = fr)
  (hi : ∀ τ, IterG Tryz.prog fi fr τ L.length Need fun k _ => [.lit (.int .i64 (L[k]?.getD 0 : Nat))]) (hneed : ∀ k τ, Store.sub σ τ → Need k τ) (hc : callable Tryz.prog fi = true) :
  ACalls Tryz.prog 132 [.func (.func fi) [] fr] σ fun v σ' => v = .list false 1 (natsA L) ∧ σ' = σ := by
 have ha := appseqG hN2 σ hsh hi hneed hc
 refine aw st132 pl132 5 Tryz.func132 rfl ?_
 simp
 refine callK.of ha ?_
 rintro v σ' ⟨rfl, rfl⟩
 simp
theorem idxOf_get {L : List Nat} {i : Nat} (h : i < L.length) (hn : ∀ j, (hj : j < i) → L[j]'(by omega) ≠ L[i]) : L.idxOf L[i] = i := by
 induction L generalizing i with
 | nil => simp at h
 | cons a l ih =>
  cases i with
  | zero => simp
  | succ i =>
   have h0 := hn 0 (by omega)
   simp only [List.getElem_cons_zero, List.getElem_cons_succ] at h0 ⊢
   have h1 := ih (by simpa using h) fun j hj => by simpa using hn (j + 1) (by omega)
   have h2 : (a == l[i]'(by simpa using h)) = false := by simpa using h0
   rw [List.idxOf_cons, h1, h2]
   rfl
theorem index_calls (o : Bool) (L : List Nat) (hN2 : L.length ≤ 1000000) (x : Nat) (hx : x ∈ L) (σ : Store) : ACalls Tryz.prog 155 [.list o 1 (natsA L), .lit (.int .i64 x)] σ fun v σ' => v = .lit (.int .i64 (L.idxOf x : Nat)) ∧ σ' = σ := by
 refine aw st155 pl155 19 Tryz.func155 rfl ?_
 simp
 refine codeK.loop follows (st := st155) (plans := pl155) (X := Nat) (fun i => i ≤ L.length ∧ ∀ j, (hj : j < L.length) → j < i → L[j] ≠ x)
  (fun i => [(0, .list false 1 (natsA L)), (1, .lit (.int .i64 x)), (6, .list false 1 (natsA L)), (7, .lit (.int .i64 L.length)), (8, .lit (.int .i64 i))]) (fun _ => σ) (fun i => L.length - i) 0 (by kernel_rfl) (by simp) (by simp) (Store.sub_refl _) fun i hi => ?_
 obtain ⟨hi, hj⟩ := hi
 by_cases hlt : i < L.length
 ·have hw : IntKind.i64.wrap ((i : Int) + 1) = ((i + 1 : Nat) : Int) := wrap_i64 (by omega) (by omega)
  simp [hlt]
  by_cases he : L[i] = x
  ·have hix := idxOf_get hlt fun j hj2 => by rw [he]; exact hj j (by omega) hj2
   rw [he] at hix
   simp [he, hix]
  ·have hne : ¬ (x : Int) = ((L[i] : Nat) : Int) := fun e => he (by omega)
   simp [hne, hw]
   refine ⟨i + 1, ⟨by omega, fun j hj2 hji => ?_⟩, by omega, by simp⟩
   by_cases e : j = i
   ·subst e; exact he
   ·exact hj j hj2 (by omega)
 ·obtain ⟨i2, hi2, he⟩ := List.getElem_of_mem hx
  exact absurd he (hj i2 hi2 (by omega))
theorem least (P : Nat → Bool) {j : Nat} (h : P j = true) : ∃ i, i ≤ j ∧ P i = true ∧ ∀ k, k < i → P k = false := by
 induction j using Nat.strongRecOn with
 | ind j ih =>
  by_cases hx : ∃ k, k < j ∧ P k = true
  ·obtain ⟨k, hk, hp⟩ := hx
   obtain ⟨i, h1, h2⟩ := ih k hk hp
   exact ⟨i, by omega, h2⟩
  ·refine ⟨j, Nat.le_refl _, h, fun k hk => ?_⟩
   cases e : P k
   ·rfl
   ·exact absurd ⟨k, hk, e⟩ hx
theorem back_at {N n a : Nat} (hn : n < N) (ha : a < N) : (n + N - (n + N - a) % N) % N = a := by
 rcases Nat.lt_or_ge n a with h2 | h2
 ·rw [Nat.mod_eq_of_lt (by omega : n + N - a < N), show n + N - (n + N - a) = a from by omega, Nat.mod_eq_of_lt ha]
 ·rw [show n + N - a = (n - a) + N from by omega, Nat.add_mod_right, Nat.mod_eq_of_lt (by omega : n - a < N), show n + N - (n - a) = a + N from by omega, Nat.add_mod_right, Nat.mod_eq_of_lt ha]
structure InField (s : Sp) (n a : Nat) : Prop where
 start : startS s.cells n = (a : Nat)
 lt : a < s.n
 attr : attrAt s.cells a = true
 mem : n ∈ Sp.places s.cells a
theorem in_field {s : Sp} (h : s.good) {n : Nat} (hn : n < s.n) (hc : ¬ s.count = 0) (hat : attrAt s.cells n = false) : ∃ a, InField s n a := by
 obtain ⟨b, hb, hbt⟩ := count_some (by omega : 0 < s.count)
 have hl := h.len
 rw [hl] at hb
 have hpos := s.n_pos
 have hm := Nat.mod_lt (n + s.n - b) hpos
 obtain ⟨j, hj, hP, hfree⟩ := least (fun j => attrAt s.cells ((n + s.n - j) % s.n)) (j := (n + s.n - b) % s.n) (by rw [back_at hn hb]; exact hbt)
 have hj2 : j < s.n := by omega
 have hbs := back_start h hn hj2 hfree hP
 have hj1 : 0 < j := by
  rcases Nat.eq_zero_or_pos j with rfl | h1
  ·simp [Nat.mod_eq_of_lt hn] at hP; rw [hat] at hP; cases hP
  ·exact h1
 refine ⟨(n + s.n - j) % s.n, hbs, Nat.mod_lt _ hpos, hP, ?_⟩
 have hi : ∀ i, i ≤ j → ((n + s.n - j) % s.n + i) % s.n = (n + s.n - (j - i)) % s.n := fun i hi => by
  rw [Nat.mod_add_mod, show n + s.n - j + i = n + s.n - (j - i) from by omega]
 have hlen : j ≤ Sp.len s.cells ((n + s.n - j) % s.n) := by
  rcases Nat.lt_or_ge (Sp.len s.cells ((n + s.n - j) % s.n)) j with h1 | h1
  ·have h2 := Sp.len_stop hP (by rw [hl]; exact Nat.mod_lt _ hpos)
   rw [hl, Nat.add_assoc, hi _ (by omega), hfree _ (by omega)] at h2
   cases h2
  ·exact h1
 unfold Sp.places
 rw [List.mem_map]
 refine ⟨j - 1, by simp; omega, ?_⟩
 rw [hl, show (n + s.n - j) % s.n + (j - 1) + 1 = (n + s.n - j) % s.n + j from by omega, hi j (Nat.le_refl _)]
 simp [Nat.mod_eq_of_lt hn]
theorem IterG.congr {P : Program} {f : Nat} {caps : List AV} {σ : Store} {N : Nat} {Need : Nat → Store → Prop} {arg : Nat → Store → List AV} (h : IterG P f caps σ N Need arg) (arg' : Nat → List AV) (he : ∀ k τ, k < N → arg k τ = arg' k) :
  IterG P f caps σ N Need fun k _ => arg' k :=
 ⟨fun k τ τ' hn hs => ⟨(h.mono k τ τ' hn hs).1, rfl⟩, fun X l I J h1 h2 τ E h3 hs => h.run X l I J h1 (fun k hk τ E hI => by rw [he k τ hk]; exact h2 k hk τ E hI) τ E h3 hs⟩
theorem spanL_len (N f t : Nat) : (spanL N f t).length = spanLen N f t := by simp [spanL]
theorem cspan_calls {q r : Nat} {s : Sp} {σ : Store} {b1 b2 b3 : Nat} {f t : Nat} (hf : f < s.n) (ht : t < s.n) (h : NeedB b1 b2 b3 s f t σ) : ACalls Tryz.prog 132 [.func (.func 162) [] [ptrA b1, ptrA b2, ptrA b3]] σ fun v σ' => v = .list false 1 (natsA (spanL s.n f t)) ∧ σ' = σ := by
 have hl := spanL_len s.n f t
 have hN := (spanLen_pos (N := s.n) (f := f) (t := t) s.n_pos).2
 have hnl := s.n_le
 refine collectG (L := spanL s.n f t) (Need := fun _ => NeedB b1 b2 b3 s f t) (by omega) σ rfl (fun τ => ?_) (fun k τ hs => h.mono hs) (by kernel_rfl)
 rw [hl]
 refine IterG.congr (span_iter b1 b2 b3 s hf ht τ) _ fun k τ hk => ?_
 simp [spanL, hk]
theorem cplaces_calls {q r : Nat} {s : Sp} {σ : Store} {b c a : Nat} (ha : a < s.n) (hat : attrAt s.cells a = true) (hb : σ b = some [ptrA q]) (hc : σ c = some [.lit (.int .i64 a)]) (h : Prg σ q r s) : ACalls Tryz.prog 132 [.func (.func 158) [] [ptrA b, ptrA c]] σ fun v σ' => v = .list false 1 (natsA (Sp.places s.cells a)) ∧ σ' = σ := by
 have hl := places_length' s.cells a
 have hN := Sp.len_lt (l := s.cells) (a := a) (by rw [h.good.len]; exact ha)
 have hnl := s.n_le
 have hcl := h.good.len
 refine collectG (L := Sp.places s.cells a) (Need := NeedP b c q r s a) (by omega) σ rfl (fun τ => ?_) (fun k τ hs => needP_mono (k := k) ⟨hb, hc, h⟩ hs) (by kernel_rfl)
 rw [hl]
 refine IterG.congr (places_iter b c q r s a ha hat τ) _ fun k τ hk => ?_
 have hk2 : k < (Sp.places s.cells a).length := by rw [hl]; exact hk
 rw [List.getElem?_eq_getElem hk2, places_get' _ _ _ hk2, hcl]
 rfl
def restL (s : Sp) (n : Nat) : List Nat := if s.count = 0 then spanL s.n n 0 else (Sp.places s.cells (startS s.cells n).toNat).drop ((Sp.places s.cells (startS s.cells n).toNat).idxOf n)
theorem erest_calls {q r : Nat} {s : Sp} {σ : Store} (h : Prg σ q r s) {n : Nat} (hn : n < s.n) (hat : attrAt s.cells n = false) : ACalls Tryz.prog 134 [ptrA q, .lit (.int .i64 n)] σ fun v σ' => v = .list false 1 (natsA (restL s n)) ∧ σ' = σ := by
 have hsz := fun τ (hτ : Prg τ q r s) => size_calls hτ
 have hw := fun τ => swrap_calls s (n : Int) τ
 rw [wrap_of_lt hn] at hw
 have hst := start_calls h hn
 have hpos := s.n_pos
 have hnl := s.n_le
 unfold restL
 refine aw st134 pl134 30 Tryz.func134 rfl ?_
 simp
 refine callK.of (hsz _ h) ?_
 rintro v σ' ⟨rfl, rfl⟩
 simp
 refine callK.of (hw _) ?_
 rintro v σ' ⟨rfl, rfl⟩
 simp
 refine callK.of hst ?_
 rintro v σ' ⟨rfl, rfl⟩
 by_cases hc : s.count = 0
 ·have hs := startS_none hc n
  rw [hs]
  simp [hc]
  refine callK.of (hsz _ h) ?_
  rintro v σ' ⟨rfl, rfl⟩
  simp
  refine callK.of (span_calls2 s n 0 _) ?_
  rintro v σ2 ⟨b1, b2, b3, rfl, h1, h2, h3, e1, e2, e3, rfl⟩
  simp
  refine callK.of (cspan_calls (q := q) (r := r) hn hpos ⟨?_, ?_, ?_⟩) ?_
  ·simp [e1, e2]
  ·simp [e3]
  ·simp
  rintro v σ2 ⟨rfl, rfl⟩
  simp
  (intro q; simp only [Store.upd, Store.del]; (repeat' split) <;> first | exact Or.inr rfl | exact Or.inl rfl | (exfalso; omega) | (left; subst_vars; assumption) | simp_all)
 ·obtain ⟨a, hf⟩ := in_field h.good hn hc hat
  have hs := hf.start
  have hm := hf.mem
  have ha := hf.lt
  have haa := hf.attr
  have hix := index_calls
  have hpl := Sp.len_lt (l := s.cells) (a := a) (by rw [h.good.len]; exact ha)
  have hl := places_length' s.cells a
  have hcl := h.good.len
  have hneg : ¬ (a : Int) < 0 := by omega
  rw [hs]
  simp [hc, hneg]
  refine callK.of (places_calls2 q (a : Int) _) ?_
  rintro v σ2 ⟨b, c, h1, h2, e1, rfl, rfl⟩
  simp
  have e2 := h.fresh h1
  have e3 := h.fresh h2
  refine callK.of (cplaces_calls (q := q) (r := r) (s := s) ha haa ?_ ?_ ?_) ?_
  ·simp [e1]
  ·simp
  ·exact (h.new h1 _).upd ⟨e3.1, e3.2.1⟩ _
  rintro v σ2 ⟨rfl, rfl⟩
  have hL : (Sp.places s.cells a).length ≤ 1000000 := by omega
  generalize Sp.places s.cells a = L at *
  have hio := List.idxOf_lt_length_of_mem hm
  have hi := index_calls false L hL n hm
  generalize L.idxOf n = i at *
  simp
  refine callK.of (hi _) ?_
  rintro v σ2 ⟨rfl, rfl⟩
  have hle : i ≤ L.length := by omega
  simp [hle]
  exact ⟨le_of_eq (by rw [List.take_of_length_le (by simp), natsA, natsA, List.map_drop]), by (intro q; simp only [Store.upd, Store.del]; (repeat' split) <;> first | exact Or.inr rfl | exact Or.inl rfl | (exfalso; omega) | (left; subst_vars; assumption) | simp_all)⟩
def roundL (s : Sp) (n : Nat) : List Nat := if s.count = 0 then spanL s.n n n else restL s n
theorem round_calls {q r : Nat} {s : Sp} {σ : Store} (h : Prg σ q r s) {n : Nat} (hn : n < s.n) (hat : attrAt s.cells n = false) : ACalls Tryz.prog 148 [ptrA q, .lit (.int .i64 n)] σ fun v σ' => v = .list false 1 (natsA (roundL s n)) ∧ σ' = σ := by
 have hsz := fun τ (hτ : Prg τ q r s) => size_calls hτ
 have hfo := formatted_calls h
 have hre := erest_calls h hn hat
 unfold roundL
 refine aw st148 pl148 16 Tryz.func148 rfl ?_
 simp
 refine callK.of hfo ?_
 rintro v σ' ⟨rfl, rfl⟩
 by_cases hc : s.count = 0
 ·simp [hc]
  refine callK.of (hsz _ h) ?_
  rintro v σ' ⟨rfl, rfl⟩
  simp
  refine callK.of (span_calls2 s n n _) ?_
  rintro v σ2 ⟨b1, b2, b3, rfl, h1, h2, h3, e1, e2, e3, rfl⟩
  simp
  refine callK.of (cspan_calls (q := q) (r := r) hn hn ⟨?_, ?_, ?_⟩) ?_
  ·simp [e1, e2]
  ·simp [e3]
  ·simp
  rintro v σ2 ⟨rfl, rfl⟩
  simp
  (intro q; simp only [Store.upd, Store.del]; (repeat' split) <;> first | exact Or.inr rfl | exact Or.inl rfl | (exfalso; omega) | (left; subst_vars; assumption) | simp_all)
 ·have hp : 0 < s.count := by omega
  simp [hc, hp]
  refine callK.of hre ?_
  rintro v σ' ⟨rfl, rfl⟩
  simp
theorem or1 (b : UInt8) : IntKind.u8.wrap ((b.toNat % 2 ^ IntKind.u8.bits ||| 1 % 2 ^ IntKind.u8.bits : Nat) : Int) = ((b ||| 1).toNat : Int) :=
 all_bytes (p := fun b => IntKind.u8.wrap ((b.toNat % 2 ^ IntKind.u8.bits ||| 1 % 2 ^ IntKind.u8.bits : Nat) : Int) = ((b ||| 1).toNat : Int)) (by decide +kernel) b
def mk1 (c : Cell) : Cell := { c with fa := c.fa ||| 1 }
def modS (s : Sp) (n : Nat) : Sp := if startS s.cells n = -1 then s else s.set (startS s.cells n) (mk1 (s.at (startS s.cells n)))
theorem modS_same {s : Sp} (h : s.good) (n : Nat) : SameN s (modS s n) := by
 unfold modS; split
 ·exact .refl h
 ·exact (SameN.refl h).set _ _
theorem modify_calls {q r : Nat} {s : Sp} {σ : Store} (h : Prg σ q r s) {n : Nat} (hn : n < s.n) : ACalls Tryz.prog 84 [ptrA q, .lit (.int .i64 n)] σ fun v σ' => v = .lit (.bool (!decide (startS s.cells n = -1))) ∧ σ' = putS spO σ q r (modS s n) := by
 have hst := start_calls h hn
 unfold modS
 generalize startS s.cells n = a at *
 by_cases ha : a = -1
 ·rw [if_pos ha, h.put_self]
  refine aw st84 pl84 23 Tryz.func84 rfl ?_
  simp
  refine callK.of hst ?_
  rintro v σ' ⟨rfl, rfl⟩
  simp [ha]
 ·rw [if_neg ha]
  have hat := at_calls h a
  have hset := fun τ (hτ : Prg τ q r s) => set_calls hτ a (mk1 (s.at a))
  generalize s.at a = c at *
  have hor := or1 c.fa
  simp only [cellA_eq] at hat hset
  have e1 : (mk1 c).char = c.char := rfl
  have e2 : (mk1 c).attr = c.attr := rfl
  have e3 : (mk1 c).fa = c.fa ||| 1 := rfl
  have e4 : (mk1 c).high = c.high := rfl
  have e5 : (mk1 c).color = c.color := rfl
  have e6 : (mk1 c).set = c.set := rfl
  rw [e1, e2, e3, e4, e5, e6] at hset
  generalize mk1 c = c2 at *
  refine aw st84 pl84 23 Tryz.func84 rfl ?_
  simp
  refine callK.of hst ?_
  rintro v σ' ⟨rfl, rfl⟩
  simp [ha]
  refine callK.of hat ?_
  rintro v σ' ⟨rfl, rfl⟩
  simp only [byteA] at hset
  simp [byteA, hor]
  intro b hb
  refine callK.of (hset _ (h.new hb _)) ?_
  rintro v σ2 ⟨rfl, rfl⟩
  have hf := h.fresh hb
  simp
  rw [putS_upd _ _ hf.2.2.1 hf.2.2.2]
  exact sub_upd_self _ _ _ (by rw [putS_at hf.2.2.1 hf.2.2.2]; exact hb)
theorem nullS_take (s : Sp) (L : List Nat) (k : Nat) (h : k < L.length) : nullS s (L.take (k + 1)) = (nullS s (L.take k)).put (L[k] : Nat) 0 := by
 unfold nullS
 rw [List.take_succ_eq_append_getElem h, List.foldl_append]; rfl
def endS (s : Sp) (n : Nat) : Sp := if openS s n = true then modS (nullS s (restL s n)) n else s
theorem open_attr {s : Sp} {n : Nat} (h : openS s n = true) : attrAt s.cells n = false := by
 unfold openS at h; simp at h; exact h.1
theorem end_calls {q r : Nat} {s : Sp} {σ : Store} (h : Prg σ q r s) {n : Nat} (hn : n < s.n) : ACalls Tryz.prog 94 [ptrA q, .lit (.int .i64 n)] σ fun v σ' => v = .lit (.bool (openS s n)) ∧ σ' = putS spO σ q r (endS s n) := by
 have hop := open_calls h hn
 unfold endS
 cases ho : openS s n
 ·rw [if_neg (by simp), h.put_self]
  rw [ho] at hop
  refine aw st94 pl94 26 Tryz.func94 rfl ?_
  simp
  refine callK.of hop ?_
  rintro v σ' ⟨rfl, rfl⟩
  simp
 ·rw [if_pos rfl]
  rw [ho] at hop
  have hre := erest_calls h hn (open_attr ho)
  have hlen : (restL s n).length ≤ 1000000 := by
   have hnl := s.n_le
   unfold restL
   split
   ·rw [spanL_len]; have := (spanLen_pos (N := s.n) (f := n) (t := 0) s.n_pos).2; omega
   ·rw [List.length_drop, places_length']
    have := run_le s.cells (startS s.cells n).toNat (s.cells.length - 1)
    unfold Sp.len
    rw [h.good.len] at *
    omega
  generalize restL s n = L at *
  have hsame := fun k => (SameN.refl h.good).nullS (L.take k)
  have hz : nullS s (L.take 0) = s := rfl
  have hall : nullS s (L.take L.length) = nullS s L := by rw [List.take_length]
  have hmo := fun τ (hτ : Prg τ q r (nullS s L)) => modify_calls hτ (n := n) (by rw [show (nullS s L).n = s.n from ((SameN.refl h.good).nullS L).n]; exact hn)
  have hsucc := nullS_take s L
  have hne := h.ne
  refine aw st94 pl94 26 Tryz.func94 rfl ?_
  simp
  refine callK.of hop ?_
  rintro v σ' ⟨rfl, rfl⟩
  simp
  refine callK.of hre ?_
  rintro v σ' ⟨rfl, rfl⟩
  simp
  refine codeK.loop follows (st := st94) (plans := pl94) (X := Nat) (fun k => k ≤ L.length)
   (fun k => [(0, ptrA q), (1, .lit (.int .i64 n)), (13, .list false 1 (natsA L)), (14, .lit (.int .i64 L.length)), (15, .lit (.int .i64 k))]) (fun k => putS spO σ' q r (nullS s (L.take k))) (fun k => L.length - k) 0 (by kernel_rfl) (by simp) (by simp) (by rw [hz, h.put_self]; exact Store.sub_refl _) fun k hk => ?_
  have hP : Prg (putS spO σ' q r (nullS s (L.take k))) q r (nullS s (L.take k)) := Scr.of_put hne (hsame k).1
  by_cases hlt : k < L.length
  ·have hw : IntKind.i64.wrap ((k : Int) + 1) = ((k + 1 : Nat) : Int) := wrap_i64 (by omega) (by omega)
   have hpu := fun i => pput_calls hP i 0
   simp only [putS_put hne] at hpu
   have hs1 := hsucc k hlt
   rw [byteA_lit] at hpu
   simp [hlt]
   refine callK.of (hpu _) ?_
   rintro v σ3 ⟨rfl, rfl⟩
   simp [hw]
   exact ⟨k + 1, by omega, by omega, by simp, by rw [hs1]; exact Store.sub_refl _⟩
  ·obtain rfl : k = L.length := by omega
   rw [hall] at hP ⊢
   simp
   refine callK.of (hmo _ hP) ?_
   rintro v σ3 ⟨rfl, rfl⟩
   rw [putS_put hne]
   simp
end Go.Proofs.YtlmdbcgceijlnaaGreat
namespace Go.Proofs.YtlmdbcgceijlnaaGreat
open Go Go.AL
def rowsL : List (List Nat) := [[0, 1, 2, 3, 156, 9, 134, 127, 151, 141, 142, 11, 12, 13, 14, 15],
 [16, 17, 18, 19, 157, 133, 8, 135, 24, 25, 146, 143, 28, 29, 30, 31],
 [128, 129, 130, 131, 132, 10, 23, 27, 136, 137, 138, 139, 140, 5, 6, 7],
 [144, 145, 22, 147, 148, 149, 150, 4, 152, 153, 154, 155, 20, 21, 158, 26],
 [32, 160, 226, 228, 224, 225, 227, 229, 231, 241, 162, 46, 60, 40, 43, 124],
 [38, 233, 234, 235, 232, 237, 238, 239, 236, 223, 33, 36, 42, 41, 59, 172],
 [45, 47, 194, 196, 192, 193, 195, 197, 199, 209, 166, 44, 37, 95, 62, 63],
 [248, 201, 202, 203, 200, 205, 206, 207, 204, 96, 58, 35, 64, 39, 61, 34],
 [216, 97, 98, 99, 100, 101, 102, 103, 104, 105, 171, 187, 240, 253, 254, 177],
 [176, 106, 107, 108, 109, 110, 111, 112, 113, 114, 170, 186, 230, 184, 198, 164],
 [181, 126, 115, 116, 117, 118, 119, 120, 121, 122, 161, 191, 208, 221, 222, 174],
 [94, 163, 165, 183, 169, 167, 182, 188, 189, 190, 91, 93, 175, 168, 180, 215],
 [123, 65, 66, 67, 68, 69, 70, 71, 72, 73, 173, 244, 246, 242, 243, 245],
 [125, 74, 75, 76, 77, 78, 79, 80, 81, 82, 185, 251, 252, 249, 250, 255],
 [92, 247, 83, 84, 85, 86, 87, 88, 89, 90, 178, 212, 214, 210, 211, 213],
 [48, 49, 50, 51, 52, 53, 54, 55, 56, 57, 179, 219, 220, 217, 218, 159]]
def baseL : List Nat := rowsL.flatten
theorem baseL_length : baseL.length = 256 := by decide +kernel
def oth37 : List (Nat × Nat) := []
def oth273 : List (Nat × Nat) := [(67, 123), (74, 196), (79, 33), (89, 126), (90, 220), (95, 94), (99, 91), (106, 246), (124, 167), (161, 223), (176, 162), (181, 64), (186, 172), (187, 124), (192, 228), (204, 166), (208, 252), (220, 125), (224, 214), (236, 92), (252, 93)]
def oth297 : List (Nat × Nat) := [(68, 64), (72, 92), (74, 176), (79, 33), (81, 123), (84, 125), (90, 167), (95, 94), (106, 249), (121, 181), (123, 163), (124, 224), (144, 91), (160, 96), (161, 168), (176, 162), (177, 35), (181, 93), (186, 172), (187, 124), (189, 126), (192, 233), (208, 232), (221, 166), (224, 231)]
def oth500 : List (Nat × Nat) := [(74, 91), (79, 33), (90, 93), (95, 94), (176, 162), (186, 172), (187, 124)]
def oth1047 : List (Nat × Nat) := [(95, 94), (173, 91), (176, 172), (186, 221), (187, 168), (189, 93)]
def oth1140 : List (Nat × Nat) := [(159, 8364)]
def othersF (n : Int) : List (Nat × Nat) := if n = 37 then oth37 else if n = 273 then oth273 else if n = 297 then oth297 else if n = 500 then oth500 else if n = 1047 then oth1047 else if n = 1140 then oth1140 else []
def isPage (n : Int) : Prop := n = 37 ∨ n = 273 ∨ n = 297 ∨ n = 500 ∨ n = 1047 ∨ n = 1140
instance (n : Int) : Decidable (isPage n) := by unfold isPage; infer_instance
def signsF (n : Int) : List Nat := (othersF n).foldl (fun l o => l.set o.1 o.2) baseL
theorem signs_set (l : List (Nat × Nat)) : ∀ b : List Nat, (l.foldl (fun l o => l.set o.1 o.2) b).length = b.length := by
 induction l with
 | nil => intro b; rfl
 | cons o l ih => intro b; rw [List.foldl_cons, ih, List.length_set]
theorem signsF_length (n : Int) : (signsF n).length = 256 := by rw [signsF, signs_set, baseL_length]
theorem nodup37 : (signsF 37).Nodup := by decide +kernel
theorem nodup273 : (signsF 273).Nodup := by decide +kernel
theorem nodup297 : (signsF 297).Nodup := by decide +kernel
theorem nodup500 : (signsF 500).Nodup := by decide +kernel
theorem nodup1047 : (signsF 1047).Nodup := by decide +kernel
theorem nodup1140 : (signsF 1140).Nodup := by decide +kernel
theorem signsF_nodup {n : Int} (h : isPage n) : (signsF n).Nodup := by
 rcases h with rfl | rfl | rfl | rfl | rfl | rfl
 ·exact nodup37
 ·exact nodup273
 ·exact nodup297
 ·exact nodup500
 ·exact nodup1047
 ·exact nodup1140
theorem small37 : ∀ o ∈ oth37, o.1 < 256 ∧ o.2 < 65536 := by decide +kernel
theorem small273 : ∀ o ∈ oth273, o.1 < 256 ∧ o.2 < 65536 := by decide +kernel
theorem small297 : ∀ o ∈ oth297, o.1 < 256 ∧ o.2 < 65536 := by decide +kernel
theorem small500 : ∀ o ∈ oth500, o.1 < 256 ∧ o.2 < 65536 := by decide +kernel
theorem small1047 : ∀ o ∈ oth1047, o.1 < 256 ∧ o.2 < 65536 := by decide +kernel
theorem small1140 : ∀ o ∈ oth1140, o.1 < 256 ∧ o.2 < 65536 := by decide +kernel
theorem others_small (n : Int) : ∀ o ∈ othersF n, o.1 < 256 ∧ o.2 < 65536 := by
 unfold othersF
 repeat' split
 ·exact small37
 ·exact small273
 ·exact small297
 ·exact small500
 ·exact small1047
 ·exact small1140
 ·intro o ho; cases ho
theorem base_small : ∀ z ∈ baseL, z < 65536 := by decide +kernel
def sgA (l : List Nat) : List AV := l.map fun z : Nat => .lit (.int .i32 (z : Int))
@[simp] theorem sgA_length (l : List Nat) : (sgA l).length = l.length := by simp [sgA]
theorem sgA_get (l : List Nat) {i : Nat} (h : i < l.length) : (sgA l)[i]? = some (.lit (.int .i32 l[i])) := by simp [sgA, h]
theorem sgA_set (l : List Nat) (i z : Nat) : (sgA l).set i (.lit (.int .i32 z)) = sgA (l.set i z) := by simp [sgA, List.map_set]
structure Pgs where
 num : Int
 done : Int
 mu : Int
 sg : List Nat
 cd : AV
def pgA (p : Pgs) : List AV := [.lit (.int .i64 p.num), .lit (.int .u32 p.done), .lit (.int .i32 p.mu), .lit (.int .u32 0)] ++ (sgA p.sg ++ [p.cd])
theorem pgA_length {p : Pgs} (h : p.sg.length = 256) : (pgA p).length = 261 := by simp [pgA, h]
theorem pgA_num (p : Pgs) : (pgA p)[0]? = some (.lit (.int .i64 p.num)) := rfl
theorem pgA_sg {p : Pgs} {i : Nat} (h : i < p.sg.length) : (pgA p)[4 + i]? = some (.lit (.int .i32 p.sg[i])) := by
 unfold pgA
 rw [List.getElem?_append_right (by simp), List.getElem?_append_left (by simp; omega)]
 simp [sgA, h]
theorem pgA_cd {p : Pgs} (h : p.sg.length = 256) : (pgA p)[260]? = some p.cd := by
 unfold pgA
 rw [List.getElem?_append_right (by simp), List.getElem?_append_right (by simp [h])]
 simp [h]
theorem pgA_sgs {p : Pgs} (h : p.sg.length = 256) : ((pgA p).drop 4).take 256 = sgA p.sg := by
 unfold pgA
 rw [List.drop_left' (by simp), List.take_left' (by simp [h])]
theorem pgA_setSg {p : Pgs} {i : Nat} (z : Nat) (h : i < p.sg.length) : (pgA p).set (4 + i) (.lit (.int .i32 z)) = pgA { p with sg := p.sg.set i z } := by
 unfold pgA
 rw [List.set_append_right _ _ (by simp), List.set_append_left _ _ (by simp; omega)]
 simp [sgA_set]
theorem pgA_setCd {p : Pgs} (h : p.sg.length = 256) (c : AV) : (pgA p).set 260 c = pgA { p with cd := c } := by
 unfold pgA
 rw [List.set_append_right _ _ (by simp), List.set_append_right _ _ (by simp [h])]
 simp [h]
def Pgs.new (n : Int) : Pgs := ⟨n, 0, 0, List.replicate 256 0, .lit (.map none)⟩
@[simp] theorem azero111 : azero Tryz.prog 111 = some (pgA (.new 0)) := nr (by kernel_rfl)
theorem pgA_new_length (n : Int) : (pgA (.new n)).length = 261 := pgA_length List.length_replicate
theorem pgA_new_set (n : Int) : (pgA (.new 0)).set 0 (.lit (.int .i64 n)) = pgA (.new n) := rfl
def rowU (l : List Nat) : List AV := l.map fun z : Nat => .lit (.int .u16 (z : Int))
set_option maxRecDepth 20000 in
theorem row_calls (d : Nat) (hd : d < 16) (σ : Store) : ACalls Tryz.prog 168 [.lit (.int .i64 d)] σ fun v σ' => v = .agg (rowU (rowsL.getD d [])) ∧ σ' = σ := by
 have key : ∀ d : Nat, d < 16 → d = 0 ∨ d = 1 ∨ d = 2 ∨ d = 3 ∨ d = 4 ∨ d = 5 ∨ d = 6 ∨ d = 7 ∨ d = 8 ∨ d = 9 ∨ d = 10 ∨ d = 11 ∨ d = 12 ∨ d = 13 ∨ d = 14 ∨ d = 15 := by omega
 rcases key d hd with rfl | rfl | rfl | rfl | rfl | rfl | rfl | rfl | rfl | rfl | rfl | rfl | rfl | rfl | rfl | rfl
 all_goals
  refine aw st168 pl168 53 Tryz.func168 rfl ?_
  simp
  intro p hp
  exact ⟨by simp [rowU, rowsL], sub_upd_self _ _ _ hp⟩
def othA (l : List (Nat × Nat)) : List AV := l.map fun o => .agg [.lit (.int .u8 (o.1 : Int)), .lit (.int .u16 (o.2 : Int))]
@[simp] theorem othA_length (l : List (Nat × Nat)) : (othA l).length = l.length := by simp [othA]
set_option maxRecDepth 20000 in
theorem others_calls (n : Int) (σ : Store) : ACalls Tryz.prog 46 [.lit (.int .i64 n)] σ fun v σ' => v = .tuple [.list true 2 (othA (othersF n)), .lit (.bool (decide (isPage n)))] ∧ σ' = σ := by
 refine aw st46 pl46 82 Tryz.func46 rfl ?_
 by_cases h1 : n = 37
 ·subst h1; simp [othersF, isPage, othA, oth37]
 by_cases h2 : n = 273
 ·subst h2; simp [othersF, isPage, othA, oth273]
 by_cases h3 : n = 297
 ·subst h3; simp [othersF, isPage, othA, oth297]
 by_cases h4 : n = 500
 ·subst h4; simp [othersF, isPage, othA, oth500]
 by_cases h5 : n = 1047
 ·subst h5; simp [othersF, isPage, othA, oth1047]
 by_cases h6 : n = 1140
 ·subst h6; simp [othersF, isPage, othA, oth1140]
 ·simp [othersF, isPage, othA, h1, h2, h3, h4, h5, h6]
end Go.Proofs.YtlmdbcgceijlnaaGreat
