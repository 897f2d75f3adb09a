/-
 Rows, columns, moves.
-/
import Derived.Test.YtlmdbcgceijlnaaGreatPPart15
set_option linter.unusedSimpArgs false
set_option linter.unusedVariables false
set_option maxRecDepth 8000
set_option maxHeartbeats 8000000

namespace Go.Proofs.YtlmdbcgceijlnaaGreat
open Go Go.AL Go.Sp
theorem small_i64 {n : Nat} (h : n ≤ 1000000000) : IntKind.i64.wrap (n : Int) = n := wrap_i64 (by omega) (by omega)
def addrAt (r c : Nat) (row col : Int) : Nat := wrap r row * c + wrap c col
theorem addrAt_lt {r c : Nat} (h : Dim r c) (row col : Int) : addrAt r c row col < r * c := by
 have h1 := wrap_lt h.r1 row
 have h2 := wrap_lt h.c1 col
 unfold addrAt
 have : (wrap r row + 1) * c ≤ r * c := Nat.mul_le_mul_right _ h1
 rw [Nat.succ_mul] at this
 omega
theorem addrAt_calls {r c : Nat} (h : Dim r c) (row col : Int) (σ : Store) : ACalls Tryz.prog 145 [dimA r c, .lit (.int .i64 row), .lit (.int .i64 col)] σ fun v σ' => v = .lit (.int .i64 (addrAt r c row col)) ∧ σ' = σ := by
 have hv := valid_calls h
 have hr := rest_calls row r h.r1 (by have := h.r2; omega)
 have hc := rest_calls col c h.c1 (by have := h.c2; omega)
 have hlt := addrAt_lt h row col
 have hm := h.m
 have h1 := wrap_lt h.r1 row
 have h2 := wrap_lt h.c1 col
 have hr2 := h.r2
 have hc2 := h.c2
 unfold dimA at hv
 unfold addrAt at *
 generalize wrap r row = a at *
 generalize wrap c col = b at *
 have hac : a * c ≤ r * c := Nat.mul_le_mul_right _ (Nat.le_of_lt h1)
 have hw1 : IntKind.i64.wrap ((a : Int) * (c : Int)) = ((a * c : Nat) : Int) := by rw [← Int.natCast_mul]; exact small_i64 (by omega)
 have hw2 : IntKind.i64.wrap (((a * c : Nat) : Int) + (b : Int)) = ((a * c + b : Nat) : Int) := by rw [← Int.natCast_add]; exact small_i64 (by omega)
 generalize a * c + b = z at *
 generalize a * c = y at *
 refine aw st145 pl145 22 Tryz.func145 rfl ?_
 simp [dimA]
 intro p hp
 refine callK.of (hv _) ?_
 rintro v σ' ⟨rfl, rfl⟩
 simp
 repeat' first
  | with_reducible apply And.intro
  | (refine callK.of (hr _) ?_; rintro v σ1 ⟨rfl, rfl⟩; simp [hw1])
  | (refine callK.of (hc _) ?_; rintro v σ1 ⟨rfl, rfl⟩; simp [hw1, hw2, hp])
theorem row_of_calls {r c : Nat} (h : Dim r c) (n : Int) (σ : Store) : ACalls Tryz.prog 146 [dimA r c, .lit (.int .i64 n)] σ fun v σ' => v = .lit (.int .i64 ((wrap (r * c) n / c : Nat) : Int)) ∧ σ' = σ := by
 have hv := valid_calls h
 have hw := wrap_calls h n
 have hc1 := h.c1
 have hlt := wrap_lt h.p n
 have hm := h.m
 unfold dimA at hv hw
 generalize wrap (r * c) n = a at *
 have hc0 : ¬ c = 0 := by omega
 have hq : (a : Int).tdiv (c : Int) = ((a / c : Nat) : Int) := rfl
 have hle := Nat.div_le_self a c
 have hw1 : IntKind.i64.wrap ((a : Int).tdiv (c : Int)) = ((a / c : Nat) : Int) := by rw [hq]; exact small_i64 (by omega)
 have hw2 : IntKind.i64.wrap ((a : Int) / (c : Int)) = (a : Int) / (c : Int) := by rw [← Int.natCast_ediv]; exact small_i64 (by omega)
 refine aw st146 pl146 14 Tryz.func146 rfl ?_
 simp [dimA]
 intro p hp
 refine callK.of (hv _) ?_
 rintro v σ' ⟨rfl, rfl⟩
 simp
 repeat' first
  | with_reducible apply And.intro
  | (refine callK.of (hw _) ?_; rintro v σ1 ⟨rfl, rfl⟩; simp [hw2, hp, hc0])
theorem col_of_calls {r c : Nat} (h : Dim r c) (n : Int) (σ : Store) : ACalls Tryz.prog 147 [dimA r c, .lit (.int .i64 n)] σ fun v σ' => v = .lit (.int .i64 ((wrap (r * c) n % c : Nat) : Int)) ∧ σ' = σ := by
 have hv := valid_calls h
 have hw := wrap_calls h n
 have hc1 := h.c1
 have hlt := wrap_lt h.p n
 have hm := h.m
 unfold dimA at hv hw
 generalize wrap (r * c) n = a at *
 have hc0 : ¬ c = 0 := by omega
 have hq : (a : Int).tmod (c : Int) = ((a % c : Nat) : Int) := rfl
 generalize a % c = z at *
 refine aw st147 pl147 14 Tryz.func147 rfl ?_
 simp [dimA]
 intro p hp
 refine callK.of (hv _) ?_
 rintro v σ' ⟨rfl, rfl⟩
 simp
 repeat' first
  | with_reducible apply And.intro
  | (refine callK.of (hw _) ?_; rintro v σ1 ⟨rfl, rfl⟩; simp [hq, hp, hc0])
def lineN (r c : Nat) (n : Int) : Nat := addrAt r c ((wrap (r * c) n / c + 1 : Nat) : Int) 0
theorem line_calls {r c : Nat} (h : Dim r c) (n : Int) (σ : Store) : ACalls Tryz.prog 127 [dimA r c, .lit (.int .i64 n)] σ fun v σ' => v = .lit (.int .i64 (lineN r c n)) ∧ σ' = σ := by
 have ha := addrAt_calls h ((wrap (r * c) n / c + 1 : Nat) : Int) 0
 have hw := row_of_calls h n
 have hlt := wrap_lt h.p n
 have hm := h.m
 have hle := Nat.div_le_self (wrap (r * c) n) c
 have hw1 : IntKind.i64.wrap (((wrap (r * c) n / c : Nat) : Int) + 1) = ((wrap (r * c) n / c + 1 : Nat) : Int) := by
  generalize wrap (r * c) n / c = y at *
  exact wrap_i64 (by omega) (by omega)
 unfold lineN
 unfold dimA at ha hw
 generalize addrAt r c ((wrap (r * c) n / c + 1 : Nat) : Int) 0 = z at *
 generalize hu : wrap (r * c) n / c + 1 = u at *
 generalize wrap (r * c) n / c = y at *
 refine aw st127 pl127 11 Tryz.func127 rfl ?_
 simp [dimA]
 intro p hp
 repeat' first
  | with_reducible apply And.intro
  | (refine callK.of (hw _) ?_; rintro v σ1 ⟨rfl, rfl⟩; simp [hw1])
  | (refine callK.of (ha _) ?_; rintro v σ1 ⟨rfl, rfl⟩; simp [hp])
def moveN (r c : Nat) (n dr dc : Int) : Nat :=
 let m := wrap (r * c) (((wrap (r * c) n + wrap (r * c) dc : Nat) : Int))
 addrAt r c ((m / c + wrap r dr : Nat) : Int) ((m % c : Nat) : Int)
theorem move_calls {r c : Nat} (h : Dim r c) (n dr dc : Int) (σ : Store) : ACalls Tryz.prog 128 [dimA r c, .lit (.int .i64 n), .lit (.int .i64 dr), .lit (.int .i64 dc)] σ fun v σ' => v = .lit (.int .i64 (moveN r c n dr dc)) ∧ σ' = σ := by
 have hv := valid_calls h
 have hm := h.m
 have hr2 := h.r2
 have hw1 := wrap_calls h n
 have hw2 := wrap_calls h dc
 have hl1 := wrap_lt h.p n
 have hl2 := wrap_lt h.p dc
 unfold moveN
 generalize wrap (r * c) n = a at *
 generalize wrap (r * c) dc = b at *
 have hs1 : IntKind.i64.wrap ((a : Int) + (b : Int)) = ((a + b : Nat) : Int) := by rw [← Int.natCast_add]; exact small_i64 (by omega)
 have hw3 := wrap_calls h ((a + b : Nat) : Int)
 have hl3 := wrap_lt h.p ((a + b : Nat) : Int)
 generalize hm1 : wrap (r * c) ((a + b : Nat) : Int) = m at *
 have hro := row_of_calls h (m : Int)
 have hco := col_of_calls h (m : Int)
 rw [wrap_of_lt hl3] at hro hco
 have hre := rest_calls dr r h.r1 (by omega)
 have hl4 := wrap_lt h.r1 dr
 have hle := Nat.div_le_self m c
 simp only []
 generalize wrap r dr = d at *
 generalize m / c = u at *
 generalize m % c = w at *
 have hs2 : IntKind.i64.wrap ((u : Int) + (d : Int)) = ((u + d : Nat) : Int) := by rw [← Int.natCast_add]; exact small_i64 (by omega)
 have ha := addrAt_calls h ((u + d : Nat) : Int) (w : Int)
 generalize addrAt r c ((u + d : Nat) : Int) (w : Int) = z at *
 generalize hab : a + b = ab at *
 generalize hud : u + d = ud at *
 unfold dimA at *
 refine aw st128 pl128 35 Tryz.func128 rfl ?_
 simp
 intro p hp
 refine callK.of (hv _) ?_
 rintro v σ' ⟨rfl, rfl⟩
 simp
 repeat' first
  | with_reducible apply And.intro
  | (refine callK.of (hw1 _) ?_; rintro v σ1 ⟨rfl, rfl⟩; simp)
  | (refine callK.of (hw2 _) ?_; rintro v σ1 ⟨rfl, rfl⟩; simp [hs1])
  | (refine callK.of (hw3 _) ?_; rintro v σ1 ⟨rfl, rfl⟩; simp)
  | (refine callK.of (hro _) ?_; rintro v σ1 ⟨rfl, rfl⟩; simp)
  | (refine callK.of (hco _) ?_; rintro v σ1 ⟨rfl, rfl⟩; simp)
  | (refine callK.of (hre _) ?_; rintro v σ1 ⟨rfl, rfl⟩; simp [hs2])
  | (refine callK.of (ha _) ?_; rintro v σ1 ⟨rfl, rfl⟩; simp [hp])
theorem size_calls' {q p : Nat} {s : Sp} {σ : Store} (h : Prg σ q p s) : ACalls Tryz.prog 121 [ptrA q] σ fun v σ' => v = dimA s.rows s.cols ∧ σ' = σ := size_calls h
def prevS (s : Sp) (n : Nat) : Int := match (List.range s.n).find? (fun i => firstS s ((n + s.n - (i + 1)) % s.n)) with
 | some i => (((n + s.n - (i + 1)) % s.n : Nat) : Int)
 | none => -1
theorem back_step {N n j : Nat} (hj : j < N) : ((n + N - j) % N + N - 1) % N = (n + N - (j + 1)) % N := by
 have h1 : (n + N - j) % N + N - 1 = (n + N - j) % N + (N - 1) := by omega
 have h2 : n + N - j + (N - 1) = n + N - (j + 1) + N := by omega
 rw [h1, Nat.mod_add_mod, h2, Nat.add_mod_right]
theorem findb_calls {q r : Nat} {s : Sp} {σ : Store} (h : Prg σ q r s) {n : Nat} (hn : n < s.n) : ACalls Tryz.prog 144 [ptrA q, .lit (.int .i64 n), .lit (.int .i64 (-1))] σ fun v σ' => v = .lit (.int .i64 (prevS s n)) ∧ σ' = σ := by
 have hsz := fun τ (hτ : Prg τ q r s) => size_calls hτ
 have hcl := fun τ => scells_calls s τ
 have hnl := s.n_le
 have hpos := s.n_pos
 refine aw st144 pl144 24 Tryz.func144 rfl ?_
 simp
 refine callK.of (hsz _ h) ?_
 rintro v σ' ⟨rfl, rfl⟩
 simp
 intro b hb
 refine callK.of (hcl _) ?_
 rintro v σ2 ⟨rfl, rfl⟩
 simp
 refine codeK.loop follows (st := st144) (plans := pl144) (X := Nat) (fun j => j ≤ s.n ∧ ∀ i, i < j → firstS s ((n + s.n - (i + 1)) % s.n) = false)
  (fun j => [(0, ptrA q), (1, .lit (.int .i64 (((n + s.n - j) % s.n : Nat) : Int))), (2, .lit (.int .i64 (-1))), (7, ptrA b), (11, .lit (.int .i64 s.n)), (12, .lit (.int .i64 j))]) (fun _ => σ'.upd b [.lit (.int .i64 s.rows), .lit (.int .i64 s.cols)]) (fun j => s.n - j) 0 (by kernel_rfl) (by simp) (by simp [Nat.mod_eq_of_lt hn]) (by first | exact Store.sub_refl _ | (intro q; simp only [Store.upd, Store.del]; (repeat' split) <;> first | exact Or.inr rfl | exact Or.inl rfl | (exfalso; omega) | (left; subst_vars; assumption) | simp_all)) fun j hj => ?_
 obtain ⟨hj, hk⟩ := hj
 by_cases hlt : j < s.n
 ·have hw : IntKind.i64.wrap ((j : Int) + 1) = ((j + 1 : Nat) : Int) := wrap_i64 (by omega) (by omega)
  have hm := Nat.mod_lt (n + s.n - j) hpos
  have hsw := fun τ => swrap_calls s (((n + s.n - j) % s.n : Nat) - 1 : Int) τ
  rw [wrap_pred hpos hm, back_step hlt] at hsw
  have hi : IntKind.i64.wrap ((((n + s.n - j) % s.n : Nat) : Int) + -1) = (((n + s.n - j) % s.n : Nat) : Int) - 1 := by rw [wrap_i64 (by omega) (by omega)]; omega
  have hm2 := Nat.mod_lt (n + s.n - (j + 1)) hpos
  have hfc := fun τ (hτ : Prg τ q r s) => first_calls hτ hm2
  have hfound : firstS s ((n + s.n - (j + 1)) % s.n) = true → prevS s n = ((n + s.n - (j + 1)) % s.n : Nat) := fun h1 => by
   have : (List.range s.n).find? (fun i => firstS s ((n + s.n - (i + 1)) % s.n)) = some j := by
    rw [List.find?_range_eq_some]
    exact ⟨h1, by simp [hlt], fun i hi => by simp [hk i hi]⟩
   unfold prevS; rw [this]
  have hnx : firstS s ((n + s.n - (j + 1)) % s.n) = false → ∀ i, i < j + 1 → firstS s ((n + s.n - (i + 1)) % s.n) = false := fun h1 i hi => by
   by_cases e : i = j
   ·subst e; exact h1
   ·exact hk i (by omega)
  have hcast : ((n + s.n - (j + 1) : Nat) : Int) % (s.n : Int) = (((n + s.n - (j + 1)) % s.n : Nat) : Int) := by rw [Int.natCast_emod]
  generalize (n + s.n - (j + 1)) % s.n = m2 at *
  generalize (n + s.n - j) % s.n = m at *
  simp [hlt, hi]
  refine callK.of (hsw _) ?_
  rintro v σ3 ⟨rfl, rfl⟩
  simp
  refine callK.of (hfc _ (h.new hb _)) ?_
  rintro v σ3 ⟨rfl, rfl⟩
  cases h1 : firstS s m2
  ·simp
   exact ⟨j + 1, ⟨by omega, hnx h1⟩, by omega, by simpa [hw] using le_of_eq (by rw [hcast])⟩
  ·rw [hfound h1]
   simp
   exact sub_upd_self _ _ _ hb
 ·obtain rfl : j = s.n := by omega
  have hnone : prevS s n = -1 := by
   have : (List.range s.n).find? (fun i => firstS s ((n + s.n - (i + 1)) % s.n)) = none := by
    rw [List.find?_eq_none]
    intro i hi
    simp at hi
    simp [hk i hi]
   unfold prevS; rw [this]
  rw [hnone]
  simp
  exact sub_upd_self _ _ _ hb
theorem fprev_calls {q r : Nat} {s : Sp} {σ : Store} (h : Prg σ q r s) {n : Nat} (hn : n < s.n) : ACalls Tryz.prog 125 [ptrA q, .lit (.int .i64 n)] σ fun v σ' => v = .lit (.int .i64 (prevS s n)) ∧ σ' = σ := by
 have hsz := fun τ (hτ : Prg τ q r s) => size_calls hτ
 have hw := fun τ => swrap_calls s (n : Int) τ
 rw [wrap_of_lt hn] at hw
 refine aw st125 pl125 11 Tryz.func125 rfl ?_
 simp
 refine callK.of (hsz _ h) ?_
 rintro v σ' ⟨rfl, rfl⟩
 simp
 refine callK.of (hw _) ?_
 rintro v σ' ⟨rfl, rfl⟩
 simp
 refine callK.of (findb_calls h hn) ?_
 rintro v σ' ⟨rfl, rfl⟩
 simp
theorem maxi (z : Int) : (if z < 0 then (0 : Int) else z) = max z 0 := by split <;> omega
def tabS (s : Sp) : Sp := s.place (max (nextS s s.cursor) 0)
def btabS (s : Sp) : Sp := s.place (max (prevS s s.cursor) 0)
theorem tab_calls {q r : Nat} {s : Sp} {σ : Store} (h : Prg σ q r s) : ACalls Tryz.prog 85 [ptrA q] σ fun v σ' => v = .tuple [] ∧ σ' = putS spO σ q r (tabS s) := by
 have hc := h.good.cursor
 have hcu := cursor_calls h
 have hf := fnext_calls h hc
 have hp := fun k => place_calls h k
 unfold tabS
 generalize nextS s s.cursor = z at *
 have hmx := maxi z
 refine aw st85 pl85 9 Tryz.func85 rfl ?_
 simp
 refine callK.of hcu ?_
 rintro v σ' ⟨rfl, rfl⟩
 simp
 refine callK.of hf ?_
 rintro v σ' ⟨rfl, rfl⟩
 simp [hmx]
 refine callK.of (hp _) ?_
 rintro v σ' ⟨rfl, rfl⟩
 simp
theorem btab_calls {q r : Nat} {s : Sp} {σ : Store} (h : Prg σ q r s) : ACalls Tryz.prog 86 [ptrA q] σ fun v σ' => v = .tuple [] ∧ σ' = putS spO σ q r (btabS s) := by
 have hc := h.good.cursor
 have hcu := cursor_calls h
 have hf := fprev_calls h hc
 have hp := fun k => place_calls h k
 unfold btabS
 generalize prevS s s.cursor = z at *
 have hmx := maxi z
 refine aw st86 pl86 9 Tryz.func86 rfl ?_
 simp
 refine callK.of hcu ?_
 rintro v σ' ⟨rfl, rfl⟩
 simp
 refine callK.of hf ?_
 rintro v σ' ⟨rfl, rfl⟩
 simp [hmx]
 refine callK.of (hp _) ?_
 rintro v σ' ⟨rfl, rfl⟩
 simp
def firstN (s : Sp) (n : Nat) : Int := if openS s n = true then n else max (nextS s n) 0
theorem cfirst_calls {q r : Nat} {s : Sp} {σ : Store} (h : Prg σ q r s) {n : Nat} (hn : n < s.n) : ACalls Tryz.prog 126 [ptrA q, .lit (.int .i64 n)] σ fun v σ' => v = .lit (.int .i64 (firstN s n)) ∧ σ' = σ := by
 have ho := open_calls h hn
 have hsz := size_calls h
 have hw := fun τ => swrap_calls s (n : Int) τ
 rw [wrap_of_lt hn] at hw
 have hf := fnext_calls h hn
 unfold firstN
 generalize nextS s n = z at *
 have hmx := maxi z
 refine aw st126 pl126 16 Tryz.func126 rfl ?_
 simp
 refine callK.of ho ?_
 rintro v σ' ⟨rfl, rfl⟩
 cases h1 : openS s n
 ·simp
  refine callK.of hf ?_
  rintro v σ' ⟨rfl, rfl⟩
  simp [hmx]
 ·simp
  refine callK.of hsz ?_
  rintro v σ' ⟨rfl, rfl⟩
  simp
  refine callK.of (hw _) ?_
  rintro v σ' ⟨rfl, rfl⟩
  simp
def homeS (s : Sp) : Sp := s.place (firstN s 0)
theorem home_calls {q r : Nat} {s : Sp} {σ : Store} (h : Prg σ q r s) : ACalls Tryz.prog 88 [ptrA q] σ fun v σ' => v = .tuple [] ∧ σ' = putS spO σ q r (homeS s) := by
 have hf := cfirst_calls h s.n_pos
 have hp := fun k => place_calls h k
 unfold homeS
 generalize firstN s 0 = z at *
 refine aw st88 pl88 6 Tryz.func88 rfl ?_
 simp
 refine callK.of hf ?_
 rintro v σ' ⟨rfl, rfl⟩
 simp
 refine callK.of (hp _) ?_
 rintro v σ' ⟨rfl, rfl⟩
 simp
theorem lineN_lt {r c : Nat} (h : Dim r c) (n : Int) : lineN r c n < r * c := addrAt_lt h _ _
def newlineS (s : Sp) : Sp := s.place (firstN s (lineN s.rows s.cols s.cursor))
theorem newline_calls {q r : Nat} {s : Sp} {σ : Store} (h : Prg σ q r s) : ACalls Tryz.prog 87 [ptrA q] σ fun v σ' => v = .tuple [] ∧ σ' = putS spO σ q r (newlineS s) := by
 have hd : Dim s.rows s.cols := dim_of s.model s.alt
 have hl := line_calls hd (s.cursor : Int)
 have hf := cfirst_calls h (lineN_lt hd (s.cursor : Int))
 have hcu := cursor_calls h
 have hsz := size_calls' h
 have hp := fun k => place_calls h k
 unfold newlineS
 generalize firstN s (lineN s.rows s.cols s.cursor) = z at *
 generalize lineN s.rows s.cols s.cursor = y at *
 unfold dimA at *
 refine aw st87 pl87 11 Tryz.func87 rfl ?_
 simp
 refine callK.of hsz ?_
 rintro v σ' ⟨rfl, rfl⟩
 simp
 refine callK.of hcu ?_
 rintro v σ' ⟨rfl, rfl⟩
 simp
 refine callK.of (hl _) ?_
 rintro v σ' ⟨rfl, rfl⟩
 simp
 refine callK.of hf ?_
 rintro v σ' ⟨rfl, rfl⟩
 simp
 refine callK.of (hp _) ?_
 rintro v σ' ⟨rfl, rfl⟩
 simp
def moveS (s : Sp) (dr dc : Int) : Sp := s.place (moveN s.rows s.cols s.cursor dr dc)
theorem cmove_calls {q r : Nat} {s : Sp} {σ : Store} (h : Prg σ q r s) (dr dc : Int) : ACalls Tryz.prog 89 [ptrA q, .lit (.int .i64 dr), .lit (.int .i64 dc)] σ fun v σ' => v = .tuple [] ∧ σ' = putS spO σ q r (moveS s dr dc) := by
 have hd : Dim s.rows s.cols := dim_of s.model s.alt
 have hm := move_calls hd (s.cursor : Int) dr dc
 have hcu := cursor_calls h
 have hsz := size_calls' h
 have hp := fun k => place_calls h k
 unfold moveS
 generalize moveN s.rows s.cols s.cursor dr dc = y at *
 unfold dimA at *
 refine aw st89 pl89 15 Tryz.func89 rfl ?_
 simp
 refine callK.of hsz ?_
 rintro v σ' ⟨rfl, rfl⟩
 simp
 refine callK.of hcu ?_
 rintro v σ' ⟨rfl, rfl⟩
 simp
 refine callK.of (hm _) ?_
 rintro v σ' ⟨rfl, rfl⟩
 simp
 refine callK.of (hp _) ?_
 rintro v σ' ⟨rfl, rfl⟩
 simp
def toP (p : Nat → Bool) : Nat → Nat
 | 0 => 0
 | M + 1 => if toP p M < M then toP p M else if p M = true then M else M + 1
theorem toP_le (p : Nat → Bool) : ∀ M, toP p M ≤ M
 | 0 => Nat.le_refl _
 | M + 1 => by
  have := toP_le p M
  unfold toP
  split
  ·omega
  ·split <;> omega
theorem toP_free (p : Nat → Bool) : ∀ M i, i < toP p M → p i = false
 | 0, i, h => by simp [toP] at h
 | M + 1, i, h => by
  have hle := toP_le p M
  unfold toP at h
  split at h
  ·exact toP_free p M i h
  ·split at h
   ·exact toP_free p M i (by omega)
   ·rename_i h1 h2
    by_cases e : i = M
    ·subst e; simpa using h2
    ·exact toP_free p M i (by omega)
theorem toP_stop (p : Nat → Bool) : ∀ M, toP p M < M → p (toP p M) = true
 | 0, h => by omega
 | M + 1, h => by
  unfold toP at h ⊢
  split at h
  ·rename_i h1
   rw [if_pos h1]
   exact toP_stop p M h1
  ·rename_i h1
   rw [if_neg h1]
   split at h
   ·rename_i h2; rw [if_pos h2]; exact h2
   ·omega
def rowN (s : Sp) (n : Nat) : Nat := toP (fun i => attrAt s.cells (n + i)) (s.cols - n % s.cols)
def rowL (s : Sp) (n : Nat) : List Nat := (List.range (rowN s n)).map (n + ·)
theorem rowL_len (s : Sp) (n : Nat) : (rowL s n).length = rowN s n := by simp [rowL]
theorem row_end {s : Sp} {n : Nat} (hn : n < s.n) : n + (s.cols - n % s.cols) ≤ s.n := by
 have hd : Dim s.rows s.cols := dim_of s.model s.alt
 have hc := hd.c1
 have h1 := Nat.div_add_mod n s.cols
 have h2 : n / s.cols < s.rows := Nat.div_lt_of_lt_mul (by rw [Nat.mul_comm]; exact hn)
 have h3 : s.cols * (n / s.cols + 1) ≤ s.cols * s.rows := Nat.mul_le_mul_left _ h2
 have h4 := Nat.mod_lt n hc
 rw [Nat.mul_succ] at h3
 unfold Sp.n
 rw [Nat.mul_comm s.rows]
 omega
theorem rowN_le {s : Sp} {n : Nat} (hn : n < s.n) : n + rowN s n ≤ s.n := by
 have h1 := toP_le (fun i => attrAt s.cells (n + i)) (s.cols - n % s.cols)
 have h2 := row_end hn
 unfold rowN
 omega
theorem rows_calls2 (q : Nat) (a : Int) (σ : Store) : ACalls Tryz.prog 133 [ptrA q, .lit (.int .i64 a)] σ fun v σ' => ∃ (b c : Nat), σ b = none ∧ σ c = none ∧ b ≠ c ∧ v = .func (.func 153) [] [ptrA b, ptrA c] ∧ σ' = (σ.upd b [ptrA q]).upd c [.lit (.int .i64 a)] := by
 refine aw st133 pl133 6 Tryz.func133 rfl ?_
 simp +contextual [ite_free]
 exact fun b hb c h1 h2 hc => ⟨_, AV.le_refl _, _, Store.sub_refl _, b, hb, c, hc, h2, rfl, rfl⟩
theorem row_iter (b c q p : Nat) (s : Sp) (n : Nat) (hn : n < s.n) (σ : Store) : IterG Tryz.prog 153 [ptrA b, ptrA c] σ (rowN s n) (NeedP b c q p s n) fun k _ => [.lit (.int .i64 ((n + k : Nat) : Int))] := by
 refine ⟨fun k τ τ' h hs => ⟨needP_mono h hs, rfl⟩, fun X l I J hneed hy τ E h0 hs => ?_⟩
 have hN0 := hneed 0 τ E (Nat.zero_le _) h0
 obtain ⟨hb, hc, hP⟩ := needP_mono hN0 hs
 have hg := hP.good
 have hln := hg.len
 have hnl := s.n_le
 have hnp := s.n_pos
 have hd : Dim s.rows s.cols := dim_of s.model s.alt
 have tn : ∀ o : Nat, σ o = none → τ o = none := fun o ho => by
  rcases hs o with h | h
  ·exact h
  ·rw [h, ho]
 have hsz := size_calls hP
 have hw1 := swrap_calls s (n : Int)
 rw [wrap_of_lt hn] at hw1
 have hco := col_of_calls hd (n : Int)
 rw [wrap_of_lt (show n < s.rows * s.cols from hn)] at hco
 unfold dimA at hco
 have hml := Nat.mod_lt n hd.c1
 have hre := row_end hn
 have hNe := rowN_le hn
 have hle : rowN s n ≤ s.cols - n % s.cols := toP_le _ _
 have hfree : ∀ i, i < rowN s n → attrAt s.cells (n + i) = false := fun i hi => toP_free _ _ i hi
 have hstop : rowN s n < s.cols - n % s.cols → attrAt s.cells (n + rowN s n) = true := fun h => toP_stop (fun i => attrAt s.cells (n + i)) _ h
 have hi1 : IntKind.i64.wrap ((s.cols : Int) - ((n % s.cols : Nat) : Int)) = ((s.cols - n % s.cols : Nat) : Int) := by rw [← Int.natCast_sub (by omega)]; exact small_i64 (by have := hd.c2; omega)
 have hcl := hd.c2
 generalize n % s.cols = w at *
 generalize hM : s.cols - w = M at *
 generalize rowN s n = N at *
 refine ACallsY.of_awp follows (st := st153) (plans := pl153) (n := 36) Tryz.func153 rfl (by kernel_rfl) (by kernel_rfl) (by kernel_rfl) ?_
 simp [hb]
 refine callK.of hsz ?_
 rintro v σ' ⟨rfl, rfl⟩
 simp
 intro z hz
 have hcz : ¬ c = z := by rintro rfl; rw [hc] at hz; cases hz
 have hbz : ¬ b = z := by rintro rfl; rw [hb] at hz; cases hz
 simp [hc, hcz]
 refine callK.of (hw1 _) ?_
 rintro v σ' ⟨rfl, rfl⟩
 simp
 repeat' first
  | with_reducible apply And.intro
  | (refine callK.of (hco _) ?_; rintro v σ1 ⟨rfl, rfl⟩; simp [hi1])
 all_goals
  refine codeYK.loop follows (st := st153) (plans := pl153) (S := Nat × Store) (fun x => x.1 ≤ N ∧ x.2 z = none)
   (fun x => [(0, .func (.yield l) [] []), (1, ptrA b), (2, ptrA c), (4, ptrA z), (5, .lit (.int .i64 n)), (17, .lit (.int .i64 M)), (18, .lit (.int .i64 x.1))]) (fun x => x.2.upd z [.lit (.int .i64 s.rows), .lit (.int .i64 s.cols)]) (fun x E => I x.1 x.2 E) (fun x => N - x.1) (0, τ) (by kernel_rfl) ⟨Nat.zero_le _, tn _ hz⟩ (by simp) ?_ h0 ?_
  ·refine Store.sub2 (fun o => ?_) (fun i => by simpa using hs (mkey i))
   dsimp only
   simp only [supd_apply]
   by_cases h1 : o = z
   ·subst h1; right; simp
   ·simp only [if_neg h1]; exact hs o
  rintro ⟨k, τ1⟩ E1 ⟨hk, hz1⟩ hI
  dsimp only at hk hz1 hI ⊢
  have hNk := hneed k τ1 E1 hk hI
  have hsub : Store.sub τ1 (τ1.upd z [.lit (.int .i64 s.rows), .lit (.int .i64 s.cols)]) := Store.sub_upd hz1 (Store.sub_refl _)
  have hPk := prg_mono hNk.2.2 hsub
  have hbk := sub_at hNk.1 hsub
  have hatk := at_calls hPk ((n + k : Nat) : Int)
  have hbk' : τ1 b = some [ptrA q] := hNk.1
  have hik : IntKind.i64.wrap ((n : Int) + (k : Int)) = ((n + k : Nat) : Int) := by rw [← Int.natCast_add]; exact small_i64 (by omega)
  have hw : IntKind.i64.wrap ((k : Int) + 1) = ((k + 1 : Nat) : Int) := wrap_i64 (by omega) (by omega)
  by_cases hlt : k < N
  ·have hkM : k < M := by omega
   have hae := at_of hg (show n + k < s.n by omega)
   have hf := hfree k hlt
   have hcf : (s.at ((n + k : Nat) : Int)).attr = false := by rw [hae]; exact hf
   have hyk := hy k hlt τ1 E1 hI
   simp only [cellA_eq, hcf] at hatk
   generalize hnk : n + k = m at *
   simp [hbk', hbz, hkM, hik]
   refine callK.of hatk ?_
   rintro v σ' ⟨rfl, rfl⟩
   simp [hik]
   refine yieldK.of (args' := [.lit (.int .i64 (m : Nat))]) (by simp) hyk hsub ?_
   intro b3 τ' E' hR hap
   have hz2 : τ' z = none := hap z hz1 (by simp)
   have hov : Store.over τ' τ1 (τ1.upd z [.lit (.int .i64 s.rows), .lit (.int .i64 s.cols)]) z = some [.lit (.int .i64 s.rows), .lit (.int .i64 s.cols)] := by
    rw [Store.over_apart hap hz1 (by simp)]; simp
   cases b3
   ·simp
    exact ⟨⟨_, AV.le_refl _⟩, _, Store.sub_refl _, τ', Store.sub_over _ _ _, .inr (by simpa using hR)⟩
   ·simp [hw]
    refine ⟨k + 1, τ', ⟨by omega, hz2⟩, by omega, by simp, Store.sub2 (fun o => ?_) (fun i => by simpa using Store.sub_over _ _ _ (mkey i)), by simpa using hR⟩
    by_cases h1 : o = z
    ·subst h1; right; rw [hov]; simp
    ·simp only [supd_apply, if_neg h1]; exact Store.sub_over _ _ _ o
  ·obtain rfl : k = N := by omega
   by_cases hkM : k < M
   ·have hae := at_of hg (show n + k < s.n by omega)
    have hf := hstop hkM
    have hcf : (s.at ((n + k : Nat) : Int)).attr = true := by rw [hae]; exact hf
    simp only [cellA_eq, hcf] at hatk
    generalize hnk : n + k = m at *
    simp [hbk', hbz, hkM, hik]
    refine callK.of hatk ?_
    rintro v σ' ⟨rfl, rfl⟩
    simp
    exact ⟨⟨_, AV.le_refl _⟩, _, Store.sub_refl _, τ1, hsub, .inl hI⟩
   ·simp [hkM]
    exact ⟨⟨_, AV.le_refl _⟩, _, Store.sub_refl _, τ1, hsub, .inl hI⟩
theorem crow_calls {q r : Nat} {s : Sp} {σ : Store} {b c n : Nat} (hn : n < s.n) (hb : σ b = some [ptrA q]) (hc : σ c = some [.lit (.int .i64 n)]) (h : Prg σ q r s) : ACalls Tryz.prog 132 [.func (.func 153) [] [ptrA b, ptrA c]] σ fun v σ' => v = .list false 1 (natsA (rowL s n)) ∧ σ' = σ := by
 have hl := rowL_len s n
 have hN := rowN_le hn
 have hnl := s.n_le
 refine collectG (L := rowL s n) (Need := NeedP b c q r s n) (by omega) σ rfl (fun τ => ?_) (fun k τ hs => needP_mono (k := k) ⟨hb, hc, h⟩ hs) (by kernel_rfl)
 rw [hl]
 refine IterG.congr (row_iter b c q r s n hn τ) _ fun k τ hk => ?_
 simp [rowL, hk]
def delTo (s : Sp) (L : List Nat) : Nat → Sp
 | 0 => s
 | k + 1 => (delTo s L k).put (L[k]?.getD 0 : Nat) (if k + 1 < L.length then ((delTo s L k).at (L[k + 1]?.getD 0 : Nat)).char else 0)
theorem delTo_same {s : Sp} (h : s.good) (L : List Nat) : ∀ k, SameN s (delTo s L k)
 | 0 => .refl h
 | k + 1 => (delTo_same h L k).put _ _
def delS (s : Sp) (n : Nat) : Sp := if openS s n = true then modS (delTo s (rowL s n) (rowL s n).length) n else s
theorem delete_calls {q r : Nat} {s : Sp} {σ : Store} (h : Prg σ q r s) {n : Nat} (hn : n < s.n) : ACalls Tryz.prog 93 [ptrA q, .lit (.int .i64 n)] σ fun v σ' => v = .lit (.bool (openS s n)) ∧ σ' = putS spO σ q r (delS s n) := by
 have hop := open_calls h hn
 unfold delS
 cases ho : openS s n
 ·rw [if_neg (by simp), h.put_self]
  rw [ho] at hop
  refine aw st93 pl93 45 Tryz.func93 rfl ?_
  simp
  refine callK.of hop ?_
  rintro v σ' ⟨rfl, rfl⟩
  simp
 ·rw [if_pos rfl]
  rw [ho] at hop
  have hcr := fun τ (b c : Nat) (h1 : τ b = some [ptrA q]) (h2 : τ c = some [.lit (.int .i64 n)]) (h3 : Prg τ q r s) => crow_calls hn h1 h2 h3
  have hlen : (rowL s n).length ≤ 1000000 := by
   have hnl := s.n_le
   have := rowN_le hn
   rw [rowL_len]; omega
  generalize rowL s n = L at *
  have hsame := delTo_same h.good L
  have hz : delTo s L 0 = s := rfl
  have hsucc : ∀ k (hk : k < L.length), delTo s L (k + 1) = (delTo s L k).put (L[k] : Nat) (if k + 1 < L.length then ((delTo s L k).at (L[k + 1]?.getD 0 : Nat)).char else 0) := fun k hk => by
   have : L[k]?.getD 0 = L[k] := by rw [List.getElem?_eq_getElem hk]; rfl
   rw [← this]; rfl
  have hmo := fun τ (hτ : Prg τ q r (delTo s L L.length)) => modify_calls hτ (n := n) (by rw [(hsame L.length).n]; exact hn)
  have hne := h.ne
  refine aw st93 pl93 45 Tryz.func93 rfl ?_
  simp
  refine callK.of hop ?_
  rintro v σ' ⟨rfl, rfl⟩
  simp
  refine callK.of (rows_calls2 q (n : Int) _) ?_
  rintro v σ2 ⟨b, c, h1, h2, e1, rfl, rfl⟩
  simp
  have e2 := h.fresh h1
  have e3 := h.fresh h2
  refine callK.of (hcr _ b c ?_ ?_ ?_) ?_
  ·simp [e1]
  ·simp
  ·exact (h.new h1 _).upd ⟨e3.1, e3.2.1⟩ _
  rintro v σ2 ⟨rfl, rfl⟩
  simp
  refine codeK.loop follows (st := st93) (plans := pl93) (X := Nat) (fun k => k ≤ L.length)
   (fun k => [(0, ptrA q), (1, .lit (.int .i64 n)), (5, .list false 1 (natsA L)), (17, .list false 1 (natsA L)), (18, .lit (.int .i64 L.length)), (19, .lit (.int .i64 k))]) (fun k => putS spO σ' q r (delTo s L k)) (fun k => L.length - k) 0 (by kernel_rfl) (by simp) (by simp) (by rw [hz, h.put_self]; (intro q; simp only [Store.upd, Store.del]; (repeat' split) <;> first | exact Or.inr rfl | exact Or.inl rfl | (exfalso; omega) | (left; subst_vars; assumption) | simp_all)) fun k hk => ?_
  have hP : Prg (putS spO σ' q r (delTo s L k)) q r (delTo s L k) := Scr.of_put hne (hsame k).1
  by_cases hlt : k < L.length
  ·have hw : IntKind.i64.wrap ((k : Int) + 1) = ((k + 1 : Nat) : Int) := wrap_i64 (by omega) (by omega)
   have hpu := fun i (b : UInt8) => pput_calls hP i b
   simp only [putS_put hne, byteA] at hpu
   have hatc := fun i => at_calls hP i
   simp only [cellA_eq, byteA] at hatc
   have hs1 := hsucc k hlt
   by_cases hk1 : k + 1 < L.length
   ·have hk1' : (k : Int) + 1 < (L.length : Int) := by omega
    have h0k : 0 ≤ (k : Int) + 1 := by omega
    have hg1 : L[k + 1]?.getD 0 = L[k + 1] := by rw [List.getElem?_eq_getElem hk1]; rfl
    rw [if_pos hk1, hg1] at hs1
    simp [hlt, hw, hk1', hk1, h0k]
    refine callK.of (hatc _) ?_
    rintro v σ3 ⟨rfl, rfl⟩
    simp
    refine callK.of (hpu _ _) ?_
    rintro v σ3 ⟨rfl, rfl⟩
    simp [hw]
    exact ⟨k + 1, by omega, by omega, by simp, by rw [hs1]; exact Store.sub_refl _⟩
   ·have hk1' : ¬ (k : Int) + 1 < (L.length : Int) := by omega
    rw [if_neg hk1] at hs1
    simp [hlt, hw, hk1']
    refine callK.of (hpu _ 0) ?_
    rintro v σ3 ⟨rfl, rfl⟩
    simp [hw]
    exact ⟨k + 1, by omega, by omega, by simp, by rw [hs1]; exact Store.sub_refl _⟩
  ·obtain rfl : k = L.length := by omega
   simp
   refine callK.of (hmo _ hP) ?_
   rintro v σ3 ⟨rfl, rfl⟩
   rw [putS_put hne]
   simp
def nulAt (s : Sp) (n : Nat) : Bool := (s.at (n : Int)).char == 0
theorem ins0_calls {q r : Nat} {s : Sp} {σ : Store} {b : Nat} (h : Prg σ q r s) (hb : σ b = some [ptrA q]) (n : Nat) : ACalls Tryz.prog 150 [.lit (.int .i64 n), ptrA b] σ fun v σ' => v = .lit (.bool (nulAt s n)) ∧ σ' = σ := by
 have hat := at_calls h (n : Int)
 unfold nulAt
 generalize s.at (n : Int) = c at *
 have hd : ((c.char.toNat : Int) == 0) = (c.char == 0) := by
  by_cases e : c.char = 0
  ·rw [e]; rfl
  ·have h1 : ¬ (c.char.toNat : Int) = 0 := fun h => e (UInt8.toNat_inj.1 (by simpa using h))
   rw [beq_eq_false_iff_ne.2 h1, beq_eq_false_iff_ne.2 e]
 rw [← hd]
 simp only [cellA_eq, byteA] at hat
 refine aw st150 pl150 9 Tryz.func150 rfl ?_
 simp [hb]
 refine callK.of hat ?_
 rintro v σ' ⟨rfl, rfl⟩
 simp
def nulN (s : Sp) (L : List Nat) : Nat := toP (fun i => nulAt s (L[i]?.getD 0)) L.length
theorem indexf_calls {q r : Nat} {s : Sp} {σ : Store} {b : Nat} (h : Prg σ q r s) (hb : σ b = some [ptrA q]) (L : List Nat) (hN : L.length ≤ 1000000) : ACalls Tryz.prog 149 [.list false 1 (natsA L), .func (.func 150) [] [ptrA b]] σ fun v σ' => v = .lit (.int .i64 (if nulN s L < L.length then (nulN s L : Int) else -1)) ∧ σ' = σ := by
 have h0 := fun n => ins0_calls h hb n
 have hfree : ∀ i, i < nulN s L → nulAt s (L[i]?.getD 0) = false := fun i hi => toP_free _ _ i hi
 have hstop : nulN s L < L.length → nulAt s (L[nulN s L]?.getD 0) = true := fun h => toP_stop (fun i => nulAt s (L[i]?.getD 0)) _ h
 have hle : nulN s L ≤ L.length := toP_le _ _
 generalize nulN s L = e at *
 refine aw st149 pl149 19 Tryz.func149 rfl ?_
 simp
 refine codeK.loop follows (st := st149) (plans := pl149) (X := Nat) (fun i => i ≤ e)
  (fun i => [(0, .list false 1 (natsA L)), (1, .func (.func 150) [] [ptrA b]), (6, .list false 1 (natsA L)), (7, .lit (.int .i64 L.length)), (8, .lit (.int .i64 i))]) (fun _ => σ) (fun i => L.length - i) 0 (by kernel_rfl) (by simp) (by simp [ptrA]) (Store.sub_refl _) fun i hi => ?_
 by_cases hlt : i < L.length
 ·have hw : IntKind.i64.wrap ((i : Int) + 1) = ((i + 1 : Nat) : Int) := wrap_i64 (by omega) (by omega)
  have hg : L[i]?.getD 0 = L[i] := by rw [List.getElem?_eq_getElem hlt]; rfl
  simp [hlt]
  refine callK.of (h0 _) ?_
  rintro v σ' ⟨rfl, rfl⟩
  by_cases he : i = e
  ·subst he
   have := hstop hlt
   rw [hg] at this
   simp [this, hlt]
  ·have := hfree i (by omega)
   rw [hg] at this
   simp [this, hw]
   exact ⟨i + 1, by omega, by omega, by simp⟩
 ·have he : ¬ e < L.length := by omega
  simp [hlt, he]
def insTo (s : Sp) (L : List Nat) (e : Nat) : Nat → Sp
 | 0 => s
 | k + 1 => (insTo s L e k).put (L[e - k]?.getD 0 : Nat) ((insTo s L e k).at (L[e - k - 1]?.getD 0 : Nat)).char
theorem insTo_same {s : Sp} (h : s.good) (L : List Nat) (e : Nat) : ∀ k, SameN s (insTo s L e k)
 | 0 => .refl h
 | k + 1 => (insTo_same h L e k).put _ _
def insS (s : Sp) (n : Nat) (c : UInt8) : Sp × Bool :=
 if openS s n = true ∧ nulN s (roundL s n) < (roundL s n).length then
  (modS ((insTo s (roundL s n) (nulN s (roundL s n)) (nulN s (roundL s n))).put ((roundL s n)[0]?.getD 0 : Nat) c) n, true)
 else (s, false)
theorem insert_calls {q r : Nat} {s : Sp} {σ : Store} (h : Prg σ q r s) {n : Nat} (hn : n < s.n) (c : UInt8) : ACalls Tryz.prog 130 [ptrA q, .lit (.int .i64 n), byteA c] σ fun v σ' => v = .lit (.bool (insS s n c).2) ∧ σ' = putS spO σ q r (insS s n c).1 := by
 have hop := fun τ (hτ : Prg τ q r s) => open_calls hτ hn
 unfold insS
 cases ho : openS s n
 ·rw [if_neg (by simp), h.put_self]
  rw [ho] at hop
  refine aw st130 pl130 50 Tryz.func130 rfl ?_
  simp [byteA]
  intro b hb
  refine callK.of (hop _ (h.new hb _)) ?_
  rintro v σ' ⟨rfl, rfl⟩
  simp
  exact sub_upd_self _ _ _ hb
 ·rw [ho] at hop
  have hro := fun τ (hτ : Prg τ q r s) => round_calls hτ hn (open_attr ho)
  have hlen : (roundL s n).length ≤ 1000000 := by
   have hnl := s.n_le
   unfold roundL restL
   split
   ·rw [spanL_len]; have := (spanLen_pos (N := s.n) (f := n) (t := n) s.n_pos).2; omega
   ·rw [List.length_drop, places_length']
    have := run_le s.cells (startS s.cells n).toNat (s.cells.length - 1)
    unfold Sp.len
    rw [h.good.len] at *
    omega
  generalize roundL s n = L at *
  have hif := fun τ (b : Nat) (hτ : Prg τ q r s) (hb : τ b = some [ptrA q]) => indexf_calls hτ hb L hlen
  generalize nulN s L = e at *
  by_cases he : e < L.length
  ·rw [if_pos ⟨rfl, he⟩]
   simp only [if_pos he] at hif
   have hsame := insTo_same h.good L e
   have hz : insTo s L e 0 = s := rfl
   have hsucc : ∀ k, insTo s L e (k + 1) = (insTo s L e k).put (L[e - k]?.getD 0 : Nat) ((insTo s L e k).at (L[e - k - 1]?.getD 0 : Nat)).char := fun k => rfl
   have hL0 : 0 < L.length := by omega
   have hg0 : L[0]?.getD 0 = L[0] := by rw [List.getElem?_eq_getElem hL0]; rfl
   rw [hg0]
   have hlast := (hsame e).put (L[0] : Nat) c
   generalize ht2 : (insTo s L e e).put (L[0] : Nat) c = t2 at *
   have hmo := fun τ (hτ : Prg τ q r t2) => modify_calls hτ (n := n) (by rw [hlast.n]; exact hn)
   have hne := h.ne
   refine aw st130 pl130 50 Tryz.func130 rfl ?_
   simp [byteA]
   intro b hb
   have hb0 := h.fresh hb
   refine callK.of (hop _ (h.new hb _)) ?_
   rintro v σ' ⟨rfl, rfl⟩
   simp
   refine callK.of (hro _ (h.new hb _)) ?_
   rintro v σ' ⟨rfl, rfl⟩
   simp
   refine callK.of (hif _ b (h.new hb _) (by simp)) ?_
   rintro v σ' ⟨rfl, rfl⟩
   have hneg : ¬ (e : Int) < 0 := by omega
   have hbv : ∀ t, putS spO (σ.upd b [ptrA q]) q r t b = some [ptrA q] := fun t => by rw [putS_at hb0.2.2.1 hb0.2.2.2]; simp
   simp [hneg]
   refine codeK.loop follows (st := st130) (plans := pl130) (X := Nat) (fun k => k ≤ e)
    (fun k => [(1, .lit (.int .i64 n)), (2, byteA c), (3, ptrA b), (7, .list false 1 (natsA L)), (9, .lit (.int .i64 ((e - k : Nat) : Int)))]) (fun k => putS spO (σ.upd b [ptrA q]) q r (insTo s L e k)) (fun k => e - k) 0 (by kernel_rfl) (by simp) (by simp [byteA]) (by rw [hz, (h.new hb _).put_self]; exact Store.sub_refl _) fun k hk => ?_
   have hP : Prg (putS spO (σ.upd b [ptrA q]) q r (insTo s L e k)) q r (insTo s L e k) := Scr.of_put hne (hsame k).1
   have hpu := fun i (b : UInt8) => pput_calls hP i b
   simp only [putS_put hne, byteA] at hpu
   have hbk := hbv (insTo s L e k)
   by_cases hlt : k < e
   ·obtain ⟨j, hj⟩ : ∃ j, e - k = j + 1 := ⟨e - k - 1, by omega⟩
    have hj1 : j + 1 < L.length := by omega
    have hj0 : j < L.length := by omega
    have hs1 := hsucc k
    have hgj : L[j + 1]?.getD 0 = L[j + 1] := by rw [List.getElem?_eq_getElem hj1]; rfl
    have hgj0 : L[j]?.getD 0 = L[j] := by rw [List.getElem?_eq_getElem hj0]; rfl
    rw [hj, Nat.add_sub_cancel, hgj, hgj0] at hs1
    have hek : e - (k + 1) = j := by omega
    have hatc := fun i => at_calls hP i
    simp only [cellA_eq, byteA] at hatc
    have hwj : IntKind.i64.wrap (j : Int) = j := small_i64 (by omega)
    have h0j : 0 ≤ (j : Int) + 1 := by omega
    have hpj : 0 < (j : Int) + 1 := by omega
    rw [hj]
    simp [byteA, hpj, hbk, hwj, h0j, hj1, hj0]
    repeat' first
     | with_reducible apply And.intro
     | (refine callK.of (hatc _) ?_; rintro v σ1 ⟨rfl, rfl⟩; simp [hbk])
     | (refine callK.of (hpu _ _) ?_; rintro v σ1 ⟨rfl, rfl⟩; simp [hwj])
    all_goals exact ⟨k + 1, by omega, by omega, by simp [hek], by rw [hs1]; exact Store.sub_refl _⟩
   ·obtain rfl : k = e := by omega
    have hpu0 := hpu (L[0] : Nat) c
    rw [ht2] at hpu0
    have hP2 : Prg (putS spO (σ.upd b [ptrA q]) q r t2) q r t2 := Scr.of_put hne hlast.1
    have hb2 := hbv t2
    simp [byteA, hbk, hL0]
    refine callK.of hpu0 ?_
    rintro v σ1 ⟨rfl, rfl⟩
    simp [hb2]
    refine callK.of (hmo _ hP2) ?_
    rintro v σ1 ⟨rfl, rfl⟩
    rw [putS_put hne, putS_upd _ _ hb0.2.2.1 hb0.2.2.2]
    simp
    exact sub_upd_self _ _ _ (by rw [putS_at hb0.2.2.1 hb0.2.2.2]; exact hb)
  ·rw [if_neg (by simp [he]), h.put_self]
   simp only [if_neg he] at hif
   refine aw st130 pl130 50 Tryz.func130 rfl ?_
   simp [byteA]
   intro b hb
   refine callK.of (hop _ (h.new hb _)) ?_
   rintro v σ' ⟨rfl, rfl⟩
   simp
   refine callK.of (hro _ (h.new hb _)) ?_
   rintro v σ' ⟨rfl, rfl⟩
   simp
   refine callK.of (hif _ b (h.new hb _) (by simp)) ?_
   rintro v σ' ⟨rfl, rfl⟩
   simp
   exact sub_upd_self _ _ _ hb
end Go.Proofs.YtlmdbcgceijlnaaGreat
