/-
  awake: the walk.
-/
import Derived.Test.YtlmdbcgceijlnaaGreatSPart23
set_option linter.unusedSimpArgs false
set_option linter.unusedVariables false
namespace Go.Proofs.YtlmdbcgceijlnaaGreat
open Go Go.AL Go.Sp

theorem aw_ex2 : ((pressB 37 awT.1 ⟨19, 0, 0⟩).1.s.at 1).char = 193 ∧ ((pressB 37 awT.1 ⟨19, 0, 0⟩).1.s.at 2).char = 130 ∧ ((pressB 37 awT.1 ⟨19, 0, 0⟩).1.s.at 0).fa = 1 := by decide +kernel
theorem kS_over {σ base : Store} {k q r b : Nat} {n : Int} {B : Bd} (h : KOk base k q r b n B) (x : Option Nat) (hs : Store.sub σ base) (n1 : base k = none) (n2 : base q = none) (n3 : base b = none) (hx : NxP base none x) : Store.sub σ (kS base k q r b n x B) := by
  have nn : ∀ o : Int, base o = none → σ o = none := fun o ho => by
    rcases hs o with e | e
    · exact e
    · rw [e, ho]
  refine Store.sub2 (fun o => ?_) (fun i => ?_)
  · by_cases e1 : o = b
    · subst e1; exact .inl (nn _ n3)
    by_cases e2 : o = k
    · subst e2; exact .inl (nn _ n1)
    by_cases e3 : o = q
    · subst e3; exact .inl (nn _ n2)
    by_cases e4 : o = r
    · subst e4; exact .inl (nn _ h.none)
    unfold kS
    rw [pgS_other e1]
    simpa [putS, e2, e3, e4] using hs o
  · rcases hx with rfl | ⟨g, rfl, hg⟩
    · simpa [kS, pgS, putS] using hs (mkey i)
    · by_cases e : i = g
      · subst e; exact .inl (nn _ hg)
      · simpa [kS, pgS, putS, e] using hs (mkey i)
set_option maxHeartbeats 1000000 in
set_option maxRecDepth 8000 in
theorem awake_calls (σ : Store) : ACalls Tryz.prog 9 [] σ fun v σ' => v = .lit (.bool true) ∧ σ' = σ := by
  have hl := lay_calls 0 0 [{ what := 3, n := 0, on := false, code := 0, c := .zero, text := [] }, { what := 1, n := 1, on := false, code := 0, c := .zero, text := [] }] (by simp) (by simp) σ
  refine ACalls.of_awp follows (st := st9) (plans := pl9) (n := 68) Tryz.func9 rfl (by kernel_rfl) (by kernel_rfl) (by kernel_rfl) ?_
  simp
  refine callK.le (args' := [byteA 0, byteA 0, .list false 11 (actsA [{ what := 3, n := 0, on := false, code := 0, c := .zero, text := [] }, { what := 1, n := 1, on := false, code := 0, c := .zero, text := [] }])]) ?_ hl ?_
  · simp [AllLe, actsA, actA, actC, cellC, byteA, bytesA, Cell.zero]
  rintro v τ ⟨k, q, p, b, c, base, rfl, hsub, n1, n2, n3, hK, rfl⟩
  have hlays : Sp.lays 0 [{ what := 3, n := 0, on := false, code := 0, c := .zero, text := [] }, { what := 1, n := 1, on := false, code := 0, c := .zero, text := [] }] = awS := rfl
  have hpn : pageN 0 = 37 := by decide +kernel
  rw [hlays, hpn] at hK ⊢
  simp
  have hty := type_calls hK none ⟨#[65, 98]⟩ (by decide)
  have hT : typeF 37 ⟨#[65, 98]⟩ (ByteArray.size ⟨#[65, 98]⟩) 0 0 (newB awS) = awT := rfl
  rw [hT] at hty
  refine callK.of hty ?_
  rintro v τ ⟨rfl, r2, x2, hK2, nx2, rfl⟩
  obtain ⟨a1, a2, a3, a4, a5, a6, a7, a8⟩ := aw_ex
  have hpr := press_calls hK2 x2 ⟨19, 0, 0⟩
  simp only [keyA, keyC] at hpr
  simp
  refine callK.of hpr ?_
  rintro v τ ⟨rfl, r3, x3, hK3, nx3, rfl⟩
  obtain ⟨a3', a4', a5'⟩ := aw_ex2
  have b1 := at_calls (kS_prg hK3 x3) 1
  have b2 := at_calls (kS_prg hK3 x3) 2
  have b0 := at_calls (kS_prg hK3 x3) 0
  have hai := baid_calls hK3 x3
  have hlo := lock_calls hK3 x3
  rw [a7] at hai
  rw [a8] at hlo
  simp only [cellA_eq, a3', a4', a5', byteA] at b0 b1 b2 hai
  rw [a1, a2, a6]
  simp
  refine callK.of b1 ?_
  rintro v τ ⟨rfl, rfl⟩
  simp
  refine callK.of b2 ?_
  rintro v τ ⟨rfl, rfl⟩
  simp
  refine callK.of b0 ?_
  rintro v τ ⟨rfl, rfl⟩
  simp
  refine callK.of hai ?_
  rintro v τ ⟨rfl, rfl⟩
  simp
  refine callK.of hlo ?_
  rintro v τ ⟨rfl, rfl⟩
  simp
  exact kS_over hK3 x3 hsub n1 n2 n3 (nx2.trans nx3)
end Go.Proofs.YtlmdbcgceijlnaaGreat
/-
  KeysLocked: the walk.
-/
namespace Go.Proofs.YtlmdbcgceijlnaaGreat
open Go Go.AL Go.Sp
variable {σ : Store} {k q r b : Nat} {n : Int} {B : Bd}

def keysA (ks : List Key) : List AV := ks.map keyA
/-- What lies apart is as it is in the base. -/
theorem kS_base {z : Nat} {X : List AV} (h : KOk σ k q r b n B) (x : Option Nat) (hz : σ z = some X) (h1 : ¬ z = k) (h2 : ¬ z = q) (h3 : ¬ z = b) : (kS σ k q r b n x B) z = some X := by
  have h4 : ¬ z = r := fun e => by subst e; rw [h.none] at hz; cases hz
  unfold kS
  rw [pgS_other h3]
  simp [putS, h1, h2, h4, hz]
/-- Another screen, in the base. -/
structure Oth (σ : Store) (k q b q2 p2 : Nat) (s : Sp) : Prop where
  prg : Prg σ q2 p2 s
  q2k : ¬ q2 = k
  q2q : ¬ q2 = q
  q2b : ¬ q2 = b
  p2k : ¬ p2 = k
  p2q : ¬ p2 = q
  p2b : ¬ p2 = b
theorem Oth.at {q2 p2 : Nat} {s : Sp} (o : Oth σ k q b q2 p2 s) (h : KOk σ k q r b n B) (x : Option Nat) : Prg (kS σ k q r b n x B) q2 p2 s :=
  ⟨kS_base h x o.prg.obj o.q2k o.q2q o.q2b, kS_base h x o.prg.row o.p2k o.p2q o.p2b, o.prg.ne, o.prg.good⟩
theorem Free.back {z r2 : Nat} {X : List AV} (f : Free σ k q r b z) (h : KOk (σ.upd z X) k q r2 b n B) : Free σ k q r2 b z ∧ KOk σ k q r2 b n B :=
  have hr : ¬ z = r2 := by rintro rfl; have := h.none; simp at this
  ⟨⟨f.k, f.q, hr, f.b, f.free⟩, { h with none := by have := h.none; simpa [Ne.symm hr] using this }⟩
structure LcSt where
  i : Nat
  r : Nat
  x : Option Nat
end Go.Proofs.YtlmdbcgceijlnaaGreat
/-
  The plan of `same`, checked node by node.
-/
namespace Go.Proofs.YtlmdbcgceijlnaaGreat
open Go Go.AL

def plS22_0 : Plan := .alt (Plan.seq [2, 3, 4] .done) (Plan.seq [3, 2, 4] .done)
def plS22_1 : Plan := .alt (Plan.seq [42, 46, 47, 48, 49] .done) (Plan.seq [46, 42, 47, 48, 49] .done)
def plS22_2 : Plan := .alt (Plan.seq [33, 37, 38, 39, 40, 41, 43, 44, 45] plS22_1) (Plan.seq [37, 33, 38, 39, 40, 41, 43, 44, 45] plS22_1)
def plS22_3 : Plan := .alt (Plan.seq [24, 28, 29, 30, 31, 32, 34, 35, 36] plS22_2) (Plan.seq [28, 24, 29, 30, 31, 32, 34, 35, 36] plS22_2)
def plS22_4 : Plan := .alt (Plan.seq [12, 19, 20, 21, 22, 23, 25, 26, 27] plS22_3) (Plan.seq [19, 12, 20, 21, 22, 23, 25, 26, 27] plS22_3)
def plS22_5 : Plan := .alt (Plan.seq [12, 16, 17, 18, 19, 20, 21, 22, 23, 25, 26, 27] plS22_3) (Plan.seq [16, 17, 18] plS22_4)
def plS22_6 : Plan := .alt (Plan.seq [1, 8, 9, 10, 11, 13, 14, 15] plS22_5) (Plan.seq [8, 1, 9, 10, 11, 13, 14, 15] plS22_5)
def plS22_7 : Plan := .alt (Plan.seq [1, 5, 6, 7, 8, 9, 10, 11, 13, 14, 15] plS22_5) (Plan.seq [5, 6, 7] plS22_6)
attribute [simp] plS22_0
@[simp] def plS22 : List (Nat × Plan) := [(4, Plan.seq [0, 1] plS22_0), (7, Plan.seq [0, 2, 3, 4] plS22_7)]
noncomputable def ops22 : Array Oper := (regAll 7 (Tryz.f22.body.getD .skip)).headD #[]
def ldn22 : Array Bool := #[true, true, true, true, true, true, true, true, true, true, true, true, true, true, true, true, true, true, true, true, true, true, true, true, true, true, true, true, true, true, true, true, true, true, true, true, true, true, true, true, true, true, true, true, true, true, true, true, true, true]
def ld22_1 : Array Bool := #[true, true, true, true, true, true, true, true, true, true, true, true, true, true, true, true, true, true, true, true, true, true, true, true, true, true, true, true, true, true, true, true, true, true, true, true, true, true, true, true, true, true, false, true, true, true, false, false, false, false]
theorem nd22_1 : planOk [] ops22 5 ld22_1 plS22_1 = true :=
  planOk_fork (L1 := ldn22) (L2 := ldn22) (f1 := 0) (f2 := 0) (f := 4) (by kernel_rfl) (by kernel_rfl) rfl (by kernel_rfl) (by kernel_rfl) rfl (by kernel_rfl)
def ld22_2 : Array Bool := #[true, true, true, true, true, true, true, true, true, true, true, true, true, true, true, true, true, true, true, true, true, true, true, true, true, true, true, true, true, true, true, true, true, false, true, true, true, false, false, false, false, false, false, false, false, false, false, false, false, false]
theorem nd22_2 : planOk [] ops22 14 ld22_2 plS22_2 = true :=
  planOk_fork (L1 := ld22_1) (L2 := ld22_1) (f1 := 5) (f2 := 5) (f := 13) (by kernel_rfl) (by kernel_rfl) rfl nd22_1 (by kernel_rfl) rfl nd22_1
def ld22_3 : Array Bool := #[true, true, true, true, true, true, true, true, true, true, true, true, true, true, true, true, true, true, true, true, true, true, true, true, false, true, true, true, false, false, false, false, false, false, false, false, false, false, false, false, false, false, false, false, false, false, false, false, false, false]
theorem nd22_3 : planOk [] ops22 23 ld22_3 plS22_3 = true :=
  planOk_fork (L1 := ld22_2) (L2 := ld22_2) (f1 := 14) (f2 := 14) (f := 22) (by kernel_rfl) (by kernel_rfl) rfl nd22_2 (by kernel_rfl) rfl nd22_2
def ld22_4 : Array Bool := #[true, true, true, true, true, true, true, true, true, true, true, true, false, true, true, true, true, true, true, false, false, false, false, false, false, false, false, false, false, false, false, false, false, false, false, false, false, false, false, false, false, false, false, false, false, false, false, false, false, false]
theorem nd22_4 : planOk [] ops22 32 ld22_4 plS22_4 = true :=
  planOk_fork (L1 := ld22_3) (L2 := ld22_3) (f1 := 23) (f2 := 23) (f := 31) (by kernel_rfl) (by kernel_rfl) rfl nd22_3 (by kernel_rfl) rfl nd22_3
def ld22_5 : Array Bool := #[true, true, true, true, true, true, true, true, true, true, true, true, false, true, true, true, false, false, false, false, false, false, false, false, false, false, false, false, false, false, false, false, false, false, false, false, false, false, false, false, false, false, false, false, false, false, false, false, false, false]
theorem nd22_5 : planOk [] ops22 35 ld22_5 plS22_5 = true :=
  planOk_fork (L1 := ld22_3) (L2 := ld22_4) (f1 := 23) (f2 := 32) (f := 34) (by kernel_rfl) (by kernel_rfl) rfl nd22_3 (by kernel_rfl) rfl nd22_4
def ld22_6 : Array Bool := #[true, false, true, true, true, true, true, true, false, false, false, false, false, false, false, false, false, false, false, false, false, false, false, false, false, false, false, false, false, false, false, false, false, false, false, false, false, false, false, false, false, false, false, false, false, false, false, false, false, false]
theorem nd22_6 : planOk [] ops22 43 ld22_6 plS22_6 = true :=
  planOk_fork (L1 := ld22_5) (L2 := ld22_5) (f1 := 35) (f2 := 35) (f := 42) (by kernel_rfl) (by kernel_rfl) rfl nd22_5 (by kernel_rfl) rfl nd22_5
def ld22_7 : Array Bool := #[true, false, true, true, true, false, false, false, false, false, false, false, false, false, false, false, false, false, false, false, false, false, false, false, false, false, false, false, false, false, false, false, false, false, false, false, false, false, false, false, false, false, false, false, false, false, false, false, false, false]
theorem nd22_7 : planOk [] ops22 46 ld22_7 plS22_7 = true :=
  planOk_fork (L1 := ld22_5) (L2 := ld22_6) (f1 := 35) (f2 := 43) (f := 45) (by kernel_rfl) (by kernel_rfl) rfl nd22_5 (by kernel_rfl) rfl nd22_6
theorem top22 : planOk [] ops22 50 (Array.replicate 50 false) (Plan.seq [0, 2, 3, 4] plS22_7) = true :=
  planOk_seq (L' := ld22_7) (f := 46) [0, 2, 3, 4] _ (by kernel_rfl) nd22_7
theorem reg22 : regAll 7 (Tryz.f22.body.getD .skip) = [ops22] := by kernel_rfl
theorem size22 : ops22.size = 50 := by kernel_rfl
theorem ok22 : codeOk [] plS22 77 (Tryz.f22.body.getD .skip) = true :=
  codeOk_but (id := 7) (p := Plan.seq [0, 2, 3, 4] plS22_7) (by kernel_rfl) _ (by kernel_rfl) fun ops ho => by
    rw [reg22, List.mem_singleton] at ho
    rw [ho, size22]
    exact top22
theorem ok_of {st : List Tmp} {pl : List (Nat × Plan)} {n : Nat} {c c' : Code} (h : codeOk st pl n c' = true) (e : c = c') : codeOk st pl n c = true := e ▸ h
end Go.Proofs.YtlmdbcgceijlnaaGreat
/-
  Is a keyboard the document's, and its screen?
-/
namespace Go.Proofs.YtlmdbcgceijlnaaGreat
open Go Go.AL Go.Sp
variable {σ : Store} {k q r b c x y : Nat} {n : Int} {B D : Bd}

theorem kS_upd {z : Nat} (h1 : ¬ z = k) (h2 : ¬ z = q) (h3 : ¬ z = r) (h4 : ¬ z = b) (p : Option Nat) (B : Bd) (X : List AV) : (kS σ k q r b n p B).upd z X = kS (σ.upd z X) k q r b n p B := by
  unfold kS putS
  rw [pgS_upd h4]
  congr 1
  refine Store.ext2 (fun o => ?_) (fun i => by simp)
  simp only [supd_apply]
  by_cases e : o = z
  · subst e; simp [h1, h2, h3]
  · simp [e]
theorem plan_elim {P : Program} {st : List Nat} {O : Array Oper} {K : Slots → Store → Prop} {pl : Plan} {A : Slots} {σ : Store} (f : ∀ (O' : Array Oper) (K' : Slots → Store → Prop), O = O' → K = K' → aplan P st O' K' pl A σ) : aplan P st O K pl A σ := f O K rfl rfl
/-- The document's keyboard lies apart from the board. -/
structure Apt (k q r b c x y : Nat) : Prop where
  c : ¬ c = k ∧ ¬ c = q ∧ ¬ c = r ∧ ¬ c = b
  x : ¬ x = k ∧ ¬ x = q ∧ ¬ x = r ∧ ¬ x = b
  y : ¬ y = k ∧ ¬ y = q ∧ ¬ y = r ∧ ¬ y = b
theorem kS_at {z : Nat} (h1 : ¬ z = k ∧ ¬ z = q ∧ ¬ z = r ∧ ¬ z = b) (p : Option Nat) (B : Bd) : (kS σ k q r b n p B) z = σ z := by
  unfold kS
  rw [pgS_other h1.2.2.2]
  simp [putS, h1.1, h1.2.1, h1.2.2.1]
theorem DOk.inK (h : DOk σ c x y n D) (a : Apt k q r b c x y) (p : Option Nat) (B : Bd) : DOk (kS σ k q r b n p B) c x y n D :=
  ⟨by rw [kS_at a.c]; exact h.obj, ⟨by rw [kS_at a.x]; exact h.ref.obj, by rw [kS_at a.y]; exact h.ref.row, h.ref.ne, h.ref.good⟩, h.cx, h.cy⟩
theorem dbS_inK (a : Apt k q r b c x y) (p : Option Nat) (B D : Bd) : dbS (kS σ k q r b n p B) c x y n D = kS (dbS σ c x y n D) k q r b n p B := by
  unfold dbS
  show Store.upd ((Store.upd _ _ _).upd _ _) _ _ = _
  rw [kS_upd a.x.1 a.x.2.1 a.x.2.2.1 a.x.2.2.2, kS_upd a.y.1 a.y.2.1 a.y.2.2.1 a.y.2.2.2, kS_upd a.c.1 a.c.2.1 a.c.2.2.1 a.c.2.2.2]
  rfl
theorem KOk.inD (h : KOk σ k q r b n B) (a : Apt k q r b c x y) (D : Bd) : KOk (dbS σ c x y n D) k q r b n B := by
  have e1 : ¬ r = c := fun e => a.c.2.2.1 e.symm
  have e2 : ¬ r = x := fun e => a.x.2.2.1 e.symm
  have e3 : ¬ r = y := fun e => a.y.2.2.1 e.symm
  exact { h with none := by simp [dbS, putS, e1, e2, e3, h.none] }
set_option maxHeartbeats 4000000 in
set_option maxRecDepth 8000 in
theorem same_calls (h : KOk σ k q r b n B) (p : Option Nat) (hd : DOk (kS σ k q r b n p B) c x y n B) : ACalls Tryz.prog 22 [ptrA k, ptrA q, ptrA c] (kS σ k q r b n p B) fun v σ' => v = .lit (.bool true) ∧ σ' = kS σ k q r b n p B := by
  have hP := kS_prg h p
  have hlo := lock_calls h p
  have hin := inserts_calls h p
  have hai := baid_calls h p
  have hcu := cursor_calls hP
  have hal := alt_calls hP
  have ho := hd.obj
  have hx := hd.ref.obj
  have hy := hd.ref.row
  have hg := hP.good
  have hln := hg.len
  have hat := fun τ (hτ : Prg τ q r B.s) (i : Nat) => at_calls hτ (i : Int)
  unfold rbdO at ho
  unfold rfO at hx
  simp only [byteA] at ho hai
  generalize kS σ k q r b n p B = ρ at *
  refine ACalls.of_awp follows (st := st22) (plans := plS22) (n := 77) Tryz.func22 rfl (by kernel_rfl) (by kernel_rfl) (ok_of ok22 (by kernel_rfl)) ?_
  simp [ho, hx, rowC]
  refine codeK.loop follows (st := st22) (plans := plS22) (X := Nat) (fun i => i ≤ B.s.n)
    (fun i => [(0, ptrA k), (1, ptrA q), (2, ptrA c), (15, rowC y B.s.n), (16, .lit (.int .i64 B.s.n)), (17, .lit (.int .i64 i))])
    (fun _ => ρ) (fun i => B.s.n - i) 0 (by kernel_rfl) (by simp) (by simp [rowC]) (Store.sub_refl _) fun i hi => ?_
  by_cases hlt : i < B.s.n
  · have hw1 : IntKind.i64.wrap ((i : Int) + 1) = ((i + 1 : Nat) : Int) := wrap_i64 (by omega) (by have := B.s.n_le; omega)
    have hic : i < B.s.cells.length := by omega
    have hgj := cellsO_get hic
    have hce : B.s.cells[i] = cellAt B.s i := by unfold cellAt; rw [List.getElem?_eq_getElem hic]; rfl
    have hcx : cellC (cellAt B.s i) = [byteA (cellAt B.s i).char, .lit (.bool (cellAt B.s i).attr), byteA (cellAt B.s i).fa, byteA (cellAt B.s i).high, byteA (cellAt B.s i).color, byteA (cellAt B.s i).set] := rfl
    rw [hce, hcx] at hgj
    have hcl6 := cellsO_length B.s.cells
    have hle6 : i * 6 + 6 ≤ (cellsO B.s.cells).length := by omega
    have hati := fun τ hτ => hat τ hτ i
    rw [cellAt_at hlt, cellA_eq] at hati
    simp only [byteA] at hgj hati
    generalize cellAt B.s i = cl at *
    simp +contextual [hlt, hy, hle6, hgj, rowC]
    intro b1 hb1
    have hP1 := hP.new hb1 [.lit (.int .u8 (cl.char.toNat : Int)), .lit (.bool cl.attr), .lit (.int .u8 (cl.fa.toNat : Int)), .lit (.int .u8 (cl.high.toNat : Int)), .lit (.int .u8 (cl.color.toNat : Int)), .lit (.int .u8 (cl.set.toNat : Int))]
    repeat' first
      | with_reducible apply And.intro
      | (refine callK.of (hati _ hP1) ?_; rintro v τ ⟨rfl, eτ⟩; rw [eτ]; clear eτ τ; simp)
      | exact ⟨i + 1, by omega, by omega, by rw [hw1]; exact AV.le_refl _, Store.sub_upd hb1 (Store.sub_refl _)⟩
  · obtain rfl : i = B.s.n := by omega
    simp [ho, hx, rowC]
    refine plan_elim fun O K hO hK => ?_
    have h1 : ∀ A : Slots, A 69 = ptrA k → A 68 = .lit (.bool true) → A 73 = .lit (.pointer (some ⟨c, 4, none⟩)) → aplan Tryz.prog [] O K plS22_1 A ρ := by
      intro A a0 a1 a2
      subst hO
      subst hK
      unfold plS22_1
      simp [ho, hx, rowC, a0, a1, a2]
      repeat' first
        | with_reducible apply And.intro
        | (refine callK.of hai ?_; rintro v τ ⟨rfl, eτ⟩; rw [eτ]; clear eτ τ; simp [ho, hx, rowC, a0, a1, a2])
    have h2 : ∀ A : Slots, A 60 = ptrA k → A 64 = .lit (.pointer (some ⟨c, 3, none⟩)) → A 59 = .lit (.bool true) → A 0 = ptrA k → A 2 = ptrA c → aplan Tryz.prog [] O K plS22_2 A ρ := by
      intro A a0 a1 a2 a3 a4
      subst hO
      subst hK
      unfold plS22_2
      simp [ho, hx, rowC, a0, a1, a2, a3, a4]
      repeat' first
        | with_reducible apply And.intro
        | exact h1 _ (by simp [ho, hx, rowC, a0, a1, a2, a3, a4]) (by simp [ho, hx, rowC, a0, a1, a2, a3, a4]) (by simp [ho, hx, rowC, a0, a1, a2, a3, a4])
        | (refine callK.of hin ?_; rintro v τ ⟨rfl, eτ⟩; rw [eτ]; clear eτ τ; simp [ho, hx, rowC, a0, a1, a2, a3, a4])
    have h3 : ∀ A : Slots, A 51 = ptrA k → A 55 = .lit (.pointer (some ⟨c, 2, none⟩)) → A 50 = .lit (.bool true) → A 0 = ptrA k → A 2 = ptrA c → aplan Tryz.prog [] O K plS22_3 A ρ := by
      intro A a0 a1 a2 a3 a4
      subst hO
      subst hK
      unfold plS22_3
      simp [ho, hx, rowC, a0, a1, a2, a3, a4]
      repeat' first
        | with_reducible apply And.intro
        | exact h2 _ (by simp [ho, hx, rowC, a0, a1, a2, a3, a4]) (by simp [ho, hx, rowC, a0, a1, a2, a3, a4]) (by simp [ho, hx, rowC, a0, a1, a2, a3, a4]) (by simp [ho, hx, rowC, a0, a1, a2, a3, a4]) (by simp [ho, hx, rowC, a0, a1, a2, a3, a4])
        | (refine callK.of hlo ?_; rintro v τ ⟨rfl, eτ⟩; rw [eτ]; clear eτ τ; simp [ho, hx, rowC, a0, a1, a2, a3, a4])
    have h4 : ∀ A : Slots, A 39 = ptrA q → A 46 = .lit (.pointer (some ⟨x, 1, none⟩)) → A 38 = .lit (.bool true) → A 0 = ptrA k → A 2 = ptrA c → aplan Tryz.prog [] O K plS22_4 A ρ := by
      intro A a0 a1 a2 a3 a4
      subst hO
      subst hK
      unfold plS22_4
      simp [ho, hx, rowC, a0, a1, a2, a3, a4]
      repeat' first
        | with_reducible apply And.intro
        | exact h3 _ (by simp [ho, hx, rowC, a0, a1, a2, a3, a4]) (by simp [ho, hx, rowC, a0, a1, a2, a3, a4]) (by simp [ho, hx, rowC, a0, a1, a2, a3, a4]) (by simp [ho, hx, rowC, a0, a1, a2, a3, a4]) (by simp [ho, hx, rowC, a0, a1, a2, a3, a4])
        | (refine callK.of hal ?_; rintro v τ ⟨rfl, eτ⟩; rw [eτ]; clear eτ τ; simp [ho, hx, rowC, a0, a1, a2, a3, a4])
    have h5 : ∀ A : Slots, A 39 = ptrA q → A 43 = .lit (.pointer (some ⟨c, 0, none⟩)) → A 38 = .lit (.bool true) → A 0 = ptrA k → A 2 = ptrA c → aplan Tryz.prog [] O K plS22_5 A ρ := by
      intro A a0 a1 a2 a3 a4
      subst hO
      subst hK
      unfold plS22_5
      simp [ho, hx, rowC, a0, a1, a2, a3, a4]
      repeat' first
        | with_reducible apply And.intro
        | exact h3 _ (by simp [ho, hx, rowC, a0, a1, a2, a3, a4]) (by simp [ho, hx, rowC, a0, a1, a2, a3, a4]) (by simp [ho, hx, rowC, a0, a1, a2, a3, a4]) (by simp [ho, hx, rowC, a0, a1, a2, a3, a4]) (by simp [ho, hx, rowC, a0, a1, a2, a3, a4])
        | exact h4 _ (by simp [ho, hx, rowC, a0, a1, a2, a3, a4]) (by simp [ho, hx, rowC, a0, a1, a2, a3, a4]) (by simp [ho, hx, rowC, a0, a1, a2, a3, a4]) (by simp [ho, hx, rowC, a0, a1, a2, a3, a4]) (by simp [ho, hx, rowC, a0, a1, a2, a3, a4])
        | (refine callK.of hal ?_; rintro v τ ⟨rfl, eτ⟩; rw [eτ]; clear eτ τ; simp [ho, hx, rowC, a0, a1, a2, a3, a4])
    have h6 : ∀ A : Slots, A 28 = ptrA q → A 35 = .lit (.pointer (some ⟨x, 5, none⟩)) → A 0 = ptrA k → A 1 = ptrA q → A 2 = ptrA c → aplan Tryz.prog [] O K plS22_6 A ρ := by
      intro A a0 a1 a2 a3 a4
      subst hO
      subst hK
      unfold plS22_6
      simp [ho, hx, rowC, a0, a1, a2, a3, a4]
      repeat' first
        | with_reducible apply And.intro
        | exact h5 _ (by simp [ho, hx, rowC, a0, a1, a2, a3, a4]) (by simp [ho, hx, rowC, a0, a1, a2, a3, a4]) (by simp [ho, hx, rowC, a0, a1, a2, a3, a4]) (by simp [ho, hx, rowC, a0, a1, a2, a3, a4]) (by simp [ho, hx, rowC, a0, a1, a2, a3, a4])
        | (refine callK.of hcu ?_; rintro v τ ⟨rfl, eτ⟩; rw [eτ]; clear eτ τ; simp [ho, hx, rowC, a0, a1, a2, a3, a4])
    have h7 : ∀ A : Slots, A 28 = ptrA q → A 32 = .lit (.pointer (some ⟨c, 0, none⟩)) → A 0 = ptrA k → A 1 = ptrA q → A 2 = ptrA c → aplan Tryz.prog [] O K plS22_7 A ρ := by
      intro A a0 a1 a2 a3 a4
      subst hO
      subst hK
      unfold plS22_7
      simp [ho, hx, rowC, a0, a1, a2, a3, a4]
      repeat' first
        | with_reducible apply And.intro
        | exact h5 _ (by simp [ho, hx, rowC, a0, a1, a2, a3, a4]) (by simp [ho, hx, rowC, a0, a1, a2, a3, a4]) (by simp [ho, hx, rowC, a0, a1, a2, a3, a4]) (by simp [ho, hx, rowC, a0, a1, a2, a3, a4]) (by simp [ho, hx, rowC, a0, a1, a2, a3, a4])
        | exact h6 _ (by simp [ho, hx, rowC, a0, a1, a2, a3, a4]) (by simp [ho, hx, rowC, a0, a1, a2, a3, a4]) (by simp [ho, hx, rowC, a0, a1, a2, a3, a4]) (by simp [ho, hx, rowC, a0, a1, a2, a3, a4]) (by simp [ho, hx, rowC, a0, a1, a2, a3, a4])
        | (refine callK.of hcu ?_; rintro v τ ⟨rfl, eτ⟩; rw [eτ]; clear eτ τ; simp [ho, hx, rowC, a0, a1, a2, a3, a4])
    exact h7 _ (by simp) (by simp) (by simp) (by simp) (by simp)
end Go.Proofs.YtlmdbcgceijlnaaGreat
/-
  KeysSelect: the plain law.
-/
namespace Go.Proofs.YtlmdbcgceijlnaaGreat
open Go Go.AL Go.Sp
variable {n : Int} {B : Bd}

theorem press_choose (hl : B.lock = 0) : pressB n B ⟨18, 0, 0⟩ = chooseB n B := by
  unfold pressB
  rw [if_neg (by simp), if_neg (by simp), if_neg (by simp [hl]), if_pos rfl]
theorem signs_q (hn : isPage n) : sgF n (codeU n 63).toNat = 63 ∧ sgF n (codeU n 62).toNat = 62 ∧ ¬ codeU n 63 = 0 ∧ ¬ codeU n 62 = 0 := by
  rcases hn with rfl | rfl | rfl | rfl | rfl | rfl <;> decide +kernel
/-- The cursor stands in a field of the screen's beginning. -/
structure Slc (s : Sp) : Prop where
  good : s.good
  a0 : attrAt s.cells 0 = true
  a1 : attrAt s.cells 1 = false
  start : startS s.cells s.cursor = 0
  free : attrAt s.cells s.cursor = false
/-- What the first choice did, and the next one does. -/
theorem select_back (hn : isPage n) (h : Slc B.s) (hl : B.lock = 0) (hc : (cellAt B.s 1).char = codeU n 63) (h0 : (chooseB n B).2.2 = 0) (h1 : (chooseB n B).2.1 = false) :
    Slc (chooseB n B).1.s ∧ (chooseB n B).1.lock = 0 ∧ (chooseB n (chooseB n B).1).2.2 = 0 ∧ ((chooseB n (chooseB n B).1).1.s.at (1 : Nat)).char = codeU n 63 ∧ ((chooseB n (chooseB n B).1).1.s.at (0 : Nat)).fa &&& 1 = 1 := by
  have hcn := h.good.cursor
  have hb := n_big B.s
  obtain ⟨q1, q2, q3, q4⟩ := signs_q hn
  have hd1 : desigN n (codeU n 63) = 1 := by unfold desigN; rw [if_neg q3, q1]; rfl
  have hd2 : desigN n (codeU n 62) = 2 := by unfold desigN; rw [if_neg q4, q2]; rfl
  have hw : ∀ s : Sp, s.n = B.s.n → s.at ((0 : Int) + 1) = cellAt s 1 := fun s hs => by
    have := cellAt_at (s := s) (k := 1) (by omega)
    exact this
  have hok : okF B.s B.s.cursor = true := by unfold okF; rw [h.start]; rfl
  have hfof : fofF B.s B.s.cursor = fldAt B.s 0 := by unfold fofF; rw [h.start]; rfl
  have hat : (B.s.at (B.s.cursor : Nat)).attr = false := by rw [at_attr hcn]; exact h.free
  have hkey : chooseB n B = ({ B with s := modS (B.s.put ((0 : Int) + 1) (codeU n 62)) B.s.cursor }, false, 0) ∧ detB (fldAt B.s 0) = true ∧ (fldAt B.s 0).prot = false := by
    have hE : chooseB n B = if detB (fldAt B.s 0) = false then ({ B with lock := 2 }, false, 13) else if (fldAt B.s 0).prot = true then ({ B with lock := 2 }, false, 13) else ({ B with s := modS (B.s.put ((0 : Int) + 1) (codeU n 62)) B.s.cursor }, false, 0) := by
      unfold chooseB
      dsimp only
      rw [hok, hfof, hat, h.start, hw B.s rfl, hc, hd1]
      cases detB (fldAt B.s 0) <;> cases (fldAt B.s 0).prot <;> simp
    rw [hE] at h0 ⊢
    cases hd : detB (fldAt B.s 0)
    · rw [hd] at h0; simp at h0
    · cases hp : (fldAt B.s 0).prot
      · exact ⟨by simp, rfl, rfl⟩
      · rw [hd, hp] at h0; simp at h0
  obtain ⟨hE, hdet, hpr⟩ := hkey
  rw [hE]
  have hp1 : ((0 : Int) + 1) = ((1 : Nat) : Int) := rfl
  have kp := keep_put (KeepA.refl h.good) ((0 : Int) + 1) (codeU n 62)
  have cp : ∀ i, cellAt (B.s.put ((0 : Int) + 1) (codeU n 62)) i = if i = 1 then { cellAt B.s i with char := codeU n 62 } else cellAt B.s i := fun i => cellAt_put h.good (k := 1) (by omega) h.a1 _ i
  have km := keep_mod kp h.good hcn
  have cm := fun i => cellAt_mod kp.same.1 (n := B.s.cursor) (by rw [kp.same.n]; exact hcn) i
  rw [kp.start h.good, h.start] at cm
  have hcur : (modS (B.s.put ((0 : Int) + 1) (codeU n 62)) B.s.cursor).cursor = B.s.cursor := by rw [(mod_same _ _).2.2, (put_same _ _ _).2.2]
  have hst2 : ∀ i, startS (modS (B.s.put ((0 : Int) + 1) (codeU n 62)) B.s.cursor).cells i = startS B.s.cells i := fun i => km.start h.good i
  have hn2 := km.same.n
  have hg2 := km.same.1
  have hca : ∀ i, cellAt (modS (B.s.put ((0 : Int) + 1) (codeU n 62)) B.s.cursor) i = if i = 0 then mk1 (cellAt B.s 0) else if i = 1 then { cellAt B.s 1 with char := codeU n 62 } else cellAt B.s i := fun i => by
    rw [cm, cp]
    by_cases e0 : i = 0
    · subst e0; simp
    · have e0' : ¬ (0 : Int) = (i : Int) := by omega
      by_cases e1 : i = 1
      · subst e1; simp
      · simp [e0, e0', e1]
  have hat2 := km.attr
  generalize modS (B.s.put ((0 : Int) + 1) (codeU n 62)) B.s.cursor = t at *
  have hS : Slc t := ⟨hg2, by rw [hat2]; exact h.a0, by rw [hat2]; exact h.a1, by rw [hcur, hst2]; exact h.start, by rw [hcur, hat2]; exact h.free⟩
  refine ⟨hS, hl, ?_⟩
  have hcn2 := hg2.cursor
  have hok2 : okF t t.cursor = true := by unfold okF; rw [hS.start]; rfl
  have hfof2 : fofF t t.cursor = fldAt t 0 := by unfold fofF; rw [hS.start]; rfl
  have hatc : (t.at (t.cursor : Nat)).attr = false := by rw [at_attr hcn2]; exact hS.free
  have hf0 : fldAt t 0 = fld (mk1 (cellAt B.s 0)).fa := by show fld (cellAt t 0).fa = _; rw [hca, if_pos rfl]
  have hfd : detB (fldAt t 0) = true ∧ (fldAt t 0).prot = false := by
    rw [hf0]
    constructor
    · have := (num_mk1 (cellAt B.s 0)).2
      unfold detB
      rw [this]
      exact hdet
    · rw [prot_mk1]; exact hpr
  have hc1 : t.at ((0 : Int) + 1) = cellAt t 1 := hw t hn2
  have hch1 : (cellAt t 1).char = codeU n 62 := by rw [hca, if_neg (by omega), if_pos rfl]
  have hE2 : chooseB n { B with s := t } = ({ B with s := t.put ((0 : Int) + 1) (codeU n 63) }, false, 0) := by
    unfold chooseB
    dsimp only
    rw [hok2, hfof2, hatc, hS.start, hc1, hch1, hd2, hfd.1, hfd.2]
    simp
  rw [hE2]
  have cp2 : ∀ i, cellAt (t.put ((0 : Int) + 1) (codeU n 63)) i = if i = 1 then { cellAt t i with char := codeU n 63 } else cellAt t i := fun i => cellAt_put hg2 (k := 1) (by omega) hS.a1 _ i
  have hn3 : (t.put ((0 : Int) + 1) (codeU n 63)).n = t.n := by unfold Sp.n Sp.rows Sp.cols; rw [(put_same _ _ _).1, (put_same _ _ _).2.1]
  refine ⟨rfl, ?_, ?_⟩
  · rw [cellAt_at (by rw [hn3]; omega), cp2, if_pos rfl]
  · rw [cellAt_at (by rw [hn3]; omega), cp2, if_neg (by omega), hca, if_pos rfl]
    have := bit_mk1 (cellAt B.s 0)
    unfold bit1 at this
    simpa using this
def slActs (f : UInt8) : List Sp.Act := [{ what := 3, n := 0, on := false, code := f, c := .zero, text := [] }, { what := 3, n := 9, on := false, code := 0, c := .zero, text := [] }, { what := 1, n := 4, on := false, code := 0, c := .zero, text := [] }]
theorem slc_lays (f : UInt8) : Slc (Sp.lays 0 (slActs f)) := by
  have hg := Sp.new_good (m := 2) (by omega)
  have hz : ∀ i, cellAt (Sp.new 2) i = .zero := fun i => by
    unfold cellAt Sp.new Sp.clear
    rw [List.getElem?_replicate]
    split <;> rfl
  have hn : (Sp.new 2).n = 1920 := rfl
  have e : Sp.lays 0 (slActs f) = (((Sp.new 2).set (0 : Nat) { attr := true, fa := f }).set (9 : Nat) { attr := true, fa := 0 }).place 4 := rfl
  rw [e]
  generalize Sp.new 2 = N0 at *
  have g1 := hg.set (0 : Nat) { attr := true, fa := f }
  have g2 := g1.set (9 : Nat) { attr := true, fa := 0 }
  have ha : ∀ i, attrAt (((N0.set (0 : Nat) { attr := true, fa := f }).set (9 : Nat) { attr := true, fa := 0 }).place 4).cells i = (decide (i = 9) || decide (i = 0)) := fun i => by
    show (cellAt ((N0.set (0 : Nat) { attr := true, fa := f }).set (9 : Nat) { attr := true, fa := 0 }) i).attr = _
    rw [cellAt_set g1 (by show 9 < N0.n; omega), cellAt_set hg (by omega), hz]
    by_cases h9 : i = 9
    · simp [h9, fit_attr]
    · by_cases h0 : i = 0
      · simp [h0, fit_attr]
      · simp [h9, h0, Cell.zero]
  have hcur : (((N0.set (0 : Nat) { attr := true, fa := f }).set (9 : Nat) { attr := true, fa := 0 }).place 4).cursor = 4 := by
    show wrap N0.n ((4 : Nat) : Int) = 4
    rw [wrap_of_lt (by omega)]
  refine ⟨g2.place 4, by rw [ha]; rfl, by rw [ha]; rfl, ?_, by rw [hcur, ha]; rfl⟩
  rw [hcur]
  have := lastA_at (l := (((N0.set (0 : Nat) { attr := true, fa := f }).set (9 : Nat) { attr := true, fa := 0 }).place 4).cells) (init := lastA (((N0.set (0 : Nat) { attr := true, fa := f }).set (9 : Nat) { attr := true, fa := 0 }).place 4).cells (-1) (((N0.set (0 : Nat) { attr := true, fa := f }).set (9 : Nat) { attr := true, fa := 0 }).place 4).cells.length) (a := 0) (by rw [ha]; rfl) (m := 5) (by omega) fun j h1 h2 => by rw [ha]; simp; omega
  exact this
theorem slc_put {s : Sp} (h : Slc s) (b : UInt8) : Slc (s.put (1 : Nat) b) ∧ (cellAt (s.put (1 : Nat) b) 1).char = b := by
  have hb := n_big s
  have k := keep_put (KeepA.refl h.good) ((1 : Nat) : Int) b
  have hc := (put_same s ((1 : Nat) : Int) b).2.2
  refine ⟨⟨k.same.1, by rw [k.attr]; exact h.a0, by rw [k.attr]; exact h.a1, by rw [hc, k.start h.good]; exact h.start, by rw [hc, k.attr]; exact h.free⟩, ?_⟩
  rw [cellAt_put h.good (by omega) h.a1, if_pos rfl]
end Go.Proofs.YtlmdbcgceijlnaaGreat
