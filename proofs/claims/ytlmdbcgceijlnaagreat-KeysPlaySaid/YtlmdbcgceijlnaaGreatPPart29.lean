/-
 The plan of `same`, checked node by node.
-/
import Derived.Test.YtlmdbcgceijlnaaGreatPPart28
set_option linter.unusedSimpArgs false
set_option linter.unusedVariables false
set_option maxRecDepth 8000
set_option maxHeartbeats 8000000

namespace Go.Proofs.YtlmdbcgceijlnaaGreat
open Go Go.AL
def plS22_0 : Plan := .alt (Plan.seq [2, 3, 4] .done) (Plan.seq [3, 2, 4] .done)
def plS22_1 : Plan := .alt (Plan.seq [42, 46, 47, 48, 49] .done) (Plan.seq [46, 42, 47, 48, 49] .done)
def plS22_2 : Plan := .alt (Plan.seq [33, 37, 38, 39, 40, 41, 43, 44, 45] plS22_1) (Plan.seq [37, 33, 38, 39, 40, 41, 43, 44, 45] plS22_1)
def plS22_3 : Plan := .alt (Plan.seq [24, 28, 29, 30, 31, 32, 34, 35, 36] plS22_2) (Plan.seq [28, 24, 29, 30, 31, 32, 34, 35, 36] plS22_2)
def plS22_4 : Plan := .alt (Plan.seq [12, 19, 20, 21, 22, 23, 25, 26, 27] plS22_3) (Plan.seq [19, 12, 20, 21, 22, 23, 25, 26, 27] plS22_3)
def plS22_5 : Plan := .alt (Plan.seq [12, 16, 17, 18, 19, 20, 21, 22, 23, 25, 26, 27] plS22_3) (Plan.seq [16, 17, 18] plS22_4)
def plS22_6 : Plan := .alt (Plan.seq [1, 8, 9, 10, 11, 13, 14, 15] plS22_5) (Plan.seq [8, 1, 9, 10, 11, 13, 14, 15] plS22_5)
def plS22_7 : Plan := .alt (Plan.seq [1, 5, 6, 7, 8, 9, 10, 11, 13, 14, 15] plS22_5) (Plan.seq [5, 6, 7] plS22_6)
attribute [simp] plS22_0
@[simp] def plS22 : List (Nat × Plan) := [(4, Plan.seq [0, 1] plS22_0), (7, Plan.seq [0, 2, 3, 4] plS22_7)]
noncomputable def ops22 : Array Oper := (regAll 7 (Tryz.f22.body.getD .skip)).headD #[]
def ldn22 : Array Bool := #[true, true, true, true, true, true, true, true, true, true, true, true, true, true, true, true, true, true, true, true, true, true, true, true, true, true, true, true, true, true, true, true, true, true, true, true, true, true, true, true, true, true, true, true, true, true, true, true, true, true]
def ld22_1 : Array Bool := #[true, true, true, true, true, true, true, true, true, true, true, true, true, true, true, true, true, true, true, true, true, true, true, true, true, true, true, true, true, true, true, true, true, true, true, true, true, true, true, true, true, true, false, true, true, true, false, false, false, false]
theorem nd22_1 : planOk [] ops22 5 ld22_1 plS22_1 = true :=
 planOk_fork (L1 := ldn22) (L2 := ldn22) (f1 := 0) (f2 := 0) (f := 4) (by kernel_rfl) (by kernel_rfl) rfl (by kernel_rfl) (by kernel_rfl) rfl (by kernel_rfl)
def ld22_2 : Array Bool := #[true, true, true, true, true, true, true, true, true, true, true, true, true, true, true, true, true, true, true, true, true, true, true, true, true, true, true, true, true, true, true, true, true, false, true, true, true, false, false, false, false, false, false, false, false, false, false, false, false, false]
theorem nd22_2 : planOk [] ops22 14 ld22_2 plS22_2 = true :=
 planOk_fork (L1 := ld22_1) (L2 := ld22_1) (f1 := 5) (f2 := 5) (f := 13) (by kernel_rfl) (by kernel_rfl) rfl nd22_1 (by kernel_rfl) rfl nd22_1
def ld22_3 : Array Bool := #[true, true, true, true, true, true, true, true, true, true, true, true, true, true, true, true, true, true, true, true, true, true, true, true, false, true, true, true, false, false, false, false, false, false, false, false, false, false, false, false, false, false, false, false, false, false, false, false, false, false]
theorem nd22_3 : planOk [] ops22 23 ld22_3 plS22_3 = true :=
 planOk_fork (L1 := ld22_2) (L2 := ld22_2) (f1 := 14) (f2 := 14) (f := 22) (by kernel_rfl) (by kernel_rfl) rfl nd22_2 (by kernel_rfl) rfl nd22_2
def ld22_4 : Array Bool := #[true, true, true, true, true, true, true, true, true, true, true, true, false, true, true, true, true, true, true, false, false, false, false, false, false, false, false, false, false, false, false, false, false, false, false, false, false, false, false, false, false, false, false, false, false, false, false, false, false, false]
theorem nd22_4 : planOk [] ops22 32 ld22_4 plS22_4 = true :=
 planOk_fork (L1 := ld22_3) (L2 := ld22_3) (f1 := 23) (f2 := 23) (f := 31) (by kernel_rfl) (by kernel_rfl) rfl nd22_3 (by kernel_rfl) rfl nd22_3
def ld22_5 : Array Bool := #[true, true, true, true, true, true, true, true, true, true, true, true, false, true, true, true, false, false, false, false, false, false, false, false, false, false, false, false, false, false, false, false, false, false, false, false, false, false, false, false, false, false, false, false, false, false, false, false, false, false]
theorem nd22_5 : planOk [] ops22 35 ld22_5 plS22_5 = true :=
 planOk_fork (L1 := ld22_3) (L2 := ld22_4) (f1 := 23) (f2 := 32) (f := 34) (by kernel_rfl) (by kernel_rfl) rfl nd22_3 (by kernel_rfl) rfl nd22_4
def ld22_6 : Array Bool := #[true, false, true, true, true, true, true, true, false, false, false, false, false, false, false, false, false, false, false, false, false, false, false, false, false, false, false, false, false, false, false, false, false, false, false, false, false, false, false, false, false, false, false, false, false, false, false, false, false, false]
theorem nd22_6 : planOk [] ops22 43 ld22_6 plS22_6 = true :=
 planOk_fork (L1 := ld22_5) (L2 := ld22_5) (f1 := 35) (f2 := 35) (f := 42) (by kernel_rfl) (by kernel_rfl) rfl nd22_5 (by kernel_rfl) rfl nd22_5
def ld22_7 : Array Bool := #[true, false, true, true, true, false, false, false, false, false, false, false, false, false, false, false, false, false, false, false, false, false, false, false, false, false, false, false, false, false, false, false, false, false, false, false, false, false, false, false, false, false, false, false, false, false, false, false, false, false]
theorem nd22_7 : planOk [] ops22 46 ld22_7 plS22_7 = true :=
 planOk_fork (L1 := ld22_5) (L2 := ld22_6) (f1 := 35) (f2 := 43) (f := 45) (by kernel_rfl) (by kernel_rfl) rfl nd22_5 (by kernel_rfl) rfl nd22_6
theorem top22 : planOk [] ops22 50 (Array.replicate 50 false) (Plan.seq [0, 2, 3, 4] plS22_7) = true :=
 planOk_seq (L' := ld22_7) (f := 46) [0, 2, 3, 4] _ (by kernel_rfl) nd22_7
theorem reg22 : regAll 7 (Tryz.f22.body.getD .skip) = [ops22] := by kernel_rfl
theorem size22 : ops22.size = 50 := by kernel_rfl
theorem ok22 : codeOk [] plS22 77 (Tryz.f22.body.getD .skip) = true :=
 codeOk_but (id := 7) (p := Plan.seq [0, 2, 3, 4] plS22_7) (by kernel_rfl) _ (by kernel_rfl) fun ops ho => by
  rw [reg22, List.mem_singleton] at ho
  rw [ho, size22]
  exact top22
theorem ok_of {st : List Tmp} {pl : List (Nat × Plan)} {n : Nat} {c c' : Code} (h : codeOk st pl n c' = true) (e : c = c') : codeOk st pl n c = true := e ▸ h
end Go.Proofs.YtlmdbcgceijlnaaGreat
namespace Go.Proofs.YtlmdbcgceijlnaaGreat
open Go Go.AL Go.Sp
variable {σ : Store} {k q r b c x y : Nat} {n : Int} {B D : Bd}
theorem kS_upd {z : Nat} (h1 : ¬ z = k) (h2 : ¬ z = q) (h3 : ¬ z = r) (h4 : ¬ z = b) (p : Option Nat) (B : Bd) (X : List AV) : (kS σ k q r b n p B).upd z X = kS (σ.upd z X) k q r b n p B := by
 unfold kS putS
 rw [pgS_upd h4]
 congr 1
 refine Store.ext2 (fun o => ?_) (fun i => by simp)
 simp only [supd_apply]
 by_cases e : o = z
 ·subst e; simp [h1, h2, h3]
 ·simp [e]
theorem plan_elim {P : Program} {st : List Nat} {O : Array Oper} {K : Slots → Store → Prop} {pl : Plan} {A : Slots} {σ : Store} (f : ∀ (O' : Array Oper) (K' : Slots → Store → Prop), O = O' → K = K' → aplan P st O' K' pl A σ) : aplan P st O K pl A σ := f O K rfl rfl
structure Apt (k q r b c x y : Nat) : Prop where
 c : ¬ c = k ∧ ¬ c = q ∧ ¬ c = r ∧ ¬ c = b
 x : ¬ x = k ∧ ¬ x = q ∧ ¬ x = r ∧ ¬ x = b
 y : ¬ y = k ∧ ¬ y = q ∧ ¬ y = r ∧ ¬ y = b
theorem kS_at {z : Nat} (h1 : ¬ z = k ∧ ¬ z = q ∧ ¬ z = r ∧ ¬ z = b) (p : Option Nat) (B : Bd) : (kS σ k q r b n p B) z = σ z := by
 unfold kS
 rw [pgS_other h1.2.2.2]
 simp [putS, h1.1, h1.2.1, h1.2.2.1]
theorem DOk.inK (h : DOk σ c x y n D) (a : Apt k q r b c x y) (p : Option Nat) (B : Bd) : DOk (kS σ k q r b n p B) c x y n D :=
 ⟨by rw [kS_at a.c]; exact h.obj, ⟨by rw [kS_at a.x]; exact h.ref.obj, by rw [kS_at a.y]; exact h.ref.row, h.ref.ne, h.ref.good⟩, h.cx, h.cy⟩
theorem dbS_inK (a : Apt k q r b c x y) (p : Option Nat) (B D : Bd) : dbS (kS σ k q r b n p B) c x y n D = kS (dbS σ c x y n D) k q r b n p B := by
 unfold dbS
 show Store.upd ((Store.upd _ _ _).upd _ _) _ _ = _
 rw [kS_upd a.x.1 a.x.2.1 a.x.2.2.1 a.x.2.2.2, kS_upd a.y.1 a.y.2.1 a.y.2.2.1 a.y.2.2.2, kS_upd a.c.1 a.c.2.1 a.c.2.2.1 a.c.2.2.2]
 rfl
theorem KOk.inD (h : KOk σ k q r b n B) (a : Apt k q r b c x y) (D : Bd) : KOk (dbS σ c x y n D) k q r b n B := by
 have e1 : ¬ r = c := fun e => a.c.2.2.1 e.symm
 have e2 : ¬ r = x := fun e => a.x.2.2.1 e.symm
 have e3 : ¬ r = y := fun e => a.y.2.2.1 e.symm
 exact { h with none := by simp [dbS, putS, e1, e2, e3, h.none] }
theorem same_calls (h : KOk σ k q r b n B) (p : Option Nat) (hd : DOk (kS σ k q r b n p B) c x y n B) : ACalls Tryz.prog 22 [ptrA k, ptrA q, ptrA c] (kS σ k q r b n p B) fun v σ' => v = .lit (.bool true) ∧ σ' = kS σ k q r b n p B := by
 have hP := kS_prg h p
 have hlo := lock_calls h p
 have hin := inserts_calls h p
 have hai := baid_calls h p
 have hcu := cursor_calls hP
 have hal := alt_calls hP
 have ho := hd.obj
 have hx := hd.ref.obj
 have hy := hd.ref.row
 have hg := hP.good
 have hln := hg.len
 have hat := fun τ (hτ : Prg τ q r B.s) (i : Nat) => at_calls hτ (i : Int)
 unfold rbdO at ho
 unfold rfO at hx
 simp only [byteA] at ho hai
 generalize kS σ k q r b n p B = ρ at *
 refine ACalls.of_awp follows (st := st22) (plans := plS22) (n := 77) Tryz.func22 rfl (by kernel_rfl) (by kernel_rfl) (ok_of ok22 (by kernel_rfl)) ?_
 simp [ho, hx, rowC]
 refine codeK.loop follows (st := st22) (plans := plS22) (X := Nat) (fun i => i ≤ B.s.n)
  (fun i => [(0, ptrA k), (1, ptrA q), (2, ptrA c), (15, rowC y B.s.n), (16, .lit (.int .i64 B.s.n)), (17, .lit (.int .i64 i))])
  (fun _ => ρ) (fun i => B.s.n - i) 0 (by kernel_rfl) (by simp) (by simp [rowC]) (Store.sub_refl _) fun i hi => ?_
 by_cases hlt : i < B.s.n
 ·have hw1 : IntKind.i64.wrap ((i : Int) + 1) = ((i + 1 : Nat) : Int) := wrap_i64 (by omega) (by have := B.s.n_le; omega)
  have hic : i < B.s.cells.length := by omega
  have hgj := cellsO_get hic
  have hce : B.s.cells[i] = cellAt B.s i := by unfold cellAt; rw [List.getElem?_eq_getElem hic]; rfl
  have hcx : cellC (cellAt B.s i) = [byteA (cellAt B.s i).char, .lit (.bool (cellAt B.s i).attr), byteA (cellAt B.s i).fa, byteA (cellAt B.s i).high, byteA (cellAt B.s i).color, byteA (cellAt B.s i).set] := rfl
  rw [hce, hcx] at hgj
  have hcl6 := cellsO_length B.s.cells
  have hle6 : i * 6 + 6 ≤ (cellsO B.s.cells).length := by omega
  have hati := fun τ hτ => hat τ hτ i
  rw [cellAt_at hlt, cellA_eq] at hati
  simp only [byteA] at hgj hati
  generalize cellAt B.s i = cl at *
  simp +contextual [hlt, hy, hle6, hgj, rowC]
  intro b1 hb1
  have hP1 := hP.new hb1 [.lit (.int .u8 (cl.char.toNat : Int)), .lit (.bool cl.attr), .lit (.int .u8 (cl.fa.toNat : Int)), .lit (.int .u8 (cl.high.toNat : Int)), .lit (.int .u8 (cl.color.toNat : Int)), .lit (.int .u8 (cl.set.toNat : Int))]
  repeat' first
   | with_reducible apply And.intro
   | (refine callK.eq (hati _ hP1) ?_; simp)
   | exact ⟨i + 1, by omega, by omega, by rw [hw1]; exact AV.le_refl _, Store.sub_upd hb1 (Store.sub_refl _)⟩
 ·obtain rfl : i = B.s.n := by omega
  simp [ho, hx, rowC]
  refine plan_elim fun O K hO hK => ?_
  have h1 : ∀ A : Slots, A 69 = ptrA k → A 68 = .lit (.bool true) → A 73 = .lit (.pointer (some ⟨c, 4, none⟩)) → aplan Tryz.prog [] O K plS22_1 A ρ := by
   intro A a0 a1 a2
   subst hO
   subst hK
   unfold plS22_1
   simp [ho, hx, rowC, a0, a1, a2]
   repeat' first
    | with_reducible apply And.intro
    | (refine callK.eq hai ?_; simp [ho, hx, rowC, a0, a1, a2])
  have h2 : ∀ A : Slots, A 60 = ptrA k → A 64 = .lit (.pointer (some ⟨c, 3, none⟩)) → A 59 = .lit (.bool true) → A 0 = ptrA k → A 2 = ptrA c → aplan Tryz.prog [] O K plS22_2 A ρ := by
   intro A a0 a1 a2 a3 a4
   subst hO
   subst hK
   unfold plS22_2
   simp [ho, hx, rowC, a0, a1, a2, a3, a4]
   repeat' first
    | with_reducible apply And.intro
    | exact h1 _ (by simp [ho, hx, rowC, a0, a1, a2, a3, a4]) (by simp [ho, hx, rowC, a0, a1, a2, a3, a4]) (by simp [ho, hx, rowC, a0, a1, a2, a3, a4])
    | (refine callK.eq hin ?_; simp [ho, hx, rowC, a0, a1, a2, a3, a4])
  have h3 : ∀ A : Slots, A 51 = ptrA k → A 55 = .lit (.pointer (some ⟨c, 2, none⟩)) → A 50 = .lit (.bool true) → A 0 = ptrA k → A 2 = ptrA c → aplan Tryz.prog [] O K plS22_3 A ρ := by
   intro A a0 a1 a2 a3 a4
   subst hO
   subst hK
   unfold plS22_3
   simp [ho, hx, rowC, a0, a1, a2, a3, a4]
   repeat' first
    | with_reducible apply And.intro
    | exact h2 _ (by simp [ho, hx, rowC, a0, a1, a2, a3, a4]) (by simp [ho, hx, rowC, a0, a1, a2, a3, a4]) (by simp [ho, hx, rowC, a0, a1, a2, a3, a4]) (by simp [ho, hx, rowC, a0, a1, a2, a3, a4]) (by simp [ho, hx, rowC, a0, a1, a2, a3, a4])
    | (refine callK.eq hlo ?_; simp [ho, hx, rowC, a0, a1, a2, a3, a4])
  have h4 : ∀ A : Slots, A 39 = ptrA q → A 46 = .lit (.pointer (some ⟨x, 1, none⟩)) → A 38 = .lit (.bool true) → A 0 = ptrA k → A 2 = ptrA c → aplan Tryz.prog [] O K plS22_4 A ρ := by
   intro A a0 a1 a2 a3 a4
   subst hO
   subst hK
   unfold plS22_4
   simp [ho, hx, rowC, a0, a1, a2, a3, a4]
   repeat' first
    | with_reducible apply And.intro
    | exact h3 _ (by simp [ho, hx, rowC, a0, a1, a2, a3, a4]) (by simp [ho, hx, rowC, a0, a1, a2, a3, a4]) (by simp [ho, hx, rowC, a0, a1, a2, a3, a4]) (by simp [ho, hx, rowC, a0, a1, a2, a3, a4]) (by simp [ho, hx, rowC, a0, a1, a2, a3, a4])
    | (refine callK.eq hal ?_; simp [ho, hx, rowC, a0, a1, a2, a3, a4])
  have h5 : ∀ A : Slots, A 39 = ptrA q → A 43 = .lit (.pointer (some ⟨c, 0, none⟩)) → A 38 = .lit (.bool true) → A 0 = ptrA k → A 2 = ptrA c → aplan Tryz.prog [] O K plS22_5 A ρ := by
   intro A a0 a1 a2 a3 a4
   subst hO
   subst hK
   unfold plS22_5
   simp [ho, hx, rowC, a0, a1, a2, a3, a4]
   repeat' first
    | with_reducible apply And.intro
    | exact h3 _ (by simp [ho, hx, rowC, a0, a1, a2, a3, a4]) (by simp [ho, hx, rowC, a0, a1, a2, a3, a4]) (by simp [ho, hx, rowC, a0, a1, a2, a3, a4]) (by simp [ho, hx, rowC, a0, a1, a2, a3, a4]) (by simp [ho, hx, rowC, a0, a1, a2, a3, a4])
    | exact h4 _ (by simp [ho, hx, rowC, a0, a1, a2, a3, a4]) (by simp [ho, hx, rowC, a0, a1, a2, a3, a4]) (by simp [ho, hx, rowC, a0, a1, a2, a3, a4]) (by simp [ho, hx, rowC, a0, a1, a2, a3, a4]) (by simp [ho, hx, rowC, a0, a1, a2, a3, a4])
    | (refine callK.eq hal ?_; simp [ho, hx, rowC, a0, a1, a2, a3, a4])
  have h6 : ∀ A : Slots, A 28 = ptrA q → A 35 = .lit (.pointer (some ⟨x, 5, none⟩)) → A 0 = ptrA k → A 1 = ptrA q → A 2 = ptrA c → aplan Tryz.prog [] O K plS22_6 A ρ := by
   intro A a0 a1 a2 a3 a4
   subst hO
   subst hK
   unfold plS22_6
   simp [ho, hx, rowC, a0, a1, a2, a3, a4]
   repeat' first
    | with_reducible apply And.intro
    | exact h5 _ (by simp [ho, hx, rowC, a0, a1, a2, a3, a4]) (by simp [ho, hx, rowC, a0, a1, a2, a3, a4]) (by simp [ho, hx, rowC, a0, a1, a2, a3, a4]) (by simp [ho, hx, rowC, a0, a1, a2, a3, a4]) (by simp [ho, hx, rowC, a0, a1, a2, a3, a4])
    | (refine callK.eq hcu ?_; simp [ho, hx, rowC, a0, a1, a2, a3, a4])
  have h7 : ∀ A : Slots, A 28 = ptrA q → A 32 = .lit (.pointer (some ⟨c, 0, none⟩)) → A 0 = ptrA k → A 1 = ptrA q → A 2 = ptrA c → aplan Tryz.prog [] O K plS22_7 A ρ := by
   intro A a0 a1 a2 a3 a4
   subst hO
   subst hK
   unfold plS22_7
   simp [ho, hx, rowC, a0, a1, a2, a3, a4]
   repeat' first
    | with_reducible apply And.intro
    | exact h5 _ (by simp [ho, hx, rowC, a0, a1, a2, a3, a4]) (by simp [ho, hx, rowC, a0, a1, a2, a3, a4]) (by simp [ho, hx, rowC, a0, a1, a2, a3, a4]) (by simp [ho, hx, rowC, a0, a1, a2, a3, a4]) (by simp [ho, hx, rowC, a0, a1, a2, a3, a4])
    | exact h6 _ (by simp [ho, hx, rowC, a0, a1, a2, a3, a4]) (by simp [ho, hx, rowC, a0, a1, a2, a3, a4]) (by simp [ho, hx, rowC, a0, a1, a2, a3, a4]) (by simp [ho, hx, rowC, a0, a1, a2, a3, a4]) (by simp [ho, hx, rowC, a0, a1, a2, a3, a4])
    | (refine callK.eq hcu ?_; simp [ho, hx, rowC, a0, a1, a2, a3, a4])
  exact h7 _ (by simp) (by simp) (by simp) (by simp) (by simp)
end Go.Proofs.YtlmdbcgceijlnaaGreat
namespace Go.Proofs.YtlmdbcgceijlnaaGreat
open Go Go.AL Go.Sp
variable {n : Int} {B : Bd}
structure Slc (s : Sp) : Prop where
 good : s.good
 a0 : attrAt s.cells 0 = true
 a1 : attrAt s.cells 1 = false
 start : startS s.cells s.cursor = 0
 free : attrAt s.cells s.cursor = false
def slActs (f : UInt8) : List Sp.Act := [{ what := 3, n := 0, on := false, code := f, c := .zero, text := [] }, { what := 3, n := 9, on := false, code := 0, c := .zero, text := [] }, { what := 1, n := 4, on := false, code := 0, c := .zero, text := [] }]
end Go.Proofs.YtlmdbcgceijlnaaGreat
namespace Go.Proofs.YtlmdbcgceijlnaaGreat
open Go Go.AL Go.Sp
variable {σ : Store} {k q r b c x y : Nat} {n : Int} {B D : Bd}
theorem apt_of (hK : KOk σ k q r b n B) (hd : DOk σ c x y n D) (n1 : σ k = none) (n2 : σ q = none) (n3 : σ b = none) : Apt k q r b c x y := by
 have key : ∀ (o z : Nat) X, σ o = some X → σ z = none → ¬ o = z := fun o z X h1 h2 e => by subst e; rw [h1] at h2; cases h2
 exact ⟨⟨key _ _ _ hd.obj n1, key _ _ _ hd.obj n2, key _ _ _ hd.obj hK.none, key _ _ _ hd.obj n3⟩,
  ⟨key _ _ _ hd.ref.obj n1, key _ _ _ hd.ref.obj n2, key _ _ _ hd.ref.obj hK.none, key _ _ _ hd.ref.obj n3⟩,
  ⟨key _ _ _ hd.ref.row n1, key _ _ _ hd.ref.row n2, key _ _ _ hd.ref.row hK.none, key _ _ _ hd.ref.row n3⟩⟩
theorem dbS_none (hd : DOk σ c x y n D) {o : Nat} (ho : σ o = none) (D2 : Bd) : dbS σ c x y n D2 o = none := by
 have key : ∀ (z : Nat) X, σ z = some X → ¬ o = z := fun z X h1 e => by subst e; rw [ho] at h1; cases h1
 simp [dbS, putS, key _ _ hd.obj, key _ _ hd.ref.obj, key _ _ hd.ref.row, ho]
end Go.Proofs.YtlmdbcgceijlnaaGreat
namespace Go.Proofs.YtlmdbcgceijlnaaGreat
open Go Go.AL Go.Sp
variable {σ : Store} {k q r b c x y : Nat} {n : Int} {B D : Bd}
theorem bcopy_calls (h : KOk σ k q r b n B) (x : Option Nat) (q2 : Nat) : ACalls Tryz.prog 36 [ptrA k, ptrA q2] (kS σ k q r b n x B) fun v σ' => ∃ k2 : Nat, (kS σ k q r b n x B) k2 = none ∧ v = ptrA k2 ∧ σ' = (kS σ k q r b n x B).upd k2 (bdO q2 b B) := by
 have hk := kS_k' h x
 simp only [byteA] at hk
 unfold bdO
 refine aw st36 pl36 17 Tryz.func36 rfl ?_
 simp [hk, byteA]
 intro z hz
 exact ⟨_, AV.le_refl _, _, Store.sub_refl _, z, hz, rfl, rfl⟩
theorem bcopy_nil (h : KOk σ k q r b n B) (x : Option Nat) : ACalls Tryz.prog 36 [ptrA k, .lit (.pointer none)] (kS σ k q r b n x B) fun v σ' => v = .lit (.pointer none) ∧ σ' = kS σ k q r b n x B := by
 refine aw st36 pl36 17 Tryz.func36 rfl ?_
 simp
theorem kS_swap {k2 q2 p2 : Nat} {D : Bd} {x : Option Nat} (h1 : ¬ k2 = k ∧ ¬ k2 = q ∧ ¬ k2 = r) (h2 : ¬ q2 = k ∧ ¬ q2 = q ∧ ¬ q2 = r) (h3 : ¬ p2 = k ∧ ¬ p2 = q ∧ ¬ p2 = r) :
  kS ((putS spO σ q r B.s).upd k (bdO q b B)) k2 q2 p2 b n x D = kS ((putS spO σ q2 p2 D.s).upd k2 (bdO q2 b D)) k q r b n x B := by
 unfold kS
 congr 1
 unfold putS
 refine Store.ext2 (fun o => ?_) (fun i => by simp)
 simp only [supd_apply]
 by_cases e1 : o = k2
 ·subst e1; simp [h1]
 ·by_cases e2 : o = p2
  ·subst e2; simp [h3, e1]
  ·by_cases e3 : o = q2
   ·subst e3; simp [h2, e1, e2]
   ·simp [e1, e2, e3]
theorem DOk.new (h : DOk σ c x y n D) {z : Nat} (hz : σ z = none) (X : List AV) : DOk (σ.upd z X) c x y n D := by
 have h1 : ¬ c = z := fun e => by have := h.obj; rw [e, hz] at this; cases this
 exact ⟨by simp [h1, h.obj], h.ref.new hz X, h.cx, h.cy⟩
theorem DOk.of {τ : Store} (h : DOk σ c x y n D) (h1 : τ c = σ c) (h2 : τ x = σ x) (h3 : τ y = σ y) : DOk τ c x y n D :=
 ⟨by rw [h1]; exact h.obj, ⟨by rw [h2]; exact h.ref.obj, by rw [h3]; exact h.ref.row, h.ref.ne, h.ref.good⟩, h.cx, h.cy⟩
structure PlSt where
 i : Nat
 r : Nat
 x : Option Nat
 y : Nat
 base : Store
 B : Bd
structure PlOk (k q b c xr : Nat) (n : Int) (s : PlSt) : Prop where
 ok : KOk s.base k q s.r b n s.B
 doc : DOk s.base c xr s.y n s.B
 n1 : s.base k = none
 n2 : s.base q = none
 n3 : s.base b = none
theorem PlOk.apt {xr : Nat} {s : PlSt} (h : PlOk k q b c xr n s) : Apt k q s.r b c xr s.y := apt_of h.ok h.doc h.n1 h.n2 h.n3
theorem keysPlay_law (m u : UInt8) (l : List Sp.Act) (ks : List Key) (hl : l.length ≤ 9223372036854775807) (ht : ∀ a ∈ l, a.text.length ≤ 9223372036854775807) (hks : ks.length ≤ 9223372036854775807) (σ : Store) :
  ACalls Tryz.prog 7 [byteA m, byteA u, .list false 11 (actsA l), .list false 3 (keysA ks)] σ fun v _ => v = .lit (.bool true) := by
 have haw := fun τ => awake_calls τ
 have hlay := fun τ => layD_calls m u l hl ht τ
 have hpg := pageN_ok u
 refine aw st7 pl7 146 Tryz.func7 rfl ?_
 generalize pageN u = pn at *
 generalize Sp.lays m l = S0 at *
 simp
 refine callK.eq (haw _) ?_
 simp
 refine callK.of (hlay _) ?_
 rintro v τ ⟨k, q, p, b, c, base, rfl, _, n1, n2, n3, hK0, rfl, xr, yr, hc, hR, _⟩
 have hd0 : DOk base c xr yr pn (newB S0) := by
  refine ⟨hc, hR, fun e => ?_, fun e => ?_⟩
  ·subst e
   have := hR.obj
   rw [hc] at this
   unfold rbdO rfO at this
   simp at this
  ·subst e
   have := hR.row
   rw [hc] at this
   have h5 := congrArg (fun o : Option (List AV) => (o.getD []).length) this
   simp [rbdO, cellsO_length] at h5
   have hl := hR.good.len
   have := n_big S0
   omega
 generalize newB S0 = B0 at *
 simp
 refine codeK.cut (fun e A σ' => e = .exit 0 ∧ ∃ st : PlSt, PlOk k q b c xr pn st ∧ LeL A [(9, ptrA k), (10, ptrA q), (11, ptrA c)] ∧ Store.sub (kS st.base k q st.r b pn st.x st.B) σ') ?_ ?_
 ·refine codeK.loop follows (st := st7) (plans := pl7) (X := PlSt) (fun s => s.i ≤ ks.length ∧ PlOk k q b c xr pn s)
   (fun s => [(9, ptrA k), (10, ptrA q), (11, ptrA c), (30, .list false 3 (keysA ks)), (31, .lit (.int .i64 ks.length)), (32, .lit (.int .i64 s.i))])
   (fun s => kS s.base k q s.r b pn s.x s.B) (fun s => ks.length - s.i) ⟨0, p, none, yr, base, B0⟩ (by kernel_rfl) ⟨by simp, hK0, hd0, n1, n2, n3⟩ (by simp [keysA_len]) (Store.sub_refl _) fun s hs => ?_
  clear hK0 hd0 n1 n2 n3 hc hR
  obtain ⟨hi, hP⟩ := hs
  have hap := hP.apt
  obtain ⟨hK, hd, n1, n2, n3⟩ := hP
  obtain ⟨i, r, x, y, base, B⟩ := s
  dsimp only at hi hK hd n1 n2 n3 hap ⊢
  by_cases hlt : i < ks.length
  ·have ha := keysA_at ks i hlt
   have hw1 : IntKind.i64.wrap ((i : Int) + 1) = ((i + 1 : Nat) : Int) := wrap_i64 (by omega) (by omega)
   generalize ks[i] = K at ha
   by_cases h30 : i < 30
   ·have h30' : ¬ (30 : Int) ≤ i := by omega
    simp [hlt, ha, keyA, keyC, h30']
    intro z hz
    have f := kS_free hK hz
    simp only [kS_new f]
    have hbz : base z = none := f.free
    have hK1 := f.ok hK (keyC K)
    have hd1 := hd.new hbz (keyC K)
    have m1 : (base.upd z (keyC K)) k = none := by have := f.k; simp [Ne.symm this, n1]
    have m2 : (base.upd z (keyC K)) q = none := by have := f.q; simp [Ne.symm this, n2]
    have m3 : (base.upd z (keyC K)) b = none := by have := f.b; simp [Ne.symm this, n3]
    have hzz : (base.upd z (keyC K)) z = some (keyC K) := by simp
    have hzk := f.k
    have hzq := f.q
    have hzb := f.b
    simp only [keyC] at hK1 hd1 m1 m2 m3 hzz
    clear hz hbz f hK hd n1 n2 n3 hap
    generalize base.upd z [.lit (.int .i64 K.kind), .lit (.int .i32 K.sign), .lit (.int .i64 K.num)] = base1 at *
    have hap1 := apt_of hK1 hd1 m1 m2 m3
    have hz1 := fun r x B (h : KOk base1 k q r b pn B) => kS_base h x hzz hzk hzq hzb
    have hob1 := fun r x B2 (h : KOk base1 k q r b pn B2) (a : Apt k q r b c xr y) => (hd1.inK a x B2).obj
    unfold rbdO at hob1
    simp only [byteA] at hob1
    have hz2 := hz1 r x B hK1
    have hob2 := hob1 r x B hK1 hap1
    by_cases e1 : K.kind = -1
    ·have hre := restore_calls hK1 x
     have hK2 : KOk base1 k q r b pn { B with lock := 0, aid := 0x60 } := hK1.s hK1.good
     have hob3 := hob1 r x _ hK2 hap1
     have hbd := dbS_bd hd1 0 B.ins 0x60
     have hK3 := hK2.inD hap1 { B with lock := 0, aid := 0x60 }
     have hd3 := hd1.up (D2 := { B with lock := 0, aid := 0x60 }) hK1.good
     have p1 := dbS_none hd1 m1 { B with lock := 0, aid := 0x60 }
     have p2 := dbS_none hd1 m2 { B with lock := 0, aid := 0x60 }
     have p3 := dbS_none hd1 m3 { B with lock := 0, aid := 0x60 }
     have e96 : (((0x60 : UInt8).toNat : Nat) : Int) = 96 := rfl
     rw [e96] at hbd
     simp [hz2, e1]
     refine callK.eq hre ?_
     simp [hob3]
     rw [kS_upd hap1.c.1 hap1.c.2.1 hap1.c.2.2.1 hap1.c.2.2.2, hbd]
     exact ⟨⟨i + 1, r, x, y, _, _⟩, ⟨by show i + 1 ≤ _; omega, hK3, hd3, p1, p2, p3⟩, by show _ - (i + 1) < _ - i; omega, by simp [hw1], Store.sub_refl _⟩
    by_cases e2 : K.kind = -2
    ·have hre := wait_calls hK1 x
     have hK2 : KOk base1 k q r b pn { B with lock := 1 } := hK1.s hK1.good
     have hob3 := hob1 r x _ hK2 hap1
     have hbd := dbS_bd hd1 1 B.ins B.aid
     have hK3 := hK2.inD hap1 { B with lock := 1 }
     have hd3 := hd1.up (D2 := { B with lock := 1 }) hK1.good
     have p1 := dbS_none hd1 m1 { B with lock := 1 }
     have p2 := dbS_none hd1 m2 { B with lock := 1 }
     have p3 := dbS_none hd1 m3 { B with lock := 1 }
     simp [hz2, e1, e2]
     refine callK.eq hre ?_
     simp [hob3]
     rw [kS_upd hap1.c.1 hap1.c.2.1 hap1.c.2.2.1 hap1.c.2.2.2, hbd]
     exact ⟨⟨i + 1, r, x, y, _, _⟩, ⟨by show i + 1 ≤ _; omega, hK3, hd3, p1, p2, p3⟩, by show _ - (i + 1) < _ - i; omega, by simp [hw1], Store.sub_refl _⟩
    have e1' : ¬ (-1 : Int) = K.kind := fun e => e1 e.symm
    have e2' : ¬ (-2 : Int) = K.kind := fun e => e2 e.symm
    have hpr := press_calls hK1 x K
    simp only [keyA, keyC] at hpr
    simp [hz2, e1, e2]
    refine callK.of hpr ?_
    rintro v τ ⟨rfl, r2, x2, hK2, nx2, eτ⟩
    rw [eτ]
    clear eτ τ hpr
    have hg2 := hK2.good
    have hap2 := apt_of hK2 hd1 m1 m2 m3
    have hz3 := hz1 r2 x2 _ hK2
    have hdp := rpress_calls (hd1.inK hap2 x2 (pressB pn B K).1) hpg K
    simp only [keyA, keyC] at hdp
    generalize pressB pn B K = P at *
    simp [hz3]
    refine callK.of hdp ?_
    rintro v τ ⟨rfl, y2, hy2, eτ⟩
    rw [eτ]
    clear eτ τ hdp
    have hby : y2 = y ∨ (base1 y2 = none ∧ ¬ y2 = k ∧ ¬ y2 = q ∧ ¬ y2 = r2 ∧ ¬ y2 = b) := by
     rcases hy2 with h | h
     ·exact .inl h
     ·have f := kS_free hK2 h
      exact .inr ⟨f.free, f.k, f.q, f.r, f.b⟩
    have hap3 : Apt k q r2 b c xr y2 := by
     rcases hby with rfl | ⟨_, h⟩
     ·exact hap2
     ·exact ⟨hap2.c, hap2.x, h⟩
    have hd3 : DOk (dbS base1 c xr y2 pn P.1) c xr y2 pn P.1 := by
     rcases hby with rfl | ⟨h, _⟩
     ·exact hd1.up hg2
     ·exact hd1.row h hg2
    rw [dbS_inK hap3]
    have hK3 := hK2.inD hap3 P.1
    have hn3 : ∀ o : Nat, base1 o = none → ¬ o = y2 → (dbS base1 c xr y2 pn P.1) o = none := fun o ho hoy => by
     have h1 : ¬ o = c := fun e => by subst e; have := hd1.obj; rw [ho] at this; cases this
     have h2 : ¬ o = xr := fun e => by subst e; have := hd1.ref.obj; rw [ho] at this; cases this
     simp [dbS, putS, h1, h2, hoy, ho]
    have p1 := hn3 k m1 (fun e => hap3.y.1 e.symm)
    have p2 := hn3 q m2 (fun e => hap3.y.2.1 e.symm)
    have p3 := hn3 b m3 (fun e => hap3.y.2.2.2 e.symm)
    generalize dbS base1 c xr y2 pn P.1 = base2 at *
    have hob3 := (hd3.inK hap3 x2 P.1).obj
    have hox3 := (hd3.inK hap3 x2 P.1).ref.obj
    unfold rbdO at hob3
    unfold rfO at hox3
    have hlo := lock_calls hK3 x2
    have hin := inserts_calls hK3 x2
    have hai := baid_calls hK3 x2
    have hcu := cursor_calls (kS_prg hK3 x2)
    simp only [byteA] at hob3 hai
    have hend : ∃ x_1 : PlSt, (x_1.i ≤ ks.length ∧ PlOk k q b c xr pn x_1) ∧ ks.length - x_1.i < ks.length - i ∧ x_1.i = i + 1 ∧ kS x_1.base k q x_1.r b pn x_1.x x_1.B = kS base2 k q r2 b pn x2 P.1 :=
     ⟨⟨i + 1, r2, x2, y2, base2, P.1⟩, ⟨by show i + 1 ≤ _; omega, hK3, hd3, p1, p2, p3⟩, by show _ - (i + 1) < _ - i; omega, rfl, rfl⟩
    generalize kS base2 k q r2 b pn x2 P.1 = ρ at *
    clear hK2 hap2 hz3 hz1 hob1 hd1 hK1 hn3 hby hy2 hob2 hz2
    simp [hob3, hox3]
    repeat' first
     | with_reducible apply And.intro
     | (refine callK.eq hlo ?_; simp [hob3, hox3])
     | (refine callK.eq hin ?_; simp [hob3, hox3])
     | (refine callK.eq hai ?_; simp [hob3, hox3])
     | (refine callK.eq hcu ?_; simp [hob3, hox3])
    all_goals
     obtain ⟨s2, h1, h2, h3, h4⟩ := hend
     exact ⟨s2, h1, h2, by simp [h3, hw1], by rw [h4]; exact Store.sub_refl _⟩
   ·have h30' : (30 : Int) ≤ i := by omega
    simp [hlt, ha, keyA, keyC, h30']
    intro z hz
    have f := kS_free hK hz
    exact ⟨⟨i, r, x, y, base, B⟩, ⟨hK, hd, n1, n2, n3⟩, sub_upd_self _ _ _ hz⟩
  ·obtain rfl : i = ks.length := by omega
   simp
   exact ⟨⟨0, r, x, y, base, B⟩, ⟨hK, hd, n1, n2, n3⟩, Store.sub_refl _⟩
 rintro e A' σ2 ⟨rfl, st, hP, hA, hσp⟩
 refine View.leL hA (View.sub hσp (View.here ?_))
 clear hA hσp hK0 hd0 n1 n2 n3 hc hR
 have hap := hP.apt
 obtain ⟨hK, hd, n1, n2, n3⟩ := hP
 obtain ⟨i, r, x, y, base, B⟩ := st
 dsimp only at hK hd n1 n2 n3 hap ⊢
 have hcp := kcopy_calls hK x
 simp
 refine callK.of hcp ?_
 rintro v τ ⟨q2, p2, rfl, f1, f2, hne, hK3, ho, eτ⟩
 rw [eτ]
 clear eτ τ hcp
 have hbc := bcopy_calls hK3 x q2
 simp
 refine callK.of hbc ?_
 rintro v τ ⟨k2, hk2, rfl, eτ⟩
 rw [eτ]
 clear eτ τ hbc
 have f3 := kS_free hK3 hk2
 have hk2b : base k2 = none ∧ ¬ k2 = q2 ∧ ¬ k2 = p2 := by
  have h1 := f3.free
  have h2 : ¬ k2 = p2 := fun e => by subst e; simp [putS] at h1
  have h3 : ¬ k2 = q2 := fun e => by subst e; simp [putS, hne] at h1
  exact ⟨by simpa [putS, h2, h3] using h1, h3, h2⟩
 obtain ⟨hb2, hkq2, hkp2⟩ := hk2b
 rw [kS_upd f3.k f3.q f3.r f3.b]
 have s1 : ¬ k2 = k ∧ ¬ k2 = q ∧ ¬ k2 = r := ⟨f3.k, f3.q, f3.r⟩
 have s2 : ¬ q2 = k ∧ ¬ q2 = q ∧ ¬ q2 = r := ⟨f1.k, f1.q, f1.r⟩
 have s3 : ¬ p2 = k ∧ ¬ p2 = q ∧ ¬ p2 = r := ⟨f2.k, f2.q, f2.r⟩
 have hsw := kS_swap (σ := base) (B := B) (D := B) (b := b) (n := pn) (x := x) s1 s2 s3
 rw [← hsw]
 have hK4 : KOk ((putS spO base q r B.s).upd k (bdO q b B)) k2 q2 p2 b pn B :=
  ⟨hkq2, hkp2, f3.b, hne, f1.b, f2.b, by simp [putS, s3, f2.free], hK.page, hK.good⟩
 have hd4 : DOk ((putS spO base q r B.s).upd k (bdO q b B)) c xr y pn B :=
  hd.of (by simp [putS, hap.c]) (by simp [putS, hap.x]) (by simp [putS, hap.y])
 have hne2 : ∀ o z : Nat, ∀ X, base o = some X → base z = none → ¬ o = z := fun o z X h1 h2 e => by subst e; rw [h1] at h2; cases h2
 have hap4 : Apt k2 q2 p2 b c xr y :=
  ⟨⟨hne2 _ _ _ hd.obj hb2, hne2 _ _ _ hd.obj f1.free, hne2 _ _ _ hd.obj f2.free, hap.c.2.2.2⟩,
   ⟨hne2 _ _ _ hd.ref.obj hb2, hne2 _ _ _ hd.ref.obj f1.free, hne2 _ _ _ hd.ref.obj f2.free, hap.x.2.2.2⟩,
   ⟨hne2 _ _ _ hd.ref.row hb2, hne2 _ _ _ hd.ref.row f1.free, hne2 _ _ _ hd.ref.row f2.free, hap.y.2.2.2⟩⟩
 have hback : ∀ (p3 : Nat) (x3 : Option Nat) (D3 : Bd), KOk ((putS spO base q r B.s).upd k (bdO q b B)) k2 q2 p3 b pn D3 →
   ∃ σ3, kS ((putS spO base q r B.s).upd k (bdO q b B)) k2 q2 p3 b pn x3 D3 = kS σ3 k q r b pn x3 B ∧ KOk σ3 k q r b pn B ∧ DOk σ3 c xr y pn B := fun p3 x3 D3 h3 => by
  have hp3 := h3.none
  have t1 : ¬ p3 = k := fun e => by subst e; simp at hp3
  have t2 : ¬ p3 = r := fun e => by subst e; simp [putS, t1] at hp3
  have t3 : ¬ p3 = q := fun e => by subst e; simp [putS, t1, t2] at hp3
  have t4 : base p3 = none := by simpa [putS, t1, t2, t3] using hp3
  refine ⟨_, kS_swap s1 s2 ⟨t1, t3, t2⟩, { hK with none := ?_ }, hd.of ?_ ?_ ?_⟩
  ·simp [putS, Ne.symm s1.2.2, Ne.symm s2.2.2, Ne.symm t2, hK.none]
  ·simp [putS, hap4.c.1, hap4.c.2.1, hne2 _ _ _ hd.obj t4]
  ·simp [putS, hap4.x.1, hap4.x.2.1, hne2 _ _ _ hd.ref.obj t4]
  ·simp [putS, hap4.y.1, hap4.y.2.1, hne2 _ _ _ hd.ref.row t4]
 have hnil : ∀ (x3 : Option Nat), ∃ σ3, kS ((putS spO base q r B.s).upd k (bdO q b B)) k2 q2 p2 b pn x3 B = kS σ3 k q r b pn x3 B ∧ KOk σ3 k q r b pn B ∧ DOk σ3 c xr y pn B := fun x3 => hback p2 x3 B hK4
 generalize (putS spO base q r B.s).upd k (bdO q b B) = σ2 at *
 have hsm := same_calls hK4 x (hd4.inK hap4 x B)
 simp
 refine callK.of hsm ?_
 rintro v τ ⟨rfl, eτ⟩
 rw [eτ]
 clear eτ τ hsm
 obtain ⟨σ3, e3, hK5, hd5⟩ := hnil x
 have hbn := bcopy_nil hK5 x
 rw [← e3] at hbn
 simp
 refine callK.of hbn ?_
 rintro v τ ⟨rfl, eτ⟩
 rw [eτ]
 clear eτ τ hbn e3 hK5 hd5 σ3
 have hp1 := press_calls hK4 x ⟨17, 0, 0⟩
 simp only [keyA, keyC] at hp1
 simp
 refine callK.of hp1 ?_
 rintro v τ ⟨rfl, r1, x1, hK6, nx6, eτ⟩
 rw [eτ]
 clear eτ τ hp1
 have hp1 := press_calls hK6 x1 ⟨12, 0, 0⟩
 simp only [keyA, keyC] at hp1
 generalize (pressB pn B ⟨17, 0, 0⟩).1 = B6 at *
 simp
 refine callK.of hp1 ?_
 rintro v τ ⟨rfl, r2, x2, hK7, nx7, eτ⟩
 rw [eτ]
 clear eτ τ hp1
 have hp1 := press_calls hK7 x2 ⟨16, 0, 0⟩
 simp only [keyA, keyC] at hp1
 generalize (pressB pn B6 ⟨12, 0, 0⟩).1 = B7 at *
 simp
 refine callK.of hp1 ?_
 rintro v τ ⟨rfl, r3, x3, hK8, nx8, eτ⟩
 rw [eτ]
 clear eτ τ hp1
 generalize (pressB pn B7 ⟨16, 0, 0⟩).1 = B8 at *
 obtain ⟨σ3, e3, hK5, hd5⟩ := hback r3 x3 B8 hK8
 rw [e3]
 have hap5 : Apt k q r b c xr y := hap
 have hsm := same_calls hK5 x3 (hd5.inK hap5 x3 B)
 simp
 refine callK.of hsm ?_
 rintro v τ ⟨rfl, eτ⟩
 rw [eτ]
 clear eτ τ hsm
 simp
 exact ⟨_, Store.sub_refl _⟩
end Go.Proofs.YtlmdbcgceijlnaaGreat
namespace Go.Proofs.YtlmdbcgceijlnaaGreat
open Go Go.AL Go.Sp
theorem open_bytes : Opens Tryz.prog 22 (fun l : List UInt8 => [.list false 1 (bytesA l)]) (fun l => l.length ≤ maxLen) :=
 (Opens.slice Tryz.underlying22 (sz := 1) (by kernel_rfl) (by omega) (Opens.u8 Tryz.underlying5) byteA (fun _ => rfl) (fun _ => rfl)).by id fun _ h => ⟨h.1, rfl⟩
theorem open_cell : Opens Tryz.prog 26 (fun c : Cell => cellC c) (fun _ => True) :=
 (Opens.struct (total := 6) Tryz.underlying26 (by kernel_rfl)
  (.cons (k := 1) rfl (by kernel_rfl) (by omega) (Opens.u8 Tryz.underlying5) (.cons (k := 1) rfl (by kernel_rfl) (by omega) (Opens.bool Tryz.underlying4) (.cons (k := 1) rfl (by kernel_rfl) (by omega) (Opens.u8 Tryz.underlying5)
   (.cons (k := 1) rfl (by kernel_rfl) (by omega) (Opens.u8 Tryz.underlying5) (.cons (k := 1) rfl (by kernel_rfl) (by omega) (Opens.u8 Tryz.underlying5) (.cons (k := 1) rfl (by kernel_rfl) (by omega) (Opens.u8 Tryz.underlying5) .nil))))))).by
  (fun x => ⟨x.1, x.2.1, x.2.2.1, x.2.2.2.1, x.2.2.2.2.1, x.2.2.2.2.2.1⟩) fun _ _ => ⟨trivial, rfl⟩
theorem open_act : Opens Tryz.prog 28 (fun a : Sp.Act => actC a) (fun a => a.text.length ≤ maxLen) :=
 (Opens.struct (total := 11) Tryz.underlying28 (by kernel_rfl)
  (.cons (k := 1) rfl (by kernel_rfl) (by omega) (Opens.u8 Tryz.underlying5) (.cons (k := 1) rfl (by kernel_rfl) (by omega) (Opens.i64 Tryz.underlying3) (.cons (k := 1) rfl (by kernel_rfl) (by omega) (Opens.bool Tryz.underlying4)
   (.cons (k := 1) rfl (by kernel_rfl) (by omega) (Opens.u8 Tryz.underlying5) (.cons (k := 6) rfl (by kernel_rfl) (by omega) open_cell (.cons (k := 1) rfl (by kernel_rfl) (by omega) open_bytes .nil))))))).by
  (fun x => ⟨x.1, x.2.1, x.2.2.1, x.2.2.2.1, x.2.2.2.2.1, x.2.2.2.2.2.1⟩) fun _ h => ⟨h.2.2.2.2.2.1, rfl⟩
theorem open_acts : Opens Tryz.prog 29 (fun l : List Sp.Act => [.list false 11 (actsA l)]) (fun l => l.length ≤ maxLen ∧ ∀ a ∈ l, a.text.length ≤ maxLen) :=
 Opens.slice Tryz.underlying29 (by kernel_rfl) (by omega) open_act actA (fun _ => rfl) (fun _ => rfl)
theorem open_key : Opens Tryz.prog 46 (fun K : Key => keyC K) (fun _ => True) :=
 (Opens.struct (total := 3) Tryz.underlying46 (by kernel_rfl)
  (.cons (k := 1) rfl (by kernel_rfl) (by omega) (Opens.i64 Tryz.underlying3) (.cons (k := 1) rfl (by kernel_rfl) (by omega) (Opens.int (k := .i32) Tryz.underlying21) (.cons (k := 1) rfl (by kernel_rfl) (by omega) (Opens.i64 Tryz.underlying3) .nil)))).by
  (fun x => ⟨x.1, x.2.1, x.2.2.1⟩) fun _ _ => ⟨trivial, rfl⟩
theorem open_keys : Opens Tryz.prog 23 (fun l : List Key => [.list false 3 (keysA l)]) (fun l => l.length ≤ maxLen) :=
 (Opens.slice Tryz.underlying23 (by kernel_rfl) (by omega) open_key keyA (fun _ => rfl) (fun _ => rfl)).by id fun _ h => ⟨h.1, rfl⟩
end Go.Proofs.YtlmdbcgceijlnaaGreat
