/-
  The screen as the document has it: cells, fields; in plain Lean.
-/
import Derived.Test.YtegpebaoghmgiaaGreatDoorSPart12
import Derived.Laws.RangeString
import Derived.Laws.RangeAny
set_option linter.unusedSimpArgs false
set_option linter.unusedVariables false
namespace Go.Sp

structure Cell where
  char : UInt8 := 0
  attr : Bool := false
  fa : UInt8 := 0
  high : UInt8 := 0
  color : UInt8 := 0
  set : UInt8 := 0
  deriving DecidableEq, Inhabited
def Cell.zero : Cell := {}
/-- Six bits of an attribute, without the one that means nothing. -/
def six (b : UInt8) : UInt8 := b &&& 0x3d
def fit (c : Cell) : Cell := if c.attr = true then { c with char := 0, fa := six c.fa } else { c with fa := 0 }
theorem six_six (b : UInt8) : six (six b) = six b := by simp [six, UInt8.and_assoc]
theorem fit_fit (c : Cell) : fit (fit c) = fit c := by
  unfold fit
  by_cases h : c.attr = true <;> simp [h, six_six]
def fitted (c : Cell) : Prop := fit c = c
theorem fitted_fit (c : Cell) : fitted (fit c) := fit_fit c
theorem fitted_zero : fitted .zero := rfl

/-- The place of a number. -/
def wrap (n : Nat) (k : Int) : Nat := (k % (n : Int)).toNat
theorem wrap_lt {n : Nat} (h : 0 < n) (k : Int) : wrap n k < n := by
  unfold wrap
  have h1 := Int.emod_nonneg k (show (n : Int) ≠ 0 by omega)
  have h2 := Int.emod_lt_of_pos k (show (0 : Int) < n by omega)
  omega
/-- Rows and columns of a model, of the usual size or of its own. -/
def dims (model : Nat) (alt : Bool) : Nat × Nat := if alt = true then (if model = 3 then (32, 80) else if model = 4 then (43, 80) else if model = 5 then (27, 132) else (24, 80)) else (24, 80)
structure Sp where
  model : Nat
  alt : Bool
  cells : List Cell
  cursor : Nat
def Sp.rows (s : Sp) : Nat := (dims s.model s.alt).1
def Sp.cols (s : Sp) : Nat := (dims s.model s.alt).2
def Sp.n (s : Sp) : Nat := s.rows * s.cols
structure Sp.good (s : Sp) : Prop where
  model : 2 ≤ s.model ∧ s.model ≤ 5
  len : s.cells.length = s.n
  cursor : s.cursor < s.n
  fit : ∀ c ∈ s.cells, fitted c
theorem dims_bound (m : Nat) (a : Bool) : 24 ≤ (dims m a).1 ∧ (dims m a).1 ≤ 43 ∧ 80 ≤ (dims m a).2 ∧ (dims m a).2 ≤ 132 ∧ 1920 ≤ (dims m a).1 * (dims m a).2 ∧ (dims m a).1 * (dims m a).2 ≤ 3564 := by
  unfold dims
  cases a <;> simp
  (repeat' split) <;> simp
theorem Sp.n_pos (s : Sp) : 0 < s.n := by have := dims_bound s.model s.alt; unfold Sp.n Sp.rows Sp.cols; omega
def Sp.clear (s : Sp) (alt : Bool) : Sp := { s with alt := alt, cells := List.replicate ((dims s.model alt).1 * (dims s.model alt).2) .zero, cursor := 0 }
def Sp.new (model : Nat) : Sp := Sp.clear ⟨model, false, [], 0⟩ false
def Sp.at (s : Sp) (k : Int) : Cell := s.cells[wrap s.n k]?.getD .zero
def Sp.put1 (s : Sp) (i : Nat) (c : Cell) : Sp := { s with cells := s.cells.set i c }
def Sp.set (s : Sp) (k : Int) (c : Cell) : Sp := s.put1 (wrap s.n k) (Sp.fit c)
def Sp.put (s : Sp) (k : Int) (code : UInt8) : Sp := if (s.at k).attr = true then s else s.set k { s.at k with char := code }
def Sp.place (s : Sp) (k : Int) : Sp := { s with cursor := wrap s.n k }
/-- How many attributes. -/
def Sp.count (s : Sp) : Nat := s.cells.countP (·.attr)
def Sp.attrs (s : Sp) : List Nat := (List.range s.cells.length).filter fun i => (s.cells[i]?.getD .zero).attr
theorem Sp.clear_good {s : Sp} (h : 2 ≤ s.model ∧ s.model ≤ 5) (alt : Bool) : (s.clear alt).good := by
  have := dims_bound s.model alt
  refine ⟨h, by simp [Sp.clear, Sp.n, Sp.rows, Sp.cols], ?_, fun c hc => ?_⟩
  · show 0 < (dims s.model alt).1 * (dims s.model alt).2; omega
  · simp [Sp.clear] at hc; rw [hc.2]; exact fitted_zero
theorem Sp.n_put1 (s : Sp) (i : Nat) (c : Cell) : (s.put1 i c).n = s.n := rfl
theorem Sp.good.put1 {s : Sp} (h : s.good) (i : Nat) {c : Cell} (hc : fitted c) : (s.put1 i c).good := by
  refine ⟨h.model, by rw [Sp.n_put1]; simp [Sp.put1, h.len], h.cursor, fun d hd => ?_⟩
  rcases List.mem_or_eq_of_mem_set hd with h' | h'
  · exact h.fit d h'
  · rw [h']; exact hc
theorem Sp.good.set {s : Sp} (h : s.good) (k : Int) (c : Cell) : (s.set k c).good := Sp.good.put1 h _ (fitted_fit c)
theorem Sp.good.place {s : Sp} (h : s.good) (k : Int) : (s.place k).good := ⟨h.model, h.len, wrap_lt s.n_pos k, h.fit⟩
theorem Sp.good.put {s : Sp} (h : s.good) (k : Int) (code : UInt8) : (s.put k code).good := by
  unfold Sp.put; split
  · exact h
  · exact Sp.good.set h _ _

/-! ### Ways to make a screen -/
structure Act where
  what : UInt8
  n : Int
  on : Bool
  code : UInt8
  c : Cell
  text : List UInt8
def putAll (s : Sp) (k : Int) : Nat → List UInt8 → Sp
  | _, [] => s
  | i, c :: l => putAll (s.put (k + i) c) k (i + 1) l
def Sp.act (s : Sp) (a : Act) : Sp :=
  if a.what.toNat % 6 = 0 then s.clear a.on else if a.what.toNat % 6 = 1 then s.place a.n else if a.what.toNat % 6 = 2 then s.put a.n a.code else
  if a.what.toNat % 6 = 3 then s.set a.n { attr := true, fa := a.code } else if a.what.toNat % 6 = 4 then s.set a.n a.c else putAll s (wrap s.n a.n) 0 (a.text.take 200)
theorem putAll_good (k : Int) : ∀ (l : List UInt8) (i : Nat) {s : Sp}, s.good → (putAll s k i l).good
  | [], _, _, h => h
  | _ :: l, i, _, h => putAll_good k l (i + 1) (Sp.good.put h _ _)
theorem Sp.good.act {s : Sp} (h : s.good) (a : Act) : (s.act a).good := by
  unfold Sp.act
  (repeat' split)
  · exact Sp.clear_good h.model _
  · exact h.place _
  · exact Sp.good.put h _ _
  · exact Sp.good.set h _ _
  · exact Sp.good.set h _ _
  · exact putAll_good _ _ _ h
def lays (model : UInt8) (acts : List Act) : Sp := (acts.take 30).foldl Sp.act (Sp.new (2 + model.toNat % 4))
end Go.Sp
/-
  Fields of the screen, as the document has them and as one goes from place to place; in plain Lean.
-/
namespace Go.Sp

def attrAt (l : List Cell) (i : Nat) : Bool := (l[i]?.getD .zero).attr
/-- The last attribute ahead of m, or what there was. -/
def lastA (l : List Cell) (init : Int) : Nat → Int
  | 0 => init
  | m + 1 => if attrAt l m = true then (m : Int) else lastA l init m
/-- Of each place the place of its field's attribute. -/
def startS (l : List Cell) (n : Nat) : Int := lastA l (lastA l (-1) l.length) (n + 1)
/-- The places of the field behind an attribute: as many as come ahead of the next one. -/
def run (l : List Cell) (a : Nat) : Nat → Nat
  | 0 => 0
  | m + 1 => if run l a m = m ∧ attrAt l ((a + m + 1) % l.length) = false then m + 1 else run l a m
def len (l : List Cell) (a : Nat) : Nat := run l a (l.length - 1)
def places (l : List Cell) (a : Nat) : List Nat := (List.range (len l a)).map fun i => (a + i + 1) % l.length
/-- The cells behind a place, once round. -/
def rot (l : List Cell) (a : Nat) : List Cell := l.drop (a + 1) ++ l.take a
def fieldCells (l : List Cell) (a : Nat) : List Cell := (rot l a).takeWhile fun c => !c.attr
/-! ### What is told of fields -/
def Sp.modified (s : Sp) : List Nat := s.attrs.filter fun a => (s.cells[a]?.getD .zero).fa &&& 1 == 1
end Go.Sp
/-
  Sizes of screens, places, models: the program's and the document's.
-/
namespace Go.Proofs.YtegpebaoghmgiaaGreatDoor
open Go Go.AL Go.Sp

/-- Rows and columns, as they may be. -/
structure Dim (r c : Nat) : Prop where
  r1 : 1 ≤ r
  r2 : r ≤ 43
  c1 : 1 ≤ c
  c2 : c ≤ 132
  m : r * c ≤ 3564
  p : 0 < r * c
theorem mul_wrap {r c : Nat} (h : Dim r c) : IntKind.i64.wrap ((r : Int) * (c : Int)) = ((r * c : Nat) : Int) := by
  have := h.m
  rw [← Int.natCast_mul, wrap_i64 (by omega) (by omega)]
def dimA (r c : Nat) : AV := .agg [.lit (.int .i64 r), .lit (.int .i64 c)]

theorem tmod_wrap (n : Int) (m : Nat) (h : 0 < m) : n.tmod m = (wrap m n : Int) - if n.tmod m < 0 then (m : Int) else 0 := by
  unfold wrap
  have h1 := Int.emod_nonneg n (show (m : Int) ≠ 0 by omega)
  have h2 := Int.emod_lt_of_pos n (show (0 : Int) < m by omega)
  have h3 := Int.tmod_eq_emod (a := n) (b := m)
  have h4 : ((n % (m : Int)).toNat : Int) = n % m := Int.toNat_of_nonneg h1
  rw [h4]
  rw [h3]
  split
  · simp; omega
  · rename_i hc
    have h5 : ¬ n % (m : Int) = 0 := fun he => hc (.inr (Int.dvd_of_emod_eq_zero he))
    have h6 : (m : Int).natAbs = m := by simp
    rw [h6]
    rw [if_pos (by omega)]

set_option maxRecDepth 4000 in
theorem rest_calls (n : Int) (m : Nat) (h : 0 < m) (hm : m ≤ 1000000) (σ : Store) : ACalls Tryz.prog 58 [.lit (.int .i64 n), .lit (.int .i64 m)] σ fun v σ' => v = .lit (.int .i64 (wrap m n)) ∧ σ' = σ := by
  have ht := tmod_wrap n m h
  have hw := wrap_lt h n
  have h0 : ¬ m = 0 := by omega
  refine ACalls.of_awp follows (st := st58) (plans := pl58) (n := 14) Tryz.func58 rfl (by kernel_rfl) (by kernel_rfl) (by kernel_rfl) ?_
  by_cases hc : n.tmod m < 0
  · rw [if_pos hc] at ht
    have hs : IntKind.i64.wrap (n.tmod m + (m : Int)) = (wrap m n : Int) := by rw [wrap_i64 (by omega) (by omega)]; omega
    simp [h0, hc, hs]
  · rw [if_neg hc] at ht
    have hs : n.tmod m = (wrap m n : Int) := by omega
    rw [hs] at hc
    simp [h0, hc, hs]

set_option maxRecDepth 4000 in
theorem valid_calls {r c : Nat} (h : Dim r c) (σ : Store) : ACalls Tryz.prog 27 [dimA r c] σ fun v σ' => v = .lit (.bool true) ∧ σ' = σ := by
  have hm := mul_wrap h
  obtain ⟨h1, h2, h3, h4, h5, h6⟩ := h
  have k1 : (1 : Int) ≤ r := by omega
  have k2 : (r : Int) ≤ 43 := by omega
  have k3 : (1 : Int) ≤ c := by omega
  have k4 : (c : Int) ≤ 132 := by omega
  have k5 : (((r * c : Nat) : Int)) ≤ 3564 := by omega
  generalize r * c = m at *
  refine ACalls.of_awp follows (st := st27) (plans := pl27) (n := 29) Tryz.func27 rfl (by kernel_rfl) (by kernel_rfl) (by kernel_rfl) ?_
  simp +contextual [dimA, k1, k2, k3, k4, k5, hm]
end Go.Proofs.YtegpebaoghmgiaaGreatDoor
/-
  The document's sizes, places, models; its six bits.
-/
namespace Go.Proofs.YtegpebaoghmgiaaGreatDoor
open Go Go.AL Go.Sp

@[simp] theorem wr3 : IntKind.i64.wrap 3 = 3 := by decide
/-! ### Models -/
def dimM (m : Nat) : AV := dimA (dims m true).1 (dims m true).2
end Go.Proofs.YtegpebaoghmgiaaGreatDoor
/-
  Field attributes' bits: the program's and the document's.
-/
namespace Go.Proofs.YtegpebaoghmgiaaGreatDoor
open Go Go.AL Go.Sp

structure Fld where
  prot : Bool
  num : Bool
  disp : Nat
  mod : Bool
  deriving DecidableEq
def fld (b : UInt8) : Fld := ⟨b &&& 0x20 != 0, b &&& 0x10 != 0, (b.toNat / 4) % 4, b &&& 1 == 1⟩
def fldA (f : Fld) : AV := .agg [.lit (.bool f.prot), .lit (.bool f.num), .lit (.int .i64 f.disp), .lit (.bool f.mod)]
def bitsN (f : Fld) : Nat := 4 * f.disp + (if f.prot = true then 32 else 0) + (if f.num = true then 16 else 0) + (if f.mod = true then 1 else 0)
end Go.Proofs.YtegpebaoghmgiaaGreatDoor
/-
  The document's signs and codes.
-/
namespace Go.Proofs.YtegpebaoghmgiaaGreatDoor
open Go Go.AL

def digN (b : UInt8) : Nat := if 97 ≤ b.toNat then (b - 97).toNat + 10 else (b - 48).toNat
def numTo (s : ByteArray) : Nat → Nat
  | 0 => 0
  | k + 1 => 16 * numTo s k + digN (s.data[k]?.getD 0)
end Go.Proofs.YtegpebaoghmgiaaGreatDoor
/-
  The document's signs, as its strings say.
-/
namespace Go.Proofs.YtegpebaoghmgiaaGreatDoor
open Go Go.AL

def rbase0 : List UInt8 := [48, 48, 48, 48, 48, 48, 48, 49, 48, 48, 48, 50, 48, 48, 48, 51, 48, 48, 57, 99, 48, 48, 48, 57, 48, 48, 56, 54, 48, 48, 55, 102, 48, 48, 57, 55, 48, 48, 56, 100, 48, 48, 56, 101, 48, 48, 48, 98, 48, 48, 48, 99, 48, 48, 48, 100, 48, 48, 48, 101, 48, 48, 48, 102]
def rbase1 : List UInt8 := [48, 48, 49, 48, 48, 48, 49, 49, 48, 48, 49, 50, 48, 48, 49, 51, 48, 48, 57, 100, 48, 48, 56, 53, 48, 48, 48, 56, 48, 48, 56, 55, 48, 48, 49, 56, 48, 48, 49, 57, 48, 48, 57, 50, 48, 48, 56, 102, 48, 48, 49, 99, 48, 48, 49, 100, 48, 48, 49, 101, 48, 48, 49, 102]
def rbase2 : List UInt8 := [48, 48, 56, 48, 48, 48, 56, 49, 48, 48, 56, 50, 48, 48, 56, 51, 48, 48, 56, 52, 48, 48, 48, 97, 48, 48, 49, 55, 48, 48, 49, 98, 48, 48, 56, 56, 48, 48, 56, 57, 48, 48, 56, 97, 48, 48, 56, 98, 48, 48, 56, 99, 48, 48, 48, 53, 48, 48, 48, 54, 48, 48, 48, 55]
def rbase3 : List UInt8 := [48, 48, 57, 48, 48, 48, 57, 49, 48, 48, 49, 54, 48, 48, 57, 51, 48, 48, 57, 52, 48, 48, 57, 53, 48, 48, 57, 54, 48, 48, 48, 52, 48, 48, 57, 56, 48, 48, 57, 57, 48, 48, 57, 97, 48, 48, 57, 98, 48, 48, 49, 52, 48, 48, 49, 53, 48, 48, 57, 101, 48, 48, 49, 97]
def rbase4 : List UInt8 := [48, 48, 50, 48, 48, 48, 97, 48, 48, 48, 101, 50, 48, 48, 101, 52, 48, 48, 101, 48, 48, 48, 101, 49, 48, 48, 101, 51, 48, 48, 101, 53, 48, 48, 101, 55, 48, 48, 102, 49, 48, 48, 97, 50, 48, 48, 50, 101, 48, 48, 51, 99, 48, 48, 50, 56, 48, 48, 50, 98, 48, 48, 55, 99]
def rbase5 : List UInt8 := [48, 48, 50, 54, 48, 48, 101, 57, 48, 48, 101, 97, 48, 48, 101, 98, 48, 48, 101, 56, 48, 48, 101, 100, 48, 48, 101, 101, 48, 48, 101, 102, 48, 48, 101, 99, 48, 48, 100, 102, 48, 48, 50, 49, 48, 48, 50, 52, 48, 48, 50, 97, 48, 48, 50, 57, 48, 48, 51, 98, 48, 48, 97, 99]
def rbase6 : List UInt8 := [48, 48, 50, 100, 48, 48, 50, 102, 48, 48, 99, 50, 48, 48, 99, 52, 48, 48, 99, 48, 48, 48, 99, 49, 48, 48, 99, 51, 48, 48, 99, 53, 48, 48, 99, 55, 48, 48, 100, 49, 48, 48, 97, 54, 48, 48, 50, 99, 48, 48, 50, 53, 48, 48, 53, 102, 48, 48, 51, 101, 48, 48, 51, 102]
def rbase7 : List UInt8 := [48, 48, 102, 56, 48, 48, 99, 57, 48, 48, 99, 97, 48, 48, 99, 98, 48, 48, 99, 56, 48, 48, 99, 100, 48, 48, 99, 101, 48, 48, 99, 102, 48, 48, 99, 99, 48, 48, 54, 48, 48, 48, 51, 97, 48, 48, 50, 51, 48, 48, 52, 48, 48, 48, 50, 55, 48, 48, 51, 100, 48, 48, 50, 50]
def rbase8 : List UInt8 := [48, 48, 100, 56, 48, 48, 54, 49, 48, 48, 54, 50, 48, 48, 54, 51, 48, 48, 54, 52, 48, 48, 54, 53, 48, 48, 54, 54, 48, 48, 54, 55, 48, 48, 54, 56, 48, 48, 54, 57, 48, 48, 97, 98, 48, 48, 98, 98, 48, 48, 102, 48, 48, 48, 102, 100, 48, 48, 102, 101, 48, 48, 98, 49]
def rbase9 : List UInt8 := [48, 48, 98, 48, 48, 48, 54, 97, 48, 48, 54, 98, 48, 48, 54, 99, 48, 48, 54, 100, 48, 48, 54, 101, 48, 48, 54, 102, 48, 48, 55, 48, 48, 48, 55, 49, 48, 48, 55, 50, 48, 48, 97, 97, 48, 48, 98, 97, 48, 48, 101, 54, 48, 48, 98, 56, 48, 48, 99, 54, 48, 48, 97, 52]
def rbase10 : List UInt8 := [48, 48, 98, 53, 48, 48, 55, 101, 48, 48, 55, 51, 48, 48, 55, 52, 48, 48, 55, 53, 48, 48, 55, 54, 48, 48, 55, 55, 48, 48, 55, 56, 48, 48, 55, 57, 48, 48, 55, 97, 48, 48, 97, 49, 48, 48, 98, 102, 48, 48, 100, 48, 48, 48, 100, 100, 48, 48, 100, 101, 48, 48, 97, 101]
def rbase11 : List UInt8 := [48, 48, 53, 101, 48, 48, 97, 51, 48, 48, 97, 53, 48, 48, 98, 55, 48, 48, 97, 57, 48, 48, 97, 55, 48, 48, 98, 54, 48, 48, 98, 99, 48, 48, 98, 100, 48, 48, 98, 101, 48, 48, 53, 98, 48, 48, 53, 100, 48, 48, 97, 102, 48, 48, 97, 56, 48, 48, 98, 52, 48, 48, 100, 55]
def rbase12 : List UInt8 := [48, 48, 55, 98, 48, 48, 52, 49, 48, 48, 52, 50, 48, 48, 52, 51, 48, 48, 52, 52, 48, 48, 52, 53, 48, 48, 52, 54, 48, 48, 52, 55, 48, 48, 52, 56, 48, 48, 52, 57, 48, 48, 97, 100, 48, 48, 102, 52, 48, 48, 102, 54, 48, 48, 102, 50, 48, 48, 102, 51, 48, 48, 102, 53]
def rbase13 : List UInt8 := [48, 48, 55, 100, 48, 48, 52, 97, 48, 48, 52, 98, 48, 48, 52, 99, 48, 48, 52, 100, 48, 48, 52, 101, 48, 48, 52, 102, 48, 48, 53, 48, 48, 48, 53, 49, 48, 48, 53, 50, 48, 48, 98, 57, 48, 48, 102, 98, 48, 48, 102, 99, 48, 48, 102, 57, 48, 48, 102, 97, 48, 48, 102, 102]
def rbase14 : List UInt8 := [48, 48, 53, 99, 48, 48, 102, 55, 48, 48, 53, 51, 48, 48, 53, 52, 48, 48, 53, 53, 48, 48, 53, 54, 48, 48, 53, 55, 48, 48, 53, 56, 48, 48, 53, 57, 48, 48, 53, 97, 48, 48, 98, 50, 48, 48, 100, 52, 48, 48, 100, 54, 48, 48, 100, 50, 48, 48, 100, 51, 48, 48, 100, 53]
def rbase15 : List UInt8 := [48, 48, 51, 48, 48, 48, 51, 49, 48, 48, 51, 50, 48, 48, 51, 51, 48, 48, 51, 52, 48, 48, 51, 53, 48, 48, 51, 54, 48, 48, 51, 55, 48, 48, 51, 56, 48, 48, 51, 57, 48, 48, 98, 51, 48, 48, 100, 98, 48, 48, 100, 99, 48, 48, 100, 57, 48, 48, 100, 97, 48, 48, 57, 102]
def rbaseL : List UInt8 := rbase0 ++ rbase1 ++ rbase2 ++ rbase3 ++ rbase4 ++ rbase5 ++ rbase6 ++ rbase7 ++ rbase8 ++ rbase9 ++ rbase10 ++ rbase11 ++ rbase12 ++ rbase13 ++ rbase14 ++ rbase15
def rothL37 : List UInt8 := []
def rothL273 : List UInt8 := [52, 51, 48, 48, 55, 98, 52, 97, 48, 48, 99, 52, 52, 102, 48, 48, 50, 49, 53, 57, 48, 48, 55, 101, 53, 97, 48, 48, 100, 99, 53, 102, 48, 48, 53, 101, 54, 51, 48, 48, 53, 98, 54, 97, 48, 48, 102, 54, 55, 99, 48, 48, 97, 55, 97, 49, 48, 48, 100, 102, 98, 48, 48, 48, 97, 50, 98, 53, 48, 48, 52, 48, 98, 97, 48, 48, 97, 99, 98, 98, 48, 48, 55, 99, 99, 48, 48, 48, 101, 52, 99, 99, 48, 48, 97, 54, 100, 48, 48, 48, 102, 99, 100, 99, 48, 48, 55, 100, 101, 48, 48, 48, 100, 54, 101, 99, 48, 48, 53, 99, 102, 99, 48, 48, 53, 100]
def rothL297 : List UInt8 := [52, 52, 48, 48, 52, 48, 52, 56, 48, 48, 53, 99, 52, 97, 48, 48, 98, 48, 52, 102, 48, 48, 50, 49, 53, 49, 48, 48, 55, 98, 53, 52, 48, 48, 55, 100, 53, 97, 48, 48, 97, 55, 53, 102, 48, 48, 53, 101, 54, 97, 48, 48, 102, 57, 55, 57, 48, 48, 98, 53, 55, 98, 48, 48, 97, 51, 55, 99, 48, 48, 101, 48, 57, 48, 48, 48, 53, 98, 97, 48, 48, 48, 54, 48, 97, 49, 48, 48, 97, 56, 98, 48, 48, 48, 97, 50, 98, 49, 48, 48, 50, 51, 98, 53, 48, 48, 53, 100, 98, 97, 48, 48, 97, 99, 98, 98, 48, 48, 55, 99, 98, 100, 48, 48, 55, 101, 99, 48, 48, 48, 101, 57, 100, 48, 48, 48, 101, 56, 100, 100, 48, 48, 97, 54, 101, 48, 48, 48, 101, 55]
def rothL500 : List UInt8 := [52, 97, 48, 48, 53, 98, 52, 102, 48, 48, 50, 49, 53, 97, 48, 48, 53, 100, 53, 102, 48, 48, 53, 101, 98, 48, 48, 48, 97, 50, 98, 97, 48, 48, 97, 99, 98, 98, 48, 48, 55, 99]
def rothL1047 : List UInt8 := [53, 102, 48, 48, 53, 101, 97, 100, 48, 48, 53, 98, 98, 48, 48, 48, 97, 99, 98, 97, 48, 48, 100, 100, 98, 98, 48, 48, 97, 56, 98, 100, 48, 48, 53, 100]
def rothL1140 : List UInt8 := [57, 102, 50, 48, 97, 99]
def rothL (n : Int) : List UInt8 := if n = 37 then rothL37 else if n = 273 then rothL273 else if n = 297 then rothL297 else if n = 500 then rothL500 else if n = 1047 then rothL1047 else if n = 1140 then rothL1140 else rothL37
def toB (L : List UInt8) : ByteArray := ⟨L.toArray⟩
def numL (L : List UInt8) : Nat := L.foldl (fun a b => 16 * a + digN b) 0
def numS (s : ByteArray) : Nat := numTo s s.size
def hex4 : List UInt8 → List Nat
  | a :: b :: c :: d :: r => numL [a, b, c, d] :: hex4 r
  | _ => []
def hex6 : List UInt8 → List (Nat × Nat)
  | a :: b :: c :: d :: e :: f :: r => (numL [a, b], numL [c, d, e, f]) :: hex6 r
  | _ => []
/-- The sign of a code. -/
def rsign (n : Int) (c : Nat) : Nat := (((othersF n).find? (fun o => o.1 == c)).map (·.2)).getD (baseL.getD c 0)
end Go.Proofs.YtegpebaoghmgiaaGreatDoor
/-
  The document's sign of a code, and the code of a sign.
-/
namespace Go.Proofs.YtegpebaoghmgiaaGreatDoor
open Go Go.AL

/-- A sign's code, or none. -/
def codeZ (n s : Int) : Int := match codeIx n s with | some j => (j : Nat) | none => -1
end Go.Proofs.YtegpebaoghmgiaaGreatDoor
/-
  A text's codes: the document's.
-/
namespace Go.Proofs.YtegpebaoghmgiaaGreatDoor
open Go Go.AL

theorem widthK_pos (s : ByteArray) (pos : Nat) (h : pos < s.size) : 1 ≤ (Utf8.decode s pos).2 := by
  by_cases ha : (s[pos]'h).toNat < 128
  · rw [decode_ascii s pos h ha]
    exact Nat.le_refl _
  · exact (decode_high s pos h (by omega)).2
theorem sub_put {σ : Store} {g : Nat} (h : σ (mkey g) = none) (X : List AV) : Store.sub σ (σ.put g X) :=
  Store.sub2 (fun o => .inr (by simp)) (fun i => by
    by_cases e : i = g
    · subst e; exact .inl h
    · right; simp [e])
def codesF (n : Int) (t : ByteArray) : Nat → Nat → List UInt8 → List UInt8 × Nat
  | 0, _, acc => (acc, 0)
  | f + 1, pos, acc => if pos < t.size then
      (if (Utf8.decode t pos).1 = 65533 ∧ beg3 (t.extract pos t.size) = false then ([], 4)
       else match codeIx n ((Utf8.decode t pos).1 : Nat) with
        | none => ([], 12)
        | some j => codesF n t f (pos + (Utf8.decode t pos).2) (acc ++ [UInt8.ofNat j]))
    else (acc, 0)
structure CdSt where
  f : Nat
  pos : Nat
  acc : List UInt8
end Go.Proofs.YtegpebaoghmgiaaGreatDoor
/-
  A text's codes by a page.
-/
namespace Go.Proofs.YtegpebaoghmgiaaGreatDoor
open Go Go.AL

theorem pgS_mkey {b g : Nat} {n : Int} {x : Option Nat} {σ : Store} (hx : ¬ x = some g) : (pgS b n x σ) (mkey g) = σ (mkey g) := by
  cases x with
  | none => simp [pgS]
  | some p =>
    have hp : ¬ g = p := fun e => hx (by rw [e])
    simp [pgS, hp]
theorem pgS_mput {b g : Nat} {n : Int} {x : Option Nat} {σ : Store} (hx : ¬ x = some g) (X : List AV) : (pgS b n x σ).put g X = pgS b n x (σ.put g X) := by
  cases x with
  | none => exact Store.ext2 (fun o => by simp [pgS]) (fun i => by simp [pgS])
  | some p =>
    have hp : ¬ g = p := fun e => hx (by rw [e])
    refine Store.ext2 (fun o => by simp [pgS]) (fun i => ?_)
    by_cases e : i = g
    · subst e; simp [pgS, hp]
    · simp [pgS, e]
theorem pgS_mdrop {b g : Nat} {n : Int} {x : Option Nat} {σ : Store} (hx : ¬ x = some g) (hg : σ (mkey g) = none) (X : List AV) : Store.sub (pgS b n x σ) (pgS b n x (σ.put g X)) := by
  rw [← pgS_mput hx]
  exact sub_put (by rw [pgS_mkey hx]; exact hg) X
structure CpSt where
  f : Nat
  pos : Nat
  acc : List UInt8
  x : Option Nat
set_option maxHeartbeats 1000000 in
set_option maxRecDepth 8000 in
theorem pcodes_calls (b : Nat) (n : Int) (hn : isPage n) (x : Option Nat) (t : ByteArray) (ht : t.size ≤ 1000000) (σ : Store) : ACalls Tryz.prog 39 [pgP b, .lit (.string t)] (pgS b n x σ) fun v σ' =>
    (∃ k : Int, v = .tuple [.list true 1 (bytesA (codesF n t t.size 0 []).1), .lit (.int .i64 k), .lit (.int .i64 (codesF n t t.size 0 []).2)]) ∧ ∃ x', NxP σ x x' ∧ σ' = pgS b n x' σ := by
  generalize hT : codesF n t t.size 0 [] = T at *
  refine ACalls.of_awp follows (st := st39) (plans := pl39) (n := 48) Tryz.func39 rfl (by kernel_rfl) (by kernel_rfl) (by kernel_rfl) ?_
  simp
  intro g hg
  have hxg : ¬ x = some g := by
    rintro rfl
    simp [pgS] at hg
  have hσg : σ (mkey g) = none := by rw [pgS_mkey hxg] at hg; exact hg
  rw [pgS_mput hxg]
  refine codeK.loop follows (st := st39) (plans := pl39) (X := CpSt) (fun y => t.size - y.pos ≤ y.f ∧ y.acc.length ≤ y.pos ∧ NxP σ x y.x ∧ ¬ y.x = some g ∧ codesF n t y.f y.pos y.acc = T)
    (fun y => [(0, pgP b), (1, .lit (.string t)), (7, .list true 1 (bytesA y.acc)), (15, .lit (.pointer (some ⟨g, 0, none⟩)))]) (fun y => pgS b n y.x (σ.put g (iterA t y.pos))) (fun y => t.size - y.pos) ⟨t.size, 0, [], x⟩ (by kernel_rfl) ⟨by simp, by simp, .inl rfl, hxg, by simpa using hT⟩ (by simp [bytesA_nil]) (Store.sub_refl _) fun y hy => ?_
  obtain ⟨f, pos, acc, x1⟩ := y
  obtain ⟨h1, h2, hnx, hx1, hTy⟩ := hy
  dsimp only at h1 h2 hnx hx1 hTy ⊢
  have hread : (pgS b n x1 (σ.put g (iterA t pos))) (mkey g) = some (iterA t pos) := by rw [pgS_mkey hx1]; simp
  have hput : ∀ A2, (pgS b n x1 (σ.put g (iterA t pos))).put g A2 = pgS b n x1 (σ.put g A2) := fun A2 => by
    rw [pgS_mput hx1]
    congr 1
    refine Store.ext2 (fun o => by simp) (fun i => ?_)
    by_cases e : i = g <;> simp [e]
  by_cases hlt : pos < t.size
  · have hw := widthK_pos t pos hlt
    obtain ⟨f, rfl⟩ : ∃ f', f = f' + 1 := ⟨f - 1, by omega⟩
    rw [codesF, if_pos hlt] at hTy
    have hcc := code_calls b n hn x1 ((Utf8.decode t pos).1 : Nat) (σ.put g (iterA t (pos + (Utf8.decode t pos).2)))
    have hpf := fun τ => pfx_calls (t.extract pos t.size) (by rw [ByteArray.size_extract]; omega) τ
    have nx2 : ∀ q, NxP (σ.put g (iterA t (pos + (Utf8.decode t pos).2))) x1 (some q) → NxP σ x (some q) ∧ ¬ (some q : Option Nat) = some g := fun q hq => by
      rcases hq with e | ⟨g2, e, hg2⟩
      · rw [e]; exact ⟨hnx, hx1⟩
      · have e2 : q = g2 := Option.some.inj e
        subst e2
        have ne : ¬ q = g := by rintro rfl; simp at hg2
        exact ⟨hnx.trans (.inr ⟨q, rfl, by simpa [ne] using hg2⟩), fun e => ne (Option.some.inj e)⟩
    generalize hdec : (Utf8.decode t pos).1 = r at *
    by_cases hr : r = 65533
    · have hr' : (r : Int) = 65533 := by omega
      have hle : pos ≤ t.size := by omega
      simp [hread, hput, hlt, hdec, hr, hr', hle]
      refine callK.eq (hpf _) ?_
      cases hb : beg3 (t.extract pos t.size)
      · rw [if_pos ⟨hr, hb⟩] at hTy
        rw [← hTy]
        simp [bytesA_nil]
        exact ⟨_, AV.le_refl _, _, pgS_mdrop hx1 hσg _, ⟨_, rfl⟩, x1, hnx, rfl⟩
      · rw [if_neg (fun e => by rw [hb] at e; cases e.2)] at hTy
        subst hr
        simp
        refine callK.of hcc ?_
        rintro v τ ⟨rfl, q, hq, rfl⟩
        obtain ⟨a1, a2⟩ := nx2 q hq
        cases hcx : codeIx n (65533 : Nat) with
        | none =>
          rw [hcx] at hTy
          simp only at hTy
          rw [← hTy]
          simp [bytesA_nil]
          exact ⟨_, AV.le_refl _, _, pgS_mdrop a2 hσg _, ⟨_, rfl⟩, some q, a1, rfl⟩
        | some j =>
          obtain ⟨j1, _⟩ := codeIx_lt hcx
          rw [hcx] at hTy
          simp only at hTy
          have hj : (j : Int) = ((UInt8.ofNat j).toNat : Int) := by rw [UInt8.toNat_ofNat']; omega
          have hap : bytesA (acc ++ [UInt8.ofNat j]) = bytesA acc ++ [.lit (.int .u8 (j : Int))] := by rw [bytesA_append, hj]; rfl
          simp
          refine ⟨by omega, by omega, ⟨f, pos + (Utf8.decode t pos).2, acc ++ [UInt8.ofNat j], some q⟩, ⟨?_, ?_, a1, a2, hTy⟩, ?_, by rw [hap]; exact AV.le_refl _, Store.sub_refl _⟩
          · show t.size ≤ f + (pos + (Utf8.decode t pos).2); omega
          · show (acc ++ [UInt8.ofNat j]).length ≤ pos + (Utf8.decode t pos).2; simp; omega
          · show t.size - (pos + (Utf8.decode t pos).2) < t.size - pos; omega
    · have hr' : ¬ (r : Int) = 65533 := by omega
      rw [if_neg (fun e => hr e.1)] at hTy
      simp [hread, hput, hlt, hdec, hr, hr']
      refine callK.of hcc ?_
      rintro v τ ⟨rfl, q, hq, rfl⟩
      obtain ⟨a1, a2⟩ := nx2 q hq
      cases hcx : codeIx n (r : Nat) with
      | none =>
        rw [hcx] at hTy
        simp only at hTy
        rw [← hTy]
        simp [bytesA_nil]
        exact ⟨_, AV.le_refl _, _, pgS_mdrop a2 hσg _, ⟨_, rfl⟩, some q, a1, rfl⟩
      | some j =>
        obtain ⟨j1, _⟩ := codeIx_lt hcx
        rw [hcx] at hTy
        simp only at hTy
        have hj : (j : Int) = ((UInt8.ofNat j).toNat : Int) := by rw [UInt8.toNat_ofNat']; omega
        have hap : bytesA (acc ++ [UInt8.ofNat j]) = bytesA acc ++ [.lit (.int .u8 (j : Int))] := by rw [bytesA_append, hj]; rfl
        simp
        refine ⟨by omega, by omega, ⟨f, pos + (Utf8.decode t pos).2, acc ++ [UInt8.ofNat j], some q⟩, ⟨?_, ?_, a1, a2, hTy⟩, ?_, by rw [hap]; exact AV.le_refl _, Store.sub_refl _⟩
        · show t.size ≤ f + (pos + (Utf8.decode t pos).2); omega
        · show (acc ++ [UInt8.ofNat j]).length ≤ pos + (Utf8.decode t pos).2; simp; omega
        · show t.size - (pos + (Utf8.decode t pos).2) < t.size - pos; omega
  · have hz : T = (acc, 0) := by
      rw [← hTy]
      cases f with
      | zero => rfl
      | succ f => rw [codesF, if_neg hlt]
    rw [hz]
    simp [hread, hlt]
    exact ⟨_, AV.le_refl _, _, pgS_mdrop hx1 hσg _, ⟨_, rfl⟩, x1, hnx, rfl⟩
end Go.Proofs.YtegpebaoghmgiaaGreatDoor
/-
  An item's looks, as an order.
-/
namespace Go.Proofs.YtegpebaoghmgiaaGreatDoor
open Go Go.AL

structure It where
  row : Int
  col : Int
  f : Fd
  ext : List (UInt8 × UInt8)
  text : ByteArray
  cur : Bool
def itC (i : It) : List AV := [.lit (.int .i64 i.row), .lit (.int .i64 i.col), .lit (.bool i.f.prot), .lit (.bool i.f.num), .lit (.int .i64 i.f.disp), .lit (.bool i.f.mod), .list false 2 (pairsA i.ext), .lit (.string i.text), .lit (.bool i.cur)]
def wrongP (p : UInt8 × UInt8) : Bool := decide (p.1 = 192) || !rightP p
def lookR (i : It) : Op × Nat := if okD i.f = false then ({}, 1) else if i.ext = [] then ({ kind := 29, fa := six (bitsF i.f) }, 0) else if i.ext.any wrongP = true then ({}, 10) else ({ kind := 41, pairs := (192, six (bitsF i.f)) :: i.ext }, 0)
set_option maxHeartbeats 1000000 in
set_option maxRecDepth 8000 in
theorem plooks_calls (i : It) (hx : i.ext.length ≤ 1000) (σ : Store) : ACalls Tryz.prog 38 [.agg (itC i)] σ fun v σ' => v = .tuple [opA (lookR i).1, .lit (.int .i64 (lookR i).2)] ∧ σ' = σ := by
  obtain ⟨row, col, f, ext, text, cur⟩ := i
  dsimp only at hx
  have hb := fun τ => fbyte_calls f τ
  have hfa : fdA f = .agg [.lit (.bool f.prot), .lit (.bool f.num), .lit (.int .i64 f.disp), .lit (.bool f.mod)] := rfl
  rw [hfa] at hb
  unfold itC
  cases hk : okD f
  · have hL : lookR ⟨row, col, f, ext, text, cur⟩ = ({}, 1) := by simp [lookR, hk]
    rw [hL]
    rw [hk] at hb
    refine ACalls.of_awp follows (st := st38) (plans := pl38) (n := 52) Tryz.func38 rfl (by kernel_rfl) (by kernel_rfl) (by kernel_rfl) ?_
    simp +contextual [ite_free]
    intro p hp p2 h1 h2 h3
    refine callK.eq (hb _) ?_
    simp [h1, h2]
    exact ⟨AV.le_refl _, Store.sub_upd h3 (Store.sub_upd hp (Store.sub_refl _))⟩
  · rw [hk] at hb
    simp only [if_true] at hb
    have e6 : byteA (six (bitsF f)) = .lit (.int .u8 ((six (bitsF f)).toNat : Int)) := rfl
    rw [e6] at hb
    by_cases he : ext = []
    · have hL : lookR ⟨row, col, f, ext, text, cur⟩ = ({ kind := 29, fa := six (bitsF f) }, 0) := by simp [lookR, hk, he]
      rw [hL]
      subst he
      have hp0 : pairsA [] = [] := rfl
      generalize six (bitsF f) = SX at *
      refine ACalls.of_awp follows (st := st38) (plans := pl38) (n := 52) Tryz.func38 rfl (by kernel_rfl) (by kernel_rfl) (by kernel_rfl) ?_
      simp +contextual [ite_free]
      intro p hp p2 h1 h2 h3
      refine callK.eq (hb _) ?_
      simp [h1, h2, hp0]
      exact ⟨AV.le_refl _, Store.sub_upd h3 (Store.sub_upd hp (Store.sub_refl _))⟩
    · have hL : lookR ⟨row, col, f, ext, text, cur⟩ = if ext.any wrongP = true then ({}, 10) else ({ kind := 41, pairs := (192, six (bitsF f)) :: ext }, 0) := by simp [lookR, hk, he]
      rw [hL]
      have hel : ¬ ext.length = 0 := fun e => he (List.eq_nil_of_length_eq_zero e)
      generalize six (bitsF f) = SX at *
      refine ACalls.of_awp follows (st := st38) (plans := pl38) (n := 52) Tryz.func38 rfl (by kernel_rfl) (by kernel_rfl) (by kernel_rfl) ?_
      simp +contextual [ite_free]
      intro p hp p2 h1 h2 h3
      refine callK.eq (hb _) ?_
      simp [h1, h2, he, hel]
      have hsub : Store.sub σ ((σ.upd p [.lit (.int .i64 row), .lit (.int .i64 col), .lit (.bool f.prot), .lit (.bool f.num), .lit (.int .i64 f.disp), .lit (.bool f.mod), .list false 2 (pairsA ext), .lit (.string text), .lit (.bool cur)]).upd p2 [.lit (.int .i64 0), .lit (.int .i64 0), .lit (.int .u8 0), .lit (.bool false), .lit (.int .u8 0), .list true 2 [], .list true 1 []]) := Store.sub_upd h3 (Store.sub_upd hp (Store.sub_refl _))
      have y1 : ((σ.upd p [.lit (.int .i64 row), .lit (.int .i64 col), .lit (.bool f.prot), .lit (.bool f.num), .lit (.int .i64 f.disp), .lit (.bool f.mod), .list false 2 (pairsA ext), .lit (.string text), .lit (.bool cur)]).upd p2 [.lit (.int .i64 0), .lit (.int .i64 0), .lit (.int .u8 0), .lit (.bool false), .lit (.int .u8 0), .list true 2 [], .list true 1 []]) p = some [.lit (.int .i64 row), .lit (.int .i64 col), .lit (.bool f.prot), .lit (.bool f.num), .lit (.int .i64 f.disp), .lit (.bool f.mod), .list false 2 (pairsA ext), .lit (.string text), .lit (.bool cur)] := by simp [h1, h2]
      have y2 : ((σ.upd p [.lit (.int .i64 row), .lit (.int .i64 col), .lit (.bool f.prot), .lit (.bool f.num), .lit (.int .i64 f.disp), .lit (.bool f.mod), .list false 2 (pairsA ext), .lit (.string text), .lit (.bool cur)]).upd p2 [.lit (.int .i64 0), .lit (.int .i64 0), .lit (.int .u8 0), .lit (.bool false), .lit (.int .u8 0), .list true 2 [], .list true 1 []]) p2 = some [.lit (.int .i64 0), .lit (.int .i64 0), .lit (.int .u8 0), .lit (.bool false), .lit (.int .u8 0), .list true 2 [], .list true 1 []] := by simp
      generalize ((σ.upd p [.lit (.int .i64 row), .lit (.int .i64 col), .lit (.bool f.prot), .lit (.bool f.num), .lit (.int .i64 f.disp), .lit (.bool f.mod), .list false 2 (pairsA ext), .lit (.string text), .lit (.bool cur)]).upd p2 [.lit (.int .i64 0), .lit (.int .i64 0), .lit (.int .u8 0), .lit (.bool false), .lit (.int .u8 0), .list true 2 [], .list true 1 []]) = Y at *
      have fromY : ∀ c : Nat, Y c = none → σ c = none := fun c hc => by
        rcases hsub c with h | h
        · exact h
        · rw [h]; exact hc
      refine codeK.loop follows (st := st38) (plans := pl38) (X := Nat) (fun i => i ≤ ext.length ∧ ∀ j (hj : j < ext.length), j < i → wrongP ext[j] = false)
        (fun i => [(1, .lit (.pointer (some ⟨p, 0, none⟩))), (2, .lit (.pointer (some ⟨p2, 0, none⟩))), (6, .list true 2 [.agg [.lit (.int .u8 192), .lit (.int .u8 (SX.toNat : Int))]]), (31, .list false 2 (pairsA ext)), (32, .lit (.int .i64 ext.length)), (33, .lit (.int .i64 i))]) (fun _ => Y) (fun i => ext.length - i) 0 (by kernel_rfl) (by simp) (by simp) (Store.sub_refl _) fun i hi => ?_
      obtain ⟨hi, hkk⟩ := hi
      by_cases hlt : i < ext.length
      · have hw : IntKind.i64.wrap ((i : Int) + 1) = ((i + 1 : Nat) : Int) := wrap_i64 (by omega) (by omega)
        have hs := fun τ => check_calls ext[i] τ
        have ha := pairsA_get ext i hlt
        have hga : ∀ h : i < (pairsA ext).length, (pairsA ext)[i]'h = .agg [byteA ext[i].1, byteA ext[i].2] := fun h => by rw [List.getElem?_eq_getElem h] at ha; exact Option.some.inj ha
        have hbad : wrongP ext[i] = true → ext.any wrongP = true := fun h => List.any_eq_true.2 ⟨_, List.getElem_mem hlt, h⟩
        have hno : wrongP ext[i] = false → ∀ j (hj : j < ext.length), j < i + 1 → wrongP ext[j] = false := fun h j hj hji => by
          by_cases e : j = i
          · subst e; exact h
          · exact hkk j hj (by omega)
        generalize ext[i] = z at *
        obtain ⟨z1, z2⟩ := z
        simp only [byteA] at hs ha hga
        by_cases hz : z1 = 192
        · subst hz
          have hwr : wrongP (192, z2) = true := by simp [wrongP]
          rw [hbad hwr]
          simp [hlt, ha, hga]
          intro c hc
          have c2 : ¬ p2 = c := fun e => by subst e; rw [y2] at hc; cases hc
          simp [y2, c2]
          exact ⟨AV.le_refl _, Store.sub_upd h3 (Store.sub_upd (fromY c hc) hsub)⟩
        · have hz' : ¬ (z1.toNat : Int) = 192 := fun e => hz (UInt8.toNat_inj.1 (by show z1.toNat = 192; omega))
          have hzN : ¬ z1.toNat = 192 := fun e => hz' (by omega)
          simp [hlt, ha, hga, hz', hzN]
          intro c hc
          have c2 : ¬ p2 = c := fun e => by subst e; rw [y2] at hc; cases hc
          refine callK.eq (hs _) ?_
          cases hr : rightP (z1, z2)
          · have hwr : wrongP (z1, z2) = true := by simp [wrongP, hr]
            rw [hbad hwr]
            simp [errN, y2, c2, hz', hzN]
            exact ⟨AV.le_refl _, Store.sub_upd h3 (Store.sub_upd (fromY c hc) hsub)⟩
          · have hwr : wrongP (z1, z2) = false := by simp [wrongP, hr, hz]
            simp [errN, hz', hzN]
            exact ⟨i + 1, ⟨by omega, hno hwr⟩, by omega, by rw [hw]; exact AV.le_refl _, Store.sub_upd hc (Store.sub_refl _)⟩
      · obtain rfl : i = ext.length := by omega
        have hall : ext.any wrongP = false := by
          rw [List.any_eq_false]
          intro x hx
          obtain ⟨j, hj, rfl⟩ := List.mem_iff_getElem.1 hx
          rw [hkk j hj hj]; simp
        rw [hall]
        simp [y1, y2]
        refine ⟨by omega, by omega, AV.le_refl _, ?_⟩
        exact Store.sub_upd h3 hsub
end Go.Proofs.YtegpebaoghmgiaaGreatDoor
/-
  A form's control byte.
-/
namespace Go.Proofs.YtegpebaoghmgiaaGreatDoor
open Go Go.AL

def ctlN (r a u : Bool) (i : Nat) : Nat := 64 + (if u = true ∧ 0 < i then 1 else 0) + (if r = true ∧ 1 < i then 2 else 0) + (if a = true ∧ 2 < i then 4 else 0)
set_option maxHeartbeats 4000000 in
set_option maxRecDepth 8000 in
theorem control_calls (vs : List AV) (e al r a u : Bool) (σ : Store) : ACalls Tryz.prog 29 [.agg [.list false 9 vs, .lit (.bool e), .lit (.bool al), .lit (.bool r), .lit (.bool a), .lit (.bool u)]] σ fun v σ' => v = .lit (.int .u8 (ctlN r a u 3 : Nat)) ∧ σ' = σ := by
  have fin : ∀ {p : Nat} {C : List AV}, σ p = none → Store.sub σ (σ.upd p C) := fun h => Store.sub_upd h (Store.sub_refl _)
  refine ACalls.of_awp follows (st := st29) (plans := pl29) (n := 29) Tryz.func29 rfl (by kernel_rfl) (by kernel_rfl) (by kernel_rfl) ?_
  simp
  intro p hp
  refine codeK.loop follows (st := st29) (plans := pl29) (X := Nat) (fun i => i ≤ 3)
    (fun i => [(3, .lit (.int .u8 (ctlN r a u i : Nat))), (15, .list false 2 [.agg [.lit (.bool u), .lit (.int .u8 1)], .agg [.lit (.bool r), .lit (.int .u8 2)], .agg [.lit (.bool a), .lit (.int .u8 4)]]), (16, .lit (.int .i64 3)), (17, .lit (.int .i64 (i : Nat)))]) (fun _ => σ) (fun i => 3 - i) 0 (by kernel_rfl) (by simp) (by simp [ctlN]) (fin hp) fun i hi => ?_
  have hi4 : i = 0 ∨ i = 1 ∨ i = 2 ∨ i = 3 := by omega
  rcases hi4 with rfl | rfl | rfl | rfl
  · cases r <;> cases a <;> cases u <;> simp [ctlN] <;> exact fun c hc => ⟨1, by omega, by omega, by first | exact ⟨le_of_eq rfl, le_of_eq rfl⟩ | exact le_of_eq rfl, Store.sub_upd hc (Store.sub_refl _)⟩
  · cases r <;> cases a <;> cases u <;> simp [ctlN] <;> exact fun c hc => ⟨2, by omega, by omega, by first | exact ⟨le_of_eq rfl, le_of_eq rfl⟩ | exact le_of_eq rfl, Store.sub_upd hc (Store.sub_refl _)⟩
  · cases r <;> cases a <;> cases u <;> simp [ctlN] <;> exact fun c hc => ⟨3, by omega, by omega, by first | exact ⟨le_of_eq rfl, le_of_eq rfl⟩ | exact le_of_eq rfl, Store.sub_upd hc (Store.sub_refl _)⟩
  · simp
end Go.Proofs.YtegpebaoghmgiaaGreatDoor
/-
  A form's command.
-/
namespace Go.Proofs.YtegpebaoghmgiaaGreatDoor
open Go Go.AL
def cmdK (k : Nat) : UInt8 := if k = 1 then 241 else if k = 2 then 245 else 126
set_option maxHeartbeats 1000000 in
set_option maxRecDepth 8000 in
theorem wof_calls (k : Nat) (hk : k = 1 ∨ k = 2 ∨ k = 3) (σ : Store) : ACalls Tryz.prog 51 [.lit (.int .i64 k)] σ fun v σ' => (∃ (s : ByteArray) (z : Int), v = .tuple [.agg [.lit (.string s), .lit (.int .u8 z), .lit (.int .u8 ((cmdK k).toNat : Int))], .lit (.bool true)]) ∧ σ' = σ := by
  refine ACalls.of_awp follows (st := st51) (plans := pl51) (n := 14) Tryz.func51 rfl (by kernel_rfl) (by kernel_rfl) (by kernel_rfl) ?_
  rcases hk with rfl | rfl | rfl
  all_goals
    simp [cmdsO, cmdNames, cmdC]
    exact fun p hp => ⟨_, AV.le_refl _, Store.sub_upd hp (Store.sub_refl _), _, _, rfl⟩
set_option maxRecDepth 8000 in
theorem wbyte_calls (k : Nat) (hk : k = 1 ∨ k = 2 ∨ k = 3) (σ : Store) : ACalls Tryz.prog 37 [.lit (.int .i64 k)] σ fun v σ' => v = .lit (.int .u8 ((cmdK k).toNat : Int)) ∧ σ' = σ := by
  have hw := fun τ => wof_calls k hk τ
  generalize cmdK k = c at *
  refine ACalls.of_awp follows (st := st37) (plans := pl37) (n := 12) Tryz.func37 rfl (by kernel_rfl) (by kernel_rfl) (by kernel_rfl) ?_
  simp
  refine callK.of (hw _) ?_
  rintro v τ ⟨⟨s, z, rfl⟩, rfl⟩
  simp
  exact fun p hp => Store.sub_upd hp (Store.sub_refl _)
set_option maxRecDepth 8000 in
theorem command_calls (vs : List AV) (e al r a u : Bool) (σ : Store) : ACalls Tryz.prog 28 [.agg [.list false 9 vs, .lit (.bool e), .lit (.bool al), .lit (.bool r), .lit (.bool a), .lit (.bool u)]] σ fun v σ' => v = .lit (.int .u8 ((cmdK (if e = true then (if al = true then 3 else 2) else 1)).toNat : Int)) ∧ σ' = σ := by
  have h1 := fun τ => wbyte_calls 1 (.inl rfl) τ
  have h2 := fun τ => wbyte_calls 2 (.inr (.inl rfl)) τ
  have h3 := fun τ => wbyte_calls 3 (.inr (.inr rfl)) τ
  cases e <;> cases al
  all_goals
    simp only [if_true, if_false, Bool.false_eq_true]
    generalize cmdK 1 = c1 at *
    generalize cmdK 2 = c2 at *
    generalize cmdK 3 = c3 at *
    refine ACalls.of_awp follows (st := st28) (plans := pl28) (n := 16) Tryz.func28 rfl (by kernel_rfl) (by kernel_rfl) (by kernel_rfl) ?_
    simp
    intro p hp
    first
      | refine callK.eq (h1 _) ?_
      | refine callK.eq (h2 _) ?_
      | refine callK.eq (h3 _) ?_
    simp
    exact Store.sub_upd hp (Store.sub_refl _)
end Go.Proofs.YtegpebaoghmgiaaGreatDoor
