/-
 The document's signs and codes.
-/
import Derived.Test.YtlmdbcgceijlnaaGreatPPart20
set_option linter.unusedSimpArgs false
set_option linter.unusedVariables false
set_option maxRecDepth 8000
set_option maxHeartbeats 8000000

namespace Go.Proofs.YtlmdbcgceijlnaaGreat
open Go Go.AL
def digN (b : UInt8) : Nat := if 97 ≤ b.toNat then (b - 97).toNat + 10 else (b - 48).toNat
def numTo (s : ByteArray) : Nat → Nat
 | 0 => 0
 | k + 1 => 16 * numTo s k + digN (s.data[k]?.getD 0)
theorem digN_le (b : UInt8) : digN b ≤ 265 := all_bytes (p := fun b => digN b ≤ 265) (by decide +kernel) b
theorem numTo_le (s : ByteArray) (k : Nat) (h : k ≤ 4) : numTo s k ≤ 1200000 := by
 have hd := fun j : Nat => digN_le (s.data[j]?.getD 0)
 have h1 : numTo s 1 ≤ 265 := by have := hd 0; simp only [numTo]; omega
 have h2 : numTo s 2 ≤ 4505 := by have := hd 1; rw [numTo]; omega
 have h3 : numTo s 3 ≤ 72345 := by have := hd 2; rw [numTo]; omega
 have h4 : numTo s 4 ≤ 1157785 := by have := hd 3; rw [numTo]; omega
 rcases (by omega : k = 0 ∨ k = 1 ∨ k = 2 ∨ k = 3 ∨ k = 4) with rfl | rfl | rfl | rfl | rfl
 ·simp [numTo]
 all_goals omega
theorem sub48 (b : UInt8) : IntKind.u8.wrap ((b.toNat : Int) - 48) = ((b - 48).toNat : Int) := all_bytes (p := fun b => IntKind.u8.wrap ((b.toNat : Int) - 48) = ((b - 48).toNat : Int)) (by decide +kernel) b
theorem sub97 (b : UInt8) : IntKind.u8.wrap ((b.toNat : Int) - 97) = ((b - 97).toNat : Int) := all_bytes (p := fun b => IntKind.u8.wrap ((b.toNat : Int) - 97) = ((b - 97).toNat : Int)) (by decide +kernel) b
theorem num_calls (s : ByteArray) (hs : s.size ≤ 4) (σ : Store) : ACalls Tryz.prog 100 [.lit (.string s)] σ fun v σ' => v = .lit (.int .i64 (numTo s s.size : Nat)) ∧ σ' = σ := by
 refine aw st100 pl100 32 Tryz.func100 rfl ?_
 simp
 refine codeK.loop follows (st := st100) (plans := pl100) (X := Nat) (fun k => k ≤ s.size)
  (fun k => [(0, .lit (.string s)), (3, .lit (.int .i64 (numTo s k : Nat))), (4, .lit (.int .i64 k))]) (fun _ => σ) (fun k => s.size - k) 0 (by kernel_rfl) (by simp) (by simp [numTo]) (Store.sub_refl _) fun k hk => ?_
 by_cases hlt : k < s.size
 ·have hle := numTo_le s k (by omega)
  have hle2 := numTo_le s (k + 1) (by omega)
  have hk1 : IntKind.i64.wrap ((k : Int) + 1) = ((k + 1 : Nat) : Int) := wrap_i64 (by omega) (by omega)
  have hdl : k < s.data.size := hlt
  have hs2 : numTo s (k + 1) = 16 * numTo s k + digN s.data[k] := by rw [numTo, Array.getElem?_eq_getElem hdl]; rfl
  have hm : IntKind.i64.wrap (16 * (numTo s k : Int)) = ((16 * numTo s k : Nat) : Int) := wrap_i64 (by omega) (by omega)
  have hlt2 := (s.data[k]).toNat_lt
  simp [hlt]
  generalize s.data[k] = b at *
  have d1 := sub48 b
  have d2 := sub97 b
  have l1 := (b - 48).toNat_lt
  have l2 := (b - 97).toNat_lt
  unfold digN at hs2
  split
  ·next h97 =>
   rw [if_pos (by omega)] at hs2
   have hw : IntKind.i64.wrap (IntKind.i64.wrap (16 * (numTo s k : Int)) + IntKind.i64.wrap (IntKind.i64.wrap (IntKind.u8.wrap ((b.toNat : Int) - 97)) + 10)) = (numTo s (k + 1) : Nat) := by
    rw [hm, d2, wrap_i64 (n := ((b - 97).toNat : Int)) (by omega) (by omega), wrap_i64 (n := ((b - 97).toNat : Int) + 10) (by omega) (by omega), wrap_i64 (by omega) (by omega), hs2]
    omega
   exact ⟨k + 1, by omega, by omega, by rw [hw]; exact AV.le_refl _, by rw [hk1]; exact AV.le_refl _⟩
  ·next h97 =>
   rw [if_neg (by omega)] at hs2
   have hw : IntKind.i64.wrap (IntKind.i64.wrap (16 * (numTo s k : Int)) + IntKind.i64.wrap (IntKind.u8.wrap ((b.toNat : Int) - 48))) = (numTo s (k + 1) : Nat) := by
    rw [hm, d1, wrap_i64 (n := ((b - 48).toNat : Int)) (by omega) (by omega), wrap_i64 (by omega) (by omega), hs2]
    omega
   exact ⟨k + 1, by omega, by omega, by rw [hw]; exact AV.le_refl _, by rw [hk1]; exact AV.le_refl _⟩
 ·obtain rfl : k = s.size := by omega
  simp [hlt]
def rbase0 : List UInt8 := [48, 48, 48, 48, 48, 48, 48, 49, 48, 48, 48, 50, 48, 48, 48, 51, 48, 48, 57, 99, 48, 48, 48, 57, 48, 48, 56, 54, 48, 48, 55, 102, 48, 48, 57, 55, 48, 48, 56, 100, 48, 48, 56, 101, 48, 48, 48, 98, 48, 48, 48, 99, 48, 48, 48, 100, 48, 48, 48, 101, 48, 48, 48, 102]
def rbase1 : List UInt8 := [48, 48, 49, 48, 48, 48, 49, 49, 48, 48, 49, 50, 48, 48, 49, 51, 48, 48, 57, 100, 48, 48, 56, 53, 48, 48, 48, 56, 48, 48, 56, 55, 48, 48, 49, 56, 48, 48, 49, 57, 48, 48, 57, 50, 48, 48, 56, 102, 48, 48, 49, 99, 48, 48, 49, 100, 48, 48, 49, 101, 48, 48, 49, 102]
def rbase2 : List UInt8 := [48, 48, 56, 48, 48, 48, 56, 49, 48, 48, 56, 50, 48, 48, 56, 51, 48, 48, 56, 52, 48, 48, 48, 97, 48, 48, 49, 55, 48, 48, 49, 98, 48, 48, 56, 56, 48, 48, 56, 57, 48, 48, 56, 97, 48, 48, 56, 98, 48, 48, 56, 99, 48, 48, 48, 53, 48, 48, 48, 54, 48, 48, 48, 55]
def rbase3 : List UInt8 := [48, 48, 57, 48, 48, 48, 57, 49, 48, 48, 49, 54, 48, 48, 57, 51, 48, 48, 57, 52, 48, 48, 57, 53, 48, 48, 57, 54, 48, 48, 48, 52, 48, 48, 57, 56, 48, 48, 57, 57, 48, 48, 57, 97, 48, 48, 57, 98, 48, 48, 49, 52, 48, 48, 49, 53, 48, 48, 57, 101, 48, 48, 49, 97]
def rbase4 : List UInt8 := [48, 48, 50, 48, 48, 48, 97, 48, 48, 48, 101, 50, 48, 48, 101, 52, 48, 48, 101, 48, 48, 48, 101, 49, 48, 48, 101, 51, 48, 48, 101, 53, 48, 48, 101, 55, 48, 48, 102, 49, 48, 48, 97, 50, 48, 48, 50, 101, 48, 48, 51, 99, 48, 48, 50, 56, 48, 48, 50, 98, 48, 48, 55, 99]
def rbase5 : List UInt8 := [48, 48, 50, 54, 48, 48, 101, 57, 48, 48, 101, 97, 48, 48, 101, 98, 48, 48, 101, 56, 48, 48, 101, 100, 48, 48, 101, 101, 48, 48, 101, 102, 48, 48, 101, 99, 48, 48, 100, 102, 48, 48, 50, 49, 48, 48, 50, 52, 48, 48, 50, 97, 48, 48, 50, 57, 48, 48, 51, 98, 48, 48, 97, 99]
def rbase6 : List UInt8 := [48, 48, 50, 100, 48, 48, 50, 102, 48, 48, 99, 50, 48, 48, 99, 52, 48, 48, 99, 48, 48, 48, 99, 49, 48, 48, 99, 51, 48, 48, 99, 53, 48, 48, 99, 55, 48, 48, 100, 49, 48, 48, 97, 54, 48, 48, 50, 99, 48, 48, 50, 53, 48, 48, 53, 102, 48, 48, 51, 101, 48, 48, 51, 102]
def rbase7 : List UInt8 := [48, 48, 102, 56, 48, 48, 99, 57, 48, 48, 99, 97, 48, 48, 99, 98, 48, 48, 99, 56, 48, 48, 99, 100, 48, 48, 99, 101, 48, 48, 99, 102, 48, 48, 99, 99, 48, 48, 54, 48, 48, 48, 51, 97, 48, 48, 50, 51, 48, 48, 52, 48, 48, 48, 50, 55, 48, 48, 51, 100, 48, 48, 50, 50]
def rbase8 : List UInt8 := [48, 48, 100, 56, 48, 48, 54, 49, 48, 48, 54, 50, 48, 48, 54, 51, 48, 48, 54, 52, 48, 48, 54, 53, 48, 48, 54, 54, 48, 48, 54, 55, 48, 48, 54, 56, 48, 48, 54, 57, 48, 48, 97, 98, 48, 48, 98, 98, 48, 48, 102, 48, 48, 48, 102, 100, 48, 48, 102, 101, 48, 48, 98, 49]
def rbase9 : List UInt8 := [48, 48, 98, 48, 48, 48, 54, 97, 48, 48, 54, 98, 48, 48, 54, 99, 48, 48, 54, 100, 48, 48, 54, 101, 48, 48, 54, 102, 48, 48, 55, 48, 48, 48, 55, 49, 48, 48, 55, 50, 48, 48, 97, 97, 48, 48, 98, 97, 48, 48, 101, 54, 48, 48, 98, 56, 48, 48, 99, 54, 48, 48, 97, 52]
def rbase10 : List UInt8 := [48, 48, 98, 53, 48, 48, 55, 101, 48, 48, 55, 51, 48, 48, 55, 52, 48, 48, 55, 53, 48, 48, 55, 54, 48, 48, 55, 55, 48, 48, 55, 56, 48, 48, 55, 57, 48, 48, 55, 97, 48, 48, 97, 49, 48, 48, 98, 102, 48, 48, 100, 48, 48, 48, 100, 100, 48, 48, 100, 101, 48, 48, 97, 101]
def rbase11 : List UInt8 := [48, 48, 53, 101, 48, 48, 97, 51, 48, 48, 97, 53, 48, 48, 98, 55, 48, 48, 97, 57, 48, 48, 97, 55, 48, 48, 98, 54, 48, 48, 98, 99, 48, 48, 98, 100, 48, 48, 98, 101, 48, 48, 53, 98, 48, 48, 53, 100, 48, 48, 97, 102, 48, 48, 97, 56, 48, 48, 98, 52, 48, 48, 100, 55]
def rbase12 : List UInt8 := [48, 48, 55, 98, 48, 48, 52, 49, 48, 48, 52, 50, 48, 48, 52, 51, 48, 48, 52, 52, 48, 48, 52, 53, 48, 48, 52, 54, 48, 48, 52, 55, 48, 48, 52, 56, 48, 48, 52, 57, 48, 48, 97, 100, 48, 48, 102, 52, 48, 48, 102, 54, 48, 48, 102, 50, 48, 48, 102, 51, 48, 48, 102, 53]
def rbase13 : List UInt8 := [48, 48, 55, 100, 48, 48, 52, 97, 48, 48, 52, 98, 48, 48, 52, 99, 48, 48, 52, 100, 48, 48, 52, 101, 48, 48, 52, 102, 48, 48, 53, 48, 48, 48, 53, 49, 48, 48, 53, 50, 48, 48, 98, 57, 48, 48, 102, 98, 48, 48, 102, 99, 48, 48, 102, 57, 48, 48, 102, 97, 48, 48, 102, 102]
def rbase14 : List UInt8 := [48, 48, 53, 99, 48, 48, 102, 55, 48, 48, 53, 51, 48, 48, 53, 52, 48, 48, 53, 53, 48, 48, 53, 54, 48, 48, 53, 55, 48, 48, 53, 56, 48, 48, 53, 57, 48, 48, 53, 97, 48, 48, 98, 50, 48, 48, 100, 52, 48, 48, 100, 54, 48, 48, 100, 50, 48, 48, 100, 51, 48, 48, 100, 53]
def rbase15 : List UInt8 := [48, 48, 51, 48, 48, 48, 51, 49, 48, 48, 51, 50, 48, 48, 51, 51, 48, 48, 51, 52, 48, 48, 51, 53, 48, 48, 51, 54, 48, 48, 51, 55, 48, 48, 51, 56, 48, 48, 51, 57, 48, 48, 98, 51, 48, 48, 100, 98, 48, 48, 100, 99, 48, 48, 100, 57, 48, 48, 100, 97, 48, 48, 57, 102]
def rbaseL : List UInt8 := rbase0 ++ rbase1 ++ rbase2 ++ rbase3 ++ rbase4 ++ rbase5 ++ rbase6 ++ rbase7 ++ rbase8 ++ rbase9 ++ rbase10 ++ rbase11 ++ rbase12 ++ rbase13 ++ rbase14 ++ rbase15
def rothL37 : List UInt8 := []
def rothL273 : List UInt8 := [52, 51, 48, 48, 55, 98, 52, 97, 48, 48, 99, 52, 52, 102, 48, 48, 50, 49, 53, 57, 48, 48, 55, 101, 53, 97, 48, 48, 100, 99, 53, 102, 48, 48, 53, 101, 54, 51, 48, 48, 53, 98, 54, 97, 48, 48, 102, 54, 55, 99, 48, 48, 97, 55, 97, 49, 48, 48, 100, 102, 98, 48, 48, 48, 97, 50, 98, 53, 48, 48, 52, 48, 98, 97, 48, 48, 97, 99, 98, 98, 48, 48, 55, 99, 99, 48, 48, 48, 101, 52, 99, 99, 48, 48, 97, 54, 100, 48, 48, 48, 102, 99, 100, 99, 48, 48, 55, 100, 101, 48, 48, 48, 100, 54, 101, 99, 48, 48, 53, 99, 102, 99, 48, 48, 53, 100]
def rothL297 : List UInt8 := [52, 52, 48, 48, 52, 48, 52, 56, 48, 48, 53, 99, 52, 97, 48, 48, 98, 48, 52, 102, 48, 48, 50, 49, 53, 49, 48, 48, 55, 98, 53, 52, 48, 48, 55, 100, 53, 97, 48, 48, 97, 55, 53, 102, 48, 48, 53, 101, 54, 97, 48, 48, 102, 57, 55, 57, 48, 48, 98, 53, 55, 98, 48, 48, 97, 51, 55, 99, 48, 48, 101, 48, 57, 48, 48, 48, 53, 98, 97, 48, 48, 48, 54, 48, 97, 49, 48, 48, 97, 56, 98, 48, 48, 48, 97, 50, 98, 49, 48, 48, 50, 51, 98, 53, 48, 48, 53, 100, 98, 97, 48, 48, 97, 99, 98, 98, 48, 48, 55, 99, 98, 100, 48, 48, 55, 101, 99, 48, 48, 48, 101, 57, 100, 48, 48, 48, 101, 56, 100, 100, 48, 48, 97, 54, 101, 48, 48, 48, 101, 55]
def rothL500 : List UInt8 := [52, 97, 48, 48, 53, 98, 52, 102, 48, 48, 50, 49, 53, 97, 48, 48, 53, 100, 53, 102, 48, 48, 53, 101, 98, 48, 48, 48, 97, 50, 98, 97, 48, 48, 97, 99, 98, 98, 48, 48, 55, 99]
def rothL1047 : List UInt8 := [53, 102, 48, 48, 53, 101, 97, 100, 48, 48, 53, 98, 98, 48, 48, 48, 97, 99, 98, 97, 48, 48, 100, 100, 98, 98, 48, 48, 97, 56, 98, 100, 48, 48, 53, 100]
def rothL1140 : List UInt8 := [57, 102, 50, 48, 97, 99]
def rothL (n : Int) : List UInt8 := if n = 37 then rothL37 else if n = 273 then rothL273 else if n = 297 then rothL297 else if n = 500 then rothL500 else if n = 1047 then rothL1047 else if n = 1140 then rothL1140 else rothL37
def toB (L : List UInt8) : ByteArray := ⟨L.toArray⟩
theorem toB_size (L : List UInt8) : (toB L).size = L.length := by simp [toB, ByteArray.size]
theorem roth_calls (n : Int) (hn : isPage n) (σ : Store) : ACalls Tryz.prog 99 [.lit (.int .i64 n)] σ fun v σ' => v = .tuple [.lit (.string (toB (rothL n))), .lit (.bool true)] ∧ σ' = σ := by
 refine aw st99 pl99 17 Tryz.func99 rfl ?_
 have key : ∀ a b : ByteArray, a = b → AV.le (.tuple [.lit (.string a), .lit (.bool true)]) (.tuple [.lit (.string b), .lit (.bool true)]) := by
  rintro a _ rfl; exact AV.le_refl _
 obtain ⟨S, hS⟩ : ∃ S, S = toB (rothL n) := ⟨_, rfl⟩
 rw [← hS]
 rcases hn with rfl | rfl | rfl | rfl | rfl | rfl <;> (simp; exact key _ _ (Eq.trans (by kernel_rfl) hS.symm))
def numL (L : List UInt8) : Nat := L.foldl (fun a b => 16 * a + digN b) 0
def numS (s : ByteArray) : Nat := numTo s s.size
theorem numTo_list (s : ByteArray) : ∀ k, k ≤ s.size → numTo s k = numL (s.data.toList.take k)
 | 0, _ => rfl
 | k + 1, h => by
  have hk : k < s.data.toList.length := by rw [Array.length_toList]; exact h
  rw [numTo, numTo_list s k (by omega), List.take_succ_eq_append_getElem hk]
  unfold numL
  rw [List.foldl_append]
  have : s.data[k]?.getD 0 = s.data.toList[k] := by
   rw [Array.getElem?_eq_getElem (by simpa using hk)]; rfl
  rw [this]; rfl
theorem numS_part (L : List UInt8) (i m : Nat) (h : i + m ≤ L.length) : ((toB L).extract i (i + m)).size = m ∧ numS ((toB L).extract i (i + m)) = numL ((L.drop i).take m) := by
 have hd : ((toB L).extract i (i + m)).data.toList = (L.drop i).take m := by
  simp [toB, ByteArray.data_extract]
 have hs : ((toB L).extract i (i + m)).size = m := by
  have : ((toB L).extract i (i + m)).data.toList.length = m := by rw [hd]; simp; omega
  rw [Array.length_toList] at this; exact this
 refine ⟨hs, ?_⟩
 unfold numS
 rw [numTo_list _ _ (Nat.le_refl _), hd, hs, List.take_take]
 simp
def hex4 : List UInt8 → List Nat
 | a :: b :: c :: d :: r => numL [a, b, c, d] :: hex4 r
 | _ => []
theorem hex_base : hex4 rbaseL = baseL := by decide +kernel
theorem hex4_at : ∀ (c : Nat) (L : List UInt8), 4 * c + 4 ≤ L.length → (hex4 L)[c]? = some (numL ((L.drop (4 * c)).take 4))
 | 0, a :: b :: c :: d :: r, _ => rfl
 | i + 1, a :: b :: c :: d :: r, h => by
  have := hex4_at i r (by simp at h; omega)
  rw [hex4, List.getElem?_cons_succ, this, show 4 * (i + 1) = 4 * i + 4 from by omega]
  rfl
 | _, [], h => by simp at h
 | _, [_], h => by simp at h
 | _, [_, _], h => by simp at h
 | _, [_, _, _], h => by simp at h
def hex6 : List UInt8 → List (Nat × Nat)
 | a :: b :: c :: d :: e :: f :: r => (numL [a, b], numL [c, d, e, f]) :: hex6 r
 | _ => []
theorem hex_oth {n : Int} (hn : isPage n) : hex6 (rothL n) = othersF n ∧ (rothL n).length = 6 * (othersF n).length ∧ (othersF n).length ≤ 50 := by
 rcases hn with rfl | rfl | rfl | rfl | rfl | rfl <;> decide +kernel
theorem hex6_at : ∀ (c : Nat) (L : List UInt8), 6 * c + 6 ≤ L.length → (hex6 L)[c]? = some (numL ((L.drop (6 * c)).take 2), numL ((L.drop (6 * c + 2)).take 4))
 | 0, a :: b :: c :: d :: e :: f :: r, _ => rfl
 | i + 1, a :: b :: c :: d :: e :: f :: r, h => by
  have := hex6_at i r (by simp at h; omega)
  rw [hex6, List.getElem?_cons_succ, this, show 6 * (i + 1) = 6 * i + 6 from by omega, show 6 * i + 6 + 2 = 6 * i + 2 + 6 from by omega]
  rfl
 | _, [], h => by simp at h
 | _, [_], h => by simp at h
 | _, [_, _], h => by simp at h
 | _, [_, _, _], h => by simp at h
 | _, [_, _, _, _], h => by simp at h
 | _, [_, _, _, _, _], h => by simp at h
def rsign (n : Int) (c : Nat) : Nat := (((othersF n).find? (fun o => o.1 == c)).map (·.2)).getD (baseL.getD c 0)
theorem rsign_all {n : Int} (hn : isPage n) : (List.range 256).map (rsign n) = signsF n := by
 rcases hn with rfl | rfl | rfl | rfl | rfl | rfl <;> decide +kernel
theorem rsign_eq {n : Int} (hn : isPage n) {c : Nat} (hc : c < 256) : rsign n c = sgF n c := by
 have := congrArg (fun l => l.getD c 0) (rsign_all hn)
 simp only [List.getD_eq_getElem?_getD, List.getElem?_map, List.getElem?_range hc] at this
 unfold sgF
 rw [List.getD_eq_getElem?_getD, ← this]
 rfl
theorem numS_le {s : ByteArray} (h : s.size ≤ 4) : numS s ≤ 1200000 := numTo_le s _ h
theorem mk_base (a : Array UInt8) (h : a = rbaseL.toArray) : ByteArray.mk a = toB rbaseL := by rw [h]; rfl
theorem wrap32 {x : Int} (h0 : 0 ≤ x) (h1 : x ≤ 2147483647) : IntKind.i32.wrap x = x := by
 unfold IntKind.wrap
 simp [IntKind.bits, IntKind.signed]
 omega
theorem nums_calls (s : ByteArray) (hs : s.size ≤ 4) (σ : Store) : ACalls Tryz.prog 100 [.lit (.string s)] σ fun v σ' => v = .lit (.int .i64 (numS s : Nat)) ∧ σ' = σ := num_calls s hs σ
theorem rsign_calls (n : Int) (hn : isPage n) (b : UInt8) (σ : Store) : ACalls Tryz.prog 56 [.lit (.int .i64 n), byteA b] σ fun v σ' => v = .lit (.int .i32 (sgF n b.toNat : Nat)) ∧ σ' = σ := by
 have hro := fun τ => roth_calls n hn τ
 obtain ⟨ho1, ho2, ho3⟩ := hex_oth hn
 have hb := b.toNat_lt
 have hrs := rsign_eq hn hb
 unfold rsign at hrs
 have hnum := fun τ s h => nums_calls s h τ
 have hat := fun c h => hex6_at c (rothL n) h
 have hpt := fun i m h => numS_part (rothL n) i m h
 rw [ho1] at hat
 have hsz := toB_size (rothL n)
 refine aw st56 pl56 46 Tryz.func56 rfl ?_
 generalize rothL n = L at *
 generalize othersF n = O at *
 simp [byteA]
 refine callK.of (hro _) ?_
 rintro v τ ⟨rfl, rfl⟩
 simp
 refine codeK.loop follows (st := st56) (plans := pl56) (X := Nat) (fun j => j ≤ O.length ∧ (((O.drop j).find? (fun o => o.1 == b.toNat)).map (·.2)).getD (baseL.getD b.toNat 0) = sgF n b.toNat)
  (fun j => [(1, byteA b), (5, .lit (.string (toB L))), (7, .lit (.int .i64 (6 * j : Nat)))]) (fun _ => τ) (fun j => O.length - j) 0 (by kernel_rfl) ⟨by simp, hrs⟩ (by simp [byteA]) (Store.sub_refl _) fun j hj => ?_
 obtain ⟨hjl, hres⟩ := hj
 by_cases hlt : j < O.length
 ·have h6 : 6 * j + 6 ≤ L.length := by omega
  have ha := hat j h6
  obtain ⟨p1, p2⟩ := hpt (6 * j) 2 (by omega)
  obtain ⟨q1, q2⟩ := hpt (6 * j + 2) 4 (by omega)
  have hnx : (((O.drop (j + 1)).find? (fun o => o.1 == b.toNat)).map (·.2)).getD (baseL.getD b.toNat 0) = if O[j].1 = b.toNat then (((O.drop (j + 1)).find? (fun o => o.1 == b.toNat)).map (·.2)).getD (baseL.getD b.toNat 0) else sgF n b.toNat := by
   split
   ·rfl
   ·next hne =>
    rw [List.drop_eq_getElem_cons hlt, List.find?_cons_of_neg (by simpa using hne)] at hres
    exact hres
  have hhit : O[j].1 = b.toNat → O[j].2 = sgF n b.toNat := fun he => by
   rw [List.drop_eq_getElem_cons hlt, List.find?_cons_of_pos (by simpa using he)] at hres
   exact hres
  rw [List.getElem?_eq_getElem hlt] at ha
  have ha := Option.some.inj ha
  have k1 : numS ((toB L).extract (6 * j) (6 * j + 2)) = O[j].1 := by rw [p2, ha]
  have k2 : numS ((toB L).extract (6 * j + 2) (6 * j + 6)) = O[j].2 := by
   have e : 6 * j + 6 = 6 * j + 2 + 4 := by omega
   rw [e, q2, ha]
  have q1' : ((toB L).extract (6 * j + 2) (6 * j + 6)).size = 4 := by
   have e : 6 * j + 6 = 6 * j + 2 + 4 := by omega
   rw [e, q1]
  have hn1 := hnum τ _ (by rw [p1]; omega : ((toB L).extract (6 * j) (6 * j + 2)).size ≤ 4)
  have hn2 := hnum τ _ (by rw [q1']; omega : ((toB L).extract (6 * j + 2) (6 * j + 6)).size ≤ 4)
  have hle2 := numS_le (by rw [q1']; omega : ((toB L).extract (6 * j + 2) (6 * j + 6)).size ≤ 4)
  rw [k1] at hn1
  rw [k2] at hn2 hle2
  have h6j : 6 * (j + 1) = 6 * j + 6 := by omega
  generalize hi : 6 * j = i at hn1 hn2 hle2 h6 h6j ⊢
  have hlt' : i < (toB L).size := by omega
  have hltI : (i : Int) < ((toB L).size : Int) := by omega
  have s2 : i + 2 ≤ (toB L).size := by omega
  have s6 : i + 6 ≤ (toB L).size := by omega
  have t2 : ((i : Int) + 2).toNat = i + 2 := by omega
  have t6 : ((i : Int) + 6).toNat = i + 6 := by omega
  have g2 : (0 : Int) ≤ (i : Int) + 2 := by omega
  have g6 : (0 : Int) ≤ (i : Int) + 6 := by omega
  have l6 : i + 2 ≤ i + 6 := by omega
  have hw2 : IntKind.i64.wrap ((i : Int) + 2) = (i : Int) + 2 := wrap_i64 (by omega) (by omega)
  have hw6 : IntKind.i64.wrap ((i : Int) + 6) = (i : Int) + 6 := wrap_i64 (by omega) (by omega)
  have hwb : IntKind.i64.wrap (b.toNat : Int) = (b.toNat : Int) := wrap_i64 (by omega) (by omega)
  simp [hlt', hltI, hw2, hw6, byteA, s2, s6, t2, t6, g2, g6, l6]
  refine callK.of hn1 ?_
  rintro v τ ⟨rfl, rfl⟩
  generalize hO1 : O[j].1 = o1 at *
  by_cases he : o1 = b.toNat
  ·have hv := hhit he
   simp [he, hlt', hltI, hw2, hw6, byteA, s2, s6, t2, t6, g2, g6, l6, hwb]
   refine callK.of hn2 ?_
   rintro v τ ⟨rfl, rfl⟩
   have hwi : IntKind.i32.wrap (O[j].2 : Int) = (sgF n b.toNat : Nat) := by rw [wrap32 (by omega) (by omega), hv]
   simp [hwi]
  ·have he' : ¬ (o1 : Int) = (b.toNat : Int) := by omega
   rw [if_neg he] at hnx
   simp [he, he', hwb, hw6]
   refine ⟨j + 1, ⟨by omega, hnx⟩, by omega, ?_⟩
   rw [show (6 * ((j + 1 : Nat) : Int)) = (i : Int) + 6 from by omega]
   exact AV.le_refl _
 ·have hb4 : 4 * b.toNat + 4 ≤ rbaseL.length := by
   have : rbaseL.length = 1024 := by decide +kernel
   omega
  obtain ⟨p1, p2⟩ := numS_part rbaseL (4 * b.toNat) 4 hb4
  have h4 := hex4_at b.toNat rbaseL hb4
  rw [hex_base] at h4
  rw [List.drop_eq_nil_of_le (by omega)] at hres
  have hv : baseL.getD b.toNat 0 = sgF n b.toNat := hres
  rw [List.getD_eq_getElem?_getD, h4] at hv
  have hv : numS ((toB rbaseL).extract (4 * b.toNat) (4 * b.toNat + 4)) = sgF n b.toNat := by rw [p2]; exact hv
  have hnl : ¬ (6 * (j : Int)) < ((toB L).size : Int) := by omega
  have hn1 := hnum τ _ (by rw [p1]; omega : ((toB rbaseL).extract (4 * b.toNat) (4 * b.toNat + 4)).size ≤ 4)
  have hle := numS_le (by rw [p1]; omega : ((toB rbaseL).extract (4 * b.toNat) (4 * b.toNat + 4)).size ≤ 4)
  rw [hv] at hn1 hle
  have hwb : IntKind.i64.wrap (b.toNat : Int) = (b.toNat : Int) := wrap_i64 (by omega) (by omega)
  have hw4 : IntKind.i64.wrap (4 * (b.toNat : Int)) = 4 * (b.toNat : Int) := wrap_i64 (by omega) (by omega)
  have hw8 : IntKind.i64.wrap (4 * (b.toNat : Int) + 4) = 4 * (b.toNat : Int) + 4 := wrap_i64 (by omega) (by omega)
  simp [hnl, byteA, hwb, hw4, hw8]
  rw [mk_base]
  rotate_left
  ·kernel_rfl
  have hsB := toB_size rbaseL
  have g0 : (0 : Int) ≤ 4 * (b.toNat : Int) := by omega
  have g4 : (0 : Int) ≤ 4 * (b.toNat : Int) + 4 := by omega
  have t0 : (4 * (b.toNat : Int)).toNat = 4 * b.toNat := by omega
  have t4 : (4 * (b.toNat : Int) + 4).toNat = 4 * b.toNat + 4 := by omega
  have l4 : 4 * b.toNat ≤ 4 * b.toNat + 4 ∧ 4 * b.toNat + 4 ≤ (toB rbaseL).size := by omega
  rw [if_pos g0, if_pos g4, t0, t4]
  dsimp only
  rw [if_pos l4]
  have hwi : IntKind.i32.wrap ((sgF n b.toNat : Nat) : Int) = (sgF n b.toNat : Nat) := wrap32 (by omega) (by omega)
  simp
  refine callK.of hn1 ?_
  rintro v τ ⟨rfl, rfl⟩
  simp [hwi]
theorem codeIx_none {n s : Int} (h : codeIx n s = none) : ∀ c, c < 256 → ¬ ((sgF n c : Nat) : Int) = s := fun c hc e => by
 have := List.findIdx?_eq_none_iff.1 h c (List.mem_range.2 hc)
 simp [e] at this
theorem codeIx_first {n s : Int} {j : Nat} (h : codeIx n s = some j) : ∀ c, c < j → ¬ ((sgF n c : Nat) : Int) = s := fun c hc e => by
 obtain ⟨h1, h2, h3⟩ := List.findIdx?_eq_some_iff_getElem.1 h
 have := h3 c hc
 simp [e] at this
def codeZ (n s : Int) : Int := match codeIx n s with | some j => (j : Nat) | none => -1
theorem rcode_calls (n : Int) (hn : isPage n) (s : Int) (σ : Store) : ACalls Tryz.prog 17 [.lit (.int .i64 n), .lit (.int .i32 s)] σ fun v σ' => v = .lit (.int .i64 (codeZ n s)) ∧ σ' = σ := by
 have hrs := fun τ (b : UInt8) => rsign_calls n hn b τ
 simp only [byteA] at hrs
 refine aw st17 pl17 17 Tryz.func17 rfl ?_
 simp
 refine codeK.loop follows (st := st17) (plans := pl17) (X := Nat) (fun c => c ≤ 256 ∧ ∀ j, codeIx n s = some j → c ≤ j)
  (fun c => [(0, .lit (.int .i64 n)), (1, .lit (.int .i32 s)), (5, .lit (.int .i64 c))]) (fun _ => σ) (fun c => 256 - c) 0 (by kernel_rfl) ⟨by simp, by simp⟩ (by simp) (Store.sub_refl _) fun c hc => ?_
 obtain ⟨hc, hj⟩ := hc
 by_cases hlt : c < 256
 ·have hlt' : (c : Int) < 256 := by omega
  have hw1 : IntKind.i64.wrap ((c : Int) + 1) = ((c + 1 : Nat) : Int) := wrap_i64 (by omega) (by omega)
  have hwc : IntKind.u8.wrap (c : Int) = (c : Int) := wrap_u8 (by omega) (by omega)
  have hcn : (UInt8.ofNat c).toNat = c := by simp; omega
  have hr := fun τ => hrs τ (UInt8.ofNat c)
  rw [hcn] at hr
  simp [hlt', hwc]
  refine callK.of (hr _) ?_
  rintro v τ ⟨rfl, rfl⟩
  by_cases he : ((sgF n c : Nat) : Int) = s
  ·have hix : codeIx n s = some c := by
    cases hx : codeIx n s with
    | none => exact absurd he (codeIx_none hx c hlt)
    | some j =>
     have h1 := hj j hx
     rcases Nat.lt_or_ge c j with h2 | h2
     ·exact absurd he (codeIx_first hx c h2)
     ·rw [show j = c from by omega]
   have hz : codeZ n s = (c : Nat) := by unfold codeZ; rw [hix]
   rw [hz]
   simp [he]
  ·simp [he]
   refine ⟨c + 1, ⟨by omega, fun j hx => ?_⟩, by omega, by rw [hw1]; exact AV.le_refl _⟩
   have h1 := hj j hx
   have h2 := (codeIx_lt hx).2
   rcases Nat.lt_or_ge c j with h3 | h3
   ·exact h3
   ·exact absurd (by rw [show c = j from by omega]; exact h2) he
 ·obtain rfl : c = 256 := by omega
  have hz : codeZ n s = -1 := by
   unfold codeZ
   cases hx : codeIx n s with
   | none => rfl
   | some j => have := hj j hx; have := (codeIx_lt hx).1; omega
  rw [hz]
  simp
end Go.Proofs.YtlmdbcgceijlnaaGreat
namespace Go.Proofs.YtlmdbcgceijlnaaGreat
open Go Go.AL Go.Sp
theorem lastA_congr {l l' : List Cell} (h : ∀ i, attrAt l' i = attrAt l i) (init : Int) : ∀ m, lastA l' init m = lastA l init m
 | 0 => rfl
 | m + 1 => by rw [lastA, lastA, h, lastA_congr h init m]
theorem startS_congr {l l' : List Cell} (hl : l'.length = l.length) (h : ∀ i, attrAt l' i = attrAt l i) (i : Nat) : startS l' i = startS l i := by
 unfold startS; rw [hl, lastA_congr h, lastA_congr h]
theorem keep_len {s t : Sp} (h : KeepA s t) (hs : s.good) : t.cells.length = s.cells.length := by rw [h.same.1.len, hs.len, h.same.n]
theorem KeepA.start {s t : Sp} (h : KeepA s t) (hs : s.good) (i : Nat) : startS t.cells i = startS s.cells i := startS_congr (keep_len h hs) h.attr i
theorem run_congr {l k : List Cell} (hl : k.length = l.length) (h : ∀ i, attrAt k i = attrAt l i) (a : Nat) : ∀ m, Sp.run k a m = Sp.run l a m
 | 0 => rfl
 | m + 1 => by rw [Sp.run, Sp.run, run_congr hl h a m, hl, h]
theorem places_congr {l k : List Cell} (hl : k.length = l.length) (h : ∀ i, attrAt k i = attrAt l i) (a : Nat) : Sp.places k a = Sp.places l a := by
 unfold Sp.places Sp.len; rw [hl, run_congr hl h]
structure With (s : Sp) (m i : Nat) : Prop where
 lt : i < s.n
 free : attrAt s.cells i = false
 start : startS s.cells i = startS s.cells m
theorem With.open {s : Sp} {m i : Nat} (h : With s m i) (ho : openS s m = true) : openS s i = true := by
 unfold openS at ho ⊢
 rw [h.free, h.start]
 cases e : attrAt s.cells m
 ·rw [e] at ho; exact ho
 ·rw [e] at ho; simp at ho
theorem count0 {s : Sp} (h : s.good) (hc : s.count = 0) (i : Nat) : attrAt s.cells i = false := by
 cases e : attrAt s.cells i
 ·rfl
 ·have h1 := startS_attr e
  rw [startS_none hc] at h1
  omega
theorem with_all {s : Sp} (h : s.good) (hc : s.count = 0) {i : Nat} (hi : i < s.n) (m : Nat) : With s m i := ⟨hi, count0 h hc i, by rw [startS_none hc, startS_none hc]⟩
theorem with_places {s : Sp} (h : s.good) {a : Nat} (ha : a < s.n) (hat : attrAt s.cells a = true) {i : Nat} (hi : i ∈ Sp.places s.cells a) : i < s.n ∧ attrAt s.cells i = false ∧ startS s.cells i = (a : Nat) := by
 unfold Sp.places at hi
 obtain ⟨j, hj, rfl⟩ := List.mem_map.1 hi
 rw [List.mem_range] at hj
 have hl := h.len
 have hlt := len_lt (l := s.cells) (a := a) (by omega)
 have hf := len_free (l := s.cells) (a := a) (j := j + 1) (by omega) (by omega)
 have hs := (startS_places hat (by omega) (i := j + 1) (by omega) (by omega) (by omega)).2 (by omega)
 refine ⟨?_, ?_, ?_⟩
 ·rw [hl]; exact Nat.mod_lt _ s.n_pos
 ·rw [Nat.add_assoc]; exact hf
 ·rw [Nat.add_assoc]; exact hs
theorem with_rest {s : Sp} (h : s.good) {m : Nat} (hm : m < s.n) (hat : attrAt s.cells m = false) {i : Nat} (hi : i ∈ restL s m) : With s m i := by
 unfold restL at hi
 by_cases hc : s.count = 0
 ·rw [if_pos hc] at hi
  unfold spanL at hi
  obtain ⟨j, _, rfl⟩ := List.mem_map.1 hi
  exact with_all h hc (Nat.mod_lt _ s.n_pos) m
 ·rw [if_neg hc] at hi
  obtain ⟨a, ha⟩ := in_field h hm hc hat
  rw [ha.start] at hi
  have h2 := with_places h ha.lt ha.attr (List.mem_of_mem_drop hi)
  exact ⟨h2.1, h2.2.1, by rw [h2.2.2, ha.start]⟩
theorem with_round {s : Sp} (h : s.good) {m : Nat} (hm : m < s.n) (hat : attrAt s.cells m = false) {i : Nat} (hi : i ∈ roundL s m) : With s m i := by
 unfold roundL at hi
 by_cases hc : s.count = 0
 ·rw [if_pos hc] at hi
  unfold spanL at hi
  obtain ⟨j, _, rfl⟩ := List.mem_map.1 hi
  exact with_all h hc (Nat.mod_lt _ s.n_pos) m
 ·rw [if_neg hc] at hi; exact with_rest h hm hat hi
theorem with_row {s : Sp} {m : Nat} (hm : m < s.n) {i : Nat} (hi : i ∈ rowL s m) : With s m i := by
 unfold rowL at hi
 obtain ⟨j, hj, rfl⟩ := List.mem_map.1 hi
 rw [List.mem_range] at hj
 have hf := fun k (hk : k < rowN s m) => toP_free (fun i => attrAt s.cells (m + i)) _ k hk
 have hle := rowN_le hm
 refine ⟨by omega, hf j hj, ?_⟩
 have key : ∀ k, k < rowN s m → startS s.cells (m + k) = startS s.cells m := by
  intro k
  induction k with
  | zero => intro _; rfl
  | succ k ih =>
   intro hk
   rw [← ih (by omega)]
   have e := hf (k + 1) hk
   show lastA _ _ (m + k + 1 + 1) = _
   rw [lastA, show m + k + 1 = m + (k + 1) from rfl, e]
   rfl
 exact key j hj
def Acc (n : Int) (s : Sp) (x : UInt8) : Prop := (okF s s.cursor && (fofF s s.cursor).num && !(numB n x)) = false ∨ detB (fofF s s.cursor) = true
structure Clo (n : Int) (s : Sp) (er : Prop) (P : Sp → Prop) : Prop where
 keep : ∀ t, P t → KeepA s t
 prot : ∀ t, P t → ∀ a, a < s.n → attrAt s.cells a = true → (fldAt t a).prot = (fldAt s a).prot
 place : ∀ t k, P t → P (t.place k)
 null : ∀ t (i : Nat), P t → i < s.n → openS s i = true → P (t.put i 0)
 put : ∀ t (i : Nat) x, P t → With s s.cursor i → openS s i = true → (Acc n s x ∨ ∃ j : Nat, With s s.cursor j ∧ x = (t.at j).char) → P (t.put i x)
 ent : ∀ t x, P t → openS s s.cursor = true → Acc n s x → P (setE t s.cursor x)
 mod : ∀ t, P t → P (modS t s.cursor)
 unmod : er → ∀ t (a : Nat), P t → a < s.n → attrAt s.cells a = true → (fldAt s a).prot = false → P (unmod1 t a)
variable {n : Int} {s t : Sp} {er : Prop} {P : Sp → Prop}
theorem Clo.tab (C : Clo n s er P) (h : P t) : P (tabS t) := C.place _ _ h
theorem Clo.after (C : Clo n s er P) (h : P t) : P (afterS t) := by
 unfold afterS
 split
 ·exact C.place _ _ h
 ·split
  ·exact C.place _ _ (C.place _ _ h)
  ·exact C.place _ _ (C.place _ _ h)
theorem Clo.ents (C : Clo n s er P) (h : P t) (ho : openS s s.cursor = true) {x : UInt8} (hx : Acc n s x) : P (entS t s.cursor x) := by
 have h1 := C.mod _ (C.ent t x h ho hx)
 unfold entS
 split
 ·exact C.tab h1
 ·exact C.after h1
theorem getD_mem {L : List Nat} {k : Nat} (h : k < L.length) : L[k]?.getD 0 ∈ L := by rw [List.getElem?_eq_getElem h]; exact List.getElem_mem h
theorem Clo.delp (C : Clo n s er P) {L : List Nat} (hL : ∀ i ∈ L, With s s.cursor i) (ho : openS s s.cursor = true) (h : P s) : ∀ k, k ≤ L.length → P (delTo s L k)
 | 0, _ => h
 | k + 1, hk => by
  have h1 := C.delp hL ho h k (by omega)
  have hw := hL _ (getD_mem (show k < L.length by omega))
  unfold delTo
  split
  ·next h2 => exact C.put _ _ _ h1 hw (hw.open ho) (.inr ⟨_, hL _ (getD_mem h2), rfl⟩)
  ·exact C.null _ _ h1 hw.lt (hw.open ho)
theorem Clo.insp (C : Clo n s er P) {L : List Nat} (hL : ∀ i ∈ L, With s s.cursor i) (ho : openS s s.cursor = true) (h : P s) {e : Nat} (he : e < L.length) : ∀ k, k ≤ e → P (insTo s L e k)
 | 0, _ => h
 | k + 1, hk => by
  have h1 := C.insp hL ho h he k (by omega)
  have hw := hL _ (getD_mem (show e - k < L.length by omega))
  unfold insTo
  exact C.put _ _ _ h1 hw (hw.open ho) (.inr ⟨_, hL _ (getD_mem (by omega)), rfl⟩)
theorem Clo.inss (C : Clo n s er P) (hg : s.good) (h : P s) {x : UInt8} (hx : Acc n s x) : P (insS s s.cursor x).1 := by
 unfold insS
 split
 ·next hc =>
  obtain ⟨ho, he⟩ := hc
  have hL : ∀ i ∈ roundL s s.cursor, With s s.cursor i := fun i hi => with_round hg hg.cursor (open_attr ho) hi
  have hw := hL _ (getD_mem (show 0 < (roundL s s.cursor).length by omega))
  exact C.mod _ (C.put _ _ _ (C.insp hL ho h he _ (Nat.le_refl _)) hw (hw.open ho) (.inl hx))
 ·exact h
variable {B : Bd}
theorem Clo.enter {er : Prop} (C : Clo n B.s er P) (hg : B.s.good) (h : P B.s) (c : UInt8) : P (enterB n B c).1.s := by
 unfold enterB
 split
 ·exact h
 ·next ho =>
  have ho : openS B.s B.s.cursor = true := by simpa using ho
  split
  ·exact h
  ·next hn =>
   have hx : Acc n B.s c := .inl (by simpa using hn)
   split
   ·split
    ·exact h
    ·exact C.ents (C.inss hg h hx) ho hx
   ·exact C.ents h ho hx
theorem Clo.char (C : Clo n B.s er P) (hg : B.s.good) (h : P B.s) (sg : Int) : P (charB n B sg).1.s := by
 unfold charB
 split
 ·exact C.enter hg h _
 ·exact h
theorem Clo.del (C : Clo n s er P) (hg : s.good) (h : P s) : P (delS s s.cursor) := by
 unfold delS
 split
 ·next ho => exact C.mod _ (C.delp (fun i hi => with_row hg.cursor hi) ho h _ (Nat.le_refl _))
 ·exact h
theorem open_field {s : Sp} {a i : Nat} (hf : (fldAt s a).prot = false) (h1 : attrAt s.cells i = false) (h2 : startS s.cells i = (a : Nat)) : openS s i = true := by
 unfold openS; rw [h1, h2]; simp [hf]
theorem put_attr {s : Sp} {k : Int} {x : UInt8} (h : (s.at k).attr = true) : s.put k x = s := by unfold Sp.put; rw [if_pos h]
theorem put_wrap (s : Sp) (k : Int) (x : UInt8) : s.put k x = s.put ((wrap s.n k : Nat) : Int) x := by
 have h1 : wrap s.n ((wrap s.n k : Nat) : Int) = wrap s.n k := wrap_of_lt (wrap_lt s.n_pos k)
 unfold Sp.put Sp.set Sp.at
 rw [h1]
theorem at_attr {s : Sp} {i : Nat} (hi : i < s.n) : (s.at (i : Nat)).attr = attrAt s.cells i := by unfold Sp.at attrAt; rw [wrap_of_lt hi]
theorem Clo.choose (C : Clo n B.s er P) (hg : B.s.good) (h : P B.s) : P (chooseB n B).1.s := by
 unfold chooseB
 dsimp only
 split
 ·exact h
 ·next h1 =>
  have h1 : (!okF B.s B.s.cursor || (B.s.at (B.s.cursor : Nat)).attr || !detB (fofF B.s B.s.cursor)) = false := by simpa using h1
  simp only [Bool.or_eq_false_iff, Bool.not_eq_false'] at h1
  obtain ⟨⟨h1, h2⟩, h3⟩ := h1
  rw [at_attr hg.cursor] at h2
  obtain ⟨a, ha, hlt⟩ := start_lt hg hg.cursor h1
  have hc : ¬ B.s.count = 0 := fun e => by rw [startS_none e] at ha; omega
  obtain ⟨a', hf⟩ := in_field hg hg.cursor hc h2
  have haa : a' = a := by have := hf.start; rw [ha] at this; omega
  subst haa
  have hputs : (fofF B.s B.s.cursor).prot = false → ∀ x, P (B.s.put ((a' : Int) + 1) x) := fun hp x => by
   rw [put_wrap]
   have hw1 : wrap B.s.n ((a' : Int) + 1) = (a' + 1) % B.s.n := by unfold wrap; rw [← Int.natCast_one, ← Int.natCast_add, ← Int.natCast_emod, Int.toNat_natCast]
   have hlt1 : (a' + 1) % B.s.n < B.s.n := Nat.mod_lt _ B.s.n_pos
   rw [hw1]
   cases e : attrAt B.s.cells ((a' + 1) % B.s.n)
   ·have hs : startS B.s.cells ((a' + 1) % B.s.cells.length) = (a' : Nat) := by
     have hge : 1920 ≤ B.s.n := by have := dims_bound B.s.model B.s.alt; unfold Sp.n Sp.rows Sp.cols; omega
     refine startS_in hf.attr (by rw [hg.len]; exact hlt) (by rw [hg.len]; omega) fun j h4 h5 => ?_
     rw [show j = 1 from by omega, hg.len]; exact e
    rw [hg.len] at hs
    have hw : With B.s B.s.cursor ((a' + 1) % B.s.n) := ⟨hlt1, e, by rw [hs, hf.start]⟩
    refine C.put _ _ _ h hw ?_ (.inl (.inr h3))
    refine open_field ?_ e hs
    unfold fofF at hp
    rw [ha] at hp
    simpa using hp
   ·rw [put_attr (by rw [at_attr hlt1]; exact e)]; exact h
  rw [ha]
  split
  ·exact h
  ·next hd =>
   have hp : desigN n (B.s.at ((a' : Int) + 1)).char < 3 → (fofF B.s B.s.cursor).prot = false := fun hl => by
    cases e : (fofF B.s B.s.cursor).prot
    ·rfl
    ·exact absurd (.inr ⟨hl, e⟩) hd
   split
   ·next e => exact C.mod _ (hputs (hp (by omega)) _)
   ·split
    ·next e => exact hputs (hp (by omega)) _
    ·exact C.mod _ h
end Go.Proofs.YtlmdbcgceijlnaaGreat
