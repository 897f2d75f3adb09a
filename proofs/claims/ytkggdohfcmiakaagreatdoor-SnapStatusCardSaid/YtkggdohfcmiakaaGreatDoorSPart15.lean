/-
  The document's signs, as its strings say.
-/
import Derived.Test.YtkggdohfcmiakaaGreatDoorSPart14
set_option linter.unusedSimpArgs false
set_option linter.unusedVariables false
namespace Go.Proofs.YtkggdohfcmiakaaGreatDoor
open Go Go.AL

def rbase0 : List UInt8 := [48, 48, 48, 48, 48, 48, 48, 49, 48, 48, 48, 50, 48, 48, 48, 51, 48, 48, 57, 99, 48, 48, 48, 57, 48, 48, 56, 54, 48, 48, 55, 102, 48, 48, 57, 55, 48, 48, 56, 100, 48, 48, 56, 101, 48, 48, 48, 98, 48, 48, 48, 99, 48, 48, 48, 100, 48, 48, 48, 101, 48, 48, 48, 102]
def rbase1 : List UInt8 := [48, 48, 49, 48, 48, 48, 49, 49, 48, 48, 49, 50, 48, 48, 49, 51, 48, 48, 57, 100, 48, 48, 56, 53, 48, 48, 48, 56, 48, 48, 56, 55, 48, 48, 49, 56, 48, 48, 49, 57, 48, 48, 57, 50, 48, 48, 56, 102, 48, 48, 49, 99, 48, 48, 49, 100, 48, 48, 49, 101, 48, 48, 49, 102]
def rbase2 : List UInt8 := [48, 48, 56, 48, 48, 48, 56, 49, 48, 48, 56, 50, 48, 48, 56, 51, 48, 48, 56, 52, 48, 48, 48, 97, 48, 48, 49, 55, 48, 48, 49, 98, 48, 48, 56, 56, 48, 48, 56, 57, 48, 48, 56, 97, 48, 48, 56, 98, 48, 48, 56, 99, 48, 48, 48, 53, 48, 48, 48, 54, 48, 48, 48, 55]
def rbase3 : List UInt8 := [48, 48, 57, 48, 48, 48, 57, 49, 48, 48, 49, 54, 48, 48, 57, 51, 48, 48, 57, 52, 48, 48, 57, 53, 48, 48, 57, 54, 48, 48, 48, 52, 48, 48, 57, 56, 48, 48, 57, 57, 48, 48, 57, 97, 48, 48, 57, 98, 48, 48, 49, 52, 48, 48, 49, 53, 48, 48, 57, 101, 48, 48, 49, 97]
def rbase4 : List UInt8 := [48, 48, 50, 48, 48, 48, 97, 48, 48, 48, 101, 50, 48, 48, 101, 52, 48, 48, 101, 48, 48, 48, 101, 49, 48, 48, 101, 51, 48, 48, 101, 53, 48, 48, 101, 55, 48, 48, 102, 49, 48, 48, 97, 50, 48, 48, 50, 101, 48, 48, 51, 99, 48, 48, 50, 56, 48, 48, 50, 98, 48, 48, 55, 99]
def rbase5 : List UInt8 := [48, 48, 50, 54, 48, 48, 101, 57, 48, 48, 101, 97, 48, 48, 101, 98, 48, 48, 101, 56, 48, 48, 101, 100, 48, 48, 101, 101, 48, 48, 101, 102, 48, 48, 101, 99, 48, 48, 100, 102, 48, 48, 50, 49, 48, 48, 50, 52, 48, 48, 50, 97, 48, 48, 50, 57, 48, 48, 51, 98, 48, 48, 97, 99]
def rbase6 : List UInt8 := [48, 48, 50, 100, 48, 48, 50, 102, 48, 48, 99, 50, 48, 48, 99, 52, 48, 48, 99, 48, 48, 48, 99, 49, 48, 48, 99, 51, 48, 48, 99, 53, 48, 48, 99, 55, 48, 48, 100, 49, 48, 48, 97, 54, 48, 48, 50, 99, 48, 48, 50, 53, 48, 48, 53, 102, 48, 48, 51, 101, 48, 48, 51, 102]
def rbase7 : List UInt8 := [48, 48, 102, 56, 48, 48, 99, 57, 48, 48, 99, 97, 48, 48, 99, 98, 48, 48, 99, 56, 48, 48, 99, 100, 48, 48, 99, 101, 48, 48, 99, 102, 48, 48, 99, 99, 48, 48, 54, 48, 48, 48, 51, 97, 48, 48, 50, 51, 48, 48, 52, 48, 48, 48, 50, 55, 48, 48, 51, 100, 48, 48, 50, 50]
def rbase8 : List UInt8 := [48, 48, 100, 56, 48, 48, 54, 49, 48, 48, 54, 50, 48, 48, 54, 51, 48, 48, 54, 52, 48, 48, 54, 53, 48, 48, 54, 54, 48, 48, 54, 55, 48, 48, 54, 56, 48, 48, 54, 57, 48, 48, 97, 98, 48, 48, 98, 98, 48, 48, 102, 48, 48, 48, 102, 100, 48, 48, 102, 101, 48, 48, 98, 49]
def rbase9 : List UInt8 := [48, 48, 98, 48, 48, 48, 54, 97, 48, 48, 54, 98, 48, 48, 54, 99, 48, 48, 54, 100, 48, 48, 54, 101, 48, 48, 54, 102, 48, 48, 55, 48, 48, 48, 55, 49, 48, 48, 55, 50, 48, 48, 97, 97, 48, 48, 98, 97, 48, 48, 101, 54, 48, 48, 98, 56, 48, 48, 99, 54, 48, 48, 97, 52]
def rbase10 : List UInt8 := [48, 48, 98, 53, 48, 48, 55, 101, 48, 48, 55, 51, 48, 48, 55, 52, 48, 48, 55, 53, 48, 48, 55, 54, 48, 48, 55, 55, 48, 48, 55, 56, 48, 48, 55, 57, 48, 48, 55, 97, 48, 48, 97, 49, 48, 48, 98, 102, 48, 48, 100, 48, 48, 48, 100, 100, 48, 48, 100, 101, 48, 48, 97, 101]
def rbase11 : List UInt8 := [48, 48, 53, 101, 48, 48, 97, 51, 48, 48, 97, 53, 48, 48, 98, 55, 48, 48, 97, 57, 48, 48, 97, 55, 48, 48, 98, 54, 48, 48, 98, 99, 48, 48, 98, 100, 48, 48, 98, 101, 48, 48, 53, 98, 48, 48, 53, 100, 48, 48, 97, 102, 48, 48, 97, 56, 48, 48, 98, 52, 48, 48, 100, 55]
def rbase12 : List UInt8 := [48, 48, 55, 98, 48, 48, 52, 49, 48, 48, 52, 50, 48, 48, 52, 51, 48, 48, 52, 52, 48, 48, 52, 53, 48, 48, 52, 54, 48, 48, 52, 55, 48, 48, 52, 56, 48, 48, 52, 57, 48, 48, 97, 100, 48, 48, 102, 52, 48, 48, 102, 54, 48, 48, 102, 50, 48, 48, 102, 51, 48, 48, 102, 53]
def rbase13 : List UInt8 := [48, 48, 55, 100, 48, 48, 52, 97, 48, 48, 52, 98, 48, 48, 52, 99, 48, 48, 52, 100, 48, 48, 52, 101, 48, 48, 52, 102, 48, 48, 53, 48, 48, 48, 53, 49, 48, 48, 53, 50, 48, 48, 98, 57, 48, 48, 102, 98, 48, 48, 102, 99, 48, 48, 102, 57, 48, 48, 102, 97, 48, 48, 102, 102]
def rbase14 : List UInt8 := [48, 48, 53, 99, 48, 48, 102, 55, 48, 48, 53, 51, 48, 48, 53, 52, 48, 48, 53, 53, 48, 48, 53, 54, 48, 48, 53, 55, 48, 48, 53, 56, 48, 48, 53, 57, 48, 48, 53, 97, 48, 48, 98, 50, 48, 48, 100, 52, 48, 48, 100, 54, 48, 48, 100, 50, 48, 48, 100, 51, 48, 48, 100, 53]
def rbase15 : List UInt8 := [48, 48, 51, 48, 48, 48, 51, 49, 48, 48, 51, 50, 48, 48, 51, 51, 48, 48, 51, 52, 48, 48, 51, 53, 48, 48, 51, 54, 48, 48, 51, 55, 48, 48, 51, 56, 48, 48, 51, 57, 48, 48, 98, 51, 48, 48, 100, 98, 48, 48, 100, 99, 48, 48, 100, 57, 48, 48, 100, 97, 48, 48, 57, 102]
def rbaseL : List UInt8 := rbase0 ++ rbase1 ++ rbase2 ++ rbase3 ++ rbase4 ++ rbase5 ++ rbase6 ++ rbase7 ++ rbase8 ++ rbase9 ++ rbase10 ++ rbase11 ++ rbase12 ++ rbase13 ++ rbase14 ++ rbase15
def rothL37 : List UInt8 := []
def rothL273 : List UInt8 := [52, 51, 48, 48, 55, 98, 52, 97, 48, 48, 99, 52, 52, 102, 48, 48, 50, 49, 53, 57, 48, 48, 55, 101, 53, 97, 48, 48, 100, 99, 53, 102, 48, 48, 53, 101, 54, 51, 48, 48, 53, 98, 54, 97, 48, 48, 102, 54, 55, 99, 48, 48, 97, 55, 97, 49, 48, 48, 100, 102, 98, 48, 48, 48, 97, 50, 98, 53, 48, 48, 52, 48, 98, 97, 48, 48, 97, 99, 98, 98, 48, 48, 55, 99, 99, 48, 48, 48, 101, 52, 99, 99, 48, 48, 97, 54, 100, 48, 48, 48, 102, 99, 100, 99, 48, 48, 55, 100, 101, 48, 48, 48, 100, 54, 101, 99, 48, 48, 53, 99, 102, 99, 48, 48, 53, 100]
def rothL297 : List UInt8 := [52, 52, 48, 48, 52, 48, 52, 56, 48, 48, 53, 99, 52, 97, 48, 48, 98, 48, 52, 102, 48, 48, 50, 49, 53, 49, 48, 48, 55, 98, 53, 52, 48, 48, 55, 100, 53, 97, 48, 48, 97, 55, 53, 102, 48, 48, 53, 101, 54, 97, 48, 48, 102, 57, 55, 57, 48, 48, 98, 53, 55, 98, 48, 48, 97, 51, 55, 99, 48, 48, 101, 48, 57, 48, 48, 48, 53, 98, 97, 48, 48, 48, 54, 48, 97, 49, 48, 48, 97, 56, 98, 48, 48, 48, 97, 50, 98, 49, 48, 48, 50, 51, 98, 53, 48, 48, 53, 100, 98, 97, 48, 48, 97, 99, 98, 98, 48, 48, 55, 99, 98, 100, 48, 48, 55, 101, 99, 48, 48, 48, 101, 57, 100, 48, 48, 48, 101, 56, 100, 100, 48, 48, 97, 54, 101, 48, 48, 48, 101, 55]
def rothL500 : List UInt8 := [52, 97, 48, 48, 53, 98, 52, 102, 48, 48, 50, 49, 53, 97, 48, 48, 53, 100, 53, 102, 48, 48, 53, 101, 98, 48, 48, 48, 97, 50, 98, 97, 48, 48, 97, 99, 98, 98, 48, 48, 55, 99]
def rothL1047 : List UInt8 := [53, 102, 48, 48, 53, 101, 97, 100, 48, 48, 53, 98, 98, 48, 48, 48, 97, 99, 98, 97, 48, 48, 100, 100, 98, 98, 48, 48, 97, 56, 98, 100, 48, 48, 53, 100]
def rothL1140 : List UInt8 := [57, 102, 50, 48, 97, 99]
def rothL (n : Int) : List UInt8 := if n = 37 then rothL37 else if n = 273 then rothL273 else if n = 297 then rothL297 else if n = 500 then rothL500 else if n = 1047 then rothL1047 else if n = 1140 then rothL1140 else rothL37
def toB (L : List UInt8) : ByteArray := ⟨L.toArray⟩
theorem toB_size (L : List UInt8) : (toB L).size = L.length := by simp [toB, ByteArray.size]
def numL (L : List UInt8) : Nat := L.foldl (fun a b => 16 * a + digN b) 0
def numS (s : ByteArray) : Nat := numTo s s.size
theorem numTo_list (s : ByteArray) : ∀ k, k ≤ s.size → numTo s k = numL (s.data.toList.take k)
  | 0, _ => rfl
  | k + 1, h => by
    have hk : k < s.data.toList.length := by rw [Array.length_toList]; exact h
    rw [numTo, numTo_list s k (by omega), List.take_succ_eq_append_getElem hk]
    unfold numL
    rw [List.foldl_append]
    have : s.data[k]?.getD 0 = s.data.toList[k] := by
      rw [Array.getElem?_eq_getElem (by simpa using hk)]; rfl
    rw [this]; rfl
theorem numS_part (L : List UInt8) (i m : Nat) (h : i + m ≤ L.length) : ((toB L).extract i (i + m)).size = m ∧ numS ((toB L).extract i (i + m)) = numL ((L.drop i).take m) := by
  have hd : ((toB L).extract i (i + m)).data.toList = (L.drop i).take m := by
    simp [toB, ByteArray.data_extract]
  have hs : ((toB L).extract i (i + m)).size = m := by
    have : ((toB L).extract i (i + m)).data.toList.length = m := by rw [hd]; simp; omega
    rw [Array.length_toList] at this; exact this
  refine ⟨hs, ?_⟩
  unfold numS
  rw [numTo_list _ _ (Nat.le_refl _), hd, hs, List.take_take]
  simp
def hex4 : List UInt8 → List Nat
  | a :: b :: c :: d :: r => numL [a, b, c, d] :: hex4 r
  | _ => []
def hex6 : List UInt8 → List (Nat × Nat)
  | a :: b :: c :: d :: e :: f :: r => (numL [a, b], numL [c, d, e, f]) :: hex6 r
  | _ => []
/-- The sign of a code. -/
def rsign (n : Int) (c : Nat) : Nat := (((othersF n).find? (fun o => o.1 == c)).map (·.2)).getD (baseL.getD c 0)
end Go.Proofs.YtkggdohfcmiakaaGreatDoor
/-
  The document's sign of a code, and the code of a sign.
-/
namespace Go.Proofs.YtkggdohfcmiakaaGreatDoor
open Go Go.AL

theorem wrap32 {x : Int} (h0 : 0 ≤ x) (h1 : x ≤ 2147483647) : IntKind.i32.wrap x = x := by
  unfold IntKind.wrap
  simp [IntKind.bits, IntKind.signed]
  omega
theorem nums_calls (s : ByteArray) (hs : s.size ≤ 4) (σ : Store) : ACalls Tryz.prog 78 [.lit (.string s)] σ fun v σ' => v = .lit (.int .i64 (numS s : Nat)) ∧ σ' = σ := num_calls s hs σ
/-- A sign's code, or none. -/
def codeZ (n s : Int) : Int := match codeIx n s with | some j => (j : Nat) | none => -1
end Go.Proofs.YtkggdohfcmiakaaGreatDoor
/-
  Of each function: which temporaries take a right to append with the value; the plans of the regions that draw their order. Written by a program of mine.
-/
namespace Go.Proofs.YtkggdohfcmiakaaGreatDoor
open Go Go.AL
/- internal/strconv.Itoa -/
@[simp] def st50 : List Nat := []
@[simp] def pl50 : List (Nat × Plan) := []
/- internal/strconv.FormatInt -/
@[simp] def st77 : List Nat := [53]
@[simp] def pl77 : List (Nat × Plan) := []
/- internal/strconv.small -/
@[simp] def st96 : List Nat := []
@[simp] def pl96 : List (Nat × Plan) := []
end Go.Proofs.YtkggdohfcmiakaaGreatDoor
/-
  The names of the keys that send; the short ones.
-/
namespace Go.Proofs.YtkggdohfcmiakaaGreatDoor
open Go Go.AL Go.Sp
variable {σ : Store}

@[simp] theorem callable_a : callable Tryz.prog 50 = true := nr (by kernel_rfl)
@[simp] theorem callable_b : callable Tryz.prog 77 = true := nr (by kernel_rfl)
@[simp] theorem callable_c : callable Tryz.prog 96 = true := nr (by kernel_rfl)
theorem toB_append (a b : List UInt8) : toB a ++ toB b = toB (a ++ b) := by
  apply ByteArray.ext
  simp [toB]
theorem toB_extract (L : List UInt8) (i j : Nat) (h : i ≤ j) : (toB L).extract i j = toB ((L.drop i).take (j - i)) := by
  apply ByteArray.ext
  apply Array.ext'
  simp [toB, ByteArray.data_extract]
/-- A part of a known text. -/
theorem aSlice_str {P : Program} {t : TypeId} (ht : tElem P t = none) (hs : tStr P t = true) (L : List UInt8) (a b : Nat) (za zb : Int) (ha : za = a) (hb : zb = b) (hab : a ≤ b) (hbl : b ≤ L.length) :
    aSlice P t (.lit (.string (toB L))) (some (.lit (.int .i64 za))) (some (.lit (.int .i64 zb))) none = some (.lit (.string (toB ((L.drop a).take (b - a))))) := by
  subst ha hb
  have hsz := toB_size L
  have h0 : (0 : Int) ≤ (a : Int) := by omega
  have h1 : (0 : Int) ≤ (b : Int) := by omega
  have h2 : b ≤ (toB L).size := by omega
  simp [aSlice, ht, hs, bndA, h0, h1, hab, h2, toB_extract L a b hab]
def digsL : List UInt8 := [48, 49, 50, 51, 52, 53, 54, 55, 56, 57]
def decL (n : Nat) : List UInt8 := if n < 10 then [UInt8.ofNat (48 + n)] else [UInt8.ofNat (48 + n / 10), UInt8.ofNat (48 + n % 10)]
theorem decL_len (n : Nat) : (decL n).length ≤ 2 := by unfold decL; split <;> simp
theorem dec_room (a b : Nat) : ¬ (9223372036854775807 : Int) < ((toB (decL a)).size : Int) + ((toB (decL b)).size : Int) := by
  have h1 := decL_len a
  have h2 := decL_len b
  rw [toB_size, toB_size]; omega
theorem digs_at : ∀ i : Fin 10, (digsL.drop i.val).take 1 = decL i.val := by decide +kernel
set_option maxRecDepth 8000 in
theorem rdec10_calls {n : Nat} (hn : n < 10) (σ : Store) : ACalls Tryz.prog 22 [.lit (.int .i64 n)] σ fun v σ' => v = .lit (.string (toB (decL n))) ∧ σ' = σ := by
  have hd := digs_at ⟨n, hn⟩
  dsimp only at hd
  have hw : IntKind.i64.wrap ((n : Int) + 1) = (n : Int) + 1 := wrap_i64 (by omega) (by omega)
  have hsl := aSlice_str (P := Tryz.prog) (t := 9) (by simp) (by simp) digsL n (n + 1) (n : Int) ((n : Int) + 1) rfl (by omega) (by omega) (by show n + 1 ≤ 10; omega)
  rw [show n + 1 - n = 1 from by omega, hd] at hsl
  have hc : (⟨#[48, 49, 50, 51, 52, 53, 54, 55, 56, 57]⟩ : ByteArray) = toB digsL := rfl
  have h10 : (n : Int) < 10 := by omega
  have h0 : ¬ (n : Int) < 0 := by omega
  refine ACalls.of_awp follows (st := st22) (plans := pl22) (n := 21) Tryz.func22 rfl (by kernel_rfl) (by kernel_rfl) (by kernel_rfl) ?_
  simp [-e_aSlice_1, -e_aSlice_2, hc, hw, hsl, hn, h10, h0]
set_option maxRecDepth 8000 in
theorem rdec_calls {n : Nat} (hn : n < 100) (σ : Store) : ACalls Tryz.prog 22 [.lit (.int .i64 n)] σ fun v σ' => v = .lit (.string (toB (decL n))) ∧ σ' = σ := by
  by_cases h10 : n < 10
  · exact rdec10_calls h10 σ
  have h1 := rdec10_calls (n := n / 10) (by omega) σ
  have h2 := rdec10_calls (n := n % 10) (by omega) σ
  have e1 : decL n = decL (n / 10) ++ decL (n % 10) := by
    unfold decL
    rw [if_neg h10, if_pos (by omega), if_pos (by omega)]; rfl
  have g1 : (n : Int).tdiv 10 = ((n / 10 : Nat) : Int) := rfl
  have g2 : (n : Int).tmod 10 = ((n % 10 : Nat) : Int) := rfl
  have h10' : ¬ (n : Int) < 10 := by omega
  have h0 : ¬ (n : Int) < 0 := by omega
  have b1 : n / 10 < 10 := by omega
  have b2 : n % 10 < 10 := by omega
  rw [e1]
  generalize n / 10 = a at *
  generalize n % 10 = b at *
  have q1 : IntKind.i64.wrap ((n : Int).tdiv 10) = (a : Int) := by rw [g1]; exact wrap_i64 (by omega) (by omega)
  have q1' : IntKind.i64.wrap ((n : Int) / 10) = (a : Int) := by
    have : (n : Int) / 10 = (a : Int) := g1
    rw [this]; exact wrap_i64 (by omega) (by omega)
  have q2 : IntKind.i64.wrap ((n : Int).tmod 10) = (b : Int) := by rw [g2]; exact wrap_i64 (by omega) (by omega)
  have q2' : IntKind.i64.wrap (b : Int) = (b : Int) := wrap_i64 (by omega) (by omega)
  refine ACalls.of_awp follows (st := st22) (plans := pl22) (n := 21) Tryz.func22 rfl (by kernel_rfl) (by kernel_rfl) (by kernel_rfl) ?_
  simp [h10, h10', h0, q1, q1']
  refine callK.eq h1 ?_
  simp [q2, q2', g2]
  refine callK.eq h2 ?_
  simp [toB_append, dec_room]
def smallsL : List UInt8 := (List.range 100).flatMap fun n => [UInt8.ofNat (48 + n / 10), UInt8.ofNat (48 + n % 10)]
def digits36 : List UInt8 := [48, 49, 50, 51, 52, 53, 54, 55, 56, 57, 97, 98, 99, 100, 101, 102, 103, 104, 105, 106, 107, 108, 109, 110, 111, 112, 113, 114, 115, 116, 117, 118, 119, 120, 121, 122]
theorem smalls_len : smallsL.length = 200 := by decide +kernel
theorem smalls_at : ∀ i : Fin 100, 10 ≤ i.val → (smallsL.drop (2 * i.val)).take 2 = decL i.val := by decide +kernel
theorem digs36_at : ∀ i : Fin 10, (digits36.drop i.val).take 1 = decL i.val := by decide +kernel
theorem mk_toB (L : List UInt8) (a : Array UInt8) (h : a = L.toArray) : ByteArray.mk a = toB L := by rw [h]; rfl
set_option maxRecDepth 8000 in
theorem small_calls {n : Nat} (hn : n < 100) (σ : Store) : ACalls Tryz.prog 96 [.lit (.int .i64 n)] σ fun v σ' => v = .lit (.string (toB (decL n))) ∧ σ' = σ := by
  refine ACalls.of_awp follows (st := st96) (plans := pl96) (n := 15) Tryz.func96 rfl (by kernel_rfl) (by kernel_rfl) (by kernel_rfl) ?_
  by_cases h10 : n < 10
  · have hd := digs36_at ⟨n, h10⟩
    dsimp only at hd
    have hw : IntKind.i64.wrap ((n : Int) + 1) = (n : Int) + 1 := wrap_i64 (by omega) (by omega)
    have hsl := aSlice_str (P := Tryz.prog) (t := 9) (by simp) (by simp) digits36 n (n + 1) (n : Int) ((n : Int) + 1) rfl (by omega) (by omega) (by show n + 1 ≤ 36; omega)
    rw [show n + 1 - n = 1 from by omega, hd] at hsl
    have hc : (⟨#[48, 49, 50, 51, 52, 53, 54, 55, 56, 57, 97, 98, 99, 100, 101, 102, 103, 104, 105, 106, 107, 108, 109, 110, 111, 112, 113, 114, 115, 116, 117, 118, 119, 120, 121, 122]⟩ : ByteArray) = toB digits36 := rfl
    have h10' : (n : Int) < 10 := by omega
    simp [-e_aSlice_1, -e_aSlice_2, hc, hw, hsl, h10, h10']
  · have hd := smalls_at ⟨n, hn⟩ (by show 10 ≤ n; omega)
    dsimp only at hd
    have hw1 : IntKind.i64.wrap ((n : Int) * 2) = (n : Int) * 2 := wrap_i64 (by omega) (by omega)
    have hw2 : IntKind.i64.wrap ((n : Int) * 2 + 2) = (n : Int) * 2 + 2 := wrap_i64 (by omega) (by omega)
    have hsl := aSlice_str (P := Tryz.prog) (t := 9) (by simp) (by simp) smallsL (2 * n) (2 * n + 2) ((n : Int) * 2) ((n : Int) * 2 + 2) (by omega) (by omega) (by omega) (by rw [smalls_len]; omega)
    rw [show 2 * n + 2 - 2 * n = 2 from by omega, hd] at hsl
    have h10' : ¬ (n : Int) < 10 := by omega
    simp [-e_aSlice_1, -e_aSlice_2, hw1, hw2, h10, h10']
    rw [mk_toB smallsL]
    rotate_left
    · kernel_rfl
    rw [hsl]
    simp
set_option maxRecDepth 8000 in
theorem fmtint_calls {n : Nat} (hn : n < 100) (σ : Store) : ACalls Tryz.prog 77 [.lit (.int .i64 n), .lit (.int .i64 10)] σ fun v σ' => v = .lit (.string (toB (decL n))) ∧ σ' = σ := by
  have h := small_calls hn σ
  have h0 : (0 : Int) ≤ (n : Int) := by omega
  have h1 : (n : Int) < 100 := by omega
  refine ACalls.of_awp follows (st := st77) (plans := pl77) (n := 54) Tryz.func77 rfl (by kernel_rfl) (by kernel_rfl) (by kernel_rfl) ?_
  simp [h0, h1, hn]
  refine callK.eq h ?_
  simp
set_option maxRecDepth 8000 in
theorem itoa2_calls {n : Nat} (hn : n < 100) (σ : Store) : ACalls Tryz.prog 50 [.lit (.int .i64 n)] σ fun v σ' => v = .lit (.string (toB (decL n))) ∧ σ' = σ := by
  have h := fmtint_calls hn σ
  refine ACalls.of_awp follows (st := st50) (plans := pl50) (n := 5) Tryz.func50 rfl (by kernel_rfl) (by kernel_rfl) (by kernel_rfl) ?_
  simp
  refine callK.eq h ?_
  simp
set_option maxRecDepth 8000 in
theorem itoa_calls {n : Nat} (hn : n < 100) (σ : Store) : ACalls Tryz.prog 20 [.lit (.int .i64 n)] σ fun v σ' => v = .lit (.string (toB (decL n))) ∧ σ' = σ := by
  have h := itoa2_calls hn σ
  refine ACalls.of_awp follows (st := st20) (plans := pl20) (n := 5) Tryz.func20 rfl (by kernel_rfl) (by kernel_rfl) (by kernel_rfl) ?_
  simp
  refine callK.eq h ?_
  simp
/-- Where a byte stands in a list, from 1 on; 0: nowhere. -/
def plcN (L : List UInt8) (b : UInt8) : Nat := if L.idxOf b < L.length then L.idxOf b + 1 else 0
set_option maxRecDepth 8000 in
theorem keyplc_calls' (L : List UInt8) (hL : L.length ≤ 1000000) (b : UInt8) (s : ByteArray) (hsz : s.size = L.length) (hb : ∀ i (h1 : i < s.size) (hi : i < L.length), s[i] = L[i]) (σ : Store) : ACalls Tryz.prog 49 [.lit (.string s), byteA b] σ fun v σ' => v = .lit (.int .i64 (plcN L b : Nat)) ∧ σ' = σ := by
  unfold plcN
  refine ACalls.of_awp follows (st := st49) (plans := pl49) (n := 19) Tryz.func49 rfl (by kernel_rfl) (by kernel_rfl) (by kernel_rfl) ?_
  simp [byteA]
  refine codeK.loop follows (st := st49) (plans := pl49) (X := Nat) (fun i => i ≤ L.length ∧ i ≤ L.idxOf b)
    (fun i => [(0, .lit (.string s)), (1, byteA b), (7, .lit (.int .i64 L.length)), (8, .lit (.int .i64 i))]) (fun _ => σ) (fun i => L.length - i) 0 (by kernel_rfl) (by simp) (by simp [byteA, hsz]) (Store.sub_refl _) fun i hi => ?_
  obtain ⟨hi1, hi2⟩ := hi
  by_cases hlt : i < L.length
  · have hw1 : IntKind.i64.wrap ((i : Int) + 1) = (i : Int) + 1 := wrap_i64 (by omega) (by omega)
    have hlt2 : i < s.size := by omega
    have hbi := hb i hlt2 hlt
    by_cases he : L[i] = b
    · have hix : L.idxOf b = i := by
        have : L.idxOf b ≤ i := by
          rcases Nat.lt_or_ge i (L.idxOf b) with h | h
          · exact absurd he (List.not_of_lt_findIdx (p := (· == b)) h |> fun h2 => by simpa using h2)
          · exact h
        omega
      rw [hix, if_pos hlt]
      have he2 : s[i] = b := hbi.trans he
      have he5 : (s.data[i].toNat : Int) = b.toNat := by rw [← ByteArray.getElem_eq_getElem_data, he2]
      simp [byteA, hlt, hlt2, he5, hw1]
    · have he2 : ¬ s[i] = b := fun h => he (hbi.symm.trans h)
      have he3 : ¬ (s[i].toNat : Int) = (b.toNat : Int) := fun h => he2 (UInt8.toNat_inj.1 (by omega))
      have he4 : ¬ s[i].toNat = b.toNat := fun h => he2 (UInt8.toNat_inj.1 h)
      have hne : ¬ i = L.idxOf b := fun h => by
        have h2 : L.idxOf b < L.length := by omega
        have := List.getElem_idxOf h2
        exact he (by simpa [← h] using this)
      have he5 : ¬ (s.data[i].toNat : Int) = b.toNat := by rw [← ByteArray.getElem_eq_getElem_data]; exact he3
      have he6 : ¬ s.data[i].toNat = b.toNat := by rw [← ByteArray.getElem_eq_getElem_data]; exact he4
      simp [byteA, hlt, hlt2, he5, he6, hw1]
      exact ⟨i + 1, by omega, by omega, by simp⟩
  · have hge : ¬ L.idxOf b < L.length := by omega
    rw [if_neg hge]
    obtain rfl : i = L.length := by omega
    simp
theorem keyplc_calls (L : List UInt8) (hL : L.length ≤ 1000000) (b : UInt8) (σ : Store) : ACalls Tryz.prog 49 [.lit (.string (toB L)), byteA b] σ fun v σ' => v = .lit (.int .i64 (plcN L b : Nat)) ∧ σ' = σ :=
  keyplc_calls' L hL b (toB L) (toB_size L) (fun i h1 hi => by simp [toB, ByteArray.getElem_eq_getElem_data]) σ
end Go.Proofs.YtkggdohfcmiakaaGreatDoor
/-
  The signs that are shown; the graphic ones.
-/
namespace Go.Proofs.YtkggdohfcmiakaaGreatDoor
open Go Go.AL Go.Sp
variable {σ : Store}

def hidB (s : Nat) : Bool := decide (s < 32) || (decide (127 ≤ s) && decide (s ≤ 159)) || s == 173
def shownN (n : Int) (c : UInt8) : Nat := if c = 28 then 42 else if c = 30 then 59 else if c = 63 then 191 else if dataB c = false then 32 else if hidB (sgF n c.toNat) then 32 else sgF n c.toNat
def escL : List (Nat × Nat) := [(112, 8743), (133, 9474), (138, 8593), (139, 8595), (140, 8804), (143, 8594), (159, 8592), (162, 9472), (174, 8805), (190, 8800), (196, 9492), (197, 9484), (198, 9500), (199, 9524), (211, 9532), (212, 9496), (213, 9488), (214, 9508), (215, 9516)]
def escF (c : UInt8) : Option Nat := (escL.find? fun o => o.1 == c.toNat).map (·.2)
set_option maxRecDepth 8000 in
theorem hid_calls (s : Nat) (σ : Store) : ACalls Tryz.prog 83 [.lit (.int .i32 (s : Int))] σ fun v σ' => v = .lit (.bool (hidB s)) ∧ σ' = σ := by
  refine ACalls.of_awp follows (st := st83) (plans := pl83) (n := 17) Tryz.func83 rfl (by kernel_rfl) (by kernel_rfl) (by kernel_rfl) ?_
  unfold hidB
  by_cases h1 : s < 32
  · have h1' : (s : Int) < 32 := by omega
    simp [h1, h1']
  have h1' : ¬ (s : Int) < 32 := by omega
  by_cases h2 : 127 ≤ s
  · have h2' : (127 : Int) ≤ s := by omega
    by_cases h3 : s ≤ 159
    · have h3' : (s : Int) ≤ 159 := by omega
      simp [h1, h1', h2, h2', h3, h3']
    · have h3' : ¬ (s : Int) ≤ 159 := by omega
      have h4 : ((s : Int) == 173) = (s == 173) := by rw [Bool.eq_iff_iff]; simp; omega
      simp [h1, h1', h2, h2', h3, h3', h4]
  · have h2' : ¬ (127 : Int) ≤ s := by omega
    have h4 : ((s : Int) == 173) = (s == 173) := by rw [Bool.eq_iff_iff]; simp; omega
    simp [h1, h1', h2, h2', h4]
set_option maxRecDepth 8000 in
theorem shown_calls (b : Nat) (n : Int) (hn : isPage n) (x : Option Nat) (c : UInt8) (σ : Store) : ACalls Tryz.prog 57 [ptrA b, byteA c] (pgS b n x σ) fun v σ' => v = .lit (.int .i32 ((shownN n c : Nat) : Int)) ∧ ∃ x', NxP σ x x' ∧ σ' = pgS b n x' σ := by
  have hs := csign_calls b n hn x c σ
  have hd := fun τ => data_calls c τ
  have hh := fun τ => hid_calls (sgF n c.toNat) τ
  unfold shownN
  refine ACalls.of_awp follows (st := st57) (plans := pl57) (n := 22) Tryz.func57 rfl (by kernel_rfl) (by kernel_rfl) (by kernel_rfl) ?_
  by_cases c1 : c = 28
  · subst c1; simp [byteA]; exact ⟨_, AV.le_refl _, _, Store.sub_refl _, rfl, x, .inl rfl, rfl⟩
  by_cases c2 : c = 30
  · subst c2; simp [byteA]; exact ⟨_, AV.le_refl _, _, Store.sub_refl _, rfl, x, .inl rfl, rfl⟩
  by_cases c3 : c = 63
  · subst c3; simp [byteA]; exact ⟨_, AV.le_refl _, _, Store.sub_refl _, rfl, x, .inl rfl, rfl⟩
  have k1 : ¬ (c.toNat : Int) = 28 := fun h => c1 (UInt8.toNat_inj.1 (by show c.toNat = 28; omega))
  have k2 : ¬ (c.toNat : Int) = 30 := fun h => c2 (UInt8.toNat_inj.1 (by show c.toNat = 30; omega))
  have k3 : ¬ (c.toNat : Int) = 63 := fun h => c3 (UInt8.toNat_inj.1 (by show c.toNat = 63; omega))
  unfold byteA at *
  simp [k1, k2, k3, c1, c2, c3]
  refine callK.eq (hd _) ?_
  generalize sgF n c.toNat = s at *
  generalize hidB s = hb at *
  generalize dataB c = db at *
  cases db
  · simp
    exact ⟨_, AV.le_refl _, _, Store.sub_refl _, rfl, x, .inl rfl, rfl⟩
  · simp
    refine callK.of hs ?_
    rintro v τ ⟨rfl, q, nx, rfl⟩
    simp
    refine callK.eq (hh _) ?_
    cases hb
    · simp
      exact ⟨_, AV.le_refl _, _, Store.sub_refl _, rfl, _, nx, rfl⟩
    · simp
      exact ⟨_, AV.le_refl _, _, Store.sub_refl _, rfl, _, nx, rfl⟩
set_option maxRecDepth 8000 in
theorem escs_calls (σ : Store) : ACalls Tryz.prog 80 [] σ fun v σ' => v = .list true 2 (othA escL) ∧ σ' = σ := by
  refine ACalls.of_awp follows (st := st80) (plans := pl80) (n := 21) Tryz.func80 rfl (by kernel_rfl) (by kernel_rfl) (by kernel_rfl) ?_
  simp [othA, escL]
end Go.Proofs.YtkggdohfcmiakaaGreatDoor
/-
  The graphic signs, the program's and the document's.
-/
namespace Go.Proofs.YtkggdohfcmiakaaGreatDoor
open Go Go.AL Go.Sp
variable {σ : Store}

def eC (j : Nat) : Nat := (escL.getD j (0, 0)).1
def eS (j : Nat) : Nat := (escL.getD j (0, 0)).2
theorem escL_len : escL.length = 19 := by decide
theorem eC_at (j : Nat) (hj : j < escL.length) : (escL[j]).1 = eC j := by simp [eC, hj]
theorem eS_at (j : Nat) (hj : j < escL.length) : (escL[j]).2 = eS j := by simp [eS, hj]
theorem escF_hit {c : UInt8} {i : Nat} (hi : i < 19) (hb : ∀ j, j < i → ¬ eC j = c.toNat) (he : eC i = c.toNat) : escF c = some (eS i) := by
  have hl := escL_len
  have hi' : i < escL.length := by omega
  unfold escF
  rw [List.find?_eq_some_iff_getElem.2 ⟨by simp [he, eC_at], i, hi', rfl, fun j hj => by have := hb j hj; simpa [eC_at] using this⟩]
  rw [Option.map_some, eS_at]
theorem escF_none {c : UInt8} (hb : ∀ j, j < 19 → ¬ eC j = c.toNat) : escF c = none := by
  unfold escF
  rw [List.find?_eq_none.2]
  · rfl
  · intro o ho
    obtain ⟨j, hj, rfl⟩ := List.getElem_of_mem ho
    have := hb j (by have := escL_len; omega)
    simpa [eC_at] using this
theorem othA_get (i : Nat) (hi : i < 19) : (othA escL)[i]? = some (.agg [.lit (.int .u8 (eC i : Int)), .lit (.int .u16 (eS i : Int))]) := by
  have hl := escL_len
  have hi' : i < escL.length := by omega
  simp [othA, hi', eC_at, eS_at]
set_option maxRecDepth 8000 in
theorem escape_calls (c : UInt8) (σ : Store) : ACalls Tryz.prog 56 [byteA c] σ fun v σ' => v = .tuple [.lit (.int .i32 ((escF c).getD 0 : Nat)), .lit (.bool (escF c).isSome)] ∧ σ' = σ := by
  have hec := fun τ => escs_calls τ
  have hsm : ∀ j, j < 19 → eS j < 65536 := by decide
  refine ACalls.of_awp follows (st := st56) (plans := pl56) (n := 20) Tryz.func56 rfl (by kernel_rfl) (by kernel_rfl) (by kernel_rfl) ?_
  simp [byteA]
  refine callK.eq (hec _) ?_
  have hhit := fun i (hi : i < 19) => escF_hit (c := c) hi
  have hnone := escF_none (c := c)
  generalize escF c = ec at *
  have hget := othA_get
  have hOl : (othA escL).length = 19 := by rw [othA_length, escL_len]
  generalize othA escL = O at *
  generalize eC = fC at *
  generalize eS = fS at *
  simp [hOl]
  refine codeK.loop follows (st := st56) (plans := pl56) (X := Nat) (fun i => i ≤ 19 ∧ ∀ j, j < i → ¬ fC j = c.toNat)
    (fun i => [(0, byteA c), (6, .list true 2 O), (7, .lit (.int .i64 19)), (8, .lit (.int .i64 i))]) (fun _ => σ) (fun i => 19 - i) 0 (by kernel_rfl) (by simp) (by simp [byteA]) (Store.sub_refl _) fun i hi => ?_
  obtain ⟨hi1, hi2⟩ := hi
  by_cases hlt : i < 19
  · have hw1 : IntKind.i64.wrap ((i : Int) + 1) = (i : Int) + 1 := wrap_i64 (by omega) (by omega)
    have hg := hget i hlt
    have hlt' : (i : Int) < 19 := by omega
    have hgo : ∀ q : i < O.length, O[i]'q = .agg [.lit (.int .u8 (fC i : Int)), .lit (.int .u16 (fS i : Int))] := fun q => by rw [List.getElem?_eq_getElem q] at hg; exact Option.some.inj hg
    have hH := hhit i hlt hi2
    have hS := hsm i hlt
    have hnx : ¬ fC i = c.toNat → ∀ j, j < i + 1 → ¬ fC j = c.toNat := fun h j hj => by
      rcases Nat.lt_or_ge j i with h1 | h1
      · exact hi2 j h1
      · have : j = i := by omega
        subst this; exact h
    generalize fC i = w at *
    generalize fS i = s at *
    have hw2 : IntKind.i32.wrap (s : Int) = s := wrap32 (by omega) (by omega)
    by_cases he : w = c.toNat
    · have hH' := hH he
      rw [hH']
      simp +contextual [byteA, hlt, hlt', hgo, hOl, he, hw2]
    · have he' : ¬ (w : Int) = (c.toNat : Int) := by omega
      simp +contextual [byteA, hlt, hlt', hgo, hOl, he, he', hw1]
      intro z hz
      exact ⟨i + 1, ⟨by omega, hnx he⟩, by omega, by simp⟩
  · obtain rfl : i = 19 := by omega
    rw [hnone hi2]
    simp
set_option maxRecDepth 8000 in
theorem hidden_calls (p u : Bool) (d : Nat) (m : Bool) (σ : Store) : ACalls Tryz.prog 25 [.agg [.lit (.bool p), .lit (.bool u), .lit (.int .i64 d), .lit (.bool m)]] σ fun v σ' => v = .lit (.bool (decide (d = 3))) ∧ σ' = σ := by
  have h4 : ((d : Int) == 3) = decide (d = 3) := by rw [Bool.eq_iff_iff]; simp; omega
  refine ACalls.of_awp follows (st := st25) (plans := pl25) (n := 6) Tryz.func25 rfl (by kernel_rfl) (by kernel_rfl) (by kernel_rfl) ?_
  simp [h4]
  intro z hz
  exact sub_upd_self _ _ _ hz
def escS : List UInt8 := [55, 48, 50, 50, 50, 55, 56, 53, 50, 53, 48, 50, 56, 97, 50, 49, 57, 49, 56, 98, 50, 49, 57, 51, 56, 99, 50, 50, 54, 52, 56, 102, 50, 49, 57, 50, 57, 102, 50, 49, 57, 48, 97, 50, 50, 53, 48, 48, 97, 101, 50, 50, 54, 53, 98, 101, 50, 50, 54, 48, 99, 52, 50, 53, 49, 52, 99, 53, 50, 53, 48, 99, 99, 54, 50, 53, 49, 99, 99, 55, 50, 53, 51, 52, 100, 51, 50, 53, 51, 99, 100, 52, 50, 53, 49, 56, 100, 53, 50, 53, 49, 48, 100, 54, 50, 53, 50, 52, 100, 55, 50, 53, 50, 99]
end Go.Proofs.YtkggdohfcmiakaaGreatDoor
/-
  The iterators over a screen that their rounds change, attributes staying where they are.
-/
namespace Go.Proofs.YtkggdohfcmiakaaGreatDoor
open Go Go.AL Go.Sp

/-- The screen of each round. -/
def NeedF (b q p : Nat) (S : Nat → Sp) (k : Nat) (τ : Store) : Prop := τ b = some [ptrA q] ∧ Prg τ q p (S k)
/-- Screens of one size, attributes at the same places. -/
structure Fam (S : Nat → Sp) : Prop where
  good : ∀ k, (S k).good
  n : ∀ k, (S k).n = (S 0).n
  attr : ∀ k i, attrAt (S k).cells i = attrAt (S 0).cells i
theorem Fam.attrs {S : Nat → Sp} (h : Fam S) (k : Nat) : (S k).attrs = (S 0).attrs := by
  rw [attrs_eq _ (h.good k), attrs_eq _ (h.good 0), h.n k]
  congr 1
  funext i; exact h.attr k i
def atFldF (S : Nat → Sp) (k : Nat) : Nat × Fld := ((S 0).attrs[k]?.getD 0, fld (((S k).cells[(S 0).attrs[k]?.getD 0]?.getD .zero).fa))
/-- What the iterator over a field's places finds. -/
def NeedPF (b c q p : Nat) (S : Nat → Sp) (a : Nat) (k : Nat) (τ : Store) : Prop := τ b = some [ptrA q] ∧ τ c = some [.lit (.int .i64 a)] ∧ Prg τ q p (S k)
end Go.Proofs.YtkggdohfcmiakaaGreatDoor
/-
  Screens of one size.
-/
namespace Go.Proofs.YtkggdohfcmiakaaGreatDoor
open Go Go.AL Go.Sp

theorem foldl_inv {α β : Type} {P : β → Prop} (f : β → α → β) (h : ∀ b a, P b → P (f b a)) : ∀ (l : List α) (b : β), P b → P (l.foldl f b)
  | [], _, hb => hb
  | a :: l, b, hb => foldl_inv f h l (f b a) (h b a hb)
/-- A screen of the same size. -/
def SameN (s t : Sp) : Prop := t.good ∧ t.model = s.model ∧ t.alt = s.alt
theorem SameN.n {s t : Sp} (h : SameN s t) : t.n = s.n := by unfold Sp.n Sp.rows Sp.cols; rw [h.2.1, h.2.2]
theorem SameN.trans {a b c : Sp} (h : SameN a b) (k : SameN b c) : SameN a c := ⟨k.1, k.2.1.trans h.2.1, k.2.2.trans h.2.2⟩
theorem SameN.set {s t : Sp} (h : SameN s t) (k : Int) (c : Cell) : SameN s (t.set k c) := ⟨h.1.set k c, h.2.1, h.2.2⟩
theorem SameN.put {s t : Sp} (h : SameN s t) (k : Int) (c : UInt8) : SameN s (t.put k c) := ⟨h.1.put k c, (t.model_put k c).1.trans h.2.1, (t.model_put k c).2.trans h.2.2⟩
theorem SameN.place {s t : Sp} (h : SameN s t) (k : Int) : SameN s (t.place k) := ⟨h.1.place k, h.2.1, h.2.2⟩
theorem SameN.rangeS {s t : Sp} (h : SameN s t) (l : List Nat) : SameN s (rangeS t l) :=
  foldl_inv (P := SameN s) _ (fun b a hb => by split; exact hb.put _ _; exact hb) l t h
theorem SameN.repeatS {s t : Sp} (h : SameN s t) (l : List Nat) (c : Cell) : SameN s (repeatS t l c) :=
  foldl_inv (P := SameN s) _ (fun _b _a hb => hb.set _ _) l t h
theorem SameN.nullS {s t : Sp} (h : SameN s t) (l : List Nat) : SameN s (nullS t l) :=
  foldl_inv (P := SameN s) _ (fun _b _a hb => hb.put _ _) l t h
/-- The screen is such within a store that knows more. -/
structure Lv (σ ρ : Store) (q r : Nat) (s : Sp) : Prop where
  prg : Prg ρ q r s
  sub : Store.sub (putS spO σ q r s) ρ
theorem putS_at {f : Sp → Nat → List AV} {σ : Store} {q r o : Nat} {s : Sp} (h1 : ¬ o = q) (h2 : ¬ o = r) : putS f σ q r s o = σ o := by simp [putS, h1, h2]
theorem Lv.put {σ ρ : Store} {q r : Nat} {s : Sp} (h : Lv σ ρ q r s) {s2 : Sp} (hg : s2.good) : Lv σ (putS spO ρ q r s2) q r s2 := by
  refine ⟨Scr.of_put h.prg.ne hg, Store.sub2 (fun o => ?_) (fun i => by simpa [putS] using h.sub (mkey i))⟩
  by_cases h1 : o = q
  · subst h1; right; simp [putS]
  · by_cases h2 : o = r
    · subst h2; right; simp [putS]
    · rw [putS_at h1 h2, putS_at h1 h2]
      have := h.sub o
      rwa [putS_at h1 h2] at this
theorem Lv.new {σ ρ : Store} {q r : Nat} {s : Sp} (h : Lv σ ρ q r s) {b : Nat} (hb : ρ b = none) (X : List AV) : Lv σ (ρ.upd b X) q r s :=
  ⟨h.prg.new hb X, Store.sub_trans h.sub (Store.sub_upd hb (Store.sub_refl _))⟩
theorem Lv.mono {σ ρ ρ' : Store} {q r : Nat} {s : Sp} (h : Lv σ ρ q r s) (hs : Store.sub ρ ρ') : Lv σ ρ' q r s := ⟨prg_mono h.prg hs, Store.sub_trans h.sub hs⟩
theorem NeedB.put {b1 b2 b3 : Nat} {s : Sp} {f t : Nat} {τ : Store} (h : NeedB b1 b2 b3 s f t τ) {q r : Nat} (g1 : ¬ b1 = q ∧ ¬ b1 = r) (g2 : ¬ b2 = q ∧ ¬ b2 = r) (g3 : ¬ b3 = q ∧ ¬ b3 = r) (s2 : Sp) : NeedB b1 b2 b3 s f t (putS spO τ q r s2) :=
  ⟨by rw [putS_at g1.1 g1.2]; exact h.1, by rw [putS_at g2.1 g2.2]; exact h.2.1, by rw [putS_at g3.1 g3.2]; exact h.2.2⟩
end Go.Proofs.YtkggdohfcmiakaaGreatDoor
/-
  No field is modified; all that is not protected goes.
-/
namespace Go.Proofs.YtkggdohfcmiakaaGreatDoor
open Go Go.AL Go.Sp

def clr (c : Cell) : Cell := { c with fa := c.fa &&& 0xfe }
def unmod1 (s : Sp) (a : Nat) : Sp := s.set a (clr (s.at a))
def unmodTo (s : Sp) (k : Nat) : Sp := (s.attrs.take k).foldl unmod1 s
def unmodS (s : Sp) : Sp := s.attrs.foldl unmod1 s
def unprot1 (s : Sp) (a : Nat) : Sp := if (fldAt s a).prot = true then s else unmod1 (nullS s (Sp.places s.cells a)) a
def unprotTo (s : Sp) (k : Nat) : Sp := (s.attrs.take k).foldl unprot1 s
def unprotS (s : Sp) : Sp := if s.count = 0 then (nullS s (List.range s.n)).place 0 else
  (s.attrs.foldl unprot1 s).place (max (nextS (s.attrs.foldl unprot1 s) (s.n - 1)) 0)
/-- What keeps the attributes where they are. -/
structure KeepA (s t : Sp) : Prop where
  same : SameN s t
  attr : ∀ i, attrAt t.cells i = attrAt s.cells i
theorem KeepA.trans {a b c : Sp} (h : KeepA a b) (k : KeepA b c) : KeepA a c := ⟨h.same.trans k.same, fun i => (k.attr i).trans (h.attr i)⟩
theorem KeepA.attrs {s t : Sp} (h : KeepA s t) (hs : s.good) : t.attrs = s.attrs := by
  rw [attrs_eq _ h.same.1, attrs_eq _ hs, h.same.n]
  congr 1
  funext i; exact h.attr i
end Go.Proofs.YtkggdohfcmiakaaGreatDoor
/-
  All that is not protected goes.
-/
namespace Go.Proofs.YtkggdohfcmiakaaGreatDoor
open Go Go.AL Go.Sp

def nullP (t : Sp) (a j : Nat) : Sp := nullS t ((Sp.places t.cells a).take j)
end Go.Proofs.YtkggdohfcmiakaaGreatDoor
/-
  Slices of places: collected, looked into.
-/
namespace Go.Proofs.YtkggdohfcmiakaaGreatDoor
open Go Go.AL Go.Sp

def natA (n : Nat) : AV := .lit (.int .i64 n)
def natsA (L : List Nat) : List AV := L.map natA
@[simp] theorem natsA_len (L : List Nat) : (natsA L).length = L.length := by simp [natsA]
@[simp] theorem natsA_get (L : List Nat) (i : Nat) (h : i < (natsA L).length) : (natsA L)[i] = .lit (.int .i64 (L[i]'(by simpa using h) : Nat)) := by simp [natsA, natA]
end Go.Proofs.YtkggdohfcmiakaaGreatDoor
/-
  The places from one on to the end of its field.
-/
namespace Go.Proofs.YtkggdohfcmiakaaGreatDoor
open Go Go.AL Go.Sp

/-- A place that is no attribute lies in the field that begins ahead of it. -/
structure InField (s : Sp) (n a : Nat) : Prop where
  start : startS s.cells n = (a : Nat)
  lt : a < s.n
  attr : attrAt s.cells a = true
  mem : n ∈ Sp.places s.cells a
theorem IterG.congr {P : Program} {f : Nat} {caps : List AV} {σ : Store} {N : Nat} {Need : Nat → Store → Prop} {arg : Nat → Store → List AV} (h : IterG P f caps σ N Need arg) (arg' : Nat → List AV) (he : ∀ k τ, k < N → arg k τ = arg' k) :
    IterG P f caps σ N Need fun k _ => arg' k :=
  ⟨fun k τ τ' hn hs => ⟨(h.mono k τ τ' hn hs).1, rfl⟩, fun X l I J h1 h2 τ E h3 hs => h.run X l I J h1 (fun k hk τ E hI => by rw [he k τ hk]; exact h2 k hk τ E hI) τ E h3 hs⟩
def restL (s : Sp) (n : Nat) : List Nat := if s.count = 0 then spanL s.n n 0 else (Sp.places s.cells (startS s.cells n).toNat).drop ((Sp.places s.cells (startS s.cells n).toNat).idxOf n)
end Go.Proofs.YtkggdohfcmiakaaGreatDoor
/-
  A field is marked; the end of a field goes.
-/
namespace Go.Proofs.YtkggdohfcmiakaaGreatDoor
open Go Go.AL Go.Sp

def roundL (s : Sp) (n : Nat) : List Nat := if s.count = 0 then spanL s.n n n else restL s n
def mk1 (c : Cell) : Cell := { c with fa := c.fa ||| 1 }
def modS (s : Sp) (n : Nat) : Sp := if startS s.cells n = -1 then s else s.set (startS s.cells n) (mk1 (s.at (startS s.cells n)))
def endS (s : Sp) (n : Nat) : Sp := if openS s n = true then modS (nullS s (restL s n)) n else s
end Go.Proofs.YtkggdohfcmiakaaGreatDoor
