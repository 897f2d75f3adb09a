/-
  The document's signs, as its strings say.
-/
import Derived.Test.YtbeohjinefaaoaaDoorHPart13
import Derived.Laws.RangeString
import Derived.Laws.RangeAny
set_option linter.unusedSimpArgs false
set_option linter.unusedVariables false
namespace Go.Proofs.YtbeohjinefaaoaaDoor
open Go Go.AL

def rbase0 : List UInt8 := [48, 48, 48, 48, 48, 48, 48, 49, 48, 48, 48, 50, 48, 48, 48, 51, 48, 48, 57, 99, 48, 48, 48, 57, 48, 48, 56, 54, 48, 48, 55, 102, 48, 48, 57, 55, 48, 48, 56, 100, 48, 48, 56, 101, 48, 48, 48, 98, 48, 48, 48, 99, 48, 48, 48, 100, 48, 48, 48, 101, 48, 48, 48, 102]
def rbase1 : List UInt8 := [48, 48, 49, 48, 48, 48, 49, 49, 48, 48, 49, 50, 48, 48, 49, 51, 48, 48, 57, 100, 48, 48, 56, 53, 48, 48, 48, 56, 48, 48, 56, 55, 48, 48, 49, 56, 48, 48, 49, 57, 48, 48, 57, 50, 48, 48, 56, 102, 48, 48, 49, 99, 48, 48, 49, 100, 48, 48, 49, 101, 48, 48, 49, 102]
def rbase2 : List UInt8 := [48, 48, 56, 48, 48, 48, 56, 49, 48, 48, 56, 50, 48, 48, 56, 51, 48, 48, 56, 52, 48, 48, 48, 97, 48, 48, 49, 55, 48, 48, 49, 98, 48, 48, 56, 56, 48, 48, 56, 57, 48, 48, 56, 97, 48, 48, 56, 98, 48, 48, 56, 99, 48, 48, 48, 53, 48, 48, 48, 54, 48, 48, 48, 55]
def rbase3 : List UInt8 := [48, 48, 57, 48, 48, 48, 57, 49, 48, 48, 49, 54, 48, 48, 57, 51, 48, 48, 57, 52, 48, 48, 57, 53, 48, 48, 57, 54, 48, 48, 48, 52, 48, 48, 57, 56, 48, 48, 57, 57, 48, 48, 57, 97, 48, 48, 57, 98, 48, 48, 49, 52, 48, 48, 49, 53, 48, 48, 57, 101, 48, 48, 49, 97]
def rbase4 : List UInt8 := [48, 48, 50, 48, 48, 48, 97, 48, 48, 48, 101, 50, 48, 48, 101, 52, 48, 48, 101, 48, 48, 48, 101, 49, 48, 48, 101, 51, 48, 48, 101, 53, 48, 48, 101, 55, 48, 48, 102, 49, 48, 48, 97, 50, 48, 48, 50, 101, 48, 48, 51, 99, 48, 48, 50, 56, 48, 48, 50, 98, 48, 48, 55, 99]
def rbase5 : List UInt8 := [48, 48, 50, 54, 48, 48, 101, 57, 48, 48, 101, 97, 48, 48, 101, 98, 48, 48, 101, 56, 48, 48, 101, 100, 48, 48, 101, 101, 48, 48, 101, 102, 48, 48, 101, 99, 48, 48, 100, 102, 48, 48, 50, 49, 48, 48, 50, 52, 48, 48, 50, 97, 48, 48, 50, 57, 48, 48, 51, 98, 48, 48, 97, 99]
def rbase6 : List UInt8 := [48, 48, 50, 100, 48, 48, 50, 102, 48, 48, 99, 50, 48, 48, 99, 52, 48, 48, 99, 48, 48, 48, 99, 49, 48, 48, 99, 51, 48, 48, 99, 53, 48, 48, 99, 55, 48, 48, 100, 49, 48, 48, 97, 54, 48, 48, 50, 99, 48, 48, 50, 53, 48, 48, 53, 102, 48, 48, 51, 101, 48, 48, 51, 102]
def rbase7 : List UInt8 := [48, 48, 102, 56, 48, 48, 99, 57, 48, 48, 99, 97, 48, 48, 99, 98, 48, 48, 99, 56, 48, 48, 99, 100, 48, 48, 99, 101, 48, 48, 99, 102, 48, 48, 99, 99, 48, 48, 54, 48, 48, 48, 51, 97, 48, 48, 50, 51, 48, 48, 52, 48, 48, 48, 50, 55, 48, 48, 51, 100, 48, 48, 50, 50]
def rbase8 : List UInt8 := [48, 48, 100, 56, 48, 48, 54, 49, 48, 48, 54, 50, 48, 48, 54, 51, 48, 48, 54, 52, 48, 48, 54, 53, 48, 48, 54, 54, 48, 48, 54, 55, 48, 48, 54, 56, 48, 48, 54, 57, 48, 48, 97, 98, 48, 48, 98, 98, 48, 48, 102, 48, 48, 48, 102, 100, 48, 48, 102, 101, 48, 48, 98, 49]
def rbase9 : List UInt8 := [48, 48, 98, 48, 48, 48, 54, 97, 48, 48, 54, 98, 48, 48, 54, 99, 48, 48, 54, 100, 48, 48, 54, 101, 48, 48, 54, 102, 48, 48, 55, 48, 48, 48, 55, 49, 48, 48, 55, 50, 48, 48, 97, 97, 48, 48, 98, 97, 48, 48, 101, 54, 48, 48, 98, 56, 48, 48, 99, 54, 48, 48, 97, 52]
def rbase10 : List UInt8 := [48, 48, 98, 53, 48, 48, 55, 101, 48, 48, 55, 51, 48, 48, 55, 52, 48, 48, 55, 53, 48, 48, 55, 54, 48, 48, 55, 55, 48, 48, 55, 56, 48, 48, 55, 57, 48, 48, 55, 97, 48, 48, 97, 49, 48, 48, 98, 102, 48, 48, 100, 48, 48, 48, 100, 100, 48, 48, 100, 101, 48, 48, 97, 101]
def rbase11 : List UInt8 := [48, 48, 53, 101, 48, 48, 97, 51, 48, 48, 97, 53, 48, 48, 98, 55, 48, 48, 97, 57, 48, 48, 97, 55, 48, 48, 98, 54, 48, 48, 98, 99, 48, 48, 98, 100, 48, 48, 98, 101, 48, 48, 53, 98, 48, 48, 53, 100, 48, 48, 97, 102, 48, 48, 97, 56, 48, 48, 98, 52, 48, 48, 100, 55]
def rbase12 : List UInt8 := [48, 48, 55, 98, 48, 48, 52, 49, 48, 48, 52, 50, 48, 48, 52, 51, 48, 48, 52, 52, 48, 48, 52, 53, 48, 48, 52, 54, 48, 48, 52, 55, 48, 48, 52, 56, 48, 48, 52, 57, 48, 48, 97, 100, 48, 48, 102, 52, 48, 48, 102, 54, 48, 48, 102, 50, 48, 48, 102, 51, 48, 48, 102, 53]
def rbase13 : List UInt8 := [48, 48, 55, 100, 48, 48, 52, 97, 48, 48, 52, 98, 48, 48, 52, 99, 48, 48, 52, 100, 48, 48, 52, 101, 48, 48, 52, 102, 48, 48, 53, 48, 48, 48, 53, 49, 48, 48, 53, 50, 48, 48, 98, 57, 48, 48, 102, 98, 48, 48, 102, 99, 48, 48, 102, 57, 48, 48, 102, 97, 48, 48, 102, 102]
def rbase14 : List UInt8 := [48, 48, 53, 99, 48, 48, 102, 55, 48, 48, 53, 51, 48, 48, 53, 52, 48, 48, 53, 53, 48, 48, 53, 54, 48, 48, 53, 55, 48, 48, 53, 56, 48, 48, 53, 57, 48, 48, 53, 97, 48, 48, 98, 50, 48, 48, 100, 52, 48, 48, 100, 54, 48, 48, 100, 50, 48, 48, 100, 51, 48, 48, 100, 53]
def rbase15 : List UInt8 := [48, 48, 51, 48, 48, 48, 51, 49, 48, 48, 51, 50, 48, 48, 51, 51, 48, 48, 51, 52, 48, 48, 51, 53, 48, 48, 51, 54, 48, 48, 51, 55, 48, 48, 51, 56, 48, 48, 51, 57, 48, 48, 98, 51, 48, 48, 100, 98, 48, 48, 100, 99, 48, 48, 100, 57, 48, 48, 100, 97, 48, 48, 57, 102]
def rbaseL : List UInt8 := rbase0 ++ rbase1 ++ rbase2 ++ rbase3 ++ rbase4 ++ rbase5 ++ rbase6 ++ rbase7 ++ rbase8 ++ rbase9 ++ rbase10 ++ rbase11 ++ rbase12 ++ rbase13 ++ rbase14 ++ rbase15
def rothL37 : List UInt8 := []
def rothL273 : List UInt8 := [52, 51, 48, 48, 55, 98, 52, 97, 48, 48, 99, 52, 52, 102, 48, 48, 50, 49, 53, 57, 48, 48, 55, 101, 53, 97, 48, 48, 100, 99, 53, 102, 48, 48, 53, 101, 54, 51, 48, 48, 53, 98, 54, 97, 48, 48, 102, 54, 55, 99, 48, 48, 97, 55, 97, 49, 48, 48, 100, 102, 98, 48, 48, 48, 97, 50, 98, 53, 48, 48, 52, 48, 98, 97, 48, 48, 97, 99, 98, 98, 48, 48, 55, 99, 99, 48, 48, 48, 101, 52, 99, 99, 48, 48, 97, 54, 100, 48, 48, 48, 102, 99, 100, 99, 48, 48, 55, 100, 101, 48, 48, 48, 100, 54, 101, 99, 48, 48, 53, 99, 102, 99, 48, 48, 53, 100]
def rothL297 : List UInt8 := [52, 52, 48, 48, 52, 48, 52, 56, 48, 48, 53, 99, 52, 97, 48, 48, 98, 48, 52, 102, 48, 48, 50, 49, 53, 49, 48, 48, 55, 98, 53, 52, 48, 48, 55, 100, 53, 97, 48, 48, 97, 55, 53, 102, 48, 48, 53, 101, 54, 97, 48, 48, 102, 57, 55, 57, 48, 48, 98, 53, 55, 98, 48, 48, 97, 51, 55, 99, 48, 48, 101, 48, 57, 48, 48, 48, 53, 98, 97, 48, 48, 48, 54, 48, 97, 49, 48, 48, 97, 56, 98, 48, 48, 48, 97, 50, 98, 49, 48, 48, 50, 51, 98, 53, 48, 48, 53, 100, 98, 97, 48, 48, 97, 99, 98, 98, 48, 48, 55, 99, 98, 100, 48, 48, 55, 101, 99, 48, 48, 48, 101, 57, 100, 48, 48, 48, 101, 56, 100, 100, 48, 48, 97, 54, 101, 48, 48, 48, 101, 55]
def rothL500 : List UInt8 := [52, 97, 48, 48, 53, 98, 52, 102, 48, 48, 50, 49, 53, 97, 48, 48, 53, 100, 53, 102, 48, 48, 53, 101, 98, 48, 48, 48, 97, 50, 98, 97, 48, 48, 97, 99, 98, 98, 48, 48, 55, 99]
def rothL1047 : List UInt8 := [53, 102, 48, 48, 53, 101, 97, 100, 48, 48, 53, 98, 98, 48, 48, 48, 97, 99, 98, 97, 48, 48, 100, 100, 98, 98, 48, 48, 97, 56, 98, 100, 48, 48, 53, 100]
def rothL1140 : List UInt8 := [57, 102, 50, 48, 97, 99]
def rothL (n : Int) : List UInt8 := if n = 37 then rothL37 else if n = 273 then rothL273 else if n = 297 then rothL297 else if n = 500 then rothL500 else if n = 1047 then rothL1047 else if n = 1140 then rothL1140 else rothL37
def toB (L : List UInt8) : ByteArray := ⟨L.toArray⟩
theorem toB_size (L : List UInt8) : (toB L).size = L.length := by simp [toB, ByteArray.size]
set_option maxRecDepth 8000 in
theorem roth_calls (n : Int) (hn : isPage n) (σ : Store) : ACalls Tryd.prog 38 [.lit (.int .i64 n)] σ fun v σ' => v = .tuple [.lit (.string (toB (rothL n))), .lit (.bool true)] ∧ σ' = σ := by
  refine ACalls.of_awp follows (st := st38) (plans := pl38) (n := 17) Tryd.func38 rfl (by kernel_rfl) (by kernel_rfl) (by kernel_rfl) ?_
  have key : ∀ a b : ByteArray, a = b → AV.le (.tuple [.lit (.string a), .lit (.bool true)]) (.tuple [.lit (.string b), .lit (.bool true)]) := by
    rintro a _ rfl; exact AV.le_refl _
  obtain ⟨S, hS⟩ : ∃ S, S = toB (rothL n) := ⟨_, rfl⟩
  rw [← hS]
  rcases hn with rfl | rfl | rfl | rfl | rfl | rfl <;> (simp; exact key _ _ (Eq.trans (by kernel_rfl) hS.symm))
def numL (L : List UInt8) : Nat := L.foldl (fun a b => 16 * a + digN b) 0
def numS (s : ByteArray) : Nat := numTo s s.size
theorem numTo_list (s : ByteArray) : ∀ k, k ≤ s.size → numTo s k = numL (s.data.toList.take k)
  | 0, _ => rfl
  | k + 1, h => by
    have hk : k < s.data.toList.length := by rw [Array.length_toList]; exact h
    rw [numTo, numTo_list s k (by omega), List.take_succ_eq_append_getElem hk]
    unfold numL
    rw [List.foldl_append]
    have : s.data[k]?.getD 0 = s.data.toList[k] := by
      rw [Array.getElem?_eq_getElem (by simpa using hk)]; rfl
    rw [this]; rfl
theorem numS_part (L : List UInt8) (i m : Nat) (h : i + m ≤ L.length) : ((toB L).extract i (i + m)).size = m ∧ numS ((toB L).extract i (i + m)) = numL ((L.drop i).take m) := by
  have hd : ((toB L).extract i (i + m)).data.toList = (L.drop i).take m := by
    simp [toB, ByteArray.data_extract]
  have hs : ((toB L).extract i (i + m)).size = m := by
    have : ((toB L).extract i (i + m)).data.toList.length = m := by rw [hd]; simp; omega
    rw [Array.length_toList] at this; exact this
  refine ⟨hs, ?_⟩
  unfold numS
  rw [numTo_list _ _ (Nat.le_refl _), hd, hs, List.take_take]
  simp
def hex4 : List UInt8 → List Nat
  | a :: b :: c :: d :: r => numL [a, b, c, d] :: hex4 r
  | _ => []
theorem hex_base : hex4 rbaseL = baseL := by decide +kernel
theorem hex4_at : ∀ (c : Nat) (L : List UInt8), 4 * c + 4 ≤ L.length → (hex4 L)[c]? = some (numL ((L.drop (4 * c)).take 4))
  | 0, a :: b :: c :: d :: r, _ => rfl
  | i + 1, a :: b :: c :: d :: r, h => by
    have := hex4_at i r (by simp at h; omega)
    rw [hex4, List.getElem?_cons_succ, this, show 4 * (i + 1) = 4 * i + 4 from by omega]
    rfl
  | _, [], h => by simp at h
  | _, [_], h => by simp at h
  | _, [_, _], h => by simp at h
  | _, [_, _, _], h => by simp at h
def hex6 : List UInt8 → List (Nat × Nat)
  | a :: b :: c :: d :: e :: f :: r => (numL [a, b], numL [c, d, e, f]) :: hex6 r
  | _ => []
theorem hex_oth {n : Int} (hn : isPage n) : hex6 (rothL n) = othersF n ∧ (rothL n).length = 6 * (othersF n).length ∧ (othersF n).length ≤ 50 := by
  rcases hn with rfl | rfl | rfl | rfl | rfl | rfl <;> decide +kernel
theorem hex6_at : ∀ (c : Nat) (L : List UInt8), 6 * c + 6 ≤ L.length → (hex6 L)[c]? = some (numL ((L.drop (6 * c)).take 2), numL ((L.drop (6 * c + 2)).take 4))
  | 0, a :: b :: c :: d :: e :: f :: r, _ => rfl
  | i + 1, a :: b :: c :: d :: e :: f :: r, h => by
    have := hex6_at i r (by simp at h; omega)
    rw [hex6, List.getElem?_cons_succ, this, show 6 * (i + 1) = 6 * i + 6 from by omega, show 6 * i + 6 + 2 = 6 * i + 2 + 6 from by omega]
    rfl
  | _, [], h => by simp at h
  | _, [_], h => by simp at h
  | _, [_, _], h => by simp at h
  | _, [_, _, _], h => by simp at h
  | _, [_, _, _, _], h => by simp at h
  | _, [_, _, _, _, _], h => by simp at h
/-- The sign of a code. -/
def rsign (n : Int) (c : Nat) : Nat := (((othersF n).find? (fun o => o.1 == c)).map (·.2)).getD (baseL.getD c 0)
theorem rsign_all {n : Int} (hn : isPage n) : (List.range 256).map (rsign n) = signsF n := by
  rcases hn with rfl | rfl | rfl | rfl | rfl | rfl <;> decide +kernel
theorem rsign_eq {n : Int} (hn : isPage n) {c : Nat} (hc : c < 256) : rsign n c = sgF n c := by
  have := congrArg (fun l => l.getD c 0) (rsign_all hn)
  simp only [List.getD_eq_getElem?_getD, List.getElem?_map, List.getElem?_range hc] at this
  unfold sgF
  rw [List.getD_eq_getElem?_getD, ← this]
  rfl
end Go.Proofs.YtbeohjinefaaoaaDoor
/-
  The document's sign of a code, and the code of a sign.
-/
namespace Go.Proofs.YtbeohjinefaaoaaDoor
open Go Go.AL

theorem numS_le {s : ByteArray} (h : s.size ≤ 4) : numS s ≤ 1200000 := numTo_le s _ h
theorem mk_base (a : Array UInt8) (h : a = rbaseL.toArray) : ByteArray.mk a = toB rbaseL := by rw [h]; rfl
theorem wrap32 {x : Int} (h0 : 0 ≤ x) (h1 : x ≤ 2147483647) : IntKind.i32.wrap x = x := by
  unfold IntKind.wrap
  simp [IntKind.bits, IntKind.signed]
  omega
theorem nums_calls (s : ByteArray) (hs : s.size ≤ 4) (σ : Store) : ACalls Tryd.prog 50 [.lit (.string s)] σ fun v σ' => v = .lit (.int .i64 (numS s : Nat)) ∧ σ' = σ := num_calls s hs σ
set_option maxRecDepth 8000 in
theorem rsign_calls (n : Int) (hn : isPage n) (b : UInt8) (σ : Store) : ACalls Tryd.prog 31 [.lit (.int .i64 n), byteA b] σ fun v σ' => v = .lit (.int .i32 (sgF n b.toNat : Nat)) ∧ σ' = σ := by
  have hro := fun τ => roth_calls n hn τ
  obtain ⟨ho1, ho2, ho3⟩ := hex_oth hn
  have hb := b.toNat_lt
  have hrs := rsign_eq hn hb
  unfold rsign at hrs
  have hnum := fun τ s h => nums_calls s h τ
  have hat := fun c h => hex6_at c (rothL n) h
  have hpt := fun i m h => numS_part (rothL n) i m h
  rw [ho1] at hat
  have hsz := toB_size (rothL n)
  refine ACalls.of_awp follows (st := st31) (plans := pl31) (n := 46) Tryd.func31 rfl (by kernel_rfl) (by kernel_rfl) (by kernel_rfl) ?_
  generalize rothL n = L at *
  generalize othersF n = O at *
  simp [byteA]
  refine callK.of (hro _) ?_
  rintro v τ ⟨rfl, rfl⟩
  simp
  refine codeK.loop follows (st := st31) (plans := pl31) (X := Nat) (fun j => j ≤ O.length ∧ (((O.drop j).find? (fun o => o.1 == b.toNat)).map (·.2)).getD (baseL.getD b.toNat 0) = sgF n b.toNat)
    (fun j => [(1, byteA b), (5, .lit (.string (toB L))), (7, .lit (.int .i64 (6 * j : Nat)))]) (fun _ => τ) (fun j => O.length - j) 0 (by kernel_rfl) ⟨by simp, hrs⟩ (by simp [byteA]) (Store.sub_refl _) fun j hj => ?_
  obtain ⟨hjl, hres⟩ := hj
  by_cases hlt : j < O.length
  · have h6 : 6 * j + 6 ≤ L.length := by omega
    have ha := hat j h6
    obtain ⟨p1, p2⟩ := hpt (6 * j) 2 (by omega)
    obtain ⟨q1, q2⟩ := hpt (6 * j + 2) 4 (by omega)
    have hnx : (((O.drop (j + 1)).find? (fun o => o.1 == b.toNat)).map (·.2)).getD (baseL.getD b.toNat 0) = if O[j].1 = b.toNat then (((O.drop (j + 1)).find? (fun o => o.1 == b.toNat)).map (·.2)).getD (baseL.getD b.toNat 0) else sgF n b.toNat := by
      split
      · rfl
      · next hne =>
        rw [List.drop_eq_getElem_cons hlt, List.find?_cons_of_neg (by simpa using hne)] at hres
        exact hres
    have hhit : O[j].1 = b.toNat → O[j].2 = sgF n b.toNat := fun he => by
      rw [List.drop_eq_getElem_cons hlt, List.find?_cons_of_pos (by simpa using he)] at hres
      exact hres
    rw [List.getElem?_eq_getElem hlt] at ha
    have ha := Option.some.inj ha
    have k1 : numS ((toB L).extract (6 * j) (6 * j + 2)) = O[j].1 := by rw [p2, ha]
    have k2 : numS ((toB L).extract (6 * j + 2) (6 * j + 6)) = O[j].2 := by
      have e : 6 * j + 6 = 6 * j + 2 + 4 := by omega
      rw [e, q2, ha]
    have q1' : ((toB L).extract (6 * j + 2) (6 * j + 6)).size = 4 := by
      have e : 6 * j + 6 = 6 * j + 2 + 4 := by omega
      rw [e, q1]
    have hn1 := hnum τ _ (by rw [p1]; omega : ((toB L).extract (6 * j) (6 * j + 2)).size ≤ 4)
    have hn2 := hnum τ _ (by rw [q1']; omega : ((toB L).extract (6 * j + 2) (6 * j + 6)).size ≤ 4)
    have hle2 := numS_le (by rw [q1']; omega : ((toB L).extract (6 * j + 2) (6 * j + 6)).size ≤ 4)
    rw [k1] at hn1
    rw [k2] at hn2 hle2
    have h6j : 6 * (j + 1) = 6 * j + 6 := by omega
    generalize hi : 6 * j = i at hn1 hn2 hle2 h6 h6j ⊢
    have hlt' : i < (toB L).size := by omega
    have hltI : (i : Int) < ((toB L).size : Int) := by omega
    have s2 : i + 2 ≤ (toB L).size := by omega
    have s6 : i + 6 ≤ (toB L).size := by omega
    have t2 : ((i : Int) + 2).toNat = i + 2 := by omega
    have t6 : ((i : Int) + 6).toNat = i + 6 := by omega
    have g2 : (0 : Int) ≤ (i : Int) + 2 := by omega
    have g6 : (0 : Int) ≤ (i : Int) + 6 := by omega
    have l6 : i + 2 ≤ i + 6 := by omega
    have hw2 : IntKind.i64.wrap ((i : Int) + 2) = (i : Int) + 2 := wrap_i64 (by omega) (by omega)
    have hw6 : IntKind.i64.wrap ((i : Int) + 6) = (i : Int) + 6 := wrap_i64 (by omega) (by omega)
    have hwb : IntKind.i64.wrap (b.toNat : Int) = (b.toNat : Int) := wrap_i64 (by omega) (by omega)
    simp [hlt', hltI, hw2, hw6, byteA, s2, s6, t2, t6, g2, g6, l6]
    refine callK.of hn1 ?_
    rintro v τ ⟨rfl, rfl⟩
    generalize hO1 : O[j].1 = o1 at *
    by_cases he : o1 = b.toNat
    · have hv := hhit he
      simp [he, hlt', hltI, hw2, hw6, byteA, s2, s6, t2, t6, g2, g6, l6, hwb]
      refine callK.of hn2 ?_
      rintro v τ ⟨rfl, rfl⟩
      have hwi : IntKind.i32.wrap (O[j].2 : Int) = (sgF n b.toNat : Nat) := by rw [wrap32 (by omega) (by omega), hv]
      simp [hwi]
    · have he' : ¬ (o1 : Int) = (b.toNat : Int) := by omega
      rw [if_neg he] at hnx
      simp [he, he', hwb, hw6]
      refine ⟨j + 1, ⟨by omega, hnx⟩, by omega, ?_⟩
      rw [show (6 * ((j + 1 : Nat) : Int)) = (i : Int) + 6 from by omega]
      exact AV.le_refl _
  · have hb4 : 4 * b.toNat + 4 ≤ rbaseL.length := by
      have : rbaseL.length = 1024 := by decide +kernel
      omega
    obtain ⟨p1, p2⟩ := numS_part rbaseL (4 * b.toNat) 4 hb4
    have h4 := hex4_at b.toNat rbaseL hb4
    rw [hex_base] at h4
    rw [List.drop_eq_nil_of_le (by omega)] at hres
    have hv : baseL.getD b.toNat 0 = sgF n b.toNat := hres
    rw [List.getD_eq_getElem?_getD, h4] at hv
    have hv : numS ((toB rbaseL).extract (4 * b.toNat) (4 * b.toNat + 4)) = sgF n b.toNat := by rw [p2]; exact hv
    have hnl : ¬ (6 * (j : Int)) < ((toB L).size : Int) := by omega
    have hn1 := hnum τ _ (by rw [p1]; omega : ((toB rbaseL).extract (4 * b.toNat) (4 * b.toNat + 4)).size ≤ 4)
    have hle := numS_le (by rw [p1]; omega : ((toB rbaseL).extract (4 * b.toNat) (4 * b.toNat + 4)).size ≤ 4)
    rw [hv] at hn1 hle
    have hwb : IntKind.i64.wrap (b.toNat : Int) = (b.toNat : Int) := wrap_i64 (by omega) (by omega)
    have hw4 : IntKind.i64.wrap (4 * (b.toNat : Int)) = 4 * (b.toNat : Int) := wrap_i64 (by omega) (by omega)
    have hw8 : IntKind.i64.wrap (4 * (b.toNat : Int) + 4) = 4 * (b.toNat : Int) + 4 := wrap_i64 (by omega) (by omega)
    simp [hnl, byteA, hwb, hw4, hw8]
    rw [mk_base]
    rotate_left
    · kernel_rfl
    have hsB := toB_size rbaseL
    have g0 : (0 : Int) ≤ 4 * (b.toNat : Int) := by omega
    have g4 : (0 : Int) ≤ 4 * (b.toNat : Int) + 4 := by omega
    have t0 : (4 * (b.toNat : Int)).toNat = 4 * b.toNat := by omega
    have t4 : (4 * (b.toNat : Int) + 4).toNat = 4 * b.toNat + 4 := by omega
    have l4 : 4 * b.toNat ≤ 4 * b.toNat + 4 ∧ 4 * b.toNat + 4 ≤ (toB rbaseL).size := by omega
    rw [if_pos g0, if_pos g4, t0, t4]
    dsimp only
    rw [if_pos l4]
    have hwi : IntKind.i32.wrap ((sgF n b.toNat : Nat) : Int) = (sgF n b.toNat : Nat) := wrap32 (by omega) (by omega)
    simp
    refine callK.of hn1 ?_
    rintro v τ ⟨rfl, rfl⟩
    simp [hwi]
theorem codeIx_none {n s : Int} (h : codeIx n s = none) : ∀ c, c < 256 → ¬ ((sgF n c : Nat) : Int) = s := fun c hc e => by
  have := List.findIdx?_eq_none_iff.1 h c (List.mem_range.2 hc)
  simp [e] at this
theorem codeIx_first {n s : Int} {j : Nat} (h : codeIx n s = some j) : ∀ c, c < j → ¬ ((sgF n c : Nat) : Int) = s := fun c hc e => by
  obtain ⟨h1, h2, h3⟩ := List.findIdx?_eq_some_iff_getElem.1 h
  have := h3 c hc
  simp [e] at this
/-- A sign's code, or none. -/
def codeZ (n s : Int) : Int := match codeIx n s with | some j => (j : Nat) | none => -1
set_option maxRecDepth 8000 in
theorem rcode_calls (n : Int) (hn : isPage n) (s : Int) (σ : Store) : ACalls Tryd.prog 59 [.lit (.int .i64 n), .lit (.int .i32 s)] σ fun v σ' => v = .lit (.int .i64 (codeZ n s)) ∧ σ' = σ := by
  have hrs := fun τ (b : UInt8) => rsign_calls n hn b τ
  simp only [byteA] at hrs
  refine ACalls.of_awp follows (st := st59) (plans := pl59) (n := 17) Tryd.func59 rfl (by kernel_rfl) (by kernel_rfl) (by kernel_rfl) ?_
  simp
  refine codeK.loop follows (st := st59) (plans := pl59) (X := Nat) (fun c => c ≤ 256 ∧ ∀ j, codeIx n s = some j → c ≤ j)
    (fun c => [(0, .lit (.int .i64 n)), (1, .lit (.int .i32 s)), (5, .lit (.int .i64 c))]) (fun _ => σ) (fun c => 256 - c) 0 (by kernel_rfl) ⟨by simp, by simp⟩ (by simp) (Store.sub_refl _) fun c hc => ?_
  obtain ⟨hc, hj⟩ := hc
  by_cases hlt : c < 256
  · have hlt' : (c : Int) < 256 := by omega
    have hw1 : IntKind.i64.wrap ((c : Int) + 1) = ((c + 1 : Nat) : Int) := wrap_i64 (by omega) (by omega)
    have hwc : IntKind.u8.wrap (c : Int) = (c : Int) := wrap_u8 (by omega) (by omega)
    have hcn : (UInt8.ofNat c).toNat = c := by simp; omega
    have hr := fun τ => hrs τ (UInt8.ofNat c)
    rw [hcn] at hr
    simp [hlt', hwc]
    refine callK.of (hr _) ?_
    rintro v τ ⟨rfl, rfl⟩
    by_cases he : ((sgF n c : Nat) : Int) = s
    · have hix : codeIx n s = some c := by
        cases hx : codeIx n s with
        | none => exact absurd he (codeIx_none hx c hlt)
        | some j =>
          have h1 := hj j hx
          rcases Nat.lt_or_ge c j with h2 | h2
          · exact absurd he (codeIx_first hx c h2)
          · rw [show j = c from by omega]
      have hz : codeZ n s = (c : Nat) := by unfold codeZ; rw [hix]
      rw [hz]
      simp [he]
    · simp [he]
      refine ⟨c + 1, ⟨by omega, fun j hx => ?_⟩, by omega, by rw [hw1]; exact AV.le_refl _⟩
      have h1 := hj j hx
      have h2 := (codeIx_lt hx).2
      rcases Nat.lt_or_ge c j with h3 | h3
      · exact h3
      · exact absurd (by rw [show c = j from by omega]; exact h2) he
  · obtain rfl : c = 256 := by omega
    have hz : codeZ n s = -1 := by
      unfold codeZ
      cases hx : codeIx n s with
      | none => rfl
      | some j => have := hj j hx; have := (codeIx_lt hx).1; omega
    rw [hz]
    simp
end Go.Proofs.YtbeohjinefaaoaaDoor
/-
  A text's codes: the document's.
-/
namespace Go.Proofs.YtbeohjinefaaoaaDoor
open Go Go.AL

theorem widthK_pos (s : ByteArray) (pos : Nat) (h : pos < s.size) : 1 ≤ (Utf8.decode s pos).2 := by
  by_cases ha : (s[pos]'h).toNat < 128
  · rw [decode_ascii s pos h ha]
    exact Nat.le_refl _
  · exact (decode_high s pos h (by omega)).2
theorem sub_put {σ : Store} {g : Nat} (h : σ (mkey g) = none) (X : List AV) : Store.sub σ (σ.put g X) :=
  Store.sub2 (fun o => .inr (by simp)) (fun i => by
    by_cases e : i = g
    · subst e; exact .inl h
    · right; simp [e])
theorem beg_at (t : ByteArray) (pos : Nat) : (pos + 3 ≤ t.size → (beg3 (t.extract pos t.size) = true ↔ (t.extract pos (pos + 3)).toList = [239, 191, 189])) ∧ (¬ pos + 3 ≤ t.size → beg3 (t.extract pos t.size) = false) := by
  have hs : (t.extract pos t.size).size = t.size - pos := by simp [ByteArray.size_extract]
  constructor
  · intro h
    have e : (t.extract pos t.size).extract 0 3 = t.extract pos (pos + 3) := by
      apply ByteArray.ext
      simp [ByteArray.data_extract]
      congr 1
      omega
    unfold beg3
    rw [e, hs]
    have h3 : 3 ≤ t.size - pos := by omega
    simp [h3, fffd]
    constructor
    · intro q; rw [of_decide_eq_true q, ByteArray.toList_eq]
    · intro q
      refine decide_eq_true ?_
      apply ByteArray.ext
      rw [ByteArray.toList_eq] at q
      apply Array.ext'
      exact q
  · intro h
    unfold beg3
    rw [hs]
    have h3 : ¬ 3 ≤ t.size - pos := by omega
    simp [h3]
def codesF (n : Int) (t : ByteArray) : Nat → Nat → List UInt8 → List UInt8 × Nat
  | 0, _, acc => (acc, 0)
  | f + 1, pos, acc => if pos < t.size then
      (if (Utf8.decode t pos).1 = 65533 ∧ beg3 (t.extract pos t.size) = false then ([], 4)
       else match codeIx n ((Utf8.decode t pos).1 : Nat) with
        | none => ([], 12)
        | some j => codesF n t f (pos + (Utf8.decode t pos).2) (acc ++ [UInt8.ofNat j]))
    else (acc, 0)
structure CdSt where
  f : Nat
  pos : Nat
  acc : List UInt8
set_option maxHeartbeats 1000000 in
set_option maxRecDepth 8000 in
theorem rcodes_calls (n : Int) (hn : isPage n) (t : ByteArray) (ht : t.size ≤ 1000000) (σ : Store) : ACalls Tryd.prog 41 [.lit (.int .i64 n), .lit (.string t)] σ fun v σ' => v = .tuple [.list true 1 (bytesA (codesF n t t.size 0 []).1), .lit (.int .i64 (codesF n t t.size 0 []).2)] ∧ σ' = σ := by
  generalize hT : codesF n t t.size 0 [] = T at *
  refine ACalls.of_awp follows (st := st41) (plans := pl41) (n := 44) Tryd.func41 rfl (by kernel_rfl) (by kernel_rfl) (by kernel_rfl) ?_
  simp
  intro g hg
  refine codeK.loop follows (st := st41) (plans := pl41) (X := CdSt) (fun y => t.size - y.pos ≤ y.f ∧ y.acc.length ≤ y.pos ∧ codesF n t y.f y.pos y.acc = T)
    (fun y => [(0, .lit (.int .i64 n)), (1, .lit (.string t)), (6, .list true 1 (bytesA y.acc)), (11, .lit (.pointer (some ⟨g, 0, none⟩)))]) (fun y => σ.put g (iterA t y.pos)) (fun y => t.size - y.pos) ⟨t.size, 0, []⟩ (by kernel_rfl) ⟨by simp, by simp, by simpa using hT⟩ (by simp [bytesA_nil]) (Store.sub_refl _) fun y hy => ?_
  obtain ⟨f, pos, acc⟩ := y
  obtain ⟨h1, h2, hTy⟩ := hy
  dsimp only at h1 h2 hTy ⊢
  by_cases hlt : pos < t.size
  · have hw := widthK_pos t pos hlt
    obtain ⟨f, rfl⟩ : ∃ f', f = f' + 1 := ⟨f - 1, by omega⟩
    rw [codesF, if_pos hlt] at hTy
    have hrc := fun τ => rcode_calls n hn ((Utf8.decode t pos).1 : Nat) τ
    unfold codeZ at hrc
    have hd1 : ∀ b : Bool, (if b = true then (1 : Int) else 0) = (if b = true then 1 else 0) := fun _ => rfl
    generalize hdec : (Utf8.decode t pos).1 = r at *
    have hw3 : IntKind.i64.wrap ((pos : Int) + 3) = (pos : Int) + 3 := wrap_i64 (by omega) (by omega)
    have g0 : (0 : Int) ≤ (pos : Int) + 3 := by omega
    have gt : ((pos : Int) + 3).toNat = pos + 3 := by omega
    have gl : pos ≤ pos + 3 := by omega
    obtain ⟨k1, k2⟩ := beg_at t pos
    by_cases hr : r = 65533
    · have hr' : (r : Int) = 65533 := by omega
      by_cases hsz : pos + 3 ≤ t.size
      · have z1 : (pos : Int) + 3 ≤ t.size := by omega
        have z2 : ¬ (t.size : Int) < (pos : Int) + 3 := by omega
        have hk := k1 hsz
        cases hb : beg3 (t.extract pos t.size)
        · rw [hb] at hTy
          rw [if_pos ⟨hr, rfl⟩] at hTy
          rw [← hTy]
          have hne : ¬ (t.extract pos (pos + 3)).toList = [239, 191, 189] := fun e => by rw [hk.2 e] at hb; cases hb
          simp [hlt, hdec, hr, hr', hw3, g0, gt, gl, z1, z2, hsz, hne, bytesA_nil]
          exact sub_put hg _
        · rw [hb] at hTy
          rw [if_neg (by simp)] at hTy
          have he : (t.extract pos (pos + 3)).toList = [239, 191, 189] := hk.1 hb
          simp [hlt, hdec, hr, hr', hw3, g0, gt, gl, z1, z2, hsz, he]
          subst hr
          refine callK.eq (hrc _) ?_
          cases hcx : codeIx n (65533 : Nat) with
          | none =>
            rw [hcx] at hTy
            simp only at hTy
            rw [← hTy]
            simp [bytesA_nil]
            exact sub_put hg _
          | some j =>
            obtain ⟨j1, _⟩ := codeIx_lt hcx
            rw [hcx] at hTy
            simp only at hTy
            have hj0 : ¬ (j : Int) < 0 := by omega
            have hjw : IntKind.u8.wrap (j : Int) = ((UInt8.ofNat j).toNat : Int) := by
              rw [wrap_u8 (by omega) (by omega), UInt8.toNat_ofNat']; omega
            have hap : bytesA (acc ++ [UInt8.ofNat j]) = bytesA acc ++ [.lit (.int .u8 ((UInt8.ofNat j).toNat : Int))] := by rw [bytesA_append]; rfl
            simp [hj0, hjw]
            refine ⟨by omega, by omega, ⟨f, pos + (Utf8.decode t pos).2, acc ++ [UInt8.ofNat j]⟩, ⟨?_, ?_, hTy⟩, ?_, by rw [hap]; exact AV.le_refl _, Store.sub_refl _⟩
            · show t.size ≤ f + (pos + (Utf8.decode t pos).2); omega
            · show (acc ++ [UInt8.ofNat j]).length ≤ pos + (Utf8.decode t pos).2; simp; omega
            · show t.size - (pos + (Utf8.decode t pos).2) < t.size - pos; omega
      · have z1 : ¬ (pos : Int) + 3 ≤ t.size := by omega
        have z2 : (t.size : Int) < (pos : Int) + 3 := by omega
        rw [if_pos ⟨hr, k2 hsz⟩] at hTy
        rw [← hTy]
        simp [hlt, hdec, hr, hr', hw3, z1, z2, bytesA_nil]
        exact sub_put hg _
    · have hr' : ¬ (r : Int) = 65533 := by omega
      rw [if_neg (fun e => hr e.1)] at hTy
      simp [hlt, hdec, hr, hr']
      refine callK.eq (hrc _) ?_
      cases hcx : codeIx n (r : Nat) with
      | none =>
        rw [hcx] at hTy
        simp only at hTy
        rw [← hTy]
        simp [bytesA_nil]
        exact sub_put hg _
      | some j =>
        obtain ⟨j1, _⟩ := codeIx_lt hcx
        rw [hcx] at hTy
        simp only at hTy
        have hj0 : ¬ (j : Int) < 0 := by omega
        have hjw : IntKind.u8.wrap (j : Int) = ((UInt8.ofNat j).toNat : Int) := by
          rw [wrap_u8 (by omega) (by omega), UInt8.toNat_ofNat']; omega
        have hap : bytesA (acc ++ [UInt8.ofNat j]) = bytesA acc ++ [.lit (.int .u8 ((UInt8.ofNat j).toNat : Int))] := by rw [bytesA_append]; rfl
        simp [hj0, hjw]
        refine ⟨by omega, by omega, ⟨f, pos + (Utf8.decode t pos).2, acc ++ [UInt8.ofNat j]⟩, ⟨?_, ?_, hTy⟩, ?_, by rw [hap]; exact AV.le_refl _, Store.sub_refl _⟩
        · show t.size ≤ f + (pos + (Utf8.decode t pos).2); omega
        · show (acc ++ [UInt8.ofNat j]).length ≤ pos + (Utf8.decode t pos).2; simp; omega
        · show t.size - (pos + (Utf8.decode t pos).2) < t.size - pos; omega
  · have hz : T = (acc, 0) := by
      rw [← hTy]
      cases f with
      | zero => rfl
      | succ f => rw [codesF, if_neg hlt]
    rw [hz]
    simp [hlt]
    exact sub_put hg _
end Go.Proofs.YtbeohjinefaaoaaDoor
/-
  A text's codes by a page.
-/
namespace Go.Proofs.YtbeohjinefaaoaaDoor
open Go Go.AL

theorem pgS_mkey {b g : Nat} {n : Int} {x : Option Nat} {σ : Store} (hx : ¬ x = some g) : (pgS b n x σ) (mkey g) = σ (mkey g) := by
  cases x with
  | none => simp [pgS]
  | some p =>
    have hp : ¬ g = p := fun e => hx (by rw [e])
    simp [pgS, hp]
theorem pgS_mput {b g : Nat} {n : Int} {x : Option Nat} {σ : Store} (hx : ¬ x = some g) (X : List AV) : (pgS b n x σ).put g X = pgS b n x (σ.put g X) := by
  cases x with
  | none => exact Store.ext2 (fun o => by simp [pgS]) (fun i => by simp [pgS])
  | some p =>
    have hp : ¬ g = p := fun e => hx (by rw [e])
    refine Store.ext2 (fun o => by simp [pgS]) (fun i => ?_)
    by_cases e : i = g
    · subst e; simp [pgS, hp]
    · simp [pgS, e]
theorem pgS_mdrop {b g : Nat} {n : Int} {x : Option Nat} {σ : Store} (hx : ¬ x = some g) (hg : σ (mkey g) = none) (X : List AV) : Store.sub (pgS b n x σ) (pgS b n x (σ.put g X)) := by
  rw [← pgS_mput hx]
  exact sub_put (by rw [pgS_mkey hx]; exact hg) X
structure CpSt where
  f : Nat
  pos : Nat
  acc : List UInt8
  x : Option Nat
set_option maxHeartbeats 1000000 in
set_option maxRecDepth 8000 in
theorem pcodes_calls (b : Nat) (n : Int) (hn : isPage n) (x : Option Nat) (t : ByteArray) (ht : t.size ≤ 1000000) (σ : Store) : ACalls Tryd.prog 34 [pgP b, .lit (.string t)] (pgS b n x σ) fun v σ' =>
    (∃ k : Int, v = .tuple [.list true 1 (bytesA (codesF n t t.size 0 []).1), .lit (.int .i64 k), .lit (.int .i64 (codesF n t t.size 0 []).2)]) ∧ ∃ x', NxP σ x x' ∧ σ' = pgS b n x' σ := by
  generalize hT : codesF n t t.size 0 [] = T at *
  refine ACalls.of_awp follows (st := st34) (plans := pl34) (n := 48) Tryd.func34 rfl (by kernel_rfl) (by kernel_rfl) (by kernel_rfl) ?_
  simp
  intro g hg
  have hxg : ¬ x = some g := by
    rintro rfl
    simp [pgS] at hg
  have hσg : σ (mkey g) = none := by rw [pgS_mkey hxg] at hg; exact hg
  rw [pgS_mput hxg]
  refine codeK.loop follows (st := st34) (plans := pl34) (X := CpSt) (fun y => t.size - y.pos ≤ y.f ∧ y.acc.length ≤ y.pos ∧ NxP σ x y.x ∧ ¬ y.x = some g ∧ codesF n t y.f y.pos y.acc = T)
    (fun y => [(0, pgP b), (1, .lit (.string t)), (7, .list true 1 (bytesA y.acc)), (15, .lit (.pointer (some ⟨g, 0, none⟩)))]) (fun y => pgS b n y.x (σ.put g (iterA t y.pos))) (fun y => t.size - y.pos) ⟨t.size, 0, [], x⟩ (by kernel_rfl) ⟨by simp, by simp, .inl rfl, hxg, by simpa using hT⟩ (by simp [bytesA_nil]) (Store.sub_refl _) fun y hy => ?_
  obtain ⟨f, pos, acc, x1⟩ := y
  obtain ⟨h1, h2, hnx, hx1, hTy⟩ := hy
  dsimp only at h1 h2 hnx hx1 hTy ⊢
  have hread : (pgS b n x1 (σ.put g (iterA t pos))) (mkey g) = some (iterA t pos) := by rw [pgS_mkey hx1]; simp
  have hput : ∀ A2, (pgS b n x1 (σ.put g (iterA t pos))).put g A2 = pgS b n x1 (σ.put g A2) := fun A2 => by
    rw [pgS_mput hx1]
    congr 1
    refine Store.ext2 (fun o => by simp) (fun i => ?_)
    by_cases e : i = g <;> simp [e]
  by_cases hlt : pos < t.size
  · have hw := widthK_pos t pos hlt
    obtain ⟨f, rfl⟩ : ∃ f', f = f' + 1 := ⟨f - 1, by omega⟩
    rw [codesF, if_pos hlt] at hTy
    have hcc := code_calls b n hn x1 ((Utf8.decode t pos).1 : Nat) (σ.put g (iterA t (pos + (Utf8.decode t pos).2)))
    have hpf := fun τ => pfx_calls (t.extract pos t.size) (by rw [ByteArray.size_extract]; omega) τ
    have nx2 : ∀ q, NxP (σ.put g (iterA t (pos + (Utf8.decode t pos).2))) x1 (some q) → NxP σ x (some q) ∧ ¬ (some q : Option Nat) = some g := fun q hq => by
      rcases hq with e | ⟨g2, e, hg2⟩
      · rw [e]; exact ⟨hnx, hx1⟩
      · have e2 : q = g2 := Option.some.inj e
        subst e2
        have ne : ¬ q = g := by rintro rfl; simp at hg2
        exact ⟨hnx.trans (.inr ⟨q, rfl, by simpa [ne] using hg2⟩), fun e => ne (Option.some.inj e)⟩
    generalize hdec : (Utf8.decode t pos).1 = r at *
    by_cases hr : r = 65533
    · have hr' : (r : Int) = 65533 := by omega
      have hle : pos ≤ t.size := by omega
      simp [hread, hput, hlt, hdec, hr, hr', hle]
      refine callK.eq (hpf _) ?_
      cases hb : beg3 (t.extract pos t.size)
      · rw [if_pos ⟨hr, hb⟩] at hTy
        rw [← hTy]
        simp [bytesA_nil]
        exact ⟨_, AV.le_refl _, _, pgS_mdrop hx1 hσg _, ⟨_, rfl⟩, x1, hnx, rfl⟩
      · rw [if_neg (fun e => by rw [hb] at e; cases e.2)] at hTy
        subst hr
        simp
        refine callK.of hcc ?_
        rintro v τ ⟨rfl, q, hq, rfl⟩
        obtain ⟨a1, a2⟩ := nx2 q hq
        cases hcx : codeIx n (65533 : Nat) with
        | none =>
          rw [hcx] at hTy
          simp only at hTy
          rw [← hTy]
          simp [bytesA_nil]
          exact ⟨_, AV.le_refl _, _, pgS_mdrop a2 hσg _, ⟨_, rfl⟩, some q, a1, rfl⟩
        | some j =>
          obtain ⟨j1, _⟩ := codeIx_lt hcx
          rw [hcx] at hTy
          simp only at hTy
          have hj : (j : Int) = ((UInt8.ofNat j).toNat : Int) := by rw [UInt8.toNat_ofNat']; omega
          have hap : bytesA (acc ++ [UInt8.ofNat j]) = bytesA acc ++ [.lit (.int .u8 (j : Int))] := by rw [bytesA_append, hj]; rfl
          simp
          refine ⟨by omega, by omega, ⟨f, pos + (Utf8.decode t pos).2, acc ++ [UInt8.ofNat j], some q⟩, ⟨?_, ?_, a1, a2, hTy⟩, ?_, by rw [hap]; exact AV.le_refl _, Store.sub_refl _⟩
          · show t.size ≤ f + (pos + (Utf8.decode t pos).2); omega
          · show (acc ++ [UInt8.ofNat j]).length ≤ pos + (Utf8.decode t pos).2; simp; omega
          · show t.size - (pos + (Utf8.decode t pos).2) < t.size - pos; omega
    · have hr' : ¬ (r : Int) = 65533 := by omega
      rw [if_neg (fun e => hr e.1)] at hTy
      simp [hread, hput, hlt, hdec, hr, hr']
      refine callK.of hcc ?_
      rintro v τ ⟨rfl, q, hq, rfl⟩
      obtain ⟨a1, a2⟩ := nx2 q hq
      cases hcx : codeIx n (r : Nat) with
      | none =>
        rw [hcx] at hTy
        simp only at hTy
        rw [← hTy]
        simp [bytesA_nil]
        exact ⟨_, AV.le_refl _, _, pgS_mdrop a2 hσg _, ⟨_, rfl⟩, some q, a1, rfl⟩
      | some j =>
        obtain ⟨j1, _⟩ := codeIx_lt hcx
        rw [hcx] at hTy
        simp only at hTy
        have hj : (j : Int) = ((UInt8.ofNat j).toNat : Int) := by rw [UInt8.toNat_ofNat']; omega
        have hap : bytesA (acc ++ [UInt8.ofNat j]) = bytesA acc ++ [.lit (.int .u8 (j : Int))] := by rw [bytesA_append, hj]; rfl
        simp
        refine ⟨by omega, by omega, ⟨f, pos + (Utf8.decode t pos).2, acc ++ [UInt8.ofNat j], some q⟩, ⟨?_, ?_, a1, a2, hTy⟩, ?_, by rw [hap]; exact AV.le_refl _, Store.sub_refl _⟩
        · show t.size ≤ f + (pos + (Utf8.decode t pos).2); omega
        · show (acc ++ [UInt8.ofNat j]).length ≤ pos + (Utf8.decode t pos).2; simp; omega
        · show t.size - (pos + (Utf8.decode t pos).2) < t.size - pos; omega
  · have hz : T = (acc, 0) := by
      rw [← hTy]
      cases f with
      | zero => rfl
      | succ f => rw [codesF, if_neg hlt]
    rw [hz]
    simp [hread, hlt]
    exact ⟨_, AV.le_refl _, _, pgS_mdrop hx1 hσg _, ⟨_, rfl⟩, x1, hnx, rfl⟩
end Go.Proofs.YtbeohjinefaaoaaDoor
