/-
  The document's signs, as its strings say.
-/
import Derived.Test.YtlmdbcgceijlnaaGreatDoorLPart14
set_option linter.unusedSimpArgs false
set_option linter.unusedVariables false
namespace Go.Proofs.YtlmdbcgceijlnaaGreatDoor
open Go Go.AL

def rbase0 : List UInt8 := [48, 48, 48, 48, 48, 48, 48, 49, 48, 48, 48, 50, 48, 48, 48, 51, 48, 48, 57, 99, 48, 48, 48, 57, 48, 48, 56, 54, 48, 48, 55, 102, 48, 48, 57, 55, 48, 48, 56, 100, 48, 48, 56, 101, 48, 48, 48, 98, 48, 48, 48, 99, 48, 48, 48, 100, 48, 48, 48, 101, 48, 48, 48, 102]
def rbase1 : List UInt8 := [48, 48, 49, 48, 48, 48, 49, 49, 48, 48, 49, 50, 48, 48, 49, 51, 48, 48, 57, 100, 48, 48, 56, 53, 48, 48, 48, 56, 48, 48, 56, 55, 48, 48, 49, 56, 48, 48, 49, 57, 48, 48, 57, 50, 48, 48, 56, 102, 48, 48, 49, 99, 48, 48, 49, 100, 48, 48, 49, 101, 48, 48, 49, 102]
def rbase2 : List UInt8 := [48, 48, 56, 48, 48, 48, 56, 49, 48, 48, 56, 50, 48, 48, 56, 51, 48, 48, 56, 52, 48, 48, 48, 97, 48, 48, 49, 55, 48, 48, 49, 98, 48, 48, 56, 56, 48, 48, 56, 57, 48, 48, 56, 97, 48, 48, 56, 98, 48, 48, 56, 99, 48, 48, 48, 53, 48, 48, 48, 54, 48, 48, 48, 55]
def rbase3 : List UInt8 := [48, 48, 57, 48, 48, 48, 57, 49, 48, 48, 49, 54, 48, 48, 57, 51, 48, 48, 57, 52, 48, 48, 57, 53, 48, 48, 57, 54, 48, 48, 48, 52, 48, 48, 57, 56, 48, 48, 57, 57, 48, 48, 57, 97, 48, 48, 57, 98, 48, 48, 49, 52, 48, 48, 49, 53, 48, 48, 57, 101, 48, 48, 49, 97]
def rbase4 : List UInt8 := [48, 48, 50, 48, 48, 48, 97, 48, 48, 48, 101, 50, 48, 48, 101, 52, 48, 48, 101, 48, 48, 48, 101, 49, 48, 48, 101, 51, 48, 48, 101, 53, 48, 48, 101, 55, 48, 48, 102, 49, 48, 48, 97, 50, 48, 48, 50, 101, 48, 48, 51, 99, 48, 48, 50, 56, 48, 48, 50, 98, 48, 48, 55, 99]
def rbase5 : List UInt8 := [48, 48, 50, 54, 48, 48, 101, 57, 48, 48, 101, 97, 48, 48, 101, 98, 48, 48, 101, 56, 48, 48, 101, 100, 48, 48, 101, 101, 48, 48, 101, 102, 48, 48, 101, 99, 48, 48, 100, 102, 48, 48, 50, 49, 48, 48, 50, 52, 48, 48, 50, 97, 48, 48, 50, 57, 48, 48, 51, 98, 48, 48, 97, 99]
def rbase6 : List UInt8 := [48, 48, 50, 100, 48, 48, 50, 102, 48, 48, 99, 50, 48, 48, 99, 52, 48, 48, 99, 48, 48, 48, 99, 49, 48, 48, 99, 51, 48, 48, 99, 53, 48, 48, 99, 55, 48, 48, 100, 49, 48, 48, 97, 54, 48, 48, 50, 99, 48, 48, 50, 53, 48, 48, 53, 102, 48, 48, 51, 101, 48, 48, 51, 102]
def rbase7 : List UInt8 := [48, 48, 102, 56, 48, 48, 99, 57, 48, 48, 99, 97, 48, 48, 99, 98, 48, 48, 99, 56, 48, 48, 99, 100, 48, 48, 99, 101, 48, 48, 99, 102, 48, 48, 99, 99, 48, 48, 54, 48, 48, 48, 51, 97, 48, 48, 50, 51, 48, 48, 52, 48, 48, 48, 50, 55, 48, 48, 51, 100, 48, 48, 50, 50]
def rbase8 : List UInt8 := [48, 48, 100, 56, 48, 48, 54, 49, 48, 48, 54, 50, 48, 48, 54, 51, 48, 48, 54, 52, 48, 48, 54, 53, 48, 48, 54, 54, 48, 48, 54, 55, 48, 48, 54, 56, 48, 48, 54, 57, 48, 48, 97, 98, 48, 48, 98, 98, 48, 48, 102, 48, 48, 48, 102, 100, 48, 48, 102, 101, 48, 48, 98, 49]
def rbase9 : List UInt8 := [48, 48, 98, 48, 48, 48, 54, 97, 48, 48, 54, 98, 48, 48, 54, 99, 48, 48, 54, 100, 48, 48, 54, 101, 48, 48, 54, 102, 48, 48, 55, 48, 48, 48, 55, 49, 48, 48, 55, 50, 48, 48, 97, 97, 48, 48, 98, 97, 48, 48, 101, 54, 48, 48, 98, 56, 48, 48, 99, 54, 48, 48, 97, 52]
def rbase10 : List UInt8 := [48, 48, 98, 53, 48, 48, 55, 101, 48, 48, 55, 51, 48, 48, 55, 52, 48, 48, 55, 53, 48, 48, 55, 54, 48, 48, 55, 55, 48, 48, 55, 56, 48, 48, 55, 57, 48, 48, 55, 97, 48, 48, 97, 49, 48, 48, 98, 102, 48, 48, 100, 48, 48, 48, 100, 100, 48, 48, 100, 101, 48, 48, 97, 101]
def rbase11 : List UInt8 := [48, 48, 53, 101, 48, 48, 97, 51, 48, 48, 97, 53, 48, 48, 98, 55, 48, 48, 97, 57, 48, 48, 97, 55, 48, 48, 98, 54, 48, 48, 98, 99, 48, 48, 98, 100, 48, 48, 98, 101, 48, 48, 53, 98, 48, 48, 53, 100, 48, 48, 97, 102, 48, 48, 97, 56, 48, 48, 98, 52, 48, 48, 100, 55]
def rbase12 : List UInt8 := [48, 48, 55, 98, 48, 48, 52, 49, 48, 48, 52, 50, 48, 48, 52, 51, 48, 48, 52, 52, 48, 48, 52, 53, 48, 48, 52, 54, 48, 48, 52, 55, 48, 48, 52, 56, 48, 48, 52, 57, 48, 48, 97, 100, 48, 48, 102, 52, 48, 48, 102, 54, 48, 48, 102, 50, 48, 48, 102, 51, 48, 48, 102, 53]
def rbase13 : List UInt8 := [48, 48, 55, 100, 48, 48, 52, 97, 48, 48, 52, 98, 48, 48, 52, 99, 48, 48, 52, 100, 48, 48, 52, 101, 48, 48, 52, 102, 48, 48, 53, 48, 48, 48, 53, 49, 48, 48, 53, 50, 48, 48, 98, 57, 48, 48, 102, 98, 48, 48, 102, 99, 48, 48, 102, 57, 48, 48, 102, 97, 48, 48, 102, 102]
def rbase14 : List UInt8 := [48, 48, 53, 99, 48, 48, 102, 55, 48, 48, 53, 51, 48, 48, 53, 52, 48, 48, 53, 53, 48, 48, 53, 54, 48, 48, 53, 55, 48, 48, 53, 56, 48, 48, 53, 57, 48, 48, 53, 97, 48, 48, 98, 50, 48, 48, 100, 52, 48, 48, 100, 54, 48, 48, 100, 50, 48, 48, 100, 51, 48, 48, 100, 53]
def rbase15 : List UInt8 := [48, 48, 51, 48, 48, 48, 51, 49, 48, 48, 51, 50, 48, 48, 51, 51, 48, 48, 51, 52, 48, 48, 51, 53, 48, 48, 51, 54, 48, 48, 51, 55, 48, 48, 51, 56, 48, 48, 51, 57, 48, 48, 98, 51, 48, 48, 100, 98, 48, 48, 100, 99, 48, 48, 100, 57, 48, 48, 100, 97, 48, 48, 57, 102]
def rbaseL : List UInt8 := rbase0 ++ rbase1 ++ rbase2 ++ rbase3 ++ rbase4 ++ rbase5 ++ rbase6 ++ rbase7 ++ rbase8 ++ rbase9 ++ rbase10 ++ rbase11 ++ rbase12 ++ rbase13 ++ rbase14 ++ rbase15
def rothL37 : List UInt8 := []
def rothL273 : List UInt8 := [52, 51, 48, 48, 55, 98, 52, 97, 48, 48, 99, 52, 52, 102, 48, 48, 50, 49, 53, 57, 48, 48, 55, 101, 53, 97, 48, 48, 100, 99, 53, 102, 48, 48, 53, 101, 54, 51, 48, 48, 53, 98, 54, 97, 48, 48, 102, 54, 55, 99, 48, 48, 97, 55, 97, 49, 48, 48, 100, 102, 98, 48, 48, 48, 97, 50, 98, 53, 48, 48, 52, 48, 98, 97, 48, 48, 97, 99, 98, 98, 48, 48, 55, 99, 99, 48, 48, 48, 101, 52, 99, 99, 48, 48, 97, 54, 100, 48, 48, 48, 102, 99, 100, 99, 48, 48, 55, 100, 101, 48, 48, 48, 100, 54, 101, 99, 48, 48, 53, 99, 102, 99, 48, 48, 53, 100]
def rothL297 : List UInt8 := [52, 52, 48, 48, 52, 48, 52, 56, 48, 48, 53, 99, 52, 97, 48, 48, 98, 48, 52, 102, 48, 48, 50, 49, 53, 49, 48, 48, 55, 98, 53, 52, 48, 48, 55, 100, 53, 97, 48, 48, 97, 55, 53, 102, 48, 48, 53, 101, 54, 97, 48, 48, 102, 57, 55, 57, 48, 48, 98, 53, 55, 98, 48, 48, 97, 51, 55, 99, 48, 48, 101, 48, 57, 48, 48, 48, 53, 98, 97, 48, 48, 48, 54, 48, 97, 49, 48, 48, 97, 56, 98, 48, 48, 48, 97, 50, 98, 49, 48, 48, 50, 51, 98, 53, 48, 48, 53, 100, 98, 97, 48, 48, 97, 99, 98, 98, 48, 48, 55, 99, 98, 100, 48, 48, 55, 101, 99, 48, 48, 48, 101, 57, 100, 48, 48, 48, 101, 56, 100, 100, 48, 48, 97, 54, 101, 48, 48, 48, 101, 55]
def rothL500 : List UInt8 := [52, 97, 48, 48, 53, 98, 52, 102, 48, 48, 50, 49, 53, 97, 48, 48, 53, 100, 53, 102, 48, 48, 53, 101, 98, 48, 48, 48, 97, 50, 98, 97, 48, 48, 97, 99, 98, 98, 48, 48, 55, 99]
def rothL1047 : List UInt8 := [53, 102, 48, 48, 53, 101, 97, 100, 48, 48, 53, 98, 98, 48, 48, 48, 97, 99, 98, 97, 48, 48, 100, 100, 98, 98, 48, 48, 97, 56, 98, 100, 48, 48, 53, 100]
def rothL1140 : List UInt8 := [57, 102, 50, 48, 97, 99]
def rothL (n : Int) : List UInt8 := if n = 37 then rothL37 else if n = 273 then rothL273 else if n = 297 then rothL297 else if n = 500 then rothL500 else if n = 1047 then rothL1047 else if n = 1140 then rothL1140 else rothL37
def toB (L : List UInt8) : ByteArray := ⟨L.toArray⟩
theorem toB_size (L : List UInt8) : (toB L).size = L.length := by simp [toB, ByteArray.size]
set_option maxRecDepth 8000 in
theorem roth_calls (n : Int) (hn : isPage n) (σ : Store) : ACalls Tryz.prog 154 [.lit (.int .i64 n)] σ fun v σ' => v = .tuple [.lit (.string (toB (rothL n))), .lit (.bool true)] ∧ σ' = σ := by
  refine ACalls.of_awp follows (st := st154) (plans := pl154) (n := 17) Tryz.func154 rfl (by kernel_rfl) (by kernel_rfl) (by kernel_rfl) ?_
  have key : ∀ a b : ByteArray, a = b → AV.le (.tuple [.lit (.string a), .lit (.bool true)]) (.tuple [.lit (.string b), .lit (.bool true)]) := by
    rintro a _ rfl; exact AV.le_refl _
  obtain ⟨S, hS⟩ : ∃ S, S = toB (rothL n) := ⟨_, rfl⟩
  rw [← hS]
  rcases hn with rfl | rfl | rfl | rfl | rfl | rfl <;> (simp; exact key _ _ (Eq.trans (by kernel_rfl) hS.symm))
def numL (L : List UInt8) : Nat := L.foldl (fun a b => 16 * a + digN b) 0
def numS (s : ByteArray) : Nat := numTo s s.size
theorem numTo_list (s : ByteArray) : ∀ k, k ≤ s.size → numTo s k = numL (s.data.toList.take k)
  | 0, _ => rfl
  | k + 1, h => by
    have hk : k < s.data.toList.length := by rw [Array.length_toList]; exact h
    rw [numTo, numTo_list s k (by omega), List.take_succ_eq_append_getElem hk]
    unfold numL
    rw [List.foldl_append]
    have : s.data[k]?.getD 0 = s.data.toList[k] := by
      rw [Array.getElem?_eq_getElem (by simpa using hk)]; rfl
    rw [this]; rfl
theorem numS_part (L : List UInt8) (i m : Nat) (h : i + m ≤ L.length) : ((toB L).extract i (i + m)).size = m ∧ numS ((toB L).extract i (i + m)) = numL ((L.drop i).take m) := by
  have hd : ((toB L).extract i (i + m)).data.toList = (L.drop i).take m := by
    simp [toB, ByteArray.data_extract]
  have hs : ((toB L).extract i (i + m)).size = m := by
    have : ((toB L).extract i (i + m)).data.toList.length = m := by rw [hd]; simp; omega
    rw [Array.length_toList] at this; exact this
  refine ⟨hs, ?_⟩
  unfold numS
  rw [numTo_list _ _ (Nat.le_refl _), hd, hs, List.take_take]
  simp
def hex4 : List UInt8 → List Nat
  | a :: b :: c :: d :: r => numL [a, b, c, d] :: hex4 r
  | _ => []
theorem hex_base : hex4 rbaseL = baseL := by decide +kernel
theorem hex4_at : ∀ (c : Nat) (L : List UInt8), 4 * c + 4 ≤ L.length → (hex4 L)[c]? = some (numL ((L.drop (4 * c)).take 4))
  | 0, a :: b :: c :: d :: r, _ => rfl
  | i + 1, a :: b :: c :: d :: r, h => by
    have := hex4_at i r (by simp at h; omega)
    rw [hex4, List.getElem?_cons_succ, this, show 4 * (i + 1) = 4 * i + 4 from by omega]
    rfl
  | _, [], h => by simp at h
  | _, [_], h => by simp at h
  | _, [_, _], h => by simp at h
  | _, [_, _, _], h => by simp at h
def hex6 : List UInt8 → List (Nat × Nat)
  | a :: b :: c :: d :: e :: f :: r => (numL [a, b], numL [c, d, e, f]) :: hex6 r
  | _ => []
theorem hex_oth {n : Int} (hn : isPage n) : hex6 (rothL n) = othersF n ∧ (rothL n).length = 6 * (othersF n).length ∧ (othersF n).length ≤ 50 := by
  rcases hn with rfl | rfl | rfl | rfl | rfl | rfl <;> decide +kernel
theorem hex6_at : ∀ (c : Nat) (L : List UInt8), 6 * c + 6 ≤ L.length → (hex6 L)[c]? = some (numL ((L.drop (6 * c)).take 2), numL ((L.drop (6 * c + 2)).take 4))
  | 0, a :: b :: c :: d :: e :: f :: r, _ => rfl
  | i + 1, a :: b :: c :: d :: e :: f :: r, h => by
    have := hex6_at i r (by simp at h; omega)
    rw [hex6, List.getElem?_cons_succ, this, show 6 * (i + 1) = 6 * i + 6 from by omega, show 6 * i + 6 + 2 = 6 * i + 2 + 6 from by omega]
    rfl
  | _, [], h => by simp at h
  | _, [_], h => by simp at h
  | _, [_, _], h => by simp at h
  | _, [_, _, _], h => by simp at h
  | _, [_, _, _, _], h => by simp at h
  | _, [_, _, _, _, _], h => by simp at h
/-- The sign of a code. -/
def rsign (n : Int) (c : Nat) : Nat := (((othersF n).find? (fun o => o.1 == c)).map (·.2)).getD (baseL.getD c 0)
theorem rsign_all {n : Int} (hn : isPage n) : (List.range 256).map (rsign n) = signsF n := by
  rcases hn with rfl | rfl | rfl | rfl | rfl | rfl <;> decide +kernel
theorem rsign_eq {n : Int} (hn : isPage n) {c : Nat} (hc : c < 256) : rsign n c = sgF n c := by
  have := congrArg (fun l => l.getD c 0) (rsign_all hn)
  simp only [List.getD_eq_getElem?_getD, List.getElem?_map, List.getElem?_range hc] at this
  unfold sgF
  rw [List.getD_eq_getElem?_getD, ← this]
  rfl
end Go.Proofs.YtlmdbcgceijlnaaGreatDoor
/-
  The document's sign of a code, and the code of a sign.
-/
namespace Go.Proofs.YtlmdbcgceijlnaaGreatDoor
open Go Go.AL

theorem numS_le {s : ByteArray} (h : s.size ≤ 4) : numS s ≤ 1200000 := numTo_le s _ h
theorem mk_base (a : Array UInt8) (h : a = rbaseL.toArray) : ByteArray.mk a = toB rbaseL := by rw [h]; rfl
theorem wrap32 {x : Int} (h0 : 0 ≤ x) (h1 : x ≤ 2147483647) : IntKind.i32.wrap x = x := by
  unfold IntKind.wrap
  simp [IntKind.bits, IntKind.signed]
  omega
theorem nums_calls (s : ByteArray) (hs : s.size ≤ 4) (σ : Store) : ACalls Tryz.prog 114 [.lit (.string s)] σ fun v σ' => v = .lit (.int .i64 (numS s : Nat)) ∧ σ' = σ := num_calls s hs σ
set_option maxRecDepth 8000 in
theorem rsign_calls (n : Int) (hn : isPage n) (b : UInt8) (σ : Store) : ACalls Tryz.prog 113 [.lit (.int .i64 n), byteA b] σ fun v σ' => v = .lit (.int .i32 (sgF n b.toNat : Nat)) ∧ σ' = σ := by
  have hro := fun τ => roth_calls n hn τ
  obtain ⟨ho1, ho2, ho3⟩ := hex_oth hn
  have hb := b.toNat_lt
  have hrs := rsign_eq hn hb
  unfold rsign at hrs
  have hnum := fun τ s h => nums_calls s h τ
  have hat := fun c h => hex6_at c (rothL n) h
  have hpt := fun i m h => numS_part (rothL n) i m h
  rw [ho1] at hat
  have hsz := toB_size (rothL n)
  refine ACalls.of_awp follows (st := st113) (plans := pl113) (n := 46) Tryz.func113 rfl (by kernel_rfl) (by kernel_rfl) (by kernel_rfl) ?_
  generalize rothL n = L at *
  generalize othersF n = O at *
  simp [byteA]
  refine callK.of (hro _) ?_
  rintro v τ ⟨rfl, rfl⟩
  simp
  refine codeK.loop follows (st := st113) (plans := pl113) (X := Nat) (fun j => j ≤ O.length ∧ (((O.drop j).find? (fun o => o.1 == b.toNat)).map (·.2)).getD (baseL.getD b.toNat 0) = sgF n b.toNat)
    (fun j => [(1, byteA b), (5, .lit (.string (toB L))), (7, .lit (.int .i64 (6 * j : Nat)))]) (fun _ => τ) (fun j => O.length - j) 0 (by kernel_rfl) ⟨by simp, hrs⟩ (by simp [byteA]) (Store.sub_refl _) fun j hj => ?_
  obtain ⟨hjl, hres⟩ := hj
  by_cases hlt : j < O.length
  · have h6 : 6 * j + 6 ≤ L.length := by omega
    have ha := hat j h6
    obtain ⟨p1, p2⟩ := hpt (6 * j) 2 (by omega)
    obtain ⟨q1, q2⟩ := hpt (6 * j + 2) 4 (by omega)
    have hnx : (((O.drop (j + 1)).find? (fun o => o.1 == b.toNat)).map (·.2)).getD (baseL.getD b.toNat 0) = if O[j].1 = b.toNat then (((O.drop (j + 1)).find? (fun o => o.1 == b.toNat)).map (·.2)).getD (baseL.getD b.toNat 0) else sgF n b.toNat := by
      split
      · rfl
      · next hne =>
        rw [List.drop_eq_getElem_cons hlt, List.find?_cons_of_neg (by simpa using hne)] at hres
        exact hres
    have hhit : O[j].1 = b.toNat → O[j].2 = sgF n b.toNat := fun he => by
      rw [List.drop_eq_getElem_cons hlt, List.find?_cons_of_pos (by simpa using he)] at hres
      exact hres
    rw [List.getElem?_eq_getElem hlt] at ha
    have ha := Option.some.inj ha
    have k1 : numS ((toB L).extract (6 * j) (6 * j + 2)) = O[j].1 := by rw [p2, ha]
    have k2 : numS ((toB L).extract (6 * j + 2) (6 * j + 6)) = O[j].2 := by
      have e : 6 * j + 6 = 6 * j + 2 + 4 := by omega
      rw [e, q2, ha]
    have q1' : ((toB L).extract (6 * j + 2) (6 * j + 6)).size = 4 := by
      have e : 6 * j + 6 = 6 * j + 2 + 4 := by omega
      rw [e, q1]
    have hn1 := hnum τ _ (by rw [p1]; omega : ((toB L).extract (6 * j) (6 * j + 2)).size ≤ 4)
    have hn2 := hnum τ _ (by rw [q1']; omega : ((toB L).extract (6 * j + 2) (6 * j + 6)).size ≤ 4)
    have hle2 := numS_le (by rw [q1']; omega : ((toB L).extract (6 * j + 2) (6 * j + 6)).size ≤ 4)
    rw [k1] at hn1
    rw [k2] at hn2 hle2
    have h6j : 6 * (j + 1) = 6 * j + 6 := by omega
    generalize hi : 6 * j = i at hn1 hn2 hle2 h6 h6j ⊢
    have hlt' : i < (toB L).size := by omega
    have hltI : (i : Int) < ((toB L).size : Int) := by omega
    have s2 : i + 2 ≤ (toB L).size := by omega
    have s6 : i + 6 ≤ (toB L).size := by omega
    have t2 : ((i : Int) + 2).toNat = i + 2 := by omega
    have t6 : ((i : Int) + 6).toNat = i + 6 := by omega
    have g2 : (0 : Int) ≤ (i : Int) + 2 := by omega
    have g6 : (0 : Int) ≤ (i : Int) + 6 := by omega
    have l6 : i + 2 ≤ i + 6 := by omega
    have hw2 : IntKind.i64.wrap ((i : Int) + 2) = (i : Int) + 2 := wrap_i64 (by omega) (by omega)
    have hw6 : IntKind.i64.wrap ((i : Int) + 6) = (i : Int) + 6 := wrap_i64 (by omega) (by omega)
    have hwb : IntKind.i64.wrap (b.toNat : Int) = (b.toNat : Int) := wrap_i64 (by omega) (by omega)
    simp [hlt', hltI, hw2, hw6, byteA, s2, s6, t2, t6, g2, g6, l6]
    refine callK.of hn1 ?_
    rintro v τ ⟨rfl, rfl⟩
    generalize hO1 : O[j].1 = o1 at *
    by_cases he : o1 = b.toNat
    · have hv := hhit he
      simp [he, hlt', hltI, hw2, hw6, byteA, s2, s6, t2, t6, g2, g6, l6, hwb]
      refine callK.of hn2 ?_
      rintro v τ ⟨rfl, rfl⟩
      have hwi : IntKind.i32.wrap (O[j].2 : Int) = (sgF n b.toNat : Nat) := by rw [wrap32 (by omega) (by omega), hv]
      simp [hwi]
    · have he' : ¬ (o1 : Int) = (b.toNat : Int) := by omega
      rw [if_neg he] at hnx
      simp [he, he', hwb, hw6]
      refine ⟨j + 1, ⟨by omega, hnx⟩, by omega, ?_⟩
      rw [show (6 * ((j + 1 : Nat) : Int)) = (i : Int) + 6 from by omega]
      exact AV.le_refl _
  · have hb4 : 4 * b.toNat + 4 ≤ rbaseL.length := by
      have : rbaseL.length = 1024 := by decide +kernel
      omega
    obtain ⟨p1, p2⟩ := numS_part rbaseL (4 * b.toNat) 4 hb4
    have h4 := hex4_at b.toNat rbaseL hb4
    rw [hex_base] at h4
    rw [List.drop_eq_nil_of_le (by omega)] at hres
    have hv : baseL.getD b.toNat 0 = sgF n b.toNat := hres
    rw [List.getD_eq_getElem?_getD, h4] at hv
    have hv : numS ((toB rbaseL).extract (4 * b.toNat) (4 * b.toNat + 4)) = sgF n b.toNat := by rw [p2]; exact hv
    have hnl : ¬ (6 * (j : Int)) < ((toB L).size : Int) := by omega
    have hn1 := hnum τ _ (by rw [p1]; omega : ((toB rbaseL).extract (4 * b.toNat) (4 * b.toNat + 4)).size ≤ 4)
    have hle := numS_le (by rw [p1]; omega : ((toB rbaseL).extract (4 * b.toNat) (4 * b.toNat + 4)).size ≤ 4)
    rw [hv] at hn1 hle
    have hwb : IntKind.i64.wrap (b.toNat : Int) = (b.toNat : Int) := wrap_i64 (by omega) (by omega)
    have hw4 : IntKind.i64.wrap (4 * (b.toNat : Int)) = 4 * (b.toNat : Int) := wrap_i64 (by omega) (by omega)
    have hw8 : IntKind.i64.wrap (4 * (b.toNat : Int) + 4) = 4 * (b.toNat : Int) + 4 := wrap_i64 (by omega) (by omega)
    simp [hnl, byteA, hwb, hw4, hw8]
    rw [mk_base]
    rotate_left
    · kernel_rfl
    have hsB := toB_size rbaseL
    have g0 : (0 : Int) ≤ 4 * (b.toNat : Int) := by omega
    have g4 : (0 : Int) ≤ 4 * (b.toNat : Int) + 4 := by omega
    have t0 : (4 * (b.toNat : Int)).toNat = 4 * b.toNat := by omega
    have t4 : (4 * (b.toNat : Int) + 4).toNat = 4 * b.toNat + 4 := by omega
    have l4 : 4 * b.toNat ≤ 4 * b.toNat + 4 ∧ 4 * b.toNat + 4 ≤ (toB rbaseL).size := by omega
    rw [if_pos g0, if_pos g4, t0, t4]
    dsimp only
    rw [if_pos l4]
    have hwi : IntKind.i32.wrap ((sgF n b.toNat : Nat) : Int) = (sgF n b.toNat : Nat) := wrap32 (by omega) (by omega)
    simp
    refine callK.of hn1 ?_
    rintro v τ ⟨rfl, rfl⟩
    simp [hwi]
/-- A sign's code, or none. -/
def codeZ (n s : Int) : Int := match codeIx n s with | some j => (j : Nat) | none => -1
end Go.Proofs.YtlmdbcgceijlnaaGreatDoor
/-
  Of each function: which temporaries take a right to append with the value; the plans of the regions that draw their order. Written by a program of mine.
-/
namespace Go.Proofs.YtlmdbcgceijlnaaGreatDoor
open Go Go.AL
/- internal/strconv.Itoa -/
@[simp] def st119 : List Nat := []
@[simp] def pl119 : List (Nat × Plan) := []
/- internal/strconv.FormatInt -/
@[simp] def st157 : List Nat := [53]
@[simp] def pl157 : List (Nat × Plan) := []
/- internal/strconv.small -/
@[simp] def st179 : List Nat := []
@[simp] def pl179 : List (Nat × Plan) := []
end Go.Proofs.YtlmdbcgceijlnaaGreatDoor
/-
  The names of the keys that send; the short ones.
-/
namespace Go.Proofs.YtlmdbcgceijlnaaGreatDoor
open Go Go.AL Go.Sp
variable {σ : Store}

@[simp] theorem callable119 : callable Tryz.prog 119 = true := nr (by kernel_rfl)
@[simp] theorem callable157 : callable Tryz.prog 157 = true := nr (by kernel_rfl)
@[simp] theorem callable179 : callable Tryz.prog 179 = true := nr (by kernel_rfl)
theorem toB_extract (L : List UInt8) (i j : Nat) (h : i ≤ j) : (toB L).extract i j = toB ((L.drop i).take (j - i)) := by
  apply ByteArray.ext
  apply Array.ext'
  simp [toB, ByteArray.data_extract]
/-- A part of a known text. -/
theorem aSlice_str {P : Program} {t : TypeId} (ht : tElem P t = none) (hs : tStr P t = true) (L : List UInt8) (a b : Nat) (za zb : Int) (ha : za = a) (hb : zb = b) (hab : a ≤ b) (hbl : b ≤ L.length) :
    aSlice P t (.lit (.string (toB L))) (some (.lit (.int .i64 za))) (some (.lit (.int .i64 zb))) none = some (.lit (.string (toB ((L.drop a).take (b - a))))) := by
  subst ha hb
  have hsz := toB_size L
  have h0 : (0 : Int) ≤ (a : Int) := by omega
  have h1 : (0 : Int) ≤ (b : Int) := by omega
  have h2 : b ≤ (toB L).size := by omega
  simp [aSlice, ht, hs, bndA, h0, h1, hab, h2, toB_extract L a b hab]
def digsL : List UInt8 := [48, 49, 50, 51, 52, 53, 54, 55, 56, 57]
def decL (n : Nat) : List UInt8 := if n < 10 then [UInt8.ofNat (48 + n)] else [UInt8.ofNat (48 + n / 10), UInt8.ofNat (48 + n % 10)]
def smallsL : List UInt8 := (List.range 100).flatMap fun n => [UInt8.ofNat (48 + n / 10), UInt8.ofNat (48 + n % 10)]
def digits36 : List UInt8 := [48, 49, 50, 51, 52, 53, 54, 55, 56, 57, 97, 98, 99, 100, 101, 102, 103, 104, 105, 106, 107, 108, 109, 110, 111, 112, 113, 114, 115, 116, 117, 118, 119, 120, 121, 122]
/-- Where a byte stands in a list, from 1 on; 0: nowhere. -/
def plcN (L : List UInt8) (b : UInt8) : Nat := if L.idxOf b < L.length then L.idxOf b + 1 else 0
end Go.Proofs.YtlmdbcgceijlnaaGreatDoor
/-
  The signs that are shown; the graphic ones.
-/
namespace Go.Proofs.YtlmdbcgceijlnaaGreatDoor
open Go Go.AL Go.Sp
variable {σ : Store}

def hidB (s : Nat) : Bool := decide (s < 32) || (decide (127 ≤ s) && decide (s ≤ 159)) || s == 173
def shownN (n : Int) (c : UInt8) : Nat := if c = 28 then 42 else if c = 30 then 59 else if c = 63 then 191 else if dataB c = false then 32 else if hidB (sgF n c.toNat) then 32 else sgF n c.toNat
def escL : List (Nat × Nat) := [(112, 8743), (133, 9474), (138, 8593), (139, 8595), (140, 8804), (143, 8594), (159, 8592), (162, 9472), (174, 8805), (190, 8800), (196, 9492), (197, 9484), (198, 9500), (199, 9524), (211, 9532), (212, 9496), (213, 9488), (214, 9508), (215, 9516)]
def escF (c : UInt8) : Option Nat := (escL.find? fun o => o.1 == c.toNat).map (·.2)
set_option maxRecDepth 8000 in
theorem hid_calls (s : Nat) (σ : Store) : ACalls Tryz.prog 153 [.lit (.int .i32 (s : Int))] σ fun v σ' => v = .lit (.bool (hidB s)) ∧ σ' = σ := by
  refine ACalls.of_awp follows (st := st153) (plans := pl153) (n := 17) Tryz.func153 rfl (by kernel_rfl) (by kernel_rfl) (by kernel_rfl) ?_
  unfold hidB
  by_cases h1 : s < 32
  · have h1' : (s : Int) < 32 := by omega
    simp [h1, h1']
  have h1' : ¬ (s : Int) < 32 := by omega
  by_cases h2 : 127 ≤ s
  · have h2' : (127 : Int) ≤ s := by omega
    by_cases h3 : s ≤ 159
    · have h3' : (s : Int) ≤ 159 := by omega
      simp [h1, h1', h2, h2', h3, h3']
    · have h3' : ¬ (s : Int) ≤ 159 := by omega
      have h4 : ((s : Int) == 173) = (s == 173) := by rw [Bool.eq_iff_iff]; simp; omega
      simp [h1, h1', h2, h2', h3, h3', h4]
  · have h2' : ¬ (127 : Int) ≤ s := by omega
    have h4 : ((s : Int) == 173) = (s == 173) := by rw [Bool.eq_iff_iff]; simp; omega
    simp [h1, h1', h2, h2', h4]
set_option maxRecDepth 8000 in
theorem shown_calls (b : Nat) (n : Int) (hn : isPage n) (x : Option Nat) (c : UInt8) (σ : Store) : ACalls Tryz.prog 112 [ptrA b, byteA c] (pgS b n x σ) fun v σ' => v = .lit (.int .i32 ((shownN n c : Nat) : Int)) ∧ ∃ x', NxP σ x x' ∧ σ' = pgS b n x' σ := by
  have hs := csign_calls b n hn x c σ
  have hd := fun τ => data_calls c τ
  have hh := fun τ => hid_calls (sgF n c.toNat) τ
  unfold shownN
  refine ACalls.of_awp follows (st := st112) (plans := pl112) (n := 22) Tryz.func112 rfl (by kernel_rfl) (by kernel_rfl) (by kernel_rfl) ?_
  by_cases c1 : c = 28
  · subst c1; simp [byteA]; exact ⟨_, AV.le_refl _, _, Store.sub_refl _, rfl, x, .inl rfl, rfl⟩
  by_cases c2 : c = 30
  · subst c2; simp [byteA]; exact ⟨_, AV.le_refl _, _, Store.sub_refl _, rfl, x, .inl rfl, rfl⟩
  by_cases c3 : c = 63
  · subst c3; simp [byteA]; exact ⟨_, AV.le_refl _, _, Store.sub_refl _, rfl, x, .inl rfl, rfl⟩
  have k1 : ¬ (c.toNat : Int) = 28 := fun h => c1 (UInt8.toNat_inj.1 (by show c.toNat = 28; omega))
  have k2 : ¬ (c.toNat : Int) = 30 := fun h => c2 (UInt8.toNat_inj.1 (by show c.toNat = 30; omega))
  have k3 : ¬ (c.toNat : Int) = 63 := fun h => c3 (UInt8.toNat_inj.1 (by show c.toNat = 63; omega))
  unfold byteA at *
  simp [k1, k2, k3, c1, c2, c3]
  refine callK.eq (hd _) ?_
  generalize sgF n c.toNat = s at *
  generalize hidB s = hb at *
  generalize dataB c = db at *
  cases db
  · simp
    exact ⟨_, AV.le_refl _, _, Store.sub_refl _, rfl, x, .inl rfl, rfl⟩
  · simp
    refine callK.of hs ?_
    rintro v τ ⟨rfl, q, nx, rfl⟩
    simp
    refine callK.eq (hh _) ?_
    cases hb
    · simp
      exact ⟨_, AV.le_refl _, _, Store.sub_refl _, rfl, _, nx, rfl⟩
    · simp
      exact ⟨_, AV.le_refl _, _, Store.sub_refl _, rfl, _, nx, rfl⟩
set_option maxRecDepth 8000 in
theorem rshown_calls (n : Int) (hn : isPage n) (c : UInt8) (σ : Store) : ACalls Tryz.prog 69 [.lit (.int .i64 n), byteA c] σ fun v σ' => v = .lit (.int .i32 ((shownN n c : Nat) : Int)) ∧ σ' = σ := by
  have hs := rsign_calls n hn c σ
  unfold shownN
  refine ACalls.of_awp follows (st := st69) (plans := pl69) (n := 42) Tryz.func69 rfl (by kernel_rfl) (by kernel_rfl) (by kernel_rfl) ?_
  generalize sgF n c.toNat = s at *
  by_cases c1 : c = 28
  · subst c1; simp [byteA]; refine callK.eq hs ?_; simp
  by_cases c2 : c = 30
  · subst c2; simp [byteA]; refine callK.eq hs ?_; simp
  by_cases c3 : c = 63
  · subst c3; simp [byteA]; refine callK.eq hs ?_; simp
  have k1 : ¬ (c.toNat : Int) = 28 := fun h => c1 (UInt8.toNat_inj.1 (by show c.toNat = 28; omega))
  have k2 : ¬ (c.toNat : Int) = 30 := fun h => c2 (UInt8.toNat_inj.1 (by show c.toNat = 30; omega))
  have k3 : ¬ (c.toNat : Int) = 63 := fun h => c3 (UInt8.toNat_inj.1 (by show c.toNat = 63; omega))
  unfold byteA at *
  simp
  refine callK.eq hs ?_
  unfold dataB hidB
  by_cases d1 : c.toNat < 64
  · have d1' : (c.toNat : Int) < 64 := by omega
    have d2 : ¬ 64 ≤ c.toNat := by omega
    simp [k1, k2, k3, c1, c2, c3, d1, d1', d2]
  have d1' : ¬ (c.toNat : Int) < 64 := by omega
  have d2 : 64 ≤ c.toNat := by omega
  by_cases d3 : c.toNat = 255
  · have d3' : (c.toNat : Int) = 255 := by omega
    simp [k1, k2, k3, c1, c2, c3, d1, d1', d2, d3, d3']
  have d3' : ¬ (c.toNat : Int) = 255 := by omega
  have d4 : c.toNat < 255 := by have := c.toNat_lt; omega
  by_cases h1 : s < 32
  · have h1' : (s : Int) < 32 := by omega
    simp [k1, k2, k3, c1, c2, c3, d1, d1', d2, d3, d3', d4, h1, h1']
  have h1' : ¬ (s : Int) < 32 := by omega
  by_cases h2 : 127 ≤ s
  · have h2' : (127 : Int) ≤ s := by omega
    by_cases h3 : s ≤ 159
    · have h3' : (s : Int) ≤ 159 := by omega
      simp [k1, k2, k3, c1, c2, c3, d1, d1', d2, d3, d3', d4, h1, h1', h2, h2', h3, h3']
    · have h3' : ¬ (s : Int) ≤ 159 := by omega
      by_cases h4 : s = 173
      · subst h4
        simp [k1, k2, k3, c1, c2, c3, d1, d1', d2, d3, d3', d4]
      · have h4' : ¬ (s : Int) = 173 := by omega
        simp [k1, k2, k3, c1, c2, c3, d1, d1', d2, d3, d3', d4, h1, h1', h2, h2', h3, h3', h4, h4']
  · have h2' : ¬ (127 : Int) ≤ s := by omega
    have h4 : ¬ s = 173 := by omega
    have h4' : ¬ (s : Int) = 173 := by omega
    simp [k1, k2, k3, c1, c2, c3, d1, d1', d2, d3, d3', d4, h1, h1', h2, h2', h4, h4']
set_option maxRecDepth 8000 in
theorem escs_calls (σ : Store) : ACalls Tryz.prog 151 [] σ fun v σ' => v = .list true 2 (othA escL) ∧ σ' = σ := by
  refine ACalls.of_awp follows (st := st151) (plans := pl151) (n := 21) Tryz.func151 rfl (by kernel_rfl) (by kernel_rfl) (by kernel_rfl) ?_
  simp [othA, escL]
end Go.Proofs.YtlmdbcgceijlnaaGreatDoor
/-
  The graphic signs, the program's and the document's.
-/
namespace Go.Proofs.YtlmdbcgceijlnaaGreatDoor
open Go Go.AL Go.Sp
variable {σ : Store}

def eC (j : Nat) : Nat := (escL.getD j (0, 0)).1
def eS (j : Nat) : Nat := (escL.getD j (0, 0)).2
theorem escL_len : escL.length = 19 := by decide
theorem eC_at (j : Nat) (hj : j < escL.length) : (escL[j]).1 = eC j := by simp [eC, hj]
theorem eS_at (j : Nat) (hj : j < escL.length) : (escL[j]).2 = eS j := by simp [eS, hj]
theorem escF_hit {c : UInt8} {i : Nat} (hi : i < 19) (hb : ∀ j, j < i → ¬ eC j = c.toNat) (he : eC i = c.toNat) : escF c = some (eS i) := by
  have hl := escL_len
  have hi' : i < escL.length := by omega
  unfold escF
  rw [List.find?_eq_some_iff_getElem.2 ⟨by simp [he, eC_at], i, hi', rfl, fun j hj => by have := hb j hj; simpa [eC_at] using this⟩]
  rw [Option.map_some, eS_at]
theorem escF_none {c : UInt8} (hb : ∀ j, j < 19 → ¬ eC j = c.toNat) : escF c = none := by
  unfold escF
  rw [List.find?_eq_none.2]
  · rfl
  · intro o ho
    obtain ⟨j, hj, rfl⟩ := List.getElem_of_mem ho
    have := hb j (by have := escL_len; omega)
    simpa [eC_at] using this
theorem othA_get (i : Nat) (hi : i < 19) : (othA escL)[i]? = some (.agg [.lit (.int .u8 (eC i : Int)), .lit (.int .u16 (eS i : Int))]) := by
  have hl := escL_len
  have hi' : i < escL.length := by omega
  simp [othA, hi', eC_at, eS_at]
set_option maxRecDepth 8000 in
theorem escape_calls (c : UInt8) (σ : Store) : ACalls Tryz.prog 111 [byteA c] σ fun v σ' => v = .tuple [.lit (.int .i32 ((escF c).getD 0 : Nat)), .lit (.bool (escF c).isSome)] ∧ σ' = σ := by
  have hec := fun τ => escs_calls τ
  have hsm : ∀ j, j < 19 → eS j < 65536 := by decide
  refine ACalls.of_awp follows (st := st111) (plans := pl111) (n := 20) Tryz.func111 rfl (by kernel_rfl) (by kernel_rfl) (by kernel_rfl) ?_
  simp [byteA]
  refine callK.eq (hec _) ?_
  have hhit := fun i (hi : i < 19) => escF_hit (c := c) hi
  have hnone := escF_none (c := c)
  generalize escF c = ec at *
  have hget := othA_get
  have hOl : (othA escL).length = 19 := by rw [othA_length, escL_len]
  generalize othA escL = O at *
  generalize eC = fC at *
  generalize eS = fS at *
  simp [hOl]
  refine codeK.loop follows (st := st111) (plans := pl111) (X := Nat) (fun i => i ≤ 19 ∧ ∀ j, j < i → ¬ fC j = c.toNat)
    (fun i => [(0, byteA c), (6, .list true 2 O), (7, .lit (.int .i64 19)), (8, .lit (.int .i64 i))]) (fun _ => σ) (fun i => 19 - i) 0 (by kernel_rfl) (by simp) (by simp [byteA]) (Store.sub_refl _) fun i hi => ?_
  obtain ⟨hi1, hi2⟩ := hi
  by_cases hlt : i < 19
  · have hw1 : IntKind.i64.wrap ((i : Int) + 1) = (i : Int) + 1 := wrap_i64 (by omega) (by omega)
    have hg := hget i hlt
    have hlt' : (i : Int) < 19 := by omega
    have hgo : ∀ q : i < O.length, O[i]'q = .agg [.lit (.int .u8 (fC i : Int)), .lit (.int .u16 (fS i : Int))] := fun q => by rw [List.getElem?_eq_getElem q] at hg; exact Option.some.inj hg
    have hH := hhit i hlt hi2
    have hS := hsm i hlt
    have hnx : ¬ fC i = c.toNat → ∀ j, j < i + 1 → ¬ fC j = c.toNat := fun h j hj => by
      rcases Nat.lt_or_ge j i with h1 | h1
      · exact hi2 j h1
      · have : j = i := by omega
        subst this; exact h
    generalize fC i = w at *
    generalize fS i = s at *
    have hw2 : IntKind.i32.wrap (s : Int) = s := wrap32 (by omega) (by omega)
    by_cases he : w = c.toNat
    · have hH' := hH he
      rw [hH']
      simp +contextual [byteA, hlt, hlt', hgo, hOl, he, hw2]
    · have he' : ¬ (w : Int) = (c.toNat : Int) := by omega
      simp +contextual [byteA, hlt, hlt', hgo, hOl, he, he', hw1]
      intro z hz
      exact ⟨i + 1, ⟨by omega, hnx he⟩, by omega, by simp⟩
  · obtain rfl : i = 19 := by omega
    rw [hnone hi2]
    simp
set_option maxRecDepth 8000 in
theorem hidden_calls (p u : Bool) (d : Nat) (m : Bool) (σ : Store) : ACalls Tryz.prog 67 [.agg [.lit (.bool p), .lit (.bool u), .lit (.int .i64 d), .lit (.bool m)]] σ fun v σ' => v = .lit (.bool (decide (d = 3))) ∧ σ' = σ := by
  have h4 : ((d : Int) == 3) = decide (d = 3) := by rw [Bool.eq_iff_iff]; simp; omega
  refine ACalls.of_awp follows (st := st67) (plans := pl67) (n := 6) Tryz.func67 rfl (by kernel_rfl) (by kernel_rfl) (by kernel_rfl) ?_
  simp [h4]
  intro z hz
  exact sub_upd_self _ _ _ hz
def escS : List UInt8 := [55, 48, 50, 50, 50, 55, 56, 53, 50, 53, 48, 50, 56, 97, 50, 49, 57, 49, 56, 98, 50, 49, 57, 51, 56, 99, 50, 50, 54, 52, 56, 102, 50, 49, 57, 50, 57, 102, 50, 49, 57, 48, 97, 50, 50, 53, 48, 48, 97, 101, 50, 50, 54, 53, 98, 101, 50, 50, 54, 48, 99, 52, 50, 53, 49, 52, 99, 53, 50, 53, 48, 99, 99, 54, 50, 53, 49, 99, 99, 55, 50, 53, 51, 52, 100, 51, 50, 53, 51, 99, 100, 52, 50, 53, 49, 56, 100, 53, 50, 53, 49, 48, 100, 54, 50, 53, 50, 52, 100, 55, 50, 53, 50, 99]
theorem escS_len : escS.length = 114 := by decide
theorem escS_at : ∀ i : Fin 19, numL ((escS.drop (6 * i.val)).take 2) = eC i.val ∧ numL ((escS.drop (6 * i.val + 2)).take 4) = eS i.val := by decide +kernel
set_option maxRecDepth 8000 in
theorem resc_calls (c : UInt8) (σ : Store) : ACalls Tryz.prog 70 [byteA c] σ fun v σ' => v = .lit (.int .i32 ((escF c).getD 0 : Nat)) ∧ σ' = σ := by
  have hsm : ∀ j, j < 19 → eS j < 65536 := by decide
  have hhit := fun i (hi : i < 19) => escF_hit (c := c) hi
  have hnone := escF_none (c := c)
  have hat := fun i (hi : i < 19) => escS_at ⟨i, hi⟩
  refine ACalls.of_awp follows (st := st70) (plans := pl70) (n := 23) Tryz.func70 rfl (by kernel_rfl) (by kernel_rfl) (by kernel_rfl) ?_
  generalize escF c = ec at *
  generalize eC = fC at *
  generalize eS = fS at *
  simp [byteA]
  refine codeK.loop follows (st := st70) (plans := pl70) (X := Nat) (fun i => i ≤ 19 ∧ ∀ j, j < i → ¬ fC j = c.toNat)
    (fun i => [(0, byteA c), (3, .lit (.int .i64 (6 * i : Nat)))]) (fun _ => σ) (fun i => 19 - i) 0 (by kernel_rfl) (by simp) (by simp [byteA]) (Store.sub_refl _) fun i hi => ?_
  obtain ⟨hi1, hi2⟩ := hi
  by_cases hlt : i < 19
  · have hw1 : IntKind.i64.wrap (((6 * i : Nat) : Int) + 2) = ((6 * i : Nat) : Int) + 2 := wrap_i64 (by omega) (by omega)
    have hw2 : IntKind.i64.wrap (((6 * i : Nat) : Int) + 6) = ((6 * i : Nat) : Int) + 6 := wrap_i64 (by omega) (by omega)
    obtain ⟨a1, a2⟩ := hat i hlt
    dsimp only at a1 a2
    have hH := hhit i hlt hi2
    have hS := hsm i hlt
    have hnx : ¬ fC i = c.toNat → ∀ j, j < i + 1 → ¬ fC j = c.toNat := fun h j hj => by
      rcases Nat.lt_or_ge j i with h1 | h1
      · exact hi2 j h1
      · have : j = i := by omega
        subst this; exact h
    have s1 := aSlice_str (P := Tryz.prog) (t := 9) (by simp) (by simp) escS (6 * i) (6 * i + 2) ((6 * i : Nat) : Int) (((6 * i : Nat) : Int) + 2) rfl (by omega) (by omega) (by rw [escS_len]; omega)
    have s2 := aSlice_str (P := Tryz.prog) (t := 9) (by simp) (by simp) escS (6 * i + 2) (6 * i + 6) (((6 * i : Nat) : Int) + 2) (((6 * i : Nat) : Int) + 6) (by omega) (by omega) (by omega) (by rw [escS_len]; omega)
    rw [show 6 * i + 2 - 6 * i = 2 from by omega] at s1
    rw [show 6 * i + 6 - (6 * i + 2) = 4 from by omega] at s2
    have n1 := fun τ => nums_calls (toB ((escS.drop (6 * i)).take 2)) (by rw [toB_size]; simp; omega) τ
    have n2 := fun τ => nums_calls (toB ((escS.drop (6 * i + 2)).take 4)) (by rw [toB_size]; simp; omega) τ
    have q1 : numS (toB ((escS.drop (6 * i)).take 2)) = fC i := by
      have := (numS_part escS (6 * i) 2 (by rw [escS_len]; omega)).2
      rw [toB_extract _ _ _ (by omega), show 6 * i + 2 - 6 * i = 2 from by omega] at this
      rw [this, a1]
    have q2 : numS (toB ((escS.drop (6 * i + 2)).take 4)) = fS i := by
      have := (numS_part escS (6 * i + 2) 4 (by rw [escS_len]; omega)).2
      rw [toB_extract _ _ _ (by omega), show 6 * i + 2 + 4 - (6 * i + 2) = 4 from by omega] at this
      rw [this, a2]
    rw [q1] at n1
    rw [q2] at n2
    clear q1 q2 a1 a2 hat
    have hlt' : ((6 * i : Nat) : Int) < 114 := by omega
    generalize hB1 : toB ((escS.drop (6 * i)).take 2) = B1 at *
    generalize hB2 : toB ((escS.drop (6 * i + 2)).take 4) = B2 at *
    generalize fC i = w at *
    generalize fS i = s at *
    have hw3 : IntKind.i32.wrap (s : Int) = s := wrap32 (by omega) (by omega)
    have hcw : IntKind.i64.wrap (c.toNat : Int) = c.toNat := wrap_i64 (by omega) (by have := c.toNat_lt; omega)
    have hmk : ByteArray.mk #[55, 48, 50, 50, 50, 55, 56, 53, 50, 53, 48, 50, 56, 97, 50, 49, 57, 49, 56, 98, 50, 49, 57, 51, 56, 99, 50, 50, 54, 52, 56, 102, 50, 49, 57, 50, 57, 102, 50, 49, 57, 48, 97, 50, 50, 53, 48, 48, 97, 101, 50, 50, 54, 53, 98, 101, 50, 50, 54, 48, 99, 52, 50, 53, 49, 52, 99, 53, 50, 53, 48, 99, 99, 54, 50, 53, 49, 99, 99, 55, 50, 53, 51, 52, 100, 51, 50, 53, 51, 99, 100, 52, 50, 53, 49, 56, 100, 53, 50, 53, 49, 48, 100, 54, 50, 53, 50, 52, 100, 55, 50, 53, 50, 99] = toB escS := rfl
    have hw2' : IntKind.i64.wrap (((6 * i : Nat) : Int) + 6) = ((6 * (i + 1) : Nat) : Int) := wrap_i64 (by omega) (by omega)
    have hk6 : 6 * (i + 1) = 6 * i + 6 := by omega
    generalize 6 * (i + 1) = k6 at *
    generalize hk : 6 * i = k at *
    by_cases he : w = c.toNat
    · have hH' := hH he
      rw [hH']
      simp [-e_aSlice_1, -e_aSlice_2, byteA, hlt', hw1, hmk, s1]
      refine callK.eq (n1 _) ?_
      simp [-e_aSlice_1, -e_aSlice_2, he, hcw, hw1, hw2, hmk, s2]
      refine callK.eq (n2 _) ?_
      simp [hw3]
    · have he' : ¬ (w : Int) = (c.toNat : Int) := by omega
      simp [-e_aSlice_1, -e_aSlice_2, byteA, hlt', hw1, hmk, s1]
      refine callK.eq (n1 _) ?_
      simp [he', hcw, hw2]
      exact ⟨i + 1, ⟨by omega, hnx he⟩, by omega, by rw [show ((k : Int) + 6) = 6 * ((i + 1 : Nat) : Int) by omega]; exact AV.le_refl _⟩
  · obtain rfl : i = 19 := by omega
    rw [hnone hi2]
    simp
end Go.Proofs.YtlmdbcgceijlnaaGreatDoor
/-
  The iterators over a screen that their rounds change, attributes staying where they are.
-/
namespace Go.Proofs.YtlmdbcgceijlnaaGreatDoor
open Go Go.AL Go.Sp

/-- The screen of each round. -/
def NeedF (b q p : Nat) (S : Nat → Sp) (k : Nat) (τ : Store) : Prop := τ b = some [ptrA q] ∧ Prg τ q p (S k)
/-- Screens of one size, attributes at the same places. -/
structure Fam (S : Nat → Sp) : Prop where
  good : ∀ k, (S k).good
  n : ∀ k, (S k).n = (S 0).n
  attr : ∀ k i, attrAt (S k).cells i = attrAt (S 0).cells i
theorem Fam.attrs {S : Nat → Sp} (h : Fam S) (k : Nat) : (S k).attrs = (S 0).attrs := by
  rw [attrs_eq _ (h.good k), attrs_eq _ (h.good 0), h.n k]
  congr 1
  funext i; exact h.attr k i
def atFldF (S : Nat → Sp) (k : Nat) : Nat × Fld := ((S 0).attrs[k]?.getD 0, fld (((S k).cells[(S 0).attrs[k]?.getD 0]?.getD .zero).fa))
/-- What the iterator over a field's places finds. -/
def NeedPF (b c q p : Nat) (S : Nat → Sp) (a : Nat) (k : Nat) (τ : Store) : Prop := τ b = some [ptrA q] ∧ τ c = some [.lit (.int .i64 a)] ∧ Prg τ q p (S k)
end Go.Proofs.YtlmdbcgceijlnaaGreatDoor
