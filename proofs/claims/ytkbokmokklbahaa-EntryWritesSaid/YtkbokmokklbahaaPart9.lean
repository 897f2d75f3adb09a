/-
  Two bytes as an address.
-/
import Derived.Test.YtkbokmokklbahaaPart8
namespace Go.Proofs.Ytkbokmokklbahaa
open Go Go.AL

def unsix (b : UInt8) : Nat := ((List.range 64).find? fun n => sixR n == b).getD (b.toNat % 64)
theorem unsix_lt (b : UInt8) : unsix b < 64 := by
  unfold unsix
  cases h : (List.range 64).find? fun n => sixR n == b with
  | none => simp; omega
  | some i => rw [List.find?_range_eq_some] at h; simp; have := h.2.1; simp at this; omega
theorem unsix_six : ∀ r : Fin 64, unsix (sixR r.val) = r.val := by decide +kernel
theorem six_top : ∀ r : Fin 64, (sixR r.val).toNat / 64 = 1 ∨ (sixR r.val).toNat / 64 = 3 := by decide +kernel
theorem unsix_found {b : UInt8} {i : Nat} (hi : i < 64) (h : sixR i = b) (hj : ∀ j, j < i → sixR j ≠ b) : unsix b = i := by
  have : ((List.range 64).find? fun n => sixR n == b) = some i := by
    rw [List.find?_range_eq_some]
    exact ⟨by simp [h], by simp [hi], fun j hj' => by simp [hj j hj']⟩
  rw [unsix, this]; rfl
theorem unsix_none {b : UInt8} (hj : ∀ j, j < 64 → sixR j ≠ b) : unsix b = b.toNat % 64 := by
  have : ((List.range 64).find? fun n => sixR n == b) = none := by
    rw [List.find?_eq_none]
    intro n hn
    simp at hn
    simp [hj n hn]
  rw [unsix, this]; rfl
theorem six_small {n : Nat} (h : n < 64) : six n = sixR n := by rw [six, Nat.mod_eq_of_lt h]
theorem and63b (b : UInt8) : pureBin .and (.int .u8 (b.toNat : Int)) (.int .u8 63) = some (.int .u8 ((b.toNat % 64 : Nat) : Int)) := by
  have h := and_u8 b 63
  have e : (b &&& 63).toNat = b.toNat % 64 := by
    rw [UInt8.toNat_and]; exact Nat.and_two_pow_sub_one_eq_mod _ 6
  rw [e] at h; exact h

set_option maxRecDepth 4000 in
theorem unsix_calls (b : UInt8) (σ : Store) : ACalls Try.prog 37 [byteA b] σ fun v σ' => v = .lit (.int .i64 (unsix b)) ∧ σ' = σ := by
  refine ACalls.of_awp follows (st := st37) (plans := pl37) (n := 16) Try.func37 rfl (by kernel_rfl) (by kernel_rfl) (by kernel_rfl) ?_
  simp
  refine codeK.loop follows (st := st37) (plans := pl37) (X := Nat) (fun i => i ≤ 64 ∧ ∀ j, j < i → sixR j ≠ b)
    (fun i => [(0, byteA b), (4, .lit (.int .i64 i))]) (fun _ => σ) (fun i => 64 - i) 0 (by kernel_rfl) (by simp) (by simp) (by simp) fun i hi => ?_
  obtain ⟨hi, hk⟩ := hi
  by_cases hlt : i < 64
  · have hw : IntKind.i64.wrap ((i : Int) + 1) = ((i + 1 : Nat) : Int) := wrap_i64 (by omega) (by omega)
    have hlt' : (i : Int) < 64 := by omega
    have hs := six_calls i (by omega)
    rw [six_small hlt] at hs
    have hf := fun h => unsix_found (b := b) hlt h hk
    have hstep : sixR i ≠ b → ∀ j, j < i + 1 → sixR j ≠ b := fun hne j hj => by
      by_cases hji : j = i
      · subst hji; exact hne
      · exact hk j (by omega)
    generalize sixR i = x at *
    by_cases he : x = b
    · have hf' := hf he
      subst he
      simp [hlt']
      refine callK.of (hs σ) ?_
      rintro v σ' ⟨rfl, rfl⟩
      simp [byteA, hf']
    · have he' : ¬ (x.toNat : Int) = (b.toNat : Int) := fun h => he (UInt8.toNat_inj.1 (by omega))
      simp [hlt']
      refine callK.of (hs σ) ?_
      rintro v σ' ⟨rfl, rfl⟩
      simp [byteA, he']
      exact ⟨i + 1, ⟨by omega, hstep he⟩, by omega, by rw [hw]; exact AV.le_refl _⟩
  · obtain rfl : i = 64 := by omega
    have hn := unsix_none hk
    have ha := and63b b
    have hw : IntKind.i64.wrap ((unsix b : Nat) : Int) = ((unsix b : Nat) : Int) := wrap_i64 (by omega) (by have := unsix_lt b; omega)
    rw [← hn] at ha
    simp [-e_pureBin_8, byteA, ha, hw]

/-- What two bytes say: a place and an error. -/
def decM (a b : UInt8) : Nat × Nat := if a.toNat / 64 = 0 then (a.toNat * 256 + b.toNat, 0) else if a.toNat / 64 = 2 then (0, 9) else (unsix a * 64 + unsix b, 0)
theorem dec_enc {n : Nat} (h : n < 4096) : decM (six (n / 64)) (six n) = (n, 0) := by
  have e1 : six (n / 64) = sixR (n / 64) := six_small (by omega)
  have e2 : six n = sixR (n % 64) := rfl
  have h1 := six_top ⟨n / 64, by omega⟩
  have h2 := unsix_six ⟨n / 64, by omega⟩
  have h3 := unsix_six ⟨n % 64, by omega⟩
  simp only at h1 h2 h3
  rw [decM, e1, e2, h2, h3, if_neg (by omega), if_neg (by omega)]
  congr 1; omega
def decR : List UInt8 → Nat × Nat
  | a :: b :: _ => decM a b
  | _ => (0, 2)
theorem shl8 (a : UInt8) : pureBin .shl (.int .i64 (a.toNat : Int)) (.int .u64 8) = some (.int .i64 ((2 ^ 8 * a.toNat : Nat) : Int)) := by
  have := a.toNat_lt
  have h : IntKind.i64.wrap ((a.toNat : Int) * 2 ^ min ((8 : Int).toNat) IntKind.i64.bits) = ((2 ^ 8 * a.toNat : Nat) : Int) := by
    have : (2 : Int) ^ min ((8 : Int).toNat) IntKind.i64.bits = 256 := by decide +kernel
    rw [this, wrap_i64 (by omega) (by omega)]; omega
  unfold pureBin
  simp only [show ¬ ((8 : Int) < 0) by omega, if_false]
  rw [h]
theorem shl6 (m : Nat) (hm : m < 64) : pureBin .shl (.int .i64 (m : Int)) (.int .u64 6) = some (.int .i64 ((2 ^ 6 * m : Nat) : Int)) := by
  have h : IntKind.i64.wrap ((m : Int) * 2 ^ min ((6 : Int).toNat) IntKind.i64.bits) = ((2 ^ 6 * m : Nat) : Int) := by
    have : (2 : Int) ^ min ((6 : Int).toNat) IntKind.i64.bits = 64 := by decide +kernel
    rw [this, wrap_i64 (by omega) (by omega)]; omega
  unfold pureBin
  simp only [show ¬ ((6 : Int) < 0) by omega, if_false]
  rw [h]
theorem shr6 (a : UInt8) : pureBin .shr (.int .u8 (a.toNat : Int)) (.int .u64 6) = some (.int .u8 ((a.toNat / 64 : Nat) : Int)) := by
  have h : (a.toNat : Int).fdiv (2 ^ min ((6 : Int).toNat) IntKind.u8.bits) = ((a.toNat / 64 : Nat) : Int) := by
    have : (2 : Int) ^ min ((6 : Int).toNat) IntKind.u8.bits = ((64 : Nat) : Int) := by decide +kernel
    rw [this]; exact (Int.ofNat_fdiv a.toNat 64).symm
  unfold pureBin
  simp only [show ¬ ((6 : Int) < 0) by omega, if_false]
  rw [h]

set_option maxRecDepth 4000 in
theorem dec_core1 (o : Bool) (a b : UInt8) (L : List AV) (q V N : Nat) (gl0 : 0 < L.length) (gl1 : 1 < L.length) (e0 : L[0] = byteA a) (e1 : L[1] = byteA b)
    (wa : IntKind.i64.wrap (a.toNat : Int) = (a.toNat : Int)) (wb : IntKind.i64.wrap (b.toNat : Int) = (b.toNat : Int))
    (f1 : pureBin .shl (.int .i64 (a.toNat : Int)) (.int .u64 8) = some (.int .i64 (V : Int))) (f2 : pureBin .shr (.int .u8 (a.toNat : Int)) (.int .u64 6) = some (.int .u8 (q : Int)))
    (f3 : pureBin .or (.int .i64 (V : Int)) (.int .i64 (b.toNat : Int)) = some (.int .i64 (N : Int))) (hq : q = 0) (σ : Store) :
    ACalls Try.prog 26 [.lit (.int .i64 12), .list o 1 L] σ fun v σ' => v = .tuple [.lit (.int .i64 N), .lit (.int .i64 0)] ∧ σ' = σ := by
  have gl2 : ¬ ((L.length : Int) < 2) := by omega
  subst hq
  refine ACalls.of_awp follows (st := st26) (plans := pl26) (n := 59) Try.func26 rfl (by kernel_rfl) (by kernel_rfl) (by kernel_rfl) ?_
  simp [-e_pureBin_1, -e_pureBin_2, -e_pureBin_9, gl2, gl0, gl1, e0, e1, byteA, wa, wb, f1, f2, f3]
set_option maxRecDepth 4000 in
theorem dec_core2 (o : Bool) (a b : UInt8) (L : List AV) (q V N : Nat) (gl0 : 0 < L.length) (gl1 : 1 < L.length) (e0 : L[0] = byteA a) (e1 : L[1] = byteA b)
    (wa : IntKind.i64.wrap (a.toNat : Int) = (a.toNat : Int)) (wb : IntKind.i64.wrap (b.toNat : Int) = (b.toNat : Int))
    (f1 : pureBin .shl (.int .i64 (a.toNat : Int)) (.int .u64 8) = some (.int .i64 (V : Int))) (f2 : pureBin .shr (.int .u8 (a.toNat : Int)) (.int .u64 6) = some (.int .u8 (q : Int)))
    (f3 : pureBin .or (.int .i64 (V : Int)) (.int .i64 (b.toNat : Int)) = some (.int .i64 (N : Int))) (hq : q = 2) (σ : Store) :
    ACalls Try.prog 26 [.lit (.int .i64 12), .list o 1 L] σ fun v σ' => v = .tuple [.lit (.int .i64 0), .lit (.int .i64 9)] ∧ σ' = σ := by
  have gl2 : ¬ ((L.length : Int) < 2) := by omega
  subst hq
  refine ACalls.of_awp follows (st := st26) (plans := pl26) (n := 59) Try.func26 rfl (by kernel_rfl) (by kernel_rfl) (by kernel_rfl) ?_
  simp [-e_pureBin_1, -e_pureBin_2, -e_pureBin_9, gl2, gl0, gl1, e0, e1, byteA, wa, wb, f1, f2, f3]
set_option maxRecDepth 4000 in
theorem dec_core3 (o : Bool) (a b : UInt8) (L : List AV) (q V N x y W M : Nat) (gl0 : 0 < L.length) (gl1 : 1 < L.length) (e0 : L[0] = byteA a) (e1 : L[1] = byteA b)
    (wa : IntKind.i64.wrap (a.toNat : Int) = (a.toNat : Int)) (wb : IntKind.i64.wrap (b.toNat : Int) = (b.toNat : Int))
    (f1 : pureBin .shl (.int .i64 (a.toNat : Int)) (.int .u64 8) = some (.int .i64 (V : Int))) (f2 : pureBin .shr (.int .u8 (a.toNat : Int)) (.int .u64 6) = some (.int .u8 (q : Int)))
    (f3 : pureBin .or (.int .i64 (V : Int)) (.int .i64 (b.toNat : Int)) = some (.int .i64 (N : Int))) (h0 : ¬ q = 0) (h2 : ¬ q = 2) (h2' : ¬ (q : Int) = 2)
    (s1 : ∀ σ, ACalls Try.prog 37 [byteA a] σ fun v σ' => v = .lit (.int .i64 x) ∧ σ' = σ) (s2 : ∀ σ, ACalls Try.prog 37 [byteA b] σ fun v σ' => v = .lit (.int .i64 y) ∧ σ' = σ)
    (k1 : pureBin .shl (.int .i64 (x : Int)) (.int .u64 6) = some (.int .i64 (W : Int))) (k3 : pureBin .or (.int .i64 (W : Int)) (.int .i64 (y : Int)) = some (.int .i64 (M : Int))) (σ : Store) :
    ACalls Try.prog 26 [.lit (.int .i64 12), .list o 1 L] σ fun v σ' => v = .tuple [.lit (.int .i64 M), .lit (.int .i64 0)] ∧ σ' = σ := by
  have gl2 : ¬ ((L.length : Int) < 2) := by omega
  refine ACalls.of_awp follows (st := st26) (plans := pl26) (n := 59) Try.func26 rfl (by kernel_rfl) (by kernel_rfl) (by kernel_rfl) ?_
  simp [-e_pureBin_1, -e_pureBin_2, -e_pureBin_9, gl2, gl0, gl1, e0, e1, byteA, wa, wb, f1, f2, f3, h0, h2']
  refine ⟨?_, ?_⟩
  · refine callK.of (s1 _) ?_
    rintro v σ' ⟨rfl, rfl⟩
    simp [-e_pureBin_1, -e_pureBin_2, -e_pureBin_9, k1]
    refine callK.of (s2 _) ?_
    rintro v σ' ⟨rfl, rfl⟩
    simp [-e_pureBin_1, -e_pureBin_2, -e_pureBin_9, k3]
  · refine callK.of (s1 _) ?_
    rintro v σ' ⟨rfl, rfl⟩
    simp [-e_pureBin_1, -e_pureBin_2, -e_pureBin_9, k1]
    refine callK.of (s2 _) ?_
    rintro v σ' ⟨rfl, rfl⟩
    simp [-e_pureBin_1, -e_pureBin_2, -e_pureBin_9, k3]
theorem dec_calls_two (o : Bool) (a b : UInt8) (l : List UInt8) (σ : Store) : ACalls Try.prog 26 [.lit (.int .i64 12), .list o 1 (bytesA (a :: b :: l))] σ fun v σ' => v = .tuple [.lit (.int .i64 (decM a b).1), .lit (.int .i64 (decM a b).2)] ∧ σ' = σ := by
  have g0 : (bytesA (a :: b :: l))[0]? = some (byteA a) := rfl
  have g1 : (bytesA (a :: b :: l))[1]? = some (byteA b) := rfl
  have gl : (bytesA (a :: b :: l)).length = l.length + 2 := by simp
  have gl0 : 0 < (bytesA (a :: b :: l)).length := by omega
  have gl1 : 1 < (bytesA (a :: b :: l)).length := by omega
  have e0 := (List.getElem_eq_iff gl0).2 g0
  have e1 := (List.getElem_eq_iff gl1).2 g1
  have ha := a.toNat_lt
  have hb := b.toNat_lt
  have f3 := or_i64 (2 ^ 8 * a.toNat) b.toNat (by omega) (by omega)
  rw [← Nat.two_pow_add_eq_or_of_lt (by omega)] at f3
  have hM : 2 ^ 8 * a.toNat + b.toNat = a.toNat * 256 + b.toNat := by omega
  rw [hM] at f3
  by_cases h0 : a.toNat / 64 = 0
  · rw [decM, if_pos h0]
    exact dec_core1 o a b _ _ _ _ gl0 gl1 e0 e1 (wrapB a) (wrapB b) (shl8 a) (shr6 a) f3 h0 σ
  · by_cases h2 : a.toNat / 64 = 2
    · rw [decM, if_neg h0, if_pos h2]
      exact dec_core2 o a b _ _ _ _ gl0 gl1 e0 e1 (wrapB a) (wrapB b) (shl8 a) (shr6 a) f3 h2 σ
    · rw [decM, if_neg h0, if_neg h2]
      have u1 := unsix_lt a
      have u2 := unsix_lt b
      have k3 := or_i64 (2 ^ 6 * unsix a) (unsix b) (by omega) (by omega)
      rw [← Nat.two_pow_add_eq_or_of_lt (by omega), show 2 ^ 6 * unsix a + unsix b = unsix a * 64 + unsix b by omega] at k3
      exact dec_core3 o a b _ _ _ _ _ _ _ _ gl0 gl1 e0 e1 (wrapB a) (wrapB b) (shl8 a) (shr6 a) f3 h0 h2 (by omega) (unsix_calls a) (unsix_calls b) (shl6 _ u1) k3 σ

set_option maxRecDepth 4000 in
theorem dec_calls (o : Bool) (l : List UInt8) (σ : Store) : ACalls Try.prog 26 [.lit (.int .i64 12), .list o 1 (bytesA l)] σ fun v σ' => v = .tuple [.lit (.int .i64 (decR l).1), .lit (.int .i64 (decR l).2)] ∧ σ' = σ := by
  rcases l with _ | ⟨a, _ | ⟨b, l⟩⟩
  · refine ACalls.of_awp follows (st := st26) (plans := pl26) (n := 59) Try.func26 rfl (by kernel_rfl) (by kernel_rfl) (by kernel_rfl) ?_
    simp [decR]
  · refine ACalls.of_awp follows (st := st26) (plans := pl26) (n := 59) Try.func26 rfl (by kernel_rfl) (by kernel_rfl) (by kernel_rfl) ?_
    simp [decR]
  · exact dec_calls_two o a b l σ
end Go.Proofs.Ytkbokmokklbahaa
/-
  Orders' bytes: of a text, of an address.
-/
namespace Go.Proofs.Ytkbokmokklbahaa
open Go Go.AL

structure Op where
  kind : Nat := 0
  addr : Int := 0
  code : UInt8 := 0
  graph : Bool := false
  fa : UInt8 := 0
  pairs : List (UInt8 × UInt8) := []
  text : List UInt8 := []
def pairsA (l : List (UInt8 × UInt8)) : List AV := l.map fun p => .agg [byteA p.1, byteA p.2]
def opC (o : Op) : List AV := [.lit (.int .i64 o.kind), .lit (.int .i64 o.addr), byteA o.code, .lit (.bool o.graph), byteA o.fa, .list false 2 (pairsA o.pairs), .list false 1 (bytesA o.text)]
def opA (o : Op) : AV := .agg (opC o)
def opsA (l : List Op) : List AV := l.map opA
@[simp] theorem opsA_length (l : List Op) : (opsA l).length = l.length := by simp [opsA]
theorem opsA_append (l k : List Op) : opsA (l ++ k) = opsA l ++ opsA k := by simp [opsA]
theorem opsA_get (l : List Op) (i : Nat) (h : i < l.length) : (opsA l)[i]'(by simpa using h) = opA l[i] := by simp [opsA]

theorem bytesA_at (l : List UInt8) (i : Nat) (h : i < l.length) : (bytesA l)[i]'(by simpa using h) = byteA l[i] := by simp [bytesA]
def hasOrd (l : List UInt8) : Bool := l.any isOrd
theorem hasOrd_none {l : List UInt8} (h : ∀ j (hj : j < l.length), isOrd l[j] = false) : hasOrd l = false := by
  rw [hasOrd, List.any_eq_false]
  intro x hx
  obtain ⟨j, hj, rfl⟩ := List.mem_iff_getElem.1 hx
  simp [h j hj]
theorem hasOrd_some {l : List UInt8} {j : Nat} (hj : j < l.length) (h : isOrd l[j] = true) : hasOrd l = true := by
  rw [hasOrd, List.any_eq_true]
  exact ⟨_, List.getElem_mem hj, h⟩

set_option maxRecDepth 4000 in
theorem index_calls (o : Bool) (l : List UInt8) (σ : Store) (hl : l.length ≤ 1000000) : ACalls Try.prog 44 [.list o 1 (bytesA l), .func (.func 30) [] []] σ fun v σ' => (∃ n : Int, v = .lit (.int .i64 n) ∧ decide (0 ≤ n) = hasOrd l) ∧ σ' = σ := by
  refine ACalls.of_awp follows (st := st44) (plans := pl44) (n := 19) Try.func44 rfl (by kernel_rfl) (by kernel_rfl) (by kernel_rfl) ?_
  simp
  refine codeK.loop follows (st := st44) (plans := pl44) (X := Nat) (fun i => i ≤ l.length ∧ ∀ j (hj : j < l.length), j < i → isOrd l[j] = false)
    (fun i => [(0, .list false 1 (bytesA l)), (1, .func (.func 30) [] []), (7, .lit (.int .i64 l.length)), (8, .lit (.int .i64 i))]) (fun _ => σ) (fun i => l.length - i) 0 (by kernel_rfl) (by simp) (by simp) (by simp) fun i hi => ?_
  obtain ⟨hi, hk⟩ := hi
  by_cases hlt : i < l.length
  · have hw : IntKind.i64.wrap ((i : Int) + 1) = ((i + 1 : Nat) : Int) := wrap_i64 (by omega) (by omega)
    have hs := is_calls l[i]
    have ha := bytesA_at l i hlt
    have hyes := fun h => hasOrd_some (l := l) hlt h
    have hno : isOrd l[i] = false → ∀ j (hj : j < l.length), j < i + 1 → isOrd l[j] = false := fun h j hj hji => by
      by_cases e : j = i
      · subst e; exact h
      · exact hk j hj (by omega)
    generalize l[i] = b at *
    by_cases hb : isOrd b = true
    · simp [hlt, ha, byteA]
      refine callK.of (hs σ) ?_
      rintro v σ' ⟨rfl, rfl⟩
      simp [hb, hyes hb]
      exact ⟨_, AV.le_refl _, i, rfl, by simp⟩
    · have hb' : isOrd b = false := by simpa using hb
      simp [hlt, ha, byteA]
      refine callK.of (hs σ) ?_
      rintro v σ' ⟨rfl, rfl⟩
      simp [hb']
      exact ⟨i + 1, ⟨by omega, hno hb'⟩, by omega, by rw [hw]; exact AV.le_refl _⟩
  · obtain rfl : i = l.length := by omega
    have hn : hasOrd l = false := hasOrd_none fun j hj => hk j hj hj
    simp [hn]
    exact ⟨_, AV.le_refl _, -1, rfl, by omega⟩
theorem contains_calls (o : Bool) (l : List UInt8) (σ : Store) (hl : l.length ≤ 1000000) : ACalls Try.prog 29 [.list o 1 (bytesA l), .func (.func 30) [] []] σ fun v σ' => v = .lit (.bool (hasOrd l)) ∧ σ' = σ := by
  refine ACalls.of_awp follows (st := st29) (plans := pl29) (n := 9) Try.func29 rfl (by kernel_rfl) (by kernel_rfl) (by kernel_rfl) ?_
  simp
  refine callK.of (index_calls false l σ hl) ?_
  rintro v σ' ⟨⟨n, rfl, hn⟩, rfl⟩
  simp [hn]

/-- Bytes of one after the other, or the first error. -/
def seqB {α : Type} (f : α → List UInt8 × Nat) : List α → List UInt8 × Nat
  | [] => ([], 0)
  | o :: l => if (f o).2 ≠ 0 then ([], (f o).2) else if (seqB f l).2 ≠ 0 then ([], (seqB f l).2) else ((f o).1 ++ (seqB f l).1, 0)
theorem seqB_ok {α : Type} {f : α → List UInt8 × Nat} {l : List α} (h : ∀ o ∈ l, (f o).2 = 0) : seqB f l = (l.flatMap fun o => (f o).1, 0) := by
  induction l with
  | nil => rfl
  | cons o l ih =>
    have h1 := h o (by simp)
    have h2 := ih fun x hx => h x (by simp [hx])
    simp [seqB, h1, h2]
theorem seqB_bad {α : Type} {f : α → List UInt8 × Nat} : ∀ {l : List α} {i : Nat} (hi : i < l.length), (∀ j (hj : j < l.length), j < i → (f l[j]).2 = 0) → (f l[i]).2 ≠ 0 → seqB f l = ([], (f l[i]).2)
  | o :: l, 0, hi, _, hb => by simp at hb; simp [seqB, hb]
  | o :: l, i + 1, hi, h, hb => by
    simp at hi
    have h1 := h 0 (by simp) (by omega)
    have h2 := seqB_bad (f := f) (l := l) (i := i) hi (fun j hj hji => by have := h (j + 1) (by simp; omega) (by omega); simpa using this) (by simpa using hb)
    simp at h1 hb
    simp [seqB, h1, h2, hb]
theorem seqB_err {α : Type} {f : α → List UInt8 × Nat} (hf : ∀ o, (f o).2 ≠ 0 → (f o).1 = []) (l : List α) (h : (seqB f l).2 ≠ 0) : (seqB f l).1 = [] := by
  cases l with
  | nil => rfl
  | cons o l =>
    simp only [seqB] at h ⊢
    split
    · rfl
    · split
      · rfl
      · rename_i h1 h2
        rw [if_neg h1, if_neg h2] at h
        exact absurd rfl h

def opB (o : Op) : List UInt8 × Nat :=
  if o.kind = 0 then (if o.text = [] ∨ hasOrd o.text = true then ([], 10) else (o.text, 0)) else if okAddr o.addr then (17 :: encM o.addr.toNat, 0) else ([], 9)

set_option maxRecDepth 4000 in
theorem place_calls (n : Int) (σ : Store) : ACalls Try.prog 32 [.lit (.int .u8 17), .lit (.int .i64 n)] σ fun v σ' => v = .tuple (if okAddr n then [.list true 1 (bytesA (17 :: encM n.toNat)), .lit (.int .i64 0)] else [.list true 1 [], .lit (.int .i64 9)]) ∧ σ' = σ := by
  refine ACalls.of_awp follows (st := st32) (plans := pl32) (n := 20) Try.func32 rfl (by kernel_rfl) (by kernel_rfl) (by kernel_rfl) ?_
  simp
  refine callK.of (enc_calls n σ) ?_
  rintro v σ' ⟨rfl, rfl⟩
  by_cases h : okAddr n
  · have e : byteA 17 = .lit (.int .u8 17) := rfl
    simp [encR, h, encM, bytesA, e]
  · simp [encR, h]

set_option maxRecDepth 4000 in
theorem opbytes_text (o : Op) (h0 : o.kind = 0) (hl : o.text.length ≤ 1000000) (σ : Store) : ACalls Try.prog 23 [opA o] σ fun v σ' => v = .tuple [.list true 1 (bytesA (opB o).1), .lit (.int .i64 (opB o).2)] ∧ σ' = σ := by
  obtain ⟨kind, addr, code, graph, fa, pairs, text⟩ := o
  simp only at h0 hl
  subst h0
  have hc := contains_calls false text
  have hcl := clone_calls false text
  by_cases ht : text = []
  · subst ht
    have hB : opB ⟨0, addr, code, graph, fa, pairs, []⟩ = ([], 10) := by simp [opB]
    rw [hB]
    refine ACalls.of_awp follows (st := st23) (plans := pl23) (n := 118) Try.func23 rfl (by kernel_rfl) (by kernel_rfl) (by kernel_rfl) ?_
    simp [opA, opC, bytesA_nil]
    exact fun p hp => sub_upd_self _ _ _ hp
  · by_cases ho : hasOrd text = true
    · have hB : opB ⟨0, addr, code, graph, fa, pairs, text⟩ = ([], 10) := by simp [opB, ho]
      rw [hB]
      refine ACalls.of_awp follows (st := st23) (plans := pl23) (n := 118) Try.func23 rfl (by kernel_rfl) (by kernel_rfl) (by kernel_rfl) ?_
      simp [opA, opC, ht]
      intro p hp
      refine callK.of (hc _ hl) ?_
      rintro v σ' ⟨rfl, rfl⟩
      simp [ho, bytesA_nil, hp]
    · have hB : opB ⟨0, addr, code, graph, fa, pairs, text⟩ = (text, 0) := by simp [opB, ht, ho]
      have ho' : hasOrd text = false := by simpa using ho
      rw [hB]
      refine ACalls.of_awp follows (st := st23) (plans := pl23) (n := 118) Try.func23 rfl (by kernel_rfl) (by kernel_rfl) (by kernel_rfl) ?_
      simp [opA, opC, ht]
      intro p hp
      refine callK.of (hc _ hl) ?_
      rintro v σ' ⟨rfl, rfl⟩
      simp [ho', ht]
      refine callK.of (hcl _ (by omega)) ?_
      rintro v σ' ⟨rfl, rfl⟩
      simp [hp]
set_option maxRecDepth 4000 in
theorem opbytes_sba (o : Op) (h0 : o.kind = 17) (σ : Store) : ACalls Try.prog 23 [opA o] σ fun v σ' => v = .tuple [.list true 1 (bytesA (opB o).1), .lit (.int .i64 (opB o).2)] ∧ σ' = σ := by
  obtain ⟨kind, addr, code, graph, fa, pairs, text⟩ := o
  simp only at h0
  subst h0
  have hpl := place_calls addr
  have hw : IntKind.u8.wrap 17 = 17 := by decide
  by_cases ho : okAddr addr
  · have hB : opB ⟨17, addr, code, graph, fa, pairs, text⟩ = (17 :: encM addr.toNat, 0) := by simp [opB, ho]
    rw [hB]
    rw [if_pos ho] at hpl
    refine ACalls.of_awp follows (st := st23) (plans := pl23) (n := 118) Try.func23 rfl (by kernel_rfl) (by kernel_rfl) (by kernel_rfl) ?_
    simp [opA, opC, hw]
    intro p hp
    refine callK.of (hpl _) ?_
    rintro v σ' ⟨rfl, rfl⟩
    simp [hp]
  · have hB : opB ⟨17, addr, code, graph, fa, pairs, text⟩ = ([], 9) := by simp [opB, ho]
    rw [hB]
    rw [if_neg ho] at hpl
    refine ACalls.of_awp follows (st := st23) (plans := pl23) (n := 118) Try.func23 rfl (by kernel_rfl) (by kernel_rfl) (by kernel_rfl) ?_
    simp [opA, opC, hw]
    intro p hp
    refine callK.of (hpl _) ?_
    rintro v σ' ⟨rfl, rfl⟩
    simp [hp, bytesA_nil]
def good (o : Op) : Prop := (o.kind = 0 ∧ o.text.length ≤ 1000000) ∨ o.kind = 17
theorem opbytes_calls (o : Op) (h : good o) (σ : Store) : ACalls Try.prog 23 [opA o] σ fun v σ' => v = .tuple [.list true 1 (bytesA (opB o).1), .lit (.int .i64 (opB o).2)] ∧ σ' = σ := by
  rcases h with ⟨h1, h2⟩ | h
  · exact opbytes_text o h1 h2 σ
  · exact opbytes_sba o h σ
theorem opB_err (o : Op) (h : (opB o).2 ≠ 0) : (opB o).1 = [] := by
  unfold opB at *
  (repeat' split) <;> simp_all
theorem opB_len (o : Op) (h : good o) : (opB o).1.length ≤ 1000000 := by
  unfold opB
  rcases h with ⟨h1, h2⟩ | h
  · rw [if_pos h1]; split <;> simp [h2]
  · rw [if_neg (by omega)]; split <;> simp [encM]

def sumB (l : List Op) (i : Nat) : List UInt8 := (l.take i).flatMap fun o => (opB o).1
theorem sumB_succ (l : List Op) (i : Nat) (h : i < l.length) : sumB l (i + 1) = sumB l i ++ (opB l[i]).1 := by
  rw [sumB, sumB, List.take_succ_eq_append_getElem h, List.flatMap_append]; simp
theorem sumB_len (l : List Op) (hg : ∀ o ∈ l, good o) (i : Nat) (h : i ≤ l.length) : (sumB l i).length ≤ i * 1000000 := by
  induction i with
  | zero => simp [sumB]
  | succ i ih =>
    rw [sumB_succ l i (by omega), List.length_append]
    have := ih (by omega)
    have := opB_len l[i] (hg _ (List.getElem_mem _))
    omega

set_option maxRecDepth 4000 in
theorem obytes_calls (o : Bool) (l : List Op) (hg : ∀ x ∈ l, good x) (hl : l.length ≤ 1000) (σ : Store) : ACalls Try.prog 16 [.list o 7 (opsA l)] σ fun v σ' => v = .tuple [.list true 1 (bytesA (seqB opB l).1), .lit (.int .i64 (seqB opB l).2)] ∧ σ' = σ := by
  refine ACalls.of_awp follows (st := st16) (plans := pl16) (n := 28) Try.func16 rfl (by kernel_rfl) (by kernel_rfl) (by kernel_rfl) ?_
  simp
  refine codeK.loop follows (st := st16) (plans := pl16) (X := Nat) (fun i => i ≤ l.length ∧ ∀ j (hj : j < l.length), j < i → (opB l[j]).2 = 0)
    (fun i => [(4, .list true 1 (bytesA (sumB l i))), (9, .list false 7 (opsA l)), (10, .lit (.int .i64 l.length)), (11, .lit (.int .i64 i))]) (fun _ => σ) (fun i => l.length - i) 0 (by kernel_rfl) (by simp) (by simp [sumB, bytesA_nil]) (by simp) fun i hi => ?_
  obtain ⟨hi, hk⟩ := hi
  by_cases hlt : i < l.length
  · have hw : IntKind.i64.wrap ((i : Int) + 1) = ((i + 1 : Nat) : Int) := wrap_i64 (by omega) (by omega)
    have hs := opbytes_calls l[i] (hg _ (List.getElem_mem _))
    have ha := opsA_get l i hlt
    have hyes := fun h => seqB_bad (f := opB) hlt hk h
    have hno : (opB l[i]).2 = 0 → ∀ j (hj : j < l.length), j < i + 1 → (opB l[j]).2 = 0 := fun h j hj hji => by
      by_cases e : j = i
      · subst e; exact h
      · exact hk j hj (by omega)
    have hsucc := sumB_succ l i hlt
    have hlen := sumB_len l hg i hi
    have hlen1 := opB_len l[i] (hg _ (List.getElem_mem _))
    have herr := opB_err l[i]
    generalize l[i] = x at *
    obtain ⟨bs, hbs⟩ : ∃ bs, (opB x).1 = bs := ⟨_, rfl⟩
    obtain ⟨er, her⟩ : ∃ er, (opB x).2 = er := ⟨_, rfl⟩
    rw [hbs] at hs hsucc hlen1 herr
    rw [her] at hs hyes hno herr
    by_cases hb : er = 0
    · subst hb
      have hle : (sumB l i).length + bs.length ≤ 2000000000 := by
        have : i * 1000000 ≤ 1000 * 1000000 := Nat.mul_le_mul_right _ (by omega)
        omega
      simp [hlt, ha, opA, opC]
      intro p hp
      refine callK.of (hs _) ?_
      rintro v σ' ⟨rfl, rfl⟩
      simp
      refine ⟨by omega, by omega, i + 1, ⟨by omega, hno rfl⟩, by omega, ⟨?_, ?_⟩, ?_⟩
      · rw [hsucc, bytesA_append]; exact AV.le_refl _
      · rw [hw]; exact AV.le_refl _
      · exact sub_upd_self _ _ _ hp
    · have hb' : ¬ (er : Int) = 0 := by omega
      have hz := hyes hb
      simp [hlt, ha, opA, opC]
      intro p hp
      refine callK.of (hs _) ?_
      rintro v σ' ⟨rfl, rfl⟩
      simp [hb, hz, hp, bytesA_nil]
  · obtain rfl : i = l.length := by omega
    have hz := seqB_ok (f := opB) (l := l) fun x hx => by
      obtain ⟨j, hj, rfl⟩ := List.mem_iff_getElem.1 hx
      exact hk j hj hj
    simp [hz, sumB]
end Go.Proofs.Ytkbokmokklbahaa
