/-
  Numbers as texts: which texts are numbers.
-/
import Derived.Test.YtheldoijfnigoaaDoorPPart12
set_option linter.unusedSimpArgs false
set_option linter.unusedVariables false
namespace Go.Proofs.YtheldoijfnigoaaDoor
open Go Go.Lib

theorem dec_len : ∀ (k n : Nat), n < 10 ^ (k + 1) → (decDigits n).length ≤ k + 1
  | 0, n, h => by rw [decDigits, dif_pos (by simpa using h)]; simp
  | k + 1, n, h => by
    by_cases h0 : n < 10
    · rw [decDigits, dif_pos h0]; simp
    · rw [decDigits, dif_neg h0]
      have := dec_len k (n / 10) (by rw [Nat.pow_succ] at h; omega)
      simp; omega
def sgn (mi : Bool) (d : List UInt8) : List UInt8 := if mi then 45 :: d else d
def valZ (mi : Bool) (n : Nat) : Int := if mi then -(n : Int) else n
theorem itoa_shape {v : Int} {s : List UInt8} (h : itoa v = s) (h0 : -9223372036854775808 ≤ v) (h1 : v ≤ 9223372036854775807) :
    ∃ mi d, s = sgn mi d ∧ (∀ c ∈ d, Dig c) ∧ d ≠ [] ∧ d.length ≤ 19 ∧ (d.head? = some 48 → d.length = 1 ∧ mi = false) ∧ v = valZ mi (decV d) := by
  obtain ⟨g1, g2, g3, g4⟩ := dec_good v.natAbs
  have g5 := dec_len 18 v.natAbs (by omega)
  have hz : v.natAbs = 0 → (decDigits v.natAbs).length = 1 := fun e => by rw [e, decDigits, dif_pos (by omega)]; rfl
  by_cases hv : v < 0
  · refine ⟨true, decDigits v.natAbs, ?_, g1, g3, g5, fun e => ?_, ?_⟩
    · rw [← h]; unfold itoa; rw [if_pos hv]; rfl
    · have := g4 e; omega
    · rw [g2]; simp [valZ]; omega
  · have e : v.toNat = v.natAbs := by omega
    refine ⟨false, decDigits v.natAbs, ?_, g1, g3, g5, fun e => ⟨hz (g4 e), rfl⟩, ?_⟩
    · rw [← h]; unfold itoa; rw [if_neg hv, e]; rfl
    · rw [g2]; simp [valZ]; omega
theorem sgn_inj {mi mi' : Bool} {d d' : List UInt8} (h : sgn mi d = sgn mi' d') (hd : ∀ c ∈ d, Dig c) (hd' : mi' = false → d'.head? ≠ some 45) (hne : d ≠ []) : mi = mi' ∧ d = d' := by
  cases mi <;> cases mi' <;> simp only [sgn] at h
  · exact ⟨rfl, by simpa using h⟩
  · exfalso
    simp at h
    have := (hd 45 (by rw [h]; simp)).1
    revert this; decide
  · exfalso
    simp at h
    exact hd' rfl (by rw [← h]; rfl)
  · exact ⟨rfl, by simpa using h⟩
theorem pow_B {B : Nat} (hB : B = 64 ∨ B = 32) : (2 ^ (B - 1) : Nat) ≤ 9223372036854775808 ∧ 2 ^ (B - 1) ≤ 2 ^ B - 1 ∧ 2 ^ B - 1 ≤ 18446744073709551615 := by
  rcases hB with rfl | rfl <;> decide
theorem numO_shape {B : Nat} (hB : B = 64 ∨ B = 32) {mi : Bool} {d : List UInt8} (hd : mi = false → d.head? ≠ some 45) {v : Int} (h : numO B (sgn mi d) = some v) :
    (∀ c ∈ d, Dig c) ∧ d ≠ [] ∧ d.length ≤ 19 ∧ (d.head? = some 48 → d.length = 1 ∧ mi = false) ∧ v = valZ mi (decV d) ∧ -((2 ^ (B - 1) : Nat) : Int) ≤ v ∧ v < ((2 ^ (B - 1) : Nat) : Int) := by
  have hb := numO_bounds h
  have hp := pow_B hB
  have hi : itoa v = sgn mi d := by
    unfold numO at h
    split at h
    · split at h
      · rename_i e; rw [← Option.some.inj h]; exact e
      · cases h
    · cases h
  obtain ⟨mi', d', e1, e2, e3, e4, e5, e6⟩ := itoa_shape hi (by omega) (by omega)
  obtain ⟨rfl, rfl⟩ := sgn_inj e1.symm e2 hd e3
  exact ⟨e2, e3, e4, e5, e6, hb.1, hb.2⟩
theorem numO_good {B : Nat} (hB : B = 64 ∨ B = 32) {mi : Bool} {d : List UInt8} (hd : ∀ c ∈ d, Dig c) (hne : d ≠ []) (hz : d.head? = some 48 → d.length = 1 ∧ mi = false)
    (hr : if mi = true then decV d ≤ 2 ^ (B - 1) else decV d < 2 ^ (B - 1)) : numO B (sgn mi d) = some (valZ mi (decV d)) := by
  have hp := pow_B hB
  have hdec : decDigits (decV d) = d := dec_of d.length d rfl hne hd fun e => by
    have := (hz e).1
    match d, this with
    | [x], _ => simp at e; rw [e]
  have h45 : d.head? ≠ some 45 := fun e => by
    obtain ⟨x, hx⟩ : ∃ x, d = 45 :: x := by
      match d, e with
      | a :: x, e => simp at e; exact ⟨x, by rw [e]⟩
    have := (hd 45 (by rw [hx]; simp)).1
    revert this; decide
  have hle : decV d ≤ 2 ^ B - 1 := by cases mi <;> simp at hr <;> omega
  have hpu : parseUintB B d = .ok (decV d) := by
    unfold parseUintB
    rw [if_neg hne, parse_ok _ hp.2.2 d 0 hd (by simpa using hle)]
    simp
  cases mi with
  | true =>
    simp at hr
    have hpos : 1 ≤ decV d := by
      rcases Nat.eq_zero_or_pos (decV d) with e | e
      · rw [e, decDigits, dif_pos (by omega)] at hdec
        have := (hz (by rw [← hdec]; rfl)).2
        cases this
      · exact e
    have hpi : parseIntB B (45 :: d) = .ok (-(decV d : Int)) := by
      rw [parseIntB_minus, hpu]; simp only [signedC]; rw [if_neg (by omega)]
    have hit : itoa (-(decV d : Int)) = 45 :: d := by rw [itoa_neg _ hpos, hdec]
    show (match parseIntB B (45 :: d) with | .ok v => if itoa v = 45 :: d then some v else none | _ => none) = _
    rw [hpi]; simp only; rw [if_pos hit]; rfl
  | false =>
    simp at hr
    have hpi : parseIntB B d = .ok (decV d : Int) := by
      match d, hne with
      | c :: r, _ =>
        have hc := hd c (by simp)
        have hc1 := hc.1
        have hc2 := hc.2
        rw [parseIntB_plain B c r (by omega) (by omega), hpu]; simp only [signlessC]; rw [if_neg (by omega)]
    have hit : itoa (decV d : Int) = d := by rw [itoa_nonneg, hdec]
    show (match parseIntB B d with | .ok v => if itoa v = d then some v else none | _ => none) = _
    rw [hpi]; simp only; rw [if_pos hit]; rfl
end Go.Proofs.YtheldoijfnigoaaDoor
/-
  Numbers as texts: what the document reads.
-/
namespace Go.Proofs.YtheldoijfnigoaaDoor
open Go Go.AL

theorem numO_none {B : Nat} (hB : B = 64 ∨ B = 32) {mi : Bool} {d : List UInt8} (hd : mi = false → d.head? ≠ some 45)
    (h : ¬ ((∀ c ∈ d, Dig c) ∧ d ≠ [] ∧ d.length ≤ 19 ∧ (d.head? = some 48 → d.length = 1 ∧ mi = false) ∧ (if mi = true then decV d ≤ 2 ^ (B - 1) else decV d < 2 ^ (B - 1)))) : numO B (sgn mi d) = none := by
  cases e : numO B (sgn mi d) with
  | none => rfl
  | some v =>
    obtain ⟨a1, a2, a3, a4, a5, a6, a7⟩ := numO_shape hB hd e
    refine absurd ⟨a1, a2, a3, a4, ?_⟩ h
    rw [a5] at a6 a7
    generalize 2 ^ (B - 1) = P at *
    cases mi <;> simp only [valZ, if_true, if_false, Bool.false_eq_true] at a6 a7 ⊢ <;> omega
theorem decV_take_le (d : List UInt8) (k : Nat) : decV (d.take k) ≤ decV d := by
  conv => rhs; rw [← List.take_append_drop k d]
  have h := foldl_dec (d.drop k) (decV (d.take k))
  have e : decV (d.take k ++ d.drop k) = (d.drop k).foldl (fun n c => 10 * n + (c.toNat - 48)) (decV (d.take k)) := by unfold decV; rw [List.foldl_append]
  rw [e, h]
  have := Nat.mul_le_mul_left (decV (d.take k)) (Nat.one_le_pow (d.drop k).length 10 (by decide))
  omega
theorem sgn_of (s : List UInt8) : ∃ mi d, s = sgn mi d ∧ (mi = false → d.head? ≠ some 45) := by
  by_cases h : s.head? = some 45
  · match s, h with
    | c :: d, h =>
      simp at h
      exact ⟨true, d, by rw [h]; rfl, fun e => by cases e⟩
  · exact ⟨false, s, rfl, fun _ => h⟩
variable [Errs]
set_option linter.unusedSectionVars false
set_option maxRecDepth 8000 in
set_option maxHeartbeats 1000000 in
theorem rnumber_calls (B : Nat) (hB : B = 64 ∨ B = 32) (lo hi : Int) (hlo : lo = -((2 ^ (B - 1) : Nat) : Int)) (hhi : hi = ((2 ^ (B - 1) : Nat) : Int) - 1) (s : List UInt8) (hs : s.length ≤ 1000000) (σ : Store) :
    ACalls Tryd.prog 27 [.lit (.string (toB s)), .lit (.int .i64 lo), .lit (.int .i64 hi)] σ fun v σ' => (∃ n, (∀ m, numO B s = some m → n = m) ∧ v = .tuple [.lit (.int .i64 n), .lit (.bool (numO B s).isSome)]) ∧ σ' = σ := by
  obtain ⟨mi, d, rfl, hd⟩ := sgn_of s
  have hnone := numO_none hB hd
  have hgood := fun a b c e => numO_good hB (mi := mi) (d := d) a b c e
  have hP := pow_B hB
  generalize 2 ^ (B - 1) = P at *
  have hdl : d.length ≤ 1000000 := by cases mi <;> simp [sgn] at hs <;> omega
  have hdz := toB_size d
  refine ACalls.of_awp follows (st := st27) (plans := pl27) (n := 89) Tryd.func27 rfl (by kernel_rfl) (by kernel_rfl) (by kernel_rfl) ?_
  by_cases hd0 : d = []
  · have hn := hnone (fun h => h.2.1 hd0)
    rw [hn]
    subst hd0
    cases mi with
    | true =>
      have hsz : (toB [45]).size = 1 := rfl
      have h0 : ∀ h, (toB [45]).data[0]'h = 45 := fun h => rfl
      have hk := aSlice_from (P := Tryd.prog) (t := 9) (by simp) (by simp) [45] 1 (1 : Int) rfl (by simp)
      simp only [List.drop_succ_cons, List.drop_zero] at hk
      have hz0 : (toB []).size = 0 := rfl
      simp only [sgn, if_true]
      generalize hS : toB [45] = S at *
      generalize hS0 : toB [] = S0 at *
      simp [-e_aSlice_1, -e_aSlice_2, hsz, h0, hk, hz0]
      exact ⟨_, AV.le_refl _, _, rfl⟩
    | false =>
      have hsz : (toB []).size = 0 := rfl
      simp only [sgn, Bool.false_eq_true, if_false]
      generalize hS : toB [] = S at *
      simp [-e_aSlice_1, -e_aSlice_2, hsz]
      exact ⟨_, AV.le_refl _, _, rfl⟩
  obtain ⟨c, r, hcr⟩ : ∃ c r, d = c :: r := by
    cases d with
    | nil => exact absurd rfl hd0
    | cons c r => exact ⟨c, r, rfl⟩
  obtain ⟨L, hL⟩ : ∃ L, d.length = L := ⟨_, rfl⟩
  have hL1 : L = r.length + 1 := by rw [← hL, hcr]; rfl
  rw [hL] at hdz hdl
  have hg0 : (toB d).data[0]? = some c := by simp [toB, hcr]
  have hg1 : ∀ h, (toB d).data[0]'h = c := fun h => by simp [toB, hcr]
  have e1 : ¬ (L : Int) < 1 := by omega
  have e2 : (1 : Int) ≤ L := by omega
  have e3 : (0 : Int) < L := by omega
  have e4 : 0 < L := by omega
  by_cases h19 : 19 < L
  · have hn := hnone (fun h => by have := h.2.2.1; omega)
    rw [hn]
    have e5 : (19 : Int) < L := by omega
    have e6 : ¬ (L : Int) ≤ 19 := by omega
    cases mi with
    | true =>
      have hsz : (toB (45 :: d)).size = L + 1 := by rw [toB_size]; simp [hL]
      have h0 : ∀ h, (toB (45 :: d)).data[0]'h = 45 := fun h => by rw [toB_at]; rfl
      have hk := aSlice_from (P := Tryd.prog) (t := 9) (by simp) (by simp) (45 :: d) 1 (1 : Int) rfl (by simp)
      simp only [List.drop_succ_cons, List.drop_zero] at hk
      simp only [sgn, if_true]
      generalize hS : toB (45 :: d) = S at *
      generalize hT : toB d = T at *
      simp [-e_aSlice_1, -e_aSlice_2, hsz, h0, hk, hg1, hdz, e1, e2, e3, e4, e5, e6, h19]
      exact ⟨_, AV.le_refl _, _, rfl⟩
    | false =>
      have h45 : ¬ (c.toNat : Int) = 45 := fun h => hd rfl (by rw [hcr]; have : c = 45 := UInt8.toNat_inj.1 (by show c.toNat = 45; omega); rw [this]; rfl)
      have hb45 : ((c.toNat : Int) == 45) = false := by simpa using h45
      have h45' : ¬ c = 45 := fun h => hd rfl (by rw [hcr, h]; rfl)
      simp only [sgn, Bool.false_eq_true, if_false]
      generalize hT : toB d = T at *
      simp [-e_aSlice_1, -e_aSlice_2, h45, h45', hg1, hdz, e1, e2, e3, e4, e5, e6, h19]
      exact ⟨_, AV.le_refl _, _, rfl⟩
  have e5 : ¬ (19 : Int) < L := by omega
  have e6 : (L : Int) ≤ 19 := by omega
  by_cases hz : c = 48 ∧ (1 < L ∨ mi = true)
  · have hn := hnone (fun h => by
      have := h.2.2.2.1 (by rw [hcr, hz.1]; rfl)
      rcases hz.2 with h1 | h1
      · omega
      · rw [this.2] at h1; cases h1)
    rw [hn]
    obtain ⟨hc48, hz2⟩ := hz
    have hc48i : (c.toNat : Int) = 48 := by rw [hc48]; rfl
    have hc48n : c.toNat = 48 := by rw [hc48]; rfl
    by_cases h1L : 1 < L
    · have e7 : (1 : Int) < L := by omega
      have e8 : ¬ (L : Int) ≤ 1 := by omega
      cases mi with
      | true =>
        have hsz : (toB (45 :: d)).size = L + 1 := by rw [toB_size]; simp [hL]
        have h0 : ∀ h, (toB (45 :: d)).data[0]'h = 45 := fun h => by rw [toB_at]; rfl
        have hk := aSlice_from (P := Tryd.prog) (t := 9) (by simp) (by simp) (45 :: d) 1 (1 : Int) rfl (by simp)
        simp only [List.drop_succ_cons, List.drop_zero] at hk
        simp only [sgn, if_true]
        generalize hS : toB (45 :: d) = S at *
        generalize hT : toB d = T at *
        simp [-e_aSlice_1, -e_aSlice_2, hsz, h0, hk, hg1, hdz, e1, e2, e3, e4, e5, e6, h19, hg0, e7, e8, h1L, hc48i, hc48n]
        exact ⟨_, AV.le_refl _, _, rfl⟩
      | false =>
        have h45 : ¬ (c.toNat : Int) = 45 := fun h => hd rfl (by rw [hcr]; have : c = 45 := UInt8.toNat_inj.1 (by show c.toNat = 45; omega); rw [this]; rfl)
        have hb45 : ((c.toNat : Int) == 45) = false := by simpa using h45
        have h45' : ¬ c = 45 := fun h => hd rfl (by rw [hcr, h]; rfl)
        simp only [sgn, Bool.false_eq_true, if_false]
        generalize hT : toB d = T at *
        simp [-e_aSlice_1, -e_aSlice_2, h45, h45', hg1, hdz, e1, e2, e3, e4, e5, e6, h19, hg0, e7, e8, h1L, hc48i, hc48n]
        exact ⟨_, AV.le_refl _, _, rfl⟩
    · have hmi : mi = true := hz2.resolve_left h1L
      subst hmi
      have e7 : ¬ (1 : Int) < L := by omega
      have e8 : (L : Int) ≤ 1 := by omega
      have hsz : (toB (45 :: d)).size = L + 1 := by rw [toB_size]; simp [hL]
      have h0 : ∀ h, (toB (45 :: d)).data[0]'h = 45 := fun h => by rw [toB_at]; rfl
      have hk := aSlice_from (P := Tryd.prog) (t := 9) (by simp) (by simp) (45 :: d) 1 (1 : Int) rfl (by simp)
      simp only [List.drop_succ_cons, List.drop_zero] at hk
      simp only [sgn, if_true]
      generalize hS : toB (45 :: d) = S at *
      generalize hT : toB d = T at *
      simp [-e_aSlice_1, -e_aSlice_2, hsz, h0, hk, hg1, hdz, e1, e2, e3, e4, e5, e6, h19, hg0, e7, e8, h1L, hc48i, hc48n]
      exact ⟨_, AV.le_refl _, _, rfl⟩
  have hcz : d.head? = some 48 → d.length = 1 ∧ mi = false := fun e => by
    rw [hcr] at e
    have e' : c = 48 := by simpa using e
    refine ⟨?_, ?_⟩
    · by_cases h1L : 1 < L
      · exact absurd ⟨e', .inl h1L⟩ hz
      · omega
    · cases mi with
      | false => rfl
      | true => exact absurd ⟨e', .inr rfl⟩ hz
  have hloop : True := trivial
  cases mi with
  | true =>
    have hsz : (toB (45 :: d)).size = L + 1 := by rw [toB_size]; simp [hL]
    have h0 : ∀ h, (toB (45 :: d)).data[0]'h = 45 := fun h => by rw [toB_at]; rfl
    have hk := aSlice_from (P := Tryd.prog) (t := 9) (by simp) (by simp) (45 :: d) 1 (1 : Int) rfl (by simp)
    simp only [List.drop_succ_cons, List.drop_zero] at hk
    simp only [sgn, if_true]
    generalize hS : toB (45 :: d) = S at *
    generalize hT : toB d = T at *
    have hc48 : ¬ c = 48 := fun h => hz ⟨h, .inr rfl⟩
    have hc48' : ¬ (c.toNat : Int) = 48 := fun h => hc48 (UInt8.toNat_inj.1 (by show c.toNat = 48; omega))
    simp [-e_aSlice_1, -e_aSlice_2, hsz, h0, hk, hg1, hdz, e1, e2, e3, e4, e5, e6, h19, hg0, hc48, hc48']
    refine codeK.loop follows (st := st27) (plans := pl27) (X := Nat) (fun i => i ≤ L ∧ (∀ x ∈ d.take i, Dig x) ∧ decV (d.take i) ≤ 9223372036854775808)
      (fun i => [(1, .lit (.int .i64 lo)), (2, .lit (.int .i64 hi)), (8, .lit (.bool true)), (9, .lit (.string T)), (10, .lit (.int .i64 (-(decV (d.take i) : Int)))), (11, .lit (.int .i64 i))]) (fun _ => σ) (fun i => L - i) 0 (by kernel_rfl)
      ⟨by omega, by simp, by simp [decV]⟩ (by simp [decV]) (Store.sub_refl _) fun i hx => ?_
    obtain ⟨hx1, hx2, hx3⟩ := hx
    by_cases hlt : i < L
    · obtain ⟨x, hxd⟩ : ∃ x, d[i]'(by omega) = x := ⟨_, rfl⟩
      have hg : ∀ h, T.data[i]'h = x := fun h => by subst hT; rw [toB_at, List.getD_eq_getElem?_getD, List.getElem?_eq_getElem (by omega), hxd]; rfl
      have htk : d.take (i + 1) = d.take i ++ [x] := by rw [List.take_succ_eq_append_getElem (by omega), hxd]
      have hxm : x ∈ d := by rw [← hxd]; exact List.getElem_mem _
      have hnx : decV (d.take (i + 1)) = 10 * decV (d.take i) + (x.toNat - 48) := by rw [htk, decV_snoc]
      have hxl := x.toNat_lt
      by_cases hdx : Dig x
      · obtain ⟨hd1, hd2⟩ := hdx
        have f1 : ¬ (x.toNat : Int) < 48 := by omega
        have f2 : (48 : Int) ≤ x.toNat := by omega
        have f3 : ¬ (57 : Int) < x.toNat := by omega
        have hu : IntKind.u8.wrap ((x.toNat : Int) - 48) = (x.toNat : Int) - 48 := wrap_u8 (by omega) (by omega)
        have hQ : IntKind.i64.wrap ((IntKind.i64.wrap (-9223372036854775808 + IntKind.i64.wrap ((x.toNat : Int) - 48))).tdiv 10) = -(((9223372036854775808 - (x.toNat - 48)) / 10 : Nat) : Int) := by
          rw [wrap_i64 (n := (x.toNat : Int) - 48) (by omega) (by omega), wrap_i64 (n := -9223372036854775808 + ((x.toNat : Int) - 48)) (by omega) (by omega),
            show (-9223372036854775808 + ((x.toNat : Int) - 48)) = -((9223372036854775808 - (x.toNat - 48) : Nat) : Int) by omega, Int.neg_tdiv]
          have : ((9223372036854775808 - (x.toNat - 48) : Nat) : Int).tdiv 10 = (((9223372036854775808 - (x.toNat - 48)) / 10 : Nat) : Int) := rfl
          rw [this, wrap_i64 (by omega) (by omega)]
        have hmono := decV_take_le d (i + 1)
        by_cases hov : 9223372036854775808 < decV (d.take (i + 1))
        · have hn := hnone (fun h => by
            have h5 := h.2.2.2.2
            rw [if_pos rfl] at h5
            omega)
          rw [show sgn true d = 45 :: d from rfl] at hn
          rw [hn]
          have hc : -(decV (d.take i) : Int) < -(((9223372036854775808 - (x.toNat - 48)) / 10 : Nat) : Int) := by omega
          generalize (9223372036854775808 - (x.toNat - 48)) / 10 = A at *
          simp [hlt, hdz, hg, f1, f2, f3, hu, hQ]
          rw [if_pos (by omega)]
          exact ⟨_, AV.le_refl _, _, rfl⟩
        · have hc : ¬ -(decV (d.take i) : Int) < -(((9223372036854775808 - (x.toNat - 48)) / 10 : Nat) : Int) := by omega
          have hv : IntKind.i64.wrap (IntKind.i64.wrap (10 * -(decV (d.take i) : Int)) - IntKind.i64.wrap ((x.toNat : Int) - 48)) = -(decV (d.take (i + 1)) : Int) := by
            rw [hnx] at hov ⊢
            rw [wrap_i64 (n := (x.toNat : Int) - 48) (by omega) (by omega), wrap_i64 (n := 10 * -(decV (d.take i) : Int)) (by omega) (by omega), wrap_i64 (by omega) (by omega)]
            omega
          have hw : IntKind.i64.wrap ((i : Int) + 1) = ((i + 1 : Nat) : Int) := by rw [wrap_i64 (by omega) (by omega)]; omega
          generalize (9223372036854775808 - (x.toNat - 48)) / 10 = A at *
          generalize hV : (decV (d.take i) : Int) = V at *
          simp [hlt, hdz, hg, f1, f2, f3, hu, hQ]
          rw [if_neg (by omega)]
          refine ⟨i + 1, ⟨by omega, ?_, by omega⟩, by omega, ?_, ?_⟩
          · intro y hy
            rw [htk] at hy
            rcases List.mem_append.1 hy with h | h
            · exact hx2 y h
            · simp at h; subst h; exact ⟨hd1, hd2⟩
          · try rw [hv]
            try simp at hv
            try rw [hv]
            exact AV.le_refl _
          · rw [hw]; exact AV.le_refl _
      · have hn := hnone (fun h => hdx (h.1 x hxm))
        rw [show sgn true d = 45 :: d from rfl] at hn
        rw [hn]
        by_cases h48 : x.toNat < 48
        · have f1 : (x.toNat : Int) < 48 := by omega
          have f2 : ¬ (48 : Int) ≤ x.toNat := by omega
          simp [hlt, hdz, hg, f1, f2]
          exact ⟨_, AV.le_refl _, _, rfl⟩
        · have f1 : ¬ (x.toNat : Int) < 48 := by omega
          have f2 : (48 : Int) ≤ x.toNat := by omega
          have f3 : (57 : Int) < x.toNat := by unfold Dig at hdx; omega
          simp [hlt, hdz, hg, f1, f2, f3]
          exact ⟨_, AV.le_refl _, _, rfl⟩
    · have hiL : i = L := by omega
      rw [hiL, ← hL, List.take_length] at hx2 hx3 ⊢
      by_cases hr : decV d ≤ P
      · have hgd := hgood hx2 hd0 hcz hr
        rw [show sgn true d = 45 :: d from rfl] at hgd
        rw [hgd]
        have hle : lo ≤ -(decV d : Int) := by omega
        simp [hdz, hL, hle, valZ]
        try exact ⟨_, AV.le_refl _, _, rfl, rfl⟩
      · have hn := hnone (fun h => hr h.2.2.2.2)
        rw [show sgn true d = 45 :: d from rfl] at hn
        rw [hn]
        have hle : ¬ lo ≤ -(decV d : Int) := by omega
        simp [hdz, hL, hle]
        try exact ⟨_, AV.le_refl _, _, rfl⟩
  | false =>
    have h45 : ¬ (c.toNat : Int) = 45 := fun h => hd rfl (by rw [hcr]; have : c = 45 := UInt8.toNat_inj.1 (by show c.toNat = 45; omega); rw [this]; rfl)
    have hb45 : ((c.toNat : Int) == 45) = false := by simpa using h45
    have h45' : ¬ c = 45 := fun h => hd rfl (by rw [hcr, h]; rfl)
    simp only [sgn, Bool.false_eq_true, if_false]
    generalize hT : toB d = T at *
    by_cases hc48 : c = 48
    · have h1L : ¬ 1 < L := fun h => hz ⟨hc48, .inl h⟩
      have e7 : ¬ (1 : Int) < L := by omega
      have e8 : (L : Int) ≤ 1 := by omega
      have hc48i : (c.toNat : Int) = 48 := by rw [hc48]; rfl
      have hc48n : c.toNat = 48 := by rw [hc48]; rfl
      simp [-e_aSlice_1, -e_aSlice_2, h45, h45', hg1, hdz, e1, e2, e3, e4, e5, e6, h19, hg0, e7, e8, h1L, hc48i, hc48n]
      refine codeK.loop follows (st := st27) (plans := pl27) (X := Nat) (fun i => i ≤ L ∧ (∀ x ∈ d.take i, Dig x) ∧ decV (d.take i) ≤ 9223372036854775808)
        (fun i => [(1, .lit (.int .i64 lo)), (2, .lit (.int .i64 hi)), (8, .lit (.bool false)), (9, .lit (.string T)), (10, .lit (.int .i64 (-(decV (d.take i) : Int)))), (11, .lit (.int .i64 i))]) (fun _ => σ) (fun i => L - i) 0 (by kernel_rfl)
        ⟨by omega, by simp, by simp [decV]⟩ (by simp [decV, hb45]) (Store.sub_refl _) fun i hx => ?_
      obtain ⟨hx1, hx2, hx3⟩ := hx
      by_cases hlt : i < L
      · obtain ⟨x, hxd⟩ : ∃ x, d[i]'(by omega) = x := ⟨_, rfl⟩
        have hg : ∀ h, T.data[i]'h = x := fun h => by subst hT; rw [toB_at, List.getD_eq_getElem?_getD, List.getElem?_eq_getElem (by omega), hxd]; rfl
        have htk : d.take (i + 1) = d.take i ++ [x] := by rw [List.take_succ_eq_append_getElem (by omega), hxd]
        have hxm : x ∈ d := by rw [← hxd]; exact List.getElem_mem _
        have hnx : decV (d.take (i + 1)) = 10 * decV (d.take i) + (x.toNat - 48) := by rw [htk, decV_snoc]
        have hxl := x.toNat_lt
        by_cases hdx : Dig x
        · obtain ⟨hd1, hd2⟩ := hdx
          have f1 : ¬ (x.toNat : Int) < 48 := by omega
          have f2 : (48 : Int) ≤ x.toNat := by omega
          have f3 : ¬ (57 : Int) < x.toNat := by omega
          have hu : IntKind.u8.wrap ((x.toNat : Int) - 48) = (x.toNat : Int) - 48 := wrap_u8 (by omega) (by omega)
          have hQ : IntKind.i64.wrap ((IntKind.i64.wrap (-9223372036854775808 + IntKind.i64.wrap ((x.toNat : Int) - 48))).tdiv 10) = -(((9223372036854775808 - (x.toNat - 48)) / 10 : Nat) : Int) := by
            rw [wrap_i64 (n := (x.toNat : Int) - 48) (by omega) (by omega), wrap_i64 (n := -9223372036854775808 + ((x.toNat : Int) - 48)) (by omega) (by omega),
              show (-9223372036854775808 + ((x.toNat : Int) - 48)) = -((9223372036854775808 - (x.toNat - 48) : Nat) : Int) by omega, Int.neg_tdiv]
            have : ((9223372036854775808 - (x.toNat - 48) : Nat) : Int).tdiv 10 = (((9223372036854775808 - (x.toNat - 48)) / 10 : Nat) : Int) := rfl
            rw [this, wrap_i64 (by omega) (by omega)]
          have hmono := decV_take_le d (i + 1)
          by_cases hov : 9223372036854775808 < decV (d.take (i + 1))
          · have hn := hnone (fun h => by
              have h5 := h.2.2.2.2
              rw [if_neg (by simp)] at h5
              omega)
            rw [show sgn false d = d from rfl] at hn
            rw [hn]
            have hc : -(decV (d.take i) : Int) < -(((9223372036854775808 - (x.toNat - 48)) / 10 : Nat) : Int) := by omega
            generalize (9223372036854775808 - (x.toNat - 48)) / 10 = A at *
            simp [hlt, hdz, hg, f1, f2, f3, hu, hQ]
            rw [if_pos (by omega)]
            exact ⟨_, AV.le_refl _, _, rfl⟩
          · have hc : ¬ -(decV (d.take i) : Int) < -(((9223372036854775808 - (x.toNat - 48)) / 10 : Nat) : Int) := by omega
            have hv : IntKind.i64.wrap (IntKind.i64.wrap (10 * -(decV (d.take i) : Int)) - IntKind.i64.wrap ((x.toNat : Int) - 48)) = -(decV (d.take (i + 1)) : Int) := by
              rw [hnx] at hov ⊢
              rw [wrap_i64 (n := (x.toNat : Int) - 48) (by omega) (by omega), wrap_i64 (n := 10 * -(decV (d.take i) : Int)) (by omega) (by omega), wrap_i64 (by omega) (by omega)]
              omega
            have hw : IntKind.i64.wrap ((i : Int) + 1) = ((i + 1 : Nat) : Int) := by rw [wrap_i64 (by omega) (by omega)]; omega
            generalize (9223372036854775808 - (x.toNat - 48)) / 10 = A at *
            generalize hV : (decV (d.take i) : Int) = V at *
            simp [hlt, hdz, hg, f1, f2, f3, hu, hQ]
            rw [if_neg (by omega)]
            refine ⟨i + 1, ⟨by omega, ?_, by omega⟩, by omega, ?_, ?_⟩
            · intro y hy
              rw [htk] at hy
              rcases List.mem_append.1 hy with h | h
              · exact hx2 y h
              · simp at h; subst h; exact ⟨hd1, hd2⟩
            · try rw [hv]
              try simp at hv
              try rw [hv]
              exact AV.le_refl _
            · rw [hw]; exact AV.le_refl _
        · have hn := hnone (fun h => hdx (h.1 x hxm))
          rw [show sgn false d = d from rfl] at hn
          rw [hn]
          by_cases h48 : x.toNat < 48
          · have f1 : (x.toNat : Int) < 48 := by omega
            have f2 : ¬ (48 : Int) ≤ x.toNat := by omega
            simp [hlt, hdz, hg, f1, f2]
            exact ⟨_, AV.le_refl _, _, rfl⟩
          · have f1 : ¬ (x.toNat : Int) < 48 := by omega
            have f2 : (48 : Int) ≤ x.toNat := by omega
            have f3 : (57 : Int) < x.toNat := by unfold Dig at hdx; omega
            simp [hlt, hdz, hg, f1, f2, f3]
            exact ⟨_, AV.le_refl _, _, rfl⟩
      · have hiL : i = L := by omega
        rw [hiL, ← hL, List.take_length] at hx2 hx3 ⊢
        by_cases hr : decV d < P
        · have hgd := hgood hx2 hd0 hcz (by simpa using hr)
          rw [show sgn false d = d from rfl] at hgd
          rw [hgd]
          have hle : (decV d : Int) ≤ hi := by omega
          have hne : ¬ -(decV d : Int) = -9223372036854775808 := by omega
          have hne2 : ¬ (decV d : Int) = 9223372036854775808 := by omega
          have hw : IntKind.i64.wrap (decV d : Int) = decV d := wrap_i64 (by omega) (by omega)
          simp [hdz, hL, hle, hne, hne2, hw, valZ]
        · have hn := hnone (fun h => hr (by simpa using h.2.2.2.2))
          rw [show sgn false d = d from rfl] at hn
          rw [hn]
          by_cases h63 : decV d = 9223372036854775808
          · simp [hdz, hL, h63]
            exact ⟨_, AV.le_refl _, _, rfl⟩
          · have hle : ¬ (decV d : Int) ≤ hi := by omega
            have hne : ¬ -(decV d : Int) = -9223372036854775808 := by omega
            have hne2 : ¬ (decV d : Int) = 9223372036854775808 := by omega
            have hw : IntKind.i64.wrap (decV d : Int) = decV d := wrap_i64 (by omega) (by omega)
            simp [hdz, hL, hle, hne, hne2, hw]
            exact ⟨_, AV.le_refl _, _, rfl⟩
    · have hc48' : ¬ (c.toNat : Int) = 48 := fun h => hc48 (UInt8.toNat_inj.1 (by show c.toNat = 48; omega))
      simp [-e_aSlice_1, -e_aSlice_2, h45, h45', hg1, hdz, e1, e2, e3, e4, e5, e6, h19, hg0, hc48, hc48']
      refine codeK.loop follows (st := st27) (plans := pl27) (X := Nat) (fun i => i ≤ L ∧ (∀ x ∈ d.take i, Dig x) ∧ decV (d.take i) ≤ 9223372036854775808)
        (fun i => [(1, .lit (.int .i64 lo)), (2, .lit (.int .i64 hi)), (8, .lit (.bool false)), (9, .lit (.string T)), (10, .lit (.int .i64 (-(decV (d.take i) : Int)))), (11, .lit (.int .i64 i))]) (fun _ => σ) (fun i => L - i) 0 (by kernel_rfl)
        ⟨by omega, by simp, by simp [decV]⟩ (by simp [decV, hb45]) (Store.sub_refl _) fun i hx => ?_
      obtain ⟨hx1, hx2, hx3⟩ := hx
      by_cases hlt : i < L
      · obtain ⟨x, hxd⟩ : ∃ x, d[i]'(by omega) = x := ⟨_, rfl⟩
        have hg : ∀ h, T.data[i]'h = x := fun h => by subst hT; rw [toB_at, List.getD_eq_getElem?_getD, List.getElem?_eq_getElem (by omega), hxd]; rfl
        have htk : d.take (i + 1) = d.take i ++ [x] := by rw [List.take_succ_eq_append_getElem (by omega), hxd]
        have hxm : x ∈ d := by rw [← hxd]; exact List.getElem_mem _
        have hnx : decV (d.take (i + 1)) = 10 * decV (d.take i) + (x.toNat - 48) := by rw [htk, decV_snoc]
        have hxl := x.toNat_lt
        by_cases hdx : Dig x
        · obtain ⟨hd1, hd2⟩ := hdx
          have f1 : ¬ (x.toNat : Int) < 48 := by omega
          have f2 : (48 : Int) ≤ x.toNat := by omega
          have f3 : ¬ (57 : Int) < x.toNat := by omega
          have hu : IntKind.u8.wrap ((x.toNat : Int) - 48) = (x.toNat : Int) - 48 := wrap_u8 (by omega) (by omega)
          have hQ : IntKind.i64.wrap ((IntKind.i64.wrap (-9223372036854775808 + IntKind.i64.wrap ((x.toNat : Int) - 48))).tdiv 10) = -(((9223372036854775808 - (x.toNat - 48)) / 10 : Nat) : Int) := by
            rw [wrap_i64 (n := (x.toNat : Int) - 48) (by omega) (by omega), wrap_i64 (n := -9223372036854775808 + ((x.toNat : Int) - 48)) (by omega) (by omega),
              show (-9223372036854775808 + ((x.toNat : Int) - 48)) = -((9223372036854775808 - (x.toNat - 48) : Nat) : Int) by omega, Int.neg_tdiv]
            have : ((9223372036854775808 - (x.toNat - 48) : Nat) : Int).tdiv 10 = (((9223372036854775808 - (x.toNat - 48)) / 10 : Nat) : Int) := rfl
            rw [this, wrap_i64 (by omega) (by omega)]
          have hmono := decV_take_le d (i + 1)
          by_cases hov : 9223372036854775808 < decV (d.take (i + 1))
          · have hn := hnone (fun h => by
              have h5 := h.2.2.2.2
              rw [if_neg (by simp)] at h5
              omega)
            rw [show sgn false d = d from rfl] at hn
            rw [hn]
            have hc : -(decV (d.take i) : Int) < -(((9223372036854775808 - (x.toNat - 48)) / 10 : Nat) : Int) := by omega
            generalize (9223372036854775808 - (x.toNat - 48)) / 10 = A at *
            simp [hlt, hdz, hg, f1, f2, f3, hu, hQ]
            rw [if_pos (by omega)]
            exact ⟨_, AV.le_refl _, _, rfl⟩
          · have hc : ¬ -(decV (d.take i) : Int) < -(((9223372036854775808 - (x.toNat - 48)) / 10 : Nat) : Int) := by omega
            have hv : IntKind.i64.wrap (IntKind.i64.wrap (10 * -(decV (d.take i) : Int)) - IntKind.i64.wrap ((x.toNat : Int) - 48)) = -(decV (d.take (i + 1)) : Int) := by
              rw [hnx] at hov ⊢
              rw [wrap_i64 (n := (x.toNat : Int) - 48) (by omega) (by omega), wrap_i64 (n := 10 * -(decV (d.take i) : Int)) (by omega) (by omega), wrap_i64 (by omega) (by omega)]
              omega
            have hw : IntKind.i64.wrap ((i : Int) + 1) = ((i + 1 : Nat) : Int) := by rw [wrap_i64 (by omega) (by omega)]; omega
            generalize (9223372036854775808 - (x.toNat - 48)) / 10 = A at *
            generalize hV : (decV (d.take i) : Int) = V at *
            simp [hlt, hdz, hg, f1, f2, f3, hu, hQ]
            rw [if_neg (by omega)]
            refine ⟨i + 1, ⟨by omega, ?_, by omega⟩, by omega, ?_, ?_⟩
            · intro y hy
              rw [htk] at hy
              rcases List.mem_append.1 hy with h | h
              · exact hx2 y h
              · simp at h; subst h; exact ⟨hd1, hd2⟩
            · try rw [hv]
              try simp at hv
              try rw [hv]
              exact AV.le_refl _
            · rw [hw]; exact AV.le_refl _
        · have hn := hnone (fun h => hdx (h.1 x hxm))
          rw [show sgn false d = d from rfl] at hn
          rw [hn]
          by_cases h48 : x.toNat < 48
          · have f1 : (x.toNat : Int) < 48 := by omega
            have f2 : ¬ (48 : Int) ≤ x.toNat := by omega
            simp [hlt, hdz, hg, f1, f2]
            exact ⟨_, AV.le_refl _, _, rfl⟩
          · have f1 : ¬ (x.toNat : Int) < 48 := by omega
            have f2 : (48 : Int) ≤ x.toNat := by omega
            have f3 : (57 : Int) < x.toNat := by unfold Dig at hdx; omega
            simp [hlt, hdz, hg, f1, f2, f3]
            exact ⟨_, AV.le_refl _, _, rfl⟩
      · have hiL : i = L := by omega
        rw [hiL, ← hL, List.take_length] at hx2 hx3 ⊢
        by_cases hr : decV d < P
        · have hgd := hgood hx2 hd0 hcz (by simpa using hr)
          rw [show sgn false d = d from rfl] at hgd
          rw [hgd]
          have hle : (decV d : Int) ≤ hi := by omega
          have hne : ¬ -(decV d : Int) = -9223372036854775808 := by omega
          have hne2 : ¬ (decV d : Int) = 9223372036854775808 := by omega
          have hw : IntKind.i64.wrap (decV d : Int) = decV d := wrap_i64 (by omega) (by omega)
          simp [hdz, hL, hle, hne, hne2, hw, valZ]
        · have hn := hnone (fun h => hr (by simpa using h.2.2.2.2))
          rw [show sgn false d = d from rfl] at hn
          rw [hn]
          by_cases h63 : decV d = 9223372036854775808
          · simp [hdz, hL, h63]
            exact ⟨_, AV.le_refl _, _, rfl⟩
          · have hle : ¬ (decV d : Int) ≤ hi := by omega
            have hne : ¬ -(decV d : Int) = -9223372036854775808 := by omega
            have hne2 : ¬ (decV d : Int) = 9223372036854775808 := by omega
            have hw : IntKind.i64.wrap (decV d : Int) = decV d := wrap_i64 (by omega) (by omega)
            simp [hdz, hL, hle, hne, hne2, hw]
            exact ⟨_, AV.le_refl _, _, rfl⟩
end Go.Proofs.YtheldoijfnigoaaDoor
