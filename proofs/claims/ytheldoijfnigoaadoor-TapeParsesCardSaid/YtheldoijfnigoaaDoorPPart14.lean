/-
  A line's step: the document's ReadLine.
-/
import Derived.Test.YtheldoijfnigoaaDoorPPart13
import Derived.Test.YtheldoijfnigoaaDoorRows
import Derived.Lay
import Derived.LaidMore
import Derived.Lib.LaidTab
import Derived.Stop.LaidErr
set_option linter.unusedSimpArgs false
set_option linter.unusedVariables false
namespace Go.Proofs.YtheldoijfnigoaaDoor
open Go Go.AL

theorem splitL_free (c : UInt8) : ∀ l : List UInt8, ∀ x ∈ splitL c l, c ∉ x
  | [], x, h => by simp [splitL] at h; subst h; simp
  | b :: l, x, h => by
    rw [splitL] at h
    split at h
    · rcases List.mem_cons.1 h with rfl | h
      · simp
      · exact splitL_free c l x h
    · rename_i hb
      have ih := splitL_free c l
      split at h
      · simp at h; subst h; simp; exact fun e => hb e.symm
      · rename_i h0 t0 e
        rw [e] at ih
        rcases List.mem_cons.1 h with rfl | h
        · have := ih h0 (by simp)
          intro h9
          rcases List.mem_cons.1 h9 with h9 | h9
          · exact hb h9.symm
          · exact this h9
        · exact ih x (by simp [h])
theorem keyO_not : ∀ r : List (List UInt8), r.length ≠ 3 → keyO r = none
  | [], _ => rfl
  | [a], _ => rfl
  | [a, b], _ => rfl
  | [a, b, c], h => by simp at h
  | a :: b :: c :: d :: r, _ => rfl
variable [Errs]
set_option linter.unusedSectionVars false
set_option maxRecDepth 8000 in
set_option maxHeartbeats 1000000 in
theorem rline_calls (s : List UInt8) (hs : s.length ≤ 80000) (σ : Store) :
    ACalls Tryd.prog 12 [.lit (.string (toB s))] σ fun v σ' => v = .tuple [stpA ((lineO s).getD .zero), .lit (.int .i64 (lineE s))] ∧ σ' = σ := by
  have hsp := fun τ => rsplit_calls s (by omega) 32 τ
  have hsz := splitL_sizes 32 s
  have hfr := splitL_free 32 s
  have hcn := splitL_len 32 s
  have hcc := s.count_le_length (a := 32)
  obtain ⟨w, r, e⟩ := splitL_cons 32 s
  have hlo : lineO s = if w = [72] ∨ w = [79] then (oneL r).bind fun x => (readO x).map fun p => ⟨w.headD 0, p, .zero⟩
    else if w = [75] then (keyO r).map fun k => ⟨75, [], k⟩ else none := by unfold lineO; rw [e]
  unfold lineE
  rw [hlo]
  rw [e] at hsp hsz hcn hfr
  unfold byteA at hsp
  refine ACalls.of_awp follows (st := st12) (plans := pl12) (n := 94) Tryd.func12 rfl (by kernel_rfl) (by kernel_rfl) (by kernel_rfl) ?_
  simp
  intro p hp
  refine callK.of (hsp _) ?_
  rintro v σ1 ⟨rfl, rfl⟩
  have hback : ∀ X, Store.sub σ (σ.upd p X) := fun X => sub_upd_self _ _ _ hp
  have hback2 : ∀ (q : Nat) X Y, σ q = none → Store.sub σ ((σ.upd p X).upd q Y) := fun q X Y hq => sub_two (Store.sub_refl _) hp hq
  by_cases hw : w = [72] ∨ w = [79]
  · rw [if_pos hw]
    by_cases hr : ∃ x, r = [x]
    · obtain ⟨x, rfl⟩ := hr
      have hrd := fun τ => rread_calls x (hfr x (by simp)) (by have := hsz x (by simp); omega) τ
      have hcat : (⟨#[98, 121, 116, 101, 115, 32]⟩ : ByteArray) ++ toB x = toB ([98, 121, 116, 101, 115, 32] ++ x) := toB_append [98, 121, 116, 101, 115, 32] x
      have hxl : x.length ≤ 80000 := by have := hsz x (by simp); omega
      have hsx := toB_size x
      have hs6 : (⟨#[98, 121, 116, 101, 115, 32]⟩ : ByteArray).size = 6 := rfl
      generalize toB ([98, 121, 116, 101, 115, 32] ++ x) = S at *
      have hle6 : ¬ (9223372036854775807 : Int) < 6 + (x.length : Int) := by omega
      cases hx : readO x with
      | none =>
        rw [hx] at hrd
        have ho : ∀ k : UInt8, ((oneL [x]).bind fun x => (readO x).map fun p => (⟨k, p, .zero⟩ : Stp)) = none := fun k => by simp [oneL, hx]
        rw [ho]
        rcases hw with rfl | rfl
        all_goals
          simp [strsA, toB_toList, hcat, hsx, hs6, hle6]
          intro q hq
          rw [ite_none] at hq
          obtain ⟨n1, hq⟩ := hq
          have n2 : ¬ p = q := fun e => n1 e.symm
          refine callK.of (hrd _) ?_
          rintro v σ1 ⟨⟨y, hy, rfl⟩, rfl⟩
          simp [n1, n2]
          intro r' hr'
          rw [ite_none, ite_none] at hr'
          obtain ⟨n3, n4, hr'⟩ := hr'
          have n5 : ¬ q = r' := fun e => n3 e.symm
          have n6 : ¬ p = r' := fun e => n4 e.symm
          simp [n1, n2, n3, n4, n5, n6]
          refine ⟨AV.le_refl _, ?_⟩
          (intro q; simp only [Store.upd, Store.del]; (repeat' split) <;> first | exact Or.inr rfl | exact Or.inl rfl | (exfalso; omega) | (left; subst_vars; assumption) | simp_all)
      | some b =>
        rw [hx] at hrd
        have ho : ∀ k : UInt8, ((oneL [x]).bind fun x => (readO x).map fun p => (⟨k, p, .zero⟩ : Stp)) = some ⟨k, b, .zero⟩ := fun k => by simp [oneL, hx]
        rw [ho]
        rcases hw with rfl | rfl
        all_goals
          simp [strsA, toB_toList, hcat, hsx, hs6, hle6]
          intro q hq
          rw [ite_none] at hq
          obtain ⟨n1, hq⟩ := hq
          have n2 : ¬ p = q := fun e => n1 e.symm
          refine callK.of (hrd _) ?_
          rintro v σ1 ⟨⟨y, hy, rfl⟩, rfl⟩
          obtain rfl := hy _ rfl
          simp [n1, n2]
          intro r' hr'
          rw [ite_none, ite_none] at hr'
          obtain ⟨n3, n4, hr'⟩ := hr'
          have n5 : ¬ q = r' := fun e => n3 e.symm
          have n6 : ¬ p = r' := fun e => n4 e.symm
          simp [n1, n2, n3, n4, n5, n6, toB]
          refine ⟨AV.le_refl _, ?_⟩
          (intro q; simp only [Store.upd, Store.del]; (repeat' split) <;> first | exact Or.inr rfl | exact Or.inl rfl | (exfalso; omega) | (left; subst_vars; assumption) | simp_all)
    · obtain ⟨hn, hl1⟩ := oneL_not r hr
      have hrl : ¬ (r.length : Int) + 1 = 2 := by omega
      rw [hn]
      rcases hw with rfl | rfl
      all_goals
        simp [strsA, toB_toList, hrl]
        intro q hq
        rw [ite_none] at hq
        obtain ⟨n1, hq⟩ := hq
        have n2 : ¬ p = q := fun e => n1 e.symm
        try simp [n1, n2]
        refine ⟨AV.le_refl _, ?_⟩
        (intro q; simp only [Store.upd, Store.del]; (repeat' split) <;> first | exact Or.inr rfl | exact Or.inl rfl | (exfalso; omega) | (left; subst_vars; assumption) | simp_all)
  · rw [if_neg hw]
    rw [not_or] at hw
    by_cases h3 : w = [75]
    · rw [if_pos h3]
      subst h3
      by_cases hr3 : r.length = 3
      · obtain ⟨a, b, c, rfl⟩ : ∃ a b c, r = [a, b, c] := by
          match r, hr3 with
          | [a, b, c], _ => exact ⟨a, b, c, rfl⟩
        · have ha := rnumber_calls 64 (.inl rfl) (-9223372036854775808) 9223372036854775807 rfl rfl a (by have := hsz a (by simp); omega)
          have hb := rnumber_calls 32 (.inr rfl) (-2147483648) 2147483647 rfl rfl b (by have := hsz b (by simp); omega)
          have hc := rnumber_calls 64 (.inl rfl) (-9223372036854775808) 9223372036854775807 rfl rfl c (by have := hsz c (by simp); omega)
          have hko : keyO [a, b, c] = match numO 64 a, numO 32 b, numO 64 c with
            | some k, some s, some n => some ⟨k, s, n⟩
            | _, _, _ => none := rfl
          have hbb := fun v => numO_bounds (B := 32) (s := b) (v := v)
          rw [hko]
          simp [strsA, toB_toList]
          intro q hq
          rw [ite_none] at hq
          obtain ⟨n1, hq⟩ := hq
          have n2 : ¬ p = q := fun e => n1 e.symm
          refine callK.of (ha _) ?_
          rintro v σ1 ⟨⟨k, hk, rfl⟩, rfl⟩
          simp
          refine callK.of (hb _) ?_
          rintro v σ1 ⟨⟨z, hz, rfl⟩, rfl⟩
          simp
          refine callK.of (hc _) ?_
          rintro v σ1 ⟨⟨n, hn, rfl⟩, rfl⟩
          cases e1 : numO 64 a with
          | none =>
            simp [n1, n2]
            refine ⟨AV.le_refl _, ?_⟩
            (intro q; simp only [Store.upd, Store.del]; (repeat' split) <;> first | exact Or.inr rfl | exact Or.inl rfl | (exfalso; omega) | (left; subst_vars; assumption) | simp_all)
          | some k' =>
            obtain rfl := hk _ e1
            cases e2 : numO 32 b with
            | none =>
              simp [n1, n2]
              refine ⟨AV.le_refl _, ?_⟩
              (intro q; simp only [Store.upd, Store.del]; (repeat' split) <;> first | exact Or.inr rfl | exact Or.inl rfl | (exfalso; omega) | (left; subst_vars; assumption) | simp_all)
            | some z' =>
              obtain rfl := hz _ e2
              cases e3 : numO 64 c with
              | none =>
                simp [n1, n2]
                refine ⟨AV.le_refl _, ?_⟩
                (intro q; simp only [Store.upd, Store.del]; (repeat' split) <;> first | exact Or.inr rfl | exact Or.inl rfl | (exfalso; omega) | (left; subst_vars; assumption) | simp_all)
              | some n' =>
                obtain rfl := hn _ e3
                have h4 := hbb _ e2
                simp at h4
                have hw32 : IntKind.i32.wrap z = z := wrap_i32 (by omega) (by omega)
                simp [n1, n2, hw32]
                refine ⟨AV.le_refl _, ?_⟩
                (intro q; simp only [Store.upd, Store.del]; (repeat' split) <;> first | exact Or.inr rfl | exact Or.inl rfl | (exfalso; omega) | (left; subst_vars; assumption) | simp_all)
      · rw [keyO_not r hr3]
        have hrl : ¬ (r.length : Int) + 1 = 4 := by omega
        simp [strsA, toB_toList, hrl]
        intro q hq
        rw [ite_none] at hq
        obtain ⟨n1, hq⟩ := hq
        have n2 : ¬ p = q := fun e => n1 e.symm
        try simp [n1, n2]
        refine ⟨AV.le_refl _, ?_⟩
        (intro q; simp only [Store.upd, Store.del]; (repeat' split) <;> first | exact Or.inr rfl | exact Or.inl rfl | (exfalso; omega) | (left; subst_vars; assumption) | simp_all)
    · rw [if_neg h3]
      simp [strsA, toB_toList, hw.1, hw.2, h3]
      intro q hq
      rw [ite_none] at hq
      obtain ⟨n1, hq⟩ := hq
      have n2 : ¬ p = q := fun e => n1 e.symm
      try simp [n1, n2]
      refine ⟨AV.le_refl _, ?_⟩
      (intro q; simp only [Store.upd, Store.del]; (repeat' split) <;> first | exact Or.inr rfl | exact Or.inl rfl | (exfalso; omega) | (left; subst_vars; assumption) | simp_all)
end Go.Proofs.YtheldoijfnigoaaDoor
/-
  A text's steps: the document's Parse.
-/
namespace Go.Proofs.YtheldoijfnigoaaDoor
open Go Go.AL

theorem parseL_cons {s : List UInt8} {r : List (List UInt8)} {acc : List Stp} (h : r ≠ []) : parseL (s :: r) acc = if (lineO s).isSome = true then parseL r (acc ++ [(lineO s).getD .zero]) else ([], acc.length + 1, false) := by
  match r, h with
  | a :: r, _ =>
    show (match lineO s with | none => ([], acc.length + 1, false) | some x => parseL (a :: r) (acc ++ [x])) = _
    cases lineO s <;> simp
variable [Errs]
set_option linter.unusedSectionVars false
set_option maxRecDepth 8000 in
set_option maxHeartbeats 1000000 in
theorem rparse_calls (t : List UInt8) (ht : t.length ≤ 80000) (σ : Store) :
    ACalls Tryd.prog 8 [.lit (.string (toB t))] σ fun v σ' => v = parA (parseT t) ∧ σ' = σ := by
  have hsp := fun τ => rsplit_calls t (by omega) 10 τ
  have hsz := splitL_sizes 10 t
  have hcn := splitL_len 10 t
  have hcc := t.count_le_length (a := 10)
  have hpt : parseL (splitL 10 t) [] = parseT t := rfl
  unfold byteA at hsp
  generalize splitL 10 t = W at *
  generalize t.count 10 = N at *
  refine ACalls.of_awp follows (st := st8) (plans := pl8) (n := 52) Tryd.func8 rfl (by kernel_rfl) (by kernel_rfl) (by kernel_rfl) ?_
  simp
  refine callK.of (hsp _) ?_
  rintro v σ1 ⟨rfl, rfl⟩
  have hw1 : IntKind.i64.wrap (((N + 1 : Nat) : Int) - 1) = (N : Int) := by rw [wrap_i64 (by omega) (by omega)]; omega
  have hw2 : IntKind.i64.wrap ((W.length : Int) - 1) = (N : Int) := by rw [wrap_i64 (by omega) (by omega)]; omega
  have hNW : N ≤ W.length := by omega
  simp [hw2, hNW]
  refine codeK.loop follows (st := st8) (plans := pl8) (X := Nat × List Stp) (fun x => x.1 ≤ N ∧ x.2.length = x.1 ∧ parseL (W.drop x.1) x.2 = parseT t)
    (fun x => [(5, .list true 5 (stpsA x.2)), (6, .list true 1 (strsA W)), (17, .list false 1 ((strsA W).take N)), (18, .lit (.int .i64 N)), (19, .lit (.int .i64 x.1))]) (fun _ => σ1) (fun x => N - x.1) (0, []) (by kernel_rfl)
    ⟨by simp, by simp, hpt⟩ (by simp [stpsA]) (Store.sub_refl _) fun x hx => ?_
  obtain ⟨k, acc⟩ := x
  obtain ⟨h1, h2, h3⟩ := hx
  dsimp only at h1 h2 h3 ⊢
  have hkW : k < W.length := by omega
  obtain ⟨s, hs⟩ : ∃ s, W[k]'hkW = s := ⟨_, rfl⟩
  have hsm : s ∈ W := by rw [← hs]; exact List.getElem_mem _
  have hsl := hsz s hsm
  have hdr : W.drop k = s :: W.drop (k + 1) := by rw [List.drop_eq_getElem_cons hkW, hs]
  rw [hdr] at h3
  have hlw : IntKind.i64.wrap ((acc.length : Int) + 1) = (acc.length : Int) + 1 := wrap_i64 (by omega) (by omega)
  have hkw : IntKind.i64.wrap ((k : Int) + 1) = (k : Int) + 1 := wrap_i64 (by omega) (by omega)
  have hfr : ∀ (p : Nat) X, σ1 p = none → Store.sub σ1 (σ1.upd p X) := fun p X hp => sub_upd_self _ _ _ hp
  by_cases hlt : k < N
  · have hne : W.drop (k + 1) ≠ [] := fun h => by have := congrArg List.length h; simp at this; omega
    rw [parseL_cons hne] at h3
    have hg : (strsA W)[k]? = some (.lit (.string (toB s))) := by simp [strsA, hkW, hs]
    have hln := fun τ => rline_calls s (by omega) τ
    unfold lineE at hln
    simp [hlt, hg]
    refine callK.of (hln _) ?_
    rintro v σ2 ⟨rfl, rfl⟩
    cases hlo : lineO s with
    | none =>
      rw [hlo, if_neg (by simp)] at h3
      rw [← h3]
      simp [stpA, parA]
      intro p hp
      rw [hkw, h2]
      exact ⟨AV.le_refl _, hfr p _ hp⟩
    | some y =>
      rw [hlo, if_pos (by simp)] at h3
      simp [stpA]
      intro p hp
      refine ⟨by omega, by omega, k + 1, acc ++ [y], ⟨by omega, by simp; omega, h3⟩, by omega, ⟨?_, by rw [hkw]; exact AV.le_refl _⟩, hfr p _ hp⟩
      simp [stpsA, stpA, byteA]
  · have hkN : k = N := by omega
    have hnil : W.drop (k + 1) = [] := List.drop_of_length_le (by omega)
    rw [hnil] at h3
    have hp1 : parseL [s] acc = if s = [] then (acc, acc.length, true) else ([], acc.length + 1, false) := rfl
    rw [hp1] at h3
    have hg : (strsA W)[N]? = some (.lit (.string (toB s))) := by subst hkN; simp [strsA, hkW, hs]
    rw [← h3]
    by_cases hse : s = []
    · rw [if_pos hse]
      simp [hlt, hw2, hg, toB_toList, hse, parA]
    · rw [if_neg hse]
      simp [hlt, hw2, hg, toB_toList, hse, parA, hlw]
      exact AV.le_refl _
end Go.Proofs.YtheldoijfnigoaaDoor
/-
  The document's Same; the law's small helpers; its example.
-/
namespace Go.Proofs.YtheldoijfnigoaaDoor
open Go Go.AL

/-- Are two steps alike? -/
def likeS (x y : Stp) : Bool := x.kind == y.kind && !(x.kind == 75 && x.key != y.key) && !((x.kind == 72 || x.kind == 79) && x.bytes != y.bytes)
def likeL : List Stp → List Stp → Bool
  | [], [] => true
  | x :: a, y :: b => likeS x y && likeL a b
  | _, _ => false
theorem likeL_refl : ∀ l : List Stp, likeL l l = true
  | [] => rfl
  | x :: l => by simp [likeL, likeS, likeL_refl l]
theorem likeL_len : ∀ a b : List Stp, likeL a b = true → a.length = b.length
  | [], [], _ => rfl
  | [], _ :: _, h => by simp [likeL] at h
  | _ :: _, [], h => by simp [likeL] at h
  | x :: a, y :: b, h => by simp [likeL] at h; simp [likeL_len a b h.2]
variable [Errs]
set_option linter.unusedSectionVars false
theorem bytesOf_bytesA (l : List UInt8) : bytesOf (bytesA l) = some l := by
  induction l with
  | nil => rfl
  | cons b l ih =>
    have hb : AL.byteOf (byteA b) = some b := by simp [byteA, AL.byteOf]
    simp only [bytesOf, bytesA, List.map_cons, List.mapM_cons] at ih ⊢
    rw [hb, ih]; rfl
set_option maxRecDepth 8000 in
theorem same_bytes_calls (a b : List UInt8) (o1 o2 : Bool) (ha : a.length ≤ 1000000) (hb : b.length ≤ 1000000) (σ : Store) : ACalls Tryd.prog 20 [.list o1 1 (bytesA a), .list o2 1 (bytesA b)] σ fun v σ' => v = .lit (.bool (a == b)) ∧ σ' = σ := by
  refine ACalls.of_awp follows (st := st20) (plans := pl20) (n := 10) Tryd.func20 rfl (by kernel_rfl) (by kernel_rfl) (by kernel_rfl) ?_
  have h1 := bytesOf_bytesA a
  have h2 := bytesOf_bytesA b
  simp [h1, h2]
set_option maxRecDepth 8000 in
theorem back_calls (l : List Stp) (hl : l.length ≤ 1000000) (o : Bool) (σ : Store) : ACalls Tryd.prog 10 [.list o 5 (stpsA l)] σ fun v σ' => v = .list true 5 (stpsA l) ∧ σ' = σ := by
  refine ACalls.of_awp follows (st := st10) (plans := pl10) (n := 24) Tryd.func10 rfl (by kernel_rfl) (by kernel_rfl) (by kernel_rfl) ?_
  simp
  refine codeK.loop follows (st := st10) (plans := pl10) (X := Nat) (fun k => k ≤ l.length)
    (fun k => [(3, .list true 5 (stpsA (l.take k))), (6, .list false 5 (stpsA l)), (7, .lit (.int .i64 l.length)), (8, .lit (.int .i64 k))]) (fun _ => σ) (fun k => l.length - k) 0 (by kernel_rfl)
    (by simp) (by simp [stpsA]) (Store.sub_refl _) fun k hk => ?_
  by_cases hlt : k < l.length
  · obtain ⟨x, hx⟩ : ∃ x, l[k]'hlt = x := ⟨_, rfl⟩
    have htk : l.take (k + 1) = l.take k ++ [x] := by rw [List.take_succ_eq_append_getElem hlt, hx]
    have hg : (stpsA l)[k]? = some (stpA x) := by simp [stpsA, hlt, hx]
    have hg2 : ∀ h, (stpsA l)[k]'h = stpA x := fun h => by simp [stpsA, hx]
    have hlw : IntKind.i64.wrap ((k : Int) + 1) = (k : Int) + 1 := wrap_i64 (by omega) (by omega)
    have hlk : (l.take k).length = k := by rw [List.length_take]; omega
    simp only [stpA, byteA] at hg hg2
    simp [hlt, hg, hg2]
    intro p hp
    refine ⟨by omega, by omega, k + 1, by omega, by omega, ⟨?_, by rw [hlw]; exact AV.le_refl _⟩, sub_upd_self _ _ _ hp⟩
    rw [htk, stpsA_append]
    exact AV.le_refl _
  · have : k = l.length := by omega
    subst this
    simp
set_option maxRecDepth 8000 in
theorem cuttext_calls (t : List UInt8) (m : Nat) (hm : m ≤ 1000000) (σ : Store) : ACalls Tryd.prog 6 [.lit (.string (toB t)), .lit (.int .i64 m)] σ fun v σ' => v = .lit (.string (toB (t.take m))) ∧ σ' = σ := by
  refine ACalls.of_awp follows (st := st6) (plans := pl6) (n := 13) Tryd.func6 rfl (by kernel_rfl) (by kernel_rfl) (by kernel_rfl) ?_
  have hsz := toB_size t
  by_cases h : m < t.length
  · have hk := aSlice_to (P := Tryd.prog) (t := 9) (by simp) (by simp) t m (m : Int) rfl (by omega)
    have h' : (m : Int) < t.length := by omega
    generalize toB t = S at *
    simp [-e_aSlice_1, -e_aSlice_2, hsz, h, h', hk]
  · have h' : ¬ (m : Int) < t.length := by omega
    rw [List.take_of_length_le (by omega)]
    simp [hsz, h, h']
set_option maxHeartbeats 1000000 in
set_option maxRecDepth 8000 in
theorem same_steps_calls (a b : List Stp) (o1 o2 : Bool) (ha : a.length ≤ 1000000) (hab : ∀ x ∈ a, x.bytes.length ≤ 1000000) (hbb : ∀ x ∈ b, x.bytes.length ≤ 1000000) (σ : Store) :
    ACalls Tryd.prog 9 [.list o1 5 (stpsA a), .list o2 5 (stpsA b)] σ fun v σ' => v = .lit (.bool (likeL a b)) ∧ σ' = σ := by
  refine ACalls.of_awp follows (st := st9) (plans := pl9) (n := 62) Tryd.func9 rfl (by kernel_rfl) (by kernel_rfl) (by kernel_rfl) ?_
  by_cases hl : a.length = b.length
  · have hli : (a.length : Int) = b.length := by omega
    simp [hli]
    refine codeK.loop follows (st := st9) (plans := pl9) (X := Nat) (fun k => k ≤ a.length ∧ likeL (a.drop k) (b.drop k) = likeL a b)
      (fun k => [(0, .list false 5 (stpsA a)), (1, .list false 5 (stpsA b)), (14, .lit (.int .i64 b.length)), (15, .lit (.int .i64 k))]) (fun _ => σ) (fun k => a.length - k) 0 (by kernel_rfl)
      ⟨by simp, by simp⟩ (by simp) (Store.sub_refl _) fun k hk => ?_
    obtain ⟨hk, hlk⟩ := hk
    by_cases hlt : k < a.length
    · have hlt2 : k < b.length := by omega
      obtain ⟨x, hx⟩ : ∃ x, a[k]'hlt = x := ⟨_, rfl⟩
      obtain ⟨y, hy⟩ : ∃ y, b[k]'hlt2 = y := ⟨_, rfl⟩
      have hga : (stpsA a)[k]? = some (stpA x) := by simp [stpsA, hlt, hx]
      have hgb : (stpsA b)[k]? = some (stpA y) := by simp [stpsA, hlt2, hy]
      have hga2 : ∀ h, (stpsA a)[k]'h = stpA x := fun h => by simp [stpsA, hx]
      have hgb2 : ∀ h, (stpsA b)[k]'h = stpA y := fun h => by simp [stpsA, hy]
      have hda : a.drop k = x :: a.drop (k + 1) := by rw [List.drop_eq_getElem_cons hlt, hx]
      have hdb : b.drop k = y :: b.drop (k + 1) := by rw [List.drop_eq_getElem_cons hlt2, hy]
      rw [hda, hdb] at hlk
      have hxm := hab x (by rw [← hx]; exact List.getElem_mem _)
      have hym := hbb y (by rw [← hy]; exact List.getElem_mem _)
      have hsb := fun τ => same_bytes_calls x.bytes y.bytes false false hxm hym τ
      have hlw : IntKind.i64.wrap ((k : Int) + 1) = (k : Int) + 1 := wrap_i64 (by omega) (by omega)
      obtain ⟨kx, bx, ⟨ax, sx, nx⟩⟩ := x
      obtain ⟨ky, by', ⟨ay, sy, ny⟩⟩ := y
      simp only [stpA, byteA] at hga hgb hga2 hgb2
      simp [hlt, hlt2, hga, hgb, hga2, hgb2]
      by_cases hkk : kx = ky
      · subst hkk
        by_cases h75 : kx = 75
        · subst h75
          by_cases hky : ax = ay ∧ sx = sy ∧ nx = ny
          · obtain ⟨rfl, rfl, rfl⟩ := hky
            have hlt9 : likeL (a.drop (k + 1)) (b.drop (k + 1)) = likeL a b := by rw [← hlk]; simp [likeL, likeS]
            refine ⟨?_, ?_⟩
            all_goals
              intro p hp q hq
              rw [ite_none] at hq
              obtain ⟨n1, hq⟩ := hq
              have n2 : ¬ p = q := fun e => n1 e.symm
              simp [n1, n2]
              refine ⟨k + 1, ⟨by omega, hlt9⟩, by omega, by rw [hlw]; exact AV.le_refl _, ?_⟩
              (intro q; simp only [Store.upd, Store.del]; (repeat' split) <;> first | exact Or.inr rfl | exact Or.inl rfl | (exfalso; omega) | (left; subst_vars; assumption) | simp_all)
          · have hlf : likeL a b = false := by
              rw [← hlk]
              have : ((⟨ax, sx, nx⟩ : Ky) != ⟨ay, sy, ny⟩) = true := by simpa using hky
              simp [likeL, likeS, this]
            have hky' : ¬ ax = ay ∨ ¬ sx = sy ∨ ¬ nx = ny := by
              by_cases e1 : ax = ay
              · by_cases e2 : sx = sy
                · exact .inr (.inr fun e3 => hky ⟨e1, e2, e3⟩)
                · exact .inr (.inl e2)
              · exact .inl e1
            rw [hlf]
            refine ⟨?_, ?_⟩
            all_goals
              intro p hp q hq
              rw [ite_none] at hq
              obtain ⟨n1, hq⟩ := hq
              have n2 : ¬ p = q := fun e => n1 e.symm
              simp [n1, n2, hky', hky]
              (intro q; simp only [Store.upd, Store.del]; (repeat' split) <;> first | exact Or.inr rfl | exact Or.inl rfl | (exfalso; omega) | (left; subst_vars; assumption) | simp_all)
        · have h75i : ¬ (kx.toNat : Int) = 75 := fun h => h75 (UInt8.toNat_inj.1 (by show kx.toNat = 75; omega))
          have h75n : ¬ kx.toNat = 75 := fun h => h75 (UInt8.toNat_inj.1 h)
          by_cases h7 : kx = 72 ∨ kx = 79
          · have hlt9 : (if bx = by' then likeL (a.drop (k + 1)) (b.drop (k + 1)) else false) = likeL a b := by
              rw [← hlk]
              rcases h7 with rfl | rfl <;> by_cases hbe : bx = by' <;> simp [likeL, likeS, hbe]
            by_cases hbe : bx = by'
            · subst hbe
              rw [if_pos rfl] at hlt9
              have hbt : (bx == bx) = true := by simp
              rw [hbt] at hsb
              rcases h7 with rfl | rfl
              all_goals
              refine ⟨?_, ?_⟩
              all_goals
                intro p hp q hq
                rw [ite_none] at hq
                obtain ⟨n1, hq⟩ := hq
                have n2 : ¬ p = q := fun e => n1 e.symm
                simp [n1, n2]
                refine callK.of (hsb _) ?_
                rintro v σ2 ⟨rfl, rfl⟩
                simp
                refine ⟨k + 1, ⟨by omega, hlt9⟩, by omega, by rw [hlw]; exact AV.le_refl _, ?_⟩
                (intro q; simp only [Store.upd, Store.del]; (repeat' split) <;> first | exact Or.inr rfl | exact Or.inl rfl | (exfalso; omega) | (left; subst_vars; assumption) | simp_all)
            · rw [if_neg hbe] at hlt9
              have hbt : (bx == by') = false := by simpa using hbe
              rw [hbt] at hsb
              rw [← hlt9]
              rcases h7 with rfl | rfl
              all_goals
              refine ⟨?_, ?_⟩
              all_goals
                intro p hp q hq
                rw [ite_none] at hq
                obtain ⟨n1, hq⟩ := hq
                have n2 : ¬ p = q := fun e => n1 e.symm
                simp [n1, n2]
                refine callK.of (hsb _) ?_
                rintro v σ2 ⟨rfl, rfl⟩
                simp
                (intro q; simp only [Store.upd, Store.del]; (repeat' split) <;> first | exact Or.inr rfl | exact Or.inl rfl | (exfalso; omega) | (left; subst_vars; assumption) | simp_all)
          · rw [not_or] at h7
            have h72i : ¬ (kx.toNat : Int) = 72 := fun h => h7.1 (UInt8.toNat_inj.1 (by show kx.toNat = 72; omega))
            have h72n : ¬ kx.toNat = 72 := fun h => h7.1 (UInt8.toNat_inj.1 h)
            have h79i : ¬ (kx.toNat : Int) = 79 := fun h => h7.2 (UInt8.toNat_inj.1 (by show kx.toNat = 79; omega))
            have h79n : ¬ kx.toNat = 79 := fun h => h7.2 (UInt8.toNat_inj.1 h)
            have hlt9 : likeL (a.drop (k + 1)) (b.drop (k + 1)) = likeL a b := by rw [← hlk]; simp [likeL, likeS, h75, h7.1, h7.2]
            refine ⟨?_, ?_⟩
            all_goals
              intro p hp q hq
              rw [ite_none] at hq
              obtain ⟨n1, hq⟩ := hq
              have n2 : ¬ p = q := fun e => n1 e.symm
              simp [n1, n2, h75i, h75n, h72i, h72n, h79i, h79n]
              refine ⟨k + 1, ⟨by omega, hlt9⟩, by omega, by rw [hlw]; exact AV.le_refl _, ?_⟩
              (intro q; simp only [Store.upd, Store.del]; (repeat' split) <;> first | exact Or.inr rfl | exact Or.inl rfl | (exfalso; omega) | (left; subst_vars; assumption) | simp_all)
      · have hkn : ¬ (kx.toNat : Int) = ky.toNat := fun h => hkk (UInt8.toNat_inj.1 (by omega))
        have hkn2 : ¬ kx.toNat = ky.toNat := fun h => hkk (UInt8.toNat_inj.1 h)
        have hlf : likeL a b = false := by rw [← hlk]; simp [likeL, likeS, hkk]
        rw [hlf]
        refine ⟨?_, ?_⟩
        all_goals
          intro p hp q hq
          rw [ite_none] at hq
          obtain ⟨n1, hq⟩ := hq
          have n2 : ¬ p = q := fun e => n1 e.symm
          simp [n1, n2, hkn, hkn2]
          (intro q; simp only [Store.upd, Store.del]; (repeat' split) <;> first | exact Or.inr rfl | exact Or.inl rfl | (exfalso; omega) | (left; subst_vars; assumption) | simp_all)
    · have hnil : a.drop k = [] := List.drop_of_length_le (by omega)
      have hnil2 : b.drop k = [] := List.drop_of_length_le (by omega)
      rw [hnil, hnil2] at hlk
      rw [← hlk]
      have hlt2 : ¬ k < b.length := by omega
      simp [hlt2, likeL]
  · have hn : likeL a b = false := by
      cases e : likeL a b with
      | false => rfl
      | true => exact absurd (likeL_len a b e) hl
    have hli : ¬ (a.length : Int) = b.length := by omega
    rw [hn]
    simp [hl, hli]
def exT : List UInt8 := [72, 32, 102, 102, 49, 97, 10, 75, 32, 49, 57, 32, 48, 32, 48, 10, 79, 32, 45, 10]
def exL : List Stp := [⟨72, [255, 26], .zero⟩, ⟨75, [], ⟨19, 0, 0⟩⟩, ⟨79, [], .zero⟩]
theorem ex_parse : parseT exT = (exL, 3, true) := by decide +kernel
set_option maxRecDepth 8000 in
set_option maxHeartbeats 1000000 in
theorem awake_calls (σ : Store) : ACalls Tryd.prog 5 [] σ fun v σ' => v = .lit (.bool true) ∧ σ' = σ := by
  have hp := parse_text_calls exT (by decide) σ
  rw [ex_parse] at hp
  have hsb := same_bytes_calls [255, 26] [255, 26] false true (by simp) (by simp) σ
  refine ACalls.of_awp follows (st := st5) (plans := pl5) (n := 50) Tryd.func5 rfl (by kernel_rfl) (by kernel_rfl) (by kernel_rfl) ?_
  simp
  refine callK.of hp ?_
  rintro v σ' ⟨rfl, rfl⟩
  simp [parA, exL, stpsA, stpA, byteA, Ky.zero]
  refine callK.of hsb ?_
  rintro v σ2 ⟨rfl, rfl⟩
  simp
end Go.Proofs.YtheldoijfnigoaaDoor
/-
  TapeParses: the law.
-/
namespace Go.Proofs.YtheldoijfnigoaaDoor
open Go Go.AL

variable [Errs]
set_option linter.unusedSectionVars false
theorem readO_len {s p : List UInt8} (h : readO s = some p) : p.length ≤ s.length + 1 := by
  unfold readO at h
  split at h
  · cases h; simp
  · split at h
    · cases h
      have h1 := List.length_filterMap_le pairO (chunksL s)
      have h2 := chunksL_len s
      omega
    · cases h
theorem lineO_len {s : List UInt8} {x : Stp} (h : lineO s = some x) : x.bytes.length ≤ s.length + 1 := by
  have hz := splitL_sizes 32 s
  unfold lineO at h
  split at h
  · cases h
  · rename_i w r e
    rw [e] at hz
    split at h
    · cases ho : oneL r with
      | none => rw [ho] at h; cases h
      | some y =>
        have hy : y ∈ r := by
          match r, ho with
          | [z], ho => simp [oneL] at ho; subst ho; simp
        rw [ho] at h
        cases hr : readO y with
        | none => simp [hr] at h
        | some p =>
          simp [hr] at h
          subst h
          have h1 := readO_len hr
          have h2 := hz y (by simp [hy])
          show p.length ≤ _
          omega
    · split at h
      · cases hk : keyO r with
        | none => rw [hk] at h; cases h
        | some k => rw [hk] at h; cases h; simp
      · cases h
theorem parseL_sizes (m : Nat) : ∀ (l : List (List UInt8)) (acc : List Stp), (∀ s ∈ l, s.length ≤ m) → (∀ x ∈ acc, x.bytes.length ≤ m + 1) → (parseL l acc).1.length ≤ acc.length + l.length ∧ ∀ x ∈ (parseL l acc).1, x.bytes.length ≤ m + 1
  | [], acc, _, h => ⟨by simp [parseL], h⟩
  | [s], acc, _, h => by
    have e : parseL [s] acc = if s = [] then (acc, acc.length, true) else ([], acc.length + 1, false) := rfl
    rw [e]
    split
    · exact ⟨by simp, h⟩
    · exact ⟨by simp, by simp⟩
  | s :: a :: r, acc, hl, h => by
    rw [parseL_cons (by simp)]
    split
    · rename_i hs
      obtain ⟨y, hy⟩ := Option.isSome_iff_exists.1 hs
      rw [hy]
      have h1 := lineO_len hy
      have h2 := hl s (by simp)
      have ih := parseL_sizes m (a :: r) (acc ++ [y]) (fun s hs => hl s (by simp at hs ⊢; exact .inr hs)) (fun x hx => by
        rcases List.mem_append.1 hx with hx | hx
        · exact h x hx
        · simp at hx; subst hx; omega)
      refine ⟨?_, ih.2⟩
      have := ih.1
      simp at this ⊢; omega
    · exact ⟨by simp, by simp⟩
theorem parseT_sizes (t : List UInt8) : (parseT t).1.length ≤ t.length + 1 ∧ ∀ x ∈ (parseT t).1, x.bytes.length ≤ t.length + 1 := by
  have h := parseL_sizes t.length (splitL 10 t) [] (splitL_sizes 10 t) (by simp)
  have h1 := splitL_len 10 t
  have h2 := t.count_le_length (a := 10)
  exact ⟨by have := h.1; simp at this; unfold parseT; omega, h.2⟩
theorem line_size (t : List UInt8) : ((lineO t).getD .zero).bytes.length ≤ t.length + 1 := by
  cases e : lineO t with
  | none => simp [Stp.zero]
  | some x => simpa using lineO_len e
set_option maxRecDepth 8000 in
set_option maxHeartbeats 1000000 in
theorem tapeParses_calls (text : List UInt8) (σ : Store) : ACalls Tryd.prog 3 [.lit (.string (toB text))] σ fun v σ' => v = .lit (.bool true) ∧ σ' = σ := by
  have hct := fun τ => cuttext_calls text 1000 (by omega) τ
  have htl : (text.take 1000).length ≤ 1000 := by rw [List.length_take]; omega
  generalize text.take 1000 = t at *
  have hsz := parseT_sizes t
  have hls := line_size t
  have hpa := fun τ => parse_text_calls t (by omega) τ
  have hrp := fun τ => rparse_calls t (by omega) τ
  have hln := fun τ => line_calls t (by omega) τ
  have hrl := fun τ => rline_calls t (by omega) τ
  generalize parseT t = R at *
  generalize lineE t = er at *
  generalize (lineO t).getD .zero = x at *
  obtain ⟨L, n, ok⟩ := R
  dsimp only at hsz
  have hbk := fun τ => back_calls L (by omega) false τ
  have hbk1 := fun τ => back_calls [x] (by simp) true τ
  have hsm := fun o1 o2 τ => same_steps_calls L L o1 o2 (by omega) (fun y hy => by have := hsz.2 y hy; omega) (fun y hy => by have := hsz.2 y hy; omega) τ
  have hsm1 := fun τ => same_steps_calls [x] [x] true true (by simp) (fun y hy => by simp at hy; subst hy; omega) (fun y hy => by simp at hy; subst hy; omega) τ
  rw [likeL_refl] at hsm1
  simp only [likeL_refl] at hsm
  refine ACalls.of_awp follows (st := st3) (plans := pl3) (n := 65) Tryd.func3 rfl (by kernel_rfl) (by kernel_rfl) (by kernel_rfl) ?_
  simp
  refine callK.of (awake_calls _) ?_
  rintro v σ1 ⟨rfl, rfl⟩
  simp
  refine callK.of (hct _) ?_
  rintro v σ2 ⟨rfl, rfl⟩
  simp
  refine callK.of (hpa _) ?_
  rintro v σ3 ⟨rfl, rfl⟩
  simp [parA]
  refine callK.of (hrp _) ?_
  rintro v σ4 ⟨rfl, rfl⟩
  simp [parA]
  refine callK.of (hbk _) ?_
  rintro v σ5 ⟨rfl, rfl⟩
  simp
  refine callK.of (hsm _ _ _) ?_
  rintro v σ6 ⟨rfl, rfl⟩
  simp
  refine callK.of (hln _) ?_
  rintro v σ7 ⟨rfl, rfl⟩
  obtain ⟨kx, bx, ⟨ax, sx, nx⟩⟩ := x
  simp only [stpA, stpsA, List.map_cons, List.map_nil, byteA] at hbk1 hsm1
  simp [stpA, byteA]
  intro p hp
  rw [del_upd_new hp]
  refine callK.of (hrl _) ?_
  rintro v σ8 ⟨rfl, rfl⟩
  simp [stpA, byteA]
  intro q hq
  rw [del_upd_new hq]
  repeat' with_reducible apply And.intro
  all_goals
    refine callK.of (hbk1 _) ?_
    rintro v σ9 ⟨rfl, rfl⟩
    simp
    refine callK.of (hsm1 _) ?_
    rintro v σ9 ⟨rfl, rfl⟩
    simp
end Go.Proofs.YtheldoijfnigoaaDoor
/-
  What is laid: the powers of ten; the two errors, as they stand when the call begins.
-/
namespace Go.Proofs.YtheldoijfnigoaaDoor
open Go Go.AL
def laid7 : List (String × DataW Unit) := [("math/bits.deBruijn32tab", Rows.laid_math_bits_deBruijn32tab), ("math/bits.deBruijn64tab", Rows.laid_math_bits_deBruijn64tab), ("internal/strconv.uint64pow10", Rows.laid_internal_strconv_uint64pow10), ("unicode/utf8.acceptRanges", Rows.laid_unicode_utf8_acceptRanges), ("strconv.ErrRange", Rows.laid_strconv_ErrRange), ("strconv.ErrSyntax", Rows.laid_strconv_ErrSyntax), ("unicode/utf8.first", Rows.laid_unicode_utf8_first)]
theorem laid_pow10 : (Rows.laid_internal_strconv_uint64pow10 : DataW Unit) = Lib.tabData .u64 Lib.pow10Tab := by rfl
theorem heap_of_var {W : World} {n : String} {g : Nat} {cs : Array Value} (hg : Tryd.prog.globalNamed n = some g) (hv : W.var? Tryd.prog n = some cs) : ∃ T fz, W.heap[g]? = some (.cells cs T fz) := by
  unfold World.var? at hv
  rw [hg] at hv
  simp only [Option.bind_some] at hv
  cases e : W.heap[g]? with
  | none => rw [e] at hv; cases hv
  | some o =>
    rw [e] at hv
    cases o with
    | cells c t z => simp only [Option.some.injEq] at hv; subst hv; exact ⟨t, z, rfl⟩
    | _ => cases hv
theorem star : "*" ++ "errors.errorString" = "*errors.errorString" := by decide
theorem rowE (u : TypeId) (h : Tryd.prog.typeName? 3 u = some "*errors.errorString") : u = 142 :=
  typeName_ptr_named (nm := "errors.errorString") (by rw [star]; kernel_rfl) (by kernel_rfl) (by decide) u (by rw [star]; exact h)
theorem vars7 {W : World} (h : laidMetH Tryd.prog laid7 W) : ∃ E : Errs, ∀ g cs, (@instGLOfErrs E).vars g = some cs → ∃ T fz, W.heap[g]? = some (.cells cs T fz) := by
  rw [MakeChecks.laidMetH_plain _ _ _ (by kernel_rfl)] at h
  have h1 := laidMet.tail (laidMet.tail h)
  have h2 := laidMet.tail (laidMet.tail h1)
  have h3 := laidMet.tail h2
  have hr : Tryd.prog.globalNamed "strconv.ErrRange" = some 5 := by kernel_rfl
  have hs : Tryd.prog.globalNamed "strconv.ErrSyntax" = some 4 := by kernel_rfl
  have hp : Tryd.prog.globalNamed "internal/strconv.uint64pow10" = some 1 := by kernel_rfl
  obtain ⟨ar, sr, hvr, -, -, -⟩ := laid_sentinel h2 hr (show (Tryd.prog.globals[5]?).map (·.type) = some 76 by kernel_rfl) Tryd.underlying76 rowE Tryd.underlying142 Tryd.underlying144 rfl rfl Tryd.underlying9 (by kernel_rfl) (by kernel_rfl)
  obtain ⟨az, ss, hvs, -, -, -⟩ := laid_sentinel h3 hs (show (Tryd.prog.globals[4]?).map (·.type) = some 76 by kernel_rfl) Tryd.underlying76 rowE Tryd.underlying142 Tryd.underlying144 rfl rfl Tryd.underlying9 (by kernel_rfl) (by kernel_rfl)
  have ht : Lib.TabIs Tryd.prog W "internal/strconv.uint64pow10" .u64 Lib.pow10Tab := by
    rw [laid_pow10] at h1
    exact Lib.tabIs_of_head hp (show (Tryd.prog.globals[1]?).map (·.type) = some 128 by kernel_rfl) Tryd.underlying128 Tryd.underlying112 (by kernel_rfl) (by kernel_rfl) h1
  unfold Lib.TabIs at ht
  refine ⟨⟨142, .pointer (some az), 142, .pointer (some ar)⟩, fun g cs hg => ?_⟩
  have h4 : (if g = 1 then some pow10A else if g = 4 then some #[Value.iface 142 (.pointer (some az))] else if g = 5 then some #[Value.iface 142 (.pointer (some ar))] else none) = some cs := hg
  split at h4
  · rename_i e; subst e
    obtain ⟨T, fz, hh⟩ := heap_of_var hp ht
    rw [← Option.some.inj h4]; exact ⟨T, fz, hh⟩
  · split at h4
    · rename_i e; subst e
      rw [← Option.some.inj h4]; exact heap_of_var hs hvs
    · split at h4
      · rename_i e; subst e
        rw [← Option.some.inj h4]; exact heap_of_var hr hvr
      · cases h4
theorem tapeParses_law [Errs] (s : ByteArray) (σ : Store) : ACalls Tryd.prog 3 [.lit (.string s)] σ fun v _ => v = .lit (.bool true) := by
  have e : s = toB s.data.toList := by apply ByteArray.ext; simp [toB]
  rw [e]
  exact (tapeParses_calls _ σ).mono fun v σ' h => h.1
end Go.Proofs.YtheldoijfnigoaaDoor
