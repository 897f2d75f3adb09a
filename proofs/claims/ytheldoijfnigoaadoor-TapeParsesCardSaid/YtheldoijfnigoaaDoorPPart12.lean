/-
  A line's step, a text's steps: what the program reads.
-/
import Derived.Test.YtheldoijfnigoaaDoorPPart11
set_option linter.unusedSimpArgs false
set_option linter.unusedVariables false
namespace Go.Proofs.YtheldoijfnigoaaDoor
open Go Go.AL

/-- A key's kind, sign, number. -/
structure Ky where
  kind : Int
  sign : Int
  n : Int
  deriving DecidableEq
structure Stp where
  kind : UInt8
  bytes : List UInt8
  key : Ky
  deriving DecidableEq
def Ky.zero : Ky := ⟨0, 0, 0⟩
def Stp.zero : Stp := ⟨0, [], .zero⟩
def kyA (k : Ky) : List AV := [.lit (.int .i64 k.kind), .lit (.int .i32 k.sign), .lit (.int .i64 k.n)]
def stpA (x : Stp) : AV := .agg [byteA x.kind, .list false 1 (bytesA x.bytes), .lit (.int .i64 x.key.kind), .lit (.int .i32 x.key.sign), .lit (.int .i64 x.key.n)]
def stpsA (l : List Stp) : List AV := l.map stpA
@[simp] theorem stpsA_length (l : List Stp) : (stpsA l).length = l.length := by simp [stpsA]
def keyO : List (List UInt8) → Option Ky
  | [a, b, c] => match numO 64 a, numO 32 b, numO 64 c with
    | some k, some s, some n => some ⟨k, s, n⟩
    | _, _, _ => none
  | _ => none
def oneL : List (List UInt8) → Option (List UInt8)
  | [x] => some x
  | _ => none
def lineO (s : List UInt8) : Option Stp :=
  match splitL 32 s with
  | [] => none
  | w :: r => if w = [72] ∨ w = [79] then (oneL r).bind fun x => (readO x).map fun p => ⟨w.headD 0, p, .zero⟩
    else if w = [75] then (keyO r).map fun k => ⟨75, [], k⟩ else none
def parseL : List (List UInt8) → List Stp → List Stp × Nat × Bool
  | [], acc => (acc, acc.length, true)
  | [l], acc => if l = [] then (acc, acc.length, true) else ([], acc.length + 1, false)
  | s :: r, acc => match lineO s with
    | none => ([], acc.length + 1, false)
    | some x => parseL r (acc ++ [x])
theorem numO_bounds {B : Nat} {s : List UInt8} {v : Int} (h : numO B s = some v) : -((2 ^ (B - 1) : Nat) : Int) ≤ v ∧ v < ((2 ^ (B - 1) : Nat) : Int) := by
  unfold numO at h
  split at h
  · rename_i v' e
    split at h
    · rw [← Option.some.inj h]; exact Lib.parseIntB_bounds e
    · cases h
  · cases h

theorem wrap_i32 {n : Int} (h0 : -2147483648 ≤ n) (h1 : n ≤ 2147483647) : IntKind.i32.wrap n = n := by
  unfold IntKind.wrap
  simp [IntKind.bits, IntKind.signed]
  omega
variable [Errs]
set_option linter.unusedSectionVars false
set_option maxRecDepth 8000 in
theorem key_calls (o : Bool) (l : List (List UInt8)) (hl : ∀ x ∈ l, x.length ≤ 1000000) (hn : l.length ≤ 1000000) (σ : Store) :
    ACalls Tryd.prog 25 [.list o 1 (strsA l)] σ fun v σ' => (∃ k, (∀ m, keyO l = some m → k = m) ∧ v = .tuple [.agg (kyA k), .lit (.bool (keyO l).isSome)]) ∧ σ' = σ := by
  refine ACalls.of_awp follows (st := st25) (plans := pl25) (n := 47) Tryd.func25 rfl (by kernel_rfl) (by kernel_rfl) (by kernel_rfl) ?_
  by_cases h3 : l.length = 3
  · match l, h3 with
    | [a, b, c], _ =>
      have ha := number_calls 64 (.inl rfl) a (hl a (by simp))
      have hb := number_calls 32 (.inr rfl) b (hl b (by simp))
      have hc := number_calls 64 (.inl rfl) c (hl c (by simp))
      have hko : keyO [a, b, c] = match numO 64 a, numO 32 b, numO 64 c with
        | some k, some s, some n => some ⟨k, s, n⟩
        | _, _, _ => none := rfl
      have hbb := fun v => numO_bounds (B := 32) (s := b) (v := v)
      simp [strsA]
      intro p hp
      refine callK.of (ha _) ?_
      rintro v σ1 ⟨⟨k, hk, rfl⟩, rfl⟩
      simp
      refine callK.of (hb _) ?_
      rintro v σ2 ⟨⟨s, hs, rfl⟩, rfl⟩
      simp
      refine callK.of (hc _) ?_
      rintro v σ3 ⟨⟨n, hn, rfl⟩, rfl⟩
      have hk2 : ∀ m, keyO [a, b, c] = some m → (⟨k, IntKind.i32.wrap s, n⟩ : Ky) = m := by
        intro m hm
        rw [hko] at hm
        cases e1 : numO 64 a with
        | none => rw [e1] at hm; cases hm
        | some k' =>
          cases e2 : numO 32 b with
          | none => rw [e1, e2] at hm; cases hm
          | some s' =>
            cases e3 : numO 64 c with
            | none => rw [e1, e2, e3] at hm; cases hm
            | some n' =>
              rw [e1, e2, e3] at hm
              have h4 := hbb s' e2
              simp at h4
              rw [hk _ e1, hs _ e2, hn _ e3, wrap_i32 (by omega) (by omega)]
              exact Option.some.inj hm
      have hks : (keyO [a, b, c]).isSome = ((numO 64 a).isSome && (numO 32 b).isSome && (numO 64 c).isSome) := by
        rw [hko]
        cases numO 64 a <;> cases numO 32 b <;> cases numO 64 c <;> rfl
      rw [hks]
      generalize (numO 64 a).isSome = x1 at *
      generalize (numO 32 b).isSome = x2 at *
      generalize (numO 64 c).isSome = x3 at *
      have hfin : Store.sub σ (σ.upd p [AV.lit (.int .i64 k), .lit (.int .i32 (IntKind.i32.wrap s)), .lit (.int .i64 n)]) := by (intro q; simp only [Store.upd, Store.del]; (repeat' split) <;> first | exact Or.inr rfl | exact Or.inl rfl | (exfalso; omega) | (left; subst_vars; assumption) | simp_all)
      cases x1 <;> cases x2 <;> cases x3 <;> simp <;> exact ⟨_, AV.le_refl _, hfin, _, hk2, rfl⟩
  · have hno : keyO l = none := by
      unfold keyO
      split
      · simp at h3
      · rfl
    have h3' : ¬ (l.length : Int) = 3 := by omega
    simp [h3, h3', hno]
    intro p hp
    refine ⟨_, AV.le_refl _, ?_, .zero, rfl⟩
    (intro q; simp only [Store.upd, Store.del]; (repeat' split) <;> first | exact Or.inr rfl | exact Or.inl rfl | (exfalso; omega) | (left; subst_vars; assumption) | simp_all)
end Go.Proofs.YtheldoijfnigoaaDoor
/-
  A line's step: tape.ReadLine.
-/
namespace Go.Proofs.YtheldoijfnigoaaDoor
open Go Go.AL

def lineE (s : List UInt8) : Int := if (lineO s).isSome then 0 else 4
theorem splitL_cons (c : UInt8) (l : List UInt8) : ∃ w r, splitL c l = w :: r := by
  have h := splitL_len c l
  cases e : splitL c l with
  | nil => rw [e] at h; simp at h
  | cons w r => exact ⟨w, r, rfl⟩
theorem splitL_sizes (c : UInt8) : ∀ l : List UInt8, ∀ x ∈ splitL c l, x.length ≤ l.length
  | [], x, h => by simp [splitL] at h; subst h; simp
  | b :: l, x, h => by
    rw [splitL] at h
    split at h
    · rcases List.mem_cons.1 h with rfl | h
      · simp
      · have := splitL_sizes c l x h; simp; omega
    · have ih := splitL_sizes c l
      split at h
      · simp at h; subst h; simp
      · rename_i e
        rw [e] at ih
        rename_i h0 t0
        rcases List.mem_cons.1 h with rfl | h
        · have := ih h0 (by simp); simp; omega
        · have := ih x (by simp [h]); simp; omega
theorem oneL_not : ∀ r : List (List UInt8), (¬ ∃ x, r = [x]) → oneL r = none ∧ r.length ≠ 1
  | [], _ => ⟨rfl, by simp⟩
  | [x], h => absurd ⟨x, rfl⟩ h
  | a :: b :: r, _ => ⟨rfl, by simp⟩
theorem toB_toList (l : List UInt8) : (toB l).toList = l := by rw [ByteArray.toList_eq, toB_data]
variable [Errs]
set_option linter.unusedSectionVars false
set_option maxRecDepth 8000 in
set_option maxHeartbeats 1000000 in
theorem line_calls (s : List UInt8) (hs : s.length ≤ 100000) (σ : Store) :
    ACalls Tryd.prog 11 [.lit (.string (toB s))] σ fun v σ' => v = .tuple [stpA ((lineO s).getD .zero), .lit (.int .i64 (lineE s))] ∧ σ' = σ := by
  have hsp := fun τ => split_calls s (by omega) 32 τ
  have hsz := splitL_sizes 32 s
  have hcn := splitL_len 32 s
  have hcc := s.count_le_length (a := 32)
  obtain ⟨w, r, e⟩ := splitL_cons 32 s
  have hlo : lineO s = if w = [72] ∨ w = [79] then (oneL r).bind fun x => (readO x).map fun p => ⟨w.headD 0, p, .zero⟩
    else if w = [75] then (keyO r).map fun k => ⟨75, [], k⟩ else none := by unfold lineO; rw [e]
  unfold lineE
  rw [hlo]
  rw [e] at hsp hsz hcn
  have hky := fun τ => key_calls false r (fun x hx => by have := hsz x (by simp [hx]); omega) (by simp at hcn; omega) τ
  refine ACalls.of_awp follows (st := st11) (plans := pl11) (n := 51) Tryd.func11 rfl (by kernel_rfl) (by kernel_rfl) (by kernel_rfl) ?_
  simp
  intro p hp
  refine callK.of (hsp _) ?_
  rintro v σ1 ⟨rfl, rfl⟩
  have hback : ∀ X, Store.sub σ (σ.upd p X) := fun X => sub_upd_self _ _ _ hp
  by_cases hw : w = [72] ∨ w = [79]
  · by_cases hr : ∃ x, r = [x]
    · obtain ⟨x, rfl⟩ := hr
      have hrd := fun τ => read_calls x (by have := hsz x (by simp); omega) τ
      rw [if_pos hw]
      cases hx : readO x with
      | none =>
        rw [hx] at hrd
        have ho : ∀ k : UInt8, ((oneL [x]).bind fun x => (readO x).map fun p => (⟨k, p, .zero⟩ : Stp)) = none := fun k => by simp [oneL, hx]
        rw [ho]
        rcases hw with rfl | rfl
        all_goals
          simp [strsA, toB_toList]
          refine callK.of (hrd _) ?_
          rintro v σ1 ⟨⟨y, hy, rfl⟩, rfl⟩
          simp
          exact ⟨AV.le_refl _, hback _⟩
      | some b =>
        rw [hx] at hrd
        have ho : ∀ k : UInt8, ((oneL [x]).bind fun x => (readO x).map fun p => (⟨k, p, .zero⟩ : Stp)) = some ⟨k, b, .zero⟩ := fun k => by simp [oneL, hx]
        rw [ho]
        rcases hw with rfl | rfl
        all_goals
          simp [strsA, toB_toList]
          refine callK.of (hrd _) ?_
          rintro v σ1 ⟨⟨y, hy, rfl⟩, rfl⟩
          obtain rfl := hy _ rfl
          simp [toB]
          exact ⟨AV.le_refl _, hback _⟩
    · obtain ⟨hn, hl1⟩ := oneL_not r hr
      have hrl : ¬ (r.length : Int) + 1 = 2 := by omega
      rw [if_pos hw, hn]
      rcases hw with rfl | rfl
      all_goals
        simp [strsA, toB_toList, hrl]
        exact ⟨AV.le_refl _, hback _⟩
  · rw [if_neg hw]
    rw [not_or] at hw
    by_cases h3 : w = [75]
    · rw [if_pos h3]
      subst h3
      have ht : List.take r.length (List.map (fun x => AV.lit (Value.string (toB x))) r) = strsA r := List.take_of_length_le (by simp)
      simp [strsA, toB_toList, ht]
      refine callK.of (hky _) ?_
      rintro v σ1 ⟨⟨k, hk, rfl⟩, rfl⟩
      cases hx : keyO r with
      | none =>
        simp
        intro q hq
        rw [ite_none] at hq
        obtain ⟨n1, hq⟩ := hq
        have n2 : ¬ p = q := fun e => n1 e.symm
        simp [kyA, n1, n2]
        refine ⟨AV.le_refl _, ?_⟩
        (intro q; simp only [Store.upd, Store.del]; (repeat' split) <;> first | exact Or.inr rfl | exact Or.inl rfl | (exfalso; omega) | (left; subst_vars; assumption) | simp_all)
      | some k' =>
        obtain rfl := hk _ hx
        simp
        intro q hq
        rw [ite_none] at hq
        obtain ⟨n1, hq⟩ := hq
        have n2 : ¬ p = q := fun e => n1 e.symm
        simp [kyA, n1, n2]
        refine ⟨AV.le_refl _, ?_⟩
        (intro q; simp only [Store.upd, Store.del]; (repeat' split) <;> first | exact Or.inr rfl | exact Or.inl rfl | (exfalso; omega) | (left; subst_vars; assumption) | simp_all)
    · rw [if_neg h3]
      simp [strsA, toB_toList, hw.1, hw.2, h3]
      exact ⟨AV.le_refl _, hback _⟩
end Go.Proofs.YtheldoijfnigoaaDoor
/-
  A text's steps: tape.Parse.
-/
namespace Go.Proofs.YtheldoijfnigoaaDoor
open Go Go.AL

theorem stpsA_append (a b : List Stp) : stpsA (a ++ b) = stpsA a ++ stpsA b := by simp [stpsA]
def parseT (t : List UInt8) : List Stp × Nat × Bool := parseL (splitL 10 t) []
def parA (x : List Stp × Nat × Bool) : AV := .tuple [.list true 5 (stpsA x.1), .lit (.int .i64 x.2.1), .lit (.int .i64 (if x.2.2 then 0 else 4))]
variable [Errs]
set_option linter.unusedSectionVars false
theorem cutL_len (c : UInt8) (l : List UInt8) : (cutL c l).1.length ≤ l.length ∧ (l ≠ [] → (cutL c l).2.1.length < l.length) := by
  by_cases h : c ∈ l
  · obtain ⟨pre, post, rfl, h2, h3⟩ := indexByte_split l c (List.count_pos_iff.2 h)
    rw [cutL_some c h3]
    exact ⟨by simp, fun _ => by simp; omega⟩
  · rw [cutL_none c h]
    exact ⟨by simp, fun h => by simpa using List.length_pos_iff.2 h⟩
theorem parse_step (t : List UInt8) (acc : List Stp) (h : t ≠ []) : parseL (splitL 10 t) acc =
    if (cutL 10 t).2.2 = true ∧ (lineO (cutL 10 t).1).isSome = true then parseL (splitL 10 (cutL 10 t).2.1) (acc ++ [(lineO (cutL 10 t).1).getD .zero]) else ([], acc.length + 1, false) := by
  by_cases hc : (10 : UInt8) ∈ t
  · obtain ⟨pre, post, rfl, h2, h3⟩ := indexByte_split t 10 (List.count_pos_iff.2 hc)
    rw [cutL_some 10 h3, splitL_cut 10 post pre h2]
    obtain ⟨w, r, e⟩ := splitL_cons 10 post
    rw [e]
    show (match lineO pre with | none => ([], acc.length + 1, false) | some x => parseL (w :: r) (acc ++ [x])) = _
    cases lineO pre <;> simp
  · rw [cutL_none 10 hc, splitL_none 10 t hc]
    show (if t = [] then (acc, acc.length, true) else ([], acc.length + 1, false)) = _
    rw [if_neg h]; simp

set_option maxRecDepth 8000 in
set_option maxHeartbeats 1000000 in
theorem parse_text_calls (t : List UInt8) (ht : t.length ≤ 100000) (σ : Store) :
    ACalls Tryd.prog 7 [.lit (.string (toB t))] σ fun v σ' => v = parA (parseT t) ∧ σ' = σ := by
  refine ACalls.of_awp follows (st := st7) (plans := pl7) (n := 41) Tryd.func7 rfl (by kernel_rfl) (by kernel_rfl) (by kernel_rfl) ?_
  simp
  refine codeK.loop follows (st := st7) (plans := pl7) (X := List Stp × List UInt8) (fun x => parseL (splitL 10 x.2) x.1 = parseT t ∧ x.1.length + x.2.length ≤ t.length)
    (fun x => [(0, .lit (.string (toB x.2))), (5, .list true 5 (stpsA x.1))]) (fun _ => σ) (fun x => x.2.length) ([], t) (by kernel_rfl) ⟨rfl, by simp⟩ (by simp [stpsA]) (Store.sub_refl _) fun x hx => ?_
  obtain ⟨acc, s⟩ := x
  obtain ⟨h1, h2⟩ := hx
  dsimp only at h1 h2 ⊢
  by_cases hs : s = []
  · subst hs
    have e : parseT t = (acc, acc.length, true) := by rw [← h1]; rfl
    rw [e]
    simp [toB_toList, parA]
  · have hst := parse_step s acc hs
    rw [h1] at hst
    obtain ⟨hl1, hl2⟩ := cutL_len 10 s
    have hl2 := hl2 hs
    have hcu := fun τ => cut_calls s (by omega) 10 τ
    have hln := fun τ => line_calls (cutL 10 s).1 (by omega) τ
    simp [toB_toList, hs]
    refine callK.of (hcu _) ?_
    rintro v σ1 ⟨rfl, rfl⟩
    generalize cutL 10 s = C at *
    obtain ⟨a, b, ok⟩ := C
    dsimp only at hl1 hl2 hln hst
    simp [cutA]
    refine callK.of (hln _) ?_
    rintro v σ1 ⟨rfl, rfl⟩
    unfold lineE
    have hlw : IntKind.i64.wrap ((acc.length : Int) + 1) = (acc.length : Int) + 1 := wrap_i64 (by omega) (by omega)
    have hfr : ∀ (p : Nat) X, σ1 p = none → Store.sub σ1 (σ1.upd p X) := fun p X hp => sub_upd_self _ _ _ hp
    cases hlo : lineO a with
    | none =>
      rw [hlo] at hst
      rw [if_neg (by simp)] at hst
      rw [hst]
      cases ok <;> simp [stpA, parA, hlw]
      all_goals
        intro p hp
        exact ⟨AV.le_refl _, hfr p _ hp⟩
    | some x =>
      rw [hlo] at hst
      cases ok
      · rw [if_neg (by simp)] at hst
        rw [hst]
        simp [stpA, parA, hlw]
        intro p hp
        exact ⟨AV.le_refl _, hfr p _ hp⟩
      · rw [if_pos (by simp)] at hst
        simp [stpA, parA]
        intro p hp
        refine ⟨by omega, by omega, acc ++ [x], b, ⟨by rw [hst]; simp, by simp; omega⟩, by omega, ⟨AV.le_refl _, ?_⟩, hfr p _ hp⟩
        simp [stpsA, stpA, byteA]
        trace_state
end Go.Proofs.YtheldoijfnigoaaDoor
/-
  The document's Split.
-/
namespace Go.Proofs.YtheldoijfnigoaaDoor
open Go Go.AL

variable [Errs]
set_option linter.unusedSectionVars false
set_option maxRecDepth 8000 in
set_option maxHeartbeats 1000000 in
theorem rsplit_calls (l : List UInt8) (hl : l.length ≤ 1000000) (c : UInt8) (σ : Store) :
    ACalls Tryd.prog 22 [.lit (.string (toB l)), byteA c] σ fun v σ' => v = .list true 1 (strsA (splitL c l)) ∧ σ' = σ := by
  have hcc := l.count_le_length (a := c)
  have hcn := splitL_len c l
  have hsz := toB_size l
  refine ACalls.of_awp follows (st := st22) (plans := pl22) (n := 35) Tryd.func22 rfl (by kernel_rfl) (by kernel_rfl) (by kernel_rfl) ?_
  unfold byteA
  simp
  refine codeK.loop follows (st := st22) (plans := pl22) (X := List (List UInt8) × Nat × Nat) (fun x => x.2.1 ≤ x.2.2 ∧ x.2.2 ≤ l.length + 1 ∧ x.1.length ≤ l.length + 1 ∧
      (x.2.2 ≤ l.length → x.1 ++ splitL c (l.drop x.2.1) = splitL c l ∧ c ∉ (l.drop x.2.1).take (x.2.2 - x.2.1)) ∧ (x.2.2 = l.length + 1 → x.1 = splitL c l))
    (fun x => [(0, .lit (.string (toB l))), (1, .lit (.int .u8 c.toNat)), (5, .list true 1 (strsA x.1)), (6, .lit (.int .i64 x.2.1)), (7, .lit (.int .i64 x.2.2))]) (fun _ => σ) (fun x => l.length + 1 - x.2.2) ([], 0, 0) (by kernel_rfl)
    ⟨by simp, by simp, by simp, by simp, by simp⟩ (by simp [strsA]) (Store.sub_refl _) fun x hx => ?_
  obtain ⟨done, a, i⟩ := x
  obtain ⟨h1, h2, h3, h4, h5⟩ := hx
  dsimp only at h1 h2 h3 h4 h5 ⊢
  by_cases hi : i ≤ l.length
  · obtain ⟨h6, h7⟩ := h4 hi
    have hw1 : IntKind.i64.wrap ((i : Int) + 1) = ((i + 1 : Nat) : Int) := by rw [wrap_i64 (by omega) (by omega)]; omega
    have hk := aSlice_str (P := Tryd.prog) (t := 9) (by simp) (by simp) l a i (a : Int) (i : Int) rfl rfl h1 hi
    have hpc : (l.drop a).take (i - a) ++ l.drop i = l.drop a := by
      have := List.take_append_drop (i - a) (l.drop a)
      rw [List.drop_drop, show a + (i - a) = i by omega] at this
      exact this
    by_cases he : i = l.length
    · subst he
      rw [List.drop_length, List.append_nil] at hpc
      have hdn : done ++ [(l.drop a).take (l.length - a)] = splitL c l := by
        rw [hpc] at h7 ⊢
        rw [← h6, splitL_none c _ h7]
      have hdl := congrArg List.length hdn
      simp at hdl
      generalize hS : toB l = S at *
      simp [-e_aSlice_1, -e_aSlice_2, hsz, hk, hw1]
      refine ⟨by omega, by omega, done ++ [(l.drop a).take (l.length - a)], l.length + 1, l.length + 1, ⟨by omega, by omega, by simp; omega, fun h => by omega, fun _ => hdn⟩, by omega, ?_, AV.le_refl _, AV.le_refl _⟩
      simp [strsA]
    · have hilt : i < l.length := by omega
      obtain ⟨d, hd⟩ : ∃ d, l[i]'hilt = d := ⟨_, rfl⟩
      have hdr : l.drop i = d :: l.drop (i + 1) := by rw [← hd]; exact List.drop_eq_getElem_cons hilt
      have hg : ∀ h, (toB l).data[i]'h = d := fun h => by rw [toB_at, List.getD_eq_getElem?_getD, List.getElem?_eq_getElem hilt, hd]; rfl
      have hne : ¬ (i : Int) = l.length := by omega
      by_cases hc : d = c
      · have hdn : done ++ [(l.drop a).take (i - a)] ++ splitL c (l.drop (i + 1)) = splitL c l := by
          rw [← h6]
          conv => rhs; rw [← hpc, hdr, hc]
          rw [splitL_cut c _ _ h7]; simp
        have hdl := congrArg List.length hdn
        have h0 : 1 ≤ (splitL c (l.drop (i + 1))).length := by rw [splitL_len]; omega
        simp at hdl
        subst hc
        generalize hS : toB l = S at *
        simp [-e_aSlice_1, -e_aSlice_2, hsz, hk, hw1, hi, he, hne, hilt, hg]
        refine ⟨by omega, by omega, done ++ [(l.drop a).take (i - a)], i + 1, i + 1, ⟨by omega, by omega, by simp; omega, fun h => ⟨hdn, by simp⟩, fun h => by omega⟩, by omega, ?_, AV.le_refl _, AV.le_refl _⟩
        simp [strsA]
      · have hcn : ¬ (d.toNat : Int) = c.toNat := fun h => hc (UInt8.toNat_inj.1 (by omega))
        have hcn2 : ¬ d.toNat = c.toNat := fun h => hc (UInt8.toNat_inj.1 h)
        generalize hS : toB l = S at *
        simp [-e_aSlice_1, -e_aSlice_2, hsz, hk, hw1, hi, he, hne, hilt, hg, hcn, hcn2]
        refine ⟨done, a, i + 1, ⟨by omega, by omega, h3, fun h => ⟨h6, ?_⟩, fun h => by omega⟩, by omega, AV.le_refl _, AV.le_refl _, AV.le_refl _⟩
        have : (l.drop a).take (i + 1 - a) = (l.drop a).take (i - a) ++ [d] := by
          rw [show i + 1 - a = i - a + 1 by omega, List.take_succ_eq_append_getElem (by simp; omega)]
          congr 2
          rw [List.getElem_drop]
          simp only [show a + (i - a) = i by omega, hd]
        rw [this]
        intro h
        rcases List.mem_append.1 h with h | h
        · exact h7 h
        · simp at h; exact hc h.symm
  · have hie : i = l.length + 1 := by omega
    rw [h5 hie]
    simp [hi, hsz]
end Go.Proofs.YtheldoijfnigoaaDoor
/-
  The document's bytes of a word.
-/
namespace Go.Proofs.YtheldoijfnigoaaDoor
open Go Go.AL

theorem hex_is (c : UInt8) : (0 ≤ hexV c ↔ (48 ≤ c.toNat ∧ c.toNat ≤ 57) ∨ (97 ≤ c.toNat ∧ c.toNat ≤ 102)) ∧ (48 ≤ c.toNat ∧ c.toNat ≤ 57 → hexV c = c.toNat - 48) ∧ (97 ≤ c.toNat ∧ c.toNat ≤ 102 → hexV c = c.toNat - 87) := by
  have : ∀ i : Fin 256, (0 ≤ hexV (UInt8.ofNat i.val) ↔ (48 ≤ i.val ∧ i.val ≤ 57) ∨ (97 ≤ i.val ∧ i.val ≤ 102)) ∧ (48 ≤ i.val ∧ i.val ≤ 57 → hexV (UInt8.ofNat i.val) = i.val - 48) ∧ (97 ≤ i.val ∧ i.val ≤ 102 → hexV (UInt8.ofNat i.val) = i.val - 87) := by decide +kernel
  have h := this ⟨c.toNat, c.toNat_lt⟩
  simpa using h
/-- Which words are bytes: an even number of letters, each a digit. -/
theorem chunks_ok : ∀ l : List UInt8, (∀ x ∈ chunksL l, pairO x ≠ none) ↔ (l.length % 2 = 0 ∧ ∀ c ∈ l, 0 ≤ hexV c)
  | [] => by simp [chunksL]
  | [a] => by simp [chunksL, pairO]
  | a :: b :: l => by
    have ih := chunks_ok l
    have e : pairO [a, b] ≠ none ↔ 0 ≤ hexV a ∧ 0 ≤ hexV b := by
      show (if 0 ≤ hexV a ∧ 0 ≤ hexV b then some (UInt8.ofNat (16 * (hexV a).toNat + (hexV b).toNat)) else none) ≠ none ↔ _
      split <;> simp_all
    simp only [chunksL, List.mem_cons, List.length_cons]
    constructor
    · intro h
      have h1 := e.1 (h _ (.inl rfl))
      have h2 := ih.1 fun x hx => h x (.inr hx)
      refine ⟨by omega, ?_⟩
      rintro c (rfl | rfl | hc)
      · exact h1.1
      · exact h1.2
      · exact h2.2 c hc
    · rintro ⟨h1, h2⟩ x (rfl | hx)
      · exact e.2 ⟨h2 a (.inl rfl), h2 b (.inr (.inl rfl))⟩
      · exact ih.2 ⟨by omega, fun c hc => h2 c (.inr (.inr hc))⟩ x hx
theorem readO_eq (l : List UInt8) (h : l ≠ [45]) : readO l = if l ≠ [] ∧ l.length % 2 = 0 ∧ ∀ c ∈ l, 0 ≤ hexV c then some ((chunksL l).filterMap pairO) else none := by
  unfold readO
  rw [if_neg h]
  by_cases h1 : l ≠ [] ∧ ∀ x ∈ chunksL l, pairO x ≠ none
  · rw [if_pos h1, if_pos ⟨h1.1, (chunks_ok l).1 h1.2⟩]
  · rw [if_neg h1, if_neg]
    rintro ⟨a, b⟩
    exact h1 ⟨a, (chunks_ok l).2 b⟩
variable [Errs]
set_option linter.unusedSectionVars false
set_option maxRecDepth 8000 in
set_option maxHeartbeats 1000000 in
theorem num2_calls (l : List UInt8) (hl : l.length ≤ 2) (hx : ∀ c ∈ l, 0 ≤ hexV c) (σ : Store) :
    ACalls Tryd.prog 63 [.lit (.string (toB l))] σ fun v σ' => v = .lit (.int .i64 (hexsV l)) ∧ σ' = σ := by
  have hsz := toB_size l
  have hbd : ∀ i, 0 ≤ hexsV (l.take i) ∧ hexsV (l.take i) < 256 := by
    match l, hl with
    | [], _ => simp [hexsV]
    | [a], _ =>
      have ha := hexV_lt a
      have ha2 := hx a (by simp)
      intro i
      match i with
      | 0 => simp [hexsV]
      | i + 1 => simp [hexsV]; omega
    | [a, b], _ =>
      have ha := hexV_lt a
      have ha2 := hx a (by simp)
      have hb := hexV_lt b
      have hb2 := hx b (by simp)
      intro i
      match i with
      | 0 => simp [hexsV]
      | 1 => simp [hexsV]; omega
      | i + 2 => simp [hexsV]; omega
  refine ACalls.of_awp follows (st := st63) (plans := pl63) (n := 32) Tryd.func63 rfl (by kernel_rfl) (by kernel_rfl) (by kernel_rfl) ?_
  simp
  refine codeK.loop follows (st := st63) (plans := pl63) (X := Nat) (fun i => i ≤ l.length)
    (fun i => [(0, .lit (.string (toB l))), (3, .lit (.int .i64 (hexsV (l.take i)))), (4, .lit (.int .i64 i))]) (fun _ => σ) (fun i => l.length - i) 0 (by kernel_rfl)
    (by simp) (by simp [hexsV]) (Store.sub_refl _) fun i hi => ?_
  by_cases hlt : i < l.length
  · obtain ⟨d, hd⟩ : ∃ d, l[i]'hlt = d := ⟨_, rfl⟩
    have hg : ∀ h, (toB l).data[i]'h = d := fun h => by rw [toB_at, List.getD_eq_getElem?_getD, List.getElem?_eq_getElem hlt, hd]; rfl
    have htk : l.take (i + 1) = l.take i ++ [d] := by rw [List.take_succ_eq_append_getElem hlt, hd]
    have hnx : hexsV (l.take (i + 1)) = 16 * hexsV (l.take i) + hexV d := by rw [htk]; simp [hexsV, List.foldl_append]
    obtain ⟨q1, q2, q3⟩ := hex_is d
    have hxd := hx d (by rw [← hd]; exact List.getElem_mem _)
    have hb1 := hbd i
    have hb2 := hbd (i + 1)
    have hw1 : IntKind.i64.wrap ((i : Int) + 1) = ((i + 1 : Nat) : Int) := by rw [wrap_i64 (by omega) (by omega)]; omega
    generalize hX : hexsV (l.take i) = X at *
    generalize hS : toB l = S at *
    by_cases h97 : 97 ≤ d.toNat
    · have hd2 : hexV d = d.toNat - 87 := q3 (by rcases q1.1 hxd with h | h <;> omega)
      have hu : IntKind.u8.wrap ((d.toNat : Int) - 97) = (d.toNat : Int) - 97 := wrap_u8 (by omega) (by have := d.toNat_lt; omega)
      have hge : (97 : Int) ≤ d.toNat := by omega
      have hdl := d.toNat_lt
      rw [hnx] at hb2
      have hwv : IntKind.i64.wrap (IntKind.i64.wrap (16 * X) + IntKind.i64.wrap (IntKind.i64.wrap ((d.toNat : Int) - 97) + 10)) = hexsV (l.take (i + 1)) := by
        rw [hnx, wrap_i64 (n := 16 * X) (by omega) (by omega), wrap_i64 (n := (d.toNat : Int) - 97) (by omega) (by omega), wrap_i64 (n := (d.toNat : Int) - 97 + 10) (by omega) (by omega), wrap_i64 (by omega) (by omega)]
        omega
      simp [hlt, hsz, hg, hu, hge, h97, hw1]
      exact ⟨i + 1, by omega, by omega, by rw [hwv]; exact AV.le_refl _, AV.le_refl _⟩
    · have hd2 : hexV d = d.toNat - 48 := q2 (by rcases q1.1 hxd with h | h <;> omega)
      have hu : IntKind.u8.wrap ((d.toNat : Int) - 48) = (d.toNat : Int) - 48 := wrap_u8 (by rcases q1.1 hxd with h | h <;> omega) (by have := d.toNat_lt; omega)
      have hge : ¬ (97 : Int) ≤ d.toNat := by omega
      have hdl := d.toNat_lt
      rw [hnx] at hb2
      have hwv : IntKind.i64.wrap (IntKind.i64.wrap (16 * X) + IntKind.i64.wrap ((d.toNat : Int) - 48)) = hexsV (l.take (i + 1)) := by
        rw [hnx, wrap_i64 (n := 16 * X) (by omega) (by omega), wrap_i64 (n := (d.toNat : Int) - 48) (by omega) (by omega), wrap_i64 (by omega) (by omega)]
        omega
      simp [hlt, hsz, hg, hu, hge, h97, hw1]
      exact ⟨i + 1, by omega, by omega, by rw [hwv]; exact AV.le_refl _, AV.le_refl _⟩
  · have : i = l.length := by omega
    subst this
    simp [hsz]
set_option maxRecDepth 8000 in
set_option maxHeartbeats 1000000 in
theorem rbytes_calls (l : List UInt8) (hl : l.length ≤ 100000) (σ : Store) :
    ACalls Tryd.prog 46 [.lit (.string (toB l))] σ fun v σ' => (∃ x, (∀ p, readO l = some p → x = p) ∧ v = .tuple [.list true 1 (bytesA x), .lit (.bool (readO l).isSome)]) ∧ σ' = σ := by
  have hsz := toB_size l
  refine ACalls.of_awp follows (st := st46) (plans := pl46) (n := 60) Tryd.func46 rfl (by kernel_rfl) (by kernel_rfl) (by kernel_rfl) ?_
  by_cases h0 : l = [45]
  · have hr : readO l = some [] := by unfold readO; rw [if_pos h0]
    simp [toB_toList, h0]
    rw [h0] at hr
    rw [hr]
    exact ⟨_, AV.le_refl _, [], by simp, rfl⟩
  have hro := readO_eq l h0
  have hcl := chunksL_len l
  simp [toB_toList, h0]
  refine codeK.loop follows (st := st46) (plans := pl46) (X := Nat) (fun i => i ≤ l.length ∧ ∀ c ∈ l.take i, 0 ≤ hexV c)
    (fun i => [(0, .lit (.string (toB l))), (4, .list true 1 (bytesA (((chunksL l).take (i / 2)).filterMap pairO))), (5, .lit (.int .i64 i))]) (fun _ => σ) (fun i => l.length - i) 0 (by kernel_rfl)
    (by simp) (by simp [bytesA]) (Store.sub_refl _) fun i hi => ?_
  obtain ⟨hi, hx⟩ := hi
  by_cases hlt : i < l.length
  · obtain ⟨d, hd⟩ : ∃ d, l[i]'hlt = d := ⟨_, rfl⟩
    have hg : ∀ h, (toB l).data[i]'h = d := fun h => by rw [toB_at, List.getD_eq_getElem?_getD, List.getElem?_eq_getElem hlt, hd]; rfl
    have htk : l.take (i + 1) = l.take i ++ [d] := by rw [List.take_succ_eq_append_getElem hlt, hd]
    obtain ⟨q1, q2, q3⟩ := hex_is d
    have hdl := d.toNat_lt
    have hw1 : IntKind.i64.wrap ((i : Int) + 1) = ((i + 1 : Nat) : Int) := by rw [wrap_i64 (by omega) (by omega)]; omega
    by_cases hxd : 0 ≤ hexV d
    · have hx2 : ∀ c ∈ l.take (i + 1), 0 ≤ hexV c := fun c hc => by
        rw [htk] at hc
        rcases List.mem_append.1 hc with h | h
        · exact hx c h
        · simp at h; subst h; exact hxd
      by_cases hodd : i % 2 = 1
      · obtain ⟨k, hk2⟩ : ∃ k, i = 2 * k + 1 := ⟨i / 2, by omega⟩
        have hm : (i : Int).tmod 2 = 1 := by rw [Int.tmod_eq_emod_of_nonneg (by omega)]; omega
        have hk := aSlice_str (P := Tryd.prog) (t := 9) (by simp) (by simp) l (2 * k) (2 * k + 2) ((2 * k : Nat) : Int) ((i : Int) + 1) rfl (by omega) (by omega) (by omega)
        rw [show 2 * k + 2 - 2 * k = 2 by omega] at hk
        have hw2 : IntKind.i64.wrap ((i : Int) - 1) = ((2 * k : Nat) : Int) := by rw [wrap_i64 (by omega) (by omega)]; omega
        have hpl : ((l.drop (2 * k)).take 2).length = 2 := by simp; omega
        have hpx : ∀ c ∈ (l.drop (2 * k)).take 2, 0 ≤ hexV c := fun c hc => by
          refine hx2 c ?_
          have : l.take (i + 1) = l.take (2 * k) ++ (l.drop (2 * k)).take 2 := by
            rw [← List.take_add, show 2 * k + 2 = i + 1 by omega]
          rw [this]; exact List.mem_append_right _ hc
        have hnum := fun τ => num2_calls _ (by omega) hpx τ
        obtain ⟨hp2, hq1, hq2⟩ := pairO_two hpl hpx
        have hch := chunksL_at l k (by omega)
        generalize (l.drop (2 * k)).take 2 = pr at *
        have hby : IntKind.u8.wrap (hexsV pr) = ((UInt8.ofNat (hexsV pr).toNat).toNat : Int) := by rw [wrap_u8 hq1 hq2, UInt8.toNat_ofNat', Nat.mod_eq_of_lt (by omega)]; omega
        have hdv : i / 2 = k := by omega
        have hdv2 : (i + 1) / 2 = k + 1 := by omega
        have hkU : k < (chunksL l).length := by omega
        have hUt : (chunksL l).take (k + 1) = (chunksL l).take k ++ [pr] := by
          rw [List.take_succ_eq_append_getElem hkU]
          rw [List.getElem?_eq_getElem hkU, Option.some.injEq] at hch
          rw [hch]
        have hfl : (((chunksL l).take k).filterMap pairO).length ≤ 100000 := by
          have h9 := List.length_filterMap_le pairO ((chunksL l).take k)
          rw [List.length_take] at h9
          omega
        rw [hdv]
        generalize hS : toB l = S at *
        generalize hZ : ((2 * k : Nat) : Int) = Z at *
        rcases q1.1 hxd with hr | hr
        · have f1 : ¬ (d.toNat : Int) < 48 := by omega
          have f2 : (48 : Int) ≤ d.toNat := by omega
          have f3 : ¬ (57 : Int) < d.toNat := by omega
          simp [-e_aSlice_1, -e_aSlice_2, hlt, hsz, hg, f1, f2, f3, hw1, hm, hk, hw2]
          refine callK.of (hnum _) ?_
          rintro v σ1 ⟨rfl, rfl⟩
          simp [-e_aSlice_1, -e_aSlice_2, hby]
          refine ⟨by omega, by omega, i + 1, ⟨by omega, hx2⟩, by omega, ?_, by rw [hw1]; exact AV.le_refl _⟩
          rw [hdv2, hUt, List.filterMap_append]
          simp [hp2, bytesA, byteA]
        · have f1 : ¬ (d.toNat : Int) < 48 := by omega
          have f2 : (48 : Int) ≤ d.toNat := by omega
          have f3 : (57 : Int) < d.toNat := by omega
          have f4 : ¬ (d.toNat : Int) < 97 := by omega
          have f5 : (97 : Int) ≤ d.toNat := by omega
          have f6 : ¬ (102 : Int) < d.toNat := by omega
          simp [-e_aSlice_1, -e_aSlice_2, hlt, hsz, hg, f1, f2, f3, f4, f5, f6, hw1, hm, hk, hw2]
          refine callK.of (hnum _) ?_
          rintro v σ1 ⟨rfl, rfl⟩
          simp [-e_aSlice_1, -e_aSlice_2, hby]
          refine ⟨by omega, by omega, i + 1, ⟨by omega, hx2⟩, by omega, ?_, by rw [hw1]; exact AV.le_refl _⟩
          rw [hdv2, hUt, List.filterMap_append]
          simp [hp2, bytesA, byteA]
      · have hm : ¬ (i : Int).tmod 2 = 1 := by rw [Int.tmod_eq_emod_of_nonneg (by omega)]; omega
        have hdv : (i + 1) / 2 = i / 2 := by omega
        rcases q1.1 hxd with hr | hr
        · have f1 : ¬ (d.toNat : Int) < 48 := by omega
          have f2 : (48 : Int) ≤ d.toNat := by omega
          have f3 : ¬ (57 : Int) < d.toNat := by omega
          simp [hlt, hsz, hg, f1, f2, f3, hw1, hm]
          exact ⟨i + 1, ⟨by omega, hx2⟩, by omega, by rw [hdv]; exact AV.le_refl _, AV.le_refl _⟩
        · have f1 : ¬ (d.toNat : Int) < 48 := by omega
          have f2 : (48 : Int) ≤ d.toNat := by omega
          have f3 : (57 : Int) < d.toNat := by omega
          have f4 : ¬ (d.toNat : Int) < 97 := by omega
          have f5 : (97 : Int) ≤ d.toNat := by omega
          have f6 : ¬ (102 : Int) < d.toNat := by omega
          simp [hlt, hsz, hg, f1, f2, f3, f4, f5, f6, hw1, hm]
          exact ⟨i + 1, ⟨by omega, hx2⟩, by omega, by rw [hdv]; exact AV.le_refl _, AV.le_refl _⟩
    · have hno : readO l = none := by
        rw [hro, if_neg]
        rintro ⟨_, _, h⟩
        exact hxd (h d (by rw [← hd]; exact List.getElem_mem _))
      rw [hno]
      rw [q1] at hxd
      rw [not_or] at hxd
      by_cases h1 : d.toNat < 48
      · have f1 : (d.toNat : Int) < 48 := by omega
        have f2 : ¬ (48 : Int) ≤ d.toNat := by omega
        have f4 : (d.toNat : Int) < 97 := by omega
        have f5 : ¬ (97 : Int) ≤ d.toNat := by omega
        simp [hlt, hsz, hg, f1, f2, f4, f5]
        exact ⟨_, AV.le_refl _, [], rfl⟩
      · have f1 : ¬ (d.toNat : Int) < 48 := by omega
        have f2 : (48 : Int) ≤ d.toNat := by omega
        have f3 : (57 : Int) < d.toNat := by omega
        by_cases h2 : d.toNat < 97
        · have f4 : (d.toNat : Int) < 97 := by omega
          have f5 : ¬ (97 : Int) ≤ d.toNat := by omega
          simp [hlt, hsz, hg, f1, f2, f3, f4, f5]
          exact ⟨_, AV.le_refl _, [], rfl⟩
        · have f4 : ¬ (d.toNat : Int) < 97 := by omega
          have f5 : (97 : Int) ≤ d.toNat := by omega
          have f6 : (102 : Int) < d.toNat := by omega
          simp [hlt, hsz, hg, f1, f2, f3, f4, f5, f6]
          exact ⟨_, AV.le_refl _, [], rfl⟩
  · have : i = l.length := by omega
    subst this
    rw [List.take_of_length_le (Nat.le_refl _)] at hx
    by_cases hl0 : l = []
    · have hno : readO l = none := by rw [hro, if_neg (fun h => h.1 hl0)]
      rw [hno]
      subst hl0
      simp [hsz]
      exact ⟨_, AV.le_refl _, _, rfl⟩
    · have hpos : 0 < l.length := List.length_pos_iff.2 hl0
      have hpos' : (0 : Int) < l.length := by omega
      by_cases hev : l.length % 2 = 0
      · have hsm : readO l = some ((chunksL l).filterMap pairO) := by rw [hro, if_pos ⟨hl0, hev, hx⟩]
        have hm : (l.length : Int).tmod 2 = 0 := by rw [Int.tmod_eq_emod_of_nonneg (by omega)]; omega
        have hU : (chunksL l).take (l.length / 2) = chunksL l := List.take_of_length_le (by omega)
        rw [hsm, hU]
        generalize (chunksL l).filterMap pairO = V at *
        simp [hsz, hpos, hpos', hm, hl0]
      · have hno : readO l = none := by rw [hro, if_neg (fun h => hev h.2.1)]
        have hm : ¬ (l.length : Int).tmod 2 = 0 := by rw [Int.tmod_eq_emod_of_nonneg (by omega)]; omega
        rw [hno]
        generalize ((chunksL l).take (l.length / 2)).filterMap pairO = V at *
        simp [hsz, hpos, hpos', hm, hl0]
        have hmb : ((l.length : Int).tmod 2 == 0) = false := by simpa using hm
        exact ⟨_, AV.le_refl _, V, by rw [hmb]⟩
end Go.Proofs.YtheldoijfnigoaaDoor
/-
  The document's line of bytes, and its numbers.
-/
namespace Go.Proofs.YtheldoijfnigoaaDoor
open Go Go.AL

def wordB : List UInt8 := [98, 121, 116, 101, 115]
theorem split_word (x : List UInt8) (h : (32 : UInt8) ∉ x) : splitL 32 ([98, 121, 116, 101, 115, 32] ++ x) = [wordB, x] := by
  have : [98, 121, 116, 101, 115, 32] ++ x = wordB ++ 32 :: x := rfl
  rw [this, splitL_cut 32 x wordB (by decide), splitL_none 32 x h]
variable [Errs]
set_option linter.unusedSectionVars false
set_option maxRecDepth 8000 in
set_option maxHeartbeats 1000000 in
theorem rread_calls (x : List UInt8) (hx : (32 : UInt8) ∉ x) (hl : x.length ≤ 90000) (σ : Store) :
    ACalls Tryd.prog 26 [.lit (.string (toB ([98, 121, 116, 101, 115, 32] ++ x)))] σ fun v σ' => (∃ y, (∀ p, readO x = some p → y = p) ∧ v = .agg [.lit (.bool (!(readO x).isSome)), .lit (.string (toB wordB)), .lit (.int .i64 0), .lit (.int .i64 0), .list false 1 (bytesA y), .lit (.string ⟨#[]⟩), .lit (.bool false), .lit (.int .i64 0), .lit (.int .i32 0), .lit (.int .i64 0)]) ∧ σ' = σ := by
  have hsp := fun τ => rsplit_calls ([98, 121, 116, 101, 115, 32] ++ x) (by simp; omega) 32 τ
  rw [split_word x hx] at hsp
  have hby := fun τ => rbytes_calls x (by omega) τ
  refine ACalls.of_awp follows (st := st26) (plans := pl26) (n := 189) Tryd.func26 rfl (by kernel_rfl) (by kernel_rfl) (by kernel_rfl) ?_
  generalize hS : toB ([98, 121, 116, 101, 115, 32] ++ x) = S at *
  simp
  intro p hp q hq
  rw [ite_none] at hq
  obtain ⟨n1, hq⟩ := hq
  have n2 : ¬ p = q := fun e => n1 e.symm
  refine callK.of (hsp _) ?_
  rintro v σ1 ⟨rfl, rfl⟩
  have hw : (toB wordB).toList = [98, 121, 116, 101, 115] := toB_toList _
  simp [strsA, n1, n2, hw]
  intro r hr
  rw [ite_none, ite_none] at hr
  obtain ⟨n3, n4, hr⟩ := hr
  have n5 : ¬ q = r := fun e => n3 e.symm
  have n6 : ¬ p = r := fun e => n4 e.symm
  refine callK.of (hby _) ?_
  rintro v σ1 ⟨⟨y, hy, rfl⟩, rfl⟩
  simp [n1, n2, n3, n4, n5, n6]
  refine ⟨_, AV.le_refl _, ?_, y, hy, ?_⟩
  · (intro q; simp only [Store.upd, Store.del]; (repeat' split) <;> first | exact Or.inr rfl | exact Or.inl rfl | (exfalso; omega) | (left; subst_vars; assumption) | simp_all)
  · rfl
end Go.Proofs.YtheldoijfnigoaaDoor
