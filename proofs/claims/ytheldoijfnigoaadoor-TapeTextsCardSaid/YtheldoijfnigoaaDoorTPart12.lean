/-
  Numbers as texts: what the program reads.
-/
import Derived.Test.YtheldoijfnigoaaDoorTPart11
import Derived.Lib.AtoiErrMem
import Derived.Lib.ParseIntBTie
import Derived.WalkKit
import Derived.BigCall
set_option linter.unusedSimpArgs false
set_option linter.unusedVariables false
namespace Go.Proofs.YtheldoijfnigoaaDoor
open Go Go.AL Go.RowKit

/-- A number's text, read back as it was written. -/
def numO (B : Nat) (s : List UInt8) : Option Int :=
  match Lib.parseIntB B s with
  | .ok v => if Lib.itoa v = s then some v else none
  | _ => none

variable [Errs]
set_option linter.unusedSectionVars false
theorem below_WR {D : Nat → Prop} {G : Ghost} {σ : Store} {w w' : World} (hW : WR D G σ w) (hD : ∀ k, w.heap.size ≤ k → D k) (h : Below w.heap.size w w') : WR D G σ w' ∧ Ext D G w G w' := by
  obtain ⟨h1, h2, h3, h4, h5⟩ := h
  refine ⟨hW.grow h5 fun k hd _ => hd, ⟨h1, h2, h3, h4, fun _ _ _ h => h, fun k hk => ⟨?_, rfl, rfl⟩⟩⟩
  rcases Nat.lt_or_ge k w.heap.size with hlt | hge
  · exact h5 k hlt
  · exact absurd (hD k hge) hk
theorem grow_below (w : World) (k : Nat) (os : Array Obj) : Below w.heap.size w (Go.Sort.grow (w.drewN k) os) := by
  refine ⟨rfl, rfl, rfl, ?_, fun i hi => ?_⟩
  · simp [Go.Sort.grow, World.drewN]
  · simp only [Go.Sort.grow, World.drewN]
    rw [Array.getElem?_append_left hi]
theorem tab1 {D : Nat → Prop} {G : Ghost} {σ : Store} {w : World} (hW : WR D G σ w) : Lib.TabIs Tryd.prog w "internal/strconv.uint64pow10" .u64 Lib.pow10Tab := by
  obtain ⟨_, T, fz, h⟩ := hW.vars 1 pow10A rfl
  unfold Lib.TabIs World.var?
  rw [show Tryd.prog.globalNamed "internal/strconv.uint64pow10" = some 1 by kernel_rfl]
  simp [h, pow10A]
theorem err_syn {D : Nat → Prop} {G : Ghost} {σ : Store} {w : World} (hW : WR D G σ w) : w.cell? ⟨4, 0, none⟩ = some (.iface Errs.ts Errs.vs) := by
  obtain ⟨_, T, fz, h⟩ := hW.vars 4 _ rfl
  rw [cell_of_row w 4 0 _ _ _ h]; rfl
theorem err_ran {D : Nat → Prop} {G : Ghost} {σ : Store} {w : World} (hW : WR D G σ w) : w.cell? ⟨5, 0, none⟩ = some (.iface Errs.tr Errs.vr) := by
  obtain ⟨_, T, fz, h⟩ := hW.vars 5 _ rfl
  rw [cell_of_row w 5 0 _ _ _ h]; rfl
theorem args2 {cargs : Array Value} (h : cargs.size = 2) : ∃ a b, cargs = #[a, b] := by
  rcases cargs with ⟨l⟩
  match l, h with
  | [a, b], _ => exact ⟨a, b, rfl⟩
theorem args1 {cargs : Array Value} (h : cargs.size = 1) : ∃ a, cargs = #[a] := by
  rcases cargs with ⟨l⟩
  match l, h with
  | [a], _ => exact ⟨a, rfl⟩
theorem itoa_calls (n : Int) (h0 : -9223372036854775808 ≤ n) (h1 : n ≤ 9223372036854775807) (σ : Store) : ACalls Tryd.prog 33 [.lit (.int .i64 n)] σ fun v σ' => v = .lit (.string (toB (Lib.itoa n))) ∧ σ' = σ := by
  intro D G w cargs hl hargs hW hfresh
  obtain ⟨c0, rfl⟩ := args1 (by simpa using hl.symm)
  have e0 := (hargs 0 _ c0 rfl rfl).1.lit_eq rfl
  subst e0
  refine (itoa_run n h0 h1 w (tab1 hW)).mono ?_
  rintro e w' ⟨rfl, k, os, rfl⟩
  obtain ⟨r1, r2⟩ := below_WR hW hfresh (grow_below w k os)
  exact ⟨_, _, G, _, rfl, ⟨rfl, rfl⟩, .lit _, OwnAt.of_plain rfl, r1, r2⟩
theorem tab_of {w : World} {T : TypeId} {fz : Nat × Nat} (h : w.heap[1]? = some (.cells pow10A T fz)) : Lib.TabIs Tryd.prog w "internal/strconv.uint64pow10" .u64 Lib.pow10Tab := by
  unfold Lib.TabIs World.var?
  rw [show Tryd.prog.globalNamed "internal/strconv.uint64pow10" = some 1 by kernel_rfl]
  simp [h, pow10A]
set_option maxRecDepth 100000 in
theorem number_run (B : Nat) (hB : B = 64 ∨ B = 32) (s : List UInt8) (hs : s.length ≤ 1000000) (w : World) {te tr : TypeId} {ve vr : Value} (he : w.cell? ⟨4, 0, none⟩ = some (.iface te ve)) (hr : w.cell? ⟨5, 0, none⟩ = some (.iface tr vr))
    {T : TypeId} {fz : Nat × Nat} (ht : w.heap[1]? = some (.cells pow10A T fz)) :
    Calls Tryd.prog 43 #[.string (toB s), .int .i64 B] w fun e w' => Below w.heap.size w w' ∧ ∃ n, (∀ m, numO B s = some m → n = m) ∧ e = .returned (.tuple #[.int .i64 n, .bool (numO B s).isSome]) := by
  have hpr := parse_run B hB (toB s) (by rw [toB_size]; exact hs) w he hr
  rw [toB_data] at hpr
  go_enter Tryd.func43, Tryd.ntmps43
  go_wp2_with (go_at_call 60; refine hpr.mono ?_)
  rintro e w1 ⟨hb, ⟨v, hv, rfl⟩ | ⟨hv, n, T', x, rfl⟩⟩
  · have hb1 : -9223372036854775808 ≤ v ∧ v ≤ 9223372036854775807 := by
      have := Lib.parseIntB_bounds hv
      rcases hB with rfl | rfl <;> simp at this <;> omega
    have hlt : 1 < w.heap.size := (Array.getElem?_eq_some_iff.1 ht).1
    have ht1 : w1.heap[1]? = some (.cells pow10A T fz) := by
      obtain ⟨b1, b2, b3, b4, b5⟩ := hb
      rw [b5 1 hlt]; exact ht
    go_wp2_with (go_at_call 61; refine (fmt_run v hb1.1 hb1.2 _ (tab_of ht1)).mono ?_)
    rintro e w2 ⟨rfl, k, os, rfl⟩
    go_wp2
    go_ret2
    have hn : numO B s = if Lib.itoa v = s then some v else none := by unfold numO; rw [hv]
    refine ⟨?_, v, ?_, ?_⟩
    · obtain ⟨b1, b2, b3, b4, b5⟩ := hb
      obtain ⟨c1, c2, c3, c4, c5⟩ := grow_below w1 k os
      exact ⟨c1.trans b1, c2.trans b2, c3.trans b3, by omega, fun i hi => (c5 i (by omega)).trans (b5 i hi)⟩
    · intro m hm
      rw [hn] at hm
      split at hm
      · simpa using hm
      · cases hm
    · rw [hn]
      by_cases e : Lib.itoa v = s
      · rw [if_pos e]
        simp [toB, e]
      · rw [if_neg e]
        simp [toB, e]
        trace_state
  · have hn : numO B s = none := by
      unfold numO
      split
      · rename_i v e; exact absurd e (hv v)
      · rfl
    go_wp2
    go_ret2
    exact ⟨hb, n, by rw [hn]; simp, by rw [hn]; rfl⟩
theorem number_calls (B : Nat) (hB : B = 64 ∨ B = 32) (s : List UInt8) (hs : s.length ≤ 1000000) (σ : Store) :
    ACalls Tryd.prog 43 [.lit (.string (toB s)), .lit (.int .i64 B)] σ fun v σ' => (∃ n, (∀ m, numO B s = some m → n = m) ∧ v = .tuple [.lit (.int .i64 n), .lit (.bool (numO B s).isSome)]) ∧ σ' = σ := by
  intro D G w cargs hl hargs hW hfresh
  obtain ⟨c0, c1, rfl⟩ := args2 (by simpa using hl.symm)
  have e0 := (hargs 0 _ c0 rfl rfl).1.lit_eq rfl
  have e1 := (hargs 1 _ c1 rfl rfl).1.lit_eq rfl
  subst e0 e1
  obtain ⟨_, T, fz, ht⟩ := hW.vars 1 pow10A rfl
  refine (number_run B hB s hs w (err_syn hW) (err_ran hW) ht).mono ?_
  rintro e w' ⟨hb, n, h1, rfl⟩
  obtain ⟨r1, r2⟩ := below_WR hW hfresh hb
  refine ⟨_, _, G, _, rfl, ⟨⟨n, h1, rfl⟩, rfl⟩, ?_, OwnAt.of_plain rfl, r1, r2⟩
  refine .tuple _ _ rfl fun i c u hc hu => ?_
  match i with
  | 0 => simp at hc hu; subst hc hu; exact .lit _
  | 1 => simp at hc hu; subst hc hu; exact .lit _
  | i + 2 => simp at hc
end Go.Proofs.YtheldoijfnigoaaDoor
/-
  A line's step, a text's steps: what the program reads.
-/
namespace Go.Proofs.YtheldoijfnigoaaDoor
open Go Go.AL

/-- A key's kind, sign, number. -/
structure Ky where
  kind : Int
  sign : Int
  n : Int
  deriving DecidableEq
structure Stp where
  kind : UInt8
  bytes : List UInt8
  key : Ky
  deriving DecidableEq
def Ky.zero : Ky := ⟨0, 0, 0⟩
def Stp.zero : Stp := ⟨0, [], .zero⟩
def kyA (k : Ky) : List AV := [.lit (.int .i64 k.kind), .lit (.int .i32 k.sign), .lit (.int .i64 k.n)]
def stpA (x : Stp) : AV := .agg [byteA x.kind, .list false 1 (bytesA x.bytes), .lit (.int .i64 x.key.kind), .lit (.int .i32 x.key.sign), .lit (.int .i64 x.key.n)]
def stpsA (l : List Stp) : List AV := l.map stpA
@[simp] theorem stpsA_length (l : List Stp) : (stpsA l).length = l.length := by simp [stpsA]
def keyO : List (List UInt8) → Option Ky
  | [a, b, c] => match numO 64 a, numO 32 b, numO 64 c with
    | some k, some s, some n => some ⟨k, s, n⟩
    | _, _, _ => none
  | _ => none
def oneL : List (List UInt8) → Option (List UInt8)
  | [x] => some x
  | _ => none
def lineO (s : List UInt8) : Option Stp :=
  match splitL 32 s with
  | [] => none
  | w :: r => if w = [72] ∨ w = [79] then (oneL r).bind fun x => (readO x).map fun p => ⟨w.headD 0, p, .zero⟩
    else if w = [75] then (keyO r).map fun k => ⟨75, [], k⟩ else none
def parseL : List (List UInt8) → List Stp → List Stp × Nat × Bool
  | [], acc => (acc, acc.length, true)
  | [l], acc => if l = [] then (acc, acc.length, true) else ([], acc.length + 1, false)
  | s :: r, acc => match lineO s with
    | none => ([], acc.length + 1, false)
    | some x => parseL r (acc ++ [x])
theorem numO_bounds {B : Nat} {s : List UInt8} {v : Int} (h : numO B s = some v) : -((2 ^ (B - 1) : Nat) : Int) ≤ v ∧ v < ((2 ^ (B - 1) : Nat) : Int) := by
  unfold numO at h
  split at h
  · rename_i v' e
    split at h
    · rw [← Option.some.inj h]; exact Lib.parseIntB_bounds e
    · cases h
  · cases h

theorem wrap_i32 {n : Int} (h0 : -2147483648 ≤ n) (h1 : n ≤ 2147483647) : IntKind.i32.wrap n = n := by
  unfold IntKind.wrap
  simp [IntKind.bits, IntKind.signed]
  omega
variable [Errs]
set_option linter.unusedSectionVars false
set_option maxRecDepth 8000 in
theorem key_calls (o : Bool) (l : List (List UInt8)) (hl : ∀ x ∈ l, x.length ≤ 1000000) (hn : l.length ≤ 1000000) (σ : Store) :
    ACalls Tryd.prog 25 [.list o 1 (strsA l)] σ fun v σ' => (∃ k, (∀ m, keyO l = some m → k = m) ∧ v = .tuple [.agg (kyA k), .lit (.bool (keyO l).isSome)]) ∧ σ' = σ := by
  refine ACalls.of_awp follows (st := st25) (plans := pl25) (n := 47) Tryd.func25 rfl (by kernel_rfl) (by kernel_rfl) (by kernel_rfl) ?_
  by_cases h3 : l.length = 3
  · match l, h3 with
    | [a, b, c], _ =>
      have ha := number_calls 64 (.inl rfl) a (hl a (by simp))
      have hb := number_calls 32 (.inr rfl) b (hl b (by simp))
      have hc := number_calls 64 (.inl rfl) c (hl c (by simp))
      have hko : keyO [a, b, c] = match numO 64 a, numO 32 b, numO 64 c with
        | some k, some s, some n => some ⟨k, s, n⟩
        | _, _, _ => none := rfl
      have hbb := fun v => numO_bounds (B := 32) (s := b) (v := v)
      simp [strsA]
      intro p hp
      refine callK.of (ha _) ?_
      rintro v σ1 ⟨⟨k, hk, rfl⟩, rfl⟩
      simp
      refine callK.of (hb _) ?_
      rintro v σ2 ⟨⟨s, hs, rfl⟩, rfl⟩
      simp
      refine callK.of (hc _) ?_
      rintro v σ3 ⟨⟨n, hn, rfl⟩, rfl⟩
      have hk2 : ∀ m, keyO [a, b, c] = some m → (⟨k, IntKind.i32.wrap s, n⟩ : Ky) = m := by
        intro m hm
        rw [hko] at hm
        cases e1 : numO 64 a with
        | none => rw [e1] at hm; cases hm
        | some k' =>
          cases e2 : numO 32 b with
          | none => rw [e1, e2] at hm; cases hm
          | some s' =>
            cases e3 : numO 64 c with
            | none => rw [e1, e2, e3] at hm; cases hm
            | some n' =>
              rw [e1, e2, e3] at hm
              have h4 := hbb s' e2
              simp at h4
              rw [hk _ e1, hs _ e2, hn _ e3, wrap_i32 (by omega) (by omega)]
              exact Option.some.inj hm
      have hks : (keyO [a, b, c]).isSome = ((numO 64 a).isSome && (numO 32 b).isSome && (numO 64 c).isSome) := by
        rw [hko]
        cases numO 64 a <;> cases numO 32 b <;> cases numO 64 c <;> rfl
      rw [hks]
      generalize (numO 64 a).isSome = x1 at *
      generalize (numO 32 b).isSome = x2 at *
      generalize (numO 64 c).isSome = x3 at *
      have hfin : Store.sub σ (σ.upd p [AV.lit (.int .i64 k), .lit (.int .i32 (IntKind.i32.wrap s)), .lit (.int .i64 n)]) := by (intro q; simp only [Store.upd, Store.del]; (repeat' split) <;> first | exact Or.inr rfl | exact Or.inl rfl | (exfalso; omega) | (left; subst_vars; assumption) | simp_all)
      cases x1 <;> cases x2 <;> cases x3 <;> simp <;> exact ⟨_, AV.le_refl _, hfin, _, hk2, rfl⟩
  · have hno : keyO l = none := by
      unfold keyO
      split
      · simp at h3
      · rfl
    have h3' : ¬ (l.length : Int) = 3 := by omega
    simp [h3, h3', hno]
    intro p hp
    refine ⟨_, AV.le_refl _, ?_, .zero, rfl⟩
    (intro q; simp only [Store.upd, Store.del]; (repeat' split) <;> first | exact Or.inr rfl | exact Or.inl rfl | (exfalso; omega) | (left; subst_vars; assumption) | simp_all)
end Go.Proofs.YtheldoijfnigoaaDoor
/-
  A line's step: tape.ReadLine.
-/
namespace Go.Proofs.YtheldoijfnigoaaDoor
open Go Go.AL

def lineE (s : List UInt8) : Int := if (lineO s).isSome then 0 else 4
theorem splitL_cons (c : UInt8) (l : List UInt8) : ∃ w r, splitL c l = w :: r := by
  have h := splitL_len c l
  cases e : splitL c l with
  | nil => rw [e] at h; simp at h
  | cons w r => exact ⟨w, r, rfl⟩
theorem splitL_sizes (c : UInt8) : ∀ l : List UInt8, ∀ x ∈ splitL c l, x.length ≤ l.length
  | [], x, h => by simp [splitL] at h; subst h; simp
  | b :: l, x, h => by
    rw [splitL] at h
    split at h
    · rcases List.mem_cons.1 h with rfl | h
      · simp
      · have := splitL_sizes c l x h; simp; omega
    · have ih := splitL_sizes c l
      split at h
      · simp at h; subst h; simp
      · rename_i e
        rw [e] at ih
        rename_i h0 t0
        rcases List.mem_cons.1 h with rfl | h
        · have := ih h0 (by simp); simp; omega
        · have := ih x (by simp [h]); simp; omega
theorem oneL_not : ∀ r : List (List UInt8), (¬ ∃ x, r = [x]) → oneL r = none ∧ r.length ≠ 1
  | [], _ => ⟨rfl, by simp⟩
  | [x], h => absurd ⟨x, rfl⟩ h
  | a :: b :: r, _ => ⟨rfl, by simp⟩
theorem toB_toList (l : List UInt8) : (toB l).toList = l := by rw [ByteArray.toList_eq, toB_data]
variable [Errs]
set_option linter.unusedSectionVars false
set_option maxRecDepth 8000 in
set_option maxHeartbeats 1000000 in
theorem line_calls (s : List UInt8) (hs : s.length ≤ 100000) (σ : Store) :
    ACalls Tryd.prog 11 [.lit (.string (toB s))] σ fun v σ' => v = .tuple [stpA ((lineO s).getD .zero), .lit (.int .i64 (lineE s))] ∧ σ' = σ := by
  have hsp := fun τ => split_calls s (by omega) 32 τ
  have hsz := splitL_sizes 32 s
  have hcn := splitL_len 32 s
  have hcc := s.count_le_length (a := 32)
  obtain ⟨w, r, e⟩ := splitL_cons 32 s
  have hlo : lineO s = if w = [72] ∨ w = [79] then (oneL r).bind fun x => (readO x).map fun p => ⟨w.headD 0, p, .zero⟩
    else if w = [75] then (keyO r).map fun k => ⟨75, [], k⟩ else none := by unfold lineO; rw [e]
  unfold lineE
  rw [hlo]
  rw [e] at hsp hsz hcn
  have hky := fun τ => key_calls false r (fun x hx => by have := hsz x (by simp [hx]); omega) (by simp at hcn; omega) τ
  refine ACalls.of_awp follows (st := st11) (plans := pl11) (n := 51) Tryd.func11 rfl (by kernel_rfl) (by kernel_rfl) (by kernel_rfl) ?_
  simp
  intro p hp
  refine callK.of (hsp _) ?_
  rintro v σ1 ⟨rfl, rfl⟩
  have hback : ∀ X, Store.sub σ (σ.upd p X) := fun X => sub_upd_self _ _ _ hp
  by_cases hw : w = [72] ∨ w = [79]
  · by_cases hr : ∃ x, r = [x]
    · obtain ⟨x, rfl⟩ := hr
      have hrd := fun τ => read_calls x (by have := hsz x (by simp); omega) τ
      rw [if_pos hw]
      cases hx : readO x with
      | none =>
        rw [hx] at hrd
        have ho : ∀ k : UInt8, ((oneL [x]).bind fun x => (readO x).map fun p => (⟨k, p, .zero⟩ : Stp)) = none := fun k => by simp [oneL, hx]
        rw [ho]
        rcases hw with rfl | rfl
        all_goals
          simp [strsA, toB_toList]
          refine callK.of (hrd _) ?_
          rintro v σ1 ⟨⟨y, hy, rfl⟩, rfl⟩
          simp
          exact ⟨AV.le_refl _, hback _⟩
      | some b =>
        rw [hx] at hrd
        have ho : ∀ k : UInt8, ((oneL [x]).bind fun x => (readO x).map fun p => (⟨k, p, .zero⟩ : Stp)) = some ⟨k, b, .zero⟩ := fun k => by simp [oneL, hx]
        rw [ho]
        rcases hw with rfl | rfl
        all_goals
          simp [strsA, toB_toList]
          refine callK.of (hrd _) ?_
          rintro v σ1 ⟨⟨y, hy, rfl⟩, rfl⟩
          obtain rfl := hy _ rfl
          simp [toB]
          exact ⟨AV.le_refl _, hback _⟩
    · obtain ⟨hn, hl1⟩ := oneL_not r hr
      have hrl : ¬ (r.length : Int) + 1 = 2 := by omega
      rw [if_pos hw, hn]
      rcases hw with rfl | rfl
      all_goals
        simp [strsA, toB_toList, hrl]
        exact ⟨AV.le_refl _, hback _⟩
  · rw [if_neg hw]
    rw [not_or] at hw
    by_cases h3 : w = [75]
    · rw [if_pos h3]
      subst h3
      have ht : List.take r.length (List.map (fun x => AV.lit (Value.string (toB x))) r) = strsA r := List.take_of_length_le (by simp)
      simp [strsA, toB_toList, ht]
      refine callK.of (hky _) ?_
      rintro v σ1 ⟨⟨k, hk, rfl⟩, rfl⟩
      cases hx : keyO r with
      | none =>
        simp
        intro q hq
        rw [ite_none] at hq
        obtain ⟨n1, hq⟩ := hq
        have n2 : ¬ p = q := fun e => n1 e.symm
        simp [kyA, n1, n2]
        refine ⟨AV.le_refl _, ?_⟩
        (intro q; simp only [Store.upd, Store.del]; (repeat' split) <;> first | exact Or.inr rfl | exact Or.inl rfl | (exfalso; omega) | (left; subst_vars; assumption) | simp_all)
      | some k' =>
        obtain rfl := hk _ hx
        simp
        intro q hq
        rw [ite_none] at hq
        obtain ⟨n1, hq⟩ := hq
        have n2 : ¬ p = q := fun e => n1 e.symm
        simp [kyA, n1, n2]
        refine ⟨AV.le_refl _, ?_⟩
        (intro q; simp only [Store.upd, Store.del]; (repeat' split) <;> first | exact Or.inr rfl | exact Or.inl rfl | (exfalso; omega) | (left; subst_vars; assumption) | simp_all)
    · rw [if_neg h3]
      simp [strsA, toB_toList, hw.1, hw.2, h3]
      exact ⟨AV.le_refl _, hback _⟩
end Go.Proofs.YtheldoijfnigoaaDoor
/-
  A text's steps: tape.Parse.
-/
namespace Go.Proofs.YtheldoijfnigoaaDoor
open Go Go.AL

theorem stpsA_append (a b : List Stp) : stpsA (a ++ b) = stpsA a ++ stpsA b := by simp [stpsA]
def parseT (t : List UInt8) : List Stp × Nat × Bool := parseL (splitL 10 t) []
def parA (x : List Stp × Nat × Bool) : AV := .tuple [.list true 5 (stpsA x.1), .lit (.int .i64 x.2.1), .lit (.int .i64 (if x.2.2 then 0 else 4))]
variable [Errs]
set_option linter.unusedSectionVars false
theorem cutL_len (c : UInt8) (l : List UInt8) : (cutL c l).1.length ≤ l.length ∧ (l ≠ [] → (cutL c l).2.1.length < l.length) := by
  by_cases h : c ∈ l
  · obtain ⟨pre, post, rfl, h2, h3⟩ := indexByte_split l c (List.count_pos_iff.2 h)
    rw [cutL_some c h3]
    exact ⟨by simp, fun _ => by simp; omega⟩
  · rw [cutL_none c h]
    exact ⟨by simp, fun h => by simpa using List.length_pos_iff.2 h⟩
theorem parse_step (t : List UInt8) (acc : List Stp) (h : t ≠ []) : parseL (splitL 10 t) acc =
    if (cutL 10 t).2.2 = true ∧ (lineO (cutL 10 t).1).isSome = true then parseL (splitL 10 (cutL 10 t).2.1) (acc ++ [(lineO (cutL 10 t).1).getD .zero]) else ([], acc.length + 1, false) := by
  by_cases hc : (10 : UInt8) ∈ t
  · obtain ⟨pre, post, rfl, h2, h3⟩ := indexByte_split t 10 (List.count_pos_iff.2 hc)
    rw [cutL_some 10 h3, splitL_cut 10 post pre h2]
    obtain ⟨w, r, e⟩ := splitL_cons 10 post
    rw [e]
    show (match lineO pre with | none => ([], acc.length + 1, false) | some x => parseL (w :: r) (acc ++ [x])) = _
    cases lineO pre <;> simp
  · rw [cutL_none 10 hc, splitL_none 10 t hc]
    show (if t = [] then (acc, acc.length, true) else ([], acc.length + 1, false)) = _
    rw [if_neg h]; simp

set_option maxRecDepth 8000 in
set_option maxHeartbeats 1000000 in
theorem parse_text_calls (t : List UInt8) (ht : t.length ≤ 100000) (σ : Store) :
    ACalls Tryd.prog 7 [.lit (.string (toB t))] σ fun v σ' => v = parA (parseT t) ∧ σ' = σ := by
  refine ACalls.of_awp follows (st := st7) (plans := pl7) (n := 41) Tryd.func7 rfl (by kernel_rfl) (by kernel_rfl) (by kernel_rfl) ?_
  simp
  refine codeK.loop follows (st := st7) (plans := pl7) (X := List Stp × List UInt8) (fun x => parseL (splitL 10 x.2) x.1 = parseT t ∧ x.1.length + x.2.length ≤ t.length)
    (fun x => [(0, .lit (.string (toB x.2))), (5, .list true 5 (stpsA x.1))]) (fun _ => σ) (fun x => x.2.length) ([], t) (by kernel_rfl) ⟨rfl, by simp⟩ (by simp [stpsA]) (Store.sub_refl _) fun x hx => ?_
  obtain ⟨acc, s⟩ := x
  obtain ⟨h1, h2⟩ := hx
  dsimp only at h1 h2 ⊢
  by_cases hs : s = []
  · subst hs
    have e : parseT t = (acc, acc.length, true) := by rw [← h1]; rfl
    rw [e]
    simp [toB_toList, parA]
  · have hst := parse_step s acc hs
    rw [h1] at hst
    obtain ⟨hl1, hl2⟩ := cutL_len 10 s
    have hl2 := hl2 hs
    have hcu := fun τ => cut_calls s (by omega) 10 τ
    have hln := fun τ => line_calls (cutL 10 s).1 (by omega) τ
    simp [toB_toList, hs]
    refine callK.of (hcu _) ?_
    rintro v σ1 ⟨rfl, rfl⟩
    generalize cutL 10 s = C at *
    obtain ⟨a, b, ok⟩ := C
    dsimp only at hl1 hl2 hln hst
    simp [cutA]
    refine callK.of (hln _) ?_
    rintro v σ1 ⟨rfl, rfl⟩
    unfold lineE
    have hlw : IntKind.i64.wrap ((acc.length : Int) + 1) = (acc.length : Int) + 1 := wrap_i64 (by omega) (by omega)
    have hfr : ∀ (p : Nat) X, σ1 p = none → Store.sub σ1 (σ1.upd p X) := fun p X hp => sub_upd_self _ _ _ hp
    cases hlo : lineO a with
    | none =>
      rw [hlo] at hst
      rw [if_neg (by simp)] at hst
      rw [hst]
      cases ok <;> simp [stpA, parA, hlw]
      all_goals
        intro p hp
        exact ⟨AV.le_refl _, hfr p _ hp⟩
    | some x =>
      rw [hlo] at hst
      cases ok
      · rw [if_neg (by simp)] at hst
        rw [hst]
        simp [stpA, parA, hlw]
        intro p hp
        exact ⟨AV.le_refl _, hfr p _ hp⟩
      · rw [if_pos (by simp)] at hst
        simp [stpA, parA]
        intro p hp
        refine ⟨by omega, by omega, acc ++ [x], b, ⟨by rw [hst]; simp, by simp; omega⟩, by omega, ⟨AV.le_refl _, ?_⟩, hfr p _ hp⟩
        simp [stpsA, stpA, byteA]
        trace_state
end Go.Proofs.YtheldoijfnigoaaDoor
/-
  The document's Split.
-/
namespace Go.Proofs.YtheldoijfnigoaaDoor
open Go Go.AL

variable [Errs]
set_option linter.unusedSectionVars false
end Go.Proofs.YtheldoijfnigoaaDoor
/-
  The document's bytes of a word.
-/
namespace Go.Proofs.YtheldoijfnigoaaDoor
open Go Go.AL

variable [Errs]
set_option linter.unusedSectionVars false
end Go.Proofs.YtheldoijfnigoaaDoor
/-
  The document's line of bytes, and its numbers.
-/
namespace Go.Proofs.YtheldoijfnigoaaDoor
open Go Go.AL

def wordB : List UInt8 := [98, 121, 116, 101, 115]
variable [Errs]
set_option linter.unusedSectionVars false
end Go.Proofs.YtheldoijfnigoaaDoor
/-
  Numbers as texts: which texts are numbers.
-/
namespace Go.Proofs.YtheldoijfnigoaaDoor
open Go Go.Lib

theorem dec_len : ∀ (k n : Nat), n < 10 ^ (k + 1) → (decDigits n).length ≤ k + 1
  | 0, n, h => by rw [decDigits, dif_pos (by simpa using h)]; simp
  | k + 1, n, h => by
    by_cases h0 : n < 10
    · rw [decDigits, dif_pos h0]; simp
    · rw [decDigits, dif_neg h0]
      have := dec_len k (n / 10) (by rw [Nat.pow_succ] at h; omega)
      simp; omega
def sgn (mi : Bool) (d : List UInt8) : List UInt8 := if mi then 45 :: d else d
def valZ (mi : Bool) (n : Nat) : Int := if mi then -(n : Int) else n
theorem itoa_shape {v : Int} {s : List UInt8} (h : itoa v = s) (h0 : -9223372036854775808 ≤ v) (h1 : v ≤ 9223372036854775807) :
    ∃ mi d, s = sgn mi d ∧ (∀ c ∈ d, Dig c) ∧ d ≠ [] ∧ d.length ≤ 19 ∧ (d.head? = some 48 → d.length = 1 ∧ mi = false) ∧ v = valZ mi (decV d) := by
  obtain ⟨g1, g2, g3, g4⟩ := dec_good v.natAbs
  have g5 := dec_len 18 v.natAbs (by omega)
  have hz : v.natAbs = 0 → (decDigits v.natAbs).length = 1 := fun e => by rw [e, decDigits, dif_pos (by omega)]; rfl
  by_cases hv : v < 0
  · refine ⟨true, decDigits v.natAbs, ?_, g1, g3, g5, fun e => ?_, ?_⟩
    · rw [← h]; unfold itoa; rw [if_pos hv]; rfl
    · have := g4 e; omega
    · rw [g2]; simp [valZ]; omega
  · have e : v.toNat = v.natAbs := by omega
    refine ⟨false, decDigits v.natAbs, ?_, g1, g3, g5, fun e => ⟨hz (g4 e), rfl⟩, ?_⟩
    · rw [← h]; unfold itoa; rw [if_neg hv, e]; rfl
    · rw [g2]; simp [valZ]; omega
theorem pow_B {B : Nat} (hB : B = 64 ∨ B = 32) : (2 ^ (B - 1) : Nat) ≤ 9223372036854775808 ∧ 2 ^ (B - 1) ≤ 2 ^ B - 1 ∧ 2 ^ B - 1 ≤ 18446744073709551615 := by
  rcases hB with rfl | rfl <;> decide
theorem numO_good {B : Nat} (hB : B = 64 ∨ B = 32) {mi : Bool} {d : List UInt8} (hd : ∀ c ∈ d, Dig c) (hne : d ≠ []) (hz : d.head? = some 48 → d.length = 1 ∧ mi = false)
    (hr : if mi = true then decV d ≤ 2 ^ (B - 1) else decV d < 2 ^ (B - 1)) : numO B (sgn mi d) = some (valZ mi (decV d)) := by
  have hp := pow_B hB
  have hdec : decDigits (decV d) = d := dec_of d.length d rfl hne hd fun e => by
    have := (hz e).1
    match d, this with
    | [x], _ => simp at e; rw [e]
  have h45 : d.head? ≠ some 45 := fun e => by
    obtain ⟨x, hx⟩ : ∃ x, d = 45 :: x := by
      match d, e with
      | a :: x, e => simp at e; exact ⟨x, by rw [e]⟩
    have := (hd 45 (by rw [hx]; simp)).1
    revert this; decide
  have hle : decV d ≤ 2 ^ B - 1 := by cases mi <;> simp at hr <;> omega
  have hpu : parseUintB B d = .ok (decV d) := by
    unfold parseUintB
    rw [if_neg hne, parse_ok _ hp.2.2 d 0 hd (by simpa using hle)]
    simp
  cases mi with
  | true =>
    simp at hr
    have hpos : 1 ≤ decV d := by
      rcases Nat.eq_zero_or_pos (decV d) with e | e
      · rw [e, decDigits, dif_pos (by omega)] at hdec
        have := (hz (by rw [← hdec]; rfl)).2
        cases this
      · exact e
    have hpi : parseIntB B (45 :: d) = .ok (-(decV d : Int)) := by
      rw [parseIntB_minus, hpu]; simp only [signedC]; rw [if_neg (by omega)]
    have hit : itoa (-(decV d : Int)) = 45 :: d := by rw [itoa_neg _ hpos, hdec]
    show (match parseIntB B (45 :: d) with | .ok v => if itoa v = 45 :: d then some v else none | _ => none) = _
    rw [hpi]; simp only; rw [if_pos hit]; rfl
  | false =>
    simp at hr
    have hpi : parseIntB B d = .ok (decV d : Int) := by
      match d, hne with
      | c :: r, _ =>
        have hc := hd c (by simp)
        have hc1 := hc.1
        have hc2 := hc.2
        rw [parseIntB_plain B c r (by omega) (by omega), hpu]; simp only [signlessC]; rw [if_neg (by omega)]
    have hit : itoa (decV d : Int) = d := by rw [itoa_nonneg, hdec]
    show (match parseIntB B d with | .ok v => if itoa v = d then some v else none | _ => none) = _
    rw [hpi]; simp only; rw [if_pos hit]; rfl
end Go.Proofs.YtheldoijfnigoaaDoor
/-
  Numbers as texts: what the document reads.
-/
namespace Go.Proofs.YtheldoijfnigoaaDoor
open Go Go.AL

variable [Errs]
set_option linter.unusedSectionVars false
end Go.Proofs.YtheldoijfnigoaaDoor
/-
  A line's step: the document's ReadLine.
-/
namespace Go.Proofs.YtheldoijfnigoaaDoor
open Go Go.AL

variable [Errs]
set_option linter.unusedSectionVars false
end Go.Proofs.YtheldoijfnigoaaDoor
/-
  A text's steps: the document's Parse.
-/
namespace Go.Proofs.YtheldoijfnigoaaDoor
open Go Go.AL

theorem parseL_cons {s : List UInt8} {r : List (List UInt8)} {acc : List Stp} (h : r ≠ []) : parseL (s :: r) acc = if (lineO s).isSome = true then parseL r (acc ++ [(lineO s).getD .zero]) else ([], acc.length + 1, false) := by
  match r, h with
  | a :: r, _ =>
    show (match lineO s with | none => ([], acc.length + 1, false) | some x => parseL (a :: r) (acc ++ [x])) = _
    cases lineO s <;> simp
variable [Errs]
set_option linter.unusedSectionVars false
end Go.Proofs.YtheldoijfnigoaaDoor
/-
  The document's Same; the law's small helpers; its example.
-/
namespace Go.Proofs.YtheldoijfnigoaaDoor
open Go Go.AL

/-- Are two steps alike? -/
def likeS (x y : Stp) : Bool := x.kind == y.kind && !(x.kind == 75 && x.key != y.key) && !((x.kind == 72 || x.kind == 79) && x.bytes != y.bytes)
def likeL : List Stp → List Stp → Bool
  | [], [] => true
  | x :: a, y :: b => likeS x y && likeL a b
  | _, _ => false
theorem likeL_len : ∀ a b : List Stp, likeL a b = true → a.length = b.length
  | [], [], _ => rfl
  | [], _ :: _, h => by simp [likeL] at h
  | _ :: _, [], h => by simp [likeL] at h
  | x :: a, y :: b, h => by simp [likeL] at h; simp [likeL_len a b h.2]
variable [Errs]
set_option linter.unusedSectionVars false
theorem bytesOf_bytesA (l : List UInt8) : bytesOf (bytesA l) = some l := by
  induction l with
  | nil => rfl
  | cons b l ih =>
    have hb : AL.byteOf (byteA b) = some b := by simp [byteA, AL.byteOf]
    simp only [bytesOf, bytesA, List.map_cons, List.mapM_cons] at ih ⊢
    rw [hb, ih]; rfl
set_option maxRecDepth 8000 in
theorem same_bytes_calls (a b : List UInt8) (o1 o2 : Bool) (ha : a.length ≤ 1000000) (hb : b.length ≤ 1000000) (σ : Store) : ACalls Tryd.prog 20 [.list o1 1 (bytesA a), .list o2 1 (bytesA b)] σ fun v σ' => v = .lit (.bool (a == b)) ∧ σ' = σ := by
  refine ACalls.of_awp follows (st := st20) (plans := pl20) (n := 10) Tryd.func20 rfl (by kernel_rfl) (by kernel_rfl) (by kernel_rfl) ?_
  have h1 := bytesOf_bytesA a
  have h2 := bytesOf_bytesA b
  simp [h1, h2]
set_option maxRecDepth 8000 in
theorem back_calls (l : List Stp) (hl : l.length ≤ 1000000) (o : Bool) (σ : Store) : ACalls Tryd.prog 10 [.list o 5 (stpsA l)] σ fun v σ' => v = .list true 5 (stpsA l) ∧ σ' = σ := by
  refine ACalls.of_awp follows (st := st10) (plans := pl10) (n := 24) Tryd.func10 rfl (by kernel_rfl) (by kernel_rfl) (by kernel_rfl) ?_
  simp
  refine codeK.loop follows (st := st10) (plans := pl10) (X := Nat) (fun k => k ≤ l.length)
    (fun k => [(3, .list true 5 (stpsA (l.take k))), (6, .list false 5 (stpsA l)), (7, .lit (.int .i64 l.length)), (8, .lit (.int .i64 k))]) (fun _ => σ) (fun k => l.length - k) 0 (by kernel_rfl)
    (by simp) (by simp [stpsA]) (Store.sub_refl _) fun k hk => ?_
  by_cases hlt : k < l.length
  · obtain ⟨x, hx⟩ : ∃ x, l[k]'hlt = x := ⟨_, rfl⟩
    have htk : l.take (k + 1) = l.take k ++ [x] := by rw [List.take_succ_eq_append_getElem hlt, hx]
    have hg : (stpsA l)[k]? = some (stpA x) := by simp [stpsA, hlt, hx]
    have hg2 : ∀ h, (stpsA l)[k]'h = stpA x := fun h => by simp [stpsA, hx]
    have hlw : IntKind.i64.wrap ((k : Int) + 1) = (k : Int) + 1 := wrap_i64 (by omega) (by omega)
    have hlk : (l.take k).length = k := by rw [List.length_take]; omega
    simp only [stpA, byteA] at hg hg2
    simp [hlt, hg, hg2]
    intro p hp
    refine ⟨by omega, by omega, k + 1, by omega, by omega, ⟨?_, by rw [hlw]; exact AV.le_refl _⟩, sub_upd_self _ _ _ hp⟩
    rw [htk, stpsA_append]
    exact AV.le_refl _
  · have : k = l.length := by omega
    subst this
    simp
set_option maxHeartbeats 1000000 in
set_option maxRecDepth 8000 in
theorem same_steps_calls (a b : List Stp) (o1 o2 : Bool) (ha : a.length ≤ 1000000) (hab : ∀ x ∈ a, x.bytes.length ≤ 1000000) (hbb : ∀ x ∈ b, x.bytes.length ≤ 1000000) (σ : Store) :
    ACalls Tryd.prog 9 [.list o1 5 (stpsA a), .list o2 5 (stpsA b)] σ fun v σ' => v = .lit (.bool (likeL a b)) ∧ σ' = σ := by
  refine ACalls.of_awp follows (st := st9) (plans := pl9) (n := 62) Tryd.func9 rfl (by kernel_rfl) (by kernel_rfl) (by kernel_rfl) ?_
  by_cases hl : a.length = b.length
  · have hli : (a.length : Int) = b.length := by omega
    simp [hli]
    refine codeK.loop follows (st := st9) (plans := pl9) (X := Nat) (fun k => k ≤ a.length ∧ likeL (a.drop k) (b.drop k) = likeL a b)
      (fun k => [(0, .list false 5 (stpsA a)), (1, .list false 5 (stpsA b)), (14, .lit (.int .i64 b.length)), (15, .lit (.int .i64 k))]) (fun _ => σ) (fun k => a.length - k) 0 (by kernel_rfl)
      ⟨by simp, by simp⟩ (by simp) (Store.sub_refl _) fun k hk => ?_
    obtain ⟨hk, hlk⟩ := hk
    by_cases hlt : k < a.length
    · have hlt2 : k < b.length := by omega
      obtain ⟨x, hx⟩ : ∃ x, a[k]'hlt = x := ⟨_, rfl⟩
      obtain ⟨y, hy⟩ : ∃ y, b[k]'hlt2 = y := ⟨_, rfl⟩
      have hga : (stpsA a)[k]? = some (stpA x) := by simp [stpsA, hlt, hx]
      have hgb : (stpsA b)[k]? = some (stpA y) := by simp [stpsA, hlt2, hy]
      have hga2 : ∀ h, (stpsA a)[k]'h = stpA x := fun h => by simp [stpsA, hx]
      have hgb2 : ∀ h, (stpsA b)[k]'h = stpA y := fun h => by simp [stpsA, hy]
      have hda : a.drop k = x :: a.drop (k + 1) := by rw [List.drop_eq_getElem_cons hlt, hx]
      have hdb : b.drop k = y :: b.drop (k + 1) := by rw [List.drop_eq_getElem_cons hlt2, hy]
      rw [hda, hdb] at hlk
      have hxm := hab x (by rw [← hx]; exact List.getElem_mem _)
      have hym := hbb y (by rw [← hy]; exact List.getElem_mem _)
      have hsb := fun τ => same_bytes_calls x.bytes y.bytes false false hxm hym τ
      have hlw : IntKind.i64.wrap ((k : Int) + 1) = (k : Int) + 1 := wrap_i64 (by omega) (by omega)
      obtain ⟨kx, bx, ⟨ax, sx, nx⟩⟩ := x
      obtain ⟨ky, by', ⟨ay, sy, ny⟩⟩ := y
      simp only [stpA, byteA] at hga hgb hga2 hgb2
      simp [hlt, hlt2, hga, hgb, hga2, hgb2]
      by_cases hkk : kx = ky
      · subst hkk
        by_cases h75 : kx = 75
        · subst h75
          by_cases hky : ax = ay ∧ sx = sy ∧ nx = ny
          · obtain ⟨rfl, rfl, rfl⟩ := hky
            have hlt9 : likeL (a.drop (k + 1)) (b.drop (k + 1)) = likeL a b := by rw [← hlk]; simp [likeL, likeS]
            refine ⟨?_, ?_⟩
            all_goals
              intro p hp q hq
              rw [ite_none] at hq
              obtain ⟨n1, hq⟩ := hq
              have n2 : ¬ p = q := fun e => n1 e.symm
              simp [n1, n2]
              refine ⟨k + 1, ⟨by omega, hlt9⟩, by omega, by rw [hlw]; exact AV.le_refl _, ?_⟩
              (intro q; simp only [Store.upd, Store.del]; (repeat' split) <;> first | exact Or.inr rfl | exact Or.inl rfl | (exfalso; omega) | (left; subst_vars; assumption) | simp_all)
          · have hlf : likeL a b = false := by
              rw [← hlk]
              have : ((⟨ax, sx, nx⟩ : Ky) != ⟨ay, sy, ny⟩) = true := by simpa using hky
              simp [likeL, likeS, this]
            have hky' : ¬ ax = ay ∨ ¬ sx = sy ∨ ¬ nx = ny := by
              by_cases e1 : ax = ay
              · by_cases e2 : sx = sy
                · exact .inr (.inr fun e3 => hky ⟨e1, e2, e3⟩)
                · exact .inr (.inl e2)
              · exact .inl e1
            rw [hlf]
            refine ⟨?_, ?_⟩
            all_goals
              intro p hp q hq
              rw [ite_none] at hq
              obtain ⟨n1, hq⟩ := hq
              have n2 : ¬ p = q := fun e => n1 e.symm
              simp [n1, n2, hky', hky]
              (intro q; simp only [Store.upd, Store.del]; (repeat' split) <;> first | exact Or.inr rfl | exact Or.inl rfl | (exfalso; omega) | (left; subst_vars; assumption) | simp_all)
        · have h75i : ¬ (kx.toNat : Int) = 75 := fun h => h75 (UInt8.toNat_inj.1 (by show kx.toNat = 75; omega))
          have h75n : ¬ kx.toNat = 75 := fun h => h75 (UInt8.toNat_inj.1 h)
          by_cases h7 : kx = 72 ∨ kx = 79
          · have hlt9 : (if bx = by' then likeL (a.drop (k + 1)) (b.drop (k + 1)) else false) = likeL a b := by
              rw [← hlk]
              rcases h7 with rfl | rfl <;> by_cases hbe : bx = by' <;> simp [likeL, likeS, hbe]
            by_cases hbe : bx = by'
            · subst hbe
              rw [if_pos rfl] at hlt9
              have hbt : (bx == bx) = true := by simp
              rw [hbt] at hsb
              rcases h7 with rfl | rfl
              all_goals
              refine ⟨?_, ?_⟩
              all_goals
                intro p hp q hq
                rw [ite_none] at hq
                obtain ⟨n1, hq⟩ := hq
                have n2 : ¬ p = q := fun e => n1 e.symm
                simp [n1, n2]
                refine callK.of (hsb _) ?_
                rintro v σ2 ⟨rfl, rfl⟩
                simp
                refine ⟨k + 1, ⟨by omega, hlt9⟩, by omega, by rw [hlw]; exact AV.le_refl _, ?_⟩
                (intro q; simp only [Store.upd, Store.del]; (repeat' split) <;> first | exact Or.inr rfl | exact Or.inl rfl | (exfalso; omega) | (left; subst_vars; assumption) | simp_all)
            · rw [if_neg hbe] at hlt9
              have hbt : (bx == by') = false := by simpa using hbe
              rw [hbt] at hsb
              rw [← hlt9]
              rcases h7 with rfl | rfl
              all_goals
              refine ⟨?_, ?_⟩
              all_goals
                intro p hp q hq
                rw [ite_none] at hq
                obtain ⟨n1, hq⟩ := hq
                have n2 : ¬ p = q := fun e => n1 e.symm
                simp [n1, n2]
                refine callK.of (hsb _) ?_
                rintro v σ2 ⟨rfl, rfl⟩
                simp
                (intro q; simp only [Store.upd, Store.del]; (repeat' split) <;> first | exact Or.inr rfl | exact Or.inl rfl | (exfalso; omega) | (left; subst_vars; assumption) | simp_all)
          · rw [not_or] at h7
            have h72i : ¬ (kx.toNat : Int) = 72 := fun h => h7.1 (UInt8.toNat_inj.1 (by show kx.toNat = 72; omega))
            have h72n : ¬ kx.toNat = 72 := fun h => h7.1 (UInt8.toNat_inj.1 h)
            have h79i : ¬ (kx.toNat : Int) = 79 := fun h => h7.2 (UInt8.toNat_inj.1 (by show kx.toNat = 79; omega))
            have h79n : ¬ kx.toNat = 79 := fun h => h7.2 (UInt8.toNat_inj.1 h)
            have hlt9 : likeL (a.drop (k + 1)) (b.drop (k + 1)) = likeL a b := by rw [← hlk]; simp [likeL, likeS, h75, h7.1, h7.2]
            refine ⟨?_, ?_⟩
            all_goals
              intro p hp q hq
              rw [ite_none] at hq
              obtain ⟨n1, hq⟩ := hq
              have n2 : ¬ p = q := fun e => n1 e.symm
              simp [n1, n2, h75i, h75n, h72i, h72n, h79i, h79n]
              refine ⟨k + 1, ⟨by omega, hlt9⟩, by omega, by rw [hlw]; exact AV.le_refl _, ?_⟩
              (intro q; simp only [Store.upd, Store.del]; (repeat' split) <;> first | exact Or.inr rfl | exact Or.inl rfl | (exfalso; omega) | (left; subst_vars; assumption) | simp_all)
      · have hkn : ¬ (kx.toNat : Int) = ky.toNat := fun h => hkk (UInt8.toNat_inj.1 (by omega))
        have hkn2 : ¬ kx.toNat = ky.toNat := fun h => hkk (UInt8.toNat_inj.1 h)
        have hlf : likeL a b = false := by rw [← hlk]; simp [likeL, likeS, hkk]
        rw [hlf]
        refine ⟨?_, ?_⟩
        all_goals
          intro p hp q hq
          rw [ite_none] at hq
          obtain ⟨n1, hq⟩ := hq
          have n2 : ¬ p = q := fun e => n1 e.symm
          simp [n1, n2, hkn, hkn2]
          (intro q; simp only [Store.upd, Store.del]; (repeat' split) <;> first | exact Or.inr rfl | exact Or.inl rfl | (exfalso; omega) | (left; subst_vars; assumption) | simp_all)
    · have hnil : a.drop k = [] := List.drop_of_length_le (by omega)
      have hnil2 : b.drop k = [] := List.drop_of_length_le (by omega)
      rw [hnil, hnil2] at hlk
      rw [← hlk]
      have hlt2 : ¬ k < b.length := by omega
      simp [hlt2, likeL]
  · have hn : likeL a b = false := by
      cases e : likeL a b with
      | false => rfl
      | true => exact absurd (likeL_len a b e) hl
    have hli : ¬ (a.length : Int) = b.length := by omega
    rw [hn]
    simp [hl, hli]
def exT : List UInt8 := [72, 32, 102, 102, 49, 97, 10, 75, 32, 49, 57, 32, 48, 32, 48, 10, 79, 32, 45, 10]
def exL : List Stp := [⟨72, [255, 26], .zero⟩, ⟨75, [], ⟨19, 0, 0⟩⟩, ⟨79, [], .zero⟩]
theorem ex_parse : parseT exT = (exL, 3, true) := by decide +kernel
set_option maxRecDepth 8000 in
set_option maxHeartbeats 1000000 in
theorem awake_calls (σ : Store) : ACalls Tryd.prog 5 [] σ fun v σ' => v = .lit (.bool true) ∧ σ' = σ := by
  have hp := parse_text_calls exT (by decide) σ
  rw [ex_parse] at hp
  have hsb := same_bytes_calls [255, 26] [255, 26] false true (by simp) (by simp) σ
  refine ACalls.of_awp follows (st := st5) (plans := pl5) (n := 50) Tryd.func5 rfl (by kernel_rfl) (by kernel_rfl) (by kernel_rfl) ?_
  simp
  refine callK.of hp ?_
  rintro v σ' ⟨rfl, rfl⟩
  simp [parA, exL, stpsA, stpA, byteA, Ky.zero]
  refine callK.of hsb ?_
  rintro v σ2 ⟨rfl, rfl⟩
  simp
end Go.Proofs.YtheldoijfnigoaaDoor
