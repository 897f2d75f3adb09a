/-
  What a tally is asked, one counter at a time; nil ones, too.
-/
import Derived.Test.YtgelodhkbpmlfaaNPart11
set_option linter.unusedSimpArgs false
set_option linter.unusedVariables false
namespace Go.Proofs.Ytgelodhkbpmlfaa
open Go Go.AL

/-- A tally, or none. -/
def TV (σ : Store) (b c : Nat) (tv : AV) (ns : List (List UInt8)) (xs : List Nat) : Prop := (tv = .lit (.pointer none) ∧ ns = [] ∧ xs = []) ∨ (tv = ptrA b ∧ ∃ m, TP σ b c ns xs m)
def cptr (c : Nat) (o : Option Nat) : AV := .lit (.pointer (o.map fun i => ⟨c, i, none⟩))
def updX (xs : List Nat) (o : Option Nat) (f : Nat → Nat) : List Nat := match o with | none => xs | some i => xs.set i (f (xs.getD i 0))
theorem ixN_lt {ns : List (List UInt8)} {s : List UInt8} {i : Nat} (h : ixN ns s = some i) : i < ns.length := (List.findIdx?_eq_some_iff_getElem.1 h).1
set_option maxRecDepth 8000 in
set_option maxHeartbeats 1000000 in
theorem counter_calls {σ : Store} {b c : Nat} {tv : AV} {ns : List (List UInt8)} {xs : List Nat} (s : List UInt8) (h : TV σ b c tv ns xs) :
    ACalls Try.prog 27 [tv, .lit (.string (toB s))] σ fun v σ' => v = cptr c (ixN ns s) ∧ TV σ' b c tv ns xs ∧ Fr tv b c σ σ' := by
  refine ACalls.of_awp follows (st := st27) (plans := pl27) (n := 32) Try.func27 rfl (by kernel_rfl) (by kernel_rfl) (by kernel_rfl) ?_
  rcases h with ⟨rfl, rfl, rfl⟩ | ⟨rfl, m, h⟩
  · simp
    exact ⟨_, AV.le_refl _, σ, Store.sub_refl _, rfl, .inl ⟨rfl, rfl, rfl⟩, Fr.refl _ b c _⟩
  · simp
    refine callK.of (odo_calls h) ?_
    rintro v σ1 ⟨rfl, q, h1, hf⟩
    have ho := h1.obj
    have hm := h1.map q rfl
    have hget := get_atN Try.prog 3 ns s zeroV66_3
    unfold tS at ho
    simp [ho, hm, hget]
    cases hx : ixN ns s with
    | none =>
      simp
      exact ⟨_, AV.le_refl _, σ1, Store.sub_refl _, rfl, .inr ⟨rfl, _, h1⟩, hf⟩
    | some i =>
      have hi := ixN_lt hx
      have hi' : (i : Int) < ns.length := by omega
      simp [hi, hi']
      exact ⟨_, AV.le_refl _, σ1, Store.sub_refl _, rfl, .inr ⟨rfl, _, h1⟩, hf⟩
theorem u64s_set (xs : List Nat) (i z : Nat) : (u64s xs).set i (.lit (.int .u64 (z : Int))) = u64s (xs.set i z) := by simp [u64s, List.map_set]
theorem u64s_get {xs : List Nat} {i : Nat} (h : i < xs.length) : (u64s xs)[i]? = some (.lit (.int .u64 ((xs.getD i 0 : Nat) : Int))) := by simp [u64s, h, List.getD_eq_getElem?_getD]
theorem Fr.updc (b c : Nat) (σ : Store) (x : List AV) : Fr (ptrA b) b c σ (σ.upd c x) := fun k y h1 h3 => by
  have h2 : ¬ k = c := by
    rcases h1 with h1 | h1
    · cases h1
    · exact h1.2
  simp only [Store.upd]; rw [if_neg h2]; exact h3
theorem TP.set {σ : Store} {b c : Nat} {ns : List (List UInt8)} {xs : List Nat} {m : Option Nat} (h : TP σ b c ns xs m) (i z : Nat) : TP (σ.upd c (u64s (xs.set i z))) b c ns (xs.set i z) m :=
  ⟨by rw [upd_nat, if_neg h.ne]; exact h.obj, by simp, by simp [h.len], h.ne, fun q e => by rw [upd_mkey]; exact h.map q e, h.nd, h.le⟩
theorem TV.set {σ : Store} {b c : Nat} {tv : AV} {ns : List (List UInt8)} {xs : List Nat} (h : TV σ b c tv ns xs) {s : List UInt8} {i : Nat} (hx : ixN ns s = some i) (z : Nat) : TV (σ.upd c (u64s (xs.set i z))) b c tv ns (xs.set i z) := by
  rcases h with ⟨rfl, rfl, rfl⟩ | ⟨rfl, m, h⟩
  · cases hx
  · exact .inr ⟨rfl, m, h.set i z⟩
theorem TV.row {σ : Store} {b c : Nat} {tv : AV} {ns : List (List UInt8)} {xs : List Nat} (h : TV σ b c tv ns xs) {s : List UInt8} {i : Nat} (hx : ixN ns s = some i) : σ c = some (u64s xs) ∧ i < xs.length := by
  rcases h with ⟨rfl, rfl, rfl⟩ | ⟨rfl, m, h⟩
  · cases hx
  · exact ⟨h.row, by rw [h.len]; exact ixN_lt hx⟩
theorem wrap_u64n (a b : Nat) : IntKind.u64.wrap ((a : Int) + b) = (((a + b) % 18446744073709551616 : Nat) : Int) := by
  unfold IntKind.wrap
  simp [IntKind.bits, IntKind.signed]
set_option maxRecDepth 8000 in
theorem tadd_calls {σ : Store} {b c : Nat} {tv : AV} {ns : List (List UInt8)} {xs : List Nat} (s : List UInt8) (n : Nat) (h : TV σ b c tv ns xs) :
    ACalls Try.prog 17 [tv, .lit (.string (toB s)), .lit (.int .u64 n)] σ fun v σ' => v = .lit (.bool (ixN ns s).isSome) ∧ TV σ' b c tv ns (updX xs (ixN ns s) fun x => (x + n) % 18446744073709551616) ∧ Fr tv b c σ σ' := by
  have hc := counter_calls s h
  refine ACalls.of_awp follows (st := st17) (plans := pl17) (n := 16) Try.func17 rfl (by kernel_rfl) (by kernel_rfl) (by kernel_rfl) ?_
  have h0 := h
  rcases h with ⟨rfl, rfl, rfl⟩ | ⟨rfl, m, h⟩
  · simp
    refine callK.of hc ?_
    rintro v σ1 ⟨rfl, h1, hf⟩
    have hx : ixN [] s = none := rfl
    simp [cptr, hx]
    exact ⟨_, AV.le_refl _, σ1, Store.sub_refl _, rfl, h1, hf⟩
  · simp
    refine callK.of hc ?_
    rintro v σ1 ⟨rfl, h1, hf⟩
    cases hx : ixN ns s with
    | none =>
      simp [cptr]
      exact ⟨_, AV.le_refl _, σ1, Store.sub_refl _, rfl, h1, hf⟩
    | some i =>
      obtain ⟨hr, hi⟩ := h1.row hx
      have ha := add_calls (n := n) hr (u64s_get hi)
      rw [wrap_u64n, u64s_set] at ha
      simp [cptr]
      refine callK.of ha ?_
      rintro v σ2 ⟨rfl, rfl⟩
      simp
      exact ⟨_, AV.le_refl _, _, Store.sub_refl _, rfl, h1.set hx _, hf.trans (Fr.updc b c _ _)⟩
set_option maxRecDepth 8000 in
theorem tget_calls {σ : Store} {b c : Nat} {tv : AV} {ns : List (List UInt8)} {xs : List Nat} (s : List UInt8) (h : TV σ b c tv ns xs) :
    ACalls Try.prog 20 [tv, .lit (.string (toB s))] σ fun v σ' => v = .lit (.int .u64 (((ixN ns s).map fun i => xs.getD i 0).getD 0 : Nat)) ∧ TV σ' b c tv ns xs ∧ Fr tv b c σ σ' := by
  have hc := counter_calls s h
  refine ACalls.of_awp follows (st := st20) (plans := pl20) (n := 13) Try.func20 rfl (by kernel_rfl) (by kernel_rfl) (by kernel_rfl) ?_
  rcases h with ⟨rfl, rfl, rfl⟩ | ⟨rfl, m, h⟩
  · simp
    refine callK.of hc ?_
    rintro v σ1 ⟨rfl, h1, hf⟩
    have hx : ixN [] s = none := rfl
    simp [cptr, hx]
    exact ⟨_, AV.le_refl _, σ1, Store.sub_refl _, rfl, h1, hf⟩
  · simp
    refine callK.of hc ?_
    rintro v σ1 ⟨rfl, h1, hf⟩
    cases hx : ixN ns s with
    | none =>
      simp [cptr]
      exact ⟨_, AV.le_refl _, σ1, Store.sub_refl _, rfl, h1, hf⟩
    | some i =>
      obtain ⟨hr, hi⟩ := h1.row hx
      have ha := load_calls hr (u64s_get hi)
      simp [cptr]
      refine callK.of ha ?_
      rintro v σ2 ⟨rfl, rfl⟩
      simp
      exact ⟨_, AV.le_refl _, _, Store.sub_refl _, rfl, h1, hf⟩
set_option maxRecDepth 8000 in
theorem ttake_calls {σ : Store} {b c : Nat} {tv : AV} {ns : List (List UInt8)} {xs : List Nat} (s : List UInt8) (h : TV σ b c tv ns xs) :
    ACalls Try.prog 19 [tv, .lit (.string (toB s))] σ fun v σ' => v = .lit (.int .u64 (((ixN ns s).map fun i => xs.getD i 0).getD 0 : Nat)) ∧ TV σ' b c tv ns (updX xs (ixN ns s) fun _ => 0) ∧ Fr tv b c σ σ' := by
  have hc := counter_calls s h
  refine ACalls.of_awp follows (st := st19) (plans := pl19) (n := 13) Try.func19 rfl (by kernel_rfl) (by kernel_rfl) (by kernel_rfl) ?_
  rcases h with ⟨rfl, rfl, rfl⟩ | ⟨rfl, m, h⟩
  · simp
    refine callK.of hc ?_
    rintro v σ1 ⟨rfl, h1, hf⟩
    have hx : ixN [] s = none := rfl
    simp [cptr, hx]
    exact ⟨_, AV.le_refl _, σ1, Store.sub_refl _, rfl, h1, hf⟩
  · simp
    refine callK.of hc ?_
    rintro v σ1 ⟨rfl, h1, hf⟩
    cases hx : ixN ns s with
    | none =>
      simp [cptr]
      exact ⟨_, AV.le_refl _, σ1, Store.sub_refl _, rfl, h1, hf⟩
    | some i =>
      obtain ⟨hr, hi⟩ := h1.row hx
      have ha := swap_calls (n := (0 : Nat)) hr (u64s_get hi)
      rw [u64s_set] at ha
      simp [cptr]
      refine callK.of ha ?_
      rintro v σ2 ⟨rfl, rfl⟩
      simp
      exact ⟨_, AV.le_refl _, _, Store.sub_refl _, rfl, h1.set hx _, hf.trans (Fr.updc b c _ _)⟩
end Go.Proofs.Ytgelodhkbpmlfaa
/-
  The greatest; all names; all set to nothing; all told.
-/
namespace Go.Proofs.Ytgelodhkbpmlfaa
open Go Go.AL

set_option maxRecDepth 8000 in
set_option maxHeartbeats 1000000 in
theorem tmost_calls {σ : Store} {b c : Nat} {tv : AV} {ns : List (List UInt8)} {xs : List Nat} (s : List UInt8) (n : Nat) (h : TV σ b c tv ns xs) :
    ACalls Try.prog 18 [tv, .lit (.string (toB s)), .lit (.int .u64 n)] σ fun v σ' => v = .lit (.bool (ixN ns s).isSome) ∧ TV σ' b c tv ns (updX xs (ixN ns s) fun x => max x n) ∧ Fr tv b c σ σ' := by
  have hc := counter_calls s h
  refine ACalls.of_awp follows (st := st18) (plans := pl18) (n := 28) Try.func18 rfl (by kernel_rfl) (by kernel_rfl) (by kernel_rfl) ?_
  rcases h with ⟨rfl, rfl, rfl⟩ | ⟨rfl, m, h⟩
  · simp
    refine callK.of hc ?_
    rintro v σ1 ⟨rfl, h1, hf⟩
    have hx : ixN [] s = none := rfl
    simp [cptr, hx]
    exact ⟨_, AV.le_refl _, σ1, Store.sub_refl _, rfl, h1, hf⟩
  · simp
    refine callK.of hc ?_
    rintro v σ1 ⟨rfl, h1, hf⟩
    cases hx : ixN ns s with
    | none =>
      simp [cptr]
      exact ⟨_, AV.le_refl _, σ1, Store.sub_refl _, rfl, h1, hf⟩
    | some i =>
      obtain ⟨hr, hi⟩ := h1.row hx
      have ha := load_calls hr (u64s_get hi)
      have hs := cas_calls (n := n) hr (u64s_get hi)
      rw [u64s_set] at hs
      have h2 := fun z => h1.set hx z
      simp [cptr]
      refine callK.of ha ?_
      rintro v σ2 ⟨rfl, rfl⟩
      simp
      have e0 : updX xs (some i) (fun x => max x n) = xs.set i (max (xs.getD i 0) n) := rfl
      rw [e0]
      generalize hxi : List.getD xs i 0 = x at *
      have hxi' : xs[i]?.getD 0 = x := by rw [← List.getD_eq_getElem?_getD]; exact hxi
      refine codeK.loop follows (st := st18) (plans := pl18) (X := Unit) (fun _ => True)
        (fun _ => [(2, .lit (.int .u64 n)), (7, .lit (.pointer (some ⟨c, i, none⟩))), (8, .lit (.int .u64 x))]) (fun _ => σ2) (fun _ => 0) () (by kernel_rfl) trivial (by simp [hxi']) (Store.sub_refl _) fun _ _ => ?_
      by_cases hxn : x < n
      · have hxn' : (x : Int) < n := by omega
        rw [Nat.max_eq_right (by omega)]
        simp [hxn, hxn']
        refine callK.of hs ?_
        rintro v σ3 ⟨rfl, rfl⟩
        simp
        exact ⟨_, AV.le_refl _, _, Store.sub_refl _, rfl, h2 n, hf.trans (Fr.updc b c _ _)⟩
      · have hxn' : ¬ (x : Int) < n := by omega
        rw [Nat.max_eq_left (by omega)]
        have e1 : xs.set i x = xs := by
          rw [← hxi, List.getD_eq_getElem?_getD, List.getElem?_eq_getElem hi]
          simp
        rw [e1]
        simp [hxn, hxn']
        exact ⟨_, AV.le_refl _, _, Store.sub_refl _, rfl, h1, hf⟩
theorem TP.more {σ τ : Store} {b c : Nat} {ns : List (List UInt8)} {xs : List Nat} {m : Option Nat} (h : TP σ b c ns xs m) (hs : Store.sub σ τ) : TP τ b c ns xs m :=
  ⟨sub_at h.obj hs, sub_at h.row hs, h.len, h.ne, fun q e => by
    have := h.map q e
    rcases hs (mkey q) with h1 | h1
    · rw [this] at h1; cases h1
    · rw [← h1]; exact this, h.nd, h.le⟩
theorem TV.more {σ τ : Store} {b c : Nat} {tv : AV} {ns : List (List UInt8)} {xs : List Nat} (h : TV σ b c tv ns xs) (hs : Store.sub σ τ) : TV τ b c tv ns xs := by
  rcases h with ⟨rfl, rfl, rfl⟩ | ⟨rfl, m, h⟩
  · exact .inl ⟨rfl, rfl, rfl⟩
  · exact .inr ⟨rfl, m, h.more hs⟩
theorem Fr.of {tv : AV} {b c : Nat} {σ τ : Store} (hs : Store.sub σ τ) : Fr tv b c σ τ := fun k x _ h => by
  rcases hs k with e | e
  · rw [e] at h; cases h
  · rw [← e]; exact h
theorem TV.ns {σ : Store} {b c : Nat} {tv : AV} {ns : List (List UInt8)} {xs : List Nat} (h : TV σ b c tv ns xs) : ns.length ≤ 64 ∧ ns.Nodup ∧ xs.length = ns.length := by
  rcases h with ⟨rfl, rfl, rfl⟩ | ⟨rfl, m, h⟩
  · simp
  · exact ⟨h.le, h.nd, h.len⟩
theorem cloneL_calls (o : Bool) (l : List (List UInt8)) (hl : l.length ≤ 1000000) (σ : Store) : ACalls Try.prog 25 [.list o 1 (strsA l)] σ fun v σ' => v = .list true 1 (strsA l) ∧ Store.sub σ σ' := by
  refine (clone_calls o l hl σ).shift ?_
  rintro v σ' (⟨rfl, rfl, rfl⟩ | ⟨p, cap, h1, h2, h3, rfl, h4⟩)
  · exact .inl ⟨.list true 1 [], _, AV.le_nil _ _, Store.sub_refl _, rfl, Store.sub_refl _⟩
  · refine .inr ⟨p, cap, 1, strsA l, tops (cap - l.length), by simp, by rw [flat_strs]; exact sub_at (by simp) h4, ?_, h3, by simpa using h2, strsA_cells, _, AV.le_refl _, rfl, ?_⟩
    · rw [flat_strs]; simp [tops]; omega
    · exact sub_del' (Store.sub_trans (Store.sub_upd h1 (Store.sub_refl _)) h4) h1
set_option maxRecDepth 8000 in
theorem names_calls {σ : Store} {b c : Nat} {tv : AV} {ns : List (List UInt8)} {xs : List Nat} (h : TV σ b c tv ns xs) :
    ACalls Try.prog 21 [tv] σ fun v σ' => v = .list true 1 (strsA ns) ∧ TV σ' b c tv ns xs ∧ Fr tv b c σ σ' := by
  refine ACalls.of_awp follows (st := st21) (plans := pl21) (n := 10) Try.func21 rfl (by kernel_rfl) (by kernel_rfl) (by kernel_rfl) ?_
  rcases h with ⟨rfl, rfl, rfl⟩ | ⟨rfl, m, h⟩
  · simp
    exact ⟨_, AV.le_refl _, σ, Store.sub_refl _, rfl, .inl ⟨rfl, rfl, rfl⟩, Fr.refl _ b c _⟩
  · have ho := h.obj
    have hle := h.le
    unfold tS at ho
    simp [ho]
    refine callK.of (cloneL_calls false ns (by omega) _) ?_
    rintro v σ1 ⟨rfl, hs⟩
    simp
    exact ⟨_, AV.le_refl _, σ1, Store.sub_refl _, rfl, .inr ⟨rfl, m, h.more hs⟩, Fr.of hs⟩
theorem ixN_self {ns : List (List UInt8)} (hn : ns.Nodup) {k : Nat} (hk : k < ns.length) : ixN ns (ns.getD k []) = some k := by
  unfold ixN
  rw [List.findIdx?_eq_some_iff_getElem]
  refine ⟨hk, by simp [List.getD_eq_getElem?_getD, hk], fun j hj => ?_⟩
  have hj' : j < ns.length := by omega
  simp only [List.getD_eq_getElem?_getD, List.getElem?_eq_getElem hk, Option.getD_some, beq_iff_eq]
  intro e
  have := (List.getElem_inj hn).1 e
  omega
def zeroTo (xs : List Nat) (k : Nat) : List Nat := List.replicate k 0 ++ xs.drop k
theorem zeroTo_set (xs : List Nat) {k : Nat} (h : k < xs.length) : (zeroTo xs k).set k 0 = zeroTo xs (k + 1) := by
  unfold zeroTo
  rw [List.set_append_right _ _ (by simp), List.length_replicate, Nat.sub_self, List.drop_eq_getElem_cons h, List.set_cons_zero, List.replicate_succ']
  simp
set_option maxRecDepth 8000 in
set_option maxHeartbeats 1000000 in
theorem treset_calls {σ : Store} {b c : Nat} {tv : AV} {ns : List (List UInt8)} {xs : List Nat} (h : TV σ b c tv ns xs) :
    ACalls Try.prog 16 [tv] σ fun v σ' => v = .tuple [] ∧ TV σ' b c tv ns (xs.map fun _ => 0) ∧ Fr tv b c σ σ' := by
  obtain ⟨hl, hn, hxl⟩ := h.ns
  refine ACalls.of_awp follows (st := st16) (plans := pl16) (n := 15) Try.func16 rfl (by kernel_rfl) (by kernel_rfl) (by kernel_rfl) ?_
  have hnm := names_calls h
  have htv : ∃ a, tv = .lit (.pointer a) := by rcases h with ⟨rfl, _, _⟩ | ⟨rfl, _⟩ <;> exact ⟨_, rfl⟩
  obtain ⟨a, rfl⟩ := htv
  simp
  refine callK.of hnm ?_
  rintro v σ1 ⟨rfl, h1, hf⟩
  simp
  refine codeK.loop follows (st := st16) (plans := pl16) (X := Nat × Store) (fun x => x.1 ≤ ns.length ∧ TV x.2 b c (.lit (.pointer a)) ns (zeroTo xs x.1) ∧ Fr (.lit (.pointer a)) b c σ x.2)
    (fun x => [(0, .lit (.pointer a)), (5, .list true 1 (strsA ns)), (6, .lit (.int .i64 ns.length)), (7, .lit (.int .i64 x.1))]) (fun x => x.2) (fun x => ns.length - x.1) (0, σ1) (by kernel_rfl) ⟨Nat.zero_le _, h1, hf⟩ (by simp) (Store.sub_refl _) ?_
  rintro ⟨k, τ⟩ ⟨hk, hT, hF⟩
  dsimp only at hk hT hF ⊢
  by_cases hlt : k < ns.length
  · obtain ⟨x, hx⟩ : ∃ x, ns.getD k [] = x := ⟨_, rfl⟩
    have hx2 : ns[k] = x := by rw [← hx]; simp [List.getD_eq_getElem?_getD, hlt]
    have hg1 : (strsA ns)[k]? = some (.lit (.string (toB x))) := by simp [strsA, strV, hlt, hx2]
    have hg2 : ∀ h : k < (strsA ns).length, (strsA ns)[k]'h = .lit (.string (toB x)) := fun h => by simp [strsA, strV, hx2]
    have hix := ixN_self hn hlt
    rw [hx] at hix
    have htk := ttake_calls x hT
    have e0 : updX (zeroTo xs k) (some k) (fun _ => 0) = zeroTo xs (k + 1) := zeroTo_set xs (by omega)
    rw [hix, e0] at htk
    have hlw : IntKind.i64.wrap ((k : Int) + 1) = ((k + 1 : Nat) : Int) := wrap_i64 (by omega) (by omega)
    simp [hlt, hg1, hg2]
    refine callK.of htk ?_
    rintro v σ2 ⟨rfl, h2, hf2⟩
    simp
    exact ⟨k + 1, σ2, ⟨by omega, h2, hF.trans hf2⟩, by omega, by rw [hlw]; exact AV.le_refl _, Store.sub_refl _⟩
  · obtain rfl : k = ns.length := by omega
    simp
    have e0 : zeroTo xs ns.length = xs.map fun _ => 0 := by
      unfold zeroTo
      rw [List.drop_of_length_le (by omega), ← hxl]
      simp [List.map_const']
    rw [e0] at hT
    exact ⟨_, AV.le_refl _, τ, Store.sub_refl _, rfl, hT, hF⟩
end Go.Proofs.Ytgelodhkbpmlfaa
/-
  All counters, told one by one.
-/
namespace Go.Proofs.Ytgelodhkbpmlfaa
open Go Go.AL

theorem TV.ptr {σ : Store} {b c : Nat} {tv : AV} {ns : List (List UInt8)} {xs : List Nat} (h : TV σ b c tv ns xs) : ∃ a, tv = .lit (.pointer a) := by
  rcases h with ⟨rfl, _, _⟩ | ⟨rfl, _⟩ <;> exact ⟨_, rfl⟩
theorem TV.off {σ : Store} {b c p : Nat} {tv v : AV} {ns : List (List UInt8)} {xs : List Nat} (h : TV σ b c tv ns xs) (hp : σ p = some [v]) (hv : ∀ n : Int, ¬ v = .lit (.int .u64 n)) : tv = .lit (.pointer none) ∨ (¬ (p : Int) = b ∧ ¬ (p : Int) = c) := by
  rcases h with ⟨rfl, _, _⟩ | ⟨rfl, m, h⟩
  · exact .inl rfl
  · refine .inr ⟨fun e => ?_, fun e => ?_⟩
    · rw [e, h.obj] at hp
      simp [tS] at hp
    · rw [e, h.row] at hp
      cases xs with
      | nil => simp [u64s] at hp
      | cons x l => simp [u64s] at hp; exact hv _ hp.1.symm
def argC (ns : List (List UInt8)) (xs : List Nat) (k : Nat) : List AV := [strV (ns.getD k []), .lit (.int .u64 ((xs.getD k 0 : Nat) : Int))]
set_option maxHeartbeats 1000000 in
set_option maxRecDepth 8000 in
theorem all_iter (p b c : Nat) (a : Option Addr) (ns : List (List UInt8)) (xs : List Nat) (σ : Store) :
    IterL Try.prog (Γ := Unit) 35 [ptrA p] σ ns.length (fun _ _ τ => τ p = some [.lit (.pointer a)] ∧ TV τ b c (.lit (.pointer a)) ns xs) (fun _ _ τ τ' => TV τ' b c (.lit (.pointer a)) ns xs ∧ Fr (.lit (.pointer a)) b c τ τ') (fun k => argC ns xs k) := by
  refine ⟨fun k g τ1 τ _ h hs => ⟨⟨sub_at h.1 hs, h.2.more hs⟩, fun τ' h' => ⟨τ', Store.sub_refl _, h'.1, (Fr.of hs).trans h'.2⟩⟩, ?_⟩
  intro X l M I J hpre hstep hyield g τ E hM hsub
  obtain ⟨hp0, hT0⟩ := hpre 0 g τ E (Nat.zero_le _) hM
  have hp0 := sub_at hp0 hsub
  have hT1 := hT0.more hsub
  have hnm := names_calls hT1
  obtain ⟨hl, hn, hxl⟩ := hT0.ns
  refine ACallsY.of_awp follows (st := st35) (plans := pl35) (n := 20) Try.func35 rfl (by kernel_rfl) (by kernel_rfl) (by kernel_rfl) ?_
  simp [hp0]
  refine callK.of hnm ?_
  rintro v τ1 ⟨rfl, h1, hf1⟩
  have hp1 := hf1 p _ (hT1.off hp0 (by simp)) hp0
  simp
  refine codeYK.loop follows (st := st35) (plans := pl35) (S := Nat × Store × Store) (fun x => x.1 ≤ ns.length ∧ TV x.2.2 b c (.lit (.pointer a)) ns xs ∧ Fr (.lit (.pointer a)) b c x.2.1 x.2.2 ∧ x.2.2 p = some [.lit (.pointer a)])
    (fun x => [(0, .func (.yield l) [] []), (1, ptrA p), (6, .list true 1 (strsA ns)), (7, .lit (.int .i64 ns.length)), (8, .lit (.int .i64 x.1))]) (fun x => x.2.2)
    (fun x E => M x.1 () x.2.1 E) (fun x => ns.length - x.1) (0, τ, τ1) (by kernel_rfl) ⟨Nat.zero_le _, h1, (Fr.of hsub).trans hf1, hp1⟩ (by simp) (Store.sub_refl _) hM ?_
  rintro ⟨k, τM, τc⟩ Ek ⟨hk, hT, hF, hp⟩ hMk
  dsimp only at hk hT hF hp hMk ⊢
  by_cases hlt : k < ns.length
  · obtain ⟨x, hx⟩ : ∃ x, ns.getD k [] = x := ⟨_, rfl⟩
    have hx2 : ns[k] = x := by rw [← hx]; simp [List.getD_eq_getElem?_getD, hlt]
    have hg1 : (strsA ns)[k]? = some (.lit (.string (toB x))) := by simp [strsA, strV, hlt, hx2]
    have hg2 : ∀ h : k < (strsA ns).length, (strsA ns)[k]'h = .lit (.string (toB x)) := fun h => by simp [strsA, strV, hx2]
    have hix := ixN_self hn hlt
    rw [hx] at hix
    have htk := tget_calls x hT
    rw [hix] at htk
    have hlw : IntKind.i64.wrap ((k : Int) + 1) = ((k + 1 : Nat) : Int) := wrap_i64 (by omega) (by omega)
    have hyk := hyield k () hlt
    unfold argC strV at hyk
    rw [hx] at hyk
    simp only [Option.map_some, Option.getD_some] at htk
    simp [hlt, hg1, hg2, hp]
    generalize List.getD xs k 0 = z at *
    refine callK.of htk ?_
    rintro v τ2 ⟨rfl, h2, hf2⟩
    have hI := hstep k () τM τ2 Ek hk hMk ⟨h2, hF.trans hf2⟩
    simp
    refine yieldK.of (by simp) (hyk τ2 Ek hI) (Store.sub_refl _) ?_
    intro bb τ' E' hR hap
    cases bb
    · simp
      exact ⟨⟨_, AV.le_refl _⟩, _, Store.sub_over _ _ _, τ', Store.sub_refl _, .inr (by simpa using hR)⟩
    · obtain ⟨g', hR⟩ := (by simpa using hR : ∃ g', M (k + 1) g' τ' E')
      obtain ⟨q1, q2⟩ := hpre (k + 1) g' τ' E' (by omega) hR
      have hso := Store.sub_over τ' τ2 τ2
      simp
      exact ⟨k + 1, τ', _, ⟨by omega, q2.more hso, Fr.of hso, sub_at q1 hso⟩, by omega, by rw [hlw]; exact AV.le_refl _, Store.sub_refl _, hR⟩
  · obtain rfl : k = ns.length := by omega
    simp
    exact ⟨⟨_, AV.le_refl _⟩, _, Store.sub_refl _, τc, Store.sub_refl _, .inl ⟨(), hstep ns.length () τM τc Ek (Nat.le_refl _) hMk ⟨hT, hF⟩⟩⟩
end Go.Proofs.Ytgelodhkbpmlfaa
/-
  The law's list of all counters; where a name stands; are two lists alike?
-/
namespace Go.Proofs.Ytgelodhkbpmlfaa
open Go Go.AL

set_option maxRecDepth 8000 in
theorem mkAll_calls (a : Option Addr) (σ : Store) : ACalls Try.prog 26 [.lit (.pointer a)] σ fun v σ' => ∃ p : Nat, σ p = none ∧ v = .func (.func 35) [] [ptrA p] ∧ σ' = σ.upd p [.lit (.pointer a)] := by
  refine ACalls.of_awp follows (st := st26) (plans := pl26) (n := 4) Try.func26 rfl (by kernel_rfl) (by kernel_rfl) (by kernel_rfl) ?_
  simp
  exact fun p hp => ⟨_, AV.le_refl _, _, Store.sub_refl _, p, hp, rfl, rfl⟩
theorem zip_get {ns : List (List UInt8)} {xs : List Nat} (h : xs.length = ns.length) {k : Nat} (hk : k < ns.length) : (ns.zip xs).take (k + 1) = (ns.zip xs).take k ++ [(ns.getD k [], xs.getD k 0)] := by
  have hz : k < (ns.zip xs).length := by simp; omega
  rw [List.take_succ_eq_append_getElem hz, List.getElem_zip]
  simp [List.getD_eq_getElem?_getD, hk, show k < xs.length by omega]
set_option maxHeartbeats 1000000 in
set_option maxRecDepth 8000 in
theorem all_calls {σ : Store} {b c : Nat} {tv : AV} {ns : List (List UInt8)} {xs : List Nat} (most : Nat) (hm : 0 < most) (h : TV σ b c tv ns xs) :
    ACalls Try.prog 12 [tv, .lit (.int .i64 most)] σ fun v σ' => v = .list false 2 (ctsA ((ns.zip xs).take most)) ∧ TV σ' b c tv ns xs ∧ Fr tv b c σ σ' := by
  obtain ⟨a, rfl⟩ := h.ptr
  obtain ⟨hl, hn, hxl⟩ := h.ns
  refine ACalls.of_awpY follows (st := st12) (plans := pl12) (n := 23) Try.func12 rfl (by kernel_rfl) (by kernel_rfl) (by kernel_rfl) ?_
  simp
  intro p3 h3
  simp +contextual [ite_free]
  intro p5 n5 m5 h5
  refine callK.of (mkAll_calls a _) ?_
  rintro v σ1 ⟨p, hp, rfl, rfl⟩
  simp only [upd_nat, ite_none] at hp
  obtain ⟨k5, k3, hp⟩ := hp
  simp
  have hs1 : Store.sub σ (((σ.upd p3 [.lit (.int .i64 most)]).upd p5 [.list true 2 []]).upd p [.lit (.pointer a)]) :=
    Store.sub_upd hp (Store.sub_upd h5 (Store.sub_upd h3 (Store.sub_refl _)))
  have sw : ∀ {i j : Nat}, ¬ i = j → ¬ j = i := fun h e => h e.symm
  have e3 : (((σ.upd p3 [.lit (.int .i64 most)]).upd p5 [.list true 2 []]).upd p [.lit (.pointer a)]) p3 = some [.lit (.int .i64 most)] := by
    simp [sw k3, n5, m5]
  have e5 : (((σ.upd p3 [.lit (.int .i64 most)]).upd p5 [.list true 2 []]).upd p [.lit (.pointer a)]) p5 = some [.list true 2 []] := by
    simp [sw k5]
  have ep : (((σ.upd p3 [.lit (.int .i64 most)]).upd p5 [.list true 2 []]).upd p [.lit (.pointer a)]) p = some [.lit (.pointer a)] := by simp
  generalize hσ0 : ((σ.upd p3 [.lit (.int .i64 most)]).upd p5 [.list true 2 []]).upd p [.lit (.pointer a)] = σ0 at *
  clear hσ0
  refine codeYK.rangeL follows (st := st12) (plans := pl12) (all_iter p b c a ns xs σ0) (by simp) (by simp) (fun k h => rfl) (by kernel_rfl) (by kernel_rfl) (by kernel_rfl)
    (fun k g ρ E => k < most ∧ TV ρ b c (.lit (.pointer a)) ns xs ∧ Fr (.lit (.pointer a)) b c σ ρ ∧ ρ p3 = some [.lit (.int .i64 most)] ∧ ρ p5 = some [.list true 2 (ctsA ((ns.zip xs).take k))] ∧ ρ p = some [.lit (.pointer a)])
    (fun k g ρ E => k < most ∧ TV ρ b c (.lit (.pointer a)) ns xs ∧ Fr (.lit (.pointer a)) b c σ ρ ∧ ρ p3 = some [.lit (.int .i64 most)] ∧ ρ p5 = some [.list true 2 (ctsA ((ns.zip xs).take k))] ∧ ρ p = some [.lit (.pointer a)])
    (fun cd ρ E => cd = Code.exit 0 ∧ TV ρ b c (.lit (.pointer a)) ns xs ∧ Fr (.lit (.pointer a)) b c σ ρ ∧ ρ p5 = some [.list true 2 (ctsA ((ns.zip xs).take most))])
    () σ0 ⟨hm, h.more hs1, Fr.of hs1, e3, e5, ep⟩ (Store.sub_refl _) ?_ ?_ ?_ ?_ ?_
  · rintro k g ρ E hk ⟨_, q2, _, _, _, q6⟩
    exact ⟨q6, q2⟩
  · rintro k g ρ ρ' E hk ⟨q1, q2, q3, q4, q5, q6⟩ ⟨r1, r2⟩
    exact ⟨q1, r1, q3.trans r2, r2 _ _ (q2.off q4 (by simp)) q4, r2 _ _ (q2.off q5 (by simp)) q5, r2 _ _ (q2.off q6 (by simp)) q6⟩
  · rintro k g hk ρ E ⟨q1, q2, q3, q4, q5, q6⟩
    have hz := zip_get hxl hk
    have o5 := q2.off q5 (by simp)
    have hlt : ((ns.zip xs).take k).length = k := by rw [List.length_take, List.length_zip]; omega
    have hn35 : ¬ p3 = p5 := fun e => by rw [e] at q4; rw [q5] at q4; simp at q4
    have hn5p : ¬ p = p5 := fun e => by rw [e] at q6; rw [q5] at q6; simp at q6
    have hkw : (k : Int) + 1 = most ↔ k + 1 = most := by omega
    have hT5 : ∀ C : List AV, TV (ρ.upd p5 C) b c (.lit (.pointer a)) ns xs := fun C => by
      rcases q2 with ⟨z1, z2, z3⟩ | ⟨z1, m, z2⟩
      · exact .inl ⟨z1, z2, z3⟩
      · rcases o5 with o5 | ⟨o5, o6⟩
        · rw [o5] at z1; cases z1
        · refine .inr ⟨z1, m, ?_, ?_, z2.len, z2.ne, fun q e => by rw [upd_mkey]; exact z2.map q e, z2.nd, z2.le⟩
          · rw [upd_nat, if_neg (fun e => o5 (by rw [e]))]; exact z2.obj
          · rw [upd_nat, if_neg (fun e => o6 (by rw [e]))]; exact z2.row
    have hσ5 : σ p5 = none := h5
    have hF5 : ∀ C : List AV, Fr (.lit (.pointer a)) b c σ (ρ.upd p5 C) := fun C j x hj hx => by
      have hjp : ¬ j = p5 := fun e => by rw [e, hσ5] at hx; cases hx
      simp only [Store.upd]
      rw [if_neg hjp]
      exact q3 j x hj hx
    simp only [argC, strV]
    by_cases he : k + 1 = most
    · have hz2 : ctsA ((ns.zip xs).take most) = ctsA ((ns.zip xs).take k) ++ [.agg [.lit (.string (toB (ns.getD k []))), .lit (.int .u64 ((xs.getD k 0 : Nat) : Int))]] := by
        rw [← he, hz, ctsA_append]; rfl
      generalize List.getD ns k [] = x at *
      generalize List.getD xs k 0 = z at *
      simp [q5, q4, hn35, hlt, he, hkw]
      exact ⟨by omega, by omega, _, Store.sub_refl _, hT5 _, hF5 _, by rw [upd_nat, if_pos rfl, hz2]⟩
    · have hz2 : ctsA ((ns.zip xs).take (k + 1)) = ctsA ((ns.zip xs).take k) ++ [.agg [.lit (.string (toB (ns.getD k []))), .lit (.int .u64 ((xs.getD k 0 : Nat) : Int))]] := by
        rw [hz, ctsA_append]; rfl
      generalize List.getD ns k [] = x at *
      generalize List.getD xs k 0 = z at *
      simp [q5, q4, hn35, hlt, he, hkw]
      exact ⟨by omega, by omega, _, Store.sub_refl _, by omega, hT5 _, hF5 _, by rw [upd_nat, if_neg hn35]; exact q4, by rw [upd_nat, if_pos rfl, hz2], by rw [upd_nat, if_neg hn5p]; exact q6⟩
  · rintro g ρ E σ' hs ⟨q1, q2, q3, q4, q5, q6⟩
    have q5' := sub_at q5 hs
    have e : (ns.zip xs).take most = (ns.zip xs).take ns.length := by
      rw [List.take_of_length_le (by simp; omega), List.take_of_length_le (by simp; omega)]
    simp [q5', e]
    exact ⟨_, AV.le_refl _, σ', Store.sub_refl _, rfl, q2.more hs, q3.trans (Fr.of hs)⟩
  · rintro cd ρ E σ' hs ⟨rfl, q2, q3, q5⟩
    have q5' := sub_at q5 hs
    simp [q5']
    exact ⟨_, AV.le_refl _, σ', Store.sub_refl _, rfl, q2.more hs, q3.trans (Fr.of hs)⟩
/-- Where a name stands in a list of counters. -/
def findC (l : List Ct) (s : List UInt8) : Option Nat := l.findIdx? fun c => c.1 == s
def ixI (o : Option Nat) : Int := match o with | none => -1 | some i => i
/-- Counters: none, or a row that is an object. -/
def LW (τ : Store) (d : Nat) (V : AV) (l : List Ct) : Prop := (l = [] ∧ V = .list false 2 []) ∨ ∃ cap : Nat, V = sliA d l.length cap ∧ (¬ l = [] → ∃ rest, τ d = some (cA l ++ rest)) ∧ l.length ≤ cap
end Go.Proofs.Ytgelodhkbpmlfaa
/-
  A call on both: the law's do.
-/
namespace Go.Proofs.Ytgelodhkbpmlfaa
open Go Go.AL

/-- What one call does to the numbers. -/
def doX (ns : List (List UInt8)) (xs : List Nat) (r : Nat) (s : List UInt8) (n : Nat) : List Nat :=
  if r = 2 then updX xs (ixN ns s) fun x => max x n else if r = 3 then updX xs (ixN ns s) fun _ => 0 else if r = 4 then xs else if r = 5 then xs.map fun _ => 0 else updX xs (ixN ns s) fun x => (x + n) % 18446744073709551616
theorem LW.off {σ : Store} {b c d : Nat} {tv V : AV} {ns : List (List UInt8)} {xs : List Nat} {l : List Ct} (h : TV σ b c tv ns xs) (hl : LW σ d V l) : l = [] ∨ tv = .lit (.pointer none) ∨ (¬ (d : Int) = b ∧ ¬ (d : Int) = c) := by
  rcases hl with ⟨rfl, _⟩ | ⟨cap, rfl, hd, _⟩
  · exact .inl rfl
  cases l with
  | nil => exact .inl rfl
  | cons x l =>
    obtain ⟨rest, hd⟩ := hd (by simp)
    right
    rcases h with ⟨rfl, _, _⟩ | ⟨rfl, m, h⟩
    · exact .inl rfl
    · refine .inr ⟨fun e => ?_, fun e => ?_⟩
      · rw [e, h.obj] at hd
        have := (List.cons.inj (Option.some.inj hd)).1
        cases this
      · rw [e, h.row] at hd
        cases xs with
        | nil => simp [u64s, cA] at hd
        | cons y xs => have := (List.cons.inj (Option.some.inj hd)).1; cases this
/-- What lies elsewhere is kept. -/
def FrD (tv : AV) (b c d : Nat) (e : Prop) (σ σ' : Store) : Prop := ∀ (k : Int) x, (tv = .lit (.pointer none) ∨ (¬ k = b ∧ ¬ k = c)) → (e ∨ ¬ k = d) → σ k = some x → σ' k = some x
theorem Fr.d {tv : AV} {b c : Nat} {σ σ' : Store} (h : Fr tv b c σ σ') (d : Nat) (e : Prop) : FrD tv b c d e σ σ' := fun k x h1 _ h2 => h k x h1 h2
theorem FrD.trans {tv : AV} {b c d : Nat} {e : Prop} {σ τ υ : Store} (h : FrD tv b c d e σ τ) (k : FrD tv b c d e τ υ) : FrD tv b c d e σ υ := fun i x h1 h2 h3 => k i x h1 h2 (h i x h1 h2 h3)
theorem LW.fr {σ σ' : Store} {b c d : Nat} {tv V : AV} {l : List Ct} (h : LW σ d V l) (ho : l = [] ∨ tv = .lit (.pointer none) ∨ (¬ (d : Int) = b ∧ ¬ (d : Int) = c)) (hf : Fr tv b c σ σ') : LW σ' d V l := by
  rcases h with h | ⟨cap, h1, h2, h3⟩
  · exact .inl h
  · refine .inr ⟨cap, h1, fun hn => ?_, h3⟩
    obtain ⟨rest, h2⟩ := h2 hn
    rcases ho with ho | ho
    · exact absurd ho hn
    · exact ⟨rest, hf _ _ ho h2⟩
theorem FrD.upd {tv : AV} {b c d : Nat} {e : Prop} (he : ¬ e) (σ : Store) (C : List AV) : FrD tv b c d e σ (σ.upd d C) := fun k x _ h2 h3 => by
  have : ¬ k = d := by
    rcases h2 with h | h
    · exact absurd h he
    · exact h
  simp only [Store.upd]; rw [if_neg this]; exact h3
end Go.Proofs.Ytgelodhkbpmlfaa
