/-
  slices.Grow at this translation, as an abstract state (the laying is printed by the kit's tool).
-/
import Derived.Test.YtegpebaoghmgiaaGreatDoorSPart15
import Derived.Shelf.Spec.SlicesGrow
import Derived.Test.YtegpebaoghmgiaaGreatDoorProg
set_option linter.unusedSimpArgs false
set_option linter.unusedVariables false
namespace Go.Proofs.YtegpebaoghmgiaaGreatDoor
open Go.Shelf
def lays4_ren : Go.Shelf.Ren := ⟨fun | 4 => 31 | n => n, fun | 22 => 22 | 25 => 5 | 3 => 3 | 4 => 4 | 9 => 9 | 20 => 20 | 0 => 0 | n => n, fun | n => n⟩
theorem lays4 : Go.Proofs.Lays8.n4 Tryz.prog lays4_ren := {
  mixed := by kernel_rfl
  f4 := ⟨Tryz.f31.name, by decide, Tryz.func31.trans (congrArg some (by kernel_rfl))⟩
  t0 := Tryz.underlying0
  a0 := Tryz.isAgg0
  z0 := Tryz.sizeOf0
  v0 := Tryz.zeroValue0
  t3 := Tryz.underlying3
  a3 := Tryz.isAgg3
  z3 := Tryz.sizeOf3
  v3 := Tryz.zeroValue3
  t4 := Tryz.underlying4
  a4 := Tryz.isAgg4
  z4 := Tryz.sizeOf4
  v4 := Tryz.zeroValue4
  t9 := Tryz.underlying9
  a9 := Tryz.isAgg9
  z9 := Tryz.sizeOf9
  v9 := Tryz.zeroValue9
  t20 := Tryz.underlying20
  a20 := Tryz.isAgg20
  z20 := Tryz.sizeOf20
  v20 := Tryz.zeroValue20
  t22 := Tryz.underlying22
  a22 := Tryz.isAgg22
  z22 := Tryz.sizeOf22
  v22 := Tryz.zeroValue22 }

open Go Go.AL Go.RowKit
theorem grow_calls (n : Nat) (hn : n ≤ 140737488355328) (σ : Store) : ACalls Tryz.prog 31 [.lit (.slice none 0 0), .lit (.int .i64 n)] σ fun v σ' => v = .list true 1 [] ∧ σ' = σ := by
  intro D G w cargs hl hargs hW hfresh
  obtain ⟨c0, c1, rfl⟩ : ∃ a b, cargs = #[a, b] := by
    rcases cargs with ⟨l⟩
    match l, hl with
    | [a, b], _ => exact ⟨a, b, rfl⟩
  have e0 := (hargs 0 _ c0 rfl rfl).1.lit_eq rfl
  have e1 := (hargs 1 _ c1 rfl rfl).1.lit_eq rfl
  subst e0 e1
  by_cases h0 : n = 0
  · subst h0
    refine (Any8.slices_Grow_room lays4 none 0 0 0 w (Nat.le_refl _) (by omega) (by omega) (Nat.le_refl _)).mono ?_
    rintro e w' ⟨rfl, rfl⟩
    exact ⟨_, _, G, _, rfl, ⟨rfl, rfl⟩, .nil _ _, trivial, hW, Ext.refl ..⟩
  · obtain ⟨i0, hi, hs, hb, hz⟩ : ∃ i, Tryz.prog.info? 5 = some i ∧ i.size = 1 ∧ i.bytes = 1 ∧ i.zero = some (.int .u8 0) := by
      have h1 : (Tryz.prog.info? 5).map (fun i => (i.size, i.bytes, i.zero)) = some (1, 1, some (.int .u8 0)) := by kernel_rfl
      cases h : Tryz.prog.info? 5 with
      | none => rw [h] at h1; cases h1
      | some i =>
        rw [h] at h1
        obtain ⟨e1, e2⟩ := Prod.mk.inj (Option.some.inj h1)
        obtain ⟨e2, e3⟩ := Prod.mk.inj e2
        exact ⟨i, rfl, e1, e2, e3⟩
    refine (Any8.slices_Grow_grow lays4 i0 (.int .u8 0) hi hz (by omega) none 0 0 n [] w (Nat.le_refl _) (by omega) (by rw [hb]; omega) (by omega) (by simp) (fun _ => rfl) (fun _ h => by cases h)).mono ?_
    rintro e w' ⟨rfl, rfl⟩
    let a0 : Act := { tmps := #[], defers := [] }
    have hR : Rel D 0 G (fun _ => AV.top) σ a0 w := {
      defers := rfl
      size := rfl
      val := fun i => .top _
      own := fun i => trivial
      world := hW
      fresh := hfresh }
    have hge := grownCap_ge w (0 + n) 0 5
    obtain ⟨G', q1, q2, q3, q4, _⟩ := newList hR.drew (([] : List Value).toArray ++ Builtin.zeroCells (Value.int .u8 0).cells (0 + n - 0) ++ Builtin.zeroCells (Value.int .u8 0).cells (grownCap w (0 + n) 0 5 - (0 + n))) 5 1 [] (grownCap w (0 + n) 0 5)
      (by simp only [Array.size_append, size_zeroCells]; show _ = 0 + (0 + n - 0) * 1 + _ * 1; omega) (Nat.zero_le _) (grownCap_le_maxLen w (0 + n) 0 5 (by unfold maxLen; omega)) (fun _ h => by cases h) [] ⟨rfl, fun j u hu => by simp at hu, fun j c u hc hu => by simp at hu⟩ (fun j u hu => by simp at hu)
    exact ⟨_, _, G', _, rfl, ⟨rfl, rfl⟩, q2, q3, q1.world, Ext.drew.trans q4⟩
end Go.Proofs.YtegpebaoghmgiaaGreatDoor
/-
  HostSends: a host's first bytes; records as they are sent, or behind a header.
-/
namespace Go.Proofs.YtegpebaoghmgiaaGreatDoor
open Go Go.AL

theorem right_iff (h : Hd) : h.right = true ↔ headOk h := by
  unfold Hd.right headOk
  have e : (h.ty = 2 ∧ h.resp = 2) ↔ (h.ty = 2 ∧ h.resp.toNat = 2) := by
    constructor
    · rintro ⟨a, b⟩; exact ⟨a, by rw [b]; rfl⟩
    · rintro ⟨a, b⟩; exact ⟨a, UInt8.toNat_inj.1 b⟩
  rw [e]
  by_cases h2 : h.ty = 2
  · simp [h2]; omega
  · simp [h2]
set_option maxRecDepth 8000 in
set_option maxHeartbeats 1000000 in
theorem hbytesG_calls (h : Hd) (hs : h.seq < 65536) (σ : Store) : ACalls Tryz.prog 22 [.agg (hdL h)] σ (HBytesR h σ) := by
  have hr := fun τ => right_calls h τ
  have hiff := right_iff h
  obtain ⟨ty, req, resp, seq⟩ := h
  dsimp only at hs
  simp [hdL, byteA_lit] at hr
  have hp : (2 : Int) ^ min 8 IntKind.u16.bits = 256 := by decide
  have e1 : IntKind.u8.wrap ((seq : Int).fdiv (2 ^ min 8 IntKind.u16.bits)) = (seq : Int) / 256 % 256 := by
    rw [hp, Int.fdiv_eq_ediv_of_nonneg _ (by omega)]
    unfold IntKind.wrap
    simp [IntKind.signed, IntKind.bits]
  have e2 : IntKind.u8.wrap (seq : Int) = (seq : Int) % 256 := by
    unfold IntKind.wrap
    simp [IntKind.signed, IntKind.bits]
  refine ACalls.of_awp follows (st := st22) (plans := pl22) (n := 21) Tryz.func22 rfl (by kernel_rfl) (by kernel_rfl) (by kernel_rfl) ?_
  by_cases hok : headOk ⟨ty, req, resp, seq⟩
  · rw [hiff.2 hok] at hr
    simp [hdL, byteA]
    intro p hp0
    refine callK.of (hr _) ?_
    rintro v σ1 ⟨rfl, rfl⟩
    simp
    rw [e1, e2]
    exact ⟨_, AV.le_refl _, _, sub_upd_self _ _ _ hp0, rfl, .inl ⟨hok, by simp [headL, bytesA, byteA]⟩⟩
  · have hf : Hd.right ⟨ty, req, resp, seq⟩ = false := by
      cases hq : Hd.right ⟨ty, req, resp, seq⟩ with
      | false => rfl
      | true => exact absurd (hiff.1 hq) hok
    rw [hf] at hr
    simp [hdL, byteA]
    intro p hp0
    refine callK.of (hr _) ?_
    rintro v σ1 ⟨rfl, rfl⟩
    simp
    exact ⟨_, AV.le_refl _, _, sub_upd_self _ _ _ hp0, rfl, .inr ⟨hok, rfl⟩⟩
set_option maxRecDepth 8000 in
theorem wrap_calls (o : Bool) (l : List UInt8) (hl : l.length ≤ 1000000) (σ : Store) : ACalls Tryz.prog 13 [.list o 1 (bytesA l)] σ fun v σ' => v = .list true 1 (bytesA (esc l ++ [255, 239])) ∧ σ' = σ := by
  have h1 := fun τ => rbytes_calls false l τ hl
  refine ACalls.of_awp follows (st := st13) (plans := pl13) (n := 5) Tryz.func13 rfl (by kernel_rfl) (by kernel_rfl) (by kernel_rfl) ?_
  simp
  refine callK.of (h1 _) ?_
  rintro v σ1 ⟨rfl, rfl⟩
  simp
set_option maxRecDepth 8000 in
theorem r7bytes_calls (o : Bool) (l : List UInt8) (hl : l.length ≤ 1000000) (σ : Store) : ACalls Tryz.prog 12 [.list o 1 (bytesA l)] σ fun v σ' => v = .list true 1 (bytesA (esc l ++ [255, 239])) ∧ σ' = σ := by
  have h1 := esc_length l
  have he := fun τ => lesc_calls false l τ hl
  generalize esc l = k at *
  refine ACalls.of_awp follows (st := st12) (plans := pl12) (n := 7) Tryz.func12 rfl (by kernel_rfl) (by kernel_rfl) (by kernel_rfl) ?_
  simp
  refine callK.of (he _) ?_
  rintro v σ1 ⟨rfl, rfl⟩
  simp
  refine ⟨by omega, by omega, ?_⟩
  simp [bytesA, byteA]
set_option maxRecDepth 8000 in
theorem rsub_calls (o : Bool) (c : UInt8) (l : List UInt8) (σ : Store) (hl : l.length ≤ 1000000) :
    ACalls Tryz.prog 21 [byteA c, .list o 1 (bytesA l)] σ fun v σ' => v = .list true 1 (bytesA (subBytes c l)) ∧ σ' = σ := by
  refine ACalls.of_awp follows (st := st21) (plans := pl21) (n := 12) Tryz.func21 rfl (by kernel_rfl) (by kernel_rfl) (by kernel_rfl) ?_
  have h1 := esc_length l
  simp [byteA]
  refine callK.of (lesc_calls false l σ hl) ?_
  rintro v σ' ⟨rfl, rfl⟩
  simp
  refine ⟨by omega, by omega, by omega, by omega, ?_⟩
  simp [subBytes, bytesA, byteA]
@[simp] def st10s : List Nat := [6, 8, 11, 15, 16]
/-- A record behind a header. -/
def HeadedR (h : Hd) (p : List UInt8) (σ : Store) (v : AV) (σ' : Store) : Prop := σ' = σ ∧ ((headOk h ∧ v = .tuple [.list true 1 (bytesA (esc (headL h ++ p) ++ [255, 239])), .lit (.int .i64 0)]) ∨ (¬ headOk h ∧ ∃ o, v = .tuple [.list o 1 [], .lit (.int .i64 1)]))
set_option maxRecDepth 8000 in
theorem headed_calls (h : Hd) (hs : h.seq < 65536) (o : Bool) (p : List UInt8) (hp : p.length ≤ 10000) (σ : Store) : ACalls Tryz.prog 10 [.agg (hdL h), .list o 1 (bytesA p)] σ (HeadedR h p σ) := by
  have hb := fun τ => hbytesG_calls h hs τ
  have hl5 : (headL h).length = 5 := rfl
  have hr := fun τ => rbytes_calls true (headL h ++ p) τ (by rw [List.length_append]; omega)
  rw [bytesA_append] at hr
  unfold HeadedR
  generalize esc (headL h ++ p) ++ [255, 239] = w at *
  obtain ⟨ty, req, resp, seq⟩ := h
  simp only [hdL, byteA_lit] at hb ⊢
  refine ACalls.of_awp follows (st := st10s) (plans := pl10) (n := 20) Tryz.func10 rfl (by kernel_rfl) (by kernel_rfl) (by kernel_rfl) ?_
  simp
  intro q hq
  refine callK.of (hb _) ?_
  rintro v σ1 ⟨rfl, ⟨hok, rfl⟩ | ⟨hok, rfl⟩⟩
  · simp [hl5]
    refine ⟨by omega, by omega, ?_⟩
    refine callK.of (hr _) ?_
    rintro v σ2 ⟨rfl, rfl⟩
    simp
    exact ⟨_, AV.le_refl _, _, sub_upd_self _ _ _ hq, rfl, .inl ⟨hok, rfl⟩⟩
  · simp
    exact ⟨_, AV.le_refl _, _, sub_upd_self _ _ _ hq, rfl, .inr ⟨hok, .inr rfl⟩⟩
/-! ### Joined rows -/
def rowsA (l : List (List UInt8)) : List AV := l.map fun p => .list false 1 (bytesA p)
@[simp] theorem rowsA_length (l : List (List UInt8)) : (rowsA l).length = l.length := by simp [rowsA]
def sumL (l : List (List UInt8)) : Nat := (l.map List.length).sum
theorem sumL_take (l : List (List UInt8)) (i : Nat) (h : i < l.length) : sumL (l.take (i + 1)) = sumL (l.take i) + l[i].length := by
  rw [List.take_succ_eq_append_getElem h, sumL, List.map_append, List.sum_append]; simp only [sumL, List.map_cons, List.map_nil, List.sum_cons, List.sum_nil, Nat.add_zero]
theorem sumL_le (l : List (List UInt8)) (i : Nat) : sumL (l.take i) ≤ sumL l := by
  induction l generalizing i with
  | nil => simp
  | cons a l ih =>
    cases i with
    | zero => simp [sumL]
    | succ i => have := ih i; simp only [sumL, List.take_succ_cons, List.map_cons, List.sum_cons] at *; omega
theorem flat_length (l : List (List UInt8)) : l.flatten.length = sumL l := by simp [sumL, List.length_flatten]
theorem flatten_take (l : List (List UInt8)) (i : Nat) (h : i < l.length) : (l.take (i + 1)).flatten = (l.take i).flatten ++ l[i] := by
  rw [List.take_succ_eq_append_getElem h, List.flatten_append, List.flatten_cons, List.flatten_nil, List.append_nil]
@[simp] def st18s : List Nat := [31, 35, 1000024]
set_option maxRecDepth 8000 in
set_option maxHeartbeats 1000000 in
theorem concat_calls (o : Bool) (l : List (List UInt8)) (hl : l.length ≤ 1000) (hs : sumL l ≤ 1000000) (σ : Store) : ACalls Tryz.prog 18 [.list o 1 (rowsA l)] σ fun v σ' => v = .list true 1 (bytesA l.flatten) ∧ σ' = σ := by
  have hgr := fun τ => grow_calls (sumL l) (by omega) τ
  refine ACalls.of_awp follows (st := st18s) (plans := pl18) (n := 36) Tryz.func18 rfl (by kernel_rfl) (by kernel_rfl) (by kernel_rfl) ?_
  simp
  refine codeK.loop follows (st := st18s) (plans := pl18) (X := Nat) (fun i => i ≤ l.length)
    (fun i => [(0, .list false 1 (rowsA l)), (3, .lit (.int .i64 (sumL (l.take i)))), (9, .list false 1 (rowsA l)), (10, .lit (.int .i64 l.length)), (11, .lit (.int .i64 i))]) (fun _ => σ) (fun i => l.length - i) 0 (by kernel_rfl) (Nat.zero_le _) (by simp [sumL]) (Store.sub_refl _) ?_
  intro i hi
  have hsl := sumL_le l i
  by_cases hlt : i < l.length
  · have hlt' : (i : Int) < l.length := by omega
    have hw : IntKind.i64.wrap ((i : Int) + 1) = ((i + 1 : Nat) : Int) := wrap_i64 (by omega) (by omega)
    obtain ⟨p, hp⟩ : ∃ p, l[i] = p := ⟨_, rfl⟩
    have hg : ∀ h : i < (rowsA l).length, (rowsA l)[i]'h = .list false 1 (bytesA p) := fun h => by simp [rowsA, hp]
    have hst := sumL_take l i hlt
    have hsl2 := sumL_le l (i + 1)
    rw [hp] at hst
    have hw2 : IntKind.i64.wrap ((sumL (l.take i) : Int) + (p.length : Int)) = ((sumL (l.take (i + 1)) : Nat) : Int) := by rw [wrap_i64 (by omega) (by omega)]; omega
    have hn0 : ¬ ((sumL (l.take (i + 1)) : Nat) : Int) < 0 := by omega
    simp [hlt, hlt', hg, hw2, hn0]
    exact ⟨i + 1, by omega, by omega, AV.le_refl _, by rw [hw]; exact AV.le_refl _⟩
  · obtain rfl : i = l.length := by omega
    rw [List.take_of_length_le (Nat.le_refl _)]
    simp
    refine callK.of (hgr _) ?_
    rintro v σ1 ⟨rfl, rfl⟩
    simp
    refine codeK.loop follows (st := st18s) (plans := pl18) (X := Nat) (fun i => i ≤ l.length)
      (fun i => [(6, .list true 1 (bytesA (l.take i).flatten)), (25, .list false 1 (rowsA l)), (26, .lit (.int .i64 l.length)), (27, .lit (.int .i64 i))]) (fun _ => σ1) (fun i => l.length - i) 0 (by kernel_rfl) (Nat.zero_le _) (by simp [bytesA]) (Store.sub_refl _) ?_
    intro i hi
    by_cases hlt : i < l.length
    · have hlt' : (i : Int) < l.length := by omega
      have hw : IntKind.i64.wrap ((i : Int) + 1) = ((i + 1 : Nat) : Int) := wrap_i64 (by omega) (by omega)
      obtain ⟨p, hp⟩ : ∃ p, l[i] = p := ⟨_, rfl⟩
      have hg : ∀ h : i < (rowsA l).length, (rowsA l)[i]'h = .list false 1 (bytesA p) := fun h => by simp [rowsA, hp]
      have hft := flatten_take l i hlt
      rw [hp] at hft
      have hfl := flat_length (l.take (i + 1))
      have hsl2 := sumL_le l (i + 1)
      have hfl2 : ((l.take i).flatten ++ p).length ≤ 1000000 := by rw [← hft]; omega
      rw [List.length_append] at hfl2
      clear hfl
      generalize (l.take i).flatten = A at *
      simp [hlt, hlt', hg]
      exact ⟨by omega, by omega, i + 1, by omega, by omega, by rw [hft, bytesA_append]; exact AV.le_refl _, by rw [hw]; exact AV.le_refl _⟩
    · obtain rfl : i = l.length := by omega
      simp
/-! ### The first bytes -/
@[simp] def st8s : List Nat := [20]
@[simp] def st9s : List Nat := [11, 13, 16, 14, 21]
def devB (d : List UInt8) : List UInt8 := [2, 4, 73, 66, 77, 45, 51, 50, 55, 56, 1] ++ d
def helloB (x : Bool) (d f : List UInt8) : List UInt8 :=
  if x = true then [255, 253, 40] ++ subBytes 40 [8, 2] ++ subBytes 40 (devB d) ++ subBytes 40 ([3, 4] ++ f)
  else [255, 253, 24, 255, 250, 24, 1, 255, 240, 255, 253, 25, 255, 251, 25, 255, 253, 0, 255, 251, 0]
set_option maxRecDepth 8000 in
set_option maxHeartbeats 1000000 in
theorem hello_calls (x o : Bool) (d f : List UInt8) (hd : d.length ≤ 45) (hf : f.length ≤ 100) (σ : Store) : ACalls Tryz.prog 8 [.lit (.bool x), .lit (.string ⟨d.toArray⟩), .list o 1 (bytesA f)] σ fun v σ' => v = .list true 1 (bytesA (helloB x d f)) ∧ σ' = σ := by
  have hsay := fun a b τ => say_calls a b τ
  have hsub := fun c l (h : l.length ≤ 1000000) τ => subBytes_calls true c l τ h
  have hcat := fun l (h1 : l.length ≤ 1000) (h2 : sumL l ≤ 1000000) τ => concat_calls true l h1 h2 τ
  cases x with
  | false =>
    have hl : sumL [[255, 253, 24], subBytes 24 [1], [255, 253, 25], [255, 251, 25], [255, 253, 0], [255, 251, 0]] ≤ 1000000 := by decide
    have hc := fun τ => hcat _ (by simp) hl τ
    have he : ([[255, 253, 24], subBytes 24 [1], [255, 253, 25], [255, 251, 25], [255, 253, 0], [255, 251, 0]] : List (List UInt8)).flatten = helloB false d f := rfl
    rw [he] at hc
    have hs := fun τ => hsub 24 [1] (by simp) τ
    simp only [rowsA, List.map_cons, List.map_nil] at hc
    generalize subBytes 24 [1] = S at *
    generalize helloB false d f = H at *
    refine ACalls.of_awp follows (st := st8s) (plans := pl8) (n := 34) Tryz.func8 rfl (by kernel_rfl) (by kernel_rfl) (by kernel_rfl) ?_
    simp
    refine callK.of (hsay 253 24 _) ?_
    rintro v σ1 ⟨rfl, rfl⟩
    simp
    refine callK.of (hs _) ?_
    rintro v σ1 ⟨rfl, rfl⟩
    simp
    refine callK.of (hsay 253 25 _) ?_
    rintro v σ1 ⟨rfl, rfl⟩
    simp
    refine callK.of (hsay 251 25 _) ?_
    rintro v σ1 ⟨rfl, rfl⟩
    simp
    refine callK.of (hsay 253 0 _) ?_
    rintro v σ1 ⟨rfl, rfl⟩
    simp
    refine callK.of (hsay 251 0 _) ?_
    rintro v σ1 ⟨rfl, rfl⟩
    simp
    refine callK.of (hc _) ?_
    rintro v σ1 ⟨rfl, rfl⟩
    simp
  | true =>
    have h1 := esc_length (devB d)
    have h2 := esc_length (3 :: 4 :: f)
    have hdl : (devB d).length = 11 + d.length := by simp [devB]; omega
    have hl : sumL [[255, 253, 40], subBytes 40 [8, 2], subBytes 40 (devB d), subBytes 40 (3 :: 4 :: f)] ≤ 1000000 := by
      have e0 : (subBytes 40 [8, 2]).length = 7 := rfl
      have e1 : (subBytes 40 (devB d)).length = 5 + (esc (devB d)).length := by simp [subBytes]; omega
      have e2 : (subBytes 40 (3 :: 4 :: f)).length = 5 + (esc (3 :: 4 :: f)).length := by simp [subBytes]; omega
      simp only [List.length_cons] at h2
      simp only [sumL, List.map_cons, List.map_nil, List.sum_cons, List.sum_nil, List.length_cons, List.length_nil, e0, e1, e2]
      omega
    have hc := fun τ => hcat _ (by simp) hl τ
    have he : ([[255, 253, 40], subBytes 40 [8, 2], subBytes 40 (devB d), subBytes 40 (3 :: 4 :: f)] : List (List UInt8)).flatten = helloB true d f := by simp [helloB]
    rw [he] at hc
    have hs1 := fun τ => hsub 40 [8, 2] (by simp) τ
    have hs2 := fun o τ => subBytes_calls o 40 (devB d) τ (by omega)
    have hs3 := fun o τ => subBytes_calls o 40 (3 :: 4 :: f) τ (by simp; omega)
    have hdev : bytesA (devB d) = [.lit (.int .u8 2), .lit (.int .u8 4), .lit (.int .u8 73), .lit (.int .u8 66), .lit (.int .u8 77), .lit (.int .u8 45), .lit (.int .u8 51), .lit (.int .u8 50), .lit (.int .u8 55), .lit (.int .u8 56), .lit (.int .u8 1)] ++ bytesA d := rfl
    rw [hdev] at hs2
    simp only [rowsA, List.map_cons, List.map_nil] at hc
    have hbv := bytesV_mk d
    have hsz : (ByteArray.mk d.toArray).size = d.length := by simp [ByteArray.size]
    generalize subBytes 40 [8, 2] = S1 at *
    generalize subBytes 40 (devB d) = S2 at *
    generalize subBytes 40 (3 :: 4 :: f) = S3 at *
    generalize helloB true d f = H at *
    refine ACalls.of_awp follows (st := st8s) (plans := pl8) (n := 34) Tryz.func8 rfl (by kernel_rfl) (by kernel_rfl) (by kernel_rfl) ?_
    simp [hbv, hsz]
    refine ⟨by omega, by omega, ?_⟩
    refine callK.of (hsay 253 40 _) ?_
    rintro v σ1 ⟨rfl, rfl⟩
    simp
    refine callK.of (hs1 _) ?_
    rintro v σ1 ⟨rfl, rfl⟩
    simp
    refine callK.of (hs2 _ _) ?_
    rintro v σ1 ⟨rfl, rfl⟩
    simp
    refine ⟨by omega, by omega, ?_⟩
    refine callK.of (hs3 _ _) ?_
    rintro v σ1 ⟨rfl, rfl⟩
    simp
    refine callK.of (hc _) ?_
    rintro v σ1 ⟨rfl, rfl⟩
    simp
set_option maxRecDepth 8000 in
set_option maxHeartbeats 1000000 in
theorem rhello_calls (x o : Bool) (d f : List UInt8) (hd : d.length ≤ 45) (hf : f.length ≤ 100) (σ : Store) : ACalls Tryz.prog 9 [.lit (.bool x), .lit (.string ⟨d.toArray⟩), .list o 1 (bytesA f)] σ fun v σ' => v = .list true 1 (bytesA (helloB x d f)) ∧ σ' = σ := by
  have hsub := fun o c l (h : l.length ≤ 1000000) τ => rsub_calls o c l τ h
  cases x with
  | false =>
    have he : [.lit (.int .u8 255), .lit (.int .u8 253), .lit (.int .u8 24), .lit (.int .u8 255), .lit (.int .u8 250), .lit (.int .u8 24), .lit (.int .u8 1), .lit (.int .u8 255), .lit (.int .u8 240), .lit (.int .u8 255), .lit (.int .u8 253), .lit (.int .u8 25), .lit (.int .u8 255), .lit (.int .u8 251), .lit (.int .u8 25), .lit (.int .u8 255), .lit (.int .u8 253), .lit (.int .u8 0), .lit (.int .u8 255), .lit (.int .u8 251), .lit (.int .u8 0)] = bytesA (helloB false d f) := rfl
    generalize helloB false d f = H at *
    refine ACalls.of_awp follows (st := st9s) (plans := pl9) (n := 27) Tryz.func9 rfl (by kernel_rfl) (by kernel_rfl) (by kernel_rfl) ?_
    simp
    exact le_of_eq (by rw [← he])
  | true =>
    have h1 := esc_length (devB d)
    have h2 := esc_length (3 :: 4 :: f)
    have hdl : (devB d).length = 11 + d.length := by simp [devB]; omega
    have hs2 := fun o τ => hsub o 40 (devB d) (by omega) τ
    have hs3 := fun o τ => hsub o 40 (3 :: 4 :: f) (by simp; omega) τ
    have hdev : bytesA (devB d) = [.lit (.int .u8 2), .lit (.int .u8 4), .lit (.int .u8 73), .lit (.int .u8 66), .lit (.int .u8 77), .lit (.int .u8 45), .lit (.int .u8 51), .lit (.int .u8 50), .lit (.int .u8 55), .lit (.int .u8 56), .lit (.int .u8 1)] ++ bytesA d := rfl
    rw [hdev] at hs2
    have e1 : (subBytes 40 (devB d)).length = 5 + (esc (devB d)).length := by simp [subBytes]; omega
    have e2 : (subBytes 40 (3 :: 4 :: f)).length = 5 + (esc (3 :: 4 :: f)).length := by simp [subBytes]; omega
    have hH : helloB true d f = [255, 253, 40, 255, 250, 40, 8, 2, 255, 240] ++ subBytes 40 (devB d) ++ subBytes 40 (3 :: 4 :: f) := rfl
    have hbv := bytesV_mk d
    have hsz : (ByteArray.mk d.toArray).size = d.length := by simp [ByteArray.size]
    rw [hH]
    simp only [List.length_cons] at h2
    generalize subBytes 40 (devB d) = S2 at *
    generalize subBytes 40 (3 :: 4 :: f) = S3 at *
    refine ACalls.of_awp follows (st := st9s) (plans := pl9) (n := 27) Tryz.func9 rfl (by kernel_rfl) (by kernel_rfl) (by kernel_rfl) ?_
    simp [hbv, hsz]
    refine ⟨by omega, by omega, ?_⟩
    refine callK.of (hs2 _ _) ?_
    rintro v σ1 ⟨rfl, rfl⟩
    simp
    refine ⟨by omega, by omega, by omega, by omega, ?_⟩
    refine callK.of (hs3 _ _) ?_
    rintro v σ1 ⟨rfl, rfl⟩
    simp
    exact ⟨by omega, by omega, le_of_eq (by simp [bytesA, byteA])⟩
end Go.Proofs.YtegpebaoghmgiaaGreatDoor
