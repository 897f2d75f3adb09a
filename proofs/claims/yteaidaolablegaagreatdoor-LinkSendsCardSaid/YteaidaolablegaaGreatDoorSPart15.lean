/-
  Any short list of bytes is sorted: collected into a row, which is sorted.
-/
import Derived.Test.YteaidaolablegaaGreatDoorSPart14
set_option linter.unusedSimpArgs false
set_option linter.unusedVariables false
namespace Go.Proofs.YteaidaolablegaaGreatDoor
open Go Go.AL

set_option maxRecDepth 8000 in
theorem pdqG_calls (p cap : Nat) (l : List UInt8) (rest : List AV) (hl : l.length ≤ 12) (k : Int) (σ : Store) (hp : σ p = some (bytesA l ++ rest)) :
    ACalls Tryz.prog 141 [sliA p l.length cap, .lit (.int .i64 0), .lit (.int .i64 l.length), .lit (.int .i64 k)] σ fun v σ' => v = .tuple [] ∧ ∃ L : List UInt8, L.Perm l ∧ AscTo L l.length ∧ σ' = σ.upd p (bytesA L ++ rest) := by
  have hi := insertG_calls p cap l rest (by omega) σ hp
  have hw : IntKind.i64.wrap (l.length : Int) = (l.length : Int) := wrap_i64 (by omega) (by omega)
  have h12 : (l.length : Int) ≤ 12 := by omega
  refine ACalls.of_awp follows (st := st141) (plans := pl141) (n := 134) Tryz.func141 rfl (by kernel_rfl) (by kernel_rfl) (by kernel_rfl) ?_
  simp
  refine codeK.loop follows (st := st141) (plans := pl141) (X := Unit) (fun _ => True)
    (fun _ => [(0, sliA p l.length cap), (1, .lit (.int .i64 0)), (2, .lit (.int .i64 l.length)), (3, .lit (.int .i64 k))]) (fun _ => σ) (fun _ => 0) () (by kernel_rfl) trivial (by simp) (Store.sub_refl _) fun _ _ => ?_
  simp [hw, h12, show l.length ≤ 12 from hl]
  refine callK.of hi ?_
  rintro v σ' ⟨rfl, L, h1, h2, rfl⟩
  simp
  exact ⟨_, AV.le_refl _, _, Store.sub_refl _, rfl, L, h1, h2, rfl⟩
set_option maxRecDepth 8000 in
theorem sortG_calls (p cap : Nat) (l : List UInt8) (rest : List AV) (hl : l.length ≤ 5) (σ : Store) (hp : σ p = some (bytesA l ++ rest)) :
    ACalls Tryz.prog 138 [sliA p l.length cap] σ fun v σ' => v = .tuple [] ∧ ∃ L : List UInt8, L.Perm l ∧ AscTo L l.length ∧ σ' = σ.upd p (bytesA L ++ rest) := by
  have hle := fun τ => len_calls l.length hl τ
  have hpd := fun k => pdqG_calls p cap l rest (by omega) k σ hp
  have hw : IntKind.u64.wrap (l.length : Int) = (l.length : Int) := by
    have hcase : l.length = 0 ∨ l.length = 1 ∨ l.length = 2 ∨ l.length = 3 ∨ l.length = 4 ∨ l.length = 5 := by omega
    rcases hcase with h | h | h | h | h | h <;> rw [h] <;> decide
  refine ACalls.of_awp follows (st := st138) (plans := pl138) (n := 11) Tryz.func138 rfl (by kernel_rfl) (by kernel_rfl) (by kernel_rfl) ?_
  simp [hw]
  refine callK.of (hle _) ?_
  rintro v σ' ⟨⟨k, rfl⟩, rfl⟩
  simp
  refine callK.of (hpd k) ?_
  rintro v σ' ⟨rfl, L, h1, h2, rfl⟩
  simp
  exact ⟨_, AV.le_refl _, _, Store.sub_refl _, rfl, L, h1, h2, rfl⟩
abbrev nilS : AV := .lit (.slice none 0 0)
def tops (n : Nat) : List AV := List.replicate n .top
/-- A row that was made: its bytes, and room. -/
def RowR (σ : Store) (l : List UInt8) (v : AV) (σ' : Store) : Prop := (l = [] ∧ v = nilS ∧ σ' = σ) ∨ ∃ (p cap : Nat), σ p = none ∧ l.length ≤ cap ∧ cap ≤ maxLen ∧ v = sliA p l.length cap ∧ σ' = σ.upd p (bytesA l ++ tops (cap - l.length))
set_option maxRecDepth 8000 in
set_option maxHeartbeats 1000000 in
theorem appseqO_calls (b : Nat) (o : Bool) (l : List UInt8) (hl : l.length ≤ 1000000) (σ : Store) (hb : σ b = some [.list o 1 (bytesA l)]) :
    ACalls Tryz.prog 140 [nilS, .func (.func 139) [] [ptrA b]] σ (RowR σ l) := by
  have hi := fun τ ht => values_iter b o l hl τ ht
  refine ACalls.of_awpY follows (st := st140o) (plans := pl140o) (n := 13) Tryz.func140 rfl (by kernel_rfl) (by kernel_rfl) (by kernel_rfl) ?_
  simp
  intro q hq
  have hqb : ¬ b = q := by rintro rfl; rw [hb] at hq; cases hq
  refine codeYK.range follows (st := st140o) (plans := pl140o) (hi (σ.upd q [nilS]) (by simp [hqb, hb])) (by simp [ptrA]) (by simp) (by intro x hx; obtain ⟨_, _, rfl⟩ := List.mem_map.1 hx; rfl) (by kernel_rfl) (by kernel_rfl) (by kernel_rfl)
    (fun k τ _ => k ≤ l.length ∧ ((k = 0 ∧ τ = σ.upd q [nilS]) ∨ ∃ (p cap : Nat), 0 < k ∧ ¬ p = q ∧ σ p = none ∧ k ≤ cap ∧ cap ≤ maxLen ∧ τ = (σ.upd p (bytesA (l.take k) ++ tops (cap - k))).upd q [sliA p k cap])) (fun _ _ _ => False)
    _ ⟨by omega, .inl ⟨rfl, rfl⟩⟩ ?_ ?_ ?_ ?_
  · simp
  · rintro k hk τ E ⟨h1, h2⟩
    have hk' : k < l.length := by simpa using hk
    obtain ⟨c, hc⟩ : ∃ c, l[k] = c := ⟨_, rfl⟩
    have ht : l.take (k + 1) = l.take k ++ [c] := by rw [List.take_succ_eq_append_getElem hk', hc]
    have hx : (l.map fun c => [byteA c])[k]'hk = [.lit (.int .u8 c.toNat)] := by simp [hc, byteA]
    rw [hx]
    rcases h2 with ⟨rfl, rfl⟩ | ⟨p, cap, h0, hpq, hp, hc1, hc2, rfl⟩
    · simp [nilS]
      intro p cap hpn hc1 hc2
      have hpq : ¬ p = q := by intro e; simp [e] at hpn
      have hp0 : σ p = none := by simpa [hpq] using hpn
      have hqp : ¬ q = p := fun e => hpq e.symm
      simp [hqp]
      refine ⟨(σ.upd p (bytesA (l.take 1) ++ tops (cap - 1))).upd q [sliA p 1 cap], ?_, by omega, p, hpq, hp0, cap, hc1, hc2, rfl⟩
      have e1 : l.take 1 = [c] := by simpa using ht
      rw [e1]
      refine Store.sub2 (fun x => ?_) fun g => .inr (by simp)
      right
      simp only [supd_apply]
      by_cases h1 : x = q
      · simp [h1]
      · simp [h1, flat, bytesA, byteA, tops]
    · have hln : (bytesA (l.take k) ++ tops (cap - k)).length = cap := by simp [tops]; omega
      have htk : (bytesA (l.take k) ++ tops (cap - k)).take k = bytesA (l.take k) := by
        rw [List.take_append_of_le_length (by simp; omega), List.take_of_length_le (by simp; omega)]
      have hc3 : cap ≤ 9223372036854775807 := hc2
      simp [hpq, hln, htk, hc1, hc3, sliA]
      refine ⟨by omega, by omega, fun p2 cap2 hp2 hc4 hc5 => ?_⟩
      have hqp2 : ¬ q = p2 := by
        rintro rfl
        rcases hp2 with e | e
        · exact hpq e
        · simp at e
      have hp2q : ¬ p2 = q := fun e => hqp2 e.symm
      have hp20 : σ p2 = none := by
        rcases hp2 with rfl | e
        · exact hp
        · simp only [hp2q, if_false] at e
          by_cases e2 : p2 = p
          · simp [e2] at e
          · simpa [e2] using e
      have hqp : ¬ q = p := fun e => hpq e.symm
      simp [hqp2, hqp]
      refine ⟨(σ.upd p2 (bytesA (l.take (k + 1)) ++ tops (cap2 - (k + 1)))).upd q [sliA p2 (k + 1) cap2], ?_, by omega, p2, hp2q, hp20, cap2, hc4, hc5, rfl⟩
      rw [ht]
      refine Store.sub2 (fun x => ?_) fun g => .inr (by simp)
      by_cases h1 : x = q
      · right; simp [h1]
      · by_cases h2 : x = p2
        · right; simp [h1, h2, hp2q, flat, bytesA, byteA, tops]
        · by_cases h3 : x = p
          · left; subst h3; simp [h1, h2, hp]
          · right; simp [h1, h2, h3]
  · rintro τ E σ' hs ⟨h2, h3⟩
    rcases h3 with ⟨hk0, rfl⟩ | ⟨p, cap, h0, hpq, hp, hc1, hc2, rfl⟩
    · have e2 : σ' q = some [nilS] := by
        rcases hs q with h | h
        · simp at h
        · rw [← h]; simp
      have hnl : l = [] := by simpa using hk0
      simp [e2, nilS]
      exact ⟨_, AV.le_refl _, σ, Store.sub_trans (sub_upd_self _ _ _ hq) hs, .inl ⟨hnl, rfl, rfl⟩⟩
    · have e2 : σ' q = some [sliA p (l.map fun c => [byteA c]).length cap] := by
        rcases hs q with h | h
        · simp at h
        · rw [← h]; simp
      simp [e2, sliA]
      rw [List.length_map] at hc1
      refine ⟨_, AV.le_refl _, σ.upd p (bytesA l ++ tops (cap - l.length)), Store.sub_trans ?_ hs, .inr ⟨p, cap, hp, hc1, hc2, rfl, rfl⟩⟩
      rw [List.length_map, List.take_length]
      refine sub_upd_self _ _ _ ?_
      have hqp' : ¬ q = p := fun e => hpq e.symm
      simp [hqp', hq]
  · rintro c τ E σ' hs h
    exact h.elim
set_option maxRecDepth 8000 in
theorem collO_calls (b : Nat) (o : Bool) (l : List UInt8) (hl : l.length ≤ 1000000) (σ : Store) (hb : σ b = some [.list o 1 (bytesA l)]) :
    ACalls Tryz.prog 137 [.func (.func 139) [] [ptrA b]] σ (RowR σ l) := by
  have has := appseqO_calls b o l hl σ hb
  refine ACalls.of_awp follows (st := st137o) (plans := pl137o) (n := 5) Tryz.func137 rfl (by kernel_rfl) (by kernel_rfl) (by kernel_rfl) ?_
  simp
  refine callK.of has ?_
  rintro v σ' (⟨hn, rfl, rfl⟩ | ⟨p, cap, h1, h2, h3, rfl, rfl⟩)
  · simp [nilS]
    exact ⟨_, AV.le_refl _, _, Store.sub_refl _, .inl ⟨hn, rfl, rfl⟩⟩
  · simp [sliA]
    exact ⟨_, AV.le_refl _, _, Store.sub_refl _, .inr ⟨p, cap, h1, h2, h3, rfl, rfl⟩⟩
theorem sortL_uniq {l L : List UInt8} (hn : l.Nodup) (h4 : ∀ x ∈ l, x.toNat ≤ 4) (hp : L.Perm l) (ha : AscTo L l.length) : L = sortL l := by
  have hL : L.Pairwise fun a b => a.toNat < b.toNat := by
    rw [List.pairwise_iff_getElem]
    intro i j hi hj hij
    have h1 := ha i j hij (by rw [← hp.length_eq]; exact hj)
    unfold gN at h1
    rw [List.getElem?_eq_getElem hi, List.getElem?_eq_getElem hj] at h1
    simp only [Option.getD_some] at h1
    have hne : L[i] ≠ L[j] := (List.pairwise_iff_getElem.1 (hp.nodup_iff.2 hn)) i j hi hj hij
    have : L[i].toNat ≠ L[j].toNat := fun e => hne (UInt8.toNat_inj.1 e)
    omega
  have hS : (sortL l).Pairwise fun a b => a.toNat < b.toNat := (show ([0, 1, 2, 3, 4] : List UInt8).Pairwise fun a b => a.toNat < b.toNat by decide).filter _
  have hmem : ∀ x, x ∈ L ↔ x ∈ sortL l := fun x => by
    unfold sortL
    rw [hp.mem_iff, List.mem_filter]
    constructor
    · intro h
      refine ⟨?_, by simpa using h⟩
      have := h4 x h
      have hc : x.toNat = 0 ∨ x.toNat = 1 ∨ x.toNat = 2 ∨ x.toNat = 3 ∨ x.toNat = 4 := by omega
      have hx : x = UInt8.ofNat x.toNat := by simp
      rcases hc with h | h | h | h | h <;> rw [h] at hx <;> rw [hx] <;> decide
    · rintro ⟨_, h⟩
      simpa using h
  have hperm : L.Perm (sortL l) := (List.perm_ext_iff_of_nodup (hL.imp fun h e => by rw [e] at h; omega) (hS.imp fun h e => by rw [e] at h; omega)).2 hmem
  exact hperm.eq_of_pairwise (le := fun a b => a.toNat < b.toNat) (fun a b _ _ h1 h2 => by omega) hL hS
set_option maxRecDepth 8000 in
theorem sortedO_calls (b : Nat) (o : Bool) (l : List UInt8) (hl : l.length ≤ 5) (hn : l.Nodup) (h4 : ∀ x ∈ l, x.toNat ≤ 4) (σ : Store) (hb : σ b = some [.list o 1 (bytesA l)]) :
    ACalls Tryz.prog 134 [.func (.func 139) [] [ptrA b]] σ fun v σ' => v = .list true 1 (bytesA (sortL l)) ∧ σ' = σ := by
  have hso := fun τ => sort_calls true [] (by simp) (fun i _ h => by simp at h) τ
  have hb0 : bytesA [] = [] := rfl
  rw [hb0] at hso
  have hco := collO_calls b o l (by omega) σ hb
  have h0 : ACalls Tryz.prog 134 [.func (.func 139) [] [ptrA b]] σ (fun v σ' => (sortL l = [] ∧ v = .list true 1 [] ∧ σ' = σ) ∨ RowR σ (sortL l) v σ') := by
    refine ACalls.of_awp follows (st := st134o) (plans := pl134o) (n := 9) Tryz.func134 rfl (by kernel_rfl) (by kernel_rfl) (by kernel_rfl) ?_
    simp
    refine callK.of hco ?_
    rintro v σ' (⟨rfl, rfl, rfl⟩ | ⟨p, cap, h1, h2, h3, rfl, rfl⟩)
    · simp [nilS]
      refine callK.of (hso _) ?_
      rintro v σ2 ⟨rfl, rfl⟩
      simp
      exact ⟨_, AV.le_refl _, _, Store.sub_refl _, .inl ⟨rfl, rfl, rfl⟩⟩
    · have hs := sortG_calls p cap l (tops (cap - l.length)) hl (σ.upd p (bytesA l ++ tops (cap - l.length))) (by simp)
      simp [sliA]
      refine callK.of hs ?_
      rintro v σ' ⟨rfl, L, hp, ha, rfl⟩
      have hL := sortL_uniq hn h4 hp ha
      subst hL
      have hln : (sortL l).length = l.length := hp.length_eq
      simp
      refine ⟨_, AV.le_refl _, _, Store.sub_refl _, .inr (.inr ⟨p, cap, h1, by omega, h3, ?_, ?_⟩)⟩
      · rw [hln]
      · rw [hln]
  refine h0.shift ?_
  rintro v σ' (⟨hn, rfl, rfl⟩ | ⟨hn, rfl, rfl⟩ | ⟨p, cap, h1, h2, h3, rfl, rfl⟩)
  · exact .inl ⟨_, _, AV.le_refl _, Store.sub_refl _, by rw [hn]; rfl, rfl⟩
  · exact .inl ⟨.list true 1 (bytesA (sortL l)), _, by rw [hn]; exact AV.le_nil _ _, Store.sub_refl _, rfl, rfl⟩
  · refine .inr ⟨p, cap, 1, bytesA (sortL l), tops (cap - (sortL l).length), by rw [bytesA_length], by rw [flat_bytesA]; simp, ?_, h3, by simpa using h2, ?_, _, AV.le_refl _, rfl, ?_⟩
    · rw [flat_bytesA]; simp [tops]; omega
    · intro v hv
      obtain ⟨c, _, rfl⟩ := List.mem_map.1 hv; rfl
    · rw [del_upd_new h1]
set_option maxRecDepth 8000 in
theorem sortL_len (l : List UInt8) : (sortL l).length ≤ 5 := Nat.le_trans (List.length_filter_le _ _) (by simp)
set_option maxRecDepth 8000 in
theorem agreeG_calls (q : Nat) (e : Ng) (o1 o2 o : Bool) (l : List UInt8) (hl : l.length ≤ 5) (hn : l.Nodup) (h4 : ∀ x ∈ l, x.toNat ≤ 4) (σ : Store) (h : σ q = some (endO e o1 o2)) :
    ACalls Tryz.prog 128 [ptrA q, .list o 1 (bytesA l)] σ fun v σ' => v = .tuple [] ∧ Up σ q { e with st := 3, agreed := sortL l } σ' := by
  have hv := fun τ => values_calls false l τ
  have hsd := fun b τ ht => sortedO_calls b false l hl hn h4 τ ht
  have h0 := h
  unfold endO at h
  refine ACalls.of_awp follows (st := st128) (plans := pl128) (n := 13) Tryz.func128 rfl (by kernel_rfl) (by kernel_rfl) (by kernel_rfl) ?_
  simp [ptrA]
  refine callK.of (hv _) ?_
  rintro v σ' ⟨b, hb, rfl, rfl⟩
  have hqb : ¬ q = b := by rintro rfl; rw [h0] at hb; cases hb
  simp
  have := hsd b (σ.upd b [.list false 1 (bytesA l)]) (by simp)
  refine callK.of this ?_
  rintro v σ' ⟨rfl, rfl⟩
  simp [hqb, h]
  refine ⟨_, AV.le_refl _, _, ?_, rfl, o1, true, rfl⟩
  unfold endO
  (intro q; simp only [Store.upd, Store.del]; (repeat' split) <;> first | exact Or.inr rfl | exact Or.inl rfl | (exfalso; omega) | (left; subst_vars; assumption) | simp_all)
end Go.Proofs.YteaidaolablegaaGreatDoor
/-
  The options' machine: heard, asked, made.
-/
namespace Go.Proofs.YteaidaolablegaaGreatDoor
open Go Go.AL

set_option maxRecDepth 8000 in
theorem ostate_calls (b side : Nat) (m : Om) (o : UInt8) (hs : side = 0 ∨ side = 1) (σ : Store) (hb : σ b = some (omA m)) :
    ACalls Tryz.prog 63 [ptrA b, .lit (.int .i64 side), byteA o] σ fun v σ' => v = .lit (.int .i64 (m.st side o.toNat).toNat) ∧ σ' = σ := by
  have ho := o.toNat_lt
  have h0 := st_get m 0 (.inl rfl) ho
  have h1 := st_get m 512 (.inr rfl) ho
  have ho' : (o.toNat : Int) < 256 := by omega
  have hw : ∀ s : UInt8, IntKind.i64.wrap (s.toNat : Int) = (s.toNat : Int) := fun s => by have := s.toNat_lt; exact wrap_i64 (by omega) (by omega)
  refine ACalls.of_awp follows (st := st63) (plans := pl63) (n := 27) Tryz.func63 rfl (by kernel_rfl) (by kernel_rfl) (by kernel_rfl) ?_
  rcases hs with rfl | rfl
  · simp at h0
    simp [hb, byteA, ho', h0, hw]
  · simp at h1
    simp [hb, byteA, ho', h1, hw]
set_option maxRecDepth 8000 in
theorem oon_calls (b side : Nat) (m : Om) (o : UInt8) (hs : side = 0 ∨ side = 1) (σ : Store) (hb : σ b = some (omA m)) :
    ACalls Tryz.prog 36 [ptrA b, .lit (.int .i64 side), byteA o] σ fun v σ' => v = .lit (.bool (decide (m.st side o.toNat = 1))) ∧ σ' = σ := by
  have h := fun τ ht => ostate_calls b side m o hs τ ht
  have hd : ∀ s : UInt8, ((s.toNat : Int) == 1) = decide (s = 1) := fun s => by
    rw [Bool.eq_iff_iff, beq_iff_eq, decide_eq_true_eq]
    constructor
    · intro h; exact UInt8.toNat_inj.1 (by show s.toNat = 1; omega)
    · rintro rfl; rfl
  refine ACalls.of_awp follows (st := st36) (plans := pl36) (n := 12) Tryz.func36 rfl (by kernel_rfl) (by kernel_rfl) (by kernel_rfl) ?_
  simp
  refine callK.of (h _ hb) ?_
  rintro v σ' ⟨rfl, rfl⟩
  simp [hd]
theorem omset0 (m : Om) (o b : UInt8) : (omA m).set o.toNat (.lit (.int .u8 b.toNat)) = omA (m.setSt 0 o.toNat b) := by
  have := omA_setSt m 0 b o.toNat_lt
  simpa [byteA] using this
theorem omset1 (m : Om) (o b : UInt8) : (omA m).set (512 + o.toNat) (.lit (.int .u8 b.toNat)) = omA (m.setSt 1 o.toNat b) := by
  have := omA_setSt m 1 b o.toNat_lt
  simpa [byteA] using this
theorem u8_eq {a : UInt8} {n : Nat} (hn : n < 256) (h : a = UInt8.ofNat n) : (a.toNat : Int) = (n : Int) := by rw [h]; simp; omega
theorem onF_le (s : UInt8) (a : Bool) : (onF s a).2 ≤ 2 := by
  unfold onF
  repeat' split
  all_goals decide
theorem offF_le (s : UInt8) : (offF s).2 ≤ 2 := by
  unfold offF
  repeat' split
  all_goals decide
theorem askF_le (s : UInt8) : (askF s).2.1 ≤ 2 := by
  unfold askF
  repeat' split
  all_goals simp
set_option maxRecDepth 8000 in
set_option maxHeartbeats 1000000 in
theorem ohear_calls (b : Nat) (m : Om) (verb o : UInt8) (σ : Store) (hb : σ b = some (omA m)) :
    ACalls Tryz.prog 92 [ptrA b, byteA verb, byteA o] σ fun v σ' => (∃ k : Int, v = .tuple [.list true 2 (msgsA (m.hear verb o).2), .lit (.int .i64 k)]) ∧ σ' = σ.upd b (omA (m.hear verb o).1) := by
  have ho := o.toNat_lt
  have ho' : (o.toNat : Int) < 256 := by omega
  have hon0 := on_calls b 0 m o (.inl rfl) σ hb
  have hon1 := on_calls b 512 m o (.inr rfl) σ hb
  have hof0 := off_calls b 0 m o (.inl rfl) σ hb
  have hof1 := off_calls b 512 m o (.inr rfl) σ hb
  have hup : σ.upd b (omA m) = σ := upd_back hb
  have hl := omA_length m
  refine ACalls.of_awp follows (st := st92) (plans := pl92) (n := 57) Tryz.func92 rfl (by kernel_rfl) (by kernel_rfl) (by kernel_rfl) ?_
  rw [byteA_lit verb, byteA_lit o] at *
  have e1 : (0 : Nat) / 512 = 0 := rfl
  have e2 : (512 : Nat) / 512 = 1 := rfl
  rw [e1] at hon0 hof0
  rw [e2] at hon1 hof1
  by_cases v1 : verb = 251
  · have hh : m.hear verb o = (m.setSt 1 o.toNat (onF (m.st 1 o.toNat) (m.ag 1 o.toNat)).1, saidF 1 (onF (m.st 1 o.toNat) (m.ag 1 o.toNat)).2 o) := by unfold Om.hear; rw [if_pos v1]
    have n1 := u8_eq (n := 251) (by omega) v1
    have hle := onF_le (m.st 1 o.toNat) (m.ag 1 o.toNat)
    rw [hh]
    generalize onF (m.st 1 o.toNat) (m.ag 1 o.toNat) = F at *
    have hsd := fun τ => said_calls 1 F.2 o (.inr rfl) hle τ
    rw [byteA_lit] at hsd hon1
    simp [n1, hb]
    refine callK.of hon1 ?_
    rintro v σ' ⟨rfl, rfl⟩
    simp [hb, ho', -e_setRange_1, -e_setRange_2, setRange_one, omset1, show 512 + o.toNat < 1024 by omega]
    repeat' with_reducible apply And.intro
    all_goals first
      | omega
      | (refine callK.of (hsd _) ?_
         rintro v σ2 ⟨rfl, rfl⟩
         simp
         exact ⟨_, AV.le_refl _, _, rfl⟩)
  have q1 : ¬ (verb.toNat : Int) = 251 := u8_ne (n := 251) (by omega) v1
  by_cases v2 : verb = 252
  · have hh : m.hear verb o = (m.setSt 1 o.toNat (offF (m.st 1 o.toNat)).1, saidF 1 (offF (m.st 1 o.toNat)).2 o) := by unfold Om.hear; rw [if_neg v1, if_pos v2]
    have n2 := u8_eq (n := 252) (by omega) v2
    have hle := offF_le (m.st 1 o.toNat)
    rw [hh]
    generalize offF (m.st 1 o.toNat) = F at *
    have hsd := fun τ => said_calls 1 F.2 o (.inr rfl) hle τ
    rw [byteA_lit] at hsd hof1
    simp [n2, hb]
    refine callK.of hof1 ?_
    rintro v σ' ⟨rfl, rfl⟩
    simp [hb, ho', -e_setRange_1, -e_setRange_2, setRange_one, omset1, show 512 + o.toNat < 1024 by omega]
    repeat' with_reducible apply And.intro
    all_goals first
      | omega
      | (refine callK.of (hsd _) ?_
         rintro v σ2 ⟨rfl, rfl⟩
         simp
         exact ⟨_, AV.le_refl _, _, rfl⟩)
  have q2 : ¬ (verb.toNat : Int) = 252 := u8_ne (n := 252) (by omega) v2
  by_cases v3 : verb = 253
  · have hh : m.hear verb o = (m.setSt 0 o.toNat (onF (m.st 0 o.toNat) (m.ag 0 o.toNat)).1, saidF 0 (onF (m.st 0 o.toNat) (m.ag 0 o.toNat)).2 o) := by unfold Om.hear; rw [if_neg v1, if_neg v2, if_pos v3]
    have n3 := u8_eq (n := 253) (by omega) v3
    have hle := onF_le (m.st 0 o.toNat) (m.ag 0 o.toNat)
    rw [hh]
    generalize onF (m.st 0 o.toNat) (m.ag 0 o.toNat) = F at *
    have hsd := fun τ => said_calls 0 F.2 o (.inl rfl) hle τ
    rw [byteA_lit] at hsd hon0
    simp [n3, hb]
    refine callK.of hon0 ?_
    rintro v σ' ⟨rfl, rfl⟩
    simp [hb, ho', -e_setRange_1, -e_setRange_2, setRange_one, omset0, show o.toNat < 1024 by omega]
    repeat' with_reducible apply And.intro
    all_goals first
      | omega
      | (refine callK.of (hsd _) ?_
         rintro v σ2 ⟨rfl, rfl⟩
         simp
         exact ⟨_, AV.le_refl _, _, rfl⟩)
  have q3 : ¬ (verb.toNat : Int) = 253 := u8_ne (n := 253) (by omega) v3
  by_cases v4 : verb = 254
  · have hh : m.hear verb o = (m.setSt 0 o.toNat (offF (m.st 0 o.toNat)).1, saidF 0 (offF (m.st 0 o.toNat)).2 o) := by unfold Om.hear; rw [if_neg v1, if_neg v2, if_neg v3, if_pos v4]
    have n4 := u8_eq (n := 254) (by omega) v4
    have hle := offF_le (m.st 0 o.toNat)
    rw [hh]
    generalize offF (m.st 0 o.toNat) = F at *
    have hsd := fun τ => said_calls 0 F.2 o (.inl rfl) hle τ
    rw [byteA_lit] at hsd hof0
    simp [n4, hb]
    refine callK.of hof0 ?_
    rintro v σ' ⟨rfl, rfl⟩
    simp [hb, ho', -e_setRange_1, -e_setRange_2, setRange_one, omset0, show o.toNat < 1024 by omega]
    repeat' with_reducible apply And.intro
    all_goals first
      | omega
      | (refine callK.of (hsd _) ?_
         rintro v σ2 ⟨rfl, rfl⟩
         simp
         exact ⟨_, AV.le_refl _, _, rfl⟩)
  have q4 : ¬ (verb.toNat : Int) = 254 := u8_ne (n := 254) (by omega) v4
  have hh : m.hear verb o = (m, []) := by unfold Om.hear; rw [if_neg v1, if_neg v2, if_neg v3, if_neg v4]
  rw [hh]
  simp [q1, q2, q3, q4, msgsA]
  exact ⟨_, AV.le_refl _, by rw [hup]; exact Store.sub_refl _, _, rfl⟩
/-- We ask for off. -/
def Om.ask (m : Om) (o : UInt8) : Om × List (UInt8 × UInt8) := ((m.setSt 0 o.toNat (askF (m.st 0 o.toNat)).1), if (askF (m.st 0 o.toNat)).2.2 = true then saidF 0 (askF (m.st 0 o.toNat)).2.1 o else [])
set_option maxRecDepth 8000 in
set_option maxHeartbeats 1000000 in
theorem oask_calls (b : Nat) (m : Om) (o : UInt8) (σ : Store) (hb : σ b = some (omA m)) :
    ACalls Tryz.prog 97 [ptrA b, .lit (.int .i64 0), byteA o, .lit (.bool false)] σ fun v σ' => (∃ k : Int, v = .tuple [.list true 2 (msgsA (m.ask o).2), .lit (.int .i64 k)]) ∧ σ' = σ.upd b (omA (m.ask o).1) := by
  have ho := o.toNat_lt
  have ho' : (o.toNat : Int) < 256 := by omega
  have has := ask_calls b 0 m o (.inl rfl) σ hb
  have hl := omA_length m
  have e1 : (0 : Nat) / 512 = 0 := rfl
  rw [e1] at has
  have hle := askF_le (m.st 0 o.toNat)
  unfold Om.ask
  generalize askF (m.st 0 o.toNat) = F at *
  obtain ⟨s, w, ok⟩ := F
  dsimp only at *
  have hsd := fun τ => said_calls 0 w o (.inl rfl) hle τ
  rw [byteA_lit o] at *
  refine ACalls.of_awp follows (st := st97) (plans := pl97) (n := 59) Tryz.func97 rfl (by kernel_rfl) (by kernel_rfl) (by kernel_rfl) ?_
  simp [hb]
  refine callK.of has ?_
  rintro v σ' ⟨rfl, rfl⟩
  cases ok
  · simp [hb, ho', byteA, -e_setRange_1, -e_setRange_2, setRange_one, omset0, msgsA, show o.toNat < 1024 by omega]
    exact ⟨by omega, _, AV.le_refl _, _, rfl⟩
  · simp [hb, ho', byteA, -e_setRange_1, -e_setRange_2, setRange_one, omset0, show o.toNat < 1024 by omega]
    repeat' with_reducible apply And.intro
    all_goals first
      | omega
      | (refine callK.of (hsd _) ?_
         rintro v σ2 ⟨rfl, rfl⟩
         simp
         exact ⟨_, AV.le_refl _, _, rfl⟩)
set_option maxRecDepth 8000 in
theorem mbytes_calls (x : UInt8 × UInt8) (σ : Store) : ACalls Tryz.prog 109 [msgA x] σ fun v σ' => v = .list true 1 (bytesA [255, x.1, x.2]) ∧ σ' = σ := by
  have h := fun τ => say_calls x.1 x.2 τ
  rw [byteA_lit, byteA_lit] at h
  refine ACalls.of_awp follows (st := st109) (plans := pl109) (n := 8) Tryz.func109 rfl (by kernel_rfl) (by kernel_rfl) (by kernel_rfl) ?_
  simp [msgA, byteA]
  intro p hp
  refine callK.of (h _) ?_
  rintro v σ' ⟨rfl, rfl⟩
  simp
  exact sub_upd_self _ _ _ hp
end Go.Proofs.YteaidaolablegaaGreatDoor
/-
  Headers and records.
-/
namespace Go.Proofs.YteaidaolablegaaGreatDoor
open Go Go.AL

structure Hd where
  ty : UInt8
  req : UInt8
  resp : UInt8
  seq : Nat
  deriving DecidableEq
def hdL (h : Hd) : List AV := [byteA h.ty, byteA h.req, byteA h.resp, .lit (.int .u16 h.seq)]
def Hd.zero : Hd := ⟨0, 0, 0, 0⟩
def Hd.right (h : Hd) : Bool := decide (h.ty.toNat ≤ 8) && decide (h.resp.toNat ≤ if h.ty = 2 then 1 else 2)
set_option maxRecDepth 8000 in
theorem right_calls (h : Hd) (σ : Store) : ACalls Tryz.prog 66 [.agg (hdL h)] σ fun v σ' => v = .lit (.bool h.right) ∧ σ' = σ := by
  obtain ⟨ty, req, resp, seq⟩ := h
  have t1 := ty.toNat_lt
  have hw : IntKind.i64.wrap (ty.toNat : Int) = (ty.toNat : Int) := wrap_i64 (by omega) (by omega)
  have hw1 : IntKind.u8.wrap 1 = 1 := by decide
  refine ACalls.of_awp follows (st := st66) (plans := pl66) (n := 19) Tryz.func66 rfl (by kernel_rfl) (by kernel_rfl) (by kernel_rfl) ?_
  have h9 : ((ty.toNat : Int) < 9) ↔ ty.toNat ≤ 8 := by omega
  by_cases h2 : ty = 2
  · subst h2
    have hr : Hd.right ⟨2, req, resp, seq⟩ = decide ((resp.toNat : Int) ≤ 1) := by
      unfold Hd.right
      rw [Bool.eq_iff_iff]
      simp
      omega
    rw [hr]
    have hw2 : IntKind.i64.wrap 2 = 2 := by decide
    simp [hdL, byteA, hw1, hw2]
    intro p hp
    exact sub_upd_self _ _ _ hp
  · have n2 : ¬ (ty.toNat : Int) = 2 := u8_ne (n := 2) (by omega) h2
    by_cases h8 : ty.toNat ≤ 8
    · have hr : Hd.right ⟨ty, req, resp, seq⟩ = decide ((resp.toNat : Int) ≤ 2) := by
        unfold Hd.right
        rw [Bool.eq_iff_iff]
        simp [h2, h8]
        omega
      rw [hr]
      simp [hdL, byteA, n2, hw, h9.2 h8, h8]
      intro p hp
      exact sub_upd_self _ _ _ hp
    · have hr : Hd.right ⟨ty, req, resp, seq⟩ = false := by
        unfold Hd.right
        simp [h8]
      have h8' : ¬ ((ty.toNat : Int) < 9) := by omega
      rw [hr]
      simp [hdL, byteA, n2, hw, h8', h8]
      intro p hp
      exact sub_upd_self _ _ _ hp
theorem shl_u8 (a : UInt8) : IntKind.u16.wrap ((a.toNat : Int) * 2 ^ min 8 IntKind.u16.bits) = ((a.toNat * 256 : Nat) : Int) := by
  have := a.toNat_lt
  have hp : (2 : Int) ^ min 8 IntKind.u16.bits = 256 := by decide
  rw [hp]
  unfold IntKind.wrap
  simp [IntKind.signed, IntKind.bits]
  omega
theorem or_u16 (a b : UInt8) : pureBin .or (.int .u16 ((a.toNat * 256 : Nat) : Int)) (.int .u16 (b.toNat : Int)) = some (.int .u16 ((a.toNat * 256 + b.toNat : Nat) : Int)) := by
  have h1 := a.toNat_lt
  have h2 := b.toNat_lt
  have hor : a.toNat * 256 ||| b.toNat = a.toNat * 256 + b.toNat := by
    have := Nat.two_pow_add_eq_or_of_lt (i := 8) h2 a.toNat
    rw [Nat.mul_comm]
    exact this.symm
  have h : IntKind.u16.wrap ((BitVec.ofInt IntKind.u16.bits ((a.toNat * 256 : Nat) : Int) ||| BitVec.ofInt IntKind.u16.bits (b.toNat : Int)).toNat : Int) = ((a.toNat * 256 + b.toNat : Nat) : Int) := by
    have e : (BitVec.ofInt IntKind.u16.bits ((a.toNat * 256 : Nat) : Int) ||| BitVec.ofInt IntKind.u16.bits (b.toNat : Int)).toNat = a.toNat * 256 + b.toNat := by
      show (BitVec.ofInt 16 ((a.toNat * 256 : Nat) : Int) ||| BitVec.ofInt 16 (b.toNat : Int)).toNat = _
      rw [BitVec.ofInt_natCast, BitVec.ofInt_natCast, BitVec.toNat_or, BitVec.toNat_ofNat, BitVec.toNat_ofNat, Nat.mod_eq_of_lt (by omega), Nat.mod_eq_of_lt (by omega)]
      exact hor
    rw [e]
    unfold IntKind.wrap
    simp [IntKind.signed, IntKind.bits]
    omega
  unfold pureBin
  simp only [if_pos]
  rw [h]
/-- The header in front, and what stands behind it. -/
def parseF : List UInt8 → Option (Hd × List UInt8)
  | a :: b :: c :: d :: e :: l => if Hd.right ⟨a, b, c, d.toNat * 256 + e.toNat⟩ = true then some (⟨a, b, c, d.toNat * 256 + e.toNat⟩, l) else none
  | _ => none
def ParseR (l : List UInt8) (σ : Store) (v : AV) (σ' : Store) : Prop := σ' = σ ∧ match parseF l with
  | some (h, r) => v = .tuple [.agg (hdL h), .list true 1 (bytesA r), .lit (.int .i64 0)]
  | none => ∃ k : Nat, k ≠ 0 ∧ v = .tuple [.agg (hdL .zero), .list true 1 [], .lit (.int .i64 k)]
set_option maxRecDepth 8000 in
set_option maxHeartbeats 1000000 in
theorem parse_calls (o : Bool) (l : List UInt8) (hl : l.length ≤ 1000000) (σ : Store) : ACalls Tryz.prog 99 [.list o 1 (bytesA l)] σ (ParseR l σ) := by
  have hz : Hd.zero = ⟨0, 0, 0, 0⟩ := rfl
  by_cases h5 : l.length < 5
  · have hn : parseF l = none := by
      rcases l with _ | ⟨a, _ | ⟨b, _ | ⟨c, _ | ⟨d, _ | ⟨e, l⟩⟩⟩⟩⟩ <;> first | rfl | (simp at h5; omega)
    have h5' : (l.length : Int) < 5 := by omega
    refine ACalls.of_awp follows (st := st99) (plans := pl99) (n := 38) Tryz.func99 rfl (by kernel_rfl) (by kernel_rfl) (by kernel_rfl) ?_
    unfold ParseR
    rw [hn]
    simp [h5']
    intro p hp
    exact ⟨_, AV.le_refl _, _, sub_upd_self _ _ _ hp, rfl, 1, rfl⟩
  · obtain ⟨a, b, c, d, e, r, rfl⟩ : ∃ a b c d e r, l = a :: b :: c :: d :: e :: r := by
      rcases l with _ | ⟨a, _ | ⟨b, _ | ⟨c, _ | ⟨d, _ | ⟨e, l⟩⟩⟩⟩⟩ <;> first | exact ⟨_, _, _, _, _, _, rfl⟩ | (simp at h5; try omega)
    have hc : bytesA (a :: b :: c :: d :: e :: r) = .lit (.int .u8 a.toNat) :: .lit (.int .u8 b.toNat) :: .lit (.int .u8 c.toNat) :: .lit (.int .u8 d.toNat) :: .lit (.int .u8 e.toNat) :: bytesA r := rfl
    have h5' : ¬ ((r.length : Int) + 1 + 1 + 1 + 1 + 1 < 5) := by omega
    have hri := fun τ => right_calls ⟨a, b, c, d.toNat * 256 + e.toNat⟩ τ
    have hcl := fun τ => clone_calls false r τ (by simp at hl; omega)
    have hs := shl_u8 d
    have ho := or_u16 d e
    have hwd : IntKind.u16.wrap (d.toNat : Int) = (d.toNat : Int) := by
      have := d.toNat_lt
      unfold IntKind.wrap
      simp [IntKind.signed, IntKind.bits]; omega
    have hwe : IntKind.u16.wrap (e.toNat : Int) = (e.toNat : Int) := by
      have := e.toNat_lt
      unfold IntKind.wrap
      simp [IntKind.signed, IntKind.bits]; omega
    have htk := htake r
    unfold ParseR
    simp only [parseF]
    simp only [hdL, byteA] at hri
    generalize hS : d.toNat * 256 + e.toNat = S at *
    generalize hT : ((d.toNat * 256 : Nat) : Int) = T at *
    refine ACalls.of_awp follows (st := st99) (plans := pl99) (n := 38) Tryz.func99 rfl (by kernel_rfl) (by kernel_rfl) (by kernel_rfl) ?_
    simp +contextual [ite_free, hc, h5', hwd, hwe, hs, ho, -e_pureBin_9, htk]
    intro p hp q n1 n2 hq
    have hfin : ∀ X Y : List AV, Store.sub σ ((σ.upd p X).upd q Y) := fun X Y => by (intro q; simp only [Store.upd, Store.del]; (repeat' split) <;> first | exact Or.inr rfl | exact Or.inl rfl | (exfalso; omega) | (left; subst_vars; assumption) | simp_all)
    have hfin2 : ∀ X Y Z : List AV, Store.sub σ (((σ.upd p X).upd q Y).upd p Z) := fun X Y Z => by (intro q; simp only [Store.upd, Store.del]; (repeat' split) <;> first | exact Or.inr rfl | exact Or.inl rfl | (exfalso; omega) | (left; subst_vars; assumption) | simp_all)
    refine callK.of (hri _) ?_
    rintro v σ' ⟨rfl, rfl⟩
    cases hr : Hd.right ⟨a, b, c, S⟩
    · simp [n1, n2]
      exact ⟨_, AV.le_refl _, _, hfin2 _ _ _, rfl, 0, rfl⟩
    · simp [n1, n2, hc, htk]
      repeat' with_reducible apply And.intro
      all_goals first
        | omega
        | (refine callK.of (hcl _) ?_
           rintro v σ2 ⟨rfl, rfl⟩
           simp [n1, n2]
           exact ⟨_, AV.le_refl _, _, hfin2 _ _ _, rfl, rfl⟩)
/-! ### What a record's type is called; data up to a mark -/
set_option maxRecDepth 8000 in
theorem hname_calls (c : UInt8) (hc : c.toNat ≤ 8) (σ : Store) : ACalls Tryz.prog 100 [byteA c] σ fun v σ' => v = strS (namesL.getD c.toNat []) ∧ σ' = σ := by
  have w0 : IntKind.i64.wrap 0 = 0 := by decide
  have w1 : IntKind.i64.wrap 1 = 1 := by decide
  have w2 : IntKind.i64.wrap 2 = 2 := by decide
  have w3 : IntKind.i64.wrap 3 = 3 := by decide
  have w4 : IntKind.i64.wrap 4 = 4 := by decide
  have w5 : IntKind.i64.wrap 5 = 5 := by decide
  have w6 : IntKind.i64.wrap 6 = 6 := by decide
  have w7 : IntKind.i64.wrap 7 = 7 := by decide
  have w8 : IntKind.i64.wrap 8 = 8 := by decide
  have hx : c = UInt8.ofNat c.toNat := by simp
  have h9 : c.toNat = 0 ∨ c.toNat = 1 ∨ c.toNat = 2 ∨ c.toNat = 3 ∨ c.toNat = 4 ∨ c.toNat = 5 ∨ c.toNat = 6 ∨ c.toNat = 7 ∨ c.toNat = 8 := by omega
  refine ACalls.of_awp follows (st := st100) (plans := pl100) (n := 9) Tryz.func100 rfl (by kernel_rfl) (by kernel_rfl) (by kernel_rfl) ?_
  rcases h9 with h | h | h | h | h | h | h | h | h <;> rw [h] at hx <;> subst hx
  all_goals
    simp [byteA, w0, w1, w2, w3, w4, w5, w6, w7, w8, namesO]
    exact le_of_eq rfl
/-- Data since the last mark. -/
def mkA (p : List UInt8) (long : Bool) : List AV := [.list true 1 (bytesA p), .lit (.bool long)]
set_option maxRecDepth 8000 in
theorem madd_calls (b : Nat) (p : List UInt8) (o : Bool) (l : List UInt8) (hl : p.length + l.length ≤ 8192) (σ : Store) (hb : σ b = some (mkA p false)) :
    ACalls Tryz.prog 80 [ptrA b, .list o 1 (bytesA l)] σ fun v σ' => v = .tuple [] ∧ σ' = σ.upd b (mkA (p ++ l) false) := by
  unfold mkA at hb
  have hw : IntKind.i64.wrap ((p.length : Int) + (l.length : Int)) = ((p.length + l.length : Nat) : Int) := by rw [wrap_i64 (by omega) (by omega)]; omega
  have hn : ¬ (8192 : Int) < ((p.length + l.length : Nat) : Int) := by omega
  obtain ⟨T, hT⟩ : ∃ T, p.length + l.length = T := ⟨_, rfl⟩
  rw [hT] at hw hn
  have hn2 : ¬ 8192 < T := by omega
  refine ACalls.of_awp follows (st := st80) (plans := pl80) (n := 45) Tryz.func80 rfl (by kernel_rfl) (by kernel_rfl) (by kernel_rfl) ?_
  simp [hb, hw, hn, hn2]
  refine ⟨by omega, by omega, ?_⟩
  rw [← bytesA_append]
  exact Store.sub_refl _
set_option maxRecDepth 8000 in
theorem mdrop_calls (b : Nat) (p : List UInt8) (lg : Bool) (σ : Store) (hb : σ b = some (mkA p lg)) :
    ACalls Tryz.prog 101 [ptrA b] σ fun v σ' => v = .tuple [] ∧ σ' = σ.upd b (mkA [] false) := by
  unfold mkA at hb
  refine ACalls.of_awp follows (st := st101) (plans := pl101) (n := 10) Tryz.func101 rfl (by kernel_rfl) (by kernel_rfl) (by kernel_rfl) ?_
  simp [hb]
  exact Store.sub_refl _
set_option maxRecDepth 8000 in
theorem mend_calls (b : Nat) (p : List UInt8) (lg : Bool) (σ : Store) (hb : σ b = some (mkA p lg)) :
    ACalls Tryz.prog 82 [ptrA b] σ fun v σ' => v = .agg [.list false 1 (bytesA p), .lit (.bool lg)] ∧ σ' = σ.upd b (mkA [] false) := by
  have hb0 := hb
  unfold mkA at hb
  refine ACalls.of_awp follows (st := st82) (plans := pl82) (n := 19) Tryz.func82 rfl (by kernel_rfl) (by kernel_rfl) (by kernel_rfl) ?_
  simp [hb]
  intro q hq
  have hbq : ¬ b = q := by rintro rfl; rw [hb] at hq; cases hq
  simp [hbq, hb]
  intro r hr
  rw [ite_none] at hr
  obtain ⟨hrq, hr⟩ := hr
  have hbr : ¬ b = r := by rintro rfl; rw [hb] at hr; cases hr
  have hqr : ¬ q = r := fun e => hrq e.symm
  have hrb : ¬ r = b := fun e => hbr e.symm
  have hqb : ¬ q = b := fun e => hbq e.symm
  have hdr := mdrop_calls b p lg ((σ.upd q [AV.list true 1 [], AV.lit (Value.bool false)]).upd r [AV.list false 1 (bytesA p), AV.lit (Value.bool lg)]) (by simp [hbq, hbr, hb0])
  refine callK.of hdr ?_
  rintro v σ' ⟨rfl, rfl⟩
  simp [hbq, hbr, hqr, hrq, hrb, hqb]
  (intro q; simp only [Store.upd, Store.del]; (repeat' split) <;> first | exact Or.inr rfl | exact Or.inl rfl | (exfalso; omega) | (left; subst_vars; assumption) | simp_all)
theorem mnew_calls (σ : Store) : ACalls Tryz.prog 57 [] σ fun v σ' => ∃ q : Nat, σ q = none ∧ v = ptrA q ∧ σ' = σ.upd q (mkA [] false) := by
  refine ACalls.of_awp follows (st := st57) (plans := pl57) (n := 3) Tryz.func57 rfl (by kernel_rfl) (by kernel_rfl) (by kernel_rfl) ?_
  simp
  exact fun p hp => ⟨_, AV.le_refl _, _, Store.sub_refl _, p, hp, rfl, rfl⟩
end Go.Proofs.YteaidaolablegaaGreatDoor
/-
  What an end hears, of any option.
-/
namespace Go.Proofs.YteaidaolablegaaGreatDoor
open Go Go.AL

/-- Lists without doubles of bytes up to 4 are short. -/
theorem nodup_short {l : List UInt8} (hn : l.Nodup) (h4 : ∀ x ∈ l, x.toNat ≤ 4) : l.length ≤ 5 := by
  have hS : (sortL l).Nodup := (show ([0, 1, 2, 3, 4] : List UInt8).Nodup by decide).filter _
  have hm : ∀ x, x ∈ l ↔ x ∈ sortL l := fun x => by
    unfold sortL
    rw [List.mem_filter]
    constructor
    · intro hx
      refine ⟨?_, by simpa using hx⟩
      have h := h4 x hx
      have hx2 : x = UInt8.ofNat x.toNat := by simp
      have hc : x.toNat = 0 ∨ x.toNat = 1 ∨ x.toNat = 2 ∨ x.toNat = 3 ∨ x.toNat = 4 := by omega
      rcases hc with h | h | h | h | h <;> rw [h] at hx2 <;> rw [hx2] <;> decide
    · rintro ⟨_, hx⟩
      simpa using hx
  have := ((List.perm_ext_iff_of_nodup hn hS).2 hm).length_eq
  have := sortL_len l
  omega
def EOk (e : Ng) : Prop := ∀ x ∈ e.fns, x.toNat ≤ 4
def hearG (e : Ng) (opt : UInt8) (l : List UInt8) : List UInt8 × Nat × Ng :=
  if opt = 24 then (if l = [1] then (0 :: e.ty, 0, e) else ([], 4, e)) else if opt = 40 then hearF e l else ([], 5, e)
set_option maxRecDepth 8000 in
set_option maxHeartbeats 1000000 in
theorem hearG_calls (q : Nat) (e : Ng) (o1 o2 o : Bool) (opt : UInt8) (l : List UInt8) (hl : l.length ≤ 1000000) (hs : Small e) (hk : EOk e) (σ : Store) (h : σ q = some (endO e o1 o2)) :
    ACalls Tryz.prog 95 [ptrA q, byteA opt, .list o 1 (bytesA l)] σ (HearR q σ (hearG e opt l)) := by
  by_cases h40 : opt = 40
  · subst h40
    have hg : hearG e 40 l = hearF e l := rfl
    rw [hg]
    refine hear_calls q e o1 o2 o l hl hs σ h fun k τ p1 p2 hkk _ ho hn hτ => ?_
    have h4 : ∀ x ∈ k, x.toNat ≤ 4 := fun x hx => hk x (by
      have := List.all_eq_true.1 ho x hx
      simpa using this)
    exact agreeG_calls q e p1 p2 false k (nodup_short hn h4) hn h4 τ hτ
  have n40 : ¬ (opt.toNat : Int) = 40 := u8_ne (n := 40) (by omega) h40
  have hsame := fun n v hv => hear_same (v := v) h n hv
  unfold endO at h
  by_cases h24 : opt = 24
  · subst h24
    have h1 := hs.ty
    have hz := str_size e.ty
    have hv := bytesV_mk e.ty
    by_cases hl1 : l = [1]
    · subst hl1
      have hg : hearG e 24 [1] = (0 :: e.ty, 0, e) := rfl
      have hb1 : bytesA [1] = [.lit (.int .u8 1)] := rfl
      rw [hg]
      refine ACalls.of_awp follows (st := st95) (plans := pl95) (n := 76) Tryz.func95 rfl (by kernel_rfl) (by kernel_rfl) (by kernel_rfl) ?_
      simp [byteA, hb1, h, hz, hv]
      refine ⟨by omega, by omega, _, AV.le_refl _, _, Store.sub_refl _, rfl, o1, o2, (upd_back (by rw [h]; rfl)).symm⟩
    · have hg : hearG e 24 l = ([], 4, e) := by unfold hearG; rw [if_pos rfl, if_neg hl1]
      rw [hg]
      refine ACalls.of_awp follows (st := st95) (plans := pl95) (n := 76) Tryz.func95 rfl (by kernel_rfl) (by kernel_rfl) (by kernel_rfl) ?_
      by_cases hln : l.length = 1
      · obtain ⟨a, rfl⟩ : ∃ a, l = [a] := by
          rcases l with _ | ⟨a, _ | ⟨b, r⟩⟩ <;> simp at hln
          exact ⟨a, rfl⟩
        have ha : ¬ (a.toNat : Int) = 1 := u8_ne (n := 1) (by omega) fun e => hl1 (by rw [e]; rfl)
        have hb1 : bytesA [a] = [.lit (.int .u8 a.toNat)] := rfl
        simp [byteA, hb1, ha]
        exact hsame 4 _ (AV.le_refl _)
      · have hln' : ¬ (l.length : Int) = 1 := by omega
        simp [byteA, hln']
        exact hsame 4 _ (AV.le_refl _)
  have n24 : ¬ (opt.toNat : Int) = 24 := u8_ne (n := 24) (by omega) h24
  have hg : hearG e opt l = ([], 5, e) := by unfold hearG; rw [if_neg h24, if_neg h40]
  rw [hg]
  refine ACalls.of_awp follows (st := st95) (plans := pl95) (n := 76) Tryz.func95 rfl (by kernel_rfl) (by kernel_rfl) (by kernel_rfl) ?_
  simp [byteA, n24, n40]
  exact hsame 5 _ (AV.le_refl _)
end Go.Proofs.YteaidaolablegaaGreatDoor
