/-
  A list that rises is sorted as it is.
-/
import Derived.Test.YtlhfhanmbdncdaaPart10
namespace Go.Proofs.Ytlhfhanmbdncdaa
open Go Go.AL

theorem values_calls (o : Bool) (l : List UInt8) (σ : Store) : ACalls Try.prog 48 [.list o 1 (bytesA l)] σ fun v σ' => ∃ b, σ b = none ∧ v = .func (.func 54) [] [ptrA b] ∧ σ' = σ.upd b [.list o 1 (bytesA l)] := by
  refine ACalls.of_awp follows (st := st48) (plans := pl48) (n := 4) Try.func48 rfl (by kernel_rfl) (by kernel_rfl) (by kernel_rfl) ?_
  simp
  exact fun b hb => ⟨_, AV.le_refl _, _, Store.sub_refl _, b, hb, rfl, rfl⟩
set_option maxRecDepth 8000 in
theorem values_iter (b : Nat) (o : Bool) (l : List UInt8) (hl : l.length ≤ 1000000) (σ : Store) (hb : σ b = some [.list o 1 (bytesA l)]) : Iter Try.prog 54 [ptrA b] σ (l.map fun c => [byteA c]) := by
  intro X lp I J hy τ E h0 hs
  refine ACallsY.of_awp follows (st := st54) (plans := pl54) (n := 16) Try.func54 rfl (by kernel_rfl) (by kernel_rfl) (by kernel_rfl) ?_
  simp [hb, ptrA]
  refine codeYK.loop follows (st := st54) (plans := pl54) (S := Nat × Store) (fun x => x.1 ≤ l.length)
    (fun x => [(0, .func (.yield lp) [] []), (5, .list false 1 (bytesA l)), (6, .lit (.int .i64 l.length)), (7, .lit (.int .i64 x.1))]) (fun x => x.2) (fun x E => I x.1 x.2 E) (fun x => l.length - x.1) (0, τ) (by kernel_rfl) (by simp) (by simp) hs h0 ?_
  rintro ⟨k, τ1⟩ E1 hk hI
  dsimp only at hk hI ⊢
  by_cases hlt : k < l.length
  · have hw : IntKind.i64.wrap ((k : Int) + 1) = ((k + 1 : Nat) : Int) := wrap_i64 (by omega) (by omega)
    have hyk := hy k (by simpa using hlt) τ1 E1 hI
    obtain ⟨c, hc⟩ : ∃ c, l[k] = c := ⟨_, rfl⟩
    have hg : ∀ h : k < (bytesA l).length, (bytesA l)[k]'h = .lit (.int .u8 c.toNat) := fun h => by
      rw [List.getElem_eq_iff, bytesA_get, List.getElem?_eq_getElem hlt, hc]; rfl
    have hlt' : (k : Int) < l.length := by omega
    have hx : (l.map fun c => [byteA c])[k]'(by simpa using hlt) = [.lit (.int .u8 c.toNat)] := by simp [hc, byteA]
    rw [hx] at hyk
    simp [hlt, hlt', hg]
    refine yieldK.of (by simp) hyk (Store.sub_refl _) ?_
    intro b2 τ' E' hR hap
    cases b2
    · simp
      exact ⟨⟨_, AV.le_refl _⟩, _, Store.sub_over _ _ _, τ', Store.sub_refl _, .inr (by simpa using hR)⟩
    · simp
      refine ⟨k + 1, by omega, by omega, by rw [hw]; exact AV.le_refl _, τ', Store.sub_over _ _ _, by simpa using hR⟩
  · obtain rfl : k = l.length := by omega
    simp
    exact ⟨⟨_, AV.le_refl _⟩, _, Store.sub_refl _, τ1, Store.sub_refl _, .inl (by simpa using hI)⟩
set_option maxRecDepth 8000 in
theorem appseq_calls (b : Nat) (o : Bool) (l : List UInt8) (hl : l.length ≤ 1000000) (σ : Store) (hb : σ b = some [.list o 1 (bytesA l)]) :
    ACalls Try.prog 58 [.list true 1 [], .func (.func 54) [] [ptrA b]] σ fun v σ' => v = .list false 1 (bytesA l) ∧ σ' = σ := by
  have hi := fun τ ht => values_iter b o l hl τ ht
  refine ACalls.of_awpY follows (st := st58) (plans := pl58) (n := 13) Try.func58 rfl (by kernel_rfl) (by kernel_rfl) (by kernel_rfl) ?_
  simp
  intro q hq
  have hqb : ¬ b = q := by rintro rfl; rw [hb] at hq; cases hq
  refine codeYK.range follows (st := st58) (plans := pl58) (hi (σ.upd q [.list true 1 []]) (by simp [hqb, hb])) (by simp [ptrA]) (by simp) (by intro x hx; obtain ⟨_, _, rfl⟩ := List.mem_map.1 hx; rfl) (by kernel_rfl) (by kernel_rfl) (by kernel_rfl)
    (fun k τ _ => k ≤ l.length ∧ τ = σ.upd q [.list true 1 (bytesA (l.take k))]) (fun _ _ _ => False)
    _ ⟨by omega, rfl⟩ ?_ ?_ ?_ ?_
  · simp [bytesA]
  · rintro k hk τ E ⟨h1, rfl⟩
    have hk' : k < l.length := by simpa using hk
    obtain ⟨c, hc⟩ : ∃ c, l[k] = c := ⟨_, rfl⟩
    have ht : l.take (k + 1) = l.take k ++ [c] := by rw [List.take_succ_eq_append_getElem hk', hc]
    have hx : (l.map fun c => [byteA c])[k]'hk = [.lit (.int .u8 c.toNat)] := by simp [hc, byteA]
    have hlk : (l.take k).length ≤ 1000000 := by simp; omega
    rw [hx]
    simp
    refine ⟨by omega, by omega, ?_, by omega⟩
    rw [ht, bytesA_append]
    exact Store.sub_refl _
  · rintro τ E σ' hs ⟨h2, rfl⟩
    have e2 : σ' q = some [.list true 1 (bytesA l)] := by
      rcases hs q with h | h
      · simp at h
      · rw [← h]; simp
    simp [e2]
    refine Store.sub_trans ?_ hs
    (intro q; simp only [Store.upd, Store.del]; (repeat' split) <;> simp_all)
  · rintro c τ E σ' hs h
    exact h.elim
theorem isnan_calls (c : UInt8) (σ : Store) : ACalls Try.prog 78 [byteA c] σ fun v σ' => v = .lit (.bool false) ∧ σ' = σ := by
  refine ACalls.of_awp follows (st := st78) (plans := pl78) (n := 6) Try.func78 rfl (by kernel_rfl) (by kernel_rfl) (by kernel_rfl) ?_
  simp [byteA]
theorem less_calls (c d : UInt8) (σ : Store) : ACalls Try.prog 68 [byteA c, byteA d] σ fun v σ' => v = .lit (.bool (decide (c.toNat < d.toNat))) ∧ σ' = σ := by
  have h := fun τ => isnan_calls c τ
  rw [byteA_lit] at h
  have hd : decide ((c.toNat : Int) < (d.toNat : Int)) = decide (c.toNat < d.toNat) := by rw [decide_eq_decide]; omega
  refine ACalls.of_awp follows (st := st68) (plans := pl68) (n := 17) Try.func68 rfl (by kernel_rfl) (by kernel_rfl) (by kernel_rfl) ?_
  simp [byteA]
  refine callK.of (h _) ?_
  rintro v σ' ⟨rfl, rfl⟩
  simp
/-- Each byte is at least the one ahead of it. -/
def Up1 (l : List UInt8) : Prop := ∀ i, 0 < i → i < l.length → ((l[i - 1]?).getD 0).toNat ≤ ((l[i]?).getD 0).toNat
set_option maxRecDepth 8000 in
theorem insert_calls (o : Bool) (l : List UInt8) (hl : l.length ≤ 1000000) (hr : Up1 l) (σ : Store) : ACalls Try.prog 62 [.list o 1 (bytesA l), .lit (.int .i64 0), .lit (.int .i64 l.length)] σ fun v σ' => v = .tuple [] ∧ σ' = σ := by
  refine ACalls.of_awp follows (st := st62) (plans := pl62) (n := 49) Try.func62 rfl (by kernel_rfl) (by kernel_rfl) (by kernel_rfl) ?_
  have h01 : IntKind.i64.wrap 1 = 1 := by decide
  simp
  refine codeK.loop follows (st := st62) (plans := pl62) (X := Nat) (fun i => 1 ≤ i ∧ (i ≤ l.length ∨ l.length = 0 ∧ i = 1))
    (fun i => [(0, .list o 1 (bytesA l)), (1, .lit (.int .i64 0)), (2, .lit (.int .i64 l.length)), (6, .lit (.int .i64 i))]) (fun _ => σ) (fun i => l.length + 1 - i) 1 (by kernel_rfl) (by omega) (by simp [h01]) (Store.sub_refl _) fun i hi => ?_
  obtain ⟨h1, hi⟩ := hi
  by_cases hlt : i < l.length
  · have hw : IntKind.i64.wrap ((i : Int) + 1) = ((i + 1 : Nat) : Int) := wrap_i64 (by omega) (by omega)
    have hw2 : IntKind.i64.wrap ((i : Int) - 1) = ((i - 1 : Nat) : Int) := by rw [wrap_i64 (by omega) (by omega)]; omega
    have hlt' : (i : Int) < l.length := by omega
    have hil : i - 1 < l.length := by omega
    have hri := hr i (by omega) hlt
    obtain ⟨c, hc⟩ : ∃ c, l[i]? = some c := ⟨_, List.getElem?_eq_getElem hlt⟩
    obtain ⟨d, hd⟩ : ∃ d, l[i - 1]? = some d := ⟨_, List.getElem?_eq_getElem hil⟩
    rw [hc, hd] at hri
    simp only [Option.getD_some] at hri
    have hg : ∀ h : i < (bytesA l).length, (bytesA l)[i]'h = .lit (.int .u8 c.toNat) := fun h => by
      rw [List.getElem_eq_iff, bytesA_get, hc]; rfl
    have hg2 : ∀ h : i - 1 < (bytesA l).length, (bytesA l)[i - 1]'h = .lit (.int .u8 d.toNat) := fun h => by
      rw [List.getElem_eq_iff, bytesA_get, hd]; rfl
    have hle := fun τ => less_calls c d τ
    rw [byteA_lit, byteA_lit] at hle
    have hno : decide (c.toNat < d.toNat) = false := by simp; omega
    rw [hno] at hle
    have h0i : (0 : Int) < (i : Int) := by omega
    simp [hlt']
    refine codeK.loop follows (st := st62) (plans := pl62) (X := Unit) (fun _ => True)
      (fun _ => [(0, .list o 1 (bytesA l)), (1, .lit (.int .i64 0)), (2, .lit (.int .i64 l.length)), (6, .lit (.int .i64 i)), (7, .lit (.int .i64 i))]) (fun _ => σ) (fun _ => 0) () (by kernel_rfl) trivial (by simp) (Store.sub_refl _) fun _ _ => ?_
    simp [hlt, hil, hg, hg2, hw2, show 0 < i by omega]
    refine callK.of (hle _) ?_
    rintro v σ' ⟨rfl, rfl⟩
    simp
    exact ⟨i + 1, ⟨by omega, by omega⟩, by omega, by rw [hw]; exact AV.le_refl _⟩
  · have hnl : ¬ (i : Int) < l.length := by omega
    simp [hnl]
end Go.Proofs.Ytlhfhanmbdncdaa
/-
  A list that rises is sorted as it is: the sort.
-/
namespace Go.Proofs.Ytlhfhanmbdncdaa
open Go Go.AL

set_option maxRecDepth 20000 in
set_option maxHeartbeats 4000000 in
theorem len64_calls (n : Nat) (hn : n ≤ 5) (σ : Store) : ACalls Try.prog 72 [.lit (.int .u64 n)] σ fun v σ' => (∃ k : Int, v = .lit (.int .i64 k)) ∧ σ' = σ := by
  have hcase : n = 0 ∨ n = 1 ∨ n = 2 ∨ n = 3 ∨ n = 4 ∨ n = 5 := by omega
  refine ACalls.of_awp follows (st := st72) (plans := pl72) (n := 25) Try.func72 rfl (by kernel_rfl) (by kernel_rfl) (by kernel_rfl) ?_
  have w0 : IntKind.u8.wrap 0 = 0 := by decide
  have w1 : IntKind.u8.wrap 1 = 1 := by decide
  have w2 : IntKind.u8.wrap 2 = 2 := by decide
  have w3 : IntKind.u8.wrap 3 = 3 := by decide
  have w4 : IntKind.u8.wrap 4 = 4 := by decide
  have w5 : IntKind.u8.wrap 5 = 5 := by decide
  rcases hcase with rfl | rfl | rfl | rfl | rfl | rfl
  · simp [w0]
    exact ⟨_, AV.le_refl _, _, rfl⟩
  · simp [w1]
    exact ⟨_, AV.le_refl _, _, rfl⟩
  · simp [w2]
    exact ⟨_, AV.le_refl _, _, rfl⟩
  · simp [w3]
    exact ⟨_, AV.le_refl _, _, rfl⟩
  · simp [w4]
    exact ⟨_, AV.le_refl _, _, rfl⟩
  · simp [w5]
    exact ⟨_, AV.le_refl _, _, rfl⟩
theorem len_calls (n : Nat) (hn : n ≤ 5) (σ : Store) : ACalls Try.prog 60 [.lit (.int .u64 n)] σ fun v σ' => (∃ k : Int, v = .lit (.int .i64 k)) ∧ σ' = σ := by
  have h := fun τ => len64_calls n hn τ
  refine ACalls.of_awp follows (st := st60) (plans := pl60) (n := 8) Try.func60 rfl (by kernel_rfl) (by kernel_rfl) (by kernel_rfl) ?_
  simp
  refine callK.of (h _) ?_
  rintro v σ' ⟨⟨k, rfl⟩, rfl⟩
  simp
  exact ⟨_, AV.le_refl _, _, rfl⟩
set_option maxRecDepth 8000 in
theorem pdq_calls (o : Bool) (l : List UInt8) (hl : l.length ≤ 12) (hr : Up1 l) (k : Int) (σ : Store) : ACalls Try.prog 59 [.list o 1 (bytesA l), .lit (.int .i64 0), .lit (.int .i64 l.length), .lit (.int .i64 k)] σ fun v σ' => v = .tuple [] ∧ σ' = σ := by
  have hi := fun τ => insert_calls false l (by omega) hr τ
  have hw : IntKind.i64.wrap (l.length : Int) = (l.length : Int) := wrap_i64 (by omega) (by omega)
  have h12 : (l.length : Int) ≤ 12 := by omega
  refine ACalls.of_awp follows (st := st59) (plans := pl59) (n := 134) Try.func59 rfl (by kernel_rfl) (by kernel_rfl) (by kernel_rfl) ?_
  simp
  refine codeK.loop follows (st := st59) (plans := pl59) (X := Unit) (fun _ => True)
    (fun _ => [(0, .list o 1 (bytesA l)), (1, .lit (.int .i64 0)), (2, .lit (.int .i64 l.length)), (3, .lit (.int .i64 k))]) (fun _ => σ) (fun _ => 0) () (by kernel_rfl) trivial (by simp) (Store.sub_refl _) fun _ _ => ?_
  simp [hw, h12]
  refine callK.of (hi _) ?_
  rintro v σ' ⟨rfl, rfl⟩
  simp
set_option maxRecDepth 8000 in
theorem sort_calls (o : Bool) (l : List UInt8) (hl : l.length ≤ 5) (hr : Up1 l) (σ : Store) : ACalls Try.prog 53 [.list o 1 (bytesA l)] σ fun v σ' => v = .tuple [] ∧ σ' = σ := by
  have hle := fun τ => len_calls l.length hl τ
  have hp := fun k τ => pdq_calls false l (by omega) hr k τ
  have hw : IntKind.u64.wrap (l.length : Int) = (l.length : Int) := by
    have hcase : l.length = 0 ∨ l.length = 1 ∨ l.length = 2 ∨ l.length = 3 ∨ l.length = 4 ∨ l.length = 5 := by omega
    rcases hcase with h | h | h | h | h | h <;> rw [h] <;> decide
  refine ACalls.of_awp follows (st := st53) (plans := pl53) (n := 11) Try.func53 rfl (by kernel_rfl) (by kernel_rfl) (by kernel_rfl) ?_
  simp [hw]
  refine callK.of (hle _) ?_
  rintro v σ' ⟨⟨k, rfl⟩, rfl⟩
  simp
  refine callK.of (hp k _) ?_
  rintro v σ' ⟨rfl, rfl⟩
  simp
set_option maxRecDepth 8000 in
theorem agree_calls (q : Nat) (e : Ng) (o1 o2 o : Bool) (l : List UInt8) (hl : l.length ≤ 5) (hr : Up1 l) (σ : Store) (h : σ q = some (endO e o1 o2)) :
    ACalls Try.prog 41 [ptrA q, .list o 1 (bytesA l)] σ fun v σ' => v = .tuple [] ∧ Up σ q { e with st := 3, agreed := l } σ' := by
  have hv := fun τ => values_calls false l τ
  have has := fun b τ ht => appseq_calls b false l (by omega) τ ht
  have hso := fun τ => sort_calls false l hl hr τ
  have hco : ∀ b τ, τ b = some [.list false 1 (bytesA l)] → ACalls Try.prog 52 [.func (.func 54) [] [ptrA b]] τ fun v σ' => v = .list false 1 (bytesA l) ∧ σ' = τ := fun b τ ht => by
    have := has b τ ht
    refine ACalls.of_awp follows (st := st52) (plans := pl52) (n := 5) Try.func52 rfl (by kernel_rfl) (by kernel_rfl) (by kernel_rfl) ?_
    simp
    refine callK.of this ?_
    rintro v σ' ⟨rfl, rfl⟩
    simp
  have hsd : ∀ b τ, τ b = some [.list false 1 (bytesA l)] → ACalls Try.prog 47 [.func (.func 54) [] [ptrA b]] τ fun v σ' => v = .list false 1 (bytesA l) ∧ σ' = τ := fun b τ ht => by
    have := hco b τ ht
    refine ACalls.of_awp follows (st := st47) (plans := pl47) (n := 9) Try.func47 rfl (by kernel_rfl) (by kernel_rfl) (by kernel_rfl) ?_
    simp
    refine callK.of this ?_
    rintro v σ' ⟨rfl, rfl⟩
    simp
    refine callK.of (hso _) ?_
    rintro v σ' ⟨rfl, rfl⟩
    simp
  have h0 := h
  unfold endO at h
  refine ACalls.of_awp follows (st := st41) (plans := pl41) (n := 13) Try.func41 rfl (by kernel_rfl) (by kernel_rfl) (by kernel_rfl) ?_
  simp [ptrA]
  refine callK.of (hv _) ?_
  rintro v σ' ⟨b, hb, rfl, rfl⟩
  have hqb : ¬ q = b := by rintro rfl; rw [h0] at hb; cases hb
  simp
  have := hsd b (σ.upd b [.list false 1 (bytesA l)]) (by simp)
  refine callK.of this ?_
  rintro v σ' ⟨rfl, rfl⟩
  simp [hqb, h]
  refine ⟨_, AV.le_refl _, _, ?_, rfl, o1, false, rfl⟩
  unfold endO
  (intro q; simp only [Store.upd, Store.del]; (repeat' split) <;> first | exact Or.inr rfl | exact Or.inl rfl | (exfalso; omega) | (left; subst_vars; assumption) | simp_all)
end Go.Proofs.Ytlhfhanmbdncdaa
/-
  Names as the document has them; functions that both have.
-/
namespace Go.Proofs.Ytlhfhanmbdncdaa
open Go Go.AL

theorem device_calls (q : Nat) (e : Ng) (o1 o2 : Bool) (σ : Store) (h : σ q = some (endO e o1 o2)) : ACalls Try.prog 18 [ptrA q] σ fun v σ' => v = strS e.name ∧ σ' = σ := by
  unfold endO at h
  refine ACalls.of_awp follows (st := st18) (plans := pl18) (n := 9) Try.func18 rfl (by kernel_rfl) (by kernel_rfl) (by kernel_rfl) ?_
  simp [ptrA, h]
set_option maxRecDepth 8000 in
theorem rname_calls (l : List UInt8) (hl : l.length ≤ 1000000) (σ : Store) : ACalls Try.prog 16 [strS l] σ fun v σ' => v = .lit (.bool (nameS l)) ∧ σ' = σ := by
  have hsz := str_size l
  refine ACalls.of_awp follows (st := st16) (plans := pl16) (n := 28) Try.func16 rfl (by kernel_rfl) (by kernel_rfl) (by kernel_rfl) ?_
  simp
  refine codeK.loop follows (st := st16) (plans := pl16) (X := Nat) (fun i => i ≤ l.length ∧ ∀ j (hj : j < l.length), j < i → okN l[j] = true)
    (fun i => [(0, strS l), (3, .lit (.int .i64 i))]) (fun _ => σ) (fun i => l.length - i) 0 (by kernel_rfl) (by simp) (by simp) (Store.sub_refl _) fun i hi => ?_
  obtain ⟨hi, hk⟩ := hi
  by_cases hlt : i < l.length
  · have hw : IntKind.i64.wrap ((i : Int) + 1) = ((i + 1 : Nat) : Int) := wrap_i64 (by omega) (by omega)
    have hlt' : (i : Int) < l.length := by omega
    have hnx : okN l[i] = true → ∀ j (hj : j < l.length), j < i + 1 → okN l[j] = true := fun h j hj hji => by
      by_cases e : j = i
      · subst e; exact h
      · exact hk j hj (by omega)
    have hno : okN l[i] = false → nameS l = false := fun h => by
      have : l.all okN = false := by rw [List.all_eq_false]; exact ⟨_, List.getElem_mem hlt, by simp [h]⟩
      simp [nameS, this]
    obtain ⟨b, hb⟩ : ∃ b, l[i] = b := ⟨_, rfl⟩
    have hgg : ∀ h : i < l.length, l[i]'h = b := fun _ => hb
    rw [hb] at hnx hno
    by_cases h1 : (b.toNat : Int) < 33
    · have := hno (by unfold okN; simp; omega)
      simp [hlt, hlt', hgg, h1, this, hsz]
    · have h1' : (33 : Int) ≤ (b.toNat : Int) := by omega
      by_cases h2 : (126 : Int) < (b.toNat : Int)
      · have := hno (by unfold okN; simp; omega)
        simp [hlt, hlt', hgg, h1, h2, this, hsz]
      · have h2' : (b.toNat : Int) ≤ 126 := by omega
        have := hnx (by unfold okN; simp; omega)
        simp [hlt, hlt', hgg, h1, h2, hsz]
        exact ⟨i + 1, ⟨by omega, this⟩, by omega, by rw [hw]; exact AV.le_refl _⟩
  · obtain rfl : i = l.length := by omega
    have hall : l.all okN = true := by
      rw [List.all_eq_true]
      intro x hx
      obtain ⟨j, hj, rfl⟩ := List.getElem_of_mem hx
      exact hk j hj hj
    by_cases hnil : l = []
    · subst hnil; simp [nameS, hsz]
    · have he : l.isEmpty = false := by simpa using hnil
      have h40 : decide ((l.length : Int) ≤ 40) = decide (l.length ≤ 40) := by rw [decide_eq_decide]; omega
      have hnm : nameS l = decide (l.length ≤ 40) := by simp [nameS, hall, he]
      have hpos : (1 : Int) ≤ l.length := by
        have : l.length ≠ 0 := fun h => hnil (List.eq_nil_of_length_eq_zero h)
        omega
      rw [hnm]
      simp [hsz, h40, hpos]
/-- The functions of a list, each once. -/
def hasF (l : List UInt8) (f : Nat) : Bool := l.any fun x => decide (x.toNat % 5 = f)
def onceN (l : List UInt8) (n : Nat) : List UInt8 := ((List.range n).filter (hasF l)).map UInt8.ofNat
theorem onceN_succ (l : List UInt8) (n : Nat) : onceN l (n + 1) = if hasF l n = true then onceN l n ++ [UInt8.ofNat n] else onceN l n := by
  unfold onceN
  rw [List.range_succ, List.filter_append]
  by_cases h : hasF l n = true <;> simp [h]
theorem onceN_len (l : List UInt8) (n : Nat) : (onceN l n).length ≤ n := by
  unfold onceN
  rw [List.length_map]
  exact Nat.le_trans (List.length_filter_le _ _) (by simp)
set_option maxRecDepth 8000 in
theorem lonce_calls (o : Bool) (l : List UInt8) (hl : l.length ≤ 9223372036854775807) (σ : Store) : ACalls Try.prog 20 [.list o 1 (bytesA l)] σ fun v σ' => v = .list true 1 (bytesA (onceN l 5)) ∧ σ' = σ := by
  refine ACalls.of_awp follows (st := st20) (plans := pl20) (n := 27) Try.func20 rfl (by kernel_rfl) (by kernel_rfl) (by kernel_rfl) ?_
  simp
  refine codeK.loop follows (st := st20) (plans := pl20) (X := Nat) (fun f => f ≤ 5)
    (fun f => [(0, .list false 1 (bytesA l)), (3, .list true 1 (bytesA (onceN l f))), (4, .lit (.int .u8 f))]) (fun _ => σ) (fun f => 5 - f) 0 (by kernel_rfl) (by simp) (by simp [onceN, bytesA]) (Store.sub_refl _) fun f hf => ?_
  by_cases hlt : f < 5
  · have hw : IntKind.u8.wrap ((f : Int) + 1) = ((f + 1 : Nat) : Int) := by rw [wrap_u8 (by omega) (by omega)]; rfl
    have hlt' : (f : Int) ≤ 4 := by omega
    have hsu := onceN_succ l f
    have hln := onceN_len l f
    simp [hlt']
    refine codeK.loop follows (st := st20) (plans := pl20) (X := Nat) (fun j => j ≤ l.length ∧ ∀ i (hi : i < l.length), i < j → ¬ l[i].toNat % 5 = f)
      (fun j => [(0, .list false 1 (bytesA l)), (3, .list true 1 (bytesA (onceN l f))), (4, .lit (.int .u8 f)), (11, .list false 1 (bytesA l)), (12, .lit (.int .i64 l.length)), (13, .lit (.int .i64 j))]) (fun _ => σ) (fun j => l.length - j) 0 (by kernel_rfl) (by simp) (by simp) (Store.sub_refl _) fun j hj => ?_
    obtain ⟨hj, hk⟩ := hj
    by_cases hjl : j < l.length
    · have hw2 : IntKind.i64.wrap ((j : Int) + 1) = ((j + 1 : Nat) : Int) := wrap_i64 (by omega) (by omega)
      have hjl' : (j : Int) < l.length := by omega
      obtain ⟨c, hc⟩ : ∃ c, l[j] = c := ⟨_, rfl⟩
      have hg : ∀ h : j < (bytesA l).length, (bytesA l)[j]'h = .lit (.int .u8 c.toNat) := fun h => by
        rw [List.getElem_eq_iff, bytesA_get, List.getElem?_eq_getElem hjl, hc]; rfl
      have hm : (c.toNat : Int).tmod 5 = ((c.toNat % 5 : Nat) : Int) := rfl
      have hmw : IntKind.u8.wrap ((c.toNat % 5 : Nat) : Int) = ((c.toNat % 5 : Nat) : Int) := wrap_u8 (by omega) (by omega)
      by_cases he : c.toNat % 5 = f
      · have hh : hasF l f = true := by
          unfold hasF
          rw [List.any_eq_true]
          exact ⟨c, hc ▸ List.getElem_mem hjl, by simp [he]⟩
        rw [if_pos hh] at hsu
        have he' : ((c.toNat % 5 : Nat) : Int) = (f : Int) := by omega
        rw [he'] at hmw hm
        have hof : (UInt8.ofNat f).toNat = f := by simp; omega
        simp [hjl, hjl', hg, hm]
        refine ⟨by omega, by omega, f + 1, by omega, by omega, ⟨?_, ?_⟩⟩
        · rw [hsu, bytesA_append]
          simp [bytesA, byteA]
          rw [show (f : Int) % 256 = f by omega]
          exact AV.le_refl _
        · rw [hw]; exact AV.le_refl _
      · have he' : ¬ ((c.toNat % 5 : Nat) : Int) = (f : Int) := by omega
        obtain ⟨r, hr⟩ : ∃ r, c.toNat % 5 = r := ⟨_, rfl⟩
        rw [hr] at hm hmw he'
        simp [hjl, hjl', hg, hm, he']
        exact ⟨j + 1, ⟨by omega, fun i hi hij => by
          by_cases e : i = j
          · subst e; rw [hc]; exact he
          · exact hk i hi (by omega)⟩, by omega, by rw [hw2]; exact AV.le_refl _⟩
    · obtain rfl : j = l.length := by omega
      have hh : hasF l f = false := by
        unfold hasF
        rw [List.any_eq_false]
        intro x hx
        obtain ⟨i, hi, rfl⟩ := List.getElem_of_mem hx
        simpa using hk i hi hi
      rw [if_neg (by simp [hh])] at hsu
      simp
      exact ⟨f + 1, by omega, by omega, by rw [hsu]; exact AV.le_refl _, by rw [hw]; exact AV.le_refl _⟩
  · obtain rfl : f = 5 := by omega
    simp
theorem onceN_mem {l : List UInt8} {n : Nat} (hn : n ≤ 256) {x : UInt8} : x ∈ onceN l n ↔ x.toNat < n ∧ hasF l x.toNat = true := by
  unfold onceN
  rw [List.mem_map]
  constructor
  · rintro ⟨k, hk, rfl⟩
    rw [List.mem_filter, List.mem_range] at hk
    have : (UInt8.ofNat k).toNat = k := by simp; omega
    rw [this]; exact hk
  · rintro ⟨h1, h2⟩
    refine ⟨x.toNat, ?_, by simp⟩
    rw [List.mem_filter, List.mem_range]; exact ⟨h1, h2⟩
theorem onceN_pair (l : List UInt8) (n : Nat) (hn : n ≤ 256) : (onceN l n).Pairwise fun a b => a.toNat < b.toNat := by
  unfold onceN
  rw [List.pairwise_map]
  have h1 : (List.range n).Pairwise (· < ·) := List.pairwise_lt_range
  refine ((h1.filter (hasF l)).imp_of_mem ?_)
  intro a b ha hb hab
  have ha := (List.mem_filter.1 ha).1
  have hb := (List.mem_filter.1 hb).1
  rw [List.mem_range] at ha hb
  simp; omega
/-- What both have. -/
def bothL (one l : List UInt8) : List UInt8 := (onceN l 5).filter fun f => decide (f ∈ one)
theorem pair_up1 {l : List UInt8} (h : l.Pairwise fun a b => a.toNat < b.toNat) : Up1 l := fun i h0 hi => by
  rw [List.pairwise_iff_getElem] at h
  have := h (i - 1) i (by omega) hi (by omega)
  rw [List.getElem?_eq_getElem hi, List.getElem?_eq_getElem (by omega)]
  simp only [Option.getD_some]; omega
theorem pair_nodup {l : List UInt8} (h : l.Pairwise fun a b => a.toNat < b.toNat) : l.Nodup := h.imp fun hab e => by rw [e] at hab; omega
theorem rises_nodup {l : List UInt8} (h : Rises l) : l.Nodup := by
  have hlt : ∀ j i (hi : i < l.length), j < i → (l[j]?.getD 0).toNat < (l[i]?.getD 0).toNat := fun j i => by
    induction i with
    | zero => intro _ h; omega
    | succ i ih =>
      intro hi hj
      have h1 := (h (i + 1) hi).2 (by omega)
      simp only [Nat.add_sub_cancel] at h1
      by_cases e : j = i
      · subst e; exact h1
      · exact Nat.lt_trans (ih (by omega) (by omega)) h1
  refine List.nodup_iff_pairwise_ne.2 (List.pairwise_iff_getElem.2 fun i j hi hj hij e => ?_)
  have := hlt i j hj hij
  rw [List.getElem?_eq_getElem hi, List.getElem?_eq_getElem hj, e] at this
  omega
set_option maxRecDepth 8000 in
theorem both_calls (o o' : Bool) (one l : List UInt8) (h1 : one.length ≤ 1000000) (hn : one.Nodup) (hl : l.length ≤ 9223372036854775807) (σ : Store) :
    ACalls Try.prog 17 [.list o 1 (bytesA one), .list o' 1 (bytesA l)] σ fun v σ' => v = .list true 1 (bytesA (bothL one l)) ∧ σ' = σ := by
  have hon := fun τ => lonce_calls false l hl τ
  have hol := onceN_len l 5
  unfold bothL
  generalize onceN l 5 = K at *
  refine ACalls.of_awp follows (st := st17) (plans := pl17) (n := 33) Try.func17 rfl (by kernel_rfl) (by kernel_rfl) (by kernel_rfl) ?_
  simp
  refine callK.of (hon _) ?_
  rintro v σ' ⟨rfl, rfl⟩
  simp
  refine codeK.loop follows (st := st17) (plans := pl17) (X := Nat) (fun i => i ≤ K.length)
    (fun i => [(0, .list false 1 (bytesA one)), (5, .list true 1 (bytesA ((K.take i).filter fun f => decide (f ∈ one)))), (11, .list false 1 (bytesA K)), (12, .lit (.int .i64 K.length)), (13, .lit (.int .i64 i))]) (fun _ => σ') (fun i => K.length - i) 0 (by kernel_rfl) (by simp) (by simp [bytesA]) (Store.sub_refl _) fun i hi => ?_
  by_cases hlt : i < K.length
  · have hw : IntKind.i64.wrap ((i : Int) + 1) = ((i + 1 : Nat) : Int) := wrap_i64 (by omega) (by omega)
    have hlt' : (i : Int) < K.length := by omega
    obtain ⟨f, hf⟩ : ∃ f, K[i] = f := ⟨_, rfl⟩
    have hg : ∀ h : i < (bytesA K).length, (bytesA K)[i]'h = .lit (.int .u8 f.toNat) := fun h => by
      rw [List.getElem_eq_iff, bytesA_get, List.getElem?_eq_getElem hlt, hf]; rfl
    have hts := List.take_succ_eq_append_getElem hlt
    rw [hf] at hts
    have hpl : ((K.take i).filter fun f => decide (f ∈ one)).length ≤ 5 := Nat.le_trans (List.length_filter_le _ _) (by simp; omega)
    have hsu : (K.take (i + 1)).filter (fun f => decide (f ∈ one)) = (K.take i).filter (fun f => decide (f ∈ one)) ++ (if f ∈ one then [f] else []) := by
      rw [hts, List.filter_append]
      by_cases h : f ∈ one <;> simp [h]
    generalize (K.take i).filter (fun f => decide (f ∈ one)) = P at *
    simp [hlt, hlt', hg]
    refine codeK.loop follows (st := st17) (plans := pl17) (X := Nat) (fun j => j ≤ one.length)
      (fun j => [(0, .list false 1 (bytesA one)), (5, .list true 1 (bytesA (P ++ if f ∈ one.take j then [f] else []))), (7, .lit (.int .u8 f.toNat)), (11, .list false 1 (bytesA K)), (12, .lit (.int .i64 K.length)), (13, .lit (.int .i64 i)), (17, .list false 1 (bytesA one)), (18, .lit (.int .i64 one.length)), (19, .lit (.int .i64 j))]) (fun _ => σ') (fun j => one.length - j) 0 (by kernel_rfl) (by simp) (by simp) (Store.sub_refl _) fun j hj => ?_
    by_cases hjl : j < one.length
    · have hw2 : IntKind.i64.wrap ((j : Int) + 1) = ((j + 1 : Nat) : Int) := wrap_i64 (by omega) (by omega)
      have hjl' : (j : Int) < one.length := by omega
      obtain ⟨c, hc⟩ : ∃ c, one[j] = c := ⟨_, rfl⟩
      have hg2 : ∀ h : j < (bytesA one).length, (bytesA one)[j]'h = .lit (.int .u8 c.toNat) := fun h => by
        rw [List.getElem_eq_iff, bytesA_get, List.getElem?_eq_getElem hjl, hc]; rfl
      have hts2 := List.take_succ_eq_append_getElem hjl
      rw [hc] at hts2
      have hnt : (one.take (j + 1)).Nodup := hn.sublist (List.take_sublist _ _)
      rw [hts2, List.nodup_append] at hnt
      by_cases he : c = f
      · subst he
        have hno : c ∉ one.take j := fun h => hnt.2.2 c h c (by simp) rfl
        have hyes : c ∈ one.take (j + 1) := by rw [hts2]; simp
        simp [hjl, hjl', hg2, hno]
        refine ⟨by omega, by omega, j + 1, by omega, by omega, ⟨?_, ?_⟩⟩
        · rw [if_pos hyes, bytesA_append]; exact AV.le_refl _
        · rw [hw2]; exact AV.le_refl _
      · have he' : ¬ (c.toNat : Int) = (f.toNat : Int) := fun h => he (UInt8.toNat_inj.1 (by omega))
        have hsame : (f ∈ one.take (j + 1)) ↔ f ∈ one.take j := by rw [hts2]; simp; intro h; exact absurd h.symm he
        simp [hjl, hjl', hg2, he']
        refine ⟨j + 1, by omega, by omega, ⟨?_, ?_⟩⟩
        · by_cases hm : f ∈ one.take j
          · rw [if_pos hm, if_pos (hsame.2 hm)]; exact AV.le_refl _
          · rw [if_neg hm, if_neg (fun h => hm (hsame.1 h))]; exact AV.le_refl _
        · rw [hw2]; exact AV.le_refl _
    · obtain rfl : j = one.length := by omega
      simp only [List.take_length]
      simp
      refine ⟨i + 1, by omega, by omega, ⟨?_, ?_⟩⟩
      · rw [hsu]; exact AV.le_refl _
      · rw [hw]; exact AV.le_refl _
  · obtain rfl : i = K.length := by omega
    simp
end Go.Proofs.Ytlhfhanmbdncdaa
/-
  NegoRefused: who was refused is never ready.
-/
namespace Go.Proofs.Ytlhfhanmbdncdaa
open Go Go.AL

def exE : Ng := ⟨[73, 66, 77, 45, 51, 50, 55, 56, 45, 50, 45, 69], [], [2], 0, [], []⟩
theorem up_at {σ σ' : Store} {q : Nat} {e : Ng} (h : Up σ q e σ') : ∃ o1 o2, σ' q = some (endO e o1 o2) := by
  obtain ⟨o1, o2, rfl⟩ := h; exact ⟨o1, o2, by simp⟩
theorem up_up {σ σ' σ2 : Store} {q : Nat} {e e' : Ng} (h : Up σ q e σ') (k : Up σ' q e' σ2) : Up σ q e' σ2 := by
  obtain ⟨o1, o2, rfl⟩ := h; obtain ⟨p1, p2, rfl⟩ := k; exact ⟨p1, p2, by simp⟩
theorem up_sub {σ σ' : Store} {q : Nat} {e : Ng} (h : Up σ q e σ') (hq : σ q = none) : Store.sub σ σ' := by
  obtain ⟨o1, o2, rfl⟩ := h; exact sub_upd_self _ _ _ hq
set_option maxRecDepth 8000 in
set_option maxHeartbeats 1000000 in
theorem awake_calls (σ : Store) : ACalls Try.prog 6 [] σ fun v σ' => v = .lit (.bool true) ∧ σ' = σ := by
  have hok : okC exE := by decide
  have hsm : Small exE := ⟨by decide, by decide, by decide, by decide⟩
  have hsm2 : Small { ty := exE.ty, dev := exE.dev, fns := exE.fns } := hsm
  have hs : askB exE = [2, 7, 73, 66, 77, 45, 51, 50, 55, 56, 45, 50, 45, 69] := by decide
  have hb := bytesOf_bytesA (askB exE)
  have hh : hearF { ty := exE.ty, dev := exE.dev, fns := exE.fns } [8, 2] = (askB exE, 0, ({ ty := exE.ty, dev := exE.dev, fns := exE.fns } : Ng).asked) := rfl
  refine ACalls.of_awp follows (st := st6) (plans := pl6) (n := 33) Try.func6 rfl (by kernel_rfl) (by kernel_rfl) (by kernel_rfl) ?_
  simp
  refine callK.le (args' := [confA exE false]) ⟨AV.le_refl _, trivial⟩ (new_calls exE false hsm _) ?_
  rintro v σ' (⟨hn, _⟩ | ⟨_, q, hq, rfl, hup⟩)
  · exact absurd hok hn
  obtain ⟨o1, o2, hat⟩ := up_at hup
  have hsub := up_sub hup hq
  simp [ptrA]
  refine callK.le (args' := [ptrA q, .lit (.int .u8 40), .list true 1 (bytesA [8, 2])]) ⟨AV.le_refl _, AV.le_refl _, AV.le_refl _, trivial⟩ (hear_calls q _ o1 o2 true [8, 2] (by decide) hsm2 _ hat (fun _ _ _ _ _ h => by rcases h with h | h <;> cases h)) ?_
  rintro v σ2 ⟨rfl, hup2⟩
  rw [hh] at hup2 ⊢
  obtain ⟨p1, p2, hat2⟩ := up_at hup2
  have hsub2 := up_sub (up_up hup hup2) hq
  have hst := state_calls q _ p1 p2 _ hat2
  unfold ptrA at hst
  rw [hs] at *
  generalize hL : bytesA [2, 7, 73, 66, 77, 45, 51, 50, 55, 56, 45, 50, 45, 69] = L at *
  simp [hb]
  refine callK.of hst ?_
  rintro v σ3 ⟨rfl, rfl⟩
  simp [Ng.asked]
  exact hsub2
theorem refused_stays {e : Ng} (h : e.st = 4) (l : List UInt8) : (hearF e l).2.2 = e := by
  have h1 : ¬ e.st = 1 := by omega
  have h2 : ¬ e.st = 2 := by omega
  have h3 : ¬ e.st = 3 := by omega
  unfold hearF
  split
  · rfl
  · rename_i a k
    by_cases c1 : a = 8 ∧ k = [2]
    · rw [if_pos c1, if_pos h]
    rw [if_neg c1]
    by_cases c2 : a = 2
    · rw [if_pos c2]
      rcases k with _ | ⟨d, k⟩
      · rfl
      · show (if k.length = 2 ∧ d = 6 ∧ k.head? = some 5 then (if e.st = 1 then (([], 0, { e with st := 4 }) : List UInt8 × Nat × Ng) else ([], 6, e)) else if ¬ d = 4 ∨ (gotF k).2 = false then ([], 4, e) else if ¬ e.st = 1 then ([], 6, e) else (3 :: 7 :: e.fns, 0, { e with st := 2, name := (gotF k).1, agreed := [] })).2.2 = e
        rw [if_neg h1, if_pos h1]
        split
        · rfl
        · split <;> rfl
    rw [if_neg c2]
    by_cases c3 : a = 3
    · rw [if_pos c3]
      rcases k with _ | ⟨d, k⟩
      · rfl
      · have c4 : ¬ e.st = 2 ∧ (d = 4 ∨ ¬ e.st = 3) := ⟨h2, .inr h3⟩
        unfold fnF
        simp only [if_pos c4]
        split <;> rfl
    · rw [if_neg c3]
theorem ask_len (e : Ng) (h : nameS e.ty = true) : 3 ≤ (askB e).length := by
  have : e.ty ≠ [] := fun h0 => by rw [h0] at h; simp [nameS] at h
  cases hty : e.ty with
  | nil => exact absurd hty this
  | cons a l => simp [askB, hty]
def listsA (l : List (List UInt8)) : List AV := l.map fun p => .list false 1 (bytesA p)
theorem small_asked {e : Ng} (h : Small e) : Small e.asked := ⟨h.ty, h.dev, h.fns, Nat.zero_le _⟩
set_option maxRecDepth 8000 in
set_option maxHeartbeats 1000000 in
theorem negoRefused_law (c : Ng) (code : UInt8) (l : List (List UInt8)) (hl : l.length ≤ 9223372036854775807) (σ : Store) :
    ACalls Try.prog 3 [confA c false, byteA code, .list false 1 (listsA l)] σ fun v σ' => v = .lit (.bool true) ∧ σ' = σ := by
  have haw := fun τ => awake_calls τ
  have hfw := fun τ => few_calls c false τ
  have hfs := few_small c
  have hnew := fun τ => new_calls c.few false hfs τ
  unfold confA at *
  rw [byteA_lit code]
  refine ACalls.of_awp follows (st := st3) (plans := pl3) (n := 89) Try.func3 rfl (by kernel_rfl) (by kernel_rfl) (by kernel_rfl) ?_
  simp
  intro b hb
  refine callK.of (haw _) ?_
  rintro v σ0 ⟨rfl, rfl⟩
  simp
  refine callK.of (hfw _) ?_
  rintro v σ0 ⟨rfl, rfl⟩
  simp
  refine callK.of (hnew _) ?_
  rintro v σ1 (⟨_, ⟨k, hk, rfl⟩, rfl⟩ | ⟨hok, q, hq, rfl, hup⟩)
  · simp [hk]
    exact sub_upd_self _ _ _ hb
  simp only [supd_apply, ite_none] at hq
  obtain ⟨hqb, hq⟩ := hq
  have hsa : ∀ τ, (∃ e, Up σ1 q e τ) → Store.sub σ τ := fun τ ⟨e, hu⟩ => by
    obtain ⟨o1, o2, hu⟩ := up_up hup hu
    rw [hu]; (intro q; simp only [Store.upd, Store.del]; (repeat' split) <;> first | exact Or.inr rfl | exact Or.inl rfl | (exfalso; omega) | (left; subst_vars; assumption) | simp_all)
  obtain ⟨o1, o2, hat⟩ := up_at hup
  have hsm : Small { ty := c.few.ty, dev := c.few.dev, fns := c.few.fns } := hfs
  generalize hE : ({ ty := c.few.ty, dev := c.few.dev, fns := c.few.fns } : Ng) = e0 at *
  have hst0 : e0.st = 0 := by rw [← hE]
  have hty : nameS e0.ty = true := by rw [← hE]; exact hok.1
  clear hE
  have hsm1 := small_asked hsm
  have hh1 : hearF e0.asked [2, 6, 5, code] = ([], 0, { e0.asked with st := 4 }) := by simp [hearF, devF, Ng.asked]
  have hf0 : hearF e0 [8, 2] = (askB e0, 0, e0.asked) := by simp [hearF, hst0]
  simp [ptrA]
  refine callK.of (hear_calls q e0 o1 o2 true [8, 2] (by simp) hsm _ hat (fun _ _ _ _ _ h => by omega)) ?_
  rintro v τ1 ⟨rfl, hu1⟩
  rw [hf0] at hu1
  obtain ⟨p1, p2, hat1⟩ := up_at hu1
  simp
  refine callK.of (hear_calls q e0.asked p1 p2 true [2, 6, 5, code] (by simp) hsm1 _ hat1 (fun _ _ _ _ _ h => by rcases h with h | h <;> cases h)) ?_
  rintro v τ2 ⟨rfl, hu2⟩
  rw [hh1] at hu2 ⊢
  have hu2 := up_up hu1 hu2
  generalize hE2 : ({ e0.asked with st := 4 } : Ng) = e2 at *
  have hst2 : e2.st = 4 := by rw [← hE2]
  have hsm2 : Small e2 := by rw [← hE2]; exact ⟨hsm1.ty, hsm1.dev, hsm1.fns, hsm1.agreed⟩
  have hty2 : nameS e2.ty = true := by rw [← hE2]; exact hty
  obtain ⟨r1, r2, rfl⟩ := hu2
  have hs2 := fun a b => state_calls q e2 a b (σ1.upd q (endO e2 a b)) (by simp)
  have hr2 := fun a b => ready_calls q e2 a b (σ1.upd q (endO e2 a b)) (by simp)
  have hf2 := fun a b => functions_calls q e2 a b hsm2 (σ1.upd q (endO e2 a b)) (by simp)
  have hz2 := fun a b => reset_calls q e2 a b (σ1.upd q (endO e2 a b)) (by simp)
  rw [hst2] at hs2 hr2 hf2
  unfold ptrA at hs2 hr2 hf2 hz2
  have hstay := refused_stays hst2
  simp
  refine callK.of (hs2 r1 r2) ?_
  rintro v τ3 ⟨rfl, rfl⟩
  simp
  refine codeK.loop follows (st := st3) (plans := pl3) (X := Nat × Bool × Bool) (fun x => x.1 ≤ l.length)
    (fun x => [(7, ptrA q), (42, .list false 1 (listsA l)), (43, .lit (.int .i64 l.length)), (44, .lit (.int .i64 x.1))]) (fun x => σ1.upd q (endO e2 x.2.1 x.2.2)) (fun x => l.length - x.1) (0, r1, r2) (by kernel_rfl) (by simp) (by simp [ptrA, listsA]) (Store.sub_refl _) ?_
  rintro ⟨i, a1, a2⟩ hi
  dsimp only at hi ⊢
  by_cases hlt : i < l.length
  · have hw : IntKind.i64.wrap ((i : Int) + 1) = ((i + 1 : Nat) : Int) := wrap_i64 (by omega) (by omega)
    have hlt' : (i : Int) < l.length := by omega
    obtain ⟨c, hc⟩ : ∃ c, l[i] = c := ⟨_, rfl⟩
    have hg : ∀ h : i < (listsA l).length, (listsA l)[i]'h = .list false 1 (bytesA c) := fun h => by
      simp [listsA, hc]
    have hll : (listsA l).length = l.length := by simp [listsA]
    have hcut := fun τ => cut_calls false c 60 τ (by omega)
    by_cases h10 : i < 10
    · have h10' : (i : Int) < 10 := by omega
      have hhe := hear_calls q e2 a1 a2 true (c.take 60) (by simp; omega) hsm2 (σ1.upd q (endO e2 a1 a2)) (by simp) (fun _ _ _ _ _ h => by omega)
      unfold ptrA at hhe
      simp [hlt, hlt', hg, hll, h10', ptrA]
      refine callK.of (hcut _) ?_
      rintro v τ4 ⟨rfl, rfl⟩
      simp
      refine callK.of hhe ?_
      rintro v τ5 ⟨rfl, b1, b2, rfl⟩
      rw [hstay]
      simp
      exact ⟨i + 1, by omega, by omega, by rw [hw]; exact AV.le_refl _, by cases b1 <;> cases b2 <;> simp⟩
    · have h10' : ¬ (i : Int) < 10 := by omega
      simp [hlt, hlt', hg, hll, h10', ptrA]
      exact ⟨i + 1, by omega, by omega, by rw [hw]; exact AV.le_refl _, by cases a1 <;> cases a2 <;> simp⟩
  · obtain rfl : i = l.length := by omega
    simp [ptrA]
    refine callK.of (hs2 a1 a2) ?_
    rintro v τ4 ⟨rfl, rfl⟩
    simp
    refine callK.of (hr2 a1 a2) ?_
    rintro v τ4 ⟨rfl, rfl⟩
    simp
    refine callK.of (hf2 a1 a2) ?_
    rintro v τ4 ⟨rfl, rfl⟩
    simp [bytesA]
    refine callK.of (hz2 a1 a2) ?_
    rintro v τ5 ⟨rfl, b1, b2, rfl⟩
    have hsm3 : Small e2.reset := ⟨hsm2.ty, hsm2.dev, hsm2.fns, Nat.zero_le _⟩
    have hf3 : hearF e2.reset [8, 2] = (askB e2.reset, 0, e2.reset.asked) := by simp [hearF, Ng.reset]
    have hlen := ask_len e2.reset hty2
    simp
    refine callK.of (hear_calls q e2.reset b1 b2 true [8, 2] (by simp) hsm3 _ (by simp) (fun _ _ _ _ _ h => by rcases h with h | h <;> cases h)) ?_
    rintro v τ6 ⟨rfl, hu6⟩
    rw [hf3] at hu6 ⊢
    obtain ⟨d1, d2, hat6⟩ := up_at hu6
    have hs6 := state_calls q e2.reset.asked d1 d2 _ hat6
    unfold ptrA at hs6
    have hbl := bytesA_length (askB e2.reset)
    have h2l : (2 : Int) < (askB e2.reset).length := by omega
    simp [h2l]
    refine callK.of hs6 ?_
    rintro v τ7 ⟨rfl, rfl⟩
    simp [Ng.asked]
    refine hsa _ ⟨e2.reset.asked, ?_⟩
    obtain ⟨x1, x2, rfl⟩ := hu6
    exact ⟨x1, x2, by simp⟩
theorem negoRefused_said (c : Ng) (code : UInt8) (l : List (List UInt8)) (hl : l.length ≤ maxLen) (σ : Store) :
    ACalls Try.prog 3 [confA c false, byteA code, .list false 1 (listsA l)] σ fun v _ => v = .lit (.bool true) :=
  (negoRefused_law c code l (Nat.le_trans hl (by decide)) σ).mono fun _ _ h => h.1
end Go.Proofs.Ytlhfhanmbdncdaa
