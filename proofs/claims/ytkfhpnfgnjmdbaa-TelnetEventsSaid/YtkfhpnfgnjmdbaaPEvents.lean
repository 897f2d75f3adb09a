/-
  A stream's events, told one by one.
-/
import Derived.Test.YtkfhpnfgnjmdbaaPTake
import Derived.Test.YtkfhpnfgnjmdbaaPMerges
import Derived.Test.YtkfhpnfgnjmdbaaALIter7
namespace Go.Proofs.Ytkfhpnfgnjmdbaa
open Go Go.AL

set_option maxRecDepth 4000 in
theorem events_iter (p : List UInt8) (hp : p.length ≤ 100000) (b : Nat) (σ : Store) (hb : σ b = some [.list false 1 (bytesA p)]) :
    Iter Try.prog 28 [ptrA b] σ ((Rd.init.fed p).map fun e => [evA e]) := by
  intro X l I J hy τ E h0 hs
  have hlen : (Rd.init.fed p).length ≤ 1000000 := by
    have := (fed_size .init p rfl rfl).1; omega
  have hfeed := fun r (hr : σ r = none) => feed_calls false r .init p (σ.upd r (rdA .init)) (by simp) (by decide) (by decide) (by decide) hp
  generalize hL : Rd.init.fed p = L at *
  have hy' : ∀ (k : Nat) (h : k < L.length) (τ : Store) (E : Env X), I k τ E → AYields Try.prog l [evA L[k]] τ E fun b τ' E' => if b = true then I (k + 1) τ' E' else J τ' E' := by
    intro k h τ E hI
    have := hy k (by simpa using h) τ E hI
    rwa [List.getElem_map] at this
  refine ACallsY.of_awp follows (st := st28) (plans := pl28) (n := 18) Try.func28 rfl (by kernel_rfl) (by kernel_rfl) (by kernel_rfl) ?_
  simp [hb]
  refine ⟨?_, ?_⟩ <;>
  · refine callK.of (new_calls σ) ?_
    rintro v σ' ⟨r, hr, rfl, rfl⟩
    have hbr : ¬ b = r := fun e => by subst e; rw [hb] at hr; cases hr
    have hτr : τ r = none := by
      rcases hs r with h | h
      · exact h
      · rw [h, hr]
    simp [hb, hbr]
    refine callK.of (hfeed r hr) ?_
    rintro v σ' ⟨rfl, rfl⟩
    simp
    refine codeYK.loop follows (st := st28) (plans := pl28) (S := Nat × Store) (fun x => x.1 ≤ L.length)
      (fun x => [(0, .func (.yield l) [] []), (7, .list true 6 (evsA L)), (8, .lit (.int .i64 L.length)), (9, .lit (.int .i64 x.1))]) (fun x => x.2) (fun x E => I x.1 x.2 E) (fun x => L.length - x.1) (0, τ) (by kernel_rfl) (by simp) (by simp) ?_ h0 ?_
    · dsimp only
      exact Store.sub_trans hs (Store.sub_upd hr (Store.sub_refl _))
    rintro ⟨k, τ1⟩ E1 hk hI
    dsimp only at hk hI ⊢
    by_cases hlt : k < L.length
    · simp [hlt, evsA_get, evA, byteA]
      intro q hq
      refine yieldK.of (args' := [evA L[k]]) (by simp [evA, byteA]) (hy' k hlt τ1 E1 hI) (sub_upd_self _ _ _ hq) ?_
      intro b2 τ' E' hR hap
      cases b2
      · simp
        exact ⟨⟨_, AV.le_refl _⟩, _, Store.sub_over _ _ _, τ', Store.sub_refl _, .inr (by simpa using hR)⟩
      · simp
        refine ⟨k + 1, by omega, by omega, ?_, τ', Store.sub_over _ _ _, by simpa using hR⟩
        rw [wrap_i64 (by omega) (by omega)]; exact le_of_eq rfl
    · obtain rfl : k = L.length := by omega
      simp
      exact ⟨⟨_, AV.le_refl _⟩, _, Store.sub_refl _, τ1, Store.sub_refl _, .inl hI⟩

theorem seq_calls (p : List UInt8) (σ : Store) :
    ACalls Try.prog 21 [.list false 1 (bytesA p)] σ fun v σ' => ∃ b, σ b = none ∧ v = .func (.func 28) [] [ptrA b] ∧ σ' = σ.upd b [.list false 1 (bytesA p)] := by
  refine ACalls.of_awp follows (st := st21) (plans := pl21) (n := 4) Try.func21 rfl (by kernel_rfl) (by kernel_rfl) (by kernel_rfl) ?_
  simp
  exact fun b hb => ⟨_, AV.le_refl _, _, Store.sub_refl _, b, hb, rfl, rfl⟩

set_option maxRecDepth 4000 in
theorem told_calls (p : List UInt8) (m : Nat) (hp : p.length ≤ 100000) (hm : 1 ≤ m) (hm2 : m ≤ 1000000) (σ : Store) :
    ACalls Try.prog 11 [.list false 1 (bytesA p), .lit (.int .i64 m)] σ fun v σ' => v = .list false 6 (evsA ((Rd.init.fed p).take m)) ∧ σ' = σ := by
  have hi := fun b σ hb => events_iter p hp b σ hb
  have hlen : (Rd.init.fed p).length ≤ 1000000 := by
    have := (fed_size .init p rfl rfl).1; omega
  generalize hL : Rd.init.fed p = L at *
  refine ACalls.of_awpY follows (st := st11) (plans := pl11) (n := 19) Try.func11 rfl (by kernel_rfl) (by kernel_rfl) (by kernel_rfl) ?_
  simp
  intro q1 hq1 q2 hq2
  rw [ite_none] at hq2
  obtain ⟨hne, hq2⟩ := hq2
  refine callK.of (seq_calls p _) ?_
  rintro v σ' ⟨b, hb, rfl, rfl⟩
  simp only [supd_apply, ite_none] at hb
  obtain ⟨hb2, hb1, hb⟩ := hb
  simp
  refine codeYK.range follows (st := st11) (plans := pl11) (hi b _ (by simp)) (by simp) (by simp) (by simp) (by kernel_rfl) (by kernel_rfl) (by kernel_rfl)
    (fun k τ _ => k < m ∧ k ≤ L.length ∧ τ = (σ.upd q1 [.lit (.int .i64 m)]).upd q2 [.list true 6 (evsA (L.take k))]) (fun c τ _ => c = .exit 0 ∧ τ = (σ.upd q1 [.lit (.int .i64 m)]).upd q2 [.list true 6 (evsA (L.take m))])
    _ ⟨by omega, by omega, rfl⟩ ?_ ?_ ?_ ?_
  · simp [evsA]
    (intro q; simp only [Store.upd, Store.del]; (repeat' split) <;> simp_all)
  · rintro k hk τ E ⟨h1, h2, rfl⟩
    have hk' : k < L.length := by simpa using hk
    have ht : L.take (k + 1) = L.take k ++ [L[k]] := by rw [List.take_succ_eq_append_getElem hk']
    simp [hne, evA, byteA]
    intro r hr
    simp only [ite_none] at hr
    obtain ⟨hr2, hr1, hr⟩ := hr
    have hr2' : ¬ q2 = r := fun e => hr2 e.symm
    have hr1' : ¬ q1 = r := fun e => hr1 e.symm
    have hne' : ¬ q1 = q2 := fun e => hne e.symm
    have hlk : (L.take k).length = k := by simp; omega
    have hsub : ∀ {σ1 : Store} {x y o z : List AV}, σ1 r = none → x = y → Store.sub (σ1.upd q2 x) (((σ1.upd q2 o).upd r z).upd q2 y) := by
      rintro σ1 x y o z h1 rfl q
      simp only [Store.upd]
      by_cases e1 : q = q2
      · simp [e1]
      · by_cases e2 : q = r
        · subst e2; simp [e1, h1]
        · simp [e1, e2]
    have hnew : evsA (L.take (k + 1)) = evsA (L.take k) ++ [.agg [.lit (.int .i64 L[k].kind), .lit (.int .u8 L[k].verb.toNat), .lit (.int .u8 L[k].opt.toNat), .list false 1 (bytesA L[k].data), .lit (.bool L[k].long), .lit (.bool L[k].broken)]] := by
      rw [ht, evsA_append]; rfl
    simp [hr2, hr1, hr2', hr1', hne', hlk]
    refine ⟨by omega, by omega, ?_⟩
    split
    · rename_i hkm
      have : m = k + 1 := by omega
      subst this
      exact hsub (by simp [hr1, hr]) (by rw [hnew])
    · rename_i hkm
      exact ⟨_, hsub (by simp [hr1, hr]) (by rw [hnew]), by omega, by omega, rfl⟩
  · rintro τ E σ' hs ⟨h1, h2, rfl⟩
    have e2 : σ' q2 = some [.list true 6 (evsA L)] := by
      rcases hs q2 with h | h
      · simp at h
      · rw [← h]; simp
    have hm : L.take m = L := List.take_of_length_le (by simp at h1; omega)
    simp [e2, hm]
    refine Store.sub_trans ?_ hs
    (intro q; simp only [Store.upd, Store.del]; (repeat' split) <;> simp_all)
  · rintro c τ E σ' hs ⟨rfl, rfl⟩
    have e2 : σ' q2 = some [.list true 6 (evsA (L.take m))] := by
      rcases hs q2 with h | h
      · simp at h
      · rw [← h]; simp
    simp [e2]
    refine Store.sub_trans ?_ hs
    (intro q; simp only [Store.upd, Store.del]; (repeat' split) <;> simp_all)

/-! ### Fed at once, nothing is left to merge -/
def Rd.tidy (r : Rd) : Prop := Good r.out ∧ ∀ e, r.out.getLast? = some e → e.kind ≠ 0
theorem tidy_flush {r : Rd} (h : r.tidy) : Good r.flush.out := by
  simp only [Rd.flush]
  split
  · rename_i hd
    refine good_snoc h.1 ?_
    have hne : r.data ≠ [] := fun e => by simp [e] at hd
    unfold mergeStep
    simp only [ne_eq, not_true_eq_false, if_false, hne]
    cases hl : r.out.getLast? with
    | none =>
      have : r.out = [] := by simpa using hl
      rw [this]; rfl
    | some last => simp [h.2 last hl]; rfl
  · exact h.1
theorem tidy_tell {r : Rd} (h : r.tidy) (e : Ev) (he : e.kind ≠ 0) : (r.tell e).tidy := by
  refine ⟨good_snoc (tidy_flush h) (by simp [mergeStep, he]), fun x hx => ?_⟩
  simp [Rd.tell] at hx
  subst hx; exact he
theorem tidy_command {r : Rd} (h : r.tidy) (b : UInt8) : (r.command b).tidy := by
  simp only [Rd.command]
  split
  · exact h
  · split
    · exact h
    · split
      · exact h
      · exact tidy_tell h _ (by simp)
theorem tidy_keep {r : Rd} (h : r.tidy) (b : UInt8) : (r.keep b).tidy := by
  simp only [Rd.keep]; split <;> exact h
theorem tidy_fin {r : Rd} (h : r.tidy) (b : Bool) : (r.fin b).tidy := tidy_tell h _ (by simp)
theorem tidy_take {r : Rd} (h : r.tidy) (b : UInt8) : (r.take b).tidy := by
  simp only [Rd.take]
  split
  · exact tidy_command h b
  · split
    · exact tidy_tell h _ (by simp)
    · split
      · exact h
      · split
        · split
          · exact h
          · exact tidy_keep h b
        · split
          · split
            · exact tidy_keep h b
            · split
              · exact tidy_fin h false
              · exact tidy_command (tidy_fin h true) b
          · split
            · exact h
            · exact h
theorem tidy_feed (r : Rd) (p : List UInt8) (h : r.tidy) : (r.feed p).tidy := by
  induction p generalizing r with
  | nil => exact h
  | cons b p ih => exact ih (r.take b) (tidy_take h b)
theorem told_fed (p : List UInt8) : (Rd.init.feed p).told = Rd.init.fed p :=
  merge_of_good _ (tidy_flush (tidy_feed _ p ⟨good_nil, fun e he => by simp [Rd.init] at he⟩))

set_option maxRecDepth 8000 in
theorem events_law (p : List UInt8) (s : UInt8) (σ : Store) :
    ACalls Try.prog 3 [.list false 1 (bytesA p), byteA s] σ fun v _ => v = .lit (.bool true) := by
  refine ACalls.of_awp follows (st := st3) (plans := pl3) (n := 50) Try.func3 rfl (by kernel_rfl) (by kernel_rfl) (by kernel_rfl) ?_
  simp
  refine callK.of (awake_calls _) ?_
  rintro v σ' ⟨rfl, rfl⟩
  simp
  refine callK.of (cut_calls false p 600 _ (by omega)) ?_
  rintro v σ' ⟨rfl, rfl⟩
  have hp : (p.take 600).length ≤ 600 := by simp; omega
  generalize p.take 600 = q at *
  simp
  refine callK.of (read_calls false q _ (by omega)) ?_
  rintro v σ' ⟨rfl, rfl⟩
  rw [told_fed]
  have hlen : (Rd.init.fed q).length ≤ 3000 := by
    have := (fed_size .init q rfl rfl).1; omega
  have hbig := told_calls q 10000 (by omega) (by omega) (by omega)
  have hsmall := fun k h1 h2 => told_calls q k (by omega) h1 h2
  generalize Rd.init.fed q = L at *
  rw [List.take_of_length_le (by omega)] at hbig
  obtain ⟨k, hk⟩ : ∃ k : Nat, 1 + s.toNat % 6 = k := ⟨_, rfl⟩
  have hk6 : k ≤ 6 := by omega
  have hk1 : 1 ≤ k := by omega
  have hkw : IntKind.i64.wrap (1 + IntKind.i64.wrap ((s.toNat : Int).tmod 6)) = (k : Int) := by
    have e1 : ((s.toNat : Int).tmod 6) = ((s.toNat % 6 : Nat) : Int) := rfl
    rw [e1, wrap_i64 (n := ((s.toNat % 6 : Nat) : Int)) (by omega) (by omega), wrap_i64 (by omega) (by omega)]
    omega
  have hlaw := hsmall k hk1 (by omega)
  have hnil := feed_nil
  simp [byteA]
  refine callK.of (hbig _) ?_
  rintro v σ' ⟨rfl, rfl⟩
  simp
  refine callK.of (sameEv_calls false false L L _ (by omega)) ?_
  rintro v σ' ⟨rfl, rfl⟩
  by_cases hkl : (k : Int) < L.length
  · have hkl' : k ≤ L.length := by omega
    have htk : List.take k (evsA L) = evsA (L.take k) := by simp [evsA]
    simp [hkw, hkl, hkl', htk]
    refine callK.of (hlaw _) ?_
    rintro v σ' ⟨rfl, rfl⟩
    simp
    refine callK.of (sameEv_calls false false (L.take k) (L.take k) _ (by simp; omega)) ?_
    rintro v σ' ⟨rfl, rfl⟩
    simp
    refine callK.of (feed_nil false q _) ?_
    rintro v σ' ⟨rfl, rfl⟩
    simp [evsA]
    refine callK.of (waiting_nil _) ?_
    rintro v σ' ⟨rfl, rfl⟩
    simp
    exact ⟨_, Store.sub_refl _⟩
  · simp [hkw, hkl]
    have htk : L.take k = L := List.take_of_length_le (by omega)
    rw [htk] at hlaw
    refine callK.of (hlaw _) ?_
    rintro v σ' ⟨rfl, rfl⟩
    simp
    refine callK.le (args' := [.list false 6 (evsA L), .list false 6 (evsA L)]) (by rw [List.take_of_length_le (by simp)]; simp) (sameEv_calls false false L L _ (by omega)) ?_
    rintro v σ' ⟨rfl, rfl⟩
    simp
    refine callK.of (feed_nil false q _) ?_
    rintro v σ' ⟨rfl, rfl⟩
    simp [evsA]
    refine callK.of (waiting_nil _) ?_
    rintro v σ' ⟨rfl, rfl⟩
    simp
    exact ⟨_, Store.sub_refl _⟩
end Go.Proofs.Ytkfhpnfgnjmdbaa
