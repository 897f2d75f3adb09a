/-
  Merged events, merged once more.
-/
import Derived.Test.YtkfhpnfgnjmdbaaPCuts
namespace Go.Proofs.Ytkfhpnfgnjmdbaa
open Go Go.AL

/-- Each step appended. -/
def Good (l : List Ev) : Prop := ∀ init e, (init ++ [e]) <+: l → mergeStep init e = init ++ [e]
theorem good_nil : Good [] := by
  intro init e h
  have := h.length_le
  simp at this
theorem good_snoc {l : List Ev} {e : Ev} (h : Good l) (he : mergeStep l e = l ++ [e]) : Good (l ++ [e]) := by
  intro init x hp
  rcases List.prefix_concat_iff.1 hp with h1 | h1
  · obtain ⟨rfl, h2⟩ := List.append_inj' h1 rfl
    simp at h2; subst h2; exact he
  · exact h init x h1
theorem good_prefix {l k : List Ev} (h : Good l) (hk : k <+: l) : Good k := fun init e hp => h init e (hp.trans hk)
theorem good_step {l : List Ev} (h : Good l) (e : Ev) : Good (mergeStep l e) := by
  by_cases hk : e.kind = 0
  · by_cases hd : e.data = []
    · have : mergeStep l e = l := by simp [mergeStep, hk, hd]
      rw [this]; exact h
    · rcases List.eq_nil_or_concat l with rfl | ⟨init, last, hl⟩
      · have e1 : mergeStep [] e = [] ++ [dataEv e.data] := by simp [mergeStep, hk, hd]
        rw [e1]
        exact good_snoc good_nil (by simp [mergeStep, dataEv, hd])
      · rw [List.concat_eq_append] at hl
        subst hl
        by_cases hk2 : last.kind = 0
        · have e1 : mergeStep (init ++ [last]) e = init ++ [{ last with data := last.data ++ e.data }] := by simp [mergeStep, hk, hd, hk2]
          rw [e1]
          have h0 := h init last (List.prefix_refl _)
          refine good_snoc (good_prefix h (List.prefix_append _ _)) ?_
          have hne : last.data ≠ [] := fun hn => by
            have := congrArg List.length h0
            simp [mergeStep, hk2, hn] at this
          have hne' : last.data ++ e.data ≠ [] := by simp [hne]
          cases hm : init.getLast? with
          | none =>
            simp only [mergeStep, hk2, hne, hm] at h0
            simp only [mergeStep, hk2, hm]
            have hi : init = [] := by simpa using hm
            subst hi
            simp at h0
            simp [hne]
            rw [← h0]; rfl
          | some y =>
            simp only [mergeStep, hk2, hne, hm] at h0
            by_cases hy : y.kind = 0
            · have := congrArg List.length h0
              have hi : init ≠ [] := fun e => by subst e; simp at hm
              simp [hy] at this
              have : 0 < init.length := List.length_pos_iff.2 hi
              omega
            · simp [hy] at h0
              simp [mergeStep, hk2, hm, hy, hne]
              rw [← h0]; rfl
        · have e1 : mergeStep (init ++ [last]) e = init ++ [last] ++ [dataEv e.data] := by simp [mergeStep, hk, hd, hk2]
          rw [e1]
          exact good_snoc h (by simp [mergeStep, dataEv, hd, hk2])
  · have e1 : mergeStep l e = l ++ [e] := by simp [mergeStep, hk]
    rw [e1]; exact good_snoc h e1
theorem merge_good (l : List Ev) : Good (merge l) := by
  have key : ∀ (l out : List Ev), Good out → Good (l.foldl mergeStep out) := fun l => by
    induction l with
    | nil => exact fun _ h => h
    | cons e l ih => exact fun out h => ih _ (good_step h e)
  exact key l [] good_nil
theorem merge_of_good (l : List Ev) (h : Good l) : merge l = l := by
  have key : ∀ n, n ≤ l.length → merge (l.take n) = l.take n := fun n => by
    induction n with
    | zero => intro _; rfl
    | succ n ih =>
      intro hn
      rw [← merge_take l n hn, ih (by omega), h (l.take n) l[n] (by rw [← List.take_succ_eq_append_getElem hn]; exact List.take_prefix _ _), ← List.take_succ_eq_append_getElem hn]
  have := key l.length (Nat.le_refl _)
  rwa [List.take_length] at this
theorem merge_merge (l : List Ev) : merge (merge l) = merge l := merge_of_good _ (merge_good l)

def cutE (e : Ev) : Ev := { e with data := e.data.take 20 }
def mineOf (l : List Ev) (i : Nat) : List Ev := (l.take i).map cutE
theorem mine_len (l : List Ev) (i : Nat) (hi : i ≤ 30) : (mineOf l i).length ≤ 30 ∧ bytesIn (mineOf l i) ≤ 600 := by
  have h1 : (l.take i).length ≤ i := by simp; omega
  refine ⟨by simp only [mineOf, List.length_map]; omega, ?_⟩
  have key : ∀ k : List Ev, bytesIn (k.map cutE) ≤ 20 * k.length := fun k => by
    induction k with
    | nil => simp [bytesIn]
    | cons e k ih =>
      simp only [bytesIn, List.map_cons, List.sum_cons, List.length_cons, cutE, List.length_take] at *
      omega
  have := key (l.take i)
  simp only [mineOf]; omega
theorem mine_succ (l : List Ev) (i : Nat) (h : i < l.length) : mineOf l (i + 1) = mineOf l i ++ [cutE l[i]] := by
  simp only [mineOf]
  rw [List.take_succ_eq_append_getElem h, List.map_append]; rfl

theorem flat_evO (l : List Ev) : flat (l.map evO) = evsO l := by
  induction l with
  | nil => rfl
  | cons e l ih => simp only [flat, evsO, List.map_cons, List.flatMap_cons] at ih ⊢; rw [ih]
theorem evsO_le (l : List Ev) : AllLe1 (evsO l) (flat (evsA l)) := by
  induction l with
  | nil => trivial
  | cons e l ih =>
    rw [show evsO (e :: l) = evsO [e] ++ evsO l from by rw [← evsO_append]; rfl, show flat (evsA (e :: l)) = flat (evsA [e]) ++ flat (evsA l) by simp [flat, evsA]]
    refine AllLe1.append ?_ ih
    rw [evsO_one]
    simp [flat, evsA, evA]
/-- A row of events is from now on a list. -/
theorem view_row {n : Nat} {Q : Slots → Store → Prop} {σ : Store} {a : AV} {p cap : Nat} {out : List Ev} {rest : List AV} (hr : out ≠ [] → σ p = none ∧ (evsO out ++ rest).length = cap * 6 ∧ cap ≤ maxLen) (h : View n Q (slotsL [(3, a), (4, .list true 6 (evsA out))]) σ) :
    View n Q (slotsL [(3, a), (4, rowE p cap out)]) (storeE σ p out rest) := by
  by_cases ho : out = []
  · subst ho
    rw [storeE, if_pos rfl]
    refine View.leL ?_ h
    simp [rowE, evsA]; exact AV.le_nil _ _
  · obtain ⟨h1, h2, h3⟩ := hr ho
    rw [storeE, if_neg ho]
    have h2' := h2
    rw [List.length_append, evsO_length] at h2'
    refine View.freeze (t := 4) (p := p) (cap := cap) (sz := 6) (vs := out.map evO) (rest := rest) ?_ ?_ ?_ h3 ?_ ?_ ?_
    · simp [rowE, ho]
    · rw [flat_evO]; simp
    · rw [flat_evO]; exact h2
    · simp; omega
    · intro v hv
      obtain ⟨e, _, rfl⟩ := List.mem_map.1 hv
      rfl
    · refine View.leL (l := [(3, a), (4, .list true 6 (evsA out))]) ?_ (View.sub ?_ h)
      · simp
        refine AV.le_els (by simp) ?_ (by rw [flat_evO]; exact evsO_le _)
        intro v hv
        obtain ⟨e, _, rfl⟩ := List.mem_map.1 hv
        rfl
      · intro q
        by_cases hq : q = p
        · subst hq; exact .inl h1
        · exact .inr (by simp [Store.del, Store.upd, hq])

set_option maxRecDepth 4000 in
set_option maxHeartbeats 2000000 in
theorem merges_law (l : List Ev) (σ : Store) (h1 : l.length ≤ 9223372036854775807) :
    ACalls Try.prog 4 [.list false 6 (evsA l)] σ fun v _ => v = .lit (.bool true) := by
  refine ACalls.of_awp follows (st := st4) (plans := pl4) (n := 99) Try.func4 rfl (by kernel_rfl) (by kernel_rfl) (by kernel_rfl) ?_
  simp
  refine callK.of (awake_calls _) ?_
  rintro v σ ⟨rfl, rfl⟩
  simp
  refine codeK.cut (fun e A' σ2 => e = .exit 0 ∧ ∃ (m p cap : Nat) (rest : List AV), m ≤ 30 ∧ (merge (mineOf l m) ≠ [] → σ p = none ∧ (evsO (merge (mineOf l m)) ++ rest).length = cap * 6 ∧ cap ≤ maxLen) ∧
    LeL A' [(3, .list true 6 (evsA (mineOf l m))), (4, rowE p cap (merge (mineOf l m)))] ∧ Store.sub (storeE σ p (merge (mineOf l m)) rest) σ2) ?_ ?_
  · refine codeK.loop follows (st := st4) (plans := pl4) (X := Nat × Nat × Nat × List AV) (fun x => x.1 ≤ 30 ∧ x.1 ≤ l.length ∧ (merge (mineOf l x.1) ≠ [] → σ x.2.1 = none ∧ (evsO (merge (mineOf l x.1)) ++ x.2.2.2).length = x.2.2.1 * 6 ∧ x.2.2.1 ≤ maxLen))
      (fun x => [(3, .list true 6 (evsA (mineOf l x.1))), (4, rowE x.2.1 x.2.2.1 (merge (mineOf l x.1))), (12, .list false 6 (evsA l)), (13, .lit (.int .i64 l.length)), (14, .lit (.int .i64 x.1))]) (fun x => storeE σ x.2.1 (merge (mineOf l x.1)) x.2.2.2) (fun x => l.length - x.1) (0, 0, 0, []) (by kernel_rfl) (by simp [merge, mineOf]) (by simp [rowE, merge, mineOf, evsA]) (by simp [storeE, merge, mineOf]) fun x hx => ?_
    obtain ⟨i, p, cap, rest⟩ := x
    obtain ⟨hi, hil, hrow⟩ := hx
    dsimp only at hi hil hrow ⊢
    by_cases hlt : i < l.length
    case neg =>
      simp [hlt]
      exact ⟨i, hi, p, cap, rest, fun h => by simpa using hrow h, ⟨AV.le_refl _, AV.le_refl _⟩, Store.sub_refl _⟩
    have hfree : ∀ q, storeE σ p (merge (mineOf l i)) rest q = none → ∀ x, Store.sub (storeE σ p (merge (mineOf l i)) rest) ((storeE σ p (merge (mineOf l i)) rest).upd q x) := fun q hq x => sub_upd_self _ _ _ hq
    by_cases h30 : i < 30
    case neg =>
      simp [hlt, evsA, evA, byteA]
      intro q hq
      rw [if_pos (by omega)]
      exact ⟨i, hi, p, cap, rest, fun h => by simpa using hrow h, ⟨AV.le_refl _, AV.le_refl _⟩, hfree q hq _⟩
    have hms := merge_size (mineOf l i)
    have hmi := mine_len l i (by omega)
    have hmt : merge (mineOf l (i + 1)) = mergeStep (merge (mineOf l i)) (cutE l[i]) := by rw [mine_succ l i hlt, merge_snoc]
    have hmine : evsA (mineOf l (i + 1)) = evsA (mineOf l i) ++ [evA (cutE l[i])] := by rw [mine_succ l i hlt, evsA_append]; rfl
    have hwr : IntKind.i64.wrap ((i : Int) + 1) = ((i + 1 : Nat) : Int) := wrap_i64 (by omega) (by omega)
    have z30 : ¬ (30 ≤ (i : Int)) := by omega
    generalize hE : mineOf l i = mine at *
    generalize merge mine = out at *
    have hdl : (l[i].data.take 20).length ≤ 20 := by simp; omega
    have hcut : cutE l[i] = ⟨l[i].kind, l[i].verb, l[i].opt, l[i].data.take 20, l[i].long, l[i].broken⟩ := rfl
    rw [hcut] at hmt hmine
    rcases List.eq_nil_or_concat out with ho | ⟨init, last, ho⟩
    · subst ho
      simp [hlt, evsA, evA, byteA, rowE, storeE, z30]
      intro q hq
      refine callK.of (cut_calls false l[i].data 20 _ (by omega)) ?_
      rintro v σ' ⟨rfl, rfl⟩
      generalize l[i].data.take 20 = d at *
      by_cases hk : l[i].kind = 0
      · by_cases hd : d = []
        · have hnew : merge (mineOf l (i + 1)) = [] := by rw [hmt]; simp [mergeStep, hk, hd]
          simp [hk, hd, bytesA_nil]
          refine ⟨by omega, by omega, i + 1, p, cap, rest, ⟨by omega, by omega, by rw [hnew]; simp⟩, by omega, ⟨?_, by rw [hnew]; simp, by rw [hwr]; exact AV.le_refl _⟩, by rw [hnew]; simp; (intro q; simp only [Store.upd, Store.del]; (repeat' split) <;> simp_all)⟩
          rw [show List.map evA (mineOf l (i + 1)) = _ from hmine]; simp [evsA, evA, byteA, hk, hd, bytesA_nil]
        · have hnew : merge (mineOf l (i + 1)) = [dataEv d] := by rw [hmt]; simp [mergeStep, hk, hd]
          simp [hk, hd, byteA, rowOf, srcOf, pty, tPart]
          refine ⟨by omega, by omega, fun q2 hq2 q3 cap3 hq3 h1 h3 => ?_⟩
          simp only [ite_none] at hq2 hq3
          refine ⟨i + 1, q3, cap3, List.replicate ((cap3 - 1) * 6) .top, ⟨by omega, by omega, ?_⟩, by omega, ⟨?_, by rw [hnew]; simp, by rw [hwr]; exact AV.le_refl _⟩, ?_⟩
          · rw [hnew]; simp [evsO_one]; exact ⟨hq3.2.2, by omega, h3⟩
          · rw [show List.map evA (mineOf l (i + 1)) = _ from hmine]; simp [evsA, evA, byteA, hk]
          · rw [hnew]; simp [evsO_one, byteA, dataEv]; (intro q; simp only [Store.upd, Store.del]; (repeat' split) <;> simp_all)
      · have hnew : merge (mineOf l (i + 1)) = [⟨l[i].kind, l[i].verb, l[i].opt, d, l[i].long, l[i].broken⟩] := by rw [hmt]; simp [mergeStep, hk]
        simp [hk, byteA, rowOf, srcOf]
        refine ⟨by omega, by omega, fun q2 hq2 q3 cap3 hq3 h1 h3 => ?_⟩
        simp only [ite_none] at hq2 hq3
        refine ⟨i + 1, q3, cap3, List.replicate ((cap3 - 1) * 6) .top, ⟨by omega, by omega, ?_⟩, by omega, ⟨?_, by rw [hnew]; simp, by rw [hwr]; exact AV.le_refl _⟩, ?_⟩
        · rw [hnew]; simp [evsO_one]; exact ⟨hq3.2.2, by omega, h3⟩
        · rw [show List.map evA (mineOf l (i + 1)) = _ from hmine]; simp [evsA, evA, byteA]
        · rw [hnew]; simp [evsO_one, byteA]; (intro q; simp only [Store.upd, Store.del]; (repeat' split) <;> simp_all)
    · have hon : out ≠ [] := by rw [ho]; simp
      obtain ⟨hσp, hlen, hcm⟩ := hrow hon
      have hlen' := hlen
      rw [List.length_append] at hlen'
      have hcm' : cap ≤ 9223372036854775807 := by simpa using hcm
      have hol : out.length ≤ cap := by rw [evsO_length] at hlen'; omega
      have hlast : out.getLast? = some last := by rw [ho]; simp
      have hn1 : IntKind.i64.wrap ((out.length : Int) - 1) = (init.length : Int) := by
        have : out.length = init.length + 1 := by rw [ho]; simp
        rw [this, wrap_i64 (by omega) (by omega)]; omega
      have hpos : 0 < out.length := by rw [ho]; simp
      have hilt : init.length < out.length := by rw [ho]; simp
      have ho' : out = init ++ [last] := by rw [ho]; simp
      have hql : ∀ q (x : List AV), (if q = p then some x else σ q) = none → q ≠ p ∧ p ≠ q ∧ σ q = none := fun q x h => by rw [ite_none] at h; exact ⟨h.1, Ne.symm h.1, h.2⟩
      simp [hlt, evsA, evA, byteA, rowE, storeE, z30, hon]
      intro q hq
      obtain ⟨n1, n2, n3⟩ := hql _ _ hq
      refine callK.of (cut_calls false l[i].data 20 _ (by omega)) ?_
      rintro v σ' ⟨rfl, rfl⟩
      generalize l[i].data.take 20 = d at *
      by_cases hk : l[i].kind = 0
      · by_cases hd : d = []
        · have hnew : merge (mineOf l (i + 1)) = out := by rw [hmt]; simp [mergeStep, hk, hd]
          simp [hk, hd, bytesA_nil, n1, n2]
          refine ⟨by omega, by omega, i + 1, p, cap, rest, ⟨by omega, by omega, by rw [hnew]; exact fun _ => ⟨hσp, hlen', hcm'⟩⟩, by omega, ⟨?_, by rw [hnew]; simp [hon], by rw [hwr]; exact AV.le_refl _⟩, by clear hmine hE hcut hmt hrow hfree; rw [hnew]; simp [hon]; (intro q; simp only [Store.upd, Store.del]; (repeat' split) <;> simp_all)⟩
          rw [show List.map evA (mineOf l (i + 1)) = _ from hmine]; simp [evsA, evA, byteA, hk, hd, bytesA_nil]
        · obtain ⟨g0, g3⟩ : (evsO out ++ rest)[init.length * 6]? = some (.lit (.int .i64 last.kind)) ∧ (evsO out ++ rest)[init.length * 6 + 3]? = some (.list true 1 (bytesA last.data)) := by rw [ho']; exact last_get ..
          have hlb : init.length * 6 + 3 < (evsO out ++ rest).length := (List.getElem?_eq_some_iff.1 g3).1
          have hld : last.data.length ≤ 1000000 := by
            have := bytesIn_le (l := out) (e := last) (by rw [ho']; simp)
            omega
          by_cases hk2 : last.kind = 0
          · have hnew : merge (mineOf l (i + 1)) = init ++ [{ last with data := last.data ++ d }] := by rw [hmt]; simp [mergeStep, hk, hd, hlast, hk2, ho]
            simp [hk, hd, n1, n2, g0, g3, hk2, hn1, hilt, hpos]
            have hmore : ∀ z : AV, z.le (.list true 6 (List.map evA (mineOf l (i + 1)))) → last.data.length + d.length ≤ 9223372036854775807 → True := fun _ _ _ => trivial
            have hlen3 : out.length = init.length + 1 := by rw [ho']; simp
            have hst : Store.sub (σ.upd p (evsO (init ++ [{ last with data := last.data ++ d }]) ++ rest)) (((σ.upd p (evsO out ++ rest)).upd q [AV.lit (.int .i64 0), .lit (.int .u8 l[i].verb.toNat), .lit (.int .u8 l[i].opt.toNat), .list true 1 (bytesA d), .lit (.bool l[i].long), .lit (.bool l[i].broken)]).upd p ((evsO out ++ rest).set (init.length * 6 + 3) (AV.list true 1 (bytesA last.data ++ bytesA d)))) := by
              have h9 := last_set init last rest (last.data ++ d)
              rw [← ho', bytesA_append] at h9
              rw [h9]
              clear hmine hE hcut hmt hrow hfree hnew h9 hlen hlen' g0 g3 hms
              (intro q; simp only [Store.upd, Store.del]; (repeat' split) <;> simp_all)
            have hlb' : init.length * 6 + 3 + 1 ≤ (evsO out).length + rest.length := by rw [← List.length_append]; exact hlb
            have hne : init ++ [{ last with data := last.data ++ d }] ≠ [] := by simp
            repeat' apply And.intro
            · omega
            · omega
            all_goals
              refine callK.of (copy_calls false last.data _ (by omega)) ?_
              rintro v σ' ⟨rfl, rfl⟩
              simp [hk, hd, n1, n2, g0, g3, hk2, hn1, hilt, hpos]
              refine ⟨by omega, by omega, hlb', i + 1, p, cap, rest, ⟨by omega, by omega, ?_⟩, by omega, ⟨?_, ?_, by rw [hwr]; exact AV.le_refl _⟩, ?_⟩
              · rw [hnew]
                rw [evsO_length] at hlen'
                simp [evsO_length]; exact ⟨hσp, by omega, hcm'⟩
              · rw [show List.map evA (mineOf l (i + 1)) = _ from hmine]; simp [evsA, evA, byteA, hk]
              · rw [hnew, if_neg hne]; simp [hlen3]
              · rw [hnew, if_neg hne]; exact hst
          · have hnew : merge (mineOf l (i + 1)) = out ++ [dataEv d] := by rw [hmt]; simp [mergeStep, hk, hd, hlast, hk2]
            simp [hk, hd, n1, n2, g0, hk2, hn1, hilt, hpos, pty, tPart]
            refine ⟨by omega, by omega, fun q2 hq2 => ?_⟩
            simp only [ite_none] at hq2
            obtain ⟨m2, _, m3, m4⟩ := hq2
            simp [n1, n2, m2, m3, Ne.symm m2, Ne.symm m3, rowOf, srcOf, hlen', hol, hcm', take_evsO]
            refine ⟨by omega, by omega, fun q3 cap3 hq3 h1 h3 => ?_⟩
            have hf : σ q3 = none ∧ q3 ≠ q ∧ q3 ≠ q2 := by
              rcases hq3 with rfl | h
              · exact ⟨hσp, n2, Ne.symm m3⟩
              · simp only [ite_none] at h; exact ⟨h.2.2.2, h.2.1, h.1⟩
            obtain ⟨f1, f2, f3⟩ := hf
            refine ⟨i + 1, q3, cap3, List.replicate ((cap3 - (out.length + 1)) * 6) .top, ⟨by omega, by omega, ?_⟩, by omega, ⟨?_, ?_, by rw [hwr]; exact AV.le_refl _⟩, ?_⟩
            · rw [hnew]; simp [evsO_append, evsO_one, evsO_length]; exact ⟨f1, by omega, h3⟩
            · rw [show List.map evA (mineOf l (i + 1)) = _ from hmine]; simp [evsA, evA, byteA, hk]
            · rw [hnew]; simp
            · clear hmine hE hcut hmt hrow hfree hlen hlen' g0 g3 hms hq3; rw [hnew]; simp [evsO_append, evsO_one, byteA, dataEv]; clear hnew; (intro q; simp only [Store.upd, Store.del]; (repeat' split) <;> simp_all)
      · have hnew : merge (mineOf l (i + 1)) = out ++ [⟨l[i].kind, l[i].verb, l[i].opt, d, l[i].long, l[i].broken⟩] := by rw [hmt]; simp [mergeStep, hk]
        simp [hk, n1, n2]
        refine ⟨by omega, by omega, fun q2 hq2 => ?_⟩
        simp only [ite_none] at hq2
        obtain ⟨m2, _, m3, m4⟩ := hq2
        simp [hk, byteA, n1, n2, m2, m3, Ne.symm m2, Ne.symm m3, rowOf, srcOf, hlen', hol, hcm', take_evsO]
        refine ⟨by omega, by omega, fun q3 cap3 hq3 h1 h3 => ?_⟩
        have hf : σ q3 = none ∧ q3 ≠ q ∧ q3 ≠ q2 := by
          rcases hq3 with rfl | h
          · exact ⟨hσp, n2, Ne.symm m3⟩
          · simp only [ite_none] at h; exact ⟨h.2.2.2, h.2.1, h.1⟩
        obtain ⟨f1, f2, f3⟩ := hf
        refine ⟨i + 1, q3, cap3, List.replicate ((cap3 - (out.length + 1)) * 6) .top, ⟨by omega, by omega, ?_⟩, by omega, ⟨?_, ?_, by rw [hwr]; exact AV.le_refl _⟩, ?_⟩
        · rw [hnew]; simp [evsO_append, evsO_one, evsO_length]; exact ⟨f1, by omega, h3⟩
        · rw [show List.map evA (mineOf l (i + 1)) = _ from hmine]; simp [evsA, evA, byteA]
        · rw [hnew]; simp
        · clear hmine hE hcut hmt hrow hfree hlen hlen' hms hq3; rw [hnew]; simp [evsO_append, evsO_one, byteA]; clear hnew; (intro q; simp only [Store.upd, Store.del]; (repeat' split) <;> simp_all)
  · rintro e A' σ2 ⟨rfl, m, p, cap, rest, hm, hrow, hA, hσ⟩
    refine View.leL hA (View.sub hσ ?_)
    clear hA hσ
    have hmi := mine_len l m hm
    generalize mineOf l m = mine at *
    have hms := merge_size mine
    have hmm := merge_merge mine
    refine view_row (fun ho => (hrow ho)) (View.here ?_)
    simp
    refine callK.of (back_calls false mine _ (by omega)) ?_
    rintro v σ' ⟨rfl, rfl⟩
    simp
    refine callK.of (merge_calls false mine _ (by omega) (by omega)) ?_
    rintro v σ' ⟨rfl, rfl⟩
    simp
    refine callK.of (back_calls false _ _ (by omega)) ?_
    rintro v σ' ⟨rfl, rfl⟩
    simp
    refine callK.of (sameEv_calls true _ _ _ _ (by omega)) ?_
    rintro v σ' ⟨rfl, rfl⟩
    simp
    refine callK.of (merge_calls false _ _ (by omega) (by omega)) ?_
    rintro v σ' ⟨rfl, rfl⟩
    rw [hmm]
    simp
    refine callK.of (back_calls _ _ _ (by omega)) ?_
    rintro v σ' ⟨rfl, rfl⟩
    simp
    refine callK.of (sameEv_calls true _ _ _ _ (by omega)) ?_
    rintro v σ' ⟨rfl, rfl⟩
    simp
    refine callK.of (back_calls false mine _ (by omega)) ?_
    rintro v σ' ⟨rfl, rfl⟩
    simp
    refine callK.of (sameEv_calls true _ _ _ _ (by omega)) ?_
    rintro v σ' ⟨rfl, rfl⟩
    simp
    exact ⟨_, Store.sub_refl _⟩
end Go.Proofs.Ytkfhpnfgnjmdbaa
