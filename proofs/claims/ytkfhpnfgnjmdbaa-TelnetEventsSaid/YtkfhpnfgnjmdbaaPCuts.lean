/-
  The fixed questions; any two ways of cutting.
-/
import Derived.Test.YtkfhpnfgnjmdbaaPFeeds
namespace Go.Proofs.Ytkfhpnfgnjmdbaa
open Go Go.AL

theorem awake_one : Rd.init.fed [97, 255, 255, 98] = [dataEv [97, 255, 98]] := by decide +kernel
theorem awake_two : Rd.init.fed [255, 250, 24, 1, 255, 240] = [⟨3, 0, 24, [1], false, false⟩] := by decide +kernel

set_option maxRecDepth 4000 in
theorem awake_calls (σ : Store) : ACalls Try.prog 7 [] σ fun v σ' => v = .lit (.bool true) ∧ σ' = σ := by
  refine ACalls.of_awp follows (st := st7) (plans := pl7) (n := 48) Try.func7 rfl (by kernel_rfl) (by kernel_rfl) (by kernel_rfl) ?_
  simp
  refine callK.of (new_calls σ) ?_
  rintro v σ' ⟨o, ho, rfl, rfl⟩
  simp
  refine callK.of (feed_calls false o .init [97, 255, 255, 98] _ (by simp) (by decide) (by decide) (by decide) (by decide)) ?_
  rintro v σ' ⟨rfl, rfl⟩
  rw [awake_one]
  simp
  refine callK.of (new_calls _) ?_
  rintro v σ' ⟨o2, ho2, rfl, rfl⟩
  simp
  refine callK.le (args' := [ptrA o2, .list true 1 (bytesA [255, 250, 24, 1, 255, 240])]) ?_ (feed_calls true o2 .init [255, 250, 24, 1, 255, 240] _ (by simp) (by decide) (by decide) (by decide) (by decide)) ?_
  · simp [bytesA, byteA]
  rintro v σ' ⟨rfl, rfl⟩
  rw [awake_two]
  simp [evA, dataEv, byteA, bytesOf_bytesA, toList_mk]
  rw [supd_apply, ite_none] at ho2
  (intro q; simp only [Store.upd, Store.del]; (repeat' split) <;> simp_all)

/-! ### Any two ways of cutting -/
theorem merge_snoc (l : List Ev) (e : Ev) : merge (l ++ [e]) = mergeStep (merge l) e := by simp [merge]
theorem mergeStep_data (m : List Ev) (d k : List UInt8) (hd : d ≠ []) : mergeStep (mergeStep m (dataEv d)) (dataEv k) = mergeStep m (dataEv (d ++ k)) := by
  by_cases hk : k = []
  · subst hk
    have h0 : ∀ x, mergeStep x (dataEv []) = x := fun x => by simp [mergeStep, dataEv]
    rw [h0, List.append_nil]
  · have hdk : d ++ k ≠ [] := by simp [hd]
    cases hm : m.getLast? with
    | none =>
      have : m = [] := by simpa using hm
      subst this
      simp [mergeStep, dataEv, hd, hk]
    | some last =>
      by_cases hl : last.kind = 0
      · simp [mergeStep, dataEv, hd, hk, hm, hl]
      · simp [mergeStep, dataEv, hd, hk, hm, hl]

/-- What has been told, merged, if it were flushed now. -/
def Rd.told (r : Rd) : List Ev := merge r.flush.out
theorem told_flush (r : Rd) : r.flush.told = r.told := by simp [Rd.told, Rd.flush]
theorem told_of (r : Rd) : r.told = if r.data = [] then merge r.out else mergeStep (merge r.out) (dataEv r.data) := by
  simp only [Rd.told, Rd.flush]
  by_cases h : r.data = []
  · simp [h]
  · have : 0 < r.data.length := by cases hh : r.data with | nil => exact absurd hh h | cons => simp
    simp only [this, if_true, if_neg h]
    rw [← merge_snoc]; rfl
theorem told_data (r : Rd) (b : UInt8) (s : Int) : Rd.told { r with data := r.data ++ [b], state := s } = mergeStep r.told (dataEv [b]) := by
  rw [told_of, told_of r]
  show (if r.data ++ [b] = [] then merge r.out else mergeStep (merge r.out) (dataEv (r.data ++ [b]))) = _
  rw [if_neg (by simp)]
  by_cases h : r.data = []
  · rw [if_pos h, h]; rfl
  · rw [if_neg h, mergeStep_data _ _ _ h]
theorem told_tell (r : Rd) (e : Ev) : (r.tell e).told = mergeStep r.told e := by
  have h : (r.tell e).data = [] := rfl
  rw [told_of, if_pos h]
  show merge (r.flush.out ++ [e]) = _
  rw [merge_snoc]; rfl

structure Alike (r q : Rd) : Prop where
  told : r.told = q.told
  state : r.state = q.state
  verb : r.verb = q.verb
  opt : r.opt = q.opt
  sub : r.sub = q.sub
  long : r.long = q.long
theorem Alike.refl (r : Rd) : Alike r r := ⟨rfl, rfl, rfl, rfl, rfl, rfl⟩
theorem Alike.symm {r q : Rd} (h : Alike r q) : Alike q r := ⟨h.told.symm, h.state.symm, h.verb.symm, h.opt.symm, h.sub.symm, h.long.symm⟩
theorem Alike.trans {r q s : Rd} (h : Alike r q) (k : Alike q s) : Alike r s := ⟨h.told.trans k.told, h.state.trans k.state, h.verb.trans k.verb, h.opt.trans k.opt, h.sub.trans k.sub, h.long.trans k.long⟩
theorem Alike.flush (r : Rd) : Alike r.flush r := ⟨told_flush r, rfl, rfl, rfl, rfl, rfl⟩
theorem Alike.tell {r q : Rd} (h : Alike r q) (e : Ev) : Alike (r.tell e) (q.tell e) := ⟨by rw [told_tell, told_tell, h.told], rfl, h.verb, h.opt, h.sub, h.long⟩
theorem told_same (r : Rd) (s : Int) (v o : UInt8) (sb : List UInt8) (lg : Bool) : Rd.told ⟨s, v, o, r.data, sb, lg, r.out⟩ = r.told := rfl
theorem Alike.keep {r q : Rd} (h : Alike r q) (b : UInt8) : Alike (r.keep b) (q.keep b) := by
  simp only [Rd.keep, h.sub]
  split
  · exact ⟨h.told, rfl, h.verb, h.opt, rfl, rfl⟩
  · exact ⟨h.told, rfl, h.verb, h.opt, rfl, h.long⟩
theorem Alike.fin {r q : Rd} (h : Alike r q) (x : Bool) : Alike (r.fin x) (q.fin x) := by
  have := h.tell ⟨3, 0, r.opt, r.sub, r.long, x⟩
  simp only [Rd.fin]
  rw [← h.opt, ← h.sub, ← h.long]
  exact ⟨this.told, this.state, this.verb, this.opt, rfl, rfl⟩
theorem Alike.data {r q : Rd} (h : Alike r q) (b : UInt8) (s : Int) : Alike { r with data := r.data ++ [b], state := s } { q with data := q.data ++ [b], state := s } :=
  ⟨by rw [told_data, told_data, h.told], rfl, h.verb, h.opt, h.sub, h.long⟩
theorem Alike.command {r q : Rd} (h : Alike r q) (b : UInt8) : Alike (r.command b) (q.command b) := by
  simp only [Rd.command]
  split
  · exact h.data b 0
  · split
    · exact ⟨h.told, rfl, h.verb, h.opt, h.sub, h.long⟩
    · split
      · exact ⟨h.told, rfl, rfl, h.opt, h.sub, h.long⟩
      · exact h.tell _
theorem Alike.take {r q : Rd} (h : Alike r q) (b : UInt8) : Alike (r.take b) (q.take b) := by
  simp only [Rd.take]
  rw [← h.state, ← h.verb]
  split
  · exact h.command b
  · split
    · exact h.tell _
    · split
      · exact ⟨h.told, rfl, rfl, rfl, h.sub, h.long⟩
      · split
        · split
          · exact ⟨h.told, rfl, rfl, h.opt, h.sub, h.long⟩
          · exact h.keep b
        · split
          · split
            · exact h.keep b
            · split
              · exact h.fin false
              · exact (h.fin true).command b
          · split
            · exact ⟨h.told, rfl, rfl, h.opt, h.sub, h.long⟩
            · have := h.data b r.state
              exact ⟨this.told, rfl, rfl, h.opt, h.sub, h.long⟩
theorem Alike.feed {r q : Rd} (h : Alike r q) (p : List UInt8) : Alike (r.feed p) (q.feed p) := by
  induction p generalizing r q with
  | nil => exact h
  | cons b p ih => exact ih (h.take b)

/-- Ahead of what was told. -/
def Rd.pre (x : List Ev) (r : Rd) : Rd := { r with out := x ++ r.out }
theorem flush_pre (x : List Ev) (r : Rd) : (r.pre x).flush = r.flush.pre x := by
  by_cases h : 0 < r.data.length <;> simp only [Rd.pre, Rd.flush, h, if_true, if_false, List.append_assoc]
theorem tell_pre (x : List Ev) (r : Rd) (e : Ev) : (r.pre x).tell e = (r.tell e).pre x := by simp only [Rd.tell, flush_pre]; simp [Rd.pre]
theorem keep_pre (x : List Ev) (r : Rd) (b : UInt8) : (r.pre x).keep b = (r.keep b).pre x := by
  have : (r.pre x).sub = r.sub := rfl
  simp only [Rd.keep, this]; split <;> rfl
theorem fin_pre (x : List Ev) (r : Rd) (y : Bool) : (r.pre x).fin y = (r.fin y).pre x := by
  simp only [Rd.fin, tell_pre]; rfl
theorem command_pre (x : List Ev) (r : Rd) (b : UInt8) : (r.pre x).command b = (r.command b).pre x := by
  simp only [Rd.command, tell_pre]
  split
  · rfl
  · split
    · rfl
    · split <;> rfl
theorem take_pre (x : List Ev) (r : Rd) (b : UInt8) : (r.pre x).take b = (r.take b).pre x := by
  have h1 : (r.pre x).state = r.state := rfl
  have h2 : (r.pre x).verb = r.verb := rfl
  simp only [Rd.take, h1, h2, command_pre, tell_pre, keep_pre, fin_pre]
  split
  · rfl
  · split
    · rfl
    · split
      · rfl
      · split
        · split <;> rfl
        · split
          · split
            · rfl
            · split <;> rfl
          · split <;> rfl
theorem feed_pre (x : List Ev) (r : Rd) (p : List UInt8) : (r.pre x).feed p = (r.feed p).pre x := by
  induction p generalizing r with
  | nil => rfl
  | cons b p ih => simp only [Rd.feed, List.foldl_cons, take_pre] at *; exact ih _
theorem feed_feed (r : Rd) (p q : List UInt8) : (r.feed p).feed q = r.feed (p ++ q) := by simp [Rd.feed]

/-- The reader with all that was told. -/
def St.whole (s : St) : Rd := s.r.pre s.out
theorem St.cut_whole (s : St) (c : UInt8) (ho : s.r.out = []) : (s.cut c).whole = (s.whole.feed (s.p.take (min c.toNat s.p.length))).flush := by
  simp only [St.whole, St.cut, feed_pre, flush_pre]
  simp [Rd.pre, Rd.after, Rd.fed]
theorem whole_alike (p cuts : List UInt8) : Alike (((St.start p).cuts cuts).whole.feed ((St.start p).cuts cuts).p) (Rd.init.feed p) := by
  have key : ∀ (cuts : List UInt8) (s : St), s.ok p.length → Alike (s.whole.feed s.p) (Rd.init.feed p) → Alike ((s.cuts cuts).whole.feed (s.cuts cuts).p) (Rd.init.feed p) := by
    intro cuts
    induction cuts with
    | nil => intro s _ h; exact h
    | cons c cuts ih =>
      intro s hs h
      refine ih (s.cut c) (St.cut_ok hs c) ?_
      rw [St.cut_whole s c hs.1]
      have h1 := (Alike.flush (s.whole.feed (s.p.take (min c.toNat s.p.length)))).feed (s.cut c).p
      refine h1.trans ?_
      rw [feed_feed]
      have : s.p.take (min c.toNat s.p.length) ++ (s.cut c).p = s.p := by simp [St.cut]
      rw [this]; exact h
  exact key cuts (St.start p) (St.start_ok p) (by simp [St.whole, St.start, Rd.pre]; exact Alike.refl _)
/-- What is told, merged, hangs on the stream alone. -/
theorem merge_fedAll (p cuts : List UInt8) : merge (fedAll p cuts) = (Rd.init.feed p).told ∧ (endAll p cuts).state = (Rd.init.feed p).state := by
  have h := whole_alike p cuts
  have hok := St.cuts_ok (St.start_ok p) cuts
  refine ⟨?_, ?_⟩
  · rw [← h.told]
    simp only [fedAll, Rd.told, St.whole, feed_pre, flush_pre]
    rfl
  · rw [← h.state]
    simp only [endAll, Rd.after, St.whole, feed_pre]
    rfl

theorem cuts_law (p one two : List UInt8) (h1 : one.length ≤ 9223372036854775807) (h2 : two.length ≤ 9223372036854775807) :
    ACalls Try.prog 6 [.list false 1 (bytesA p), .list false 1 (bytesA one), .list false 1 (bytesA two)] (fun _ => none) fun v _ => v = .lit (.bool true) := by
  refine ACalls.of_awp follows (st := st6) (plans := pl6) (n := 37) Try.func6 rfl (by kernel_rfl) (by kernel_rfl) (by kernel_rfl) ?_
  simp
  refine callK.of (awake_calls _) ?_
  rintro v σ' ⟨rfl, rfl⟩
  simp
  refine callK.of (cut_calls false p 1500 _ (by omega)) ?_
  rintro v σ' ⟨rfl, rfl⟩
  have hp : (p.take 1500).length ≤ 10000 := by simp; omega
  simp
  refine callK.of (feeds_calls false false (p.take 1500) one _ hp h1) ?_
  rintro v σ' ⟨rfl, rfl⟩
  simp
  refine callK.of (feeds_calls false false (p.take 1500) two _ hp h2) ?_
  rintro v σ' ⟨rfl, rfl⟩
  simp
  have hm1 := merge_fedAll (p.take 1500) one
  have hm2 := merge_fedAll (p.take 1500) two
  rw [hm1.1, hm1.2, hm2.1, hm2.2]
  have hl : (Rd.init.feed (p.take 1500)).told.length ≤ 1000000 := by
    rw [← hm1.1]
    have q1 := merge_size (fedAll (p.take 1500) one)
    have q2 := St.cuts_ok (St.start_ok (p.take 1500)) one
    have q3 := fed_size _ ((St.start (p.take 1500)).cuts one).p q2.1 q2.2.1
    have q4 := q2.2.2.1
    have q5 : (fedAll (p.take 1500) one).length ≤ 100000 := by simp only [fedAll, List.length_append]; omega
    omega
  generalize (Rd.init.feed (p.take 1500)).told = m at *
  refine callK.of (back_calls false m _ hl) ?_
  rintro v σ' ⟨rfl, rfl⟩
  simp
  refine callK.of (back_calls false m _ hl) ?_
  rintro v σ' ⟨rfl, rfl⟩
  simp
  refine callK.of (sameEv_calls true true m m _ hl) ?_
  rintro v σ' ⟨rfl, rfl⟩
  simp
  exact ⟨_, Store.sub_refl _⟩
end Go.Proofs.Ytkfhpnfgnjmdbaa
