/-
  The fixed questions; any two ways of cutting.
-/
import Derived.Test.YteaidaolablegaaGreatDoorSPart10
set_option linter.unusedSimpArgs false
set_option linter.unusedVariables false
namespace Go.Proofs.YteaidaolablegaaGreatDoor
open Go Go.AL

/-! ### Any two ways of cutting -/
theorem merge_snoc (l : List Ev) (e : Ev) : merge (l ++ [e]) = mergeStep (merge l) e := by simp [merge]
theorem mergeStep_data (m : List Ev) (d k : List UInt8) (hd : d ≠ []) : mergeStep (mergeStep m (dataEv d)) (dataEv k) = mergeStep m (dataEv (d ++ k)) := by
  by_cases hk : k = []
  · subst hk
    have h0 : ∀ x, mergeStep x (dataEv []) = x := fun x => by simp [mergeStep, dataEv]
    rw [h0, List.append_nil]
  · have hdk : d ++ k ≠ [] := by simp [hd]
    cases hm : m.getLast? with
    | none =>
      have : m = [] := by simpa using hm
      subst this
      simp [mergeStep, dataEv, hd, hk]
    | some last =>
      by_cases hl : last.kind = 0
      · simp [mergeStep, dataEv, hd, hk, hm, hl]
      · simp [mergeStep, dataEv, hd, hk, hm, hl]

/-- What has been told, merged, if it were flushed now. -/
def Rd.told (r : Rd) : List Ev := merge r.flush.out
theorem told_flush (r : Rd) : r.flush.told = r.told := by simp [Rd.told, Rd.flush]
theorem told_of (r : Rd) : r.told = if r.data = [] then merge r.out else mergeStep (merge r.out) (dataEv r.data) := by
  simp only [Rd.told, Rd.flush]
  by_cases h : r.data = []
  · simp [h]
  · have : 0 < r.data.length := by cases hh : r.data with | nil => exact absurd hh h | cons => simp
    simp only [this, if_true, if_neg h]
    rw [← merge_snoc]; rfl
theorem told_data (r : Rd) (b : UInt8) (s : Int) : Rd.told { r with data := r.data ++ [b], state := s } = mergeStep r.told (dataEv [b]) := by
  rw [told_of, told_of r]
  show (if r.data ++ [b] = [] then merge r.out else mergeStep (merge r.out) (dataEv (r.data ++ [b]))) = _
  rw [if_neg (by simp)]
  by_cases h : r.data = []
  · rw [if_pos h, h]; rfl
  · rw [if_neg h, mergeStep_data _ _ _ h]
theorem told_tell (r : Rd) (e : Ev) : (r.tell e).told = mergeStep r.told e := by
  have h : (r.tell e).data = [] := rfl
  rw [told_of, if_pos h]
  show merge (r.flush.out ++ [e]) = _
  rw [merge_snoc]; rfl

structure Alike (r q : Rd) : Prop where
  told : r.told = q.told
  state : r.state = q.state
  verb : r.verb = q.verb
  opt : r.opt = q.opt
  sub : r.sub = q.sub
  long : r.long = q.long
theorem Alike.refl (r : Rd) : Alike r r := ⟨rfl, rfl, rfl, rfl, rfl, rfl⟩
theorem Alike.symm {r q : Rd} (h : Alike r q) : Alike q r := ⟨h.told.symm, h.state.symm, h.verb.symm, h.opt.symm, h.sub.symm, h.long.symm⟩
theorem Alike.trans {r q s : Rd} (h : Alike r q) (k : Alike q s) : Alike r s := ⟨h.told.trans k.told, h.state.trans k.state, h.verb.trans k.verb, h.opt.trans k.opt, h.sub.trans k.sub, h.long.trans k.long⟩
theorem Alike.flush (r : Rd) : Alike r.flush r := ⟨told_flush r, rfl, rfl, rfl, rfl, rfl⟩
theorem Alike.tell {r q : Rd} (h : Alike r q) (e : Ev) : Alike (r.tell e) (q.tell e) := ⟨by rw [told_tell, told_tell, h.told], rfl, h.verb, h.opt, h.sub, h.long⟩
theorem Alike.keep {r q : Rd} (h : Alike r q) (b : UInt8) : Alike (r.keep b) (q.keep b) := by
  simp only [Rd.keep, h.sub]
  split
  · exact ⟨h.told, rfl, h.verb, h.opt, rfl, rfl⟩
  · exact ⟨h.told, rfl, h.verb, h.opt, rfl, h.long⟩
theorem Alike.fin {r q : Rd} (h : Alike r q) (x : Bool) : Alike (r.fin x) (q.fin x) := by
  have := h.tell ⟨3, 0, r.opt, r.sub, r.long, x⟩
  simp only [Rd.fin]
  rw [← h.opt, ← h.sub, ← h.long]
  exact ⟨this.told, this.state, this.verb, this.opt, rfl, rfl⟩
theorem Alike.data {r q : Rd} (h : Alike r q) (b : UInt8) (s : Int) : Alike { r with data := r.data ++ [b], state := s } { q with data := q.data ++ [b], state := s } :=
  ⟨by rw [told_data, told_data, h.told], rfl, h.verb, h.opt, h.sub, h.long⟩
theorem Alike.command {r q : Rd} (h : Alike r q) (b : UInt8) : Alike (r.command b) (q.command b) := by
  simp only [Rd.command]
  split
  · exact h.data b 0
  · split
    · exact ⟨h.told, rfl, h.verb, h.opt, h.sub, h.long⟩
    · split
      · exact ⟨h.told, rfl, rfl, h.opt, h.sub, h.long⟩
      · exact h.tell _
theorem Alike.take {r q : Rd} (h : Alike r q) (b : UInt8) : Alike (r.take b) (q.take b) := by
  simp only [Rd.take]
  rw [← h.state, ← h.verb]
  split
  · exact h.command b
  · split
    · exact h.tell _
    · split
      · exact ⟨h.told, rfl, rfl, rfl, h.sub, h.long⟩
      · split
        · split
          · exact ⟨h.told, rfl, rfl, h.opt, h.sub, h.long⟩
          · exact h.keep b
        · split
          · split
            · exact h.keep b
            · split
              · exact h.fin false
              · exact (h.fin true).command b
          · split
            · exact ⟨h.told, rfl, rfl, h.opt, h.sub, h.long⟩
            · have := h.data b r.state
              exact ⟨this.told, rfl, rfl, h.opt, h.sub, h.long⟩
theorem Alike.feed {r q : Rd} (h : Alike r q) (p : List UInt8) : Alike (r.feed p) (q.feed p) := by
  induction p generalizing r q with
  | nil => exact h
  | cons b p ih => exact ih (h.take b)

/-- Ahead of what was told. -/
def Rd.pre (x : List Ev) (r : Rd) : Rd := { r with out := x ++ r.out }
/-- The reader with all that was told. -/
def St.whole (s : St) : Rd := s.r.pre s.out
end Go.Proofs.YteaidaolablegaaGreatDoor
/-
  The reference: an event behind others.
-/
namespace Go.Proofs.YteaidaolablegaaGreatDoor
open Go Go.AL

def addEv (l : List Ev) (e : Ev) : List Ev :=
  if e.kind = 0 then match l.getLast? with
    | some last => if last.kind = 0 then l.dropLast ++ [dataEv (last.data ++ e.data)] else l ++ [e]
    | none => l ++ [e]
  else l ++ [e]

set_option maxHeartbeats 1000000 in
set_option maxRecDepth 4000 in
theorem add_calls (l : List Ev) (e : Ev) (σ : Store) (hl : l.length ≤ 1000000) (hb : bytesIn l ≤ 1000000) (he : e.data.length ≤ 1000000) :
    ACalls Tryz.prog 85 [.list true 6 (evsA l), evA e] σ fun v σ' => v = .list true 6 (evsA (addEv l e)) ∧ σ' = σ := by
  refine ACalls.of_awp follows (st := st85) (plans := pl85) (n := 49) Tryz.func85 rfl (by kernel_rfl) (by kernel_rfl) (by kernel_rfl) ?_
  rcases List.eq_nil_or_concat l with ho | ⟨init, last, ho⟩
  · subst ho
    by_cases hk : e.kind = 0
    · simp [evA, byteA, evsA, hk]
      intro p hp
      exact ⟨by simp [addEv, hk, evA, byteA], by (intro q; simp only [Store.upd, Store.del]; (repeat' split) <;> simp_all)⟩
    · simp [evA, byteA, evsA, hk]
      intro p hp
      exact ⟨by simp [addEv, hk, evA, byteA], by (intro q; simp only [Store.upd, Store.del]; (repeat' split) <;> simp_all)⟩
  · have ho' : l = init ++ [last] := by rw [ho]; simp
    have hlen : l.length = init.length + 1 := by rw [ho]; simp
    have hn1 : IntKind.i64.wrap ((l.length : Int) - 1) = (init.length : Int) := by rw [hlen, wrap_i64 (by omega) (by omega)]; omega
    have hlast : l.getLast? = some last := by rw [ho]; simp
    have hgl : (evsA l)[init.length]? = some (evA last) := by rw [ho']; simp [evsA]
    have hil : init.length < l.length := by omega
    have hli : l[init.length] = last := by simp [ho']
    have hpos : 0 < l.length := by omega
    have hti : (evsA l).take init.length = evsA init := by rw [ho']; simp [evsA]
    have hld : last.data.length ≤ 1000000 := by
      have := bytesIn_le (l := l) (e := last) (by rw [ho']; simp)
      omega
    by_cases hk : e.kind = 0
    · by_cases hk2 : last.kind = 0
      · simp [evA, byteA, hk, hn1, hgl, hil, hpos, hk2, hti, hli]
        intro p hp
        have hadd : addEv l e = init ++ [dataEv (last.data ++ e.data)] := by simp [addEv, hk, hlast, hk2, ho]
        have hini : init.length < 1000000 := by omega
        have hle : init.length ≤ l.length := by omega
        repeat' apply And.intro
        all_goals repeat' (first
          | (intro q hq; rw [ite_none] at hq; obtain ⟨n1, n2⟩ := hq; have n3 := Ne.symm n1; try simp [n1, n3, hk, hn1, hgl, hil, hpos, hk2, hle, hti, hli])
          | (refine callK.of (copy_calls false last.data _ (by omega)) ?_; rintro v σ' ⟨rfl, rfl⟩; first | simp [n1, n3, hk, hn1, hil, hle, hli, hti] | simp [hk, hn1, hil, hle, hli, hti])
          | apply And.intro
          | omega
          | (rw [hadd, evsA_append]; simp [evsA, evA, dataEv, byteA, bytesA_append]; done)
          | (intro q; simp only [Store.upd, Store.del]; (repeat' split) <;> simp_all))
      · simp [evA, byteA, hk, hn1, hgl, hil, hpos, hk2, hti, hli]
        intro p hp
        refine ⟨by omega, by omega, ?_, by (intro q; simp only [Store.upd, Store.del]; (repeat' split) <;> simp_all)⟩
        have hadd : addEv l e = l ++ [e] := by simp [addEv, hk, hlast, hk2]
        rw [hadd, evsA_append]; simp [evsA, evA, byteA, hk]
    · simp [evA, byteA, hk]
      intro p hp
      refine ⟨by omega, by omega, ?_, by (intro q; simp only [Store.upd, Store.del]; (repeat' split) <;> simp_all)⟩
      have hadd : addEv l e = l ++ [e] := by simp [addEv, hk]
      rw [hadd, evsA_append]; simp [evsA, evA, byteA]
end Go.Proofs.YteaidaolablegaaGreatDoor
/-
  The reference: a subnegotiation.
-/
namespace Go.Proofs.YteaidaolablegaaGreatDoor
open Go Go.AL

/-- What has come of a subnegotiation. -/
def subRd (R : Rd) (o : UInt8) (all : List UInt8) : Rd := { R with opt := o, state := 4, sub := all.take 256, long := decide (256 < all.length) }
theorem subRd_keep (R : Rd) (o : UInt8) (all : List UInt8) (b : UInt8) (s : Int) : ({ subRd R o all with state := s } : Rd).keep b = subRd R o (all ++ [b]) := by
  simp only [Rd.keep, subRd, List.length_take, List.length_append, List.length_singleton]
  by_cases h : 256 ≤ all.length
  · rw [if_pos (by omega)]
    simp only [Rd.mk.injEq, true_and, and_true]
    exact ⟨by rw [List.take_append_of_le_length h], by simp; omega⟩
  · rw [if_neg (by omega)]
    simp only [Rd.mk.injEq, true_and, and_true]
    exact ⟨by rw [List.take_of_length_le (by omega), List.take_of_length_le (by simp; omega)], by simp; omega⟩
theorem command_state (r : Rd) (s : Int) (b : UInt8) : ({ r with state := s } : Rd).command b = r.command b := by
  simp only [Rd.command]
  split
  · rfl
  · split
    · rfl
    · split
      · rfl
      · simp [Rd.tell, Rd.flush]
theorem feed_cons (r : Rd) (b : UInt8) (p : List UInt8) : r.feed (b :: p) = (r.take b).feed p := rfl
theorem drop_cons (p : List UInt8) (i : Nat) (h : i < p.length) : p.drop i = p[i] :: p.drop (i + 1) := List.drop_eq_getElem_cons h

/-- What the reference says of a subnegotiation, and what the reader does there. -/
def SubSays (p : List UInt8) (i : Nat) (R : Rd) (e : Ev) (n : Int) : Prop :=
  (n = -1 ∧ (R.feed (p.drop i)).state ≠ 0 ∧ (R.feed (p.drop i)).told = R.told) ∨
  (∃ next : Nat, ∃ V : Rd, n = next ∧ i < next ∧ next ≤ p.length ∧ e.kind = 3 ∧ e.data.length + i ≤ next ∧ V.state = 0 ∧ V.sub = [] ∧ V.long = false ∧ V.told = mergeStep R.told e ∧ V.feed (p.drop next) = R.feed (p.drop i))

theorem subRd_start (R : Rd) (hs : R.state = 3) (hsub : R.sub = []) (hlong : R.long = false) (b : UInt8) : R.take b = subRd R b [] := by
  simp [Rd.take, hs, subRd, hsub, hlong]
theorem subRd_esc (R : Rd) (o : UInt8) (all : List UInt8) (b : UInt8) (h : (b.toNat : Int) = 255) : (subRd R o all).take b = { subRd R o all with state := 5 } := by
  simp [Rd.take, subRd, h]
theorem subRd_take (R : Rd) (o : UInt8) (all : List UInt8) (b : UInt8) (h : (b.toNat : Int) ≠ 255) : (subRd R o all).take b = subRd R o (all ++ [b]) := by
  rw [← subRd_keep R o all b 4]
  simp [Rd.take, subRd, h]
theorem subRd_two (R : Rd) (o : UInt8) (all : List UInt8) (b : UInt8) (h : (b.toNat : Int) = 255) : ({ subRd R o all with state := 5 } : Rd).take b = subRd R o (all ++ [b]) := by
  rw [← subRd_keep R o all b 5]
  simp [Rd.take, h]
theorem subRd_end (R : Rd) (o : UInt8) (all : List UInt8) (b : UInt8) (h : (b.toNat : Int) = 240) : ({ subRd R o all with state := 5 } : Rd).take b = (subRd R o all).fin false := by
  simp [Rd.take, h, Rd.fin, Rd.tell, Rd.flush, subRd]
theorem subRd_broken (R : Rd) (o : UInt8) (all : List UInt8) (b : UInt8) (h : (b.toNat : Int) ≠ 240) (h' : (b.toNat : Int) ≠ 255) : ({ subRd R o all with state := 5 } : Rd).take b = ((subRd R o all).fin true).command b := by
  simp [Rd.take, h, h', Rd.fin, Rd.tell, Rd.flush, subRd]
theorem fin_told (R : Rd) (o : UInt8) (all : List UInt8) (x : Bool) : ((subRd R o all).fin x).told = mergeStep R.told ⟨3, 0, o, all.take 256, decide (256 < all.length), x⟩ := by
  show ((subRd R o all).tell ⟨3, 0, o, all.take 256, decide (256 < all.length), x⟩).told = _
  rw [told_tell]; rfl
theorem take_esc (r : Rd) (b : UInt8) (hs : r.state = 0) (h : (b.toNat : Int) = 255) : r.take b = { r with state := 1 } := by simp [Rd.take, hs, h]
theorem take_one (r : Rd) (b : UInt8) : ({ r with state := 1 } : Rd).take b = r.command b := by
  rw [← command_state r 1 b]; simp [Rd.take]

set_option maxHeartbeats 1000000 in
set_option maxRecDepth 4000 in
theorem sub_calls (a : Bool) (p : List UInt8) (i : Nat) (R : Rd) (hs : R.state = 3) (hsub : R.sub = []) (hlong : R.long = false) (σ : Store) (hp : p.length ≤ 1000000) (hi : i ≤ p.length) :
    ACalls Tryz.prog 86 [.list a 1 (bytesA p), .lit (.int .i64 i)] σ fun v σ' => (∃ e n, v = .tuple [evA e, .lit (.int .i64 n)] ∧ SubSays p i R e n) ∧ σ' = σ := by
  refine ACalls.of_awp follows (st := st86) (plans := pl86) (n := 75) Tryz.func86 rfl (by kernel_rfl) (by kernel_rfl) (by kernel_rfl) ?_
  by_cases hlt : i < p.length
  case neg =>
    have hd : p.drop i = [] := List.drop_of_length_le (by omega)
    have hz : SubSays p i R ⟨0, 0, 0, [], false, false⟩ (-1) := .inl ⟨rfl, by rw [hd]; simp [Rd.feed, hs], by rw [hd]; rfl⟩
    simp [show ¬ i < p.length from hlt, show p.length ≤ i by omega]
    exact fun q hq => ⟨.tuple [evA ⟨0, 0, 0, [], false, false⟩, .lit (.int .i64 (-1))], by simp [evA, byteA, bytesA], by (intro q; simp only [Store.upd, Store.del]; (repeat' split) <;> simp_all), _, _, rfl, hz⟩
  simp [hlt, show ¬ p.length ≤ i by omega, byteA]
  intro q4 h4 q6 h6
  rw [ite_none] at h6
  obtain ⟨n1, h6⟩ := h6
  have n2 := Ne.symm n1
  have hw1 : IntKind.i64.wrap ((i : Int) + 1) = ((i + 1 : Nat) : Int) := by rw [wrap_i64 (by omega) (by omega)]; omega
  rw [hw1]
  refine codeK.loop follows (st := st86) (plans := pl86) (X := Nat × List UInt8) (fun x => i < x.1 ∧ x.1 ≤ p.length ∧ x.2.length + i + 1 ≤ x.1 ∧ R.feed (p.drop i) = (subRd R p[i] x.2).feed (p.drop x.1))
    (fun x => [(0, .list false 1 (bytesA p)), (1, .lit (.int .i64 x.1)), (4, ptrA q4), (6, ptrA q6), (7, .list true 1 (bytesA x.2))])
    (fun _ => (σ.upd q4 [.lit (.int .i64 0), .lit (.int .u8 0), .lit (.int .u8 0), .list true 1 [], .lit (.bool false), .lit (.bool false)]).upd q6 [.lit (.int .i64 3), .lit (.int .u8 0), .lit (.int .u8 p[i].toNat), .list true 1 [], .lit (.bool false), .lit (.bool false)])
    (fun x => p.length - x.1) (i + 1, []) (by kernel_rfl) ⟨by simp, by simp; omega, by simp, by rw [drop_cons p i hlt, feed_cons, subRd_start R hs hsub hlong]⟩ (by simp [bytesA]) (Store.sub_refl _) fun x hx => ?_
  obtain ⟨j, all⟩ := x
  obtain ⟨h1, h2, h3, h4'⟩ := hx
  dsimp only at h1 h2 h3 h4' ⊢
  have hz : (R.feed (p.drop i)).state ≠ 0 → (R.feed (p.drop i)).told = R.told → SubSays p i R ⟨0, 0, 0, [], false, false⟩ (-1) := fun a b => .inl ⟨rfl, a, b⟩
  have hw2 : IntKind.i64.wrap ((j : Int) + 1) = ((j + 1 : Nat) : Int) := by rw [wrap_i64 (by omega) (by omega)]; omega
  by_cases hj : j < p.length
  case neg =>
    have hd : p.drop j = [] := List.drop_of_length_le (by omega)
    have hz' := hz (by rw [h4', hd]; simp [Rd.feed, subRd]) (by rw [h4', hd]; rfl)
    simp [hj, n1, n2]
    exact ⟨.tuple [evA ⟨0, 0, 0, [], false, false⟩, .lit (.int .i64 (-1))], by simp [evA, byteA, bytesA], by (intro q; simp only [Store.upd, Store.del]; (repeat' split) <;> simp_all), _, _, rfl, hz'⟩
  have hf := drop_cons p j hj
  by_cases hb : (p[j].toNat : Int) = 255
  case neg =>
    simp [hj, n1, n2, hb, byteA, hw2]
    exact ⟨by omega, by omega, j + 1, all ++ [p[j]], ⟨by omega, by omega, by simp; omega, by rw [h4', hf, feed_cons, subRd_take _ _ _ _ hb]⟩, by omega, by simp, by simp [bytesA, byteA]⟩
  have z0 : (0 : Int) ≤ (j : Int) + 1 := by omega
  by_cases hj1 : j + 1 < p.length
  case neg =>
    have z1 : (p.length : Int) ≤ (j : Int) + 1 := by omega
    have hd : p.drop (j + 1) = [] := List.drop_of_length_le (by omega)
    have hz' := hz (by rw [h4', hf, feed_cons, subRd_esc _ _ _ _ hb, hd]; simp [Rd.feed]) (by rw [h4', hf, feed_cons, subRd_esc _ _ _ _ hb, hd]; rfl)
    simp [hj, n1, n2, hb, byteA, hw2, z1]
    exact ⟨.tuple [evA ⟨0, 0, 0, [], false, false⟩, .lit (.int .i64 (-1))], by simp [evA, byteA, bytesA], by (intro q; simp only [Store.upd, Store.del]; (repeat' split) <;> simp_all), _, _, rfl, hz'⟩
  have z1 : ¬ (p.length : Int) ≤ (j : Int) + 1 := by omega
  have hf2 := drop_cons p (j + 1) hj1
  have hg : (bytesA p)[j + 1]? = some (byteA p[j + 1]) := by rw [bytesA_get, List.getElem?_eq_getElem hj1]; rfl
  have hw3 : IntKind.i64.wrap ((j : Int) + 1 + 1) = (j : Int) + 2 := by rw [wrap_i64 (by omega) (by omega)]; omega
  have hw4 : IntKind.i64.wrap ((j : Int) + 2) = (j : Int) + 2 := by rw [wrap_i64 (by omega) (by omega)]
  by_cases hb2 : (p[j+1].toNat : Int) = 255
  · simp [hj, n1, n2, hb, byteA, hw2, z1, z0, hg, hb2, hw3]
    refine ⟨by omega, by omega, j + 2, all ++ [p[j+1]], ⟨by omega, by omega, by simp; omega, by rw [h4', hf, feed_cons, subRd_esc _ _ _ _ hb, hf2, feed_cons, subRd_two _ _ _ _ hb2]⟩, by omega, by simp, by simp [bytesA, byteA, hb2]⟩
  have hlen : all.length ≤ 1000000 := by omega
  have h256 : decide ((256 : Int) < (all.length : Int)) = decide (256 < all.length) := by rw [decide_eq_decide]; omega
  by_cases hb3 : (p[j+1].toNat : Int) = 240
  · simp [hj, n1, n2, hb, byteA, hw2, z1, z0, hg, hb2, hw3, hb3]
    refine callK.of (cut_calls false all 256 _ (by omega)) ?_
    rintro v σ' ⟨rfl, rfl⟩
    simp [hj, n1, n2, hb, byteA, hw2, z1, z0, hg, hb2, hw3, hb3, hw4]
    refine ⟨.tuple [evA ⟨3, 0, p[i], all.take 256, decide (256 < all.length), false⟩, .lit (.int .i64 ((j + 2 : Nat) : Int))], by rw [h256]; simp only [evA, byteA]; exact AV.le_refl _, Store.sub_upd h4 (Store.sub_upd h6 (Store.sub_upd h4 (Store.sub_refl _))), _, _, rfl, .inr ⟨j + 2, (subRd R p[i] all).fin false, rfl, by omega, by omega, rfl, by simp; omega, rfl, rfl, rfl, fin_told .., ?_⟩⟩
    rw [h4', hf, feed_cons, subRd_esc _ _ _ _ hb, hf2, feed_cons, subRd_end _ _ _ _ hb3]
  · simp [hj, n1, n2, hb, byteA, hw2, z1, z0, hg, hb2, hw3, hb3]
    refine callK.of (cut_calls false all 256 _ (by omega)) ?_
    rintro v σ' ⟨rfl, rfl⟩
    simp [hj, n1, n2, hb, byteA, hw2, z1, z0, hg, hb2, hw3, hb3, hw4]
    refine ⟨.tuple [evA ⟨3, 0, p[i], all.take 256, decide (256 < all.length), true⟩, .lit (.int .i64 (j : Int))], by rw [h256]; simp only [evA, byteA]; exact AV.le_refl _, Store.sub_upd h4 (Store.sub_upd h6 (Store.sub_upd h4 (Store.sub_refl _))), _, _, rfl, .inr ⟨j, (subRd R p[i] all).fin true, rfl, by omega, by omega, rfl, by simp; omega, rfl, rfl, rfl, fin_told .., ?_⟩⟩
    rw [h4', hf, feed_cons, feed_cons, subRd_esc _ _ _ _ hb, hf2, feed_cons, feed_cons, subRd_broken _ _ _ _ hb3 hb2, take_esc _ _ rfl hb, take_one]
end Go.Proofs.YteaidaolablegaaGreatDoor
/-
  The reference: a whole stream.
-/
namespace Go.Proofs.YteaidaolablegaaGreatDoor
open Go Go.AL

/-- Data that stand there are nothing but data. -/
def Clean (l : List Ev) : Prop := ∀ x ∈ l, x.kind = 0 → x = dataEv x.data
theorem addEv_eq (l : List Ev) (e : Ev) (hl : Clean l) (he : e.kind = 0 → e = dataEv e.data ∧ e.data ≠ []) : addEv l e = mergeStep l e := by
  unfold addEv mergeStep
  by_cases hk : e.kind = 0
  · obtain ⟨h1, h2⟩ := he hk
    rw [if_pos hk, if_neg (by simp [hk]), if_neg h2]
    cases hm : l.getLast? with
    | none =>
      have : l = [] := by simpa using hm
      subst this
      simp [← h1]
    | some last =>
      by_cases hk2 : last.kind = 0
      · have := hl last (List.mem_of_getLast? hm) hk2
        simp only [hk2, if_true]
        rw [this]; rfl
      · simp only [hk2, if_false]; rw [← h1]
  · simp [hk]
theorem mergeStep_clean (l : List Ev) (e : Ev) (hl : Clean l) (he : e.kind = 0 → e = dataEv e.data) : Clean (mergeStep l e) := by
  unfold mergeStep
  split
  · intro x hx; rcases List.mem_append.1 hx with h | h
    · exact hl x h
    · rw [List.mem_singleton.1 h]; exact he
  · split
    · exact hl
    · split
      · rename_i last hm
        split
        · rename_i hk
          intro x hx hk'
          rcases List.mem_append.1 hx with h | h
          · exact hl x (List.dropLast_subset _ h) hk'
          · have := hl last (List.mem_of_getLast? hm) hk
            rw [List.mem_singleton.1 h]
            rw [this]; rfl
        · intro x hx; rcases List.mem_append.1 hx with h | h
          · exact hl x h
          · rw [List.mem_singleton.1 h]; intro _; rfl
      · intro x hx; rw [List.mem_singleton.1 hx]; intro _; rfl
theorem add_merge (a : Bool) (l : List Ev) (e : Ev) (σ : Store) (hl : l.length ≤ 1000000) (hb : bytesIn l ≤ 1000000) (he : e.data.length ≤ 1000000) (hc : Clean l) (hd : e.kind = 0 → e = dataEv e.data ∧ e.data ≠ []) :
    ACalls Tryz.prog 85 [.list true 6 (evsA l), evA e] σ fun v σ' => v = .list true 6 (evsA (mergeStep l e)) ∧ σ' = σ := by
  rw [← addEv_eq l e hc hd]; exact add_calls l e σ hl hb he
theorem told_command_data (V : Rd) (b : UInt8) (h : (b.toNat : Int) = 255) : (V.command b).told = mergeStep V.told (dataEv [b]) ∧ (V.command b).state = 0 ∧ (V.command b).sub = V.sub ∧ (V.command b).long = V.long := by
  simp only [Rd.command, h, if_true]
  exact ⟨told_data V b 0, trivial, trivial, trivial⟩
theorem take_data (V : Rd) (b : UInt8) (hs : V.state = 0) (h : (b.toNat : Int) ≠ 255) : V.take b = { V with data := V.data ++ [b], state := 0 } := by
  simp [Rd.take, hs, h]
theorem command_sub (V : Rd) (b : UInt8) (h : (b.toNat : Int) = 250) : V.command b = { V with state := 3 } := by simp [Rd.command, h]
theorem command_verb (V : Rd) (b : UInt8) (h1 : (b.toNat : Int) ≠ 255) (h2 : (b.toNat : Int) ≠ 250) (h3 : 251 ≤ (b.toNat : Int) ∧ (b.toNat : Int) ≤ 254) : V.command b = { V with verb := b, state := 2 } := by simp [Rd.command, h1, h2, h3]
theorem command_tell (V : Rd) (b : UInt8) (h1 : (b.toNat : Int) ≠ 255) (h2 : (b.toNat : Int) ≠ 250) (h3 : ¬ (251 ≤ (b.toNat : Int) ∧ (b.toNat : Int) ≤ 254)) : V.command b = V.tell ⟨1, b, 0, [], false, false⟩ := by simp [Rd.command, h1, h2, h3]

/-- How far the reference is. -/
def TakeInv (p : List UInt8) (x : Nat × Rd) : Prop :=
  x.1 ≤ p.length ∧ Clean x.2.told ∧ x.2.told.length ≤ x.1 ∧ bytesIn x.2.told ≤ x.1 ∧ x.2.state = 0 ∧ x.2.sub = [] ∧ x.2.long = false ∧ x.2.feed (p.drop x.1) = Rd.init.feed p

theorem TakeInv.step {p : List UInt8} {i j : Nat} {V W : Rd} (h : TakeInv p (i, V)) (e : Ev) (hj : i < j) (hjp : j ≤ p.length) (he : e.kind = 0 → e = dataEv e.data) (hd : e.data.length + i ≤ j) (ht : W.told = mergeStep V.told e) (hs : W.state = 0) (hsub : W.sub = []) (hl : W.long = false) (hf : W.feed (p.drop j) = V.feed (p.drop i)) : TakeInv p (j, W) := by
  obtain ⟨h1, h2, h3, h4, h5, h6, h7, h8⟩ := h
  have := mergeStep_size V.told e
  dsimp only at *
  refine ⟨hjp, ?_, ?_, ?_, hs, hsub, hl, by rw [hf, h8]⟩
  · show Clean W.told
    rw [ht]; exact mergeStep_clean _ _ h2 he
  · show W.told.length ≤ j
    rw [ht]; omega
  · show bytesIn W.told ≤ j
    rw [ht]; omega

def TakeOut (p : List UInt8) (v : AV) : Prop := ∃ n : Nat, v = .tuple [.list true 6 (evsA (Rd.init.feed p).told), .lit (.int .i64 n)] ∧ (n < p.length ↔ (Rd.init.feed p).state ≠ 0)

set_option maxHeartbeats 1000000 in
set_option maxRecDepth 4000 in
theorem take_stream (a : Bool) (p : List UInt8) (σ : Store) (hp : p.length ≤ 100000) :
    ACalls Tryz.prog 67 [.list a 1 (bytesA p)] σ fun v σ' => TakeOut p v ∧ σ' = σ := by
  refine ACalls.of_awp follows (st := st67) (plans := pl67) (n := 100) Tryz.func67 rfl (by kernel_rfl) (by kernel_rfl) (by kernel_rfl) ?_
  simp
  refine codeK.loop follows (st := st67) (plans := pl67) (X := Nat × Rd) (TakeInv p)
    (fun x => [(0, .list false 1 (bytesA p)), (4, .list true 6 (evsA x.2.told)), (5, .lit (.int .i64 x.1))])
    (fun _ => σ) (fun x => p.length - x.1) (0, .init) (by kernel_rfl) ⟨by simp, by intro x hx; simp [Rd.told, Rd.init, Rd.flush, merge] at hx, by simp [Rd.told, Rd.init, Rd.flush, merge], by simp [Rd.told, Rd.init, Rd.flush, merge, bytesIn], rfl, rfl, rfl, rfl⟩ (by simp [Rd.told, Rd.init, Rd.flush, merge, evsA]) (Store.sub_refl _) fun x hx => ?_
  obtain ⟨i, V⟩ := x
  have inv := hx
  obtain ⟨h1, h2, h3, h4, h5, h6, h7, h8⟩ := hx
  dsimp only at h1 h2 h3 h4 h5 h6 h7 h8 ⊢
  have hz : ∀ W : Rd, W.told = V.told → Rd.init.feed p = W → (i < p.length ↔ W.state ≠ 0) → TakeOut p (.tuple [.list true 6 (evsA V.told), .lit (.int .i64 i)]) := fun W a b c => ⟨i, by rw [b, a], by rw [b]; exact c⟩
  by_cases hi : i < p.length
  case neg =>
    have hd : p.drop i = [] := List.drop_of_length_le (by omega)
    have hz' := hz V rfl (by rw [← h8, hd]; rfl) (by simp [hi, h5])
    simp [hi]
    exact ⟨_, AV.le_refl _, hz'⟩
  have hf := drop_cons p i hi
  have hw1 : IntKind.i64.wrap ((i : Int) + 1) = (i : Int) + 1 := by rw [wrap_i64 (by omega) (by omega)]
  have hw2 : IntKind.i64.wrap ((i : Int) + 2) = (i : Int) + 2 := by rw [wrap_i64 (by omega) (by omega)]
  have hw3 : IntKind.i64.wrap ((i : Int) + 3) = (i : Int) + 3 := by rw [wrap_i64 (by omega) (by omega)]
  have hadd : ∀ e : Ev, e.data.length ≤ 1000000 → (e.kind = 0 → e = dataEv e.data ∧ e.data ≠ []) → ACalls Tryz.prog 85 [.list true 6 (evsA V.told), evA e] σ fun v σ' => v = .list true 6 (evsA (mergeStep V.told e)) ∧ σ' = σ :=
    fun e a1 a2 => add_merge a V.told e σ (by omega) (by omega) a1 h2 a2
  have z0 : (0 : Int) ≤ (i : Int) + 1 := by omega
  have z3 : (0 : Int) ≤ (i : Int) + 2 := by omega
  by_cases hb : (p[i].toNat : Int) = 255
  case neg =>
    have i2 : TakeInv p (i + 1, V.take p[i]) := inv.step (dataEv [p[i]]) (by omega) (by omega) (fun _ => rfl) (by simp [dataEv]; omega) (by rw [take_data V _ h5 hb, told_data]) (by rw [take_data V _ h5 hb]) (by rw [take_data V _ h5 hb]; exact h6) (by rw [take_data V _ h5 hb]; exact h7) (by rw [hf, feed_cons])
    have ht : (V.take p[i]).told = mergeStep V.told (dataEv [p[i]]) := by rw [take_data V _ h5 hb, told_data]
    simp [hi, hb, byteA, hw1]
    refine callK.le (args' := [.list true 6 (evsA V.told), evA (dataEv [p[i]])]) (by simp [evA, dataEv, byteA, bytesA]) (hadd _ (by simp [dataEv]) (fun _ => ⟨rfl, by simp [dataEv]⟩)) ?_
    rintro v σ' ⟨rfl, rfl⟩
    simp [hw1]
    exact ⟨i + 1, V.take p[i], i2, by omega, by rw [ht]; exact AV.le_refl _, by simp⟩
  have he1 : V.take p[i] = { V with state := 1 } := take_esc V _ h5 hb
  by_cases hi1 : i + 1 < p.length
  case neg =>
    have z1 : (p.length : Int) ≤ (i : Int) + 1 := by omega
    have hd : p.drop (i + 1) = [] := List.drop_of_length_le (by omega)
    have hz' := hz { V with state := 1 } rfl (by rw [← h8, hf, feed_cons, he1, hd]; rfl) (by simp [hi])
    simp [hi, hb, byteA, hw1, z1]
    exact ⟨_, AV.le_refl _, hz'⟩
  have z1 : ¬ (p.length : Int) ≤ (i : Int) + 1 := by omega
  have hf2 := drop_cons p (i + 1) hi1
  have hg : (bytesA p)[i + 1]? = some (byteA p[i + 1]) := by rw [bytesA_get, List.getElem?_eq_getElem hi1]; rfl
  have hcom : V.feed (p.drop i) = (V.command p[i + 1]).feed (p.drop (i + 2)) := by rw [hf, feed_cons, he1, hf2, feed_cons, take_one]
  by_cases c1 : (p[i + 1].toNat : Int) = 255
  · have hc := told_command_data V p[i + 1] c1
    have i2 : TakeInv p (i + 2, V.command p[i + 1]) := inv.step (dataEv [p[i + 1]]) (by omega) (by omega) (fun _ => rfl) (by simp [dataEv]; omega) hc.1 hc.2.1 (by rw [hc.2.2.1]; exact h6) (by rw [hc.2.2.2]; exact h7) hcom.symm
    simp [hi, hb, byteA, hw1, z1, z0, hg, c1]
    refine callK.le (args' := [.list true 6 (evsA V.told), evA (dataEv [p[i + 1]])]) (by simp [evA, dataEv, byteA, bytesA, c1]) (hadd _ (by simp [dataEv]) (fun _ => ⟨rfl, by simp [dataEv]⟩)) ?_
    rintro v σ' ⟨rfl, rfl⟩
    simp [hw2]
    exact ⟨i + 2, V.command p[i + 1], i2, by omega, by rw [hc.1]; exact AV.le_refl _, by simp⟩
  by_cases c2 : (p[i + 1].toNat : Int) = 250
  · have hR := command_sub V p[i + 1] c2
    simp [hi, hb, byteA, hw1, z1, z0, hg, c2, hw2]
    refine callK.of (sub_calls false p (i + 2) (V.command p[i + 1]) (by rw [hR]) (by rw [hR]; exact h6) (by rw [hR]; exact h7) σ (by omega) (by omega)) ?_
    rintro v σ' ⟨⟨e, n, rfl, hs⟩, rfl⟩
    have hRt : (V.command p[i + 1]).told = V.told := by rw [hR]; rfl
    rcases hs with ⟨rfl, hs1, hs2⟩ | ⟨next, W, rfl, b1, b2, b3, b4, b5, b6, b7, b8, b9⟩
    · have hz' := hz ((V.command p[i + 1]).feed (p.drop (i + 2))) (by rw [hs2, hRt]) (by rw [← h8, hcom]) (by simp [hi, hs1])
      simp [evA]
      intro q hq
      exact ⟨_, AV.le_refl _, sub_upd_self _ _ _ hq, hz'⟩
    · rw [hRt] at b8
      have i2 : TakeInv p (next, W) := inv.step e (by omega) b2 (fun h => by rw [b3] at h; cases h) (by omega) b8 b5 b6 b7 (by rw [b9, hcom])
      simp [evA, byteA, b3]
      intro q hq
      rw [if_neg (by omega)]
      have hb4 := add_merge a V.told e (σ'.upd q [.lit (.int .i64 3), .lit (.int .u8 e.verb.toNat), .lit (.int .u8 e.opt.toNat), .list false 1 (bytesA e.data), .lit (.bool e.long), .lit (.bool e.broken)]) (by omega) (by omega) (by omega) h2 (fun h => by rw [b3] at h; cases h)
      refine callK.le (args' := [.list true 6 (evsA V.told), evA e]) (by simp [evA, byteA, b3]) hb4 ?_
      rintro v σ2 ⟨rfl, rfl⟩
      simp
      exact ⟨next, W, i2, by omega, ⟨by rw [b8]; exact AV.le_refl _, by simp⟩, sub_upd_self _ _ _ hq⟩
  by_cases c3 : 251 ≤ (p[i + 1].toNat : Int) ∧ (p[i + 1].toNat : Int) ≤ 254
  · have hV := command_verb V p[i + 1] c1 c2 c3
    by_cases hi2 : i + 2 < p.length
    case neg =>
      have z2 : (p.length : Int) ≤ (i : Int) + 2 := by omega
      have hd : p.drop (i + 2) = [] := List.drop_of_length_le (by omega)
      have hz' := hz { V with verb := p[i + 1], state := 2 } rfl (by rw [← h8, hcom, hd, hV]; rfl) (by simp [hi])
      simp [hi, hb, byteA, hw1, z1, z0, hg, c1, c2, c3.1, c3.2, hw2, z2]
      exact ⟨_, AV.le_refl _, hz'⟩
    have z2 : ¬ (p.length : Int) ≤ (i : Int) + 2 := by omega
    have hf3 := drop_cons p (i + 2) hi2
    have hg2 : (bytesA p)[i + 2]? = some (byteA p[i + 2]) := by rw [bytesA_get, List.getElem?_eq_getElem hi2]; rfl
    have hT : (V.command p[i + 1]).take p[i + 2] = (V.command p[i + 1]).tell ⟨2, p[i + 1], p[i + 2], [], false, false⟩ := by rw [hV]; simp [Rd.take]
    have ht : ((V.command p[i + 1]).take p[i + 2]).told = mergeStep V.told ⟨2, p[i + 1], p[i + 2], [], false, false⟩ := by rw [hT, told_tell, hV]; rfl
    have i2 : TakeInv p (i + 3, (V.command p[i + 1]).take p[i + 2]) := inv.step ⟨2, p[i + 1], p[i + 2], [], false, false⟩ (by omega) (by omega) (fun h => by cases h) (by simp) ht (by rw [hT]; rfl) (by rw [hT, (tell_sub ..).1, hV]; exact h6) (by rw [hT]; simp only [Rd.tell, Rd.flush]; rw [hV]; exact h7) (by rw [hcom, hf3, feed_cons])
    simp [hi, hb, byteA, hw1, z1, z0, hg, c1, c2, c3.1, c3.2, hw2, z2, z3, hg2, show ((i : Int) + 2).toNat = i + 2 by omega]
    refine callK.le (args' := [.list true 6 (evsA V.told), evA ⟨2, p[i + 1], p[i + 2], [], false, false⟩]) (by simp [evA, byteA, bytesA]; exact AV.le_agg (by simp)) (hadd _ (by simp) (fun h => by cases h)) ?_
    rintro v σ' ⟨rfl, rfl⟩
    simp [hw3]
    exact ⟨i + 3, _, i2, by omega, by rw [ht]; exact AV.le_refl _, by simp⟩
  · have hT := command_tell V p[i + 1] c1 c2 c3
    have ht : (V.command p[i + 1]).told = mergeStep V.told ⟨1, p[i + 1], 0, [], false, false⟩ := by rw [hT, told_tell]
    have i2 : TakeInv p (i + 2, V.command p[i + 1]) := inv.step ⟨1, p[i + 1], 0, [], false, false⟩ (by omega) (by omega) (fun h => by cases h) (by simp) ht (by rw [hT]; rfl) (by rw [hT, (tell_sub ..).1]; exact h6) (by rw [hT]; simp only [Rd.tell, Rd.flush]; exact h7) hcom.symm
    by_cases c4 : 251 ≤ (p[i + 1].toNat : Int)
    · have c5 : ¬ (p[i + 1].toNat : Int) ≤ 254 := fun h => c3 ⟨c4, h⟩
      simp [hi, hb, byteA, hw1, z1, z0, hg, c1, c2, c4, c5]
      refine callK.le (args' := [.list true 6 (evsA V.told), evA ⟨1, p[i + 1], 0, [], false, false⟩]) (by simp [evA, byteA, bytesA]; exact AV.le_agg (by simp)) (hadd _ (by simp) (fun h => by cases h)) ?_
      rintro v σ' ⟨rfl, rfl⟩
      simp [hw2]
      exact ⟨i + 2, _, i2, by omega, by rw [ht]; exact AV.le_refl _, by simp⟩
    · simp [hi, hb, byteA, hw1, z1, z0, hg, c1, c2, c4]
      refine callK.le (args' := [.list true 6 (evsA V.told), evA ⟨1, p[i + 1], 0, [], false, false⟩]) (by simp [evA, byteA, bytesA]; exact AV.le_agg (by simp)) (hadd _ (by simp) (fun h => by cases h)) ?_
      rintro v σ' ⟨rfl, rfl⟩
      simp [hw2]
      exact ⟨i + 2, _, i2, by omega, by rw [ht]; exact AV.le_refl _, by simp⟩

set_option maxRecDepth 4000 in
theorem read_calls (a : Bool) (p : List UInt8) (σ : Store) (hp : p.length ≤ 100000) :
    ACalls Tryz.prog 43 [.list a 1 (bytesA p)] σ fun v σ' => v = .tuple [.list false 6 (evsA (Rd.init.feed p).told), .lit (.bool ((Rd.init.feed p).state != 0))] ∧ σ' = σ := by
  refine ACalls.of_awp follows (st := st43) (plans := pl43) (n := 16) Tryz.func43 rfl (by kernel_rfl) (by kernel_rfl) (by kernel_rfl) ?_
  simp
  refine callK.of (take_stream false p σ hp) ?_
  rintro v σ' ⟨⟨n, rfl, hn⟩, rfl⟩
  simp
  have hd : decide (n < p.length) = ((Rd.init.feed p).state != 0) := by
    by_cases h : n < p.length
    · have := hn.1 h; simp [h, this]
    · have : ¬ (Rd.init.feed p).state ≠ 0 := fun e => h (hn.2 e)
      simp only [Decidable.not_not] at this
      simp [h, this]
  rw [hd]; exact AV.le_refl _

end Go.Proofs.YteaidaolablegaaGreatDoor
