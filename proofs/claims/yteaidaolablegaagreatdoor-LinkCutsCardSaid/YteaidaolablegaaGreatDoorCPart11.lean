/-
  A stream that is fed in parts, and what comes of it.
-/
import Derived.Test.YteaidaolablegaaGreatDoorCPart10
set_option linter.unusedSimpArgs false
set_option linter.unusedVariables false
namespace Go.Proofs.YteaidaolablegaaGreatDoor
open Go Go.AL

/-- The bytes that are kept or told. -/
def Rd.pot (r : Rd) : Nat := bytesIn r.out + r.data.length + r.sub.length
theorem bytesIn_append (l k : List Ev) : bytesIn (l ++ k) = bytesIn l + bytesIn k := by simp [bytesIn]
theorem bytesIn_one (e : Ev) : bytesIn [e] = e.data.length := by simp [bytesIn]
theorem flush_pot (r : Rd) : bytesIn r.flush.out = bytesIn r.out + r.data.length ∧ r.flush.data = [] ∧ r.flush.sub = r.sub := by
  refine ⟨?_, rfl, rfl⟩
  simp only [Rd.flush]
  split
  · rw [bytesIn_append, bytesIn_one]
  · omega
theorem tell_pot (r : Rd) (e : Ev) : bytesIn (r.tell e).out = bytesIn r.out + r.data.length + e.data.length ∧ (r.tell e).data = [] ∧ (r.tell e).sub = r.sub := by
  have := flush_pot r
  refine ⟨?_, rfl, rfl⟩
  simp only [Rd.tell]
  rw [bytesIn_append, bytesIn_one]; omega
theorem command_pot (r : Rd) (b : UInt8) : (r.command b).pot ≤ r.pot + 1 := by
  simp only [Rd.command]
  split
  · simp [Rd.pot]; omega
  · split
    · simp [Rd.pot]
    · split
      · simp [Rd.pot]
      · have := tell_pot r ⟨1, b, 0, [], false, false⟩
        simp only [Rd.pot, this.1, this.2.1, this.2.2, List.length_nil]; omega
theorem take_pot (r : Rd) (b : UInt8) : (r.take b).pot ≤ r.pot + 1 := by
  have hkeep : (r.keep b).pot ≤ r.pot + 1 := by
    simp only [Rd.keep]; split <;> simp [Rd.pot] <;> omega
  have hfin : ∀ x, (r.fin x).pot ≤ r.pot := fun x => by
    have := tell_pot r ⟨3, 0, r.opt, r.sub, r.long, x⟩
    simp only [Rd.fin, Rd.pot, this.1, this.2.1, List.length_nil]; omega
  simp only [Rd.take]
  split
  · exact command_pot r b
  · split
    · have := tell_pot r ⟨2, r.verb, b, [], false, false⟩
      simp only [Rd.pot, this.1, this.2.1, this.2.2, List.length_nil]; omega
    · split
      · simp [Rd.pot]
      · split
        · split
          · simp [Rd.pot]
          · exact hkeep
        · split
          · split
            · exact hkeep
            · split
              · have := hfin false; omega
              · have := hfin true; have := command_pot (r.fin true) b; omega
          · split
            · simp [Rd.pot]
            · simp [Rd.pot]; omega
theorem feed_pot (r : Rd) (p : List UInt8) : (r.feed p).pot ≤ r.pot + p.length := by
  induction p generalizing r with
  | nil => simp [Rd.feed]
  | cons b p ih =>
    have h1 := take_pot r b
    have h2 := ih (r.take b)
    simp only [Rd.feed, List.foldl_cons, List.length_cons] at *
    omega
/-- Fed bytes, by how many there are. -/
theorem fed_size (r : Rd) (p : List UInt8) (ho : r.out = []) (hd : r.data = []) : (r.fed p).length ≤ 5 * p.length ∧ bytesIn (r.fed p) + (r.after p).sub.length ≤ r.sub.length + p.length ∧ (r.after p).out = [] ∧ (r.after p).data = [] := by
  have h1 := feed_len r p
  have h2 := feed_pot r p
  have h3 := flush_len (r.feed p)
  have h4 := flush_pot (r.feed p)
  have h5 : r.pot = r.sub.length := by simp [Rd.pot, ho, hd, bytesIn]
  simp only [Rd.pot] at h2 h5
  refine ⟨?_, ?_, rfl, rfl⟩
  · cases p with
    | nil => simp [Rd.fed, Rd.feed, Rd.flush, ho, hd]
    | cons b p => simp only [Rd.fed, List.length_cons] at *; rw [ho] at h1; simp at h1; omega
  · simp only [Rd.fed, Rd.after]
    rw [h4.1, h4.2.2]; omega

@[simp] theorem bytesA_at (l : List UInt8) (i : Nat) (h : i < (bytesA l).length) : (bytesA l)[i] = byteA (l[i]'(by simpa using h)) := by simp [bytesA]
@[simp] theorem evsA_at (l : List Ev) (i : Nat) (h : i < (evsA l).length) : (evsA l)[i] = evA (l[i]'(by simpa using h)) := by simp [evsA]
structure St where
  r : Rd
  out : List Ev
  p : List UInt8
def St.cut (s : St) (c : UInt8) : St := ⟨s.r.after (s.p.take (min c.toNat s.p.length)), s.out ++ s.r.fed (s.p.take (min c.toNat s.p.length)), s.p.drop (min c.toNat s.p.length)⟩
def St.cuts (s : St) (l : List UInt8) : St := l.foldl St.cut s
def St.ok (s : St) (n : Nat) : Prop := s.r.out = [] ∧ s.r.data = [] ∧ s.out.length + 5 * s.p.length ≤ 5 * n ∧ bytesIn s.out + s.r.sub.length + s.p.length ≤ n
theorem St.cut_ok {s : St} {n : Nat} (h : s.ok n) (c : UInt8) : (s.cut c).ok n := by
  obtain ⟨h1, h2, h3, h4⟩ := h
  obtain ⟨q1, q2, q3, q4⟩ := fed_size s.r (s.p.take (min c.toNat s.p.length)) h1 h2
  refine ⟨q3, q4, ?_, ?_⟩
  · simp only [St.cut, List.length_append, List.length_drop, List.length_take] at *; omega
  · simp only [St.cut, bytesIn_append, List.length_drop, List.length_take] at *; omega
theorem St.cuts_ok {s : St} {n : Nat} (h : s.ok n) (l : List UInt8) : (s.cuts l).ok n := by
  induction l generalizing s with
  | nil => exact h
  | cons c l ih => exact ih (St.cut_ok h c)
theorem St.cuts_take (s : St) (l : List UInt8) (i : Nat) (h : i < l.length) : (s.cuts (l.take i)).cut l[i] = s.cuts (l.take (i + 1)) := by
  simp only [St.cuts]
  rw [List.take_succ_eq_append_getElem h, List.foldl_append]; rfl
def St.start (p : List UInt8) : St := ⟨.init, [], p⟩
theorem St.start_ok (p : List UInt8) : (St.start p).ok p.length := by simp [St.ok, St.start, Rd.init, bytesIn]
/-- All events, not yet merged; the reader behind. -/
def fedAll (p cuts : List UInt8) : List Ev := ((St.start p).cuts cuts).out ++ ((St.start p).cuts cuts).r.fed ((St.start p).cuts cuts).p
def endAll (p cuts : List UInt8) : Rd := ((St.start p).cuts cuts).r.after ((St.start p).cuts cuts).p

end Go.Proofs.YteaidaolablegaaGreatDoor
/-
  The fixed questions; any two ways of cutting.
-/
namespace Go.Proofs.YteaidaolablegaaGreatDoor
open Go Go.AL

/-! ### Any two ways of cutting -/
theorem merge_snoc (l : List Ev) (e : Ev) : merge (l ++ [e]) = mergeStep (merge l) e := by simp [merge]
theorem mergeStep_data (m : List Ev) (d k : List UInt8) (hd : d ≠ []) : mergeStep (mergeStep m (dataEv d)) (dataEv k) = mergeStep m (dataEv (d ++ k)) := by
  by_cases hk : k = []
  · subst hk
    have h0 : ∀ x, mergeStep x (dataEv []) = x := fun x => by simp [mergeStep, dataEv]
    rw [h0, List.append_nil]
  · have hdk : d ++ k ≠ [] := by simp [hd]
    cases hm : m.getLast? with
    | none =>
      have : m = [] := by simpa using hm
      subst this
      simp [mergeStep, dataEv, hd, hk]
    | some last =>
      by_cases hl : last.kind = 0
      · simp [mergeStep, dataEv, hd, hk, hm, hl]
      · simp [mergeStep, dataEv, hd, hk, hm, hl]

/-- What has been told, merged, if it were flushed now. -/
def Rd.told (r : Rd) : List Ev := merge r.flush.out
theorem told_flush (r : Rd) : r.flush.told = r.told := by simp [Rd.told, Rd.flush]
theorem told_of (r : Rd) : r.told = if r.data = [] then merge r.out else mergeStep (merge r.out) (dataEv r.data) := by
  simp only [Rd.told, Rd.flush]
  by_cases h : r.data = []
  · simp [h]
  · have : 0 < r.data.length := by cases hh : r.data with | nil => exact absurd hh h | cons => simp
    simp only [this, if_true, if_neg h]
    rw [← merge_snoc]; rfl
theorem told_data (r : Rd) (b : UInt8) (s : Int) : Rd.told { r with data := r.data ++ [b], state := s } = mergeStep r.told (dataEv [b]) := by
  rw [told_of, told_of r]
  show (if r.data ++ [b] = [] then merge r.out else mergeStep (merge r.out) (dataEv (r.data ++ [b]))) = _
  rw [if_neg (by simp)]
  by_cases h : r.data = []
  · rw [if_pos h, h]; rfl
  · rw [if_neg h, mergeStep_data _ _ _ h]
theorem told_tell (r : Rd) (e : Ev) : (r.tell e).told = mergeStep r.told e := by
  have h : (r.tell e).data = [] := rfl
  rw [told_of, if_pos h]
  show merge (r.flush.out ++ [e]) = _
  rw [merge_snoc]; rfl

structure Alike (r q : Rd) : Prop where
  told : r.told = q.told
  state : r.state = q.state
  verb : r.verb = q.verb
  opt : r.opt = q.opt
  sub : r.sub = q.sub
  long : r.long = q.long
theorem Alike.refl (r : Rd) : Alike r r := ⟨rfl, rfl, rfl, rfl, rfl, rfl⟩
theorem Alike.symm {r q : Rd} (h : Alike r q) : Alike q r := ⟨h.told.symm, h.state.symm, h.verb.symm, h.opt.symm, h.sub.symm, h.long.symm⟩
theorem Alike.trans {r q s : Rd} (h : Alike r q) (k : Alike q s) : Alike r s := ⟨h.told.trans k.told, h.state.trans k.state, h.verb.trans k.verb, h.opt.trans k.opt, h.sub.trans k.sub, h.long.trans k.long⟩
theorem Alike.flush (r : Rd) : Alike r.flush r := ⟨told_flush r, rfl, rfl, rfl, rfl, rfl⟩
theorem Alike.tell {r q : Rd} (h : Alike r q) (e : Ev) : Alike (r.tell e) (q.tell e) := ⟨by rw [told_tell, told_tell, h.told], rfl, h.verb, h.opt, h.sub, h.long⟩
theorem Alike.keep {r q : Rd} (h : Alike r q) (b : UInt8) : Alike (r.keep b) (q.keep b) := by
  simp only [Rd.keep, h.sub]
  split
  · exact ⟨h.told, rfl, h.verb, h.opt, rfl, rfl⟩
  · exact ⟨h.told, rfl, h.verb, h.opt, rfl, h.long⟩
theorem Alike.fin {r q : Rd} (h : Alike r q) (x : Bool) : Alike (r.fin x) (q.fin x) := by
  have := h.tell ⟨3, 0, r.opt, r.sub, r.long, x⟩
  simp only [Rd.fin]
  rw [← h.opt, ← h.sub, ← h.long]
  exact ⟨this.told, this.state, this.verb, this.opt, rfl, rfl⟩
theorem Alike.data {r q : Rd} (h : Alike r q) (b : UInt8) (s : Int) : Alike { r with data := r.data ++ [b], state := s } { q with data := q.data ++ [b], state := s } :=
  ⟨by rw [told_data, told_data, h.told], rfl, h.verb, h.opt, h.sub, h.long⟩
theorem Alike.command {r q : Rd} (h : Alike r q) (b : UInt8) : Alike (r.command b) (q.command b) := by
  simp only [Rd.command]
  split
  · exact h.data b 0
  · split
    · exact ⟨h.told, rfl, h.verb, h.opt, h.sub, h.long⟩
    · split
      · exact ⟨h.told, rfl, rfl, h.opt, h.sub, h.long⟩
      · exact h.tell _
theorem Alike.take {r q : Rd} (h : Alike r q) (b : UInt8) : Alike (r.take b) (q.take b) := by
  simp only [Rd.take]
  rw [← h.state, ← h.verb]
  split
  · exact h.command b
  · split
    · exact h.tell _
    · split
      · exact ⟨h.told, rfl, rfl, rfl, h.sub, h.long⟩
      · split
        · split
          · exact ⟨h.told, rfl, rfl, h.opt, h.sub, h.long⟩
          · exact h.keep b
        · split
          · split
            · exact h.keep b
            · split
              · exact h.fin false
              · exact (h.fin true).command b
          · split
            · exact ⟨h.told, rfl, rfl, h.opt, h.sub, h.long⟩
            · have := h.data b r.state
              exact ⟨this.told, rfl, rfl, h.opt, h.sub, h.long⟩
theorem Alike.feed {r q : Rd} (h : Alike r q) (p : List UInt8) : Alike (r.feed p) (q.feed p) := by
  induction p generalizing r q with
  | nil => exact h
  | cons b p ih => exact ih (h.take b)

/-- Ahead of what was told. -/
def Rd.pre (x : List Ev) (r : Rd) : Rd := { r with out := x ++ r.out }
theorem flush_pre (x : List Ev) (r : Rd) : (r.pre x).flush = r.flush.pre x := by
  by_cases h : 0 < r.data.length <;> simp only [Rd.pre, Rd.flush, h, if_true, if_false, List.append_assoc]
theorem tell_pre (x : List Ev) (r : Rd) (e : Ev) : (r.pre x).tell e = (r.tell e).pre x := by simp only [Rd.tell, flush_pre]; simp [Rd.pre]
theorem keep_pre (x : List Ev) (r : Rd) (b : UInt8) : (r.pre x).keep b = (r.keep b).pre x := by
  have : (r.pre x).sub = r.sub := rfl
  simp only [Rd.keep, this]; split <;> rfl
theorem fin_pre (x : List Ev) (r : Rd) (y : Bool) : (r.pre x).fin y = (r.fin y).pre x := by
  simp only [Rd.fin, tell_pre]; rfl
theorem command_pre (x : List Ev) (r : Rd) (b : UInt8) : (r.pre x).command b = (r.command b).pre x := by
  simp only [Rd.command, tell_pre]
  split
  · rfl
  · split
    · rfl
    · split <;> rfl
theorem take_pre (x : List Ev) (r : Rd) (b : UInt8) : (r.pre x).take b = (r.take b).pre x := by
  have h1 : (r.pre x).state = r.state := rfl
  have h2 : (r.pre x).verb = r.verb := rfl
  simp only [Rd.take, h1, h2, command_pre, tell_pre, keep_pre, fin_pre]
  split
  · rfl
  · split
    · rfl
    · split
      · rfl
      · split
        · split <;> rfl
        · split
          · split
            · rfl
            · split <;> rfl
          · split <;> rfl
theorem feed_pre (x : List Ev) (r : Rd) (p : List UInt8) : (r.pre x).feed p = (r.feed p).pre x := by
  induction p generalizing r with
  | nil => rfl
  | cons b p ih => simp only [Rd.feed, List.foldl_cons, take_pre] at *; exact ih _
theorem feed_feed (r : Rd) (p q : List UInt8) : (r.feed p).feed q = r.feed (p ++ q) := by simp [Rd.feed]

/-- The reader with all that was told. -/
def St.whole (s : St) : Rd := s.r.pre s.out
theorem St.cut_whole (s : St) (c : UInt8) (ho : s.r.out = []) : (s.cut c).whole = (s.whole.feed (s.p.take (min c.toNat s.p.length))).flush := by
  simp only [St.whole, St.cut, feed_pre, flush_pre]
  simp [Rd.pre, Rd.after, Rd.fed]
theorem whole_alike (p cuts : List UInt8) : Alike (((St.start p).cuts cuts).whole.feed ((St.start p).cuts cuts).p) (Rd.init.feed p) := by
  have key : ∀ (cuts : List UInt8) (s : St), s.ok p.length → Alike (s.whole.feed s.p) (Rd.init.feed p) → Alike ((s.cuts cuts).whole.feed (s.cuts cuts).p) (Rd.init.feed p) := by
    intro cuts
    induction cuts with
    | nil => intro s _ h; exact h
    | cons c cuts ih =>
      intro s hs h
      refine ih (s.cut c) (St.cut_ok hs c) ?_
      rw [St.cut_whole s c hs.1]
      have h1 := (Alike.flush (s.whole.feed (s.p.take (min c.toNat s.p.length)))).feed (s.cut c).p
      refine h1.trans ?_
      rw [feed_feed]
      have : s.p.take (min c.toNat s.p.length) ++ (s.cut c).p = s.p := by simp [St.cut]
      rw [this]; exact h
  exact key cuts (St.start p) (St.start_ok p) (by simp [St.whole, St.start, Rd.pre]; exact Alike.refl _)
/-- What is told, merged, hangs on the stream alone. -/
theorem merge_fedAll (p cuts : List UInt8) : merge (fedAll p cuts) = (Rd.init.feed p).told ∧ (endAll p cuts).state = (Rd.init.feed p).state := by
  have h := whole_alike p cuts
  have hok := St.cuts_ok (St.start_ok p) cuts
  refine ⟨?_, ?_⟩
  · rw [← h.told]
    simp only [fedAll, Rd.told, St.whole, feed_pre, flush_pre]
    rfl
  · rw [← h.state]
    simp only [endAll, Rd.after, St.whole, feed_pre]
    rfl

end Go.Proofs.YteaidaolablegaaGreatDoor
/-
  Names, bytes within bytes.
-/
namespace Go.Proofs.YteaidaolablegaaGreatDoor
open Go Go.AL

theorem byteA_lit (b : UInt8) : byteA b = .lit (.int .u8 (b.toNat : Int)) := rfl
/-- A string of these bytes. -/
abbrev strS (l : List UInt8) : AV := .lit (.string ⟨l.toArray⟩)
theorem bytesV_mk (l : List UInt8) : bytesV ⟨l.toArray⟩ = bytesA l := by simp [bytesV, bytesA, byteA]
theorem ixByte_mem (l : List UInt8) (c : UInt8) : (Lib.indexByte l c < 0 ↔ c ∉ l) ∧ (c ∉ l → Lib.indexByte l c = -1) := by
  induction l with
  | nil => simp [Lib.indexByte]
  | cons b l ih =>
    have hge := Lib.indexByte_ge l c
    unfold Lib.indexByte
    by_cases hb : b = c
    · subst hb; simp
    · have hbc : (b == c) = false := by simpa using hb
      have hcb : ¬ c = b := fun e => hb e.symm
      rw [hbc]
      simp only [Bool.false_eq_true, if_false, List.mem_cons, hcb, false_or]
      by_cases hm : Lib.indexByte l c = -1
      · rw [if_pos (by rw [hm]; rfl)]
        have : c ∉ l := ih.1.1 (by omega)
        exact ⟨⟨fun _ => this, fun _ => by omega⟩, fun _ => rfl⟩
      · rw [if_neg (by simpa using hm)]
        have : ¬ c ∉ l := fun h => hm (ih.2 h)
        exact ⟨⟨fun h => by omega, fun h => absurd h this⟩, fun h => absurd h this⟩
@[simp] theorem callable84 : callable Tryz.prog 84 = false := nr (by kernel_rfl)
set_option maxRecDepth 8000 in
theorem ext84 (o : Bool) (l : List UInt8) (c : UInt8) (σ : Store) : AExt Tryz.prog 84 [.list o 1 (bytesA l), byteA c] σ fun v σ' => v = .lit (.int .i64 (Lib.indexByte l c)) ∧ σ' = σ :=
  ext_indexByte Tryz.func84 (by kernel_rfl) (by kernel_rfl) (by kernel_rfl) (by kernel_rfl) o l c σ
set_option maxRecDepth 8000 in
theorem indexByte_calls (o : Bool) (l : List UInt8) (c : UInt8) (σ : Store) :
    ACalls Tryz.prog 64 [.list o 1 (bytesA l), byteA c] σ fun v σ' => v = .lit (.int .i64 (Lib.indexByte l c)) ∧ σ' = σ := by
  refine ACalls.of_awp follows (st := st64) (plans := pl64) (n := 8) Tryz.func64 rfl (by kernel_rfl) (by kernel_rfl) (by kernel_rfl) ?_
  simp [byteA]
  refine extK.of (ext84 false l c σ) ?_
  rintro v σ' ⟨rfl, rfl⟩
  simp
set_option maxRecDepth 10000 in
theorem index_calls (o o' : Bool) (l : List UInt8) (c : UInt8) (σ : Store) :
    ACalls Tryz.prog 104 [.list o 1 (bytesA l), .list o' 1 (bytesA [c])] σ fun v σ' => v = .lit (.int .i64 (Lib.indexByte l c)) ∧ σ' = σ := by
  refine ACalls.of_awp follows (st := st104) (plans := pl104) (n := 200) Tryz.func104 rfl (by kernel_rfl) (by kernel_rfl) (by kernel_rfl) ?_
  simp [bytesA, byteA]
  refine callK.of (indexByte_calls false l c σ) ?_
  rintro v σ' ⟨rfl, rfl⟩
  simp
/-- What stands ahead of a byte, and behind it. -/
def cutF (l : List UInt8) (c : UInt8) : List UInt8 × List UInt8 × Bool := if c ∈ l then (l.takeWhile (· != c), (l.dropWhile (· != c)).tail, true) else (l, [], false)
theorem cutF_split {pre post : List UInt8} {c : UInt8} (h : c ∉ pre) : cutF (pre ++ c :: post) c = (pre, post, true) := by
  have h1 : ∀ x ∈ pre, (x != c) = true := fun x hx => by
    have : x ≠ c := fun e => h (e ▸ hx)
    simpa using this
  have e1 : (pre ++ c :: post).takeWhile (· != c) = pre := by
    rw [List.takeWhile_append_of_pos h1]; simp
  have e2 : (pre ++ c :: post).dropWhile (· != c) = c :: post := by
    rw [List.dropWhile_append_of_pos h1]; simp
  unfold cutF
  rw [if_pos (by simp), e1, e2]; rfl
set_option maxRecDepth 8000 in
theorem bcut_calls (o o' : Bool) (l : List UInt8) (c : UInt8) (hl : l.length ≤ 1000000) (σ : Store) :
    ACalls Tryz.prog 131 [.list o 1 (bytesA l), .list o' 1 (bytesA [c])] σ fun v σ' => v = .tuple [.list false 1 (bytesA (cutF l c).1), .list false 1 (bytesA (cutF l c).2.1), .lit (.bool (cutF l c).2.2)] ∧ σ' = σ := by
  have hix := fun τ => index_calls false false l c τ
  refine ACalls.of_awp follows (st := st131) (plans := pl131) (n := 23) Tryz.func131 rfl (by kernel_rfl) (by kernel_rfl) (by kernel_rfl) ?_
  by_cases hm : c ∈ l
  · obtain ⟨pre, post, rfl, h2, h3⟩ := indexByte_split l c (List.count_pos_iff.2 hm)
    rw [cutF_split h2]
    rw [h3] at hix
    have ht : (bytesA (pre ++ c :: post)).take pre.length = bytesA pre := by rw [bytesA_take]; simp
    have hd : (bytesA (pre ++ c :: post)).drop (pre.length + 1) = bytesA post := by
      rw [bytesA_drop]; simp
    have hw : IntKind.i64.wrap ((pre.length : Int) + 1) = ((pre.length + 1 : Nat) : Int) := wrap_i64 (by simp at hl; omega) (by simp at hl; omega)
    have hc1 : bytesA [c] = [byteA c] := rfl
    have hln : (bytesA (pre ++ c :: post)).length = pre.length + (post.length + 1) := by simp
    have hle : pre.length ≤ (bytesA (pre ++ c :: post)).length := by omega
    have hle2 : pre.length + 1 ≤ (bytesA (pre ++ c :: post)).length := by omega
    have hl1 : (bytesA [c]).length = 1 := rfl
    have hp : (0 : Int) ≤ (pre.length : Int) + 1 := by omega
    generalize bytesA (pre ++ c :: post) = L at *
    simp
    refine callK.of (hix _) ?_
    rintro v σ' ⟨rfl, rfl⟩
    simp [hl1, hw, hle, hle2, ht, hd, hp]
  · have hno := (ixByte_mem l c).2 hm
    rw [hno] at hix
    have hcf : cutF l c = (l, [], false) := if_neg hm
    rw [hcf]
    simp
    refine callK.of (hix _) ?_
    rintro v σ' ⟨rfl, rfl⟩
    simp [bytesA]
    exact AV.le_tuple ⟨AV.le1_list _ _ _, AV.le1_list _ _ _, AV.le1_refl _, trivial⟩
/-- Is it a name? -/
def okN (b : UInt8) : Bool := decide (33 ≤ b.toNat) && decide (b.toNat ≤ 126)
def nameS (l : List UInt8) : Bool := l.all okN && !l.isEmpty && decide (l.length ≤ 40)
set_option maxRecDepth 8000 in
theorem str_size (l : List UInt8) : (ByteArray.mk l.toArray).size = l.length := by simp [ByteArray.size]
set_option maxRecDepth 8000 in
theorem name_calls (l : List UInt8) (hl : l.length ≤ 1000000) (σ : Store) : ACalls Tryz.prog 72 [strS l] σ fun v σ' => v = .lit (.bool (nameS l)) ∧ σ' = σ := by
  have hsz := str_size l
  refine ACalls.of_awp follows (st := st72) (plans := pl72) (n := 27) Tryz.func72 rfl (by kernel_rfl) (by kernel_rfl) (by kernel_rfl) ?_
  simp [hsz]
  refine codeK.loop follows (st := st72) (plans := pl72) (X := Nat) (fun i => i ≤ l.length ∧ ∀ j (hj : j < l.length), j < i → okN l[j] = true)
    (fun i => [(0, strS l), (5, .lit (.int .i64 l.length)), (6, .lit (.int .i64 i))]) (fun _ => σ) (fun i => l.length - i) 0 (by kernel_rfl) (by simp) (by simp) (Store.sub_refl _) fun i hi => ?_
  obtain ⟨hi, hk⟩ := hi
  by_cases hlt : i < l.length
  · have hw : IntKind.i64.wrap ((i : Int) + 1) = ((i + 1 : Nat) : Int) := wrap_i64 (by omega) (by omega)
    have hg : l[i]? = some l[i] := List.getElem?_eq_getElem hlt
    have hlt' : (i : Int) < l.length := by omega
    have hnx : okN l[i] = true → ∀ j (hj : j < l.length), j < i + 1 → okN l[j] = true := fun h j hj hji => by
      by_cases e : j = i
      · subst e; exact h
      · exact hk j hj (by omega)
    have hno : okN l[i] = false → nameS l = false := fun h => by
      have : l.all okN = false := by rw [List.all_eq_false]; exact ⟨_, List.getElem_mem hlt, by simp [h]⟩
      simp [nameS, this]
    obtain ⟨b, hb⟩ : ∃ b, l[i] = b := ⟨_, rfl⟩
    have hgg : ∀ h : i < l.length, l[i]'h = b := fun _ => hb
    rw [hb] at hnx hno
    by_cases h1 : (b.toNat : Int) < 33
    · have := hno (by unfold okN; simp; omega)
      simp [hlt, hlt', hgg, h1, this]
    · have h1' : (33 : Int) ≤ (b.toNat : Int) := by omega
      by_cases h2 : (126 : Int) < (b.toNat : Int)
      · have := hno (by unfold okN; simp; omega)
        simp [hlt, hlt', hgg, h1, h1', h2, this]
      · have h2' : (b.toNat : Int) ≤ 126 := by omega
        have := hnx (by unfold okN; simp; omega)
        simp [hlt, hlt', hgg, h1, h1', h2, h2']
        exact ⟨i + 1, ⟨by omega, this⟩, by omega, by rw [hw]; exact AV.le_refl _⟩
  · obtain rfl : i = l.length := by omega
    have hall : l.all okN = true := by
      rw [List.all_eq_true]
      intro x hx
      obtain ⟨j, hj, rfl⟩ := List.getElem_of_mem hx
      exact hk j hj hj
    by_cases hnil : l = []
    · subst hnil; simp [nameS]
    · have he : l.isEmpty = false := by simpa using hnil
      have h40 : decide ((l.length : Int) ≤ 40) = decide (l.length ≤ 40) := by rw [decide_eq_decide]; omega
      have hnm : nameS l = decide (l.length ≤ 40) := by simp [nameS, hall, he]
      rw [hnm]
      simp [hnil, hsz, h40]
end Go.Proofs.YteaidaolablegaaGreatDoor
/-
  A device's answer; lists in which each byte comes once, lists that rise.
-/
namespace Go.Proofs.YteaidaolablegaaGreatDoor
open Go Go.AL

/-- Rising, of bytes that are no greater than 4. -/
def sortL (l : List UInt8) : List UInt8 := [0, 1, 2, 3, 4].filter fun f => decide (f ∈ l)
def gotF (l : List UInt8) : List UInt8 × Bool := ((cutF l 1).2.1, (cutF l 1).2.2 && nameS (cutF l 1).1 && nameS (cutF l 1).2.1)
theorem cutF_len (l : List UInt8) (c : UInt8) : (cutF l c).1.length ≤ l.length ∧ (cutF l c).2.1.length ≤ l.length := by
  unfold cutF
  split
  · have h1 := (List.takeWhile_sublist (l := l) (· != c)).length_le
    have h2 := (List.dropWhile_sublist (l := l) (· != c)).length_le
    simp only [List.length_tail]
    omega
  · simp
set_option maxRecDepth 8000 in
theorem got_calls (o : Bool) (l : List UInt8) (hl : l.length ≤ 1000000) (σ : Store) : ACalls Tryz.prog 124 [.list o 1 (bytesA l)] σ fun v σ' => v = .tuple [strS (gotF l).1, .lit (.bool (gotF l).2)] ∧ σ' = σ := by
  have hcu := fun τ => bcut_calls false true l 1 hl τ
  obtain ⟨k1, k2⟩ := cutF_len l 1
  have hb1 : bytesA [1] = [.lit (.int .u8 1)] := rfl
  have hn1 := fun τ => name_calls (cutF l 1).1 (by omega) τ
  have hn2 := fun τ => name_calls (cutF l 1).2.1 (by omega) τ
  unfold gotF
  generalize cutF l 1 = C at *
  obtain ⟨a, b, ok⟩ := C
  dsimp only at *
  rw [hb1] at hcu
  have ha := bytesOf_bytesA a
  have hb := bytesOf_bytesA b
  refine ACalls.of_awp follows (st := st124) (plans := pl124) (n := 27) Tryz.func124 rfl (by kernel_rfl) (by kernel_rfl) (by kernel_rfl) ?_
  simp
  refine callK.of (hcu _) ?_
  rintro v σ' ⟨rfl, rfl⟩
  cases ok
  · simp [ha, hb]
  · simp [ha, hb]
    refine callK.of (hn1 _) ?_
    rintro v σ' ⟨rfl, rfl⟩
    cases h1 : nameS a
    · simp [hb]
    · simp [hb]
      refine callK.of (hn2 _) ?_
      rintro v σ' ⟨rfl, rfl⟩
      simp
set_option maxRecDepth 8000 in
theorem once_calls (o : Bool) (l : List UInt8) (hl : l.length ≤ 1000000) (σ : Store) : ACalls Tryz.prog 126 [.list o 1 (bytesA l)] σ fun v σ' => v = .lit (.bool (decide l.Nodup)) ∧ σ' = σ := by
  refine ACalls.of_awp follows (st := st126) (plans := pl126) (n := 19) Tryz.func126 rfl (by kernel_rfl) (by kernel_rfl) (by kernel_rfl) ?_
  simp
  refine codeK.loop follows (st := st126) (plans := pl126) (X := Nat) (fun i => i ≤ l.length ∧ (l.take i).Nodup)
    (fun i => [(0, .list false 1 (bytesA l)), (5, .list false 1 (bytesA l)), (6, .lit (.int .i64 l.length)), (7, .lit (.int .i64 i))]) (fun _ => σ) (fun i => l.length - i) 0 (by kernel_rfl) (by simp) (by simp) (Store.sub_refl _) fun i hi => ?_
  obtain ⟨hi, hk⟩ := hi
  by_cases hlt : i < l.length
  · have hw : IntKind.i64.wrap ((i : Int) + 1) = ((i + 1 : Nat) : Int) := wrap_i64 (by omega) (by omega)
    have hlt' : (i : Int) < l.length := by omega
    obtain ⟨b, hb⟩ : ∃ b, l[i] = b := ⟨_, rfl⟩
    have hg : ∀ h : i < (bytesA l).length, (bytesA l)[i]'h = .lit (.int .u8 b.toNat) := fun h => by
      rw [List.getElem_eq_iff, bytesA_get, List.getElem?_eq_getElem hlt, hb]; rfl
    have ht : (bytesA l).take i = bytesA (l.take i) := bytesA_take l i
    have hix := fun τ => indexByte_calls false (l.take i) b τ
    obtain ⟨h1, h2⟩ := ixByte_mem (l.take i) b
    have hts := List.take_succ_eq_append_getElem hlt
    rw [hb] at hts
    have hyes : b ∉ l.take i → (l.take (i + 1)).Nodup := fun h => by
      rw [hts, List.nodup_append]
      exact ⟨hk, by simp, fun x hx y hy => by simp at hy; rintro rfl; subst hy; exact h hx⟩
    have hno : b ∈ l.take i → ¬ l.Nodup := fun h hn => by
      have hn2 : (l.take (i + 1)).Nodup := hn.sublist (List.take_sublist _ _)
      rw [hts, List.nodup_append] at hn2
      exact hn2.2.2 b h b (by simp) rfl
    simp [hlt, hlt', hg, ht, hi]
    refine callK.of (hix _) ?_
    rintro v σ' ⟨rfl, rfl⟩
    by_cases hm : b ∈ l.take i
    · have h3 : ¬ Lib.indexByte (l.take i) b < 0 := fun h => h1.1 h hm
      have h4 : 0 ≤ Lib.indexByte (l.take i) b := by omega
      simp [h4, hno hm]
    · have h3 := h2 hm
      simp [h3]
      exact ⟨i + 1, ⟨by omega, hyes hm⟩, by omega, by rw [hw]; exact AV.le_refl _⟩
  · obtain rfl : i = l.length := by omega
    rw [List.take_length] at hk
    simp [hk]
/-- Does a list rise, and is each a function? -/
def riseAt (l : List UInt8) (i : Nat) : Prop := (l[i]?.getD 0).toNat ≤ 4 ∧ (0 < i → (l[i - 1]?.getD 0).toNat < (l[i]?.getD 0).toNat)
instance (l : List UInt8) (i : Nat) : Decidable (riseAt l i) := by unfold riseAt; infer_instance
def Rises (l : List UInt8) : Prop := ∀ i, i < l.length → riseAt l i
instance (l : List UInt8) : Decidable (Rises l) := by unfold Rises; infer_instance
set_option maxRecDepth 8000 in
theorem rises_calls (o : Bool) (l : List UInt8) (hl : l.length ≤ 1000000) (σ : Store) : ACalls Tryz.prog 73 [.list o 1 (bytesA l)] σ fun v σ' => v = .lit (.bool (decide (Rises l))) ∧ σ' = σ := by
  refine ACalls.of_awp follows (st := st73) (plans := pl73) (n := 28) Tryz.func73 rfl (by kernel_rfl) (by kernel_rfl) (by kernel_rfl) ?_
  simp
  refine codeK.loop follows (st := st73) (plans := pl73) (X := Nat) (fun i => i ≤ l.length ∧ ∀ j, j < i → riseAt l j)
    (fun i => [(0, .list false 1 (bytesA l)), (5, .list false 1 (bytesA l)), (6, .lit (.int .i64 l.length)), (7, .lit (.int .i64 i))]) (fun _ => σ) (fun i => l.length - i) 0 (by kernel_rfl) (by simp) (by simp) (Store.sub_refl _) fun i hi => ?_
  obtain ⟨hi, hk⟩ := hi
  by_cases hlt : i < l.length
  · have hw : IntKind.i64.wrap ((i : Int) + 1) = ((i + 1 : Nat) : Int) := wrap_i64 (by omega) (by omega)
    have hlt' : (i : Int) < l.length := by omega
    obtain ⟨b, hb⟩ : ∃ b, l[i]? = some b := ⟨_, List.getElem?_eq_getElem hlt⟩
    have hg : ∀ h : i < (bytesA l).length, (bytesA l)[i]'h = .lit (.int .u8 b.toNat) := fun h => by
      rw [List.getElem_eq_iff, bytesA_get, hb]; rfl
    have hat : riseAt l i ↔ b.toNat ≤ 4 ∧ (0 < i → (l[i - 1]?.getD 0).toNat < b.toNat) := by unfold riseAt; rw [hb]; rfl
    have hyes : riseAt l i → ∀ j, j < i + 1 → riseAt l j := fun h j hj => by
      by_cases e : j = i
      · subst e; exact h
      · exact hk j (by omega)
    have hno : ¬ riseAt l i → ¬ Rises l := fun h hr => h (hr i hlt)
    by_cases h4 : b.toNat ≤ 4
    · have h4' : ¬ (4 : Int) < (b.toNat : Int) := by omega
      by_cases h0 : i = 0
      · subst h0
        simp [hlt, hg, h4, h4']
        exact ⟨1, ⟨by omega, hyes (hat.2 ⟨h4, by omega⟩)⟩, by omega, by rw [show (1 : Int) = ((0 + 1 : Nat) : Int) from rfl]; exact AV.le_refl _⟩
      · have h0' : (0 : Int) < (i : Int) := by omega
        have hw2 : IntKind.i64.wrap ((i : Int) - 1) = ((i - 1 : Nat) : Int) := by rw [wrap_i64 (by omega) (by omega)]; omega
        obtain ⟨d, hd⟩ : ∃ d, l[i - 1]? = some d := ⟨_, List.getElem?_eq_getElem (by omega)⟩
        have hg2 : ∀ h : i - 1 < (bytesA l).length, (bytesA l)[i - 1]'h = .lit (.int .u8 d.toNat) := fun h => by
          rw [List.getElem_eq_iff, bytesA_get, hd]; rfl
        rw [hd] at hat
        have hil : i - 1 < l.length := by omega
        by_cases h5 : d.toNat < b.toNat
        · have h5' : ¬ (b.toNat : Int) ≤ (d.toNat : Int) := by omega
          simp [hlt, hlt', hg, h4, h4', h0', show 0 < i by omega, hw2, hg2, hil, h5']
          exact ⟨i + 1, ⟨by omega, hyes (hat.2 ⟨h4, fun _ => h5⟩)⟩, by omega, by rw [hw]; exact AV.le_refl _⟩
        · have h5' : (b.toNat : Int) ≤ (d.toNat : Int) := by omega
          have hn := hno fun h => h5 ((hat.1 h).2 (by omega))
          simp [hlt, hlt', hg, h4, h4', h0', show 0 < i by omega, hw2, hg2, hil, h5', hn]
    · have h4' : (4 : Int) < (b.toNat : Int) := by omega
      have hn := hno fun h => h4 (hat.1 h).1
      simp [hlt, hlt', hg, h4', show 4 < b.toNat by omega, hn]
  · obtain rfl : i = l.length := by omega
    have hr : Rises l := hk
    simp [hr]
end Go.Proofs.YteaidaolablegaaGreatDoor
/-
  The end: what it is, how far, what it got.
-/
namespace Go.Proofs.YteaidaolablegaaGreatDoor
open Go Go.AL

structure Ng where
  ty : List UInt8
  dev : List UInt8
  fns : List UInt8
  st : Nat := 0
  name : List UInt8 := []
  agreed : List UInt8 := []
def endO (e : Ng) (o1 o2 : Bool) : List AV := [strS e.ty, strS e.dev, .list o1 1 (bytesA e.fns), .lit (.int .i64 e.st), strS e.name, .list o2 1 (bytesA e.agreed)]
structure Small (e : Ng) : Prop where
  ty : e.ty.length ≤ 1000
  dev : e.dev.length ≤ 1000
  fns : e.fns.length ≤ 1000
  agreed : e.agreed.length ≤ 1000
/-- The end is so from now on. -/
def Up (σ : Store) (q : Nat) (e : Ng) (σ' : Store) : Prop := ∃ o1 o2, σ' = σ.upd q (endO e o1 o2)
def askB (e : Ng) : List UInt8 := 2 :: 7 :: e.ty ++ (if e.dev = [] then [] else 1 :: e.dev)
def Ng.asked (e : Ng) : Ng := { e with st := 1, name := [], agreed := [] }
def Ng.offered (e : Ng) : Ng := { e with st := 2, agreed := [] }
theorem str_nil (l : List UInt8) : ((ByteArray.mk l.toArray) == ⟨#[]⟩) = decide (l = []) := by
  cases l <;> rfl
set_option maxRecDepth 8000 in
theorem asks_calls (q : Nat) (e : Ng) (o1 o2 : Bool) (hs : Small e) (σ : Store) (h : σ q = some (endO e o1 o2)) :
    ACalls Tryz.prog 111 [ptrA q] σ fun v σ' => v = .list true 1 (bytesA (askB e)) ∧ Up σ q e.asked σ' := by
  obtain ⟨ty, dev, fns, st, name, agreed⟩ := e
  have h1 := hs.ty
  have h2 := hs.dev
  have hz1 := str_size ty
  have hz2 := str_size dev
  have hv1 := bytesV_mk ty
  have hv2 := bytesV_mk dev
  simp only at h1 h2
  unfold endO at h
  refine ACalls.of_awp follows (st := st111) (plans := pl111) (n := 36) Tryz.func111 rfl (by kernel_rfl) (by kernel_rfl) (by kernel_rfl) ?_
  simp [ptrA, h, hz1, hz2, hv1, hv2]
  refine ⟨by omega, by omega, ?_⟩
  by_cases hd : dev = []
  · subst hd
    simp
    exact ⟨_, AV.le_refl _, _, Store.sub_refl _, by simp [askB, bytesA, byteA_lit], o1, true, rfl⟩
  · simp [hd]
    refine ⟨by omega, by omega, by omega, by omega, _, AV.le_refl _, _, Store.sub_refl _, ?_, o1, true, rfl⟩
    simp [askB, hd, bytesA, byteA_lit]
set_option maxRecDepth 8000 in
theorem state_calls (q : Nat) (e : Ng) (o1 o2 : Bool) (σ : Store) (h : σ q = some (endO e o1 o2)) : ACalls Tryz.prog 27 [ptrA q] σ fun v σ' => v = .lit (.int .i64 e.st) ∧ σ' = σ := by
  unfold endO at h
  refine ACalls.of_awp follows (st := st27) (plans := pl27) (n := 9) Tryz.func27 rfl (by kernel_rfl) (by kernel_rfl) (by kernel_rfl) ?_
  simp [ptrA, h]
set_option maxRecDepth 8000 in
theorem ready_calls (q : Nat) (e : Ng) (o1 o2 : Bool) (σ : Store) (h : σ q = some (endO e o1 o2)) : ACalls Tryz.prog 37 [ptrA q] σ fun v σ' => v = .lit (.bool (decide (e.st = 3))) ∧ σ' = σ := by
  have hst := state_calls q e o1 o2 σ h
  unfold ptrA at hst
  have hd : ((e.st : Int) == 3) = decide (e.st = 3) := by rw [Bool.eq_iff_iff]; simp; omega
  refine ACalls.of_awp follows (st := st37) (plans := pl37) (n := 6) Tryz.func37 rfl (by kernel_rfl) (by kernel_rfl) (by kernel_rfl) ?_
  simp [ptrA]
  refine callK.of hst ?_
  rintro v σ' ⟨rfl, rfl⟩
  simp [hd]
set_option maxRecDepth 8000 in
theorem functions_calls (q : Nat) (e : Ng) (o1 o2 : Bool) (hs : Small e) (σ : Store) (h : σ q = some (endO e o1 o2)) :
    ACalls Tryz.prog 65 [ptrA q] σ fun v σ' => v = .list true 1 (bytesA (if e.st = 3 then e.agreed else [])) ∧ σ' = σ := by
  have hr := ready_calls q e o1 o2 σ h
  have hcl := fun τ => clone_calls false e.agreed τ (by have := hs.agreed; omega)
  unfold ptrA at hr
  unfold endO at h
  refine ACalls.of_awp follows (st := st65) (plans := pl65) (n := 11) Tryz.func65 rfl (by kernel_rfl) (by kernel_rfl) (by kernel_rfl) ?_
  simp [ptrA]
  refine callK.of hr ?_
  rintro v σ' ⟨rfl, rfl⟩
  by_cases h3 : e.st = 3
  · simp [h3, h]
    refine callK.of (hcl _) ?_
    rintro v σ' ⟨rfl, rfl⟩
    simp
  · simp [h3, bytesA]
def Ng.reset (e : Ng) : Ng := { e with st := 0, name := [], agreed := [] }
set_option maxRecDepth 8000 in
theorem reset_calls (q : Nat) (e : Ng) (o1 o2 : Bool) (σ : Store) (h : σ q = some (endO e o1 o2)) : ACalls Tryz.prog 94 [ptrA q] σ fun v σ' => v = .tuple [] ∧ Up σ q e.reset σ' := by
  unfold endO at h
  refine ACalls.of_awp follows (st := st94) (plans := pl94) (n := 13) Tryz.func94 rfl (by kernel_rfl) (by kernel_rfl) (by kernel_rfl) ?_
  simp [ptrA, h]
  exact ⟨_, AV.le_refl _, _, Store.sub_refl _, rfl, o1, true, rfl⟩
set_option maxRecDepth 8000 in
theorem offer_calls (q : Nat) (e : Ng) (o1 o2 o : Bool) (l : List UInt8) (hl : l.length ≤ 1000000) (σ : Store) (h : σ q = some (endO e o1 o2)) :
    ACalls Tryz.prog 125 [ptrA q, .list o 1 (bytesA l)] σ fun v σ' => v = .list true 1 (bytesA (3 :: 7 :: l)) ∧ Up σ q e.offered σ' := by
  unfold endO at h
  refine ACalls.of_awp follows (st := st125) (plans := pl125) (n := 14) Tryz.func125 rfl (by kernel_rfl) (by kernel_rfl) (by kernel_rfl) ?_
  simp [ptrA, h]
  exact ⟨by omega, by omega, _, AV.le_refl _, _, Store.sub_refl _, rfl, o1, true, rfl⟩
/-- A config that may be an end's: of what it is made. -/
def okC (e : Ng) : Prop := nameS e.ty = true ∧ (e.dev = [] ∨ nameS e.dev = true) ∧ Rises e.fns
instance (e : Ng) : Decidable (okC e) := by unfold okC; infer_instance
def confA (e : Ng) (o : Bool) : AV := .agg [strS e.ty, strS e.dev, .list o 1 (bytesA e.fns)]
def NewR (e : Ng) (σ : Store) (v : AV) (σ' : Store) : Prop :=
  (¬ okC e ∧ (∃ k : Nat, k ≠ 0 ∧ v = .tuple [.lit (.pointer none), .lit (.int .i64 k)]) ∧ σ' = σ) ∨
  (okC e ∧ ∃ q : Nat, σ q = none ∧ v = .tuple [ptrA q, .lit (.int .i64 0)] ∧ Up σ q { ty := e.ty, dev := e.dev, fns := e.fns } σ')
set_option maxRecDepth 8000 in
theorem nnew_calls (e : Ng) (o : Bool) (hs : Small e) (σ : Store) : ACalls Tryz.prog 54 [confA e o] σ (NewR e σ) := by
  obtain ⟨ty, dev, fns, st, name, agreed⟩ := e
  have h1 := hs.ty
  have h2 := hs.dev
  have h3 := hs.fns
  simp only at h1 h2 h3
  have n1 := fun τ => name_calls ty (by omega) τ
  have n2 := fun τ => name_calls dev (by omega) τ
  have nr := fun τ => rises_calls false fns (by omega) τ
  have ncl := fun τ => clone_calls false fns τ (by omega)
  have hz2 := str_nil dev
  have hoc : okC ⟨ty, dev, fns, st, name, agreed⟩ ↔ nameS ty = true ∧ (dev = [] ∨ nameS dev = true) ∧ Rises fns := Iff.rfl
  unfold confA
  refine ACalls.of_awp follows (st := st54) (plans := pl54) (n := 32) Tryz.func54 rfl (by kernel_rfl) (by kernel_rfl) (by kernel_rfl) ?_
  simp
  intro p hp
  refine callK.of (n1 _) ?_
  rintro v σ' ⟨rfl, rfl⟩
  cases e1 : nameS ty
  · simp
    exact ⟨_, AV.le_refl _, _, sub_upd_self _ _ _ hp, .inl ⟨fun h => by rw [hoc, e1] at h; simp at h, ⟨4, by decide, rfl⟩, rfl⟩⟩
  · by_cases hd : dev = []
    · simp [hd]
      refine callK.of (nr _) ?_
      rintro v σ' ⟨rfl, rfl⟩
      by_cases hr : Rises fns
      · simp [hr]
        refine callK.of (ncl _) ?_
        rintro v σ' ⟨rfl, rfl⟩
        simp
        intro r hr0
        rw [ite_none] at hr0
        refine ⟨_, AV.le_refl _, _, ?_, .inr ⟨⟨e1, .inl rfl, hr⟩, r, hr0.2, rfl, false, true, rfl⟩⟩
        unfold endO
        (intro q; simp only [Store.upd, Store.del]; (repeat' split) <;> first | exact Or.inr rfl | exact Or.inl rfl | (exfalso; omega) | (left; subst_vars; assumption) | simp_all)
      · simp [hr]
        exact ⟨_, AV.le_refl _, _, sub_upd_self _ _ _ hp, .inl ⟨fun h => hr h.2.2, ⟨1, by decide, rfl⟩, rfl⟩⟩
    · simp [hd]
      refine callK.of (n2 _) ?_
      rintro v σ' ⟨rfl, rfl⟩
      cases e2 : nameS dev
      · simp [hd]
        exact ⟨_, AV.le_refl _, _, sub_upd_self _ _ _ hp, .inl ⟨fun h => by rw [hoc, e2] at h; simp [hd] at h, ⟨4, by decide, rfl⟩, rfl⟩⟩
      · simp [hd]
        refine callK.of (nr _) ?_
        rintro v σ' ⟨rfl, rfl⟩
        by_cases hr : Rises fns
        · simp [hr]
          refine callK.of (ncl _) ?_
          rintro v σ' ⟨rfl, rfl⟩
          simp
          intro r hr0
          rw [ite_none] at hr0
          refine ⟨_, AV.le_refl _, _, ?_, .inr ⟨⟨e1, .inr e2, hr⟩, r, hr0.2, rfl, false, true, rfl⟩⟩
          unfold endO
          (intro q; simp only [Store.upd, Store.del]; (repeat' split) <;> first | exact Or.inr rfl | exact Or.inl rfl | (exfalso; omega) | (left; subst_vars; assumption) | simp_all)
        · simp [hr]
          exact ⟨_, AV.le_refl _, _, sub_upd_self _ _ _ hp, .inl ⟨fun h => hr h.2.2, ⟨1, by decide, rfl⟩, rfl⟩⟩
end Go.Proofs.YteaidaolablegaaGreatDoor
