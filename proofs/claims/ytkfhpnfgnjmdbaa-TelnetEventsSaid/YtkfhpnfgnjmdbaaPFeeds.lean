/-
  A stream that is fed in parts, and what comes of it.
-/
import Derived.Test.YtkfhpnfgnjmdbaaPMerge
namespace Go.Proofs.Ytkfhpnfgnjmdbaa
open Go Go.AL

/-- The bytes that are kept or told. -/
def Rd.pot (r : Rd) : Nat := bytesIn r.out + r.data.length + r.sub.length
theorem bytesIn_append (l k : List Ev) : bytesIn (l ++ k) = bytesIn l + bytesIn k := by simp [bytesIn]
theorem bytesIn_one (e : Ev) : bytesIn [e] = e.data.length := by simp [bytesIn]
theorem flush_pot (r : Rd) : bytesIn r.flush.out = bytesIn r.out + r.data.length ∧ r.flush.data = [] ∧ r.flush.sub = r.sub := by
  refine ⟨?_, rfl, rfl⟩
  simp only [Rd.flush]
  split
  · rw [bytesIn_append, bytesIn_one]
  · omega
theorem tell_pot (r : Rd) (e : Ev) : bytesIn (r.tell e).out = bytesIn r.out + r.data.length + e.data.length ∧ (r.tell e).data = [] ∧ (r.tell e).sub = r.sub := by
  have := flush_pot r
  refine ⟨?_, rfl, rfl⟩
  simp only [Rd.tell]
  rw [bytesIn_append, bytesIn_one]; omega
theorem command_pot (r : Rd) (b : UInt8) : (r.command b).pot ≤ r.pot + 1 := by
  simp only [Rd.command]
  split
  · simp [Rd.pot]; omega
  · split
    · simp [Rd.pot]
    · split
      · simp [Rd.pot]
      · have := tell_pot r ⟨1, b, 0, [], false, false⟩
        simp only [Rd.pot, this.1, this.2.1, this.2.2, List.length_nil]; omega
theorem take_pot (r : Rd) (b : UInt8) : (r.take b).pot ≤ r.pot + 1 := by
  have hkeep : (r.keep b).pot ≤ r.pot + 1 := by
    simp only [Rd.keep]; split <;> simp [Rd.pot] <;> omega
  have hfin : ∀ x, (r.fin x).pot ≤ r.pot := fun x => by
    have := tell_pot r ⟨3, 0, r.opt, r.sub, r.long, x⟩
    simp only [Rd.fin, Rd.pot, this.1, this.2.1, List.length_nil]; omega
  simp only [Rd.take]
  split
  · exact command_pot r b
  · split
    · have := tell_pot r ⟨2, r.verb, b, [], false, false⟩
      simp only [Rd.pot, this.1, this.2.1, this.2.2, List.length_nil]; omega
    · split
      · simp [Rd.pot]
      · split
        · split
          · simp [Rd.pot]
          · exact hkeep
        · split
          · split
            · exact hkeep
            · split
              · have := hfin false; omega
              · have := hfin true; have := command_pot (r.fin true) b; omega
          · split
            · simp [Rd.pot]
            · simp [Rd.pot]; omega
theorem feed_pot (r : Rd) (p : List UInt8) : (r.feed p).pot ≤ r.pot + p.length := by
  induction p generalizing r with
  | nil => simp [Rd.feed]
  | cons b p ih =>
    have h1 := take_pot r b
    have h2 := ih (r.take b)
    simp only [Rd.feed, List.foldl_cons, List.length_cons] at *
    omega
/-- Fed bytes, by how many there are. -/
theorem fed_size (r : Rd) (p : List UInt8) (ho : r.out = []) (hd : r.data = []) : (r.fed p).length ≤ 5 * p.length ∧ bytesIn (r.fed p) + (r.after p).sub.length ≤ r.sub.length + p.length ∧ (r.after p).out = [] ∧ (r.after p).data = [] := by
  have h1 := feed_len r p
  have h2 := feed_pot r p
  have h3 := flush_len (r.feed p)
  have h4 := flush_pot (r.feed p)
  have h5 : r.pot = r.sub.length := by simp [Rd.pot, ho, hd, bytesIn]
  simp only [Rd.pot] at h2 h5
  refine ⟨?_, ?_, rfl, rfl⟩
  · cases p with
    | nil => simp [Rd.fed, Rd.feed, Rd.flush, ho, hd]
    | cons b p => simp only [Rd.fed, List.length_cons] at *; rw [ho] at h1; simp at h1; omega
  · simp only [Rd.fed, Rd.after]
    rw [h4.1, h4.2.2]; omega

@[simp] theorem bytesA_at (l : List UInt8) (i : Nat) (h : i < (bytesA l).length) : (bytesA l)[i] = byteA (l[i]'(by simpa using h)) := by simp [bytesA]
@[simp] theorem evsA_at (l : List Ev) (i : Nat) (h : i < (evsA l).length) : (evsA l)[i] = evA (l[i]'(by simpa using h)) := by simp [evsA]
structure St where
  r : Rd
  out : List Ev
  p : List UInt8
def St.cut (s : St) (c : UInt8) : St := ⟨s.r.after (s.p.take (min c.toNat s.p.length)), s.out ++ s.r.fed (s.p.take (min c.toNat s.p.length)), s.p.drop (min c.toNat s.p.length)⟩
def St.cuts (s : St) (l : List UInt8) : St := l.foldl St.cut s
def St.ok (s : St) (n : Nat) : Prop := s.r.out = [] ∧ s.r.data = [] ∧ s.out.length + 5 * s.p.length ≤ 5 * n ∧ bytesIn s.out + s.r.sub.length + s.p.length ≤ n
theorem St.cut_ok {s : St} {n : Nat} (h : s.ok n) (c : UInt8) : (s.cut c).ok n := by
  obtain ⟨h1, h2, h3, h4⟩ := h
  obtain ⟨q1, q2, q3, q4⟩ := fed_size s.r (s.p.take (min c.toNat s.p.length)) h1 h2
  refine ⟨q3, q4, ?_, ?_⟩
  · simp only [St.cut, List.length_append, List.length_drop, List.length_take] at *; omega
  · simp only [St.cut, bytesIn_append, List.length_drop, List.length_take] at *; omega
theorem St.cuts_ok {s : St} {n : Nat} (h : s.ok n) (l : List UInt8) : (s.cuts l).ok n := by
  induction l generalizing s with
  | nil => exact h
  | cons c l ih => exact ih (St.cut_ok h c)
theorem St.cuts_take (s : St) (l : List UInt8) (i : Nat) (h : i < l.length) : (s.cuts (l.take i)).cut l[i] = s.cuts (l.take (i + 1)) := by
  simp only [St.cuts]
  rw [List.take_succ_eq_append_getElem h, List.foldl_append]; rfl
def St.start (p : List UInt8) : St := ⟨.init, [], p⟩
theorem St.start_ok (p : List UInt8) : (St.start p).ok p.length := by simp [St.ok, St.start, Rd.init, bytesIn]
/-- All events, not yet merged; the reader behind. -/
def fedAll (p cuts : List UInt8) : List Ev := ((St.start p).cuts cuts).out ++ ((St.start p).cuts cuts).r.fed ((St.start p).cuts cuts).p
def endAll (p cuts : List UInt8) : Rd := ((St.start p).cuts cuts).r.after ((St.start p).cuts cuts).p

set_option maxHeartbeats 1000000 in
set_option maxRecDepth 4000 in
theorem feeds_calls (a b : Bool) (p cuts : List UInt8) (σ : Store) (hp : p.length ≤ 10000) (hc : cuts.length ≤ 9223372036854775807) :
    ACalls Try.prog 17 [.list a 1 (bytesA p), .list b 1 (bytesA cuts)] σ fun v σ' => v = .tuple [.list true 6 (evsA (merge (fedAll p cuts))), .lit (.bool ((endAll p cuts).state != 0))] ∧ σ' = σ := by
  refine ACalls.of_awp follows (st := st17) (plans := pl17) (n := 48) Try.func17 rfl (by kernel_rfl) (by kernel_rfl) (by kernel_rfl) ?_
  simp
  refine callK.of (new_calls σ) ?_
  rintro v σ' ⟨o, ho, rfl, rfl⟩
  simp
  refine codeK.loop follows (st := st17) (plans := pl17) (X := Nat) (fun i => i ≤ cuts.length)
    (fun i => [(0, .list false 1 (bytesA ((St.start p).cuts (cuts.take i)).p)), (6, ptrA o), (7, .list true 6 (evsA ((St.start p).cuts (cuts.take i)).out)), (13, .list false 1 (bytesA cuts)), (14, .lit (.int .i64 cuts.length)), (15, .lit (.int .i64 i))])
    (fun i => σ.upd o (rdA ((St.start p).cuts (cuts.take i)).r)) (fun i => cuts.length - i) 0 (by kernel_rfl) (by omega) (by simp [St.cuts, St.start, evsA]) (by simp [St.cuts, St.start]) fun i hi => ?_
  have hok := St.cuts_ok (St.start_ok p) (cuts.take i)
  by_cases hlt : i < cuts.length
  · have hst := St.cuts_take (St.start p) cuts i hlt
    have hok' := St.cuts_ok (St.start_ok p) (cuts.take (i + 1))
    rw [← hst] at hok'
    generalize (St.start p).cuts (cuts.take i) = s at *
    obtain ⟨h1, h2, h3, h4⟩ := hok
    have hcb := cuts[i].toNat_lt
    have hwc : IntKind.i64.wrap (cuts[i].toNat : Int) = (cuts[i].toNat : Int) := wrap_i64 (by omega) (by omega)
    obtain ⟨n, hn⟩ : ∃ n, n = min cuts[i].toNat s.p.length := ⟨_, rfl⟩
    have hmin : (if s.p.length < cuts[i].toNat then (s.p.length : Int) else (cuts[i].toNat : Int)) = (n : Int) := by split <;> omega
    have hnl : n ≤ s.p.length := by omega
    have hwr : IntKind.i64.wrap ((i : Int) + 1) = ((i + 1 : Nat) : Int) := wrap_i64 (by omega) (by omega)
    obtain ⟨pp, hpp⟩ : ∃ pp, pp = s.p.take n := ⟨_, rfl⟩
    have hpl : pp.length ≤ s.p.length := by rw [hpp]; simp; omega
    have hcut : s.cut cuts[i] = ⟨s.r.after pp, s.out ++ s.r.fed pp, s.p.drop n⟩ := by rw [St.cut, ← hn, ← hpp]
    rw [hcut] at hst hok'
    have hsz := fed_size s.r pp h1 h2
    simp [hlt, byteA, hwc, hmin, hnl, bytesA_take, ← hpp]
    refine callK.of (copyO_calls false pp _ (by omega)) ?_
    rintro v σ' ⟨q, cap, rest, hq, rfl, rfl, hrest⟩
    rw [supd_apply, ite_none] at hq
    obtain ⟨hqo, hqs⟩ := hq
    simp [rowA]
    refine callK.of (feedO_calls o q cap s.r pp rest _ (Ne.symm hqo) (by simp) (by simp [Ne.symm hqo]) (by rw [h1]; simp) (by rw [h2]; simp) (by omega) (by omega)) ?_
    rintro v σ' ⟨rfl, rfl⟩
    simp
    refine ⟨by omega, by omega, ?_⟩
    refine callK.of (flip_calls q cap pp rest _ (by simp [hqo, Ne.symm hqo]) (by omega)) ?_
    rintro v σ' ⟨rfl, rfl⟩
    simp [hnl, bytesA_drop]
    refine ⟨i + 1, by omega, by omega, ⟨?_, ?_, ?_⟩, ?_⟩
    · rw [← hst]; simp [bytesA_take, bytesA_drop]
    · rw [← hst, evsA_append]; exact AV.le_refl _
    · rw [hwr]; exact AV.le_refl _
    · rw [← hst]; (intro q; simp only [Store.upd, Store.del]; (repeat' split) <;> simp_all)
  · obtain rfl : i = cuts.length := by omega
    rw [List.take_length] at hok
    obtain ⟨h1, h2, h3, h4⟩ := hok
    have hsz := fed_size _ ((St.start p).cuts cuts).p h1 h2
    have hl2 : (fedAll p cuts).length ≤ 100000 := by simp [fedAll]; omega
    have hb2 : bytesIn (fedAll p cuts) ≤ 100000 := by rw [fedAll, bytesIn_append]; omega
    simp
    refine callK.of (feed_calls false o ((St.start p).cuts cuts).r ((St.start p).cuts cuts).p _ (by simp) (by rw [h1]; simp) (by rw [h2]; simp) (by omega) (by omega)) ?_
    rintro v σ' ⟨rfl, rfl⟩
    simp [← evsA_append]
    refine ⟨by omega, by omega, ?_⟩
    refine callK.of (merge_calls false (fedAll p cuts) _ (by omega) (by omega)) ?_
    rintro v σ' ⟨rfl, rfl⟩
    simp
    refine callK.of (waiting_calls o (endAll p cuts) _ (by simp [endAll])) ?_
    rintro v σ' ⟨rfl, rfl⟩
    simp
    (intro q; simp only [Store.upd, Store.del]; (repeat' split) <;> simp_all)
end Go.Proofs.Ytkfhpnfgnjmdbaa
