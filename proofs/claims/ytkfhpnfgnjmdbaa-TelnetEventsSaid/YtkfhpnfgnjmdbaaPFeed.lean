/-
  Feed, of bytes by value and of bytes in a row; events compared.
-/
import Derived.Test.YtkfhpnfgnjmdbaaPParts
namespace Go.Proofs.Ytkfhpnfgnjmdbaa
open Go Go.AL

/-- How much a byte may add. -/
theorem take_len (r : Rd) (b : UInt8) : (r.take b).out.length ≤ r.out.length + 4 ∧ (r.take b).data.length ≤ r.data.length + 1 ∧ (r.take b).sub.length ≤ r.sub.length + 1 := by
  have hcom : ∀ q : Rd, (q.command b).out.length ≤ q.out.length + 2 ∧ (q.command b).data.length ≤ q.data.length + 1 ∧ (q.command b).sub.length ≤ q.sub.length := by
    intro q
    simp only [Rd.command]
    split
    · simp
    · split
      · simp
      · split
        · simp
        · have := tell_len q ⟨1, b, 0, [], false, false⟩
          have h2 := tell_sub q ⟨1, b, 0, [], false, false⟩
          rw [h2.1, h2.2.2]; simp; omega
  have hfin : ∀ (q : Rd) (x : Bool), (q.fin x).out.length ≤ q.out.length + 2 ∧ (q.fin x).data = [] ∧ (q.fin x).sub = [] := fin_len
  have hkeep := keep_len r b
  simp only [Rd.take]
  split
  · have := hcom r; omega
  · split
    · have := tell_len r ⟨2, r.verb, b, [], false, false⟩
      have h2 := tell_sub r ⟨2, r.verb, b, [], false, false⟩
      rw [h2.1, h2.2.2]; simp; omega
    · split
      · simp
      · split
        · split
          · simp
          · rw [hkeep.2.1, hkeep.2.2]; omega
        · split
          · split
            · rw [hkeep.2.1, hkeep.2.2]; omega
            · split
              · have := hfin r false; rw [this.2.1, this.2.2]; simp; omega
              · have h1 := hfin r true
                have h2 := hcom (r.fin true)
                rw [h1.2.1, h1.2.2] at h2; simp only [List.length_nil] at h2; omega
          · split
            · simp
            · simp

theorem feed_take (r : Rd) (p : List UInt8) (i : Nat) (h : i < p.length) : (r.feed (p.take i)).take p[i] = r.feed (p.take (i + 1)) := by
  simp only [Rd.feed]
  rw [List.take_succ_eq_append_getElem h, List.foldl_append]; rfl
theorem feed_len (r : Rd) (p : List UInt8) : (r.feed p).out.length ≤ r.out.length + 4 * p.length ∧ (r.feed p).data.length ≤ r.data.length + p.length ∧ (r.feed p).sub.length ≤ r.sub.length + p.length := by
  induction p generalizing r with
  | nil => simp [Rd.feed]
  | cons b p ih =>
    have h1 := take_len r b
    have h2 := ih (r.take b)
    simp only [Rd.feed, List.foldl_cons, List.length_cons] at *
    omega

/-- What Feed leaves. -/
def Rd.after (r : Rd) (p : List UInt8) : Rd := { (r.feed p).flush with out := [] }
def Rd.fed (r : Rd) (p : List UInt8) : List Ev := (r.feed p).flush.out

set_option maxRecDepth 4000 in
theorem feed_calls (a : Bool) (o : Nat) (r : Rd) (p : List UInt8) (σ : Store) (ho : σ o = some (rdA r)) (h1 : r.out.length ≤ 100) (h2 : r.data.length ≤ 100000) (h3 : r.sub.length ≤ 100000) (hp : p.length ≤ 100000) :
    ACalls Try.prog 12 [ptrA o, .list a 1 (bytesA p)] σ fun v σ' => v = .list true 6 (evsA (r.fed p)) ∧ σ' = σ.upd o (rdA (r.after p)) := by
  refine ACalls.of_awp follows (st := st12) (plans := pl12) (n := 30) Try.func12 rfl (by kernel_rfl) (by kernel_rfl) (by kernel_rfl) ?_
  simp
  refine codeK.loop follows (st := st12) (plans := pl12) (X := Nat) (fun i => i ≤ p.length)
    (fun i => [(0, ptrA o), (10, .list false 1 (bytesA p)), (11, .lit (.int .i64 p.length)), (12, .lit (.int .i64 i))]) (fun i => σ.upd o (rdA (r.feed (p.take i)))) (fun i => p.length - i) 0 (by kernel_rfl) (by omega) (by simp) ?_ fun i hi => ?_
  · intro q; simp only [Store.upd, Rd.feed, List.take_zero, List.foldl_nil]; split <;> simp_all
  have hl := feed_len r (p.take i)
  have hti : (p.take i).length ≤ p.length := by simp; omega
  by_cases hlt : i < p.length
  · simp [hlt, bytesA, byteA]
    refine callK.of (take_calls o (r.feed (p.take i)) p[i] _ (by simp) (by omega) (by omega) (by omega)) ?_
    rintro v σ' ⟨rfl, rfl⟩
    simp [feed_take r p i hlt]
    refine ⟨i + 1, by omega, by omega, ?_, Store.sub_refl _⟩
    rw [wrap_i64 (by omega) (by omega)]; exact le_of_eq rfl
  · obtain rfl : i = p.length := by omega
    simp
    refine callK.of (flush_calls o (r.feed p) _ (by simp) (by simp at hl; omega)) ?_
    rintro v σ' ⟨rfl, rfl⟩
    simp [rdA_eq (r.feed p).flush]
    refine ⟨AV.le_refl _, sub_eq ?_⟩
    simp [rdA, Rd.after, evsA]

set_option maxRecDepth 4000 in
/-- The same of bytes in a row that is an object. -/
theorem feedO_calls (o q cap : Nat) (r : Rd) (p : List UInt8) (rest : List AV) (σ : Store) (hne : o ≠ q) (hq : σ q = some (bytesA p ++ rest)) (ho : σ o = some (rdA r)) (h1 : r.out.length ≤ 100) (h2 : r.data.length ≤ 100000) (h3 : r.sub.length ≤ 100000) (hp : p.length ≤ 100000) :
    ACalls Try.prog 12 [ptrA o, rowA q cap p] σ fun v σ' => v = .list true 6 (evsA (r.fed p)) ∧ σ' = σ.upd o (rdA (r.after p)) := by
  refine ACalls.of_awp follows (st := st12) (plans := pl12) (n := 30) Try.func12 rfl (by kernel_rfl) (by kernel_rfl) (by kernel_rfl) ?_
  simp [rowA]
  refine codeK.loop follows (st := st12) (plans := pl12) (X := Nat) (fun i => i ≤ p.length)
    (fun i => [(0, ptrA o), (10, rowA q cap p), (11, .lit (.int .i64 p.length)), (12, .lit (.int .i64 i))]) (fun i => σ.upd o (rdA (r.feed (p.take i)))) (fun i => p.length - i) 0 (by kernel_rfl) (by omega) (by simp [rowA]) ?_ fun i hi => ?_
  · intro q; simp only [Store.upd, Rd.feed, List.take_zero, List.foldl_nil]; split <;> simp_all
  have hl := feed_len r (p.take i)
  have hti : (p.take i).length ≤ p.length := by simp; omega
  by_cases hlt : i < p.length
  · have hg : (bytesA p ++ rest)[i]? = some (byteA p[i]) := by rw [List.getElem?_append_left (by simpa using hlt), bytesA_get, List.getElem?_eq_getElem hlt]; rfl
    simp [hlt, rowA, hq, Ne.symm hne, hg]
    simp [byteA]
    refine callK.of (take_calls o (r.feed (p.take i)) p[i] _ (by simp) (by omega) (by omega) (by omega)) ?_
    rintro v σ' ⟨rfl, rfl⟩
    simp [feed_take r p i hlt]
    refine ⟨i + 1, by omega, by omega, ?_, Store.sub_refl _⟩
    rw [wrap_i64 (by omega) (by omega)]; exact le_of_eq rfl
  · obtain rfl : i = p.length := by omega
    simp [rowA]
    refine callK.of (flush_calls o (r.feed p) _ (by simp) (by simp at hl; omega)) ?_
    rintro v σ' ⟨rfl, rfl⟩
    simp [rdA_eq (r.feed p).flush]
    refine ⟨AV.le_refl _, sub_eq ?_⟩
    simp [rdA, Rd.after, evsA]

/-- A nil reader. -/
theorem feed_nil (a : Bool) (p : List UInt8) (σ : Store) :
    ACalls Try.prog 12 [.lit (.pointer none), .list a 1 (bytesA p)] σ fun v σ' => v = .list true 6 (evsA []) ∧ σ' = σ := by
  refine ACalls.of_awp follows (st := st12) (plans := pl12) (n := 30) Try.func12 rfl (by kernel_rfl) (by kernel_rfl) (by kernel_rfl) ?_
  simp [evsA]

set_option maxRecDepth 4000 in
theorem sameEv_calls (o o' : Bool) (l k : List Ev) (σ : Store) (hl : l.length ≤ 1000000) :
    ACalls Try.prog 10 [.list o 6 (evsA l), .list o' 6 (evsA k)] σ fun v σ' => v = .lit (.bool (decide (l = k))) ∧ σ' = σ := by
  refine ACalls.of_awp follows (st := st10) (plans := pl10) (n := 66) Try.func10 rfl (by kernel_rfl) (by kernel_rfl) (by kernel_rfl) ?_
  by_cases hlen : l.length = k.length
  · simp [hlen]
    refine codeK.loop follows (st := st10) (plans := pl10) (X := Nat) (fun i => i ≤ l.length ∧ l.take i = k.take i)
      (fun i => [(1, .list false 6 (evsA k)), (13, .list false 6 (evsA l)), (14, .lit (.int .i64 l.length)), (15, .lit (.int .i64 i))]) (fun _ => σ) (fun i => l.length - i) 0 (by kernel_rfl) (by simp) (by simp [hlen]) (by simp) fun i hi => ?_
    obtain ⟨hi, hik⟩ := hi
    by_cases hlt : i < l.length
    · have hkt : i < k.length := by omega
      have hbad : l[i] ≠ k[i] → l ≠ k := fun h e => h (by subst e; rfl)
      have byte_ne : ∀ {x y : UInt8}, x ≠ y → ¬ ((x.toNat : Int) = y.toNat) := fun h e => h (UInt8.toNat_inj.1 (by omega))
      have bad : l[i] ≠ k[i] → decide (l = k) = false := fun h => decide_eq_false (hbad h)
      by_cases c1 : l[i].kind = k[i].kind
      case neg =>
        have hb := bad (fun e => c1 (by rw [e]))
        simp [hlt, hkt, evsA, evA, byteA]
        intro p hp q hq
        have hne : q ≠ p := fun e => by subst e; simp at hq
        simp [hne, Ne.symm hne, c1, hb]
        (intro q; simp only [Store.upd, Store.del]; (repeat' split) <;> simp_all)
      by_cases c2 : l[i].verb = k[i].verb
      case neg =>
        have hb := bad (fun e => c2 (by rw [e]))
        simp [hlt, hkt, evsA, evA, byteA]
        intro p hp q hq
        have hne : q ≠ p := fun e => by subst e; simp at hq
        simp [hne, Ne.symm hne, c1, byte_ne c2, hb]
        (intro q; simp only [Store.upd, Store.del]; (repeat' split) <;> simp_all)
      by_cases c3 : l[i].opt = k[i].opt
      case neg =>
        have hb := bad (fun e => c3 (by rw [e]))
        simp [hlt, hkt, evsA, evA, byteA]
        intro p hp q hq
        have hne : q ≠ p := fun e => by subst e; simp at hq
        simp [hne, Ne.symm hne, c1, c2, byte_ne c3, hb]
        (intro q; simp only [Store.upd, Store.del]; (repeat' split) <;> simp_all)
      simp [hlt, hkt, evsA, evA, byteA]
      intro p hp q hq
      have hne : q ≠ p := fun e => by subst e; simp at hq
      simp [hne, Ne.symm hne, c1, c2, c3]
      refine callK.of (same_calls _ _ _ _ _) ?_
      rintro v σ' ⟨rfl, rfl⟩
      by_cases c4 : l[i].data = k[i].data
      case neg =>
        have hb := bad (fun e => c4 (by rw [e]))
        simp [hne, Ne.symm hne, c4, hb]
        (intro q; simp only [Store.upd, Store.del]; (repeat' split) <;> simp_all)
      by_cases c5 : l[i].long = k[i].long
      case neg =>
        have hb := bad (fun e => c5 (by rw [e]))
        simp [hne, Ne.symm hne, c4, c5, hb]
        (intro q; simp only [Store.upd, Store.del]; (repeat' split) <;> simp_all)
      by_cases c6 : l[i].broken = k[i].broken
      case neg =>
        have hb := bad (fun e => c6 (by rw [e]))
        simp [hne, Ne.symm hne, c4, c5, c6, hb]
        (intro q; simp only [Store.upd, Store.del]; (repeat' split) <;> simp_all)
      have e : l[i] = k[i] := by
        cases hx : l[i]; cases hy : k[i]
        simp only [hx, hy] at c1 c2 c3 c4 c5 c6
        simp [c1, c2, c3, c4, c5, c6]
      simp [hne, Ne.symm hne, c4, c5, c6]
      refine ⟨i + 1, ⟨by omega, ?_⟩, by omega, ?_, by (intro q; simp only [Store.upd, Store.del]; (repeat' split) <;> simp_all)⟩
      · rw [List.take_succ_eq_append_getElem hlt, List.take_succ_eq_append_getElem hkt, hik, e]
      · rw [wrap_i64 (by omega) (by omega)]; exact le_of_eq rfl
    · obtain rfl : i = l.length := by omega
      have e : l = k := by rw [List.take_length, hlen, List.take_length] at hik; exact hik
      simp [e]
  · have : l ≠ k := fun e => hlen (by rw [e])
    simp [show (l.length : Int) ≠ k.length by omega, this]
end Go.Proofs.Ytkfhpnfgnjmdbaa
