/-
  The reference: a subnegotiation.
-/
import Derived.Test.YtkfhpnfgnjmdbaaPRef
namespace Go.Proofs.Ytkfhpnfgnjmdbaa
open Go Go.AL

/-- What has come of a subnegotiation. -/
def subRd (R : Rd) (o : UInt8) (all : List UInt8) : Rd := { R with opt := o, state := 4, sub := all.take 256, long := decide (256 < all.length) }
theorem subRd_keep (R : Rd) (o : UInt8) (all : List UInt8) (b : UInt8) (s : Int) : ({ subRd R o all with state := s } : Rd).keep b = subRd R o (all ++ [b]) := by
  simp only [Rd.keep, subRd, List.length_take, List.length_append, List.length_singleton]
  by_cases h : 256 ≤ all.length
  · rw [if_pos (by omega)]
    simp only [Rd.mk.injEq, true_and, and_true]
    exact ⟨by rw [List.take_append_of_le_length h], by simp; omega⟩
  · rw [if_neg (by omega)]
    simp only [Rd.mk.injEq, true_and, and_true]
    exact ⟨by rw [List.take_of_length_le (by omega), List.take_of_length_le (by simp; omega)], by simp; omega⟩
theorem subRd_told (R : Rd) (o : UInt8) (all : List UInt8) (s : Int) : ({ subRd R o all with state := s } : Rd).told = R.told := rfl
theorem command_state (r : Rd) (s : Int) (b : UInt8) : ({ r with state := s } : Rd).command b = r.command b := by
  simp only [Rd.command]
  split
  · rfl
  · split
    · rfl
    · split
      · rfl
      · simp [Rd.tell, Rd.flush]
theorem feed_cons (r : Rd) (b : UInt8) (p : List UInt8) : r.feed (b :: p) = (r.take b).feed p := rfl
theorem drop_cons (p : List UInt8) (i : Nat) (h : i < p.length) : p.drop i = p[i] :: p.drop (i + 1) := List.drop_eq_getElem_cons h

/-- What the reference says of a subnegotiation, and what the reader does there. -/
def SubSays (p : List UInt8) (i : Nat) (R : Rd) (e : Ev) (n : Int) : Prop :=
  (n = -1 ∧ (R.feed (p.drop i)).state ≠ 0 ∧ (R.feed (p.drop i)).told = R.told) ∨
  (∃ next : Nat, ∃ V : Rd, n = next ∧ i < next ∧ next ≤ p.length ∧ e.kind = 3 ∧ e.data.length + i ≤ next ∧ V.state = 0 ∧ V.sub = [] ∧ V.long = false ∧ V.told = mergeStep R.told e ∧ V.feed (p.drop next) = R.feed (p.drop i))

theorem subRd_start (R : Rd) (hs : R.state = 3) (hsub : R.sub = []) (hlong : R.long = false) (b : UInt8) : R.take b = subRd R b [] := by
  simp [Rd.take, hs, subRd, hsub, hlong]
theorem subRd_esc (R : Rd) (o : UInt8) (all : List UInt8) (b : UInt8) (h : (b.toNat : Int) = 255) : (subRd R o all).take b = { subRd R o all with state := 5 } := by
  simp [Rd.take, subRd, h]
theorem subRd_take (R : Rd) (o : UInt8) (all : List UInt8) (b : UInt8) (h : (b.toNat : Int) ≠ 255) : (subRd R o all).take b = subRd R o (all ++ [b]) := by
  rw [← subRd_keep R o all b 4]
  simp [Rd.take, subRd, h]
theorem subRd_two (R : Rd) (o : UInt8) (all : List UInt8) (b : UInt8) (h : (b.toNat : Int) = 255) : ({ subRd R o all with state := 5 } : Rd).take b = subRd R o (all ++ [b]) := by
  rw [← subRd_keep R o all b 5]
  simp [Rd.take, h]
theorem subRd_end (R : Rd) (o : UInt8) (all : List UInt8) (b : UInt8) (h : (b.toNat : Int) = 240) : ({ subRd R o all with state := 5 } : Rd).take b = (subRd R o all).fin false := by
  simp [Rd.take, h, Rd.fin, Rd.tell, Rd.flush, subRd]
theorem subRd_broken (R : Rd) (o : UInt8) (all : List UInt8) (b : UInt8) (h : (b.toNat : Int) ≠ 240) (h' : (b.toNat : Int) ≠ 255) : ({ subRd R o all with state := 5 } : Rd).take b = ((subRd R o all).fin true).command b := by
  simp [Rd.take, h, h', Rd.fin, Rd.tell, Rd.flush, subRd]
theorem fin_told (R : Rd) (o : UInt8) (all : List UInt8) (x : Bool) : ((subRd R o all).fin x).told = mergeStep R.told ⟨3, 0, o, all.take 256, decide (256 < all.length), x⟩ := by
  show ((subRd R o all).tell ⟨3, 0, o, all.take 256, decide (256 < all.length), x⟩).told = _
  rw [told_tell]; rfl
theorem fin_plain (r : Rd) (x : Bool) : (r.fin x).state = 0 ∧ (r.fin x).sub = [] ∧ (r.fin x).long = false := ⟨rfl, rfl, rfl⟩
theorem take_esc (r : Rd) (b : UInt8) (hs : r.state = 0) (h : (b.toNat : Int) = 255) : r.take b = { r with state := 1 } := by simp [Rd.take, hs, h]
theorem take_one (r : Rd) (b : UInt8) : ({ r with state := 1 } : Rd).take b = r.command b := by
  rw [← command_state r 1 b]; simp [Rd.take]

set_option maxHeartbeats 1000000 in
set_option maxRecDepth 4000 in
theorem sub_calls (a : Bool) (p : List UInt8) (i : Nat) (R : Rd) (hs : R.state = 3) (hsub : R.sub = []) (hlong : R.long = false) (σ : Store) (hp : p.length ≤ 1000000) (hi : i ≤ p.length) :
    ACalls Try.prog 27 [.list a 1 (bytesA p), .lit (.int .i64 i)] σ fun v σ' => (∃ e n, v = .tuple [evA e, .lit (.int .i64 n)] ∧ SubSays p i R e n) ∧ σ' = σ := by
  refine ACalls.of_awp follows (st := st27) (plans := pl27) (n := 75) Try.func27 rfl (by kernel_rfl) (by kernel_rfl) (by kernel_rfl) ?_
  by_cases hlt : i < p.length
  case neg =>
    have hd : p.drop i = [] := List.drop_of_length_le (by omega)
    have hz : SubSays p i R ⟨0, 0, 0, [], false, false⟩ (-1) := .inl ⟨rfl, by rw [hd]; simp [Rd.feed, hs], by rw [hd]; rfl⟩
    simp [show ¬ i < p.length from hlt, show p.length ≤ i by omega]
    exact fun q hq => ⟨.tuple [evA ⟨0, 0, 0, [], false, false⟩, .lit (.int .i64 (-1))], by simp [evA, byteA, bytesA], by (intro q; simp only [Store.upd, Store.del]; (repeat' split) <;> simp_all), _, _, rfl, hz⟩
  simp [hlt, show ¬ p.length ≤ i by omega, byteA]
  intro q4 h4 q6 h6
  rw [ite_none] at h6
  obtain ⟨n1, h6⟩ := h6
  have n2 := Ne.symm n1
  have hw1 : IntKind.i64.wrap ((i : Int) + 1) = ((i + 1 : Nat) : Int) := by rw [wrap_i64 (by omega) (by omega)]; omega
  rw [hw1]
  refine codeK.loop follows (st := st27) (plans := pl27) (X := Nat × List UInt8) (fun x => i < x.1 ∧ x.1 ≤ p.length ∧ x.2.length + i + 1 ≤ x.1 ∧ R.feed (p.drop i) = (subRd R p[i] x.2).feed (p.drop x.1))
    (fun x => [(0, .list false 1 (bytesA p)), (1, .lit (.int .i64 x.1)), (4, ptrA q4), (6, ptrA q6), (7, .list true 1 (bytesA x.2))])
    (fun _ => (σ.upd q4 [.lit (.int .i64 0), .lit (.int .u8 0), .lit (.int .u8 0), .list true 1 [], .lit (.bool false), .lit (.bool false)]).upd q6 [.lit (.int .i64 3), .lit (.int .u8 0), .lit (.int .u8 p[i].toNat), .list true 1 [], .lit (.bool false), .lit (.bool false)])
    (fun x => p.length - x.1) (i + 1, []) (by kernel_rfl) ⟨by simp, by simp; omega, by simp, by rw [drop_cons p i hlt, feed_cons, subRd_start R hs hsub hlong]⟩ (by simp [bytesA]) (Store.sub_refl _) fun x hx => ?_
  obtain ⟨j, all⟩ := x
  obtain ⟨h1, h2, h3, h4'⟩ := hx
  dsimp only at h1 h2 h3 h4' ⊢
  have hz : (R.feed (p.drop i)).state ≠ 0 → (R.feed (p.drop i)).told = R.told → SubSays p i R ⟨0, 0, 0, [], false, false⟩ (-1) := fun a b => .inl ⟨rfl, a, b⟩
  have hw2 : IntKind.i64.wrap ((j : Int) + 1) = ((j + 1 : Nat) : Int) := by rw [wrap_i64 (by omega) (by omega)]; omega
  by_cases hj : j < p.length
  case neg =>
    have hd : p.drop j = [] := List.drop_of_length_le (by omega)
    have hz' := hz (by rw [h4', hd]; simp [Rd.feed, subRd]) (by rw [h4', hd]; rfl)
    simp [hj, n1, n2]
    exact ⟨.tuple [evA ⟨0, 0, 0, [], false, false⟩, .lit (.int .i64 (-1))], by simp [evA, byteA, bytesA], by (intro q; simp only [Store.upd, Store.del]; (repeat' split) <;> simp_all), _, _, rfl, hz'⟩
  have hf := drop_cons p j hj
  by_cases hb : (p[j].toNat : Int) = 255
  case neg =>
    simp [hj, n1, n2, hb, byteA, hw2]
    exact ⟨by omega, by omega, j + 1, all ++ [p[j]], ⟨by omega, by omega, by simp; omega, by rw [h4', hf, feed_cons, subRd_take _ _ _ _ hb]⟩, by omega, by simp, by simp [bytesA, byteA]⟩
  have z0 : (0 : Int) ≤ (j : Int) + 1 := by omega
  by_cases hj1 : j + 1 < p.length
  case neg =>
    have z1 : (p.length : Int) ≤ (j : Int) + 1 := by omega
    have hd : p.drop (j + 1) = [] := List.drop_of_length_le (by omega)
    have hz' := hz (by rw [h4', hf, feed_cons, subRd_esc _ _ _ _ hb, hd]; simp [Rd.feed]) (by rw [h4', hf, feed_cons, subRd_esc _ _ _ _ hb, hd]; rfl)
    simp [hj, n1, n2, hb, byteA, hw2, z1]
    exact ⟨.tuple [evA ⟨0, 0, 0, [], false, false⟩, .lit (.int .i64 (-1))], by simp [evA, byteA, bytesA], by (intro q; simp only [Store.upd, Store.del]; (repeat' split) <;> simp_all), _, _, rfl, hz'⟩
  have z1 : ¬ (p.length : Int) ≤ (j : Int) + 1 := by omega
  have hf2 := drop_cons p (j + 1) hj1
  have hg : (bytesA p)[j + 1]? = some (byteA p[j + 1]) := by rw [bytesA_get, List.getElem?_eq_getElem hj1]; rfl
  have hw3 : IntKind.i64.wrap ((j : Int) + 1 + 1) = (j : Int) + 2 := by rw [wrap_i64 (by omega) (by omega)]; omega
  have hw4 : IntKind.i64.wrap ((j : Int) + 2) = (j : Int) + 2 := by rw [wrap_i64 (by omega) (by omega)]
  by_cases hb2 : (p[j+1].toNat : Int) = 255
  · simp [hj, n1, n2, hb, byteA, hw2, z1, z0, hg, hb2, hw3]
    refine ⟨by omega, by omega, j + 2, all ++ [p[j+1]], ⟨by omega, by omega, by simp; omega, by rw [h4', hf, feed_cons, subRd_esc _ _ _ _ hb, hf2, feed_cons, subRd_two _ _ _ _ hb2]⟩, by omega, by simp, by simp [bytesA, byteA, hb2]⟩
  have hlen : all.length ≤ 1000000 := by omega
  have h256 : decide ((256 : Int) < (all.length : Int)) = decide (256 < all.length) := by rw [decide_eq_decide]; omega
  by_cases hb3 : (p[j+1].toNat : Int) = 240
  · simp [hj, n1, n2, hb, byteA, hw2, z1, z0, hg, hb2, hw3, hb3]
    refine callK.of (cut_calls false all 256 _ (by omega)) ?_
    rintro v σ' ⟨rfl, rfl⟩
    simp [hj, n1, n2, hb, byteA, hw2, z1, z0, hg, hb2, hw3, hb3, hw4]
    refine ⟨.tuple [evA ⟨3, 0, p[i], all.take 256, decide (256 < all.length), false⟩, .lit (.int .i64 ((j + 2 : Nat) : Int))], by rw [h256]; simp only [evA, byteA]; exact AV.le_refl _, Store.sub_upd h4 (Store.sub_upd h6 (Store.sub_upd h4 (Store.sub_refl _))), _, _, rfl, .inr ⟨j + 2, (subRd R p[i] all).fin false, rfl, by omega, by omega, rfl, by simp; omega, rfl, rfl, rfl, fin_told .., ?_⟩⟩
    rw [h4', hf, feed_cons, subRd_esc _ _ _ _ hb, hf2, feed_cons, subRd_end _ _ _ _ hb3]
  · simp [hj, n1, n2, hb, byteA, hw2, z1, z0, hg, hb2, hw3, hb3]
    refine callK.of (cut_calls false all 256 _ (by omega)) ?_
    rintro v σ' ⟨rfl, rfl⟩
    simp [hj, n1, n2, hb, byteA, hw2, z1, z0, hg, hb2, hw3, hb3, hw4]
    refine ⟨.tuple [evA ⟨3, 0, p[i], all.take 256, decide (256 < all.length), true⟩, .lit (.int .i64 (j : Int))], by rw [h256]; simp only [evA, byteA]; exact AV.le_refl _, Store.sub_upd h4 (Store.sub_upd h6 (Store.sub_upd h4 (Store.sub_refl _))), _, _, rfl, .inr ⟨j, (subRd R p[i] all).fin true, rfl, by omega, by omega, rfl, by simp; omega, rfl, rfl, rfl, fin_told .., ?_⟩⟩
    rw [h4', hf, feed_cons, feed_cons, subRd_esc _ _ _ _ hb, hf2, feed_cons, feed_cons, subRd_broken _ _ _ _ hb3 hb2, take_esc _ _ rfl hb, take_one]
end Go.Proofs.Ytkfhpnfgnjmdbaa
