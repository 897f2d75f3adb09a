/-
  The reference: a subnegotiation.
-/
import Derived.Test.YtkfhpnfgnjmdbaaDoorPRef
namespace Go.Proofs.YtkfhpnfgnjmdbaaDoor
open Go Go.AL

/-- What has come of a subnegotiation. -/
def subRd (R : Rd) (o : UInt8) (all : List UInt8) : Rd := { R with opt := o, state := 4, sub := all.take 256, long := decide (256 < all.length) }
theorem subRd_keep (R : Rd) (o : UInt8) (all : List UInt8) (b : UInt8) (s : Int) : ({ subRd R o all with state := s } : Rd).keep b = subRd R o (all ++ [b]) := by
  simp only [Rd.keep, subRd, List.length_take, List.length_append, List.length_singleton]
  by_cases h : 256 ≤ all.length
  · rw [if_pos (by omega)]
    simp only [Rd.mk.injEq, true_and, and_true]
    exact ⟨by rw [List.take_append_of_le_length h], by simp; omega⟩
  · rw [if_neg (by omega)]
    simp only [Rd.mk.injEq, true_and, and_true]
    exact ⟨by rw [List.take_of_length_le (by omega), List.take_of_length_le (by simp; omega)], by simp; omega⟩
theorem subRd_told (R : Rd) (o : UInt8) (all : List UInt8) (s : Int) : ({ subRd R o all with state := s } : Rd).told = R.told := rfl
theorem command_state (r : Rd) (s : Int) (b : UInt8) : ({ r with state := s } : Rd).command b = r.command b := by
  simp only [Rd.command]
  split
  · rfl
  · split
    · rfl
    · split
      · rfl
      · simp [Rd.tell, Rd.flush]
theorem feed_cons (r : Rd) (b : UInt8) (p : List UInt8) : r.feed (b :: p) = (r.take b).feed p := rfl
theorem drop_cons (p : List UInt8) (i : Nat) (h : i < p.length) : p.drop i = p[i] :: p.drop (i + 1) := List.drop_eq_getElem_cons h

/-- What the reference says of a subnegotiation, and what the reader does there. -/
def SubSays (p : List UInt8) (i : Nat) (R : Rd) (e : Ev) (n : Int) : Prop :=
  (n = -1 ∧ (R.feed (p.drop i)).state ≠ 0 ∧ (R.feed (p.drop i)).told = R.told) ∨
  (∃ next : Nat, ∃ V : Rd, n = next ∧ i < next ∧ next ≤ p.length ∧ e.kind = 3 ∧ e.data.length + i ≤ next ∧ V.state = 0 ∧ V.sub = [] ∧ V.long = false ∧ V.told = mergeStep R.told e ∧ V.feed (p.drop next) = R.feed (p.drop i))

theorem subRd_start (R : Rd) (hs : R.state = 3) (hsub : R.sub = []) (hlong : R.long = false) (b : UInt8) : R.take b = subRd R b [] := by
  simp [Rd.take, hs, subRd, hsub, hlong]
theorem subRd_esc (R : Rd) (o : UInt8) (all : List UInt8) (b : UInt8) (h : (b.toNat : Int) = 255) : (subRd R o all).take b = { subRd R o all with state := 5 } := by
  simp [Rd.take, subRd, h]
theorem subRd_take (R : Rd) (o : UInt8) (all : List UInt8) (b : UInt8) (h : (b.toNat : Int) ≠ 255) : (subRd R o all).take b = subRd R o (all ++ [b]) := by
  rw [← subRd_keep R o all b 4]
  simp [Rd.take, subRd, h]
theorem subRd_two (R : Rd) (o : UInt8) (all : List UInt8) (b : UInt8) (h : (b.toNat : Int) = 255) : ({ subRd R o all with state := 5 } : Rd).take b = subRd R o (all ++ [b]) := by
  rw [← subRd_keep R o all b 5]
  simp [Rd.take, h]
theorem subRd_end (R : Rd) (o : UInt8) (all : List UInt8) (b : UInt8) (h : (b.toNat : Int) = 240) : ({ subRd R o all with state := 5 } : Rd).take b = (subRd R o all).fin false := by
  simp [Rd.take, h, Rd.fin, Rd.tell, Rd.flush, subRd]
theorem subRd_broken (R : Rd) (o : UInt8) (all : List UInt8) (b : UInt8) (h : (b.toNat : Int) ≠ 240) (h' : (b.toNat : Int) ≠ 255) : ({ subRd R o all with state := 5 } : Rd).take b = ((subRd R o all).fin true).command b := by
  simp [Rd.take, h, h', Rd.fin, Rd.tell, Rd.flush, subRd]
theorem fin_told (R : Rd) (o : UInt8) (all : List UInt8) (x : Bool) : ((subRd R o all).fin x).told = mergeStep R.told ⟨3, 0, o, all.take 256, decide (256 < all.length), x⟩ := by
  show ((subRd R o all).tell ⟨3, 0, o, all.take 256, decide (256 < all.length), x⟩).told = _
  rw [told_tell]; rfl
theorem fin_plain (r : Rd) (x : Bool) : (r.fin x).state = 0 ∧ (r.fin x).sub = [] ∧ (r.fin x).long = false := ⟨rfl, rfl, rfl⟩
theorem take_esc (r : Rd) (b : UInt8) (hs : r.state = 0) (h : (b.toNat : Int) = 255) : r.take b = { r with state := 1 } := by simp [Rd.take, hs, h]
theorem take_one (r : Rd) (b : UInt8) : ({ r with state := 1 } : Rd).take b = r.command b := by
  rw [← command_state r 1 b]; simp [Rd.take]

end Go.Proofs.YtkfhpnfgnjmdbaaDoor
