/-
  The reader's methods do what their pure models do.
-/
import Derived.Test.YtkfhpnfgnjmdbaaPBase
namespace Go.Proofs.Ytkfhpnfgnjmdbaa
open Go Go.AL
abbrev ptrA (o : Nat) : AV := .lit (.pointer (some ⟨o, 0, none⟩))
/-- The reader's cells, written out. -/
theorem rdA_eq (r : Rd) : rdA r = [.lit (.int .i64 r.state), byteA r.verb, byteA r.opt, .list true 1 (bytesA r.data), .list true 1 (bytesA r.sub), .lit (.bool r.long), .list true 6 (evsA r.out)] := rfl

set_option maxRecDepth 4000 in
theorem flush_calls (o : Nat) (r : Rd) (σ : Store) (ho : σ o = some (rdA r)) (hl : r.out.length ≤ 1000000) :
    ACalls Try.prog 23 [ptrA o] σ fun v σ' => v = .tuple [] ∧ σ' = σ.upd o (rdA r.flush) := by
  refine ACalls.of_awp follows (st := st23) (plans := pl23) (n := 25) Try.func23 rfl (by kernel_rfl) (by kernel_rfl) (by kernel_rfl) ?_
  rw [rdA_eq r] at ho
  simp [ho]
  split
  · rename_i h
    refine ⟨by omega, by omega, sub_eq ?_⟩
    simp [rdA, Rd.flush, h, evsA, evA, byteA, bytesA_nil]
  · rename_i h
    refine sub_eq ?_
    simp [rdA, Rd.flush, h, bytesA_nil]

set_option maxRecDepth 4000 in
theorem keep_calls (o : Nat) (r : Rd) (b : UInt8) (σ : Store) (ho : σ o = some (rdA r)) (hl : r.sub.length ≤ 1000000) :
    ACalls Try.prog 31 [ptrA o, byteA b] σ fun v σ' => v = .tuple [] ∧ σ' = σ.upd o (rdA (r.keep b)) := by
  refine ACalls.of_awp follows (st := st31) (plans := pl31) (n := 26) Try.func31 rfl (by kernel_rfl) (by kernel_rfl) (by kernel_rfl) ?_
  rw [rdA_eq r] at ho
  simp [ho, byteA]
  split
  · rename_i h
    refine sub_eq ?_
    simp [rdA, Rd.keep, show 256 ≤ r.sub.length by omega, byteA]
  · rename_i h
    refine ⟨by omega, by omega, sub_eq ?_⟩
    simp [rdA, Rd.keep, show ¬ 256 ≤ r.sub.length by omega, byteA, bytesA]

theorem flush_len (r : Rd) : r.flush.out.length ≤ r.out.length + 1 := by simp only [Rd.flush]; split <;> simp
theorem tell_len (r : Rd) (e : Ev) : (r.tell e).out.length ≤ r.out.length + 2 := by have := flush_len r; simp [Rd.tell]; omega
theorem tell_sub (r : Rd) (e : Ev) : (r.tell e).sub = r.sub ∧ (r.tell e).opt = r.opt ∧ (r.tell e).data = [] := by simp [Rd.tell, Rd.flush]

set_option maxRecDepth 4000 in
theorem tell_calls (o : Nat) (r : Rd) (e : Ev) (σ : Store) (ho : σ o = some (rdA r)) (hl : r.out.length ≤ 900000) :
    ACalls Try.prog 30 [ptrA o, evA e] σ fun v σ' => v = .tuple [] ∧ σ' = σ.upd o (rdA (r.tell e)) := by
  refine ACalls.of_awp follows (st := st30) (plans := pl30) (n := 19) Try.func30 rfl (by kernel_rfl) (by kernel_rfl) (by kernel_rfl) ?_
  simp [ho, evA, byteA]
  intro p hp
  have hne : o ≠ p := fun h => by subst h; rw [ho] at hp; cases hp
  refine callK.of (flush_calls o r _ (by simp [hne, ho]) (by omega)) ?_
  rintro v σ' ⟨rfl, rfl⟩
  simp [rdA_eq r.flush, hne, Ne.symm hne]
  have hfl := flush_len r
  refine ⟨by omega, by omega, sub_box hp hne ?_⟩
  simp [rdA, Rd.tell, evsA, evA, byteA]

set_option maxRecDepth 4000 in
theorem end_calls (o : Nat) (r : Rd) (b : Bool) (σ : Store) (ho : σ o = some (rdA r)) (hl : r.out.length ≤ 900000) :
    ACalls Try.prog 32 [ptrA o, .lit (.bool b)] σ fun v σ' => v = .tuple [] ∧ σ' = σ.upd o (rdA (r.fin b)) := by
  refine ACalls.of_awp follows (st := st32) (plans := pl32) (n := 26) Try.func32 rfl (by kernel_rfl) (by kernel_rfl) (by kernel_rfl) ?_
  simp [ho, rdA_eq r, byteA]
  refine callK.of (tell_calls o r ⟨3, 0, r.opt, r.sub, r.long, b⟩ _ ho hl) ?_
  rintro v σ' ⟨rfl, rfl⟩
  simp [rdA_eq (r.tell _)]
  refine sub_eq ?_
  simp [rdA, Rd.fin, bytesA_nil]

set_option maxRecDepth 4000 in
theorem command_calls (o : Nat) (r : Rd) (b : UInt8) (σ : Store) (ho : σ o = some (rdA r)) (hl : r.out.length ≤ 900000) (hd : r.data.length ≤ 1000000) :
    ACalls Try.prog 29 [ptrA o, byteA b] σ fun v σ' => v = .tuple [] ∧ σ' = σ.upd o (rdA (r.command b)) := by
  refine ACalls.of_awp follows (st := st29) (plans := pl29) (n := 44) Try.func29 rfl (by kernel_rfl) (by kernel_rfl) (by kernel_rfl) ?_
  have hob := ho
  rw [rdA_eq r] at ho
  by_cases h1 : (b.toNat : Int) = 255
  · simp [ho, byteA, h1]
    refine ⟨by omega, by omega, sub_eq ?_⟩
    simp [rdA, Rd.command, h1, byteA, bytesA]
  by_cases h2 : (b.toNat : Int) = 250
  · simp [ho, byteA, h1, h2]
    refine sub_eq ?_
    simp [rdA, Rd.command, h1, h2, byteA]
  by_cases h3 : 251 ≤ (b.toNat : Int) ∧ (b.toNat : Int) ≤ 254
  · simp [ho, byteA, h1, h2, h3]
    refine sub_eq ?_
    simp [rdA, Rd.command, h1, h2, h3, byteA]
  · have key : Rd.command r b = r.tell ⟨1, b, 0, [], false, false⟩ := by simp [Rd.command, h1, h2, h3]
    have fin : ∀ {x : List AV} {R : AV → Store → Prop} {t : Tag R}, AllLe x [ptrA o, evA ⟨1, b, 0, [], false, false⟩] → (∀ σ', σ' = σ.upd o (rdA (r.command b)) → R (.tuple []) σ') → callK Try.prog 30 x σ R t := fun hx hr =>
      callK.le hx (tell_calls o r ⟨1, b, 0, [], false, false⟩ σ hob hl) (by rintro v σ' ⟨rfl, rfl⟩; exact hr _ (by rw [key]))
    by_cases h4 : 251 ≤ (b.toNat : Int)
    · have h5 : ¬ (b.toNat : Int) ≤ 254 := fun h => h3 ⟨h4, h⟩
      simp [ho, byteA, h1, h2, h4, h5]
      refine fin (by simp [evA, byteA, bytesA_nil]; exact AV.le_agg (by simp)) ?_
      rintro σ' rfl
      simp
    · simp [ho, byteA, h1, h2, h4]
      refine fin (by simp [evA, byteA, bytesA_nil]; exact AV.le_agg (by simp)) ?_
      rintro σ' rfl
      simp

theorem keep_len (r : Rd) (b : UInt8) : (r.keep b).sub.length ≤ r.sub.length + 1 ∧ (r.keep b).out = r.out ∧ (r.keep b).data = r.data := by
  simp only [Rd.keep]; split <;> simp
theorem fin_len (r : Rd) (b : Bool) : (r.fin b).out.length ≤ r.out.length + 2 ∧ (r.fin b).data = [] ∧ (r.fin b).sub = [] := by
  have := tell_len r ⟨3, 0, r.opt, r.sub, r.long, b⟩
  simp only [Rd.fin]; exact ⟨this, (tell_sub ..).2.2, trivial⟩

set_option maxRecDepth 4000 in
theorem take_calls (o : Nat) (r : Rd) (b : UInt8) (σ : Store) (ho : σ o = some (rdA r)) (hl : r.out.length ≤ 800000) (hd : r.data.length ≤ 800000) (hs : r.sub.length ≤ 800000) :
    ACalls Try.prog 22 [ptrA o, byteA b] σ fun v σ' => v = .tuple [] ∧ σ' = σ.upd o (rdA (r.take b)) := by
  refine ACalls.of_awp follows (st := st22) (plans := pl22) (n := 74) Try.func22 rfl (by kernel_rfl) (by kernel_rfl) (by kernel_rfl) ?_
  have hob := ho
  rw [rdA_eq r] at ho
  by_cases s1 : r.state = 1
  · simp [ho, s1]
    refine callK.of (command_calls o r b σ hob (by omega) (by omega)) ?_
    rintro v σ' ⟨rfl, rfl⟩
    simp [Rd.take, s1]
  by_cases s2 : r.state = 2
  · simp [ho, s2, byteA]
    refine callK.le (args' := [ptrA o, evA ⟨2, r.verb, b, [], false, false⟩]) (by simp [evA, byteA, bytesA_nil]; exact AV.le_agg (by simp)) (tell_calls o r _ σ hob (by omega)) ?_
    rintro v σ' ⟨rfl, rfl⟩
    simp [Rd.take, s2]
  by_cases s3 : r.state = 3
  · simp [ho, s3, byteA]
    refine sub_eq ?_
    simp [rdA, Rd.take, s3, byteA]
  by_cases s4 : r.state = 4
  · by_cases h1 : (b.toNat : Int) = 255
    · simp [ho, s4, byteA, h1]
      refine sub_eq ?_
      simp [rdA, Rd.take, s4, byteA, h1]
    · simp [ho, s4, byteA, h1]
      refine callK.of (keep_calls o r b σ hob (by omega)) ?_
      rintro v σ' ⟨rfl, rfl⟩
      simp [Rd.take, s4, h1]
  by_cases s5 : r.state = 5
  · by_cases h1 : (b.toNat : Int) = 255
    · have hb : byteA b = .lit (.int .u8 255) := by simp [byteA, h1]
      have hk := keep_calls o r b σ hob (by omega)
      rw [hb] at hk ⊢
      simp [ho, s5]
      refine callK.of hk ?_
      rintro v σ' ⟨rfl, rfl⟩
      simp [Rd.take, s5, h1]
    by_cases h2 : (b.toNat : Int) = 240
    · simp [ho, s5, byteA, h1, h2]
      refine callK.of (end_calls o r false σ hob (by omega)) ?_
      rintro v σ' ⟨rfl, rfl⟩
      simp [Rd.take, s5, h1, h2]
    · simp [ho, s5, byteA, h1, h2]
      refine callK.of (end_calls o r true σ hob (by omega)) ?_
      rintro v σ' ⟨rfl, rfl⟩
      simp
      have hf := fin_len r true
      refine callK.of (command_calls o (r.fin true) b _ (by simp) (by omega) (by rw [hf.2.1]; simp)) ?_
      rintro v σ' ⟨rfl, rfl⟩
      simp [Rd.take, s5, h1, h2]
  · by_cases h1 : (b.toNat : Int) = 255
    · simp [ho, s1, s2, s3, s4, s5, byteA, h1]
      refine sub_eq ?_
      simp [rdA, Rd.take, s1, s2, s3, s4, s5, byteA, h1]
    · simp [ho, s1, s2, s3, s4, s5, byteA, h1]
      refine ⟨by omega, by omega, sub_eq ?_⟩
      simp [rdA, Rd.take, s1, s2, s3, s4, s5, byteA, h1, bytesA]
end Go.Proofs.Ytkfhpnfgnjmdbaa
