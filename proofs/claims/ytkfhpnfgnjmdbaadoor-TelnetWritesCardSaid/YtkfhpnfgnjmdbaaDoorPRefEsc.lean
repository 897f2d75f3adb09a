/-
  The reference's bytes of an event.
-/
import Derived.Test.YtkfhpnfgnjmdbaaDoorPEsc
import Derived.Test.YtkfhpnfgnjmdbaaDoorPSub
namespace Go.Proofs.YtkfhpnfgnjmdbaaDoor
open Go Go.AL

theorem esc_snoc (l : List UInt8) (b : UInt8) : esc (l ++ [b]) = esc l ++ (if (b.toNat : Int) = 255 then [b, b] else [b]) := by
  rw [esc, escOf_append]
  congr 1
  by_cases h : b = 255
  · subst h; rfl
  · have : ¬ (b.toNat : Int) = 255 := fun e => h (UInt8.toNat_inj.1 (by show b.toNat = 255; omega))
    simp [escOf, h, this]

set_option maxRecDepth 4000 in
theorem refEscape_calls (o : Bool) (l : List UInt8) (σ : Store) (hl : l.length ≤ 1000000) :
    ACalls Tryd.prog 22 [.list o 1 (bytesA l)] σ fun v σ' => v = .list true 1 (bytesA (esc l)) ∧ σ' = σ := by
  refine ACalls.of_awp follows (st := st22) (plans := pl22) (n := 24) Tryd.func22 rfl (by kernel_rfl) (by kernel_rfl) (by kernel_rfl) ?_
  simp
  refine codeK.loop follows (st := st22) (plans := pl22) (X := Nat) (fun i => i ≤ l.length)
    (fun i => [(3, .list true 1 (bytesA (esc (l.take i)))), (6, .list false 1 (bytesA l)), (7, .lit (.int .i64 l.length)), (8, .lit (.int .i64 i))]) (fun _ => σ) (fun i => l.length - i) 0 (by kernel_rfl) (by omega) (by simp [esc, escOf, bytesA]) (by simp) fun i hi => ?_
  by_cases hlt : i < l.length
  · have h1 := esc_length (l.take i)
    have h2 : (l.take i).length ≤ l.length := by simp; omega
    have h3 := esc_snoc (l.take i) l[i]
    rw [← List.take_succ_eq_append_getElem hlt] at h3
    have hwr : IntKind.i64.wrap ((i : Int) + 1) = ((i + 1 : Nat) : Int) := wrap_i64 (by omega) (by omega)
    generalize hE : esc (l.take i) = E at *
    by_cases hb : (l[i].toNat : Int) = 255
    · simp [hlt, byteA, hb]
      refine ⟨by omega, by omega, by omega, by omega, i + 1, by omega, by omega, ?_, by rw [hwr]; exact AV.le_refl _⟩
      rw [h3, if_pos hb]; simp [bytesA, byteA, hb]
    · simp [hlt, byteA, hb]
      refine ⟨by omega, by omega, i + 1, by omega, by omega, ?_, by rw [hwr]; exact AV.le_refl _⟩
      rw [h3, if_neg hb]; simp [bytesA, byteA]
  · obtain rfl : i = l.length := by omega
    simp

theorem refSub_calls (o : Bool) (c : UInt8) (l : List UInt8) (σ : Store) (hl : l.length ≤ 1000000) :
    ACalls Tryd.prog 23 [byteA c, .list o 1 (bytesA l)] σ fun v σ' => v = .list true 1 (bytesA (subBytes c l)) ∧ σ' = σ := by
  refine ACalls.of_awp follows (st := st23) (plans := pl23) (n := 12) Tryd.func23 rfl (by kernel_rfl) (by kernel_rfl) (by kernel_rfl) ?_
  have h1 := esc_length l
  simp [byteA]
  refine callK.of (refEscape_calls false l σ hl) ?_
  rintro v σ' ⟨rfl, rfl⟩
  simp
  refine ⟨by omega, by omega, by omega, by omega, ?_⟩
  simp [subBytes, bytesA, byteA]

/-- The bytes of an event. -/
def evBytes (e : Ev) : List UInt8 :=
  if e.kind = 0 then esc e.data else if e.kind = 1 then [255, e.verb] else if e.kind = 2 then [255, e.verb, e.opt] else subBytes e.opt e.data
set_option maxRecDepth 4000 in
theorem refBytes_calls (e : Ev) (σ : Store) (hl : e.data.length ≤ 1000000) :
    ACalls Tryd.prog 12 [evA e] σ fun v σ' => v = .list true 1 (bytesA (evBytes e)) ∧ σ' = σ := by
  refine ACalls.of_awp follows (st := st12) (plans := pl12) (n := 27) Tryd.func12 rfl (by kernel_rfl) (by kernel_rfl) (by kernel_rfl) ?_
  by_cases h0 : e.kind = 0
  · simp [evA, byteA, h0]
    intro p hp
    refine callK.of (refEscape_calls false e.data _ hl) ?_
    rintro v σ' ⟨rfl, rfl⟩
    simp [evBytes, h0, hp]
  by_cases h1 : e.kind = 1
  · simp [evA, byteA, h1]
    intro p hp
    refine ⟨?_, by (intro q; simp only [Store.upd, Store.del]; (repeat' split) <;> simp_all)⟩
    simp [evBytes, h1, bytesA, byteA]
  by_cases h2 : e.kind = 2
  · simp [evA, byteA, h2]
    intro p hp
    refine ⟨?_, by (intro q; simp only [Store.upd, Store.del]; (repeat' split) <;> simp_all)⟩
    simp [evBytes, h2, bytesA, byteA]
  · simp [evA, byteA, h0, h1, h2]
    intro p hp
    refine callK.of (refSub_calls false e.opt e.data _ hl) ?_
    rintro v σ' ⟨rfl, rfl⟩
    simp [evBytes, h0, h1, h2, hp]
end Go.Proofs.YtkfhpnfgnjmdbaaDoor
