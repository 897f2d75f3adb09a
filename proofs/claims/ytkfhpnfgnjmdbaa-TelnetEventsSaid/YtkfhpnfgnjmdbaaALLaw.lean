/-
  The abstract-state logic: from a law's walk to its row: what came in, what is told behind the call.
-/
import Derived.Test.YtkfhpnfgnjmdbaaALShift
import Derived.ProofKit
import Derived.OpenShut
namespace Go.AL
open Go Go.ChangeShapes Go.WideShapes Go.ChangeAt Go.RowKit

theorem cell_back {w : World} {g i : Nat} {v : Value} (h : w.cell? ⟨g, i, none⟩ = some v) : allFrz w g i = some v := by
  unfold World.cell? at h
  unfold allFrz
  split at h
  · rename_i c _ _ heq
    simp only at heq
    simp at h
    rw [heq]; exact h
  · cases h

/-- A slice of bytes that came in. -/
theorem open_bytesVR {H : Type} {enc : TypeId × Value → H} {P : Program} {W : World} {base : Nat} {t e : TypeId} {v : Value} {d : DataW H} {p : List MemPlace} (ht : P.underlying t = some (.slice e)) (he : P.underlying e = some (.int .u8)) (hc : P.cellsOf e = 1)
    (hval : Value.okWide P W .any base t v) (h : DataW.Trod enc P W 0 (fun _ => true) true t v d p) : ∃ l : List UInt8, VR (allFrz W) (.list false 1 (l.map fun b => .lit (.int .u8 (b.toNat : Int)))) v ∧ l.length ≤ maxLen := by
  obtain ⟨a1, len, cap, rfl⟩ := okWide_slice ht hval
  obtain ⟨fuel, hf⟩ := h
  rcases open_ints ht he hc hf with ⟨hcs, hx⟩ | ⟨a, len', cap', zs, hcs, _, hl, hm, hz, hx, hcell, hwz⟩
  · simp [Value.cells] at hcs
    obtain ⟨rfl, rfl, rfl⟩ := hcs
    exact ⟨[], .nil .., Nat.zero_le _⟩
  · simp [Value.cells] at hcs
    obtain ⟨rfl, rfl, rfl⟩ := hcs
    simp only [if_true] at hz
    have hspot : a.spot = none := by
      simp only [Value.okWide, ht, Cell.okWide, Cell.ok] at hval
      exact hval.2.2.2.1
    obtain ⟨g, off, spot⟩ := a
    simp only at hspot; subst hspot
    generalize hl8 : (zs.take len).map (fun n => UInt8.ofNat n.toNat) = l
    have hll : l.length = len := by subst hl8; simp; omega
    have hget : ∀ i, i < len → zs[i]? = some (((l[i]?.getD 0).toNat : Nat) : Int) := fun i hi => by
      have hzi : i < zs.length := by omega
      have hb := range_u8 hwz i
      have : l[i]? = some (UInt8.ofNat (zs[i]).toNat) := by
        subst hl8
        rw [List.getElem?_map, List.getElem?_take_of_lt hi, List.getElem?_eq_getElem hzi]; rfl
      rw [List.getElem?_eq_getElem hzi] at hb ⊢
      rw [this]
      simp only [Option.getD_some] at hb ⊢
      congr 1
      simp only [UInt8.toNat_ofNat']
      omega
    have hflat : ∀ l : List UInt8, flat (l.map fun b => AV.lit (.int .u8 (b.toNat : Int))) = l.map fun b => AV.lit (.int .u8 (b.toNat : Int)) := fun l => by
      induction l with
      | nil => rfl
      | cons b l ih => simp only [flat, List.map_cons, List.flatMap_cons] at ih ⊢; rw [ih]; rfl
    refine ⟨l, .list false 1 _ g off len cap (l.map fun b => .int .u8 (b.toNat : Int)) (by simp [hll]) hl (fun v hv => ?_) (by rw [hflat]; simp) (fun i u hu => ?_) (fun i c u hci hu => ?_), by rw [hll]; omega⟩
    · obtain ⟨b, _, rfl⟩ := List.mem_map.1 hv; rfl
    · rw [List.getElem?_map] at hu
      cases hli : l[i]? with
      | none => rw [hli] at hu; cases hu
      | some b =>
        rw [hli] at hu
        simp only [Option.map_some, Option.some.injEq] at hu; subst hu
        have hi : i < len := by have := (List.getElem?_eq_some_iff.1 hli).1; omega
        have h1 := hcell i (by omega)
        rw [Addr.add_lit, List.getD_eq_getElem?_getD, hget i hi, hli] at h1
        exact ⟨cell_back h1, rfl⟩
    · rw [hflat, List.getElem?_map] at hci
      rw [List.getElem?_map] at hu
      cases hli : l[i]? with
      | none => rw [hli] at hu; cases hu
      | some b =>
        rw [hli] at hu hci
        simp only [Option.map_some, Option.some.injEq] at hu hci; subst hu hci
        exact .lit _
end Go.AL
