/-
  The smaller functions of the telnet laws, and what they compute.
-/
import Derived.Test.YtkfhpnfgnjmdbaaPReader
namespace Go.Proofs.Ytkfhpnfgnjmdbaa
open Go Go.AL

theorem take_succ_map {α : Type} (f : α → AV) (l : List α) (i : Nat) (h : i < l.length) : (l.take (i + 1)).map f = (l.take i).map f ++ [f l[i]] := by
  rw [List.take_succ_eq_append_getElem h, List.map_append]; rfl
theorem flat_bytesA (l : List UInt8) : flat (bytesA l) = bytesA l := by
  induction l with
  | nil => rfl
  | cons b l ih => simp only [flat, bytesA, List.map_cons, List.flatMap_cons] at ih ⊢; rw [ih]; rfl
theorem bytesA_take (l : List UInt8) (n : Nat) : (bytesA l).take n = bytesA (l.take n) := by simp [bytesA]
theorem bytesA_drop (l : List UInt8) (n : Nat) : (bytesA l).drop n = bytesA (l.drop n) := by simp [bytesA]
theorem drop1_bytesA (l : List UInt8) : (bytesA l).map AV.drop1 = bytesA l := by
  simp only [bytesA, List.map_map]; rfl

/-- A row of bytes that is an object. -/
def rowA (p cap : Nat) (l : List UInt8) : AV := .lit (.slice (some ⟨p, 0, none⟩) l.length cap)

set_option maxRecDepth 10000 in
theorem copy_calls (o : Bool) (l : List UInt8) (σ : Store) (hl : l.length ≤ 140737488355328) :
    ACalls Try.prog 14 [.list o 1 (bytesA l)] σ fun v σ' => v = .list true 1 (bytesA l) ∧ σ' = σ := by
  refine ACalls.of_awp follows (st := st14) (plans := pl14) (n := 6) Try.func14 rfl (by kernel_rfl) (by kernel_rfl) (by kernel_rfl) ?_
  simp
  omega

set_option maxRecDepth 10000 in
theorem copyO_calls (o : Bool) (l : List UInt8) (σ : Store) (hl : l.length ≤ 140737488355328) :
    ACalls Try.prog 14 [.list o 1 (bytesA l)] σ fun v σ' => ∃ p cap rest, σ p = none ∧ v = rowA p cap l ∧ σ' = σ.upd p (bytesA l ++ rest) ∧ rest.length + l.length = cap := by
  refine ACalls.of_awp follows (st := st14o) (plans := pl14o) (n := 6) Try.func14 rfl (by kernel_rfl) (by kernel_rfl) (by kernel_rfl) ?_
  simp [rowOf, srcOf, flat_bytesA, drop1_bytesA]
  intro p hp
  refine ⟨by omega, by omega, ?_, ?_⟩
  · rintro rfl; exact ⟨_, AV.le_refl _, _, Store.sub_refl _, p, hp, 0, rfl, [], rfl, rfl⟩
  · intro h0 q cap hq hc hm
    have hσq : σ q = none := by
      by_cases h : q = p
      · exact h ▸ hp
      · simpa [h, Ne.symm h] using hq
    exact ⟨_, AV.le_refl _, σ.upd q (bytesA l ++ List.replicate (cap - l.length) .top), by (intro q; simp only [Store.upd, Store.del]; (repeat' split) <;> simp_all), q, hσq, cap, rfl, _, rfl, by simp; omega⟩

theorem clone_calls (o : Bool) (l : List UInt8) (σ : Store) (hl : l.length ≤ 140737488355328) :
    ACalls Try.prog 24 [.list o 1 (bytesA l)] σ fun v σ' => v = .list true 1 (bytesA l) ∧ σ' = σ := by
  refine ACalls.of_awp follows (st := st24) (plans := pl24) (n := 8) Try.func24 rfl (by kernel_rfl) (by kernel_rfl) (by kernel_rfl) ?_
  simp
  refine ⟨⟨by omega, by omega⟩, fun h => ?_⟩
  rw [h]; exact AV.le_refl _

theorem cut_calls (o : Bool) (l : List UInt8) (n : Nat) (σ : Store) (hn : n ≤ 100000000) :
    ACalls Try.prog 8 [.list o 1 (bytesA l), .lit (.int .i64 n)] σ fun v σ' => v = .list true 1 (bytesA (l.take n)) ∧ σ' = σ := by
  refine ACalls.of_awp follows (st := st8) (plans := pl8) (n := 14) Try.func8 rfl (by kernel_rfl) (by kernel_rfl) (by kernel_rfl) ?_
  by_cases h : n < l.length
  · simp [h, show n ≤ l.length by omega, bytesA_take]
    refine callK.of (copy_calls false (l.take n) σ (by simp; omega)) ?_
    rintro v σ' ⟨rfl, rfl⟩
    simp
  · simp [h]
    refine callK.of (copy_calls false l σ (by omega)) ?_
    rintro v σ' ⟨rfl, rfl⟩
    simp [List.take_of_length_le (show l.length ≤ n by omega)]

theorem new_calls (σ : Store) :
    ACalls Try.prog 18 [] σ fun v σ' => ∃ p, σ p = none ∧ v = ptrA p ∧ σ' = σ.upd p (rdA .init) := by
  refine ACalls.of_awp follows (st := st18) (plans := pl18) (n := 3) Try.func18 rfl (by kernel_rfl) (by kernel_rfl) (by kernel_rfl) ?_
  simp
  exact fun p hp => ⟨_, AV.le_refl _, _, Store.sub_refl _, p, hp, rfl, rfl⟩

theorem waiting_calls (o : Nat) (r : Rd) (σ : Store) (ho : σ o = some (rdA r)) :
    ACalls Try.prog 13 [ptrA o] σ fun v σ' => v = .lit (.bool (r.state != 0)) ∧ σ' = σ := by
  refine ACalls.of_awp follows (st := st13) (plans := pl13) (n := 12) Try.func13 rfl (by kernel_rfl) (by kernel_rfl) (by kernel_rfl) ?_
  rw [rdA_eq r] at ho
  simp [ho]

theorem waiting_nil (σ : Store) :
    ACalls Try.prog 13 [.lit (.pointer none)] σ fun v σ' => v = .lit (.bool false) ∧ σ' = σ := by
  refine ACalls.of_awp follows (st := st13) (plans := pl13) (n := 12) Try.func13 rfl (by kernel_rfl) (by kernel_rfl) (by kernel_rfl) ?_
  simp

theorem toList_mk (l : List UInt8) : (ByteArray.mk l.toArray).toList = l := by
  rw [ByteArray.toList_eq]
theorem same_calls (o o' : Bool) (l k : List UInt8) (σ : Store) :
    ACalls Try.prog 20 [.list o 1 (bytesA l), .list o' 1 (bytesA k)] σ fun v σ' => v = .lit (.bool (l == k)) ∧ σ' = σ := by
  refine ACalls.of_awp follows (st := st20) (plans := pl20) (n := 10) Try.func20 rfl (by kernel_rfl) (by kernel_rfl) (by kernel_rfl) ?_
  simp [bytesOf_bytesA, toList_mk]

set_option maxRecDepth 4000 in
theorem back_calls (o : Bool) (l : List Ev) (σ : Store) (hl : l.length ≤ 1000000) :
    ACalls Try.prog 15 [.list o 6 (evsA l)] σ fun v σ' => v = .list true 6 (evsA l) ∧ σ' = σ := by
  refine ACalls.of_awp follows (st := st15) (plans := pl15) (n := 18) Try.func15 rfl (by kernel_rfl) (by kernel_rfl) (by kernel_rfl) ?_
  simp
  refine codeK.loop follows (st := st15) (plans := pl15) (X := Nat) (fun i => i ≤ l.length)
    (fun i => [(3, .list true 6 (evsA (l.take i))), (6, .list false 6 (evsA l)), (7, .lit (.int .i64 l.length)), (8, .lit (.int .i64 i))]) (fun _ => σ) (fun i => l.length - i) 0 (by kernel_rfl) (by omega) (by simp [evsA]) (by simp) fun i hi => ?_
  by_cases hlt : i < l.length
  · simp [hlt, evsA, evA, byteA]
    intro p hp
    refine ⟨by omega, by omega, i+1, by omega, by omega, ⟨?_, ?_⟩, by (intro q; simp only [Store.upd, Store.del]; (repeat' split) <;> simp_all)⟩
    · rw [← List.map_take, ← List.map_take, take_succ_map _ _ _ hlt]; simp [evA, byteA]
    · rw [wrap_i64 (by omega) (by omega)]; exact le_of_eq rfl
  · obtain rfl : i = l.length := by omega
    simp

/-- What becomes of a row of bytes that is flipped is not asked. -/
theorem flip_calls (p cap : Nat) (l : List UInt8) (rest : List AV) (σ : Store) (hp : σ p = some (bytesA l ++ rest)) (hl : l.length ≤ 1000000) :
    ACalls Try.prog 25 [rowA p cap l] σ fun v σ' => v = .tuple [] ∧ σ' = σ.del p := by
  refine ACalls.of_awp follows (st := st25) (plans := pl25) (n := 15) Try.func25 rfl (by kernel_rfl) (by kernel_rfl) (by kernel_rfl) ?_
  simp [rowA]
  refine codeK.loop follows (st := st25) (plans := pl25) (X := Nat × List AV) (fun x => x.1 ≤ l.length ∧ ∀ j, j < l.length → ∃ b : Int, x.2[j]? = some (.lit (.int .u8 b)))
    (fun x => [(0, rowA p cap l), (3, rowA p cap l), (4, .lit (.int .i64 l.length)), (5, .lit (.int .i64 x.1))]) (fun x => σ.upd p x.2) (fun x => l.length - x.1) (0, bytesA l ++ rest) (by kernel_rfl)
    ⟨by simp, fun j hj => ⟨_, by rw [List.getElem?_append_left (by simpa using hj), bytesA_get, List.getElem?_eq_getElem hj]; rfl⟩⟩ (by simp [rowA]) (by intro q; simp only [Store.upd]; split <;> simp_all) fun x hx => ?_
  obtain ⟨i, k⟩ := x
  obtain ⟨hi, hk⟩ := hx
  dsimp only at hi hk
  by_cases hlt : i < l.length
  · obtain ⟨b, hb⟩ := hk i hlt
    have hkl : i < k.length := (List.getElem?_eq_some_iff.1 hb).1
    simp [hlt, rowA, hb]
    refine ⟨by omega, i + 1, _, ⟨by omega, ?_⟩, by omega, ?_, Store.sub_refl _⟩
    · intro j hj
      rw [List.getElem?_set]
      by_cases h : i = j
      · exact ⟨_, by rw [if_pos h, if_pos hkl]⟩
      · rw [if_neg h]; exact hk j hj
    · rw [wrap_i64 (by omega) (by omega)]; exact le_of_eq rfl
  · obtain rfl : i = l.length := by omega
    simp [rowA]
    (intro q; simp only [Store.upd, Store.del]; (repeat' split) <;> simp_all)
end Go.Proofs.Ytkfhpnfgnjmdbaa
