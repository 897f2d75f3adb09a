/-
  A report's bytes, as the document has them.
-/
import Derived.Test.YtkbokmokklbahaaPart10
namespace Go.Proofs.Ytkbokmokklbahaa
open Go Go.AL

set_option maxRecDepth 4000 in
set_option maxHeartbeats 4000000 in
theorem rbytes_ok (o : Bool) (aid : UInt8) (cursor : Int) (es : List En) (he : List UInt8) (hhl : he.length = 2) (hl : es.length ≤ 1000) (hg : ∀ e ∈ es, e.text.length ≤ 1000) (al : Bool) (hal : aloneL es = al) (σ : Store)
    (hen0 : ∀ σ, ACalls Try.prog 17 [.lit (.int .i64 12), .lit (.int .i64 cursor)] σ fun v σ' => v = .tuple [.list true 1 (bytesA he), .lit (.int .i64 0)] ∧ σ' = σ) :
    ACalls Try.prog 9 [.agg [byteA aid, .lit (.bool false), .lit (.int .i64 cursor), .list o 2 (ensA es)]] σ fun v σ' =>
      v = .tuple (if (seqB (entB al) es).2 ≠ 0 then [.list true 1 [], .lit (.int .i64 (seqB (entB al) es).2)] else [.list true 1 (bytesA (aid :: he ++ (seqB (entB al) es).1)), .lit (.int .i64 0)]) ∧ σ' = σ := by
  have h1 : 1 + he.length ≤ 9223372036854775807 := by omega
  have h2 : 1 + he.length ≤ 140737488355328 := by omega
  refine ACalls.of_awp follows (st := st9) (plans := pl9) (n := 82) Try.func9 rfl (by kernel_rfl) (by kernel_rfl) (by kernel_rfl) ?_
  simp
  intro p hp
  refine callK.of (hen0 _) ?_
  rintro v σ' ⟨rfl, rfl⟩
  simp [h1, h2]
  refine codeK.loop follows (st := st9) (plans := pl9) (X := Nat) (fun i => i ≤ es.length ∧ ∀ j (hj : j < es.length), j < i → (entB al es[j]).2 = 0)
    (fun i => [(1, .lit (.pointer (some ⟨p, 0, none⟩))), (6, .list true 1 (bytesA (aid :: he ++ sumE al es i))), (31, .list false 2 (ensA es)), (32, .lit (.int .i64 es.length)), (33, .lit (.int .i64 i))])
    (fun _ => σ.upd p [byteA aid, .lit (.bool false), .lit (.int .i64 cursor), .list o 2 (ensA es)]) (fun i => es.length - i) 0 (by kernel_rfl) (by simp) (by simp [sumE, bytesA]) (Store.sub_refl _) fun i hi => ?_
  obtain ⟨hi, hk⟩ := hi
  by_cases hlt : i < es.length
  · have hw : IntKind.i64.wrap ((i : Int) + 1) = ((i + 1 : Nat) : Int) := wrap_i64 (by omega) (by omega)
    have ht := hg es[i] (List.getElem_mem _)
    have ha := ensA_at es i hlt
    have hyes := fun h => seqB_bad (f := entB al) hlt hk h
    have hno : (entB al es[i]).2 = 0 → ∀ j (hj : j < es.length), j < i + 1 → (entB al es[j]).2 = 0 := fun h j hj hji => by
      by_cases e : j = i
      · subst e; exact h
      · exact hk j hj (by omega)
    have hsucc := sumE_succ al es i hlt
    have hlen := sumE_len al es hg i hi
    have hsum : (sumE al es i).length ≤ 1003000 := Nat.le_trans hlen (Nat.mul_le_mul_right 1003 (show i ≤ 1000 by omega))
    have hcase : (1 < es.length ∧ al = false) ∨ (¬ 1 < es.length ∧ ¬ es[i].addr = 0 ∧ al = false) ∨ (¬ 1 < es.length ∧ es[i].addr = 0 ∧ es[i].text = [] ∧ al = false) ∨ (¬ 1 < es.length ∧ es[i].addr = 0 ∧ 0 < es[i].text.length ∧ al = true) := by
      rw [← hal]
      rcases aloneL_cases es with ⟨c1, c2⟩ | ⟨e, c0, c⟩
      · exact .inl ⟨by omega, c2⟩
      · have hi0 : i = 0 := by rw [c0] at hlt; simp at hlt; exact hlt
        have hee : es[i] = e := by subst hi0; subst c0; rfl
        rw [hee]
        have hnl : ¬ 1 < es.length := by rw [c0]; simp
        rcases c with ⟨c1, c2⟩ | ⟨c1, c2, c3⟩ | ⟨c1, c2, c3⟩
        · exact .inr (.inl ⟨hnl, c1, c2⟩)
        · exact .inr (.inr (.inl ⟨hnl, c1, List.eq_nil_of_length_eq_zero c2, c3⟩))
        · exact .inr (.inr (.inr ⟨hnl, c1, c2, c3⟩))
    generalize es[i] = x at *
    obtain ⟨ad, tx⟩ := x
    simp only at hcase ht
    obtain ⟨O0, hO0⟩ : ∃ O0, aid :: he ++ sumE al es i = O0 := ⟨_, rfl⟩
    have hO0l : O0.length ≤ 1003010 := by rw [← hO0]; simp; omega
    rw [hO0]
    rcases hcase with ⟨c1, rfl⟩ | ⟨c1, c2, rfl⟩ | ⟨c1, c2, c3, rfl⟩ | ⟨c1, c2, htl, rfl⟩
    · have c1' : (1 : Int) < (es.length : Int) := by omega
      by_cases hoa : okAddr ad
      · have hBad : hasOrd tx = true → seqB (entB false) es = ([], 10) := fun h => by
          have e0 : entB false ⟨ad, tx⟩ = ([], 10) := by rw [entB_false]; simp [hoa, h]
          have := hyes (by rw [e0]; decide)
          rw [this, e0]
        have hGood : hasOrd tx = false → (∀ j (hj : j < es.length), j < i + 1 → (entB false es[j]).2 = 0) ∧ (O0 ++ (17 :: encM ad.toNat)) ++ tx = aid :: he ++ sumE false es (i + 1) := fun h => by
          have e0 : entB false ⟨ad, tx⟩ = (17 :: encM ad.toNat ++ tx, 0) := by rw [entB_false]; simp [hoa, h]
          refine ⟨hno (by rw [e0]), ?_⟩
          rw [hsucc, e0, ← hO0]; simp
        have hel : (encM ad.toNat).length = 2 := rfl
        obtain ⟨ed, hed⟩ : ∃ ed, encM ad.toNat = ed := ⟨_, rfl⟩
        have hen := enc4_calls ad
        rw [encR, if_pos hoa, hed] at hen
        rw [hed] at hGood hel
        have hO1 : bytesA O0 ++ byteA 17 :: bytesA ed = bytesA (O0 ++ (17 :: ed)) := by simp [bytesA]
        have h17 : AV.lit (.int .u8 17) = byteA 17 := rfl
        have hO1l : (O0 ++ (17 :: ed)).length ≤ 1003100 := by simp; omega
        generalize O0 ++ (17 :: ed) = O1 at *
        simp [hlt, ha, enA]
        intro q hq
        simp only [ite_none] at hq
        obtain ⟨hqp, hq0⟩ := hq
        have hq : (σ.upd p [byteA aid, .lit (.bool false), .lit (.int .i64 cursor), .list o 2 (ensA es)]) q = none := by simp [hqp, hq0]
        simp [c1', Ne.symm hqp]
        refine callK.of (hen _) ?_
        rintro v σ' ⟨rfl, rfl⟩
        simp [h17]
        refine ⟨by omega, by omega, by omega, by omega, ?_⟩
        refine codeK.loop follows (st := st9) (plans := pl9) (X := Nat) (fun j => j ≤ tx.length ∧ ∀ k (hk : k < tx.length), k < j → isOrd tx[k] = false)
          (fun j => [(1, .lit (.pointer (some ⟨p, 0, none⟩))), (6, .list true 1 (bytesA O1)), (8, .lit (.pointer (some ⟨q, 0, none⟩))), (31, .list false 2 (ensA es)), (32, .lit (.int .i64 es.length)), (33, .lit (.int .i64 i)), (67, .list false 1 (bytesA tx)), (68, .lit (.int .i64 tx.length)), (69, .lit (.int .i64 j))])
          (fun _ => (σ.upd p [byteA aid, .lit (.bool false), .lit (.int .i64 cursor), .list o 2 (ensA es)]).upd q [.lit (.int .i64 ad), .list false 1 (bytesA tx)]) (fun j => tx.length - j) 0 (by kernel_rfl) (by simp) (by simp [hO1]) (Store.sub_refl _) fun j hj => ?_
        obtain ⟨hj, hnj⟩ := hj
        by_cases hjt : j < tx.length
        · have hw2 : IntKind.i64.wrap ((j : Int) + 1) = ((j + 1 : Nat) : Int) := wrap_i64 (by omega) (by omega)
          have his := is16_calls tx[j]
          have hat := bytesA_at tx j hjt
          have hsome := fun h => hasOrd_some (l := tx) hjt h
          have hnone : isOrd tx[j] = false → ∀ k (hk : k < tx.length), k < j + 1 → isOrd tx[k] = false := fun h k hk hkj => by
            by_cases e : k = j
            · subst e; exact h
            · exact hnj k hk (by omega)
          generalize tx[j] = c at *
          by_cases hc : isOrd c = true
          · have hB := hBad (hsome hc)
            simp [hjt, hat]
            refine callK.of (his _) ?_
            rintro v σ' ⟨rfl, rfl⟩
            simp [hc, hB]
            exact Store.sub_upd hq0 (Store.sub_upd hp (Store.sub_refl _))
          · have hc' : isOrd c = false := by simpa using hc
            simp [hjt, hat]
            refine callK.of (his _) ?_
            rintro v σ' ⟨rfl, rfl⟩
            simp [hc']
            exact ⟨j + 1, ⟨by omega, hnone hc'⟩, by omega, by rw [hw2]; exact AV.le_refl _⟩
        · obtain rfl : j = tx.length := by omega
          have hO := hasOrd_none fun k hk => hnj k hk hk
          obtain ⟨g1, g2⟩ := hGood hO
          simp
          refine ⟨by omega, by omega, i + 1, ⟨by omega, g1⟩, by omega, ⟨?_, ?_⟩, ?_⟩
          · rw [← bytesA_append, g2]; exact AV.le_refl _
          · rw [hw]; exact AV.le_refl _
          · exact Store.sub_upd hq (Store.sub_refl _)
      · have e0 : entB false ⟨ad, tx⟩ = ([], 9) := by rw [entB_false]; simp [hoa]
        have hz := hyes (by rw [e0]; decide)
        rw [e0] at hz
        have hen := enc4_calls ad
        rw [encR, if_neg hoa] at hen
        simp [hlt, ha, enA]
        intro q hq
        simp only [ite_none] at hq
        obtain ⟨hqp, hq0⟩ := hq
        simp [c1', Ne.symm hqp]
        refine callK.of (hen _) ?_
        rintro v σ' ⟨rfl, rfl⟩
        simp [hz]
        exact Store.sub_upd hq0 (Store.sub_upd hp (Store.sub_refl _))
    · have c1' : ¬ (1 : Int) < (es.length : Int) := by omega
      by_cases hoa : okAddr ad
      · have hBad : hasOrd tx = true → seqB (entB false) es = ([], 10) := fun h => by
          have e0 : entB false ⟨ad, tx⟩ = ([], 10) := by rw [entB_false]; simp [hoa, h]
          have := hyes (by rw [e0]; decide)
          rw [this, e0]
        have hGood : hasOrd tx = false → (∀ j (hj : j < es.length), j < i + 1 → (entB false es[j]).2 = 0) ∧ (O0 ++ (17 :: encM ad.toNat)) ++ tx = aid :: he ++ sumE false es (i + 1) := fun h => by
          have e0 : entB false ⟨ad, tx⟩ = (17 :: encM ad.toNat ++ tx, 0) := by rw [entB_false]; simp [hoa, h]
          refine ⟨hno (by rw [e0]), ?_⟩
          rw [hsucc, e0, ← hO0]; simp
        have hel : (encM ad.toNat).length = 2 := rfl
        obtain ⟨ed, hed⟩ : ∃ ed, encM ad.toNat = ed := ⟨_, rfl⟩
        have hen := enc4_calls ad
        rw [encR, if_pos hoa, hed] at hen
        rw [hed] at hGood hel
        have hO1 : bytesA O0 ++ byteA 17 :: bytesA ed = bytesA (O0 ++ (17 :: ed)) := by simp [bytesA]
        have h17 : AV.lit (.int .u8 17) = byteA 17 := rfl
        have hO1l : (O0 ++ (17 :: ed)).length ≤ 1003100 := by simp; omega
        generalize O0 ++ (17 :: ed) = O1 at *
        simp [hlt, ha, enA]
        intro q hq
        simp only [ite_none] at hq
        obtain ⟨hqp, hq0⟩ := hq
        have hq : (σ.upd p [byteA aid, .lit (.bool false), .lit (.int .i64 cursor), .list o 2 (ensA es)]) q = none := by simp [hqp, hq0]
        simp [c1', c2, Ne.symm hqp]
        refine callK.of (hen _) ?_
        rintro v σ' ⟨rfl, rfl⟩
        simp [h17]
        refine ⟨by omega, by omega, by omega, by omega, ?_⟩
        refine codeK.loop follows (st := st9) (plans := pl9) (X := Nat) (fun j => j ≤ tx.length ∧ ∀ k (hk : k < tx.length), k < j → isOrd tx[k] = false)
          (fun j => [(1, .lit (.pointer (some ⟨p, 0, none⟩))), (6, .list true 1 (bytesA O1)), (8, .lit (.pointer (some ⟨q, 0, none⟩))), (31, .list false 2 (ensA es)), (32, .lit (.int .i64 es.length)), (33, .lit (.int .i64 i)), (67, .list false 1 (bytesA tx)), (68, .lit (.int .i64 tx.length)), (69, .lit (.int .i64 j))])
          (fun _ => (σ.upd p [byteA aid, .lit (.bool false), .lit (.int .i64 cursor), .list o 2 (ensA es)]).upd q [.lit (.int .i64 ad), .list false 1 (bytesA tx)]) (fun j => tx.length - j) 0 (by kernel_rfl) (by simp) (by simp [hO1]) (Store.sub_refl _) fun j hj => ?_
        obtain ⟨hj, hnj⟩ := hj
        by_cases hjt : j < tx.length
        · have hw2 : IntKind.i64.wrap ((j : Int) + 1) = ((j + 1 : Nat) : Int) := wrap_i64 (by omega) (by omega)
          have his := is16_calls tx[j]
          have hat := bytesA_at tx j hjt
          have hsome := fun h => hasOrd_some (l := tx) hjt h
          have hnone : isOrd tx[j] = false → ∀ k (hk : k < tx.length), k < j + 1 → isOrd tx[k] = false := fun h k hk hkj => by
            by_cases e : k = j
            · subst e; exact h
            · exact hnj k hk (by omega)
          generalize tx[j] = c at *
          by_cases hc : isOrd c = true
          · have hB := hBad (hsome hc)
            simp [hjt, hat]
            refine callK.of (his _) ?_
            rintro v σ' ⟨rfl, rfl⟩
            simp [hc, hB]
            exact Store.sub_upd hq0 (Store.sub_upd hp (Store.sub_refl _))
          · have hc' : isOrd c = false := by simpa using hc
            simp [hjt, hat]
            refine callK.of (his _) ?_
            rintro v σ' ⟨rfl, rfl⟩
            simp [hc']
            exact ⟨j + 1, ⟨by omega, hnone hc'⟩, by omega, by rw [hw2]; exact AV.le_refl _⟩
        · obtain rfl : j = tx.length := by omega
          have hO := hasOrd_none fun k hk => hnj k hk hk
          obtain ⟨g1, g2⟩ := hGood hO
          simp
          refine ⟨by omega, by omega, i + 1, ⟨by omega, g1⟩, by omega, ⟨?_, ?_⟩, ?_⟩
          · rw [← bytesA_append, g2]; exact AV.le_refl _
          · rw [hw]; exact AV.le_refl _
          · exact Store.sub_upd hq (Store.sub_refl _)
      · have e0 : entB false ⟨ad, tx⟩ = ([], 9) := by rw [entB_false]; simp [hoa]
        have hz := hyes (by rw [e0]; decide)
        rw [e0] at hz
        have hen := enc4_calls ad
        rw [encR, if_neg hoa] at hen
        simp [hlt, ha, enA]
        intro q hq
        simp only [ite_none] at hq
        obtain ⟨hqp, hq0⟩ := hq
        simp [c1', c2, Ne.symm hqp]
        refine callK.of (hen _) ?_
        rintro v σ' ⟨rfl, rfl⟩
        simp [hz]
        exact Store.sub_upd hq0 (Store.sub_upd hp (Store.sub_refl _))
    · have c1' : ¬ (1 : Int) < (es.length : Int) := by omega
      have c3T : (tx = []) = True := eq_true c3
      subst c2
      by_cases hoa : okAddr (0 : Int)
      · have hBad : hasOrd tx = true → seqB (entB false) es = ([], 10) := fun h => by
          have e0 : entB false ⟨(0 : Int), tx⟩ = ([], 10) := by rw [entB_false]; simp [hoa, h]
          have := hyes (by rw [e0]; decide)
          rw [this, e0]
        have hGood : hasOrd tx = false → (∀ j (hj : j < es.length), j < i + 1 → (entB false es[j]).2 = 0) ∧ (O0 ++ (17 :: encM (0 : Int).toNat)) ++ tx = aid :: he ++ sumE false es (i + 1) := fun h => by
          have e0 : entB false ⟨(0 : Int), tx⟩ = (17 :: encM (0 : Int).toNat ++ tx, 0) := by rw [entB_false]; simp [hoa, h]
          refine ⟨hno (by rw [e0]), ?_⟩
          rw [hsucc, e0, ← hO0]; simp
        have hel : (encM (0 : Int).toNat).length = 2 := rfl
        obtain ⟨ed, hed⟩ : ∃ ed, encM (0 : Int).toNat = ed := ⟨_, rfl⟩
        have hen := enc4_calls (0 : Int)
        rw [encR, if_pos hoa, hed] at hen
        rw [hed] at hGood hel
        have hO1 : bytesA O0 ++ byteA 17 :: bytesA ed = bytesA (O0 ++ (17 :: ed)) := by simp [bytesA]
        have h17 : AV.lit (.int .u8 17) = byteA 17 := rfl
        have hO1l : (O0 ++ (17 :: ed)).length ≤ 1003100 := by simp; omega
        generalize O0 ++ (17 :: ed) = O1 at *
        simp [hlt, ha, enA]
        intro q hq
        simp only [ite_none] at hq
        obtain ⟨hqp, hq0⟩ := hq
        have hq : (σ.upd p [byteA aid, .lit (.bool false), .lit (.int .i64 cursor), .list o 2 (ensA es)]) q = none := by simp [hqp, hq0]
        simp [c1', c3T, Ne.symm hqp]
        refine callK.of (hen _) ?_
        rintro v σ' ⟨rfl, rfl⟩
        simp [h17]
        refine ⟨by omega, by omega, by omega, by omega, ?_⟩
        refine codeK.loop follows (st := st9) (plans := pl9) (X := Nat) (fun j => j ≤ tx.length ∧ ∀ k (hk : k < tx.length), k < j → isOrd tx[k] = false)
          (fun j => [(1, .lit (.pointer (some ⟨p, 0, none⟩))), (6, .list true 1 (bytesA O1)), (8, .lit (.pointer (some ⟨q, 0, none⟩))), (31, .list false 2 (ensA es)), (32, .lit (.int .i64 es.length)), (33, .lit (.int .i64 i)), (67, .list false 1 (bytesA tx)), (68, .lit (.int .i64 tx.length)), (69, .lit (.int .i64 j))])
          (fun _ => (σ.upd p [byteA aid, .lit (.bool false), .lit (.int .i64 cursor), .list o 2 (ensA es)]).upd q [.lit (.int .i64 (0 : Int)), .list false 1 (bytesA tx)]) (fun j => tx.length - j) 0 (by kernel_rfl) (by simp) (by simp [hO1]) (Store.sub_refl _) fun j hj => ?_
        obtain ⟨hj, hnj⟩ := hj
        by_cases hjt : j < tx.length
        · have hw2 : IntKind.i64.wrap ((j : Int) + 1) = ((j + 1 : Nat) : Int) := wrap_i64 (by omega) (by omega)
          have his := is16_calls tx[j]
          have hat := bytesA_at tx j hjt
          have hsome := fun h => hasOrd_some (l := tx) hjt h
          have hnone : isOrd tx[j] = false → ∀ k (hk : k < tx.length), k < j + 1 → isOrd tx[k] = false := fun h k hk hkj => by
            by_cases e : k = j
            · subst e; exact h
            · exact hnj k hk (by omega)
          generalize tx[j] = c at *
          by_cases hc : isOrd c = true
          · have hB := hBad (hsome hc)
            simp [hjt, hat]
            refine callK.of (his _) ?_
            rintro v σ' ⟨rfl, rfl⟩
            simp [hc, hB]
            exact Store.sub_upd hq0 (Store.sub_upd hp (Store.sub_refl _))
          · have hc' : isOrd c = false := by simpa using hc
            simp [hjt, hat]
            refine callK.of (his _) ?_
            rintro v σ' ⟨rfl, rfl⟩
            simp [hc']
            exact ⟨j + 1, ⟨by omega, hnone hc'⟩, by omega, by rw [hw2]; exact AV.le_refl _⟩
        · obtain rfl : j = tx.length := by omega
          have hO := hasOrd_none fun k hk => hnj k hk hk
          obtain ⟨g1, g2⟩ := hGood hO
          simp
          refine ⟨by omega, by omega, i + 1, ⟨by omega, g1⟩, by omega, ⟨?_, ?_⟩, ?_⟩
          · rw [← bytesA_append, g2]; exact AV.le_refl _
          · rw [hw]; exact AV.le_refl _
          · exact Store.sub_upd hq (Store.sub_refl _)
      · have e0 : entB false ⟨(0 : Int), tx⟩ = ([], 9) := by rw [entB_false]; simp [hoa]
        have hz := hyes (by rw [e0]; decide)
        rw [e0] at hz
        have hen := enc4_calls (0 : Int)
        rw [encR, if_neg hoa] at hen
        simp [hlt, ha, enA]
        intro q hq
        simp only [ite_none] at hq
        obtain ⟨hqp, hq0⟩ := hq
        simp [c1', c3T, Ne.symm hqp]
        refine callK.of (hen _) ?_
        rintro v σ' ⟨rfl, rfl⟩
        simp [hz]
        exact Store.sub_upd hq0 (Store.sub_upd hp (Store.sub_refl _))
    · have c1' : ¬ (1 : Int) < (es.length : Int) := by omega
      have c3 : ¬ tx = [] := List.length_pos_iff.1 htl
      subst c2
      have hBad : hasOrd tx = true → seqB (entB true) es = ([], 10) := fun h => by
        have e0 : entB true ⟨(0 : Int), tx⟩ = ([], 10) := by rw [entB_true _ htl]; simp [h]
        have := hyes (by rw [e0]; decide)
        rw [this, e0]
      have hGood : hasOrd tx = false → (∀ j (hj : j < es.length), j < i + 1 → (entB true es[j]).2 = 0) ∧ O0 ++ tx = aid :: he ++ sumE true es (i + 1) := fun h => by
        have e0 : entB true ⟨(0 : Int), tx⟩ = (tx, 0) := by rw [entB_true _ htl]; simp [h]
        refine ⟨hno (by rw [e0]), ?_⟩
        rw [hsucc, e0, ← hO0]; simp
      have hO1l : O0.length ≤ 1003100 := by omega
      obtain ⟨O1, hO1⟩ : ∃ O1, O0 = O1 := ⟨_, rfl⟩
      rw [hO1] at hGood hO1l
      simp [hlt, ha, enA]
      intro q hq
      simp only [ite_none] at hq
      obtain ⟨hqp, hq0⟩ := hq
      have hq : (σ.upd p [byteA aid, .lit (.bool false), .lit (.int .i64 cursor), .list o 2 (ensA es)]) q = none := by simp [hqp, hq0]
      simp [c1', c3, Ne.symm hqp]
      refine codeK.loop follows (st := st9) (plans := pl9) (X := Nat) (fun j => j ≤ tx.length ∧ ∀ k (hk : k < tx.length), k < j → isOrd tx[k] = false)
        (fun j => [(1, .lit (.pointer (some ⟨p, 0, none⟩))), (6, .list true 1 (bytesA O1)), (8, .lit (.pointer (some ⟨q, 0, none⟩))), (31, .list false 2 (ensA es)), (32, .lit (.int .i64 es.length)), (33, .lit (.int .i64 i)), (67, .list false 1 (bytesA tx)), (68, .lit (.int .i64 tx.length)), (69, .lit (.int .i64 j))])
        (fun _ => (σ.upd p [byteA aid, .lit (.bool false), .lit (.int .i64 cursor), .list o 2 (ensA es)]).upd q [.lit (.int .i64 (0 : Int)), .list false 1 (bytesA tx)]) (fun j => tx.length - j) 0 (by kernel_rfl) (by simp) (by simp [hO1]) (Store.sub_refl _) fun j hj => ?_
      obtain ⟨hj, hnj⟩ := hj
      by_cases hjt : j < tx.length
      · have hw2 : IntKind.i64.wrap ((j : Int) + 1) = ((j + 1 : Nat) : Int) := wrap_i64 (by omega) (by omega)
        have his := is16_calls tx[j]
        have hat := bytesA_at tx j hjt
        have hsome := fun h => hasOrd_some (l := tx) hjt h
        have hnone : isOrd tx[j] = false → ∀ k (hk : k < tx.length), k < j + 1 → isOrd tx[k] = false := fun h k hk hkj => by
          by_cases e : k = j
          · subst e; exact h
          · exact hnj k hk (by omega)
        generalize tx[j] = c at *
        by_cases hc : isOrd c = true
        · have hB := hBad (hsome hc)
          simp [hjt, hat]
          refine callK.of (his _) ?_
          rintro v σ' ⟨rfl, rfl⟩
          simp [hc, hB]
          exact Store.sub_upd hq0 (Store.sub_upd hp (Store.sub_refl _))
        · have hc' : isOrd c = false := by simpa using hc
          simp [hjt, hat]
          refine callK.of (his _) ?_
          rintro v σ' ⟨rfl, rfl⟩
          simp [hc']
          exact ⟨j + 1, ⟨by omega, hnone hc'⟩, by omega, by rw [hw2]; exact AV.le_refl _⟩
      · obtain rfl : j = tx.length := by omega
        have hO := hasOrd_none fun k hk => hnj k hk hk
        obtain ⟨g1, g2⟩ := hGood hO
        simp
        refine ⟨by omega, by omega, i + 1, ⟨by omega, g1⟩, by omega, ⟨?_, ?_⟩, ?_⟩
        · rw [← bytesA_append, g2]; exact AV.le_refl _
        · rw [hw]; exact AV.le_refl _
        · exact Store.sub_upd hq (Store.sub_refl _)
  · obtain rfl : i = es.length := by omega
    have hz := seqB_ok (f := entB al) (l := es) fun x hx => by
      obtain ⟨j, hj, rfl⟩ := List.mem_iff_getElem.1 hx
      exact hk j hj hj
    simp [hz, sumE]
    exact Store.sub_upd hp (Store.sub_refl _)

set_option maxRecDepth 4000 in
theorem rbytes_short (o : Bool) (aid : UInt8) (cursor : Int) (es : List En) (σ : Store) :
    ACalls Try.prog 9 [.agg [byteA aid, .lit (.bool true), .lit (.int .i64 cursor), .list o 2 (ensA es)]] σ fun v σ' => v = .tuple [.list true 1 (bytesA [aid]), .lit (.int .i64 0)] ∧ σ' = σ := by
  refine ACalls.of_awp follows (st := st9) (plans := pl9) (n := 82) Try.func9 rfl (by kernel_rfl) (by kernel_rfl) (by kernel_rfl) ?_
  simp [bytesA]
  exact fun p hp => sub_upd_self _ _ _ hp
set_option maxRecDepth 4000 in
theorem rbytes_bad (o : Bool) (aid : UInt8) (cursor : Int) (es : List En) (σ : Store) (hen : ∀ σ, ACalls Try.prog 17 [.lit (.int .i64 12), .lit (.int .i64 cursor)] σ fun v σ' => v = .tuple [.list true 1 [], .lit (.int .i64 9)] ∧ σ' = σ) :
    ACalls Try.prog 9 [.agg [byteA aid, .lit (.bool false), .lit (.int .i64 cursor), .list o 2 (ensA es)]] σ fun v σ' => v = .tuple [.list true 1 [], .lit (.int .i64 9)] ∧ σ' = σ := by
  refine ACalls.of_awp follows (st := st9) (plans := pl9) (n := 82) Try.func9 rfl (by kernel_rfl) (by kernel_rfl) (by kernel_rfl) ?_
  simp
  intro p hp
  refine callK.of (hen _) ?_
  rintro v σ' ⟨rfl, rfl⟩
  simp [hp]

/-- A report that may be written: not too long. -/
def small (r : Rp) : Prop := r.es.length ≤ 1000 ∧ ∀ e ∈ r.es, e.text.length ≤ 1000
def rpO (o : Bool) (r : Rp) : AV := .agg [byteA r.aid, .lit (.bool r.short), .lit (.int .i64 r.cursor), .list o 2 (ensA r.es)]
def outA (x : List UInt8 × Nat) : AV := .tuple [.list true 1 (bytesA x.1), .lit (.int .i64 x.2)]
theorem rep_out (aid : UInt8) (cursor : Int) (es : List En) (h : okAddr cursor) (x : List UInt8 × Nat) (hx : seqB (entB (aloneL es)) es = x) :
    AV.tuple (if x.2 ≠ 0 then [.list true 1 [], .lit (.int .i64 x.2)] else [.list true 1 (bytesA (aid :: encM cursor.toNat ++ x.1)), .lit (.int .i64 0)]) = outA (repB ⟨aid, false, cursor, es⟩) := by
  simp only [repB, h, hx, if_true, outA]
  by_cases h0 : x.2 = 0 <;> simp [h0, bytesA_nil]
theorem ebytes_calls (o : Bool) (r : Rp) (h : small r) (σ : Store) : ACalls Try.prog 7 [rpO o r] σ fun v σ' => v = outA (repB r) ∧ σ' = σ := by
  obtain ⟨aid, short, cursor, es⟩ := r
  cases short with
  | true => exact ebytes_short o aid cursor es σ
  | false =>
    by_cases hc : okAddr cursor
    · have hen := enc_calls cursor
      rw [encR, if_pos hc] at hen
      have := ebytes_ok o aid cursor es (encM cursor.toNat) rfl h.1 h.2 _ rfl σ hen
      rw [rep_out aid cursor es hc _ rfl] at this
      exact this
    · have hen := enc_calls cursor
      rw [encR, if_neg hc] at hen
      have hb : outA (repB ⟨aid, false, cursor, es⟩) = .tuple [.list true 1 [], .lit (.int .i64 9)] := by simp [outA, repB, hc, bytesA_nil]
      rw [hb]
      exact ebytes_bad o aid cursor es σ hen
theorem rbytes_calls (o : Bool) (r : Rp) (h : small r) (σ : Store) : ACalls Try.prog 9 [rpO o r] σ fun v σ' => v = outA (repB r) ∧ σ' = σ := by
  obtain ⟨aid, short, cursor, es⟩ := r
  cases short with
  | true => exact rbytes_short o aid cursor es σ
  | false =>
    by_cases hc : okAddr cursor
    · have hen := enc4_calls cursor
      rw [encR, if_pos hc] at hen
      have := rbytes_ok o aid cursor es (encM cursor.toNat) rfl h.1 h.2 _ rfl σ hen
      rw [rep_out aid cursor es hc _ rfl] at this
      exact this
    · have hen := enc4_calls cursor
      rw [encR, if_neg hc] at hen
      have hb : outA (repB ⟨aid, false, cursor, es⟩) = .tuple [.list true 1 [], .lit (.int .i64 9)] := by simp [outA, repB, hc, bytesA_nil]
      rw [hb]
      exact rbytes_bad o aid cursor es σ hen
end Go.Proofs.Ytkbokmokklbahaa
/-
  The scanner of orders.
-/
namespace Go.Proofs.Ytkbokmokklbahaa
open Go Go.AL
abbrev ptrA (o : Nat) : AV := .lit (.pointer (some ⟨o, 0, none⟩))
/-- What is left, and the first error. -/
def scA (o : Bool) (l : List UInt8) (e : Nat) : List AV := [.list o 1 (bytesA l), .lit (.int .i64 e)]
def failE (e c : Nat) : Nat := if e = 0 then c else e

theorem fail_calls (b : Nat) (o : Bool) (l : List UInt8) (e c : Nat) (σ : Store) (hb : σ b = some (scA o l e)) :
    ACalls Try.prog 47 [ptrA b, .lit (.int .i64 c)] σ fun v σ' => v = .tuple [] ∧ σ' = σ.upd b (scA o l (failE e c)) := by
  refine ACalls.of_awp follows (st := st47) (plans := pl47) (n := 13) Try.func47 rfl (by kernel_rfl) (by kernel_rfl) (by kernel_rfl) ?_
  unfold scA at hb
  by_cases h : e = 0
  · subst h
    simp [hb]
    exact sub_eq (by simp [scA, failE])
  · have h' : ¬ (e : Int) = 0 := by omega
    simp [hb, h]
    rw [failE, if_neg h]
    intro q
    by_cases hq : q = b
    · subst hq; right; simp [hb, scA]
    · right; simp [hq]

set_option maxRecDepth 4000 in
theorem take_ok (b : Nat) (o : Bool) (l : List UInt8) (e n : Nat) (σ : Store) (hb : σ b = some (scA o l e)) (hn : n ≤ l.length) (hl : l.length ≤ 1000000000) :
    ACalls Try.prog 39 [ptrA b, .lit (.int .i64 n)] σ fun v σ' => v = .list false 1 (bytesA (l.take n)) ∧ σ' = σ.upd b (scA false (l.drop n) e) := by
  refine ACalls.of_awp follows (st := st39) (plans := pl39) (n := 37) Try.func39 rfl (by kernel_rfl) (by kernel_rfl) (by kernel_rfl) ?_
  unfold scA at hb
  have h : ¬ (l.length : Int) < (n : Int) := by omega
  simp [hb, h, hn, bytesA_take, bytesA_drop]
  exact sub_eq rfl
set_option maxRecDepth 4000 in
theorem take_short1 (b : Nat) (o : Bool) (e : Nat) (σ : Store) (hb : σ b = some (scA o [] e)) :
    ACalls Try.prog 39 [ptrA b, .lit (.int .i64 1)] σ fun v σ' => v = .list false 1 (bytesA [0]) ∧ σ' = σ.upd b (scA true [] (failE e 2)) := by
  have hf := fail_calls b o [] e 2 σ hb
  refine ACalls.of_awp follows (st := st39) (plans := pl39) (n := 37) Try.func39 rfl (by kernel_rfl) (by kernel_rfl) (by kernel_rfl) ?_
  unfold scA at hb
  simp [hb, bytesA_nil]
  refine callK.of hf ?_
  rintro v σ' ⟨rfl, rfl⟩
  simp [scA, bytesA, byteA]
set_option maxRecDepth 4000 in
theorem take_short2 (b : Nat) (o : Bool) (l : List UInt8) (e : Nat) (σ : Store) (hb : σ b = some (scA o l e)) (hl : l.length < 2) :
    ACalls Try.prog 39 [ptrA b, .lit (.int .i64 2)] σ fun v σ' => v = .list false 1 (bytesA [0, 0]) ∧ σ' = σ.upd b (scA true [] (failE e 2)) := by
  have hf := fail_calls b o l e 2 σ hb
  have h : (l.length : Int) < 2 := by omega
  refine ACalls.of_awp follows (st := st39) (plans := pl39) (n := 37) Try.func39 rfl (by kernel_rfl) (by kernel_rfl) (by kernel_rfl) ?_
  unfold scA at hb
  simp [hb, h]
  refine callK.of hf ?_
  rintro v σ' ⟨rfl, rfl⟩
  simp [scA, bytesA, byteA]

set_option maxRecDepth 8000 in
set_option maxHeartbeats 1000000 in
theorem check_calls (t x : UInt8) (σ : Store) : ACalls Try.prog 33 [.agg [byteA t, byteA x]] σ fun v σ' => (∃ e : Nat, v = .lit (.int .i64 e)) ∧ σ' = σ := by
  refine ACalls.of_awp follows (st := st33) (plans := pl33) (n := 61) Try.func33 rfl (by kernel_rfl) (by kernel_rfl) (by kernel_rfl) ?_
  by_cases h1 : t.toNat = 0
  · simp [byteA, h1]
    (intro p hp; (repeat' split) <;> first | exact ⟨_, AV.le_refl _, sub_upd_self _ _ _ hp, 0, rfl⟩ | exact ⟨_, AV.le_refl _, sub_upd_self _ _ _ hp, 10, rfl⟩)
  by_cases h2 : (t.toNat : Int) = 192
  · simp [byteA, h2]
    (intro p hp; first | exact ⟨_, AV.le_refl _, sub_upd_self _ _ _ hp, 0, rfl⟩ | exact ⟨_, AV.le_refl _, sub_upd_self _ _ _ hp, 10, rfl⟩)
  by_cases h3 : (t.toNat : Int) = 65
  · have _ := h3
    by_cases x0 : x.toNat = 0
    · simp [byteA, h3, x0]
      (intro p hp; first | exact ⟨_, AV.le_refl _, sub_upd_self _ _ _ hp, 0, rfl⟩ | exact ⟨_, AV.le_refl _, sub_upd_self _ _ _ hp, 10, rfl⟩)
    by_cases x1 : (x.toNat : Int) = 240
    · simp [byteA, h3, x1]
      (intro p hp; first | exact ⟨_, AV.le_refl _, sub_upd_self _ _ _ hp, 0, rfl⟩ | exact ⟨_, AV.le_refl _, sub_upd_self _ _ _ hp, 10, rfl⟩)
    by_cases x2 : (x.toNat : Int) = 241
    · simp [byteA, h3, x2]
      (intro p hp; first | exact ⟨_, AV.le_refl _, sub_upd_self _ _ _ hp, 0, rfl⟩ | exact ⟨_, AV.le_refl _, sub_upd_self _ _ _ hp, 10, rfl⟩)
    by_cases x3 : (x.toNat : Int) = 242
    · simp [byteA, h3, x3]
      (intro p hp; first | exact ⟨_, AV.le_refl _, sub_upd_self _ _ _ hp, 0, rfl⟩ | exact ⟨_, AV.le_refl _, sub_upd_self _ _ _ hp, 10, rfl⟩)
    by_cases x4 : (x.toNat : Int) = 244
    · simp [byteA, h3, x4]
      (intro p hp; first | exact ⟨_, AV.le_refl _, sub_upd_self _ _ _ hp, 0, rfl⟩ | exact ⟨_, AV.le_refl _, sub_upd_self _ _ _ hp, 10, rfl⟩)
    by_cases x5 : (x.toNat : Int) = 248
    · simp [byteA, h3, x5]
      (intro p hp; first | exact ⟨_, AV.le_refl _, sub_upd_self _ _ _ hp, 0, rfl⟩ | exact ⟨_, AV.le_refl _, sub_upd_self _ _ _ hp, 10, rfl⟩)
    simp [byteA, h3, x0, x1, x2, x3, x4, x5]
    (intro p hp; first | exact ⟨_, AV.le_refl _, sub_upd_self _ _ _ hp, 0, rfl⟩ | exact ⟨_, AV.le_refl _, sub_upd_self _ _ _ hp, 10, rfl⟩)
  by_cases h4 : (t.toNat : Int) = 66
  · have _ := h4
    by_cases x0 : x.toNat = 0
    · simp [byteA, h4, x0]
      (intro p hp; first | exact ⟨_, AV.le_refl _, sub_upd_self _ _ _ hp, 0, rfl⟩ | exact ⟨_, AV.le_refl _, sub_upd_self _ _ _ hp, 10, rfl⟩)
    by_cases x1 : (x.toNat : Int) < 241
    · have y1 : ¬ (241 : Int) ≤ x.toNat := by omega
      simp [byteA, h4, x0, y1]
      (intro p hp; first | exact ⟨_, AV.le_refl _, sub_upd_self _ _ _ hp, 0, rfl⟩ | exact ⟨_, AV.le_refl _, sub_upd_self _ _ _ hp, 10, rfl⟩)
    by_cases x2 : 247 < (x.toNat : Int)
    · have y1 : (241 : Int) ≤ x.toNat := by omega
      have y2 : ¬ (x.toNat : Int) ≤ 247 := by omega
      simp [byteA, h4, x0, y1, y2]
      (intro p hp; first | exact ⟨_, AV.le_refl _, sub_upd_self _ _ _ hp, 0, rfl⟩ | exact ⟨_, AV.le_refl _, sub_upd_self _ _ _ hp, 10, rfl⟩)
    have y1 : (241 : Int) ≤ x.toNat := by omega
    have y2 : (x.toNat : Int) ≤ 247 := by omega
    simp [byteA, h4, x0, y1, y2]
    (intro p hp; first | exact ⟨_, AV.le_refl _, sub_upd_self _ _ _ hp, 0, rfl⟩ | exact ⟨_, AV.le_refl _, sub_upd_self _ _ _ hp, 10, rfl⟩)
  by_cases h5 : (t.toNat : Int) = 67
  · have _ := h5
    by_cases x0 : x.toNat = 0
    · simp [byteA, h5, x0]
      (intro p hp; first | exact ⟨_, AV.le_refl _, sub_upd_self _ _ _ hp, 0, rfl⟩ | exact ⟨_, AV.le_refl _, sub_upd_self _ _ _ hp, 10, rfl⟩)
    by_cases x1 : (x.toNat : Int) = 241
    · simp [byteA, h5, x1]
      (intro p hp; first | exact ⟨_, AV.le_refl _, sub_upd_self _ _ _ hp, 0, rfl⟩ | exact ⟨_, AV.le_refl _, sub_upd_self _ _ _ hp, 10, rfl⟩)
    simp [byteA, h5, x0, x1]
    (intro p hp; first | exact ⟨_, AV.le_refl _, sub_upd_self _ _ _ hp, 0, rfl⟩ | exact ⟨_, AV.le_refl _, sub_upd_self _ _ _ hp, 10, rfl⟩)
  simp [byteA, h1, h2, h3, h4, h5]
  (intro p hp; first | exact ⟨_, AV.le_refl _, sub_upd_self _ _ _ hp, 0, rfl⟩ | exact ⟨_, AV.le_refl _, sub_upd_self _ _ _ hp, 10, rfl⟩)
end Go.Proofs.Ytkbokmokklbahaa
