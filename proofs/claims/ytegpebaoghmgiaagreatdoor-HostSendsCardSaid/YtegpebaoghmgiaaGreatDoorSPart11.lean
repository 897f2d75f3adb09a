/-
  Pairs of a looks' type and value: which are right; their bytes.
-/
import Derived.Test.YtegpebaoghmgiaaGreatDoorSPart10
set_option linter.unusedSimpArgs false
set_option linter.unusedVariables false
namespace Go.Proofs.YtegpebaoghmgiaaGreatDoor
open Go Go.AL

def rightN (a b : Nat) : Bool := if a = 0 then decide (b = 0) else if a = 192 then true else if a = 65 then decide (b = 0 ∨ b = 240 ∨ b = 241 ∨ b = 242 ∨ b = 244 ∨ b = 248)
  else if a = 66 then decide (b = 0 ∨ (241 ≤ b ∧ b ≤ 247)) else if a = 67 then decide (b = 0 ∨ b = 241) else false
def errN (ok : Bool) : Int := if ok = true then 0 else 10
set_option maxHeartbeats 4000000 in
set_option maxRecDepth 8000 in
theorem checkN_calls (a b : Nat) (σ : Store) : ACalls Tryz.prog 53 [.agg [.lit (.int .u8 a), .lit (.int .u8 b)]] σ fun v σ' => v = .lit (.int .i64 (errN (rightN a b))) ∧ σ' = σ := by
  have fin : ∀ {p : Nat} {C : List AV}, σ p = none → Store.sub σ (σ.upd p C) := fun h => Store.sub_upd h (Store.sub_refl _)
  by_cases h0 : a = 0
  · subst h0
    by_cases hb : b = 0
    · subst hb
      rw [show rightN 0 0 = true by decide]
      refine ACalls.of_awp follows (st := st53) (plans := pl53) (n := 61) Tryz.func53 rfl (by kernel_rfl) (by kernel_rfl) (by kernel_rfl) ?_
      simp [errN]
      exact fun p hp => fin hp
    · have hr : rightN 0 b = false := by simp [rightN]; omega
      rw [hr]
      have n0 : ¬ (b : Int) = 0 := by omega
      have m0 : ¬ (0 : Int) = b := by omega
      have k0 : ¬ b = 0 := by omega
      have j0 : ¬ 0 = b := by omega
      refine ACalls.of_awp follows (st := st53) (plans := pl53) (n := 61) Tryz.func53 rfl (by kernel_rfl) (by kernel_rfl) (by kernel_rfl) ?_
      simp [errN, n0, m0, k0, j0]
      exact fun p hp => fin hp
  by_cases h192 : a = 192
  · subst h192
    rw [show rightN 192 b = true from rfl]
    refine ACalls.of_awp follows (st := st53) (plans := pl53) (n := 61) Tryz.func53 rfl (by kernel_rfl) (by kernel_rfl) (by kernel_rfl) ?_
    simp [errN]
    exact fun p hp => fin hp
  by_cases h65 : a = 65
  · subst h65
    by_cases hb : b = 0 ∨ b = 240 ∨ b = 241 ∨ b = 242 ∨ b = 244 ∨ b = 248
    · rcases hb with rfl | rfl | rfl | rfl | rfl | rfl
      · rw [show rightN 65 0 = true by decide]
        refine ACalls.of_awp follows (st := st53) (plans := pl53) (n := 61) Tryz.func53 rfl (by kernel_rfl) (by kernel_rfl) (by kernel_rfl) ?_
        simp [errN]
        exact fun p hp => fin hp
      · rw [show rightN 65 240 = true by decide]
        refine ACalls.of_awp follows (st := st53) (plans := pl53) (n := 61) Tryz.func53 rfl (by kernel_rfl) (by kernel_rfl) (by kernel_rfl) ?_
        simp [errN]
        exact fun p hp => fin hp
      · rw [show rightN 65 241 = true by decide]
        refine ACalls.of_awp follows (st := st53) (plans := pl53) (n := 61) Tryz.func53 rfl (by kernel_rfl) (by kernel_rfl) (by kernel_rfl) ?_
        simp [errN]
        exact fun p hp => fin hp
      · rw [show rightN 65 242 = true by decide]
        refine ACalls.of_awp follows (st := st53) (plans := pl53) (n := 61) Tryz.func53 rfl (by kernel_rfl) (by kernel_rfl) (by kernel_rfl) ?_
        simp [errN]
        exact fun p hp => fin hp
      · rw [show rightN 65 244 = true by decide]
        refine ACalls.of_awp follows (st := st53) (plans := pl53) (n := 61) Tryz.func53 rfl (by kernel_rfl) (by kernel_rfl) (by kernel_rfl) ?_
        simp [errN]
        exact fun p hp => fin hp
      · rw [show rightN 65 248 = true by decide]
        refine ACalls.of_awp follows (st := st53) (plans := pl53) (n := 61) Tryz.func53 rfl (by kernel_rfl) (by kernel_rfl) (by kernel_rfl) ?_
        simp [errN]
        exact fun p hp => fin hp
    · have hr : rightN 65 b = false := by simp [rightN]; omega
      rw [hr]
      have n0 : ¬ (b : Int) = 0 := by omega
      have m0 : ¬ (0 : Int) = b := by omega
      have k0 : ¬ b = 0 := by omega
      have j0 : ¬ 0 = b := by omega
      have n240 : ¬ (b : Int) = 240 := by omega
      have m240 : ¬ (240 : Int) = b := by omega
      have k240 : ¬ b = 240 := by omega
      have j240 : ¬ 240 = b := by omega
      have n241 : ¬ (b : Int) = 241 := by omega
      have m241 : ¬ (241 : Int) = b := by omega
      have k241 : ¬ b = 241 := by omega
      have j241 : ¬ 241 = b := by omega
      have n242 : ¬ (b : Int) = 242 := by omega
      have m242 : ¬ (242 : Int) = b := by omega
      have k242 : ¬ b = 242 := by omega
      have j242 : ¬ 242 = b := by omega
      have n244 : ¬ (b : Int) = 244 := by omega
      have m244 : ¬ (244 : Int) = b := by omega
      have k244 : ¬ b = 244 := by omega
      have j244 : ¬ 244 = b := by omega
      have n248 : ¬ (b : Int) = 248 := by omega
      have m248 : ¬ (248 : Int) = b := by omega
      have k248 : ¬ b = 248 := by omega
      have j248 : ¬ 248 = b := by omega
      refine ACalls.of_awp follows (st := st53) (plans := pl53) (n := 61) Tryz.func53 rfl (by kernel_rfl) (by kernel_rfl) (by kernel_rfl) ?_
      simp [errN, n0, m0, k0, j0, n240, m240, k240, j240, n241, m241, k241, j241, n242, m242, k242, j242, n244, m244, k244, j244, n248, m248, k248, j248]
      exact fun p hp => fin hp
  by_cases h66 : a = 66
  · subst h66
    by_cases hb : b = 0 ∨ b = 241 ∨ b = 242 ∨ b = 243 ∨ b = 244 ∨ b = 245 ∨ b = 246 ∨ b = 247
    · rcases hb with rfl | rfl | rfl | rfl | rfl | rfl | rfl | rfl
      · rw [show rightN 66 0 = true by decide]
        refine ACalls.of_awp follows (st := st53) (plans := pl53) (n := 61) Tryz.func53 rfl (by kernel_rfl) (by kernel_rfl) (by kernel_rfl) ?_
        simp [errN]
        exact fun p hp => fin hp
      · rw [show rightN 66 241 = true by decide]
        refine ACalls.of_awp follows (st := st53) (plans := pl53) (n := 61) Tryz.func53 rfl (by kernel_rfl) (by kernel_rfl) (by kernel_rfl) ?_
        simp [errN]
        exact fun p hp => fin hp
      · rw [show rightN 66 242 = true by decide]
        refine ACalls.of_awp follows (st := st53) (plans := pl53) (n := 61) Tryz.func53 rfl (by kernel_rfl) (by kernel_rfl) (by kernel_rfl) ?_
        simp [errN]
        exact fun p hp => fin hp
      · rw [show rightN 66 243 = true by decide]
        refine ACalls.of_awp follows (st := st53) (plans := pl53) (n := 61) Tryz.func53 rfl (by kernel_rfl) (by kernel_rfl) (by kernel_rfl) ?_
        simp [errN]
        exact fun p hp => fin hp
      · rw [show rightN 66 244 = true by decide]
        refine ACalls.of_awp follows (st := st53) (plans := pl53) (n := 61) Tryz.func53 rfl (by kernel_rfl) (by kernel_rfl) (by kernel_rfl) ?_
        simp [errN]
        exact fun p hp => fin hp
      · rw [show rightN 66 245 = true by decide]
        refine ACalls.of_awp follows (st := st53) (plans := pl53) (n := 61) Tryz.func53 rfl (by kernel_rfl) (by kernel_rfl) (by kernel_rfl) ?_
        simp [errN]
        exact fun p hp => fin hp
      · rw [show rightN 66 246 = true by decide]
        refine ACalls.of_awp follows (st := st53) (plans := pl53) (n := 61) Tryz.func53 rfl (by kernel_rfl) (by kernel_rfl) (by kernel_rfl) ?_
        simp [errN]
        exact fun p hp => fin hp
      · rw [show rightN 66 247 = true by decide]
        refine ACalls.of_awp follows (st := st53) (plans := pl53) (n := 61) Tryz.func53 rfl (by kernel_rfl) (by kernel_rfl) (by kernel_rfl) ?_
        simp [errN]
        exact fun p hp => fin hp
    · have hr : rightN 66 b = false := by simp [rightN]; omega
      rw [hr]
      have n0 : ¬ (b : Int) = 0 := by omega
      have m0 : ¬ (0 : Int) = b := by omega
      have k0 : ¬ b = 0 := by omega
      have j0 : ¬ 0 = b := by omega
      have n241 : ¬ (b : Int) = 241 := by omega
      have m241 : ¬ (241 : Int) = b := by omega
      have k241 : ¬ b = 241 := by omega
      have j241 : ¬ 241 = b := by omega
      have n242 : ¬ (b : Int) = 242 := by omega
      have m242 : ¬ (242 : Int) = b := by omega
      have k242 : ¬ b = 242 := by omega
      have j242 : ¬ 242 = b := by omega
      have n243 : ¬ (b : Int) = 243 := by omega
      have m243 : ¬ (243 : Int) = b := by omega
      have k243 : ¬ b = 243 := by omega
      have j243 : ¬ 243 = b := by omega
      have n244 : ¬ (b : Int) = 244 := by omega
      have m244 : ¬ (244 : Int) = b := by omega
      have k244 : ¬ b = 244 := by omega
      have j244 : ¬ 244 = b := by omega
      have n245 : ¬ (b : Int) = 245 := by omega
      have m245 : ¬ (245 : Int) = b := by omega
      have k245 : ¬ b = 245 := by omega
      have j245 : ¬ 245 = b := by omega
      have n246 : ¬ (b : Int) = 246 := by omega
      have m246 : ¬ (246 : Int) = b := by omega
      have k246 : ¬ b = 246 := by omega
      have j246 : ¬ 246 = b := by omega
      have n247 : ¬ (b : Int) = 247 := by omega
      have m247 : ¬ (247 : Int) = b := by omega
      have k247 : ¬ b = 247 := by omega
      have j247 : ¬ 247 = b := by omega
      by_cases g : (241 : Int) ≤ b
      · have g2 : ¬ (b : Int) ≤ 247 := by omega
        refine ACalls.of_awp follows (st := st53) (plans := pl53) (n := 61) Tryz.func53 rfl (by kernel_rfl) (by kernel_rfl) (by kernel_rfl) ?_
        simp [errN, n0, m0, k0, j0, n241, m241, k241, j241, n242, m242, k242, j242, n243, m243, k243, j243, n244, m244, k244, j244, n245, m245, k245, j245, n246, m246, k246, j246, n247, m247, k247, j247, g, g2]
        exact fun p hp => fin hp
      · refine ACalls.of_awp follows (st := st53) (plans := pl53) (n := 61) Tryz.func53 rfl (by kernel_rfl) (by kernel_rfl) (by kernel_rfl) ?_
        simp [errN, n0, m0, k0, j0, n241, m241, k241, j241, n242, m242, k242, j242, n243, m243, k243, j243, n244, m244, k244, j244, n245, m245, k245, j245, n246, m246, k246, j246, n247, m247, k247, j247, g]
        exact fun p hp => fin hp
  by_cases h67 : a = 67
  · subst h67
    by_cases hb : b = 0 ∨ b = 241
    · rcases hb with rfl | rfl
      · rw [show rightN 67 0 = true by decide]
        refine ACalls.of_awp follows (st := st53) (plans := pl53) (n := 61) Tryz.func53 rfl (by kernel_rfl) (by kernel_rfl) (by kernel_rfl) ?_
        simp [errN]
        exact fun p hp => fin hp
      · rw [show rightN 67 241 = true by decide]
        refine ACalls.of_awp follows (st := st53) (plans := pl53) (n := 61) Tryz.func53 rfl (by kernel_rfl) (by kernel_rfl) (by kernel_rfl) ?_
        simp [errN]
        exact fun p hp => fin hp
    · have hr : rightN 67 b = false := by simp [rightN]; omega
      rw [hr]
      have n0 : ¬ (b : Int) = 0 := by omega
      have m0 : ¬ (0 : Int) = b := by omega
      have k0 : ¬ b = 0 := by omega
      have j0 : ¬ 0 = b := by omega
      have n241 : ¬ (b : Int) = 241 := by omega
      have m241 : ¬ (241 : Int) = b := by omega
      have k241 : ¬ b = 241 := by omega
      have j241 : ¬ 241 = b := by omega
      refine ACalls.of_awp follows (st := st53) (plans := pl53) (n := 61) Tryz.func53 rfl (by kernel_rfl) (by kernel_rfl) (by kernel_rfl) ?_
      simp [errN, n0, m0, k0, j0, n241, m241, k241, j241]
      exact fun p hp => fin hp
  have n0 : ¬ (a : Int) = 0 := by omega
  have n192 : ¬ (a : Int) = 192 := by omega
  have n65 : ¬ (a : Int) = 65 := by omega
  have n66 : ¬ (a : Int) = 66 := by omega
  have n67 : ¬ (a : Int) = 67 := by omega
  have hr : rightN a b = false := by simp [rightN, h0, h192, h65, h66, h67]
  rw [hr]
  refine ACalls.of_awp follows (st := st53) (plans := pl53) (n := 61) Tryz.func53 rfl (by kernel_rfl) (by kernel_rfl) (by kernel_rfl) ?_
  simp [errN, n0, h0, n192, h192, n65, h65, n66, h66, n67, h67]
  exact fun p hp => fin hp
def natsB (l : List Nat) : List AV := l.map fun n => .lit (.int .u8 (n : Nat))
end Go.Proofs.YtegpebaoghmgiaaGreatDoor
/-
  Pairs' bytes.
-/
namespace Go.Proofs.YtegpebaoghmgiaaGreatDoor
open Go Go.AL

def rightP (p : UInt8 × UInt8) : Bool := rightN p.1.toNat p.2.toNat
def flatP (l : List (UInt8 × UInt8)) : List UInt8 := l.flatMap fun p => [p.1, p.2]
def prB (l : List (UInt8 × UInt8)) : List UInt8 × Nat := if 255 < l.length then ([], 3) else if l.all rightP = true then (UInt8.ofNat l.length :: flatP l, 0) else ([], 10)
theorem flatP_len (l : List (UInt8 × UInt8)) : (flatP l).length = 2 * l.length := by
  unfold flatP
  induction l with
  | nil => rfl
  | cons a l ih => simp only [List.flatMap_cons, List.length_append, ih, List.length_cons, List.length_nil]; omega
theorem flatP_succ (l : List (UInt8 × UInt8)) (i : Nat) (h : i < l.length) : flatP (l.take (i + 1)) = flatP (l.take i) ++ [l[i].1, l[i].2] := by
  unfold flatP
  rw [List.take_succ_eq_append_getElem h, List.flatMap_append]; simp
theorem check_calls (p : UInt8 × UInt8) (σ : Store) : ACalls Tryz.prog 53 [.agg [byteA p.1, byteA p.2]] σ fun v σ' => v = .lit (.int .i64 (errN (rightP p))) ∧ σ' = σ := checkN_calls _ _ σ
@[simp] theorem pairsA_len (l : List (UInt8 × UInt8)) : (pairsA l).length = l.length := by simp [pairsA]
theorem pairsA_get (l : List (UInt8 × UInt8)) (i : Nat) (h : i < l.length) : (pairsA l)[i]? = some (.agg [byteA l[i].1, byteA l[i].2]) := by simp [pairsA, h]
set_option maxHeartbeats 1000000 in
set_option maxRecDepth 8000 in
theorem abytes_calls (o : Bool) (l : List (UInt8 × UInt8)) (hl : l.length ≤ 9223372036854775807) (σ : Store) : ACalls Tryz.prog 81 [.list o 2 (pairsA l)] σ fun v σ' => v = .tuple [.list true 1 (bytesA (prB l).1), .lit (.int .i64 (prB l).2)] ∧ σ' = σ := by
  refine ACalls.of_awp follows (st := st81) (plans := pl81) (n := 35) Tryz.func81 rfl (by kernel_rfl) (by kernel_rfl) (by kernel_rfl) ?_
  by_cases hlong : 255 < l.length
  · have hB : prB l = ([], 3) := if_pos hlong
    have hlong' : (255 : Int) < l.length := by omega
    rw [hB]
    simp [hlong, hlong', bytesA_nil]
  · have hlong' : ¬ (255 : Int) < l.length := by omega
    have hB : prB l = if l.all rightP = true then (UInt8.ofNat l.length :: flatP l, 0) else ([], 10) := if_neg hlong
    have hcv : IntKind.u8.wrap (l.length : Int) = ((UInt8.ofNat l.length).toNat : Int) := by
      rw [wrap_u8 (by omega) (by omega), UInt8.toNat_ofNat']; omega
    have hb1 : ∀ m : List UInt8, bytesA (UInt8.ofNat l.length :: m) = .lit (.int .u8 ((UInt8.ofNat l.length).toNat : Int)) :: bytesA m := fun m => rfl
    simp [hlong, hlong', hcv]
    refine codeK.loop follows (st := st81) (plans := pl81) (X := Nat) (fun i => i ≤ l.length ∧ ∀ j (hj : j < l.length), j < i → rightP l[j] = true)
      (fun i => [(4, .list true 1 (bytesA (UInt8.ofNat l.length :: flatP (l.take i)))), (15, .list false 2 (pairsA l)), (16, .lit (.int .i64 l.length)), (17, .lit (.int .i64 i))]) (fun _ => σ) (fun i => l.length - i) 0 (by kernel_rfl) (by simp) (by simp [hb1, flatP, bytesA_nil]) (Store.sub_refl _) fun i hi => ?_
    obtain ⟨hi, hk⟩ := hi
    by_cases hlt : i < l.length
    · have hw : IntKind.i64.wrap ((i : Int) + 1) = ((i + 1 : Nat) : Int) := wrap_i64 (by omega) (by omega)
      have hs := check_calls l[i]
      have ha := pairsA_get l i hlt
      have hf := flatP_succ l i hlt
      have hfl := flatP_len (l.take i)
      rw [List.length_take] at hfl
      have hga : ∀ h : i < (pairsA l).length, (pairsA l)[i]'h = .agg [byteA l[i].1, byteA l[i].2] := fun h => by rw [List.getElem?_eq_getElem h] at ha; exact Option.some.inj ha
      have hno : rightP l[i] = true → ∀ j (hj : j < l.length), j < i + 1 → rightP l[j] = true := fun h j hj hji => by
        by_cases e : j = i
        · subst e; exact h
        · exact hk j hj (by omega)
      have hbad : rightP l[i] = false → l.all rightP = false := fun h => by
        rw [List.all_eq_false]; exact ⟨l[i], List.getElem_mem hlt, by rw [h]; simp⟩
      have hlen1 : (bytesA (UInt8.ofNat l.length :: flatP (l.take i))).length ≤ 1000 := by simp; omega
      have hnext : bytesA (UInt8.ofNat l.length :: flatP (l.take (i + 1))) = bytesA (UInt8.ofNat l.length :: flatP (l.take i)) ++ [.lit (.int .u8 (l[i].1.toNat : Int)), .lit (.int .u8 (l[i].2.toNat : Int))] := by
        rw [hf, ← List.cons_append, bytesA_append]; rfl
      generalize bytesA (UInt8.ofNat l.length :: flatP (l.take i)) = BI at *
      generalize l[i] = x at *
      obtain ⟨x1, x2⟩ := x
      unfold byteA at *
      simp only at *
      cases hx : rightP (x1, x2)
      · rw [hx] at hs
        have hz := hbad hx
        rw [hB, hz]
        simp [hlt, ha, hga]
        intro p hp
        refine callK.eq (hs _) ?_
        simp [errN, bytesA_nil]
        exact Store.sub_upd hp (Store.sub_refl _)
      · rw [hx] at hs
        simp [hlt, ha, hga]
        intro p hp
        refine callK.eq (hs _) ?_
        simp [errN]
        refine ⟨by omega, by omega, i + 1, ⟨by omega, hno hx⟩, by omega, ⟨?_, ?_⟩, ?_⟩
        · rw [hnext]; exact AV.le_refl _
        · rw [hw]; exact AV.le_refl _
        · exact Store.sub_upd hp (Store.sub_refl _)
    · obtain rfl : i = l.length := by omega
      have hall : l.all rightP = true := List.all_eq_true.2 fun x hx => by
        obtain ⟨j, hj, rfl⟩ := List.mem_iff_getElem.1 hx
        exact hk j hj hj
      have ht : l.take l.length = l := List.take_length
      rw [hB, if_pos hall]
      simp [ht]
end Go.Proofs.YtegpebaoghmgiaaGreatDoor
/-
  Orders' bytes: text, addresses, attributes, the cursor.
-/
namespace Go.Proofs.YtegpebaoghmgiaaGreatDoor
open Go Go.AL

set_option maxRecDepth 8000 in
theorem looks_calls (l : List (UInt8 × UInt8)) (hl : l.length ≤ 9223372036854775807) (σ : Store) : ACalls Tryz.prog 71 [.lit (.int .u8 41), .list false 2 (pairsA l)] σ fun v σ' => v = .tuple (if (prB l).2 = 0 then [.list true 1 (bytesA (41 :: (prB l).1)), .lit (.int .i64 0)] else [.list true 1 [], .lit (.int .i64 (prB l).2)]) ∧ σ' = σ := by
  have ha := abytes_calls false l hl
  have hlen : (prB l).1.length ≤ 1000 := by
    unfold prB
    have := flatP_len l
    split
    · simp
    · split <;> simp; omega
  have e : ∀ m, bytesA (41 :: m) = .lit (.int .u8 41) :: bytesA m := fun _ => rfl
  generalize prB l = r at *
  obtain ⟨r1, r2⟩ := r
  simp only at *
  refine ACalls.of_awp follows (st := st71) (plans := pl71) (n := 20) Tryz.func71 rfl (by kernel_rfl) (by kernel_rfl) (by kernel_rfl) ?_
  simp
  refine callK.eq (ha _) ?_
  by_cases h : r2 = 0
  · subst h
    simp [e]
    omega
  · have h' : ¬ (r2 : Int) = 0 := by omega
    simp [h, h']
def opG (o : Op) : List UInt8 × Nat := if o.kind = 19 then ([19], 0) else if o.kind = 29 then ([29, o.fa], 0) else if o.kind = 41 then (if (prB o.pairs).2 = 0 then (41 :: (prB o.pairs).1, 0) else ([], (prB o.pairs).2)) else opB o
def goodG (o : Op) : Prop := good o ∨ o.kind = 19 ∨ o.kind = 29 ∨ (o.kind = 41 ∧ o.pairs.length ≤ 1000000)
set_option maxRecDepth 8000 in
theorem opbytes_ic (o : Op) (h0 : o.kind = 19) (σ : Store) : ACalls Tryz.prog 59 [opA o] σ fun v σ' => v = .tuple [.list true 1 (bytesA (opG o).1), .lit (.int .i64 (opG o).2)] ∧ σ' = σ := by
  obtain ⟨kind, addr, code, graph, fa, pairs, text⟩ := o
  simp only at h0
  subst h0
  have hB : opG ⟨19, addr, code, graph, fa, pairs, text⟩ = ([19], 0) := by simp [opG]
  have hw : IntKind.u8.wrap 19 = 19 := by decide
  rw [hB]
  refine ACalls.of_awp follows (st := st59) (plans := pl59) (n := 118) Tryz.func59 rfl (by kernel_rfl) (by kernel_rfl) (by kernel_rfl) ?_
  simp [opA, opC, hw]
  intro p hp
  exact ⟨AV.le_refl _, Store.sub_upd hp (Store.sub_refl _)⟩
set_option maxRecDepth 8000 in
theorem opbytes_sf (o : Op) (h0 : o.kind = 29) (σ : Store) : ACalls Tryz.prog 59 [opA o] σ fun v σ' => v = .tuple [.list true 1 (bytesA (opG o).1), .lit (.int .i64 (opG o).2)] ∧ σ' = σ := by
  obtain ⟨kind, addr, code, graph, fa, pairs, text⟩ := o
  simp only at h0
  subst h0
  have hB : opG ⟨29, addr, code, graph, fa, pairs, text⟩ = ([29, fa], 0) := by simp [opG]
  have hw : IntKind.u8.wrap 29 = 29 := by decide
  rw [hB]
  refine ACalls.of_awp follows (st := st59) (plans := pl59) (n := 118) Tryz.func59 rfl (by kernel_rfl) (by kernel_rfl) (by kernel_rfl) ?_
  have e1 : byteA fa = .lit (.int .u8 fa.toNat) := rfl
  simp [opA, opC, hw, e1]
  intro p hp
  exact ⟨AV.le_refl _, Store.sub_upd hp (Store.sub_refl _)⟩
set_option maxRecDepth 8000 in
theorem opbytes_sfe (o : Op) (h0 : o.kind = 41) (hl : o.pairs.length ≤ 1000000) (σ : Store) : ACalls Tryz.prog 59 [opA o] σ fun v σ' => v = .tuple [.list true 1 (bytesA (opG o).1), .lit (.int .i64 (opG o).2)] ∧ σ' = σ := by
  obtain ⟨kind, addr, code, graph, fa, pairs, text⟩ := o
  simp only at h0 hl
  subst h0
  have hlk := looks_calls pairs (by omega)
  have hB : opG ⟨41, addr, code, graph, fa, pairs, text⟩ = if (prB pairs).2 = 0 then (41 :: (prB pairs).1, 0) else ([], (prB pairs).2) := by simp [opG]
  have hw : IntKind.u8.wrap 41 = 41 := by decide
  rw [hB]
  refine ACalls.of_awp follows (st := st59) (plans := pl59) (n := 118) Tryz.func59 rfl (by kernel_rfl) (by kernel_rfl) (by kernel_rfl) ?_
  by_cases h : (prB pairs).2 = 0
  · rw [if_pos h] at hlk
    simp only [if_pos h]
    simp [opA, opC, hw]
    intro p hp
    refine callK.eq (hlk _) ?_
    simp [hp]
  · rw [if_neg h] at hlk
    simp only [if_neg h]
    simp [opA, opC, hw]
    intro p hp
    refine callK.eq (hlk _) ?_
    simp [hp, bytesA_nil]
theorem opbytesG_calls (o : Op) (h : goodG o) (σ : Store) : ACalls Tryz.prog 59 [opA o] σ fun v σ' => v = .tuple [.list true 1 (bytesA (opG o).1), .lit (.int .i64 (opG o).2)] ∧ σ' = σ := by
  rcases h with h | h | h | ⟨h, h2⟩
  · have e : opG o = opB o := by
      unfold opG
      rcases h with ⟨h, _⟩ | h <;> simp [h]
    rw [e]
    exact opbytes_calls o h σ
  · exact opbytes_ic o h σ
  · exact opbytes_sf o h σ
  · exact opbytes_sfe o h h2 σ
theorem opG_err (o : Op) (h : (opG o).2 ≠ 0) : (opG o).1 = [] := by
  by_cases h1 : o.kind = 19
  · simp [opG, h1] at h
  · by_cases h2 : o.kind = 29
    · simp [opG, h2] at h
    · by_cases h3 : o.kind = 41
      · by_cases h4 : (prB o.pairs).2 = 0
        · simp [opG, h3, h4] at h
        · simp [opG, h3, h4]
      · have e : opG o = opB o := by simp [opG, h1, h2, h3]
        rw [e] at h ⊢
        exact opB_err o h
theorem opG_len (o : Op) (h : goodG o) : (opG o).1.length ≤ 1000000 := by
  rcases h with h | h | h | ⟨h, _⟩
  · have e : opG o = opB o := by
      unfold opG
      rcases h with ⟨h, _⟩ | h <;> simp [h]
    rw [e]; exact opB_len o h
  · simp [opG, h]
  · simp [opG, h]
  · have hp : (prB o.pairs).1.length ≤ 1000 := by
      unfold prB
      have := flatP_len o.pairs
      split
      · simp
      · split <;> simp; omega
    have e : opG o = if (prB o.pairs).2 = 0 then (41 :: (prB o.pairs).1, 0) else ([], (prB o.pairs).2) := by simp [opG, h]
    rw [e]
    split
    · simp; omega
    · simp
def sumG (l : List Op) (i : Nat) : List UInt8 := (l.take i).flatMap fun o => (opG o).1
theorem sumG_succ (l : List Op) (i : Nat) (h : i < l.length) : sumG l (i + 1) = sumG l i ++ (opG l[i]).1 := by
  rw [sumG, sumG, List.take_succ_eq_append_getElem h, List.flatMap_append]; simp
theorem sumG_len (l : List Op) (hg : ∀ o ∈ l, goodG o) (i : Nat) (h : i ≤ l.length) : (sumG l i).length ≤ i * 1000000 := by
  induction i with
  | zero => simp [sumG]
  | succ i ih =>
    rw [sumG_succ l i (by omega), List.length_append]
    have := ih (by omega)
    have := opG_len l[i] (hg _ (List.getElem_mem _))
    omega

set_option maxRecDepth 8000 in
theorem obytesG_calls (o : Bool) (l : List Op) (hg : ∀ x ∈ l, goodG x) (hl : l.length ≤ 1000) (σ : Store) : ACalls Tryz.prog 43 [.list o 7 (opsA l)] σ fun v σ' => v = .tuple [.list true 1 (bytesA (seqB opG l).1), .lit (.int .i64 (seqB opG l).2)] ∧ σ' = σ := by
  refine ACalls.of_awp follows (st := st43) (plans := pl43) (n := 28) Tryz.func43 rfl (by kernel_rfl) (by kernel_rfl) (by kernel_rfl) ?_
  simp
  refine codeK.loop follows (st := st43) (plans := pl43) (X := Nat) (fun i => i ≤ l.length ∧ ∀ j (hj : j < l.length), j < i → (opG l[j]).2 = 0)
    (fun i => [(4, .list true 1 (bytesA (sumG l i))), (9, .list false 7 (opsA l)), (10, .lit (.int .i64 l.length)), (11, .lit (.int .i64 i))]) (fun _ => σ) (fun i => l.length - i) 0 (by kernel_rfl) (by simp) (by simp [sumG, bytesA_nil]) (by simp) fun i hi => ?_
  obtain ⟨hi, hk⟩ := hi
  by_cases hlt : i < l.length
  · have hw : IntKind.i64.wrap ((i : Int) + 1) = ((i + 1 : Nat) : Int) := wrap_i64 (by omega) (by omega)
    have hs := opbytesG_calls l[i] (hg _ (List.getElem_mem _))
    have ha := opsA_get l i hlt
    have hyes := fun h => seqB_bad (f := opG) hlt hk h
    have hno : (opG l[i]).2 = 0 → ∀ j (hj : j < l.length), j < i + 1 → (opG l[j]).2 = 0 := fun h j hj hji => by
      by_cases e : j = i
      · subst e; exact h
      · exact hk j hj (by omega)
    have hsucc := sumG_succ l i hlt
    have hlen := sumG_len l hg i hi
    have hlen1 := opG_len l[i] (hg _ (List.getElem_mem _))
    have herr := opG_err l[i]
    generalize l[i] = x at *
    obtain ⟨bs, hbs⟩ : ∃ bs, (opG x).1 = bs := ⟨_, rfl⟩
    obtain ⟨er, her⟩ : ∃ er, (opG x).2 = er := ⟨_, rfl⟩
    rw [hbs] at hs hsucc hlen1 herr
    rw [her] at hs hyes hno herr
    by_cases hb : er = 0
    · subst hb
      have hle : (sumG l i).length + bs.length ≤ 2000000000 := by
        have : i * 1000000 ≤ 1000 * 1000000 := Nat.mul_le_mul_right _ (by omega)
        omega
      simp [hlt, ha, opA, opC]
      intro p hp
      refine callK.of (hs _) ?_
      rintro v σ' ⟨rfl, rfl⟩
      simp
      refine ⟨by omega, by omega, i + 1, ⟨by omega, hno rfl⟩, by omega, ⟨?_, ?_⟩, ?_⟩
      · rw [hsucc, bytesA_append]; exact AV.le_refl _
      · rw [hw]; exact AV.le_refl _
      · exact sub_upd_self _ _ _ hp
    · have hb' : ¬ (er : Int) = 0 := by omega
      have hz := hyes hb
      simp [hlt, ha, opA, opC]
      intro p hp
      refine callK.of (hs _) ?_
      rintro v σ' ⟨rfl, rfl⟩
      simp [hb, hz, hp, bytesA_nil]
  · obtain rfl : i = l.length := by omega
    have hz := seqB_ok (f := opG) (l := l) fun x hx => by
      obtain ⟨j, hj, rfl⟩ := List.mem_iff_getElem.1 hx
      exact hk j hj hj
    simp [hz, sumG]
end Go.Proofs.YtegpebaoghmgiaaGreatDoor
/-
  A field's byte.
-/
namespace Go.Proofs.YtegpebaoghmgiaaGreatDoor
open Go Go.AL

theorem le_of_eq {a b : AV} (h : a = b) : a.le b := h ▸ AV.le_refl _
structure Fd where
  prot : Bool
  num : Bool
  disp : Int
  mod : Bool
def fdA (f : Fd) : AV := .agg [.lit (.bool f.prot), .lit (.bool f.num), .lit (.int .i64 f.disp), .lit (.bool f.mod)]
def okD (f : Fd) : Bool := decide (0 ≤ f.disp ∧ f.disp ≤ 3)
def bitsF (f : Fd) : Nat := 4 * f.disp.toNat + (if f.prot = true then 32 else 0) + (if f.num = true then 16 else 0) + (if f.mod = true then 1 else 0)
theorem bitsF_lt (f : Fd) (h : okD f = true) : bitsF f < 64 := by
  have := of_decide_eq_true h
  unfold bitsF
  split <;> split <;> split <;> omega
set_option maxHeartbeats 2000000 in
set_option maxRecDepth 8000 in
theorem fbits_calls (f : Fd) (σ : Store) : ACalls Tryz.prog 66 [fdA f] σ fun v σ' => v = .tuple [.lit (.int .u8 (if okD f = true then (bitsF f : Nat) else 0 : Nat)), .lit (.int .i64 (if okD f = true then 0 else 1))] ∧ σ' = σ := by
  obtain ⟨p, n, d, m⟩ := f
  have fin : ∀ {p : Nat} {C : List AV}, σ p = none → Store.sub σ (σ.upd p C) := fun h => Store.sub_upd h (Store.sub_refl _)
  by_cases h : 0 ≤ d ∧ d ≤ 3
  · have hd : d = 0 ∨ d = 1 ∨ d = 2 ∨ d = 3 := by omega
    rcases hd with rfl | rfl | rfl | rfl <;> cases p <;> cases n <;> cases m
    all_goals
      refine ACalls.of_awp follows (st := st66) (plans := pl66) (n := 30) Tryz.func66 rfl (by kernel_rfl) (by kernel_rfl) (by kernel_rfl) ?_
      simp [fdA, okD, bitsF, tInt]
      exact fun p hp => ⟨le_of_eq rfl, fin hp⟩
  · have hk : okD ⟨p, n, d, m⟩ = false := by simp [okD]; omega
    rw [hk]
    refine ACalls.of_awp follows (st := st66) (plans := pl66) (n := 30) Tryz.func66 rfl (by kernel_rfl) (by kernel_rfl) (by kernel_rfl) ?_
    by_cases h1 : d < 0
    · simp [fdA, h1]
      exact fun p hp => fin hp
    · have h2 : 3 < d := by omega
      simp [fdA, h1, h2]
      exact fun p hp => fin hp
set_option maxRecDepth 8000 in
theorem fbyte_calls (f : Fd) (σ : Store) : ACalls Tryz.prog 52 [fdA f] σ fun v σ' => v = .tuple [if okD f = true then byteA (six (bitsF f)) else .lit (.int .u8 0), .lit (.int .i64 (if okD f = true then 0 else 1))] ∧ σ' = σ := by
  have hb := fun τ => fbits_calls f τ
  have hlt := bitsF_lt f
  have hfa : fdA f = .agg [.lit (.bool f.prot), .lit (.bool f.num), .lit (.int .i64 f.disp), .lit (.bool f.mod)] := rfl
  have fin : ∀ {p : Nat} {C : List AV}, σ p = none → Store.sub σ (σ.upd p C) := fun h => Store.sub_upd h (Store.sub_refl _)
  rw [hfa] at hb ⊢
  cases h : okD f
  · rw [h] at hb
    refine ACalls.of_awp follows (st := st52) (plans := pl52) (n := 17) Tryz.func52 rfl (by kernel_rfl) (by kernel_rfl) (by kernel_rfl) ?_
    simp
    intro p hp
    refine callK.eq (hb _) ?_
    simp
    exact fin hp
  · rw [h] at hb
    have hl := hlt h
    have hs := fun τ => six_calls (bitsF f) (by omega) τ
    generalize bitsF f = B at *
    have e6 : byteA (six B) = .lit (.int .u8 ((six B).toNat : Int)) := rfl
    rw [e6] at hs ⊢
    have hw : IntKind.i64.wrap (B : Int) = (B : Int) := wrap_i64 (by omega) (by omega)
    refine ACalls.of_awp follows (st := st52) (plans := pl52) (n := 17) Tryz.func52 rfl (by kernel_rfl) (by kernel_rfl) (by kernel_rfl) ?_
    simp
    intro p hp
    refine callK.eq (hb _) ?_
    simp [hw]
    refine callK.eq (hs _) ?_
    simp
    exact fin hp
end Go.Proofs.YtegpebaoghmgiaaGreatDoor
/-
  Does a text begin with the three bytes of U+FFFD?
-/
namespace Go.Proofs.YtegpebaoghmgiaaGreatDoor
open Go Go.AL

def fffd : ByteArray := ⟨#[239, 191, 189]⟩
def beg3 (t : ByteArray) : Bool := decide (3 ≤ t.size) && decide (t.extract 0 3 = fffd)
set_option maxRecDepth 8000 in
theorem pfx66_calls (t : ByteArray) (ht : t.size ≤ 9223372036854775807) (σ : Store) : ACalls Tryz.prog 68 [.lit (.string t), .lit (.string ⟨#[239, 191, 189]⟩)] σ fun v σ' => v = .lit (.bool (beg3 t)) ∧ σ' = σ := by
  have h3 : (⟨#[239, 191, 189]⟩ : ByteArray).size = 3 := rfl
  refine ACalls.of_awp follows (st := []) (plans := []) (n := 18) Tryz.func68 rfl (by kernel_rfl) (by kernel_rfl) (by kernel_rfl) ?_
  by_cases h : 3 ≤ t.size
  · have h' : (3 : Int) ≤ t.size := by omega
    have e : ((t.extract 0 3).toList == [239, 191, 189]) = beg3 t := by
      rw [Bool.eq_iff_iff]
      unfold beg3 fffd
      simp [h]
      constructor
      · intro q
        apply ByteArray.ext
        rw [ByteArray.toList_eq] at q
        apply Array.ext'
        exact q
      · intro q
        rw [q, ByteArray.toList_eq]
    simp [h3, h, h', e]
    try exact AV.le_refl _
  · have h' : ¬ (3 : Int) ≤ t.size := by omega
    simp [h3, h, h', beg3]
@[simp] theorem callable68 : callable Tryz.prog 68 = true := nr (by kernel_rfl)
set_option maxRecDepth 8000 in
theorem pfx_calls (t : ByteArray) (ht : t.size ≤ 9223372036854775807) (σ : Store) : ACalls Tryz.prog 54 [.lit (.string t), .lit (.string ⟨#[239, 191, 189]⟩)] σ fun v σ' => v = .lit (.bool (beg3 t)) ∧ σ' = σ := by
  refine ACalls.of_awp follows (st := []) (plans := []) (n := 8) Tryz.func54 rfl (by kernel_rfl) (by kernel_rfl) (by kernel_rfl) ?_
  simp
  refine callK.eq (pfx66_calls t ht _) ?_
  simp
end Go.Proofs.YtegpebaoghmgiaaGreatDoor
/-
  Pages: their signs and codes, as lists. Written by a program of mine.
-/
namespace Go.Proofs.YtegpebaoghmgiaaGreatDoor
open Go Go.AL

def rowsL : List (List Nat) := [[0, 1, 2, 3, 156, 9, 134, 127, 151, 141, 142, 11, 12, 13, 14, 15],
  [16, 17, 18, 19, 157, 133, 8, 135, 24, 25, 146, 143, 28, 29, 30, 31],
  [128, 129, 130, 131, 132, 10, 23, 27, 136, 137, 138, 139, 140, 5, 6, 7],
  [144, 145, 22, 147, 148, 149, 150, 4, 152, 153, 154, 155, 20, 21, 158, 26],
  [32, 160, 226, 228, 224, 225, 227, 229, 231, 241, 162, 46, 60, 40, 43, 124],
  [38, 233, 234, 235, 232, 237, 238, 239, 236, 223, 33, 36, 42, 41, 59, 172],
  [45, 47, 194, 196, 192, 193, 195, 197, 199, 209, 166, 44, 37, 95, 62, 63],
  [248, 201, 202, 203, 200, 205, 206, 207, 204, 96, 58, 35, 64, 39, 61, 34],
  [216, 97, 98, 99, 100, 101, 102, 103, 104, 105, 171, 187, 240, 253, 254, 177],
  [176, 106, 107, 108, 109, 110, 111, 112, 113, 114, 170, 186, 230, 184, 198, 164],
  [181, 126, 115, 116, 117, 118, 119, 120, 121, 122, 161, 191, 208, 221, 222, 174],
  [94, 163, 165, 183, 169, 167, 182, 188, 189, 190, 91, 93, 175, 168, 180, 215],
  [123, 65, 66, 67, 68, 69, 70, 71, 72, 73, 173, 244, 246, 242, 243, 245],
  [125, 74, 75, 76, 77, 78, 79, 80, 81, 82, 185, 251, 252, 249, 250, 255],
  [92, 247, 83, 84, 85, 86, 87, 88, 89, 90, 178, 212, 214, 210, 211, 213],
  [48, 49, 50, 51, 52, 53, 54, 55, 56, 57, 179, 219, 220, 217, 218, 159]]
def baseL : List Nat := rowsL.flatten
theorem baseL_length : baseL.length = 256 := by decide +kernel
def oth37 : List (Nat × Nat) := []
def oth273 : List (Nat × Nat) := [(67, 123), (74, 196), (79, 33), (89, 126), (90, 220), (95, 94), (99, 91), (106, 246), (124, 167), (161, 223), (176, 162), (181, 64), (186, 172), (187, 124), (192, 228), (204, 166), (208, 252), (220, 125), (224, 214), (236, 92), (252, 93)]
def oth297 : List (Nat × Nat) := [(68, 64), (72, 92), (74, 176), (79, 33), (81, 123), (84, 125), (90, 167), (95, 94), (106, 249), (121, 181), (123, 163), (124, 224), (144, 91), (160, 96), (161, 168), (176, 162), (177, 35), (181, 93), (186, 172), (187, 124), (189, 126), (192, 233), (208, 232), (221, 166), (224, 231)]
def oth500 : List (Nat × Nat) := [(74, 91), (79, 33), (90, 93), (95, 94), (176, 162), (186, 172), (187, 124)]
def oth1047 : List (Nat × Nat) := [(95, 94), (173, 91), (176, 172), (186, 221), (187, 168), (189, 93)]
def oth1140 : List (Nat × Nat) := [(159, 8364)]
def othersF (n : Int) : List (Nat × Nat) := if n = 37 then oth37 else if n = 273 then oth273 else if n = 297 then oth297 else if n = 500 then oth500 else if n = 1047 then oth1047 else if n = 1140 then oth1140 else []
def isPage (n : Int) : Prop := n = 37 ∨ n = 273 ∨ n = 297 ∨ n = 500 ∨ n = 1047 ∨ n = 1140
instance (n : Int) : Decidable (isPage n) := by unfold isPage; infer_instance
def signsF (n : Int) : List Nat := (othersF n).foldl (fun l o => l.set o.1 o.2) baseL
theorem signs_set (l : List (Nat × Nat)) : ∀ b : List Nat, (l.foldl (fun l o => l.set o.1 o.2) b).length = b.length := by
  induction l with
  | nil => intro b; rfl
  | cons o l ih => intro b; rw [List.foldl_cons, ih, List.length_set]
theorem signsF_length (n : Int) : (signsF n).length = 256 := by rw [signsF, signs_set, baseL_length]
theorem nodup37 : (signsF 37).Nodup := by decide +kernel
theorem nodup273 : (signsF 273).Nodup := by decide +kernel
theorem nodup297 : (signsF 297).Nodup := by decide +kernel
theorem nodup500 : (signsF 500).Nodup := by decide +kernel
theorem nodup1047 : (signsF 1047).Nodup := by decide +kernel
theorem nodup1140 : (signsF 1140).Nodup := by decide +kernel
theorem signsF_nodup {n : Int} (h : isPage n) : (signsF n).Nodup := by
  rcases h with rfl | rfl | rfl | rfl | rfl | rfl
  · exact nodup37
  · exact nodup273
  · exact nodup297
  · exact nodup500
  · exact nodup1047
  · exact nodup1140
theorem small37 : ∀ o ∈ oth37, o.1 < 256 ∧ o.2 < 65536 := by decide +kernel
theorem small273 : ∀ o ∈ oth273, o.1 < 256 ∧ o.2 < 65536 := by decide +kernel
theorem small297 : ∀ o ∈ oth297, o.1 < 256 ∧ o.2 < 65536 := by decide +kernel
theorem small500 : ∀ o ∈ oth500, o.1 < 256 ∧ o.2 < 65536 := by decide +kernel
theorem small1047 : ∀ o ∈ oth1047, o.1 < 256 ∧ o.2 < 65536 := by decide +kernel
theorem small1140 : ∀ o ∈ oth1140, o.1 < 256 ∧ o.2 < 65536 := by decide +kernel
theorem others_small (n : Int) : ∀ o ∈ othersF n, o.1 < 256 ∧ o.2 < 65536 := by
  unfold othersF
  repeat' split
  · exact small37
  · exact small273
  · exact small297
  · exact small500
  · exact small1047
  · exact small1140
  · intro o ho; cases ho
theorem base_small : ∀ z ∈ baseL, z < 65536 := by decide +kernel
end Go.Proofs.YtegpebaoghmgiaaGreatDoor
