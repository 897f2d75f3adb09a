/-
  TapeParts: the law.
-/
import Derived.Test.YtheldoijfnigoaaGreatDoorAPart13
import Derived.Test.YtheldoijfnigoaaGreatDoorRows
import Derived.Lay
import Derived.LaidMore
import Derived.Lib.LaidTab
import Derived.Stop.LaidErr
import Derived.Test.YtheldoijfnigoaaGreatDoorCards
import Derived.SevenTiedAt
set_option linter.unusedSimpArgs false
set_option linter.unusedVariables false
namespace Go.Proofs.YtheldoijfnigoaaGreatDoor
open Go Go.AL

theorem fewL_fewp (l : List Stp) : Fewp (fewL l) := by
  refine ⟨by unfold fewL; simp; omega, fun x hx => ?_⟩
  unfold fewL at hx
  rw [List.mem_map] at hx
  obtain ⟨y, hy, rfl⟩ := hx
  unfold fewS; simp; omega
theorem likeL_refl : ∀ l : List Stp, likeL l l = true
  | [] => rfl
  | x :: l => by simp [likeL, likeS, likeL_refl l]
variable [Errs]
set_option linter.unusedSectionVars false
theorem play_nil (l : List Stp) (o : Bool) (σ : Store) : ACalls Tryz.prog 9 [.lit (.pointer none), .list o 5 (stpsA l)] σ fun v σ' => v = .tuple [.lit (.int .i64 0), .lit (.bool false)] ∧ σ' = σ := by
  refine ACalls.of_awp follows (st := []) (plans := pl9) (n := 44) Tryz.func9 rfl (by kernel_rfl) (by kernel_rfl) (by kernel_rfl) ?_
  simp
theorem record_nil (l : List Stp) (o : Bool) (σ : Store) : ACalls Tryz.prog 15 [.lit (.pointer none), .list o 5 (stpsA l)] σ fun v σ' => v = .list false 5 (stpsA []) ∧ σ' = σ := by
  refine ACalls.of_awp follows (st := []) (plans := pl15) (n := 56) Tryz.func15 rfl (by kernel_rfl) (by kernel_rfl) (by kernel_rfl) ?_
  simp [stpsA]
set_option maxRecDepth 8000 in
set_option maxHeartbeats 2000000 in
theorem parts_calls (a b : List Stp) (ha : a.length ≤ 9223372036854775807) (hb : b.length ≤ 9223372036854775807) (size : Int) (hs0 : -9223372036854775808 ≤ size) (hs1 : size ≤ 9223372036854775807) (stop : UInt8) (o1 o2 : Bool) (σ : Store) :
    ACalls Tryz.prog 3 [.list o1 5 (stpsA a), .list o2 5 (stpsA b), .lit (.int .i64 size), .lit (.int .u8 stop.toNat)] σ fun v σ' => v = .lit (.bool true) ∧ σ' = σ := by
  have hfa := fun o τ => few_calls a ha o τ
  have hfb := fun o τ => few_calls b hb o τ
  have hA := fewL_fewp a
  have hB := fewL_fewp b
  generalize fewL a = A at *
  generalize fewL b = B at *
  have hAl := hA.1
  have hAb : ∀ x ∈ A, x.bytes.length ≤ 1000000 := fun x hx => by have := hA.2 x hx; omega
  have hBl := hB.1
  have hBb : ∀ x ∈ B, x.bytes.length ≤ 1000000 := fun x hx => by have := hB.2 x hx; omega
  refine ACalls.of_awp follows (st := st3) (plans := pl3) (n := 164) Tryz.func3 rfl (by kernel_rfl) (by kernel_rfl) (by kernel_rfl) ?_
  simp
  refine callK.of (awake_calls _) ?_
  rintro v σ1 ⟨rfl, rfl⟩
  simp
  refine callK.of (hfa _ _) ?_
  rintro v σ2 ⟨rfl, rfl⟩
  simp
  refine callK.of (hfb _ _) ?_
  rintro v σ3 ⟨rfl, rfl⟩
  simp
  refine codeK.loop follows (st := st3) (plans := pl3) (X := Nat) (fun k => k ≤ A.length)
    (fun k => [(0, .list false 5 (stpsA A)), (1, .list false 5 (stpsA B)), (2, .lit (.int .i64 size)), (3, .lit (.int .u8 stop.toNat)), (9, .list true 5 (stpsA (cutLs size (A.take k)))), (10, .list true 1 (rowsA (wentL (A.take k)))), (11, .list true 1 (bytesA (cameL (A.take k)))), (27, .list false 5 (stpsA A)), (28, .lit (.int .i64 A.length)), (29, .lit (.int .i64 k))]) (fun _ => σ3) (fun k => A.length - k) 0 (by kernel_rfl)
    (by simp) (by simp [stpsA, cutLs, rowsA, wentL, cameL, bytesA]) (Store.sub_refl _) fun k hk => ?_
  by_cases hlt : k < A.length
  · obtain ⟨x, hx⟩ : ∃ x, A[k]'hlt = x := ⟨_, rfl⟩
    have hxb := hA.2 x (by rw [← hx]; exact List.getElem_mem _)
    have htk : A.take (k + 1) = A.take k ++ [x] := by rw [List.take_succ_eq_append_getElem hlt, hx]
    have hg : (stpsA A)[k]? = some (stpA x) := by simp [stpsA, hlt, hx]
    have hg2 : ∀ h, (stpsA A)[k]'h = stpA x := fun h => by simp [stpsA, hx]
    have hlw : IntKind.i64.wrap ((k : Int) + 1) = ((k + 1 : Nat) : Int) := wrap_i64 (by omega) (by omega)
    have c1 := cutLs_snoc size (A.take k) x
    have c2 := wentL_snoc (A.take k) x
    have c3 := cameL_snoc (A.take k) x
    rw [← htk] at c1 c2 c3
    have hc2 := (fewp_take hA k).1
    have d1 := cutLs_len size (fewp_take hA k).2
    have d2 := wentL_len (A.take k)
    have d3 := cameL_len (fewp_take hA k).2
    generalize cutLs size (A.take k) = C at *
    generalize wentL (A.take k) = V at *
    generalize cameL (A.take k) = M at *
    obtain ⟨kx, bx, ⟨ax, sx, nx⟩⟩ := x
    simp only [stpA, byteA] at hg hg2
    dsimp only at hxb
    by_cases h79 : kx = 79
    · subst h79
      have e1 : stpsA (cutLs size (A.take (k + 1))) = stpsA C ++ [stpA ⟨79, bx, ⟨ax, sx, nx⟩⟩] := by rw [c1, stpsA_append]; rfl
      have e2 : rowsA (wentL (A.take (k + 1))) = rowsA V ++ [.list false 1 (bytesA bx)] := by rw [c2, rowsA_append]; rfl
      have e3 : cameL (A.take (k + 1)) = M := by rw [c3]; simp [cameS]
      simp [hlt, hg, hg2]
      intro p hp
      rw [del_upd_new hp]
      exact ⟨by omega, by omega, by omega, by omega, k + 1, by omega, by omega, ⟨by rw [e1]; exact AV.le_refl _, by rw [e2]; exact AV.le_refl _, by rw [e3]; exact AV.le_refl _, by rw [hlw]; exact AV.le_refl _⟩, Store.sub_refl _⟩
    · have g1 : ¬ (kx.toNat : Int) = 79 := fun h => h79 (UInt8.toNat_inj.1 (by show kx.toNat = 79; omega))
      have g1n : ¬ kx.toNat = 79 := fun h => h79 (UInt8.toNat_inj.1 h)
      have e2 : wentL (A.take (k + 1)) = V := by rw [c2]; simp [wentS, h79]
      by_cases h72 : kx = 72
      · subst h72
        have e3 : bytesA (cameL (A.take (k + 1))) = bytesA M ++ bytesA bx := by rw [c3, bytesA_append]; rfl
        by_cases hsz : size < 1
        · have e1 : stpsA (cutLs size (A.take (k + 1))) = stpsA C ++ [stpA ⟨72, bx, ⟨ax, sx, nx⟩⟩] := by
            rw [c1, stpsA_append]; unfold cutS; rw [if_neg (by omega)]; rfl
          simp [hlt, hg, hg2, hsz]
          intro p hp
          rw [del_upd_new hp]
          exact ⟨by omega, by omega, by omega, by omega, k + 1, by omega, by omega, ⟨by rw [e1]; exact AV.le_refl _, by rw [e2]; exact AV.le_refl _, by rw [e3]; exact AV.le_refl _, by rw [hlw]; exact AV.le_refl _⟩, Store.sub_refl _⟩
        · obtain ⟨n, rfl⟩ : ∃ n : Nat, size = n := ⟨size.toNat, by omega⟩
          have e1 : cutLs n (A.take (k + 1)) = C ++ (chN n bx).map fun c => ⟨72, c, .zero⟩ := by
            rw [c1]; unfold cutS; rw [if_pos ⟨rfl, by omega⟩]; rfl
          simp [hlt, hg, hg2, hsz]
          intro p hp
          rw [del_upd_new hp]
          refine ⟨by omega, by omega, ?_⟩
          obtain ⟨f, hf⟩ : ∃ f : Nat → Nat, ∀ j, f j = n * j := ⟨fun j => n * j, fun _ => rfl⟩
          have hf0 : f 0 = 0 := hf 0
          have hn : 1 ≤ n := by omega
          have hcl := fun j => chN_lt (k := j) hn bx
          have hat := fun j h => chN_at (n := n) (k := j) (l := bx) h
          have hUl := chN_len hn bx
          generalize chN n bx = U at *
          refine codeK.loop follows (st := st3) (plans := pl3) (X := Nat) (fun j => j ≤ U.length)
            (fun j => [(0, .list false 5 (stpsA A)), (1, .list false 5 (stpsA B)), (2, .lit (.int .i64 n)), (3, .lit (.int .u8 stop.toNat)), (9, .list true 5 (stpsA (C ++ (U.take j).map fun c => ⟨72, c, .zero⟩))), (10, .list true 1 (rowsA V)), (11, .list true 1 (bytesA M ++ bytesA bx)), (27, .list false 5 (stpsA A)), (28, .lit (.int .i64 A.length)), (29, .lit (.int .i64 k)), (14, .list false 1 (bytesA (bx.drop (f j))))]) (fun _ => σ3) (fun j => U.length - j) 0 (by kernel_rfl)
            (by simp) (by simp [hf0]) (Store.sub_refl _) fun j hj => ?_
          by_cases hjl : f j < bx.length
          · have hju : j < U.length := (hcl j).2 (by rw [← hf]; exact hjl)
            obtain ⟨d, hd⟩ : ∃ d, U[j] = d := ⟨_, rfl⟩
            have hdd : d = (bx.drop (f j)).take n := by rw [← hd, hat j hju, hf]
            have hf1 : f (j + 1) = f j + n := by rw [hf, hf]; exact Nat.mul_succ n j
            have ht : U.take (j + 1) = U.take j ++ [d] := by rw [List.take_succ_eq_append_getElem hju, hd]
            have hlk : (U.take j).length = j := by rw [List.length_take]; omega
            have hPl : (C ++ (U.take j).map fun c => (⟨72, c, .zero⟩ : Stp)).length = C.length + j := by rw [List.length_append, List.length_map, hlk]
            have hP1 : stpsA (C ++ (U.take (j + 1)).map fun c => (⟨72, c, .zero⟩ : Stp)) = stpsA (C ++ (U.take j).map fun c => (⟨72, c, .zero⟩ : Stp)) ++ [stpA ⟨72, d, .zero⟩] := by
              rw [ht, List.map_append, ← List.append_assoc, stpsA_append]; rfl
            generalize (C ++ (U.take j).map fun c => (⟨72, c, .zero⟩ : Stp)) = P at *
            obtain ⟨T, hT⟩ : ∃ T, bx.drop (f j) = T := ⟨_, rfl⟩
            have hTl : T.length = bx.length - f j := by rw [← hT, List.length_drop]
            have hT1 : bx.drop (f (j + 1)) = T.drop n := by rw [hf1, ← List.drop_drop, hT]
            have hTp : (0 : Int) < (bx.length - f j : Nat) := by omega
            rw [hT] at hdd ⊢
            have hTp2 : 0 < T.length := by omega
            have hTp3 : ¬ T = [] := fun e => by rw [e] at hTp2; simp at hTp2
            obtain ⟨w, hw⟩ : ∃ w, min n T.length = w := ⟨_, rfl⟩
            have hmi : (if T.length < n then (T.length : Int) else (n : Int)) = (w : Int) := by rw [← hw]; split <;> omega
            have hle : w ≤ T.length := by omega
            have hdw : d = T.take w := by
              rw [hdd, ← hw]
              rcases Nat.le_total n T.length with h | h
              · rw [Nat.min_eq_left h]
              · rw [Nat.min_eq_right h, List.take_of_length_le (Nat.le_refl _), List.take_of_length_le h]
            have hrw : T.drop n = T.drop w := by
              rw [← hw]
              rcases Nat.le_total n T.length with h | h
              · rw [Nat.min_eq_left h]
              · rw [Nat.min_eq_right h, List.drop_of_length_le (Nat.le_refl _), List.drop_of_length_le h]
            have hfull : (bytesA T).take T.length = bytesA T := List.take_of_length_le (by simp)
            rw [hrw] at hT1
            simp [hTp2, hTp3, hmi, hle, hfull, bytesA_take, bytesA_drop]
            exact ⟨by omega, by omega, j + 1, by omega, by omega, by rw [← List.map_take, hP1, hdw]; exact AV.le_refl _, by rw [hT1]; exact AV.le_refl _⟩
          · obtain rfl : j = U.length := by
              have := hcl j
              rw [← hf] at this
              omega
            have hnil : bx.drop (f U.length) = [] := List.drop_of_length_le (by omega)
            rw [List.take_length] 
            rw [hnil]
            have hb0 : bytesA [] = [] := rfl
            simp [hb0]
            exact ⟨k + 1, by omega, by omega, by rw [e1]; exact AV.le_refl _, by rw [e2]; exact AV.le_refl _, by rw [e3]; exact AV.le_refl _, by rw [hlw]; exact AV.le_refl _⟩
      · have g2 : ¬ (kx.toNat : Int) = 72 := fun h => h72 (UInt8.toNat_inj.1 (by show kx.toNat = 72; omega))
        have g2n : ¬ kx.toNat = 72 := fun h => h72 (UInt8.toNat_inj.1 h)
        have e1 : stpsA (cutLs size (A.take (k + 1))) = stpsA C ++ [stpA ⟨kx, bx, ⟨ax, sx, nx⟩⟩] := by
          rw [c1, stpsA_append]; unfold cutS; rw [if_neg (fun h => h72 h.1)]; rfl
        have e3 : cameL (A.take (k + 1)) = M := by rw [c3]; simp [cameS, h72]
        simp [hlt, hg, hg2, g1, g1n, g2, g2n]
        intro p hp
        rw [del_upd_new hp]
        exact ⟨by omega, by omega, k + 1, by omega, by omega, ⟨by rw [e1]; exact AV.le_refl _, by rw [e2]; exact AV.le_refl _, by rw [e3]; exact AV.le_refl _, by rw [hlw]; exact AV.le_refl _⟩, Store.sub_refl _⟩
  · have : k = A.length := by omega
    subst this
    rw [List.take_length]
    have hVl := Nat.le_trans (wentL_len A) hAl
    have hVb := wentL_mem (l := A) hA.2
    have hMl := cameL_len hA.2
    have hown := fun o τ => own_calls A (by omega) hAb o τ
    have hownB := fun o τ => own_calls B (by omega) hBb o τ
    have hout := fun m h1 h2 o τ => outs_calls A hA m h1 h2 o τ
    have hpn := fun o τ => play_nil A o τ
    have hrn := fun o τ => record_nil A o τ
    have hct := fun o τ => cut_steps_calls A hA size hs0 hs1 o τ
    have hCl := cutLs_len size hA.2
    have hCb := cutLs_bytes size hA.2
    have hcm := fun o τ => came_calls A hA o τ
    generalize cutLs size A = C at *
    generalize wentL A = V at *
    generalize cameL A = M at *
    have hbk := fun o τ => back_calls C (by omega) o τ
    have hss := fun o1 o2 τ => same_steps_calls C C o1 o2 (by omega) (fun x hx => by have := hCb x hx; omega) (fun x hx => by have := hCb x hx; omega) τ
    rw [likeL_refl] at hss
    have hsa := fun o1 o2 τ => same_steps_calls A B o1 o2 (by omega) hAb hBb τ
    have hta := fun o1 o2 τ => tsame_calls A B (by omega) hAb hBb o1 o2 τ
    have htt := fun o1 o2 τ => tsame_calls A A (by omega) hAb hAb o1 o2 τ
    rw [likeL_refl] at htt
    have hsm := fun o1 o2 τ => same_bytes_calls M M o1 o2 (by omega) (by omega) τ
    obtain ⟨r, hr⟩ : ∃ r, stop.toNat % 3 = r := ⟨_, rfl⟩
    have hr1 : IntKind.i64.wrap ((stop.toNat : Int).tmod 3) = (r : Int) := by
      rw [Int.tmod_eq_emod_of_nonneg (by omega), wrap_i64 (by omega) (by omega)]; omega
    obtain ⟨m, hm⟩ : ∃ m, 1 + r = m := ⟨_, rfl⟩
    have hr2 : IntKind.i64.wrap (1 + (r : Int)) = (m : Int) := by rw [wrap_i64 (by omega) (by omega)]; omega
    have hom := fun o τ => hout m (by omega) (by omega) o τ
    obtain ⟨W, hW⟩ : ∃ W, V.take m = W := ⟨_, rfl⟩
    have hWl : W.length = min m V.length := by rw [← hW, List.length_take]
    have hWa : ∀ i (h : i < W.length), ∃ d, d.length ≤ 400 ∧ (rowsA W)[i]? = some (.list false 1 (bytesA d)) ∧ (rowsA V)[i]? = some (.list false 1 (bytesA d)) := fun i h => by
      have h2 : i < V.length := by omega
      refine ⟨V[i], hVb _ (List.getElem_mem _), ?_, ?_⟩
      · simp [rowsA, ← hW, h2, List.getElem?_take]; omega
      · simp [rowsA, h2]
    rw [hW] at hom
    have hmn : (if m < V.length then (m : Int) else (V.length : Int)) = (W.length : Int) := by split <;> omega
    simp [hr1, hr2]
    refine callK.of (hown _ _) ?_
    rintro v σ4 ⟨rfl, rfl⟩
    simp
    refine callK.of (hom _ _) ?_
    rintro v σ5 ⟨rfl, rfl⟩
    simp [hmn]
    refine codeK.loop follows (st := st3) (plans := pl3) (X := Nat) (fun i => i ≤ W.length)
      (fun i => [(0, .list false 5 (stpsA A)), (1, .list false 5 (stpsA B)), (2, .lit (.int .i64 size)), (9, .list false 5 (stpsA C)), (10, .list false 1 (rowsA V)), (11, .list false 1 (bytesA M)), (96, .list false 1 (rowsA W)), (97, .lit (.int .i64 W.length)), (98, .lit (.int .i64 i))]) (fun _ => σ5) (fun i => W.length - i) 0 (by kernel_rfl)
      (by simp) (by simp) (Store.sub_refl _) fun i hi => ?_
    by_cases hil : i < W.length
    · obtain ⟨d, hd1, hd2, hd3⟩ := hWa i hil
      have hsd := fun o1 o2 τ => same_bytes_calls d d o1 o2 (by omega) (by omega) τ
      have hiv : i < V.length := by omega
      have hd4 : ∀ h, (rowsA W)[i]'h = .list false 1 (bytesA d) := fun h => by rw [List.getElem?_eq_getElem h] at hd2; exact Option.some.inj hd2
      have hd5 : ∀ h, (rowsA V)[i]'h = .list false 1 (bytesA d) := fun h => by rw [List.getElem?_eq_getElem h] at hd3; exact Option.some.inj hd3
      have hlw : IntKind.i64.wrap ((i : Int) + 1) = ((i + 1 : Nat) : Int) := wrap_i64 (by omega) (by omega)
      simp [hil, hd2, hd3, hd4, hd5, hiv]
      refine callK.of (hsd _ _ _) ?_
      rintro v σ6 ⟨rfl, rfl⟩
      simp
      exact ⟨i + 1, by omega, by omega, by rw [hlw]; exact AV.le_refl _⟩
    · obtain rfl : i = W.length := by omega
      simp
      refine callK.of (hown _ _) ?_
      rintro v σ6 ⟨rfl, rfl⟩
      simp
      refine callK.of (hpn _ _) ?_
      rintro v σ7 ⟨rfl, rfl⟩
      simp
      refine callK.of (hown _ _) ?_
      rintro v σ8 ⟨rfl, rfl⟩
      simp
      refine callK.of (hct _ _) ?_
      rintro v σ9 ⟨rfl, rfl⟩
      simp
      refine callK.of (hbk _ _) ?_
      rintro v σ10 ⟨rfl, rfl⟩
      simp
      refine callK.of (hss _ _ _) ?_
      rintro v σ11 ⟨rfl, rfl⟩
      simp
      refine callK.of (hown _ _) ?_
      rintro v σ12 ⟨rfl, rfl⟩
      simp
      refine callK.of (hownB _ _) ?_
      rintro v σ13 ⟨rfl, rfl⟩
      simp
      refine callK.of (hta _ _ _) ?_
      rintro v σ14 ⟨rfl, rfl⟩
      simp
      refine callK.of (hsa _ _ _) ?_
      rintro v σ15 ⟨rfl, rfl⟩
      simp
      refine callK.of (hown _ _) ?_
      rintro v σ16 ⟨rfl, rfl⟩
      simp
      refine callK.of (hown _ _) ?_
      rintro v σ17 ⟨rfl, rfl⟩
      simp
      refine callK.of (htt _ _ _) ?_
      rintro v σ18 ⟨rfl, rfl⟩
      simp
      refine callK.of (hown _ _) ?_
      rintro v σ19 ⟨rfl, rfl⟩
      simp
      refine callK.of (hcm _ _) ?_
      rintro v σ20 ⟨rfl, rfl⟩
      simp
      refine callK.of (hsm _ _ _) ?_
      rintro v σ21 ⟨rfl, rfl⟩
      simp
      refine callK.of (hown _ _) ?_
      rintro v σ22 ⟨rfl, rfl⟩
      simp
      refine callK.of (hrn _ _) ?_
      rintro v σ23 ⟨rfl, rfl⟩
      simp
end Go.Proofs.YtheldoijfnigoaaGreatDoor
/-
  What is laid: the powers of ten; the two errors, as they stand when the call begins.
-/
namespace Go.Proofs.YtheldoijfnigoaaGreatDoor
open Go Go.AL
def laid9 : List (String × DataW Unit) := [("math/bits.deBruijn32tab", Rows.laid_math_bits_deBruijn32tab), ("math/bits.deBruijn64tab", Rows.laid_math_bits_deBruijn64tab), ("internal/strconv.uint64pow10", Rows.laid_internal_strconv_uint64pow10), ("unicode/utf8.acceptRanges", Rows.laid_unicode_utf8_acceptRanges), ("strconv.ErrRange", Rows.laid_strconv_ErrRange), ("strconv.ErrSyntax", Rows.laid_strconv_ErrSyntax), ("vitrine/header.names", Rows.laid_vitrine_header_names), ("vitrine/write.names", Rows.laid_vitrine_write_names), ("unicode/utf8.first", Rows.laid_unicode_utf8_first)]
theorem laid_pow10 : (Rows.laid_internal_strconv_uint64pow10 : DataW Unit) = Lib.tabData .u64 Lib.pow10Tab := by rfl
theorem heap_of_var {W : World} {n : String} {g : Nat} {cs : Array Value} (hg : Tryz.prog.globalNamed n = some g) (hv : W.var? Tryz.prog n = some cs) : ∃ T fz, W.heap[g]? = some (.cells cs T fz) := by
  unfold World.var? at hv
  rw [hg] at hv
  simp only [Option.bind_some] at hv
  cases e : W.heap[g]? with
  | none => rw [e] at hv; cases hv
  | some o =>
    rw [e] at hv
    cases o with
    | cells c t z => simp only [Option.some.injEq] at hv; subst hv; exact ⟨t, z, rfl⟩
    | _ => cases hv
theorem star : "*" ++ "errors.errorString" = "*errors.errorString" := by decide
theorem rowE (u : TypeId) (h : Tryz.prog.typeName? 3 u = some "*errors.errorString") : u = 390 :=
  typeName_ptr_named (nm := "errors.errorString") (by rw [star]; kernel_rfl) (by kernel_rfl) (by decide) u (by rw [star]; exact h)
theorem vars9 {W : World} (h : laidMetH Tryz.prog laid9 W) : ∃ E : Errs, ∀ g cs, (@instGLOfErrs E).vars g = some cs → ∃ T fz, W.heap[g]? = some (.cells cs T fz) := by
  rw [MakeChecks.laidMetH_plain _ _ _ (by kernel_rfl)] at h
  have h1 := laidMet.tail (laidMet.tail h)
  have h2 := laidMet.tail (laidMet.tail h1)
  have h3 := laidMet.tail h2
  have hr : Tryz.prog.globalNamed "strconv.ErrRange" = some 5 := by kernel_rfl
  have hs : Tryz.prog.globalNamed "strconv.ErrSyntax" = some 4 := by kernel_rfl
  have hp : Tryz.prog.globalNamed "internal/strconv.uint64pow10" = some 6 := by kernel_rfl
  obtain ⟨ar, sr, hvr, -, -, -⟩ := laid_sentinel h2 hr (show (Tryz.prog.globals[5]?).map (·.type) = some 153 by kernel_rfl) Tryz.underlying153 rowE Tryz.underlying390 Tryz.underlying392 rfl rfl Tryz.underlying9 (by kernel_rfl) (by kernel_rfl)
  obtain ⟨az, ss, hvs, -, -, -⟩ := laid_sentinel h3 hs (show (Tryz.prog.globals[4]?).map (·.type) = some 153 by kernel_rfl) Tryz.underlying153 rowE Tryz.underlying390 Tryz.underlying392 rfl rfl Tryz.underlying9 (by kernel_rfl) (by kernel_rfl)
  have ht : Lib.TabIs Tryz.prog W "internal/strconv.uint64pow10" .u64 Lib.pow10Tab := by
    rw [laid_pow10] at h1
    exact Lib.tabIs_of_head hp (show (Tryz.prog.globals[6]?).map (·.type) = some 359 by kernel_rfl) Tryz.underlying359 Tryz.underlying113 (by kernel_rfl) (by kernel_rfl) h1
  unfold Lib.TabIs at ht
  refine ⟨⟨390, .pointer (some az), 390, .pointer (some ar)⟩, fun g cs hg => ?_⟩
  have h4 : (if g = 6 then some pow10A else if g = 4 then some #[Value.iface 390 (.pointer (some az))] else if g = 5 then some #[Value.iface 390 (.pointer (some ar))] else none) = some cs := hg
  split at h4
  · rename_i e; subst e
    obtain ⟨T, fz, hh⟩ := heap_of_var hp ht
    rw [← Option.some.inj h4]; exact ⟨T, fz, hh⟩
  · split at h4
    · rename_i e; subst e
      rw [← Option.some.inj h4]; exact heap_of_var hs hvs
    · split at h4
      · rename_i e; subst e
        rw [← Option.some.inj h4]; exact heap_of_var hr hvr
      · cases h4
variable [Errs]
set_option linter.unusedSectionVars false
def StpOk (x : Stp) : Prop := (-9223372036854775808 ≤ x.key.kind ∧ x.key.kind ≤ 9223372036854775807) ∧ (-2147483648 ≤ x.key.sign ∧ x.key.sign ≤ 2147483647) ∧ (-9223372036854775808 ≤ x.key.n ∧ x.key.n ≤ 9223372036854775807)
theorem open_bytes : Opens Tryz.prog 26 (fun l : List UInt8 => [.list false 1 (bytesA l)]) (fun l => l.length ≤ maxLen) :=
  (Opens.slice Tryz.underlying26 (sz := 1) (by kernel_rfl) (by omega) (Opens.u8 Tryz.underlying5) byteA (fun _ => rfl) (fun _ => rfl)).by id fun _ h => ⟨h.1, rfl⟩
theorem open_i32 : Opens Tryz.prog 21 (fun n : Int => [.lit (.int .i32 n)]) (fun n => -2147483648 ≤ n ∧ n ≤ 2147483647) :=
  (Opens.int (k := .i32) Tryz.underlying21).by id fun n h => ⟨by
    have h1 : IntKind.i32.min = -2147483648 := rfl
    have h2 : IntKind.i32.max = 2147483647 := rfl
    have := h
    simp [Lit.wf, h1, h2] at this
    exact this, rfl⟩
def KyOk (k : Ky) : Prop := (-9223372036854775808 ≤ k.kind ∧ k.kind ≤ 9223372036854775807) ∧ (-2147483648 ≤ k.sign ∧ k.sign ≤ 2147483647) ∧ (-9223372036854775808 ≤ k.n ∧ k.n ≤ 9223372036854775807)
theorem open_ky : Opens Tryz.prog 28 (fun k : Ky => kyA k) KyOk :=
  (Opens.struct (total := 3) Tryz.underlying28 (by kernel_rfl)
    (.cons (k := 1) rfl (by kernel_rfl) (by omega) (Opens.i64 Tryz.underlying3) (.cons (k := 1) rfl (by kernel_rfl) (by omega) open_i32 (.cons (k := 1) rfl (by kernel_rfl) (by omega) (Opens.i64 Tryz.underlying3) .nil)))).by
    (fun x => ⟨x.1, x.2.1, x.2.2.1⟩) fun _ h => ⟨⟨h.1, h.2.1, h.2.2.1⟩, rfl⟩
def stpC (x : Stp) : List AV := [byteA x.kind, .list false 1 (bytesA x.bytes)] ++ kyA x.key
theorem open_stp : Opens Tryz.prog 30 (fun x : Stp => stpC x) StpOk :=
  (Opens.struct (total := 5) Tryz.underlying30 (by kernel_rfl)
    (.cons (k := 1) rfl (by kernel_rfl) (by omega) (Opens.u8 Tryz.underlying5) (.cons (k := 1) rfl (by kernel_rfl) (by omega) open_bytes (.cons (k := 3) rfl (by kernel_rfl) (by omega) open_ky .nil)))).by
    (fun x => ⟨x.1, x.2.1, x.2.2.1⟩) fun _ h => ⟨h.2.2.1, rfl⟩
theorem open_stps : Opens Tryz.prog 22 (fun l : List Stp => [.list false 5 (stpsA l)]) (fun l => l.length ≤ maxLen ∧ ∀ x ∈ l, StpOk x) :=
  Opens.slice Tryz.underlying22 (by kernel_rfl) (by omega) open_stp stpA (fun _ => rfl) (fun _ => rfl)
theorem tapeParts_law (a b : List Stp) (ha : a.length ≤ maxLen ∧ ∀ x ∈ a, StpOk x) (hb : b.length ≤ maxLen ∧ ∀ x ∈ b, StpOk x) (size : Int) (hs : -9223372036854775808 ≤ size ∧ size ≤ 9223372036854775807) (stop : UInt8) (σ : Store) :
    ACalls Tryz.prog 3 [.list false 5 (stpsA a), .list false 5 (stpsA b), .lit (.int .i64 size), .lit (.int .u8 stop.toNat)] σ fun v _ => v = .lit (.bool true) :=
  (parts_calls a b (by have := ha.1; unfold maxLen at this; omega) (by have := hb.1; unfold maxLen at this; omega) size hs.1 hs.2 stop false false σ).mono fun _ _ h => h.1
end Go.Proofs.YtheldoijfnigoaaGreatDoor
/-
  TapeParts: for every input the law returns true, and the arguments read as they did.
-/
namespace Go.Proofs.YtheldoijfnigoaaGreatDoor
open Go Go.AL Go.ChangeShapes Go.WideShapes Go.ChangeAt Go.RowKit Go.Lib

theorem own_tapeParts : ownKnob Tryz.prog.godebug = none := by kernel_rfl
theorem laid_tapeParts : laidOutB Tryz.prog = true := by kernel_rfl
theorem rec22_tapeParts : Tryz.prog.readableRec 22 = true := by kernel_rfl
theorem row22_tapeParts : (22 : TypeId) < Tryz.prog.types.size := of_decide_eq_true (by kernel_rfl)
theorem rec3_tapeParts : Tryz.prog.readableRec 3 = true := by kernel_rfl
theorem row3_tapeParts : (3 : TypeId) < Tryz.prog.types.size := of_decide_eq_true (by kernel_rfl)
theorem rec5_tapeParts : Tryz.prog.readableRec 5 = true := by kernel_rfl
theorem row5_tapeParts : (5 : TypeId) < Tryz.prog.types.size := of_decide_eq_true (by kernel_rfl)

set_option maxRecDepth 100000 in
set_option maxHeartbeats 2000000 in
theorem tapeParts_lifted (os : Os) (started : os.Started) (H : Type) (enc : TypeId × Value → H) :
    ReturnsInHanded {} Tryz.checked os 3 .any (fun w args => (Rows.tapePartsSpec.pre enc Tryz.prog Tryz.f3 [] false w args ∧ laidMetH Tryz.prog laid9 w) ∧ sizedMet enc Tryz.prog Tryz.f3 (OpenSpec.ofChange Rows.tapePartsSpec) false w args) (Rows.tapePartsSpec.post enc Tryz.prog Tryz.f3 false true false false) := by
  refine returnsInHanded_of_change_and (C := Tryz.checked) (X := fun w _ => laidMetH Tryz.prog laid9 w) (fun _ _ _ hh h => h.of_heap hh) own_tapeParts started (by kernel_rfl) Tryz.func3
    (ChangeSpec.witness_shaped (enc := enc) (C := Tryz.checked) (os := os) (X := fun w _ => laidMetH Tryz.prog laid9 w) false (World.laidAll Tryz.prog os laid9) #[.slice none 0 0, .slice none 0 0, .int .i64 0, .int .u8 0] 8 (World.laidAll_os _ _ _)
      (World.shaped_of_ZipB (by kernel_rfl) (by kernel_rfl)) (by kernel_rfl) (by kernel_rfl) (by kernel_rfl)
      (by rw [MakeChecks.laidMetH_plain _ _ _ (by kernel_rfl)]; exact laidMet_laidAll _ (by kernel_rfl) (by kernel_rfl))) ?_
  intro W base args ds gs before hval0 hW _ _ hL _
  have hval : ∀ (j : Nat) t v, Tryz.f3.params[j]? = some t → args[j]? = some v → Value.okWide Tryz.prog W .any base t v := hval0
  obtain ⟨E, hE⟩ := vars9 hL
  have hW' := hW
  obtain ⟨p, q, hA0, hV, rfl, hfz, hnd⟩ := hW
  have hA : DataW.TrodAll enc Tryz.prog W 0 (fun _ => true) true Tryz.f3.params.toList args.toList ds p := hA0
  rw [Tryz.params3] at hA hval
  obtain ⟨v0, v1, v2, v3, d0, d1, d2, d3, p0, p1, p2, p3, rfl, rfl, rfl, h0, h1, h2, h3⟩ := trodAll_four hA
  obtain ⟨rfl, rfl⟩ := trodVars_none hV
  obtain ⟨_, _, _, hv0⟩ := okWide_slice Tryz.underlying22 (hval 0 22 v0 rfl rfl)
  obtain ⟨a0, m0, w0⟩ := (open_stps).arg _ (fun _ => rfl) (by rw [hv0]; rfl) h0
  obtain ⟨_, _, _, hv1⟩ := okWide_slice Tryz.underlying22 (hval 1 22 v1 rfl rfl)
  obtain ⟨a1, m1, w1⟩ := (open_stps).arg _ (fun _ => rfl) (by rw [hv1]; rfl) h1
  obtain ⟨_, hv2⟩ := okWide_int Tryz.underlying3 (hval 2 3 v2 rfl rfl)
  obtain ⟨a2, m2, w2⟩ := (Opens.i64 Tryz.underlying3).arg _ (fun _ => rfl) (by rw [hv2]; rfl) h2
  obtain ⟨_, hv3⟩ := okWide_int Tryz.underlying5 (hval 3 5 v3 rfl rfl)
  obtain ⟨a3, m3, w3⟩ := (Opens.u8 Tryz.underlying5).arg _ (fun _ => rfl) (by rw [hv3]; rfl) h3
  clear hA0 hval0
  simp only [List.append_nil] at hW'
  have hlt : ∀ x ∈ p0 ++ p1 ++ p2 ++ p3, x.block < W.heap.size := fun x hx => hW'.lt x hx
  refine (law_calls (tapeParts_law a0 a1 m0 m1 a2 m2 a3 _) W #[v0, v1, v2, v3] rfl (fun i c u hc hu => ?_) (fun _ _ h => by cases h) hE).mono fun e W' ⟨he, hb⟩ => ?_
  · match i with
    | 0 => simp at hc hu; subst hc hu; exact ⟨w0, rfl⟩
    | 1 => simp at hc hu; subst hc hu; exact ⟨w1, rfl⟩
    | 2 => simp at hc hu; subst hc hu; exact ⟨w2, rfl⟩
    | 3 => simp at hc hu; subst hc hu; exact ⟨w3, rfl⟩
    | n + 4 => simp at hc
  subst he
  refine ⟨_, rfl, [d0, d1, d2, d3], [], p0 ++ p1 ++ p2 ++ p3, [], p0 ++ (p1 ++ (p2 ++ p3)), [], hW', ?_, ?_, rfl, hb.frame _, fun h => (by cases h)⟩
  · exact trodAll_mk1 (shut_bool Tryz.underlying4 true)
  · refine trodAll_mk4 (Below.trod laid_tapeParts rec22_tapeParts row22_tapeParts h0 hb fun x hx => hlt x (by simp [hx])) (Below.trod laid_tapeParts rec22_tapeParts row22_tapeParts h1 hb fun x hx => hlt x (by simp [hx])) (Below.trod laid_tapeParts rec3_tapeParts row3_tapeParts h2 hb fun x hx => hlt x (by simp [hx])) (Below.trod laid_tapeParts rec5_tapeParts row5_tapeParts h3 hb fun x hx => hlt x (by simp [hx]))
end Go.Proofs.YtheldoijfnigoaaGreatDoor
/-
  TapeParts: the row: its closed cells, one by one.
-/
namespace Go.Proofs.YtheldoijfnigoaaGreatDoor
open Go Go.AL Go.ChangeShapes Go.WideShapes Go.ChangeAt Go.RowKit Go.Lib

theorem tapeParts_j1 : (Rows.tapePartsRow.wf (OpenSpec.ofChange Rows.tapePartsSpec)) = true := by kernel_rfl
theorem tapeParts_j5 : (namedTie Tryz.prog Rows.tapePartsRow.named Rows.tapePartsSpec.vars) = true := by kernel_rfl
theorem tapeParts_j9 : ((Tryz.prog.stopKnobs == [])) = true := by kernel_rfl
theorem tapeParts_j13 : ((Rows.tapePartsRow.named == Tryz.prog.varsNamed 3)) = true := by kernel_rfl
theorem tapeParts_j17 : ((Rows.tapePartsRow.loops == (Tryz.f3.params.toList ++ Rows.tapePartsSpec.plain.varTypes Tryz.prog).any (Tryz.prog.loopsFrom ·))) = true := by kernel_rfl
theorem tapeParts_j21 : ((Rows.tapePartsRow.ifacesOut == Tryz.f3.resultTypes.toList.any (Tryz.prog.ifacesRec ·))) = true := by kernel_rfl
theorem tapeParts_j25 : (Tryz.prog.stopsHeard) = true := by kernel_rfl
end Go.Proofs.YtheldoijfnigoaaGreatDoor
/-
  TapeParts: the row: its closed cells, one by one.
-/
namespace Go.Proofs.YtheldoijfnigoaaGreatDoor
open Go Go.AL Go.ChangeShapes Go.WideShapes Go.ChangeAt Go.RowKit Go.Lib

theorem tapeParts_j2 : (laidOutB Tryz.prog) = true := by kernel_rfl
theorem tapeParts_j6 : ((Rows.tapePartsRow.stops == [])) = true := by kernel_rfl
theorem tapeParts_j10 : ((Rows.tapePartsRow.inPlace == Tryz.prog.inPlace 3)) = true := by kernel_rfl
theorem tapeParts_j14 : ((Rows.tapePartsRow.maps == (Tryz.f3.params.toList ++ Rows.tapePartsSpec.plain.varTypes Tryz.prog).any (Tryz.prog.mapsRec ·))) = true := by kernel_rfl
theorem tapeParts_j18 : ((Rows.tapePartsRow.wideKeys == (Tryz.f3.params.toList ++ Rows.tapePartsSpec.plain.varTypes Tryz.prog ++ Tryz.f3.resultTypes.toList).any (Tryz.prog.wideKeysFrom ·))) = true := by kernel_rfl
theorem tapeParts_j22 : ((Rows.tapePartsRow.loopsOut == Tryz.f3.resultTypes.toList.any (Tryz.prog.loopsFrom ·))) = true := by kernel_rfl
theorem tapeParts_j26 : (Tryz.prog.mayEnter) = true := by kernel_rfl
theorem tapeParts_j30 : ((Rows.tapePartsRow.pinned == Rows.tapePartsRow.pinnedBy)) = true := by kernel_rfl
end Go.Proofs.YtheldoijfnigoaaGreatDoor
/-
  TapeParts: the row: its closed cells, one by one.
-/
namespace Go.Proofs.YtheldoijfnigoaaGreatDoor
open Go Go.AL Go.ChangeShapes Go.WideShapes Go.ChangeAt Go.RowKit Go.Lib

theorem tapeParts_j3 : (mapsRowed Tryz.prog) = true := by kernel_rfl
theorem tapeParts_j7 : ((Tryz.prog.stops == [])) = true := by kernel_rfl
theorem tapeParts_j11 : ((Rows.tapePartsRow.unfollowed == Tryz.prog.unfollowed 3)) = true := by kernel_rfl
theorem tapeParts_j15 : ((Rows.tapePartsRow.ifaces == (Tryz.f3.params.toList ++ Rows.tapePartsSpec.plain.varTypes Tryz.prog).any (Tryz.prog.ifacesRec ·))) = true := by kernel_rfl
theorem tapeParts_j19 : (Rows.tapePartsSpec.vars.all (Tryz.prog.varReadable ·)) = true := by kernel_rfl
theorem tapeParts_j23 : ((Rows.tapePartsRow.plainKeys == Tryz.prog.plainKeys)) = true := by kernel_rfl
theorem tapeParts_j27 : ((Rows.tapePartsRow.lifted == Tryz.prog.liftsFinal)) = true := by kernel_rfl
theorem tapeParts_j31 : ((Rows.tapePartsRow.veiled == (Tryz.f3.params.toList ++ Rows.tapePartsSpec.plain.varTypes Tryz.prog ++ Tryz.f3.resultTypes.toList).any (Tryz.prog.veiledRec ·))) = true := by kernel_rfl
end Go.Proofs.YtheldoijfnigoaaGreatDoor
/-
  TapeParts: the row: its closed cells, one by one.
-/
namespace Go.Proofs.YtheldoijfnigoaaGreatDoor
open Go Go.AL Go.ChangeShapes Go.WideShapes Go.ChangeAt Go.RowKit Go.Lib

theorem tapeParts_j4 : (Tryz.f3.params.all (Tryz.prog.readableRec ·)) = true := by kernel_rfl
theorem tapeParts_j8 : ((Rows.tapePartsRow.knobs == [])) = true := by kernel_rfl
theorem tapeParts_j12 : ((Rows.tapePartsRow.recurses == Tryz.prog.recurses 3)) = true := by kernel_rfl
theorem tapeParts_j16 : ((Rows.tapePartsRow.mapsOut == Tryz.prog.mapsAmong Tryz.f3.resultTypes.toList)) = true := by kernel_rfl
theorem tapeParts_j20 : (Tryz.f3.resultTypes.all (fun t => Tryz.prog.readableRec t && decide (t < Tryz.prog.types.size))) = true := by kernel_rfl
theorem tapeParts_j24 : (Rows.tapePartsRow.shortTexts.isNone) = true := by kernel_rfl
theorem tapeParts_j28 : ((Tryz.prog.make == some Rows.tapePartsRow.make)) = true := by kernel_rfl
theorem tapeParts_j32 : (Rows.tapePartsRow.veiledFits Tryz.prog Tryz.f3.params.toList (Tryz.f3.params.toList ++ Rows.tapePartsSpec.plain.varTypes Tryz.prog ++ Tryz.f3.resultTypes.toList)) = true := by kernel_rfl
end Go.Proofs.YtheldoijfnigoaaGreatDoor
/-
  TapeParts: the row.
-/
namespace Go.Proofs.YtheldoijfnigoaaGreatDoor
open Go Go.AL Go.ChangeShapes Go.WideShapes Go.ChangeAt Go.RowKit Go.Lib

theorem tapeParts_closed : joinedFacts Tryz.prog 3 Tryz.f3 Rows.tapePartsSpec Rows.tapePartsRow = true := by
  unfold joinedFacts
  rw [tapeParts_j1, tapeParts_j2, tapeParts_j3, tapeParts_j4, tapeParts_j5, tapeParts_j6, tapeParts_j7, tapeParts_j8, tapeParts_j9, tapeParts_j10, tapeParts_j11, tapeParts_j12, tapeParts_j13, tapeParts_j14, tapeParts_j15, tapeParts_j16, tapeParts_j17, tapeParts_j18, tapeParts_j19, tapeParts_j20, tapeParts_j21, tapeParts_j22, tapeParts_j23, tapeParts_j24, tapeParts_j25, tapeParts_j26, tapeParts_j27, tapeParts_j28, tapeParts_j30, tapeParts_j31, tapeParts_j32]
  kernel_rfl
theorem tapeParts_holds : Rows.TapePartsSaid :=
  OpenClaim.holds_of_wide 3 Tryz.f3 rfl rfl rfl rfl rfl rfl rfl ⟨rfl, rfl, rfl, rfl, rfl⟩ rfl rfl rfl rfl rfl (by kernel_rfl) Tryz.func3 tapeParts_closed
    (of_decide_eq_true (by kernel_rfl)) (by unfold Func.isWrapper; first | (rw [if_pos (by decide +kernel)]; kernel_rfl) | (rw [if_neg (by decide +kernel)]; exact ⟨rfl, rfl⟩))
    (fun os started H enc _ => tapeParts_lifted os started H enc)
end Go.Proofs.YtheldoijfnigoaaGreatDoor
/-
  TapeParts: the card: its closed cells, one by one.
-/
namespace Go.Proofs.YtheldoijfnigoaaGreatDoor
open Go

theorem tapeParts_k1 : Rows.tapePartsRow.wfByText (OpenSpec.ofChange Rows.tapePartsSpec) = true := by kernel_rfl
theorem tapeParts_k2 : Tryz.prog.mainIs = some ((true, "7d82c8cb842cdefabbbd58e4edb56855b47c950cd8398cbfedcdd271c0554e31").1, (true, "7d82c8cb842cdefabbbd58e4edb56855b47c950cd8398cbfedcdd271c0554e31").2.toList) := by kernel_rfl
theorem tapeParts_k4 : ([22, 22, 3, 5].all fun u => !Tryz.prog.wantsStandIn u) = true := by kernel_rfl
theorem tapeParts_k6 : Tryz.prog.funcNamed "vitrine/vitrinelaw28.TapeParts" = some 3 := by kernel_rfl
end Go.Proofs.YtheldoijfnigoaaGreatDoor
/-
  TapeParts: the card: its closed cells, one by one.
-/
namespace Go.Proofs.YtheldoijfnigoaaGreatDoor
open Go

theorem tapeParts_k3 : true = Tryz.prog.looks [] := by kernel_rfl
end Go.Proofs.YtheldoijfnigoaaGreatDoor
/-
  TapeParts: the card: its closed cells, one by one.
-/
namespace Go.Proofs.YtheldoijfnigoaaGreatDoor
open Go

theorem tapeParts_k5 : false = Rows.tapePartsRow.goesBy Tryz.prog := by kernel_rfl
end Go.Proofs.YtheldoijfnigoaaGreatDoor
