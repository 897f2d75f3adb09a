/-
  The abstract-state logic: a region that draws its order, second part: an operation that only computes may be moved ahead of others; the plan of a region.
-/
import Derived.Test.YtkfhpnfgnjmdbaaALDraw
namespace Go.AL
open Go Go.RowKit Classical

/-- A slot that an operation does not name goes along; of the others only the operands' may have lost a right; the store grows only, where the operation is of that kind. -/
theorem aoper_frame {P : Program} {st : List Tmp} {o : Oper} {A : Slots} {σ : Store} {d : Tmp} {x : AV} {K : AV → Slots → Store → Prop} (hd : d ∉ temps o.op.operands.toList) (h : aoper P st o (upd A d x) σ K) :
    aoper P st o A σ fun v A' σ' => K v (upd A' d x) σ' := by
  have ap : apure P o (upd A d x) σ = apure P o A σ := apure_congr fun t ht => upd_other (fun e => by subst e; exact hd ht) x
  have pm : (match apure P o (upd A d x) σ with | some v => K v (upd A d x) σ | none => False) → (match apure P o A σ with | some v => K v (upd A d x) σ | none => False) := by rw [ap]; exact id
  have ev : ∀ y ∈ o.op.operands.toList, d ∉ temps [y] := fun y hy hm => hd (temps_of hy hm)
  have as : astep P st o (upd A d x) σ K → astep P st o A σ fun v A' σ' => K v (upd A' d x) σ' := by
    intro h
    unfold astep at *
    cases hop : o.op with
    | assign y =>
      rw [hop] at h ev
      dsimp only at *
      split at h
      · rename_i hs; rw [if_pos hs]; exact takeA_frame (ev y (by simp [Op.operands])) h
      · rename_i hs; rw [if_neg hs]; exact takeA_frame (ev y (by simp [Op.operands])) h
    | move y =>
      rw [hop] at h ev
      cases y with
      | tmp t =>
        have ht := ev (.tmp t) (by simp [Op.operands])
        dsimp only at *
        split at h
        · rename_i hs; rw [if_pos hs]; exact takeA_frame ht h
        · rename_i hs; rw [if_neg hs]; rwa [upd_other (fun e => ht (by simp [temps, e]))] at h
      | _ => exact pm h
    | load t y =>
      rw [hop] at h ev
      have hy := ev y (by simp [Op.operands])
      dsimp only at *
      split at h
      · rename_i hs; rw [if_pos hs]
        rw [evalA_upd hy] at h
        unfold aLoadTake aLoadTakeAgg at *
        (repeat' split at h) <;> first | exact h | exact False.elim h
      · rename_i hs; rw [if_neg hs]; exact pm h
    | alloc e => rw [hop] at h; exact h
    | box e y =>
      rw [hop] at h ev
      have hy := ev y (by simp [Op.operands])
      dsimp only [aBox] at *
      exact takeA_frame hy h
    | store t y z =>
      rw [hop] at h ev
      have hy := ev y (by simp [Op.operands])
      have hz := ev z (by simp [Op.operands])
      dsimp only at *
      rw [evalA_upd hy] at h
      unfold aStore at *
      split at h
      · split at h
        · exact takeA_frame hz h
        · exact h
      · exact h
    | buildSlice t len parts =>
      rw [hop] at h ev
      have : nodeOf parts (upd A d x) = nodeOf parts A := by
        unfold nodeOf
        exact List.map_congr_left fun p hp => by rw [evalA_upd (ev p.2 (by simp [Op.operands]; exact ⟨p.1, by simpa using hp⟩))]
      dsimp only at *
      split at h
      · rename_i hs; rw [if_pos hs]
        unfold aBuildObj at *
        split at h
        · exact h
        · rename_i e x he hparts
          have hx : d ∉ temps [x] := ev x (by
            simp only [Op.operands, Array.toList_map, hparts]; simp)
          split at h
          · obtain ⟨q1, q2, q3, q4, h⟩ := h
            exact ⟨q1, q2, q3, q4, takeA_frame hx h⟩
          · exact h
        · exact h
      · rename_i hs; rw [if_neg hs]
        rwa [this] at h
    | build t parts =>
      rw [hop] at h ev
      dsimp only at *
      split at h
      · rename_i hs; rw [if_pos hs]
        unfold aBuildTake at *
        split at h
        · exact fillTake_frame _ _ (fun p hp => ev p.2 (by simp [Op.operands]; exact ⟨p.1, by simpa using hp⟩)) h
        · exact h
      · rename_i hs; rw [if_neg hs]; exact pm h
    | makeSlice t y z =>
      rw [hop] at h ev
      have hy := ev y (by simp [Op.operands])
      have hz := ev z (by simp [Op.operands])
      dsimp only at *
      rwa [evalA_upd hy, evalA_upd hz] at h
    | binOp op t y z t' =>
      rw [hop] at h ev
      have hy := ev y (by simp [Op.operands])
      dsimp only at *
      split at h
      · rename_i hs; rw [if_pos hs]
        rw [evalA_upd hy] at h
        cases op <;> first
          | exact False.elim h
          | (dsimp only [aNilTest] at *
             split at h
             · exact h
             · exact h
             · exact h)
      · rename_i hs; rw [if_neg hs]; exact pm h
    | convert src dst y =>
      rw [hop] at h ev
      have hy := ev y (by simp [Op.operands])
      dsimp only at *
      split at h
      · rename_i hs; rw [if_pos hs]
        obtain ⟨q1, q2, q3⟩ := h
        refine ⟨q1, q2, takeA_mono (takeA_frame hy q3) fun v A' hh => ?_⟩
        split at hh
        · exact hh
        · exact hh
      · rename_i hs; rw [if_neg hs]; exact pm h
    | extract y ix =>
      rw [hop] at h ev
      cases y with
      | tmp t =>
        have ht := ev (.tmp t) (by simp [Op.operands])
        have hne : t ≠ d := fun e => ht (by simp [temps, e])
        dsimp only [aExtract] at *
        rw [upd_other hne] at h
        split at h
        · split at h
          · rwa [upd_comm A (Ne.symm hne)] at h
          · exact h
        · exact h
      | _ => exact pm h
    | call c =>
      rw [hop] at h ev
      simp only [Op.operands, Call.operands, Array.toList_append, List.mem_append] at ev
      dsimp only at *
      split at h
      · rename_i s y t t' hc hargs hts
        refine ⟨h.1, ?_⟩
        have h2 := h.2
        clear h
        have hs := ev s (.inr (by rw [hargs]; simp))
        have hy := ev y (.inr (by rw [hargs]; simp))
        split at h2
        · rename_i hso; rw [if_pos hso]
          unfold aAppendObj at *
          rw [evalA_upd hy, evalA_upd hs] at h2
          (repeat' split at h2) <;> first
            | exact False.elim h2
            | exact h2
        · rename_i hso; rw [if_neg hso]
          unfold aAppend at *
          rw [evalA_upd hy] at h2
          split at h2
          · split at h2
            · split at h2
              · exact takeA_mono (takeA_frame hs h2) fun v A' h3 => by
                  split at h3
                  · obtain ⟨q1, q2, q3, q4, q5, q6, q7⟩ := h3; exact ⟨q1, q2, q3, q4, q5, q6, q7⟩
                  · exact h3
              · exact h2
            · exact h2
          · exact h2
      · rename_i y z t t' hc hargs hts
        have hy := ev y (.inr (by rw [hargs]; simp))
        have hz := ev z (.inr (by rw [hargs]; simp))
        unfold aCopy at *
        rw [evalA_upd hy, evalA_upd hz] at h
        split at h
        · exact h
        · exact h
      · exact pm h
    | _ => rw [hop] at h; exact pm h
  unfold aoper at *
  cases hop : o.op with
  | call c =>
    rw [hop] at h ev
    simp only [Op.operands, Call.operands, Array.toList_append, List.mem_append] at ev
    dsimp only at *
    cases hc : c.callee with
    | value f =>
      rw [hc] at h ev
      have hf := ev f (.inl (by simp))
      have hargs : d ∉ temps c.args.toList := fun hm => by
        simp only [temps, List.mem_filterMap] at hm
        obtain ⟨z, hz, hz'⟩ := hm
        refine ev z (.inr hz) ?_
        cases z <;> simp_all [temps]
      dsimp only at *
      rw [evalA_upd hf] at h
      split at h
      · exact takeArgs_frame _ _ hargs h
      · exact h
    | _ => rw [hc] at h; exact as h
  | _ => rw [hop] at h; exact as h

theorem takeA_eff {A : Slots} {y : Operand} {K : AV → Slots → Prop} (h : takeA A y K) : takeA A y fun v A' => K v A' ∧ ∀ t, t ∉ temps [y] → A' t = A t := by
  cases y with
  | tmp t => exact ⟨h, fun u hu => upd_other (fun e => hu (by simp [temps, e])) _⟩
  | _ => exact ⟨h, fun _ _ => rfl⟩
theorem takeArgs_eff {P : Program} : ∀ (ys : List Operand) (ts : List TypeId) {A : Slots} {K : List AV → Slots → Prop}, takeArgs P ys ts A K → takeArgs P ys ts A fun v A' => K v A' ∧ ∀ t, t ∉ temps ys → A' t = A t
  | [], _, _, _, h => ⟨h, fun _ _ => rfl⟩
  | y :: ys, ts, A, K, h => takeA_mono (takeA_eff h) fun v A1 ⟨h1, e1⟩ => takeArgs_mono ys ts.tail (takeArgs_eff ys ts.tail h1) fun vs A2 ⟨h2, e2⟩ => ⟨h2, fun t ht => by
      have : temps (y :: ys) = temps [y] ++ temps ys := by cases y <;> rfl
      rw [this] at ht
      simp only [List.mem_append, not_or] at ht
      exact (e2 t ht.2).trans (e1 t ht.1)⟩

theorem fillTake_eff {P : Program} {t : TypeId} : ∀ (parts : List (Nat × Operand)) (cs : List AV) {A : Slots} {K : List AV → Slots → Prop}, fillTake P t parts cs A K → fillTake P t parts cs A fun v A' => K v A' ∧ ∀ t, t ∉ temps (parts.map (·.2)) → A' t = A t
  | [], _, _, _, h => ⟨h, fun _ _ => rfl⟩
  | (i, y) :: rest, cs, A, K, h => by
    simp only [fillTake] at *
    split at h
    · refine takeA_mono (takeA_eff h) fun v A1 ⟨⟨h1, h2, h3, h4⟩, e1⟩ => ⟨h1, h2, h3, fillTake_mono rest _ (fillTake_eff rest _ h4) fun vs A2 ⟨h5, e2⟩ => ⟨h5, fun t ht => ?_⟩⟩
      have : temps (((i, y) :: rest).map (·.2)) = temps [y] ++ temps (rest.map (·.2)) := by cases y <;> rfl
      rw [this] at ht
      simp only [List.mem_append, not_or] at ht
      exact (e2 t ht.2).trans (e1 t ht.1)
    · exact h

theorem temps_arg {xs ys : List Operand} {t : Tmp} (hs : ∀ y ∈ ys, y ∈ xs) (h : t ∉ temps xs) : t ∉ temps ys := fun hm => by
  simp only [temps, List.mem_filterMap] at hm
  obtain ⟨z, hz, hz'⟩ := hm
  refine h (temps_of (hs z hz) ?_)
  cases z <;> simp_all [temps]

theorem upd_le {σ : Store} {p : Nat} {cs : List AV} (h : σ p = none) : σ.le (σ.upd p cs) := fun o c ho => by
  have : o ≠ p := fun e => by subst e; rw [h] at ho; cases ho
  simp [Store.upd, this, ho]

/-- What an operation does to the slots and to the store. -/
theorem aoper_eff {P : Program} {st : List Tmp} {o : Oper} {A : Slots} {σ : Store} {K : AV → Slots → Store → Prop} (h : aoper P st o A σ K) :
    aoper P st o A σ fun v A' σ' => K v A' σ' ∧ (∀ t, t ∉ temps o.op.operands.toList → A' t = A t) ∧ (growOp st o = true → (isLoad o = true → steals st o = false) → σ.le σ') := by
  let E : Slots → Store → Prop := fun A' σ' => (∀ t, t ∉ temps o.op.operands.toList → A' t = A t) ∧ (growOp st o = true → (isLoad o = true → steals st o = false) → σ.le σ')
  have triv : E A σ := ⟨fun _ _ => rfl, fun _ _ => fun _ _ h => h⟩
  have pm : (match apure P o A σ with | some v => K v A σ | none => False) → (match apure P o A σ with | some v => K v A σ ∧ E A σ | none => False) := by
    intro h; split at h
    · exact ⟨h, triv⟩
    · exact h
  have tk : ∀ (y : Operand), y ∈ o.op.operands.toList → ∀ {A' : Slots} {σ' : Store}, (∀ t, t ∉ temps [y] → A' t = A t) → (growOp st o = true → (isLoad o = true → steals st o = false) → σ.le σ') → E A' σ' := fun y hy A' σ' h1 h2 =>
    ⟨fun t ht => h1 t (temps_arg (fun z hz => by simp at hz; subst hz; exact hy) ht), h2⟩
  have as : astep P st o A σ K → astep P st o A σ fun v A' σ' => K v A' σ' ∧ E A' σ' := by
    intro h
    unfold astep at *
    cases hop : o.op with
    | assign y =>
      rw [hop] at h tk
      dsimp only at *
      split at h
      · rename_i hs; rw [if_pos hs]; exact takeA_mono (takeA_eff h) fun v A' ⟨h1, h2⟩ => ⟨h1, tk y (by simp [Op.operands]) h2 fun _ _ _ _ h => h⟩
      · rename_i hs; rw [if_neg hs]; exact takeA_mono (takeA_eff h) fun v A' ⟨h1, h2⟩ => ⟨h1, tk y (by simp [Op.operands]) h2 fun _ _ _ _ h => h⟩
    | move y =>
      rw [hop] at h tk
      cases y with
      | tmp t =>
        dsimp only at *
        split at h
        · rename_i hs; rw [if_pos hs]; exact takeA_mono (takeA_eff h) fun v A' ⟨h1, h2⟩ => ⟨h1, tk _ (by simp [Op.operands]) h2 fun _ _ _ _ h => h⟩
        · rename_i hs; rw [if_neg hs]; exact ⟨h, triv⟩
      | _ => exact pm h
    | load t y =>
      rw [hop] at h
      dsimp only at *
      split at h
      · rename_i hs; rw [if_pos hs]
        unfold aLoadTake aLoadTakeAgg at *
        (repeat' split at h) <;> first
          | exact ⟨h.1, h.2, fun _ _ => rfl, fun _ h2 => by rw [hs] at h2; simp [isLoad, hop] at h2⟩
          | exact ⟨h, fun _ _ => rfl, fun _ h2 => by rw [hs] at h2; simp [isLoad, hop] at h2⟩
          | exact False.elim h
      · rename_i hs; rw [if_neg hs]; exact pm h
    | alloc e =>
      rw [hop] at h
      dsimp only [aAlloc] at *
      split at h
      · exact fun p hp => ⟨h p hp, fun _ _ => rfl, fun _ _ => upd_le hp⟩
      · exact h
    | box e y =>
      rw [hop] at h tk
      exact takeA_mono (takeA_eff h) fun v A' ⟨⟨h1, h2⟩, h3⟩ => ⟨h1, fun p hp => ⟨h2 p hp, tk y (by simp [Op.operands]) h3 fun _ _ => upd_le hp⟩⟩
    | store t y z =>
      rw [hop] at h tk
      dsimp only [aStore] at *
      split at h
      · split at h
        · exact takeA_mono (takeA_eff h) fun v A' ⟨⟨h1, h2, h3, h4⟩, h5⟩ => ⟨h1, h2, h3, h4, tk z (by simp [Op.operands]) h5 fun hg => by simp [growOp, pureOp, hop] at hg⟩
        · exact h
      · exact h
    | buildSlice t len parts =>
      rw [hop] at h tk
      dsimp only at *
      split at h
      · rename_i hs; rw [if_pos hs]
        unfold aBuildObj at *
        split at h
        · exact ⟨h.1, h.2.1, fun p hp => ⟨h.2.2 p hp, fun _ _ => rfl, fun _ _ => upd_le hp⟩⟩
        · rename_i e x he hparts
          split at h
          · obtain ⟨q1, q2, q3, q4, h⟩ := h
            refine ⟨q1, q2, q3, q4, takeA_mono (takeA_eff h) fun v A' ⟨⟨r1, r2, r3⟩, r4⟩ => ⟨r1, r2, fun p hp => ⟨r3 p hp, tk x (by simp only [Op.operands, Array.toList_map, hparts]; simp) r4 fun _ _ => upd_le hp⟩⟩⟩
          · exact h
        · exact h
      · rename_i hs; rw [if_neg hs]
        split at h
        · exact ⟨h, triv⟩
        · exact h
    | build t parts =>
      rw [hop] at h tk
      dsimp only at *
      split at h
      · rename_i hs; rw [if_pos hs]
        unfold aBuildTake at *
        split at h
        · refine fillTake_mono _ _ (fillTake_eff _ _ h) fun cs A' ⟨h1, h2⟩ => ⟨h1, fun t ht => h2 t fun hm => ht ?_, fun _ _ _ _ h => h⟩
          rw [hop]
          simp only [temps, List.mem_filterMap] at hm ⊢
          obtain ⟨z, hz, hz'⟩ := hm
          simp only [List.mem_map] at hz
          obtain ⟨p, hp, rfl⟩ := hz
          exact ⟨p.2, by simp [Op.operands]; exact ⟨p.1, by simpa using hp⟩, hz'⟩
        · exact h
      · rename_i hs; rw [if_neg hs]; exact pm h
    | makeSlice t y z =>
      rw [hop] at h
      dsimp only [aMake] at *
      split at h
      · split at h
        · obtain ⟨h1, h2, h3, h4, h5, h6, h7, h8⟩ := h
          refine ⟨h1, h2, h3, h4, h5, h6, h7, ?_⟩
          split at h8
          · rename_i hs; rw [if_pos hs]; exact ⟨h8, triv⟩
          · rename_i hs; rw [if_neg hs]; exact fun p hp => ⟨h8 p hp, fun _ _ => rfl, fun _ _ => upd_le hp⟩
        · exact h
      · exact h
    | binOp op t y z t' =>
      rw [hop] at h
      dsimp only at *
      split at h
      · rename_i hs; rw [if_pos hs]
        cases op <;> first
          | exact False.elim h
          | (dsimp only [aNilTest] at *
             split at h
             · exact fun r hr => ⟨h r hr, triv⟩
             · exact ⟨h, triv⟩
             · exact h)
      · rename_i hs; rw [if_neg hs]; exact pm h
    | convert src dst y =>
      rw [hop] at h tk
      dsimp only at *
      split at h
      · rename_i hs; rw [if_pos hs]
        obtain ⟨q1, q2, q3⟩ := h
        refine ⟨q1, q2, takeA_mono (takeA_eff q3) fun v A' ⟨hh, h2⟩ => ?_⟩
        split at hh
        · exact ⟨hh, tk y (by simp [Op.operands]) h2 fun _ _ _ _ h => h⟩
        · exact hh
      · rename_i hs; rw [if_neg hs]; exact pm h
    | extract y ix =>
      rw [hop] at h tk
      cases y with
      | tmp t =>
        dsimp only [aExtract] at *
        split at h
        · split at h
          · exact ⟨h, tk (.tmp t) (by simp [Op.operands]) (fun u hu => upd_other (fun e => hu (by simp [temps, e])) _) fun _ _ _ _ h => h⟩
          · exact h
        · exact h
      | _ => exact pm h
    | call c =>
      rw [hop] at h tk
      dsimp only at *
      split at h
      · rename_i s y t t' hc hargs hts
        refine ⟨h.1, ?_⟩
        have h2 := h.2
        clear h
        have hs : s ∈ (Op.call c).operands.toList := by simp only [Op.operands, Call.operands, Array.toList_append, List.mem_append]; exact .inr (by rw [hargs]; simp)
        split at h2
        · rename_i hso; rw [if_pos hso]
          have ng : growOp st o = false := by simp [growOp, pureOp, hop, hc, hso]
          have tr : ∀ σ', E A σ' := fun σ' => ⟨fun _ _ => rfl, fun hg => by rw [ng] at hg; cases hg⟩
          unfold aAppendObj at *
          (repeat' split at h2) <;> first
            | exact False.elim h2
            | (obtain ⟨q1, q2, q3, q4, q5, q6, q7, q8⟩ := h2; exact ⟨q1, q2, q3, q4, q5, q6, fun h0 => ⟨q7 h0, tr _⟩, fun h0 p cap h1 h2 h3 => ⟨q8 h0 p cap h1 h2 h3, tr _⟩⟩)
        · rename_i hso; rw [if_neg hso]
          unfold aAppend at *
          split at h2
          · split at h2
            · split at h2
              · exact takeA_mono (takeA_eff h2) fun v A' ⟨h3, h4⟩ => by
                  split at h3
                  · obtain ⟨q1, q2, q3, q4, q5, q6, q7⟩ := h3; exact ⟨q1, q2, q3, q4, q5, q6, q7, tk s hs h4 fun _ _ _ _ h => h⟩
                  · exact h3
              · exact h2
            · exact h2
          · exact h2
      · rename_i y z t t' hc hargs hts
        have ng : growOp st o = false := by simp [growOp, pureOp, hop, hc]
        have tr : ∀ σ', E A σ' := fun σ' => ⟨fun _ _ => rfl, fun hg => by rw [ng] at hg; cases hg⟩
        unfold aCopy at *
        split at h
        · exact ⟨h.1, h.2.1, h.2.2, tr _⟩
        · exact h
      · exact pm h
    | _ => rw [hop] at h; exact pm h
  unfold aoper at *
  cases hop : o.op with
  | call c =>
    rw [hop] at h
    dsimp only at *
    cases hc : c.callee with
    | value f =>
      rw [hc] at h
      dsimp only at *
      split at h
      · refine takeArgs_mono _ _ (takeArgs_eff _ _ h) fun vs A' ⟨h1, h2⟩ => h1.mono fun v σ' hk => ⟨hk, fun t ht => h2 t (temps_arg (fun z hz => ?_) ht), fun hg => ?_⟩
        · simp only [Op.operands, Call.operands, Array.toList_append, List.mem_append]; exact .inr hz
        · simp [growOp, pureOp, hop, hc] at hg
      · exact h
    | _ => rw [hc] at h; have := as h; dsimp only [E] at this; rw [hop] at this; exact this
  | _ => rw [hop] at h; have := as h; dsimp only [E] at this; rw [hop] at this; exact this

/-! ### Moving an operation that only computes ahead -/
def evalE (P : Program) (ops : Array Oper) (e : Oper) (A : Slots) (σ : Store) : Option AV :=
  match e.guard with
  | none => apure P e A σ
  | some (j, want) => match yieldedA ops A j with
    | some b => if b = want then apure P e A σ else some .top
    | none => none

theorem estep_pure {P : Program} {st : List Tmp} {ops : Array Oper} {i : Nat} {e : Oper} (he : ops[i]? = some e) (hp : pureOp st e = true) {K : Slots → Store → Prop} {A : Slots} {σ : Store} :
    estep P st ops i K A σ ↔ ∃ v, evalE P ops e A σ = some v ∧ K (aput A e.dst v) σ := by
  unfold estep evalE
  rw [he]
  dsimp only
  cases hg : e.guard with
  | none => exact pureOp_iff hp
  | some jw =>
    obtain ⟨j, want⟩ := jw
    dsimp only
    cases hy : yieldedA ops A j with
    | none => simp
    | some b =>
      dsimp only
      by_cases hb : b = want
      · rw [if_pos hb, if_pos hb]; exact pureOp_iff hp
      · rw [if_neg hb, if_neg hb]; simp

theorem looks_op {ops : Array Oper} {o : Oper} {t : Tmp} (h : t ∈ temps o.op.operands.toList) : t ∈ o.looksAt ops := by
  unfold Oper.looksAt
  exact List.mem_append_left _ h
theorem looks_guard {ops : Array Oper} {o : Oper} {j : Nat} {want : Bool} (hg : o.guard = some (j, want)) {d : Tmp} (hd : (ops[j]?).bind (·.dst) = some d) : d ∈ o.looksAt ops := by
  unfold Oper.looksAt
  simp [hg, hd]

theorem yieldedA_congr {ops : Array Oper} {o : Oper} {A B : Slots} (h : ∀ t ∈ o.looksAt ops, A t = B t) {j : Nat} {want : Bool} (hg : o.guard = some (j, want)) : yieldedA ops A j = yieldedA ops B j := by
  unfold yieldedA
  cases hd : (ops[j]?).bind (·.dst) with
  | none => rfl
  | some d => dsimp only; rw [h d (looks_guard hg hd)]

theorem evalE_congr {P : Program} {ops : Array Oper} {e : Oper} {A B : Slots} {σ σ' : Store} (h : ∀ t ∈ e.looksAt ops, A t = B t) (hs : isLoad e = true → σ.le σ') {v : AV} (hv : evalE P ops e A σ = some v) : evalE P ops e B σ' = some v := by
  have ap : ∀ {v}, apure P e A σ = some v → apure P e B σ' = some v := fun {v} hv => by
    rw [apure_congr (B := B) fun t ht => h t (looks_op ht)] at hv
    cases hl : isLoad e with
    | true => exact apure_grow (hs hl) hv
    | false => rwa [← apure_store (σ := σ) hl]
  unfold evalE at *
  cases hg : e.guard with
  | none => rw [hg] at hv; exact ap hv
  | some jw =>
    obtain ⟨j, want⟩ := jw
    rw [hg] at hv
    dsimp only at *
    rw [yieldedA_congr h hg] at hv
    cases hy : yieldedA ops B j with
    | none => rw [hy] at hv; simp at hv
    | some b =>
      rw [hy] at hv
      dsimp only at *
      by_cases hb : b = want
      · rw [if_pos hb] at *; exact ap hv
      · rw [if_neg hb] at *; exact hv

theorem aput_upd {A : Slots} {dst : Option Tmp} {d : Tmp} (h : dst ≠ some d) (v x : AV) : aput (upd A d x) dst v = upd (aput A dst v) d x := by
  cases dst with
  | none => rfl
  | some e => exact upd_comm A (fun heq => h (by rw [heq])) x v

/-- Two operations that may change places, the first of which only computes. -/
def indep (st : List Tmp) (ops : Array Oper) (e i : Oper) : Bool :=
  Oper.apart ops e i && pureOp st e && (pureOp st i || (e.looksAt ops).all fun t => !(temps i.op.operands.toList).contains t) && (!isLoad e || (growOp st i && (!isLoad i || !steals st i)))

theorem estep_swap {P : Program} {st : List Tmp} {ops : Array Oper} {k i : Nat} {e o : Oper} (he : ops[k]? = some e) (ho : ops[i]? = some o) (hi : indep st ops e o = true) {K : Slots → Store → Prop} {A : Slots} {σ : Store}
    (h : estep P st ops k (estep P st ops i K) A σ) : estep P st ops i (estep P st ops k K) A σ := by
  unfold indep at hi
  simp only [Bool.and_eq_true] at hi
  obtain ⟨⟨⟨hap, hpe⟩, hdis⟩, hld⟩ := hi
  obtain ⟨a1, a2, a3⟩ := Oper.apart_spec hap
  obtain ⟨v, hv, h⟩ := (estep_pure he hpe).1 h
  -- what is known behind the other one
  have back : ∀ {A' : Slots} {σ' : Store}, (∀ t ∈ e.looksAt ops, A' t = A t) → (isLoad e = true → σ.le σ') → K (aput A' e.dst v) σ' → estep P st ops k K A' σ' := fun h1 h2 h3 =>
    (estep_pure he hpe).2 ⟨v, evalE_congr (fun t ht => (h1 t ht).symm) h2 hv, h3⟩
  have frame : ∀ {K' : AV → Slots → Store → Prop}, aoper P st o (aput A e.dst v) σ K' → aoper P st o A σ fun x A' σ' => K' x (aput A' e.dst v) σ' := by
    intro K' hk
    cases hd : e.dst with
    | none => rw [hd] at hk; exact hk
    | some d => rw [hd] at hk; exact aoper_frame (fun hm => a1 d hd (looks_op hm)) hk
  have eff : ∀ {K' : AV → Slots → Store → Prop}, aoper P st o A σ K' → aoper P st o A σ fun x A' σ' => K' x A' σ' ∧ (∀ t ∈ e.looksAt ops, A' t = A t) ∧ (isLoad e = true → σ.le σ') := by
    intro K' hk
    by_cases hpo : pureOp st o = true
    · obtain ⟨x, hx, hk⟩ := (pureOp_iff hpo).1 hk
      exact (pureOp_iff hpo).2 ⟨x, hx, hk, fun _ _ => rfl, fun _ _ _ h => h⟩
    · refine aoper_mono (aoper_eff hk) fun x A' σ' ⟨h1, h2, h3⟩ => ⟨h1, fun t ht => h2 t fun hm => ?_, fun hl => ?_⟩
      · have := hdis
        simp only [hpo, Bool.false_or, List.all_eq_true] at this
        have := this t ht
        simp at this; exact this hm
      · simp only [hl, Bool.not_true, Bool.false_or, Bool.and_eq_true] at hld
        refine h3 hld.1 fun hlo => ?_
        have := hld.2
        simpa [hlo] using this
  have fin : ∀ {x : AV} {A' : Slots} {σ' : Store}, K (aput (aput A' e.dst v) o.dst x) σ' → (∀ t ∈ e.looksAt ops, A' t = A t) → (isLoad e = true → σ.le σ') → estep P st ops k K (aput A' o.dst x) σ' := by
    intro x A' σ' hk h1 h2
    refine back (fun t ht => ?_) h2 ?_
    · cases hd : o.dst with
      | none => exact h1 t ht
      | some d =>
        have hne : t ≠ d := fun e => by subst e; exact a3 t hd ht
        simp only [aput]; rw [upd_other hne]; exact h1 t ht
    · cases hd : e.dst with
      | none => rw [hd] at hk; exact hk
      | some d =>
        rw [hd] at hk
        simp only [aput] at hk ⊢
        have := aput_upd (A := A') (dst := o.dst) (fun h => a2 d hd h) x v
        simp only [aput] at this
        rw [← this]; exact hk
  unfold estep at h ⊢
  rw [ho] at h ⊢
  dsimp only at *
  have hyg : ∀ {j : Nat} {want : Bool}, o.guard = some (j, want) → yieldedA ops (aput A e.dst v) j = yieldedA ops A j := fun hg => yieldedA_congr (fun t ht => by
    cases hd : e.dst with
    | none => rfl
    | some d => exact upd_other (fun h => by subst h; exact a1 t hd ht) v) hg
  cases hg : o.guard with
  | none =>
    rw [hg] at h
    exact aoper_mono (eff (frame h)) fun x A' σ' ⟨h1, h2, h3⟩ => fin h1 h2 h3
  | some jw =>
    obtain ⟨j, want⟩ := jw
    rw [hg] at h
    dsimp only at *
    rw [hyg hg] at h
    cases hy : yieldedA ops A j with
    | none => rw [hy] at h; exact h
    | some b =>
      rw [hy] at h
      dsimp only at *
      by_cases hb : b = want
      · rw [if_pos hb] at *; exact aoper_mono (eff (frame h)) fun x A' σ' ⟨h1, h2, h3⟩ => fin h1 h2 h3
      · rw [if_neg hb] at *
        exact fin h (fun _ _ => rfl) fun _ _ _ h => h

end Go.AL
