/-
  The abstract-state logic: regions and code.
-/
import Derived.Test.YtkfhpnfgnjmdbaaALCall
namespace Go.AL
open Go Go.RowKit Classical

def aput (A : Slots) (dst : Option Tmp) (v : AV) : Slots :=
  match dst with
  | some d => upd A d v
  | none => A

theorem Rel.aput {D : Nat → Prop} {n : Nat} {G : Ghost} {A : Slots} {σ : Store} {a : Act} {w : World} (h : Rel D n G A σ a w) {v : AV} {cv : Value} (hv : VR G.F v cv) (ho : OwnAt G D .acc v cv) {dst : Option Tmp} (hd : ∀ d, dst = some d → d < n) :
    ∃ G', Rel D n G' (aput A dst v) σ (a.put dst cv) w ∧ Ext D G w G' w := by
  cases dst with
  | none => exact ⟨G, h, Ext.refl ..⟩
  | some d => exact ⟨_, h.put hv ho (hd d rfl), Ext.mv ..⟩

theorem takeA_mono {A : Slots} {x : Operand} {K K' : AV → Slots → Prop} (h : takeA A x K) (hk : ∀ v A', K v A' → K' v A') : takeA A x K' := by
  cases x <;> exact hk _ _ h
theorem takeArgs_mono {P : Program} : ∀ (xs : List Operand) (ts : List TypeId) {A : Slots} {K K' : List AV → Slots → Prop}, takeArgs P xs ts A K → (∀ v A', K v A' → K' v A') → takeArgs P xs ts A K'
  | [], _, _, _, _, h, hk => hk _ _ h
  | _ :: xs, ts, _, _, _, h, hk => takeA_mono h fun _ _ h' => takeArgs_mono xs ts.tail h' fun _ _ => hk _ _
theorem fillTake_mono {P : Program} {t : TypeId} : ∀ (parts : List (Nat × Operand)) (cs : List AV) {A : Slots} {K K' : List AV → Slots → Prop}, fillTake P t parts cs A K → (∀ v A', K v A' → K' v A') → fillTake P t parts cs A K'
  | [], _, _, _, _, h, hk => hk _ _ h
  | (i, x) :: rest, cs, A, K, K', h, hk => by
    simp only [fillTake] at *
    split at h
    · exact takeA_mono h fun v A' ⟨h1, h2, h3, h4⟩ => ⟨h1, h2, h3, fillTake_mono rest _ h4 hk⟩
    · exact h
theorem astep_mono {P : Program} {st : List Tmp} {o : Oper} {A : Slots} {σ : Store} {K K' : AV → Slots → Store → Prop} (h : astep P st o A σ K) (hk : ∀ v A' σ', K v A' σ' → K' v A' σ') : astep P st o A σ K' := by
  have pm : (match apure P o A σ with | some v => K v A σ | none => False) → (match apure P o A σ with | some v => K' v A σ | none => False) := by
    intro h; split at h
    · exact hk _ _ _ h
    · exact h
  unfold astep at *
  generalize steals st o = steal at *
  generalize objs st o = ob at *
  generalize o.op = op at h ⊢
  cases op with
  | assign x =>
    dsimp only at *
    split at h
    · rename_i hs; rw [if_pos hs]; exact takeA_mono h fun _ _ => hk _ _ _
    · rename_i hs; rw [if_neg hs]; exact takeA_mono h fun _ _ => hk _ _ _
  | move x =>
    cases x with
    | tmp t =>
      dsimp only at *
      split at h
      · rename_i hs; rw [if_pos hs]; exact takeA_mono h fun _ _ => hk _ _ _
      · rename_i hs; rw [if_neg hs]; exact hk _ _ _ h
    | _ => exact pm h
  | load t y =>
    dsimp only at *
    split at h
    · rename_i hs; rw [if_pos hs]
      unfold aLoadTake aLoadTakeAgg at *
      (repeat' split at h) <;> first | exact hk _ _ _ h | exact ⟨h.1, hk _ _ _ h.2⟩ | exact False.elim h
    · rename_i hs; rw [if_neg hs]; exact pm h
  | alloc e =>
    dsimp only [aAlloc] at *
    split at h
    · exact fun p hp => hk _ _ _ (h p hp)
    · exact h
  | box e x => exact takeA_mono h fun v A' h' => ⟨h'.1, fun p hp => hk _ _ _ (h'.2 p hp)⟩
  | store t y x =>
    dsimp only [aStore] at *
    split at h
    · split at h
      · exact takeA_mono h fun _ _ ⟨h1, h2, h3, h4⟩ => ⟨h1, h2, h3, hk _ _ _ h4⟩
      · exact h
    · exact h
  | buildSlice t len parts =>
    dsimp only at *
    split at h
    · rename_i hs; rw [if_pos hs]
      unfold aBuildObj at *
      (repeat' split at h) <;> first
        | exact False.elim h
        | exact ⟨h.1, h.2.1, fun p hp => hk _ _ _ (h.2.2 p hp)⟩
        | (obtain ⟨q1, q2, q3, q4, h⟩ := h; exact ⟨q1, q2, q3, q4, takeA_mono h fun v A' ⟨r1, r2, r3⟩ => ⟨r1, r2, fun p hp => hk _ _ _ (r3 p hp)⟩⟩)
    · rename_i hs; rw [if_neg hs]
      split at h
      · exact hk _ _ _ h
      · exact h
  | build t parts =>
    dsimp only at *
    split at h
    · rename_i hs; rw [if_pos hs]
      unfold aBuildTake at *
      split at h
      · exact fillTake_mono _ _ h fun _ _ => hk _ _ _
      · exact h
    · rename_i hs; rw [if_neg hs]; exact pm h
  | makeSlice t x y =>
    dsimp only [aMake] at *
    split at h
    · split at h
      · obtain ⟨h1, h2, h3, h4, h5, h6, h7, h8⟩ := h
        refine ⟨h1, h2, h3, h4, h5, h6, h7, ?_⟩
        split at h8
        · rename_i hs; rw [if_pos hs]; exact hk _ _ _ h8
        · rename_i hs; rw [if_neg hs]; exact fun p hp => hk _ _ _ (h8 p hp)
      · exact h
    · exact h
  | binOp op t x y t' =>
    dsimp only at *
    split at h
    · rename_i hs; rw [if_pos hs]
      cases op <;> first
        | exact False.elim h
        | (dsimp only [aNilTest] at *
           split at h
           · exact fun r hr => hk _ _ _ (h r hr)
           · exact hk _ _ _ h
           · exact h)
    · rename_i hs; rw [if_neg hs]; exact pm h
  | convert src dst x =>
    dsimp only at *
    split at h
    · rename_i hs; rw [if_pos hs]
      obtain ⟨q1, q2, q3⟩ := h
      refine ⟨q1, q2, takeA_mono q3 fun v A' hh => ?_⟩
      split at hh
      · exact hk _ _ _ hh
      · exact hh
    · rename_i hs; rw [if_neg hs]; exact pm h
  | extract x ix =>
    cases x with
    | tmp t =>
      dsimp only [aExtract] at *
      split at h
      · split at h
        · exact hk _ _ _ h
        · exact h
      · exact h
    | _ => exact pm h
  | call c =>
    dsimp only at *
    split at h
    · refine ⟨h.1, ?_⟩
      have h2 := h.2
      clear h
      split at h2
      · rename_i hs; rw [if_pos hs]
        unfold aAppendObj at *
        (repeat' split at h2) <;> first
          | exact False.elim h2
          | (obtain ⟨q1, q2, q3, q4, q5, q6, q7, q8⟩ := h2; exact ⟨q1, q2, q3, q4, q5, q6, fun h0 => hk _ _ _ (q7 h0), fun h0 p cap h1 h2 h3 => hk _ _ _ (q8 h0 p cap h1 h2 h3)⟩)
      · rename_i hs; rw [if_neg hs]
        unfold aAppend at *
        split at h2
        · split at h2
          · split at h2
            · refine takeA_mono h2 fun v A' h3 => ?_
              split at h3
              · obtain ⟨q1, q2, q3, q4, q5, q6, q7⟩ := h3; exact ⟨q1, q2, q3, q4, q5, q6, hk _ _ _ q7⟩
              · exact h3
            · exact h2
          · exact h2
        · exact h2
    · unfold aCopy at *
      split at h
      · exact ⟨h.1, h.2.1, hk _ _ _ h.2.2⟩
      · exact h
    · exact pm h
  | _ => exact pm h
theorem aoper_mono {P : Program} {st : List Tmp} {o : Oper} {A : Slots} {σ : Store} {K K' : AV → Slots → Store → Prop} (h : aoper P st o A σ K) (hk : ∀ v A' σ', K v A' σ' → K' v A' σ') : aoper P st o A σ K' := by
  have am := fun h => astep_mono (P := P) (st := st) (o := o) (A := A) (σ := σ) (K := K) (K' := K') h hk
  unfold aoper at *
  generalize o.op = op at h ⊢
  cases op with
  | call c =>
    dsimp only at *
    cases hc : c.callee with
    | value f =>
      rw [hc] at h
      dsimp only at *
      split at h
      · exact takeArgs_mono _ _ h fun _ _ hc => hc.mono fun _ _ => hk _ _ _
      · exact h
    | _ => rw [hc] at h; exact am h
  | _ => exact am h

/-- The post of a piece of code, lifted to the model. -/
def lift (D : Nat → Prop) (n : Nat) (G : Ghost) (w : World) (Q : Slots → Store → Prop) (a' : Act) (w' : World) : Prop :=
  ∃ G' A' σ', Q A' σ' ∧ Rel D n G' A' σ' a' w' ∧ Ext D G w G' w'
theorem lift_trans {D : Nat → Prop} {n : Nat} {G G1 : Ghost} {w w1 : World} {Q : Slots → Store → Prop} {a' : Act} {w' : World} (h : Ext D G w G1 w1) (k : lift D n G1 w1 Q a' w') : lift D n G w Q a' w' := by
  obtain ⟨G', A', σ', h1, h2, h3⟩ := k
  exact ⟨G', A', σ', h1, h2, h.trans h3⟩

theorem aoper_sound {P : Program} {st : List Tmp} {D : Nat → Prop} {n : Nat} {G : Ghost} {A : Slots} {σ : Store} {a : Act} {w : World} (h : Rel D n G A σ a w) {o : Oper} {K : AV → Slots → Store → Prop} (hK : aoper P st o A σ K)
    (hd : ∀ d, o.dst = some d → d < n) (Q : Exit → Act → World → Prop) : o.wp P a w (lift D n G w fun A' σ' => ∃ v A0, K v A0 σ' ∧ A' = aput A0 o.dst v) Q := by
  have fin : ∀ {v : AV} {cv : Value} {A' : Slots} {σ' : Store} {G' : Ghost} {w' : World}, K v A' σ' → Rel D n G' A' σ' a w' → VR G'.F v cv → OwnAt G' D .acc v cv → Ext D G w G' w' →
      lift D n G w (fun A' σ' => ∃ v A0, K v A0 σ' ∧ A' = aput A0 o.dst v) (a.put o.dst cv) w' := by
    intro v cv A' σ' G' w' hk hR hv ho hext
    obtain ⟨G2, h1, h2⟩ := hR.aput hv ho hd
    exact ⟨G2, _, σ', ⟨v, A', hk, rfl⟩, h1, hext.trans h2⟩
  have step : astep P st o A σ K → o.wp P a w (lift D n G w fun A' σ' => ∃ v A0, K v A0 σ' ∧ A' = aput A0 o.dst v) Q := by
    intro hs
    obtain ⟨v, cv, A', σ', G', w', hk, hr, hR, hv, ho, hext⟩ := astep_sound h hs
    unfold Oper.wp
    rcases hr with hr | ⟨hr, rfl⟩ <;> rw [hr]
    · exact fin hk hR hv ho hext
    · exact fin hk hR hv ho hext
  unfold aoper at hK
  split at hK
  · rename_i c hop
    split at hK
    · rename_i f hcallee
      split at hK
      case h_2 => exact hK.elim
      rename_i g first captured hf
      obtain ⟨vs, A', G1, hC, hR1, hl, hvs, hext1, hF1, _⟩ := takeArgs_sound _ _ first.length h hK
      have hfv := h.eval f
      rw [hf] at hfv
      generalize hfe : a.eval f = fv at hfv
      cases hfv with | func _ _ _ ufs ucs l1 l2 v1 v2 => ?_
      rw [← hF1] at v1 v2
      have hall : ∀ (i : Nat) (cc : AV) (u : Value), (first.map AV.share ++ vs ++ captured.map AV.share)[i]? = some cc → (ufs ++ c.args.map a.eval ++ ucs)[i]? = some u → VR G1.F cc u ∧ OwnAt G1 D (.arg i) cc u := (fun i cc u hc hu => by
        rw [List.getElem?_append, List.getElem?_append] at hc
        rw [Array.getElem?_append, Array.getElem?_append] at hu
        simp only [List.length_append, List.length_map, Array.size_append, Array.size_map, l1, hl, Array.length_toList] at hc hu
        split at hc
        · rename_i hi1
          rw [if_pos hi1] at hu
          split at hc
          · rename_i hi2
            rw [if_pos hi2] at hu
            exact plain_list (F := G1.F) v1 G1 D .arg i cc u hc hu
          · rename_i hi2
            rw [if_neg hi2] at hu
            rw [Array.getElem?_map] at hu
            cases hx : c.args[i - ufs.size]? with
            | none => simp [hx] at hu
            | some x =>
              simp [hx] at hu; subst hu
              have := hvs (i - ufs.size) cc x hc (by simpa using hx)
              rwa [show first.length + (i - ufs.size) = i from by simp at hi2; omega] at this
        · rename_i hi1
          rw [if_neg hi1] at hu
          have := plain_list (F := G1.F) v2 G1 D (fun _ => .arg i) (i - (ufs.size + c.args.size)) cc u hc hu
          exact this)
      by_cases hcal : callable P g = true
      case neg =>
        unfold ACallX at hC
        rw [if_neg hcal] at hC
        obtain ⟨v, cv, q1, q2, q3, q4⟩ := hC D G1 w (ufs ++ c.args.map a.eval ++ ucs) (by simp [l1, l2, hl]) (fun i cc u h1 h2 => (hall i cc u h1 h2).1) hR1.world
        have hrun : (execOp a.eval o).run P w = .ok (.value cv) w := by
          rw [Array.append_assoc] at q1
          simp [execOp, hop, resolve, hcallee, hfe, Deferred.ofValue, invoke, q1]
        unfold Oper.wp
        rw [hrun]
        exact fin q4 hR1 q3 (OwnAt.of_plain q2) hext1
      unfold ACallX at hC
      rw [if_pos hcal] at hC
      have hcall := hC.frame hR1 (cargs := ufs ++ c.args.map a.eval ++ ucs) (by simp [l1, l2, hl]) hall
      have hrun : (execOp a.eval o).run P w = .ok (.enter g (ufs ++ c.args.map a.eval ++ ucs)) w := by
        simp [execOp, hop, resolve, hcallee, hfe, Deferred.ofValue, invoke, run_callFunc hcal]
      unfold Oper.wp
      rw [hrun]
      refine hcall.mono ?_
      rintro e w' ⟨v, cv, G', σ', rfl, hk, hv, ho, hR', hext⟩
      exact fin hk hR' hv ho (hext1.trans hext)
    · exact step hK
  · exact step hK

/-! ### A region in one order -/
def yieldedA (ops : Array Oper) (A : Slots) (j : Nat) : Option Bool :=
  match (ops[j]?).bind (·.dst) with
  | some d => match A d with
    | .lit (.bool b) => some b
    | _ => none
  | none => none

def estep (P : Program) (st : List Tmp) (ops : Array Oper) (i : Nat) (K : Slots → Store → Prop) (A : Slots) (σ : Store) : Prop :=
  match ops[i]? with
  | none => False
  | some o => match o.guard with
    | none => aoper P st o A σ fun v A' σ' => K (aput A' o.dst v) σ'
    | some (j, want) => match yieldedA ops A j with
      | some b => if b = want then aoper P st o A σ fun v A' σ' => K (aput A' o.dst v) σ' else K (aput A o.dst .top) σ
      | none => False

def dstOk (n : Nat) (o : Oper) : Bool := match o.dst with | some d => decide (d < n) | none => true

theorem yielded_of {D : Nat → Prop} {n : Nat} {G : Ghost} {A : Slots} {σ : Store} {a : Act} {w : World} (h : Rel D n G A σ a w) {ops : Array Oper} (hn : ∀ o ∈ ops.toList, dstOk n o = true) {j : Nat} {b : Bool} (hy : yieldedA ops A j = some b) : yielded ops a.tmps j = some b := by
  unfold yieldedA at hy
  cases hd : (ops[j]?).bind (·.dst) with
  | none => simp [hd] at hy
  | some d =>
    rw [hd] at hy
    dsimp only at hy
    have hdn : d < n := by
      cases ho : ops[j]? with
      | none => simp [ho] at hd
      | some o =>
        simp [ho] at hd
        have := hn o (by have := Array.mem_of_getElem? ho; simpa using this)
        simpa [dstOk, hd] using this
    have hv := h.val d
    split at hy
    · rename_i b' hA
      simp at hy; subst hy
      rw [hA] at hv
      have hsz := h.size
      have hlt : d < a.tmps.size := hsz ▸ hdn
      have e1 : a.tmps.getD d undef = a.tmps[d]'hlt := by simp [Array.getD, hlt]
      rw [e1] at hv
      have e2 : a.tmps[d]? = some (a.tmps[d]'hlt) := by simp
      generalize a.tmps[d]'hlt = x at hv e2
      cases hv
      unfold yielded
      rw [hd]
      simp [e2]
    · simp at hy

theorem estep_sound {P : Program} {st : List Tmp} {D : Nat → Prop} {n : Nat} {G : Ghost} {A : Slots} {σ : Store} {a : Act} {w : World} (h : Rel D n G A σ a w) {ops : Array Oper} (hn : ∀ o ∈ ops.toList, dstOk n o = true) {i : Nat} {K : Slots → Store → Prop}
    (hK : estep P st ops i K A σ) (Q : Exit → Act → World → Prop) : wpOp P ops Q i (lift D n G w K) a w := by
  unfold estep at hK
  unfold wpOp
  cases ho : ops[i]? with
  | none => rw [ho] at hK; exact hK.elim
  | some o =>
    rw [ho] at hK
    dsimp only at hK ⊢
    have hd : ∀ d, o.dst = some d → d < n := fun d hd => by
      have := hn o (by have := Array.mem_of_getElem? ho; simpa using this)
      simpa [dstOk, hd] using this
    have run : (aoper P st o A σ fun v A' σ' => K (aput A' o.dst v) σ') → o.wp P a w (lift D n G w K) Q := fun hk => by
      refine Oper.wp_mono (fun a' w' hl => ?_) (aoper_sound h hk hd Q)
      obtain ⟨G', A', σ', ⟨v, A0, h1, rfl⟩, h2, h3⟩ := hl
      exact ⟨G', _, σ', h1, h2, h3⟩
    split at hK
    · rename_i hg
      have hw : Region.wanted o (yielded ops a.tmps) = true := by simp [Region.wanted, hg]
      rw [if_pos hw]
      exact .inl (run hK)
    · rename_i j want hg
      split at hK
      case h_2 => exact hK.elim
      rename_i b hy
      have hyy := yielded_of h hn hy
      have hw : Region.wanted o (yielded ops a.tmps) = (b == want) := by simp [Region.wanted, hg, hyy]
      split at hK
      · rename_i hb
        rw [if_pos (by rw [hw]; simp [hb])]
        exact .inl (run hK)
      · rename_i hb
        rw [if_neg (by rw [hw]; simp [hb])]
        obtain ⟨G2, h1, h2⟩ := h.aput (.top undef) (OwnAt.of_plain (r := .acc) rfl) hd
        exact ⟨G2, _, σ, hK, h1, h2⟩

theorem estep_mono {P : Program} {st : List Tmp} {ops : Array Oper} {i : Nat} {K K' : Slots → Store → Prop} {A : Slots} {σ : Store} (h : estep P st ops i K A σ) (hk : ∀ A σ, K A σ → K' A σ) : estep P st ops i K' A σ := by
  unfold estep at *
  cases ho : ops[i]? with
  | none => rw [ho] at h; exact h
  | some o =>
    rw [ho] at h
    dsimp only at *
    split at h
    · exact aoper_mono h fun v A' σ' => hk _ _
    · split at h
      · split at h
        · rename_i hb; rw [if_pos hb]; exact aoper_mono h fun v A' σ' => hk _ _
        · rename_i hb; rw [if_neg hb]; exact hk _ _ h
      · exact h

/-- The operations in this order. -/
def aops (P : Program) (st : List Tmp) (ops : Array Oper) (Q : Slots → Store → Prop) : List Nat → Slots → Store → Prop
  | [] => Q
  | i :: rest => estep P st ops i (aops P st ops Q rest)

theorem aops_sound {P : Program} {st : List Tmp} {D : Nat → Prop} {n : Nat} {ops : Array Oper} (hn : ∀ o ∈ ops.toList, dstOk n o = true) {Q : Slots → Store → Prop} {Q' : Exit → Act → World → Prop} :
    ∀ (l : List Nat) {G0 G : Ghost} {w0 : World} {A : Slots} {σ : Store} {a : Act} {w : World}, (∀ a' w', lift D n G0 w0 Q a' w' → Q' .normal a' w') → Ext D G0 w0 G w → Rel D n G A σ a w → aops P st ops Q l A σ → wpOps P ops Q' l a w
  | [], G0, G, w0, A, σ, a, w, hq, hext, hR, h => hq a w ⟨G, A, σ, h, hR, hext⟩
  | i :: rest, G0, G, w0, A, σ, a, w, hq, hext, hR, h => by
    rw [wpOps_cons]
    refine wpOp_mono (fun a' w' hl => ?_) (estep_sound hR hn h Q')
    obtain ⟨G', A', σ', h1, h2, h3⟩ := hl
    exact aops_sound hn rest hq (hext.trans h3) h2 h1

end Go.AL
