/-
  The abstract-state logic: append, make, parts of results; one operation under one name.
-/
import Derived.Test.YtkfhpnfgnjmdbaaALEff2
namespace Go.AL
open Go Go.RowKit Classical

/-- The list that is appended. -/
def srcA (sz : Nat) (v : AV) : Option (List AV) :=
  match v with
  | .list _ sz' vs => if sz' = sz then some vs else none
  | .lit (.slice none 0 0) => some []
  | _ => none

def tZeroSize (P : Program) (e : TypeId) : Option Nat := (tZero P e).map fun z => z.cells.size
def aAppend (P : Program) (t : TypeId) (s x : Operand) (A : Slots) (σ : Store) (K : AV → Slots → Store → Prop) : Prop :=
  match tElem P t with
  | some e => match tSize P e, tBytes P e with
    | some sz, some by_ => match srcA sz (evalA A x) with
      | some ws => takeA A s fun v A' => match conv P t v with
        | .list own sz' vs => sz' = sz ∧ 0 < sz ∧ tZeroSize P e = some sz ∧ own = true ∧ vs.length + ws.length ≤ maxLen ∧ (vs.length + ws.length) * by_ ≤ 140737488355328 ∧ K (.list true sz (vs ++ ws)) A' σ
        | _ => False
      | none => False
    | _, _ => False
  | none => False

theorem VR.list_src {F : Frz} {v : AV} {sz : Nat} {ws : List AV} {x : Value} (h : VR F v x) (hs : srcA sz v = some ws) :
    (ws = [] ∧ ∃ xb, x = .slice xb 0 0) ∨ ∃ g off cap us, x = .slice (some ⟨g, off, none⟩) ws.length cap ∧ (∀ v ∈ ws, v.cells.length = sz) ∧ (∀ (i : Nat) (u : Value), us[i]? = some u → F g (off + i) = some u) ∧ CellsR (VR F) (flat ws) us := by
  unfold srcA at hs
  split at hs
  · split at hs
    case isFalse => simp at hs
    rename_i hsz; subst hsz
    simp at hs; subst hs
    cases h with
    | nil => exact .inl ⟨rfl, _, rfl⟩
    | void => exact .inl ⟨rfl, _, rfl⟩
    | list _ _ _ g off n cap us hn hc hw hl hF hv => exact .inr ⟨g, off, cap, us, by rw [hn], hw, fun i u hu => (hF i u hu).1, hl.symm, fun i u hu => (hF i u hu).2, hv⟩
  · simp at hs; subst hs
    cases h
    exact .inl ⟨rfl, _, rfl⟩
  · simp at hs

theorem WR.drew {D : Nat → Prop} {G : Ghost} {σ : Store} {w : World} (h : WR D G σ w) : WR D G σ w.drew := ⟨h.frz, h.own, h.obj⟩
theorem Ext.drew {D : Nat → Prop} {G : Ghost} {w : World} : Ext D G w G w.drew := ⟨rfl, rfl, rfl, Nat.le_refl _, fun _ _ _ h => h, fun _ _ => ⟨rfl, rfl, rfl⟩⟩
theorem Rel.drew {D : Nat → Prop} {n : Nat} {G : Ghost} {A : Slots} {σ : Store} {a : Act} {w : World} (h : Rel D n G A σ a w) : Rel D n G A σ a w.drew :=
  ⟨h.defers, h.size, h.val, h.own, h.world.drew, h.fresh⟩

theorem run_append_none {P : Program} (w : World) {t ty e : TypeId} {i : TypeInfo} (ht : P.underlying t = some (.slice e)) (hi : P.info? e = some i) (base xb : Option Addr) (n c : Nat) (h : n ≤ c) :
    (Builtin.append_ #[t, t] ty #[.slice base n c, .slice xb 0 0]).run P w = .ok (.slice base n c) w := by
  cases base with
  | none => cases xb <;> simp [Builtin.append_, run_underlying ht, sizeOf, typeInfo, hi, Builtin.lenOf, h, Builtin.firstCells, loadCells, loadCellsFrom]
  | some a => cases xb <;> simp [Builtin.append_, run_underlying ht, sizeOf, typeInfo, hi, Builtin.lenOf, h, Builtin.firstCells, storeCells, loadCells, loadCellsFrom]

theorem aAppend_sound {P : Program} {D : Nat → Prop} {n : Nat} {G : Ghost} {A : Slots} {σ : Store} {a : Act} {w : World} (h : Rel D n G A σ a w) {o : Oper} {K : AV → Slots → Store → Prop} {t : TypeId} {s x : Operand}
    (ho : o.op = .call { callee := .builtin .append, args := #[s, x], argTypes := #[t, t] }) (hK : aAppend P t s x A σ K) : Does P D n G a w o K := by
  unfold aAppend at hK
  split at hK
  case h_2 => exact hK.elim
  rename_i e he
  split at hK
  case h_2 => exact hK.elim
  rename_i sz bt hsz hbt
  split at hK
  case h_2 => exact hK.elim
  rename_i ws hws
  obtain ⟨v, A', G1, hK1, hR1, hv, hown, hext, hF⟩ := h.takes hK
  have hsrc := (h.eval x).list_src hws
  rw [← hF] at hsrc
  have hv' : VR G1.F (conv P t v) (a.eval s) := conv_VR hv
  have hown' : OwnAt G1 D .acc (conv P t v) (a.eval s) := conv_own hv hown
  generalize conv P t v = v2 at hK1 hv' hown'
  split at hK1
  case h_2 => exact hK1.elim
  rename_i own sz' vs
  obtain ⟨rfl, hpos, hzs0, rfl, hmax, hbytes, hk⟩ := hK1
  obtain ⟨z, hz, hzs⟩ : ∃ z, tZero P e = some z ∧ z.cells.size = sz' := by
    unfold tZeroSize at hzs0
    cases hq : tZero P e with
    | none => simp [hq] at hzs0
    | some z => exact ⟨z, rfl, by simpa [hq] using hzs0⟩
  have ht := under_elem he
  obtain ⟨i, hi, hisz⟩ : ∃ i, P.info? e = some i ∧ i.size = sz' := by
    unfold tSize at hsz; cases hq : P.info? e with
    | none => simp [hq] at hsz
    | some i => exact ⟨i, rfl, by simpa [hq] using hsz⟩
  have hibt : i.bytes = bt := by simpa [tBytes, hi] using hbt
  have hiz : i.zero = some z := by simpa [tZero, hi] using hz
  -- the run of the operation is append's
  have run_of : ∀ {r : Value} {w' : World}, (Builtin.append_ #[t, t] o.type #[a.eval s, a.eval x]).run P w = .ok r w' → (execOp a.eval o).run P w = .ok (.value r) w' := by
    intro r w' hr
    simp [execOp, ho, resolve, invoke, builtin, Sem.run_bind, hr]
  generalize a.eval s = sv at *
  generalize a.eval x = xv at *
  subst hisz hibt
  rcases hsrc with ⟨rfl, xb, rfl⟩ | ⟨g2, off2, cap2, us2, rfl, hw2, hF2, hc2⟩
  · -- nothing is appended
    rw [List.append_nil] at hk
    cases hv' with
    | nil => exact ⟨_, _, A', σ, G1, w, hk, .inl (run_of (run_append_none w ht hi none xb 0 0 (Nat.le_refl _))), hR1, .nil .., by simp [OwnAt, Own1], hext⟩
    | list _ _ _ g off m cap us hn hc hw hl hF1 hv1 =>
      exact ⟨_, _, A', σ, G1, w, hk, .inl (run_of (run_append_none w ht hi _ xb m cap hc)), hR1, .list true _ vs g off m cap us hn hc hw hl hF1 hv1, hown', hext⟩
  · have hflw := flat_length hw2
    have hus2 : us2.length = ws.length * i.size := by rw [← hflw]; exact hc2.1.symm
    have hnews : ∀ (j : Nat) (u : Value), us2[j]? = some u → w.cell? ((⟨g2, off2, none⟩ : Addr).add j) = some u := fun j u hu => by
      rw [add_addr]
      obtain ⟨cur, e', fz, q1, q2⟩ := hR1.world.frz _ _ _ (hF2 j u hu)
      rw [cell_of_row w g2 (off2 + j) cur e' fz q1]; exact q2
    have hone : ∀ u ∈ us2, u.oneCell' = true := fun u hu => by obtain ⟨j, hj⟩ := List.getElem?_of_mem hu; exact hc2.2.1 j u hj
    have hbig : ∀ {k : Nat}, k ≤ maxLen → (k : Int) ≤ 9223372036854775807 := fun hk => by unfold maxLen at hk; omega
    -- a new row
    have grown : ∀ (olds : List Value) (old : Nat) (run : (Builtin.append_ #[t, t] o.type #[sv, .slice (some ⟨g2, off2, none⟩) ws.length cap2]).run P w =
          .ok (.slice (some ⟨w.heap.size, 0, none⟩) (vs.length + ws.length) (grownCap w (vs.length + ws.length) old e)) (w.drew.alloc (.cells (olds.toArray ++ us2.toArray ++ Builtin.zeroCells z.cells (grownCap w (vs.length + ws.length) old e - (vs.length + ws.length))) e))),
        (∀ v ∈ vs, v.cells.length = i.size) → CellsR (VR G1.F) (flat vs) olds → Does P D n G a w o K := by
      intro olds old run hwv hco
      have hge := grownCap_ge w (vs.length + ws.length) old e
      have hcm := grownCap_le_maxLen w (vs.length + ws.length) old e hmax
      have hol : olds.length = vs.length * i.size := by rw [← flat_length hwv]; exact hco.1.symm
      have hwall : ∀ v ∈ vs ++ ws, v.cells.length = i.size := fun v hv => by
        rcases List.mem_append.1 hv with h | h
        · exact hwv v h
        · exact hw2 v h
      have hflat : flat (vs ++ ws) = flat vs ++ flat ws := by simp [flat]
      obtain ⟨G', q1, q2, q3, q4, _⟩ := newList hR1.drew (olds.toArray ++ us2.toArray ++ Builtin.zeroCells z.cells (grownCap w (vs.length + ws.length) old e - (vs.length + ws.length))) e i.size (vs ++ ws) (grownCap w (vs.length + ws.length) old e)
        (by simp only [Array.size_append, List.size_toArray, size_zeroCells, hzs, hol, hus2, ← Nat.add_mul]; congr 1; omega) (by simpa using hge) hcm hwall (olds ++ us2) (by rw [hflat]; exact hco.append hc2)
        (fun j u hu => by
          have hlt := (List.getElem?_eq_some_iff.1 hu).1
          rw [Array.getElem?_append_left (by simpa using hlt)]
          simpa using hu)
      rw [List.length_append] at q2 q3
      exact ⟨_, _, A', σ, G', _, hk, .inl (run_of run), q1, q2, q3, hext.trans (Ext.drew.trans q4)⟩
    cases hv' with
    | nil =>
      simp only [List.length_nil, Nat.zero_add] at grown hmax hbytes
      by_cases h0 : ws.length = 0
      · have hws0 : ws = [] := List.eq_nil_of_length_eq_zero h0
        subst hws0
        have hu0 : us2 = [] := List.eq_nil_of_length_eq_zero (by simpa using hus2)
        subst hu0
        refine ⟨_, .slice none 0 0, A', σ, G1, w, hk, .inl (run_of ?_), hR1, .nil .., by simp [OwnAt, Own1], hext⟩
        simp [Builtin.append_, run_underlying ht, sizeOf, typeInfo, hi, Builtin.lenOf, Builtin.firstCells, loadCells, loadCellsFrom]
      · have hr := run_append_nil (P := P) w t o.type e i z ht hi hiz ⟨g2, off2, none⟩ ws.length cap2 us2 hus2 hnews (by omega) (hbig hmax) (by omega)
        exact grown [] 0 (by simpa using hr) (by simp) ⟨rfl, by simp, by simp⟩
    | list _ _ _ g off m cap us hn hc hw hl hF1 hv1 =>
      obtain ⟨hDg, zz, hSg, hcapz, hcapm⟩ := hown'
      have hfl := flat_length hw
      obtain ⟨hσg, ⟨cur, e', hg, hcz⟩, hnone⟩ := hR1.world.own _ _ _ _ hSg
      dsimp only at hDg hSg hcapz hcapm hσg hg hnone
      have hco : CellsR (VR G1.F) (flat vs) us := ⟨hl.symm, fun j u hu => (hF1 j u hu).2, hv1⟩
      have hcells : ∀ (j : Nat) (u : Value), us[j]? = some u → cur[off + j]? = some u := fun j u hu => by
        obtain ⟨c', e'', fz, q1, q2⟩ := hR1.world.frz _ _ _ (hF1 j u hu).1
        rw [hg] at q1; simp only [Option.some.injEq, Obj.cells.injEq] at q1; obtain ⟨rfl, _, _⟩ := q1; exact q2
      subst hn
      by_cases hroom : vs.length + ws.length ≤ cap
      · -- in place
        have hmul : (vs.length + ws.length) * i.size ≤ cap * i.size := Nat.mul_le_mul_right _ hroom
        rw [Nat.add_mul] at hmul
        have hfit : off + vs.length * i.size + us2.length ≤ cur.size := by omega
        have hst := run_storeCells_at P g (off + vs.length * i.size) e' us2 0 cur w hg (by simpa using hfit) hone
        simp only [Nat.add_zero] at hst
        rw [toList_setRow hfit] at hst
        have hf := run_firstCells_some (P := P) w i.size ws.length ⟨g2, off2, none⟩ ws.length cap2 us2 hus2 hnews
        generalize hw' : w.setRow g (setRange cur.toList (off + vs.length * i.size) us2).toArray = w' at hst
        have hrun : (Builtin.append_ #[t, t] o.type #[.slice (some ⟨g, off, none⟩) vs.length cap, .slice (some ⟨g2, off2, none⟩) ws.length cap2]).run P w = .ok (.slice (some ⟨g, off, none⟩) (vs.length + ws.length) cap) w' := by
          simp [Builtin.append_, run_underlying ht, sizeOf, typeInfo, hi, Builtin.lenOf, hroom, hf, add_addr, hst]
        have hg' : w'.heap[g]? = some (.cells (setRange cur.toList (off + vs.length * i.size) us2).toArray e' (0, 0)) := by subst hw'; exact setRow_heap w g cur _ e' _ hg
        have hoth : ∀ k, k ≠ g → w'.heap[k]? = w.heap[k]? := fun k hk => by subst hw'; exact setRow_other w g k _ hk
        have hW1 := hR1.world.write hSg hg hg' (by simp [setRange_length]) (fun j hj => by
          have : (setRange cur.toList (off + vs.length * i.size) us2)[j]? = cur.toList[j]? := by
            rw [setRange_get _ _ _ _ (by simpa using hfit), if_neg (by omega)]
          simpa using this) hoth
        have hW2 := hW1.freeze hSg (by simp) hg' us2 (fun j u hu => by
          have hj := (List.getElem?_eq_some_iff.1 hu).1
          have : (setRange cur.toList (off + vs.length * i.size) us2)[off + vs.length * i.size + j]? = some u := by
            rw [setRange_get _ _ _ _ (by simpa using hfit), if_pos (by omega)]
            simpa using hu
          simpa using this) (.acc 0)
        generalize hG' : Ghost.setS ⟨Frz.put G1.F g (off + vs.length * i.size) us2, G1.S⟩ g (off + vs.length * i.size + us2.length, zz, .acc 0) = G' at hW2
        have hGF : G'.F = Frz.put G1.F g (off + vs.length * i.size) us2 := by subst hG'; rfl
        have hmono : ∀ k j u, G1.F k j = some u → G'.F k j = some u := fun k j u hu => by rw [hGF]; exact Frz.put_mono hnone k j u hu
        have hGS : ∀ k, k ≠ g → G'.S k = G1.S k := fun k hk => by subst hG'; simp [Ghost.setS, hk]
        have hGS0 : G'.S g = some (off + vs.length * i.size + us2.length, zz, .acc 0) := by subst hG'; simp [Ghost.setS]
        have hwall : ∀ v ∈ vs ++ ws, v.cells.length = i.size := fun v hv => by
          rcases List.mem_append.1 hv with h | h
          · exact hw v h
          · exact hw2 v h
        have hflat : flat (vs ++ ws) = flat vs ++ flat ws := by simp [flat]
        have hcc : CellsR (VR G'.F) (flat (vs ++ ws)) (us ++ us2) := by rw [hflat]; exact (hco.append hc2).mono fun c u h => h.mono hmono
        have husl : us.length = vs.length * i.size := by omega
        refine ⟨_, _, A', σ, G', w', hk, .inl (run_of hrun), hR1.step hmono (fun k m z' q j hd hk => ?_) hW2 (by subst hw'; simp), ?_, ⟨hDg, zz, ?_, hcapz, hcapm⟩, hext.trans ⟨by subst hw'; rfl, by subst hw'; rfl, by subst hw'; rfl, by subst hw'; simp, hmono, fun k hk => ?_⟩⟩
        · have : k ≠ g := fun e => by subst e; rw [hSg] at hk; simp at hk
          rw [hGS k this]; exact hk
        · refine .list true i.size (vs ++ ws) g off _ cap (us ++ us2) (by simp) hroom hwall hcc.1.symm (fun j u hu => ⟨?_, hcc.2.1 j u hu⟩) hcc.2.2
          rw [List.getElem?_append] at hu
          split at hu
          · exact hmono _ _ _ (hF1 j u hu).1
          · rename_i hj
            rw [hGF]
            have := Frz.put_at G1.F g (off + vs.length * i.size) us2 _ u hu
            rwa [show off + vs.length * i.size + (j - us.length) = off + j from by omega] at this
        · dsimp only; rw [hGS0, Nat.add_mul, hus2]; simp [Nat.add_assoc]
        · have hne : k ≠ g := fun e => hk (e ▸ hDg)
          exact ⟨hoth k hne, hGS k hne, by rw [hGF]; exact Frz.put_other hne⟩
      · -- a new row: what was is copied
        have holds : ∀ (j : Nat) (u : Value), us[j]? = some u → w.cell? ((⟨g, off, none⟩ : Addr).add j) = some u := fun j u hu => by
          rw [add_addr, cell_of_row w g (off + j) cur e' (0, 0) hg]; exact hcells j u hu
        have hr := run_append_grow (P := P) w t o.type e i z ht hi hiz ⟨g, off, none⟩ vs.length cap us (by omega) holds ⟨g2, off2, none⟩ ws.length cap2 us2 hus2 hnews (by omega) (hbig hmax) (growslice_fits (by omega) hbytes)
        exact grown us cap hr hw hco

end Go.AL
