/-
  The abstract-state logic: append of a string's bytes; a new row out of another one's cells.
-/
import Derived.Test.YtlmdbcgceijlnaaGreatDoorFALPart2
import Derived.RangeFuncRecord
import Derived.Laws.CopyRow
import Derived.Orders
set_option linter.unusedSimpArgs false
set_option linter.unusedVariables false
namespace Go.AL
open Go Go.RowKit Classical
variable [GL]
set_option linter.unusedSectionVars false

def isRow : AV → Bool
  | .row .. => true
  | _ => false
/-- A slice without cells and without room. -/
def isVoid : AV → Bool
  | .lit (.slice _ 0 0) => true
  | _ => false
def rowAV (σ : Store) (sz : Nat) : AV → Option (Nat × List AV)
  | .row q k => match σ q with
    | some ds => if k * sz ≤ ds.length then some (k, ds.take (k * sz)) else none
    | none => none
  | _ => none
def aAppendRow (P : Program) (t : TypeId) (s x : Operand) (A : Slots) (σ : Store) (K : AV → Slots → Store → Prop) : Prop :=
  match tElem P t with
  | some e => match tSize P e, tBytes P e with
    | some sz, some bt => match rowAV σ sz (evalA A x) with
      | some (k, ds) => isVoid (evalA A s) = true ∧ 0 < sz ∧ tZeroSize P e = some sz ∧ 0 < k ∧ k ≤ maxLen ∧ k * bt ≤ 140737488355328 ∧ (∀ c ∈ ds, c.plain1 = true) ∧ ∀ p : Nat, σ p = none → K (.row p k) A (σ.upd p ds)
      | none => False
    | _, _ => False
  | none => False

theorem aAppendRow_sound {P : Program} {D : Nat → Prop} {n : Nat} {G : Ghost} {A : Slots} {σ : Store} {a : Act} {w : World} (h : Rel D n G A σ a w) {o : Oper} {K : AV → Slots → Store → Prop} {t : TypeId} {s x : Operand}
    (ho : o.op = .call { callee := .builtin .append, args := #[s, x], argTypes := #[t, t] }) (hK : aAppendRow P t s x A σ K) : Does P D n G a w o K := by
  unfold aAppendRow at hK
  split at hK
  case h_2 => exact hK.elim
  rename_i e he
  split at hK
  case h_2 => exact hK.elim
  rename_i sz bt hsz hbt
  split at hK
  case h_2 => exact hK.elim
  rename_i k ds hrow
  obtain ⟨hvoid, hpos, hzs0, hk0, hmax, hbytes, hplain, hk⟩ := hK
  obtain ⟨z, hz, hzs⟩ : ∃ z, tZero P e = some z ∧ z.cells.size = sz := by
    unfold tZeroSize at hzs0
    cases hq : tZero P e with
    | none => simp [hq] at hzs0
    | some z => exact ⟨z, rfl, by simpa [hq] using hzs0⟩
  have ht := under_elem he
  obtain ⟨i, hi, hisz⟩ : ∃ i, P.info? e = some i ∧ i.size = sz := by
    unfold tSize at hsz; cases hq : P.info? e with
    | none => simp [hq] at hsz
    | some i => exact ⟨i, rfl, by simpa [hq] using hsz⟩
  have hibt : i.bytes = bt := by simpa [tBytes, hi] using hbt
  have hiz : i.zero = some z := by simpa [tZero, hi] using hz
  subst hisz hibt
  have hsv := h.eval s
  have hxv := h.eval x
  generalize hA : evalA A x = xa at hrow hxv
  unfold rowAV at hrow
  split at hrow
  case h_2 => cases hrow
  rename_i q k'
  split at hrow
  case h_2 => cases hrow
  rename_i ds' hq
  split at hrow
  case isFalse => cases hrow
  rename_i hle
  simp only [Option.some.injEq, Prod.mk.injEq] at hrow
  obtain ⟨rfl, rfl⟩ := hrow
  generalize hB : evalA A s = sa at hvoid hsv
  unfold isVoid at hvoid
  split at hvoid
  case h_2 => cases hvoid
  rename_i base
  have run_of : ∀ {r : Value} {w' : World}, (Builtin.append_ #[t, t] o.type #[a.eval s, a.eval x]).run P w = .ok r w' → (execOp a.eval o).run P w = .ok (.value r) w' := by
    intro r w' hr
    simp [execOp, ho, resolve, invoke, builtin, hr]
  generalize a.eval s = sv at *
  generalize a.eval x = xv at *
  cases hsv
  cases hxv with
  | row _ _ cap2 hc2 =>
  obtain ⟨hD, hS, hF, cur, e', hg, hcl, hcells⟩ := h.world.obj q ds' hq
  generalize hus2 : (cur.toList.take (k' * i.size)) = us2
  have husl : us2.length = k' * i.size := by rw [← hus2]; simp; omega
  have hnews : ∀ (j : Nat) (u : Value), us2[j]? = some u → w.cell? ((⟨q, 0, none⟩ : Addr).add j) = some u := fun j u hu => by
    rw [add_addr, cell_of_row w q (0 + j) cur e' (0, 0) hg, Nat.zero_add]
    have hj := (List.getElem?_eq_some_iff.1 hu).1
    rw [husl] at hj
    rw [← hus2, List.getElem?_take_of_lt hj] at hu
    simpa using hu
  have hbig : (k' : Int) ≤ 9223372036854775807 := by unfold maxLen at hmax; omega
  have hDn := h.fresh _ (Nat.le_refl w.heap.size)
  have hn : σ w.heap.size = none := by
    cases hs : σ w.heap.size with
    | none => rfl
    | some x => obtain ⟨_, _, _, c, e', h4, _⟩ := h.world.obj _ x hs; have := (Array.getElem?_eq_some_iff.1 h4).1; omega
  have hge := grownCap_ge w k' 0 e
  have fin : ∀ arr : Array Value, arr = us2.toArray ++ Builtin.zeroCells z.cells (grownCap w k' 0 e - k') →
      (Builtin.append_ #[t, t] o.type #[.slice base 0 0, .slice (some ⟨q, 0, none⟩) k' cap2]).run P w = .ok (.slice (some ⟨w.heap.size, 0, none⟩) k' (grownCap w k' 0 e)) (w.drew.alloc (.cells arr e)) → Does P D n G a w o K := by
    intro arr harr hrun
    have hasz : k' * i.size ≤ arr.size := by rw [harr]; simp; omega
    refine ⟨.row w.heap.size k', _, A, _, G, _, hk _ hn, .inl (run_of hrun), h.drew.step (fun _ _ _ h => h) (fun _ _ _ _ _ _ h => h) ?_ (by simp), .row _ _ _ hge, OwnAt.of_plain rfl, Ext.drew.trans (Ext.alloc h.drew.fresh G _)⟩
    refine (h.drew.world.newObj hDn arr e (ds'.take (k' * i.size)) (by simp; omega) fun j c u hcj huj => ?_)
    have hj : j < k' * i.size := by
      have := (List.getElem?_eq_some_iff.1 hcj).1
      simp at this; omega
    have hc1 := hplain c (List.mem_of_getElem? hcj)
    rw [List.getElem?_take_of_lt hj] at hcj
    have hu : cur[j]? = some u := by
      rw [harr, Array.getElem?_append_left (by simp; omega)] at huj
      have huj' : us2[j]? = some u := by simpa using huj
      rw [← hus2, List.getElem?_take_of_lt hj] at huj'
      simpa using huj'
    obtain ⟨q1, q2, _⟩ := hcells j c u hcj hu
    exact ⟨q1, q2, Own1.of_plain hc1⟩
  cases base with
  | none =>
    have hr := run_append_nil (P := P) w t o.type e i z ht hi hiz ⟨q, 0, none⟩ k' cap2 us2 husl hnews hk0 hbig (by omega)
    exact fin _ rfl hr
  | some b =>
    have hr := run_append_grow (P := P) w t o.type e i z ht hi hiz b 0 0 [] (by simp) (by simp) ⟨q, 0, none⟩ k' cap2 us2 husl hnews (by omega) (by simpa using hbig) (growslice_fits (by omega) (by simpa using hbytes))
    simp only [Nat.zero_add] at hr
    exact fin _ (by simp) hr

/-! ### a string's bytes -/
def bytesV (s : ByteArray) : List AV := s.data.toList.map fun b => .lit (.int .u8 b.toNat)
def strA (P : Program) (t : TypeId) (v : AV) : Option ByteArray :=
  match v with
  | .lit (.string s) => if tStr P t = true then some s else none
  | _ => none
def aAppendStr (P : Program) (t t' : TypeId) (s x : Operand) (A : Slots) (σ : Store) (K : AV → Slots → Store → Prop) : Prop :=
  match tElem P t with
  | some e => match tSize P e, tBytes P e with
    | some sz, some by_ => match strA P t' (evalA A x) with
      | some b => takeA A s fun v A' => match conv P t v with
        | .list own sz' vs => sz' = sz ∧ sz = 1 ∧ tZeroSize P e = some sz ∧ own = true ∧ vs.length + b.size ≤ maxLen ∧ (vs.length + b.size) * by_ ≤ 140737488355328 ∧ K (.list true sz (vs ++ bytesV b)) A' σ
        | _ => False
      | none => False
    | _, _ => False
  | none => False

def bytesU (s : ByteArray) : List Value := s.data.toList.map fun b => .int .u8 b.toNat
theorem bytesU_length (s : ByteArray) : (bytesU s).length = s.size := by simp [bytesU]
theorem bytesV_length (s : ByteArray) : (bytesV s).length = s.size := by simp [bytesV]
theorem flat_bytesV (s : ByteArray) : flat (bytesV s) = bytesV s := by
  unfold flat bytesV
  rw [List.flatMap_map]
  generalize s.data.toList = l
  induction l with
  | nil => rfl
  | cons b l ih => simp only [List.flatMap_cons, List.map_cons, ih]; rfl
theorem cells_bytesV (F : Frz) (s : ByteArray) : CellsR (VR F) (flat (bytesV s)) (bytesU s) := by
  rw [flat_bytesV]
  refine ⟨by rw [bytesV_length, bytesU_length], fun j u hu => ?_, fun j c u hc hu => ?_⟩
  · simp only [bytesU, List.getElem?_map] at hu
    cases hq : s.data.toList[j]? with
    | none => simp [hq] at hu
    | some b => simp only [hq, Option.map_some, Option.some.injEq] at hu; subst hu; rfl
  · simp only [bytesU, bytesV, List.getElem?_map] at hu hc
    cases hq : s.data.toList[j]? with
    | none => simp [hq] at hu
    | some b => simp only [hq, Option.map_some, Option.some.injEq] at hu hc; subst hu hc; exact .lit _
theorem run_firstCells_string {P : Program} (w : World) (size : Nat) (s : ByteArray) : (Builtin.firstCells size s.size (.string s)).run P w = .ok (bytesU s).toArray w := by
  simp [Builtin.firstCells, bytesU]
  apply Array.ext'
  simp

theorem aAppendStr_sound {P : Program} {D : Nat → Prop} {n : Nat} {G : Ghost} {A : Slots} {σ : Store} {a : Act} {w : World} (h : Rel D n G A σ a w) {o : Oper} {K : AV → Slots → Store → Prop} {t t' : TypeId} {s x : Operand}
    (ho : o.op = .call { callee := .builtin .append, args := #[s, x], argTypes := #[t, t'] }) (hK : aAppendStr P t t' s x A σ K) : Does P D n G a w o K := by
  unfold aAppendStr at hK
  split at hK
  case h_2 => exact hK.elim
  rename_i e he
  split at hK
  case h_2 => exact hK.elim
  rename_i sz bt hsz hbt
  split at hK
  case h_2 => exact hK.elim
  rename_i b hws
  obtain ⟨v, A', G1, hK1, hR1, hv, hown, hext, hF⟩ := h.takes hK
  have hsrc := h.eval x
  have hv' : VR G1.F (conv P t v) (a.eval s) := conv_VR hv
  have hown' : OwnAt G1 D .acc (conv P t v) (a.eval s) := conv_own hv hown
  generalize conv P t v = v2 at hK1 hv' hown'
  split at hK1
  case h_2 => exact hK1.elim
  rename_i own sz' vs
  obtain ⟨rfl, hone1, hzs0, rfl, hmax, hbytes, hk⟩ := hK1
  generalize hA : evalA A x = xa at hws hsrc
  unfold strA at hws
  split at hws
  case h_2 => cases hws
  rename_i b'
  split at hws
  case isFalse => cases hws
  rename_i hst
  simp only [Option.some.injEq] at hws; subst hws
  have htu := under_str hst
  obtain ⟨z, hz, hzs⟩ : ∃ z, tZero P e = some z ∧ z.cells.size = sz' := by
    unfold tZeroSize at hzs0
    cases hq : tZero P e with
    | none => simp [hq] at hzs0
    | some z => exact ⟨z, rfl, by simpa [hq] using hzs0⟩
  have ht := under_elem he
  obtain ⟨i, hi, hisz⟩ : ∃ i, P.info? e = some i ∧ i.size = sz' := by
    unfold tSize at hsz; cases hq : P.info? e with
    | none => simp [hq] at hsz
    | some i => exact ⟨i, rfl, by simpa [hq] using hsz⟩
  have hibt : i.bytes = bt := by simpa [tBytes, hi] using hbt
  have hiz : i.zero = some z := by simpa [tZero, hi] using hz
  have run_of : ∀ {r : Value} {w' : World}, (Builtin.append_ #[t, t'] o.type #[a.eval s, a.eval x]).run P w = .ok r w' → (execOp a.eval o).run P w = .ok (.value r) w' := by
    intro r w' hr
    simp [execOp, ho, resolve, invoke, builtin, hr]
  generalize a.eval s = sv at *
  generalize a.eval x = xv at *
  cases hsrc
  subst hisz hibt
  have hc2 := cells_bytesV G1.F b'
  have hus2 : (bytesU b').length = (bytesV b').length * i.size := by rw [bytesU_length, bytesV_length, hone1, Nat.mul_one]
  have hw2 : ∀ v ∈ bytesV b', v.cells.length = i.size := fun v hv => by
    simp only [bytesV, List.mem_map] at hv
    obtain ⟨_, _, rfl⟩ := hv
    rw [hone1]; rfl
  have hbl := bytesV_length b'
  rw [← hbl] at hmax hbytes
  have hone : ∀ u ∈ bytesU b', u.oneCell' = true := fun u hu => by obtain ⟨j, hj⟩ := List.getElem?_of_mem hu; exact hc2.2.1 j u hj
  have hff : ∀ w : World, (Builtin.firstCells i.size b'.size (.string b')).run P w = .ok (bytesU b').toArray w := fun w => run_firstCells_string w i.size b'
  generalize hUS : bytesU b' = us2 at *
  generalize hWS : bytesV b' = ws at *
  have hbig : ∀ {k : Nat}, k ≤ maxLen → (k : Int) ≤ 9223372036854775807 := fun hk => by unfold maxLen at hk; omega
  -- a new row
  have grown : ∀ (olds : List Value) (old : Nat) (run : (Builtin.append_ #[t, t'] o.type #[sv, .string b']).run P w =
        .ok (.slice (some ⟨w.heap.size, 0, none⟩) (vs.length + ws.length) (grownCap w (vs.length + ws.length) old e)) (w.drew.alloc (.cells (olds.toArray ++ us2.toArray ++ Builtin.zeroCells z.cells (grownCap w (vs.length + ws.length) old e - (vs.length + ws.length))) e))),
      (∀ v ∈ vs, v.cells.length = i.size) → CellsR (VR G1.F) (flat vs) olds → Does P D n G a w o K := by
    intro olds old run hwv hco
    have hge := grownCap_ge w (vs.length + ws.length) old e
    have hcm := grownCap_le_maxLen w (vs.length + ws.length) old e hmax
    have hol : olds.length = vs.length * i.size := by rw [← flat_length hwv]; exact hco.1.symm
    have hwall : ∀ v ∈ vs ++ ws, v.cells.length = i.size := fun v hv => by
      rcases List.mem_append.1 hv with h | h
      · exact hwv v h
      · exact hw2 v h
    have hflat : flat (vs ++ ws) = flat vs ++ flat ws := by simp [flat]
    obtain ⟨G', q1, q2, q3, q4, _⟩ := newList hR1.drew (olds.toArray ++ us2.toArray ++ Builtin.zeroCells z.cells (grownCap w (vs.length + ws.length) old e - (vs.length + ws.length))) e i.size (vs ++ ws) (grownCap w (vs.length + ws.length) old e)
      (by simp only [Array.size_append, List.size_toArray, size_zeroCells, hzs, hol, hus2, ← Nat.add_mul]; congr 1; omega) (by simpa using hge) hcm hwall (olds ++ us2) (by rw [hflat]; exact hco.append hc2)
      (fun j u hu => by
        have hlt := (List.getElem?_eq_some_iff.1 hu).1
        rw [Array.getElem?_append_left (by simpa using hlt)]
        simpa using hu)
    rw [List.length_append] at q2 q3
    exact ⟨_, _, A', σ, G', _, hk, .inl (run_of run), q1, q2, q3, hext.trans (Ext.drew.trans q4)⟩
  cases hv' with
  | nil =>
    simp only [List.length_nil, Nat.zero_add] at grown hmax hbytes
    by_cases h0 : ws.length = 0
    · have hws0 : ws = [] := List.eq_nil_of_length_eq_zero h0
      subst hws0
      have hu0 : us2 = [] := List.eq_nil_of_length_eq_zero (by simpa using hus2)
      subst hu0
      have hb0 : b'.size = 0 := by rw [← hbl]; rfl
      refine ⟨_, .slice none 0 0, A', σ, G1, w, hk, .inl (run_of ?_), hR1, .nil .., by simp [OwnAt, Own1], hext⟩
      have hf0 := hff w
      rw [hb0] at hf0
      simp [Builtin.append_, run_underlying ht, run_underlying htu, sizeOf, typeInfo, hi, Builtin.lenOf, hb0, hf0]
    · have hlt : 0 < b'.size := by omega
      have hn0 : b'.size ≠ 0 := by omega
      have h63' : ¬ (9223372036854775807 < (b'.size : Int)) := by have := hbig hmax; omega
      have h48' : ¬ (281474976710656 < Builtin.nextslicecap b'.size 0 * i.bytes) := by rw [nextslicecap_zero hlt, ← hbl]; omega
      refine grown [] 0 ?_ (by simp) ⟨rfl, by simp, by simp⟩
      rw [hbl]
      simp [Builtin.append_, run_underlying ht, run_underlying htu, sizeOf, typeInfo, zeroValue, hi, hiz, Builtin.lenOf, hn0, h63', h48', Question.forced, run_firstCells_none, hff, newRow, grownCap]
  | list _ _ _ g off m cap us hn hc hw hl hF1 hv1 =>
    rcases hown' with hcap0 | hown'
    · subst hcap0
      subst hn
      have hvs0 : vs = [] := List.eq_nil_of_length_eq_zero (by omega)
      subst hvs0
      have hus0 : us = [] := List.eq_nil_of_length_eq_zero (by simpa [flat] using hl)
      subst hus0
      simp only [List.length_nil, Nat.zero_add] at grown hmax hbytes
      by_cases h0 : ws.length = 0
      · have hws0 : ws = [] := List.eq_nil_of_length_eq_zero h0
        subst hws0
        have hu0 : us2 = [] := List.eq_nil_of_length_eq_zero (by simpa using hus2)
        subst hu0
        have hb0 : b'.size = 0 := by rw [← hbl]; rfl
        refine ⟨_, .slice (some ⟨g, off, none⟩) 0 0, A', σ, G1, w, hk, .inl (run_of ?_), hR1, .list true _ [] g off 0 0 [] rfl (Nat.le_refl _) (by simp) (by simp [flat]) (by simp) (by simp), .inl rfl, hext⟩
        have hf0 := hff w
        rw [hb0] at hf0
        simp [Builtin.append_, run_underlying ht, run_underlying htu, sizeOf, typeInfo, hi, Builtin.lenOf, hb0, hf0, storeCells]
      · have hlt : 0 < b'.size := by omega
        have hn0 : b'.size ≠ 0 := by omega
        have h63' : ¬ (9223372036854775807 < (b'.size : Int)) := by have := hbig hmax; omega
        have h48' : ¬ (281474976710656 < Builtin.nextslicecap b'.size 0 * i.bytes) := by rw [nextslicecap_zero hlt, ← hbl]; omega
        have hfo := run_firstCells_some (P := P) w.drew i.size 0 ⟨g, off, none⟩ 0 0 [] (by simp) (by simp)
        refine grown [] 0 ?_ (by simp) ⟨rfl, by simp, by simp⟩
        rw [hbl]
        simp [Builtin.append_, run_underlying ht, run_underlying htu, sizeOf, typeInfo, zeroValue, hi, hiz, Builtin.lenOf, hn0, h63', h48', Question.forced, hff, hfo, newRow, grownCap]
    obtain ⟨hDg, zz, hSg, hcapz, hcapm⟩ := hown'
    have hfl := flat_length hw
    obtain ⟨hσg, ⟨cur, e', ⟨fz, hg, hfz⟩, hcz⟩, hnone⟩ := hR1.world.own _ _ _ _ hSg
    dsimp only at hDg hSg hcapz hcapm hσg hg hnone
    have hco : CellsR (VR G1.F) (flat vs) us := ⟨hl.symm, fun j u hu => (hF1 j u hu).2, hv1⟩
    have hcells : ∀ (j : Nat) (u : Value), us[j]? = some u → cur[off + j]? = some u := fun j u hu => by
      obtain ⟨c', e'', fz', q1, q2⟩ := hR1.world.frz _ _ _ (hF1 j u hu).1
      rw [hg] at q1; simp only [Option.some.injEq, Obj.cells.injEq] at q1; obtain ⟨rfl, _, _⟩ := q1; exact q2
    subst hn
    by_cases hroom : vs.length + ws.length ≤ cap
    · -- in place
      have hmul : (vs.length + ws.length) * i.size ≤ cap * i.size := Nat.mul_le_mul_right _ hroom
      rw [Nat.add_mul] at hmul
      have hfit : off + vs.length * i.size + us2.length ≤ cur.size := by omega
      have hst := storeCells_fz P g (off + vs.length * i.size) e' fz us2 0 cur w hfz hg (by simpa using hfit) hone
      simp only [Nat.add_zero] at hst
      rw [toList_setRow hfit] at hst
      generalize hw' : w.setRow g (setRange cur.toList (off + vs.length * i.size) us2).toArray = w' at hst
      have hroom' : vs.length + b'.size ≤ cap := by rw [← hbl]; exact hroom
      have hrun : (Builtin.append_ #[t, t'] o.type #[.slice (some ⟨g, off, none⟩) vs.length cap, .string b']).run P w = .ok (.slice (some ⟨g, off, none⟩) (vs.length + ws.length) cap) w' := by
        rw [hbl]
        simp [Builtin.append_, run_underlying ht, run_underlying htu, sizeOf, typeInfo, hi, Builtin.lenOf, hroom', hff, add_addr, hst]
      have hg' : w'.heap[g]? = some (.cells (setRange cur.toList (off + vs.length * i.size) us2).toArray e' fz) := by subst hw'; exact setRow_heap w g cur _ e' _ hg
      have hoth : ∀ k, k ≠ g → w'.heap[k]? = w.heap[k]? := fun k hk => by subst hw'; exact setRow_other w g k _ hk
      have hW1 := hR1.world.write hSg hfz hg hg' (by simp [setRange_length]) (fun j hj => by
        have : (setRange cur.toList (off + vs.length * i.size) us2)[j]? = cur.toList[j]? := by
          rw [setRange_get _ _ _ _ (by simpa using hfit), if_neg (by omega)]
        simpa using this) hoth
      have hW2 := hW1.freeze hSg (by simp) hg' us2 (fun j u hu => by
        have hj := (List.getElem?_eq_some_iff.1 hu).1
        have : (setRange cur.toList (off + vs.length * i.size) us2)[off + vs.length * i.size + j]? = some u := by
          rw [setRange_get _ _ _ _ (by simpa using hfit), if_pos (by omega)]
          simpa using hu
        simpa using this) (.acc 0)
      generalize hG' : Ghost.setS ⟨Frz.put G1.F g (off + vs.length * i.size) us2, G1.S⟩ g (off + vs.length * i.size + us2.length, zz, .acc 0) = G' at hW2
      have hGF : G'.F = Frz.put G1.F g (off + vs.length * i.size) us2 := by subst hG'; rfl
      have hmono : ∀ k j u, G1.F k j = some u → G'.F k j = some u := fun k j u hu => by rw [hGF]; exact Frz.put_mono hnone k j u hu
      have hGS : ∀ k, k ≠ g → G'.S k = G1.S k := fun k hk => by subst hG'; simp [Ghost.setS, hk]
      have hGS0 : G'.S g = some (off + vs.length * i.size + us2.length, zz, .acc 0) := by subst hG'; simp [Ghost.setS]
      have hwall : ∀ v ∈ vs ++ ws, v.cells.length = i.size := fun v hv => by
        rcases List.mem_append.1 hv with h | h
        · exact hw v h
        · exact hw2 v h
      have hflat : flat (vs ++ ws) = flat vs ++ flat ws := by simp [flat]
      have hcc : CellsR (VR G'.F) (flat (vs ++ ws)) (us ++ us2) := by rw [hflat]; exact (hco.append hc2).mono fun c u h => h.mono hmono
      have husl : us.length = vs.length * i.size := by omega
      refine ⟨_, _, A', σ, G', w', hk, .inl (run_of hrun), hR1.step hmono (fun k m z' q j hd hk => ?_) hW2 (by subst hw'; simp), ?_, Or.inr ⟨hDg, zz, ?_, hcapz, hcapm⟩, hext.trans ⟨by subst hw'; rfl, by subst hw'; rfl, by subst hw'; rfl, by subst hw'; simp, hmono, fun k hk => ?_⟩⟩
      · have : k ≠ g := fun e => by subst e; rw [hSg] at hk; simp at hk
        rw [hGS k this]; exact hk
      · refine .list true i.size (vs ++ ws) g off _ cap (us ++ us2) (by simp) hroom hwall hcc.1.symm (fun j u hu => ⟨?_, hcc.2.1 j u hu⟩) hcc.2.2
        rw [List.getElem?_append] at hu
        split at hu
        · exact hmono _ _ _ (hF1 j u hu).1
        · rename_i hj
          rw [hGF]
          have := Frz.put_at G1.F g (off + vs.length * i.size) us2 _ u hu
          rwa [show off + vs.length * i.size + (j - us.length) = off + j from by omega] at this
      · dsimp only; rw [hGS0, Nat.add_mul, hus2]; simp [Nat.add_assoc]
      · have hne : k ≠ g := fun e => hk (e ▸ hDg)
        exact ⟨hoth k hne, hGS k hne, by rw [hGF]; exact Frz.put_other hne⟩
    · -- a new row: what was is copied
      have holds : ∀ (j : Nat) (u : Value), us[j]? = some u → w.cell? ((⟨g, off, none⟩ : Addr).add j) = some u := fun j u hu => by
        rw [add_addr, cell_of_row w g (off + j) cur e' fz hg]; exact hcells j u hu
      have hlt : ¬ (vs.length + b'.size ≤ cap) := by rw [← hbl]; exact hroom
      have h63' : ¬ (9223372036854775807 < ((vs.length : Int) + (b'.size : Int))) := by have := hbig hmax; omega
      have h48' : ¬ (281474976710656 < Builtin.nextslicecap (vs.length + b'.size) cap * i.bytes) := by
        have := growslice_fits (need := vs.length + b'.size) (old := cap) (bytes := i.bytes) (by omega) (by rw [← hbl]; exact hbytes)
        omega
      have hfo := run_firstCells_some (P := P) w.drew i.size vs.length ⟨g, off, none⟩ vs.length cap us (by omega) (by simpa using holds)
      refine grown us cap ?_ hw hco
      rw [hbl]
      simp [Builtin.append_, run_underlying ht, run_underlying htu, sizeOf, typeInfo, zeroValue, hi, hiz, Builtin.lenOf, hlt, h63', h48', Question.forced, hff, hfo, newRow, grownCap]
      congr 2
      apply Array.ext'
      simp [List.append_assoc]

end Go.AL
/-
  The abstract-state logic: maps, and what goes along a string: made, written, looked up; rules for one operation.
-/
namespace Go.AL
open Go Go.RowKit Classical
variable [GL]
set_option linter.unusedSectionVars false

/-! ### The heap -/
theorem WR.newOth {D : Nat → Prop} {G : Ghost} {σ : Store} {w : World} (h : WR D G σ w) (hD : D w.heap.size) {cs : List AV} {ob : Obj} (ho : OthR G.F cs ob) : WR D G (σ.put w.heap.size cs) (w.alloc ob) := by
  have hold : ∀ (k : Nat) (o : Obj), w.heap[k]? = some o → (w.alloc ob).heap[k]? = some o := fun k o hk => by
    rw [Below.heap_alloc w _ k (Array.getElem?_eq_some_iff.1 hk).1]; exact hk
  refine ⟨fun g i u hu => ?_, fun g n z ρ hg => ?_, fun o cs' hcs => ?_, h.laid, fun g cs' hg => ?_⟩
  · obtain ⟨c, e', fz, h1, h2⟩ := h.frz g i u hu
    exact ⟨c, e', fz, hold _ _ h1, h2⟩
  · obtain ⟨h1, ⟨c, e', h2, h3⟩, h4⟩ := h.own g n z ρ hg
    exact ⟨by rw [put_nat]; exact h1, ⟨c, e', h2.keep fun _ q => hold _ _ q, h3⟩, h4⟩
  · rw [put_nat] at hcs
    obtain ⟨h1, h2, h3, c, e', h4, h5, h6⟩ := h.obj o cs' hcs
    exact ⟨h1, h2, h3, c, e', hold _ _ h4, h5, h6⟩
  · rw [put_mkey] at hg
    split at hg
    · rename_i hg'; subst hg'
      obtain rfl := Option.some.inj hg
      exact ⟨hD, ob, heap_alloc_new w _, ho⟩
    · obtain ⟨q1, ob', q2, q3⟩ := h.oth g cs' hg
      exact ⟨q1, ob', hold _ _ q2, q3⟩

theorem WR.setOth {D : Nat → Prop} {G : Ghost} {σ : Store} {w : World} (h : WR D G σ w) {g : Nat} {cs cs' : List AV} {ob' : Obj} (hg : σ (mkey g) = some cs) (ho : OthR G.F cs' ob') : WR D G (σ.put g cs') (w.putObj g ob') := by
  obtain ⟨p1, ob, p2, p3⟩ := h.oth g cs hg
  have hne : ∀ {k : Nat} {c : Array Value} {e : TypeId} {f : Nat × Nat}, w.heap[k]? = some (Obj.cells c e f) → (w.putObj g ob').heap[k]? = some (Obj.cells c e f) := fun {k c e f} hk => by
    rw [World.putObj_heap_other]
    · exact hk
    · rintro rfl
      rw [p2] at hk; obtain rfl := Option.some.inj hk; exact p3.oth
  refine ⟨fun k i u hu => ?_, fun k n z π hk => ?_, fun o cs hcs => ?_, h.laid, fun k cs2 hk => ?_⟩
  · obtain ⟨c, e, f, q1, q2⟩ := h.frz k i u hu; exact ⟨c, e, f, hne q1, q2⟩
  · obtain ⟨q1, ⟨c, e, q2, q3⟩, q4⟩ := h.own k n z π hk; exact ⟨by rw [put_nat]; exact q1, ⟨c, e, q2.keep fun _ k => hne k, q3⟩, q4⟩
  · rw [put_nat] at hcs
    obtain ⟨q1, q2, q3, c, e, q4, q5, q6⟩ := h.obj o cs hcs; exact ⟨q1, q2, q3, c, e, hne q4, q5, q6⟩
  · rw [put_mkey] at hk
    split at hk
    · rename_i hk'; subst hk'
      obtain rfl := Option.some.inj hk
      exact ⟨p1, ob', World.putObj_heap_same (Array.getElem?_eq_some_iff.1 p2).1, ho⟩
    · rename_i hk'
      obtain ⟨q1, ob2, q2, q3⟩ := h.oth k cs2 hk
      exact ⟨q1, ob2, by rw [World.putObj_heap_other hk']; exact q2, q3⟩
theorem Ext.setOth {D : Nat → Prop} (G : Ghost) (w : World) {K : Nat} (o' : Obj) (hD : D K) : Ext D G w G (w.putObj K o') :=
  ⟨rfl, rfl, rfl, by simp, fun _ _ _ h => h, fun k hk => ⟨World.putObj_heap_other (fun e => hk (e ▸ hD)), rfl, rfl⟩⟩
theorem run_getOth {P : Program} {w : World} {l : Nat} {o : Obj} (h : w.heap[l]? = some o) (ho : Obj.oth o) : (getObj l).run P w = .ok o w := by
  cases o <;> simp [getObj, Sem.run, h] <;> exact ho.elim
theorem run_setOth {P : Program} {w : World} {l : Nat} {o : Obj} (o' : Obj) (h : w.heap[l]? = some o) (ho : Obj.oth o) : (setObj l o').run P w = .ok () (w.putObj l o') := by
  cases o <;> simp [setObj, Sem.run, h, World.putObj] <;> exact ho.elim

/-! ### Keys -/
def tMap (P : Program) (t : TypeId) : Option (TypeId × TypeId) := (P.underlying t).bind fun | .map k e => some (k, e) | _ => none
/-- A kind of keys that are compared at once. -/
def tKind (P : Program) (t : TypeId) : Option TypeDesc := (P.underlying t).bind fun | .int k => some (.int k) | .string => some .string | _ => none
theorem under_map {P : Program} {t k e : TypeId} (h : tMap P t = some (k, e)) : P.underlying t = some (.map k e) := by
  unfold tMap at h
  cases hu : P.underlying t with
  | none => simp [hu] at h
  | some d => cases d <;> simp_all
theorem under_kind {P : Program} {t : TypeId} {d : TypeDesc} (h : tKind P t = some d) : P.underlying t = some d ∧ ((∃ k, d = .int k) ∨ d = .string) := by
  unfold tKind at h
  cases hu : P.underlying t with
  | none => simp [hu] at h
  | some d' => cases d' <;> simp [hu] at h <;> subst h <;> simp
theorem run_checkKey {P : Program} {t : TypeId} {d : TypeDesc} (h : tKind P t = some d) (b : Bool) (v : Value) (w : World) : (Instr.checkKey b 10000 t v).run P w = .ok () w := by
  obtain ⟨h1, h2⟩ := under_kind h
  unfold Instr.checkKey
  rcases h2 with ⟨k, rfl⟩ | rfl <;> simp [Sem.run_bind, run_underlying h1]

/-- Where a key stands among the others; none: it can't be told at once. -/
def findA (d : TypeDesc) (k : Value) : List (Value × AV) → Nat → Option (Option (Nat × AV))
  | [], _ => some none
  | (x, v) :: l, i => match Instr.sameNow d k x with
    | some true => some (some (i, v))
    | some false => findA d k l (i + 1)
    | none => none
/-- A map's keys and values off its cells. -/
def kvsIn : List AV → Option (List (Value × AV))
  | [] => some []
  | .lit k :: v :: l => (kvsIn l).map ((k, v) :: ·)
  | _ => none
def kvsOf : List AV → Option (List (Value × AV))
  | .top :: l => kvsIn l
  | _ => none
@[simp] theorem kvsOf_mapA (kvs : List (Value × AV)) : kvsOf (mapA kvs) = some kvs := by
  unfold kvsOf mapA
  show kvsIn _ = _
  induction kvs with
  | nil => rfl
  | cons x l ih => simp only [List.flatMap_cons, List.cons_append, List.nil_append, kvsIn, ih]; rfl
def iterOf : List AV → Option (ByteArray × Nat)
  | [.lit (.string s), .lit (.int .i64 n)] => some (s, n.toNat)
  | _ => none
@[simp] theorem iterOf_iterA (s : ByteArray) (pos : Nat) : iterOf (iterA s pos) = some (s, pos) := by simp [iterOf, iterA]
theorem OthR.kvs {F : Frz} {cs : List AV} {ob : Obj} (h : OthR F cs ob) {kvs : List (Value × AV)} (hk : kvsOf cs = some kvs) : ∃ es : Array MapEntry, ob = .map es es.size ∧ kvs.length = es.size ∧
    ∀ (i : Nat) (kv : Value × AV) (e : MapEntry), kvs[i]? = some kv → es[i]? = some e → e.key = kv.1 ∧ VR F kv.2 e.val ∧ e.born = i := by
  cases h with
  | iter s pos => simp [kvsOf, iterA] at hk
  | map kvs' es clock hl hc h =>
    rw [kvsOf_mapA] at hk
    obtain rfl := Option.some.inj hk
    subst hc
    exact ⟨es, rfl, hl, h⟩
theorem OthR.iters {F : Frz} {cs : List AV} {ob : Obj} (h : OthR F cs ob) {s : ByteArray} {pos : Nat} (hk : iterOf cs = some (s, pos)) : ob = .stringIter s pos := by
  cases h with
  | iter s' pos' => rw [iterOf_iterA] at hk; obtain ⟨rfl, rfl⟩ := Prod.mk.inj (Option.some.inj hk); rfl
  | map kvs' es clock hl hc h => simp [iterOf, mapA] at hk

theorem findNow_of {F : Frz} {d : TypeDesc} {k : Value} : ∀ (kvs : List (Value × AV)) (es : List MapEntry) (i : Nat), kvs.length = es.length →
    (∀ (j : Nat) (kv : Value × AV) (e : MapEntry), kvs[j]? = some kv → es[j]? = some e → e.key = kv.1 ∧ VR F kv.2 e.val) →
    ∀ {r : Option (Nat × AV)}, findA d k kvs i = some r → (r = none ∧ Instr.findNow d k es i = some none) ∨ ∃ j v u e, r = some (i + j, v) ∧ Instr.findNow d k es i = some (some (i + j, u)) ∧ VR F v u ∧ es[j]? = some e ∧ Instr.sameNow d k e.key = some true
  | [], [], i, _, _, r, h => by simp only [findA, Option.some.injEq] at h; subst h; exact .inl ⟨rfl, rfl⟩
  | [], _ :: _, _, h, _, _, _ => by simp at h
  | _ :: _, [], _, h, _, _, _ => by simp at h
  | (x, v) :: kvs, e :: es, i, hl, hr, r, h => by
    obtain ⟨h1, h2⟩ := hr 0 _ _ rfl rfl
    dsimp only at h1 h2
    simp only [findA] at h
    simp only [Instr.findNow, h1]
    split at h
    · rename_i hs
      simp only [Option.some.injEq] at h; subst h
      simp only [hs]
      exact .inr ⟨0, v, e.val, e, rfl, rfl, h2, rfl, by rw [h1]; exact hs⟩
    · rename_i hs
      simp only [hs]
      rcases findNow_of kvs es (i + 1) (by simpa using hl) (fun j kv e' q1 q2 => hr (j + 1) kv e' (by simpa using q1) (by simpa using q2)) h with ⟨e1, e2⟩ | ⟨j, v', u, e', q1, q2, q3, q4, q5⟩
      · exact .inl ⟨e1, e2⟩
      · exact .inr ⟨j + 1, v', u, e', by rw [q1, show i + 1 + j = i + (j + 1) by omega], by rw [q2, show i + 1 + j = i + (j + 1) by omega], q3, by simpa using q4, q5⟩
    · cases h

theorem sameBits_of {d : TypeDesc} {a b : Value} (h : Instr.sameNow d a b = some true) : Instr.sameBits 10000 b a = true := by
  unfold Instr.sameNow at h
  split at h
  · split at h
    · rename_i hk; subst hk
      simp only [Option.some.injEq, beq_iff_eq] at h; subst h
      simp [Instr.sameBits]
    · cases h
  · rename_i a b
    obtain ⟨a⟩ := a
    obtain ⟨b⟩ := b
    have h' : (a == b) = true := Option.some.inj h
    have : a = b := by simpa using h'
    subst this
    exact h'
  · simp only [Option.some.injEq, beq_iff_eq] at h; subst h
    simp [Instr.sameBits]
  · cases h

/-- A key's value is set. -/
def setA (d : TypeDesc) (kvs : List (Value × AV)) (k : Value) (v : AV) : Option (List (Value × AV)) :=
  match findA d k kvs 0 with
  | some (some (i, _)) => some (kvs.set i (k, v))
  | some none => some (kvs ++ [(k, v)])
  | none => none
/-- The zero value. -/
def zeroV (P : Program) (e : TypeId) : Option AV := (tZero P e).bind fun z => if z.oneCell' = true then some (conv P e (.lit z)) else none

def aOth (P : Program) (op : Op) (ev : Operand → AV) (σ : Store) (K : AV → Store → Prop) : Prop :=
  match op with
  | .makeMap t r => match tMap P t, r.map ev with
    | some _, none => ∀ g : Nat, σ (mkey g) = none → K (.lit (.map (some g))) (σ.put g (mapA []))
    | some _, some (.lit (.int _ _)) => ∀ g : Nat, σ (mkey g) = none → K (.lit (.map (some g))) (σ.put g (mapA []))
    | _, _ => False
  | .mapUpdate t m k x => match tMap P t, ev m, ev k with
    | some (kt, _), .lit (.map (some g)), .lit kv => match tKind P kt, (σ (mkey g)).bind kvsOf with
      | some d, some kvs => match setA d kvs kv (ev x).share with
        | some kvs' => K .top (σ.put g (mapA kvs'))
        | none => False
      | _, _ => False
    | _, _, _ => False
  | .lookup t m k ok => match tMap P t, ev m, ev k with
    | some (kt, et), .lit (.map (some g)), .lit kv => match tKind P kt, (σ (mkey g)).bind kvsOf with
      | some d, some kvs => match findA d kv kvs 0 with
        | some (some (_, v)) => K (if ok = true then .tuple [v.drop1, .lit (.bool true)] else v.share) σ
        | some none => match zeroV P et with
          | some z => K (if ok = true then .tuple [z.drop1, .lit (.bool false)] else z.share) σ
          | none => False
        | none => False
      | _, _ => False
    | _, _, _ => False
  | .range t x => match tStr P t, ev x with
    | true, .lit (.string s) => ∀ g : Nat, σ (mkey g) = none → K (.lit (.pointer (some ⟨g, 0, none⟩))) (σ.put g (iterA s 0))
    | _, _ => False
  | .next it true => match ev it with
    | .lit (.pointer (some ⟨g, 0, none⟩)) => match (σ (mkey g)).bind iterOf with
      | some (s, pos) => if pos < s.size then K (.tuple [.lit (.bool true), .lit (.int .i64 pos), .lit (.int .i32 (Utf8.decode s pos).1)]) (σ.put g (iterA s (pos + (Utf8.decode s pos).2))) else K (.tuple [.lit (.bool false)]) σ
      | none => False
    | _ => False
  | _ => False
theorem aOth_mono {P : Program} {op : Op} {ev : Operand → AV} {σ : Store} {K K' : AV → Store → Prop} (h : aOth P op ev σ K) (hk : ∀ v σ', K v σ' → K' v σ') : aOth P op ev σ K' := by
  unfold aOth at *
  (repeat' split at h) <;> first
    | exact False.elim h
    | exact fun g hg => hk _ _ (h g hg)
    | exact hk _ _ h
    | (rename_i hc; rw [if_pos hc]; exact hk _ _ h)
    | (rename_i hc; rw [if_neg hc]; exact hk _ _ h)
theorem aOth_congr {P : Program} {op : Op} {ev ev' : Operand → AV} {σ : Store} {K : AV → Store → Prop} (he : ∀ y ∈ op.operands.toList, ev y = ev' y) (h : aOth P op ev σ K) : aOth P op ev' σ K := by
  cases op with
  | makeMap t r =>
    cases r with
    | none => exact h
    | some y => simp only [aOth, Option.map_some, he y (by simp [Op.operands])] at h ⊢; exact h
  | mapUpdate t m k x => simp only [aOth, he m (by simp [Op.operands]), he k (by simp [Op.operands]), he x (by simp [Op.operands])] at h ⊢; exact h
  | lookup t m k ok => simp only [aOth, he m (by simp [Op.operands]), he k (by simp [Op.operands])] at h ⊢; exact h
  | range t x => simp only [aOth, he x (by simp [Op.operands])] at h ⊢; exact h
  | next it b =>
    cases b with
    | true => simp only [aOth, he it (by simp [Op.operands])] at h ⊢; exact h
    | false => exact h
  | _ => exact h

/-! ### Soundness -/
theorem newOth_does {P : Program} {D : Nat → Prop} {n : Nat} {G : Ghost} {A : Slots} {σ : Store} {a : Act} {w : World} (h : Rel D n G A σ a w) {o : Oper} {K : AV → Slots → Store → Prop} {cs : List AV} {ob : Obj}
    (hc : OthR G.F cs ob) (f : Nat → Value) (hK : ∀ g : Nat, σ (mkey g) = none → K (.lit (f g)) A (σ.put g cs)) (hr : (execOp a.eval o).run P w = .ok (.value (f w.heap.size)) (w.alloc ob)) : Does P D n G a w o K := by
  have hD := h.fresh _ (Nat.le_refl w.heap.size)
  have hn : σ (mkey w.heap.size) = none := by
    cases hs : σ (mkey w.heap.size) with
    | none => rfl
    | some x => obtain ⟨_, ob', h4, _⟩ := h.world.oth _ x hs; have := (Array.getElem?_eq_some_iff.1 h4).1; omega
  exact ⟨_, _, _, _, G, _, hK _ hn, .inl hr, h.step (fun _ _ _ h => h) (fun _ _ _ _ _ _ h => h) (h.world.newOth hD hc) (by simp), .lit _, OwnAt.of_plain rfl, Ext.alloc h.fresh G _⟩
theorem setOth_does {P : Program} {D : Nat → Prop} {n : Nat} {G : Ghost} {A : Slots} {σ : Store} {a : Act} {w : World} (h : Rel D n G A σ a w) {o : Oper} {K : AV → Slots → Store → Prop} {g : Nat} {cs cs' : List AV} {ob' : Obj}
    (hg : σ (mkey g) = some cs) (hc : OthR G.F cs' ob') {v : AV} {cv : Value} (hv : VR G.F v cv) (hp : v.plain = true) (hK : K v A (σ.put g cs')) (hr : (execOp a.eval o).run P w = .ok (.value cv) (w.putObj g ob') ∨ ((execOp a.eval o).run P w = .ok .skip (w.putObj g ob') ∧ cv = undef)) : Does P D n G a w o K :=
  ⟨_, _, _, _, G, _, hK, hr, h.step (fun _ _ _ h => h) (fun _ _ _ _ _ _ h => h) (h.world.setOth hg hc) (by simp), hv, OwnAt.of_plain hp, Ext.setOth G w ob' (h.world.oth g cs hg).1⟩
theorem same_does {P : Program} {D : Nat → Prop} {n : Nat} {G : Ghost} {A : Slots} {σ : Store} {a : Act} {w : World} (h : Rel D n G A σ a w) {o : Oper} {K : AV → Slots → Store → Prop} {v : AV} {cv : Value} (hv : VR G.F v cv) (hp : v.plain = true) (hK : K v A σ)
    (hr : (execOp a.eval o).run P w = .ok (.value cv) w) : Does P D n G a w o K := ⟨_, _, _, _, G, _, hK, .inl hr, h, hv, OwnAt.of_plain hp, Ext.refl ..⟩

theorem zeroV_sound {P : Program} {e : TypeId} {z : AV} (h : zeroV P e = some z) (F : Frz) : ∃ zv, tZero P e = some zv ∧ VR F z zv := by
  unfold zeroV at h
  obtain ⟨zv, h1, h2⟩ := Option.bind_eq_some_iff.1 h
  split at h2
  · obtain rfl := Option.some.inj h2
    exact ⟨zv, h1, conv_VR (.lit zv)⟩
  · cases h2
theorem VR.lit_eq {F : Frz} {v x : Value} {y : AV} (h : VR F y x) (hy : y = .lit v) : x = v := by subst hy; cases h; rfl
theorem drop1_plain (v : AV) : v.drop1.plain1 = true := by cases v <;> rfl
theorem share_plain0 (v : AV) : v.share.plain = true := by
  cases v with
  | agg cs => simp only [AV.share, AV.plain, List.all_eq_true, List.mem_map]; rintro x ⟨y, _, rfl⟩; exact drop1_plain y
  | tuple cs => simp only [AV.share, AV.plain, List.all_eq_true, List.mem_map]; rintro x ⟨y, _, rfl⟩; exact drop1_plain y
  | _ => rfl
theorem pair_plain (v : AV) (u : Value) : (AV.tuple [v.drop1, .lit u]).plain = true := by
  show ([v.drop1, .lit u].all AV.plain1) = true
  rw [List.all_cons, drop1_plain]; rfl
theorem run_findKey {P : Program} {t : TypeId} {d : TypeDesc} {k : Value} {es : List MapEntry} {r : Option (Nat × Value)} (h : P.underlying t = some d) (hf : Instr.findNow d k es 0 = some r) (w : World) : (Instr.findKey t k es).run P w = .ok r w := by
  simp [Instr.findKey, Sem.run_bind, run_underlying h, hf]
theorem aOth_sound {P : Program} {D : Nat → Prop} {n : Nat} {G : Ghost} {A : Slots} {σ : Store} {a : Act} {w : World} (h : Rel D n G A σ a w) {o : Oper} {K : AV → Slots → Store → Prop}
    (hK : aOth P o.op (evalA A) σ fun v σ' => K v A σ') : Does P D n G a w o K := by
  unfold aOth at hK
  split at hK
  · rename_i t r ho
    have hm0 : OthR G.F (mapA []) (.map #[] 0) := .map [] #[] 0 rfl rfl (by simp)
    split at hK
    · rename_i kt hm hr
      have hr' : r = none := by cases r <;> simp_all
      subst hr'
      refine newOth_does h hm0 (fun g => .map (some g)) hK ?_
      simp [execOp, ho, Instr.makeMap]
    · rename_i kt k z hm hr
      cases r with
      | none => simp at hr
      | some y =>
        have hy : evalA A y = .lit (.int k z) := by simpa using hr
        have hyv := (h.eval y).lit_eq hy
        refine newOth_does h hm0 (fun g => .map (some g)) hK ?_
        simp [execOp, ho, Instr.makeMap, hyv, run_underlying (under_map hm), asInt, asIntOf]
    · exact hK.elim
  · rename_i t m k x ho
    split at hK
    case h_2 => exact hK.elim
    rename_i kt et g kv hm hem hek
    split at hK
    case h_2 => exact hK.elim
    rename_i d kvs hd hkvs
    split at hK
    case h_2 => exact hK.elim
    rename_i kvs' hset
    obtain ⟨cs, hg, hcs⟩ := Option.bind_eq_some_iff.1 hkvs
    obtain ⟨hDg, ob, hob, hoth⟩ := h.world.oth g cs hg
    obtain ⟨es, rfl, hl, hes⟩ := hoth.kvs hcs
    have hmv := (h.eval m).lit_eq hem
    have hkv := (h.eval k).lit_eq hek
    have hx := (h.eval x).share
    have hgm := run_getOth (P := P) hob trivial
    have hsm := fun o' => run_setOth (P := P) o' hob trivial
    have hck := run_checkKey hd false kv w
    unfold setA at hset
    cases hf : findA d kv kvs 0 with
    | none => rw [hf] at hset; cases hset
    | some r =>
      rw [hf] at hset
      rcases findNow_of (F := G.F) kvs es.toList 0 (by simpa using hl) (fun j kv e q1 q2 => let ⟨a, b, _⟩ := hes j kv e q1 (by simpa using q2); ⟨a, b⟩) hf with ⟨rfl, hn⟩ | ⟨j, v, u, e, rfl, hn, hvu, hej, hsame⟩
      · obtain rfl := Option.some.inj hset
        have hfk := run_findKey (P := P) (under_kind hd).1 hn w
        refine setOth_does h hg (ob' := .map (es.push { key := kv, val := a.eval x, born := es.size }) (es.size + 1)) (.map _ _ _ (by simp [hl]) (by simp) fun i kv' e' q1 q2 => ?_) (.top undef) rfl hK (.inr ⟨?_, rfl⟩)
        · rw [Array.getElem?_push] at q2
          split at q2
          · rename_i hi; subst hi
            rw [List.getElem?_append_right (by omega), hl] at q1
            simp at q1 q2; subst q1 q2
            exact ⟨rfl, hx, rfl⟩
          · rename_i hi
            have : i < es.size := (Array.getElem?_eq_some_iff.1 q2).1
            rw [List.getElem?_append_left (by omega)] at q1
            exact hes i kv' e' q1 q2
        · simp [execOp, ho, Instr.mapUpdate, hmv, hkv, Sem.run_bind, run_underlying (under_map hm), hgm, hck, hfk, hsm]
      · obtain rfl := Option.some.inj hset
        have hfk := run_findKey (P := P) (under_kind hd).1 hn w
        have hej' : es[j]? = some e := by simpa using hej
        have hst := sameBits_of hsame
        rw [Nat.zero_add] at hfk
        refine setOth_does h hg (ob' := .map (es.modify j fun e => { e with key := kv, val := a.eval x }) es.size) (.map _ _ _ (by simp [hl]) (by simp) fun i kv' e' q1 q2 => ?_) (.top undef) rfl hK (.inr ⟨?_, rfl⟩)
        · rw [Nat.zero_add, List.getElem?_set] at q1
          rw [Array.getElem?_modify] at q2
          by_cases hij : j = i
          · subst hij
            rw [if_pos rfl] at q1 q2
            split at q1
            · rw [hej'] at q2
              simp at q1 q2; subst q1 q2
              obtain ⟨_, _, hb⟩ := hes j (kvs[j]'(by assumption)) e (by simp) hej'
              exact ⟨rfl, hx, hb⟩
            · cases q1
          · rw [if_neg hij] at q1 q2
            exact hes i kv' e' q1 q2
        · simp [execOp, ho, Instr.mapUpdate, hmv, hkv, Sem.run_bind, run_underlying (under_map hm), hgm, hck, hfk, hsm, hej', Instr.keyThatStays, hst]
  · rename_i t m k ok ho
    split at hK
    case h_2 => exact hK.elim
    rename_i kt et g kv hm hem hek
    split at hK
    case h_2 => exact hK.elim
    rename_i d kvs hd hkvs
    obtain ⟨cs, hg, hcs⟩ := Option.bind_eq_some_iff.1 hkvs
    obtain ⟨hDg, ob, hob, hoth⟩ := h.world.oth g cs hg
    obtain ⟨es, rfl, hl, hes⟩ := hoth.kvs hcs
    have hmv := (h.eval m).lit_eq hem
    have hkv := (h.eval k).lit_eq hek
    have hgm := run_getOth (P := P) hob trivial
    have hck := run_checkKey hd es.isEmpty kv w
    split at hK
    · rename_i i v hf
      rcases findNow_of (F := G.F) kvs es.toList 0 (by simpa using hl) (fun j kv e q1 q2 => let ⟨a, b, _⟩ := hes j kv e q1 (by simpa using q2); ⟨a, b⟩) hf with ⟨hr, hn⟩ | ⟨j, v', u, e, hr, hn, hvu, hej, hsame⟩
      · cases hr
      · obtain ⟨rfl, rfl⟩ := Prod.mk.inj (Option.some.inj hr)
        have hfk := run_findKey (P := P) (under_kind hd).1 hn w
        cases ok with
        | true =>
          refine same_does h (v := .tuple [v.drop1, .lit (.bool true)]) (cv := .tuple #[u, .bool true]) (.tuple _ _ rfl fun i c x hc hx => ?_) (pair_plain ..) hK ?_
          · match i with
            | 0 => simp at hc hx; subst hc hx; exact hvu.drop1
            | 1 => simp at hc hx; subst hc hx; exact .lit _
            | _ + 2 => simp at hc
          · simp [execOp, ho, Instr.lookup, hmv, hkv, Sem.run_bind, run_underlying (under_map hm), hgm, hck, hfk]
        | false =>
          refine same_does h (v := v.share) (cv := u) hvu.share (share_plain0 v) hK ?_
          simp [execOp, ho, Instr.lookup, hmv, hkv, Sem.run_bind, run_underlying (under_map hm), hgm, hck, hfk]
    · rename_i hf
      split at hK
      case h_2 => exact hK.elim
      rename_i z hz
      obtain ⟨zv, hz1, hz2⟩ := zeroV_sound hz G.F
      rcases findNow_of (F := G.F) kvs es.toList 0 (by simpa using hl) (fun j kv e q1 q2 => let ⟨a, b, _⟩ := hes j kv e q1 (by simpa using q2); ⟨a, b⟩) hf with ⟨hr, hn⟩ | ⟨j, v', u, e, hr, hn, hvu, hej, hsame⟩
      case inr => cases hr
      have hfk := run_findKey (P := P) (under_kind hd).1 hn w
      cases ok with
      | true =>
        refine same_does h (v := .tuple [z.drop1, .lit (.bool false)]) (cv := .tuple #[zv, .bool false]) (.tuple _ _ rfl fun i c x hc hx => ?_) (pair_plain ..) hK ?_
        · match i with
          | 0 => simp at hc hx; subst hc hx; exact hz2.drop1
          | 1 => simp at hc hx; subst hc hx; exact .lit _
          | _ + 2 => simp at hc
        · simp [execOp, ho, Instr.lookup, hmv, hkv, Sem.run_bind, run_underlying (under_map hm), hgm, hck, hfk, run_zeroValue hz1]
      | false =>
        refine same_does h (v := z.share) (cv := zv) hz2.share (share_plain0 z) hK ?_
        simp [execOp, ho, Instr.lookup, hmv, hkv, Sem.run_bind, run_underlying (under_map hm), hgm, hck, hfk, run_zeroValue hz1]
    · exact hK.elim
  · rename_i t x ho
    split at hK
    case h_2 => exact hK.elim
    rename_i s ht hx
    have hxv := (h.eval x).lit_eq hx
    have hu : P.underlying t = some .string := by
      unfold tStr at ht
      cases hu : P.underlying t with
      | none => simp [hu] at ht
      | some d => cases d <;> simp [hu] at ht <;> rfl
    refine newOth_does h (.iter s 0) (fun g => .pointer (some ⟨g, 0, none⟩)) hK ?_
    simp [execOp, ho, Instr.range, hxv, Sem.run_bind, run_underlying hu]
  · rename_i it ho
    split at hK
    case h_2 => exact hK.elim
    rename_i g hit
    split at hK
    case h_2 => exact hK.elim
    rename_i s pos hio
    obtain ⟨cs, hg, hcs⟩ := Option.bind_eq_some_iff.1 hio
    obtain ⟨hDg, ob, hob, hoth⟩ := h.world.oth g cs hg
    obtain rfl := hoth.iters hcs
    have hiv := (h.eval it).lit_eq hit
    have hgm := run_getOth (P := P) hob trivial
    have hsm := fun o' => run_setOth (P := P) o' hob trivial
    split at hK
    · rename_i hlt
      refine setOth_does h hg (.iter s (pos + (Utf8.decode s pos).2)) (cv := .tuple #[.bool true, goInt pos, .int .i32 (Utf8.decode s pos).1]) (.tuple _ _ rfl fun i c x hc hx => ?_) rfl hK (.inl ?_)
      · match i with
        | 0 => simp at hc hx; subst hc hx; exact .lit _
        | 1 => simp at hc hx; subst hc hx; exact .lit _
        | 2 => simp at hc hx; subst hc hx; exact .lit _
        | _ + 3 => simp at hc
      · simp [execOp, ho, Instr.next, hiv, Sem.run_bind, hgm, hlt, hsm]
    · rename_i hlt
      refine same_does h (v := .tuple [.lit (.bool false)]) (cv := .tuple #[.bool false]) (.tuple _ _ rfl fun i c x hc hx => ?_) rfl hK ?_
      · match i with
        | 0 => simp at hc hx; subst hc hx; exact .lit _
        | _ + 1 => simp at hc
      · simp [execOp, ho, Instr.next, hiv, Sem.run_bind, hgm, hlt]
  · exact hK.elim
end Go.AL
/-
  The abstract-state logic: make, parts of results, values that change hands; one operation under one name.
-/
namespace Go.AL
open Go Go.RowKit Classical
variable [GL]
set_option linter.unusedSectionVars false

theorem wrap_i64 {n : Int} (h0 : -9223372036854775808 ≤ n) (h1 : n ≤ 9223372036854775807) : IntKind.i64.wrap n = n := by
  have key : IntKind.i64.wrap n = if n % 18446744073709551616 ≥ 9223372036854775808 then n % 18446744073709551616 - 18446744073709551616 else n % 18446744073709551616 := by
    show (if (true && decide (n % (2 ^ 64 : Int) ≥ (2 ^ 63 : Int))) = true then n % (2 ^ 64 : Int) - (2 ^ 64 : Int) else n % (2 ^ 64 : Int)) = _
    simp
  rw [key]
  split <;> omega

def aMake (P : Program) (byVal row : Bool) (t : TypeId) (l c : AV) (A : Slots) (σ : Store) (K : AV → Slots → Store → Prop) : Prop :=
  match tElem P t, l, c with
  | some e, .lit (.int _ l), .lit (.int _ c) => match tSize P e, tBytes P e, azero P e, zeroEl P e with
    | some sz, some bt, some zs, some z => 0 ≤ l ∧ l ≤ c ∧ 0 < sz ∧ zs.length = sz ∧ z.cells.length = sz ∧ c ≤ 9223372036854775807 ∧ bt * c ≤ 281474976710656 ∧
      (if byVal then K (.list true sz (List.replicate l.toNat z)) A σ else if row then ∀ p : Nat, σ p = none → K (.row p l.toNat) A (σ.upd p (List.replicate c.toNat zs).flatten) else
        ∀ p : Nat, σ p = none → K (.lit (.slice (some ⟨p, 0, none⟩) l.toNat c.toNat)) A (σ.upd p (List.replicate c.toNat zs).flatten))
    | _, _, _, _ => False
  | _, _, _ => False

theorem run_make {P : Program} {w : World} {t e : TypeId} (he : tElem P t = some e) {sz bt : Nat} (hs : tSize P e = some sz) (hb : tBytes P e = some bt) {z : Value} (hz : tZero P e = some z) (hzl : z.cells.size = sz) {kl kc : IntKind} {l c : Int}
    (h0 : 0 ≤ l) (h1 : l ≤ c) (h2 : c ≤ 9223372036854775807) (h3 : bt * c ≤ 281474976710656) :
    ∃ cur : Array Value, cur.toList = (List.replicate c.toNat z.cells.toList).flatten ∧ (Instr.makeSlice t (.int kl l) (.int kc c)).run P w = .ok (.slice (some ⟨w.heap.size, 0, none⟩) l.toNat c.toNat) (w.alloc (.cells cur e)) := by
  obtain ⟨i, hi, hisz⟩ : ∃ i, P.info? e = some i ∧ i.size = sz := by
    unfold tSize at hs; cases hq : P.info? e with
    | none => simp [hq] at hs
    | some i => exact ⟨i, rfl, by simpa [hq] using hs⟩
  have hibt : i.bytes = bt := by simpa [tBytes, hi] using hb
  subst hisz hibt
  refine ⟨(Array.range (c.toNat * i.size)).map (z.cells[· % z.cells.size]!), ?_, ?_⟩
  · rw [← zeroCells_eq z.cells.toList i.size c.toNat (by simpa using hzl), hzl]
    simp only [Array.toList_map, Array.toList_range]
    apply List.map_congr_left
    intro j _
    rw [Array.getElem!_toList]
  · have hl : ¬ (c < 0 ∨ 281474976710656 < (i.bytes : Int) * c) := by omega
    by_cases hn : c.toNat * i.size = 0
    · simp [Instr.makeSlice, run_underlying (under_elem he), asInt, asIntOf, typeInfo, hi, wrap_i64 (n := l) (by omega) (by omega), wrap_i64 (n := c) (by omega) (by omega), hl, show ¬ l < 0 by omega, show ¬ c < l by omega, sizeOf, hn, newRow, Array.range_zero']
    · simp [Instr.makeSlice, run_underlying (under_elem he), asInt, asIntOf, typeInfo, hi, wrap_i64 (n := l) (by omega) (by omega), wrap_i64 (n := c) (by omega) (by omega), hl, show ¬ l < 0 by omega, show ¬ c < l by omega, sizeOf, hn, zeroValue, show i.zero = some z by simpa [tZero, hi] using hz, newRow]

theorem aMake_sound {P : Program} {D : Nat → Prop} {n : Nat} {G : Ghost} {A : Slots} {σ : Store} {a : Act} {w : World} (h : Rel D n G A σ a w) {o : Oper} {K : AV → Slots → Store → Prop} {bv row : Bool} {t : TypeId} {x y : Operand}
    (ho : o.op = .makeSlice t x y) (hK : aMake P bv row t (evalA A x) (evalA A y) A σ K) : Does P D n G a w o K := by
  unfold aMake at hK
  split at hK
  case h_2 => exact hK.elim
  rename_i e kl l kc c he hx hy
  split at hK
  case h_2 => exact hK.elim
  rename_i sz bt zs z hs hb hzs hz
  obtain ⟨h0, h1, hpos, hzsl, hzl, h2, h3, hK⟩ := hK
  have hxv := h.eval x
  have hyv := h.eval y
  rw [hx] at hxv; rw [hy] at hyv
  generalize hex : a.eval x = xv at hxv
  generalize hey : a.eval y = yv at hyv
  cases hxv; cases hyv
  obtain ⟨zv, hz1, hz2⟩ := azero_sound hzs G.F
  obtain ⟨zv', hz1', hz3⟩ := zeroEl_sound hz G.F
  rw [hz1] at hz1'; simp only [Option.some.injEq] at hz1'; subst hz1'
  have hzvl : zv.cells.size = sz := by have := hz2.1; simp at this; omega
  obtain ⟨cur, hcur, hrun⟩ := run_make (w := w) (kl := kl) (kc := kc) he hs hb hz1 hzvl h0 h1 h2 h3
  have hrun' : (execOp a.eval o).run P w = .ok (.value (.slice (some ⟨w.heap.size, 0, none⟩) l.toNat c.toNat)) (w.alloc (.cells cur e)) := by
    simp [execOp, ho, hex, hey, hrun]
  cases bv with
  | false =>
    simp only [Bool.false_eq_true, if_false] at hK
    cases row with
    | false =>
      simp only [Bool.false_eq_true, if_false] at hK
      exact newObj_does h (cur := cur) (e := e) (by rw [hcur]; exact hz2.rep _) (fun p => .slice (some ⟨p, 0, none⟩) l.toNat c.toNat) hK hrun'
    | true =>
      simp only [if_true] at hK
      exact newRow_does h (cur := cur) (e := e) (by rw [hcur]; exact hz2.rep _) (by omega) hK hrun'
  | true =>
    simp only [if_true] at hK
    have hwr : ∀ v ∈ List.replicate l.toNat z, v.cells.length = sz := fun v hv => by rw [(List.mem_replicate.1 hv).2, hzl]
    have hcl : cur.size = c.toNat * sz := by
      have := congrArg List.length hcur
      simp only [Array.length_toList, List.length_flatten, List.map_replicate, List.sum_replicate_nat, hzvl] at this
      simpa using this
    obtain ⟨G', q1, q2, q3, q4, _⟩ := newList h cur e sz (List.replicate l.toNat z) c.toNat hcl.symm (by simp; omega) (by unfold maxLen; omega) hwr (List.replicate l.toNat zv.cells.toList).flatten (by rw [flat_replicate]; exact hz3.rep _)
      (fun i u hu => by
        have hcur' : cur[i]? = cur.toList[i]? := by simp
        rw [hcur', hcur]
        have : c.toNat = l.toNat + (c.toNat - l.toNat) := by omega
        rw [this, ← List.replicate_append_replicate, List.flatten_append, List.getElem?_append_left (List.getElem?_eq_some_iff.1 hu).1]; exact hu)
    rw [List.length_replicate] at q2 q3
    exact ⟨_, _, A, σ, G', _, hK, .inl hrun', q1, q2, q3, q4⟩

/-! ### A part of a result -/
def AV.keep1 : AV → AV
  | .list o sz vs => .list o sz vs
  | v => v.share

def aExtract (t : Tmp) (ix : Nat) (A : Slots) (σ : Store) (K : AV → Slots → Store → Prop) : Prop :=
  match A t with
  | .tuple vs => match vs[ix]? with
    | some v => K v.keep1 (upd A t (.tuple (vs.set ix v.drop1))) σ
    | none => False
  | _ => False

def fromSlotAt (t ix : Nat) : Place → Place
  | .slot i j => if i = t ∧ j = ix then .acc 0 else .slot i j
  | π => π

theorem VR.keep1 {F : Frz} {a : AV} {v : Value} (h : VR F a v) : VR F a.keep1 v := by
  cases a <;> first
    | exact h.share
    | exact h

theorem aExtract_sound {P : Program} {D : Nat → Prop} {n : Nat} {G : Ghost} {A : Slots} {σ : Store} {a : Act} {w : World} (h : Rel D n G A σ a w) {o : Oper} {K : AV → Slots → Store → Prop} {t : Tmp} {ix : Nat}
    (ho : o.op = .extract (.tmp t) ix) (hK : aExtract t ix A σ K) : Does P D n G a w o K := by
  unfold aExtract at hK
  split at hK
  case h_2 => exact hK.elim
  rename_i vs hA
  split at hK
  case h_2 => exact hK.elim
  rename_i v hv
  have hx := h.val t
  have hown := h.own t
  rw [hA] at hx hown
  generalize hc : a.tmps.getD t undef = cv at hx hown
  cases hx with | tuple _ us hl hvr => ?_
  have hlt := (List.getElem?_eq_some_iff.1 hv).1
  have hu : us[ix]? = some (us[ix]'(by omega)) := by simp
  have hvv := hvr ix v _ hv hu
  have hW := h.world.mv (fromSlotAt t ix) (fun _ _ => rfl)
  refine ⟨_, us[ix], _, σ, G.mv D (fromSlotAt t ix), w, hK, .inl ?_, ⟨h.defers, h.size, fun i => ?_, fun i => ?_, hW, h.fresh⟩, hvv.keep1, ?_, Ext.mv ..⟩
  · have : a.eval (.tmp t) = .tuple us := hc
    simp [execOp, ho, this, Instr.extract, hu]
  · simp only [upd]; split
    · rename_i hi; subst hi
      rw [hc]
      refine .tuple _ us (by simpa using hl) fun j c u hcj huj => ?_
      rw [List.getElem?_set] at hcj
      split at hcj
      · rename_i hj; subst hj
        try rw [if_pos hlt] at hcj
        simp only [Option.some.injEq] at hcj; subst hcj
        exact (hvr ix v u hv huj).drop1
      · exact hvr j c u hcj huj
    · exact h.val i
  · simp only [upd]; split
    · rename_i hi; subst hi
      rw [hc]
      intro j c u hcj huj
      rw [List.getElem?_set] at hcj
      split at hcj
      · rename_i hj; subst hj
        try rw [if_pos hlt] at hcj
        simp only [Option.some.injEq] at hcj; subst hcj
        exact Own1.drop1 ..
      · rename_i hj
        exact (hown j c u hcj huj).re fun g m z hd hg => by rw [Ghost.mv_some hd hg]; simp [fromSlotAt, Ne.symm hj]
    · rename_i hi
      exact (h.own i).re fun g m z j hd hg => by rw [Ghost.mv_some hd hg]; simp [fromSlotAt, hi]
  · cases v with
    | list own sz ws =>
      have := hown ix _ _ hv hu
      exact this.re fun g m z hd hg => by rw [Ghost.mv_some hd hg]; simp [fromSlotAt]
    | _ => simp only [AV.keep1]; exact OwnAt.share ..

/-! ### A cell that gives its right away -/
def aLoadTake (P : Program) (t : TypeId) (ad : AV) (A : Slots) (σ : Store) (K : AV → Slots → Store → Prop) : Prop :=
  match tAgg P t, ad with
  | some false, .lit (.pointer (some ⟨o, off, none⟩)) => match σ o with
    | some cs => match cs[off]? with
      | some c => K c.keep1 A (σ.upd o (cs.set off c.drop1))
      | none => False
    | none => False
  | some true, _ => aLoadTakeAgg P t ad A σ K
  | _, _ => False

def fromObjAt (o ix : Nat) : Place → Place
  | .obj p j => if p = o ∧ j = ix then .acc 0 else .obj p j
  | π => π

theorem aLoadTake_sound {P : Program} {D : Nat → Prop} {n : Nat} {G : Ghost} {A : Slots} {σ : Store} {a : Act} {w : World} (h : Rel D n G A σ a w) {o : Oper} {K : AV → Slots → Store → Prop} {t : TypeId} {y : Operand}
    (ho : o.op = .load t y) (hK : aLoadTake P t (evalA A y) A σ K) : Does P D n G a w o K := by
  unfold aLoadTake at hK
  split at hK
  case h_2 => rename_i hagg; exact aLoadTakeAgg_sound h ho hagg hK
  case h_3 => exact hK.elim
  rename_i p off hagg heq
  split at hK
  case h_2 => exact hK.elim
  rename_i cs hcs
  split at hK
  case h_2 => exact hK.elim
  rename_i c hc
  have hy := h.eval y
  rw [heq] at hy
  generalize hyv : a.eval y = yv at hy
  cases hy
  obtain ⟨p1, p2, p3, cur, e, p4, p5, p6⟩ := h.world.obj p cs hcs
  have hlt := (List.getElem?_eq_some_iff.1 hc).1
  have hu : cur[off]? = some (cur[off]'(by omega)) := by simp
  obtain ⟨r1, r2, r3⟩ := p6 off c _ hc hu
  refine ⟨_, cur[off], A, _, G.mv D (fromObjAt p off), w, hK, .inl ?_, h.step (fun _ _ _ h => h) (fun g m z i j hd hg => by rw [Ghost.mv_some hd hg]; rfl) ?_ (Nat.le_refl _), r2.keep1, ?_, Ext.mv ..⟩
  · have hcell : w.cell? ⟨p, off, none⟩ = some cur[off] := by rw [cell_of_row w p off cur e (0, 0) p4]; exact hu
    simp [execOp, ho, hyv, Instr.loadAt, Instr.sureAddr, loadVar, run_isAgg hagg, hcell]
  · refine h.world.objTo hcs rfl (fun g m z π hg => Ghost.mv_back hg) (fun g m z q i hd hq _ hg => by rw [Ghost.mv_some hd hg]; simp [fromObjAt, hq]) p4 p4 (fun _ _ => rfl) (by simpa using p5) fun i c' u hci hui => ?_
    rw [List.getElem?_set] at hci
    split at hci
    · rename_i hi; subst hi
      try rw [if_pos hlt] at hci
      simp only [Option.some.injEq] at hci; subst hci
      obtain ⟨q1, q2, q3⟩ := p6 off c u hc hui
      exact ⟨q1, q2.drop1, Own1.drop1 ..⟩
    · rename_i hi
      obtain ⟨q1, q2, q3⟩ := p6 i c' u hci hui
      exact ⟨q1, q2, q3.re fun g m z hd hg => by rw [Ghost.mv_some hd hg]; simp [fromObjAt, Ne.symm hi]⟩
  · cases c with
    | list own sz ws => exact r3.re fun g m z hd hg => by rw [Ghost.mv_some hd hg]; simp [fromObjAt]
    | _ => simp only [AV.keep1]; exact OwnAt.share ..

/-! ### Is a slice nil? Of an empty list nobody knows. -/
def isNilConst : Operand → Bool
  | .const (.slice none 0 0) => true
  | _ => false
def aNilTest (P : Program) (neg : Bool) (t : TypeId) (a : AV) (A : Slots) (σ : Store) (K : AV → Slots → Store → Prop) : Prop :=
  match tElem P t, a with
  | some _, .list _ _ vs => ∀ r : Bool, (r = true → vs = []) → K (.lit (.bool (r != neg))) A σ
  | some _, .lit (.slice b _ _) => K (.lit (.bool (b.isNone != neg))) A σ
  | some _, .row _ _ => K (.lit (.bool neg)) A σ
  | _, _ => False

theorem aNilTest_sound {P : Program} {D : Nat → Prop} {n : Nat} {G : Ghost} {A : Slots} {σ : Store} {a : Act} {w : World} (h : Rel D n G A σ a w) {o : Oper} {K : AV → Slots → Store → Prop} {op : BinOp} {neg : Bool} {t t' : TypeId} {x y : Operand}
    (hop : (op = .eql ∧ neg = false) ∨ (op = .neq ∧ neg = true)) (ho : o.op = .binOp op t x y t') (hy : isNilConst y = true) (hK : aNilTest P neg t (evalA A x) A σ K) : Does P D n G a w o K := by
  have hyv : a.eval y = .slice none 0 0 := by
    unfold isNilConst at hy
    split at hy
    · rfl
    · cases hy
  have fin : ∀ (b : Option Addr) (l c : Nat), a.eval x = .slice b l c → (∃ e, tElem P t = some e) → K (.lit (.bool (b.isNone != neg))) A σ → Does P D n G a w o K := by
    rintro b l c hb ⟨e, he⟩ hk
    refine ⟨_, _, A, σ, G, w, hk, .inl ?_, h, .lit _, OwnAt.of_plain rfl, Ext.refl ..⟩
    have heq : ∀ d, (Op.equalIn (d + 1) t (.slice b l c) (.slice none 0 0)).run P w = .ok b.isNone w := fun d => by
      cases b <;> simp [Op.equalIn, run_underlying (under_elem he)]
    have heq' : (Op.equal t (.slice b l c) (.slice none 0 0)).run P w = .ok b.isNone w := heq 9999
    rcases hop with ⟨rfl, rfl⟩ | ⟨rfl, rfl⟩
    · have e1 : binOp .eql t (.slice b l c) (.slice none 0 0) = (do pure (.bool (← Op.equal t (.slice b l c) (.slice none 0 0)))) := rfl
      have e2 : eqGuard .eql t x y (.slice b l c) (.slice none 0 0) = pure () := rfl
      simp [execOp, ho, hb, hyv, e1, e2, heq']
    · have e1 : binOp .neq t (.slice b l c) (.slice none 0 0) = (do pure (.bool (!(← Op.equal t (.slice b l c) (.slice none 0 0))))) := rfl
      have e2 : eqGuard .neq t x y (.slice b l c) (.slice none 0 0) = pure () := rfl
      simp [execOp, ho, hb, hyv, e1, e2, heq']
  unfold aNilTest at hK
  have hx := h.eval x
  split at hK
  · rename_i e _ _ vs he hA
    rw [hA] at hx
    generalize hxv : a.eval x = xv at hx
    cases hx with
    | nil => exact fin none 0 0 hxv ⟨e, he⟩ (hK true (fun _ => rfl))
    | void => exact fin (some _) 0 0 hxv ⟨e, he⟩ (hK false (by simp))
    | list _ _ _ g off m cap us hn hcap hw hl hF hv => exact fin _ m cap hxv ⟨e, he⟩ (hK false (by simp))
  · rename_i e b l c he hA
    rw [hA] at hx
    generalize hxv : a.eval x = xv at hx
    cases hx
    exact fin b l c hxv ⟨e, he⟩ hK
  · rename_i e p l he hA
    rw [hA] at hx
    generalize hxv : a.eval x = xv at hx
    cases hx
    exact fin _ _ _ hxv ⟨e, he⟩ (by cases neg <;> exact hK)
  · exact hK.elim

/-! ### A slice converted to its own type: its bytes may be a string's from now on -/
def aConvSame (P : Program) (own : Bool) (src dst : TypeId) (x : Operand) (A : Slots) (σ : Store) (K : AV → Slots → Store → Prop) : Prop :=
  src = dst ∧ (tElem P dst).bind (tInt P) = some .u8 ∧ takeA A x fun v A' => match v with
    | .list true 1 (v :: vs) => K (.list own 1 (v :: vs)) A' σ
    | _ => False

theorem aConvSame_sound {P : Program} {D : Nat → Prop} {n : Nat} {G : Ghost} {A : Slots} {σ : Store} {a : Act} {w : World} (h : Rel D n G A σ a w) {o : Oper} {K : AV → Slots → Store → Prop} {src dst : TypeId} {x : Operand} {ow : Bool}
    (ho : o.op = .convert src dst x) (hK : aConvSame P ow src dst x A σ K) : Does P D n G a w o K := by
  obtain ⟨rfl, hel, hK⟩ := hK
  cases he : tElem P src with
  | none => simp [he] at hel
  | some e =>
    simp [he] at hel
    obtain ⟨v, A', G1, hk, hR, hv, hown, hext, hF⟩ := h.takes hK
    split at hk
    case h_2 => exact hk.elim
    rename_i v0 vs0
    generalize hvs : v0 :: vs0 = vs at *
    generalize hxv : a.eval x = xv at hv hown
    have hus := under_elem he
    have hui := under_int hel
    cases hv with
    | nil => cases hvs
    | list _ _ _ g off m cap us hn hcap hw hl hF1 hv1 =>
      have hown0 := hown
      rcases hown with hc0 | hown
      · subst hc0
        have : vs.length = 0 := by omega
        rw [← hvs] at this
        simp at this
      obtain ⟨hDg, z, hSg, hcz, hcm⟩ := hown
      dsimp only at hDg hSg hcz
      obtain ⟨hσg, ⟨cur, e', ⟨fz0, hg, hfz0⟩, hcs⟩, hnone⟩ := hR.world.own _ _ _ _ hSg
      let w' := w.freeze ⟨g, cur.size, none⟩ 1
      obtain ⟨fz', hg', hfz'⟩ : ∃ fz' : Nat × Nat, w'.heap[g]? = some (.cells cur e' fz') ∧ cur.size ≤ fz'.1 := by
        obtain ⟨lo, hi⟩ := fz0
        refine ⟨_, by simp [w', World.freeze, Array.getElem?_modify, hg]; rfl, ?_⟩
        by_cases hlh : lo = hi
        · simp [hlh]
        · have : cur.size ≤ lo := by
            rcases hfz0 with h0 | h0
            · cases h0; exact absurd rfl hlh
            · exact h0
          simp [hlh]; omega
      have hoth : ∀ k, k ≠ g → w'.heap[k]? = w.heap[k]? := fun k hk => by simp [w', World.freeze, Array.getElem?_modify, Ne.symm hk]
      have hW : WR D G1 σ w' := by
        refine ⟨fun k i u hu => ?_, fun k m' z' π hk => ?_, fun p cs hcs' => ?_, hR.world.laid, othKeep hR.world (fun _ _ _ h => h) (fun _ => rfl) (othElse hg hoth)⟩
        · obtain ⟨c, e'', fz, q1, q2⟩ := hR.world.frz k i u hu
          by_cases hkg : k = g
          · subst hkg; rw [hg] at q1; simp only [Option.some.injEq, Obj.cells.injEq] at q1; obtain ⟨rfl, rfl, rfl⟩ := q1
            exact ⟨_, _, _, hg', q2⟩
          · exact ⟨c, e'', fz, by rw [hoth k hkg]; exact q1, q2⟩
        · obtain ⟨q1, ⟨c, e'', q2, q3⟩, q4⟩ := hR.world.own k m' z' π hk
          by_cases hkg : k = g
          · subst hkg
            obtain ⟨_, q2, _⟩ := q2
            rw [hg] at q2; simp only [Option.some.injEq, Obj.cells.injEq] at q2; obtain ⟨rfl, rfl, rfl⟩ := q2
            exact ⟨q1, ⟨_, _, ⟨_, hg', .inr hfz'⟩, q3⟩, q4⟩
          · exact ⟨q1, ⟨c, e'', q2.same (hoth k hkg), q3⟩, q4⟩
        · obtain ⟨q1, q2, q3, c, e'', q4, q5, q6⟩ := hR.world.obj p cs hcs'
          have hne : p ≠ g := fun e => by subst e; rw [hσg] at hcs'; cases hcs'
          exact ⟨q1, q2, q3, c, e'', by rw [hoth p hne]; exact q4, q5, q6⟩
      have hshape : w.shape? g = some (e', cur.size) := by simp [World.shape?, hg]
      refine ⟨_, .slice (some ⟨g, off, none⟩) m cap, A', σ, G1, w', hk, .inl ?_, hR.step (fun _ _ _ h => h) (fun k m' z' i j _ hk => hk) hW (by simp [w', World.freeze]), .list ow 1 vs g off m cap us hn hcap hw hl hF1 hv1, ?_,
        hext.trans ⟨by simp [w', World.freeze], by simp [w', World.freeze], by simp [w', World.freeze], by simp [w', World.freeze], fun _ _ _ h => h, fun k hk => ?_⟩⟩
      · simp [execOp, ho, hxv, convert, run_underlying hus, run_underlying hui, markStringish, hshape, w']
      · cases ow
        · exact OwnAt.of_plain rfl
        · exact hown0
      · have hne : k ≠ g := fun e => hk (e ▸ hDg)
        exact ⟨hoth k hne, rfl, rfl⟩

/-! ### A string as a row of bytes, or of runes -/
def runesAt (s : ByteArray) : Nat → Nat → List Nat
  | 0, _ => []
  | b + 1, i => if i < s.size then (Utf8.decode s i).1 :: runesAt s b (i + (Utf8.decode s i).2) else []
/-- The runes of a text. -/
def runesL (s : ByteArray) : List Nat := runesAt s s.size 0
def runesV (s : ByteArray) : List AV := (runesL s).map fun r => .lit (.int .i32 (r : Nat))
theorem runesAt_len (s : ByteArray) : ∀ b i, (runesAt s b i).length ≤ b
  | 0, _ => Nat.le_refl _
  | b + 1, i => by
    unfold runesAt
    split
    · have := runesAt_len s b (i + (Utf8.decode s i).2)
      simp; omega
    · simp
theorem runesFrom_eq (s : ByteArray) : ∀ (b i : Nat) (acc : Array Value), Conv.runesFrom s b i acc = acc ++ ((runesAt s b i).map fun r => Value.int .i32 (r : Nat)).toArray
  | 0, _, acc => by simp [Conv.runesFrom, runesAt]
  | b + 1, i, acc => by
    unfold Conv.runesFrom runesAt
    split
    · show Conv.runesFrom s b (i + (Utf8.decode s i).2) (acc.push (Value.int .i32 (Int.ofNat (Utf8.decode s i).1))) = _
      rw [runesFrom_eq s b]
      apply Array.ext'
      simp
    · simp
def aConvRow (P : Program) (src dst : TypeId) (x : AV) (A : Slots) (σ : Store) (K : AV → Slots → Store → Prop) : Prop :=
  match x, (tElem P dst).bind (tInt P) with
  | .lit (.string s), some .u8 => tStr P src = true ∧ s.size ≤ maxLen ∧ K (.list true 1 (bytesV s)) A σ
  | .lit (.string s), some .i32 => tStr P src = true ∧ s.size ≤ maxLen ∧ K (.list true 1 (runesV s)) A σ
  | _, _ => False

/-- A row's bytes may be a string's from now on. -/
theorem Rel.strish {D : Nat → Prop} {n : Nat} {G : Ghost} {A : Slots} {σ : Store} {a : Act} {w : World} (hR : Rel D n G A σ a w) {g m z : Nat} {π : Place} (hDg : D g) (hSg : G.S g = some (m, z, π)) {cur : Array Value} {e' : TypeId} {fz0 : Nat × Nat}
    (hg : w.heap[g]? = some (.cells cur e' fz0)) (hfz0 : fz0 = (0, 0) ∨ cur.size ≤ fz0.1) : Rel D n G A σ a (w.freeze ⟨g, cur.size, none⟩ 1) ∧ Ext D G w G (w.freeze ⟨g, cur.size, none⟩ 1) := by
  obtain ⟨hσg, _, _⟩ := hR.world.own _ _ _ _ hSg
  generalize hw' : w.freeze ⟨g, cur.size, none⟩ 1 = w'
  obtain ⟨fz', hg', hfz'⟩ : ∃ fz' : Nat × Nat, w'.heap[g]? = some (.cells cur e' fz') ∧ cur.size ≤ fz'.1 := by
    subst hw'
    obtain ⟨lo, hi⟩ := fz0
    refine ⟨_, by simp [World.freeze, Array.getElem?_modify, hg]; rfl, ?_⟩
    by_cases hlh : lo = hi
    · simp [hlh]
    · have : cur.size ≤ lo := by
        rcases hfz0 with h0 | h0
        · cases h0; exact absurd rfl hlh
        · exact h0
      simp [hlh]; omega
  have hoth : ∀ k, k ≠ g → w'.heap[k]? = w.heap[k]? := fun k hk => by subst hw'; simp [World.freeze, Array.getElem?_modify, Ne.symm hk]
  have hW : WR D G σ w' := by
    refine ⟨fun k i u hu => ?_, fun k m' z' π hk => ?_, fun p cs hcs' => ?_, hR.world.laid, othKeep hR.world (fun _ _ _ h => h) (fun _ => rfl) (othElse hg hoth)⟩
    · obtain ⟨c, e'', fz, q1, q2⟩ := hR.world.frz k i u hu
      by_cases hkg : k = g
      · subst hkg; rw [hg] at q1; simp only [Option.some.injEq, Obj.cells.injEq] at q1; obtain ⟨rfl, rfl, rfl⟩ := q1
        exact ⟨_, _, _, hg', q2⟩
      · exact ⟨c, e'', fz, by rw [hoth k hkg]; exact q1, q2⟩
    · obtain ⟨q1, ⟨c, e'', q2, q3⟩, q4⟩ := hR.world.own k m' z' π hk
      by_cases hkg : k = g
      · subst hkg
        obtain ⟨_, q2, _⟩ := q2
        rw [hg] at q2; simp only [Option.some.injEq, Obj.cells.injEq] at q2; obtain ⟨rfl, rfl, rfl⟩ := q2
        exact ⟨q1, ⟨_, _, ⟨_, hg', .inr hfz'⟩, q3⟩, q4⟩
      · exact ⟨q1, ⟨c, e'', q2.same (hoth k hkg), q3⟩, q4⟩
    · obtain ⟨q1, q2, q3, c, e'', q4, q5, q6⟩ := hR.world.obj p cs hcs'
      have hne : p ≠ g := fun e => by subst e; rw [hσg] at hcs'; cases hcs'
      exact ⟨q1, q2, q3, c, e'', by rw [hoth p hne]; exact q4, q5, q6⟩
  refine ⟨hR.step (fun _ _ _ h => h) (fun k m' z' i j _ hk => hk) hW (by subst hw'; simp [World.freeze]), ⟨by subst hw'; simp [World.freeze], by subst hw'; simp [World.freeze], by subst hw'; simp [World.freeze], by subst hw'; simp [World.freeze], fun _ _ _ h => h, fun k hk => ?_⟩⟩
  have hne : k ≠ g := fun e => hk (e ▸ hDg)
  exact ⟨hoth k hne, rfl, rfl⟩

theorem aConvRow_sound {P : Program} {D : Nat → Prop} {n : Nat} {G : Ghost} {A : Slots} {σ : Store} {a : Act} {w : World} (h : Rel D n G A σ a w) {o : Oper} {K : AV → Slots → Store → Prop} {src dst : TypeId} {x : Operand}
    (ho : o.op = .convert src dst x) (hne : ¬ src = dst) (hK : aConvRow P src dst (evalA A x) A σ K) : Does P D n G a w o K := by
  unfold aConvRow at hK
  split at hK
  case h_3 => exact hK.elim
  · rename_i s hx hel
    obtain ⟨hst, hmax, hk⟩ := hK
    have hxv := (h.eval x).lit_eq hx
    cases he : tElem P dst with
    | none => simp [he] at hel
    | some e =>
    simp [he] at hel
    have hc2 := cells_bytesV G.F s
    have hbl := bytesV_length s
    have hul := bytesU_length s
    have hge := grownCap_ge w s.size 0 e
    have hcm := grownCap_le_maxLen w s.size 0 e hmax
    obtain ⟨G', q1, q2, q3, q4, _, q5, q6⟩ := newListS h.drew ((bytesU s).toArray ++ Array.replicate (grownCap w s.size 0 e - s.size) (.int .u8 0)) e 1 (bytesV s) (grownCap w s.size 0 e)
      (by simp [hul]; omega) (by rw [hbl]; exact hge) hcm (fun v hv => by
        simp only [bytesV, List.mem_map] at hv
        obtain ⟨_, _, rfl⟩ := hv
        rfl) (bytesU s) hc2 (fun j u hu => by
        have hlt := (List.getElem?_eq_some_iff.1 hu).1
        rw [Array.getElem?_append_left (by simpa using hlt)]
        simpa using hu)
    obtain ⟨r1, r2⟩ := q1.strish q5 q6 (heap_alloc_new _ _) (.inl rfl)
    rw [hbl] at q2 q3
    refine ⟨_, _, A, σ, G', _, hk, .inl ?_, r1, q2, q3, (Ext.drew.trans q4).trans r2⟩
    have hcells : (Array.map (fun b : UInt8 => Value.int IntKind.u8 (b.toNat : Int)) s.data) = (bytesU s).toArray := by
      apply Array.ext'
      simp [bytesU]
    have hgc : (Question.appendCap s.size 0 e).cut (w.tape w.drawn (.appendCap s.size 0 e)) = grownCap w s.size 0 e := rfl
    clear q1 q2 q3 q4 q5 q6 r1 r2
    generalize hcu : (bytesU s).toArray ++ Array.replicate (grownCap w s.size 0 e - s.size) (Value.int IntKind.u8 0) = cu at *
    have hshape : (w.drew.alloc (.cells cu e)).shape? w.heap.size = some (e, cu.size) := by
      have := heap_alloc_new w.drew (.cells cu e)
      have h2 : (w.drew.alloc (.cells cu e)).heap[w.heap.size]? = some (.cells cu e (0, 0)) := this
      simp only [World.shape?, h2]
    simp [execOp, ho, hxv, convert, run_underlying (under_str hst), run_underlying (under_elem he), run_underlying (under_int hel), Conv.stringToBytes, newRow, hcells, markStringish, Question.forced, hgc, hcu, hshape]
  · rename_i s hx hel
    obtain ⟨hst, hmax, hk⟩ := hK
    have hxv := (h.eval x).lit_eq hx
    cases he : tElem P dst with
    | none => simp [he] at hel
    | some e =>
    simp [he] at hel
    have hrl : (runesL s).length ≤ s.size := runesAt_len s _ _
    have hvl : (runesV s).length = (runesL s).length := by simp [runesV]
    have hge := grownCap_ge w (runesL s).length 0 e
    have hcm := grownCap_le_maxLen w (runesL s).length 0 e (by omega)
    have hflat : flat (runesV s) = runesV s := by
      unfold runesV
      induction runesL s with
      | nil => rfl
      | cons b l ih => simp only [flat, List.map_cons, List.flatMap_cons] at ih ⊢; rw [ih]; rfl
    have hc2 : CellsR (VR G.F) (flat (runesV s)) ((runesL s).map fun r => Value.int .i32 (r : Nat)) := by
      rw [hflat]
      refine ⟨by simp [runesV], fun i u hu => ?_, fun i c u hc hu => ?_⟩
      · rw [List.getElem?_map] at hu
        cases hr : (runesL s)[i]? with
        | none => rw [hr] at hu; cases hu
        | some r => rw [hr] at hu; cases hu; rfl
      · unfold runesV at hc
        rw [List.getElem?_map] at hu hc
        cases hr : (runesL s)[i]? with
        | none => rw [hr] at hu; cases hu
        | some r => rw [hr] at hu hc; cases hu; cases hc; exact .lit _
    obtain ⟨G', q1, q2, q3, q4, _⟩ := newList h.drew (((runesL s).map fun r => Value.int .i32 (r : Nat)).toArray ++ Array.replicate (grownCap w (runesL s).length 0 e - (runesL s).length) (.int .i32 0)) e 1 (runesV s) (grownCap w (runesL s).length 0 e)
      (by simp; omega) (by rw [hvl]; exact hge) hcm (fun v hv => by
        simp only [runesV, List.mem_map] at hv
        obtain ⟨_, _, rfl⟩ := hv
        rfl) _ hc2 (fun j u hu => by
        have hlt := (List.getElem?_eq_some_iff.1 hu).1
        rw [Array.getElem?_append_left (by simpa using hlt)]
        simpa using hu)
    rw [hvl] at q2 q3
    refine ⟨_, _, A, σ, G', _, hk, .inl ?_, q1, q2, q3, Ext.drew.trans q4⟩
    have hrf := runesFrom_eq s s.size 0 #[]
    simp at hrf
    have hrf2 : (Conv.runesFrom s s.size 0 #[]).size = (runesL s).length := by rw [hrf]; simp [runesL]
    simp [execOp, ho, hxv, convert, run_underlying (under_str hst), run_underlying (under_elem he), run_underlying (under_int hel), Conv.stringToRunes, newRow, hrf, grownCap, Question.forced, runesL]

/-! ### The rest of a row keeps the right to append -/
def aSliceOwn (P : Program) (t : TypeId) (x : Operand) (lo : Option AV) (A : Slots) (σ : Store) (K : AV → Slots → Store → Prop) : Prop :=
  takeA A x fun v A' => match v with
    | .list true sz vs => match bndA lo 0 with
      | some l => (tElem P t).bind (tSize P) = some sz ∧ l ≤ vs.length ∧ 0 < vs.length ∧ K (.list true sz (vs.drop l)) A' σ
      | none => False
    | _ => False

theorem aSliceOwn_sound {P : Program} {D : Nat → Prop} {n : Nat} {G : Ghost} {A : Slots} {σ : Store} {a : Act} {w : World} (h : Rel D n G A σ a w) {o : Oper} {K : AV → Slots → Store → Prop} {t : TypeId} {x : Operand} {lo : Option Operand}
    (ho : o.op = .slice t x lo none none) (hK : aSliceOwn P t x (lo.map (evalA A)) A σ K) : Does P D n G a w o K := by
  unfold aSliceOwn at hK
  have hlo : OptVR G.F (lo.map (evalA A)) (lo.map a.eval) := by
    cases lo with
    | none => trivial
    | some y => exact h.eval y
  obtain ⟨v, A', G1, hk, hR, hv, hown, hext, hF⟩ := h.takes hK
  split at hk
  case h_2 => exact hk.elim
  rename_i sz vs
  split at hk
  case h_2 => exact hk.elim
  rename_i l hl
  obtain ⟨hel, hlt, hpos, hk⟩ := hk
  cases he : tElem P t with
  | none => simp [he] at hel
  | some e =>
  simp [he] at hel
  generalize hxv : a.eval x = xv at hv hown
  have hu := under_elem he
  cases hv with
  | nil => simp at hpos
  | list _ _ _ g off m cap us hn hcap hw hll hF1 hv1 =>
    rcases hown with hc0 | hown
    · omega
    obtain ⟨hDg, z, hSg, hcz, hcm⟩ := hown
    dsimp only at hDg hSg hcz
    have hx' : VR G1.F (.list true sz vs) (.slice (some ⟨g, off, none⟩) m cap) := .list true sz vs g off m cap us hn hcap hw hll hF1 hv1
    have hr := run_bounds (P := P) (w := w) (isSlice := true) (len := m) (cap := cap) (mx := none) (mx' := none) (hi := none) (hi' := none) (m := m) (m' := m) (h := m) hlo trivial trivial hl rfl rfl (by omega) (Nat.le_refl _) hcap (by simp)
    by_cases hml : cap = l
    · subst hml
      have hmc : m = cap := by omega
      have hd0 : vs.drop cap = [] := List.drop_of_length_le (by omega)
      rw [hd0] at hk
      refine ⟨_, .slice (some ⟨g, off, none⟩) 0 0, A', σ, G1, w, hk, .inl ?_, hR, .list true _ [] g off 0 0 [] rfl (Nat.le_refl _) (by simp) (by simp [flat]) (by simp) (by simp), .inl rfl, hext⟩
      simp at hr
      subst hmc
      simp [execOp, ho, hxv, Instr.sliceAt, Instr.slice, run_underlying hu, hr, run_sizeOf hel]
    have hcut := (hx'.list_cut (l := l) (hh := m) (m := cap) (by omega) (by omega) hcap)
    have e1 : (vs.take m).drop l = vs.drop l := by rw [List.take_of_length_le (by omega)]
    rw [e1] at hcut
    have hright : VR G1.F (.list true sz (vs.drop l)) (.slice (some ⟨g, off + l * sz, none⟩) (m - l) (cap - l)) := by
      generalize hcl : cap - l = cl at hcut ⊢
      have hcl0 : 0 < cl := by omega
      generalize vs.drop l = vs2 at hcut ⊢
      generalize m - l = ml at hcut ⊢
      cases hcut with
      | void => omega
      | list _ _ _ _ _ _ _ us hn hc hw hl hF hv => exact .list true sz vs2 _ _ _ _ us hn hc hw hl hF hv
    refine ⟨_, .slice (some ⟨g, off + l * sz, none⟩) (m - l) (cap - l), A', σ, G1, w, hk, .inl ?_, hR, hright, ?_, hext⟩
    · simp at hr
      simp [execOp, ho, hxv, Instr.sliceAt, Instr.slice, run_underlying hu, hr, run_sizeOf hel, hml, add_addr]
    · have hmul : l * sz + (m - l) * sz = m * sz := by rw [← Nat.add_mul]; congr 1; omega
      have hmul2 : l * sz + (cap - l) * sz = cap * sz := by rw [← Nat.add_mul]; congr 1; omega
      refine .inr ⟨hDg, z, ?_, ?_, by omega⟩
      · show G1.S g = some (off + l * sz + (m - l) * sz, z, .acc 0)
        rw [Nat.add_assoc, hmul]; exact hSg
      · show off + l * sz + (cap - l) * sz ≤ z
        rw [Nat.add_assoc, hmul2]; exact hcz

/-! ### One operation -/
/-! ### copy: into a row that is an object; elements of one cell -/
def copyDst (σ : Store) (x : AV) : Option (Nat × Nat × Nat × List AV) :=
  match x with
  | .lit (.slice (some ⟨p, off, none⟩) n _) => (σ p).map fun cs => (p, off, n, cs)
  | _ => none
def copySrc (σ : Store) (y : AV) : Option (List AV) :=
  match y with
  | .list _ sz vs => if sz = 1 then some (flat vs) else none
  | .lit (.slice none 0 0) => some []
  | .lit (.slice (some ⟨q, off, none⟩) k _) => (σ q).bind fun ds => if off + k ≤ ds.length then some ((ds.drop off).take k) else none
  | _ => none
def aCopy (P : Program) (t : TypeId) (x y : AV) (A : Slots) (σ : Store) (K : AV → Slots → Store → Prop) : Prop :=
  match (tElem P t).bind (tSize P), copyDst σ x, copySrc σ y with
  | some sz, some (p, off, n, cs), some src => sz = 1 ∧ off + min n src.length ≤ cs.length ∧ K (.lit (.int .i64 (min n src.length : Nat))) A (σ.upd p (setRange cs off ((src.take (min n src.length)).map AV.drop1)))
  | _, _, _ => False

theorem aCopy_sound {P : Program} {D : Nat → Prop} {n : Nat} {G : Ghost} {A : Slots} {σ : Store} {a : Act} {w : World} (h : Rel D n G A σ a w) {o : Oper} {K : AV → Slots → Store → Prop} {t t' : TypeId} {x y : Operand}
    (ho : o.op = .call { callee := .builtin .copy, args := #[x, y], argTypes := #[t, t'] }) (hK : aCopy P t (evalA A x) (evalA A y) A σ K) : Does P D n G a w o K := by
  unfold aCopy at hK
  split at hK
  case h_2 => exact hK.elim
  rename_i sz p off m cs src hsz hrow hsrc
  obtain ⟨rfl, hle, hk⟩ := hK
  cases he : tElem P t with
  | none => simp [he] at hsz
  | some e =>
  rw [he] at hsz
  simp only [Option.bind_some] at hsz
  have hinfo : (P.info? e).map (·.size) = some 1 := by
    unfold tSize at hsz; exact hsz
  have hx := h.eval x
  have hy := h.eval y
  unfold copyDst at hrow
  split at hrow
  case h_2 => simp at hrow
  rename_i p' off' m' dcap hxa
  rw [hxa] at hx
  generalize hxv : a.eval x = xv at hx
  cases hx
  cases hcs : σ p' with
  | none => simp [hcs] at hrow
  | some cs' =>
  simp only [hcs, Option.map_some, Option.some.injEq, Prod.mk.injEq] at hrow
  obtain ⟨rfl, rfl, rfl, rfl⟩ := hrow
  obtain ⟨p1, p2, p3, cur, e', p4, p5, p6⟩ := h.world.obj p' cs' hcs
  -- the source
  obtain ⟨us, sa, slen, scap, hyv, hslen, hus, hcells⟩ : ∃ (us : List Value) (sa : Option Addr) (slen scap : Nat), a.eval y = .slice sa slen scap ∧ slen = src.length ∧ CellsR (VR G.F) (src.map AV.drop1) us ∧ ((sa = none ∧ src = [] ∧ scap = 0) ∨ ∃ ad, sa = some ad ∧ ∀ (j : Nat) (u : Value), us[j]? = some u → w.cell? (ad.add j) = some u) := by
    have dropR : ∀ {as : List AV} {us : List Value}, CellsR (VR G.F) as us → CellsR (VR G.F) (as.map AV.drop1) us := fun {as us} hc => ⟨by simpa using hc.1, hc.2.1, fun j c u hcj hu => by
      rw [List.getElem?_map] at hcj
      cases hcc : as[j]? with
      | none => simp [hcc] at hcj
      | some c' => simp [hcc] at hcj; subst hcj; exact (hc.2.2 j c' u hcc hu).drop1⟩
    unfold copySrc at hsrc
    split at hsrc
    · rename_i own sz' vs hya
      split at hsrc
      case isFalse => simp at hsrc
      rename_i h1; subst h1
      simp only [Option.some.injEq] at hsrc; subst hsrc
      rw [hya] at hy
      generalize a.eval y = yv at hy
      cases hy with
      | nil => exact ⟨[], none, 0, 0, rfl, by simp [flat], dropR ⟨rfl, by simp, by simp⟩, .inl ⟨rfl, by simp [flat], rfl⟩⟩
      | void sz ad => exact ⟨[], some ad, 0, 0, rfl, by simp [flat], dropR ⟨rfl, by simp, by simp⟩, .inr ⟨ad, rfl, by simp⟩⟩
      | list _ _ _ g off2 k cap us hn hc hw hl hF hv =>
        refine ⟨us, some ⟨g, off2, none⟩, k, cap, rfl, by rw [flat_length hw, hn]; omega, dropR ⟨hl.symm, fun j u hu => (hF j u hu).2, hv⟩, .inr ⟨_, rfl, fun j u hu => ?_⟩⟩
        rw [add_addr]
        obtain ⟨cur, e', fz, q1, q2⟩ := h.world.frz _ _ _ (hF j u hu).1
        rw [cell_of_row w g (off2 + j) cur e' fz q1]; exact q2
    · rename_i hya
      simp only [Option.some.injEq] at hsrc; subst hsrc
      rw [hya] at hy
      generalize a.eval y = yv at hy
      cases hy
      exact ⟨[], none, 0, 0, rfl, rfl, dropR ⟨rfl, by simp, by simp⟩, .inl ⟨rfl, rfl, rfl⟩⟩
    · rename_i q off2 k scap hya
      cases hds : σ q with
      | none => simp [hds] at hsrc
      | some ds =>
      simp only [hds, Option.bind_some] at hsrc
      split at hsrc
      case isFalse => simp at hsrc
      rename_i hle2
      simp only [Option.some.injEq] at hsrc; subst hsrc
      rw [hya] at hy
      generalize a.eval y = yv at hy
      cases hy
      obtain ⟨q1, q2, q3, cur2, e2, q4, q5, q6⟩ := h.world.obj q ds hds
      have get : ∀ {j : Nat} {u : Value}, ((cur2.toList.drop off2).take k)[j]? = some u → j < k ∧ cur2[off2 + j]? = some u := fun {j u} hu => by
        have hj := (List.getElem?_eq_some_iff.1 hu).1
        simp at hj
        rw [List.getElem?_take_of_lt (by omega), List.getElem?_drop] at hu
        exact ⟨by omega, by simpa using hu⟩
      have getc : ∀ {j : Nat} {c : AV}, ((ds.drop off2).take k)[j]? = some c → ds[off2 + j]? = some c := fun {j c} hc => by
        have hj := (List.getElem?_eq_some_iff.1 hc).1
        simp at hj
        rwa [List.getElem?_take_of_lt (by omega), List.getElem?_drop] at hc
      refine ⟨(cur2.toList.drop off2).take k, some ⟨q, off2, none⟩, k, scap, rfl, by simp; omega, dropR ⟨by simp; omega, fun j u hu => ?_, fun j c u hc hu => (q6 _ c u (getc hc) (get hu).2).2.1⟩, .inr ⟨_, rfl, fun j u hu => ?_⟩⟩
      · have hlt : off2 + j < ds.length := by have := (get hu).1; omega
        exact (q6 _ _ u (List.getElem?_eq_getElem hlt) (get hu).2).1
      · rw [add_addr, cell_of_row w q (off2 + j) cur2 e2 (0, 0) q4]; exact (get hu).2
    · simp at hsrc
  obtain ⟨u1, u2, u3⟩ := hus
  have hul : us.length = src.length := by simpa using u1.symm
  generalize hmm : min m' src.length = mm at *
  have hfit : off' + (us.take mm).length ≤ cur.size := by simp only [List.length_take]; omega
  have hone : ∀ u ∈ us.take mm, u.oneCell' = true := fun u hu => by
    obtain ⟨j, hj⟩ := List.getElem?_of_mem (List.mem_of_mem_take hu)
    exact u2 j u hj
  generalize hw' : w.setRow p' (setRange cur.toList off' (us.take mm)).toArray = w'
  have hrun : (Builtin.copy_ #[t, t'] o.type #[.slice (some ⟨p', off', none⟩) m' dcap, a.eval y]).run P w = .ok (.int .i64 (mm : Nat)) w' := by
    rw [hyv]
    have hlen : (us.take mm).length = Nat.min slen m' := by
      show _ = min slen m'
      simp only [List.length_take]; omega
    rcases hcells with ⟨rfl, hs0, rfl⟩ | ⟨ad, rfl, hc⟩
    · subst hs0
      have h0 : mm = 0 := by rw [← hmm]; simp
      have hsl : slen = 0 := by simpa using hslen
      subst h0 hsl
      have := run_copy_nil (P := P) w t t' o.type e ⟨p', off', none⟩ m' dcap (under_elem he) (by rw [hinfo]; rfl)
      rw [this, ← hw']
      have e0 : (setRange cur.toList off' (us.take 0)).toArray = cur := by
        simp [setRange]
      rw [e0, setRow_self w p' cur e' (0, 0) p4]
      rfl
    · have := run_copy_row (P := P) w t t' o.type e p' off' m' dcap ad slen scap cur e' (us.take mm) (under_elem he) hinfo p4 hlen (fun j v hj => hc j v (by
        have hj' := (List.getElem?_eq_some_iff.1 hj).1
        simp at hj'
        rwa [List.getElem?_take_of_lt (by omega)] at hj)) hfit hone
      rw [this, toList_setRow hfit, hw']
      congr 1
      simp only [goInt, List.length_take]
      congr 1
      omega
  have hg' : w'.heap[p']? = some (.cells (setRange cur.toList off' (us.take mm)).toArray e' (0, 0)) := by subst hw'; exact setRow_heap w p' cur _ e' _ p4
  have hoth : ∀ k, k ≠ p' → w'.heap[k]? = w.heap[k]? := fun k hk => by subst hw'; exact setRow_other w p' k _ hk
  refine ⟨.lit (.int .i64 (mm : Nat)), .int .i64 (mm : Nat), A, _, G, w', hk, .inl ?_, h.step (fun _ _ _ h => h) (fun g m z i j _ hg => hg) ?_ (by subst hw'; simp), .lit _, OwnAt.of_plain rfl,
    ⟨by subst hw'; rfl, by subst hw'; rfl, by subst hw'; rfl, by subst hw'; simp, fun _ _ _ h => h, fun k hk => ?_⟩⟩
  · simp [execOp, ho, resolve, invoke, builtin, hxv, hrun]
  · refine h.world.objTo hcs rfl (fun g n z π hg => ⟨π, hg⟩) (fun g n z q i _ _ _ hg => hg) p4 hg' hoth (by simp [setRange_length]; omega) fun i c u hc hu => ?_
    have hu' : (setRange cur.toList off' (us.take mm))[i]? = some u := by simpa using hu
    rw [setRange_get _ _ _ _ (by simpa using hfit)] at hu'
    have hlen2 : ((src.take mm).map AV.drop1).length = (us.take mm).length := by simp only [List.length_map, List.length_take]; omega
    rw [setRange_get _ _ _ _ (by rw [hlen2]; simp only [List.length_take]; omega), hlen2] at hc
    split at hc
    · rename_i hi
      rw [if_pos hi] at hu'
      have hu2 : us[i - off']? = some u := by
        have hj := (List.getElem?_eq_some_iff.1 hu').1
        simp at hj
        rwa [List.getElem?_take_of_lt (by omega)] at hu'
      have hc2 : (src.map AV.drop1)[i - off']? = some c := by
        have hj := (List.getElem?_eq_some_iff.1 hc).1
        simp at hj
        rwa [List.map_take, List.getElem?_take_of_lt (by omega)] at hc
      refine ⟨u2 _ _ hu2, u3 _ _ _ hc2 hu2, ?_⟩
      rw [List.getElem?_map] at hc2
      cases hcc : src[i - off']? with
      | none => simp [hcc] at hc2
      | some c' => simp [hcc] at hc2; subst hc2; exact Own1.drop1 ..
    · rename_i hi
      rw [if_neg hi] at hu'
      exact p6 i c u hc (by simpa using hu')
  · have : k ≠ p' := fun e => hk (e ▸ p1)
    exact ⟨hoth k this, rfl, rfl⟩

/-- 'st': the temporaries that take the right to append with the value that is moved or loaded into them; of 'make': that it is by value. -/
def steals (st : List Tmp) (o : Oper) : Bool := match o.dst with | some d => st.contains d | none => false
/-- The rest of a row is taken with its right: by the same marks. -/
def sliceTake (st : List Tmp) (o : Oper) (hi mx : Option Operand) : Bool := steals st o && hi.isNone && mx.isNone
/-- The zeros are as they are written. -/
def raws (st : List Tmp) (o : Oper) : Bool := match o.dst with | some d => st.contains (d + 2000000) | none => false
/-- Rows that are objects: by these marks. -/
def objs (st : List Tmp) (o : Oper) : Bool := match o.dst with | some d => st.contains (d + 1000000) | none => false
/-- A row that is an object is taken as a list by value: by these marks. -/
def frees (st : List Tmp) (o : Oper) : Bool := match o.dst with | some d => st.contains (d + 3000000) | none => false
def aFreeze (x : AV) (σ : Store) (K : AV → Store → Prop) : Prop :=
  match x with
  | .lit (.slice (some ⟨p, 0, none⟩) n cap) => match σ p with
    | some cs => n ≤ cap ∧ cs.length = cap ∧ cap ≤ maxLen ∧ (∀ v ∈ cs.take n, v.cells = [v]) ∧ K (.list true 1 (cs.take n)) (σ.del p)
    | none => False
  | _ => False
theorem aFreeze_mono {x : AV} {σ : Store} {K K' : AV → Store → Prop} (h : aFreeze x σ K) (hk : ∀ v σ', K v σ' → K' v σ') : aFreeze x σ K' := by
  unfold aFreeze at *
  split at h
  · split at h
    · exact ⟨h.1, h.2.1, h.2.2.1, h.2.2.2.1, hk _ _ h.2.2.2.2⟩
    · exact h
  · exact h
theorem flat_ones {l : List AV} (h : ∀ v ∈ l, v.cells = [v]) : flat l = l := by
  induction l with
  | nil => rfl
  | cons v l ih =>
    show v.cells ++ flat l = _
    rw [h v (by simp), ih fun x hx => h x (by simp [hx])]; rfl
theorem aFreeze_sound {P : Program} {D : Nat → Prop} {n : Nat} {G : Ghost} {A : Slots} {σ : Store} {a : Act} {w : World} (h : Rel D n G A σ a w) {o : Oper} {K : AV → Slots → Store → Prop} {x : Operand} (ho : o.op = .assign x)
    (hK : aFreeze (evalA A x) σ fun v σ' => K v A σ') : Does P D n G a w o K := by
  unfold aFreeze at hK
  split at hK
  case h_2 => exact hK.elim
  rename_i p m cap hx
  split at hK
  case h_2 => exact hK.elim
  rename_i cs hcs
  obtain ⟨h1, h2, h3, h4, hk⟩ := hK
  have hfl := flat_ones h4
  have hl : (cs.take m).length = m := by simp; omega
  have hxv := (h.eval x).lit_eq hx
  obtain ⟨G', q1, q2, q3, q4, q5, q6⟩ := h.world.freezeObj (vs := cs.take m) (rest := cs.drop m) (sz := 1) (cap := cap) (by rw [hfl, List.take_append_drop]; exact hcs) (by rw [hfl, List.take_append_drop]; omega) h3 (by omega) (fun v hv => by rw [h4 v hv]; rfl) .acc (by simp)
  rw [hl] at q2 q3
  refine ⟨_, _, A, _, G', w, hk, .inl (by simp [execOp, ho, hxv]), ⟨h.defers, h.size, fun i => (h.val i).mono q4.frz, fun i => (h.own i).re fun g m z j hd hg => ?_, q1, h.fresh⟩, q2, q3, q4⟩
  have : g ≠ p := fun e => by subst e; rw [q6] at hg; cases hg
  rw [q5 g this]; exact hg
def astep (P : Program) (st : List Tmp) (o : Oper) (A : Slots) (σ : Store) (K : AV → Slots → Store → Prop) : Prop :=
  match o.op with
  | .assign x => if frees st o = true then aFreeze (evalA A x) σ fun v σ' => K v A σ' else if objs st o = true then takeA A x fun v A' => K v A' σ else takeA A x fun v A' => K (conv P o.type v) A' σ
  | .move (.tmp t) => if steals st o = true then takeA A (.tmp t) fun v A' => K (conv P o.type v) A' σ else K (A t).share A σ
  | .load t y => if steals st o = true then aLoadTake P t (evalA A y) A σ K else match apure P o A σ with | some v => K v A σ | none => False
  | .alloc e => aAlloc P e A σ K
  | .box e x => aBox P (objs st o) e x A σ K
  | .store t y x => aStore P t (evalA A y) x A σ K
  | .buildSlice t len parts => if objs st o = true then aBuildObj P t len parts A σ K else match aBuildSlice P t len (nodeOf parts A) with | some v => K v A σ | none => False
  | .makeSlice t x y => aMake P (steals st o) (objs st o) t (evalA A x) (evalA A y) A σ K
  | .binOp op t x y _ => if isNilConst y = true then (match op with
      | .eql => aNilTest P false t (evalA A x) A σ K
      | .neq => aNilTest P true t (evalA A x) A σ K
      | _ => False) else match apure P o A σ with | some v => K v A σ | none => False
  | .convert src dst x => if src = dst then aConvSame P (steals st o) src dst x A σ K else if objs st o = true then aConvRow P src dst (evalA A x) A σ K else match apure P o A σ with | some v => K v A σ | none => False
  | .slice t x lo hi mx => if sliceTake st o hi mx = true then aSliceOwn P t x (lo.map (evalA A)) A σ K else match apure P o A σ with | some v => K v A σ | none => False
  | .extract (.tmp t) ix => aExtract t ix A σ K
  | .build t parts => if objs st o = true then aBuildTake P (raws st o) t parts A σ K else match apure P o A σ with | some v => K v A σ | none => False
  | .call c => match c.callee, c.args.toList, c.argTypes.toList with
    | .builtin .append, [s, x], [t, t'] => if t = t' then (if objs st o = true then (if isRow (evalA A x) = true then aAppendRow P t s x A σ K else aAppendObj P t s x A σ K) else aAppend P t s x A σ K) else aAppendStr P t t' s x A σ K
    | .builtin .copy, [x, y], [t, _] => aCopy P t (evalA A x) (evalA A y) A σ K
    | _, _, _ => match apure P o A σ with | some v => K v A σ | none => False
  | .makeMap t r => aOth P (.makeMap t r) (evalA A) σ fun v σ' => K v A σ'
  | .mapUpdate t m k x => aOth P (.mapUpdate t m k x) (evalA A) σ fun v σ' => K v A σ'
  | .lookup t m k ok => aOth P (.lookup t m k ok) (evalA A) σ fun v σ' => K v A σ'
  | .range t x => aOth P (.range t x) (evalA A) σ fun v σ' => K v A σ'
  | .next it b => aOth P (.next it b) (evalA A) σ fun v σ' => K v A σ'
  | _ => match apure P o A σ with | some v => K v A σ | none => False

theorem take_does {P : Program} {D : Nat → Prop} {n : Nat} {G : Ghost} {A : Slots} {σ : Store} {a : Act} {w : World} (h : Rel D n G A σ a w) {o : Oper} {K : AV → Slots → Store → Prop} {x : Operand}
    (hr : (execOp a.eval o).run P w = .ok (.value (a.eval x)) w) (hK : takeA A x fun v A' => K (conv P o.type v) A' σ) : Does P D n G a w o K := by
  obtain ⟨v, A', G', hk, hR, hv, hown, hext, hF⟩ := h.takes hK
  exact ⟨_, _, A', σ, G', w, hk, .inl hr, hR, conv_VR hv, conv_own hv hown, hext⟩

theorem pure_does {P : Program} {D : Nat → Prop} {n : Nat} {G : Ghost} {A : Slots} {σ : Store} {a : Act} {w : World} (h : Rel D n G A σ a w) {o : Oper} {K : AV → Slots → Store → Prop}
    (hK : match apure P o A σ with | some v => K v A σ | none => False) : Does P D n G a w o K := by
  split at hK
  · rename_i v hv
    obtain ⟨cv, h1, h2, h3⟩ := apure_sound hv h
    exact ⟨v, cv, A, σ, G, w, hK, .inl h1, h, h2, h3, Ext.refl ..⟩
  · exact hK.elim

theorem astep_sound {P : Program} {st : List Tmp} {D : Nat → Prop} {n : Nat} {G : Ghost} {A : Slots} {σ : Store} {a : Act} {w : World} (h : Rel D n G A σ a w) {o : Oper} {K : AV → Slots → Store → Prop}
    (hK : astep P st o A σ K) : Does P D n G a w o K := by
  unfold astep at hK
  split at hK
  · rename_i x ho
    split at hK
    · exact aFreeze_sound h ho hK
    split at hK
    · obtain ⟨v, A', G', hk, hR, hv, hown, hext, hF⟩ := h.takes hK
      exact ⟨_, _, A', σ, G', w, hk, .inl (by simp [execOp, ho]), hR, hv, hown, hext⟩
    · exact take_does h (by simp [execOp, ho]) hK
  · rename_i t ho
    split at hK
    · exact take_does h (by simp [execOp, ho]) hK
    · exact ⟨_, _, A, σ, G, w, hK, .inl (by simp [execOp, ho]), h, (h.eval (.tmp t)).share, OwnAt.share .., Ext.refl ..⟩
  · rename_i t y ho
    split at hK
    · exact aLoadTake_sound h ho hK
    · exact pure_does h hK
  · rename_i e ho; exact aAlloc_sound h ho hK
  · rename_i e x ho; exact aBox_sound h ho hK
  · rename_i t y x ho; exact aStore_sound h ho hK
  · rename_i t len parts ho
    split at hK
    · exact aBuildObj_sound h ho hK
    · split at hK
      · rename_i v hv; exact aBuildSlice_sound h ho hv hK
      · exact hK.elim
  · rename_i t x y ho; exact aMake_sound h ho hK
  · rename_i op t x y t' ho
    split at hK
    · rename_i hy
      split at hK
      · exact aNilTest_sound h (.inl ⟨rfl, rfl⟩) ho hy hK
      · exact aNilTest_sound h (.inr ⟨rfl, rfl⟩) ho hy hK
      · exact hK.elim
    · exact pure_does h hK
  · rename_i src dst x ho
    split at hK
    · exact aConvSame_sound h ho hK
    rename_i hne
    split at hK
    · exact aConvRow_sound h ho hne hK
    · exact pure_does h hK
  · rename_i t x lo hi mx ho
    split at hK
    · rename_i hs
      simp only [sliceTake, Bool.and_eq_true, Option.isNone_iff_eq_none] at hs
      obtain ⟨⟨_, rfl⟩, rfl⟩ := hs
      exact aSliceOwn_sound h ho hK
    · exact pure_does h hK
  · rename_i t ix ho; exact aExtract_sound h ho hK
  · rename_i t parts ho
    split at hK
    · exact aBuildTake_sound h ho hK
    · exact pure_does h hK
  · rename_i c ho
    obtain ⟨callee, args, argTypes⟩ := c
    dsimp only at hK ho
    split at hK
    · rename_i s x t t' hargs hts
      have e1 : args = #[s, x] := by rw [← Array.toArray_toList (xs := args), hargs]
      have e2 : argTypes = #[t, t'] := by rw [← Array.toArray_toList (xs := argTypes), hts]
      subst e1 e2
      split at hK
      · rename_i htt; subst htt
        split at hK
        · split at hK
          · exact aAppendRow_sound h ho hK
          · exact aAppendObj_sound h ho hK
        · exact aAppend_sound h ho hK
      · exact aAppendStr_sound h ho hK
    · rename_i x y t t' hargs hts
      have e1 : args = #[x, y] := by rw [← Array.toArray_toList (xs := args), hargs]
      have e2 : argTypes = #[t, t'] := by rw [← Array.toArray_toList (xs := argTypes), hts]
      subst e1 e2
      exact aCopy_sound h ho hK
    · exact pure_does h hK
  · rename_i t r ho; exact aOth_sound h (by rw [ho]; exact hK)
  · rename_i t m k x ho; exact aOth_sound h (by rw [ho]; exact hK)
  · rename_i t m k ok ho; exact aOth_sound h (by rw [ho]; exact hK)
  · rename_i t x ho; exact aOth_sound h (by rw [ho]; exact hK)
  · rename_i it b ho; exact aOth_sound h (by rw [ho]; exact hK)
  · exact pure_does h hK

end Go.AL
/-
  The abstract-state logic: calls; one operation of a region, with its guard and its slot.
-/
namespace Go.AL
open Go Go.RowKit Classical
variable [GL]
set_option linter.unusedSectionVars false

/-- What a call comes to, of abstract arguments and of the store. -/
def ACalls (P : Program) (f : FuncId) (args : List AV) (σ : Store) (R : AV → Store → Prop) : Prop :=
  ∀ (D : Nat → Prop) (G : Ghost) (w : World) (cargs : Array Value), args.length = cargs.size →
    (∀ (i : Nat) (c : AV) (u : Value), args[i]? = some c → cargs[i]? = some u → VR G.F c u ∧ OwnAt G D (.arg i) c u) → WR D G σ w → (∀ k, w.heap.size ≤ k → D k) →
    Calls P f cargs w fun e w' => ∃ v cv G' σ', e = .returned cv ∧ R v σ' ∧ VR G'.F v cv ∧ OwnAt G' D .acc v cv ∧ WR D G' σ' w' ∧ Ext D G w G' w'

theorem ACalls.mono {P : Program} {f : FuncId} {args : List AV} {σ : Store} {R R' : AV → Store → Prop} (h : ACalls P f args σ R) (hr : ∀ v σ', R v σ' → R' v σ') : ACalls P f args σ R' :=
  fun D G w cargs h1 h2 h3 h4 => (h D G w cargs h1 h2 h3 h4).mono fun _ _ ⟨v, cv, G', σ', he, hR, rest⟩ => ⟨v, cv, G', σ', he, hr _ _ hR, rest⟩

/-- The call keeps the caller's slots. -/
theorem ACalls.frame {P : Program} {f : FuncId} {args : List AV} {σ : Store} {R : AV → Store → Prop} (hc : ACalls P f args σ R) {D : Nat → Prop} {n : Nat} {G : Ghost} {A : Slots} {a : Act} {w : World} (h : Rel D n G A σ a w)
    {cargs : Array Value} (hl : args.length = cargs.size) (hargs : ∀ (i : Nat) (c : AV) (u : Value), args[i]? = some c → cargs[i]? = some u → VR G.F c u ∧ OwnAt G D (.arg i) c u) :
    Calls P f cargs w fun e w' => ∃ v cv G' σ', e = .returned cv ∧ R v σ' ∧ VR G'.F v cv ∧ OwnAt G' D .acc v cv ∧ Rel D n G' A σ' a w' ∧ Ext D G w G' w' := by
  let Dc : Nat → Prop := fun k => w.heap.size ≤ k ∨ (∃ cs, σ k = some cs) ∨ (D k ∧ ∃ m z i j, G.S k = some (m, z, .arg i j)) ∨ (D k ∧ ∃ m z o j, G.S k = some (m, z, .obj o j)) ∨ ∃ cs, σ (mkey k) = some cs
  have hsub : ∀ k, Dc k → D k := by
    rintro k (h1 | ⟨cs, h2⟩ | h3 | h4 | ⟨cs, h5⟩)
    · exact h.fresh k h1
    · exact (h.world.obj k cs h2).1
    · exact h3.1
    · exact h4.1
    · exact (h.world.oth k cs h5).1
  have own1 : ∀ {π : Place} {c : AV} {u : Value}, (∀ g m z, D g → G.S g = some (m, z, π) → Dc g) → Own1 G D π c u → Own1 G Dc π c u := by
    intro π c u hd ho
    unfold Own1 at *
    split at ho
    · rcases ho with ho | ⟨h1, z, h2, h3⟩
      · exact .inl ho
      · exact .inr ⟨hd _ _ _ h1 h2, z, h2, h3⟩
    · trivial
  have hW : WR Dc G σ w := by
    refine ⟨h.world.frz, h.world.own, fun o cs hcs => ?_, h.world.laid, fun g cs hg => ⟨.inr (.inr (.inr (.inr ⟨cs, hg⟩))), (h.world.oth g cs hg).2⟩⟩
    obtain ⟨h1, h2, h3, cur, e, h4, h5, h6⟩ := h.world.obj o cs hcs
    refine ⟨.inr (.inl ⟨cs, hcs⟩), h2, h3, cur, e, h4, h5, fun i c u hc hu => ?_⟩
    obtain ⟨q1, q2, q3⟩ := h6 i c u hc hu
    exact ⟨q1, q2, own1 (fun g m z hd hg => .inr (.inr (.inr (.inl ⟨hd, m, z, o, i, hg⟩)))) q3⟩
  have hA : ∀ (i : Nat) (c : AV) (u : Value), args[i]? = some c → cargs[i]? = some u → VR G.F c u ∧ OwnAt G Dc (.arg i) c u := by
    intro i c u hci hui
    obtain ⟨q1, q2⟩ := hargs i c u hci hui
    refine ⟨q1, ?_⟩
    have hd : ∀ j g m z, D g → G.S g = some (m, z, .arg i j) → Dc g := fun j g m z hd hg => .inr (.inr (.inl ⟨hd, m, z, i, j, hg⟩))
    unfold OwnAt at q2 ⊢
    split at q2
    · exact fun j c u hc hu => own1 (hd j) (q2 j c u hc hu)
    · exact fun j c u hc hu => own1 (hd j) (q2 j c u hc hu)
    · exact own1 (hd 0) q2
  refine (hc Dc G w cargs hl hA hW (fun k hk => .inl hk)).mono ?_
  rintro e w' ⟨v, cv, G', σ', he, hR, hv, ho, hW', hext⟩
  refine ⟨v, cv, G', σ', he, hR, hv, ho.wide hsub, h.step hext.frz (fun g m z i j hd hg => ?_) (hW'.wide hsub) hext.size, hext.wide hsub⟩
  have hnot : ¬ Dc g := by
    obtain ⟨q1, ⟨c, e', ⟨_, q2, _⟩, _⟩, _⟩ := h.world.own g m z _ hg
    rintro (h1 | ⟨cs, h2⟩ | ⟨_, m', z', i', j', h3⟩ | ⟨_, m', z', i', j', h3⟩ | ⟨cs, h5⟩)
    · have := (Array.getElem?_eq_some_iff.1 q2).1; omega
    · rw [q1] at h2; cases h2
    · rw [hg] at h3; simp at h3
    · rw [hg] at h3; simp at h3
    · obtain ⟨_, ob, h6, h7⟩ := h.world.oth g cs h5
      rw [q2] at h6; obtain rfl := Option.some.inj h6
      exact h7.oth
  rw [(hext.block g hnot).2.1]; exact hg

/-! ### The arguments -/
def takeArgs (P : Program) : List Operand → List TypeId → Slots → (List AV → Slots → Prop) → Prop
  | [], _, A, K => K [] A
  | x :: xs, ts, A, K => takeA A x fun v A' => takeArgs P xs ts.tail A' fun vs A'' => K (conv P (ts.headD 0) v :: vs) A''

def toArg (i : Nat) : Place → Place
  | .acc j => .arg i j
  | π => π

theorem takeArgs_sound {P : Program} {D : Nat → Prop} {n : Nat} {σ : Store} {a : Act} {w : World} : ∀ (xs : List Operand) (ts : List TypeId) (k : Nat) {G : Ghost} {A : Slots} {K : List AV → Slots → Prop}, Rel D n G A σ a w → takeArgs P xs ts A K →
    ∃ vs A' G', K vs A' ∧ Rel D n G' A' σ a w ∧ vs.length = xs.length ∧ (∀ (i : Nat) (c : AV) (x : Operand), vs[i]? = some c → xs[i]? = some x → VR G'.F c (a.eval x) ∧ OwnAt G' D (.arg (k + i)) c (a.eval x)) ∧ Ext D G w G' w ∧
      G'.F = G.F ∧ ∀ g m z i j, i < k → D g → G.S g = some (m, z, .arg i j) → G'.S g = some (m, z, .arg i j)
  | [], _, k, G, A, K, h, hK => ⟨[], A, G, hK, h, rfl, by simp, Ext.refl .., rfl, fun _ _ _ _ _ _ _ h => h⟩
  | x :: xs, ts, k, G, A, K, h, hK => by
    have step : ∃ v A1 G1, (takeArgs P xs ts.tail A1 fun vs A'' => K (conv P (ts.headD 0) v :: vs) A'') ∧ Rel D n G1 A1 σ a w ∧ VR G1.F v (a.eval x) ∧ OwnAt G1 D (.arg k) v (a.eval x) ∧ Ext D G w G1 w ∧ G1.F = G.F ∧
        ∀ g m z i j, i < k → D g → G.S g = some (m, z, .arg i j) → G1.S g = some (m, z, .arg i j) := by
      have plain : ∀ y : Operand, (evalA A y).plain = true → (takeArgs P xs ts.tail A fun vs A'' => K (conv P (ts.headD 0) (evalA A y) :: vs) A'') → y = x → ∃ v A1 G1, (takeArgs P xs ts.tail A1 fun vs A'' => K (conv P (ts.headD 0) v :: vs) A'') ∧ Rel D n G1 A1 σ a w ∧ VR G1.F v (a.eval x) ∧ OwnAt G1 D (.arg k) v (a.eval x) ∧ Ext D G w G1 w ∧ G1.F = G.F ∧
          ∀ g m z i j, i < k → D g → G.S g = some (m, z, .arg i j) → G1.S g = some (m, z, .arg i j) := by
        rintro y hp hk rfl
        exact ⟨_, A, G, hk, h, h.eval y, OwnAt.of_plain hp, Ext.refl .., rfl, fun _ _ _ _ _ _ _ h => h⟩
      cases x with
      | const c => exact plain (.const c) rfl hK rfl
      | global g => exact plain (.global g) (evalA_global_plain A g) hK rfl
      | func f => exact plain (.func f) rfl hK rfl
      | tmp t =>
        let f : Place → Place := fun π => match π with | .slot i j => if i = t then .arg k j else .slot i j | π => π
        refine ⟨A t, _, G.mv D f, hK, ⟨h.defers, h.size, fun i => ?_, fun i => ?_, h.world.mv _ (fun _ _ => rfl), h.fresh⟩, h.val t, ?_, Ext.mv .., rfl, fun g m z i j _ hd hg => by rw [Ghost.mv_some hd hg]⟩
        · simp only [upd]; split
          · rename_i hi; subst hi; exact (h.val i).share
          · exact h.val i
        · simp only [upd]; split
          · exact OwnAt.share ..
          · rename_i hi
            exact (h.own i).re fun g m z j hd hg => by rw [Ghost.mv_some hd hg]; simp [f, hi]
        · exact (h.own t).re fun g m z j hd hg => by rw [Ghost.mv_some hd hg]; simp [f]
    obtain ⟨v, A1, G1, hk1, hR1, hv1, ho1, hext1, hF1, hkeep1⟩ := step
    obtain ⟨vs, A', G', hk', hR', hl', hvs', hext', hF', hkeep'⟩ := takeArgs_sound xs ts.tail (k + 1) hR1 hk1
    refine ⟨conv P (ts.headD 0) v :: vs, A', G', hk', hR', by simp [hl'], fun i c y hc hy => ?_, hext1.trans hext', hF'.trans hF1, fun g m z i j hi hd hg => hkeep' g m z i j (by omega) hd (hkeep1 g m z i j hi hd hg)⟩
    cases i with
    | zero =>
      simp at hc hy; subst hc hy
      refine ⟨conv_VR (by rw [hF']; exact hv1), conv_own (F := G1.F) hv1 (ho1.re fun g m z j hd hg => hkeep' g m z k j (by omega) hd hg)⟩
    | succ i =>
      simp at hc hy
      have := hvs' i c y hc hy
      rwa [show k + 1 + i = k + (i + 1) from by omega] at this

/-! ### One operation: as it stands, or a call -/
def callable (P : Program) (f : FuncId) : Bool :=
  match P.funcs[f]? with
  | some fn => fn.body.isSome && !(fn.name == "runtime.NumGoroutine")
  | none => false

/-- An entry of the model's own, that leaves the world as it is. -/
def AExt (P : Program) (f : FuncId) (args : List AV) (σ : Store) (R : AV → Store → Prop) : Prop :=
  ∀ (D : Nat → Prop) (G : Ghost) (w : World) (cargs : Array Value), args.length = cargs.size → (∀ (i : Nat) (c : AV) (u : Value), args[i]? = some c → cargs[i]? = some u → VR G.F c u) → WR D G σ w →
    ∃ v cv, (callFunc f cargs).run P w = .ok (.value cv) w ∧ v.plain = true ∧ VR G.F v cv ∧ R v σ
theorem AExt.mono {P : Program} {f : FuncId} {args : List AV} {σ : Store} {R R' : AV → Store → Prop} (h : AExt P f args σ R) (hr : ∀ v σ', R v σ' → R' v σ') : AExt P f args σ R' :=
  fun D G w cargs h1 h2 h3 => let ⟨v, cv, q1, q2, q3, q4⟩ := h D G w cargs h1 h2 h3; ⟨v, cv, q1, q2, q3, hr _ _ q4⟩
def ACallX (P : Program) (f : FuncId) (args : List AV) (σ : Store) (R : AV → Store → Prop) : Prop := if callable P f = true then ACalls P f args σ R else AExt P f args σ R
theorem ACallX.mono {P : Program} {f : FuncId} {args : List AV} {σ : Store} {R R' : AV → Store → Prop} (h : ACallX P f args σ R) (hr : ∀ v σ', R v σ' → R' v σ') : ACallX P f args σ R' := by
  unfold ACallX at *
  split at h
  · rename_i hc; rw [if_pos hc]; exact h.mono hr
  · rename_i hc; rw [if_neg hc]; exact h.mono hr

/-- The types at which a call's arguments are read anew; by the mark: none (the nil slice stays what it is). -/
def callTys (raw : Bool) (ts : List TypeId) : List TypeId := if raw = true then [] else ts
def aoper (P : Program) (st : List Tmp) (o : Oper) (A : Slots) (σ : Store) (K : AV → Slots → Store → Prop) : Prop :=
  match o.op with
  | .call c => match c.callee with
    | .value f => match evalA A f with
      | .func (.func f) first captured => takeArgs P c.args.toList (callTys (objs st o) c.argTypes.toList) A fun vs A' => ACallX P f (first.map AV.share ++ vs ++ captured.map AV.share) σ fun v σ' => K v A' σ'
      | _ => False
    | _ => astep P st o A σ K
  | _ => astep P st o A σ K

theorem run_callFunc {P : Program} {f : FuncId} (h : callable P f = true) (args : Array Value) (w : World) : (callFunc f args).run P w = .ok (.enter f args) w := by
  unfold callable at h
  cases hf : P.funcs[f]? with
  | none => simp [hf] at h
  | some fn =>
    simp [hf] at h
    obtain ⟨h1, h2⟩ := h
    obtain ⟨b, hb⟩ := Option.isSome_iff_exists.1 h1
    simp [callFunc, hf, hb, h2]

theorem plain_list {vs : List AV} {F : Frz} {us : Array Value} (h : ∀ (i : Nat) (c : AV) (u : Value), vs[i]? = some c → us[i]? = some u → VR F c u) (G : Ghost) (D : Nat → Prop) (r : Nat → Nat → Place) :
    ∀ (i : Nat) (c : AV) (u : Value), (vs.map AV.share)[i]? = some c → us[i]? = some u → VR F c u ∧ OwnAt G D (r i) c u := by
  intro i c u hc hu
  rw [List.getElem?_map] at hc
  cases hv : vs[i]? with
  | none => simp [hv] at hc
  | some v => simp [hv] at hc; subst hc; exact ⟨(h i v u hv hu).share, OwnAt.share ..⟩

end Go.AL
