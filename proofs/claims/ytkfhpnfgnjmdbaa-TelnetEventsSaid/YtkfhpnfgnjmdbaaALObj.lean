/-
  The abstract-state logic: rows that are objects: a slice literal of one element, append, a load that takes rights; and how such a row becomes a list by value.
-/
import Derived.Test.YtkfhpnfgnjmdbaaALEff3
namespace Go.AL
open Go Go.RowKit Classical

def Store.del (σ : Store) (o : Nat) : Store := fun p => if p = o then none else σ p
/-- Without that one, if there is one. -/
def Store.delO (σ : Store) : Option Nat → Store
  | some o => σ.del o
  | none => σ
theorem delO_or (σ : Store) (x : Option Nat) (o : Nat) : σ.delO x o = none ∨ σ.delO x o = σ o := by
  cases x with
  | none => exact .inr rfl
  | some p => simp only [Store.delO, Store.del]; split
              · exact .inl rfl
              · exact .inr rfl
theorem delO_none {σ : Store} {x : Option Nat} {o : Nat} (h : σ o = none) : σ.delO x o = none := by rcases delO_or σ x o with h' | h' <;> simp [h', h]
theorem delO_ne {σ : Store} {x : Option Nat} {o : Nat} (h : σ.delO x o ≠ none) : x ≠ some o := by
  rintro rfl; simp [Store.delO, Store.del] at h

/-! ### A row literal of one element -/
def aBuildObj (P : Program) (t : TypeId) (len : Nat) (parts : Array (Nat × Operand)) (A : Slots) (σ : Store) (K : AV → Slots → Store → Prop) : Prop :=
  match tElem P t, parts.toList with
  | some e, [] => len = 0 ∧ (tSize P e).isSome = true ∧ ∀ p, σ p = none → K (.lit (.slice (some ⟨p, 0, none⟩) 0 0)) A (σ.upd p [])
  | some e, [(0, x)] => match tSize P e with
    | some s => len = 1 ∧ 0 < s ∧ s ≤ 16777216 ∧ tZeroSize P e = some s ∧ takeA A x fun v A' => (conv P e v).solid = true ∧ (conv P e v).cells.length = s ∧ ∀ p, σ p = none → K (.lit (.slice (some ⟨p, 0, none⟩) 1 1)) A' (σ.upd p (conv P e v).cells)
    | none => False
  | _, _ => False

theorem setRange_full {α : Type} (xs ys : List α) (h : xs.length = ys.length) : setRange xs 0 ys = ys := by
  apply List.ext_getElem?
  intro i
  rw [setRange_get _ _ _ _ (by omega)]
  split
  · simp
  · rw [List.getElem?_eq_none (by omega), List.getElem?_eq_none (by omega)]

theorem aBuildObj_sound {P : Program} {D : Nat → Prop} {n : Nat} {G : Ghost} {A : Slots} {σ : Store} {a : Act} {w : World} (h : Rel D n G A σ a w) {o : Oper} {K : AV → Slots → Store → Prop} {t : TypeId} {len : Nat} {parts : Array (Nat × Operand)}
    (ho : o.op = .buildSlice t len parts) (hK : aBuildObj P t len parts A σ K) : Does P D n G a w o K := by
  unfold aBuildObj at hK
  split at hK
  case h_1 =>
    rename_i e he hparts
    obtain ⟨rfl, hs, hK⟩ := hK
    obtain ⟨s, hs⟩ := Option.isSome_iff_exists.1 hs
    have e1 : parts = #[] := by rw [← Array.toArray_toList (xs := parts), hparts]
    subst e1
    refine newObj_does h (cur := #[]) (e := e) ⟨rfl, by simp, by simp⟩ (fun p => .slice (some ⟨p, 0, none⟩) 0 0) hK ?_
    simp [execOp, ho, Instr.buildSlice, run_underlying (under_elem he), run_sizeOf hs, Array.range_zero', newRow, Instr.fill]
  case h_3 => exact hK.elim
  rename_i e x he hparts
  split at hK
  case h_2 => exact hK.elim
  rename_i s hs
  obtain ⟨rfl, hpos, hbig, hz, hK⟩ := hK
  have e1 : parts = #[(0, x)] := by rw [← Array.toArray_toList (xs := parts), hparts]
  subst e1
  unfold tZeroSize at hz
  cases hz0 : tZero P e with
  | none => simp [hz0] at hz
  | some z =>
    simp [hz0] at hz
    obtain ⟨v, A', G1, ⟨hsol, hlen, hk⟩, hR, hv, hown, hext, hF⟩ := h.takes hK
    have hv' : VR G1.F (conv P e v) (a.eval x) := conv_VR hv
    have hown' : OwnAt G1 D .acc (conv P e v) (a.eval x) := conv_own hv hown
    generalize conv P e v = v2 at hsol hlen hk hv' hown'
    have hD := hR.fresh _ (Nat.le_refl w.heap.size)
    have hn : σ w.heap.size = none := by
      cases hs : σ w.heap.size with
      | none => rfl
      | some x => obtain ⟨_, _, _, c, e', h4, _⟩ := hR.world.obj _ x hs; have := (Array.getElem?_eq_some_iff.1 h4).1; omega
    obtain ⟨c1, c2, c3⟩ := hv'.cellsR hsol
    have hsz : (a.eval x).cells.size = s := by simp at c1; omega
    refine ⟨_, .slice (some ⟨w.heap.size, 0, none⟩) 1 1, A', _, G1.mv D (toObj w.heap.size 0), w.alloc (.cells (a.eval x).cells e), hk _ hn, .inl ?_, hR.step (fun _ _ _ h => h) (fun g m z i j hd hg => by rw [Ghost.mv_some hd hg]; rfl) ?_ (by simp), .lit _, OwnAt.of_plain rfl,
      (hext.trans (Ext.mv ..)).trans (Ext.alloc hR.fresh _ _)⟩
    · have hlim : ¬ (2 ^ 24 < 1 * s) := by omega
      have h0 : ¬ (1 * s = 0) := by omega
      have hfill : ∀ z0 : Array Value, z0.size = s → Instr.fill (fun i => some (i * s, s)) z0 [(0, a.eval x)] = some (a.eval x).cells := by
        intro z0 hz0
        simp only [Instr.fill, hsz]
        rw [if_neg (by simp; omega)]
        have := foldl_set (a.eval x).cells.toList z0 0 0
        rw [← Array.foldl_toList]
        simp only [Nat.zero_mul, Nat.zero_add, Array.toList_zipIdx] at this ⊢
        congr 1
        apply Array.ext'
        rw [this, setRange_full _ _ (by simp [hz0, hsz])]
      simp [execOp, ho, Instr.buildSlice, run_underlying (under_elem he), run_sizeOf hs, show ¬ (16777216 < s) by omega, show s ≠ 0 by omega, run_zeroValue hz0, newRow, hfill]
    · refine (hR.world.mv _ (fun _ _ => rfl)).newObj hD _ e _ (by simp at c1; omega) fun i c u hc hu => ?_
      have hu' : (a.eval x).cells.toList[i]? = some u := by simpa using hu
      refine ⟨c2 i u hu', c3 i c u hc hu', (hown'.cells hv' hsol i c u hc hu).re fun g m z hd hg => ?_⟩
      rw [Ghost.mv_some hd hg]; simp [toObj]

/-! ### Append to a row that is an object -/
/-- The row: its block, its cells, its length. -/
def rowOf (σ : Store) (sz : Nat) : AV → Option (Option Nat × List AV × Nat)
  | .lit (.slice none 0 0) => some (none, [], 0)
  | .lit (.slice (some ⟨o, 0, none⟩) n cap) => match σ o with
    | some cs => if cs.length = cap * sz ∧ n ≤ cap ∧ cap ≤ maxLen then some (some o, cs.take (n * sz), n) else none
    | none => none
  | _ => none
/-- What is appended: its block, if it is an object's row, which then is given up; its cells; its length. -/
def srcOf (σ : Store) (sz : Nat) : AV → Option (Option Nat × List AV × Nat)
  | .list _ sz' ws => if sz' = sz then some (none, (flat ws).map AV.drop1, ws.length) else none
  | .lit (.slice none 0 0) => some (none, [], 0)
  | .lit (.slice (some ⟨q, 0, none⟩) k _) => match σ q with
    | some ds => if k * sz ≤ ds.length then some (some q, ds.take (k * sz), k) else none
    | none => none
  | _ => none

/-- The zero value's cells are cells. -/
def tZeroOk (P : Program) (e : TypeId) : Bool := (tZero P e).any fun z => z.cells.toList.all Value.oneCell'
def aAppendObj (P : Program) (t : TypeId) (s x : Operand) (A : Slots) (σ : Store) (K : AV → Slots → Store → Prop) : Prop :=
  match tElem P t with
  | some e => match tSize P e, tBytes P e with
    | some sz, some bt => match rowOf σ sz (evalA A s), srcOf σ sz (evalA A x) with
      | some (o, old, m), some (q, new, k) => 0 < sz ∧ tZeroSize P e = some sz ∧ tZeroOk P e = true ∧ (o.isSome = true → o ≠ q) ∧ m + k ≤ maxLen ∧ (m + k) * bt ≤ 140737488355328 ∧
          (k = 0 → K (evalA A s) A σ) ∧ (0 < k → ∀ p cap, (o = some p ∨ σ p = none) → m + k ≤ cap → cap ≤ maxLen → K (.lit (.slice (some ⟨p, 0, none⟩) (m + k) cap)) A (((σ.delO o).delO q).upd p (old ++ new ++ List.replicate ((cap - (m + k)) * sz) .top)))
      | _, _ => False
    | _, _ => False
  | none => False

/-- The rights of two rows' cells, in a new one. -/
def toRow (o q : Option Nat) (p m : Nat) : Place → Place
  | .obj b j => if o = some b then .obj p j else if q = some b then .obj p (m + j) else .obj b j
  | π => π

theorem upd_any_size (w : World) (p : Nat) : True := trivial

/-- A new object out of two rows' cells. -/
theorem WR.objRow {D : Nat → Prop} {G : Ghost} {σ : Store} {w w' : World} (h : WR D G σ w) {o q : Option Nat} {p ml : Nat} (hp : o = some p ∨ σ p = none) (hfree : G.S p = none ∧ ∀ i, G.F p i = none) (hD : D p) {cells : List AV} {cur' : Array Value} {e : TypeId}
    (hg' : w'.heap[p]? = some (.cells cur' e (0, 0))) (hoth : ∀ k b, w.heap[k]? = some b → k ≠ p → w'.heap[k]? = some b) (hl : cells.length ≤ cur'.size)
    (hc : ∀ i c u, cells[i]? = some c → cur'[i]? = some u → u.oneCell' = true ∧ VR G.F c u ∧ Own1 (G.mv D (toRow o q p ml)) D (.obj p i) c u) :
    WR D (G.mv D (toRow o q p ml)) (((σ.delO o).delO q).upd p cells) w' := by
  have hσ : ∀ k, σ k = none → (((σ.delO o).delO q)) k = none := fun k hk => delO_none (delO_none hk)
  refine ⟨fun g i u hu => ?_, fun g n z ρ hg => ?_, fun b cs hcs => ?_⟩
  · obtain ⟨c, e', fz, h1, h2⟩ := h.frz g i u hu
    have : g ≠ p := fun e => by subst e; simp [Ghost.mv, hfree.2] at hu
    exact ⟨c, e', fz, hoth _ _ h1 this, h2⟩
  · obtain ⟨π', hg0⟩ := Ghost.mv_back hg
    obtain ⟨h1, ⟨c, e', h2, h3⟩, h4⟩ := h.own g n z π' hg0
    have hne : g ≠ p := fun e => by subst e; rw [hfree.1] at hg0; cases hg0
    exact ⟨by simp [Store.upd, hne, hσ g h1], ⟨c, e', hoth _ _ h2 hne, h3⟩, h4⟩
  · simp only [Store.upd] at hcs
    split at hcs
    · rename_i hb; subst hb
      simp only [Option.some.injEq] at hcs; subst hcs
      exact ⟨hD, Ghost.mv_none hfree.1, hfree.2, cur', e, hg', hl, hc⟩
    · rename_i hb
      have hq : (σ.delO o).delO q b ≠ none := by rw [hcs]; simp
      have hq1 := delO_ne hq
      have hb1 : σ.delO o b = some cs := by rcases delO_or (σ.delO o) q b with h' | h' <;> rw [h'] at hcs <;> first | exact hcs | cases hcs
      have hq2 := delO_ne (show σ.delO o b ≠ none by rw [hb1]; simp)
      have hb2 : σ b = some cs := by rcases delO_or σ o b with h' | h' <;> rw [h'] at hb1 <;> first | exact hb1 | cases hb1
      obtain ⟨r1, r2, r3, c', e', r4, r5, r6⟩ := h.obj b cs hb2
      refine ⟨r1, Ghost.mv_none r2, r3, c', e', hoth _ _ r4 hb, r5, fun i c u hci hu => ?_⟩
      obtain ⟨s1, s2, s3⟩ := r6 i c u hci hu
      refine ⟨s1, s2, s3.same fun g n z hd hg => ?_⟩
      rw [Ghost.mv_some hd hg]
      simp [toRow, hq1, hq2]

theorem setRow_append (cur : List Value) (m sz : Nat) (us : List Value) (h : m * sz + us.length ≤ cur.length) (i : Nat) : (setRange cur (m * sz) us)[i]? = if m * sz ≤ i ∧ i < m * sz + us.length then us[i - m * sz]? else cur[i]? := setRange_get _ _ _ _ h

theorem aAppendObj_sound {P : Program} {D : Nat → Prop} {n : Nat} {G : Ghost} {A : Slots} {σ : Store} {a : Act} {w : World} (h : Rel D n G A σ a w) {o : Oper} {K : AV → Slots → Store → Prop} {t : TypeId} {s x : Operand}
    (ho : o.op = .call { callee := .builtin .append, args := #[s, x], argTypes := #[t, t] }) (hK : aAppendObj P t s x A σ K) : Does P D n G a w o K := by
  unfold aAppendObj at hK
  split at hK
  case h_2 => exact hK.elim
  rename_i e he
  split at hK
  case h_2 => exact hK.elim
  rename_i sz bt hsz hbt
  split at hK
  case h_2 => exact hK.elim
  rename_i ob old m q new k hrow hsrc
  obtain ⟨hpos, hzs0, hzone, hoq, hmax, hbytes, hk0, hk⟩ := hK
  obtain ⟨z, hz, hzs⟩ : ∃ z, tZero P e = some z ∧ z.cells.size = sz := by
    unfold tZeroSize at hzs0
    cases hq : tZero P e with
    | none => simp [hq] at hzs0
    | some z => exact ⟨z, rfl, by simpa [hq] using hzs0⟩
  unfold tZeroOk at hzone
  rw [hz] at hzone
  simp only [Option.any_some] at hzone
  have ht := under_elem he
  obtain ⟨i, hi, hisz⟩ : ∃ i, P.info? e = some i ∧ i.size = sz := by
    unfold tSize at hsz; cases hq : P.info? e with
    | none => simp [hq] at hsz
    | some i => exact ⟨i, rfl, by simpa [hq] using hsz⟩
  have hibt : i.bytes = bt := by simpa [tBytes, hi] using hbt
  have hiz : i.zero = some z := by simpa [tZero, hi] using hz
  have hsv := h.eval s
  have hxv := h.eval x
  have run_of : ∀ {r : Value} {w' : World}, (Builtin.append_ #[t, t] o.type #[a.eval s, a.eval x]).run P w = .ok r w' → (execOp a.eval o).run P w = .ok (.value r) w' := by
    intro r w' hr
    simp [execOp, ho, resolve, invoke, builtin, Sem.run_bind, hr]
  generalize a.eval s = sv at *
  generalize a.eval x = xv at *
  generalize evalA A s = sa at *
  subst hisz hibt
  have hbig : ∀ {k : Nat}, k ≤ maxLen → (k : Int) ≤ 9223372036854775807 := fun hk => by unfold maxLen at hk; omega
  -- the source
  obtain ⟨us2, hus2, hc2, hxs⟩ : ∃ us2 : List Value, us2.length = k * i.size ∧ CellsR (fun c u => VR G.F c u) new us2 ∧ (∀ j c u, new[j]? = some c → us2[j]? = some u → (c.plain1 = true ∨ ∃ b, q = some b ∧ Own1 G D (.obj b j) c u)) ∧
      (((∃ xb, xv = .slice xb 0 0) ∧ k = 0) ∨ ∃ g2 off2 cap2, xv = .slice (some ⟨g2, off2, none⟩) k cap2 ∧ ∀ (j : Nat) (u : Value), us2[j]? = some u → w.cell? ((⟨g2, off2, none⟩ : Addr).add j) = some u) := by
    unfold srcOf at hsrc
    split at hsrc
    · rename_i own sz' ws hxa
      split at hsrc
      case isFalse => simp at hsrc
      rename_i hsz'; subst hsz'
      simp only [Option.some.injEq, Prod.mk.injEq] at hsrc
      obtain ⟨rfl, rfl, rfl⟩ := hsrc
      rw [hxa] at hxv
      have dropR : ∀ {us : List Value}, CellsR (VR G.F) (flat ws) us → CellsR (VR G.F) ((flat ws).map AV.drop1) us := fun hc => ⟨by simpa using hc.1, hc.2.1, fun j c u hcj hu => by
        rw [List.getElem?_map] at hcj
        cases hcc : (flat ws)[j]? with
        | none => simp [hcc] at hcj
        | some c' => simp [hcc] at hcj; subst hcj; exact (hc.2.2 j c' u hcc hu).drop1⟩
      have pl : ∀ {us2 : List Value} (j : Nat) (c : AV) (u : Value), ((flat ws).map AV.drop1)[j]? = some c → us2[j]? = some u → (c.plain1 = true ∨ ∃ b, (none : Option Nat) = some b ∧ Own1 G D (.obj b j) c u) := fun j c u hcj _ => by
        rw [List.getElem?_map] at hcj
        cases hcc : (flat ws)[j]? with
        | none => simp [hcc] at hcj
        | some c' => simp [hcc] at hcj; subst hcj; exact .inl (plain1_drop1 _)
      cases hxv with
      | nil => exact ⟨[], by simp, dropR ⟨rfl, by simp, by simp⟩, pl, .inl ⟨⟨_, rfl⟩, rfl⟩⟩
      | void => exact ⟨[], by simp, dropR ⟨rfl, by simp, by simp⟩, pl, .inl ⟨⟨_, rfl⟩, rfl⟩⟩
      | list _ _ _ g off m' cap us hn hc hw hl hF hv =>
        refine ⟨us, by rw [hl, flat_length hw], dropR ⟨hl.symm, fun j u hu => (hF j u hu).2, hv⟩, pl, .inr ⟨g, off, cap, by rw [hn], fun j u hu => ?_⟩⟩
        rw [add_addr]
        obtain ⟨cur, e', fz, q1, q2⟩ := h.world.frz _ _ _ (hF j u hu).1
        rw [cell_of_row w g (off + j) cur e' fz q1]; exact q2
    · rename_i hxa
      simp only [Option.some.injEq, Prod.mk.injEq] at hsrc
      obtain ⟨rfl, rfl, rfl⟩ := hsrc
      rw [hxa] at hxv
      cases hxv
      exact ⟨[], by simp, ⟨rfl, by simp, by simp⟩, by simp, .inl ⟨⟨_, rfl⟩, rfl⟩⟩
    · rename_i b k' cap' hxa
      split at hsrc
      case h_2 => simp at hsrc
      rename_i ds hds
      split at hsrc
      case isFalse => simp at hsrc
      rename_i hle
      simp only [Option.some.injEq, Prod.mk.injEq] at hsrc
      obtain ⟨rfl, rfl, rfl⟩ := hsrc
      rw [hxa] at hxv
      cases hxv
      obtain ⟨p1, p2, p3, cur, e', p4, p5, p6⟩ := h.world.obj b ds hds
      have get : ∀ {j : Nat} {u : Value}, (cur.toList.take (k' * i.size))[j]? = some u → j < k' * i.size ∧ cur[j]? = some u := fun {j u} hu => by
        have hj := (List.getElem?_eq_some_iff.1 hu).1
        simp at hj
        rw [List.getElem?_take_of_lt (by omega)] at hu
        exact ⟨by omega, by simpa using hu⟩
      have getc : ∀ {j : Nat} {c : AV}, (ds.take (k' * i.size))[j]? = some c → ds[j]? = some c := fun {j c} hc => by
        have hj := (List.getElem?_eq_some_iff.1 hc).1
        simp at hj
        rwa [List.getElem?_take_of_lt (by omega)] at hc
      refine ⟨cur.toList.take (k' * i.size), by simp; omega, ⟨by simp; omega, fun j u hu => ?_, fun j c u hc hu => (p6 j c u (getc hc) (get hu).2).2.1⟩, fun j c u hc hu => .inr ⟨b, rfl, (p6 j c u (getc hc) (get hu).2).2.2⟩, .inr ⟨b, 0, cap', rfl, fun j u hu => ?_⟩⟩
      · have hlt : j < ds.length := by have := (get hu).1; omega
        exact (p6 j _ u (List.getElem?_eq_getElem hlt) (get hu).2).1
      · rw [add_addr, Nat.zero_add, cell_of_row w b j cur e' (0, 0) p4]; exact (get hu).2
    · simp at hsrc
  obtain ⟨hxown, hxs⟩ := hxs
  have hone : ∀ u ∈ us2, u.oneCell' = true := fun u hu => by obtain ⟨j, hj⟩ := List.getElem?_of_mem hu; exact hc2.2.1 j u hj
  -- the base
  obtain ⟨us, hus, hc1, hbs⟩ : ∃ us : List Value, us.length = m * i.size ∧ CellsR (fun c u => VR G.F c u) old us ∧ (∀ j c u, old[j]? = some c → us[j]? = some u → ∃ b, ob = some b ∧ Own1 G D (.obj b j) c u) ∧
      ((sv = .slice none 0 0 ∧ m = 0 ∧ ob = none) ∨ ∃ b cap cs cur e', sv = .slice (some ⟨b, 0, none⟩) m cap ∧ ob = some b ∧ σ b = some cs ∧ cs.length = cap * i.size ∧ (m ≤ cap ∧ cap ≤ maxLen) ∧ w.heap[b]? = some (.cells cur e' (0, 0)) ∧ cs.length ≤ cur.size ∧ us = cur.toList.take (m * i.size) ∧ old = cs.take (m * i.size)) := by
    unfold rowOf at hrow
    split at hrow
    · simp only [Option.some.injEq, Prod.mk.injEq] at hrow
      obtain ⟨rfl, rfl, rfl⟩ := hrow
      cases hsv
      exact ⟨[], by simp, ⟨rfl, by simp, by simp⟩, by simp, .inl ⟨rfl, rfl, rfl⟩⟩
    · rename_i b m' cap' 
      split at hrow
      case h_2 => simp at hrow
      rename_i cs hcs
      split at hrow
      case isFalse => simp at hrow
      rename_i hle
      simp only [Option.some.injEq, Prod.mk.injEq] at hrow
      obtain ⟨rfl, rfl, rfl⟩ := hrow
      cases hsv
      obtain ⟨p1, p2, p3, cur, e', p4, p5, p6⟩ := h.world.obj b cs hcs
      have hmul : m' * i.size ≤ cap' * i.size := Nat.mul_le_mul_right _ hle.2.1
      have get : ∀ {j : Nat} {u : Value}, (cur.toList.take (m' * i.size))[j]? = some u → j < m' * i.size ∧ cur[j]? = some u := fun {j u} hu => by
        have hj := (List.getElem?_eq_some_iff.1 hu).1
        simp at hj
        rw [List.getElem?_take_of_lt (by omega)] at hu
        exact ⟨by omega, by simpa using hu⟩
      have getc : ∀ {j : Nat} {c : AV}, (cs.take (m' * i.size))[j]? = some c → cs[j]? = some c := fun {j c} hc => by
        have hj := (List.getElem?_eq_some_iff.1 hc).1
        simp at hj
        rwa [List.getElem?_take_of_lt (by omega)] at hc
      refine ⟨cur.toList.take (m' * i.size), by simp; omega, ⟨by simp; omega, fun j u hu => ?_, fun j c u hc hu => (p6 j c u (getc hc) (get hu).2).2.1⟩, fun j c u hc hu => ⟨b, rfl, (p6 j c u (getc hc) (get hu).2).2.2⟩, .inr ⟨b, cap', cs, cur, e', rfl, rfl, hcs, hle.1, hle.2, p4, p5, rfl, rfl⟩⟩
      have hlt : j < cs.length := by have := (get hu).1; omega
      exact (p6 j _ u (List.getElem?_eq_getElem hlt) (get hu).2).1
    · simp at hrow
  obtain ⟨hbown, hbs⟩ := hbs
  have hnl : new.length = k * i.size := hc2.1.trans hus2
  have hol : old.length = m * i.size := hc1.1.trans hus
  by_cases h0 : k = 0
  · -- nothing is appended
    subst h0
    refine ⟨sa, sv, A, σ, G, w, hk0 rfl, .inl (run_of ?_), h, hsv, ?_, Ext.refl ..⟩
    · have hu0 : us2 = [] := List.eq_nil_of_length_eq_zero (by simpa using hus2)
      subst hu0
      rcases hbs with ⟨rfl, rfl, rfl⟩ | ⟨b, cap, cs, cur, e', rfl, rfl, hcs, hcap, hmc, hheap, hcur, _, _⟩
      · rcases hxs with ⟨⟨xb, rfl⟩, _⟩ | ⟨g2, off2, cap2, rfl, _⟩
        · exact run_append_none w ht hi none xb 0 0 (Nat.le_refl _)
        · simp [Builtin.append_, run_underlying ht, sizeOf, typeInfo, hi, Builtin.lenOf, Builtin.firstCells, loadCells, loadCellsFrom]
      · rcases hxs with ⟨⟨xb, rfl⟩, _⟩ | ⟨g2, off2, cap2, rfl, _⟩
        · exact run_append_none w ht hi _ xb m cap hmc.1
        · simp [Builtin.append_, run_underlying ht, sizeOf, typeInfo, hi, Builtin.lenOf, Builtin.firstCells, loadCells, loadCellsFrom, hmc.1, storeCells]
    · have : sa.plain = true := by
        unfold rowOf at hrow
        split at hrow <;> first | rfl | (simp at hrow; done)
      exact OwnAt.of_plain this
  have hkpos : 0 < k := Nat.pos_of_ne_zero h0
  obtain ⟨g2, off2, cap2, rfl, hnews⟩ : ∃ g2 off2 cap2, xv = .slice (some ⟨g2, off2, none⟩) k cap2 ∧ ∀ (j : Nat) (u : Value), us2[j]? = some u → w.cell? ((⟨g2, off2, none⟩ : Addr).add j) = some u := by
    rcases hxs with ⟨_, h⟩ | h
    · exact absurd h h0
    · exact h
  have hkeepslot : ∀ p g m' z' i' j, D g → G.S g = some (m', z', .slot i' j) → (G.mv D (toRow ob q p (m * i.size))).S g = some (m', z', .slot i' j) := fun p g m' z' i' j hd hg => by rw [Ghost.mv_some hd hg]; rfl
  -- the cells of the new row
  have cellOk : ∀ (p tl : Nat) (j : Nat) (c : AV) (u : Value), (old ++ new ++ List.replicate tl AV.top)[j]? = some c → (j < (us ++ us2).length → (us ++ us2)[j]? = some u) → u.oneCell' = true →
      VR G.F c u ∧ Own1 (G.mv D (toRow ob q p (m * i.size))) D (.obj p j) c u := by
    intro p tl j c u hc hu h1
    have hlen : (old ++ new).length = (us ++ us2).length := by simp; omega
    rw [List.getElem?_append] at hc
    split at hc
    · rename_i hj
      have hu' := hu (by omega)
      rw [List.getElem?_append] at hc hu'
      split at hc
      · rename_i hj1
        rw [if_pos (by omega)] at hu'
        obtain ⟨b, hb, hown⟩ := hbown j c u hc hu'
        refine ⟨hc1.2.2 j c u hc hu', hown.re fun g n' z' hd hg => ?_⟩
        rw [Ghost.mv_some hd hg]; simp [toRow, hb]
      · rename_i hj1
        rw [if_neg (by omega)] at hu'
        have he1 : j - us.length = j - old.length := by omega
        rw [he1] at hu'
        refine ⟨hc2.2.2 _ c u hc hu', ?_⟩
        rcases hxown _ c u hc hu' with hp | ⟨b, hb, hown⟩
        · exact Own1.of_plain hp
        · refine hown.re fun g n' z' hd hg => ?_
          rw [Ghost.mv_some hd hg]
          have hbo : ob ≠ some b := fun hh => hoq (by simp [hh]) (by rw [hh, hb])
          have : m * i.size + (j - old.length) = j := by omega
          simp [toRow, hb, hbo, this]
    · rw [List.getElem?_replicate] at hc
      split at hc
      · simp at hc; subst hc; exact ⟨.top u, Own1.of_plain rfl⟩
      · cases hc
  -- a new row
  have grown : ∀ (oldc : Nat) (hg : (Builtin.append_ #[t, t] o.type #[sv, .slice (some ⟨g2, off2, none⟩) k cap2]).run P w =
        .ok (.slice (some ⟨w.heap.size, 0, none⟩) (m + k) (grownCap w (m + k) oldc e)) (w.drew.alloc (.cells (us.toArray ++ us2.toArray ++ Builtin.zeroCells z.cells (grownCap w (m + k) oldc e - (m + k))) e))), Does P D n G a w o K := by
    intro oldc hg
    have hge := grownCap_ge w (m + k) oldc e
    have hcm := grownCap_le_maxLen w (m + k) oldc e hmax
    have hD := h.fresh _ (Nat.le_refl w.heap.size)
    have hn : σ w.heap.size = none := by
      cases hs : σ w.heap.size with
      | none => rfl
      | some x => obtain ⟨_, _, _, c, e', h4, _⟩ := h.world.obj _ x hs; have := (Array.getElem?_eq_some_iff.1 h4).1; omega
    have hfree : G.S w.heap.size = none ∧ ∀ i, G.F w.heap.size i = none := by
      refine ⟨?_, fun i => ?_⟩
      · cases hs : G.S w.heap.size with
        | none => rfl
        | some x => obtain ⟨_, ⟨c, e', h2, _⟩, _⟩ := h.world.own _ x.1 x.2.1 x.2.2 hs; have := (Array.getElem?_eq_some_iff.1 h2).1; omega
      · cases hF : G.F w.heap.size i with
        | none => rfl
        | some u => obtain ⟨c, e', fz, h1, _⟩ := h.world.frz _ i u hF; have := (Array.getElem?_eq_some_iff.1 h1).1; omega
    have hzall : ∀ (j : Nat) (u : Value), (Builtin.zeroCells z.cells (grownCap w (m + k) oldc e - (m + k))).toList[j]? = some u → u.oneCell' = true := fun j u hu => by
      have hm := List.mem_of_getElem? hu
      simp only [Builtin.zeroCells, Array.mem_toList_iff] at hm
      rw [Array.mem_map] at hm
      obtain ⟨y, hy, rfl⟩ := hm
      simp at hy
      have hlt : y % z.cells.size < z.cells.size := Nat.mod_lt _ (by omega)
      rw [getElem!_pos z.cells _ hlt]
      exact List.all_eq_true.1 hzone _ (by simp)
    refine ⟨_, _, A, _, G.mv D (toRow ob q w.heap.size (m * i.size)), _, hk hkpos w.heap.size (grownCap w (m + k) oldc e) (.inr hn) hge hcm, .inl (run_of hg), h.step (fun _ _ _ h => h) (hkeepslot _) ?_ (by simp), .lit _, OwnAt.of_plain rfl, Ext.drew.trans ((Ext.mv ..).trans (Ext.alloc (by simpa using h.fresh) _ _))⟩
    have hWd := h.world.drew
    refine WR.objRow (w := w.drew) hWd (cur' := us.toArray ++ us2.toArray ++ Builtin.zeroCells z.cells (grownCap w (m + k) oldc e - (m + k))) (e := e) (.inr hn) hfree hD ?_ (fun b ob' hb hne => ?_) ?_ fun j c u hc hu => ?_
    · have := heap_alloc_new w.drew (.cells (us.toArray ++ us2.toArray ++ Builtin.zeroCells z.cells (grownCap w (m + k) oldc e - (m + k))) e)
      simpa using this
    · rw [Below.heap_alloc w.drew _ b (Array.getElem?_eq_some_iff.1 hb).1]; exact hb
    · simp [size_zeroCells, hzs, hus, hus2, hol, hnl]; omega
    · have hu' : (us ++ us2 ++ (Builtin.zeroCells z.cells (grownCap w (m + k) oldc e - (m + k))).toList)[j]? = some u := by
        rw [← Array.getElem?_toList, Array.toList_append, Array.toList_append] at hu
        exact hu
      have h1 : u.oneCell' = true := by
        rw [List.getElem?_append] at hu'
        split at hu'
        · rw [List.getElem?_append] at hu'
          split at hu'
          · exact hc1.2.1 _ _ hu'
          · exact hc2.2.1 _ _ hu'
        · exact hzall _ _ hu'
      refine ⟨h1, cellOk _ _ j c u hc (fun hj => ?_) h1⟩
      rwa [List.getElem?_append_left hj] at hu'
  rcases hbs with ⟨rfl, rfl, rfl⟩ | ⟨b, cap, cs, cur, e', rfl, rfl, hcs, hcap, hmc, hheap, hcur, hus', hold⟩
  · have hu0 : us = [] := List.eq_nil_of_length_eq_zero (by simpa using hus)
    subst hu0
    have hr := run_append_nil (P := P) w t o.type e i z ht hi hiz ⟨g2, off2, none⟩ k cap2 us2 hus2 hnews (by omega) (hbig (by omega)) (by rw [Nat.zero_add] at hbytes; omega)
    exact grown 0 (by simpa using hr)
  · by_cases hroom : m + k ≤ cap
    · -- in place
      obtain ⟨p1, p2, p3, cur2, e2, q4, _, p6⟩ := h.world.obj b cs hcs
      rw [hheap] at q4
      simp only [Option.some.injEq, Obj.cells.injEq, and_true] at q4
      obtain ⟨rfl, rfl⟩ := q4
      have hmul : (m + k) * i.size ≤ cap * i.size := Nat.mul_le_mul_right _ hroom
      rw [Nat.add_mul] at hmul
      have hfit : m * i.size + us2.length ≤ cur.size := by omega
      have hst := run_storeCells_at P b (m * i.size) e' us2 0 cur w hheap (by simpa using hfit) hone
      simp only [Nat.add_zero] at hst
      rw [toList_setRow hfit] at hst
      have hf := run_firstCells_some (P := P) w i.size k ⟨g2, off2, none⟩ k cap2 us2 hus2 hnews
      generalize hw' : w.setRow b (setRange cur.toList (m * i.size) us2).toArray = w' at hst
      have hrun : (Builtin.append_ #[t, t] o.type #[.slice (some ⟨b, 0, none⟩) m cap, .slice (some ⟨g2, off2, none⟩) k cap2]).run P w = .ok (.slice (some ⟨b, 0, none⟩) (m + k) cap) w' := by
        simp [Builtin.append_, run_underlying ht, sizeOf, typeInfo, hi, Builtin.lenOf, hroom, hf, add_addr, hst]
      have hg' : w'.heap[b]? = some (.cells (setRange cur.toList (m * i.size) us2).toArray e' (0, 0)) := by subst hw'; exact setRow_heap w b cur _ e' _ hheap
      have hoth : ∀ k, k ≠ b → w'.heap[k]? = w.heap[k]? := fun k hk => by subst hw'; exact setRow_other w b k _ hk
      · refine ⟨_, _, A, _, G.mv D (toRow (some b) q b (m * i.size)), w', hk hkpos b cap (.inl rfl) hroom hmc.2, .inl (run_of hrun), h.step (fun _ _ _ h => h) (hkeepslot _) ?_ (by subst hw'; simp), .lit _, OwnAt.of_plain rfl, (Ext.mv ..).trans ⟨by subst hw'; rfl, by subst hw'; rfl, by subst hw'; rfl, by subst hw'; simp, fun _ _ _ h => h, fun k hk => ?_⟩⟩
        · refine WR.objRow h.world (.inl rfl) ⟨p2, p3⟩ p1 hg' (fun k ob' hb hne => by rw [hoth k hne]; exact hb) ?_ fun j c u hc hu => ?_
          · have : (cap - (m + k)) * i.size = cap * i.size - (m + k) * i.size := Nat.sub_mul ..
            have h3 : (m + k) * i.size = m * i.size + k * i.size := Nat.add_mul ..
            simp [setRange_length]; omega
          · have hu' : (setRange cur.toList (m * i.size) us2)[j]? = some u := by simpa using hu
            rw [setRange_get _ _ _ _ (by simpa using hfit)] at hu'
            have h1 : u.oneCell' = true := by
              split at hu'
              · exact hc2.2.1 _ _ hu'
              · have hjl := (List.getElem?_eq_some_iff.1 hc).1
                have : (cap - (m + k)) * i.size = cap * i.size - (m + k) * i.size := Nat.sub_mul ..
                have h3 : (m + k) * i.size = m * i.size + k * i.size := Nat.add_mul ..
                simp at hjl
                have hlt : j < cs.length := by omega
                exact (p6 j _ u (List.getElem?_eq_getElem hlt) (by simpa using hu')).1
            refine ⟨h1, cellOk _ _ j c u hc (fun hj => ?_) h1⟩
            rw [List.getElem?_append]
            split at hu'
            · rename_i hjj; rw [if_neg (by omega)]; rwa [hus]
            · rename_i hjj
              simp only [List.length_append] at hj
              rw [if_pos (by omega), hus', List.getElem?_take_of_lt (by omega)]; exact hu'
        · have hne : k ≠ b := fun e => hk (e ▸ p1)
          exact ⟨hoth k hne, rfl, rfl⟩
    · -- a new row: what was is copied
      have holds : ∀ (j : Nat) (u : Value), us[j]? = some u → w.cell? ((⟨b, 0, none⟩ : Addr).add j) = some u := fun j u hu => by
        rw [add_addr, Nat.zero_add, cell_of_row w b j cur e' (0, 0) hheap]
        subst hus'
        have hj := (List.getElem?_eq_some_iff.1 hu).1
        simp at hj
        rw [List.getElem?_take_of_lt (by omega)] at hu
        simpa using hu
      have hr := run_append_grow (P := P) w t o.type e i z ht hi hiz ⟨b, 0, none⟩ m cap us (by omega) holds ⟨g2, off2, none⟩ k cap2 us2 hus2 hnews (by omega) (hbig hmax) (growslice_fits (by omega) hbytes)
      exact grown cap hr

/-! ### A load of a struct that takes its cells' rights -/
def aLoadTakeAgg (P : Program) (t : TypeId) (ad : AV) (A : Slots) (σ : Store) (K : AV → Slots → Store → Prop) : Prop :=
  match tSize P t, ad with
  | some s, .lit (.pointer (some ⟨o, off, none⟩)) => match σ o with
    | some cs => off + s ≤ cs.length ∧ K (.agg ((cs.drop off).take s)) A (σ.upd o (setRange cs off (((cs.drop off).take s).map AV.drop1)))
    | none => False
  | _, _ => False

def fromObjAgg (o off s : Nat) : Place → Place
  | .obj p j => if p = o ∧ off ≤ j ∧ j < off + s then .acc (j - off) else .obj p j
  | π => π

theorem aLoadTakeAgg_sound {P : Program} {D : Nat → Prop} {n : Nat} {G : Ghost} {A : Slots} {σ : Store} {a : Act} {w : World} (h : Rel D n G A σ a w) {o : Oper} {K : AV → Slots → Store → Prop} {t : TypeId} {y : Operand}
    (ho : o.op = .load t y) (hagg : tAgg P t = some true) (hK : aLoadTakeAgg P t (evalA A y) A σ K) : Does P D n G a w o K := by
  unfold aLoadTakeAgg at hK
  split at hK
  case h_2 => exact hK.elim
  rename_i s p off hs heq
  split at hK
  case h_2 => exact hK.elim
  rename_i cs hcs
  obtain ⟨hle, hK⟩ := hK
  have hy := h.eval y
  rw [heq] at hy
  generalize hyv : a.eval y = yv at hy
  cases hy
  obtain ⟨p1, p2, p3, cur, e, p4, p5, p6⟩ := h.world.obj p cs hcs
  generalize hus : (cur.toList.drop off).take s = us
  have hlen : us.length = s := by subst hus; simp; omega
  have key : ∀ (i : Nat) (c : AV) (u : Value), ((cs.drop off).take s)[i]? = some c → us[i]? = some u → cs[off + i]? = some c ∧ cur[off + i]? = some u := by
    intro i c u hc hu
    have hi : i < s := by have := (List.getElem?_eq_some_iff.1 hu).1; omega
    subst hus
    rw [List.getElem?_take_of_lt hi, List.getElem?_drop] at hc hu
    exact ⟨hc, by simpa using hu⟩
  have hlc : ((cs.drop off).take s).length = s := by simp; omega
  have keyu : ∀ (i : Nat) (u : Value), us[i]? = some u → ∃ c, ((cs.drop off).take s)[i]? = some c := fun i u hu => by
    have hi : i < s := by have := (List.getElem?_eq_some_iff.1 hu).1; omega
    exact ⟨_, List.getElem?_eq_getElem (by omega)⟩
  refine ⟨_, .agg us.toArray, A, _, G.mv D (fromObjAgg p off s), w, hK, .inl ?_, h.step (fun _ _ _ h => h) (fun g m z i j hd hg => by rw [Ghost.mv_some hd hg]; rfl) ?_ (Nat.le_refl _), .agg _ _ (by simp [hlen]; omega) (fun i u hu => ?_) (fun i c u hc hu => ?_), (fun j c u hc hu => ?_), Ext.mv ..⟩
  · have := run_loadCells_list (P := P) w ⟨p, off, none⟩ us (fun j v hj => by
      obtain ⟨c, hc⟩ := keyu j v hj
      rw [add_addr, cell_of_row w p (off + j) cur e (0, 0) p4]; exact (key j c v hc hj).2)
    rw [hlen] at this
    simp [execOp, ho, hyv, Instr.loadAt, Instr.sureAddr, loadVar, run_isAgg hagg, run_sizeOf hs, this]
  · refine h.world.objTo hcs rfl (fun g m z π hg => Ghost.mv_back hg) (fun g m z q i hd hq _ hg => by rw [Ghost.mv_some hd hg]; simp [fromObjAgg, hq]) p4 p4 (fun _ _ => rfl) (by simpa [setRange_length] using p5) fun i c' u hci hui => ?_
    rw [setRange_get _ _ _ _ (by simp; omega)] at hci
    split at hci
    · rename_i hi
      rw [List.getElem?_map] at hci
      simp only [List.length_map, hlc] at hi
      cases hcc : ((cs.drop off).take s)[i - off]? with
      | none => simp [hcc] at hci
      | some c0 =>
        simp [hcc] at hci; subst hci
        rw [List.getElem?_take_of_lt (by omega), List.getElem?_drop] at hcc
        rw [show off + (i - off) = i by omega] at hcc
        obtain ⟨q1, q2, q3⟩ := p6 i c0 u hcc hui
        exact ⟨q1, q2.drop1, Own1.drop1 ..⟩
    · rename_i hi
      simp only [List.length_map, hlc] at hi
      obtain ⟨q1, q2, q3⟩ := p6 i c' u hci hui
      refine ⟨q1, q2, q3.re fun g m z hd hg => ?_⟩
      rw [Ghost.mv_some hd hg]
      simp only [fromObjAgg, true_and]
      rw [if_neg hi]
  · have hu' : us[i]? = some u := by simpa using hu
    obtain ⟨c, hc⟩ := keyu i u hu'
    obtain ⟨k1, k2⟩ := key i c u hc hu'
    exact (p6 _ _ _ k1 k2).1
  · have hu' : us[i]? = some u := by simpa using hu
    obtain ⟨k1, k2⟩ := key i c u hc hu'
    exact (p6 _ _ _ k1 k2).2.1
  · have hu' : us[j]? = some u := by simpa using hu
    obtain ⟨k1, k2⟩ := key j c u hc hu'
    have hj : j < s := by have := (List.getElem?_eq_some_iff.1 hu').1; omega
    refine (p6 _ _ _ k1 k2).2.2.re fun g m z hd hg => ?_
    rw [Ghost.mv_some hd hg]
    simp only [fromObjAgg]
    rw [if_pos ⟨trivial, by omega, by omega⟩]
    simp

/-! ### A row that is an object becomes a list by value -/
theorem WR.freezeObj {D : Nat → Prop} {G : Ghost} {σ : Store} {w : World} (h : WR D G σ w) {p cap sz : Nat} {vs rest : List AV} (hcs : σ p = some (flat vs ++ rest)) (hcap : (flat vs ++ rest).length = cap * sz) (hm : cap ≤ maxLen) (hle : vs.length ≤ cap)
    (hw : ∀ v ∈ vs, v.cells.length = sz) (r : Nat → Place) (hr : ∀ o i, r 0 ≠ .obj o i) : ∃ G', WR D G' (σ.del p) w ∧ VR G'.F (.list true sz vs) (.slice (some ⟨p, 0, none⟩) vs.length cap) ∧ OwnAt G' D r (.list true sz vs) (.slice (some ⟨p, 0, none⟩) vs.length cap) ∧
      Ext D G w G' w ∧ (∀ k, k ≠ p → G'.S k = G.S k) ∧ G.S p = none := by
  obtain ⟨p1, p2, p3, cur, e, p4, p5, p6⟩ := h.obj p _ hcs
  have hfl := flat_length hw
  have hlen : (flat vs).length ≤ cur.size := by have := p5; simp at this; omega
  have hW1 : WR D (G.setS p (0, cur.size, r 0)) (σ.del p) w := by
    refine ⟨h.frz, fun g n z ρ hg => ?_, fun o cs ho => ?_⟩
    · simp only [Ghost.setS] at hg
      split at hg
      · rename_i hgp; subst hgp
        simp only [Option.some.injEq, Prod.mk.injEq] at hg
        obtain ⟨rfl, rfl, rfl⟩ := hg
        exact ⟨by simp [Store.del], ⟨cur, e, p4, rfl⟩, fun i _ => p3 i⟩
      · obtain ⟨h1, h2⟩ := h.own g n z ρ hg
        refine ⟨?_, h2⟩
        simp only [Store.del]; split
        · rfl
        · exact h1
    · simp only [Store.del] at ho
      split at ho
      · cases ho
      · rename_i hop
        obtain ⟨q1, q2, q3, c, e', q4, q5, q6⟩ := h.obj o cs ho
        refine ⟨q1, by simp [Ghost.setS, hop, q2], q3, c, e', q4, q5, fun i cc u hc hu => ?_⟩
        obtain ⟨s1, s2, s3⟩ := q6 i cc u hc hu
        refine ⟨s1, s2, s3.same fun g n z hd hg => ?_⟩
        have hgp : g ≠ p := fun e => by subst e; rw [p2] at hg; cases hg
        simp [Ghost.setS, hgp, hg]
  have hS1 : (G.setS p (0, cur.size, r 0)).S p = some (0, cur.size, r 0) := by simp [Ghost.setS]
  generalize hus : cur.toList.take (flat vs).length = us
  have husl : us.length = (flat vs).length := by subst hus; simp; omega
  have hget : ∀ (i : Nat) (u : Value), us[i]? = some u → cur[i]? = some u := fun i u hu => by
    have hi := (List.getElem?_eq_some_iff.1 hu).1
    subst hus
    rw [List.getElem?_take_of_lt (by omega)] at hu
    simpa using hu
  have hW2 := hW1.freeze hS1 hr p4 us (fun i u hu => by simpa using hget i u hu) (r 0)
  generalize hG' : Ghost.setS ⟨Frz.put (G.setS p (0, cur.size, r 0)).F p 0 us, (G.setS p (0, cur.size, r 0)).S⟩ p (0 + us.length, cur.size, r 0) = G' at hW2
  have hGF : G'.F = Frz.put G.F p 0 us := by subst hG'; rfl
  have hmono : ∀ g i u, G.F g i = some u → G'.F g i = some u := fun g i u hu => by
    rw [hGF]; exact Frz.put_mono (fun i _ => p3 i) g i u hu
  have hGS : ∀ k, k ≠ p → G'.S k = G.S k := fun k hk => by subst hG'; simp [Ghost.setS, hk]
  have hGS0 : G'.S p = some (us.length, cur.size, r 0) := by subst hG'; simp [Ghost.setS]
  have cell : ∀ (i : Nat) (c : AV) (u : Value), (flat vs)[i]? = some c → us[i]? = some u → u.oneCell' = true ∧ VR G.F c u := fun i c u hc hu => by
    have hi := (List.getElem?_eq_some_iff.1 hc).1
    obtain ⟨q1, q2, _⟩ := p6 i c u (by rw [List.getElem?_append_left hi]; exact hc) (hget i u hu)
    exact ⟨q1, q2⟩
  refine ⟨G', hW2, .list true sz vs p 0 _ cap us rfl hle hw husl (fun i u hu => ⟨?_, ?_⟩) (fun i c u hc hu => (cell i c u hc hu).2.mono hmono), ⟨p1, cur.size, ?_, ?_, hm⟩, ⟨rfl, rfl, rfl, Nat.le_refl _, hmono, fun k hk => ?_⟩, hGS, p2⟩
  · rw [hGF]; exact Frz.put_at G.F p 0 us i u hu
  · have hi : i < (flat vs).length := by have := (List.getElem?_eq_some_iff.1 hu).1; omega
    exact (cell i _ u (List.getElem?_eq_getElem hi) hu).1
  · rw [hGS0, husl, hfl]; simp
  · simp only [Nat.zero_add]; omega
  · have hne : k ≠ p := fun e => hk (e ▸ p1)
    refine ⟨rfl, hGS k hne, ?_⟩
    rw [hGF]; exact Frz.put_other hne

/-! ### A struct or an array out of its parts, with their rights -/
def pty (P : Program) (t : TypeId) (i : Nat) : TypeId := ((tField P t i).map (·.2)).getD (((tArr P t).map (·.2)).getD 0)
def fillTake (P : Program) (t : TypeId) : List (Nat × Operand) → List AV → Slots → (List AV → Slots → Prop) → Prop
  | [], cs, A, K => K cs A
  | (i, x) :: rest, cs, A, K => match tPart P t i with
    | some (off, s) => takeA A x fun v A' => (conv P (pty P t i) v).solid = true ∧ (conv P (pty P t i) v).cells.length = s ∧ off + s ≤ cs.length ∧ fillTake P t rest (setRange cs off (conv P (pty P t i) v).cells) A' K
    | none => False
def aBuildTake (P : Program) (t : TypeId) (parts : Array (Nat × Operand)) (A : Slots) (σ : Store) (K : AV → Slots → Store → Prop) : Prop :=
  match tParts P t, azero P t with
  | true, some zs => fillTake P t parts.toList zs A fun cs A' => K (.agg cs) A' σ
  | _, _ => False

def CellsI (G : Ghost) (D : Nat → Prop) (cs : List AV) (us : List Value) : Prop :=
  cs.length = us.length ∧ (∀ (i : Nat) (u : Value), us[i]? = some u → u.oneCell' = true) ∧ ∀ (i : Nat) (c : AV) (u : Value), cs[i]? = some c → us[i]? = some u → VR G.F c u ∧ Own1 G D (.arg i 0) c u

def toPart (t off : Nat) : Place → Place
  | .slot i j => if i = t then .arg (off + j) 0 else .slot i j
  | π => π

theorem fillTake_sound {P : Program} {t : TypeId} {D : Nat → Prop} {n : Nat} {σ : Store} {a : Act} {w : World} {place : Nat → Option (Nat × Nat)} (hp : ∀ i p, tPart P t i = some p → place i = some p) : ∀ (parts : List (Nat × Operand)) (cs : List AV) (us : Array Value) {G : Ghost} {A : Slots} {K : List AV → Slots → Prop},
    Rel D n G A σ a w → CellsI G D cs us.toList → fillTake P t parts cs A K →
    ∃ us' cs' A' G', K cs' A' ∧ Instr.fill place us (parts.map fun p => (p.1, a.eval p.2)) = some us' ∧ Rel D n G' A' σ a w ∧ CellsI G' D cs' us'.toList ∧ Ext D G w G' w
  | [], cs, us, G, A, K, h, hc, hK => ⟨us, cs, A, G, hK, rfl, h, hc, Ext.refl ..⟩
  | (i, x) :: rest, cs, us, G, A, K, h, hc, hK => by
    simp only [fillTake] at hK
    split at hK
    case h_2 => exact hK.elim
    rename_i off s hpt
    obtain ⟨v, A1, G1, ⟨k1, k2, k3, k4⟩, hR1, hv1, ho1, hext1, hF1, hkeep⟩ : ∃ v A1 G1, ((conv P (pty P t i) v).solid = true ∧ (conv P (pty P t i) v).cells.length = s ∧ off + s ≤ cs.length ∧ fillTake P t rest (setRange cs off (conv P (pty P t i) v).cells) A1 K) ∧
        Rel D n G1 A1 σ a w ∧ VR G1.F v (a.eval x) ∧ OwnAt G1 D (fun j => .arg (off + j) 0) v (a.eval x) ∧ Ext D G w G1 w ∧ G1.F = G.F ∧ ∀ g m z i j, D g → G.S g = some (m, z, .arg i j) → G1.S g = some (m, z, .arg i j) := by
      have plain : ∀ y : Operand, (evalA A y).plain = true → y = x → takeA A y (fun v A' => (conv P (pty P t i) v).solid = true ∧ (conv P (pty P t i) v).cells.length = s ∧ off + s ≤ cs.length ∧ fillTake P t rest (setRange cs off (conv P (pty P t i) v).cells) A' K) → (∀ K2, takeA A y K2 → K2 (evalA A y) A) →
          ∃ v A1 G1, ((conv P (pty P t i) v).solid = true ∧ (conv P (pty P t i) v).cells.length = s ∧ off + s ≤ cs.length ∧ fillTake P t rest (setRange cs off (conv P (pty P t i) v).cells) A1 K) ∧
          Rel D n G1 A1 σ a w ∧ VR G1.F v (a.eval x) ∧ OwnAt G1 D (fun j => .arg (off + j) 0) v (a.eval x) ∧ Ext D G w G1 w ∧ G1.F = G.F ∧ ∀ g m z i j, D g → G.S g = some (m, z, .arg i j) → G1.S g = some (m, z, .arg i j) := by
        rintro y hpl rfl hk hk2
        exact ⟨_, A, G, hk2 _ hk, h, h.eval y, OwnAt.of_plain hpl, Ext.refl .., rfl, fun _ _ _ _ _ _ h => h⟩
      cases x with
      | const c => exact plain (.const c) rfl rfl hK (fun _ h => h)
      | global g => exact plain (.global g) rfl rfl hK (fun _ h => h)
      | func f => exact plain (.func f) rfl rfl hK (fun _ h => h)
      | tmp u =>
        refine ⟨A u, _, G.mv D (toPart u off), hK, ⟨h.defers, h.size, fun i => ?_, fun i => ?_, h.world.mv _ (fun _ _ => rfl), h.fresh⟩, h.val u, ?_, Ext.mv .., rfl, fun g m z i j hd hg => by rw [Ghost.mv_some hd hg]; rfl⟩
        · simp only [upd]; split
          · rename_i hi; subst hi; exact (h.val i).share
          · exact h.val i
        · simp only [upd]; split
          · exact OwnAt.share ..
          · rename_i hi
            exact (h.own i).re fun g m z j hd hg => by rw [Ghost.mv_some hd hg]; simp [toPart, hi]
        · exact (h.own u).re fun g m z j hd hg => by rw [Ghost.mv_some hd hg]; simp [toPart]
    have hv' : VR G1.F (conv P (pty P t i) v) (a.eval x) := conv_VR hv1
    have ho' : OwnAt G1 D (fun j => .arg (off + j) 0) (conv P (pty P t i) v) (a.eval x) := conv_own hv1 ho1
    generalize conv P (pty P t i) v = v2 at k1 k2 k3 k4 hv' ho'
    obtain ⟨c1, c2, c3⟩ := hv'.cellsR k1
    obtain ⟨d1, d2, d3⟩ := hc
    have hsz : (a.eval x).cells.size = s := by simp at c1; omega
    have hus : cs.length = us.size := by simpa using d1
    have hset := foldl_set (a.eval x).cells.toList us off 0
    have hI : CellsI G1 D (setRange cs off v2.cells) (setRange us.toList off (a.eval x).cells.toList) := by
      refine ⟨by simp [setRange_length, d1], fun j u hu => ?_, fun j c u hcj hu => ?_⟩
      · rw [setRange_get _ _ _ _ (by simp; omega)] at hu
        split at hu
        · exact c2 _ _ hu
        · exact d2 _ _ hu
      · rw [setRange_get _ _ _ _ (by simp; omega)] at hu
        rw [setRange_get _ _ _ _ (by omega)] at hcj
        simp only [Array.length_toList, hsz] at hu
        rw [k2] at hcj
        split at hu
        · rename_i hj; rw [if_pos hj] at hcj
          refine ⟨c3 _ _ _ hcj hu, ?_⟩
          have := ho'.cells hv' k1 (j - off) c u hcj (by simpa using hu)
          rwa [show off + (j - off) = j by omega] at this
        · rename_i hj; rw [if_neg hj] at hcj
          obtain ⟨q1, q2⟩ := d3 j c u hcj hu
          exact ⟨by rw [hF1]; exact q1, q2.same fun g m z hd hg => hkeep g m z j 0 hd hg⟩
    obtain ⟨us', cs', A', G', r1, r2, r3, r4, r5⟩ := fillTake_sound hp rest (setRange cs off v2.cells) ((a.eval x).cells.zipIdx.foldl (fun cs p => cs.setIfInBounds (off + p.2) p.1) us) hR1 (by
        rw [← Array.foldl_toList]
        simp only [Nat.add_zero, Array.toList_zipIdx] at hset ⊢
        rw [hset]; exact hI) k4
    refine ⟨us', cs', A', G', r1, ?_, r3, r4, hext1.trans r5⟩
    simp only [List.map_cons, Instr.fill, hp i _ hpt, hsz]
    rw [if_neg (by simp; omega)]
    exact r2

def fromPart : Place → Place
  | .arg p 0 => .acc p
  | π => π

theorem aBuildTake_sound {P : Program} {D : Nat → Prop} {n : Nat} {G : Ghost} {A : Slots} {σ : Store} {a : Act} {w : World} (h : Rel D n G A σ a w) {o : Oper} {K : AV → Slots → Store → Prop} {t : TypeId} {parts : Array (Nat × Operand)}
    (ho : o.op = .build t parts) (hK : aBuildTake P t parts A σ K) : Does P D n G a w o K := by
  unfold aBuildTake at hK
  split at hK
  case h_2 => exact hK.elim
  rename_i zs hb hz
  obtain ⟨z, hz1, hz2⟩ := azero_sound hz G.F
  have h0 : CellsI G D zs z.cells.toList := ⟨hz2.1, hz2.2.1, fun i c u hc hu => ⟨(hz2.2.2 i c u hc hu).1, (hz2.2.2 i c u hc hu).own ..⟩⟩
  have fin : ∀ {place : Nat → Option (Nat × Nat)}, (∀ i p, tPart P t i = some p → place i = some p) → (∀ us', Instr.fill place z.cells (parts.toList.map fun p => (p.1, a.eval p.2)) = some us' → (Instr.build t (parts.map fun p => (p.1, a.eval p.2))).run P w = .ok (.agg us') w) → Does P D n G a w o K := by
    intro place hp hrun
    obtain ⟨us', cs', A', G', r1, r2, r3, r4, r5⟩ := fillTake_sound hp parts.toList zs z.cells h h0 hK
    have hR : Rel D n (G'.mv D fromPart) A' σ a w := ⟨r3.defers, r3.size, r3.val, fun i => (r3.own i).re fun g m z j hd hg => by rw [Ghost.mv_some hd hg]; rfl, r3.world.mv _ (fun _ _ => rfl), r3.fresh⟩
    refine ⟨_, .agg us', A', σ, G'.mv D fromPart, w, r1, .inl ?_, hR, .agg _ _ (by simpa using r4.1) (fun i u hu => r4.2.1 i u (by simpa using hu)) (fun i c u hc hu => (r4.2.2 i c u hc (by simpa using hu)).1), fun j c u hc hu => ?_, r5.trans (Ext.mv ..)⟩
    · simp [execOp, ho, hrun us' r2]
    · exact (r4.2.2 j c u hc (by simpa using hu)).2.re fun g m z hd hg => by rw [Ghost.mv_some hd hg]; rfl
  unfold tParts at hb
  cases hu : P.underlying t with
  | none => simp [hu] at hb
  | some d =>
    cases d with
    | struct fs =>
      refine fin (place := ((fs.toList.map fun f => (f.offset, (tSize P f.type).getD 0)).toArray[·]?)) (fun i p hp => ?_) fun us' hf => ?_
      · have ha : tArr P t = none := by simp [tArr, hu]
        simp only [tPart, ha, tField, hu, Option.bind_some] at hp
        cases hf : fs[i]? with
        | none => simp [hf] at hp
        | some f =>
          simp [hf] at hp
          obtain ⟨s, hs, rfl⟩ := hp
          simp [hf, hs]
      · have hm := mapM_sizes (P := P) w fs.toList (by intro f hf; simp only [hu, Option.any_some] at hb; exact List.all_eq_true.1 hb f hf)
        have hm' : (fs.mapM fun f => (do pure (f.offset, ← sizeOf f.type) : Sem (Nat × Nat))).run P w = .ok (fs.toList.map fun f => (f.offset, (tSize P f.type).getD 0)).toArray w := by
          rw [Array.mapM_eq_mapM_toList, Sem.run_map, hm]
          rfl
        simp only [Instr.build, Sem.run_bind, run_zeroValue hz1, Result.andThen_ok, run_underlying hu, hm', Array.toList_map, hf]
        simp
    | array m e =>
      have ha : tArr P t = some (m, e) := by simp [tArr, hu]
      cases hs : tSize P e with
      | none => simp [hu, hs] at hb
      | some s =>
        refine fin (place := fun i => some (i * s, s)) (fun i p hp => by simpa [tPart, ha, hs] using hp) fun us' hf => ?_
        simp only [Instr.build, Sem.run_bind, run_zeroValue hz1, Result.andThen_ok, run_underlying hu, run_sizeOf hs, Array.toList_map, hf]
        simp
    | _ => simp [hu] at hb
end Go.AL
