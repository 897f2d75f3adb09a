/-
  The abstract-state logic: operations that change the state: boxes, stores, new rows, append.
-/
import Derived.Test.YtkfhpnfgnjmdbaaALPure4
namespace Go.AL
open Go Go.RowKit Classical

theorem Rel.step {D : Nat → Prop} {n : Nat} {G G' : Ghost} {A : Slots} {σ σ' : Store} {a : Act} {w w' : World} (h : Rel D n G A σ a w) (hF : ∀ g i u, G.F g i = some u → G'.F g i = some u)
    (hS : ∀ g m z i j, D g → G.S g = some (m, z, .slot i j) → G'.S g = some (m, z, .slot i j)) (hW : WR D G' σ' w') (hsz : w.heap.size ≤ w'.heap.size) : Rel D n G' A σ' a w' :=
  ⟨h.defers, h.size, fun i => (h.val i).mono hF, fun i => (h.own i).re fun g m z j hd hg => hS g m z i j hd hg, hW, fun k hk => h.fresh k (Nat.le_trans hsz hk)⟩

/-- What an operation comes to. -/
def Does (P : Program) (D : Nat → Prop) (n : Nat) (G : Ghost) (a : Act) (w : World) (o : Oper) (K : AV → Slots → Store → Prop) : Prop :=
  ∃ v cv A' σ' G' w', K v A' σ' ∧ ((execOp a.eval o).run P w = .ok (.value cv) w' ∨ ((execOp a.eval o).run P w = .ok .skip w' ∧ cv = undef)) ∧
    Rel D n G' A' σ' a w' ∧ VR G'.F v cv ∧ OwnAt G' D .acc v cv ∧ Ext D G w G' w'

theorem Ext.alloc {D : Nat → Prop} {w : World} (hD : ∀ k, w.heap.size ≤ k → D k) (G : Ghost) (o : Obj) : Ext D G w G (w.alloc o) :=
  ⟨rfl, rfl, rfl, by simp, fun _ _ _ h => h, fun k hk => ⟨Below.heap_alloc w o k (by
    rcases Nat.lt_or_ge k w.heap.size with h | h
    · exact h
    · exact absurd (hD k h) hk), rfl, rfl⟩⟩
theorem Ext.setS {D : Nat → Prop} {w : World} {G : Ghost} {F : Frz} {g : Nat} (hg : D g) (x : Nat × Nat × Place) (hF : ∀ k i u, G.F k i = some u → F k i = some u) (ho : ∀ k, k ≠ g → F k = G.F k) :
    Ext D G w (Ghost.setS ⟨F, G.S⟩ g x) w :=
  ⟨rfl, rfl, rfl, Nat.le_refl _, hF, fun k hk => by
    have hne : k ≠ g := fun e => hk (e ▸ hg)
    exact ⟨rfl, by simp [Ghost.setS, hne], ho k hne⟩⟩

theorem CellsR.mono {R R' : AV → Value → Prop} {cs : List AV} {us : List Value} (h : CellsR R cs us) (hr : ∀ c u, R c u → R' c u) : CellsR R' cs us :=
  ⟨h.1, h.2.1, fun i c u hc hu => hr _ _ (h.2.2 i c u hc hu)⟩

/-! ### boxes -/
theorem newObj_does {P : Program} {D : Nat → Prop} {n : Nat} {G : Ghost} {A : Slots} {σ : Store} {a : Act} {w : World} (h : Rel D n G A σ a w) {o : Oper} {K : AV → Slots → Store → Prop} {cs : List AV} {cur : Array Value} {e : TypeId}
    (hc : CellsR (VRn G.F) cs cur.toList) (f : Nat → Value) (hK : ∀ p, σ p = none → K (.lit (f p)) A (σ.upd p cs))
    (hr : (execOp a.eval o).run P w = .ok (.value (f w.heap.size)) (w.alloc (.cells cur e))) : Does P D n G a w o K := by
  have hD := h.fresh _ (Nat.le_refl w.heap.size)
  have hn : σ w.heap.size = none := by
    cases hs : σ w.heap.size with
    | none => rfl
    | some x => obtain ⟨_, _, _, c, e', h4, _⟩ := h.world.obj _ x hs; have := (Array.getElem?_eq_some_iff.1 h4).1; omega
  refine ⟨_, _, _, _, G, _, hK _ hn, .inl hr, h.step (fun _ _ _ h => h) (fun _ _ _ _ _ _ h => h) (h.world.newObj hD cur e cs (by have := hc.1; simp at this; omega) fun i c u hci hu => ?_) (by simp), .lit _, OwnAt.of_plain rfl, Ext.alloc h.fresh G _⟩
  have hu' : cur.toList[i]? = some u := by simpa using hu
  exact ⟨hc.2.1 i u hu', (hc.2.2 i c u hci hu').1, (hc.2.2 i c u hci hu').own ..⟩

def aAlloc (P : Program) (e : TypeId) (A : Slots) (σ : Store) (K : AV → Slots → Store → Prop) : Prop :=
  match azero P e with
  | some cs => ∀ p, σ p = none → K (.lit (.pointer (some ⟨p, 0, none⟩))) A (σ.upd p cs)
  | none => False
def aBox (P : Program) (e : TypeId) (x : Operand) (A : Slots) (σ : Store) (K : AV → Slots → Store → Prop) : Prop :=
  takeA A x fun v A' => (conv P e v).solid = true ∧ ∀ p, σ p = none → K (.lit (.pointer (some ⟨p, 0, none⟩))) A' (σ.upd p (conv P e v).cells)

theorem aAlloc_sound {P : Program} {D : Nat → Prop} {n : Nat} {G : Ghost} {A : Slots} {σ : Store} {a : Act} {w : World} (h : Rel D n G A σ a w) {o : Oper} {K : AV → Slots → Store → Prop} {e : TypeId} (ho : o.op = .alloc e)
    (hK : aAlloc P e A σ K) : Does P D n G a w o K := by
  unfold aAlloc at hK
  split at hK
  case h_2 => exact hK.elim
  rename_i cs hz
  obtain ⟨z, hz1, hz2⟩ := azero_sound hz G.F
  refine newObj_does h (cur := z.cells) (e := e) hz2 (fun p => .pointer (some ⟨p, 0, none⟩)) hK ?_
  simp [execOp, ho, Instr.alloc, run_zeroValue hz1, newVar, newRow]
/-! ### stores -/
theorem WR.objTo {D : Nat → Prop} {G G' : Ghost} {σ : Store} {w w' : World} (h : WR D G σ w) {o : Nat} {cs cs' : List AV} (hcs : σ o = some cs) (hF : G'.F = G.F)
    (hb : ∀ g n z π, G'.S g = some (n, z, π) → ∃ π', G.S g = some (n, z, π'))
    (hob : ∀ g n z p i, D g → p ≠ o → σ p ≠ none → G.S g = some (n, z, .obj p i) → G'.S g = some (n, z, .obj p i))
    {cur cur' : Array Value} {e : TypeId} (hg : w.heap[o]? = some (.cells cur e (0, 0))) (hg' : w'.heap[o]? = some (.cells cur' e (0, 0))) (hother : ∀ k, k ≠ o → w'.heap[k]? = w.heap[k]?)
    (hl : cs'.length ≤ cur'.size) (hc : ∀ i c u, cs'[i]? = some c → cur'[i]? = some u → u.oneCell' = true ∧ VR G.F c u ∧ Own1 G' D (.obj o i) c u) : WR D G' (σ.upd o cs') w' := by
  obtain ⟨p1, p2, p3, _, _, _, _, _⟩ := h.obj o cs hcs
  have hS' : ∀ k, G.S k = none → G'.S k = none := fun k hk => by
    cases hs : G'.S k with
    | none => rfl
    | some x => obtain ⟨π', hx⟩ := hb k x.1 x.2.1 x.2.2 hs; simp [hk] at hx
  refine ⟨fun g j v hv => ?_, fun g n z ρ hgS => ?_, fun o' cs'' hcs' => ?_⟩
  · rw [hF] at hv
    obtain ⟨c', e', fz, q1, q2⟩ := h.frz g j v hv
    have : g ≠ o := fun e => by subst e; simp [p3] at hv
    exact ⟨c', e', fz, by rw [hother g this]; exact q1, q2⟩
  · obtain ⟨π', hgS'⟩ := hb g n z ρ hgS
    obtain ⟨q1, ⟨c', e', q2, q3⟩, q4⟩ := h.own g n z π' hgS'
    have : g ≠ o := fun e => by subst e; simp [p2] at hgS'
    exact ⟨by simp [Store.upd, this, q1], ⟨c', e', by rw [hother g this]; exact q2, q3⟩, by rw [hF]; exact q4⟩
  · simp only [Store.upd] at hcs'
    split at hcs'
    · rename_i hoo; subst hoo
      simp only [Option.some.injEq] at hcs'; subst hcs'
      exact ⟨p1, hS' _ p2, by rw [hF]; exact p3, cur', e, hg', hl, by rw [hF]; exact hc⟩
    · rename_i hoo
      obtain ⟨q1, q2, q3, c', e', q4, q5, q6⟩ := h.obj o' cs'' hcs'
      refine ⟨q1, hS' _ q2, by rw [hF]; exact q3, c', e', by rw [hother o' hoo]; exact q4, q5, fun i c u hci hu => ?_⟩
      obtain ⟨r1, r2, r3⟩ := q6 i c u hci hu
      exact ⟨r1, by rw [hF]; exact r2, r3.same fun k m y hd hk => hob k m y o' i hd hoo (by rw [hcs']; simp) hk⟩

/-- From the accumulator into an object, from this place on. -/
def toObj (o off : Nat) : Place → Place
  | .acc j => .obj o (off + j)
  | π => π

def aStore (P : Program) (t : TypeId) (ad : AV) (x : Operand) (A : Slots) (σ : Store) (K : AV → Slots → Store → Prop) : Prop :=
  match ad with
  | .lit (.pointer (some ⟨o, off, none⟩)) => match σ o with
    | some cs => takeA A x fun v A' => (conv P t v).solid = true ∧ tSize P t = some (conv P t v).cells.length ∧ off + (conv P t v).cells.length ≤ cs.length ∧ K .top A' (σ.upd o (setRange cs off (conv P t v).cells))
    | none => False
  | _ => False

theorem toList_setRow {cur : Array Value} {us : List Value} {off : Nat} (h : off + us.length ≤ cur.size) : cur.toList.take off ++ us ++ cur.toList.drop (off + us.length) = setRange cur.toList off us := by
  apply List.ext_getElem?
  intro i
  rw [setRange_get _ _ _ _ (by simpa using h)]
  by_cases h1 : i < off
  · rw [if_neg (by omega), List.append_assoc, List.getElem?_append_left (by simp; omega), List.getElem?_take_of_lt h1]
  · by_cases h2 : i < off + us.length
    · rw [if_pos (by omega), List.append_assoc, List.getElem?_append_right (by simp; omega), List.getElem?_append_left (by simp; omega)]
      congr 1; simp; omega
    · rw [if_neg (by omega), List.getElem?_append_right (by simp; omega), List.getElem?_drop]
      congr 1; simp; omega

theorem OwnAt.cells {G : Ghost} {D : Nat → Prop} {r : Nat → Place} {a : AV} {v : Value} (h : OwnAt G D r a v) (hv : VR G.F a v) (hs : a.solid = true) : ∀ (j : Nat) (c : AV) (u : Value), a.cells[j]? = some c → v.cells[j]? = some u → Own1 G D (r j) c u := by
  intro j c u hc hu
  cases hv with
  | agg cs us => exact h j c u hc hu
  | top v => simp [AV.solid, AV.one] at hs
  | tuple => simp [AV.solid, AV.one] at hs
  | lit v => 
    have : c.plain1 = true := by
      cases j with
      | zero => simp [AV.cells] at hc; subst hc; rfl
      | succ j => simp [AV.cells] at hc
    exact Own1.of_plain this
  | _ =>
    cases j with
    | zero => simp [AV.cells, Value.cells] at hc hu; subst hc hu; exact h
    | succ j => simp [AV.cells] at hc

theorem aBox_sound {P : Program} {D : Nat → Prop} {n : Nat} {G : Ghost} {A : Slots} {σ : Store} {a : Act} {w : World} (h : Rel D n G A σ a w) {o : Oper} {K : AV → Slots → Store → Prop} {e : TypeId} {x : Operand} (ho : o.op = .box e x)
    (hK : aBox P e x A σ K) : Does P D n G a w o K := by
  obtain ⟨v, A', G1, ⟨hs, hk⟩, hR, hv, hown, hext, hF⟩ := h.takes hK
  have hv' : VR G1.F (conv P e v) (a.eval x) := conv_VR hv
  have hown' : OwnAt G1 D .acc (conv P e v) (a.eval x) := conv_own hv hown
  generalize conv P e v = v2 at hs hk hv' hown'
  have hD := hR.fresh _ (Nat.le_refl w.heap.size)
  have hn : σ w.heap.size = none := by
    cases hs : σ w.heap.size with
    | none => rfl
    | some x => obtain ⟨_, _, _, c, e', h4, _⟩ := hR.world.obj _ x hs; have := (Array.getElem?_eq_some_iff.1 h4).1; omega
  obtain ⟨c1, c2, c3⟩ := hv'.cellsR hs
  refine ⟨_, .pointer (some ⟨w.heap.size, 0, none⟩), A', _, G1.mv D (toObj w.heap.size 0), w.alloc (.cells (a.eval x).cells e), hk _ hn, .inl ?_, hR.step (fun _ _ _ h => h) (fun g m z i j hd hg => by rw [Ghost.mv_some hd hg]; rfl) ?_ (by simp), .lit _, OwnAt.of_plain rfl,
    (hext.trans (Ext.mv ..)).trans (Ext.alloc hR.fresh _ _)⟩
  · simp [execOp, ho, Instr.box, newVar, newRow]
  · refine (hR.world.mv _ (fun _ _ => rfl)).newObj hD _ e _ (by simp at c1; omega) fun i c u hc hu => ?_
    have hu' : (a.eval x).cells.toList[i]? = some u := by simpa using hu
    refine ⟨c2 i u hu', c3 i c u hc hu', (hown'.cells hv' hs i c u hc hu).re fun g m z hd hg => ?_⟩
    rw [Ghost.mv_some hd hg]; simp [toObj]

theorem aStore_sound {P : Program} {D : Nat → Prop} {n : Nat} {G : Ghost} {A : Slots} {σ : Store} {a : Act} {w : World} (h : Rel D n G A σ a w) {o : Oper} {K : AV → Slots → Store → Prop} {t : TypeId} {y x : Operand} (ho : o.op = .store t y x)
    (hK : aStore P t (evalA A y) x A σ K) : Does P D n G a w o K := by
  unfold aStore at hK
  split at hK
  case h_2 => exact hK.elim
  rename_i p off heq
  split at hK
  case h_2 => exact hK.elim
  rename_i cs hcs
  have hy := h.eval y
  rw [heq] at hy
  generalize hyv : a.eval y = yv at hy
  cases hy
  obtain ⟨v, A', G1, ⟨hsolid, hsz, hle, hk⟩, hR1, hv, hown, hext, hF⟩ := h.takes hK
  have hv' : VR G1.F (conv P t v) (a.eval x) := conv_VR hv
  have hown' : OwnAt G1 D .acc (conv P t v) (a.eval x) := conv_own hv hown
  generalize conv P t v = v2 at hsolid hsz hle hk hv' hown'
  obtain ⟨p1, p2, p3, cur, e, p4, p5, p6⟩ := hR1.world.obj p cs hcs
  obtain ⟨c1, c2, c3⟩ := hv'.cellsR hsolid
  have hlen : (a.eval x).cells.size = v2.cells.length := by simpa using c1.symm
  have hfit : off + (a.eval x).cells.toList.length ≤ cur.size := by simp; omega
  have hrun := run_storeCells_at P p off e (a.eval x).cells.toList 0 cur w p4 (by simpa using hfit) (fun u hu => by
    obtain ⟨i, hi⟩ := List.getElem?_of_mem hu; exact c2 i u hi)
  simp only [Nat.add_zero] at hrun
  rw [toList_setRow hfit] at hrun
  generalize hw' : w.setRow p (setRange cur.toList off (a.eval x).cells.toList).toArray = w' at hrun
  have hg' : w'.heap[p]? = some (.cells (setRange cur.toList off (a.eval x).cells.toList).toArray e (0, 0)) := by subst hw'; exact setRow_heap w p cur _ e _ p4
  have hoth : ∀ k, k ≠ p → w'.heap[k]? = w.heap[k]? := fun k hk => by subst hw'; exact setRow_other w p k _ hk
  have hback : ∀ g m z π, (G1.mv D (toObj p off)).S g = some (m, z, π) → ∃ π', G1.S g = some (m, z, π') := fun g m z π hg => Ghost.mv_back hg
  have hkeep : ∀ g m z q i, D g → G1.S g = some (m, z, .obj q i) → (G1.mv D (toObj p off)).S g = some (m, z, .obj q i) := fun g m z q i hd hg => by rw [Ghost.mv_some hd hg]; rfl
  refine ⟨.top, undef, A', _, G1.mv D (toObj p off), w', hk, .inr ⟨?_, rfl⟩, hR1.step (fun _ _ _ h => h) (fun g m z i j hd hg => by rw [Ghost.mv_some hd hg]; rfl) ?_ (by subst hw'; simp), .top _, OwnAt.of_plain rfl,
    hext.trans ⟨by subst hw'; rfl, by subst hw'; rfl, by subst hw'; rfl, by subst hw'; simp, fun _ _ _ h => h, fun k hk => ?_⟩⟩
  · have hsz' : (sizeOf t).run P w = .ok v2.cells.length w := run_sizeOf hsz w
    simp [execOp, ho, hyv, Instr.storeAt, Instr.sureAddr, storeVar, hsz', hlen, hrun]
  · refine hR1.world.objTo hcs rfl hback (fun g m z q i hd _ _ hg => hkeep g m z q i hd hg) p4 hg' hoth (by simp [setRange_length]; omega) fun i c u hc hu => ?_
    have hu' : (setRange cur.toList off (a.eval x).cells.toList)[i]? = some u := by simpa using hu
    rw [setRange_get _ _ _ _ (by simpa using hfit)] at hu'
    rw [setRange_get _ _ _ _ (by omega)] at hc
    simp only [Array.length_toList, hlen] at hu'
    split at hc
    · rename_i hi
      rw [if_pos hi] at hu'
      refine ⟨c2 _ _ hu', c3 _ _ _ hc hu', ?_⟩
      have := hown'.cells hv' hsolid (i - off) c u hc (by simpa using hu')
      refine this.re fun g m z hd hg => ?_
      rw [Ghost.mv_some hd hg]; simp [toObj]; omega
    · rename_i hi
      rw [if_neg hi] at hu'
      obtain ⟨q1, q2, q3⟩ := p6 i c u hc (by simpa using hu')
      exact ⟨q1, q2, q3.same fun g m z hd hg => hkeep g m z p i hd hg⟩
  · have hne : k ≠ p := fun e => hk (e ▸ p1)
    exact ⟨hoth k hne, by simp [Ghost.mv, hk], rfl⟩

end Go.AL
