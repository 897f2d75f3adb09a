/-
  The abstract-state logic: make, parts of results, values that change hands; one operation under one name.
-/
import Derived.Test.YtnlggjbcdienfaaDoorALPart2
import Derived.Laws.CopyRow
import Derived.Orders
namespace Go.AL
open Go Go.RowKit Classical
variable [GL]
set_option linter.unusedSectionVars false

theorem wrap_i64 {n : Int} (h0 : -9223372036854775808 ≤ n) (h1 : n ≤ 9223372036854775807) : IntKind.i64.wrap n = n := by
  have key : IntKind.i64.wrap n = if n % 18446744073709551616 ≥ 9223372036854775808 then n % 18446744073709551616 - 18446744073709551616 else n % 18446744073709551616 := by
    show (if (true && decide (n % (2 ^ 64 : Int) ≥ (2 ^ 63 : Int))) = true then n % (2 ^ 64 : Int) - (2 ^ 64 : Int) else n % (2 ^ 64 : Int)) = _
    simp
  rw [key]
  split <;> omega

def aMake (P : Program) (byVal : Bool) (t : TypeId) (l c : AV) (A : Slots) (σ : Store) (K : AV → Slots → Store → Prop) : Prop :=
  match tElem P t, l, c with
  | some e, .lit (.int _ l), .lit (.int _ c) => match tSize P e, tBytes P e, azero P e, zeroEl P e with
    | some sz, some bt, some zs, some z => 0 ≤ l ∧ l ≤ c ∧ 0 < sz ∧ zs.length = sz ∧ z.cells.length = sz ∧ c ≤ 9223372036854775807 ∧ bt * c ≤ 281474976710656 ∧
      (if byVal then K (.list true sz (List.replicate l.toNat z)) A σ else
        ∀ p, σ p = none → K (.lit (.slice (some ⟨p, 0, none⟩) l.toNat c.toNat)) A (σ.upd p (List.replicate c.toNat zs).flatten))
    | _, _, _, _ => False
  | _, _, _ => False

theorem run_make {P : Program} {w : World} {t e : TypeId} (he : tElem P t = some e) {sz bt : Nat} (hs : tSize P e = some sz) (hb : tBytes P e = some bt) {z : Value} (hz : tZero P e = some z) (hzl : z.cells.size = sz) {kl kc : IntKind} {l c : Int}
    (h0 : 0 ≤ l) (h1 : l ≤ c) (h2 : c ≤ 9223372036854775807) (h3 : bt * c ≤ 281474976710656) :
    ∃ cur : Array Value, cur.toList = (List.replicate c.toNat z.cells.toList).flatten ∧ (Instr.makeSlice t (.int kl l) (.int kc c)).run P w = .ok (.slice (some ⟨w.heap.size, 0, none⟩) l.toNat c.toNat) (w.alloc (.cells cur e)) := by
  obtain ⟨i, hi, hisz⟩ : ∃ i, P.info? e = some i ∧ i.size = sz := by
    unfold tSize at hs; cases hq : P.info? e with
    | none => simp [hq] at hs
    | some i => exact ⟨i, rfl, by simpa [hq] using hs⟩
  have hibt : i.bytes = bt := by simpa [tBytes, hi] using hb
  subst hisz hibt
  refine ⟨(Array.range (c.toNat * i.size)).map (z.cells[· % z.cells.size]!), ?_, ?_⟩
  · rw [← zeroCells_eq z.cells.toList i.size c.toNat (by simpa using hzl), hzl]
    simp only [Array.toList_map, Array.toList_range]
    apply List.map_congr_left
    intro j _
    rw [Array.getElem!_toList]
  · have hl : ¬ (c < 0 ∨ 281474976710656 < (i.bytes : Int) * c) := by omega
    by_cases hn : c.toNat * i.size = 0
    · simp [Instr.makeSlice, run_underlying (under_elem he), asInt, asIntOf, typeInfo, hi, wrap_i64 (n := l) (by omega) (by omega), wrap_i64 (n := c) (by omega) (by omega), hl, show ¬ l < 0 by omega, show ¬ c < l by omega, sizeOf, hn, newRow, Array.range_zero']
    · simp [Instr.makeSlice, run_underlying (under_elem he), asInt, asIntOf, typeInfo, hi, wrap_i64 (n := l) (by omega) (by omega), wrap_i64 (n := c) (by omega) (by omega), hl, show ¬ l < 0 by omega, show ¬ c < l by omega, sizeOf, hn, zeroValue, show i.zero = some z by simpa [tZero, hi] using hz, newRow]

theorem aMake_sound {P : Program} {D : Nat → Prop} {n : Nat} {G : Ghost} {A : Slots} {σ : Store} {a : Act} {w : World} (h : Rel D n G A σ a w) {o : Oper} {K : AV → Slots → Store → Prop} {bv : Bool} {t : TypeId} {x y : Operand}
    (ho : o.op = .makeSlice t x y) (hK : aMake P bv t (evalA A x) (evalA A y) A σ K) : Does P D n G a w o K := by
  unfold aMake at hK
  split at hK
  case h_2 => exact hK.elim
  rename_i e kl l kc c he hx hy
  split at hK
  case h_2 => exact hK.elim
  rename_i sz bt zs z hs hb hzs hz
  obtain ⟨h0, h1, hpos, hzsl, hzl, h2, h3, hK⟩ := hK
  have hxv := h.eval x
  have hyv := h.eval y
  rw [hx] at hxv; rw [hy] at hyv
  generalize hex : a.eval x = xv at hxv
  generalize hey : a.eval y = yv at hyv
  cases hxv; cases hyv
  obtain ⟨zv, hz1, hz2⟩ := azero_sound hzs G.F
  obtain ⟨zv', hz1', hz3⟩ := zeroEl_sound hz G.F
  rw [hz1] at hz1'; simp only [Option.some.injEq] at hz1'; subst hz1'
  have hzvl : zv.cells.size = sz := by have := hz2.1; simp at this; omega
  obtain ⟨cur, hcur, hrun⟩ := run_make (w := w) (kl := kl) (kc := kc) he hs hb hz1 hzvl h0 h1 h2 h3
  have hrun' : (execOp a.eval o).run P w = .ok (.value (.slice (some ⟨w.heap.size, 0, none⟩) l.toNat c.toNat)) (w.alloc (.cells cur e)) := by
    simp [execOp, ho, hex, hey, hrun]
  cases bv with
  | false =>
    simp only [Bool.false_eq_true, if_false] at hK
    exact newObj_does h (cur := cur) (e := e) (by rw [hcur]; exact hz2.rep _) (fun p => .slice (some ⟨p, 0, none⟩) l.toNat c.toNat) hK hrun'
  | true =>
    simp only [if_true] at hK
    have hwr : ∀ v ∈ List.replicate l.toNat z, v.cells.length = sz := fun v hv => by rw [(List.mem_replicate.1 hv).2, hzl]
    have hcl : cur.size = c.toNat * sz := by
      have := congrArg List.length hcur
      simp only [Array.length_toList, List.length_flatten, List.map_replicate, List.sum_replicate_nat, hzvl] at this
      simpa using this
    obtain ⟨G', q1, q2, q3, q4, _⟩ := newList h cur e sz (List.replicate l.toNat z) c.toNat hcl.symm (by simp; omega) (by unfold maxLen; omega) hwr (List.replicate l.toNat zv.cells.toList).flatten (by rw [flat_replicate]; exact hz3.rep _)
      (fun i u hu => by
        have hcur' : cur[i]? = cur.toList[i]? := by simp
        rw [hcur', hcur]
        have : c.toNat = l.toNat + (c.toNat - l.toNat) := by omega
        rw [this, ← List.replicate_append_replicate, List.flatten_append, List.getElem?_append_left (List.getElem?_eq_some_iff.1 hu).1]; exact hu)
    rw [List.length_replicate] at q2 q3
    exact ⟨_, _, A, σ, G', _, hK, .inl hrun', q1, q2, q3, q4⟩

/-! ### A part of a result -/
def AV.keep1 : AV → AV
  | .list o sz vs => .list o sz vs
  | v => v.share

def aExtract (t : Tmp) (ix : Nat) (A : Slots) (σ : Store) (K : AV → Slots → Store → Prop) : Prop :=
  match A t with
  | .tuple vs => match vs[ix]? with
    | some v => K v.keep1 (upd A t (.tuple (vs.set ix v.drop1))) σ
    | none => False
  | _ => False

def fromSlotAt (t ix : Nat) : Place → Place
  | .slot i j => if i = t ∧ j = ix then .acc 0 else .slot i j
  | π => π

theorem VR.keep1 {F : Frz} {a : AV} {v : Value} (h : VR F a v) : VR F a.keep1 v := by
  cases a <;> first
    | exact h.share
    | exact h

theorem aExtract_sound {P : Program} {D : Nat → Prop} {n : Nat} {G : Ghost} {A : Slots} {σ : Store} {a : Act} {w : World} (h : Rel D n G A σ a w) {o : Oper} {K : AV → Slots → Store → Prop} {t : Tmp} {ix : Nat}
    (ho : o.op = .extract (.tmp t) ix) (hK : aExtract t ix A σ K) : Does P D n G a w o K := by
  unfold aExtract at hK
  split at hK
  case h_2 => exact hK.elim
  rename_i vs hA
  split at hK
  case h_2 => exact hK.elim
  rename_i v hv
  have hx := h.val t
  have hown := h.own t
  rw [hA] at hx hown
  generalize hc : a.tmps.getD t undef = cv at hx hown
  cases hx with | tuple _ us hl hvr => ?_
  have hlt := (List.getElem?_eq_some_iff.1 hv).1
  have hu : us[ix]? = some (us[ix]'(by omega)) := by simp
  have hvv := hvr ix v _ hv hu
  have hW := h.world.mv (fromSlotAt t ix) (fun _ _ => rfl)
  refine ⟨_, us[ix], _, σ, G.mv D (fromSlotAt t ix), w, hK, .inl ?_, ⟨h.defers, h.size, fun i => ?_, fun i => ?_, hW, h.fresh⟩, hvv.keep1, ?_, Ext.mv ..⟩
  · have : a.eval (.tmp t) = .tuple us := hc
    simp [execOp, ho, this, Instr.extract, hu]
  · simp only [upd]; split
    · rename_i hi; subst hi
      rw [hc]
      refine .tuple _ us (by simpa using hl) fun j c u hcj huj => ?_
      rw [List.getElem?_set] at hcj
      split at hcj
      · rename_i hj; subst hj
        try rw [if_pos hlt] at hcj
        simp only [Option.some.injEq] at hcj; subst hcj
        exact (hvr ix v u hv huj).drop1
      · exact hvr j c u hcj huj
    · exact h.val i
  · simp only [upd]; split
    · rename_i hi; subst hi
      rw [hc]
      intro j c u hcj huj
      rw [List.getElem?_set] at hcj
      split at hcj
      · rename_i hj; subst hj
        try rw [if_pos hlt] at hcj
        simp only [Option.some.injEq] at hcj; subst hcj
        exact Own1.drop1 ..
      · rename_i hj
        exact (hown j c u hcj huj).re fun g m z hd hg => by rw [Ghost.mv_some hd hg]; simp [fromSlotAt, Ne.symm hj]
    · rename_i hi
      exact (h.own i).re fun g m z j hd hg => by rw [Ghost.mv_some hd hg]; simp [fromSlotAt, hi]
  · cases v with
    | list own sz ws =>
      have := hown ix _ _ hv hu
      exact this.re fun g m z hd hg => by rw [Ghost.mv_some hd hg]; simp [fromSlotAt]
    | _ => simp only [AV.keep1]; exact OwnAt.share ..

/-! ### A cell that gives its right away -/
def aLoadTake (P : Program) (t : TypeId) (ad : AV) (A : Slots) (σ : Store) (K : AV → Slots → Store → Prop) : Prop :=
  match tAgg P t, ad with
  | some false, .lit (.pointer (some ⟨o, off, none⟩)) => match σ o with
    | some cs => match cs[off]? with
      | some c => K c.keep1 A (σ.upd o (cs.set off c.drop1))
      | none => False
    | none => False
  | some true, _ => aLoadTakeAgg P t ad A σ K
  | _, _ => False

def fromObjAt (o ix : Nat) : Place → Place
  | .obj p j => if p = o ∧ j = ix then .acc 0 else .obj p j
  | π => π

theorem aLoadTake_sound {P : Program} {D : Nat → Prop} {n : Nat} {G : Ghost} {A : Slots} {σ : Store} {a : Act} {w : World} (h : Rel D n G A σ a w) {o : Oper} {K : AV → Slots → Store → Prop} {t : TypeId} {y : Operand}
    (ho : o.op = .load t y) (hK : aLoadTake P t (evalA A y) A σ K) : Does P D n G a w o K := by
  unfold aLoadTake at hK
  split at hK
  case h_2 => rename_i hagg; exact aLoadTakeAgg_sound h ho hagg hK
  case h_3 => exact hK.elim
  rename_i p off hagg heq
  split at hK
  case h_2 => exact hK.elim
  rename_i cs hcs
  split at hK
  case h_2 => exact hK.elim
  rename_i c hc
  have hy := h.eval y
  rw [heq] at hy
  generalize hyv : a.eval y = yv at hy
  cases hy
  obtain ⟨p1, p2, p3, cur, e, p4, p5, p6⟩ := h.world.obj p cs hcs
  have hlt := (List.getElem?_eq_some_iff.1 hc).1
  have hu : cur[off]? = some (cur[off]'(by omega)) := by simp
  obtain ⟨r1, r2, r3⟩ := p6 off c _ hc hu
  refine ⟨_, cur[off], A, _, G.mv D (fromObjAt p off), w, hK, .inl ?_, h.step (fun _ _ _ h => h) (fun g m z i j hd hg => by rw [Ghost.mv_some hd hg]; rfl) ?_ (Nat.le_refl _), r2.keep1, ?_, Ext.mv ..⟩
  · have hcell : w.cell? ⟨p, off, none⟩ = some cur[off] := by rw [cell_of_row w p off cur e (0, 0) p4]; exact hu
    simp [execOp, ho, hyv, Instr.loadAt, Instr.sureAddr, loadVar, run_isAgg hagg, hcell]
  · refine h.world.objTo hcs rfl (fun g m z π hg => Ghost.mv_back hg) (fun g m z q i hd hq _ hg => by rw [Ghost.mv_some hd hg]; simp [fromObjAt, hq]) p4 p4 (fun _ _ => rfl) (by simpa using p5) fun i c' u hci hui => ?_
    rw [List.getElem?_set] at hci
    split at hci
    · rename_i hi; subst hi
      try rw [if_pos hlt] at hci
      simp only [Option.some.injEq] at hci; subst hci
      obtain ⟨q1, q2, q3⟩ := p6 off c u hc hui
      exact ⟨q1, q2.drop1, Own1.drop1 ..⟩
    · rename_i hi
      obtain ⟨q1, q2, q3⟩ := p6 i c' u hci hui
      exact ⟨q1, q2, q3.re fun g m z hd hg => by rw [Ghost.mv_some hd hg]; simp [fromObjAt, Ne.symm hi]⟩
  · cases c with
    | list own sz ws => exact r3.re fun g m z hd hg => by rw [Ghost.mv_some hd hg]; simp [fromObjAt]
    | _ => simp only [AV.keep1]; exact OwnAt.share ..

/-! ### Is a slice nil? Of an empty list nobody knows. -/
def isNilConst : Operand → Bool
  | .const (.slice none 0 0) => true
  | _ => false
def aNilTest (P : Program) (neg : Bool) (t : TypeId) (a : AV) (A : Slots) (σ : Store) (K : AV → Slots → Store → Prop) : Prop :=
  match tElem P t, a with
  | some _, .list _ _ vs => ∀ r : Bool, (r = true → vs = []) → K (.lit (.bool (r != neg))) A σ
  | some _, .lit (.slice b _ _) => K (.lit (.bool (b.isNone != neg))) A σ
  | _, _ => False

theorem aNilTest_sound {P : Program} {D : Nat → Prop} {n : Nat} {G : Ghost} {A : Slots} {σ : Store} {a : Act} {w : World} (h : Rel D n G A σ a w) {o : Oper} {K : AV → Slots → Store → Prop} {op : BinOp} {neg : Bool} {t t' : TypeId} {x y : Operand}
    (hop : (op = .eql ∧ neg = false) ∨ (op = .neq ∧ neg = true)) (ho : o.op = .binOp op t x y t') (hy : isNilConst y = true) (hK : aNilTest P neg t (evalA A x) A σ K) : Does P D n G a w o K := by
  have hyv : a.eval y = .slice none 0 0 := by
    unfold isNilConst at hy
    split at hy
    · rfl
    · cases hy
  have fin : ∀ (b : Option Addr) (l c : Nat), a.eval x = .slice b l c → (∃ e, tElem P t = some e) → K (.lit (.bool (b.isNone != neg))) A σ → Does P D n G a w o K := by
    rintro b l c hb ⟨e, he⟩ hk
    refine ⟨_, _, A, σ, G, w, hk, .inl ?_, h, .lit _, OwnAt.of_plain rfl, Ext.refl ..⟩
    have heq : ∀ d, (Op.equalIn (d + 1) t (.slice b l c) (.slice none 0 0)).run P w = .ok b.isNone w := fun d => by
      cases b <;> simp [Op.equalIn, run_underlying (under_elem he)]
    have heq' : (Op.equal t (.slice b l c) (.slice none 0 0)).run P w = .ok b.isNone w := heq 9999
    rcases hop with ⟨rfl, rfl⟩ | ⟨rfl, rfl⟩
    · have e1 : binOp .eql t (.slice b l c) (.slice none 0 0) = (do pure (.bool (← Op.equal t (.slice b l c) (.slice none 0 0)))) := rfl
      have e2 : eqGuard .eql t x y (.slice b l c) (.slice none 0 0) = pure () := rfl
      simp [execOp, ho, hb, hyv, e1, e2, heq']
    · have e1 : binOp .neq t (.slice b l c) (.slice none 0 0) = (do pure (.bool (!(← Op.equal t (.slice b l c) (.slice none 0 0))))) := rfl
      have e2 : eqGuard .neq t x y (.slice b l c) (.slice none 0 0) = pure () := rfl
      simp [execOp, ho, hb, hyv, e1, e2, heq']
  unfold aNilTest at hK
  have hx := h.eval x
  split at hK
  · rename_i e _ _ vs he hA
    rw [hA] at hx
    generalize hxv : a.eval x = xv at hx
    cases hx with
    | nil => exact fin none 0 0 hxv ⟨e, he⟩ (hK true (fun _ => rfl))
    | void => exact fin (some _) 0 0 hxv ⟨e, he⟩ (hK false (by simp))
    | list _ _ _ g off m cap us hn hcap hw hl hF hv => exact fin _ m cap hxv ⟨e, he⟩ (hK false (by simp))
  · rename_i e b l c he hA
    rw [hA] at hx
    generalize hxv : a.eval x = xv at hx
    cases hx
    exact fin b l c hxv ⟨e, he⟩ hK
  · exact hK.elim

/-! ### A slice converted to its own type: its bytes may be a string's from now on -/
def aConvSame (P : Program) (src dst : TypeId) (x : Operand) (A : Slots) (σ : Store) (K : AV → Slots → Store → Prop) : Prop :=
  src = dst ∧ (tElem P dst).bind (tInt P) = some .u8 ∧ takeA A x fun v A' => match v with
    | .list true 1 (v :: vs) => K (.list false 1 (v :: vs)) A' σ
    | _ => False

theorem aConvSame_sound {P : Program} {D : Nat → Prop} {n : Nat} {G : Ghost} {A : Slots} {σ : Store} {a : Act} {w : World} (h : Rel D n G A σ a w) {o : Oper} {K : AV → Slots → Store → Prop} {src dst : TypeId} {x : Operand}
    (ho : o.op = .convert src dst x) (hK : aConvSame P src dst x A σ K) : Does P D n G a w o K := by
  obtain ⟨rfl, hel, hK⟩ := hK
  cases he : tElem P src with
  | none => simp [he] at hel
  | some e =>
    simp [he] at hel
    obtain ⟨v, A', G1, hk, hR, hv, hown, hext, hF⟩ := h.takes hK
    split at hk
    case h_2 => exact hk.elim
    rename_i v0 vs0
    generalize hvs : v0 :: vs0 = vs at *
    generalize hxv : a.eval x = xv at hv hown
    have hus := under_elem he
    have hui := under_int hel
    cases hv with
    | nil => cases hvs
    | list _ _ _ g off m cap us hn hcap hw hl hF1 hv1 =>
      obtain ⟨hDg, z, hSg, hcz, hcm⟩ := hown
      dsimp only at hDg hSg hcz
      obtain ⟨hσg, ⟨cur, e', hg, hcs⟩, hnone⟩ := hR.world.own _ _ _ _ hSg
      let w' := w.freeze ⟨g, cur.size, none⟩ 1
      have hg' : w'.heap[g]? = some (.cells cur e' (cur.size, cur.size + 1)) := by
        simp [w', World.freeze, Array.getElem?_modify, hg]
      have hoth : ∀ k, k ≠ g → w'.heap[k]? = w.heap[k]? := fun k hk => by simp [w', World.freeze, Array.getElem?_modify, Ne.symm hk]
      let G2 : Ghost := ⟨G1.F, fun k => if k = g then none else G1.S k⟩
      have hS2 : ∀ k m' z' π, G2.S k = some (m', z', π) → k ≠ g ∧ G1.S k = some (m', z', π) := fun k m' z' π hk => by
        simp only [G2] at hk; split at hk
        · cases hk
        · exact ⟨by assumption, hk⟩
      have hkeep : ∀ k m' z' π, π ≠ .acc 0 → G1.S k = some (m', z', π) → G2.S k = some (m', z', π) := fun k m' z' π hπ hk => by
        have : k ≠ g := fun e => by subst e; rw [hSg] at hk; simp at hk; exact hπ hk.2.2.symm
        simp [G2, this, hk]
      have hW : WR D G2 σ w' := by
        refine ⟨fun k i u hu => ?_, fun k m' z' π hk => ?_, fun p cs hcs' => ?_, hR.world.laid⟩
        · obtain ⟨c, e'', fz, q1, q2⟩ := hR.world.frz k i u hu
          by_cases hkg : k = g
          · subst hkg; rw [hg] at q1; simp only [Option.some.injEq, Obj.cells.injEq] at q1; obtain ⟨rfl, rfl, rfl⟩ := q1
            exact ⟨_, _, _, hg', q2⟩
          · exact ⟨c, e'', fz, by rw [hoth k hkg]; exact q1, q2⟩
        · obtain ⟨hkg, hk'⟩ := hS2 k m' z' π hk
          obtain ⟨q1, ⟨c, e'', q2, q3⟩, q4⟩ := hR.world.own k m' z' π hk'
          exact ⟨q1, ⟨c, e'', by rw [hoth k hkg]; exact q2, q3⟩, q4⟩
        · obtain ⟨q1, q2, q3, c, e'', q4, q5, q6⟩ := hR.world.obj p cs hcs'
          have hne : p ≠ g := fun e => by subst e; rw [hσg] at hcs'; cases hcs'
          refine ⟨q1, by simp [G2, hne, q2], q3, c, e'', by rw [hoth p hne]; exact q4, q5, fun i cc u hc hu => ?_⟩
          obtain ⟨r1, r2, r3⟩ := q6 i cc u hc hu
          exact ⟨r1, r2, r3.same fun k m' z' _ hk => hkeep k m' z' _ (by simp) hk⟩
      have hshape : w.shape? g = some (e', cur.size) := by simp [World.shape?, hg]
      refine ⟨_, .slice (some ⟨g, off, none⟩) m cap, A', σ, G2, w', hk, .inl ?_, hR.step (fun _ _ _ h => h) (fun k m' z' i j _ hk => hkeep k m' z' _ (by simp) hk) hW (by simp [w', World.freeze]), .list false 1 vs g off m cap us hn hcap hw hl hF1 hv1, OwnAt.of_plain rfl,
        hext.trans ⟨by simp [w', World.freeze], by simp [w', World.freeze], by simp [w', World.freeze], by simp [w', World.freeze], fun _ _ _ h => h, fun k hk => ?_⟩⟩
      · simp [execOp, ho, hxv, convert, run_underlying hus, run_underlying hui, markStringish, hshape, w']
      · have hne : k ≠ g := fun e => hk (e ▸ hDg)
        exact ⟨hoth k hne, by simp [G2, hne], rfl⟩

/-! ### One operation -/
/-! ### copy: into a row that is an object; elements of one cell -/
def copyDst (σ : Store) (x : AV) : Option (Nat × Nat × Nat × List AV) :=
  match x with
  | .lit (.slice (some ⟨p, off, none⟩) n _) => (σ p).map fun cs => (p, off, n, cs)
  | _ => none
def copySrc (σ : Store) (y : AV) : Option (List AV) :=
  match y with
  | .list _ sz vs => if sz = 1 then some (flat vs) else none
  | .lit (.slice none 0 0) => some []
  | .lit (.slice (some ⟨q, off, none⟩) k _) => (σ q).bind fun ds => if off + k ≤ ds.length then some ((ds.drop off).take k) else none
  | _ => none
def aCopy (P : Program) (t : TypeId) (x y : AV) (A : Slots) (σ : Store) (K : AV → Slots → Store → Prop) : Prop :=
  match (tElem P t).bind (tSize P), copyDst σ x, copySrc σ y with
  | some sz, some (p, off, n, cs), some src => sz = 1 ∧ off + min n src.length ≤ cs.length ∧ K (.lit (.int .i64 (min n src.length : Nat))) A (σ.upd p (setRange cs off ((src.take (min n src.length)).map AV.drop1)))
  | _, _, _ => False

theorem aCopy_sound {P : Program} {D : Nat → Prop} {n : Nat} {G : Ghost} {A : Slots} {σ : Store} {a : Act} {w : World} (h : Rel D n G A σ a w) {o : Oper} {K : AV → Slots → Store → Prop} {t t' : TypeId} {x y : Operand}
    (ho : o.op = .call { callee := .builtin .copy, args := #[x, y], argTypes := #[t, t'] }) (hK : aCopy P t (evalA A x) (evalA A y) A σ K) : Does P D n G a w o K := by
  unfold aCopy at hK
  split at hK
  case h_2 => exact hK.elim
  rename_i sz p off m cs src hsz hrow hsrc
  obtain ⟨rfl, hle, hk⟩ := hK
  cases he : tElem P t with
  | none => simp [he] at hsz
  | some e =>
  rw [he] at hsz
  simp only [Option.bind_some] at hsz
  have hinfo : (P.info? e).map (·.size) = some 1 := by
    unfold tSize at hsz; exact hsz
  have hx := h.eval x
  have hy := h.eval y
  unfold copyDst at hrow
  split at hrow
  case h_2 => simp at hrow
  rename_i p' off' m' dcap hxa
  rw [hxa] at hx
  generalize hxv : a.eval x = xv at hx
  cases hx
  cases hcs : σ p' with
  | none => simp [hcs] at hrow
  | some cs' =>
  simp only [hcs, Option.map_some, Option.some.injEq, Prod.mk.injEq] at hrow
  obtain ⟨rfl, rfl, rfl, rfl⟩ := hrow
  obtain ⟨p1, p2, p3, cur, e', p4, p5, p6⟩ := h.world.obj p' cs' hcs
  -- the source
  obtain ⟨us, sa, slen, scap, hyv, hslen, hus, hcells⟩ : ∃ (us : List Value) (sa : Option Addr) (slen scap : Nat), a.eval y = .slice sa slen scap ∧ slen = src.length ∧ CellsR (VR G.F) (src.map AV.drop1) us ∧ ((sa = none ∧ src = [] ∧ scap = 0) ∨ ∃ ad, sa = some ad ∧ ∀ (j : Nat) (u : Value), us[j]? = some u → w.cell? (ad.add j) = some u) := by
    have dropR : ∀ {as : List AV} {us : List Value}, CellsR (VR G.F) as us → CellsR (VR G.F) (as.map AV.drop1) us := fun {as us} hc => ⟨by simpa using hc.1, hc.2.1, fun j c u hcj hu => by
      rw [List.getElem?_map] at hcj
      cases hcc : as[j]? with
      | none => simp [hcc] at hcj
      | some c' => simp [hcc] at hcj; subst hcj; exact (hc.2.2 j c' u hcc hu).drop1⟩
    unfold copySrc at hsrc
    split at hsrc
    · rename_i own sz' vs hya
      split at hsrc
      case isFalse => simp at hsrc
      rename_i h1; subst h1
      simp only [Option.some.injEq] at hsrc; subst hsrc
      rw [hya] at hy
      generalize a.eval y = yv at hy
      cases hy with
      | nil => exact ⟨[], none, 0, 0, rfl, by simp [flat], dropR ⟨rfl, by simp, by simp⟩, .inl ⟨rfl, by simp [flat], rfl⟩⟩
      | void sz ad => exact ⟨[], some ad, 0, 0, rfl, by simp [flat], dropR ⟨rfl, by simp, by simp⟩, .inr ⟨ad, rfl, by simp⟩⟩
      | list _ _ _ g off2 k cap us hn hc hw hl hF hv =>
        refine ⟨us, some ⟨g, off2, none⟩, k, cap, rfl, by rw [flat_length hw, hn]; omega, dropR ⟨hl.symm, fun j u hu => (hF j u hu).2, hv⟩, .inr ⟨_, rfl, fun j u hu => ?_⟩⟩
        rw [add_addr]
        obtain ⟨cur, e', fz, q1, q2⟩ := h.world.frz _ _ _ (hF j u hu).1
        rw [cell_of_row w g (off2 + j) cur e' fz q1]; exact q2
    · rename_i hya
      simp only [Option.some.injEq] at hsrc; subst hsrc
      rw [hya] at hy
      generalize a.eval y = yv at hy
      cases hy
      exact ⟨[], none, 0, 0, rfl, rfl, dropR ⟨rfl, by simp, by simp⟩, .inl ⟨rfl, rfl, rfl⟩⟩
    · rename_i q off2 k scap hya
      cases hds : σ q with
      | none => simp [hds] at hsrc
      | some ds =>
      simp only [hds, Option.bind_some] at hsrc
      split at hsrc
      case isFalse => simp at hsrc
      rename_i hle2
      simp only [Option.some.injEq] at hsrc; subst hsrc
      rw [hya] at hy
      generalize a.eval y = yv at hy
      cases hy
      obtain ⟨q1, q2, q3, cur2, e2, q4, q5, q6⟩ := h.world.obj q ds hds
      have get : ∀ {j : Nat} {u : Value}, ((cur2.toList.drop off2).take k)[j]? = some u → j < k ∧ cur2[off2 + j]? = some u := fun {j u} hu => by
        have hj := (List.getElem?_eq_some_iff.1 hu).1
        simp at hj
        rw [List.getElem?_take_of_lt (by omega), List.getElem?_drop] at hu
        exact ⟨by omega, by simpa using hu⟩
      have getc : ∀ {j : Nat} {c : AV}, ((ds.drop off2).take k)[j]? = some c → ds[off2 + j]? = some c := fun {j c} hc => by
        have hj := (List.getElem?_eq_some_iff.1 hc).1
        simp at hj
        rwa [List.getElem?_take_of_lt (by omega), List.getElem?_drop] at hc
      refine ⟨(cur2.toList.drop off2).take k, some ⟨q, off2, none⟩, k, scap, rfl, by simp; omega, dropR ⟨by simp; omega, fun j u hu => ?_, fun j c u hc hu => (q6 _ c u (getc hc) (get hu).2).2.1⟩, .inr ⟨_, rfl, fun j u hu => ?_⟩⟩
      · have hlt : off2 + j < ds.length := by have := (get hu).1; omega
        exact (q6 _ _ u (List.getElem?_eq_getElem hlt) (get hu).2).1
      · rw [add_addr, cell_of_row w q (off2 + j) cur2 e2 (0, 0) q4]; exact (get hu).2
    · simp at hsrc
  obtain ⟨u1, u2, u3⟩ := hus
  have hul : us.length = src.length := by simpa using u1.symm
  generalize hmm : min m' src.length = mm at *
  have hfit : off' + (us.take mm).length ≤ cur.size := by simp only [List.length_take]; omega
  have hone : ∀ u ∈ us.take mm, u.oneCell' = true := fun u hu => by
    obtain ⟨j, hj⟩ := List.getElem?_of_mem (List.mem_of_mem_take hu)
    exact u2 j u hj
  generalize hw' : w.setRow p' (setRange cur.toList off' (us.take mm)).toArray = w'
  have hrun : (Builtin.copy_ #[t, t'] o.type #[.slice (some ⟨p', off', none⟩) m' dcap, a.eval y]).run P w = .ok (.int .i64 (mm : Nat)) w' := by
    rw [hyv]
    have hlen : (us.take mm).length = Nat.min slen m' := by
      show _ = min slen m'
      simp only [List.length_take]; omega
    rcases hcells with ⟨rfl, hs0, rfl⟩ | ⟨ad, rfl, hc⟩
    · subst hs0
      have h0 : mm = 0 := by rw [← hmm]; simp
      have hsl : slen = 0 := by simpa using hslen
      subst h0 hsl
      have := run_copy_nil (P := P) w t t' o.type e ⟨p', off', none⟩ m' dcap (under_elem he) (by rw [hinfo]; rfl)
      rw [this, ← hw']
      have e0 : (setRange cur.toList off' (us.take 0)).toArray = cur := by
        simp [setRange]
      rw [e0, setRow_self w p' cur e' (0, 0) p4]
      rfl
    · have := run_copy_row (P := P) w t t' o.type e p' off' m' dcap ad slen scap cur e' (us.take mm) (under_elem he) hinfo p4 hlen (fun j v hj => hc j v (by
        have hj' := (List.getElem?_eq_some_iff.1 hj).1
        simp at hj'
        rwa [List.getElem?_take_of_lt (by omega)] at hj)) hfit hone
      rw [this, toList_setRow hfit, hw']
      congr 1
      simp only [goInt, List.length_take]
      congr 1
      omega
  have hg' : w'.heap[p']? = some (.cells (setRange cur.toList off' (us.take mm)).toArray e' (0, 0)) := by subst hw'; exact setRow_heap w p' cur _ e' _ p4
  have hoth : ∀ k, k ≠ p' → w'.heap[k]? = w.heap[k]? := fun k hk => by subst hw'; exact setRow_other w p' k _ hk
  refine ⟨.lit (.int .i64 (mm : Nat)), .int .i64 (mm : Nat), A, _, G, w', hk, .inl ?_, h.step (fun _ _ _ h => h) (fun g m z i j _ hg => hg) ?_ (by subst hw'; simp), .lit _, OwnAt.of_plain rfl,
    ⟨by subst hw'; rfl, by subst hw'; rfl, by subst hw'; rfl, by subst hw'; simp, fun _ _ _ h => h, fun k hk => ?_⟩⟩
  · simp [execOp, ho, resolve, invoke, builtin, hxv, hrun]
  · refine h.world.objTo hcs rfl (fun g n z π hg => ⟨π, hg⟩) (fun g n z q i _ _ _ hg => hg) p4 hg' hoth (by simp [setRange_length]; omega) fun i c u hc hu => ?_
    have hu' : (setRange cur.toList off' (us.take mm))[i]? = some u := by simpa using hu
    rw [setRange_get _ _ _ _ (by simpa using hfit)] at hu'
    have hlen2 : ((src.take mm).map AV.drop1).length = (us.take mm).length := by simp only [List.length_map, List.length_take]; omega
    rw [setRange_get _ _ _ _ (by rw [hlen2]; simp only [List.length_take]; omega), hlen2] at hc
    split at hc
    · rename_i hi
      rw [if_pos hi] at hu'
      have hu2 : us[i - off']? = some u := by
        have hj := (List.getElem?_eq_some_iff.1 hu').1
        simp at hj
        rwa [List.getElem?_take_of_lt (by omega)] at hu'
      have hc2 : (src.map AV.drop1)[i - off']? = some c := by
        have hj := (List.getElem?_eq_some_iff.1 hc).1
        simp at hj
        rwa [List.map_take, List.getElem?_take_of_lt (by omega)] at hc
      refine ⟨u2 _ _ hu2, u3 _ _ _ hc2 hu2, ?_⟩
      rw [List.getElem?_map] at hc2
      cases hcc : src[i - off']? with
      | none => simp [hcc] at hc2
      | some c' => simp [hcc] at hc2; subst hc2; exact Own1.drop1 ..
    · rename_i hi
      rw [if_neg hi] at hu'
      exact p6 i c u hc (by simpa using hu')
  · have : k ≠ p' := fun e => hk (e ▸ p1)
    exact ⟨hoth k this, rfl, rfl⟩

/-- 'st': the temporaries that take the right to append with the value that is moved or loaded into them; of 'make': that it is by value. -/
def steals (st : List Tmp) (o : Oper) : Bool := match o.dst with | some d => st.contains d | none => false
/-- The zeros are as they are written. -/
def raws (st : List Tmp) (o : Oper) : Bool := match o.dst with | some d => st.contains (d + 2000000) | none => false
/-- Rows that are objects: by these marks. -/
def objs (st : List Tmp) (o : Oper) : Bool := match o.dst with | some d => st.contains (d + 1000000) | none => false
def astep (P : Program) (st : List Tmp) (o : Oper) (A : Slots) (σ : Store) (K : AV → Slots → Store → Prop) : Prop :=
  match o.op with
  | .assign x => if objs st o = true then takeA A x fun v A' => K v A' σ else takeA A x fun v A' => K (conv P o.type v) A' σ
  | .move (.tmp t) => if steals st o = true then takeA A (.tmp t) fun v A' => K (conv P o.type v) A' σ else K (A t).share A σ
  | .load t y => if steals st o = true then aLoadTake P t (evalA A y) A σ K else match apure P o A σ with | some v => K v A σ | none => False
  | .alloc e => aAlloc P e A σ K
  | .box e x => aBox P e x A σ K
  | .store t y x => aStore P t (evalA A y) x A σ K
  | .buildSlice t len parts => if objs st o = true then aBuildObj P t len parts A σ K else match aBuildSlice P t len (nodeOf parts A) with | some v => K v A σ | none => False
  | .makeSlice t x y => aMake P (steals st o) t (evalA A x) (evalA A y) A σ K
  | .binOp op t x y _ => if isNilConst y = true then (match op with
      | .eql => aNilTest P false t (evalA A x) A σ K
      | .neq => aNilTest P true t (evalA A x) A σ K
      | _ => False) else match apure P o A σ with | some v => K v A σ | none => False
  | .convert src dst x => if src = dst then aConvSame P src dst x A σ K else match apure P o A σ with | some v => K v A σ | none => False
  | .extract (.tmp t) ix => aExtract t ix A σ K
  | .build t parts => if objs st o = true then aBuildTake P (raws st o) t parts A σ K else match apure P o A σ with | some v => K v A σ | none => False
  | .call c => match c.callee, c.args.toList, c.argTypes.toList with
    | .builtin .append, [s, x], [t, t'] => t = t' ∧ if objs st o = true then aAppendObj P t s x A σ K else aAppend P t s x A σ K
    | .builtin .copy, [x, y], [t, _] => aCopy P t (evalA A x) (evalA A y) A σ K
    | _, _, _ => match apure P o A σ with | some v => K v A σ | none => False
  | _ => match apure P o A σ with | some v => K v A σ | none => False

theorem take_does {P : Program} {D : Nat → Prop} {n : Nat} {G : Ghost} {A : Slots} {σ : Store} {a : Act} {w : World} (h : Rel D n G A σ a w) {o : Oper} {K : AV → Slots → Store → Prop} {x : Operand}
    (hr : (execOp a.eval o).run P w = .ok (.value (a.eval x)) w) (hK : takeA A x fun v A' => K (conv P o.type v) A' σ) : Does P D n G a w o K := by
  obtain ⟨v, A', G', hk, hR, hv, hown, hext, hF⟩ := h.takes hK
  exact ⟨_, _, A', σ, G', w, hk, .inl hr, hR, conv_VR hv, conv_own hv hown, hext⟩

theorem pure_does {P : Program} {D : Nat → Prop} {n : Nat} {G : Ghost} {A : Slots} {σ : Store} {a : Act} {w : World} (h : Rel D n G A σ a w) {o : Oper} {K : AV → Slots → Store → Prop}
    (hK : match apure P o A σ with | some v => K v A σ | none => False) : Does P D n G a w o K := by
  split at hK
  · rename_i v hv
    obtain ⟨cv, h1, h2, h3⟩ := apure_sound hv h
    exact ⟨v, cv, A, σ, G, w, hK, .inl h1, h, h2, h3, Ext.refl ..⟩
  · exact hK.elim

theorem astep_sound {P : Program} {st : List Tmp} {D : Nat → Prop} {n : Nat} {G : Ghost} {A : Slots} {σ : Store} {a : Act} {w : World} (h : Rel D n G A σ a w) {o : Oper} {K : AV → Slots → Store → Prop}
    (hK : astep P st o A σ K) : Does P D n G a w o K := by
  unfold astep at hK
  split at hK
  · rename_i x ho
    split at hK
    · obtain ⟨v, A', G', hk, hR, hv, hown, hext, hF⟩ := h.takes hK
      exact ⟨_, _, A', σ, G', w, hk, .inl (by simp [execOp, ho]), hR, hv, hown, hext⟩
    · exact take_does h (by simp [execOp, ho]) hK
  · rename_i t ho
    split at hK
    · exact take_does h (by simp [execOp, ho]) hK
    · exact ⟨_, _, A, σ, G, w, hK, .inl (by simp [execOp, ho]), h, (h.eval (.tmp t)).share, OwnAt.share .., Ext.refl ..⟩
  · rename_i t y ho
    split at hK
    · exact aLoadTake_sound h ho hK
    · exact pure_does h hK
  · rename_i e ho; exact aAlloc_sound h ho hK
  · rename_i e x ho; exact aBox_sound h ho hK
  · rename_i t y x ho; exact aStore_sound h ho hK
  · rename_i t len parts ho
    split at hK
    · exact aBuildObj_sound h ho hK
    · split at hK
      · rename_i v hv; exact aBuildSlice_sound h ho hv hK
      · exact hK.elim
  · rename_i t x y ho; exact aMake_sound h ho hK
  · rename_i op t x y t' ho
    split at hK
    · rename_i hy
      split at hK
      · exact aNilTest_sound h (.inl ⟨rfl, rfl⟩) ho hy hK
      · exact aNilTest_sound h (.inr ⟨rfl, rfl⟩) ho hy hK
      · exact hK.elim
    · exact pure_does h hK
  · rename_i src dst x ho
    split at hK
    · exact aConvSame_sound h ho hK
    · exact pure_does h hK
  · rename_i t ix ho; exact aExtract_sound h ho hK
  · rename_i t parts ho
    split at hK
    · exact aBuildTake_sound h ho hK
    · exact pure_does h hK
  · rename_i c ho
    obtain ⟨callee, args, argTypes⟩ := c
    dsimp only at hK ho
    split at hK
    · rename_i s x t t' hargs hts
      obtain ⟨rfl, hK⟩ := hK
      have e1 : args = #[s, x] := by rw [← Array.toArray_toList (xs := args), hargs]
      have e2 : argTypes = #[t, t] := by rw [← Array.toArray_toList (xs := argTypes), hts]
      subst e1 e2
      split at hK
      · exact aAppendObj_sound h ho hK
      · exact aAppend_sound h ho hK
    · rename_i x y t t' hargs hts
      have e1 : args = #[x, y] := by rw [← Array.toArray_toList (xs := args), hargs]
      have e2 : argTypes = #[t, t'] := by rw [← Array.toArray_toList (xs := argTypes), hts]
      subst e1 e2
      exact aCopy_sound h ho hK
    · exact pure_does h hK
  · exact pure_does h hK

end Go.AL
/-
  The abstract-state logic: calls; one operation of a region, with its guard and its slot.
-/
namespace Go.AL
open Go Go.RowKit Classical
variable [GL]
set_option linter.unusedSectionVars false

/-- What a call comes to, of abstract arguments and of the store. -/
def ACalls (P : Program) (f : FuncId) (args : List AV) (σ : Store) (R : AV → Store → Prop) : Prop :=
  ∀ (D : Nat → Prop) (G : Ghost) (w : World) (cargs : Array Value), args.length = cargs.size →
    (∀ (i : Nat) (c : AV) (u : Value), args[i]? = some c → cargs[i]? = some u → VR G.F c u ∧ OwnAt G D (.arg i) c u) → WR D G σ w → (∀ k, w.heap.size ≤ k → D k) →
    Calls P f cargs w fun e w' => ∃ v cv G' σ', e = .returned cv ∧ R v σ' ∧ VR G'.F v cv ∧ OwnAt G' D .acc v cv ∧ WR D G' σ' w' ∧ Ext D G w G' w'

theorem ACalls.mono {P : Program} {f : FuncId} {args : List AV} {σ : Store} {R R' : AV → Store → Prop} (h : ACalls P f args σ R) (hr : ∀ v σ', R v σ' → R' v σ') : ACalls P f args σ R' :=
  fun D G w cargs h1 h2 h3 h4 => (h D G w cargs h1 h2 h3 h4).mono fun _ _ ⟨v, cv, G', σ', he, hR, rest⟩ => ⟨v, cv, G', σ', he, hr _ _ hR, rest⟩

/-- The call keeps the caller's slots. -/
theorem ACalls.frame {P : Program} {f : FuncId} {args : List AV} {σ : Store} {R : AV → Store → Prop} (hc : ACalls P f args σ R) {D : Nat → Prop} {n : Nat} {G : Ghost} {A : Slots} {a : Act} {w : World} (h : Rel D n G A σ a w)
    {cargs : Array Value} (hl : args.length = cargs.size) (hargs : ∀ (i : Nat) (c : AV) (u : Value), args[i]? = some c → cargs[i]? = some u → VR G.F c u ∧ OwnAt G D (.arg i) c u) :
    Calls P f cargs w fun e w' => ∃ v cv G' σ', e = .returned cv ∧ R v σ' ∧ VR G'.F v cv ∧ OwnAt G' D .acc v cv ∧ Rel D n G' A σ' a w' ∧ Ext D G w G' w' := by
  let Dc : Nat → Prop := fun k => w.heap.size ≤ k ∨ (∃ cs, σ k = some cs) ∨ (D k ∧ ∃ m z i j, G.S k = some (m, z, .arg i j)) ∨ (D k ∧ ∃ m z o j, G.S k = some (m, z, .obj o j))
  have hsub : ∀ k, Dc k → D k := by
    rintro k (h1 | ⟨cs, h2⟩ | h3 | h4)
    · exact h.fresh k h1
    · exact (h.world.obj k cs h2).1
    · exact h3.1
    · exact h4.1
  have own1 : ∀ {π : Place} {c : AV} {u : Value}, (∀ g m z, D g → G.S g = some (m, z, π) → Dc g) → Own1 G D π c u → Own1 G Dc π c u := by
    intro π c u hd ho
    unfold Own1 at *
    split at ho
    · obtain ⟨h1, z, h2, h3⟩ := ho
      exact ⟨hd _ _ _ h1 h2, z, h2, h3⟩
    · trivial
  have hW : WR Dc G σ w := by
    refine ⟨h.world.frz, h.world.own, fun o cs hcs => ?_, h.world.laid⟩
    obtain ⟨h1, h2, h3, cur, e, h4, h5, h6⟩ := h.world.obj o cs hcs
    refine ⟨.inr (.inl ⟨cs, hcs⟩), h2, h3, cur, e, h4, h5, fun i c u hc hu => ?_⟩
    obtain ⟨q1, q2, q3⟩ := h6 i c u hc hu
    exact ⟨q1, q2, own1 (fun g m z hd hg => .inr (.inr (.inr ⟨hd, m, z, o, i, hg⟩))) q3⟩
  have hA : ∀ (i : Nat) (c : AV) (u : Value), args[i]? = some c → cargs[i]? = some u → VR G.F c u ∧ OwnAt G Dc (.arg i) c u := by
    intro i c u hci hui
    obtain ⟨q1, q2⟩ := hargs i c u hci hui
    refine ⟨q1, ?_⟩
    have hd : ∀ j g m z, D g → G.S g = some (m, z, .arg i j) → Dc g := fun j g m z hd hg => .inr (.inr (.inl ⟨hd, m, z, i, j, hg⟩))
    unfold OwnAt at q2 ⊢
    split at q2
    · exact fun j c u hc hu => own1 (hd j) (q2 j c u hc hu)
    · exact fun j c u hc hu => own1 (hd j) (q2 j c u hc hu)
    · exact own1 (hd 0) q2
  refine (hc Dc G w cargs hl hA hW (fun k hk => .inl hk)).mono ?_
  rintro e w' ⟨v, cv, G', σ', he, hR, hv, ho, hW', hext⟩
  refine ⟨v, cv, G', σ', he, hR, hv, ho.wide hsub, h.step hext.frz (fun g m z i j hd hg => ?_) (hW'.wide hsub) hext.size, hext.wide hsub⟩
  have hnot : ¬ Dc g := by
    obtain ⟨q1, ⟨c, e', q2, _⟩, _⟩ := h.world.own g m z _ hg
    rintro (h1 | ⟨cs, h2⟩ | ⟨_, m', z', i', j', h3⟩ | ⟨_, m', z', i', j', h3⟩)
    · have := (Array.getElem?_eq_some_iff.1 q2).1; omega
    · rw [q1] at h2; cases h2
    · rw [hg] at h3; simp at h3
    · rw [hg] at h3; simp at h3
  rw [(hext.block g hnot).2.1]; exact hg

/-! ### The arguments -/
def takeArgs (P : Program) : List Operand → List TypeId → Slots → (List AV → Slots → Prop) → Prop
  | [], _, A, K => K [] A
  | x :: xs, ts, A, K => takeA A x fun v A' => takeArgs P xs ts.tail A' fun vs A'' => K (conv P (ts.headD 0) v :: vs) A''

def toArg (i : Nat) : Place → Place
  | .acc j => .arg i j
  | π => π

theorem takeArgs_sound {P : Program} {D : Nat → Prop} {n : Nat} {σ : Store} {a : Act} {w : World} : ∀ (xs : List Operand) (ts : List TypeId) (k : Nat) {G : Ghost} {A : Slots} {K : List AV → Slots → Prop}, Rel D n G A σ a w → takeArgs P xs ts A K →
    ∃ vs A' G', K vs A' ∧ Rel D n G' A' σ a w ∧ vs.length = xs.length ∧ (∀ (i : Nat) (c : AV) (x : Operand), vs[i]? = some c → xs[i]? = some x → VR G'.F c (a.eval x) ∧ OwnAt G' D (.arg (k + i)) c (a.eval x)) ∧ Ext D G w G' w ∧
      G'.F = G.F ∧ ∀ g m z i j, i < k → D g → G.S g = some (m, z, .arg i j) → G'.S g = some (m, z, .arg i j)
  | [], _, k, G, A, K, h, hK => ⟨[], A, G, hK, h, rfl, by simp, Ext.refl .., rfl, fun _ _ _ _ _ _ _ h => h⟩
  | x :: xs, ts, k, G, A, K, h, hK => by
    have step : ∃ v A1 G1, (takeArgs P xs ts.tail A1 fun vs A'' => K (conv P (ts.headD 0) v :: vs) A'') ∧ Rel D n G1 A1 σ a w ∧ VR G1.F v (a.eval x) ∧ OwnAt G1 D (.arg k) v (a.eval x) ∧ Ext D G w G1 w ∧ G1.F = G.F ∧
        ∀ g m z i j, i < k → D g → G.S g = some (m, z, .arg i j) → G1.S g = some (m, z, .arg i j) := by
      have plain : ∀ y : Operand, (evalA A y).plain = true → (takeArgs P xs ts.tail A fun vs A'' => K (conv P (ts.headD 0) (evalA A y) :: vs) A'') → y = x → ∃ v A1 G1, (takeArgs P xs ts.tail A1 fun vs A'' => K (conv P (ts.headD 0) v :: vs) A'') ∧ Rel D n G1 A1 σ a w ∧ VR G1.F v (a.eval x) ∧ OwnAt G1 D (.arg k) v (a.eval x) ∧ Ext D G w G1 w ∧ G1.F = G.F ∧
          ∀ g m z i j, i < k → D g → G.S g = some (m, z, .arg i j) → G1.S g = some (m, z, .arg i j) := by
        rintro y hp hk rfl
        exact ⟨_, A, G, hk, h, h.eval y, OwnAt.of_plain hp, Ext.refl .., rfl, fun _ _ _ _ _ _ _ h => h⟩
      cases x with
      | const c => exact plain (.const c) rfl hK rfl
      | global g => exact plain (.global g) (evalA_global_plain A g) hK rfl
      | func f => exact plain (.func f) rfl hK rfl
      | tmp t =>
        let f : Place → Place := fun π => match π with | .slot i j => if i = t then .arg k j else .slot i j | π => π
        refine ⟨A t, _, G.mv D f, hK, ⟨h.defers, h.size, fun i => ?_, fun i => ?_, h.world.mv _ (fun _ _ => rfl), h.fresh⟩, h.val t, ?_, Ext.mv .., rfl, fun g m z i j _ hd hg => by rw [Ghost.mv_some hd hg]⟩
        · simp only [upd]; split
          · rename_i hi; subst hi; exact (h.val i).share
          · exact h.val i
        · simp only [upd]; split
          · exact OwnAt.share ..
          · rename_i hi
            exact (h.own i).re fun g m z j hd hg => by rw [Ghost.mv_some hd hg]; simp [f, hi]
        · exact (h.own t).re fun g m z j hd hg => by rw [Ghost.mv_some hd hg]; simp [f]
    obtain ⟨v, A1, G1, hk1, hR1, hv1, ho1, hext1, hF1, hkeep1⟩ := step
    obtain ⟨vs, A', G', hk', hR', hl', hvs', hext', hF', hkeep'⟩ := takeArgs_sound xs ts.tail (k + 1) hR1 hk1
    refine ⟨conv P (ts.headD 0) v :: vs, A', G', hk', hR', by simp [hl'], fun i c y hc hy => ?_, hext1.trans hext', hF'.trans hF1, fun g m z i j hi hd hg => hkeep' g m z i j (by omega) hd (hkeep1 g m z i j hi hd hg)⟩
    cases i with
    | zero =>
      simp at hc hy; subst hc hy
      refine ⟨conv_VR (by rw [hF']; exact hv1), conv_own (F := G1.F) hv1 (ho1.re fun g m z j hd hg => hkeep' g m z k j (by omega) hd hg)⟩
    | succ i =>
      simp at hc hy
      have := hvs' i c y hc hy
      rwa [show k + 1 + i = k + (i + 1) from by omega] at this

/-! ### One operation: as it stands, or a call -/
def callable (P : Program) (f : FuncId) : Bool :=
  match P.funcs[f]? with
  | some fn => fn.body.isSome && !(fn.name == "runtime.NumGoroutine")
  | none => false

/-- An entry of the model's own, that leaves the world as it is. -/
def AExt (P : Program) (f : FuncId) (args : List AV) (σ : Store) (R : AV → Store → Prop) : Prop :=
  ∀ (D : Nat → Prop) (G : Ghost) (w : World) (cargs : Array Value), args.length = cargs.size → (∀ (i : Nat) (c : AV) (u : Value), args[i]? = some c → cargs[i]? = some u → VR G.F c u) → WR D G σ w →
    ∃ v cv, (callFunc f cargs).run P w = .ok (.value cv) w ∧ v.plain = true ∧ VR G.F v cv ∧ R v σ
theorem AExt.mono {P : Program} {f : FuncId} {args : List AV} {σ : Store} {R R' : AV → Store → Prop} (h : AExt P f args σ R) (hr : ∀ v σ', R v σ' → R' v σ') : AExt P f args σ R' :=
  fun D G w cargs h1 h2 h3 => let ⟨v, cv, q1, q2, q3, q4⟩ := h D G w cargs h1 h2 h3; ⟨v, cv, q1, q2, q3, hr _ _ q4⟩
def ACallX (P : Program) (f : FuncId) (args : List AV) (σ : Store) (R : AV → Store → Prop) : Prop := if callable P f = true then ACalls P f args σ R else AExt P f args σ R
theorem ACallX.mono {P : Program} {f : FuncId} {args : List AV} {σ : Store} {R R' : AV → Store → Prop} (h : ACallX P f args σ R) (hr : ∀ v σ', R v σ' → R' v σ') : ACallX P f args σ R' := by
  unfold ACallX at *
  split at h
  · rename_i hc; rw [if_pos hc]; exact h.mono hr
  · rename_i hc; rw [if_neg hc]; exact h.mono hr

def aoper (P : Program) (st : List Tmp) (o : Oper) (A : Slots) (σ : Store) (K : AV → Slots → Store → Prop) : Prop :=
  match o.op with
  | .call c => match c.callee with
    | .value f => match evalA A f with
      | .func (.func f) first captured => takeArgs P c.args.toList c.argTypes.toList A fun vs A' => ACallX P f (first.map AV.share ++ vs ++ captured.map AV.share) σ fun v σ' => K v A' σ'
      | _ => False
    | _ => astep P st o A σ K
  | _ => astep P st o A σ K

theorem run_callFunc {P : Program} {f : FuncId} (h : callable P f = true) (args : Array Value) (w : World) : (callFunc f args).run P w = .ok (.enter f args) w := by
  unfold callable at h
  cases hf : P.funcs[f]? with
  | none => simp [hf] at h
  | some fn =>
    simp [hf] at h
    obtain ⟨h1, h2⟩ := h
    obtain ⟨b, hb⟩ := Option.isSome_iff_exists.1 h1
    simp [callFunc, hf, hb, h2]

theorem plain_list {vs : List AV} {F : Frz} {us : Array Value} (h : ∀ (i : Nat) (c : AV) (u : Value), vs[i]? = some c → us[i]? = some u → VR F c u) (G : Ghost) (D : Nat → Prop) (r : Nat → Nat → Place) :
    ∀ (i : Nat) (c : AV) (u : Value), (vs.map AV.share)[i]? = some c → us[i]? = some u → VR F c u ∧ OwnAt G D (r i) c u := by
  intro i c u hc hu
  rw [List.getElem?_map] at hc
  cases hv : vs[i]? with
  | none => simp [hv] at hc
  | some v => simp [hv] at hc; subst hc; exact ⟨(h i v u hv hu).share, OwnAt.share ..⟩

end Go.AL
/-
  The abstract-state logic: regions and code.
-/
namespace Go.AL
open Go Go.RowKit Classical
variable [GL]
set_option linter.unusedSectionVars false

def aput (A : Slots) (dst : Option Tmp) (v : AV) : Slots :=
  match dst with
  | some d => upd A d v
  | none => A

theorem Rel.aput {D : Nat → Prop} {n : Nat} {G : Ghost} {A : Slots} {σ : Store} {a : Act} {w : World} (h : Rel D n G A σ a w) {v : AV} {cv : Value} (hv : VR G.F v cv) (ho : OwnAt G D .acc v cv) {dst : Option Tmp} (hd : ∀ d, dst = some d → d < n) :
    ∃ G', Rel D n G' (aput A dst v) σ (a.put dst cv) w ∧ Ext D G w G' w := by
  cases dst with
  | none => exact ⟨G, h, Ext.refl ..⟩
  | some d => exact ⟨_, h.put hv ho (hd d rfl), Ext.mv ..⟩

theorem takeA_mono {A : Slots} {x : Operand} {K K' : AV → Slots → Prop} (h : takeA A x K) (hk : ∀ v A', K v A' → K' v A') : takeA A x K' := by
  cases x <;> exact hk _ _ h
theorem takeArgs_mono {P : Program} : ∀ (xs : List Operand) (ts : List TypeId) {A : Slots} {K K' : List AV → Slots → Prop}, takeArgs P xs ts A K → (∀ v A', K v A' → K' v A') → takeArgs P xs ts A K'
  | [], _, _, _, _, h, hk => hk _ _ h
  | _ :: xs, ts, _, _, _, h, hk => takeA_mono h fun _ _ h' => takeArgs_mono xs ts.tail h' fun _ _ => hk _ _
theorem fillTake_mono {P : Program} {t : TypeId} : ∀ (parts : List (Nat × Operand)) (cs : List AV) {A : Slots} {K K' : List AV → Slots → Prop}, fillTake P t parts cs A K → (∀ v A', K v A' → K' v A') → fillTake P t parts cs A K'
  | [], _, _, _, _, h, hk => hk _ _ h
  | (i, x) :: rest, cs, A, K, K', h, hk => by
    simp only [fillTake] at *
    split at h
    · exact takeA_mono h fun v A' ⟨h1, h2, h3, h4⟩ => ⟨h1, h2, h3, fillTake_mono rest _ h4 hk⟩
    · exact h
theorem astep_mono {P : Program} {st : List Tmp} {o : Oper} {A : Slots} {σ : Store} {K K' : AV → Slots → Store → Prop} (h : astep P st o A σ K) (hk : ∀ v A' σ', K v A' σ' → K' v A' σ') : astep P st o A σ K' := by
  have pm : (match apure P o A σ with | some v => K v A σ | none => False) → (match apure P o A σ with | some v => K' v A σ | none => False) := by
    intro h; split at h
    · exact hk _ _ _ h
    · exact h
  unfold astep at *
  generalize steals st o = steal at *
  generalize objs st o = ob at *
  generalize o.op = op at h ⊢
  cases op with
  | assign x =>
    dsimp only at *
    split at h
    · rename_i hs; rw [if_pos hs]; exact takeA_mono h fun _ _ => hk _ _ _
    · rename_i hs; rw [if_neg hs]; exact takeA_mono h fun _ _ => hk _ _ _
  | move x =>
    cases x with
    | tmp t =>
      dsimp only at *
      split at h
      · rename_i hs; rw [if_pos hs]; exact takeA_mono h fun _ _ => hk _ _ _
      · rename_i hs; rw [if_neg hs]; exact hk _ _ _ h
    | _ => exact pm h
  | load t y =>
    dsimp only at *
    split at h
    · rename_i hs; rw [if_pos hs]
      unfold aLoadTake aLoadTakeAgg at *
      (repeat' split at h) <;> first | exact hk _ _ _ h | exact ⟨h.1, hk _ _ _ h.2⟩ | exact False.elim h
    · rename_i hs; rw [if_neg hs]; exact pm h
  | alloc e =>
    dsimp only [aAlloc] at *
    split at h
    · exact fun p hp => hk _ _ _ (h p hp)
    · exact h
  | box e x => exact takeA_mono h fun v A' h' => ⟨h'.1, fun p hp => hk _ _ _ (h'.2 p hp)⟩
  | store t y x =>
    dsimp only [aStore] at *
    split at h
    · split at h
      · exact takeA_mono h fun _ _ ⟨h1, h2, h3, h4⟩ => ⟨h1, h2, h3, hk _ _ _ h4⟩
      · exact h
    · exact h
  | buildSlice t len parts =>
    dsimp only at *
    split at h
    · rename_i hs; rw [if_pos hs]
      unfold aBuildObj at *
      (repeat' split at h) <;> first
        | exact False.elim h
        | exact ⟨h.1, h.2.1, fun p hp => hk _ _ _ (h.2.2 p hp)⟩
        | (obtain ⟨q1, q2, q3, q4, h⟩ := h; exact ⟨q1, q2, q3, q4, takeA_mono h fun v A' ⟨r1, r2, r3⟩ => ⟨r1, r2, fun p hp => hk _ _ _ (r3 p hp)⟩⟩)
    · rename_i hs; rw [if_neg hs]
      split at h
      · exact hk _ _ _ h
      · exact h
  | build t parts =>
    dsimp only at *
    split at h
    · rename_i hs; rw [if_pos hs]
      unfold aBuildTake at *
      split at h
      · exact fillTake_mono _ _ h fun _ _ => hk _ _ _
      · exact h
    · rename_i hs; rw [if_neg hs]; exact pm h
  | makeSlice t x y =>
    dsimp only [aMake] at *
    split at h
    · split at h
      · obtain ⟨h1, h2, h3, h4, h5, h6, h7, h8⟩ := h
        refine ⟨h1, h2, h3, h4, h5, h6, h7, ?_⟩
        split at h8
        · rename_i hs; rw [if_pos hs]; exact hk _ _ _ h8
        · rename_i hs; rw [if_neg hs]; exact fun p hp => hk _ _ _ (h8 p hp)
      · exact h
    · exact h
  | binOp op t x y t' =>
    dsimp only at *
    split at h
    · rename_i hs; rw [if_pos hs]
      cases op <;> first
        | exact False.elim h
        | (dsimp only [aNilTest] at *
           split at h
           · exact fun r hr => hk _ _ _ (h r hr)
           · exact hk _ _ _ h
           · exact h)
    · rename_i hs; rw [if_neg hs]; exact pm h
  | convert src dst x =>
    dsimp only at *
    split at h
    · rename_i hs; rw [if_pos hs]
      obtain ⟨q1, q2, q3⟩ := h
      refine ⟨q1, q2, takeA_mono q3 fun v A' hh => ?_⟩
      split at hh
      · exact hk _ _ _ hh
      · exact hh
    · rename_i hs; rw [if_neg hs]; exact pm h
  | extract x ix =>
    cases x with
    | tmp t =>
      dsimp only [aExtract] at *
      split at h
      · split at h
        · exact hk _ _ _ h
        · exact h
      · exact h
    | _ => exact pm h
  | call c =>
    dsimp only at *
    split at h
    · refine ⟨h.1, ?_⟩
      have h2 := h.2
      clear h
      split at h2
      · rename_i hs; rw [if_pos hs]
        unfold aAppendObj at *
        (repeat' split at h2) <;> first
          | exact False.elim h2
          | (obtain ⟨q1, q2, q3, q4, q5, q6, q7, q8⟩ := h2; exact ⟨q1, q2, q3, q4, q5, q6, fun h0 => hk _ _ _ (q7 h0), fun h0 p cap h1 h2 h3 => hk _ _ _ (q8 h0 p cap h1 h2 h3)⟩)
      · rename_i hs; rw [if_neg hs]
        unfold aAppend at *
        split at h2
        · split at h2
          · split at h2
            · refine takeA_mono h2 fun v A' h3 => ?_
              split at h3
              · obtain ⟨q1, q2, q3, q4, q5, q6, q7⟩ := h3; exact ⟨q1, q2, q3, q4, q5, q6, hk _ _ _ q7⟩
              · exact h3
            · exact h2
          · exact h2
        · exact h2
    · unfold aCopy at *
      split at h
      · exact ⟨h.1, h.2.1, hk _ _ _ h.2.2⟩
      · exact h
    · exact pm h
  | _ => exact pm h
theorem aoper_mono {P : Program} {st : List Tmp} {o : Oper} {A : Slots} {σ : Store} {K K' : AV → Slots → Store → Prop} (h : aoper P st o A σ K) (hk : ∀ v A' σ', K v A' σ' → K' v A' σ') : aoper P st o A σ K' := by
  have am := fun h => astep_mono (P := P) (st := st) (o := o) (A := A) (σ := σ) (K := K) (K' := K') h hk
  unfold aoper at *
  generalize o.op = op at h ⊢
  cases op with
  | call c =>
    dsimp only at *
    cases hc : c.callee with
    | value f =>
      rw [hc] at h
      dsimp only at *
      split at h
      · exact takeArgs_mono _ _ h fun _ _ hc => hc.mono fun _ _ => hk _ _ _
      · exact h
    | _ => rw [hc] at h; exact am h
  | _ => exact am h

/-- The post of a piece of code, lifted to the model. -/
def lift (D : Nat → Prop) (n : Nat) (G : Ghost) (w : World) (Q : Slots → Store → Prop) (a' : Act) (w' : World) : Prop :=
  ∃ G' A' σ', Q A' σ' ∧ Rel D n G' A' σ' a' w' ∧ Ext D G w G' w'
theorem lift_trans {D : Nat → Prop} {n : Nat} {G G1 : Ghost} {w w1 : World} {Q : Slots → Store → Prop} {a' : Act} {w' : World} (h : Ext D G w G1 w1) (k : lift D n G1 w1 Q a' w') : lift D n G w Q a' w' := by
  obtain ⟨G', A', σ', h1, h2, h3⟩ := k
  exact ⟨G', A', σ', h1, h2, h.trans h3⟩

theorem aoper_sound {P : Program} {st : List Tmp} {D : Nat → Prop} {n : Nat} {G : Ghost} {A : Slots} {σ : Store} {a : Act} {w : World} (h : Rel D n G A σ a w) {o : Oper} {K : AV → Slots → Store → Prop} (hK : aoper P st o A σ K)
    (hd : ∀ d, o.dst = some d → d < n) (Q : Exit → Act → World → Prop) : o.wp P a w (lift D n G w fun A' σ' => ∃ v A0, K v A0 σ' ∧ A' = aput A0 o.dst v) Q := by
  have fin : ∀ {v : AV} {cv : Value} {A' : Slots} {σ' : Store} {G' : Ghost} {w' : World}, K v A' σ' → Rel D n G' A' σ' a w' → VR G'.F v cv → OwnAt G' D .acc v cv → Ext D G w G' w' →
      lift D n G w (fun A' σ' => ∃ v A0, K v A0 σ' ∧ A' = aput A0 o.dst v) (a.put o.dst cv) w' := by
    intro v cv A' σ' G' w' hk hR hv ho hext
    obtain ⟨G2, h1, h2⟩ := hR.aput hv ho hd
    exact ⟨G2, _, σ', ⟨v, A', hk, rfl⟩, h1, hext.trans h2⟩
  have step : astep P st o A σ K → o.wp P a w (lift D n G w fun A' σ' => ∃ v A0, K v A0 σ' ∧ A' = aput A0 o.dst v) Q := by
    intro hs
    obtain ⟨v, cv, A', σ', G', w', hk, hr, hR, hv, ho, hext⟩ := astep_sound h hs
    unfold Oper.wp
    rcases hr with hr | ⟨hr, rfl⟩ <;> rw [hr]
    · exact fin hk hR hv ho hext
    · exact fin hk hR hv ho hext
  unfold aoper at hK
  split at hK
  · rename_i c hop
    split at hK
    · rename_i f hcallee
      split at hK
      case h_2 => exact hK.elim
      rename_i g first captured hf
      obtain ⟨vs, A', G1, hC, hR1, hl, hvs, hext1, hF1, _⟩ := takeArgs_sound _ _ first.length h hK
      have hfv := h.eval f
      rw [hf] at hfv
      generalize hfe : a.eval f = fv at hfv
      cases hfv with | func _ _ _ ufs ucs l1 l2 v1 v2 => ?_
      rw [← hF1] at v1 v2
      have hall : ∀ (i : Nat) (cc : AV) (u : Value), (first.map AV.share ++ vs ++ captured.map AV.share)[i]? = some cc → (ufs ++ c.args.map a.eval ++ ucs)[i]? = some u → VR G1.F cc u ∧ OwnAt G1 D (.arg i) cc u := (fun i cc u hc hu => by
        rw [List.getElem?_append, List.getElem?_append] at hc
        rw [Array.getElem?_append, Array.getElem?_append] at hu
        simp only [List.length_append, List.length_map, Array.size_append, Array.size_map, l1, hl, Array.length_toList] at hc hu
        split at hc
        · rename_i hi1
          rw [if_pos hi1] at hu
          split at hc
          · rename_i hi2
            rw [if_pos hi2] at hu
            exact plain_list (F := G1.F) v1 G1 D .arg i cc u hc hu
          · rename_i hi2
            rw [if_neg hi2] at hu
            rw [Array.getElem?_map] at hu
            cases hx : c.args[i - ufs.size]? with
            | none => simp [hx] at hu
            | some x =>
              simp [hx] at hu; subst hu
              have := hvs (i - ufs.size) cc x hc (by simpa using hx)
              rwa [show first.length + (i - ufs.size) = i from by simp at hi2; omega] at this
        · rename_i hi1
          rw [if_neg hi1] at hu
          have := plain_list (F := G1.F) v2 G1 D (fun _ => .arg i) (i - (ufs.size + c.args.size)) cc u hc hu
          exact this)
      by_cases hcal : callable P g = true
      case neg =>
        unfold ACallX at hC
        rw [if_neg hcal] at hC
        obtain ⟨v, cv, q1, q2, q3, q4⟩ := hC D G1 w (ufs ++ c.args.map a.eval ++ ucs) (by simp [l1, l2, hl]) (fun i cc u h1 h2 => (hall i cc u h1 h2).1) hR1.world
        have hrun : (execOp a.eval o).run P w = .ok (.value cv) w := by
          rw [Array.append_assoc] at q1
          simp [execOp, hop, resolve, hcallee, hfe, Deferred.ofValue, invoke, q1]
        unfold Oper.wp
        rw [hrun]
        exact fin q4 hR1 q3 (OwnAt.of_plain q2) hext1
      unfold ACallX at hC
      rw [if_pos hcal] at hC
      have hcall := hC.frame hR1 (cargs := ufs ++ c.args.map a.eval ++ ucs) (by simp [l1, l2, hl]) hall
      have hrun : (execOp a.eval o).run P w = .ok (.enter g (ufs ++ c.args.map a.eval ++ ucs)) w := by
        simp [execOp, hop, resolve, hcallee, hfe, Deferred.ofValue, invoke, run_callFunc hcal]
      unfold Oper.wp
      rw [hrun]
      refine hcall.mono ?_
      rintro e w' ⟨v, cv, G', σ', rfl, hk, hv, ho, hR', hext⟩
      exact fin hk hR' hv ho (hext1.trans hext)
    · exact step hK
  · exact step hK

/-! ### A region in one order -/
/-- What an operation told: a truth value, or nothing (it was left out); none: it is not known. -/
def yieldedA (ops : Array Oper) (A : Slots) (j : Nat) : Option (Option Bool) :=
  match (ops[j]?).bind (·.dst) with
  | some d => match A d with
    | .lit (.bool b) => some (some b)
    | .lit (.tuple _) => some none
    | _ => none
  | none => none

def estep (P : Program) (st : List Tmp) (ops : Array Oper) (i : Nat) (K : Slots → Store → Prop) (A : Slots) (σ : Store) : Prop :=
  match ops[i]? with
  | none => False
  | some o => match o.guard with
    | none => aoper P st o A σ fun v A' σ' => K (aput A' o.dst v) σ'
    | some (j, want) => match yieldedA ops A j with
      | some b => if b = some want then aoper P st o A σ fun v A' σ' => K (aput A' o.dst v) σ' else K (aput A o.dst (.lit undef)) σ
      | none => False

def dstOk (n : Nat) (o : Oper) : Bool := match o.dst with | some d => decide (d < n) | none => true

theorem yielded_of {D : Nat → Prop} {n : Nat} {G : Ghost} {A : Slots} {σ : Store} {a : Act} {w : World} (h : Rel D n G A σ a w) {ops : Array Oper} (hn : ∀ o ∈ ops.toList, dstOk n o = true) {j : Nat} {b : Option Bool} (hy : yieldedA ops A j = some b) : yielded ops a.tmps j = b := by
  unfold yieldedA at hy
  cases hd : (ops[j]?).bind (·.dst) with
  | none => simp [hd] at hy
  | some d =>
    rw [hd] at hy
    dsimp only at hy
    have hdn : d < n := by
      cases ho : ops[j]? with
      | none => simp [ho] at hd
      | some o =>
        simp [ho] at hd
        have := hn o (by have := Array.mem_of_getElem? ho; simpa using this)
        simpa [dstOk, hd] using this
    have hv := h.val d
    have hsz := h.size
    have hlt : d < a.tmps.size := hsz ▸ hdn
    have e1 : a.tmps.getD d undef = a.tmps[d]'hlt := by simp [Array.getD, hlt]
    rw [e1] at hv
    have e2 : a.tmps[d]? = some (a.tmps[d]'hlt) := by simp
    generalize a.tmps[d]'hlt = x at hv e2
    split at hy
    · rename_i b' hA
      simp at hy; subst hy
      rw [hA] at hv
      cases hv
      unfold yielded
      rw [hd]
      simp [e2]
    · rename_i us hA
      simp at hy; subst hy
      rw [hA] at hv
      cases hv
      unfold yielded
      rw [hd]
      simp [e2]
    · simp at hy

theorem estep_sound {P : Program} {st : List Tmp} {D : Nat → Prop} {n : Nat} {G : Ghost} {A : Slots} {σ : Store} {a : Act} {w : World} (h : Rel D n G A σ a w) {ops : Array Oper} (hn : ∀ o ∈ ops.toList, dstOk n o = true) {i : Nat} {K : Slots → Store → Prop}
    (hK : estep P st ops i K A σ) (Q : Exit → Act → World → Prop) : wpOp P ops Q i (lift D n G w K) a w := by
  unfold estep at hK
  unfold wpOp
  cases ho : ops[i]? with
  | none => rw [ho] at hK; exact hK.elim
  | some o =>
    rw [ho] at hK
    dsimp only at hK ⊢
    have hd : ∀ d, o.dst = some d → d < n := fun d hd => by
      have := hn o (by have := Array.mem_of_getElem? ho; simpa using this)
      simpa [dstOk, hd] using this
    have run : (aoper P st o A σ fun v A' σ' => K (aput A' o.dst v) σ') → o.wp P a w (lift D n G w K) Q := fun hk => by
      refine Oper.wp_mono (fun a' w' hl => ?_) (aoper_sound h hk hd Q)
      obtain ⟨G', A', σ', ⟨v, A0, h1, rfl⟩, h2, h3⟩ := hl
      exact ⟨G', _, σ', h1, h2, h3⟩
    split at hK
    · rename_i hg
      have hw : Region.wanted o (yielded ops a.tmps) = true := by simp [Region.wanted, hg]
      rw [if_pos hw]
      exact .inl (run hK)
    · rename_i j want hg
      split at hK
      case h_2 => exact hK.elim
      rename_i b hy
      have hyy := yielded_of h hn hy
      have hw : Region.wanted o (yielded ops a.tmps) = (b == some want) := by simp [Region.wanted, hg, hyy]
      split at hK
      · rename_i hb
        rw [if_pos (by rw [hw]; simp [hb])]
        exact .inl (run hK)
      · rename_i hb
        rw [if_neg (by rw [hw]; simp [hb])]
        obtain ⟨G2, h1, h2⟩ := h.aput (.lit undef) (OwnAt.of_plain (r := .acc) rfl) hd
        exact ⟨G2, _, σ, hK, h1, h2⟩

theorem estep_mono {P : Program} {st : List Tmp} {ops : Array Oper} {i : Nat} {K K' : Slots → Store → Prop} {A : Slots} {σ : Store} (h : estep P st ops i K A σ) (hk : ∀ A σ, K A σ → K' A σ) : estep P st ops i K' A σ := by
  unfold estep at *
  cases ho : ops[i]? with
  | none => rw [ho] at h; exact h
  | some o =>
    rw [ho] at h
    dsimp only at *
    split at h
    · exact aoper_mono h fun v A' σ' => hk _ _
    · split at h
      · split at h
        · rename_i hb; rw [if_pos hb]; exact aoper_mono h fun v A' σ' => hk _ _
        · rename_i hb; rw [if_neg hb]; exact hk _ _ h
      · exact h

/-- The operations in this order. -/
def aops (P : Program) (st : List Tmp) (ops : Array Oper) (Q : Slots → Store → Prop) : List Nat → Slots → Store → Prop
  | [] => Q
  | i :: rest => estep P st ops i (aops P st ops Q rest)

theorem aops_sound {P : Program} {st : List Tmp} {D : Nat → Prop} {n : Nat} {ops : Array Oper} (hn : ∀ o ∈ ops.toList, dstOk n o = true) {Q : Slots → Store → Prop} {Q' : Exit → Act → World → Prop} :
    ∀ (l : List Nat) {G0 G : Ghost} {w0 : World} {A : Slots} {σ : Store} {a : Act} {w : World}, (∀ a' w', lift D n G0 w0 Q a' w' → Q' .normal a' w') → Ext D G0 w0 G w → Rel D n G A σ a w → aops P st ops Q l A σ → wpOps P ops Q' l a w
  | [], G0, G, w0, A, σ, a, w, hq, hext, hR, h => hq a w ⟨G, A, σ, h, hR, hext⟩
  | i :: rest, G0, G, w0, A, σ, a, w, hq, hext, hR, h => by
    rw [wpOps_cons]
    refine wpOp_mono (fun a' w' hl => ?_) (estep_sound hR hn h Q')
    obtain ⟨G', A', σ', h1, h2, h3⟩ := hl
    exact aops_sound hn rest hq (hext.trans h3) h2 h1

end Go.AL
/-
  The abstract-state logic: a region that draws its order: which operations may be taken first, and that this covers all orders.
-/
namespace Go.AL
open Go Go.RowKit Classical
variable [GL]
set_option linter.unusedSectionVars false

def temps (xs : List Operand) : List Tmp := xs.filterMap fun | .tmp t => some t | _ => none

theorem upd_comm (A : Slots) {i j : Nat} (h : i ≠ j) (x y : AV) : upd (upd A i x) j y = upd (upd A j y) i x := by
  funext k; simp only [upd]
  split
  · rename_i h1; split
    · rename_i h2; exact absurd (h2.symm.trans h1) h
    · rfl
  · rfl
theorem upd_other {A : Slots} {i j : Nat} (h : j ≠ i) (x : AV) : upd A i x j = A j := by simp [upd, h]

theorem evalA_upd {A : Slots} {d : Tmp} {x : AV} {y : Operand} (h : d ∉ temps [y]) : evalA (upd A d x) y = evalA A y := by
  cases y with
  | tmp t => simp [temps] at h; exact upd_other (fun e => h e.symm) x
  | _ => rfl
theorem evalA_congr {A B : Slots} {y : Operand} (h : ∀ t ∈ temps [y], A t = B t) : evalA A y = evalA B y := by
  cases y with
  | tmp t => exact h t (by simp [temps])
  | _ => rfl
theorem temps_of {y : Operand} {xs : List Operand} (h : y ∈ xs) {t : Tmp} (ht : t ∈ temps [y]) : t ∈ temps xs := by
  cases y with
  | tmp u => simp [temps] at ht; subst ht; simp only [temps, List.mem_filterMap]; exact ⟨.tmp t, h, rfl⟩
  | _ => simp [temps] at ht

theorem takeA_frame {A : Slots} {d : Tmp} {x : AV} {y : Operand} {K : AV → Slots → Prop} (h : d ∉ temps [y]) (hK : takeA (upd A d x) y K) : takeA A y fun v A' => K v (upd A' d x) := by
  cases y with
  | tmp t =>
    have hne : t ≠ d := fun e => h (by simp [temps, e])
    simp only [takeA] at *
    rw [upd_other hne] at hK
    rwa [upd_comm A (Ne.symm hne)] at hK
  | _ => exact hK
theorem takeArgs_frame {P : Program} {d : Tmp} {x : AV} : ∀ (ys : List Operand) (ts : List TypeId) {A : Slots} {K : List AV → Slots → Prop}, d ∉ temps ys → takeArgs P ys ts (upd A d x) K → takeArgs P ys ts A fun v A' => K v (upd A' d x)
  | [], _, _, _, _, h => h
  | y :: ys, ts, A, K, hd, h => by
    have h1 : d ∉ temps [y] := fun hm => hd (temps_of (by simp) hm)
    have h2 : d ∉ temps ys := fun hm => hd (by simp only [temps, List.mem_filterMap] at hm ⊢; obtain ⟨z, hz, hz'⟩ := hm; exact ⟨z, by simp [hz], hz'⟩)
    exact takeA_mono (takeA_frame h1 h) fun _ _ h' => takeArgs_frame ys ts.tail h2 h'

theorem fillTake_frame {P : Program} {t : TypeId} {d : Tmp} {x : AV} : ∀ (parts : List (Nat × Operand)) (cs : List AV) {A : Slots} {K : List AV → Slots → Prop}, (∀ p ∈ parts, d ∉ temps [p.2]) → fillTake P t parts cs (upd A d x) K → fillTake P t parts cs A fun v A' => K v (upd A' d x)
  | [], _, _, _, _, h => h
  | (i, y) :: rest, cs, A, K, hd, h => by
    simp only [fillTake] at *
    split at h
    · exact takeA_mono (takeA_frame (hd (i, y) (by simp)) h) fun v A' ⟨h1, h2, h3, h4⟩ => ⟨h1, h2, h3, fillTake_frame rest _ (fun p hp => hd p (by simp [hp])) h4⟩
    · exact h

theorem map_congr_eval {A B : Slots} {xs : List Operand} (h : ∀ t ∈ temps xs, A t = B t) : xs.map (evalA A) = xs.map (evalA B) :=
  List.map_congr_left fun _y hy => evalA_congr fun t ht => h t (temps_of hy ht)

/-- What an operation computes hangs on its operands alone. -/
theorem apure_congr {P : Program} {o : Oper} {A B : Slots} {σ : Store} (h : ∀ t ∈ temps o.op.operands.toList, A t = B t) : apure P o A σ = apure P o B σ := by
  have ev : ∀ y ∈ o.op.operands.toList, evalA A y = evalA B y := fun y hy => evalA_congr fun t ht => h t (temps_of hy ht)
  unfold apure
  cases hop : o.op with
  | move x => rw [hop] at ev; have := ev x (by simp [Op.operands]); cases x <;> simp_all
  | pick c a b =>
    rw [hop] at ev
    have e1 := ev c (by simp [Op.operands]); have e2 := ev a (by simp [Op.operands]); have e3 := ev b (by simp [Op.operands])
    dsimp only
    rw [e1]
    split
    · split <;> simp_all
    · rfl
  | makeFunc fn first captured =>
    rw [hop] at ev
    simp only [Op.operands, Array.toList_append, List.mem_append] at ev
    dsimp only
    congr 2
    · exact List.map_congr_left fun y hy => by rw [ev y (.inl hy)]
    · exact List.map_congr_left fun y hy => by rw [ev y (.inr hy)]
  | build t parts =>
    rw [hop] at ev
    have : nodeOf parts A = nodeOf parts B := by
      unfold nodeOf
      exact List.map_congr_left fun p hp => by rw [ev p.2 (by simp [Op.operands]; exact ⟨p.1, by simpa using hp⟩)]
    dsimp only; rw [this]
  | slice t x lo hi mx =>
    rw [hop] at ev
    simp only [Op.operands, Array.toList_append] at ev
    have e1 := ev x (by simp)
    have e2 : lo.map (evalA A) = lo.map (evalA B) := by cases lo with | none => rfl | some y => simp [ev y (by simp)]
    have e3 : hi.map (evalA A) = hi.map (evalA B) := by cases hi with | none => rfl | some y => simp [ev y (by simp)]
    have e4 : mx.map (evalA A) = mx.map (evalA B) := by cases mx with | none => rfl | some y => simp [ev y (by simp)]
    dsimp only; rw [e1, e2, e3, e4]
  | call c =>
    rw [hop] at ev
    simp only [Op.operands, Call.operands, Array.toList_append, List.mem_append] at ev
    dsimp only
    split
    · rename_i x t hc hargs hts; rw [ev x (.inr (by rw [hargs]; simp))]
    · rename_i x y hc hargs; rw [ev x (.inr (by rw [hargs]; simp)), ev y (.inr (by rw [hargs]; simp))]
    · rename_i x y hc hargs; rw [ev x (.inr (by rw [hargs]; simp)), ev y (.inr (by rw [hargs]; simp))]
    · rfl
  | load t x => rw [hop] at ev; dsimp only; rw [ev x (by simp [Op.operands])]
  | nilCheck x => rw [hop] at ev; dsimp only; rw [ev x (by simp [Op.operands])]
  | binOp op t x y u => rw [hop] at ev; dsimp only; rw [ev x (by simp [Op.operands]), ev y (by simp [Op.operands])]
  | unOp op t x => rw [hop] at ev; dsimp only; rw [ev x (by simp [Op.operands])]
  | convert s t x => rw [hop] at ev; dsimp only; rw [ev x (by simp [Op.operands])]
  | fieldAddr s x f => rw [hop] at ev; dsimp only; rw [ev x (by simp [Op.operands])]
  | field s x f => rw [hop] at ev; dsimp only; rw [ev x (by simp [Op.operands])]
  | indexAddr t x y => rw [hop] at ev; dsimp only; rw [ev x (by simp [Op.operands]), ev y (by simp [Op.operands])]
  | index t x y => rw [hop] at ev; dsimp only; rw [ev x (by simp [Op.operands]), ev y (by simp [Op.operands])]
  | makeInterface t x => rw [hop] at ev; dsimp only; rw [ev x (by simp [Op.operands])]
  | _ => rfl

def Store.le (σ σ' : Store) : Prop := ∀ o cs, σ o = some cs → σ' o = some cs

theorem aLoad_grow {P : Program} {σ σ' : Store} (h : σ.le σ') {t : TypeId} {a v : AV} (hv : aLoad P σ t a = some v) : aLoad P σ' t a = some v := by
  unfold aLoad at *
  split at hv
  · rename_i h1 h2
    split at hv
    · split at hv
      · rename_i hs; simp only [h _ _ hs]; exact hv
      · simp at hv
    · exact hv
    · simp at hv
  · simp at hv

def isLoad (o : Oper) : Bool := match o.op with | .load .. => true | _ => false
theorem apure_store {P : Program} {o : Oper} {A : Slots} {σ σ' : Store} (h : isLoad o = false) : apure P o A σ = apure P o A σ' := by
  unfold apure; unfold isLoad at h
  cases hop : o.op with
  | move x => cases x <;> rfl
  | load t x => simp [hop] at h
  | _ => rfl
theorem apure_grow {P : Program} {o : Oper} {A : Slots} {σ σ' : Store} (h : σ.le σ') {v : AV} (hv : apure P o A σ = some v) : apure P o A σ' = some v := by
  cases hl : isLoad o with
  | false => rwa [← apure_store (σ := σ) hl]
  | true =>
    unfold isLoad at hl; unfold apure at *
    cases hop : o.op with
    | load t x =>
      rw [hop] at hv; dsimp only at *
      cases hx : aLoad P σ t (evalA A x) with
      | none => simp [hx] at hv
      | some y => rw [aLoad_grow h hx]; simpa [hx] using hv
    | _ => simp [hop] at hl

/-- Operations that only compute. -/
def pureOp (st : List Tmp) (o : Oper) : Bool :=
  match o.op with
  | .move (.tmp _) => !steals st o
  | .load .. => !steals st o
  | .binOp _ _ _ y _ => !isNilConst y
  | .convert src dst _ => !(src == dst)
  | .move _ | .pick .. | .nilCheck _ | .unOp .. | .fieldAddr .. | .field .. | .indexAddr .. | .index .. | .slice .. | .makeInterface .. | .makeFunc .. => true
  | .build .. => !objs st o
  | .call c => match c.callee with
    | .builtin .len | .builtin .min | .builtin .max => true
    | _ => false
  | _ => false

theorem pureOp_iff {P : Program} {st : List Tmp} {o : Oper} (h : pureOp st o = true) {A : Slots} {σ : Store} {K : AV → Slots → Store → Prop} : aoper P st o A σ K ↔ ∃ v, apure P o A σ = some v ∧ K v A σ := by
  have go : (match apure P o A σ with | some v => K v A σ | none => False) ↔ ∃ v, apure P o A σ = some v ∧ K v A σ := by
    cases apure P o A σ <;> simp
  unfold pureOp at h
  unfold aoper astep
  cases hop : o.op with
  | move x =>
    rw [hop] at h
    cases x with
    | tmp t =>
      simp only [Bool.not_eq_true', ← Bool.not_eq_true] at h
      dsimp only
      rw [if_neg h]
      simp [apure, hop, evalA]
    | _ => exact go
  | load t x =>
    rw [hop] at h
    simp only [Bool.not_eq_true', ← Bool.not_eq_true] at h
    dsimp only
    rw [if_neg h]; exact go
  | binOp op t x y t' =>
    rw [hop] at h
    simp only [Bool.not_eq_true', ← Bool.not_eq_true] at h
    dsimp only
    rw [if_neg h]; exact go
  | convert src dst x =>
    rw [hop] at h
    dsimp only
    rw [if_neg (by simpa using h)]; exact go
  | build t parts =>
    rw [hop] at h
    simp only [Bool.not_eq_true', ← Bool.not_eq_true] at h
    dsimp only
    rw [if_neg h]; exact go
  | call c =>
    rw [hop] at h
    dsimp only at *
    cases hc : c.callee with
    | builtin b =>
      rw [hc] at h
      cases b <;> first
        | (simp at h; done)
        | exact go
    | _ => rw [hc] at h; simp at h
  | _ => first
    | (simp [hop] at h; done)
    | exact go

/-- Operations that leave the objects as they are. -/
def growOp (st : List Tmp) (o : Oper) : Bool :=
  pureOp st o || match o.op with
  | .build .. | .binOp .. | .convert .. | .assign _ | .move _ | .alloc _ | .box .. | .buildSlice .. | .makeSlice .. | .extract .. => true
  | .call c => match c.callee with
    | .builtin .copy => false
    | .builtin _ => !objs st o
    | _ => false
  | _ => false

end Go.AL
/-
  The abstract-state logic: a region that draws its order, second part: an operation that only computes may be moved ahead of others; the plan of a region.
-/
namespace Go.AL
open Go Go.RowKit Classical
variable [GL]
set_option linter.unusedSectionVars false

/-- A slot that an operation does not name goes along; of the others only the operands' may have lost a right; the store grows only, where the operation is of that kind. -/
theorem aoper_frame {P : Program} {st : List Tmp} {o : Oper} {A : Slots} {σ : Store} {d : Tmp} {x : AV} {K : AV → Slots → Store → Prop} (hd : d ∉ temps o.op.operands.toList) (h : aoper P st o (upd A d x) σ K) :
    aoper P st o A σ fun v A' σ' => K v (upd A' d x) σ' := by
  have ap : apure P o (upd A d x) σ = apure P o A σ := apure_congr fun t ht => upd_other (fun e => by subst e; exact hd ht) x
  have pm : (match apure P o (upd A d x) σ with | some v => K v (upd A d x) σ | none => False) → (match apure P o A σ with | some v => K v (upd A d x) σ | none => False) := by rw [ap]; exact id
  have ev : ∀ y ∈ o.op.operands.toList, d ∉ temps [y] := fun y hy hm => hd (temps_of hy hm)
  have as : astep P st o (upd A d x) σ K → astep P st o A σ fun v A' σ' => K v (upd A' d x) σ' := by
    intro h
    unfold astep at *
    cases hop : o.op with
    | assign y =>
      rw [hop] at h ev
      dsimp only at *
      split at h
      · rename_i hs; rw [if_pos hs]; exact takeA_frame (ev y (by simp [Op.operands])) h
      · rename_i hs; rw [if_neg hs]; exact takeA_frame (ev y (by simp [Op.operands])) h
    | move y =>
      rw [hop] at h ev
      cases y with
      | tmp t =>
        have ht := ev (.tmp t) (by simp [Op.operands])
        dsimp only at *
        split at h
        · rename_i hs; rw [if_pos hs]; exact takeA_frame ht h
        · rename_i hs; rw [if_neg hs]; rwa [upd_other (fun e => ht (by simp [temps, e]))] at h
      | _ => exact pm h
    | load t y =>
      rw [hop] at h ev
      have hy := ev y (by simp [Op.operands])
      dsimp only at *
      split at h
      · rename_i hs; rw [if_pos hs]
        rw [evalA_upd hy] at h
        unfold aLoadTake aLoadTakeAgg at *
        (repeat' split at h) <;> first | exact h | exact False.elim h
      · rename_i hs; rw [if_neg hs]; exact pm h
    | alloc e => rw [hop] at h; exact h
    | box e y =>
      rw [hop] at h ev
      have hy := ev y (by simp [Op.operands])
      dsimp only [aBox] at *
      exact takeA_frame hy h
    | store t y z =>
      rw [hop] at h ev
      have hy := ev y (by simp [Op.operands])
      have hz := ev z (by simp [Op.operands])
      dsimp only at *
      rw [evalA_upd hy] at h
      unfold aStore at *
      split at h
      · split at h
        · exact takeA_frame hz h
        · exact h
      · exact h
    | buildSlice t len parts =>
      rw [hop] at h ev
      have : nodeOf parts (upd A d x) = nodeOf parts A := by
        unfold nodeOf
        exact List.map_congr_left fun p hp => by rw [evalA_upd (ev p.2 (by simp [Op.operands]; exact ⟨p.1, by simpa using hp⟩))]
      dsimp only at *
      split at h
      · rename_i hs; rw [if_pos hs]
        unfold aBuildObj at *
        split at h
        · exact h
        · rename_i e x he hparts
          have hx : d ∉ temps [x] := ev x (by
            simp only [Op.operands, hparts]; simp)
          split at h
          · obtain ⟨q1, q2, q3, q4, h⟩ := h
            exact ⟨q1, q2, q3, q4, takeA_frame hx h⟩
          · exact h
        · exact h
      · rename_i hs; rw [if_neg hs]
        rwa [this] at h
    | build t parts =>
      rw [hop] at h ev
      dsimp only at *
      split at h
      · rename_i hs; rw [if_pos hs]
        unfold aBuildTake at *
        split at h
        · exact fillTake_frame _ _ (fun p hp => ev p.2 (by simp [Op.operands]; exact ⟨p.1, by simpa using hp⟩)) h
        · exact h
      · rename_i hs; rw [if_neg hs]; exact pm h
    | makeSlice t y z =>
      rw [hop] at h ev
      have hy := ev y (by simp [Op.operands])
      have hz := ev z (by simp [Op.operands])
      dsimp only at *
      rwa [evalA_upd hy, evalA_upd hz] at h
    | binOp op t y z t' =>
      rw [hop] at h ev
      have hy := ev y (by simp [Op.operands])
      dsimp only at *
      split at h
      · rename_i hs; rw [if_pos hs]
        rw [evalA_upd hy] at h
        cases op <;> first
          | exact False.elim h
          | (dsimp only [aNilTest] at *
             split at h
             · exact h
             · exact h
             · exact h)
      · rename_i hs; rw [if_neg hs]; exact pm h
    | convert src dst y =>
      rw [hop] at h ev
      have hy := ev y (by simp [Op.operands])
      dsimp only at *
      split at h
      · rename_i hs; rw [if_pos hs]
        obtain ⟨q1, q2, q3⟩ := h
        refine ⟨q1, q2, takeA_mono (takeA_frame hy q3) fun v A' hh => ?_⟩
        split at hh
        · exact hh
        · exact hh
      · rename_i hs; rw [if_neg hs]; exact pm h
    | extract y ix =>
      rw [hop] at h ev
      cases y with
      | tmp t =>
        have ht := ev (.tmp t) (by simp [Op.operands])
        have hne : t ≠ d := fun e => ht (by simp [temps, e])
        dsimp only [aExtract] at *
        rw [upd_other hne] at h
        split at h
        · split at h
          · rwa [upd_comm A (Ne.symm hne)] at h
          · exact h
        · exact h
      | _ => exact pm h
    | call c =>
      rw [hop] at h ev
      simp only [Op.operands, Call.operands, Array.toList_append, List.mem_append] at ev
      dsimp only at *
      split at h
      · rename_i s y t t' hc hargs hts
        refine ⟨h.1, ?_⟩
        have h2 := h.2
        clear h
        have hs := ev s (.inr (by rw [hargs]; simp))
        have hy := ev y (.inr (by rw [hargs]; simp))
        split at h2
        · rename_i hso; rw [if_pos hso]
          unfold aAppendObj at *
          rw [evalA_upd hy, evalA_upd hs] at h2
          (repeat' split at h2) <;> first
            | exact False.elim h2
            | exact h2
        · rename_i hso; rw [if_neg hso]
          unfold aAppend at *
          rw [evalA_upd hy] at h2
          split at h2
          · split at h2
            · split at h2
              · exact takeA_mono (takeA_frame hs h2) fun v A' h3 => by
                  split at h3
                  · obtain ⟨q1, q2, q3, q4, q5, q6, q7⟩ := h3; exact ⟨q1, q2, q3, q4, q5, q6, q7⟩
                  · exact h3
              · exact h2
            · exact h2
          · exact h2
      · rename_i y z t t' hc hargs hts
        have hy := ev y (.inr (by rw [hargs]; simp))
        have hz := ev z (.inr (by rw [hargs]; simp))
        unfold aCopy at *
        rw [evalA_upd hy, evalA_upd hz] at h
        split at h
        · exact h
        · exact h
      · exact pm h
    | _ => rw [hop] at h; exact pm h
  unfold aoper at *
  cases hop : o.op with
  | call c =>
    rw [hop] at h ev
    simp only [Op.operands, Call.operands, Array.toList_append, List.mem_append] at ev
    dsimp only at *
    cases hc : c.callee with
    | value f =>
      rw [hc] at h ev
      have hf := ev f (.inl (by simp))
      have hargs : d ∉ temps c.args.toList := fun hm => by
        simp only [temps, List.mem_filterMap] at hm
        obtain ⟨z, hz, hz'⟩ := hm
        refine ev z (.inr hz) ?_
        cases z <;> simp_all [temps]
      dsimp only at *
      rw [evalA_upd hf] at h
      split at h
      · exact takeArgs_frame _ _ hargs h
      · exact h
    | _ => rw [hc] at h; exact as h
  | _ => rw [hop] at h; exact as h

theorem takeA_eff {A : Slots} {y : Operand} {K : AV → Slots → Prop} (h : takeA A y K) : takeA A y fun v A' => K v A' ∧ ∀ t, t ∉ temps [y] → A' t = A t := by
  cases y with
  | tmp t => exact ⟨h, fun u hu => upd_other (fun e => hu (by simp [temps, e])) _⟩
  | _ => exact ⟨h, fun _ _ => rfl⟩
theorem takeArgs_eff {P : Program} : ∀ (ys : List Operand) (ts : List TypeId) {A : Slots} {K : List AV → Slots → Prop}, takeArgs P ys ts A K → takeArgs P ys ts A fun v A' => K v A' ∧ ∀ t, t ∉ temps ys → A' t = A t
  | [], _, _, _, h => ⟨h, fun _ _ => rfl⟩
  | y :: ys, ts, A, K, h => takeA_mono (takeA_eff h) fun v A1 ⟨h1, e1⟩ => takeArgs_mono ys ts.tail (takeArgs_eff ys ts.tail h1) fun vs A2 ⟨h2, e2⟩ => ⟨h2, fun t ht => by
      have : temps (y :: ys) = temps [y] ++ temps ys := by cases y <;> rfl
      rw [this] at ht
      simp only [List.mem_append, not_or] at ht
      exact (e2 t ht.2).trans (e1 t ht.1)⟩

theorem fillTake_eff {P : Program} {t : TypeId} : ∀ (parts : List (Nat × Operand)) (cs : List AV) {A : Slots} {K : List AV → Slots → Prop}, fillTake P t parts cs A K → fillTake P t parts cs A fun v A' => K v A' ∧ ∀ t, t ∉ temps (parts.map (·.2)) → A' t = A t
  | [], _, _, _, h => ⟨h, fun _ _ => rfl⟩
  | (i, y) :: rest, cs, A, K, h => by
    simp only [fillTake] at *
    split at h
    · refine takeA_mono (takeA_eff h) fun v A1 ⟨⟨h1, h2, h3, h4⟩, e1⟩ => ⟨h1, h2, h3, fillTake_mono rest _ (fillTake_eff rest _ h4) fun vs A2 ⟨h5, e2⟩ => ⟨h5, fun t ht => ?_⟩⟩
      have : temps (((i, y) :: rest).map (·.2)) = temps [y] ++ temps (rest.map (·.2)) := by cases y <;> rfl
      rw [this] at ht
      simp only [List.mem_append, not_or] at ht
      exact (e2 t ht.2).trans (e1 t ht.1)
    · exact h

theorem temps_arg {xs ys : List Operand} {t : Tmp} (hs : ∀ y ∈ ys, y ∈ xs) (h : t ∉ temps xs) : t ∉ temps ys := fun hm => by
  simp only [temps, List.mem_filterMap] at hm
  obtain ⟨z, hz, hz'⟩ := hm
  refine h (temps_of (hs z hz) ?_)
  cases z <;> simp_all [temps]

theorem upd_le {σ : Store} {p : Nat} {cs : List AV} (h : σ p = none) : σ.le (σ.upd p cs) := fun o c ho => by
  have : o ≠ p := fun e => by subst e; rw [h] at ho; cases ho
  simp [Store.upd, this, ho]

/-- What an operation does to the slots and to the store. -/
theorem aoper_eff {P : Program} {st : List Tmp} {o : Oper} {A : Slots} {σ : Store} {K : AV → Slots → Store → Prop} (h : aoper P st o A σ K) :
    aoper P st o A σ fun v A' σ' => K v A' σ' ∧ (∀ t, t ∉ temps o.op.operands.toList → A' t = A t) ∧ (growOp st o = true → (isLoad o = true → steals st o = false) → σ.le σ') := by
  let E : Slots → Store → Prop := fun A' σ' => (∀ t, t ∉ temps o.op.operands.toList → A' t = A t) ∧ (growOp st o = true → (isLoad o = true → steals st o = false) → σ.le σ')
  have triv : E A σ := ⟨fun _ _ => rfl, fun _ _ => fun _ _ h => h⟩
  have pm : (match apure P o A σ with | some v => K v A σ | none => False) → (match apure P o A σ with | some v => K v A σ ∧ E A σ | none => False) := by
    intro h; split at h
    · exact ⟨h, triv⟩
    · exact h
  have tk : ∀ (y : Operand), y ∈ o.op.operands.toList → ∀ {A' : Slots} {σ' : Store}, (∀ t, t ∉ temps [y] → A' t = A t) → (growOp st o = true → (isLoad o = true → steals st o = false) → σ.le σ') → E A' σ' := fun y hy A' σ' h1 h2 =>
    ⟨fun t ht => h1 t (temps_arg (fun z hz => by simp at hz; subst hz; exact hy) ht), h2⟩
  have as : astep P st o A σ K → astep P st o A σ fun v A' σ' => K v A' σ' ∧ E A' σ' := by
    intro h
    unfold astep at *
    cases hop : o.op with
    | assign y =>
      rw [hop] at h tk
      dsimp only at *
      split at h
      · rename_i hs; rw [if_pos hs]; exact takeA_mono (takeA_eff h) fun v A' ⟨h1, h2⟩ => ⟨h1, tk y (by simp [Op.operands]) h2 fun _ _ _ _ h => h⟩
      · rename_i hs; rw [if_neg hs]; exact takeA_mono (takeA_eff h) fun v A' ⟨h1, h2⟩ => ⟨h1, tk y (by simp [Op.operands]) h2 fun _ _ _ _ h => h⟩
    | move y =>
      rw [hop] at h tk
      cases y with
      | tmp t =>
        dsimp only at *
        split at h
        · rename_i hs; rw [if_pos hs]; exact takeA_mono (takeA_eff h) fun v A' ⟨h1, h2⟩ => ⟨h1, tk _ (by simp [Op.operands]) h2 fun _ _ _ _ h => h⟩
        · rename_i hs; rw [if_neg hs]; exact ⟨h, triv⟩
      | _ => exact pm h
    | load t y =>
      rw [hop] at h
      dsimp only at *
      split at h
      · rename_i hs; rw [if_pos hs]
        unfold aLoadTake aLoadTakeAgg at *
        (repeat' split at h) <;> first
          | exact ⟨h.1, h.2, fun _ _ => rfl, fun _ h2 => by rw [hs] at h2; simp [isLoad, hop] at h2⟩
          | exact ⟨h, fun _ _ => rfl, fun _ h2 => by rw [hs] at h2; simp [isLoad, hop] at h2⟩
          | exact False.elim h
      · rename_i hs; rw [if_neg hs]; exact pm h
    | alloc e =>
      rw [hop] at h
      dsimp only [aAlloc] at *
      split at h
      · exact fun p hp => ⟨h p hp, fun _ _ => rfl, fun _ _ => upd_le hp⟩
      · exact h
    | box e y =>
      rw [hop] at h tk
      exact takeA_mono (takeA_eff h) fun v A' ⟨⟨h1, h2⟩, h3⟩ => ⟨h1, fun p hp => ⟨h2 p hp, tk y (by simp [Op.operands]) h3 fun _ _ => upd_le hp⟩⟩
    | store t y z =>
      rw [hop] at h tk
      dsimp only [aStore] at *
      split at h
      · split at h
        · exact takeA_mono (takeA_eff h) fun v A' ⟨⟨h1, h2, h3, h4⟩, h5⟩ => ⟨h1, h2, h3, h4, tk z (by simp [Op.operands]) h5 fun hg => by simp [growOp, pureOp, hop] at hg⟩
        · exact h
      · exact h
    | buildSlice t len parts =>
      rw [hop] at h tk
      dsimp only at *
      split at h
      · rename_i hs; rw [if_pos hs]
        unfold aBuildObj at *
        split at h
        · exact ⟨h.1, h.2.1, fun p hp => ⟨h.2.2 p hp, fun _ _ => rfl, fun _ _ => upd_le hp⟩⟩
        · rename_i e x he hparts
          split at h
          · obtain ⟨q1, q2, q3, q4, h⟩ := h
            refine ⟨q1, q2, q3, q4, takeA_mono (takeA_eff h) fun v A' ⟨⟨r1, r2, r3⟩, r4⟩ => ⟨r1, r2, fun p hp => ⟨r3 p hp, tk x (by simp only [Op.operands, hparts]; simp) r4 fun _ _ => upd_le hp⟩⟩⟩
          · exact h
        · exact h
      · rename_i hs; rw [if_neg hs]
        split at h
        · exact ⟨h, triv⟩
        · exact h
    | build t parts =>
      rw [hop] at h tk
      dsimp only at *
      split at h
      · rename_i hs; rw [if_pos hs]
        unfold aBuildTake at *
        split at h
        · refine fillTake_mono _ _ (fillTake_eff _ _ h) fun cs A' ⟨h1, h2⟩ => ⟨h1, fun t ht => h2 t fun hm => ht ?_, fun _ _ _ _ h => h⟩
          rw [hop]
          simp only [temps, List.mem_filterMap] at hm ⊢
          obtain ⟨z, hz, hz'⟩ := hm
          simp only [List.mem_map] at hz
          obtain ⟨p, hp, rfl⟩ := hz
          exact ⟨p.2, by simp [Op.operands]; exact ⟨p.1, by simpa using hp⟩, hz'⟩
        · exact h
      · rename_i hs; rw [if_neg hs]; exact pm h
    | makeSlice t y z =>
      rw [hop] at h
      dsimp only [aMake] at *
      split at h
      · split at h
        · obtain ⟨h1, h2, h3, h4, h5, h6, h7, h8⟩ := h
          refine ⟨h1, h2, h3, h4, h5, h6, h7, ?_⟩
          split at h8
          · rename_i hs; rw [if_pos hs]; exact ⟨h8, triv⟩
          · rename_i hs; rw [if_neg hs]; exact fun p hp => ⟨h8 p hp, fun _ _ => rfl, fun _ _ => upd_le hp⟩
        · exact h
      · exact h
    | binOp op t y z t' =>
      rw [hop] at h
      dsimp only at *
      split at h
      · rename_i hs; rw [if_pos hs]
        cases op <;> first
          | exact False.elim h
          | (dsimp only [aNilTest] at *
             split at h
             · exact fun r hr => ⟨h r hr, triv⟩
             · exact ⟨h, triv⟩
             · exact h)
      · rename_i hs; rw [if_neg hs]; exact pm h
    | convert src dst y =>
      rw [hop] at h tk
      dsimp only at *
      split at h
      · rename_i hs; rw [if_pos hs]
        obtain ⟨q1, q2, q3⟩ := h
        refine ⟨q1, q2, takeA_mono (takeA_eff q3) fun v A' ⟨hh, h2⟩ => ?_⟩
        split at hh
        · exact ⟨hh, tk y (by simp [Op.operands]) h2 fun _ _ _ _ h => h⟩
        · exact hh
      · rename_i hs; rw [if_neg hs]; exact pm h
    | extract y ix =>
      rw [hop] at h tk
      cases y with
      | tmp t =>
        dsimp only [aExtract] at *
        split at h
        · split at h
          · exact ⟨h, tk (.tmp t) (by simp [Op.operands]) (fun u hu => upd_other (fun e => hu (by simp [temps, e])) _) fun _ _ _ _ h => h⟩
          · exact h
        · exact h
      | _ => exact pm h
    | call c =>
      rw [hop] at h tk
      dsimp only at *
      split at h
      · rename_i s y t t' hc hargs hts
        refine ⟨h.1, ?_⟩
        have h2 := h.2
        clear h
        have hs : s ∈ (Op.call c).operands.toList := by simp only [Op.operands, Call.operands, Array.toList_append, List.mem_append]; exact .inr (by rw [hargs]; simp)
        split at h2
        · rename_i hso; rw [if_pos hso]
          have ng : growOp st o = false := by simp [growOp, pureOp, hop, hc, hso]
          have tr : ∀ σ', E A σ' := fun σ' => ⟨fun _ _ => rfl, fun hg => by rw [ng] at hg; cases hg⟩
          unfold aAppendObj at *
          (repeat' split at h2) <;> first
            | exact False.elim h2
            | (obtain ⟨q1, q2, q3, q4, q5, q6, q7, q8⟩ := h2; exact ⟨q1, q2, q3, q4, q5, q6, fun h0 => ⟨q7 h0, tr _⟩, fun h0 p cap h1 h2 h3 => ⟨q8 h0 p cap h1 h2 h3, tr _⟩⟩)
        · rename_i hso; rw [if_neg hso]
          unfold aAppend at *
          split at h2
          · split at h2
            · split at h2
              · exact takeA_mono (takeA_eff h2) fun v A' ⟨h3, h4⟩ => by
                  split at h3
                  · obtain ⟨q1, q2, q3, q4, q5, q6, q7⟩ := h3; exact ⟨q1, q2, q3, q4, q5, q6, q7, tk s hs h4 fun _ _ _ _ h => h⟩
                  · exact h3
              · exact h2
            · exact h2
          · exact h2
      · rename_i y z t t' hc hargs hts
        have ng : growOp st o = false := by simp [growOp, pureOp, hop, hc]
        have tr : ∀ σ', E A σ' := fun σ' => ⟨fun _ _ => rfl, fun hg => by rw [ng] at hg; cases hg⟩
        unfold aCopy at *
        split at h
        · exact ⟨h.1, h.2.1, h.2.2, tr _⟩
        · exact h
      · exact pm h
    | _ => rw [hop] at h; exact pm h
  unfold aoper at *
  cases hop : o.op with
  | call c =>
    rw [hop] at h
    dsimp only at *
    cases hc : c.callee with
    | value f =>
      rw [hc] at h
      dsimp only at *
      split at h
      · refine takeArgs_mono _ _ (takeArgs_eff _ _ h) fun vs A' ⟨h1, h2⟩ => h1.mono fun v σ' hk => ⟨hk, fun t ht => h2 t (temps_arg (fun z hz => ?_) ht), fun hg => ?_⟩
        · simp only [Op.operands, Call.operands, Array.toList_append, List.mem_append]; exact .inr hz
        · simp [growOp, pureOp, hop, hc] at hg
      · exact h
    | _ => rw [hc] at h; have := as h; dsimp only [E] at this; rw [hop] at this; exact this
  | _ => rw [hop] at h; have := as h; dsimp only [E] at this; rw [hop] at this; exact this

/-! ### Moving an operation that only computes ahead -/
def evalE (P : Program) (ops : Array Oper) (e : Oper) (A : Slots) (σ : Store) : Option AV :=
  match e.guard with
  | none => apure P e A σ
  | some (j, want) => match yieldedA ops A j with
    | some b => if b = some want then apure P e A σ else some (.lit undef)
    | none => none

theorem estep_pure {P : Program} {st : List Tmp} {ops : Array Oper} {i : Nat} {e : Oper} (he : ops[i]? = some e) (hp : pureOp st e = true) {K : Slots → Store → Prop} {A : Slots} {σ : Store} :
    estep P st ops i K A σ ↔ ∃ v, evalE P ops e A σ = some v ∧ K (aput A e.dst v) σ := by
  unfold estep evalE
  rw [he]
  dsimp only
  cases hg : e.guard with
  | none => exact pureOp_iff hp
  | some jw =>
    obtain ⟨j, want⟩ := jw
    dsimp only
    cases hy : yieldedA ops A j with
    | none => simp
    | some b =>
      dsimp only
      by_cases hb : b = some want
      · rw [if_pos hb, if_pos hb]; exact pureOp_iff hp
      · rw [if_neg hb, if_neg hb]; simp

theorem looks_op {ops : Array Oper} {o : Oper} {t : Tmp} (h : t ∈ temps o.op.operands.toList) : t ∈ o.looksAt ops := by
  unfold Oper.looksAt
  exact List.mem_append_left _ h
theorem looks_guard {ops : Array Oper} {o : Oper} {j : Nat} {want : Bool} (hg : o.guard = some (j, want)) {d : Tmp} (hd : (ops[j]?).bind (·.dst) = some d) : d ∈ o.looksAt ops := by
  unfold Oper.looksAt
  simp [hg, hd]

theorem yieldedA_congr {ops : Array Oper} {o : Oper} {A B : Slots} (h : ∀ t ∈ o.looksAt ops, A t = B t) {j : Nat} {want : Bool} (hg : o.guard = some (j, want)) : yieldedA ops A j = yieldedA ops B j := by
  unfold yieldedA
  cases hd : (ops[j]?).bind (·.dst) with
  | none => rfl
  | some d => dsimp only; rw [h d (looks_guard hg hd)]

theorem evalE_congr {P : Program} {ops : Array Oper} {e : Oper} {A B : Slots} {σ σ' : Store} (h : ∀ t ∈ e.looksAt ops, A t = B t) (hs : isLoad e = true → σ.le σ') {v : AV} (hv : evalE P ops e A σ = some v) : evalE P ops e B σ' = some v := by
  have ap : ∀ {v}, apure P e A σ = some v → apure P e B σ' = some v := fun {v} hv => by
    rw [apure_congr (B := B) fun t ht => h t (looks_op ht)] at hv
    cases hl : isLoad e with
    | true => exact apure_grow (hs hl) hv
    | false => rwa [← apure_store (σ := σ) hl]
  unfold evalE at *
  cases hg : e.guard with
  | none => rw [hg] at hv; exact ap hv
  | some jw =>
    obtain ⟨j, want⟩ := jw
    rw [hg] at hv
    dsimp only at *
    rw [yieldedA_congr h hg] at hv
    cases hy : yieldedA ops B j with
    | none => rw [hy] at hv; simp at hv
    | some b =>
      rw [hy] at hv
      dsimp only at *
      by_cases hb : b = some want
      · rw [if_pos hb] at *; exact ap hv
      · rw [if_neg hb] at *; exact hv

theorem aput_upd {A : Slots} {dst : Option Tmp} {d : Tmp} (h : dst ≠ some d) (v x : AV) : aput (upd A d x) dst v = upd (aput A dst v) d x := by
  cases dst with
  | none => rfl
  | some e => exact upd_comm A (fun heq => h (by rw [heq])) x v

/-- Two operations that may change places, the first of which only computes. -/
def indep (st : List Tmp) (ops : Array Oper) (e i : Oper) : Bool :=
  Oper.apart ops e i && pureOp st e && (pureOp st i || (e.looksAt ops).all fun t => !(temps i.op.operands.toList).contains t) && (!isLoad e || (growOp st i && (!isLoad i || !steals st i)))

theorem estep_swap {P : Program} {st : List Tmp} {ops : Array Oper} {k i : Nat} {e o : Oper} (he : ops[k]? = some e) (ho : ops[i]? = some o) (hi : indep st ops e o = true) {K : Slots → Store → Prop} {A : Slots} {σ : Store}
    (h : estep P st ops k (estep P st ops i K) A σ) : estep P st ops i (estep P st ops k K) A σ := by
  unfold indep at hi
  simp only [Bool.and_eq_true] at hi
  obtain ⟨⟨⟨hap, hpe⟩, hdis⟩, hld⟩ := hi
  obtain ⟨a1, a2, a3⟩ := Oper.apart_spec hap
  obtain ⟨v, hv, h⟩ := (estep_pure he hpe).1 h
  -- what is known behind the other one
  have back : ∀ {A' : Slots} {σ' : Store}, (∀ t ∈ e.looksAt ops, A' t = A t) → (isLoad e = true → σ.le σ') → K (aput A' e.dst v) σ' → estep P st ops k K A' σ' := fun h1 h2 h3 =>
    (estep_pure he hpe).2 ⟨v, evalE_congr (fun t ht => (h1 t ht).symm) h2 hv, h3⟩
  have frame : ∀ {K' : AV → Slots → Store → Prop}, aoper P st o (aput A e.dst v) σ K' → aoper P st o A σ fun x A' σ' => K' x (aput A' e.dst v) σ' := by
    intro K' hk
    cases hd : e.dst with
    | none => rw [hd] at hk; exact hk
    | some d => rw [hd] at hk; exact aoper_frame (fun hm => a1 d hd (looks_op hm)) hk
  have eff : ∀ {K' : AV → Slots → Store → Prop}, aoper P st o A σ K' → aoper P st o A σ fun x A' σ' => K' x A' σ' ∧ (∀ t ∈ e.looksAt ops, A' t = A t) ∧ (isLoad e = true → σ.le σ') := by
    intro K' hk
    by_cases hpo : pureOp st o = true
    · obtain ⟨x, hx, hk⟩ := (pureOp_iff hpo).1 hk
      exact (pureOp_iff hpo).2 ⟨x, hx, hk, fun _ _ => rfl, fun _ _ _ h => h⟩
    · refine aoper_mono (aoper_eff hk) fun x A' σ' ⟨h1, h2, h3⟩ => ⟨h1, fun t ht => h2 t fun hm => ?_, fun hl => ?_⟩
      · have := hdis
        simp only [hpo, Bool.false_or, List.all_eq_true] at this
        have := this t ht
        simp at this; exact this hm
      · simp only [hl, Bool.not_true, Bool.false_or, Bool.and_eq_true] at hld
        refine h3 hld.1 fun hlo => ?_
        have := hld.2
        simpa [hlo] using this
  have fin : ∀ {x : AV} {A' : Slots} {σ' : Store}, K (aput (aput A' e.dst v) o.dst x) σ' → (∀ t ∈ e.looksAt ops, A' t = A t) → (isLoad e = true → σ.le σ') → estep P st ops k K (aput A' o.dst x) σ' := by
    intro x A' σ' hk h1 h2
    refine back (fun t ht => ?_) h2 ?_
    · cases hd : o.dst with
      | none => exact h1 t ht
      | some d =>
        have hne : t ≠ d := fun e => by subst e; exact a3 t hd ht
        simp only [aput]; rw [upd_other hne]; exact h1 t ht
    · cases hd : e.dst with
      | none => rw [hd] at hk; exact hk
      | some d =>
        rw [hd] at hk
        simp only [aput] at hk ⊢
        have := aput_upd (A := A') (dst := o.dst) (fun h => a2 d hd h) x v
        simp only [aput] at this
        rw [← this]; exact hk
  unfold estep at h ⊢
  rw [ho] at h ⊢
  dsimp only at *
  have hyg : ∀ {j : Nat} {want : Bool}, o.guard = some (j, want) → yieldedA ops (aput A e.dst v) j = yieldedA ops A j := fun hg => yieldedA_congr (fun t ht => by
    cases hd : e.dst with
    | none => rfl
    | some d => exact upd_other (fun h => by subst h; exact a1 t hd ht) v) hg
  cases hg : o.guard with
  | none =>
    rw [hg] at h
    exact aoper_mono (eff (frame h)) fun x A' σ' ⟨h1, h2, h3⟩ => fin h1 h2 h3
  | some jw =>
    obtain ⟨j, want⟩ := jw
    rw [hg] at h
    dsimp only at *
    rw [hyg hg] at h
    cases hy : yieldedA ops A j with
    | none => rw [hy] at h; exact h
    | some b =>
      rw [hy] at h
      dsimp only at *
      by_cases hb : b = some want
      · rw [if_pos hb] at *; exact aoper_mono (eff (frame h)) fun x A' σ' ⟨h1, h2, h3⟩ => fin h1 h2 h3
      · rw [if_neg hb] at *
        exact fin h (fun _ _ => rfl) fun _ _ _ h => h

end Go.AL
/-
  The abstract-state logic: the plan of a region that draws its order; code.
-/
namespace Go.AL
open Go Go.RowKit Classical
variable [GL]
set_option linter.unusedSectionVars false

def aAny (P : Program) (st : List Tmp) (ops : Array Oper) (Q : Slots → Store → Prop) : Nat → Array Bool → Slots → Store → Prop
  | 0, listed, A, σ => Region.ready .any ops listed = [] ∧ Q A σ
  | fuel + 1, listed, A, σ => (Region.ready .any ops listed = [] → Q A σ) ∧ ∀ i ∈ Region.ready .any ops listed, estep P st ops i (aAny P st ops Q fuel (listed.setIfInBounds i true)) A σ

theorem aAny_sound {P : Program} {st : List Tmp} {D : Nat → Prop} {n : Nat} {ops : Array Oper} (hn : ∀ o ∈ ops.toList, dstOk n o = true) {Q : Slots → Store → Prop} {Q' : Exit → Act → World → Prop} :
    ∀ (fuel : Nat) (listed : Array Bool) {G0 G : Ghost} {w0 : World} {A : Slots} {σ : Store} {a : Act} {w : World}, (∀ a' w', lift D n G0 w0 Q a' w' → Q' .normal a' w') → Ext D G0 w0 G w → Rel D n G A σ a w → aAny P st ops Q fuel listed A σ → wpAny P .any ops Q' fuel listed a w
  | 0, listed, G0, G, w0, A, σ, a, w, hq, hext, hR, h => ⟨h.1, hq a w ⟨G, A, σ, h.2, hR, hext⟩⟩
  | fuel + 1, listed, G0, G, w0, A, σ, a, w, hq, hext, hR, h => by
    refine ⟨fun hr => hq a w ⟨G, A, σ, h.1 hr, hR, hext⟩, fun i hi => ?_⟩
    refine wpOp_mono (fun a' w' hl => ?_) (estep_sound hR hn (h.2 i hi) Q')
    obtain ⟨G', A', σ', h1, h2, h3⟩ := hl
    exact aAny_sound hn fuel _ hq (hext.trans h3) h2 h1

theorem mem_ready {ops : Array Oper} {listed : Array Bool} {i : Nat} : i ∈ Region.ready .any ops listed ↔ ∃ o, ops[i]? = some o ∧ listed.getD i true = false ∧ ∀ ed ∈ o.after.toList, Region.binds .any ed = true → listed.getD ed.on false = true := by
  unfold Region.ready
  simp only [List.mem_filter, List.mem_range, Bool.and_eq_true, Bool.not_eq_true']
  constructor
  · rintro ⟨h1, h2, h3⟩
    have ho : ops[i]? = some (ops[i]'h1) := by simp
    refine ⟨_, ho, h2, fun ed hed hb => ?_⟩
    rw [ho] at h3
    simp only [Option.map_some, Option.getD_some, Array.all_eq_true_iff_forall_mem] at h3
    have := h3 ed (by simpa using hed)
    simpa [hb] using this
  · rintro ⟨o, ho, h2, h3⟩
    refine ⟨(Array.getElem?_eq_some_iff.1 ho).1, h2, ?_⟩
    rw [ho]
    simp only [Option.map_some, Option.getD_some, Array.all_eq_true_iff_forall_mem]
    intro ed hed
    cases hb : Region.binds .any ed with
    | false => simp
    | true => simp [h3 ed (by simpa using hed) hb]

theorem getD_setB (l : Array Bool) (i j : Nat) (b d : Bool) : (l.setIfInBounds i b).getD j d = if i = j ∧ j < l.size then b else l.getD j d := by
  simp only [Array.getD_eq_getD_getElem?, Array.getElem?_setIfInBounds]
  by_cases h : i = j
  · subst h
    by_cases hi : i < l.size
    · simp [hi]
    · simp [hi]
  · simp [h]

/-- It may be taken first: the others that are open do not mind, or wait for it. -/
def ample (st : List Tmp) (ops : Array Oper) (listed : Array Bool) (k : Nat) (L : List Nat) : Bool :=
  match ops[k]? with
  | none => false
  | some e => ((k :: L).all fun i => listed.getD i true == false) &&
    (L.all fun i => match ops[i]? with | some o => o.after.toList.any fun ed => Region.binds .any ed && (k :: L).contains ed.on | none => false) &&
    ((List.range ops.size).all fun i => (k :: L).contains i || listed.getD i true || match ops[i]? with | some o => indep st ops e o | none => true) && pureOp st e

theorem postpone {P : Program} {st : List Tmp} {ops : Array Oper} {Q : Slots → Store → Prop} {k : Nat} {e : Oper} (he : ops[k]? = some e) (hp : pureOp st e = true) {L : List Nat}
    (hL : ∀ i ∈ L, ∃ o, ops[i]? = some o ∧ ∃ ed ∈ o.after.toList, Region.binds .any ed = true ∧ ed.on ∈ k :: L) : ∀ (fuel : Nat) (listed : Array Bool) (A : Slots) (σ : Store),
    (∀ i ∈ k :: L, listed.getD i true = false) → k ∈ Region.ready .any ops listed → (∀ i o, i ∉ k :: L → listed.getD i true = false → ops[i]? = some o → indep st ops e o = true) →
    estep P st ops k (aAny P st ops Q fuel (listed.setIfInBounds k true)) A σ → aAny P st ops Q (fuel + 1) listed A σ := by
  intro fuel
  induction fuel with
  | zero =>
    intro listed A σ hun hk hin h
    refine ⟨fun hr => (by rw [hr] at hk; cases hk), fun i hi => ?_⟩
    by_cases hik : i = k
    · subst hik; exact h
    · obtain ⟨v, _, h2⟩ := (estep_pure he hp).1 h
      obtain ⟨o, ho, h3, h4⟩ := mem_ready.1 hi
      have : i ∈ Region.ready .any ops (listed.setIfInBounds k true) := mem_ready.2 ⟨o, ho, by rw [getD_setB, if_neg (fun hh => hik hh.1.symm)]; exact h3, fun ed hed hb => by
        rw [getD_setB]; split
        · rfl
        · exact h4 ed hed hb⟩
      rw [h2.1] at this; cases this
  | succ f ih =>
    intro listed A σ hun hk hin h
    refine ⟨fun hr => (by rw [hr] at hk; cases hk), fun i hi => ?_⟩
    by_cases hik : i = k
    · subst hik; exact h
    · obtain ⟨o, ho, h3, h4⟩ := mem_ready.1 hi
      have hiL : i ∉ k :: L := by
        intro hm
        rcases List.mem_cons.1 hm with hm | hm
        · exact hik hm
        · obtain ⟨o', ho', ed, hed, hb, hon⟩ := hL i hm
          rw [ho] at ho'; simp only [Option.some.injEq] at ho'; subst ho'
          have q1 := h4 ed hed hb
          have q2 := hun _ hon
          simp only [Array.getD_eq_getD_getElem?] at q1 q2
          cases hx : listed[ed.on]? with
          | none => rw [hx] at q2; simp at q2
          | some b => rw [hx] at q1 q2; simp at q1 q2; simp [q1] at q2
      have hdep := hin i o hiL h3 ho
      have hi' : i ∈ Region.ready .any ops (listed.setIfInBounds k true) := mem_ready.2 ⟨o, ho, by rw [getD_setB, if_neg (fun hh => hik hh.1.symm)]; exact h3, fun ed hed hb => by
        rw [getD_setB]; split
        · rfl
        · exact h4 ed hed hb⟩
      have h5 := estep_swap he ho hdep (estep_mono h fun A' σ' hh => hh.2 i hi')
      refine estep_mono h5 fun A' σ' hh => ?_
      have hcomm : (listed.setIfInBounds k true).setIfInBounds i true = (listed.setIfInBounds i true).setIfInBounds k true := by
        apply Array.ext
        · simp
        · intro j h1 h2
          rw [Array.getElem_setIfInBounds, Array.getElem_setIfInBounds, Array.getElem_setIfInBounds, Array.getElem_setIfInBounds]
          · split <;> split <;> rfl
          all_goals (simp at h1 ⊢; exact h1)
      rw [hcomm] at hh
      obtain ⟨ok, hok, hk3, hk4⟩ := mem_ready.1 hk
      refine ih (listed.setIfInBounds i true) A' σ' (fun j hj => ?_) (mem_ready.2 ⟨ok, hok, ?_, fun ed hed hb => ?_⟩) (fun j o' hj hl ho' => hin j o' hj ?_ ho') hh
      · rw [getD_setB, if_neg (by rintro ⟨rfl, _⟩; exact hiL hj)]; exact hun j hj
      · rw [getD_setB, if_neg (fun hh => hik hh.1)]; exact hk3
      · rw [getD_setB]; split
        · rfl
        · exact hk4 ed hed hb
      · rw [getD_setB] at hl; split at hl
        · cases hl
        · exact hl

inductive Plan where
  | done
  | step (i : Nat) (p : Plan)
  | alt (p q : Plan)

def Plan.seq : List Nat → Plan → Plan
  | [], p => p
  | i :: l, p => .step i (Plan.seq l p)

def Plan.heads : Plan → List (Nat × Plan)
  | .done => []
  | .step i p => [(i, p)]
  | .alt p q => p.heads ++ q.heads

def aplan (P : Program) (st : List Tmp) (ops : Array Oper) (Q : Slots → Store → Prop) : Plan → Slots → Store → Prop
  | .done, A, σ => Q A σ
  | .step i p, A, σ => estep P st ops i (aplan P st ops Q p) A σ
  | .alt p q, A, σ => aplan P st ops Q p A σ ∧ aplan P st ops Q q A σ

/-- What waits for it, one round of looking. -/
def behind (ops : Array Oper) (k : Nat) : List Nat :=
  (List.range ops.size).foldl (fun L i => match ops[i]? with | some o => if o.after.toList.any fun ed => Region.binds .any ed && (k :: L).contains ed.on then i :: L else L | none => L) []

def planOk (st : List Tmp) (ops : Array Oper) : Nat → Array Bool → Plan → Bool
  | 0, listed, p => p.heads.isEmpty && (Region.ready .any ops listed).isEmpty
  | fuel + 1, listed, p =>
    match p.heads with
    | [] => (Region.ready .any ops listed).isEmpty
    | [(k, q)] => (Region.ready .any ops listed).contains k && ((Region.ready .any ops listed).all (· == k) || ample st ops listed k (behind ops k)) && planOk st ops fuel (listed.setIfInBounds k true) q
    | hs => ((Region.ready .any ops listed).all fun i => hs.any (·.1 == i)) && hs.all fun x => (Region.ready .any ops listed).contains x.1 && planOk st ops fuel (listed.setIfInBounds x.1 true) x.2

theorem aplan_heads {P : Program} {st : List Tmp} {ops : Array Oper} {Q : Slots → Store → Prop} {A : Slots} {σ : Store} : ∀ {p : Plan}, aplan P st ops Q p A σ → (p.heads = [] → Q A σ) ∧ ∀ x ∈ p.heads, estep P st ops x.1 (aplan P st ops Q x.2) A σ
  | .done, h => ⟨fun _ => h, by simp [Plan.heads]⟩
  | .step i p, h => ⟨by simp [Plan.heads], fun x hx => by simp [Plan.heads] at hx; subst hx; exact h⟩
  | .alt p q, h => by
    have h1 := aplan_heads h.1
    have h2 := aplan_heads h.2
    refine ⟨fun he => h1.1 (List.append_eq_nil_iff.1 he).1, fun x hx => ?_⟩
    rcases List.mem_append.1 hx with hx | hx
    · exact h1.2 x hx
    · exact h2.2 x hx

theorem planOk_sound {P : Program} {st : List Tmp} {ops : Array Oper} {Q : Slots → Store → Prop} : ∀ (fuel : Nat) (listed : Array Bool) (p : Plan) (A : Slots) (σ : Store), planOk st ops fuel listed p = true → aplan P st ops Q p A σ → aAny P st ops Q fuel listed A σ := by
  intro fuel
  induction fuel with
  | zero =>
    intro listed p A σ hok h
    simp only [planOk, Bool.and_eq_true, List.isEmpty_iff] at hok
    exact ⟨hok.2, (aplan_heads h).1 hok.1⟩
  | succ fuel ih =>
    intro listed p A σ hok h
    obtain ⟨h1, h2⟩ := aplan_heads h
    unfold planOk at hok
    split at hok
    · rename_i heq
      simp only [List.isEmpty_iff] at hok
      exact ⟨fun _ => h1 heq, fun i hi => by rw [hok] at hi; cases hi⟩
    · rename_i k q heq
      simp only [Bool.and_eq_true, Bool.or_eq_true] at hok
      obtain ⟨⟨c1, c2⟩, c3⟩ := hok
      have hk : k ∈ Region.ready .any ops listed := by simpa using c1
      have hs := h2 (k, q) (by rw [heq]; simp)
      have hs' := estep_mono hs fun A' σ' hh => ih _ q A' σ' c3 hh
      rcases c2 with c2 | c2
      · refine ⟨fun hr => (by rw [hr] at hk; cases hk), fun i hi => ?_⟩
        have := List.all_eq_true.1 c2 i hi
        simp at this; subst this; exact hs'
      · unfold ample at c2
        cases he : ops[k]? with
        | none => rw [he] at c2; cases c2
        | some e =>
          rw [he] at c2
          simp only [Bool.and_eq_true, List.all_eq_true] at c2
          obtain ⟨⟨⟨d1, d2⟩, d3⟩, d4⟩ := c2
          refine postpone he d4 (L := behind ops k) (fun i hi => ?_) fuel listed A σ (fun i hi => by have := d1 i hi; simpa using this) hk (fun i o hi hl ho => ?_) hs'
          · have := d2 i hi
            cases ho : ops[i]? with
            | none => rw [ho] at this; cases this
            | some o =>
              rw [ho] at this
              simp only [List.any_eq_true, Bool.and_eq_true] at this
              obtain ⟨ed, hed, hb, hon⟩ := this
              exact ⟨o, rfl, ed, hed, hb, by simpa using hon⟩
          · have := d3 i (by simp; exact (Array.getElem?_eq_some_iff.1 ho).1)
            rw [ho] at this
            simp only [Bool.or_eq_true] at this
            rcases this with (this | this) | this
            · exact absurd (by simpa using this) hi
            · rw [hl] at this; cases this
            · exact this
    · rename_i hne _
      simp only [Bool.and_eq_true, List.all_eq_true, List.any_eq_true] at hok
      obtain ⟨c1, c2⟩ := hok
      refine ⟨fun hr => ?_, fun i hi => ?_⟩
      · refine h1 ?_
        cases hp : p.heads with
        | nil => rfl
        | cons x xs =>
          have := (c2 x (by rw [hp]; simp)).1
          rw [hr] at this; simp at this
      · obtain ⟨x, hx, hxi⟩ := c1 i hi
        simp at hxi; subst hxi
        exact estep_mono (h2 x hx) fun A' σ' hh => ih _ x.2 A' σ' (c2 x hx).2 hh

/-! ### Code -/
/-- The operations as they stand. -/
def aopsAt (P : Program) (st : List Tmp) (ops : Array Oper) (Q : Slots → Store → Prop) : List Oper → Nat → Slots → Store → Prop
  | [], _ => Q
  | _ :: rest, i => estep P st ops i (aopsAt P st ops Q rest (i + 1))
theorem aopsAt_eq {P : Program} {st : List Tmp} {ops : Array Oper} {Q : Slots → Store → Prop} : ∀ (l : List Oper) (i : Nat), aopsAt P st ops Q l i = aops P st ops Q (List.range' i l.length)
  | [], _ => rfl
  | _ :: rest, i => by simp only [aopsAt, List.length_cons, List.range'_succ, aops]; rw [aopsAt_eq rest]

def AWp (P : Program) (n : Nat) (c : Code) (Q : Exit → Slots → Store → Prop) (A : Slots) (σ : Store) : Prop :=
  ∀ (D : Nat → Prop) (G : Ghost) (a : Act) (w : World), Rel D n G A σ a w → c.wp P (fun e a' w' => lift D n G w (Q e) a' w') a w

def athen (next : Slots → Store → Prop) (Q : Exit → Slots → Store → Prop) : Exit → Slots → Store → Prop
  | .normal => next
  | e => Q e
def ainBlock (id : Nat) (Q : Exit → Slots → Store → Prop) : Exit → Slots → Store → Prop
  | .exit id' => if id' = id then Q .normal else Q (.exit id')
  | e => Q e

/-- Code, by what is known of the slots and the store; a loop, and the like, stands as it is. 'plans': of the regions that draw their order. -/
def awp (P : Program) (st : List Tmp) (plans : List (Nat × Plan)) (n : Nat) : Code → (Exit → Slots → Store → Prop) → Slots → Store → Prop
  | .skip, Q => Q .normal
  | .label _, Q => Q .normal
  | .seq x y, Q => awp P st plans n x (athen (awp P st plans n y Q) Q)
  | .cond c x y, Q => fun A σ => match evalA A c with
    | .lit (.bool b) => if b = true then awp P st plans n x Q A σ else awp P st plans n y Q A σ
    | _ => False
  | .block id c, Q => awp P st plans n c (ainBlock id Q)
  | .exit id, Q => Q (.exit id)
  | .goto l, Q => Q (.goto l)
  | .ret, Q => Q .ret
  | .region id ops draw, Q => fun A σ => if draw = true then (match plans.lookup id with | some p => aplan P st ops (Q .normal) p A σ | none => False) else aopsAt P st ops (Q .normal) ops.toList 0 A σ
  | c, Q => AWp P n c Q

/-- Closed facts on the code: the slots lie within the frame, the plans cover all orders. -/
def codeOk (st : List Tmp) (plans : List (Nat × Plan)) (n : Nat) : Code → Bool
  | .seq x y => codeOk st plans n x && codeOk st plans n y
  | .cond _ x y => codeOk st plans n x && codeOk st plans n y
  | .block _ c => codeOk st plans n c
  | .loop c => codeOk st plans n c
  | .region id ops draw => ops.toList.all (dstOk n) && (!draw || match plans.lookup id with | some p => planOk st ops ops.size (Array.replicate ops.size false) p | none => false)
  | _ => true

theorem lift_mono {D : Nat → Prop} {n : Nat} {G : Ghost} {w : World} {Q Q' : Slots → Store → Prop} {a' : Act} {w' : World} (h : lift D n G w Q a' w') (hq : ∀ A σ, Q A σ → Q' A σ) : lift D n G w Q' a' w' := by
  obtain ⟨G', A', σ', h1, h2⟩ := h
  exact ⟨G', A', σ', hq _ _ h1, h2⟩
theorem lift_here {D : Nat → Prop} {n : Nat} {G : Ghost} {A : Slots} {σ : Store} {a : Act} {w : World} {Q : Slots → Store → Prop} (h : Rel D n G A σ a w) (hq : Q A σ) : lift D n G w Q a w := ⟨G, A, σ, hq, h, Ext.refl ..⟩

theorem AWp.mono {P : Program} {n : Nat} {c : Code} {Q Q' : Exit → Slots → Store → Prop} {A : Slots} {σ : Store} (h : AWp P n c Q A σ) (hq : ∀ e A σ, Q e A σ → Q' e A σ) : AWp P n c Q' A σ :=
  fun D G a w hR => wp_mono (h D G a w hR) fun e _ _ hl => lift_mono hl (hq e)

theorem AWp.seq {P : Program} {n : Nat} {x y : Code} {Q : Exit → Slots → Store → Prop} {A : Slots} {σ : Store} (h : AWp P n x (athen (AWp P n y Q) Q) A σ) : AWp P n (.seq x y) Q A σ := by
  intro D G a w hR
  refine wp_seq (wp_mono (h D G a w hR) fun e a' w' hl => ?_)
  obtain ⟨G', A', σ', h1, h2, h3⟩ := hl
  cases e with
  | normal => exact wp_mono (h1 D G' a' w' h2) fun e a'' w'' hl => lift_trans h3 hl
  | _ => exact ⟨G', A', σ', h1, h2, h3⟩

theorem AWp.block {P : Program} {n id : Nat} {c : Code} {Q : Exit → Slots → Store → Prop} {A : Slots} {σ : Store} (h : AWp P n c (ainBlock id Q) A σ) : AWp P n (.block id c) Q A σ := by
  intro D G a w hR
  refine wp_block (wp_mono (h D G a w hR) fun e a' w' hl => ?_)
  cases e with
  | exit id' =>
    simp only [Exit.inBlock, ainBlock] at *
    split at hl
    · rename_i hh; rw [if_pos hh]; exact hl
    · rename_i hh; rw [if_neg hh]; exact hl
  | _ => exact hl

theorem AWp.cond {P : Program} {n : Nat} {c : Operand} {x y : Code} {Q : Exit → Slots → Store → Prop} {A : Slots} {σ : Store} {b : Bool} (hc : evalA A c = .lit (.bool b)) (h : AWp P n (if b then x else y) Q A σ) : AWp P n (.cond c x y) Q A σ := by
  intro D G a w hR
  have hv := hR.eval c
  rw [hc] at hv
  generalize hcv : a.eval c = cv at hv
  cases hv
  exact wp_cond hcv (h D G a w hR)

theorem awp_sound {P : Program} (hm : P.follows .mixedOrders = true) {st : List Tmp} {plans : List (Nat × Plan)} {n : Nat} : ∀ (c : Code) {Q : Exit → Slots → Store → Prop} {A : Slots} {σ : Store}, codeOk st plans n c = true → awp P st plans n c Q A σ → AWp P n c Q A σ := by
  intro c
  induction c with
  | skip => intro Q A σ _ h D G a w hR; exact wp_skip (lift_here hR h)
  | label l => intro Q A σ _ h D G a w hR; exact wp_label (lift_here hR h)
  | exit id => intro Q A σ _ h D G a w hR; exact wp_exit (lift_here hR h)
  | goto l => intro Q A σ _ h D G a w hR; exact wp_goto (lift_here hR h)
  | ret => intro Q A σ _ h D G a w hR; exact wp_ret (lift_here hR h)
  | seq x y ihx ihy =>
    intro Q A σ hok h
    simp only [codeOk, Bool.and_eq_true] at hok
    refine AWp.seq ((ihx hok.1 h).mono fun e A σ hh => ?_)
    cases e with
    | normal => exact ihy hok.2 hh
    | _ => exact hh
  | cond c x y ihx ihy =>
    intro Q A σ hok h
    simp only [codeOk, Bool.and_eq_true] at hok
    simp only [awp] at h
    split at h
    · rename_i b hb
      refine AWp.cond hb ?_
      cases b
      · exact ihy hok.2 h
      · exact ihx hok.1 h
    · exact h.elim
  | block id c ih => intro Q A σ hok h; exact AWp.block (ih hok h)
  | region id ops draw =>
    intro Q A σ hok h D G a w hR
    simp only [codeOk, Bool.and_eq_true, Bool.or_eq_true, List.all_eq_true] at hok
    simp only [awp] at h
    cases draw with
    | false =>
      simp only [Bool.false_eq_true, if_false] at h
      rw [aopsAt_eq, Array.length_toList, ← List.range_eq_range'] at h
      exact wp_region (aops_sound hok.1 _ (fun a' w' hl => hl) (Ext.refl ..) hR h)
    | true =>
      simp only [if_true] at h
      cases hp : plans.lookup id with
      | none => rw [hp] at h; exact h.elim
      | some p =>
        rw [hp] at h
        have hok2 := hok.2
        simp only [hp, Bool.not_true, Bool.false_eq_true, false_or] at hok2
        exact wp_region_any hm (aAny_sound hok.1 _ _ (fun a' w' hl => hl) (Ext.drew (w := w)) hR.drew (planOk_sound _ _ p _ _ hok2 h))
  | _ => intro Q A σ _ h; exact h

end Go.AL
