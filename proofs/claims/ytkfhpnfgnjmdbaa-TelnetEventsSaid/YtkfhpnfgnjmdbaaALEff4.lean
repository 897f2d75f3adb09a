/-
  The abstract-state logic: make, parts of results, values that change hands; one operation under one name.
-/
import Derived.Test.YtkfhpnfgnjmdbaaALObj
import Derived.Laws.CopyRow
namespace Go.AL
open Go Go.RowKit Classical

theorem wrap_i64 {n : Int} (h0 : -9223372036854775808 ≤ n) (h1 : n ≤ 9223372036854775807) : IntKind.i64.wrap n = n := by
  have key : IntKind.i64.wrap n = if n % 18446744073709551616 ≥ 9223372036854775808 then n % 18446744073709551616 - 18446744073709551616 else n % 18446744073709551616 := by
    show (if (true && decide (n % (2 ^ 64 : Int) ≥ (2 ^ 63 : Int))) = true then n % (2 ^ 64 : Int) - (2 ^ 64 : Int) else n % (2 ^ 64 : Int)) = _
    simp
  rw [key]
  split <;> omega

def aMake (P : Program) (byVal : Bool) (t : TypeId) (l c : AV) (A : Slots) (σ : Store) (K : AV → Slots → Store → Prop) : Prop :=
  match tElem P t, l, c with
  | some e, .lit (.int _ l), .lit (.int _ c) => match tSize P e, tBytes P e, azero P e, zeroEl P e with
    | some sz, some bt, some zs, some z => 0 ≤ l ∧ l ≤ c ∧ 0 < sz ∧ zs.length = sz ∧ z.cells.length = sz ∧ c ≤ 9223372036854775807 ∧ bt * c ≤ 281474976710656 ∧
      (if byVal then K (.list true sz (List.replicate l.toNat z)) A σ else
        ∀ p, σ p = none → K (.lit (.slice (some ⟨p, 0, none⟩) l.toNat c.toNat)) A (σ.upd p (List.replicate c.toNat zs).flatten))
    | _, _, _, _ => False
  | _, _, _ => False

theorem run_make {P : Program} {w : World} {t e : TypeId} (he : tElem P t = some e) {sz bt : Nat} (hs : tSize P e = some sz) (hb : tBytes P e = some bt) {z : Value} (hz : tZero P e = some z) (hzl : z.cells.size = sz) {kl kc : IntKind} {l c : Int}
    (h0 : 0 ≤ l) (h1 : l ≤ c) (h2 : c ≤ 9223372036854775807) (h3 : bt * c ≤ 281474976710656) :
    ∃ cur : Array Value, cur.toList = (List.replicate c.toNat z.cells.toList).flatten ∧ (Instr.makeSlice t (.int kl l) (.int kc c)).run P w = .ok (.slice (some ⟨w.heap.size, 0, none⟩) l.toNat c.toNat) (w.alloc (.cells cur e)) := by
  obtain ⟨i, hi, hisz⟩ : ∃ i, P.info? e = some i ∧ i.size = sz := by
    unfold tSize at hs; cases hq : P.info? e with
    | none => simp [hq] at hs
    | some i => exact ⟨i, rfl, by simpa [hq] using hs⟩
  have hibt : i.bytes = bt := by simpa [tBytes, hi] using hb
  subst hisz hibt
  refine ⟨(Array.range (c.toNat * i.size)).map (z.cells[· % z.cells.size]!), ?_, ?_⟩
  · rw [← zeroCells_eq z.cells.toList i.size c.toNat (by simpa using hzl), hzl]
    simp only [Array.toList_map, Array.toList_range]
    apply List.map_congr_left
    intro j _
    rw [Array.getElem!_toList]
  · have hl : ¬ (c < 0 ∨ 281474976710656 < (i.bytes : Int) * c) := by omega
    by_cases hn : c.toNat * i.size = 0
    · simp [Instr.makeSlice, run_underlying (under_elem he), asInt, asIntOf, typeInfo, hi, wrap_i64 (n := l) (by omega) (by omega), wrap_i64 (n := c) (by omega) (by omega), hl, show ¬ l < 0 by omega, show ¬ c < l by omega, sizeOf, hn, newRow, Array.range_zero']
    · simp [Instr.makeSlice, run_underlying (under_elem he), asInt, asIntOf, typeInfo, hi, wrap_i64 (n := l) (by omega) (by omega), wrap_i64 (n := c) (by omega) (by omega), hl, show ¬ l < 0 by omega, show ¬ c < l by omega, sizeOf, hn, zeroValue, show i.zero = some z by simpa [tZero, hi] using hz, newRow]

theorem aMake_sound {P : Program} {D : Nat → Prop} {n : Nat} {G : Ghost} {A : Slots} {σ : Store} {a : Act} {w : World} (h : Rel D n G A σ a w) {o : Oper} {K : AV → Slots → Store → Prop} {bv : Bool} {t : TypeId} {x y : Operand}
    (ho : o.op = .makeSlice t x y) (hK : aMake P bv t (evalA A x) (evalA A y) A σ K) : Does P D n G a w o K := by
  unfold aMake at hK
  split at hK
  case h_2 => exact hK.elim
  rename_i e kl l kc c he hx hy
  split at hK
  case h_2 => exact hK.elim
  rename_i sz bt zs z hs hb hzs hz
  obtain ⟨h0, h1, hpos, hzsl, hzl, h2, h3, hK⟩ := hK
  have hxv := h.eval x
  have hyv := h.eval y
  rw [hx] at hxv; rw [hy] at hyv
  generalize hex : a.eval x = xv at hxv
  generalize hey : a.eval y = yv at hyv
  cases hxv; cases hyv
  obtain ⟨zv, hz1, hz2⟩ := azero_sound hzs G.F
  obtain ⟨zv', hz1', hz3⟩ := zeroEl_sound hz G.F
  rw [hz1] at hz1'; simp only [Option.some.injEq] at hz1'; subst hz1'
  have hzvl : zv.cells.size = sz := by have := hz2.1; simp at this; omega
  obtain ⟨cur, hcur, hrun⟩ := run_make (w := w) (kl := kl) (kc := kc) he hs hb hz1 hzvl h0 h1 h2 h3
  have hrun' : (execOp a.eval o).run P w = .ok (.value (.slice (some ⟨w.heap.size, 0, none⟩) l.toNat c.toNat)) (w.alloc (.cells cur e)) := by
    simp [execOp, ho, hex, hey, hrun]
  cases bv with
  | false =>
    simp only [Bool.false_eq_true, if_false] at hK
    exact newObj_does h (cur := cur) (e := e) (by rw [hcur]; exact hz2.rep _) (fun p => .slice (some ⟨p, 0, none⟩) l.toNat c.toNat) hK hrun'
  | true =>
    simp only [if_true] at hK
    have hwr : ∀ v ∈ List.replicate l.toNat z, v.cells.length = sz := fun v hv => by rw [(List.mem_replicate.1 hv).2, hzl]
    have hcl : cur.size = c.toNat * sz := by
      have := congrArg List.length hcur
      simp only [Array.length_toList, List.length_flatten, List.map_replicate, List.sum_replicate_nat, hzvl] at this
      simpa using this
    obtain ⟨G', q1, q2, q3, q4, _⟩ := newList h cur e sz (List.replicate l.toNat z) c.toNat hcl.symm (by simp; omega) (by unfold maxLen; omega) hwr (List.replicate l.toNat zv.cells.toList).flatten (by rw [flat_replicate]; exact hz3.rep _)
      (fun i u hu => by
        have hcur' : cur[i]? = cur.toList[i]? := by simp
        rw [hcur', hcur]
        have : c.toNat = l.toNat + (c.toNat - l.toNat) := by omega
        rw [this, ← List.replicate_append_replicate, List.flatten_append, List.getElem?_append_left (List.getElem?_eq_some_iff.1 hu).1]; exact hu)
    rw [List.length_replicate] at q2 q3
    exact ⟨_, _, A, σ, G', _, hK, .inl hrun', q1, q2, q3, q4⟩

/-! ### A part of a result -/
def AV.keep1 : AV → AV
  | .list o sz vs => .list o sz vs
  | v => v.share

def aExtract (t : Tmp) (ix : Nat) (A : Slots) (σ : Store) (K : AV → Slots → Store → Prop) : Prop :=
  match A t with
  | .tuple vs => match vs[ix]? with
    | some v => K v.keep1 (upd A t (.tuple (vs.set ix v.drop1))) σ
    | none => False
  | _ => False

def fromSlotAt (t ix : Nat) : Place → Place
  | .slot i j => if i = t ∧ j = ix then .acc 0 else .slot i j
  | π => π

theorem VR.keep1 {F : Frz} {a : AV} {v : Value} (h : VR F a v) : VR F a.keep1 v := by
  cases a <;> first
    | exact h.share
    | exact h

theorem aExtract_sound {P : Program} {D : Nat → Prop} {n : Nat} {G : Ghost} {A : Slots} {σ : Store} {a : Act} {w : World} (h : Rel D n G A σ a w) {o : Oper} {K : AV → Slots → Store → Prop} {t : Tmp} {ix : Nat}
    (ho : o.op = .extract (.tmp t) ix) (hK : aExtract t ix A σ K) : Does P D n G a w o K := by
  unfold aExtract at hK
  split at hK
  case h_2 => exact hK.elim
  rename_i vs hA
  split at hK
  case h_2 => exact hK.elim
  rename_i v hv
  have hx := h.val t
  have hown := h.own t
  rw [hA] at hx hown
  generalize hc : a.tmps.getD t undef = cv at hx hown
  cases hx with | tuple _ us hl hvr => ?_
  have hlt := (List.getElem?_eq_some_iff.1 hv).1
  have hu : us[ix]? = some (us[ix]'(by omega)) := by simp
  have hvv := hvr ix v _ hv hu
  have hW := h.world.mv (fromSlotAt t ix) (fun _ _ => rfl)
  refine ⟨_, us[ix], _, σ, G.mv D (fromSlotAt t ix), w, hK, .inl ?_, ⟨h.defers, h.size, fun i => ?_, fun i => ?_, hW, h.fresh⟩, hvv.keep1, ?_, Ext.mv ..⟩
  · have : a.eval (.tmp t) = .tuple us := hc
    simp [execOp, ho, this, Instr.extract, hu]
  · simp only [upd]; split
    · rename_i hi; subst hi
      rw [hc]
      refine .tuple _ us (by simpa using hl) fun j c u hcj huj => ?_
      rw [List.getElem?_set] at hcj
      split at hcj
      · rename_i hj; subst hj
        try rw [if_pos hlt] at hcj
        simp only [Option.some.injEq] at hcj; subst hcj
        exact (hvr ix v u hv huj).drop1
      · exact hvr j c u hcj huj
    · exact h.val i
  · simp only [upd]; split
    · rename_i hi; subst hi
      rw [hc]
      intro j c u hcj huj
      rw [List.getElem?_set] at hcj
      split at hcj
      · rename_i hj; subst hj
        try rw [if_pos hlt] at hcj
        simp only [Option.some.injEq] at hcj; subst hcj
        exact Own1.drop1 ..
      · rename_i hj
        exact (hown j c u hcj huj).re fun g m z hd hg => by rw [Ghost.mv_some hd hg]; simp [fromSlotAt, Ne.symm hj]
    · rename_i hi
      exact (h.own i).re fun g m z j hd hg => by rw [Ghost.mv_some hd hg]; simp [fromSlotAt, hi]
  · cases v with
    | list own sz ws =>
      have := hown ix _ _ hv hu
      exact this.re fun g m z hd hg => by rw [Ghost.mv_some hd hg]; simp [fromSlotAt]
    | _ => simp only [AV.keep1]; exact OwnAt.share ..

/-! ### A cell that gives its right away -/
def aLoadTake (P : Program) (t : TypeId) (ad : AV) (A : Slots) (σ : Store) (K : AV → Slots → Store → Prop) : Prop :=
  match tAgg P t, ad with
  | some false, .lit (.pointer (some ⟨o, off, none⟩)) => match σ o with
    | some cs => match cs[off]? with
      | some c => K c.keep1 A (σ.upd o (cs.set off c.drop1))
      | none => False
    | none => False
  | some true, _ => aLoadTakeAgg P t ad A σ K
  | _, _ => False

def fromObjAt (o ix : Nat) : Place → Place
  | .obj p j => if p = o ∧ j = ix then .acc 0 else .obj p j
  | π => π

theorem aLoadTake_sound {P : Program} {D : Nat → Prop} {n : Nat} {G : Ghost} {A : Slots} {σ : Store} {a : Act} {w : World} (h : Rel D n G A σ a w) {o : Oper} {K : AV → Slots → Store → Prop} {t : TypeId} {y : Operand}
    (ho : o.op = .load t y) (hK : aLoadTake P t (evalA A y) A σ K) : Does P D n G a w o K := by
  unfold aLoadTake at hK
  split at hK
  case h_2 => rename_i hagg; exact aLoadTakeAgg_sound h ho hagg hK
  case h_3 => exact hK.elim
  rename_i p off hagg heq
  split at hK
  case h_2 => exact hK.elim
  rename_i cs hcs
  split at hK
  case h_2 => exact hK.elim
  rename_i c hc
  have hy := h.eval y
  rw [heq] at hy
  generalize hyv : a.eval y = yv at hy
  cases hy
  obtain ⟨p1, p2, p3, cur, e, p4, p5, p6⟩ := h.world.obj p cs hcs
  have hlt := (List.getElem?_eq_some_iff.1 hc).1
  have hu : cur[off]? = some (cur[off]'(by omega)) := by simp
  obtain ⟨r1, r2, r3⟩ := p6 off c _ hc hu
  refine ⟨_, cur[off], A, _, G.mv D (fromObjAt p off), w, hK, .inl ?_, h.step (fun _ _ _ h => h) (fun g m z i j hd hg => by rw [Ghost.mv_some hd hg]; rfl) ?_ (Nat.le_refl _), r2.keep1, ?_, Ext.mv ..⟩
  · have hcell : w.cell? ⟨p, off, none⟩ = some cur[off] := by rw [cell_of_row w p off cur e (0, 0) p4]; exact hu
    simp [execOp, ho, hyv, Instr.loadAt, Instr.sureAddr, loadVar, run_isAgg hagg, hcell]
  · refine h.world.objTo hcs rfl (fun g m z π hg => Ghost.mv_back hg) (fun g m z q i hd hq _ hg => by rw [Ghost.mv_some hd hg]; simp [fromObjAt, hq]) p4 p4 (fun _ _ => rfl) (by simpa using p5) fun i c' u hci hui => ?_
    rw [List.getElem?_set] at hci
    split at hci
    · rename_i hi; subst hi
      try rw [if_pos hlt] at hci
      simp only [Option.some.injEq] at hci; subst hci
      obtain ⟨q1, q2, q3⟩ := p6 off c u hc hui
      exact ⟨q1, q2.drop1, Own1.drop1 ..⟩
    · rename_i hi
      obtain ⟨q1, q2, q3⟩ := p6 i c' u hci hui
      exact ⟨q1, q2, q3.re fun g m z hd hg => by rw [Ghost.mv_some hd hg]; simp [fromObjAt, Ne.symm hi]⟩
  · cases c with
    | list own sz ws => exact r3.re fun g m z hd hg => by rw [Ghost.mv_some hd hg]; simp [fromObjAt]
    | _ => simp only [AV.keep1]; exact OwnAt.share ..

/-! ### Is a slice nil? Of an empty list nobody knows. -/
def isNilConst : Operand → Bool
  | .const (.slice none 0 0) => true
  | _ => false
def aNilTest (P : Program) (neg : Bool) (t : TypeId) (a : AV) (A : Slots) (σ : Store) (K : AV → Slots → Store → Prop) : Prop :=
  match tElem P t, a with
  | some _, .list _ _ vs => ∀ r : Bool, (r = true → vs = []) → K (.lit (.bool (r != neg))) A σ
  | some _, .lit (.slice b _ _) => K (.lit (.bool (b.isNone != neg))) A σ
  | _, _ => False

theorem aNilTest_sound {P : Program} {D : Nat → Prop} {n : Nat} {G : Ghost} {A : Slots} {σ : Store} {a : Act} {w : World} (h : Rel D n G A σ a w) {o : Oper} {K : AV → Slots → Store → Prop} {op : BinOp} {neg : Bool} {t t' : TypeId} {x y : Operand}
    (hop : (op = .eql ∧ neg = false) ∨ (op = .neq ∧ neg = true)) (ho : o.op = .binOp op t x y t') (hy : isNilConst y = true) (hK : aNilTest P neg t (evalA A x) A σ K) : Does P D n G a w o K := by
  have hyv : a.eval y = .slice none 0 0 := by
    unfold isNilConst at hy
    split at hy
    · rfl
    · cases hy
  have fin : ∀ (b : Option Addr) (l c : Nat), a.eval x = .slice b l c → (∃ e, tElem P t = some e) → K (.lit (.bool (b.isNone != neg))) A σ → Does P D n G a w o K := by
    rintro b l c hb ⟨e, he⟩ hk
    refine ⟨_, _, A, σ, G, w, hk, .inl ?_, h, .lit _, OwnAt.of_plain rfl, Ext.refl ..⟩
    have heq : ∀ d, (Op.equalIn (d + 1) t (.slice b l c) (.slice none 0 0)).run P w = .ok b.isNone w := fun d => by
      cases b <;> simp [Op.equalIn, run_underlying (under_elem he)]
    have heq' : (Op.equal t (.slice b l c) (.slice none 0 0)).run P w = .ok b.isNone w := heq 9999
    rcases hop with ⟨rfl, rfl⟩ | ⟨rfl, rfl⟩
    · have e1 : binOp .eql t (.slice b l c) (.slice none 0 0) = (do pure (.bool (← Op.equal t (.slice b l c) (.slice none 0 0)))) := rfl
      have e2 : eqGuard .eql t x y (.slice b l c) (.slice none 0 0) = pure () := rfl
      simp [execOp, ho, hb, hyv, e1, e2, heq']
    · have e1 : binOp .neq t (.slice b l c) (.slice none 0 0) = (do pure (.bool (!(← Op.equal t (.slice b l c) (.slice none 0 0))))) := rfl
      have e2 : eqGuard .neq t x y (.slice b l c) (.slice none 0 0) = pure () := rfl
      simp [execOp, ho, hb, hyv, e1, e2, heq']
  unfold aNilTest at hK
  have hx := h.eval x
  split at hK
  · rename_i e _ _ vs he hA
    rw [hA] at hx
    generalize hxv : a.eval x = xv at hx
    cases hx with
    | nil => exact fin none 0 0 hxv ⟨e, he⟩ (hK true (fun _ => rfl))
    | void => exact fin (some _) 0 0 hxv ⟨e, he⟩ (hK false (by simp))
    | list _ _ _ g off m cap us hn hcap hw hl hF hv => exact fin _ m cap hxv ⟨e, he⟩ (hK false (by simp))
  · rename_i e b l c he hA
    rw [hA] at hx
    generalize hxv : a.eval x = xv at hx
    cases hx
    exact fin b l c hxv ⟨e, he⟩ hK
  · exact hK.elim

/-! ### A slice converted to its own type: its bytes may be a string's from now on -/
def aConvSame (P : Program) (src dst : TypeId) (x : Operand) (A : Slots) (σ : Store) (K : AV → Slots → Store → Prop) : Prop :=
  src = dst ∧ (tElem P dst).bind (tInt P) = some .u8 ∧ takeA A x fun v A' => match v with
    | .list true 1 (v :: vs) => K (.list false 1 (v :: vs)) A' σ
    | _ => False

theorem aConvSame_sound {P : Program} {D : Nat → Prop} {n : Nat} {G : Ghost} {A : Slots} {σ : Store} {a : Act} {w : World} (h : Rel D n G A σ a w) {o : Oper} {K : AV → Slots → Store → Prop} {src dst : TypeId} {x : Operand}
    (ho : o.op = .convert src dst x) (hK : aConvSame P src dst x A σ K) : Does P D n G a w o K := by
  obtain ⟨rfl, hel, hK⟩ := hK
  cases he : tElem P src with
  | none => simp [he] at hel
  | some e =>
    simp [he] at hel
    obtain ⟨v, A', G1, hk, hR, hv, hown, hext, hF⟩ := h.takes hK
    split at hk
    case h_2 => exact hk.elim
    rename_i v0 vs0
    generalize hvs : v0 :: vs0 = vs at *
    generalize hxv : a.eval x = xv at hv hown
    have hus := under_elem he
    have hui := under_int hel
    cases hv with
    | nil => cases hvs
    | list _ _ _ g off m cap us hn hcap hw hl hF1 hv1 =>
      obtain ⟨hDg, z, hSg, hcz, hcm⟩ := hown
      dsimp only at hDg hSg hcz
      obtain ⟨hσg, ⟨cur, e', hg, hcs⟩, hnone⟩ := hR.world.own _ _ _ _ hSg
      let w' := w.freeze ⟨g, cur.size, none⟩ 1
      have hg' : w'.heap[g]? = some (.cells cur e' (cur.size, cur.size + 1)) := by
        simp [w', World.freeze, Array.getElem?_modify, hg]
      have hoth : ∀ k, k ≠ g → w'.heap[k]? = w.heap[k]? := fun k hk => by simp [w', World.freeze, Array.getElem?_modify, Ne.symm hk]
      let G2 : Ghost := ⟨G1.F, fun k => if k = g then none else G1.S k⟩
      have hS2 : ∀ k m' z' π, G2.S k = some (m', z', π) → k ≠ g ∧ G1.S k = some (m', z', π) := fun k m' z' π hk => by
        simp only [G2] at hk; split at hk
        · cases hk
        · exact ⟨by assumption, hk⟩
      have hkeep : ∀ k m' z' π, π ≠ .acc 0 → G1.S k = some (m', z', π) → G2.S k = some (m', z', π) := fun k m' z' π hπ hk => by
        have : k ≠ g := fun e => by subst e; rw [hSg] at hk; simp at hk; exact hπ hk.2.2.symm
        simp [G2, this, hk]
      have hW : WR D G2 σ w' := by
        refine ⟨fun k i u hu => ?_, fun k m' z' π hk => ?_, fun p cs hcs' => ?_⟩
        · obtain ⟨c, e'', fz, q1, q2⟩ := hR.world.frz k i u hu
          by_cases hkg : k = g
          · subst hkg; rw [hg] at q1; simp only [Option.some.injEq, Obj.cells.injEq] at q1; obtain ⟨rfl, rfl, rfl⟩ := q1
            exact ⟨_, _, _, hg', q2⟩
          · exact ⟨c, e'', fz, by rw [hoth k hkg]; exact q1, q2⟩
        · obtain ⟨hkg, hk'⟩ := hS2 k m' z' π hk
          obtain ⟨q1, ⟨c, e'', q2, q3⟩, q4⟩ := hR.world.own k m' z' π hk'
          exact ⟨q1, ⟨c, e'', by rw [hoth k hkg]; exact q2, q3⟩, q4⟩
        · obtain ⟨q1, q2, q3, c, e'', q4, q5, q6⟩ := hR.world.obj p cs hcs'
          have hne : p ≠ g := fun e => by subst e; rw [hσg] at hcs'; cases hcs'
          refine ⟨q1, by simp [G2, hne, q2], q3, c, e'', by rw [hoth p hne]; exact q4, q5, fun i cc u hc hu => ?_⟩
          obtain ⟨r1, r2, r3⟩ := q6 i cc u hc hu
          exact ⟨r1, r2, r3.same fun k m' z' _ hk => hkeep k m' z' _ (by simp) hk⟩
      have hshape : w.shape? g = some (e', cur.size) := by simp [World.shape?, hg]
      refine ⟨_, .slice (some ⟨g, off, none⟩) m cap, A', σ, G2, w', hk, .inl ?_, hR.step (fun _ _ _ h => h) (fun k m' z' i j _ hk => hkeep k m' z' _ (by simp) hk) hW (by simp [w', World.freeze]), .list false 1 vs g off m cap us hn hcap hw hl hF1 hv1, OwnAt.of_plain rfl,
        hext.trans ⟨by simp [w', World.freeze], by simp [w', World.freeze], by simp [w', World.freeze], by simp [w', World.freeze], fun _ _ _ h => h, fun k hk => ?_⟩⟩
      · simp [execOp, ho, hxv, convert, run_underlying hus, run_underlying hui, markStringish, hshape, w']
      · have hne : k ≠ g := fun e => hk (e ▸ hDg)
        exact ⟨hoth k hne, by simp [G2, hne], rfl⟩

/-! ### One operation -/
/-! ### copy: into a row that is an object; elements of one cell -/
def copyDst (σ : Store) (x : AV) : Option (Nat × Nat × Nat × List AV) :=
  match x with
  | .lit (.slice (some ⟨p, off, none⟩) n _) => (σ p).map fun cs => (p, off, n, cs)
  | _ => none
def copySrc (σ : Store) (y : AV) : Option (List AV) :=
  match y with
  | .list _ sz vs => if sz = 1 then some (flat vs) else none
  | .lit (.slice none 0 0) => some []
  | .lit (.slice (some ⟨q, off, none⟩) k _) => (σ q).bind fun ds => if off + k ≤ ds.length then some ((ds.drop off).take k) else none
  | _ => none
def aCopy (P : Program) (t : TypeId) (x y : AV) (A : Slots) (σ : Store) (K : AV → Slots → Store → Prop) : Prop :=
  match (tElem P t).bind (tSize P), copyDst σ x, copySrc σ y with
  | some sz, some (p, off, n, cs), some src => sz = 1 ∧ off + min n src.length ≤ cs.length ∧ K (.lit (.int .i64 (min n src.length : Nat))) A (σ.upd p (setRange cs off ((src.take (min n src.length)).map AV.drop1)))
  | _, _, _ => False

theorem aCopy_sound {P : Program} {D : Nat → Prop} {n : Nat} {G : Ghost} {A : Slots} {σ : Store} {a : Act} {w : World} (h : Rel D n G A σ a w) {o : Oper} {K : AV → Slots → Store → Prop} {t t' : TypeId} {x y : Operand}
    (ho : o.op = .call { callee := .builtin .copy, args := #[x, y], argTypes := #[t, t'] }) (hK : aCopy P t (evalA A x) (evalA A y) A σ K) : Does P D n G a w o K := by
  unfold aCopy at hK
  split at hK
  case h_2 => exact hK.elim
  rename_i sz p off m cs src hsz hrow hsrc
  obtain ⟨rfl, hle, hk⟩ := hK
  cases he : tElem P t with
  | none => simp [he] at hsz
  | some e =>
  rw [he] at hsz
  simp only [Option.bind_some] at hsz
  have hinfo : (P.info? e).map (·.size) = some 1 := by
    unfold tSize at hsz; exact hsz
  have hx := h.eval x
  have hy := h.eval y
  unfold copyDst at hrow
  split at hrow
  case h_2 => simp at hrow
  rename_i p' off' m' dcap hxa
  rw [hxa] at hx
  generalize hxv : a.eval x = xv at hx
  cases hx
  cases hcs : σ p' with
  | none => simp [hcs] at hrow
  | some cs' =>
  simp only [hcs, Option.map_some, Option.some.injEq, Prod.mk.injEq] at hrow
  obtain ⟨rfl, rfl, rfl, rfl⟩ := hrow
  obtain ⟨p1, p2, p3, cur, e', p4, p5, p6⟩ := h.world.obj p' cs' hcs
  -- the source
  obtain ⟨us, sa, slen, scap, hyv, hslen, hus, hcells⟩ : ∃ (us : List Value) (sa : Option Addr) (slen scap : Nat), a.eval y = .slice sa slen scap ∧ slen = src.length ∧ CellsR (VR G.F) (src.map AV.drop1) us ∧ ((sa = none ∧ src = [] ∧ scap = 0) ∨ ∃ ad, sa = some ad ∧ ∀ (j : Nat) (u : Value), us[j]? = some u → w.cell? (ad.add j) = some u) := by
    have dropR : ∀ {as : List AV} {us : List Value}, CellsR (VR G.F) as us → CellsR (VR G.F) (as.map AV.drop1) us := fun {as us} hc => ⟨by simpa using hc.1, hc.2.1, fun j c u hcj hu => by
      rw [List.getElem?_map] at hcj
      cases hcc : as[j]? with
      | none => simp [hcc] at hcj
      | some c' => simp [hcc] at hcj; subst hcj; exact (hc.2.2 j c' u hcc hu).drop1⟩
    unfold copySrc at hsrc
    split at hsrc
    · rename_i own sz' vs hya
      split at hsrc
      case isFalse => simp at hsrc
      rename_i h1; subst h1
      simp only [Option.some.injEq] at hsrc; subst hsrc
      rw [hya] at hy
      generalize a.eval y = yv at hy
      cases hy with
      | nil => exact ⟨[], none, 0, 0, rfl, by simp [flat], dropR ⟨rfl, by simp, by simp⟩, .inl ⟨rfl, by simp [flat], rfl⟩⟩
      | void sz ad => exact ⟨[], some ad, 0, 0, rfl, by simp [flat], dropR ⟨rfl, by simp, by simp⟩, .inr ⟨ad, rfl, by simp⟩⟩
      | list _ _ _ g off2 k cap us hn hc hw hl hF hv =>
        refine ⟨us, some ⟨g, off2, none⟩, k, cap, rfl, by rw [flat_length hw, hn]; omega, dropR ⟨hl.symm, fun j u hu => (hF j u hu).2, hv⟩, .inr ⟨_, rfl, fun j u hu => ?_⟩⟩
        rw [add_addr]
        obtain ⟨cur, e', fz, q1, q2⟩ := h.world.frz _ _ _ (hF j u hu).1
        rw [cell_of_row w g (off2 + j) cur e' fz q1]; exact q2
    · rename_i hya
      simp only [Option.some.injEq] at hsrc; subst hsrc
      rw [hya] at hy
      generalize a.eval y = yv at hy
      cases hy
      exact ⟨[], none, 0, 0, rfl, rfl, dropR ⟨rfl, by simp, by simp⟩, .inl ⟨rfl, rfl, rfl⟩⟩
    · rename_i q off2 k scap hya
      cases hds : σ q with
      | none => simp [hds] at hsrc
      | some ds =>
      simp only [hds, Option.bind_some] at hsrc
      split at hsrc
      case isFalse => simp at hsrc
      rename_i hle2
      simp only [Option.some.injEq] at hsrc; subst hsrc
      rw [hya] at hy
      generalize a.eval y = yv at hy
      cases hy
      obtain ⟨q1, q2, q3, cur2, e2, q4, q5, q6⟩ := h.world.obj q ds hds
      have get : ∀ {j : Nat} {u : Value}, ((cur2.toList.drop off2).take k)[j]? = some u → j < k ∧ cur2[off2 + j]? = some u := fun {j u} hu => by
        have hj := (List.getElem?_eq_some_iff.1 hu).1
        simp at hj
        rw [List.getElem?_take_of_lt (by omega), List.getElem?_drop] at hu
        exact ⟨by omega, by simpa using hu⟩
      have getc : ∀ {j : Nat} {c : AV}, ((ds.drop off2).take k)[j]? = some c → ds[off2 + j]? = some c := fun {j c} hc => by
        have hj := (List.getElem?_eq_some_iff.1 hc).1
        simp at hj
        rwa [List.getElem?_take_of_lt (by omega), List.getElem?_drop] at hc
      refine ⟨(cur2.toList.drop off2).take k, some ⟨q, off2, none⟩, k, scap, rfl, by simp; omega, dropR ⟨by simp; omega, fun j u hu => ?_, fun j c u hc hu => (q6 _ c u (getc hc) (get hu).2).2.1⟩, .inr ⟨_, rfl, fun j u hu => ?_⟩⟩
      · have hlt : off2 + j < ds.length := by have := (get hu).1; omega
        exact (q6 _ _ u (List.getElem?_eq_getElem hlt) (get hu).2).1
      · rw [add_addr, cell_of_row w q (off2 + j) cur2 e2 (0, 0) q4]; exact (get hu).2
    · simp at hsrc
  obtain ⟨u1, u2, u3⟩ := hus
  have hul : us.length = src.length := by simpa using u1.symm
  generalize hmm : min m' src.length = mm at *
  have hfit : off' + (us.take mm).length ≤ cur.size := by simp only [List.length_take]; omega
  have hone : ∀ u ∈ us.take mm, u.oneCell' = true := fun u hu => by
    obtain ⟨j, hj⟩ := List.getElem?_of_mem (List.mem_of_mem_take hu)
    exact u2 j u hj
  generalize hw' : w.setRow p' (setRange cur.toList off' (us.take mm)).toArray = w'
  have hrun : (Builtin.copy_ #[t, t'] o.type #[.slice (some ⟨p', off', none⟩) m' dcap, a.eval y]).run P w = .ok (.int .i64 (mm : Nat)) w' := by
    rw [hyv]
    have hlen : (us.take mm).length = Nat.min slen m' := by
      show _ = min slen m'
      simp only [List.length_take]; omega
    rcases hcells with ⟨rfl, hs0, rfl⟩ | ⟨ad, rfl, hc⟩
    · subst hs0
      have h0 : mm = 0 := by rw [← hmm]; simp
      have hsl : slen = 0 := by simpa using hslen
      subst h0 hsl
      have := run_copy_nil (P := P) w t t' o.type e ⟨p', off', none⟩ m' dcap (under_elem he) (by rw [hinfo]; rfl)
      rw [this, ← hw']
      have e0 : (setRange cur.toList off' (us.take 0)).toArray = cur := by
        simp [setRange]
      rw [e0, setRow_self w p' cur e' (0, 0) p4]
      rfl
    · have := run_copy_row (P := P) w t t' o.type e p' off' m' dcap ad slen scap cur e' (us.take mm) (under_elem he) hinfo p4 hlen (fun j v hj => hc j v (by
        have hj' := (List.getElem?_eq_some_iff.1 hj).1
        simp at hj'
        rwa [List.getElem?_take_of_lt (by omega)] at hj)) hfit hone
      rw [this, toList_setRow hfit, hw']
      congr 1
      simp only [goInt, List.length_take]
      congr 1
      omega
  have hg' : w'.heap[p']? = some (.cells (setRange cur.toList off' (us.take mm)).toArray e' (0, 0)) := by subst hw'; exact setRow_heap w p' cur _ e' _ p4
  have hoth : ∀ k, k ≠ p' → w'.heap[k]? = w.heap[k]? := fun k hk => by subst hw'; exact setRow_other w p' k _ hk
  refine ⟨.lit (.int .i64 (mm : Nat)), .int .i64 (mm : Nat), A, _, G, w', hk, .inl ?_, h.step (fun _ _ _ h => h) (fun g m z i j _ hg => hg) ?_ (by subst hw'; simp), .lit _, OwnAt.of_plain rfl,
    ⟨by subst hw'; rfl, by subst hw'; rfl, by subst hw'; rfl, by subst hw'; simp, fun _ _ _ h => h, fun k hk => ?_⟩⟩
  · simp [execOp, ho, resolve, invoke, builtin, Sem.run_bind, hxv, hrun]
  · refine h.world.objTo hcs rfl (fun g n z π hg => ⟨π, hg⟩) (fun g n z q i _ _ _ hg => hg) p4 hg' hoth (by simp [setRange_length]; omega) fun i c u hc hu => ?_
    have hu' : (setRange cur.toList off' (us.take mm))[i]? = some u := by simpa using hu
    rw [setRange_get _ _ _ _ (by simpa using hfit)] at hu'
    have hlen2 : ((src.take mm).map AV.drop1).length = (us.take mm).length := by simp only [List.length_map, List.length_take]; omega
    rw [setRange_get _ _ _ _ (by rw [hlen2]; simp only [List.length_take]; omega), hlen2] at hc
    split at hc
    · rename_i hi
      rw [if_pos hi] at hu'
      have hu2 : us[i - off']? = some u := by
        have hj := (List.getElem?_eq_some_iff.1 hu').1
        simp at hj
        rwa [List.getElem?_take_of_lt (by omega)] at hu'
      have hc2 : (src.map AV.drop1)[i - off']? = some c := by
        have hj := (List.getElem?_eq_some_iff.1 hc).1
        simp at hj
        rwa [List.map_take, List.getElem?_take_of_lt (by omega)] at hc
      refine ⟨u2 _ _ hu2, u3 _ _ _ hc2 hu2, ?_⟩
      rw [List.getElem?_map] at hc2
      cases hcc : src[i - off']? with
      | none => simp [hcc] at hc2
      | some c' => simp [hcc] at hc2; subst hc2; exact Own1.drop1 ..
    · rename_i hi
      rw [if_neg hi] at hu'
      exact p6 i c u hc (by simpa using hu')
  · have : k ≠ p' := fun e => hk (e ▸ p1)
    exact ⟨hoth k this, rfl, rfl⟩

/-- 'st': the temporaries that take the right to append with the value that is moved or loaded into them; of 'make': that it is by value. -/
def steals (st : List Tmp) (o : Oper) : Bool := match o.dst with | some d => st.contains d | none => false
/-- Rows that are objects: by these marks. -/
def objs (st : List Tmp) (o : Oper) : Bool := match o.dst with | some d => st.contains (d + 1000000) | none => false
def astep (P : Program) (st : List Tmp) (o : Oper) (A : Slots) (σ : Store) (K : AV → Slots → Store → Prop) : Prop :=
  match o.op with
  | .assign x => if objs st o = true then takeA A x fun v A' => K v A' σ else takeA A x fun v A' => K (conv P o.type v) A' σ
  | .move (.tmp t) => if steals st o = true then takeA A (.tmp t) fun v A' => K (conv P o.type v) A' σ else K (A t).share A σ
  | .load t y => if steals st o = true then aLoadTake P t (evalA A y) A σ K else match apure P o A σ with | some v => K v A σ | none => False
  | .alloc e => aAlloc P e A σ K
  | .box e x => aBox P e x A σ K
  | .store t y x => aStore P t (evalA A y) x A σ K
  | .buildSlice t len parts => if objs st o = true then aBuildObj P t len parts A σ K else match aBuildSlice P t len (nodeOf parts A) with | some v => K v A σ | none => False
  | .makeSlice t x y => aMake P (steals st o) t (evalA A x) (evalA A y) A σ K
  | .binOp op t x y _ => if isNilConst y = true then (match op with
      | .eql => aNilTest P false t (evalA A x) A σ K
      | .neq => aNilTest P true t (evalA A x) A σ K
      | _ => False) else match apure P o A σ with | some v => K v A σ | none => False
  | .convert src dst x => if src = dst then aConvSame P src dst x A σ K else match apure P o A σ with | some v => K v A σ | none => False
  | .extract (.tmp t) ix => aExtract t ix A σ K
  | .build t parts => if objs st o = true then aBuildTake P t parts A σ K else match apure P o A σ with | some v => K v A σ | none => False
  | .call c => match c.callee, c.args.toList, c.argTypes.toList with
    | .builtin .append, [s, x], [t, t'] => t = t' ∧ if objs st o = true then aAppendObj P t s x A σ K else aAppend P t s x A σ K
    | .builtin .copy, [x, y], [t, _] => aCopy P t (evalA A x) (evalA A y) A σ K
    | _, _, _ => match apure P o A σ with | some v => K v A σ | none => False
  | _ => match apure P o A σ with | some v => K v A σ | none => False

theorem take_does {P : Program} {D : Nat → Prop} {n : Nat} {G : Ghost} {A : Slots} {σ : Store} {a : Act} {w : World} (h : Rel D n G A σ a w) {o : Oper} {K : AV → Slots → Store → Prop} {x : Operand}
    (hr : (execOp a.eval o).run P w = .ok (.value (a.eval x)) w) (hK : takeA A x fun v A' => K (conv P o.type v) A' σ) : Does P D n G a w o K := by
  obtain ⟨v, A', G', hk, hR, hv, hown, hext, hF⟩ := h.takes hK
  exact ⟨_, _, A', σ, G', w, hk, .inl hr, hR, conv_VR hv, conv_own hv hown, hext⟩

theorem pure_does {P : Program} {D : Nat → Prop} {n : Nat} {G : Ghost} {A : Slots} {σ : Store} {a : Act} {w : World} (h : Rel D n G A σ a w) {o : Oper} {K : AV → Slots → Store → Prop}
    (hK : match apure P o A σ with | some v => K v A σ | none => False) : Does P D n G a w o K := by
  split at hK
  · rename_i v hv
    obtain ⟨cv, h1, h2, h3⟩ := apure_sound hv h
    exact ⟨v, cv, A, σ, G, w, hK, .inl h1, h, h2, h3, Ext.refl ..⟩
  · exact hK.elim

theorem astep_sound {P : Program} {st : List Tmp} {D : Nat → Prop} {n : Nat} {G : Ghost} {A : Slots} {σ : Store} {a : Act} {w : World} (h : Rel D n G A σ a w) {o : Oper} {K : AV → Slots → Store → Prop}
    (hK : astep P st o A σ K) : Does P D n G a w o K := by
  unfold astep at hK
  split at hK
  · rename_i x ho
    split at hK
    · obtain ⟨v, A', G', hk, hR, hv, hown, hext, hF⟩ := h.takes hK
      exact ⟨_, _, A', σ, G', w, hk, .inl (by simp [execOp, ho]), hR, hv, hown, hext⟩
    · exact take_does h (by simp [execOp, ho]) hK
  · rename_i t ho
    split at hK
    · exact take_does h (by simp [execOp, ho]) hK
    · exact ⟨_, _, A, σ, G, w, hK, .inl (by simp [execOp, ho]), h, (h.eval (.tmp t)).share, OwnAt.share .., Ext.refl ..⟩
  · rename_i t y ho
    split at hK
    · exact aLoadTake_sound h ho hK
    · exact pure_does h hK
  · rename_i e ho; exact aAlloc_sound h ho hK
  · rename_i e x ho; exact aBox_sound h ho hK
  · rename_i t y x ho; exact aStore_sound h ho hK
  · rename_i t len parts ho
    split at hK
    · exact aBuildObj_sound h ho hK
    · split at hK
      · rename_i v hv; exact aBuildSlice_sound h ho hv hK
      · exact hK.elim
  · rename_i t x y ho; exact aMake_sound h ho hK
  · rename_i op t x y t' ho
    split at hK
    · rename_i hy
      split at hK
      · exact aNilTest_sound h (.inl ⟨rfl, rfl⟩) ho hy hK
      · exact aNilTest_sound h (.inr ⟨rfl, rfl⟩) ho hy hK
      · exact hK.elim
    · exact pure_does h hK
  · rename_i src dst x ho
    split at hK
    · exact aConvSame_sound h ho hK
    · exact pure_does h hK
  · rename_i t ix ho; exact aExtract_sound h ho hK
  · rename_i t parts ho
    split at hK
    · exact aBuildTake_sound h ho hK
    · exact pure_does h hK
  · rename_i c ho
    obtain ⟨callee, args, argTypes⟩ := c
    dsimp only at hK ho
    split at hK
    · rename_i s x t t' hargs hts
      obtain ⟨rfl, hK⟩ := hK
      have e1 : args = #[s, x] := by rw [← Array.toArray_toList (xs := args), hargs]
      have e2 : argTypes = #[t, t] := by rw [← Array.toArray_toList (xs := argTypes), hts]
      subst e1 e2
      split at hK
      · exact aAppendObj_sound h ho hK
      · exact aAppend_sound h ho hK
    · rename_i x y t t' hargs hts
      have e1 : args = #[x, y] := by rw [← Array.toArray_toList (xs := args), hargs]
      have e2 : argTypes = #[t, t'] := by rw [← Array.toArray_toList (xs := argTypes), hts]
      subst e1 e2
      exact aCopy_sound h ho hK
    · exact pure_does h hK
  · exact pure_does h hK

end Go.AL
