/-
  The abstract-state logic: its walk as rewriting: each operation at once, what stands behind it untouched till then.
-/
import Derived.Test.YtkfhpnfgnjmdbaaALEqs
import Derived.KernelRfl
namespace Go.AL
open Go

/-- A mark that keeps simp out of what stands behind. -/
structure Tag {β : Type} (K : β) : Type where
/-- 'match x with some v => K v | none => False', of which the walk looks at x alone. -/
def withO {α : Type} (x : Option α) (K : α → Prop) (_t : Tag K := .mk) : Prop := match x with | some v => K v | none => False
/-- 'K x', of which the walk looks at x first. -/
def withV {α : Type} (x : α) (K : α → Prop) (_t : Tag K := .mk) : Prop := K x
/-- A call; what stands behind is left alone. -/
def callK (P : Program) (f : FuncId) (args : List AV) (σ : Store) (R : AV → Store → Prop) (_t : Tag R := .mk) : Prop := ACalls P f args σ R
def extK (P : Program) (f : FuncId) (args : List AV) (σ : Store) (R : AV → Store → Prop) (_t : Tag R := .mk) : Prop := AExt P f args σ R
theorem extK.of {P : Program} {f : FuncId} {args : List AV} {σ : Store} {R R' : AV → Store → Prop} {t : Tag R'} (h : AExt P f args σ R) (hr : ∀ v σ', R v σ' → R' v σ') : extK P f args σ R' t := h.mono hr
theorem callK.of {P : Program} {f : FuncId} {args : List AV} {σ : Store} {R R' : AV → Store → Prop} {t : Tag R'} (h : ACalls P f args σ R) (hr : ∀ v σ', R v σ' → R' v σ') : callK P f args σ R' t := h.mono hr
def AllLe : List AV → List AV → Prop
  | [], [] => True
  | a :: as, b :: bs => a.le b ∧ AllLe as bs
  | _, _ => False
theorem AllLe.get : ∀ {as bs : List AV}, AllLe as bs → as.length = bs.length ∧ ∀ (i : Nat) (b : AV), bs[i]? = some b → ∃ a, as[i]? = some a ∧ a.le b
  | [], [], _ => ⟨rfl, by simp⟩
  | [], _ :: _, h => h.elim
  | _ :: _, [], h => h.elim
  | a :: as, b :: bs, h => by
    obtain ⟨h1, h2⟩ := AllLe.get h.2
    refine ⟨by simp [h1], fun i x hx => ?_⟩
    cases i with
    | zero => simp at hx; subst hx; exact ⟨a, rfl, h.1⟩
    | succ i => simp at hx; simpa using h2 i x hx
theorem ACalls.le {P : Program} {f : FuncId} {args args' : List AV} {σ : Store} {R : AV → Store → Prop} (hl : AllLe args args') (h : ACalls P f args' σ R) : ACalls P f args σ R := by
  intro D G w cargs h1 h2 h3 h4
  obtain ⟨l1, l2⟩ := hl.get
  refine h D G w cargs (by omega) (fun i c u hc hu => ?_) h3 h4
  obtain ⟨a, ha, hle⟩ := l2 i c hc
  obtain ⟨q1, q2⟩ := h2 i a u ha hu
  exact ⟨(hle _ _ q1).1, (hle _ _ q1).2 _ _ _ q2⟩
/-- A call by a contract whose arguments are known less well. -/
theorem callK.le {P : Program} {f : FuncId} {args args' : List AV} {σ : Store} {R R' : AV → Store → Prop} {t : Tag R'} (hl : AllLe args args') (h : ACalls P f args' σ R) (hr : ∀ v σ', R v σ' → R' v σ') : callK P f args σ R' t := (ACalls.le hl h).mono hr
/-- A loop; what stands behind is left alone. -/
def codeK (P : Program) (n : Nat) (c : Code) (Q : Exit → Slots → Store → Prop) (A : Slots) (σ : Store) (_t : Tag Q := .mk) : Prop := AWp P n c Q A σ
@[simp] theorem withO_some {α : Type} (v : α) (K : α → Prop) : withO (some v) K = K v := nr rfl
@[simp] theorem withO_none {α : Type} (K : α → Prop) : withO none K = False := nr rfl
@[simp] theorem withV_val {α : Type} (v : α) (K : α → Prop) : withV v K = K v := nr rfl
theorem ACalls_congr {P : Program} {f : FuncId} {args args' : List AV} {σ : Store} {R : AV → Store → Prop} (h : args = args') : ACalls P f args σ R = ACalls P f args' σ R := h ▸ rfl
theorem AWp_congr {P : Program} {n : Nat} {c : Code} {Q : Exit → Slots → Store → Prop} {A A' : Slots} {σ : Store} (h : A = A') : AWp P n c Q A σ = AWp P n c Q A' σ := h ▸ rfl

def ptrOf : AV → Option (Nat × Nat)
  | .lit (.pointer (some ⟨o, off, none⟩)) => some (o, off)
  | _ => none
@[simp] theorem ptrOf_ptr (o off : Nat) : ptrOf (.lit (.pointer (some ⟨o, off, none⟩))) = some (o, off) := nr rfl
def boolOf : AV → Option Bool
  | .lit (.bool b) => some b
  | _ => none
@[simp] theorem boolOf_bool (b : Bool) : boolOf (.lit (.bool b)) = some b := nr rfl
def funcOf : AV → Option (FuncId × List AV × List AV)
  | .func (.func f) first captured => some (f, first, captured)
  | _ => none
@[simp] theorem funcOf_func (f : FuncId) (fs cs : List AV) : funcOf (.func (.func f) fs cs) = some (f, fs, cs) := nr rfl
def tupleOf : AV → Option (List AV)
  | .tuple vs => some vs
  | _ => none
@[simp] theorem tupleOf_tuple (vs : List AV) : tupleOf (.tuple vs) = some vs := nr rfl
/-- A slice with the right to append, its elements. -/
def ownOf (sz : Nat) : AV → Option (List AV)
  | .list true sz' vs => if sz' = sz then some vs else none
  | _ => none
@[simp] theorem ownOf_own (sz sz' : Nat) (vs : List AV) : ownOf sz (.list true sz' vs) = if sz' = sz then some vs else none := nr rfl

/-- The one part of a row literal, if it has one. -/
def oneOf : List (Nat × Operand) → Option (Option Operand)
  | [] => some none
  | [(0, x)] => some (some x)
  | _ => none
@[simp] theorem oneOf_none : oneOf [] = some none := nr rfl
@[simp] theorem oneOf_one (x : Operand) : oneOf [(0, x)] = some (some x) := nr rfl

theorem codeK.loop {P : Program} (hm : P.follows .mixedOrders = true) {st : List Tmp} {plans : List (Nat × Plan)} {n : Nat} {c : Code} {Q : Exit → Slots → Store → Prop} {A : Slots} {σ : Store} {t : Tag Q} {X : Type} (Inv : X → Prop) (sl : X → List (Nat × AV)) (so : X → Store) (μ : X → Nat) (x0 : X)
    (hok : codeOk st plans n c = true) (h0 : Inv x0) (hA : LeL A (sl x0)) (hσ : Store.sub (so x0) σ)
    (round : ∀ x, Inv x → awp P st plans n c (athen (fun A' σ' => ∃ y, Inv y ∧ μ y < μ x ∧ LeL A' (sl y) ∧ Store.sub (so y) σ') Q) (slotsL (sl x)) (so x)) : codeK P n (.loop c) Q A σ t :=
  AWp.loopL hm Inv sl so μ x0 hok h0 hA hσ round

/-! ### code -/
section
variable (P : Program) (st : List Tmp) (plans : List (Nat × Plan)) (n : Nat) (Q : Exit → Slots → Store → Prop) (A : Slots) (σ : Store)
theorem w_seq (x y : Code) : awp P st plans n (.seq x y) Q A σ = awp P st plans n x (athen (awp P st plans n y Q) Q) A σ := nr rfl
theorem w_skip : awp P st plans n .skip Q A σ = Q .normal A σ := nr rfl
theorem w_label (l : Nat) : awp P st plans n (.label l) Q A σ = Q .normal A σ := nr rfl
theorem w_exit (l : Nat) : awp P st plans n (.exit l) Q A σ = Q (.exit l) A σ := nr rfl
theorem w_goto (l : Nat) : awp P st plans n (.goto l) Q A σ = Q (.goto l) A σ := nr rfl
theorem w_ret : awp P st plans n .ret Q A σ = Q .ret A σ := nr rfl
theorem w_block (id : Nat) (c : Code) : awp P st plans n (.block id c) Q A σ = awp P st plans n c (ainBlock id Q) A σ := nr rfl
theorem w_cond (c : Operand) (x y : Code) : awp P st plans n (.cond c x y) Q A σ = withO (boolOf (evalA A c)) fun b => if b = true then awp P st plans n x Q A σ else awp P st plans n y Q A σ := nr (by
  rw [e_awp_4]; dsimp only
  cases evalA A c with
  | lit v => cases v <;> kernel_rfl
  | _ => kernel_rfl)
theorem w_region (id : Nat) (ops : Array Oper) : awp P st plans n (.region id ops false) Q A σ = aopsAt P st ops (Q .normal) ops.toList 0 A σ := nr (by simp only [awp, Bool.false_eq_true, if_false])
theorem w_draw (id : Nat) (ops : Array Oper) : awp P st plans n (.region id ops true) Q A σ = withO (plans.lookup id) fun p => aplan P st ops (Q .normal) p A σ := nr (by rw [e_awp_9]; simp only [if_true]; kernel_rfl)
theorem w_loop (c : Code) : awp P st plans n (.loop c) Q A σ = codeK P n (.loop c) Q A σ := nr rfl
theorem w_rangeFunc (f : Operand) (ps : Array Tmp) (c d : Code) : awp P st plans n (.rangeFunc f ps c d) Q A σ = codeK P n (.rangeFunc f ps c d) Q A σ := nr rfl
theorem w_scope (c : Code) : awp P st plans n (.scope c) Q A σ = codeK P n (.scope c) Q A σ := nr rfl
theorem w_then_normal (N : Slots → Store → Prop) : athen N Q .normal A σ = N A σ := nr rfl
theorem w_then_ret (N : Slots → Store → Prop) : athen N Q .ret A σ = Q .ret A σ := nr rfl
theorem w_then_exit (N : Slots → Store → Prop) (l : Nat) : athen N Q (.exit l) A σ = Q (.exit l) A σ := nr rfl
theorem w_then_goto (N : Slots → Store → Prop) (l : Nat) : athen N Q (.goto l) A σ = Q (.goto l) A σ := nr rfl
theorem w_block_normal (id : Nat) : ainBlock id Q .normal A σ = Q .normal A σ := nr rfl
theorem w_block_ret (id : Nat) : ainBlock id Q .ret A σ = Q .ret A σ := nr rfl
theorem w_block_exit (id l : Nat) : ainBlock id Q (.exit l) A σ = if l = id then Q .normal A σ else Q (.exit l) A σ := nr (by simp only [ainBlock]; split <;> rfl)
theorem w_block_goto (id l : Nat) : ainBlock id Q (.goto l) A σ = Q (.goto l) A σ := nr rfl
theorem w_aret_normal (rs : List ResultVar) (R : AV → Store → Prop) : aret P rs R .normal A σ = withO (ares P A σ rs) fun v => ∃ v' σ', v.le v' ∧ Store.sub σ' σ ∧ R v' σ' := nr (by kernel_rfl)
theorem w_aret_ret (rs : List ResultVar) (R : AV → Store → Prop) : aret P rs R .ret A σ = withO (ares P A σ rs) fun v => ∃ v' σ', v.le v' ∧ Store.sub σ' σ ∧ R v' σ' := nr (by kernel_rfl)
end

/-! ### regions -/
def estepO (P : Program) (st : List Tmp) (ops : Array Oper) (o : Oper) (K : Slots → Store → Prop) (A : Slots) (σ : Store) : Prop :=
  match o.guard with
  | none => aoper P st o A σ fun v A' σ' => K (aput A' o.dst v) σ'
  | some (j, want) => match yieldedA ops A j with
    | some b => if b = want then aoper P st o A σ fun v A' σ' => K (aput A' o.dst v) σ' else K (aput A o.dst .top) σ
    | none => False
section
variable (P : Program) (st : List Tmp) (ops : Array Oper) (Q : Slots → Store → Prop) (K : Slots → Store → Prop) (A : Slots) (σ : Store)
theorem r_nil (i : Nat) : aopsAt P st ops Q [] i A σ = Q A σ := nr rfl
theorem r_cons (o : Oper) (rest : List Oper) (i : Nat) : aopsAt P st ops Q (o :: rest) i A σ = estep P st ops i (aopsAt P st ops Q rest (i + 1)) A σ := nr rfl
theorem r_estep (i : Nat) : estep P st ops i K A σ = withO (ops[i]?) fun o => estepO P st ops o K A σ := nr (by
  unfold estep estepO
  cases ops[i]? <;> rfl)
theorem r_done : aplan P st ops Q .done A σ = Q A σ := nr rfl
theorem r_step (i : Nat) (p : Plan) : aplan P st ops Q (.step i p) A σ = estep P st ops i (aplan P st ops Q p) A σ := nr rfl
theorem r_alt (p q : Plan) : aplan P st ops Q (.alt p q) A σ = (aplan P st ops Q p A σ ∧ aplan P st ops Q q A σ) := nr rfl
theorem r_seq_nil (p : Plan) : aplan P st ops Q (Plan.seq [] p) A σ = aplan P st ops Q p A σ := nr rfl
theorem r_seq_cons (i : Nat) (l : List Nat) (p : Plan) : aplan P st ops Q (Plan.seq (i :: l) p) A σ = estep P st ops i (aplan P st ops Q (Plan.seq l p)) A σ := nr rfl
variable (op : Op) (ty : TypeId) (ps : String) (af : Array Edge)
theorem r_plain (d : Tmp) : estepO P st ops ⟨some d, op, ty, ps, af, none⟩ K A σ = aoper P st ⟨some d, op, ty, ps, af, none⟩ A σ fun v A' σ' => K (upd A' d v) σ' := nr rfl
theorem r_plain0 : estepO P st ops ⟨none, op, ty, ps, af, none⟩ K A σ = aoper P st ⟨none, op, ty, ps, af, none⟩ A σ fun _ A' σ' => K A' σ' := nr rfl
theorem r_guard (d : Tmp) (j : Nat) (want : Bool) : estepO P st ops ⟨some d, op, ty, ps, af, some (j, want)⟩ K A σ =
    withO (yieldedA ops A j) fun b => if b = want then aoper P st ⟨some d, op, ty, ps, af, some (j, want)⟩ A σ fun v A' σ' => K (upd A' d v) σ' else K (upd A d .top) σ := nr (by kernel_rfl)
theorem r_guard0 (j : Nat) (want : Bool) : estepO P st ops ⟨none, op, ty, ps, af, some (j, want)⟩ K A σ =
    withO (yieldedA ops A j) fun b => if b = want then aoper P st ⟨none, op, ty, ps, af, some (j, want)⟩ A σ fun _ A' σ' => K A' σ' else K A σ := nr (by kernel_rfl)
end

/-! ### operations -/
section
variable (P : Program) (st : List Tmp) (d : Option Tmp) (ty : TypeId) (ps : String) (af : Array Edge) (g : Option (Nat × Bool)) (A : Slots) (σ : Store) (K : AV → Slots → Store → Prop)
theorem p_move_tmp (t : Tmp) : aoper P st ⟨d, .move (.tmp t), ty, ps, af, g⟩ A σ K = withV (A t) fun v => if stealD st d = true then withV (conv P ty v) fun v' => withV v.share fun v'' => K v' (upd A t v'') σ else withV v.share fun v' => K v' A σ := nr rfl
theorem p_move_const (c : Value) : aoper P st ⟨d, .move (.const c), ty, ps, af, g⟩ A σ K = withV (conv P ty (.lit c)) fun v => K v A σ := nr rfl
theorem p_assign_tmp (t : Tmp) : aoper P st ⟨d, .assign (.tmp t), ty, ps, af, g⟩ A σ K = withV (A t) fun v => if objD st d = true then withV v.share fun v'' => K v (upd A t v'') σ else withV (conv P ty v) fun v' => withV v.share fun v'' => K v' (upd A t v'') σ := nr rfl
theorem p_assign_const (c : Value) : aoper P st ⟨d, .assign (.const c), ty, ps, af, g⟩ A σ K = if objD st d = true then K (.lit c) A σ else withV (conv P ty (.lit c)) fun v => K v A σ := nr rfl
theorem p_pick (c x y : Operand) : aoper P st ⟨d, .pick c x y, ty, ps, af, g⟩ A σ K = withO (boolOf (evalA A c)) fun t => if t = true then withV (evalA A x).share fun v => K v A σ else withV (evalA A y).share fun v => K v A σ := nr (by
  rw [o_pick]
  cases evalA A c with
  | lit v => cases v <;> first | rfl | (rename_i b; cases b <;> rfl)
  | _ => rfl)
theorem p_load (t : TypeId) (x : Operand) : aoper P st ⟨d, .load t x, ty, ps, af, g⟩ A σ K = if stealD st d = true then aLoadTake P t (evalA A x) A σ K else withO (aLoad P σ t (evalA A x)) fun v => withV v.share fun v' => K v' A σ := nr (by rw [o_load]; kernel_rfl)
theorem p_alloc (e : TypeId) : aoper P st ⟨d, .alloc e, ty, ps, af, g⟩ A σ K = withO (azero P e) fun cs => ∀ p, σ p = none → K (.lit (.pointer (some ⟨p, 0, none⟩))) A (σ.upd p cs) := nr (by kernel_rfl)
theorem p_box (e : TypeId) (x : Operand) : aoper P st ⟨d, .box e x, ty, ps, af, g⟩ A σ K = takeA A x fun v A' => withV (conv P e v) fun v' => v'.solid = true ∧ withV v'.cells fun cs => ∀ p, σ p = none → K (.lit (.pointer (some ⟨p, 0, none⟩))) A' (σ.upd p cs) := nr rfl
theorem p_store (t : TypeId) (y x : Operand) : aoper P st ⟨d, .store t y x, ty, ps, af, g⟩ A σ K = withO (ptrOf (evalA A y)) fun q => withO (σ q.1) fun cs => takeA A x fun v A' => withV (conv P t v) fun v' => withV v'.cells fun us =>
    v'.solid = true ∧ tSize P t = some us.length ∧ q.2 + us.length ≤ cs.length ∧ withV (setRange cs q.2 us) fun cs' => K .top A' (σ.upd q.1 cs') := nr (by
  rw [o_store]; unfold aStore
  cases evalA A y with
  | lit v => cases v with
    | pointer a => cases a with
      | none => rfl
      | some a => obtain ⟨b, off, sp⟩ := a; cases sp <;> kernel_rfl
    | _ => rfl
  | _ => rfl)
theorem p_buildSlice (t : TypeId) (len : Nat) (parts : Array (Nat × Operand)) : aoper P st ⟨d, .buildSlice t len parts, ty, ps, af, g⟩ A σ K = if objD st d = true then withO (tElem P t) fun e => withO (oneOf parts.toList) fun x? => match x? with
    | none => len = 0 ∧ (tSize P e).isSome = true ∧ ∀ p, σ p = none → K (.lit (.slice (some ⟨p, 0, none⟩) 0 0)) A (σ.upd p [])
    | some x => withO (tSize P e) fun s => len = 1 ∧ 0 < s ∧ s ≤ 16777216 ∧ tZeroSize P e = some s ∧ takeA A x fun v A' => withV (conv P e v) fun v' => v'.solid = true ∧ withV v'.cells fun cs => cs.length = s ∧ ∀ p, σ p = none → K (.lit (.slice (some ⟨p, 0, none⟩) 1 1)) A' (σ.upd p cs)
    else withO (aBuildSlice P t len (nodeOf parts A)) fun v => K v A σ := nr (by
  rw [o_buildSlice]
  split
  · unfold aBuildObj withO oneOf
    generalize parts.toList = pl
    cases tElem P t with
    | none => rfl
    | some e =>
      dsimp only
      split
      · rename_i e' heq
        simp only [Option.some.injEq] at heq; subst heq; rfl
      · rename_i e' x heq
        simp only [Option.some.injEq] at heq; subst heq
        cases tSize P e <;> rfl
      · rename_i h1 h2
        split
        · rename_i x heq
          split at heq
          · exact absurd rfl (h1 _ rfl)
          · exact absurd rfl (h2 _ _ rfl)
          · cases heq
        · rfl
  · unfold withO; cases aBuildSlice P t len (nodeOf parts A) <;> rfl)
theorem p_makeSlice (t : TypeId) (x y : Operand) : aoper P st ⟨d, .makeSlice t x y, ty, ps, af, g⟩ A σ K = aMake P (stealD st d) t (evalA A x) (evalA A y) A σ K := nr rfl
theorem p_extract (t : Tmp) (ix : Nat) : aoper P st ⟨d, .extract (.tmp t) ix, ty, ps, af, g⟩ A σ K = withO (tupleOf (A t)) fun vs => withO (vs[ix]?) fun v => withV v.keep1 fun v' => withV (vs.set ix v.drop1) fun vs' => K v' (upd A t (.tuple vs')) σ := nr (by
  rw [o_extract]; unfold aExtract; cases A t <;> kernel_rfl)
theorem p_nilCheck (x : Operand) : aoper P st ⟨d, .nilCheck x, ty, ps, af, g⟩ A σ K = withO (aNilCheck (evalA A x)) fun v => K v A σ := nr (by kernel_rfl)
theorem p_binOp (op : BinOp) (t t' : TypeId) (x y : Operand) : aoper P st ⟨d, .binOp op t x y t', ty, ps, af, g⟩ A σ K = if isNilConst y = true then (match op with
      | .eql => aNilTest P false t (evalA A x) A σ K
      | .neq => aNilTest P true t (evalA A x) A σ K
      | _ => False) else withO (aBin P op t (evalA A x) (evalA A y)) fun v => K v A σ := nr (by kernel_rfl)
theorem p_unOp (op : UnOp) (t : TypeId) (x : Operand) : aoper P st ⟨d, .unOp op t x, ty, ps, af, g⟩ A σ K = withO (match evalA A x with | .lit v => (pureUn op v).map .lit | _ => none : Option AV) fun v => K v A σ := nr (by kernel_rfl)
theorem p_convert (src dst : TypeId) (x : Operand) : aoper P st ⟨d, .convert src dst x, ty, ps, af, g⟩ A σ K = if src = dst then aConvSame P src dst x A σ K else withO (aConv P src dst (evalA A x)) fun v => K v A σ := nr (by kernel_rfl)
theorem p_fieldAddr (s : TypeId) (x : Operand) (f : Nat) : aoper P st ⟨d, .fieldAddr s x f, ty, ps, af, g⟩ A σ K = withO (aFieldAddr P s f (evalA A x)) fun v => K v A σ := nr (by kernel_rfl)
theorem p_field (s : TypeId) (x : Operand) (f : Nat) : aoper P st ⟨d, .field s x f, ty, ps, af, g⟩ A σ K = withO (aField P s f (evalA A x)) fun v => withV v.share fun v' => K v' A σ := nr (by rw [o_field]; kernel_rfl)
theorem p_indexAddr (t : TypeId) (x y : Operand) : aoper P st ⟨d, .indexAddr t x y, ty, ps, af, g⟩ A σ K = withO (aIndexAddr P t (evalA A x) (evalA A y)) fun v => K v A σ := nr (by kernel_rfl)
theorem p_index (t : TypeId) (x y : Operand) : aoper P st ⟨d, .index t x y, ty, ps, af, g⟩ A σ K = withO (aIndex P t (evalA A x) (evalA A y)) fun v => withV v.share fun v' => K v' A σ := nr (by rw [o_index]; kernel_rfl)
theorem p_slice (t : TypeId) (x : Operand) (lo hi mx : Option Operand) : aoper P st ⟨d, .slice t x lo hi mx, ty, ps, af, g⟩ A σ K = withO (aSlice P t (evalA A x) (lo.map (evalA A)) (hi.map (evalA A)) (mx.map (evalA A))) fun v => K v A σ := nr (by kernel_rfl)
theorem p_makeInterface (t : TypeId) (x : Operand) : aoper P st ⟨d, .makeInterface t x, ty, ps, af, g⟩ A σ K = withO (match tIface P t with | some false => some (.iface t (evalA A x).share) | _ => none : Option AV) fun v => K v A σ := nr (by kernel_rfl)
theorem p_makeFunc (fn : Fn) (fs cs : Array Operand) : aoper P st ⟨d, .makeFunc fn fs cs, ty, ps, af, g⟩ A σ K = withV (AV.func fn (fs.toList.map fun x => (evalA A x).share) (cs.toList.map fun x => (evalA A x).share)) fun v => K v A σ := nr rfl
theorem p_build (t : TypeId) (parts : Array (Nat × Operand)) : aoper P st ⟨d, .build t parts, ty, ps, af, g⟩ A σ K = if objD st d = true then withO (if tParts P t = true then azero P t else none) fun zs => fillTake P t parts.toList zs A fun cs A' => K (.agg cs) A' σ else withO (aBuild P t ((nodeOf parts A).map fun p => (p.1, conv P (((tField P t p.1).map (·.2)).getD (((tArr P t).map (·.2)).getD 0)) p.2.share))) fun v => K v A σ := nr (by
  rw [o_build]
  split
  · unfold aBuildTake withO
    cases tParts P t <;> cases azero P t <;> rfl
  · unfold withO; cases aBuild P t _ <;> rfl)
theorem p_len (x : Operand) (t : TypeId) : aoper P st ⟨d, .call ⟨.builtin .len, #[x], #[t]⟩, ty, ps, af, g⟩ A σ K = withO (aLen P t (evalA A x)) fun v => K v A σ := nr (by kernel_rfl)
theorem p_min (x y : Operand) (ts : Array TypeId) : aoper P st ⟨d, .call ⟨.builtin .min, #[x, y], ts⟩, ty, ps, af, g⟩ A σ K = withO (aMin (evalA A x) (evalA A y)) fun v => K v A σ := nr (by kernel_rfl)
theorem p_max (x y : Operand) (ts : Array TypeId) : aoper P st ⟨d, .call ⟨.builtin .max, #[x, y], ts⟩, ty, ps, af, g⟩ A σ K = withO (aMax (evalA A x) (evalA A y)) fun v => K v A σ := nr (by kernel_rfl)
theorem p_append (x y : Operand) (t : TypeId) : aoper P st ⟨d, .call ⟨.builtin .append, #[x, y], #[t, t]⟩, ty, ps, af, g⟩ A σ K = if objD st d = true then withO (tElem P t) fun e => withO (tSize P e) fun sz => withO (tBytes P e) fun bt => withO (rowOf σ sz (evalA A x)) fun r => withO (srcOf σ sz (evalA A y)) fun q =>
    0 < sz ∧ tZeroSize P e = some sz ∧ tZeroOk P e = true ∧ (r.1.isSome = true → r.1 ≠ q.1) ∧ r.2.2 + q.2.2 ≤ maxLen ∧ (r.2.2 + q.2.2) * bt ≤ 140737488355328 ∧ (q.2.2 = 0 → withV (evalA A x) fun v => K v A σ) ∧
      (0 < q.2.2 → ∀ p cap, (r.1 = some p ∨ σ p = none) → r.2.2 + q.2.2 ≤ cap → cap ≤ maxLen → withV (r.2.1 ++ q.2.1 ++ List.replicate ((cap - (r.2.2 + q.2.2)) * sz) .top) fun cs => K (.lit (.slice (some ⟨p, 0, none⟩) (r.2.2 + q.2.2) cap)) A (((σ.delO r.1).delO q.1).upd p cs))
    else withO (tElem P t) fun e => withO (tSize P e) fun sz => withO (tBytes P e) fun bt => withO (srcA sz (evalA A y)) fun ws =>
    takeA A x fun v A' => withO (ownOf sz (conv P t v)) fun vs => 0 < sz ∧ tZeroSize P e = some sz ∧ vs.length + ws.length ≤ maxLen ∧ (vs.length + ws.length) * bt ≤ 140737488355328 ∧ withV (vs ++ ws) fun us => K (.list true sz us) A' σ := nr (by
  rw [o_append]
  split
  · unfold aAppendObj withO
    cases tElem P t with
    | none => rfl
    | some e =>
      dsimp only
      cases tSize P e with
      | none => rfl
      | some sz =>
        cases tBytes P e with
        | none => rfl
        | some bt =>
          dsimp only
          cases rowOf σ sz (evalA A x) with
          | none => rfl
          | some r =>
            cases srcOf σ sz (evalA A y) with
            | none => rfl
            | some q => rfl
  unfold aAppend withO
  cases tElem P t with
  | none => rfl
  | some e =>
    dsimp only
    cases hs : tSize P e with
    | none => rfl
    | some sz =>
      cases hb : tBytes P e with
      | none => rfl
      | some bt =>
        dsimp only
        cases srcA sz (evalA A y) with
        | none => rfl
        | some ws =>
          dsimp only
          congr 1
          funext v A'
          cases conv P t v with
          | list own sz' vs =>
            cases own with
            | false => simp [ownOf]
            | true =>
              by_cases h : sz' = sz
              · subst h; simp [ownOf, withV]
              · simp [ownOf, h]
          | _ => rfl)
theorem p_copy (x y : Operand) (t t' : TypeId) : aoper P st ⟨d, .call ⟨.builtin .copy, #[x, y], #[t, t']⟩, ty, ps, af, g⟩ A σ K = withO ((tElem P t).bind (tSize P)) fun sz => withO (copyDst σ (evalA A x)) fun r => withO (copySrc σ (evalA A y)) fun src =>
    sz = 1 ∧ withV (min r.2.2.1 src.length) fun m => r.2.1 + m ≤ r.2.2.2.length ∧ withV (setRange r.2.2.2 r.2.1 ((src.take m).map AV.drop1)) fun cs => K (.lit (.int .i64 m)) A (σ.upd r.1 cs) := nr (by
  rw [o_copy]; unfold aCopy withO withV
  cases (tElem P t).bind (tSize P) with
  | none => rfl
  | some sz => cases copyDst σ (evalA A x) with
    | none => rfl
    | some r => cases copySrc σ (evalA A y) <;> rfl)
theorem p_call (f : Operand) (args : Array Operand) (ts : Array TypeId) : aoper P st ⟨d, .call ⟨.value f, args, ts⟩, ty, ps, af, g⟩ A σ K = withO (funcOf (evalA A f)) fun q =>
    takeArgs P args.toList ts.toList A fun vs A' => withV (q.2.1.map AV.share ++ vs ++ q.2.2.map AV.share) fun as => if callable P q.1 = true then callK P q.1 as σ fun v σ' => K v A' σ' else extK P q.1 as σ fun v σ' => K v A' σ' := nr (by
  rw [o_call]
  cases evalA A f with
  | func fn fs cs => cases fn <;> kernel_rfl
  | _ => rfl)
variable (K2 : AV → Slots → Prop) (K3 : List AV → Slots → Prop)
theorem t_tmp (t : Tmp) : takeA A (.tmp t) K2 = withV (A t) fun v => withV v.share fun v' => K2 v (upd A t v') := nr rfl
theorem t_const (c : Value) : takeA A (.const c) K2 = K2 (.lit c) A := nr rfl
theorem t_global (c : Nat) : takeA A (.global c) K2 = K2 (.lit (.pointer (some ⟨c, 0, none⟩))) A := nr rfl
theorem t_func (c : FuncId) : takeA A (.func c) K2 = K2 (.func (.func c) [] []) A := nr rfl
theorem f_nil (t : TypeId) (cs : List AV) : fillTake P t [] cs A K3 = K3 cs A := nr rfl
theorem f_cons (t : TypeId) (i : Nat) (x : Operand) (rest : List (Nat × Operand)) (cs : List AV) : fillTake P t ((i, x) :: rest) cs A K3 = withO (tPart P t i) fun q => takeA A x fun v A' => withV (conv P (pty P t i) v) fun v' => v'.solid = true ∧ withV v'.cells fun us => us.length = q.2 ∧ q.1 + q.2 ≤ cs.length ∧ withV (setRange cs q.1 us) fun cs' => fillTake P t rest cs' A' K3 := nr (by
  simp only [fillTake]
  cases tPart P t i <;> rfl)
theorem t_nil (ts : List TypeId) : takeArgs P [] ts A K3 = K3 [] A := nr rfl
theorem t_cons (x : Operand) (xs : List Operand) (ts : List TypeId) : takeArgs P (x :: xs) ts A K3 = takeA A x fun v A' => withV (conv P (ts.headD 0) v) fun v' => takeArgs P xs ts.tail A' fun vs A'' => K3 (v' :: vs) A'' := nr rfl
end
attribute [simp ↓] w_seq w_skip w_label w_exit w_goto w_ret w_block w_cond w_region w_draw w_loop w_rangeFunc w_scope w_then_normal w_then_ret w_then_exit w_then_goto w_block_normal w_block_ret w_block_exit w_block_goto w_aret_normal w_aret_ret r_nil r_cons r_estep r_done r_step r_alt r_seq_nil r_seq_cons r_plain r_plain0 r_guard r_guard0 p_move_tmp p_move_const p_assign_tmp p_assign_const p_pick p_load p_alloc p_box p_store p_buildSlice p_makeSlice p_extract p_nilCheck p_binOp p_unOp p_convert p_fieldAddr p_field p_indexAddr p_index p_slice p_makeInterface p_makeFunc p_build p_len p_min p_max p_append p_copy p_call t_tmp t_const t_global t_func t_nil t_cons f_nil f_cons
end Go.AL
