/-
  The abstract-state logic: the walk of code with rounds, as rewriting.
-/
import Derived.Test.YtheldoijfnigoaaGreatDoorAALPart7
import Derived.ProofKit
import Derived.OpenShut
set_option linter.unusedSimpArgs false
set_option linter.unusedVariables false
namespace Go.AL
open Go
variable [GL]
set_option linter.unusedSectionVars false

/-- A loop, and the like; what stands behind is left alone. -/
def codeYK (P : Program) {X : Nat → Prop} (n : Nat) (c : Code) (Q : Exit → Env X → Slots → Store → Prop) (E : Env X) (A : Slots) (σ : Store) (_t : Tag Q := .mk) : Prop := AWpY P n c Q E A σ

theorem codeYK.loop {P : Program} {X : Nat → Prop} (hm : P.follows .mixedOrders = true) {st : List Tmp} {plans : List (Nat × Plan)} {n : Nat} {c : Code} {Q : Exit → Env X → Slots → Store → Prop} {E : Env X} {A : Slots} {σ : Store} {t : Tag Q} {S : Type} (Inv : S → Prop) (sl : S → List (Nat × AV)) (so : S → Store) (en : S → Env X → Prop) (μ : S → Nat) (x0 : S)
    (hok : codeOkY st plans n c = true) (h0 : Inv x0) (hA : LeL A (sl x0)) (hσ : Store.sub (so x0) σ) (hE : en x0 E)
    (round : ∀ x E, Inv x → en x E → awpY P st plans n c (thenY (fun E' A' σ' => ∃ y, Inv y ∧ μ y < μ x ∧ LeL A' (sl y) ∧ Store.sub (so y) σ' ∧ en y E') Q) E (slotsL (sl x)) (so x)) : codeYK P n (.loop c) Q E A σ t :=
  AWpY.loop Inv (fun x => slotsL (sl x)) so en μ x0 h0 (Slots.le_of hA) hσ hE fun x E hx he => (awpY_sound hm c hok (round x E hx he)).mono fun e E' A' σ' h => by
    cases e with
    | normal => obtain ⟨y, h1, h2, h3, h4, h5⟩ := h; exact ⟨y, h1, h2, Slots.le_of h3, h4, h5⟩
    | _ => exact h

theorem Store.sub_over (τ' τ σ : Store) : Store.sub τ' (Store.over τ' τ σ) := fun o => by
  simp only [Store.over]
  cases h : τ' o with
  | none => exact .inl rfl
  | some cs => exact .inr rfl
theorem Store.sub_trans {a b c : Store} (h : Store.sub a b) (k : Store.sub b c) : Store.sub a c := fun o => by
  rcases h o with h | h
  · exact .inl h
  · rcases k o with k | k
    · exact .inl (h.trans k)
    · exact .inr (h.trans k)

theorem yieldK.of {P : Program} {X : Nat → Prop} {l : Nat} {args args' : List AV} {τ σ : Store} {E : Env X} {R R' : Bool → Store → Env X → Prop} {t : Tag R'} (hl : AllLe args args') (h : AYields P l args' τ E R) (hs : Store.sub τ σ)
    (hr : ∀ b τ' E', R b τ' E' → Apart τ' τ σ → R' b (Store.over τ' τ σ) E') : yieldK P l args σ E R' t :=
  ⟨τ, hs, (AYields.le hl h).mono fun b τ' E' hR hap => hr b τ' E' hR hap⟩

theorem AWpY.rangeK {P : Program} {X : Nat → Prop} {n : Nat} {g : Operand} {ps : Array Tmp} {assign body : Code} {A : Slots} {σ : Store} {E : Env X} {Q : Exit → Env X → Slots → Store → Prop} {t : Tag Q} {f : FuncId} {caps : List AV} (hg : evalA A g = .func (.func f) [] caps) (hc : callable P f = true)
    (h : ∀ l, ¬ X l → ACallsY P (X := AddX X l) f (.func (.yield l) [] [] :: caps.map AV.share) σ (E.link l ⟨fun i => (A i).share, n, ps, assign, body⟩ .ready none) fun _ σ' E' =>
      (∃ E0, E' = E0.link l ⟨fun i => (A i).share, n, ps, assign, body⟩ .ready none ∧ Q .normal E0 A σ') ∨ (∃ E0 c, E' = E0.link l ⟨fun i => (A i).share, n, ps, assign, body⟩ .done (some c) ∧ jumpQ Q c E0 A σ')) :
    codeYK P n (.rangeFunc g ps assign body) Q E A σ t := AWpY.range hg hc h

/-! ### code -/
section
variable (P : Program) (st : List Tmp) (plans : List (Nat × Plan)) (n : Nat) {X : Nat → Prop} (Q : Exit → Env X → Slots → Store → Prop) (E : Env X) (A : Slots) (σ : Store)
theorem y_seq (x y : Code) : awpY P st plans n (.seq x y) Q E A σ = awpY P st plans n x (thenY (awpY P st plans n y Q) Q) E A σ := nr rfl
theorem y_skip : awpY P st plans n .skip Q E A σ = Q .normal E A σ := nr rfl
theorem y_label (l : Nat) : awpY P st plans n (.label l) Q E A σ = Q .normal E A σ := nr rfl
theorem y_exit (l : Nat) : awpY P st plans n (.exit l) Q E A σ = Q (.exit l) E A σ := nr rfl
theorem y_goto (l : Nat) : awpY P st plans n (.goto l) Q E A σ = Q (.goto l) E A σ := nr rfl
theorem y_ret : awpY P st plans n .ret Q E A σ = Q .ret E A σ := nr rfl
theorem y_block (id : Nat) (c : Code) : awpY P st plans n (.block id c) Q E A σ = awpY P st plans n c (blockY id Q) E A σ := nr rfl
theorem y_cond (c : Operand) (x y : Code) : awpY P st plans n (.cond c x y) Q E A σ = withO (boolOf (evalA A c)) fun b => if b = true then awpY P st plans n x Q E A σ else awpY P st plans n y Q E A σ := nr (by
  rw [awpY]; dsimp only
  cases evalA A c with
  | lit v => cases v <;> kernel_rfl
  | _ => kernel_rfl)
theorem y_region (id : Nat) (ops : Array Oper) : awpY P st plans n (.region id ops false) Q E A σ = aopsYAt P st ops (Q .normal) ops.toList 0 E A σ := nr (by simp only [awpY, Bool.false_eq_true, if_false])
theorem y_draw (id : Nat) (ops : Array Oper) : awpY P st plans n (.region id ops true) Q E A σ = withO (plans.lookup id) fun p => planY P st ops Q p E A σ := nr (by simp only [awpY, if_true]; cases plans.lookup id <;> rfl)
theorem y_plan_tail (ops : Array Oper) (m : Nat) (p : Plan) : planY P st ops Q (Plan.tail m p) E A σ = aplan P st (ops.extract 0 m) (fun A' σ' => aopsYAt P st ops (Q .normal) (ops.toList.drop m) m E A' σ') p A σ := nr (by
  simp only [Plan.tail, planY]; rw [if_pos (by omega), show 1000000 + m - 1000000 = m by omega])
theorem y_plan_alt (ops : Array Oper) (p q : Plan) : planY P st ops Q (.alt p q) E A σ = aplan P st ops (Q .normal E) (.alt p q) A σ := nr rfl
theorem y_plan_done (ops : Array Oper) : planY P st ops Q .done E A σ = aplan P st ops (Q .normal E) .done A σ := nr rfl
theorem y_plan_seq (ops : Array Oper) (i : Nat) (l : List Nat) (p : Plan) : planY P st ops Q (Plan.seq (i :: l) p) E A σ = if 1000000 ≤ i then planY P st ops Q (.step i (Plan.seq l p)) E A σ else aplan P st ops (Q .normal E) (Plan.seq (i :: l) p) A σ := nr (by
  by_cases h : 1000000 ≤ i
  · rw [if_pos h]; rfl
  · rw [if_neg h]; show planY P st ops Q (.step i (Plan.seq l p)) E A σ = _; simp only [planY]; rw [if_neg h]; rfl)
theorem y_loop (c : Code) : awpY P st plans n (.loop c) Q E A σ = codeYK P n (.loop c) Q E A σ := nr rfl
theorem y_rangeFunc (f : Operand) (ps : Array Tmp) (c d : Code) : awpY P st plans n (.rangeFunc f ps c d) Q E A σ = codeYK P n (.rangeFunc f ps c d) Q E A σ := nr rfl
theorem y_then_normal (N : Env X → Slots → Store → Prop) : thenY N Q .normal E A σ = N E A σ := nr rfl
theorem y_then_ret (N : Env X → Slots → Store → Prop) : thenY N Q .ret E A σ = Q .ret E A σ := nr rfl
theorem y_then_exit (N : Env X → Slots → Store → Prop) (l : Nat) : thenY N Q (.exit l) E A σ = Q (.exit l) E A σ := nr rfl
theorem y_then_goto (N : Env X → Slots → Store → Prop) (l : Nat) : thenY N Q (.goto l) E A σ = Q (.goto l) E A σ := nr rfl
theorem y_block_normal (id : Nat) : blockY id Q .normal E A σ = Q .normal E A σ := nr rfl
theorem y_block_ret (id : Nat) : blockY id Q .ret E A σ = Q .ret E A σ := nr rfl
theorem y_block_exit (id l : Nat) : blockY id Q (.exit l) E A σ = if l = id then Q .normal E A σ else Q (.exit l) E A σ := nr (by simp only [blockY]; split <;> rfl)
theorem y_block_goto (id l : Nat) : blockY id Q (.goto l) E A σ = Q (.goto l) E A σ := nr rfl
theorem y_ret_normal (rs : List ResultVar) (R : AV → Store → Env X → Prop) : aretY P rs R .normal E A σ = withO (ares P A σ rs) fun v => ∃ v' σ', v.le v' ∧ Store.sub σ' σ ∧ R v' σ' E := nr (by kernel_rfl)
theorem y_ret_ret (rs : List ResultVar) (R : AV → Store → Env X → Prop) : aretY P rs R .ret E A σ = withO (ares P A σ rs) fun v => ∃ v' σ', v.le v' ∧ Store.sub σ' σ ∧ R v' σ' E := nr (by kernel_rfl)
variable (l : Nat) (L : Link) (R : Bool → Store → Env (AddX X l) → Prop)
theorem y_rnd_normal : rndQ l L R .normal E A σ = R true σ (E.link l L .ready none) := nr rfl
theorem y_rnd_ret : rndQ l L R .ret E A σ = R false σ (E.link l L .done (some .ret)) := nr rfl
theorem y_rnd_exit (id : Nat) : rndQ l L R (.exit id) E A σ = R false σ (E.link l L .done (some (.exit id))) := nr rfl
theorem y_rnd_goto (id : Nat) : rndQ l L R (.goto id) E A σ = R false σ (E.link l L .done (some (.goto id))) := nr rfl
end

/-! ### regions -/
def estepYO (P : Program) (st : List Tmp) (ops : Array Oper) (o : Oper) {X : Nat → Prop} (K : Env X → Slots → Store → Prop) (E : Env X) (A : Slots) (σ : Store) : Prop :=
  match o.guard with
  | none => runY P st o K E A σ
  | some (j, want) => match yieldedA ops A j with
    | some b => if b = some want then runY P st o K E A σ else K E (aput A o.dst (.lit undef)) σ
    | none => False
def isVC : Op → Bool
  | .call c => match c.callee with
    | .value _ => true
    | _ => false
  | _ => false
def yCase (y : Option Nat) (Y : Nat → Prop) (N : Prop) : Prop := match y with | some l => Y l | none => N
theorem yCase_some (l : Nat) (Y : Nat → Prop) (N : Prop) : yCase (some l) Y N = Y l := nr rfl
theorem yCase_none (Y : Nat → Prop) (N : Prop) : yCase none Y N = N := nr rfl
@[simp] theorem yieldL_yield (l : Nat) : yieldL (.func (.yield l) [] []) = some l := nr rfl
@[simp] theorem yieldL_func (f : FuncId) (as bs : List AV) : yieldL (.func (.func f) as bs) = none := nr rfl
section
variable (P : Program) (st : List Tmp) (ops : Array Oper) {X : Nat → Prop} (Q K : Env X → Slots → Store → Prop) (E : Env X) (A : Slots) (σ : Store)
theorem y_nil (i : Nat) : aopsYAt P st ops Q [] i E A σ = Q E A σ := nr rfl
theorem y_cons (o : Oper) (rest : List Oper) (i : Nat) : aopsYAt P st ops Q (o :: rest) i E A σ = estepY P st ops i (aopsYAt P st ops Q rest (i + 1)) E A σ := nr rfl
theorem y_estep (i : Nat) : estepY P st ops i K E A σ = withO (ops[i]?) fun o => estepYO P st ops o K E A σ := nr (by
  unfold estepY estepYO
  cases ops[i]? <;> rfl)
variable (d : Option Tmp) (op : Op) (ty : TypeId) (ps : String) (af : Array Edge) (g : Option (Nat × Bool))
theorem yieldOf_old (h : isVC op = false) : yieldOf A ⟨d, op, ty, ps, af, g⟩ = none := by
  unfold yieldOf
  cases op with
  | call c =>
    obtain ⟨callee, as, ts⟩ := c
    cases callee <;> first | rfl | (simp [isVC] at h)
  | _ => rfl
theorem y_old (h : isVC op = false) : estepYO P st ops ⟨d, op, ty, ps, af, g⟩ K E A σ = estepO P st ops ⟨d, op, ty, ps, af, g⟩ (K E) A σ := by
  unfold estepYO estepO runY
  rw [yieldOf_old _ _ _ _ _ _ _ h]
  cases g with
  | none => rfl
  | some q => rfl
theorem y_move (x : Operand) : estepYO P st ops ⟨d, .move x, ty, ps, af, g⟩ K E A σ = estepO P st ops ⟨d, .move x, ty, ps, af, g⟩ (K E) A σ := nr (y_old P st ops K E A σ d _ ty ps af g rfl)
theorem y_assign (x : Operand) : estepYO P st ops ⟨d, .assign x, ty, ps, af, g⟩ K E A σ = estepO P st ops ⟨d, .assign x, ty, ps, af, g⟩ (K E) A σ := nr (y_old P st ops K E A σ d _ ty ps af g rfl)
theorem y_pick (c a b : Operand) : estepYO P st ops ⟨d, .pick c a b, ty, ps, af, g⟩ K E A σ = estepO P st ops ⟨d, .pick c a b, ty, ps, af, g⟩ (K E) A σ := nr (y_old P st ops K E A σ d _ ty ps af g rfl)
theorem y_alloc (elem : TypeId) : estepYO P st ops ⟨d, .alloc elem, ty, ps, af, g⟩ K E A σ = estepO P st ops ⟨d, .alloc elem, ty, ps, af, g⟩ (K E) A σ := nr (y_old P st ops K E A σ d _ ty ps af g rfl)
theorem y_box (elem : TypeId) (v : Operand) : estepYO P st ops ⟨d, .box elem v, ty, ps, af, g⟩ K E A σ = estepO P st ops ⟨d, .box elem v, ty, ps, af, g⟩ (K E) A σ := nr (y_old P st ops K E A σ d _ ty ps af g rfl)
theorem y_build (t : TypeId) (parts : Array (Nat × Operand)) : estepYO P st ops ⟨d, .build t parts, ty, ps, af, g⟩ K E A σ = estepO P st ops ⟨d, .build t parts, ty, ps, af, g⟩ (K E) A σ := nr (y_old P st ops K E A σ d _ ty ps af g rfl)
theorem y_buildSlice (t : TypeId) (len : Nat) (parts : Array (Nat × Operand)) : estepYO P st ops ⟨d, .buildSlice t len parts, ty, ps, af, g⟩ K E A σ = estepO P st ops ⟨d, .buildSlice t len parts, ty, ps, af, g⟩ (K E) A σ := nr (y_old P st ops K E A σ d _ ty ps af g rfl)
theorem y_load (t : TypeId) (addr : Operand) : estepYO P st ops ⟨d, .load t addr, ty, ps, af, g⟩ K E A σ = estepO P st ops ⟨d, .load t addr, ty, ps, af, g⟩ (K E) A σ := nr (y_old P st ops K E A σ d _ ty ps af g rfl)
theorem y_store (t : TypeId) (addr val : Operand) : estepYO P st ops ⟨d, .store t addr val, ty, ps, af, g⟩ K E A σ = estepO P st ops ⟨d, .store t addr val, ty, ps, af, g⟩ (K E) A σ := nr (y_old P st ops K E A σ d _ ty ps af g rfl)
theorem y_nilCheck (x : Operand) : estepYO P st ops ⟨d, .nilCheck x, ty, ps, af, g⟩ K E A σ = estepO P st ops ⟨d, .nilCheck x, ty, ps, af, g⟩ (K E) A σ := nr (y_old P st ops K E A σ d _ ty ps af g rfl)
theorem y_binOp (op : BinOp) (xType : TypeId) (x y : Operand) (yType : TypeId) : estepYO P st ops ⟨d, .binOp op xType x y yType, ty, ps, af, g⟩ K E A σ = estepO P st ops ⟨d, .binOp op xType x y yType, ty, ps, af, g⟩ (K E) A σ := nr (y_old P st ops K E A σ d _ ty ps af g rfl)
theorem y_unOp (op : UnOp) (xType : TypeId) (x : Operand) : estepYO P st ops ⟨d, .unOp op xType x, ty, ps, af, g⟩ K E A σ = estepO P st ops ⟨d, .unOp op xType x, ty, ps, af, g⟩ (K E) A σ := nr (y_old P st ops K E A σ d _ ty ps af g rfl)
theorem y_convert (src dst : TypeId) (x : Operand) : estepYO P st ops ⟨d, .convert src dst x, ty, ps, af, g⟩ K E A σ = estepO P st ops ⟨d, .convert src dst x, ty, ps, af, g⟩ (K E) A σ := nr (y_old P st ops K E A σ d _ ty ps af g rfl)
theorem y_makeInterface (xType : TypeId) (x : Operand) : estepYO P st ops ⟨d, .makeInterface xType x, ty, ps, af, g⟩ K E A σ = estepO P st ops ⟨d, .makeInterface xType x, ty, ps, af, g⟩ (K E) A σ := nr (y_old P st ops K E A σ d _ ty ps af g rfl)
theorem y_makeFunc (fn : Fn) (first captured : Array Operand) : estepYO P st ops ⟨d, .makeFunc fn first captured, ty, ps, af, g⟩ K E A σ = estepO P st ops ⟨d, .makeFunc fn first captured, ty, ps, af, g⟩ (K E) A σ := nr (y_old P st ops K E A σ d _ ty ps af g rfl)
theorem y_makeSlice (t : TypeId) (len cap : Operand) : estepYO P st ops ⟨d, .makeSlice t len cap, ty, ps, af, g⟩ K E A σ = estepO P st ops ⟨d, .makeSlice t len cap, ty, ps, af, g⟩ (K E) A σ := nr (y_old P st ops K E A σ d _ ty ps af g rfl)
theorem y_slice (xType : TypeId) (x : Operand) (low high max : Option Operand) : estepYO P st ops ⟨d, .slice xType x low high max, ty, ps, af, g⟩ K E A σ = estepO P st ops ⟨d, .slice xType x low high max, ty, ps, af, g⟩ (K E) A σ := nr (y_old P st ops K E A σ d _ ty ps af g rfl)
theorem y_fieldAddr (xType : TypeId) (x : Operand) (field : Nat) : estepYO P st ops ⟨d, .fieldAddr xType x field, ty, ps, af, g⟩ K E A σ = estepO P st ops ⟨d, .fieldAddr xType x field, ty, ps, af, g⟩ (K E) A σ := nr (y_old P st ops K E A σ d _ ty ps af g rfl)
theorem y_field (xType : TypeId) (x : Operand) (field : Nat) : estepYO P st ops ⟨d, .field xType x field, ty, ps, af, g⟩ K E A σ = estepO P st ops ⟨d, .field xType x field, ty, ps, af, g⟩ (K E) A σ := nr (y_old P st ops K E A σ d _ ty ps af g rfl)
theorem y_indexAddr (xType : TypeId) (x index : Operand) : estepYO P st ops ⟨d, .indexAddr xType x index, ty, ps, af, g⟩ K E A σ = estepO P st ops ⟨d, .indexAddr xType x index, ty, ps, af, g⟩ (K E) A σ := nr (y_old P st ops K E A σ d _ ty ps af g rfl)
theorem y_index (xType : TypeId) (x index : Operand) : estepYO P st ops ⟨d, .index xType x index, ty, ps, af, g⟩ K E A σ = estepO P st ops ⟨d, .index xType x index, ty, ps, af, g⟩ (K E) A σ := nr (y_old P st ops K E A σ d _ ty ps af g rfl)
theorem y_lookup (xType : TypeId) (x index : Operand) (commaOk : Bool) : estepYO P st ops ⟨d, .lookup xType x index commaOk, ty, ps, af, g⟩ K E A σ = estepO P st ops ⟨d, .lookup xType x index commaOk, ty, ps, af, g⟩ (K E) A σ := nr (y_old P st ops K E A σ d _ ty ps af g rfl)
theorem y_mapUpdate (mapType : TypeId) (map key value : Operand) : estepYO P st ops ⟨d, .mapUpdate mapType map key value, ty, ps, af, g⟩ K E A σ = estepO P st ops ⟨d, .mapUpdate mapType map key value, ty, ps, af, g⟩ (K E) A σ := nr (y_old P st ops K E A σ d _ ty ps af g rfl)
theorem y_extract (tuple : Operand) (index : Nat) : estepYO P st ops ⟨d, .extract tuple index, ty, ps, af, g⟩ K E A σ = estepO P st ops ⟨d, .extract tuple index, ty, ps, af, g⟩ (K E) A σ := nr (y_old P st ops K E A σ d _ ty ps af g rfl)
theorem y_call_builtin (b : Builtin) (as : Array Operand) (ts : Array TypeId) : estepYO P st ops ⟨d, .call ⟨.builtin b, as, ts⟩, ty, ps, af, g⟩ K E A σ = estepO P st ops ⟨d, .call ⟨.builtin b, as, ts⟩, ty, ps, af, g⟩ (K E) A σ := nr (y_old P st ops K E A σ d _ ty ps af g rfl)
theorem y_call (d : Tmp) (f : Operand) (args : Array Operand) (ts : Array TypeId) : estepYO P st ops ⟨some d, .call ⟨.value f, args, ts⟩, ty, ps, af, none⟩ K E A σ = withV (yieldL (evalA A f)) fun y => yCase y
    (fun l => takeArgs P args.toList ts.toList A fun vs A' => yieldK P l vs σ E fun b σ' E' => K E' (upd A' d (.lit (.bool b))) σ') (estepO P st ops ⟨some d, .call ⟨.value f, args, ts⟩, ty, ps, af, none⟩ (K E) A σ) := nr (by
  unfold estepYO estepO runY yieldOf withV yCase
  dsimp only
  cases yieldL (evalA A f) <;> rfl)
theorem y_call0 (f : Operand) (args : Array Operand) (ts : Array TypeId) : estepYO P st ops ⟨none, .call ⟨.value f, args, ts⟩, ty, ps, af, none⟩ K E A σ = withV (yieldL (evalA A f)) fun y => yCase y
    (fun l => takeArgs P args.toList ts.toList A fun vs A' => yieldK P l vs σ E fun _ σ' E' => K E' A' σ') (estepO P st ops ⟨none, .call ⟨.value f, args, ts⟩, ty, ps, af, none⟩ (K E) A σ) := nr (by
  unfold estepYO estepO runY yieldOf withV yCase
  dsimp only
  cases yieldL (evalA A f) <;> rfl)
theorem y_callG (d : Tmp) (f : Operand) (args : Array Operand) (ts : Array TypeId) (j : Nat) (want : Bool) : estepYO P st ops ⟨some d, .call ⟨.value f, args, ts⟩, ty, ps, af, some (j, want)⟩ K E A σ = withO (yieldedA ops A j) fun b => if b = some want then withV (yieldL (evalA A f)) fun y => yCase y
    (fun l => takeArgs P args.toList ts.toList A fun vs A' => yieldK P l vs σ E fun b σ' E' => K E' (upd A' d (.lit (.bool b))) σ') (aoper P st ⟨some d, .call ⟨.value f, args, ts⟩, ty, ps, af, some (j, want)⟩ A σ fun v A' σ' => K E (upd A' d v) σ') else K E (upd A d (.lit (.tuple #[]))) σ := nr (by
  unfold estepYO runY yieldOf withV yCase withO
  dsimp only
  cases yieldedA ops A j with
  | none => rfl
  | some b => cases yieldL (evalA A f) <;> rfl)
end
attribute [simp ↓] y_seq y_skip y_label y_exit y_goto y_ret y_block y_cond y_region y_draw y_plan_tail y_plan_alt y_plan_done y_plan_seq y_loop y_rangeFunc y_then_normal y_then_ret y_then_exit y_then_goto y_block_normal y_block_ret y_block_exit y_block_goto y_ret_normal y_ret_ret y_rnd_normal y_rnd_ret y_rnd_exit y_rnd_goto
  yCase_some yCase_none y_nil y_cons y_estep y_call y_call0 y_callG y_move y_assign y_pick y_alloc y_box y_build y_buildSlice y_load y_store y_nilCheck y_binOp y_unOp y_convert y_makeInterface y_makeFunc y_makeSlice y_slice y_fieldAddr y_field y_indexAddr y_index y_lookup y_mapUpdate y_extract y_call_builtin
attribute [simp] Store.sub_over
end Go.AL
/-
  The abstract-state logic: iterators that tell a list, and the loops over them.
-/
namespace Go.AL
open Go Classical
variable [GL]
set_option linter.unusedSectionVars false

theorem AYields.sub {P : Program} {X : Nat → Prop} {l : Nat} {args : List AV} {τ σ : Store} {E : Env X} {R : Bool → Store → Env X → Prop} (h : AYields P l args τ E R) (hs : Store.sub τ σ) : AYields P l args σ E R :=
  fun D G w cargs h1 h2 h3 h4 h5 => h D G w cargs h1 h2 (h3.forget hs) h4 h5

/-- Calling f (with these cells captured) on a yield asks a round for each of xs, in order, till one says no. -/
def Iter (P : Program) (f : FuncId) (caps : List AV) (σ : Store) (xs : List (List AV)) : Prop :=
  ∀ (X : Nat → Prop) (l : Nat) (I : Nat → Store → Env X → Prop) (J : Store → Env X → Prop),
    (∀ (k : Nat) (h : k < xs.length) (τ : Store) (E : Env X), I k τ E → AYields P l xs[k] τ E fun b τ' E' => if b = true then I (k + 1) τ' E' else J τ' E') →
    ∀ (τ : Store) (E : Env X), I 0 τ E → Store.sub τ σ →
      ACallsY P f (.func (.yield l) [] [] :: caps.map AV.share) σ E fun _ σ' E' => ∃ τ', Store.sub τ' σ' ∧ (I xs.length τ' E' ∨ J τ' E')

/-- How a round may end. -/
def roundQ {X : Nat → Prop} (live : Store → Env X → Prop) (dead : Code → Store → Env X → Prop) : Exit → Env X → Slots → Store → Prop
  | .normal, E, _, σ => ∃ τ, Store.sub τ σ ∧ live τ E
  | .ret, E, _, σ => ∃ τ, Store.sub τ σ ∧ dead .ret τ E
  | .exit id, E, _, σ => ∃ τ, Store.sub τ σ ∧ dead (.exit id) τ E
  | .goto t, E, _, σ => ∃ τ, Store.sub τ σ ∧ dead (.goto t) τ E
  | _, _, _, _ => False

theorem codeYK.range {P : Program} {X : Nat → Prop} (hm : P.follows .mixedOrders = true) {st : List Tmp} {plans : List (Nat × Plan)} {n : Nat} {g : Operand} {ps : Array Tmp} {assign body : Code} {A : Slots} {σ : Store} {E : Env X} {Q : Exit → Env X → Slots → Store → Prop} {t : Tag Q}
    {f : FuncId} {caps : List AV} {xs : List (List AV)} (hi : Iter P f caps σ xs) (hg : evalA A g = .func (.func f) [] caps) (hc : callable P f = true) (hlen : ∀ x ∈ xs, x.length = ps.size) (hps : (ps.toList.all fun p => decide (p < n)) = true)
    (hok1 : codeOkY st plans n assign = true) (hok2 : codeOkY st plans n body = true) (Live : Nat → Store → Env X → Prop) (Dead : Code → Store → Env X → Prop) (τ0 : Store) (h0 : Live 0 τ0 E) (hs0 : Store.sub τ0 σ)
    (hround : ∀ (k : Nat) (h : k < xs.length) (τ : Store) (E : Env X), Live k τ E → awpY P st plans n assign (thenY (awpY P st plans n body (roundQ (Live (k + 1)) Dead)) fun _ _ _ _ => False) E (setPs (fun i => (A i).share) ps.toList xs[k]) τ)
    (hdone : ∀ (τ : Store) (E : Env X) (σ' : Store), Store.sub τ σ' → Live xs.length τ E → Q .normal E A σ')
    (hdead : ∀ (c : Code) (τ : Store) (E : Env X) (σ' : Store), Store.sub τ σ' → Dead c τ E → jumpQ Q c E A σ') : codeYK P n (.rangeFunc g ps assign body) Q E A σ t := by
  refine AWpY.rangeK hg hc fun l hl => ?_
  let L : Link := ⟨fun i => (A i).share, n, ps, assign, body⟩
  refine (hi (AddX X l) l (fun k τ E' => ∃ τ1 E0, Store.sub τ1 τ ∧ Live k τ1 E0 ∧ E' = E0.link l L .ready none) (fun τ E' => ∃ τ1 E0 c, Store.sub τ1 τ ∧ Dead c τ1 E0 ∧ E' = E0.link l L .done (some c)) ?_ τ0 _ ⟨τ0, E, Store.sub_refl _, h0, rfl⟩ hs0).mono ?_
  · rintro k hk τ E' ⟨τ1, E0, h1, h2, rfl⟩
    refine AYields.sub (AYields.of_round hl (L := L) (hlen _ (List.getElem_mem hk)) (fun p hp => by simpa using List.all_eq_true.1 hps p hp) (fun i => share_plain _) ?_) h1
    refine (awpY_sound hm assign hok1 (hround k hk τ1 E0 h2)).mono fun e E2 A2 σ2 hh => ?_
    cases e with
    | normal =>
      refine AWpY.mono (awpY_sound hm body hok2 hh) fun e E3 A3 σ3 h3 => ?_
      cases e with
      | normal => obtain ⟨τ3, q1, q2⟩ := h3; exact ⟨τ3, E3, q1, q2, rfl⟩
      | ret => obtain ⟨τ3, q1, q2⟩ := h3; exact ⟨τ3, E3, _, q1, q2, rfl⟩
      | exit id => obtain ⟨τ3, q1, q2⟩ := h3; exact ⟨τ3, E3, _, q1, q2, rfl⟩
      | goto t => obtain ⟨τ3, q1, q2⟩ := h3; exact ⟨τ3, E3, _, q1, q2, rfl⟩
      | _ => exact h3.elim
    | _ => exact hh
  · rintro v σ' E' ⟨τ', h1, ⟨τ1, E0, h2, h3, rfl⟩ | ⟨τ1, E0, c, h2, h3, rfl⟩⟩
    · exact .inl ⟨E0, rfl, hdone τ1 E0 σ' (Store.sub_trans h2 h1) h3⟩
    · exact .inr ⟨E0, c, rfl, hdead c τ1 E0 σ' (Store.sub_trans h2 h1) h3⟩
section
variable {X : Nat → Prop} (live : Store → Env X → Prop) (dead : Code → Store → Env X → Prop) (E : Env X) (A : Slots) (σ : Store)
theorem y_round_normal : roundQ live dead .normal E A σ = ∃ τ, Store.sub τ σ ∧ live τ E := nr rfl
theorem y_round_ret : roundQ live dead .ret E A σ = ∃ τ, Store.sub τ σ ∧ dead .ret τ E := nr rfl
theorem y_round_exit (id : Nat) : roundQ live dead (.exit id) E A σ = ∃ τ, Store.sub τ σ ∧ dead (.exit id) τ E := nr rfl
theorem y_round_goto (id : Nat) : roundQ live dead (.goto id) E A σ = ∃ τ, Store.sub τ σ ∧ dead (.goto id) τ E := nr rfl
end
attribute [simp ↓] y_round_normal y_round_ret y_round_exit y_round_goto
@[simp] theorem setPs_nil (A : Slots) (vs : List AV) : setPs A [] vs = A := nr (by cases vs <;> rfl)
@[simp] theorem setPs_cons (A : Slots) (p : Tmp) (ps : List Tmp) (v : AV) (vs : List AV) : setPs A (p :: ps) (v :: vs) = setPs (upd A p v.share) ps vs := nr rfl
section
variable {X : Nat → Prop} (Q : Exit → Env X → Slots → Store → Prop) (E : Env X) (A : Slots) (σ : Store)
@[simp] theorem jumpQ_ret : jumpQ Q .ret E A σ = Q .ret E A σ := nr rfl
@[simp] theorem jumpQ_exit (id : Nat) : jumpQ Q (.exit id) E A σ = Q (.exit id) E A σ := nr rfl
@[simp] theorem jumpQ_goto (id : Nat) : jumpQ Q (.goto id) E A σ = Q (.goto id) E A σ := nr rfl
end
end Go.AL
/-
  The abstract-state logic: bits of small numbers.
-/
namespace Go.AL
open Go
variable [GL]
set_option linter.unusedSectionVars false

theorem wrap_u8 {n : Int} (h0 : 0 ≤ n) (h1 : n < 256) : IntKind.u8.wrap n = n := by
  unfold IntKind.wrap
  simp [IntKind.signed, IntKind.bits]
  omega
end Go.AL
/-
  The abstract-state logic: iterators that look at a store which their rounds may change.
-/
namespace Go.AL
open Go Classical
variable [GL]
set_option linter.unusedSectionVars false

/-- Calling f (with these cells captured) on a yield asks for at most N rounds; what the k-th is given hangs on the store; 'Need' is what the iterator must find there. -/
structure IterG (P : Program) (f : FuncId) (caps : List AV) (σ : Store) (N : Nat) (Need : Nat → Store → Prop) (arg : Nat → Store → List AV) : Prop where
  mono : ∀ k τ τ', Need k τ → Store.sub τ τ' → Need k τ' ∧ arg k τ' = arg k τ
  run : ∀ (X : Nat → Prop) (l : Nat) (I : Nat → Store → Env X → Prop) (J : Store → Env X → Prop), (∀ k τ E, k ≤ N → I k τ E → Need k τ) →
    (∀ (k : Nat), k < N → ∀ (τ : Store) (E : Env X), I k τ E → AYields P l (arg k τ) τ E fun b τ' E' => if b = true then I (k + 1) τ' E' else J τ' E') →
    ∀ (τ : Store) (E : Env X), I 0 τ E → Store.sub τ σ →
      ACallsY P f (.func (.yield l) [] [] :: caps.map AV.share) σ E fun _ σ' E' => ∃ τ', Store.sub τ' σ' ∧ (I N τ' E' ∨ J τ' E')

end Go.AL
/-
  The abstract-state logic: from a law's walk to its row: what came in, what is told behind the call.
-/
namespace Go.AL
open Go Go.ChangeShapes Go.WideShapes Go.ChangeAt Go.RowKit
variable [GL]
set_option linter.unusedSectionVars false

theorem cell_back {w : World} {g i : Nat} {v : Value} (h : w.cell? ⟨g, i, none⟩ = some v) : allFrz w g i = some v := by
  unfold World.cell? at h
  unfold allFrz
  split at h
  · rename_i c _ _ heq
    simp only at heq
    simp at h
    rw [heq]; exact h
  · cases h

end Go.AL
/-
  The abstract-state logic: what came in, opened type by type.
-/
namespace Go.AL
open Go Go.ChangeShapes Go.WideShapes Go.ChangeAt Go.RowKit
variable [GL]
set_option linter.unusedSectionVars false

/-- A type's cells are these, for some parameter. -/
structure Opens (P : Program) (t : TypeId) {α : Type} (f : α → List AV) (ok : α → Prop) : Prop where
  go : ∀ {H : Type} (enc : TypeId × Value → H) (W : World) (fuel : Nat) (cs : List Value) (x : DataW H × List MemPlace),
    DataW.trod enc P W 0 (fun _ => true) true fuel t cs = some x → ∃ a, ok a ∧ CellsR (VR (allFrz W)) (f a) cs

theorem CellsR.one {R : AV → Value → Prop} {c : AV} {u : Value} (h1 : u.oneCell' = true) (h : R c u) : CellsR R [c] [u] :=
  ⟨rfl, fun i u' hu => by
    cases i with
    | zero => simp at hu; subst hu; exact h1
    | succ i => simp at hu, fun i c' u' hc hu => by
    cases i with
    | zero => simp at hc hu; subst hc hu; exact h
    | succ i => simp at hc⟩

theorem Opens.int {P : Program} {t : TypeId} {k : IntKind} (ht : P.underlying t = some (.int k)) : Opens P t (fun n : Int => [.lit (.int k n)]) (fun n => (Lit.int k n).wf = true) := by
  refine ⟨fun {H} enc W fuel cs x h => ?_⟩
  obtain ⟨n, rfl, _, hw⟩ := DataW.trod_int ht h
  exact ⟨n, hw, .one rfl (.lit _)⟩
theorem Opens.i64 {P : Program} {t : TypeId} (ht : P.underlying t = some (.int .i64)) : Opens P t (fun n : Int => [.lit (.int .i64 n)]) (fun n => -9223372036854775808 ≤ n ∧ n ≤ 9223372036854775807) := by
  refine ⟨fun {H} enc W fuel cs x h => ?_⟩
  obtain ⟨n, hn, hc⟩ := (Opens.int ht).go enc W fuel cs x h
  refine ⟨n, ?_, hc⟩
  simpa [Lit.wf, IntKind.min, IntKind.max, IntKind.bits, IntKind.signed] using hn
theorem Opens.u8 {P : Program} {t : TypeId} (ht : P.underlying t = some (.int .u8)) : Opens P t (fun b : UInt8 => [.lit (.int .u8 (b.toNat : Int))]) (fun _ => True) := by
  refine ⟨fun {H} enc W fuel cs x h => ?_⟩
  obtain ⟨n, hn, hc⟩ := (Opens.int ht).go enc W fuel cs x h
  have := bounds_u8 hn
  refine ⟨UInt8.ofNat n.toNat, trivial, ?_⟩
  have e : ((UInt8.ofNat n.toNat).toNat : Int) = n := by rw [UInt8.toNat_ofNat']; omega
  rw [e]; exact hc
theorem Opens.bool {P : Program} {t : TypeId} (ht : P.underlying t = some .bool) : Opens P t (fun b : Bool => [.lit (.bool b)]) (fun _ => True) := by
  refine ⟨fun {H} enc W fuel cs x h => ?_⟩
  obtain ⟨b, rfl, _⟩ := DataW.trod_bool ht h
  exact ⟨b, trivial, .one rfl (.lit _)⟩
theorem Opens.string {P : Program} {t : TypeId} (ht : P.underlying t = some .string) : Opens P t (fun s : ByteArray => [.lit (.string s)]) (fun s => s.size ≤ maxLen) := by
  refine ⟨fun {H} enc W fuel cs x h => ?_⟩
  obtain ⟨s, rfl, _, hs⟩ := DataW.trod_string ht h
  exact ⟨s, hs, .one rfl (.lit _)⟩

/-! ### Rows of equally many cells -/
theorem flatten_at {β : Type} {sz : Nat} (hpos : 0 < sz) (L : List (List β)) (hL : ∀ x ∈ L, x.length = sz) (k : Nat) : L.flatten[k]? = (L[k / sz]?).bind fun x => x[k % sz]? := by
  induction L generalizing k with
  | nil => simp
  | cons x L ih =>
    have hx := hL x (by simp)
    have ih := ih (fun y hy => hL y (by simp [hy]))
    rw [List.flatten_cons, List.getElem?_append]
    by_cases h : k < sz
    · rw [if_pos (by omega), Nat.div_eq_of_lt h, Nat.mod_eq_of_lt h]; rfl
    · rw [if_neg (by omega), hx, ih]
      have e : k = k - sz + sz := by omega
      have e1 : k / sz = (k - sz) / sz + 1 := by rw [e, Nat.add_div_right _ hpos]; simp
      have e2 : k % sz = (k - sz) % sz := by rw [e, Nat.add_mod_right]; simp
      rw [e1, e2]; rfl
theorem flatten_length {β : Type} {sz : Nat} (L : List (List β)) (hL : ∀ x ∈ L, x.length = sz) : L.flatten.length = L.length * sz := by
  induction L with
  | nil => simp
  | cons x L ih => rw [List.flatten_cons, List.length_append, hL x (by simp), ih (fun y hy => hL y (by simp [hy])), List.length_cons, Nat.succ_mul]; omega
theorem exists_row {β : Type} {Q : Nat → β → Prop} (n : Nat) (h : ∀ i, i < n → ∃ a, Q i a) : ∃ l : List β, l.length = n ∧ ∀ i a, l[i]? = some a → Q i a := by
  induction n with
  | zero => exact ⟨[], rfl, by simp⟩
  | succ n ih =>
    obtain ⟨l, h1, h2⟩ := ih fun i hi => h i (by omega)
    obtain ⟨a, ha⟩ := h n (by omega)
    refine ⟨l ++ [a], by simp [h1], fun i b hb => ?_⟩
    rw [List.getElem?_append] at hb
    split at hb
    · exact h2 i b hb
    · rename_i hlt
      have : i - l.length = 0 := by
        rcases Nat.eq_zero_or_pos (i - l.length) with h | h
        · exact h
        · rw [List.getElem?_eq_none (by simp; omega)] at hb; cases hb
      rw [this] at hb
      simp at hb; subst hb
      rwa [show i = n by omega]

/-- A slice of what is opened. -/
theorem Opens.slice {P : Program} {t e : TypeId} {α : Type} {f : α → List AV} {ok : α → Prop} {sz : Nat} (ht : P.underlying t = some (.slice e)) (hc : P.cellsOf e = sz) (hpos : 0 < sz) (he : Opens P e f ok) (g : α → AV) (hg : ∀ a, (g a).cells = f a) (hsz : ∀ a, (f a).length = sz) :
    Opens P t (fun l : List α => [.list false sz (l.map g)]) (fun l => l.length ≤ maxLen ∧ ∀ a ∈ l, ok a) := by
  refine ⟨fun {H} enc W fuel cs x h => ?_⟩
  rcases DataW.trod_slice ht h with ⟨rfl, _⟩ | ⟨a, len, cap, elems, rest, n, _, rfl, _, hb, hl, hm, hlen, hel, hsp, _⟩
  · exact ⟨[], ⟨Nat.zero_le _, by simp⟩, .one rfl (.nil ..)⟩
  have each : ∀ i, i < len → ∃ q : α × List Value, ok q.1 ∧ q.2.length = sz ∧ CellsR (VR (allFrz W)) (f q.1) q.2 ∧ ∀ j, j < sz → W.cell? ((a.add (i * sz)).add j) = q.2[j]? := by
    intro i hi
    have hE := hel i hi
    rw [hc, List.getElem?_eq_getElem (by omega), Option.bind_eq_some_iff] at hE
    obtain ⟨c1, hc1, hy⟩ := hE
    obtain ⟨q, hq1, hq2⟩ := he.go enc W n c1 _ hy
    obtain ⟨_, w2, w3⟩ := World.cells?_some hc1
    exact ⟨(q, c1), hq1, w2, hq2, w3⟩
  obtain ⟨l, hll, hQ⟩ := exists_row len each
  have hok : ∀ q ∈ l, ok q.1 ∧ q.2.length = sz ∧ CellsR (VR (allFrz W)) (f q.1) q.2 := fun q hq => by
    obtain ⟨i, hi⟩ := List.getElem?_of_mem hq
    have := hQ i q hi
    exact ⟨this.1, this.2.1, this.2.2.1⟩
  refine ⟨l.map (·.1), ⟨by rw [List.length_map, hll]; exact Nat.le_trans hl hm, fun b hb => ?_⟩, .one rfl ?_⟩
  · obtain ⟨q, hq, rfl⟩ := List.mem_map.1 hb
    exact (hok q hq).1
  by_cases hcap : cap = 0
  · subst hcap
    have h0 : len = 0 := by omega
    subst h0
    have : l = [] := List.eq_nil_of_length_eq_zero hll
    subst this
    exact .void sz a
  -- the first cell is there
  have hspot : a.spot = none := by
    have first : ∃ v, W.cell? a = some v := by
      by_cases h0 : 0 < len
      · have h1 := hel 0 h0
        rw [hc, List.getElem?_eq_getElem (by omega), Option.bind_eq_some_iff] at h1
        obtain ⟨c1, hc1, _⟩ := h1
        obtain ⟨_, w2, w3⟩ := World.cells?_some hc1
        have := w3 0 hpos
        rw [List.getElem?_eq_getElem (by omega)] at this
        have e0 : (a.add (0 * sz)).add 0 = a := by simp [Addr.add]
        rw [e0] at this; exact ⟨_, this⟩
      · obtain ⟨r1, r2⟩ := hsp rfl
        have h1 := r2 0 (by omega)
        have hl0 : len = 0 := by omega
        rw [hc, List.getElem?_eq_getElem (by omega), Option.bind_eq_some_iff] at h1
        obtain ⟨c1, hc1, _⟩ := h1
        obtain ⟨_, w2, w3⟩ := World.cells?_some hc1
        have := w3 0 hpos
        rw [List.getElem?_eq_getElem (by omega)] at this
        have e0 : (a.add ((len + 0) * sz)).add 0 = a := by simp [Addr.add, hl0]
        rw [e0] at this; exact ⟨_, this⟩
    obtain ⟨v, hv⟩ := first
    unfold World.cell? at hv
    split at hv
    · split at hv
      · cases hv
      · rename_i hs; simpa using hs
    · cases hv
  obtain ⟨b, off, spot⟩ := a
  simp only at hspot; subst hspot
  have flen : ∀ y ∈ l.map (fun q => f q.1), y.length = sz := fun y hy => by
    obtain ⟨q, _, rfl⟩ := List.mem_map.1 hy; exact hsz _
  have vlen : ∀ y ∈ l.map (fun q => q.2), y.length = sz := fun y hy => by
    obtain ⟨q, hq, rfl⟩ := List.mem_map.1 hy; exact (hok q hq).2.1
  have eflat : flat ((l.map (·.1)).map g) = (l.map fun q => f q.1).flatten := by
    unfold flat
    rw [List.flatMap_def, List.map_map, List.map_map]
    congr 1
    apply List.map_congr_left
    intro q _
    exact hg q.1
  refine .list false sz _ b off len cap (l.map (·.2)).flatten (by simp; omega) hl (fun v hv => ?_) ?_ (fun k u hu => ?_) fun k c u hcc hu => ?_
  · obtain ⟨q, _, rfl⟩ := List.mem_map.1 hv
    rw [hg]; exact hsz _
  · rw [eflat, flatten_length _ flen, flatten_length _ vlen]; simp
  · rw [flatten_at hpos _ vlen, Option.bind_eq_some_iff] at hu
    obtain ⟨cs', h1, h2⟩ := hu
    rw [List.getElem?_map] at h1
    cases hli : l[k / sz]? with
    | none => rw [hli] at h1; cases h1
    | some q =>
      rw [hli] at h1
      simp only [Option.map_some, Option.some.injEq] at h1; subst h1
      obtain ⟨q1, q2, q3, q4⟩ := hQ _ q hli
      have hj : k % sz < sz := Nat.mod_lt _ hpos
      have h4 := q4 _ hj
      rw [h2, Addr.add_lit, Addr.add_lit] at h4
      have e : off + k / sz * sz + k % sz = off + k := by have := Nat.div_add_mod k sz; rw [Nat.mul_comm] at this; omega
      rw [e] at h4
      exact ⟨cell_back h4, q3.2.1 _ _ h2⟩
  · rw [eflat, flatten_at hpos _ flen, Option.bind_eq_some_iff] at hcc
    rw [flatten_at hpos _ vlen, Option.bind_eq_some_iff] at hu
    obtain ⟨fs, h1, h2⟩ := hcc
    obtain ⟨cs', h3, h4⟩ := hu
    rw [List.getElem?_map] at h1 h3
    cases hli : l[k / sz]? with
    | none => rw [hli] at h1; cases h1
    | some q =>
      rw [hli] at h1 h3
      simp only [Option.map_some, Option.some.injEq] at h1 h3; subst h1 h3
      exact (hok q (List.mem_of_getElem? hli)).2.2.2.2 _ _ _ h2 h4

/-! ### Structs, field by field -/
structure OpensF (P : Program) (total off : Nat) (fs : List Field) {α : Type} (f : α → List AV) (ok : α → Prop) : Prop where
  go : ∀ {H : Type} (enc : TypeId × Value → H) (W : World) (fuel : Nat) (cs : List Value), cs.length = total →
    (∀ (i : Nat) (fd : Field), fs[i]? = some fd → ∃ x, DataW.trod enc P W 0 (fun _ => true) true fuel fd.type ((cs.drop fd.offset).take (P.cellsOf fd.type)) = some x) → ∃ a, ok a ∧ CellsR (VR (allFrz W)) (f a) (cs.drop off)
theorem OpensF.nil {P : Program} {total : Nat} : OpensF P total total [] (fun _ : Unit => []) (fun _ => True) := by
  refine ⟨fun {H} enc W fuel cs hl _ => ?_⟩
  refine ⟨(), trivial, ?_⟩
  rw [List.drop_of_length_le (by omega)]
  exact ⟨rfl, by simp, by simp⟩
theorem OpensF.cons {P : Program} {total off k : Nat} {fd : Field} {fs : List Field} {α β : Type} {f : α → List AV} {ok : α → Prop} {g : β → List AV} {ok' : β → Prop} (ho : fd.offset = off) (hk : P.cellsOf fd.type = k) (_hle : off + k ≤ total)
    (h1 : Opens P fd.type f ok) (h2 : OpensF P total (off + k) fs g ok') : OpensF P total off (fd :: fs) (fun x : α × β => f x.1 ++ g x.2) (fun x => ok x.1 ∧ ok' x.2) := by
  refine ⟨fun {H} enc W fuel cs hl h => ?_⟩
  obtain ⟨x, hx⟩ := h 0 fd rfl
  obtain ⟨a, ha, hca⟩ := h1.go enc W fuel _ x hx
  obtain ⟨b, hb, hcb⟩ := h2.go enc W fuel cs hl fun i fd' hi => h (i + 1) fd' hi
  refine ⟨(a, b), ⟨ha, hb⟩, ?_⟩
  rw [ho, hk] at hca
  have e : cs.drop off = (cs.drop off).take k ++ cs.drop (off + k) := by
    rw [← List.drop_drop, List.take_append_drop]
  rw [e]
  exact hca.append hcb
theorem Opens.struct {P : Program} {t : TypeId} {fs : Array Field} {total : Nat} {α : Type} {f : α → List AV} {ok : α → Prop} (ht : P.underlying t = some (.struct fs)) (hc : P.cellsOf t = total) (h : OpensF P total 0 fs.toList f ok) : Opens P t f ok := by
  refine ⟨fun {H} enc W fuel cs x hx => ?_⟩
  obtain ⟨xs, n, _, _, hl, hxs, hf⟩ := DataW.trod_struct ht hx
  have := h.go enc W n cs (by omega) fun i fd hi => by
    have hi' : fs[i]? = some fd := by simpa using hi
    have hlt : i < xs.length := by rw [hxs]; exact (Array.getElem?_eq_some_iff.1 hi').1
    exact ⟨_, by rw [hf i fd hi', List.getElem?_eq_getElem hlt]⟩
  simpa using this
/-- By another parameter. -/
theorem Opens.by {P : Program} {t : TypeId} {α β : Type} {f : α → List AV} {ok : α → Prop} {g : β → List AV} {ok' : β → Prop} (h : Opens P t f ok) (m : α → β) (hm : ∀ a, ok a → ok' (m a) ∧ g (m a) = f a) : Opens P t g ok' := by
  refine ⟨fun {H} enc W fuel cs x hx => ?_⟩
  obtain ⟨a, ha, hc⟩ := h.go enc W fuel cs x hx
  exact ⟨m a, (hm a ha).1, by rw [(hm a ha).2]; exact hc⟩

/-- An argument of one cell. -/
theorem Opens.arg {P : Program} {t : TypeId} {α : Type} {f : α → List AV} {ok : α → Prop} (h : Opens P t f ok) (g : α → AV) (hg : ∀ a, f a = [g a]) {H : Type} {enc : TypeId × Value → H} {W : World} {v : Value} {d : DataW H} {p : List MemPlace} (hv : v.cells = #[v])
    (hx : DataW.Trod enc P W 0 (fun _ => true) true t v d p) : ∃ a, ok a ∧ VR (allFrz W) (g a) v := by
  obtain ⟨fuel, hf⟩ := hx
  obtain ⟨a, ha, hc⟩ := h.go enc W fuel _ _ hf
  refine ⟨a, ha, hc.2.2 0 _ _ ?_ ?_⟩
  · rw [hg]; rfl
  · rw [hv]; rfl
/-- An argument of many cells. -/
theorem Opens.args {P : Program} {t : TypeId} {α : Type} {f : α → List AV} {ok : α → Prop} (h : Opens P t f ok) {H : Type} {enc : TypeId × Value → H} {W : World} {v : Value} {us : Array Value} {d : DataW H} {p : List MemPlace} (hv : v = .agg us)
    (hx : DataW.Trod enc P W 0 (fun _ => true) true t v d p) : ∃ a, ok a ∧ VR (allFrz W) (.agg (f a)) v := by
  subst hv
  obtain ⟨fuel, hf⟩ := hx
  obtain ⟨a, ha, hc⟩ := h.go enc W fuel _ _ hf
  refine ⟨a, ha, .agg _ _ (by simpa [Value.cells] using hc.1) (fun i u hu => hc.2.1 i u (by simpa [Value.cells] using hu)) fun i c u h1 h2 => hc.2.2 i c u h1 (by simpa [Value.cells] using h2)⟩
end Go.AL
/-
  Short names for steps that come again and again (written out when a claim is packed).
-/
namespace Go.AL
open Go
variable [GL]
set_option linter.unusedSectionVars false
@[simp] theorem aField_agg (P : Program) (t : TypeId) (f : Nat) (cs : List AV) : aField P t f (.agg cs) = match tField P t f with | some (off, ft) => cutAV P ft cs off | none => none := nr (by
  unfold aField; cases tField P t f <;> rfl)
theorem del_upd_new {σ : Store} {p : Nat} {x : List AV} (hp : σ p = none) : (σ.upd p x).del p = σ := by
  refine Store.ext2 (fun q => ?_) (fun g => by simp)
  by_cases h : q = p
  · simp [h, hp]
  · simp [h]
end Go.AL
