/-
  The abstract-state logic: the walk of code with rounds, as rewriting.
-/
import Derived.Test.YtkfhpnfgnjmdbaaALIter5
namespace Go.AL
open Go

/-- A loop, and the like; what stands behind is left alone. -/
def codeYK (P : Program) {X : Nat → Prop} (n : Nat) (c : Code) (Q : Exit → Env X → Slots → Store → Prop) (E : Env X) (A : Slots) (σ : Store) (_t : Tag Q := .mk) : Prop := AWpY P n c Q E A σ

theorem codeYK.loop {P : Program} {X : Nat → Prop} (hm : P.follows .mixedOrders = true) {st : List Tmp} {plans : List (Nat × Plan)} {n : Nat} {c : Code} {Q : Exit → Env X → Slots → Store → Prop} {E : Env X} {A : Slots} {σ : Store} {t : Tag Q} {S : Type} (Inv : S → Prop) (sl : S → List (Nat × AV)) (so : S → Store) (en : S → Env X → Prop) (μ : S → Nat) (x0 : S)
    (hok : codeOk st plans n c = true) (h0 : Inv x0) (hA : LeL A (sl x0)) (hσ : Store.sub (so x0) σ) (hE : en x0 E)
    (round : ∀ x E, Inv x → en x E → awpY P st plans n c (thenY (fun E' A' σ' => ∃ y, Inv y ∧ μ y < μ x ∧ LeL A' (sl y) ∧ Store.sub (so y) σ' ∧ en y E') Q) E (slotsL (sl x)) (so x)) : codeYK P n (.loop c) Q E A σ t :=
  AWpY.loop Inv (fun x => slotsL (sl x)) so en μ x0 h0 (Slots.le_of hA) hσ hE fun x E hx he => (awpY_sound hm c hok (round x E hx he)).mono fun e E' A' σ' h => by
    cases e with
    | normal => obtain ⟨y, h1, h2, h3, h4, h5⟩ := h; exact ⟨y, h1, h2, Slots.le_of h3, h4, h5⟩
    | _ => exact h

theorem Store.sub_over (τ' τ σ : Store) : Store.sub τ' (Store.over τ' τ σ) := fun o => by
  simp only [Store.over]
  cases h : τ' o with
  | none => exact .inl rfl
  | some cs => exact .inr rfl
theorem Store.over_apart {τ' τ σ : Store} (h : Apart τ' τ σ) {o : Nat} (ht : τ o = none) (hs : σ o ≠ none) : Store.over τ' τ σ o = σ o := by
  simp [Store.over, h o ht hs, ht]
theorem Store.sub_trans {a b c : Store} (h : Store.sub a b) (k : Store.sub b c) : Store.sub a c := fun o => by
  rcases h o with h | h
  · exact .inl h
  · rcases k o with k | k
    · exact .inl (h.trans k)
    · exact .inr (h.trans k)

theorem yieldK.of {P : Program} {X : Nat → Prop} {l : Nat} {args args' : List AV} {τ σ : Store} {E : Env X} {R R' : Bool → Store → Env X → Prop} {t : Tag R'} (hl : AllLe args args') (h : AYields P l args' τ E R) (hs : Store.sub τ σ)
    (hr : ∀ b τ' E', R b τ' E' → Apart τ' τ σ → R' b (Store.over τ' τ σ) E') : yieldK P l args σ E R' t :=
  ⟨τ, hs, (AYields.le hl h).mono fun b τ' E' hR hap => hr b τ' E' hR hap⟩

/-- A round's contract out of the walk of its assignments and its body. -/
theorem AYields.of_walk {P : Program} {X : Nat → Prop} (hm : P.follows .mixedOrders = true) {st : List Tmp} {plans : List (Nat × Plan)} {l : Nat} (hX : ¬ X l) {A : Slots} {n : Nat} {ps : Array Tmp} {assign body : Code} {xs : List AV} (hlen : xs.length = ps.size) (hps : (ps.toList.all fun p => decide (p < n)) = true)
    (hok1 : codeOk st plans n assign = true) (hok2 : codeOk st plans n body = true) {σ : Store} {E : Env X} {R : Bool → Store → Env (AddX X l) → Prop}
    (h : awpY P st plans n assign (thenY (awpY P st plans n body (rndQ l ⟨fun i => (A i).share, n, ps, assign, body⟩ R)) fun _ _ _ _ => False) E (setPs (fun i => (A i).share) ps.toList xs) σ) :
    AYields P (X := AddX X l) l xs σ (E.link l ⟨fun i => (A i).share, n, ps, assign, body⟩ .ready none) R := by
  refine AYields.of_round hX (L := ⟨fun i => (A i).share, n, ps, assign, body⟩) hlen (fun p hp => by simpa using List.all_eq_true.1 hps p hp) (fun i => share_plain _) ?_
  refine (awpY_sound hm assign hok1 h).mono fun e E' A' σ' hh => ?_
  cases e with
  | normal => exact awpY_sound hm body hok2 hh
  | _ => exact hh

theorem AWpY.rangeK {P : Program} {X : Nat → Prop} {n : Nat} {g : Operand} {ps : Array Tmp} {assign body : Code} {A : Slots} {σ : Store} {E : Env X} {Q : Exit → Env X → Slots → Store → Prop} {t : Tag Q} {f : FuncId} {caps : List AV} (hg : evalA A g = .func (.func f) [] caps) (hc : callable P f = true)
    (h : ∀ l, ¬ X l → ACallsY P (X := AddX X l) f (.func (.yield l) [] [] :: caps.map AV.share) σ (E.link l ⟨fun i => (A i).share, n, ps, assign, body⟩ .ready none) fun _ σ' E' =>
      (∃ E0, E' = E0.link l ⟨fun i => (A i).share, n, ps, assign, body⟩ .ready none ∧ Q .normal E0 A σ') ∨ (∃ E0 c, E' = E0.link l ⟨fun i => (A i).share, n, ps, assign, body⟩ .done (some c) ∧ jumpQ Q c E0 A σ')) :
    codeYK P n (.rangeFunc g ps assign body) Q E A σ t := AWpY.range hg hc h

/-! ### code -/
section
variable (P : Program) (st : List Tmp) (plans : List (Nat × Plan)) (n : Nat) {X : Nat → Prop} (Q : Exit → Env X → Slots → Store → Prop) (E : Env X) (A : Slots) (σ : Store)
theorem y_seq (x y : Code) : awpY P st plans n (.seq x y) Q E A σ = awpY P st plans n x (thenY (awpY P st plans n y Q) Q) E A σ := nr rfl
theorem y_skip : awpY P st plans n .skip Q E A σ = Q .normal E A σ := nr rfl
theorem y_label (l : Nat) : awpY P st plans n (.label l) Q E A σ = Q .normal E A σ := nr rfl
theorem y_exit (l : Nat) : awpY P st plans n (.exit l) Q E A σ = Q (.exit l) E A σ := nr rfl
theorem y_goto (l : Nat) : awpY P st plans n (.goto l) Q E A σ = Q (.goto l) E A σ := nr rfl
theorem y_ret : awpY P st plans n .ret Q E A σ = Q .ret E A σ := nr rfl
theorem y_block (id : Nat) (c : Code) : awpY P st plans n (.block id c) Q E A σ = awpY P st plans n c (blockY id Q) E A σ := nr rfl
theorem y_cond (c : Operand) (x y : Code) : awpY P st plans n (.cond c x y) Q E A σ = withO (boolOf (evalA A c)) fun b => if b = true then awpY P st plans n x Q E A σ else awpY P st plans n y Q E A σ := nr (by
  rw [awpY]; dsimp only
  cases evalA A c with
  | lit v => cases v <;> kernel_rfl
  | _ => kernel_rfl)
theorem y_region (id : Nat) (ops : Array Oper) : awpY P st plans n (.region id ops false) Q E A σ = aopsYAt P st ops (Q .normal) ops.toList 0 E A σ := nr (by simp only [awpY, Bool.false_eq_true, if_false])
theorem y_draw (id : Nat) (ops : Array Oper) : awpY P st plans n (.region id ops true) Q E A σ = withO (plans.lookup id) fun p => aplan P st ops (Q .normal E) p A σ := nr (by simp only [awpY, if_true]; kernel_rfl)
theorem y_loop (c : Code) : awpY P st plans n (.loop c) Q E A σ = codeYK P n (.loop c) Q E A σ := nr rfl
theorem y_rangeFunc (f : Operand) (ps : Array Tmp) (c d : Code) : awpY P st plans n (.rangeFunc f ps c d) Q E A σ = codeYK P n (.rangeFunc f ps c d) Q E A σ := nr rfl
theorem y_then_normal (N : Env X → Slots → Store → Prop) : thenY N Q .normal E A σ = N E A σ := nr rfl
theorem y_then_ret (N : Env X → Slots → Store → Prop) : thenY N Q .ret E A σ = Q .ret E A σ := nr rfl
theorem y_then_exit (N : Env X → Slots → Store → Prop) (l : Nat) : thenY N Q (.exit l) E A σ = Q (.exit l) E A σ := nr rfl
theorem y_then_goto (N : Env X → Slots → Store → Prop) (l : Nat) : thenY N Q (.goto l) E A σ = Q (.goto l) E A σ := nr rfl
theorem y_block_normal (id : Nat) : blockY id Q .normal E A σ = Q .normal E A σ := nr rfl
theorem y_block_ret (id : Nat) : blockY id Q .ret E A σ = Q .ret E A σ := nr rfl
theorem y_block_exit (id l : Nat) : blockY id Q (.exit l) E A σ = if l = id then Q .normal E A σ else Q (.exit l) E A σ := nr (by simp only [blockY]; split <;> rfl)
theorem y_block_goto (id l : Nat) : blockY id Q (.goto l) E A σ = Q (.goto l) E A σ := nr rfl
theorem y_ret_normal (rs : List ResultVar) (R : AV → Store → Env X → Prop) : aretY P rs R .normal E A σ = withO (ares P A σ rs) fun v => ∃ v' σ', v.le v' ∧ Store.sub σ' σ ∧ R v' σ' E := nr (by kernel_rfl)
theorem y_ret_ret (rs : List ResultVar) (R : AV → Store → Env X → Prop) : aretY P rs R .ret E A σ = withO (ares P A σ rs) fun v => ∃ v' σ', v.le v' ∧ Store.sub σ' σ ∧ R v' σ' E := nr (by kernel_rfl)
variable (l : Nat) (L : Link) (R : Bool → Store → Env (AddX X l) → Prop)
theorem y_rnd_normal : rndQ l L R .normal E A σ = R true σ (E.link l L .ready none) := nr rfl
theorem y_rnd_ret : rndQ l L R .ret E A σ = R false σ (E.link l L .done (some .ret)) := nr rfl
theorem y_rnd_exit (id : Nat) : rndQ l L R (.exit id) E A σ = R false σ (E.link l L .done (some (.exit id))) := nr rfl
theorem y_rnd_goto (id : Nat) : rndQ l L R (.goto id) E A σ = R false σ (E.link l L .done (some (.goto id))) := nr rfl
end

/-! ### regions -/
def estepYO (P : Program) (st : List Tmp) (ops : Array Oper) (o : Oper) {X : Nat → Prop} (K : Env X → Slots → Store → Prop) (E : Env X) (A : Slots) (σ : Store) : Prop :=
  match o.guard with
  | none => runY P st o K E A σ
  | some (j, want) => match yieldedA ops A j with
    | some b => if b = want then runY P st o K E A σ else K E (aput A o.dst .top) σ
    | none => False
def isVC : Op → Bool
  | .call c => match c.callee with
    | .value _ => true
    | _ => false
  | _ => false
def yCase (y : Option Nat) (Y : Nat → Prop) (N : Prop) : Prop := match y with | some l => Y l | none => N
theorem yCase_some (l : Nat) (Y : Nat → Prop) (N : Prop) : yCase (some l) Y N = Y l := nr rfl
theorem yCase_none (Y : Nat → Prop) (N : Prop) : yCase none Y N = N := nr rfl
@[simp] theorem yieldL_yield (l : Nat) : yieldL (.func (.yield l) [] []) = some l := nr rfl
@[simp] theorem yieldL_func (f : FuncId) (as bs : List AV) : yieldL (.func (.func f) as bs) = none := nr rfl
section
variable (P : Program) (st : List Tmp) (ops : Array Oper) {X : Nat → Prop} (Q K : Env X → Slots → Store → Prop) (E : Env X) (A : Slots) (σ : Store)
theorem y_nil (i : Nat) : aopsYAt P st ops Q [] i E A σ = Q E A σ := nr rfl
theorem y_cons (o : Oper) (rest : List Oper) (i : Nat) : aopsYAt P st ops Q (o :: rest) i E A σ = estepY P st ops i (aopsYAt P st ops Q rest (i + 1)) E A σ := nr rfl
theorem y_estep (i : Nat) : estepY P st ops i K E A σ = withO (ops[i]?) fun o => estepYO P st ops o K E A σ := nr (by
  unfold estepY estepYO
  cases ops[i]? <;> rfl)
variable (d : Option Tmp) (op : Op) (ty : TypeId) (ps : String) (af : Array Edge) (g : Option (Nat × Bool))
theorem yieldOf_old (h : isVC op = false) : yieldOf A ⟨d, op, ty, ps, af, g⟩ = none := by
  unfold yieldOf
  cases op with
  | call c =>
    obtain ⟨callee, as, ts⟩ := c
    cases callee <;> first | rfl | (simp [isVC] at h)
  | _ => rfl
theorem y_old (h : isVC op = false) : estepYO P st ops ⟨d, op, ty, ps, af, g⟩ K E A σ = estepO P st ops ⟨d, op, ty, ps, af, g⟩ (K E) A σ := by
  unfold estepYO estepO runY
  rw [yieldOf_old _ _ _ _ _ _ _ h]
  cases g with
  | none => rfl
  | some q => rfl
theorem y_move (x : Operand) : estepYO P st ops ⟨d, .move x, ty, ps, af, g⟩ K E A σ = estepO P st ops ⟨d, .move x, ty, ps, af, g⟩ (K E) A σ := nr (y_old P st ops K E A σ d _ ty ps af g rfl)
theorem y_assign (x : Operand) : estepYO P st ops ⟨d, .assign x, ty, ps, af, g⟩ K E A σ = estepO P st ops ⟨d, .assign x, ty, ps, af, g⟩ (K E) A σ := nr (y_old P st ops K E A σ d _ ty ps af g rfl)
theorem y_pick (c a b : Operand) : estepYO P st ops ⟨d, .pick c a b, ty, ps, af, g⟩ K E A σ = estepO P st ops ⟨d, .pick c a b, ty, ps, af, g⟩ (K E) A σ := nr (y_old P st ops K E A σ d _ ty ps af g rfl)
theorem y_alloc (elem : TypeId) : estepYO P st ops ⟨d, .alloc elem, ty, ps, af, g⟩ K E A σ = estepO P st ops ⟨d, .alloc elem, ty, ps, af, g⟩ (K E) A σ := nr (y_old P st ops K E A σ d _ ty ps af g rfl)
theorem y_box (elem : TypeId) (v : Operand) : estepYO P st ops ⟨d, .box elem v, ty, ps, af, g⟩ K E A σ = estepO P st ops ⟨d, .box elem v, ty, ps, af, g⟩ (K E) A σ := nr (y_old P st ops K E A σ d _ ty ps af g rfl)
theorem y_build (t : TypeId) (parts : Array (Nat × Operand)) : estepYO P st ops ⟨d, .build t parts, ty, ps, af, g⟩ K E A σ = estepO P st ops ⟨d, .build t parts, ty, ps, af, g⟩ (K E) A σ := nr (y_old P st ops K E A σ d _ ty ps af g rfl)
theorem y_buildSlice (t : TypeId) (len : Nat) (parts : Array (Nat × Operand)) : estepYO P st ops ⟨d, .buildSlice t len parts, ty, ps, af, g⟩ K E A σ = estepO P st ops ⟨d, .buildSlice t len parts, ty, ps, af, g⟩ (K E) A σ := nr (y_old P st ops K E A σ d _ ty ps af g rfl)
theorem y_load (t : TypeId) (addr : Operand) : estepYO P st ops ⟨d, .load t addr, ty, ps, af, g⟩ K E A σ = estepO P st ops ⟨d, .load t addr, ty, ps, af, g⟩ (K E) A σ := nr (y_old P st ops K E A σ d _ ty ps af g rfl)
theorem y_store (t : TypeId) (addr val : Operand) : estepYO P st ops ⟨d, .store t addr val, ty, ps, af, g⟩ K E A σ = estepO P st ops ⟨d, .store t addr val, ty, ps, af, g⟩ (K E) A σ := nr (y_old P st ops K E A σ d _ ty ps af g rfl)
theorem y_nilCheck (x : Operand) : estepYO P st ops ⟨d, .nilCheck x, ty, ps, af, g⟩ K E A σ = estepO P st ops ⟨d, .nilCheck x, ty, ps, af, g⟩ (K E) A σ := nr (y_old P st ops K E A σ d _ ty ps af g rfl)
theorem y_binOp (op : BinOp) (xType : TypeId) (x y : Operand) (yType : TypeId) : estepYO P st ops ⟨d, .binOp op xType x y yType, ty, ps, af, g⟩ K E A σ = estepO P st ops ⟨d, .binOp op xType x y yType, ty, ps, af, g⟩ (K E) A σ := nr (y_old P st ops K E A σ d _ ty ps af g rfl)
theorem y_unOp (op : UnOp) (xType : TypeId) (x : Operand) : estepYO P st ops ⟨d, .unOp op xType x, ty, ps, af, g⟩ K E A σ = estepO P st ops ⟨d, .unOp op xType x, ty, ps, af, g⟩ (K E) A σ := nr (y_old P st ops K E A σ d _ ty ps af g rfl)
theorem y_convert (src dst : TypeId) (x : Operand) : estepYO P st ops ⟨d, .convert src dst x, ty, ps, af, g⟩ K E A σ = estepO P st ops ⟨d, .convert src dst x, ty, ps, af, g⟩ (K E) A σ := nr (y_old P st ops K E A σ d _ ty ps af g rfl)
theorem y_makeInterface (xType : TypeId) (x : Operand) : estepYO P st ops ⟨d, .makeInterface xType x, ty, ps, af, g⟩ K E A σ = estepO P st ops ⟨d, .makeInterface xType x, ty, ps, af, g⟩ (K E) A σ := nr (y_old P st ops K E A σ d _ ty ps af g rfl)
theorem y_makeFunc (fn : Fn) (first captured : Array Operand) : estepYO P st ops ⟨d, .makeFunc fn first captured, ty, ps, af, g⟩ K E A σ = estepO P st ops ⟨d, .makeFunc fn first captured, ty, ps, af, g⟩ (K E) A σ := nr (y_old P st ops K E A σ d _ ty ps af g rfl)
theorem y_makeSlice (t : TypeId) (len cap : Operand) : estepYO P st ops ⟨d, .makeSlice t len cap, ty, ps, af, g⟩ K E A σ = estepO P st ops ⟨d, .makeSlice t len cap, ty, ps, af, g⟩ (K E) A σ := nr (y_old P st ops K E A σ d _ ty ps af g rfl)
theorem y_slice (xType : TypeId) (x : Operand) (low high max : Option Operand) : estepYO P st ops ⟨d, .slice xType x low high max, ty, ps, af, g⟩ K E A σ = estepO P st ops ⟨d, .slice xType x low high max, ty, ps, af, g⟩ (K E) A σ := nr (y_old P st ops K E A σ d _ ty ps af g rfl)
theorem y_fieldAddr (xType : TypeId) (x : Operand) (field : Nat) : estepYO P st ops ⟨d, .fieldAddr xType x field, ty, ps, af, g⟩ K E A σ = estepO P st ops ⟨d, .fieldAddr xType x field, ty, ps, af, g⟩ (K E) A σ := nr (y_old P st ops K E A σ d _ ty ps af g rfl)
theorem y_field (xType : TypeId) (x : Operand) (field : Nat) : estepYO P st ops ⟨d, .field xType x field, ty, ps, af, g⟩ K E A σ = estepO P st ops ⟨d, .field xType x field, ty, ps, af, g⟩ (K E) A σ := nr (y_old P st ops K E A σ d _ ty ps af g rfl)
theorem y_indexAddr (xType : TypeId) (x index : Operand) : estepYO P st ops ⟨d, .indexAddr xType x index, ty, ps, af, g⟩ K E A σ = estepO P st ops ⟨d, .indexAddr xType x index, ty, ps, af, g⟩ (K E) A σ := nr (y_old P st ops K E A σ d _ ty ps af g rfl)
theorem y_index (xType : TypeId) (x index : Operand) : estepYO P st ops ⟨d, .index xType x index, ty, ps, af, g⟩ K E A σ = estepO P st ops ⟨d, .index xType x index, ty, ps, af, g⟩ (K E) A σ := nr (y_old P st ops K E A σ d _ ty ps af g rfl)
theorem y_lookup (xType : TypeId) (x index : Operand) (commaOk : Bool) : estepYO P st ops ⟨d, .lookup xType x index commaOk, ty, ps, af, g⟩ K E A σ = estepO P st ops ⟨d, .lookup xType x index commaOk, ty, ps, af, g⟩ (K E) A σ := nr (y_old P st ops K E A σ d _ ty ps af g rfl)
theorem y_mapUpdate (mapType : TypeId) (map key value : Operand) : estepYO P st ops ⟨d, .mapUpdate mapType map key value, ty, ps, af, g⟩ K E A σ = estepO P st ops ⟨d, .mapUpdate mapType map key value, ty, ps, af, g⟩ (K E) A σ := nr (y_old P st ops K E A σ d _ ty ps af g rfl)
theorem y_extract (tuple : Operand) (index : Nat) : estepYO P st ops ⟨d, .extract tuple index, ty, ps, af, g⟩ K E A σ = estepO P st ops ⟨d, .extract tuple index, ty, ps, af, g⟩ (K E) A σ := nr (y_old P st ops K E A σ d _ ty ps af g rfl)
theorem y_call_builtin (b : Builtin) (as : Array Operand) (ts : Array TypeId) : estepYO P st ops ⟨d, .call ⟨.builtin b, as, ts⟩, ty, ps, af, g⟩ K E A σ = estepO P st ops ⟨d, .call ⟨.builtin b, as, ts⟩, ty, ps, af, g⟩ (K E) A σ := nr (y_old P st ops K E A σ d _ ty ps af g rfl)
theorem y_call (d : Tmp) (f : Operand) (args : Array Operand) (ts : Array TypeId) : estepYO P st ops ⟨some d, .call ⟨.value f, args, ts⟩, ty, ps, af, none⟩ K E A σ = withV (yieldL (evalA A f)) fun y => yCase y
    (fun l => takeArgs P args.toList ts.toList A fun vs A' => yieldK P l vs σ E fun b σ' E' => K E' (upd A' d (.lit (.bool b))) σ') (estepO P st ops ⟨some d, .call ⟨.value f, args, ts⟩, ty, ps, af, none⟩ (K E) A σ) := nr (by
  unfold estepYO estepO runY yieldOf withV yCase
  dsimp only
  cases yieldL (evalA A f) <;> rfl)
theorem y_call0 (f : Operand) (args : Array Operand) (ts : Array TypeId) : estepYO P st ops ⟨none, .call ⟨.value f, args, ts⟩, ty, ps, af, none⟩ K E A σ = withV (yieldL (evalA A f)) fun y => yCase y
    (fun l => takeArgs P args.toList ts.toList A fun vs A' => yieldK P l vs σ E fun _ σ' E' => K E' A' σ') (estepO P st ops ⟨none, .call ⟨.value f, args, ts⟩, ty, ps, af, none⟩ (K E) A σ) := nr (by
  unfold estepYO estepO runY yieldOf withV yCase
  dsimp only
  cases yieldL (evalA A f) <;> rfl)
theorem y_callG (d : Tmp) (f : Operand) (args : Array Operand) (ts : Array TypeId) (j : Nat) (want : Bool) : estepYO P st ops ⟨some d, .call ⟨.value f, args, ts⟩, ty, ps, af, some (j, want)⟩ K E A σ = withO (yieldedA ops A j) fun b => if b = want then withV (yieldL (evalA A f)) fun y => yCase y
    (fun l => takeArgs P args.toList ts.toList A fun vs A' => yieldK P l vs σ E fun b σ' E' => K E' (upd A' d (.lit (.bool b))) σ') (aoper P st ⟨some d, .call ⟨.value f, args, ts⟩, ty, ps, af, some (j, want)⟩ A σ fun v A' σ' => K E (upd A' d v) σ') else K E (upd A d .top) σ := nr (by
  unfold estepYO runY yieldOf withV yCase withO
  dsimp only
  cases yieldedA ops A j with
  | none => rfl
  | some b => cases yieldL (evalA A f) <;> rfl)
end
attribute [simp ↓] y_seq y_skip y_label y_exit y_goto y_ret y_block y_cond y_region y_draw y_loop y_rangeFunc y_then_normal y_then_ret y_then_exit y_then_goto y_block_normal y_block_ret y_block_exit y_block_goto y_ret_normal y_ret_ret y_rnd_normal y_rnd_ret y_rnd_exit y_rnd_goto
  yCase_some yCase_none y_nil y_cons y_estep y_call y_call0 y_callG y_move y_assign y_pick y_alloc y_box y_build y_buildSlice y_load y_store y_nilCheck y_binOp y_unOp y_convert y_makeInterface y_makeFunc y_makeSlice y_slice y_fieldAddr y_field y_indexAddr y_index y_lookup y_mapUpdate y_extract y_call_builtin
attribute [simp] Store.sub_over
end Go.AL
