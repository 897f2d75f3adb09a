/-
  The abstract-state logic: code that may ask rounds: its relation, its rules.
-/
import Derived.Test.YtkfhpnfgnjmdbaaALIter2
namespace Go.AL
open Go Go.RowKit Classical

/-- Who is in a round knows that its record is one, apart from all that it writes. -/
def InRound (ρ : Option Nat) (D X : Nat → Prop) (w : World) : Prop := ∀ l, ρ = some l → ¬ D l ∧ ¬ X l ∧ ∃ r, w.heap[l]? = some (.loop r)
structure RelY {X : Nat → Prop} (ρ : Option Nat) (D : Nat → Prop) (n : Nat) (G : Ghost) (A : Slots) (σ : Store) (a : Act) (w : World) (E : Env X) : Prop where
  rel : Rel D n G A σ (bare a) w
  sit : Sit E D G w
  round : InRound ρ D X w

def mark (K : Nat) : Deferred := { target := .collected K, args := #[] }
def Marks (D D' X : Nat → Prop) (new : List Nat) (w : World) : Prop := ∀ K ∈ new, D K ∧ ¬ D' K ∧ ¬ X K ∧ w.heap[K]? = some (.deferred (some []))

def liftY {X : Nat → Prop} (ρ : Option Nat) (D : Nat → Prop) (n : Nat) (G : Ghost) (w : World) (ds : List Deferred) (Q : Env X → Slots → Store → Prop) (a' : Act) (w' : World) : Prop :=
  ∃ D' G' A' σ' E' new, (∀ k, D' k → D k) ∧ Q E' A' σ' ∧ RelY ρ D' n G' A' σ' a' w' E' ∧ Ext (OrX D X) G w G' w' ∧ a'.defers = new.map mark ++ ds ∧ new.Nodup ∧ Marks D D' X new w'

theorem InRound.step {ρ : Option Nat} {D X : Nat → Prop} {G G' : Ghost} {w w' : World} (h : InRound ρ D X w) (hx : Ext (OrX D X) G w G' w') : InRound ρ D X w' := fun l hl => by
  obtain ⟨h1, h2, h3⟩ := h l hl
  exact ⟨h1, h2, by rw [(hx.block l (fun hh => hh.elim h1 h2)).1]; exact h3⟩
theorem InRound.less {ρ : Option Nat} {D D' X : Nat → Prop} {w : World} (h : InRound ρ D X w) (hd : ∀ k, D' k → D k) : InRound ρ D' X w := fun l hl => let ⟨h1, h2, h3⟩ := h l hl; ⟨fun h' => h1 (hd l h'), h2, h3⟩

section
variable {X : Nat → Prop} {ρ : Option Nat} {D D1 : Nat → Prop} {n : Nat} {G G1 : Ghost} {A : Slots} {σ : Store} {a a' : Act} {w w1 w' : World} {E : Env X} {ds ds1 : List Deferred} {Q Q' : Env X → Slots → Store → Prop}

theorem liftY_mono (h : liftY ρ D n G w ds Q a' w') (hq : ∀ E A σ, Q E A σ → Q' E A σ) : liftY ρ D n G w ds Q' a' w' := by
  obtain ⟨D', G', A', σ', E', new, h1, h2, h3⟩ := h
  exact ⟨D', G', A', σ', E', new, h1, hq _ _ _ h2, h3⟩
theorem liftY_here (h : RelY ρ D n G A σ a w E) (hq : Q E A σ) : liftY ρ D n G w a.defers Q a w :=
  ⟨D, G, A, σ, E, [], fun _ h => h, hq, h, Ext.refl .., by simp, .nil, fun _ h => by simp at h⟩
theorem liftY_trans {new1 : List Nat} (hd : ∀ k, D1 k → D k) (hx : Ext (OrX D X) G w G1 w1) (h1 : ds1 = new1.map mark ++ ds) (hn : new1.Nodup) (hm : Marks D D1 X new1 w1) (k : liftY ρ D1 n G1 w1 ds1 Q a' w') : liftY ρ D n G w ds Q a' w' := by
  obtain ⟨D', G', A', σ', E', new, k1, k2, k3, k4, k5, k6, k7⟩ := k
  refine ⟨D', G', A', σ', E', new ++ new1, fun q hq => hd q (k1 q hq), k2, k3, hx.trans (k4.wide (OrX.mono hd)), by rw [k5, h1]; simp, ?_, fun K hK => ?_⟩
  · rw [List.nodup_append]
    refine ⟨k6, hn, fun x hx y hy => ?_⟩
    rintro rfl
    exact (hm x hy).2.1 (k7 x hx).1
  · rcases List.mem_append.1 hK with hK | hK
    · obtain ⟨q1, q2⟩ := k7 K hK
      exact ⟨hd K q1, q2⟩
    · obtain ⟨q1, q2, q3, q4⟩ := hm K hK
      exact ⟨q1, fun h => q2 (k1 K h), q3, by rw [(k4.block K (fun hh => hh.elim q2 q3)).1]; exact q4⟩
theorem liftY_of_lift {K : Slots → Store → Prop} (hR : RelY ρ D n G A σ a w E) (h : lift D n G w K (bare a') w') (hd : a'.defers = a.defers) (hq : ∀ A σ, K A σ → Q E A σ) : liftY ρ D n G w a.defers Q a' w' := by
  obtain ⟨G', A', σ', h1, h2, h3⟩ := h
  exact ⟨D, G', A', σ', E, [], fun _ h => h, hq _ _ h1, ⟨h2, hR.sit.step h3, hR.round.step h3.orX⟩, h3.orX, by simp [hd], .nil, fun _ h => by simp at h⟩
theorem RelY.le {B : Slots} (h : RelY ρ D n G A σ a w E) (hl : Slots.le A B) : RelY ρ D n G B σ a w E := ⟨h.rel.le hl, h.sit, h.round⟩
theorem RelY.sub {τ : Store} (h : RelY ρ D n G A σ a w E) (hs : Store.sub τ σ) : RelY ρ D n G A τ a w E := ⟨h.rel.sub hs, h.sit, h.round⟩
end

def AWpY (P : Program) {X : Nat → Prop} (n : Nat) (c : Code) (Q : Exit → Env X → Slots → Store → Prop) (E : Env X) (A : Slots) (σ : Store) : Prop :=
  ∀ (ρ : Option Nat) (D : Nat → Prop) (G : Ghost) (a : Act) (w : World), RelY ρ D n G A σ a w E → c.wpIn (Fw ρ) 0 P (fun e a' w' => liftY ρ D n G w a.defers (Q e) a' w') a w

section
variable {P : Program} {X : Nat → Prop} {n : Nat} {Q Q' : Exit → Env X → Slots → Store → Prop} {E : Env X} {A B : Slots} {σ τ : Store} {c x y : Code}
theorem AWpY.mono (h : AWpY P n c Q E A σ) (hq : ∀ e E A σ, Q e E A σ → Q' e E A σ) : AWpY P n c Q' E A σ :=
  fun ρ D G a w hR => wpIn_mono (h ρ D G a w hR) fun e _ _ hl => liftY_mono hl (hq e)
theorem AWpY.le (h : AWpY P n c Q E B σ) (hl : Slots.le A B) : AWpY P n c Q E A σ := fun ρ D G a w hR => h ρ D G a w (hR.le hl)
theorem AWpY.sub (h : AWpY P n c Q E A τ) (hs : Store.sub τ σ) : AWpY P n c Q E A σ := fun ρ D G a w hR => h ρ D G a w (hR.sub hs)

def thenY (next : Env X → Slots → Store → Prop) (Q : Exit → Env X → Slots → Store → Prop) : Exit → Env X → Slots → Store → Prop
  | .normal => next
  | e => Q e
def blockY (id : Nat) (Q : Exit → Env X → Slots → Store → Prop) : Exit → Env X → Slots → Store → Prop
  | .exit id' => if id' = id then Q .normal else Q (.exit id')
  | e => Q e

theorem AWpY.seq (h : AWpY P n x (thenY (AWpY P n y Q) Q) E A σ) : AWpY P n (.seq x y) Q E A σ := by
  intro ρ D G a w hR
  refine wpIn_seq (wpIn_mono (h ρ D G a w hR) fun e a' w' hl => ?_)
  cases e with
  | normal =>
    obtain ⟨D', G', A', σ', E', new, h1, h2, h3, h4, h5, h6, h7⟩ := hl
    exact wpIn_mono (h2 ρ D' G' a' w' h3) fun e a'' w'' hl => liftY_trans h1 h4 h5 h6 h7 hl
  | _ => exact hl

theorem AWpY.block {id : Nat} (h : AWpY P n c (blockY id Q) E A σ) : AWpY P n (.block id c) Q E A σ := by
  intro ρ D G a w hR
  refine wpIn_block (wpIn_mono (h ρ D G a w hR) fun e a' w' hl => ?_)
  cases e with
  | exit id' =>
    simp only [Exit.inBlock, blockY] at *
    split at hl
    · rename_i hh; rw [if_pos hh]; exact hl
    · rename_i hh; rw [if_neg hh]; exact hl
  | _ => exact hl

theorem AWpY.cond {c : Operand} {b : Bool} (hc : evalA A c = .lit (.bool b)) (h : AWpY P n (if b then x else y) Q E A σ) : AWpY P n (.cond c x y) Q E A σ := by
  intro ρ D G a w hR
  have hv := hR.rel.eval c
  rw [hc] at hv
  have he : (bare a).eval = a.eval := rfl
  rw [he] at hv
  generalize hcv : a.eval c = cv at hv
  cases hv
  exact wpIn_cond hcv (h ρ D G a w hR)

theorem least (p : Nat → Prop) (h : ∃ m, p m) : ∃ m, p m ∧ ∀ k, p k → m ≤ k := by
  obtain ⟨m, hm⟩ := h
  induction m using Nat.strongRecOn with
  | _ m ih =>
    by_cases hk : ∃ k, k < m ∧ p k
    · obtain ⟨k, k1, k2⟩ := hk; exact ih k k1 k2
    · exact ⟨m, hm, fun k hp => Nat.le_of_not_lt fun hlt => hk ⟨k, hlt, hp⟩⟩

theorem AWpY.loop {S : Type} (Inv : S → Prop) (sl : S → Slots) (so : S → Store) (en : S → Env X → Prop) (μ : S → Nat) (x0 : S) (h0 : Inv x0) (hA : Slots.le A (sl x0)) (hσ : Store.sub (so x0) σ) (hE : en x0 E)
    (round : ∀ x E, Inv x → en x E → AWpY P n c (thenY (fun E' A' σ' => ∃ y, Inv y ∧ μ y < μ x ∧ Slots.le A' (sl y) ∧ Store.sub (so y) σ' ∧ en y E') Q) E (sl x) (so x)) : AWpY P n (.loop c) Q E A σ := by
  refine AWpY.le (B := sl x0) ?_ hA
  refine AWpY.sub ?_ hσ
  intro ρ D G a w hR
  let S1 : Nat → Act → World → Prop := fun m a' w' => ∃ x, Inv x ∧ μ x = m ∧ liftY ρ D n G w a.defers (fun E' A' σ' => en x E' ∧ A' = sl x ∧ σ' = so x) a' w'
  let I : Act → World → Prop := fun a' w' => ∃ m, S1 m a' w'
  let μ' : Act → World → Nat := fun a' w' => if h : ∃ m, S1 m a' w' then Classical.choose (least _ h) else 0
  refine wpIn_loop I μ' ⟨μ x0, x0, h0, rfl, liftY_here hR ⟨hE, rfl, rfl⟩⟩ ?_
  intro a1 w1 hI
  have hfind := (Classical.choose_spec (least _ hI)).1
  have hμ : μ' a1 w1 = Classical.choose (least _ hI) := by simp only [μ']; rw [dif_pos hI]
  obtain ⟨x, hx, hm, D1, G1, A1, σ1, E1, new, h1, ⟨h2, rfl, rfl⟩, h3, h4, h5, h6, h7⟩ := hfind
  refine wpIn_mono (round x E1 hx h2 ρ D1 G1 a1 w1 h3) fun e a2 w2 hl => ?_
  have hl := liftY_trans h1 h4 h5 h6 h7 hl
  cases e with
  | normal =>
    obtain ⟨D2, G2, A2, σ2, E2, new2, k1, ⟨y, y1, y2, y3, y4, y5⟩, k3, k4⟩ := hl
    have hS : S1 (μ y) a2 w2 := ⟨y, y1, rfl, D2, G2, _, _, E2, new2, k1, ⟨y5, rfl, rfl⟩, (k3.le y3).sub y4, k4⟩
    refine ⟨⟨_, hS⟩, ?_⟩
    have hI2 : ∃ m, S1 m a2 w2 := ⟨_, hS⟩
    have hμ2 : μ' a2 w2 = Classical.choose (least _ hI2) := by simp only [μ']; rw [dif_pos hI2]
    rw [hμ, hμ2]
    exact Nat.lt_of_le_of_lt ((Classical.choose_spec (least _ hI2)).2 _ hS) (hm ▸ y2)
  | _ => exact hl

/-! ### The walk -/
def yieldL : AV → Option Nat
  | .func (.yield l) [] [] => some l
  | _ => none
/-- A round that is asked for; what stands behind is left alone. -/
def yieldK (P : Program) {X : Nat → Prop} (l : Nat) (args : List AV) (σ : Store) (E : Env X) (R : Bool → Store → Env X → Prop) (_t : Tag R := .mk) : Prop :=
  ∃ τ, Store.sub τ σ ∧ AYields P l args τ E fun b τ' E' => Apart τ' τ σ → R b (Store.over τ' τ σ) E'
def yieldOf (A : Slots) (o : Oper) : Option (Nat × Call) :=
  match o.op with
  | .call c => match c.callee with
    | .value f => (yieldL (evalA A f)).map fun l => (l, c)
    | _ => none
  | _ => none
def runY (P : Program) (st : List Tmp) (o : Oper) (K : Env X → Slots → Store → Prop) (E : Env X) (A : Slots) (σ : Store) : Prop :=
  match yieldOf A o with
  | some (l, c) => takeArgs P c.args.toList c.argTypes.toList A fun vs A' => yieldK P l vs σ E fun b σ' E' => K E' (aput A' o.dst (.lit (.bool b))) σ'
  | none => aoper P st o A σ fun v A' σ' => K E (aput A' o.dst v) σ'
def estepY (P : Program) (st : List Tmp) (ops : Array Oper) (i : Nat) (K : Env X → Slots → Store → Prop) (E : Env X) (A : Slots) (σ : Store) : Prop :=
  match ops[i]? with
  | none => False
  | some o => match o.guard with
    | none => runY P st o K E A σ
    | some (j, want) => match yieldedA ops A j with
      | some b => if b = want then runY P st o K E A σ else K E (aput A o.dst .top) σ
      | none => False
def aopsYAt (P : Program) (st : List Tmp) (ops : Array Oper) (Q : Env X → Slots → Store → Prop) : List Oper → Nat → Env X → Slots → Store → Prop
  | [], _ => Q
  | _ :: rest, i => estepY P st ops i (aopsYAt P st ops Q rest (i + 1))
def awpY (P : Program) (st : List Tmp) (plans : List (Nat × Plan)) (n : Nat) : Code → (Exit → Env X → Slots → Store → Prop) → Env X → Slots → Store → Prop
  | .skip, Q => Q .normal
  | .label _, Q => Q .normal
  | .seq x y, Q => awpY P st plans n x (thenY (awpY P st plans n y Q) Q)
  | .cond c x y, Q => fun E A σ => match evalA A c with
    | .lit (.bool b) => if b = true then awpY P st plans n x Q E A σ else awpY P st plans n y Q E A σ
    | _ => False
  | .block id c, Q => awpY P st plans n c (blockY id Q)
  | .exit id, Q => Q (.exit id)
  | .goto l, Q => Q (.goto l)
  | .ret, Q => Q .ret
  | .region id ops draw, Q => fun E A σ => if draw = true then (match plans.lookup id with | some p => aplan P st ops (Q .normal E) p A σ | none => False) else aopsYAt P st ops (Q .normal) ops.toList 0 E A σ
  | c, Q => AWpY P n c Q
end

theorem run_yieldOf {P : Program} {A : Slots} {o : Oper} {l : Nat} {c : Call} (hy : yieldOf A o = some (l, c)) {D : Nat → Prop} {n : Nat} {G : Ghost} {σ : Store} {a : Act} {w : World} (h : Rel D n G A σ (bare a) w) {ρ : Option Nat} {f : FuncId} {tmps : Array Value} {assign body : Code}
    (hr : (Instr.yield l (c.args.map a.eval)).run P w = .ok (.round l f tmps assign body) w) : (o.semAt ρ a.eval).run P w = .ok (.round l f tmps assign body) w := by
  have hop : o.op = .call c := by
    unfold yieldOf at hy
    split at hy
    · rename_i c' hc
      split at hy
      · simp at hy; obtain ⟨_, _, _, rfl⟩ := hy; exact hc
      · cases hy
    · cases hy
  unfold yieldOf at hy
  rw [hop] at hy
  dsimp only at hy
  split at hy
  case h_2 => cases hy
  rename_i f' hf'
  simp at hy
  have hv := h.eval f'
  have he : (bare a).eval = a.eval := rfl
  rw [he] at hv
  unfold yieldL at hy
  split at hy
  case h_2 => cases hy
  rename_i l' hl'
  simp at hy; subst hy
  rw [hl'] at hv
  generalize hfe : a.eval f' = fv at hv
  cases hv with | func _ _ _ ufs ucs l1 l2 v1 v2 => ?_
  have e1 : ufs = #[] := by simpa using l1.symm
  have e2 : ucs = #[] := by simpa using l2.symm
  subst e1 e2
  rw [Oper.semAt_eq _ _ _ (by rw [hop]; intro c hc; cases hc)]
  simp [execOp, hop, resolve, hf', hfe, Deferred.ofValue, invoke, hr]

theorem estepY_sound {P : Program} {X : Nat → Prop} {st : List Tmp} {ρ : Option Nat} {D : Nat → Prop} {n : Nat} {G : Ghost} {A : Slots} {σ : Store} {a : Act} {w : World} {E : Env X} (h : RelY ρ D n G A σ a w E) {ops : Array Oper} (hn : ∀ o ∈ ops.toList, dstOk n o = true) {i : Nat}
    {K : Env X → Slots → Store → Prop} (hK : estepY P st ops i K E A σ) (Q : Exit → Act → World → Prop) : wpOpIn (Fw ρ) 0 P ops Q i (fun a' w' => liftY ρ D n G w a.defers K a' w') a w := by
  cases ho : ops[i]? with
  | none => unfold estepY at hK; rw [ho] at hK; exact hK.elim
  | some o =>
    have old : estep P st ops i (K E) A σ → wpOpIn (Fw ρ) 0 P ops Q i (fun a' w' => liftY ρ D n G w a.defers K a' w') a w := fun hh =>
      wpOpIn_mono (fun a' w' hl => liftY_of_lift h hl.1 hl.2 fun _ _ hk => hk) (estepIn_sound h.rel hn hh Q)
    cases hy : yieldOf A o with
    | none =>
      refine old ?_
      unfold estepY at hK
      unfold estep
      rw [ho] at hK ⊢
      dsimp only at hK ⊢
      unfold runY at hK
      rw [hy] at hK
      exact hK
    | some q =>
      obtain ⟨l, c⟩ := q
      have run : runY P st o K E A σ → o.wpIn (Fw ρ) 0 P a w (fun a' w' => liftY ρ D n G w a.defers K a' w') Q := by
        intro hr
        unfold runY at hr
        rw [hy] at hr
        dsimp only at hr
        obtain ⟨vs, A', G1, ⟨τ, hτ, hyl⟩, hR1, hl, hvs, hext1, hF1, _⟩ := takeArgs_sound _ _ 0 h.rel hr
        have hs1 : Sit E D G1 w := h.sit.step hext1
        obtain ⟨f, tmps, assign, body, hrun, hround⟩ := hyl.frame hτ hR1 hs1 (cargs := c.args.map a.eval) (by simp [hl]) (fun i cc u hc hu => by
          rw [Array.getElem?_map] at hu
          cases hx : c.args[i]? with
          | none => simp [hx] at hu
          | some x =>
            simp [hx] at hu; subst hu
            have := hvs i cc x hc (by simpa using hx)
            have he : (bare a).eval = a.eval := rfl
            rw [he] at this
            simpa using this)
        refine ⟨fun _ _ => trivial, ?_⟩
        rw [show (Fw ρ).round = ρ from rfl, run_yieldOf hy h.rel hrun]
        refine ⟨fun hx => by simp [Fw, Fence.wide] at hx, hround.1, fun c cs _ => ?_⟩
        obtain ⟨e, w', ⟨b, G', τ', E', rfl, hb, hap, hR', hext, hs'⟩, hst⟩ := hround.2 c cs (room_wide _)
        refine ⟨.returned (.bool b), w', ?_, hst⟩
        have hd : ∀ d, o.dst = some d → d < n := fun d hd => by
          have := hn o (by have := Array.mem_of_getElem? ho; simpa using this)
          simpa [dstOk, hd] using this
        obtain ⟨G2, q1, q2⟩ := hR'.aput (.lit (.bool b)) (OwnAt.of_plain (r := .acc) rfl) hd
        have e1 : bare (a.put o.dst (.bool b)) = (bare a).put o.dst (.bool b) := by unfold Act.put; cases o.dst <;> rfl
        have e2 : (a.put o.dst (.bool b)).defers = a.defers := by unfold Act.put; cases o.dst <;> rfl
        have hx : Ext (OrX D X) G w G2 w' := (hext1.orX.trans hext).trans q2.orX
        exact ⟨D, G2, _, _, E', [], fun _ h => h, hb hap, ⟨e1 ▸ q1, hs'.step q2, h.round.step hx⟩, hx, by simp [e2], .nil, fun _ h => by simp at h⟩
      unfold estepY at hK
      rw [ho] at hK
      dsimp only at hK
      unfold wpOpIn
      rw [ho]
      dsimp only
      split at hK
      · rename_i hg
        have hw : Region.wanted o (yielded ops a.tmps) = true := by simp [Region.wanted, hg]
        rw [if_pos hw]
        exact run hK
      · rename_i j want hg
        split at hK
        case h_2 => exact hK.elim
        rename_i b hyd
        have hyy := yielded_of h.rel hn hyd
        have hw : Region.wanted o (yielded ops a.tmps) = (b == want) := by simp only [Region.wanted, hg]; have : yielded ops a.tmps j = some b := hyy; rw [this]; cases b <;> cases want <;> rfl
        split at hK
        · rename_i hb
          rw [if_pos (by rw [hw]; simp [hb])]
          exact run hK
        · rename_i hb
          have hd : ∀ d, o.dst = some d → d < n := fun d hd => by
            have := hn o (by have := Array.mem_of_getElem? ho; simpa using this)
            simpa [dstOk, hd] using this
          rw [if_neg (by rw [hw]; simp [hb])]
          obtain ⟨G2, h1, h2⟩ := h.rel.aput (.top undef) (OwnAt.of_plain (r := .acc) rfl) hd
          refine ⟨fun _ _ => trivial, liftY_of_lift (K := K E) h ⟨G2, _, σ, hK, ?_, h2⟩ (by unfold Act.put; cases o.dst <;> rfl) fun _ _ hk => hk⟩
          have : bare (a.put o.dst undef) = (bare a).put o.dst undef := by unfold Act.put; cases o.dst <;> rfl
          rw [this]; exact h1

theorem aopsY_sound {P : Program} {X : Nat → Prop} {st : List Tmp} {n : Nat} {ops : Array Oper} (hn : ∀ o ∈ ops.toList, dstOk n o = true) {ρ : Option Nat} {Q : Env X → Slots → Store → Prop} {Q' : Exit → Act → World → Prop} :
    ∀ (l : List Oper) (i : Nat) {D : Nat → Prop} {G : Ghost} {A : Slots} {σ : Store} {a : Act} {w : World} {E : Env X}, (∀ a' w', liftY ρ D n G w a.defers Q a' w' → Q' .normal a' w') → RelY ρ D n G A σ a w E → aopsYAt P st ops Q l i E A σ →
      wpOpsIn (Fw ρ) 0 P ops Q' (List.range' i l.length) a w
  | [], i, D, G, A, σ, a, w, E, hq, hR, h => hq a w (liftY_here hR h)
  | _ :: rest, i, D, G, A, σ, a, w, E, hq, hR, h => by
    rw [List.length_cons, List.range'_succ, wpOpsIn_cons]
    refine wpOpIn_mono (fun a' w' hl => ?_) (estepY_sound hR hn h Q')
    obtain ⟨D', G', A', σ', E', new, h1, h2, h3, h4, h5, h6, h7⟩ := hl
    exact aopsY_sound hn rest (i + 1) (fun a'' w'' hl => hq a'' w'' (liftY_trans h1 h4 h5 h6 h7 hl)) h3 h2

theorem awpY_sound {P : Program} {X : Nat → Prop} (hm : P.follows .mixedOrders = true) {st : List Tmp} {plans : List (Nat × Plan)} {n : Nat} : ∀ (c : Code) {Q : Exit → Env X → Slots → Store → Prop} {E : Env X} {A : Slots} {σ : Store}, codeOk st plans n c = true → awpY P st plans n c Q E A σ → AWpY P n c Q E A σ := by
  intro c
  induction c with
  | skip => intro Q E A σ _ h ρ D G a w hR; exact wpIn_skip (liftY_here hR h)
  | label l => intro Q E A σ _ h ρ D G a w hR; exact wpIn_label (liftY_here hR h)
  | exit id => intro Q E A σ _ h ρ D G a w hR; exact wpIn_exit (liftY_here hR h)
  | goto l => intro Q E A σ _ h ρ D G a w hR; exact wpIn_goto (liftY_here hR h)
  | ret => intro Q E A σ _ h ρ D G a w hR; exact wpIn_ret (liftY_here hR h)
  | seq x y ihx ihy =>
    intro Q E A σ hok h
    simp only [codeOk, Bool.and_eq_true] at hok
    refine AWpY.seq ((ihx hok.1 h).mono fun e E A σ hh => ?_)
    cases e with
    | normal => exact ihy hok.2 hh
    | _ => exact hh
  | cond c x y ihx ihy =>
    intro Q E A σ hok h
    simp only [codeOk, Bool.and_eq_true] at hok
    simp only [awpY] at h
    split at h
    · rename_i b hb
      refine AWpY.cond hb ?_
      cases b
      · exact ihy hok.2 h
      · exact ihx hok.1 h
    · exact h.elim
  | block id c ih => intro Q E A σ hok h; exact AWpY.block (ih hok h)
  | region id ops draw =>
    intro Q E A σ hok h ρ D G a w hR
    simp only [codeOk, Bool.and_eq_true, Bool.or_eq_true, List.all_eq_true] at hok
    simp only [awpY] at h
    cases draw with
    | false =>
      simp only [Bool.false_eq_true, if_false] at h
      refine wpIn_region ?_
      rw [List.range_eq_range', ← Array.length_toList]
      exact aopsY_sound hok.1 _ _ (fun a' w' hl => hl) hR h
    | true =>
      simp only [if_true] at h
      cases hp : plans.lookup id with
      | none => rw [hp] at h; exact h.elim
      | some p =>
        rw [hp] at h
        have hok2 := hok.2
        simp only [hp, Bool.not_true, Bool.false_eq_true, false_or] at hok2
        refine wpIn_region_any hm (aAnyIn_sound hok.1 _ _ (fun a' w' hl hd => liftY_of_lift (K := Q .normal E) hR hl hd fun _ _ hk => hk) (Ext.drew (w := w)) hR.rel.drew rfl (planOk_sound _ _ p _ _ hok2 h))
  | _ => intro Q E A σ _ h; exact h
end Go.AL
