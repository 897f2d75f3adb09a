/-
  The abstract-state logic: the plan of a region that draws its order; code.
-/
import Derived.Test.YtkfhpnfgnjmdbaaALDraw2
namespace Go.AL
open Go Go.RowKit Classical

def aAny (P : Program) (st : List Tmp) (ops : Array Oper) (Q : Slots → Store → Prop) : Nat → Array Bool → Slots → Store → Prop
  | 0, listed, A, σ => Region.ready .any ops listed = [] ∧ Q A σ
  | fuel + 1, listed, A, σ => (Region.ready .any ops listed = [] → Q A σ) ∧ ∀ i ∈ Region.ready .any ops listed, estep P st ops i (aAny P st ops Q fuel (listed.setIfInBounds i true)) A σ

theorem aAny_sound {P : Program} {st : List Tmp} {D : Nat → Prop} {n : Nat} {ops : Array Oper} (hn : ∀ o ∈ ops.toList, dstOk n o = true) {Q : Slots → Store → Prop} {Q' : Exit → Act → World → Prop} :
    ∀ (fuel : Nat) (listed : Array Bool) {G0 G : Ghost} {w0 : World} {A : Slots} {σ : Store} {a : Act} {w : World}, (∀ a' w', lift D n G0 w0 Q a' w' → Q' .normal a' w') → Ext D G0 w0 G w → Rel D n G A σ a w → aAny P st ops Q fuel listed A σ → wpAny P .any ops Q' fuel listed a w
  | 0, listed, G0, G, w0, A, σ, a, w, hq, hext, hR, h => ⟨h.1, hq a w ⟨G, A, σ, h.2, hR, hext⟩⟩
  | fuel + 1, listed, G0, G, w0, A, σ, a, w, hq, hext, hR, h => by
    refine ⟨fun hr => hq a w ⟨G, A, σ, h.1 hr, hR, hext⟩, fun i hi => ?_⟩
    refine wpOp_mono (fun a' w' hl => ?_) (estep_sound hR hn (h.2 i hi) Q')
    obtain ⟨G', A', σ', h1, h2, h3⟩ := hl
    exact aAny_sound hn fuel _ hq (hext.trans h3) h2 h1

theorem mem_ready {ops : Array Oper} {listed : Array Bool} {i : Nat} : i ∈ Region.ready .any ops listed ↔ ∃ o, ops[i]? = some o ∧ listed.getD i true = false ∧ ∀ ed ∈ o.after.toList, Region.binds .any ed = true → listed.getD ed.on false = true := by
  unfold Region.ready
  simp only [List.mem_filter, List.mem_range, Bool.and_eq_true, Bool.not_eq_true']
  constructor
  · rintro ⟨h1, h2, h3⟩
    have ho : ops[i]? = some (ops[i]'h1) := by simp
    refine ⟨_, ho, h2, fun ed hed hb => ?_⟩
    rw [ho] at h3
    simp only [Option.map_some, Option.getD_some, Array.all_eq_true_iff_forall_mem] at h3
    have := h3 ed (by simpa using hed)
    simpa [hb] using this
  · rintro ⟨o, ho, h2, h3⟩
    refine ⟨(Array.getElem?_eq_some_iff.1 ho).1, h2, ?_⟩
    rw [ho]
    simp only [Option.map_some, Option.getD_some, Array.all_eq_true_iff_forall_mem]
    intro ed hed
    cases hb : Region.binds .any ed with
    | false => simp
    | true => simp [h3 ed (by simpa using hed) hb]

theorem getD_setB (l : Array Bool) (i j : Nat) (b d : Bool) : (l.setIfInBounds i b).getD j d = if i = j ∧ j < l.size then b else l.getD j d := by
  simp only [Array.getD_eq_getD_getElem?, Array.getElem?_setIfInBounds]
  by_cases h : i = j
  · subst h
    by_cases hi : i < l.size
    · simp [hi]
    · simp [hi]
  · simp [h]

/-- It may be taken first: the others that are open do not mind, or wait for it. -/
def ample (st : List Tmp) (ops : Array Oper) (listed : Array Bool) (k : Nat) (L : List Nat) : Bool :=
  match ops[k]? with
  | none => false
  | some e => ((k :: L).all fun i => listed.getD i true == false) &&
    (L.all fun i => match ops[i]? with | some o => o.after.toList.any fun ed => Region.binds .any ed && (k :: L).contains ed.on | none => false) &&
    ((List.range ops.size).all fun i => (k :: L).contains i || listed.getD i true || match ops[i]? with | some o => indep st ops e o | none => true) && pureOp st e

theorem postpone {P : Program} {st : List Tmp} {ops : Array Oper} {Q : Slots → Store → Prop} {k : Nat} {e : Oper} (he : ops[k]? = some e) (hp : pureOp st e = true) {L : List Nat}
    (hL : ∀ i ∈ L, ∃ o, ops[i]? = some o ∧ ∃ ed ∈ o.after.toList, Region.binds .any ed = true ∧ ed.on ∈ k :: L) : ∀ (fuel : Nat) (listed : Array Bool) (A : Slots) (σ : Store),
    (∀ i ∈ k :: L, listed.getD i true = false) → k ∈ Region.ready .any ops listed → (∀ i o, i ∉ k :: L → listed.getD i true = false → ops[i]? = some o → indep st ops e o = true) →
    estep P st ops k (aAny P st ops Q fuel (listed.setIfInBounds k true)) A σ → aAny P st ops Q (fuel + 1) listed A σ := by
  intro fuel
  induction fuel with
  | zero =>
    intro listed A σ hun hk hin h
    refine ⟨fun hr => (by rw [hr] at hk; cases hk), fun i hi => ?_⟩
    by_cases hik : i = k
    · subst hik; exact h
    · obtain ⟨v, _, h2⟩ := (estep_pure he hp).1 h
      obtain ⟨o, ho, h3, h4⟩ := mem_ready.1 hi
      have : i ∈ Region.ready .any ops (listed.setIfInBounds k true) := mem_ready.2 ⟨o, ho, by rw [getD_setB, if_neg (fun hh => hik hh.1.symm)]; exact h3, fun ed hed hb => by
        rw [getD_setB]; split
        · rfl
        · exact h4 ed hed hb⟩
      rw [h2.1] at this; cases this
  | succ f ih =>
    intro listed A σ hun hk hin h
    refine ⟨fun hr => (by rw [hr] at hk; cases hk), fun i hi => ?_⟩
    by_cases hik : i = k
    · subst hik; exact h
    · obtain ⟨o, ho, h3, h4⟩ := mem_ready.1 hi
      have hiL : i ∉ k :: L := by
        intro hm
        rcases List.mem_cons.1 hm with hm | hm
        · exact hik hm
        · obtain ⟨o', ho', ed, hed, hb, hon⟩ := hL i hm
          rw [ho] at ho'; simp only [Option.some.injEq] at ho'; subst ho'
          have q1 := h4 ed hed hb
          have q2 := hun _ hon
          simp only [Array.getD_eq_getD_getElem?] at q1 q2
          cases hx : listed[ed.on]? with
          | none => rw [hx] at q2; simp at q2
          | some b => rw [hx] at q1 q2; simp at q1 q2; simp [q1] at q2
      have hdep := hin i o hiL h3 ho
      have hi' : i ∈ Region.ready .any ops (listed.setIfInBounds k true) := mem_ready.2 ⟨o, ho, by rw [getD_setB, if_neg (fun hh => hik hh.1.symm)]; exact h3, fun ed hed hb => by
        rw [getD_setB]; split
        · rfl
        · exact h4 ed hed hb⟩
      have h5 := estep_swap he ho hdep (estep_mono h fun A' σ' hh => hh.2 i hi')
      refine estep_mono h5 fun A' σ' hh => ?_
      have hcomm : (listed.setIfInBounds k true).setIfInBounds i true = (listed.setIfInBounds i true).setIfInBounds k true := by
        apply Array.ext
        · simp
        · intro j h1 h2
          rw [Array.getElem_setIfInBounds, Array.getElem_setIfInBounds, Array.getElem_setIfInBounds, Array.getElem_setIfInBounds]
          · split <;> split <;> rfl
          all_goals (simp at h1 ⊢; exact h1)
      rw [hcomm] at hh
      obtain ⟨ok, hok, hk3, hk4⟩ := mem_ready.1 hk
      refine ih (listed.setIfInBounds i true) A' σ' (fun j hj => ?_) (mem_ready.2 ⟨ok, hok, ?_, fun ed hed hb => ?_⟩) (fun j o' hj hl ho' => hin j o' hj ?_ ho') hh
      · rw [getD_setB, if_neg (by rintro ⟨rfl, _⟩; exact hiL hj)]; exact hun j hj
      · rw [getD_setB, if_neg (fun hh => hik hh.1)]; exact hk3
      · rw [getD_setB]; split
        · rfl
        · exact hk4 ed hed hb
      · rw [getD_setB] at hl; split at hl
        · cases hl
        · exact hl

inductive Plan where
  | done
  | step (i : Nat) (p : Plan)
  | alt (p q : Plan)

def Plan.seq : List Nat → Plan → Plan
  | [], p => p
  | i :: l, p => .step i (Plan.seq l p)

def Plan.heads : Plan → List (Nat × Plan)
  | .done => []
  | .step i p => [(i, p)]
  | .alt p q => p.heads ++ q.heads

def aplan (P : Program) (st : List Tmp) (ops : Array Oper) (Q : Slots → Store → Prop) : Plan → Slots → Store → Prop
  | .done, A, σ => Q A σ
  | .step i p, A, σ => estep P st ops i (aplan P st ops Q p) A σ
  | .alt p q, A, σ => aplan P st ops Q p A σ ∧ aplan P st ops Q q A σ

/-- What waits for it, one round of looking. -/
def behind (ops : Array Oper) (k : Nat) : List Nat :=
  (List.range ops.size).foldl (fun L i => match ops[i]? with | some o => if o.after.toList.any fun ed => Region.binds .any ed && (k :: L).contains ed.on then i :: L else L | none => L) []

def planOk (st : List Tmp) (ops : Array Oper) : Nat → Array Bool → Plan → Bool
  | 0, listed, p => p.heads.isEmpty && (Region.ready .any ops listed).isEmpty
  | fuel + 1, listed, p =>
    match p.heads with
    | [] => (Region.ready .any ops listed).isEmpty
    | [(k, q)] => (Region.ready .any ops listed).contains k && ((Region.ready .any ops listed).all (· == k) || ample st ops listed k (behind ops k)) && planOk st ops fuel (listed.setIfInBounds k true) q
    | hs => ((Region.ready .any ops listed).all fun i => hs.any (·.1 == i)) && hs.all fun x => (Region.ready .any ops listed).contains x.1 && planOk st ops fuel (listed.setIfInBounds x.1 true) x.2

theorem aplan_heads {P : Program} {st : List Tmp} {ops : Array Oper} {Q : Slots → Store → Prop} {A : Slots} {σ : Store} : ∀ {p : Plan}, aplan P st ops Q p A σ → (p.heads = [] → Q A σ) ∧ ∀ x ∈ p.heads, estep P st ops x.1 (aplan P st ops Q x.2) A σ
  | .done, h => ⟨fun _ => h, by simp [Plan.heads]⟩
  | .step i p, h => ⟨by simp [Plan.heads], fun x hx => by simp [Plan.heads] at hx; subst hx; exact h⟩
  | .alt p q, h => by
    have h1 := aplan_heads h.1
    have h2 := aplan_heads h.2
    refine ⟨fun he => h1.1 (List.append_eq_nil_iff.1 he).1, fun x hx => ?_⟩
    rcases List.mem_append.1 hx with hx | hx
    · exact h1.2 x hx
    · exact h2.2 x hx

theorem planOk_sound {P : Program} {st : List Tmp} {ops : Array Oper} {Q : Slots → Store → Prop} : ∀ (fuel : Nat) (listed : Array Bool) (p : Plan) (A : Slots) (σ : Store), planOk st ops fuel listed p = true → aplan P st ops Q p A σ → aAny P st ops Q fuel listed A σ := by
  intro fuel
  induction fuel with
  | zero =>
    intro listed p A σ hok h
    simp only [planOk, Bool.and_eq_true, List.isEmpty_iff] at hok
    exact ⟨hok.2, (aplan_heads h).1 hok.1⟩
  | succ fuel ih =>
    intro listed p A σ hok h
    obtain ⟨h1, h2⟩ := aplan_heads h
    unfold planOk at hok
    split at hok
    · rename_i heq
      simp only [List.isEmpty_iff] at hok
      exact ⟨fun _ => h1 heq, fun i hi => by rw [hok] at hi; cases hi⟩
    · rename_i k q heq
      simp only [Bool.and_eq_true, Bool.or_eq_true] at hok
      obtain ⟨⟨c1, c2⟩, c3⟩ := hok
      have hk : k ∈ Region.ready .any ops listed := by simpa using c1
      have hs := h2 (k, q) (by rw [heq]; simp)
      have hs' := estep_mono hs fun A' σ' hh => ih _ q A' σ' c3 hh
      rcases c2 with c2 | c2
      · refine ⟨fun hr => (by rw [hr] at hk; cases hk), fun i hi => ?_⟩
        have := List.all_eq_true.1 c2 i hi
        simp at this; subst this; exact hs'
      · unfold ample at c2
        cases he : ops[k]? with
        | none => rw [he] at c2; cases c2
        | some e =>
          rw [he] at c2
          simp only [Bool.and_eq_true, List.all_eq_true] at c2
          obtain ⟨⟨⟨d1, d2⟩, d3⟩, d4⟩ := c2
          refine postpone he d4 (L := behind ops k) (fun i hi => ?_) fuel listed A σ (fun i hi => by have := d1 i hi; simpa using this) hk (fun i o hi hl ho => ?_) hs'
          · have := d2 i hi
            cases ho : ops[i]? with
            | none => rw [ho] at this; cases this
            | some o =>
              rw [ho] at this
              simp only [List.any_eq_true, Bool.and_eq_true] at this
              obtain ⟨ed, hed, hb, hon⟩ := this
              exact ⟨o, rfl, ed, hed, hb, by simpa using hon⟩
          · have := d3 i (by simp; exact (Array.getElem?_eq_some_iff.1 ho).1)
            rw [ho] at this
            simp only [Bool.or_eq_true] at this
            rcases this with (this | this) | this
            · exact absurd (by simpa using this) hi
            · rw [hl] at this; cases this
            · exact this
    · rename_i hne _
      simp only [Bool.and_eq_true, List.all_eq_true, List.any_eq_true] at hok
      obtain ⟨c1, c2⟩ := hok
      refine ⟨fun hr => ?_, fun i hi => ?_⟩
      · refine h1 ?_
        cases hp : p.heads with
        | nil => rfl
        | cons x xs =>
          have := (c2 x (by rw [hp]; simp)).1
          rw [hr] at this; simp at this
      · obtain ⟨x, hx, hxi⟩ := c1 i hi
        simp at hxi; subst hxi
        exact estep_mono (h2 x hx) fun A' σ' hh => ih _ x.2 A' σ' (c2 x hx).2 hh

/-! ### Code -/
/-- The operations as they stand. -/
def aopsAt (P : Program) (st : List Tmp) (ops : Array Oper) (Q : Slots → Store → Prop) : List Oper → Nat → Slots → Store → Prop
  | [], _ => Q
  | _ :: rest, i => estep P st ops i (aopsAt P st ops Q rest (i + 1))
theorem aopsAt_eq {P : Program} {st : List Tmp} {ops : Array Oper} {Q : Slots → Store → Prop} : ∀ (l : List Oper) (i : Nat), aopsAt P st ops Q l i = aops P st ops Q (List.range' i l.length)
  | [], _ => rfl
  | _ :: rest, i => by simp only [aopsAt, List.length_cons, List.range'_succ, aops]; rw [aopsAt_eq rest]

def AWp (P : Program) (n : Nat) (c : Code) (Q : Exit → Slots → Store → Prop) (A : Slots) (σ : Store) : Prop :=
  ∀ (D : Nat → Prop) (G : Ghost) (a : Act) (w : World), Rel D n G A σ a w → c.wp P (fun e a' w' => lift D n G w (Q e) a' w') a w

def athen (next : Slots → Store → Prop) (Q : Exit → Slots → Store → Prop) : Exit → Slots → Store → Prop
  | .normal => next
  | e => Q e
def ainBlock (id : Nat) (Q : Exit → Slots → Store → Prop) : Exit → Slots → Store → Prop
  | .exit id' => if id' = id then Q .normal else Q (.exit id')
  | e => Q e

/-- Code, by what is known of the slots and the store; a loop, and the like, stands as it is. 'plans': of the regions that draw their order. -/
def awp (P : Program) (st : List Tmp) (plans : List (Nat × Plan)) (n : Nat) : Code → (Exit → Slots → Store → Prop) → Slots → Store → Prop
  | .skip, Q => Q .normal
  | .label _, Q => Q .normal
  | .seq x y, Q => awp P st plans n x (athen (awp P st plans n y Q) Q)
  | .cond c x y, Q => fun A σ => match evalA A c with
    | .lit (.bool b) => if b = true then awp P st plans n x Q A σ else awp P st plans n y Q A σ
    | _ => False
  | .block id c, Q => awp P st plans n c (ainBlock id Q)
  | .exit id, Q => Q (.exit id)
  | .goto l, Q => Q (.goto l)
  | .ret, Q => Q .ret
  | .region id ops draw, Q => fun A σ => if draw = true then (match plans.lookup id with | some p => aplan P st ops (Q .normal) p A σ | none => False) else aopsAt P st ops (Q .normal) ops.toList 0 A σ
  | c, Q => AWp P n c Q

/-- Closed facts on the code: the slots lie within the frame, the plans cover all orders. -/
def codeOk (st : List Tmp) (plans : List (Nat × Plan)) (n : Nat) : Code → Bool
  | .seq x y => codeOk st plans n x && codeOk st plans n y
  | .cond _ x y => codeOk st plans n x && codeOk st plans n y
  | .block _ c => codeOk st plans n c
  | .loop c => codeOk st plans n c
  | .region id ops draw => ops.toList.all (dstOk n) && (!draw || match plans.lookup id with | some p => planOk st ops ops.size (Array.replicate ops.size false) p | none => false)
  | _ => true

theorem lift_mono {D : Nat → Prop} {n : Nat} {G : Ghost} {w : World} {Q Q' : Slots → Store → Prop} {a' : Act} {w' : World} (h : lift D n G w Q a' w') (hq : ∀ A σ, Q A σ → Q' A σ) : lift D n G w Q' a' w' := by
  obtain ⟨G', A', σ', h1, h2⟩ := h
  exact ⟨G', A', σ', hq _ _ h1, h2⟩
theorem lift_here {D : Nat → Prop} {n : Nat} {G : Ghost} {A : Slots} {σ : Store} {a : Act} {w : World} {Q : Slots → Store → Prop} (h : Rel D n G A σ a w) (hq : Q A σ) : lift D n G w Q a w := ⟨G, A, σ, hq, h, Ext.refl ..⟩

theorem AWp.mono {P : Program} {n : Nat} {c : Code} {Q Q' : Exit → Slots → Store → Prop} {A : Slots} {σ : Store} (h : AWp P n c Q A σ) (hq : ∀ e A σ, Q e A σ → Q' e A σ) : AWp P n c Q' A σ :=
  fun D G a w hR => wp_mono (h D G a w hR) fun e _ _ hl => lift_mono hl (hq e)

theorem AWp.seq {P : Program} {n : Nat} {x y : Code} {Q : Exit → Slots → Store → Prop} {A : Slots} {σ : Store} (h : AWp P n x (athen (AWp P n y Q) Q) A σ) : AWp P n (.seq x y) Q A σ := by
  intro D G a w hR
  refine wp_seq (wp_mono (h D G a w hR) fun e a' w' hl => ?_)
  obtain ⟨G', A', σ', h1, h2, h3⟩ := hl
  cases e with
  | normal => exact wp_mono (h1 D G' a' w' h2) fun e a'' w'' hl => lift_trans h3 hl
  | _ => exact ⟨G', A', σ', h1, h2, h3⟩

theorem AWp.block {P : Program} {n id : Nat} {c : Code} {Q : Exit → Slots → Store → Prop} {A : Slots} {σ : Store} (h : AWp P n c (ainBlock id Q) A σ) : AWp P n (.block id c) Q A σ := by
  intro D G a w hR
  refine wp_block (wp_mono (h D G a w hR) fun e a' w' hl => ?_)
  cases e with
  | exit id' =>
    simp only [Exit.inBlock, ainBlock] at *
    split at hl
    · rename_i hh; rw [if_pos hh]; exact hl
    · rename_i hh; rw [if_neg hh]; exact hl
  | _ => exact hl

theorem AWp.cond {P : Program} {n : Nat} {c : Operand} {x y : Code} {Q : Exit → Slots → Store → Prop} {A : Slots} {σ : Store} {b : Bool} (hc : evalA A c = .lit (.bool b)) (h : AWp P n (if b then x else y) Q A σ) : AWp P n (.cond c x y) Q A σ := by
  intro D G a w hR
  have hv := hR.eval c
  rw [hc] at hv
  generalize hcv : a.eval c = cv at hv
  cases hv
  exact wp_cond hcv (h D G a w hR)

theorem awp_sound {P : Program} (hm : P.follows .mixedOrders = true) {st : List Tmp} {plans : List (Nat × Plan)} {n : Nat} : ∀ (c : Code) {Q : Exit → Slots → Store → Prop} {A : Slots} {σ : Store}, codeOk st plans n c = true → awp P st plans n c Q A σ → AWp P n c Q A σ := by
  intro c
  induction c with
  | skip => intro Q A σ _ h D G a w hR; exact wp_skip (lift_here hR h)
  | label l => intro Q A σ _ h D G a w hR; exact wp_label (lift_here hR h)
  | exit id => intro Q A σ _ h D G a w hR; exact wp_exit (lift_here hR h)
  | goto l => intro Q A σ _ h D G a w hR; exact wp_goto (lift_here hR h)
  | ret => intro Q A σ _ h D G a w hR; exact wp_ret (lift_here hR h)
  | seq x y ihx ihy =>
    intro Q A σ hok h
    simp only [codeOk, Bool.and_eq_true] at hok
    refine AWp.seq ((ihx hok.1 h).mono fun e A σ hh => ?_)
    cases e with
    | normal => exact ihy hok.2 hh
    | _ => exact hh
  | cond c x y ihx ihy =>
    intro Q A σ hok h
    simp only [codeOk, Bool.and_eq_true] at hok
    simp only [awp] at h
    split at h
    · rename_i b hb
      refine AWp.cond hb ?_
      cases b
      · exact ihy hok.2 h
      · exact ihx hok.1 h
    · exact h.elim
  | block id c ih => intro Q A σ hok h; exact AWp.block (ih hok h)
  | region id ops draw =>
    intro Q A σ hok h D G a w hR
    simp only [codeOk, Bool.and_eq_true, Bool.or_eq_true, List.all_eq_true] at hok
    simp only [awp] at h
    cases draw with
    | false =>
      simp only [Bool.false_eq_true, if_false] at h
      rw [aopsAt_eq, Array.length_toList, ← List.range_eq_range'] at h
      exact wp_region (aops_sound hok.1 _ (fun a' w' hl => hl) (Ext.refl ..) hR h)
    | true =>
      simp only [if_true] at h
      cases hp : plans.lookup id with
      | none => rw [hp] at h; exact h.elim
      | some p =>
        rw [hp] at h
        have hok2 := hok.2
        simp only [hp, Bool.not_true, Bool.false_eq_true, false_or] at hok2
        exact wp_region_any hm (aAny_sound hok.1 _ _ (fun a' w' hl => hl) (Ext.drew (w := w)) hR.drew (planOk_sound _ _ p _ _ hok2 h))
  | _ => intro Q A σ _ h; exact h

end Go.AL
