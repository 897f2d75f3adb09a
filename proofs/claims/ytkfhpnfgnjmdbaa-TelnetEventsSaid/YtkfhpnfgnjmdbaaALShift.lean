/-
  The abstract-state logic: a row that is an object may be taken as a list by value from now on.
-/
import Derived.Test.YtkfhpnfgnjmdbaaALEval
namespace Go.AL
open Go Classical

theorem AllLe1.append : ∀ {as bs cs ds : List AV}, AllLe1 as bs → AllLe1 cs ds → AllLe1 (as ++ cs) (bs ++ ds)
  | [], [], _, _, _, h => h
  | [], _ :: _, _, _, h, _ => h.elim
  | _ :: _, [], _, _, h, _ => h.elim
  | _ :: _, _ :: _, _, _, h, k => ⟨h.1, AllLe1.append h.2 k⟩
/-- A list whose elements are known less well. -/
theorem AV.le_els {o : Bool} {sz : Nat} {vs vs' : List AV} (hl : vs.length = vs'.length) (hw : ∀ v ∈ vs', v.cells.length = sz) (h : AllLe1 (flat vs) (flat vs')) : (AV.list o sz vs).le (.list o sz vs') := fun F v hv => by
  obtain ⟨h1, h2⟩ := h.get
  cases hv with
  | nil =>
    have : vs' = [] := List.eq_nil_of_length_eq_zero (by simpa using hl.symm)
    subst this
    exact ⟨.nil .., fun _ _ _ _ => by cases o <;> simp [OwnAt, Own1]⟩
  | void =>
    have : vs' = [] := List.eq_nil_of_length_eq_zero (by simpa using hl.symm)
    subst this
    exact ⟨.void .., fun _ _ _ _ => by simp [OwnAt, Own1]⟩
  | list _ _ _ g off n cap us hn hc hw' hl' hF hv =>
    refine ⟨.list o sz vs' g off n cap us (by omega) hc hw (by omega) hF fun i c u hci hu => ?_, fun G D r ho => ?_⟩
    · obtain ⟨a, ha, hle⟩ := h2 i c hci
      exact (hle F u (hv i a u ha hu)).1
    · cases o <;> exact ho
/-- What may be said of a result instead. -/
def Shift (R : AV → Store → Prop) (v : AV) (σ : Store) : Prop :=
  (∃ v' σ', v.le v' ∧ Store.sub σ' σ ∧ R v' σ') ∨ ∃ p cap sz vs rest, v = .lit (.slice (some ⟨p, 0, none⟩) vs.length cap) ∧ σ p = some (flat vs ++ rest) ∧ (flat vs ++ rest).length = cap * sz ∧ cap ≤ maxLen ∧ vs.length ≤ cap ∧
    (∀ v ∈ vs, v.cells.length = sz) ∧ ∃ v', (AV.list true sz vs).le v' ∧ R v' (σ.del p)

theorem ACalls.shift {P : Program} {f : FuncId} {args : List AV} {σ : Store} {R R' : AV → Store → Prop} (h : ACalls P f args σ R) (hs : ∀ v σ', R v σ' → Shift R' v σ') : ACalls P f args σ R' := by
  intro D G w cargs h1 h2 h3 h4
  refine (h D G w cargs h1 h2 h3 h4).mono ?_
  rintro e w' ⟨v, cv, G', σ', he, hR, hv, ho, hW, hext⟩
  rcases hs v σ' hR with ⟨v', σ'', hle, hsub, hR'⟩ | ⟨p, cap, sz, vs, rest, rfl, hp, hc, hm, hl, hw, v', hle, hR'⟩
  · exact ⟨v', cv, G', σ'', he, hR', (hle _ _ hv).1, (hle _ _ hv).2 _ _ _ ho, hW.forget hsub, hext⟩
  · cases hv
    obtain ⟨G2, q1, q2, q3, q4, _⟩ := hW.freezeObj hp hc hm hl hw .acc (by simp)
    exact ⟨_, _, G2, _, he, hR', (hle _ _ q2).1, (hle _ _ q2).2 _ _ _ q3, q1, hext.trans q4⟩

theorem Rel.freeze {D : Nat → Prop} {n : Nat} {G : Ghost} {A : Slots} {σ : Store} {a : Act} {w : World} (h : Rel D n G A σ a w) {t p cap sz : Nat} {vs rest : List AV} (hA : A t = .lit (.slice (some ⟨p, 0, none⟩) vs.length cap)) (hp : σ p = some (flat vs ++ rest))
    (hc : (flat vs ++ rest).length = cap * sz) (hm : cap ≤ maxLen) (hl : vs.length ≤ cap) (hw : ∀ v ∈ vs, v.cells.length = sz) : ∃ G', Rel D n G' (upd A t (.list true sz vs)) (σ.del p) a w ∧ Ext D G w G' w := by
  obtain ⟨G2, q1, q2, q3, q4, q5, q6⟩ := h.world.freezeObj hp hc hm hl hw (.slot t) (by simp)
  refine ⟨G2, ⟨h.defers, h.size, fun i => ?_, fun i => ?_, q1, h.fresh⟩, q4⟩
  · simp only [upd]; split
    · rename_i hi; subst hi
      have := h.val i
      rw [hA] at this
      generalize a.tmps.getD i undef = x at this
      cases this; exact q2
    · exact (h.val i).mono q4.frz
  · simp only [upd]; split
    · rename_i hi; subst hi
      have := h.val i
      rw [hA] at this
      generalize a.tmps.getD i undef = x at this
      cases this; exact q3
    · exact (h.own i).re fun g m z j hd hg => by
        have : g ≠ p := fun e => by subst e; rw [q6] at hg; cases hg
        rw [q5 g this]; exact hg

theorem AWp.freeze {P : Program} {n : Nat} {c : Code} {Q : Exit → Slots → Store → Prop} {A : Slots} {σ : Store} {t p cap sz : Nat} {vs rest : List AV} (hA : A t = .lit (.slice (some ⟨p, 0, none⟩) vs.length cap)) (hp : σ p = some (flat vs ++ rest))
    (hc : (flat vs ++ rest).length = cap * sz) (hm : cap ≤ maxLen) (hl : vs.length ≤ cap) (hw : ∀ v ∈ vs, v.cells.length = sz) (h : AWp P n c Q (upd A t (.list true sz vs)) (σ.del p)) : AWp P n c Q A σ := by
  intro D G a w hR
  obtain ⟨G', h1, h2⟩ := hR.freeze hA hp hc hm hl hw
  exact wp_mono (h D G' a w h1) fun e a' w' hl => lift_trans h2 hl

/-- Nothing is run: what is known is said otherwise. -/
def View (n : Nat) (Q : Slots → Store → Prop) (A : Slots) (σ : Store) : Prop := ∀ (D : Nat → Prop) (G : Ghost) (a : Act) (w : World), Rel D n G A σ a w → lift D n G w Q a w
theorem View.here {n : Nat} {Q : Slots → Store → Prop} {A : Slots} {σ : Store} (h : Q A σ) : View n Q A σ := fun _ _ _ _ hR => lift_here hR h
theorem View.le {n : Nat} {Q : Slots → Store → Prop} {A B : Slots} {σ : Store} (hl : Slots.le A B) (h : View n Q B σ) : View n Q A σ := fun D G a w hR => h D G a w (hR.le hl)
theorem View.leL {n : Nat} {Q : Slots → Store → Prop} {A : Slots} {l : List (Nat × AV)} {σ : Store} (hl : LeL A l) (h : View n Q (slotsL l) σ) : View n Q A σ := h.le (Slots.le_of hl)
theorem View.sub {n : Nat} {Q : Slots → Store → Prop} {A : Slots} {σ τ : Store} (hs : Store.sub τ σ) (h : View n Q A τ) : View n Q A σ := fun D G a w hR => h D G a w (hR.sub hs)
theorem View.freeze {n : Nat} {Q : Slots → Store → Prop} {A : Slots} {σ : Store} {t p cap sz : Nat} {vs rest : List AV} (hA : A t = .lit (.slice (some ⟨p, 0, none⟩) vs.length cap)) (hp : σ p = some (flat vs ++ rest))
    (hc : (flat vs ++ rest).length = cap * sz) (hm : cap ≤ maxLen) (hl : vs.length ≤ cap) (hw : ∀ v ∈ vs, v.cells.length = sz) (h : View n Q (upd A t (.list true sz vs)) (σ.del p)) : View n Q A σ := by
  intro D G a w hR
  obtain ⟨G', h1, h2⟩ := hR.freeze hA hp hc hm hl hw
  exact lift_trans h2 (h D G' a w h1)
/-- Behind code, what is known said otherwise. -/
theorem codeK.cut {P : Program} {n : Nat} {c : Code} {Q : Exit → Slots → Store → Prop} {A : Slots} {σ : Store} {t : Tag Q} (Q' : Exit → Slots → Store → Prop) (h : codeK P n c Q' A σ) (next : ∀ e A' σ', Q' e A' σ' → View n (Q e) A' σ') : codeK P n c Q A σ t := by
  intro D G a w hR
  refine wp_mono (h D G a w hR) fun e a' w' hl => ?_
  obtain ⟨G', A', σ', h1, h2, h3⟩ := hl
  exact lift_trans h3 (next e A' σ' h1 D G' a' w' h2)
end Go.AL
