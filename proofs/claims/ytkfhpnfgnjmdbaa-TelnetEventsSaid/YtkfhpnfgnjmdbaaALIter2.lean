/-
  The abstract-state logic: a round keeps who asks for it; the relation with deferred marks; code with yields.
-/
import Derived.Test.YtkfhpnfgnjmdbaaALIter
namespace Go.AL
open Go Go.RowKit Classical

theorem AYields.le {P : Program} {X : Nat → Prop} {l : Nat} {args args' : List AV} {σ : Store} {E : Env X} {R : Bool → Store → Env X → Prop} (hl : AllLe args args') (h : AYields P l args' σ E R) : AYields P l args σ E R := by
  intro D G w cargs h1 h2 h3 h4 h5
  obtain ⟨l1, l2⟩ := hl.get
  refine h D G w cargs (by omega) (fun i c u hc hu => ?_) h3 h4 h5
  obtain ⟨a, ha, hle⟩ := l2 i c hc
  obtain ⟨q1, q2⟩ := h2 i a u ha hu
  exact ⟨(hle _ _ q1).1, (hle _ _ q1).2 _ _ _ q2⟩

theorem AYields.frame {P : Program} {X : Nat → Prop} {l : Nat} {args : List AV} {τ σ : Store} {E : Env X} {R : Bool → Store → Env X → Prop} (hy : AYields P l args τ E R) (hτ : Store.sub τ σ)
    {D : Nat → Prop} {n : Nat} {G : Ghost} {A : Slots} {a : Act} {w : World} (h : Rel D n G A σ a w) (hs : Sit E D G w)
    {cargs : Array Value} (hl : args.length = cargs.size) (hargs : ∀ (i : Nat) (c : AV) (u : Value), args[i]? = some c → cargs[i]? = some u → VR G.F c u ∧ OwnAt G D (.arg i) c u) :
    ∃ f tmps assign body, (Instr.yield l cargs).run P w = .ok (.round l f tmps assign body) w ∧
      RoundIn Fence.wide 0 P l f tmps assign body w fun e w' => ∃ b G' τ' E', e = .returned (.bool b) ∧ R b τ' E' ∧ Apart τ' τ σ ∧ Rel D n G' A (Store.over τ' τ σ) a w' ∧ Ext (OrX D X) G w G' w' ∧ Sit E' D G' w' := by
  let Dc : Nat → Prop := fun k => w.heap.size ≤ k ∨ (∃ cs, τ k = some cs) ∨ (D k ∧ ∃ m z i j, G.S k = some (m, z, .arg i j)) ∨ (D k ∧ ∃ m z o j, τ o ≠ none ∧ G.S k = some (m, z, .obj o j))
  have hW0 : WR D G τ w := h.world.forget hτ
  have hsub : ∀ k, Dc k → D k := by
    rintro k (h1 | ⟨cs, h2⟩ | h3 | h4)
    · exact h.fresh k h1
    · exact (hW0.obj k cs h2).1
    · exact h3.1
    · exact h4.1
  have own1 : ∀ {π : Place} {c : AV} {u : Value}, (∀ g m z, D g → G.S g = some (m, z, π) → Dc g) → Own1 G D π c u → Own1 G Dc π c u := by
    intro π c u hd ho
    unfold Own1 at *
    split at ho
    · obtain ⟨h1, z, h2, h3⟩ := ho
      exact ⟨hd _ _ _ h1 h2, z, h2, h3⟩
    · trivial
  have hW : WR Dc G τ w := by
    refine ⟨hW0.frz, hW0.own, fun o cs hcs => ?_⟩
    obtain ⟨h1, h2, h3, cur, e, h4, h5, h6⟩ := hW0.obj o cs hcs
    refine ⟨.inr (.inl ⟨cs, hcs⟩), h2, h3, cur, e, h4, h5, fun i c u hc hu => ?_⟩
    obtain ⟨q1, q2, q3⟩ := h6 i c u hc hu
    exact ⟨q1, q2, own1 (fun g m z hd hg => .inr (.inr (.inr ⟨hd, m, z, o, i, by rw [hcs]; simp, hg⟩))) q3⟩
  have hA : ∀ (i : Nat) (c : AV) (u : Value), args[i]? = some c → cargs[i]? = some u → VR G.F c u ∧ OwnAt G Dc (.arg i) c u := by
    intro i c u hci hui
    obtain ⟨q1, q2⟩ := hargs i c u hci hui
    refine ⟨q1, ?_⟩
    have hd : ∀ j g m z, D g → G.S g = some (m, z, .arg i j) → Dc g := fun j g m z hd hg => .inr (.inr (.inl ⟨hd, m, z, i, j, hg⟩))
    unfold OwnAt at q2 ⊢
    split at q2
    · exact fun j c u hc hu => own1 (hd j) (q2 j c u hc hu)
    · exact fun j c u hc hu => own1 (hd j) (q2 j c u hc hu)
    · exact own1 (hd 0) q2
  obtain ⟨f, tmps, assign, body, hrun, hround⟩ := hy Dc G w cargs hl hA hW (fun k hk => .inl hk) (hs.less hsub)
  refine ⟨f, tmps, assign, body, hrun, hround.mono ?_⟩
  rintro e w' ⟨b, G', τ', E', he, hR, hW', hext, hs'⟩
  have cellsX : ∀ k, X k → ∀ c e' z, w.heap[k]? ≠ some (.cells c e' z) := fun k hk c e' z hc => by
    obtain ⟨r, hr⟩ := hs.loops k hk
    rw [hr] at hc; cases hc
  -- blocks of who asks
  have lone' : ∀ o cs, σ o = some cs → τ o = none → ¬ OrX Dc X o := by
    intro o cs hcs ht
    obtain ⟨h1, h2, h3, cur, e', h4, _⟩ := h.world.obj o cs hcs
    rintro ((q1 | ⟨cs', q2⟩ | ⟨_, m, z, i, j, q3⟩ | ⟨_, m, z, o', j, _, q3⟩) | q4)
    · have := (Array.getElem?_eq_some_iff.1 h4).1; omega
    · rw [ht] at q2; cases q2
    · rw [h2] at q3; cases q3
    · rw [h2] at q3; cases q3
    · exact cellsX o q4 _ _ _ h4
  have hnotS : ∀ g m z π, G.S g = some (m, z, π) → (∀ i j, π ≠ .arg i j) → (∀ o j, π = .obj o j → τ o = none) → ¬ OrX Dc X g := by
    intro g m z π hg h1 h2
    obtain ⟨q1, ⟨c, e', q2, _⟩, _⟩ := h.world.own g m z _ hg
    rintro ((r1 | ⟨cs, r2⟩ | ⟨_, m', z', i', j', r3⟩ | ⟨_, m', z', i', j', r4, r3⟩) | r5)
    · have := (Array.getElem?_eq_some_iff.1 q2).1; omega
    · rcases hτ g with ht | ht
      · rw [ht] at r2; cases r2
      · rw [ht, q1] at r2; cases r2
    · rw [hg] at r3; simp at r3; exact h1 _ _ r3.2.2
    · rw [hg] at r3; simp at r3; exact r4 (h2 _ _ r3.2.2)
    · exact cellsX g r5 _ _ _ q2
  have hap : Apart τ' τ σ := by
    intro o ht hσ
    cases hσo : σ o with
    | none => exact (hσ hσo).elim
    | some cs =>
      cases hτ' : τ' o with
      | none => rfl
      | some cs' => exact (lone' o cs hσo ht (.inl (hW'.obj o cs' hτ').1)).elim
  have hWD := hW'.wide hsub
  have hWo : WR D G' (Store.over τ' τ σ) w' := by
    refine ⟨hWD.frz, fun g m z π hg => ?_, fun o cs hcs => ?_⟩
    · obtain ⟨q1, q2⟩ := hWD.own g m z π hg
      refine ⟨?_, q2⟩
      simp only [Store.over, q1]
      split
      · rfl
      · rename_i ht
        cases hσg : σ g with
        | none => rfl
        | some cs =>
          have hb := hext.block g (lone' g cs hσg (by simpa using ht))
          obtain ⟨_, p2, _⟩ := h.world.obj g cs hσg
          rw [hb.2.1, p2] at hg; cases hg
    · simp only [Store.over] at hcs
      cases ht' : τ' o with
      | some cs' => rw [ht'] at hcs; cases hcs; exact hWD.obj o cs ht'
      | none =>
        rw [ht'] at hcs
        dsimp only at hcs
        split at hcs
        · cases hcs
        · rename_i ht
          have ht : τ o = none := by simpa using ht
          obtain ⟨p1, p2, p3, cur, e', p4, p5, p6⟩ := h.world.obj o cs hcs
          obtain ⟨b1, b2, b3⟩ := hext.block o (lone' o cs hcs ht)
          refine ⟨p1, b2.trans p2, fun i => by rw [b3]; exact p3 i, cur, e', b1.trans p4, p5, fun i c u hc hu => ?_⟩
          obtain ⟨r1, r2, r3⟩ := p6 i c u hc hu
          refine ⟨r1, r2.mono hext.frz, r3.same fun g m z hd hg => ?_⟩
          rw [(hext.block g (hnotS g m z _ hg (by simp) (fun o' j' he' => by cases he'; exact ht))).2.1]; exact hg
  refine ⟨b, G', τ', E', he, hR, hap, ?_, hext.wide (OrX.mono hsub), hs'.more hs.out⟩
  exact h.step hext.frz (fun g m z i j hd hg => by rw [(hext.block g (hnotS g m z _ hg (by simp) (by simp))).2.1]; exact hg) hWo hext.size
end Go.AL
