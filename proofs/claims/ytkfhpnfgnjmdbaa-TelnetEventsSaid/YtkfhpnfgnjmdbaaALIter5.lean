/-
  The abstract-state logic: the statement that ranges over a function; calls that ask no rounds; the walk as rewriting.
-/
import Derived.Test.YtkfhpnfgnjmdbaaALIter4
namespace Go.AL
open Go Go.RowKit Classical

theorem ACallsY.frame {P : Program} {X : Nat → Prop} {f : FuncId} {args : List AV} {σ : Store} {E : Env X} {R : AV → Store → Env X → Prop} (hc : ACallsY P f args σ E R) {D : Nat → Prop} {n : Nat} {G : Ghost} {A : Slots} {a : Act} {w : World} (h : Rel D n G A σ a w) (hs : Sit E D G w)
    {cargs : Array Value} (hl : args.length = cargs.size) (hargs : ∀ (i : Nat) (c : AV) (u : Value), args[i]? = some c → cargs[i]? = some u → VR G.F c u ∧ OwnAt G D (.arg i) c u) :
    Calls P f cargs w fun e w' => ∃ v cv G' σ' E', e = .returned cv ∧ R v σ' E' ∧ VR G'.F v cv ∧ OwnAt G' D .acc v cv ∧ Rel D n G' A σ' a w' ∧ Ext (OrX D X) G w G' w' ∧ Sit E' D G' w' := by
  let Dc : Nat → Prop := fun k => w.heap.size ≤ k ∨ (∃ cs, σ k = some cs) ∨ (D k ∧ ∃ m z i j, G.S k = some (m, z, .arg i j)) ∨ (D k ∧ ∃ m z o j, G.S k = some (m, z, .obj o j))
  have hsub : ∀ k, Dc k → D k := by
    rintro k (h1 | ⟨cs, h2⟩ | h3 | h4)
    · exact h.fresh k h1
    · exact (h.world.obj k cs h2).1
    · exact h3.1
    · exact h4.1
  have own1 : ∀ {π : Place} {c : AV} {u : Value}, (∀ g m z, D g → G.S g = some (m, z, π) → Dc g) → Own1 G D π c u → Own1 G Dc π c u := by
    intro π c u hd ho
    unfold Own1 at *
    split at ho
    · obtain ⟨h1, z, h2, h3⟩ := ho
      exact ⟨hd _ _ _ h1 h2, z, h2, h3⟩
    · trivial
  have hW : WR Dc G σ w := by
    refine ⟨h.world.frz, h.world.own, fun o cs hcs => ?_⟩
    obtain ⟨h1, h2, h3, cur, e, h4, h5, h6⟩ := h.world.obj o cs hcs
    refine ⟨.inr (.inl ⟨cs, hcs⟩), h2, h3, cur, e, h4, h5, fun i c u hc hu => ?_⟩
    obtain ⟨q1, q2, q3⟩ := h6 i c u hc hu
    exact ⟨q1, q2, own1 (fun g m z hd hg => .inr (.inr (.inr ⟨hd, m, z, o, i, hg⟩))) q3⟩
  have hA : ∀ (i : Nat) (c : AV) (u : Value), args[i]? = some c → cargs[i]? = some u → VR G.F c u ∧ OwnAt G Dc (.arg i) c u := by
    intro i c u hci hui
    obtain ⟨q1, q2⟩ := hargs i c u hci hui
    refine ⟨q1, ?_⟩
    have hd : ∀ j g m z, D g → G.S g = some (m, z, .arg i j) → Dc g := fun j g m z hd hg => .inr (.inr (.inl ⟨hd, m, z, i, j, hg⟩))
    unfold OwnAt at q2 ⊢
    split at q2
    · exact fun j c u hc hu => own1 (hd j) (q2 j c u hc hu)
    · exact fun j c u hc hu => own1 (hd j) (q2 j c u hc hu)
    · exact own1 (hd 0) q2
  refine (hc Dc G w cargs hl hA hW (fun k hk => .inl hk) (hs.less hsub)).mono ?_
  rintro e w' ⟨v, cv, G', σ', E', he, hR, hv, ho, hW', hext, hs'⟩
  refine ⟨v, cv, G', σ', E', he, hR, hv, ho.wide hsub, h.step hext.frz (fun g m z i j hd hg => ?_) (hW'.wide hsub) hext.size, hext.wide (OrX.mono hsub), hs'.more hs.out⟩
  have hnot : ¬ OrX Dc X g := by
    obtain ⟨q1, ⟨c, e', q2, _⟩, _⟩ := h.world.own g m z _ hg
    rintro ((h1 | ⟨cs, h2⟩ | ⟨_, m', z', i', j', h3⟩ | ⟨_, m', z', i', j', h3⟩) | h4)
    · have := (Array.getElem?_eq_some_iff.1 q2).1; omega
    · rw [q1] at h2; cases h2
    · rw [hg] at h3; simp at h3
    · rw [hg] at h3; simp at h3
    · obtain ⟨r, hr⟩ := hs.loops g h4; rw [hr] at q2; cases q2
  rw [(hext.block g hnot).2.1]; exact hg

theorem run_enter_in {P : Program} {w : World} {l₀ : Nat} {r₀ : Loop} (h : w.heap[l₀]? = some (.loop r₀)) (fn : FuncId) (tmps : Array Value) (ps : Array Tmp) (assign body : Code) :
    (Instr.enterLoop fn tmps ps assign body (some l₀)).run P w =
      .ok (w.heap.size, []) (w.alloc (.loop { state := .ready, pending := none, fn, tmps, params := ps, assign, body, defers := r₀.defers })) := by
  unfold Instr.enterLoop
  simp only [Sem.run_bind, run_getLoop h, run_newObj_alloc, Result.andThen, Sem.run_pure]

/-- Entering the statement. -/
theorem enter_ok {P : Program} {ρ : Option Nat} {D X : Nat → Prop} {w : World} (hr : InRound ρ D X w) (fn : FuncId) (tmps : Array Value) (ps : Array Tmp) (assign body : Code) :
    ∃ (l : Nat) (new : List Nat) (w1 : World) (K : Nat), (Instr.enterLoop fn tmps ps assign body ρ).run P w = .ok (l, new.map mark) w1 ∧ w.heap.size ≤ l ∧ l < w1.heap.size ∧ w1.heap[l]? = some (.loop { state := .ready, pending := none, fn, tmps, params := ps, assign, body, defers := K }) ∧
      (∀ K ∈ new, w.heap.size ≤ K ∧ K < w1.heap.size ∧ K ≠ l ∧ w1.heap[K]? = some (.deferred (some []))) ∧ new.Nodup ∧ (∀ k, k < w.heap.size → w1.heap[k]? = w.heap[k]?) ∧ w1.os = w.os ∧ w1.tape = w.tape ∧ w1.output = w.output := by
  cases ρ with
  | none =>
    refine ⟨_, [w.heap.size], _, w.heap.size, run_enterLoop_outer fn tmps ps assign body, by simp, by simp, ?_, fun K hK => ?_, by simp, fun k hk => ?_, rfl, rfl, rfl⟩
    · have := World.alloc_heap_new (w.alloc (.deferred (some []))) (.loop { state := .ready, pending := none, fn, tmps, params := ps, assign, body, defers := w.heap.size }); rwa [World.size_alloc] at this
    · simp at hK; subst hK
      refine ⟨Nat.le_refl _, by simp; omega, by omega, ?_⟩
      exact (Below.heap_alloc _ _ _ (by simp)).trans (World.alloc_heap_new w _)
    · exact (Below.heap_alloc _ _ _ (by simp; omega)).trans (Below.heap_alloc _ _ _ hk)
  | some l0 =>
    obtain ⟨_, _, r, hl0⟩ := hr l0 rfl
    refine ⟨_, [], _, r.defers, run_enter_in hl0 fn tmps ps assign body, Nat.le_refl _, by simp, World.alloc_heap_new w _, fun K hK => by simp at hK, .nil, fun k hk => Below.heap_alloc _ _ _ hk, rfl, rfl, rfl⟩

def jumpQ {X : Nat → Prop} (Q : Exit → Env X → Slots → Store → Prop) : Code → Env X → Slots → Store → Prop
  | .ret => Q .ret
  | .exit id => Q (.exit id)
  | .goto t => Q (.goto t)
  | _ => fun _ _ _ => False

theorem AWpY.range {P : Program} {X : Nat → Prop} {n : Nat} {g : Operand} {ps : Array Tmp} {assign body : Code} {f : FuncId} {caps : List AV} {A : Slots} {σ : Store} {E : Env X} {Q : Exit → Env X → Slots → Store → Prop} (hg : evalA A g = .func (.func f) [] caps) (hc : callable P f = true)
    (h : ∀ l, ¬ X l → ACallsY P (X := AddX X l) f (.func (.yield l) [] [] :: caps.map AV.share) σ (E.link l ⟨fun i => (A i).share, n, ps, assign, body⟩ .ready none) fun _ σ' E' =>
      (∃ E0, E' = E0.link l ⟨fun i => (A i).share, n, ps, assign, body⟩ .ready none ∧ Q .normal E0 A σ') ∨ (∃ E0 c, E' = E0.link l ⟨fun i => (A i).share, n, ps, assign, body⟩ .done (some c) ∧ jumpQ Q c E0 A σ')) :
    AWpY P n (.rangeFunc g ps assign body) Q E A σ := by
  intro ρ D G a w hR
  refine wpIn_rangeFunc fun fn _ => ?_
  obtain ⟨l, new, w1, K, hent, hl1, hl2, hl3, hnew, hnd, hold, hos, htape, hout⟩ := enter_ok (P := P) hR.round fn a.tmps ps assign body
  have hfv := hR.rel.eval g
  have heq : (bare a).eval = a.eval := rfl
  rw [hg, heq] at hfv
  generalize hfe : a.eval g = fv at hfv
  cases hfv with | func _ _ _ ufs ucs l1 l2 v1 v2 => ?_
  have e1 : ufs = #[] := by simpa using l1.symm
  subst e1
  have hszw : w.heap.size ≤ w1.heap.size := by omega
  have hXlt : ∀ k, X k → k < w.heap.size := fun k hk => by obtain ⟨r, hr⟩ := hR.sit.loops k hk; exact (Array.getElem?_eq_some_iff.1 hr).1
  have hXl : ¬ X l := fun hx => by have := hXlt l hx; omega
  let D1 : Nat → Prop := fun k => D k ∧ k ≠ l ∧ k ∉ new
  have hDD : ∀ k, D k → k < w.heap.size → D1 k := fun k hk hlt => ⟨hk, by omega, fun hm => by have := (hnew k hm).1; omega⟩
  have hW1 : WR D1 G σ w1 := hR.rel.world.grow hold hDD
  have hR1 : Rel D1 n G A σ (bare a) w1 := ⟨rfl, hR.rel.size, hR.rel.val, fun i => (hR.rel.own i).grow hR.rel.world hDD, hW1, fun k hk => ⟨hR.rel.fresh k (by omega), by omega, fun hm => by have := (hnew k hm).2.1; omega⟩⟩
  have hX1 : ∀ k, X k → w1.heap[k]? = w.heap[k]? := fun k hk => hold k (hXlt k hk)
  have hS1 : Sit (E.link l ⟨fun i => (A i).share, n, ps, assign, body⟩ .ready none) D1 G w1 := by
    refine ⟨fun k hk hd => ?_, fun k hk => ?_, E.stable hR.sit.env (fun _ _ _ h => h) hX1, fn, a.tmps, K, hl3, hR.rel.size, fun i => (hR.rel.val i).share⟩
    · rcases hk with hk | rfl
      · exact hR.sit.out k hk hd.1
      · exact hd.2.1 rfl
    · rcases hk with hk | rfl
      · rw [hX1 k hk]; exact hR.sit.loops k hk
      · exact ⟨_, hl3⟩
  have hx1 : Ext D G w G w1 := ⟨hos, htape, hout, hszw, fun _ _ _ h => h, fun k hk => ⟨hold k (Nat.lt_of_not_le fun hle => hk (hR.rel.fresh k hle)), rfl, rfl⟩⟩
  refine ⟨l, new.map mark, w1, { target := .fn (.func f) ucs, args := #[.func (.yield l) #[] #[]] }, w1, f, #[.func (.yield l) #[] #[]] ++ ucs, w1, hent, ?_, fun _ _ => trivial, ?_, fun hx => by simp [Fw, Fence.wide] at hx, ?_⟩
  · simp only [resolve, hfe]
    simp [go_sem]
  · simp [invoke, run_callFunc hc]
  · have hargs : ∀ (i : Nat) (c : AV) (u : Value), (AV.func (.yield l) [] [] :: caps.map AV.share)[i]? = some c → (#[Value.func (.yield l) #[] #[]] ++ ucs)[i]? = some u → VR G.F c u ∧ OwnAt G D1 (.arg i) c u := by
      intro i c u hci hui
      cases i with
      | zero =>
        simp at hci; subst hci
        rw [Array.getElem?_append_left (by simp)] at hui
        simp at hui; subst hui
        exact ⟨.func _ _ _ _ _ rfl rfl (by simp) (by simp), OwnAt.of_plain rfl⟩
      | succ i =>
        rw [Array.getElem?_append_right (by simp)] at hui
        simp at hci hui
        have := plain_list (F := G.F) v2 G D1 (fun j => .arg (j + 1)) i c u (by simpa using hci) hui
        exact this
    have hlen : (AV.func (.yield l) [] [] :: caps.map AV.share).length = (#[Value.func (.yield l) #[] #[]] ++ ucs).size := by
      simp only [List.length_cons, List.length_map, Array.size_append, l2]
      simp; omega
    have hcall := (h l hXl).frame hR1 hS1 hlen hargs
    refine callsIn_Fw.2 (hcall.mono ?_)
    · rintro e w3 ⟨v, cv, G3, σ3, E3, rfl, hR3, _, _, hRel, hext, hS3⟩
      have hDl : ¬ D1 l := fun hd => hd.2.1 rfl
      have d1 : ∀ k, D1 k → D k := fun k hk => hk.1
      have core : ∀ (E0 : Env X) (st : LoopState) (pe : Option Code), st ≠ .busy → E3 = E0.link l ⟨fun i => (A i).share, n, ps, assign, body⟩ st pe →
          ∃ w4, (Instr.endLoop l).run P w3 = .ok pe w4 ∧ RelY ρ D1 n G3 A σ3 { a with defers := new.map mark ++ a.defers } w4 E0 ∧ Ext (OrX D X) G w G3 w4 ∧ Marks D D1 X new w4 := by
        intro E0 st pe hst hE3
        subst hE3
        obtain ⟨q1, fn', tmps', K', q2, _⟩ := hS3.env
        refine ⟨_, run_endLoop q2 hst, ?_⟩
        generalize hw4 : w3.putObj l _ = w4
        have hoth : ∀ k, k ≠ l → w4.heap[k]? = w3.heap[k]? := fun k hk => by rw [← hw4]; exact World.putObj_heap_other hk
        have hX4 : ∀ j, X j → w4.heap[j]? = w3.heap[j]? := fun j hj => hoth j (fun e => hXl (e ▸ hj))
        have hx4 : Ext (OrX D X) G w G3 w4 := by
          refine (hx1.orX.trans (hext.wide fun k hk => ?_)).trans (by rw [← hw4]; exact Ext.putOut G3 w3 _ (.inl (hR.rel.fresh l hl1)))
          rcases hk with hk | hk | rfl
          · exact .inl hk.1
          · exact .inr hk
          · exact .inl (hR.rel.fresh k hl1)
        refine ⟨⟨hRel.step (fun _ _ _ h => h) (fun _ _ _ _ _ _ h => h) (by rw [← hw4]; exact hRel.world.putOut q2 rfl) (by rw [← hw4]; simp), ⟨fun k hk => hS3.out k (.inl hk), fun k hk => by rw [hX4 k hk]; exact hS3.loops k (.inl hk), E0.stable q1 (fun _ _ _ h => h) hX4⟩, (hR.round.step hx4).less d1⟩, hx4, fun K2 hK2 => ?_⟩
        obtain ⟨r1, r2, r3, r4⟩ := hnew K2 hK2
        have n1 : ¬ D1 K2 := fun hd => hd.2.2 hK2
        have n2 : ¬ X K2 := fun hx => by have := hXlt K2 hx; omega
        refine ⟨hR.rel.fresh K2 r1, n1, n2, ?_⟩
        rw [hoth K2 r3, (hext.block K2 (fun hh => hh.elim n1 fun hh => hh.elim n2 r3)).1]; exact r4
      rcases hR3 with ⟨E0, hE3, hQ⟩ | ⟨E0, c, hE3, hQ⟩
      · obtain ⟨w4, k1, k2, k3, k4⟩ := core E0 .ready none (by simp) hE3
        exact ⟨none, w4, k1, D1, G3, A, σ3, E0, new, d1, hQ, k2, k3, rfl, hnd, k4⟩
      · obtain ⟨w4, k1, k2, k3, k4⟩ := core E0 .done (some c) (by simp) hE3
        refine ⟨some c, w4, k1, ?_⟩
        cases c with
        | ret => exact wpIn_ret ⟨D1, G3, A, σ3, E0, new, d1, hQ, k2, k3, rfl, hnd, k4⟩
        | exit id => exact wpIn_exit ⟨D1, G3, A, σ3, E0, new, d1, hQ, k2, k3, rfl, hnd, k4⟩
        | goto t => exact wpIn_goto ⟨D1, G3, A, σ3, E0, new, d1, hQ, k2, k3, rfl, hnd, k4⟩
        | _ => exact hQ.elim

/-! ### No rounds to ask -/
def noX : Nat → Prop := fun _ => False
def Env.none : Env noX := ⟨fun _ _ => True, fun _ _ _ => trivial⟩
theorem ACalls.of_Y {P : Program} {f : FuncId} {args : List AV} {σ : Store} {R : AV → Store → Prop} (h : ACallsY P f args σ Env.none fun v σ' _ => R v σ') : ACalls P f args σ R := by
  intro D G w cargs h1 h2 h3 h4
  refine (h D G w cargs h1 h2 h3 h4 ⟨fun _ h => h.elim, fun _ h => h.elim, trivial⟩).mono ?_
  rintro e w' ⟨v, cv, G', σ', E', q1, q2, q3, q4, q5, q6, _⟩
  exact ⟨v, cv, G', σ', q1, q2, q3, q4, q5, q6.wide fun k hk => hk.elim id fun hh => hh.elim⟩
theorem ACalls.of_awpY {P : Program} (hm : P.follows .mixedOrders = true) {f : FuncId} {fn : Func} {c : Code} (hf : P.funcs[f]? = some fn) (hb : fn.body = some c) {st : List Tmp} {plans : List (Nat × Plan)} {args : List AV} (hr : resOk fn.results.toList = true)
    {n : Nat} (hn : args.length + (fn.ntmps - args.length) = n) (hok : codeOk st plans n c = true) {σ : Store} {R : AV → Store → Prop} (h : awpY P st plans n c (aretY P fn.results.toList fun v σ' _ => R v σ') Env.none (slotsOf args) σ) : ACalls P f args σ R :=
  ACalls.of_Y (ACallsY.of_awp hm hf hb hr hn hok h)
end Go.AL
