/-
  The abstract-state logic: a function with rounds about it; a round's own contract; the statement that ranges over a function.
-/
import Derived.Test.YtkfhpnfgnjmdbaaALIter3
import Derived.RangeFuncRecord
namespace Go.AL
open Go Go.RowKit Classical

def objCells : Obj → Bool
  | .cells .. => true
  | _ => false
theorem share_plain (v : AV) : v.share.plain = true := by
  cases v with
  | agg cs => simp [AV.share, AV.plain, plain1_drop1]
  | tuple cs => simp [AV.share, AV.plain, plain1_drop1]
  | _ => rfl

theorem WR.putOut {D : Nat → Prop} {G : Ghost} {σ : Store} {w : World} (h : WR D G σ w) {K : Nat} {o o' : Obj} (hK : w.heap[K]? = some o) (hc : objCells o = false) : WR D G σ (w.putObj K o') := by
  have hne : ∀ {g : Nat} {c : Array Value} {e : TypeId} {f : Nat × Nat}, w.heap[g]? = some (Obj.cells c e f) → (w.putObj K o').heap[g]? = some (Obj.cells c e f) := fun {g c e f} hg => by
    rw [World.putObj_heap_other]
    · exact hg
    · rintro rfl
      rw [hK] at hg; cases hg; cases hc
  refine ⟨fun g i u hu => ?_, fun g n z π hg => ?_, fun o cs hcs => ?_⟩
  · obtain ⟨c, e, f, q1, q2⟩ := h.frz g i u hu; exact ⟨c, e, f, hne q1, q2⟩
  · obtain ⟨q1, ⟨c, e, q2, q3⟩, q4⟩ := h.own g n z π hg; exact ⟨q1, ⟨c, e, hne q2, q3⟩, q4⟩
  · obtain ⟨q1, q2, q3, c, e, q4, q5, q6⟩ := h.obj o cs hcs; exact ⟨q1, q2, q3, c, e, hne q4, q5, q6⟩

theorem Ext.putOut {D : Nat → Prop} (G : Ghost) (w : World) {K : Nat} (o' : Obj) (hD : D K) : Ext D G w G (w.putObj K o') :=
  ⟨rfl, rfl, rfl, by simp, fun _ _ _ h => h, fun k hk => ⟨World.putObj_heap_other (fun e => hk (e ▸ hD)), rfl, rfl⟩⟩

/-- The world has grown by blocks that nobody knows. -/
theorem WR.grow {D D1 : Nat → Prop} {G : Ghost} {σ : Store} {w w1 : World} (h : WR D G σ w) (hold : ∀ k, k < w.heap.size → w1.heap[k]? = w.heap[k]?) (hD : ∀ k, D k → k < w.heap.size → D1 k) : WR D1 G σ w1 := by
  have hne : ∀ {g x}, w.heap[g]? = some x → w1.heap[g]? = some x := fun {g x} hg => (hold g (Array.getElem?_eq_some_iff.1 hg).1).trans hg
  refine ⟨fun g i u hu => ?_, fun g n z π hg => ?_, fun o cs hcs => ?_⟩
  · obtain ⟨c, e, f, q1, q2⟩ := h.frz g i u hu; exact ⟨c, e, f, hne q1, q2⟩
  · obtain ⟨q1, ⟨c, e, q2, q3⟩, q4⟩ := h.own g n z π hg; exact ⟨q1, ⟨c, e, hne q2, q3⟩, q4⟩
  · obtain ⟨q1, q2, q3, c, e, q4, q5, q6⟩ := h.obj o cs hcs
    refine ⟨hD o q1 (Array.getElem?_eq_some_iff.1 q4).1, q2, q3, c, e, hne q4, q5, fun i c' u hc hu => ?_⟩
    obtain ⟨r1, r2, r3⟩ := q6 i c' u hc hu
    refine ⟨r1, r2, ?_⟩
    unfold Own1 at *
    split at r3
    · obtain ⟨s1, z, s2, s3⟩ := r3
      obtain ⟨_, ⟨c2, e2, s4, _⟩, _⟩ := h.own _ _ _ _ s2
      exact ⟨hD _ s1 (Array.getElem?_eq_some_iff.1 s4).1, z, s2, s3⟩
    · trivial
theorem Own1.grow {D D1 : Nat → Prop} {G : Ghost} {σ : Store} {w : World} (h : WR D G σ w) (hD : ∀ k, D k → k < w.heap.size → D1 k) {π : Place} {a : AV} {v : Value} (r3 : Own1 G D π a v) : Own1 G D1 π a v := by
  unfold Own1 at *
  split at r3
  · obtain ⟨s1, z, s2, s3⟩ := r3
    obtain ⟨_, ⟨c2, e2, s4, _⟩, _⟩ := h.own _ _ _ _ s2
    exact ⟨hD _ s1 (Array.getElem?_eq_some_iff.1 s4).1, z, s2, s3⟩
  · trivial
theorem OwnAt.grow {D D1 : Nat → Prop} {G : Ghost} {σ : Store} {w : World} (h : WR D G σ w) (hD : ∀ k, D k → k < w.heap.size → D1 k) {r : Nat → Place} {a : AV} {v : Value} (ho : OwnAt G D r a v) : OwnAt G D1 r a v := by
  unfold OwnAt at *
  split at ho
  · exact fun j c u hc hu => (ho j c u hc hu).grow h hD
  · exact fun j c u hc hu => (ho j c u hc hu).grow h hD
  · exact Own1.grow h hD ho

/-! ### A function -/
def aretY (P : Program) {X : Nat → Prop} (rs : List ResultVar) (R : AV → Store → Env X → Prop) : Exit → Env X → Slots → Store → Prop
  | .normal, E, A, σ | .ret, E, A, σ => match ares P A σ rs with
    | some v => ∃ v' σ', v.le v' ∧ Store.sub σ' σ ∧ R v' σ' E
    | none => False
  | _, _, _, _ => False

def putAll : List Nat → World → World
  | [], w => w
  | K :: r, w => putAll r (w.putObj K (.deferred none))
theorem leaves_marks {P : Program} {fn : Func} {tmps : Array Value} {R : Ending → World → Prop} : ∀ (new : List Nat) (w : World), new.Nodup → (∀ K ∈ new, w.heap[K]? = some (.deferred (some []))) →
    (∃ v, (results fn tmps).run P (putAll new w) = .ok v (putAll new w) ∧ R (.returned v) (putAll new w)) → LeavesInM (Fw none) 0 P fn tmps R (new.map mark) .returning w
  | [], _, _, _, h => h
  | K :: r, w, hn, hK, h => by
    refine ⟨by simp, .inl ⟨K, _, rfl, run_takeDeferred (hK K (by simp)), ?_⟩⟩
    refine leaves_marks r _ hn.of_cons (fun K' hK' => ?_) h
    rw [World.putObj_heap_other]
    · exact hK K' (by simp [hK'])
    · rintro rfl; exact (List.nodup_cons.1 hn).1 hK'
theorem putAll_keeps {D D' X : Nat → Prop} {G : Ghost} {σ : Store} {E : Env X} : ∀ (new : List Nat) (w : World), new.Nodup → Marks D D' X new w → WR D' G σ w → Sit E D' G w → WR D' G σ (putAll new w) ∧ Sit E D' G (putAll new w) ∧ Ext (OrX D X) G w G (putAll new w)
  | [], _, _, _, h, k => ⟨h, k, Ext.refl ..⟩
  | K :: r, w, hn, hm, h, k => by
    obtain ⟨m1, m2, m3, m4⟩ := hm K (by simp)
    have hE : Ext (OrX D X) G w G (w.putObj K (.deferred none)) := Ext.putOut G w _ (.inl m1)
    have hX : ∀ j, X j → (w.putObj K (.deferred none)).heap[j]? = w.heap[j]? := fun j hj => World.putObj_heap_other (fun e => m3 (e ▸ hj))
    obtain ⟨q1, q2, q3⟩ := putAll_keeps r (w.putObj K (.deferred none)) hn.of_cons (fun K' hK' => by
      obtain ⟨p1, p2, p3, p4⟩ := hm K' (by simp [hK'])
      refine ⟨p1, p2, p3, ?_⟩
      rw [World.putObj_heap_other]
      · exact p4
      · rintro rfl; exact (List.nodup_cons.1 hn).1 hK') (h.putOut m4 rfl) ⟨k.out, fun j hj => by rw [hX j hj]; exact k.loops j hj, E.stable k.env (fun _ _ _ h => h) hX⟩
    exact ⟨q1, q2, hE.trans q3⟩

theorem ACallsY.of_awp {P : Program} {X : Nat → Prop} (hm : P.follows .mixedOrders = true) {f : FuncId} {fn : Func} {c : Code} (hf : P.funcs[f]? = some fn) (hb : fn.body = some c) {st : List Tmp} {plans : List (Nat × Plan)} {args : List AV} (hr : resOk fn.results.toList = true)
    {n : Nat} (hn : args.length + (fn.ntmps - args.length) = n) (hok : codeOk st plans n c = true) {σ : Store} {E : Env X} {R : AV → Store → Env X → Prop} (h : awpY P st plans n c (aretY P fn.results.toList R) E (slotsOf args) σ) : ACallsY P f args σ E R := by
  intro D G w cargs hl hargs hW hD hS
  refine (callsIn_Fw (ρ := none) (n := 0)).1 (callsIn_of_wp_marks hf hb trivial ?_)
  have hR : RelY none D n (G.mv D fromArg) (slotsOf args) σ { tmps := cargs ++ Array.replicate (fn.ntmps - cargs.size) undef, defers := [] } w E := by
    have key : ∀ i, (∃ c u, args[i]? = some c ∧ cargs[i]? = some u ∧ slotsOf args i = c ∧ (cargs ++ Array.replicate (fn.ntmps - cargs.size) undef).getD i undef = u) ∨ slotsOf args i = .top := by
      intro i
      rcases Nat.lt_or_ge i args.length with hi | hi
      · refine .inl ⟨args[i], cargs[i]'(by omega), by simp, by simp, by simp [slotsOf, hi], ?_⟩
        simp [Array.getD_eq_getD_getElem?, Array.getElem?_append_left (show i < cargs.size by omega), show i < cargs.size by omega]
      · exact .inr (by simp [slotsOf, hi])
    refine ⟨⟨rfl, by simp; omega, fun i => ?_, fun i => ?_, hW.mv _ (fun _ _ => rfl), hD⟩, hS.step (Ext.mv ..), fun l hl => by cases hl⟩
    · rcases key i with ⟨c, u, h1, h2, h3, h4⟩ | h3
      · rw [h3]; simp only [h4]; exact (hargs i c u h1 h2).1
      · rw [h3]; exact .top _
    · rcases key i with ⟨c, u, h1, h2, h3, h4⟩ | h3
      · rw [h3]; simp only [h4]; exact (hargs i c u h1 h2).2.re fun g m z j hd hg => by rw [Ghost.mv_some hd hg]; rfl
      · rw [h3]; exact OwnAt.of_plain rfl
  refine wpIn_mono (awpY_sound hm c hok h none D _ _ w hR) fun e a' w' hl' => ?_
  obtain ⟨D', G', A', σ', E', new, h1, h2, h3, h4, h5, h6, h7⟩ := hl'
  have fin : (match ares P A' σ' fn.results.toList with | some v => ∃ v' σ'', v.le v' ∧ Store.sub σ'' σ' ∧ R v' σ'' E' | none => False) →
      LeavesInM (Fw none) 0 P fn a'.tmps (fun e w' => ∃ v cv G' σ' E', e = .returned cv ∧ R v σ' E' ∧ VR G'.F v cv ∧ OwnAt G' D .acc v cv ∧ WR D G' σ' w' ∧ Ext (OrX D X) G w G' w' ∧ Sit E' D G' w') a'.defers .returning w' := by
    intro hh
    split at hh
    case h_2 => exact hh.elim
    rename_i v hv
    obtain ⟨v', σ'', hle, hsub, hRR⟩ := hh
    obtain ⟨p1, p2, p3⟩ := putAll_keeps new w' h6 h7 h3.rel.world h3.sit
    have hR2 : Rel D' n G' A' σ' (bare a') (putAll new w') := h3.rel.step (fun _ _ _ h => h) (fun _ _ _ _ _ _ h => h) p1 p3.size
    obtain ⟨cv, q1, q2, q3⟩ := ares_sound hr hR2 hv
    rw [h5, List.append_nil]
    refine leaves_marks new w' h6 (fun K hK => (h7 K hK).2.2.2) ⟨cv, q1, v', cv, G'.mv D' (toRes fn.results.toList), σ'', E', rfl, hRR, (hle _ _ q2).1, ((hle _ _ q2).2 _ _ _ q3).wide h1, (((p1.mv _ (fun _ _ => rfl)).forget hsub)).wide h1, ?_, ?_⟩
    · exact (((Ext.mv ..).orX.trans h4).trans p3).trans ((Ext.mv (D := D') ..).wide fun k hk => .inl (h1 k hk))
    · exact (p2.step (Ext.mv (D := D') ..)).more hS.out
  cases e with
  | normal => exact fin h2
  | ret => exact fin h2
  | _ => exact h2.elim

/-! ### One round's contract, out of its body's walk -/
def AddX (X : Nat → Prop) (l : Nat) : Nat → Prop := fun k => X k ∨ k = l
structure Link where
  A : Slots
  n : Nat
  ps : Array Tmp
  assign : Code
  body : Code
def Env.link {X : Nat → Prop} (E : Env X) (l : Nat) (L : Link) (st : LoopState) (pe : Option Code) : Env (AddX X l) where
  holds F w := E.holds F w ∧ ∃ fn tmps K, w.heap[l]? = some (.loop { state := st, pending := pe, fn, tmps, params := L.ps, assign := L.assign, body := L.body, defers := K }) ∧ tmps.size = L.n ∧ ∀ i, VR F (L.A i) (tmps.getD i undef)
  stable := fun {F F' w w'} h hF hX => by
    obtain ⟨h1, fn, tmps, K, h2, h3, h4⟩ := h
    exact ⟨E.stable h1 hF fun k hk => hX k (.inl hk), fn, tmps, K, by rw [hX l (.inr rfl)]; exact h2, h3, fun i => (h4 i).mono hF⟩

def setPs : Slots → List Tmp → List AV → Slots
  | A, p :: ps, v :: vs => setPs (upd A p v.share) ps vs
  | A, _, _ => A
theorem setPs_VR {F : Frz} : ∀ (ps : List Tmp) (vs : List AV) (us : List Value) (A : Slots) (tmps : Array Value), vs.length = us.length → (∀ p ∈ ps, p < tmps.size) → (∀ i, VR F (A i) (tmps.getD i undef)) →
    (∀ (i : Nat) (c : AV) (u : Value), vs[i]? = some c → us[i]? = some u → VR F c u) → ∀ i, VR F (setPs A ps vs i) (((ps.zip us).foldl (fun t (p : Tmp × Value) => t.setIfInBounds p.1 p.2) tmps).getD i undef)
  | [], vs, us, A, tmps, _, _, hA, _, i => by simpa [setPs] using hA i
  | p :: ps, [], [], A, tmps, _, _, hA, _, i => by simpa [setPs] using hA i
  | p :: ps, v :: vs, u :: us, A, tmps, hl, hp, hA, hv, i => by
    simp only [setPs, List.zip_cons_cons, List.foldl_cons]
    refine setPs_VR ps vs us _ _ (by simpa using hl) (fun q hq => by simpa using hp q (by simp [hq])) (fun j => ?_) (fun j c u' hc hu => hv (j + 1) c u' (by simpa using hc) (by simpa using hu)) i
    rw [getD_set]
    simp only [upd]
    by_cases hj : j = p
    · subst hj
      rw [if_pos rfl, if_pos ⟨rfl, hp j (by simp)⟩]
      exact (hv 0 v u (by simp) (by simp)).share
    · rw [if_neg hj, if_neg (fun h => hj h.1)]; exact hA j
theorem setPs_plain : ∀ (ps : List Tmp) (vs : List AV) (A : Slots), (∀ i, (A i).plain = true) → ∀ i, (setPs A ps vs i).plain = true
  | [], _, _, h, i => by simpa [setPs] using h i
  | _ :: _, [], _, h, i => by simpa [setPs] using h i
  | p :: ps, v :: vs, A, h, i => by
    simp only [setPs]
    refine setPs_plain ps vs _ (fun j => ?_) i
    simp only [upd]; split
    · exact share_plain v
    · exact h j
theorem setPs_size : ∀ (l : List (Tmp × Value)) (tmps : Array Value), (l.foldl (fun t (p : Tmp × Value) => t.setIfInBounds p.1 p.2) tmps).size = tmps.size
  | [], _ => rfl
  | _ :: l, tmps => by simp only [List.foldl_cons]; rw [setPs_size l]; simp

def rndQ {X : Nat → Prop} (l : Nat) (L : Link) (R : Bool → Store → Env (AddX X l) → Prop) : Exit → Env X → Slots → Store → Prop
  | .normal, E, _, σ => R true σ (E.link l L .ready none)
  | .ret, E, _, σ => R false σ (E.link l L .done (some .ret))
  | .exit id, E, _, σ => R false σ (E.link l L .done (some (.exit id)))
  | .goto t, E, _, σ => R false σ (E.link l L .done (some (.goto t)))
  | _, _, _, _ => False

theorem AYields.of_round {P : Program} {X : Nat → Prop} {l : Nat} (hX : ¬ X l) {L : Link} {xs : List AV} (hlen : xs.length = L.ps.size) (hps : ∀ p ∈ L.ps.toList, p < L.n) (hpl : ∀ i, (L.A i).plain = true) {σ : Store} {E : Env X} {R : Bool → Store → Env (AddX X l) → Prop}
    (h : AWpY P L.n L.assign (thenY (AWpY P L.n L.body (rndQ l L R)) fun _ _ _ _ => False) E (setPs L.A L.ps.toList xs) σ) : AYields P (X := AddX X l) l xs σ (E.link l L .ready none) R := by
  intro D G w cargs h1 h2 h3 h4 h5
  obtain ⟨hE, fn, tmps, K, hl, hsz, hv⟩ := h5.env
  have hDl : ¬ D l := h5.out l (.inr rfl)
  refine ⟨fn, _, L.assign, L.body, run_yield hl (by simp; omega), ?_⟩
  refine roundIn_of_wpIn (F := Fence.wide) trivial ?_
  have hfold : (L.ps.zip cargs).foldl (fun tmps (p : Tmp × Value) => tmps.setIfInBounds p.1 p.2) tmps = (L.ps.toList.zip cargs.toList).foldl (fun tmps (p : Tmp × Value) => tmps.setIfInBounds p.1 p.2) tmps := by
    rw [← Array.foldl_toList, Array.toList_zip]
  have hR : RelY (some l) D L.n G (setPs L.A L.ps.toList xs) σ { tmps := (L.ps.zip cargs).foldl (fun tmps (p : Tmp × Value) => tmps.setIfInBounds p.1 p.2) tmps, defers := [] } w E := by
    refine ⟨⟨rfl, ?_, fun i => ?_, fun i => OwnAt.of_plain (setPs_plain _ _ _ hpl i), h3, h4⟩, ⟨fun k hk => h5.out k (.inl hk), fun k hk => h5.loops k (.inl hk), hE⟩, fun l' hl' => ?_⟩
    · show Array.size _ = _
      rw [hfold, setPs_size]; exact hsz
    · show VR G.F _ (Array.getD _ _ _)
      rw [hfold]
      exact setPs_VR _ _ _ _ _ (by simpa using h1) (fun p hp => by rw [hsz]; exact hps p hp) hv (fun i c u hc hu => (h2 i c u hc (by simpa using hu)).1) i
    · cases hl'; exact ⟨hDl, hX, _, hl⟩
  refine wpIn_mono (h (some l) D G _ w hR) fun e a1 w1 hl1 => ?_
  cases e with
  | normal => ?_
  | _ => obtain ⟨_, _, _, _, _, _, _, hf, _⟩ := hl1; exact hf.elim
  obtain ⟨D1, G1, A1, σ1, E1, new, d1, q, R1, x1, _⟩ := hl1
  have hl' : w1.heap[l]? = some (.loop { state := .ready, pending := none, fn := fn, tmps := tmps, params := L.ps, assign := L.assign, body := L.body, defers := K }) := by
    rw [(x1.block l (fun hh => hh.elim hDl hX)).1]; exact hl
  refine ⟨_, run_beginRound hl' rfl, ?_⟩
  generalize hw2 : w1.putObj l _ = w2
  have hl2 : w2.heap[l]? = some (.loop { state := .busy, pending := none, fn := fn, tmps := tmps, params := L.ps, assign := L.assign, body := L.body, defers := K }) := by
    rw [← hw2]; exact World.putObj_heap_same (Array.getElem?_eq_some_iff.1 hl').1
  have hX2 : ∀ j, X j → w2.heap[j]? = w1.heap[j]? := fun j hj => by rw [← hw2]; exact World.putObj_heap_other (fun e => hX (e ▸ hj))
  have x2 : Ext (OrX D (AddX X l)) G w G1 w2 := (x1.wide fun k hk => hk.imp id .inl).trans (by rw [← hw2]; exact Ext.putOut G1 w1 _ (.inr (.inr rfl)))
  have R2 : RelY (some l) D1 L.n G1 A1 σ1 a1 w2 E1 := by
    refine ⟨R1.rel.step (fun _ _ _ h => h) (fun _ _ _ _ _ _ h => h) (by rw [← hw2]; exact R1.rel.world.putOut hl' rfl) (by rw [← hw2]; simp), ⟨R1.sit.out, fun j hj => by rw [hX2 j hj]; exact R1.sit.loops j hj, E1.stable R1.sit.env (fun _ _ _ h => h) hX2⟩, fun l' hl'' => ?_⟩
    cases hl''; exact ⟨fun hd => hDl (d1 l hd), hX, _, hl2⟩
  refine wpIn_mono (q (some l) D1 G1 a1 w2 R2) fun e a3 w3 hl3 => ?_
  obtain ⟨D3, G3, A3, σ3, E3, new3, d3, q3, R3, x3, _⟩ := hl3
  have hl3 : w3.heap[l]? = some (.loop { state := .busy, pending := none, fn := fn, tmps := tmps, params := L.ps, assign := L.assign, body := L.body, defers := K }) := by
    rw [(x3.block l (fun hh => hh.elim (fun hd => hDl (d1 l hd)) hX)).1]; exact hl2
  have fin : ∀ (jump : Option Code), R jump.isNone σ3 (E3.link l L (if jump.isNone then .ready else .done) jump) → ∃ v w', (Instr.endRound l jump).run P w3 = .ok v w' ∧
      ∃ b G' σ' E', Ending.returned v = .returned (.bool b) ∧ R b σ' E' ∧ WR D G' σ' w' ∧ Ext (OrX D (AddX X l)) G w G' w' ∧ Sit E' D G' w' := by
    intro jump hRj
    refine ⟨_, _, run_endRound jump hl3, ?_⟩
    generalize hw4 : w3.putObj l _ = w4
    have hl4 : w4.heap[l]? = some (.loop { state := if jump.isNone then .ready else .done, pending := jump, fn := fn, tmps := tmps, params := L.ps, assign := L.assign, body := L.body, defers := K }) := by
      rw [← hw4]; exact World.putObj_heap_same (Array.getElem?_eq_some_iff.1 hl3).1
    have hX4 : ∀ j, X j → w4.heap[j]? = w3.heap[j]? := fun j hj => by rw [← hw4]; exact World.putObj_heap_other (fun e => hX (e ▸ hj))
    have x4 : Ext (OrX D (AddX X l)) G w G3 w4 := (x2.trans (x3.wide fun k hk => hk.imp (d1 k) .inl)).trans (by rw [← hw4]; exact Ext.putOut G3 w3 _ (.inr (.inr rfl)))
    refine ⟨jump.isNone, G3, σ3, _, rfl, hRj, (by rw [← hw4]; exact (R3.rel.world.putOut hl3 rfl).wide fun k hk => d1 k (d3 k hk)), x4, ⟨h5.out, fun k hk => ?_, ?_⟩⟩
    · rcases hk with hk | rfl
      · rw [hX4 k hk]; exact R3.sit.loops k hk
      · exact ⟨_, hl4⟩
    · exact ⟨E3.stable R3.sit.env (fun _ _ _ h => h) hX4, fn, tmps, K, hl4, hsz, fun i => (hv i).mono x4.frz⟩
  cases e with
  | normal => exact fin none q3
  | ret => exact fin (some .ret) q3
  | exit id => exact fin (some (.exit id)) q3
  | goto t => exact fin (some (.goto t)) q3
  | _ => exact q3.elim
end Go.AL
