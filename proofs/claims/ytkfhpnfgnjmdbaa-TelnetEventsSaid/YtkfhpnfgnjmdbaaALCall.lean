/-
  The abstract-state logic: calls; one operation of a region, with its guard and its slot.
-/
import Derived.Test.YtkfhpnfgnjmdbaaALEff4
import Derived.Orders
namespace Go.AL
open Go Go.RowKit Classical

/-- What a call comes to, of abstract arguments and of the store. -/
def ACalls (P : Program) (f : FuncId) (args : List AV) (σ : Store) (R : AV → Store → Prop) : Prop :=
  ∀ (D : Nat → Prop) (G : Ghost) (w : World) (cargs : Array Value), args.length = cargs.size →
    (∀ (i : Nat) (c : AV) (u : Value), args[i]? = some c → cargs[i]? = some u → VR G.F c u ∧ OwnAt G D (.arg i) c u) → WR D G σ w → (∀ k, w.heap.size ≤ k → D k) →
    Calls P f cargs w fun e w' => ∃ v cv G' σ', e = .returned cv ∧ R v σ' ∧ VR G'.F v cv ∧ OwnAt G' D .acc v cv ∧ WR D G' σ' w' ∧ Ext D G w G' w'

theorem ACalls.mono {P : Program} {f : FuncId} {args : List AV} {σ : Store} {R R' : AV → Store → Prop} (h : ACalls P f args σ R) (hr : ∀ v σ', R v σ' → R' v σ') : ACalls P f args σ R' :=
  fun D G w cargs h1 h2 h3 h4 => (h D G w cargs h1 h2 h3 h4).mono fun _ _ ⟨v, cv, G', σ', he, hR, rest⟩ => ⟨v, cv, G', σ', he, hr _ _ hR, rest⟩

/-- The call keeps the caller's slots. -/
theorem ACalls.frame {P : Program} {f : FuncId} {args : List AV} {σ : Store} {R : AV → Store → Prop} (hc : ACalls P f args σ R) {D : Nat → Prop} {n : Nat} {G : Ghost} {A : Slots} {a : Act} {w : World} (h : Rel D n G A σ a w)
    {cargs : Array Value} (hl : args.length = cargs.size) (hargs : ∀ (i : Nat) (c : AV) (u : Value), args[i]? = some c → cargs[i]? = some u → VR G.F c u ∧ OwnAt G D (.arg i) c u) :
    Calls P f cargs w fun e w' => ∃ v cv G' σ', e = .returned cv ∧ R v σ' ∧ VR G'.F v cv ∧ OwnAt G' D .acc v cv ∧ Rel D n G' A σ' a w' ∧ Ext D G w G' w' := by
  let Dc : Nat → Prop := fun k => w.heap.size ≤ k ∨ (∃ cs, σ k = some cs) ∨ (D k ∧ ∃ m z i j, G.S k = some (m, z, .arg i j)) ∨ (D k ∧ ∃ m z o j, G.S k = some (m, z, .obj o j))
  have hsub : ∀ k, Dc k → D k := by
    rintro k (h1 | ⟨cs, h2⟩ | h3 | h4)
    · exact h.fresh k h1
    · exact (h.world.obj k cs h2).1
    · exact h3.1
    · exact h4.1
  have own1 : ∀ {π : Place} {c : AV} {u : Value}, (∀ g m z, D g → G.S g = some (m, z, π) → Dc g) → Own1 G D π c u → Own1 G Dc π c u := by
    intro π c u hd ho
    unfold Own1 at *
    split at ho
    · obtain ⟨h1, z, h2, h3⟩ := ho
      exact ⟨hd _ _ _ h1 h2, z, h2, h3⟩
    · trivial
  have hW : WR Dc G σ w := by
    refine ⟨h.world.frz, h.world.own, fun o cs hcs => ?_⟩
    obtain ⟨h1, h2, h3, cur, e, h4, h5, h6⟩ := h.world.obj o cs hcs
    refine ⟨.inr (.inl ⟨cs, hcs⟩), h2, h3, cur, e, h4, h5, fun i c u hc hu => ?_⟩
    obtain ⟨q1, q2, q3⟩ := h6 i c u hc hu
    exact ⟨q1, q2, own1 (fun g m z hd hg => .inr (.inr (.inr ⟨hd, m, z, o, i, hg⟩))) q3⟩
  have hA : ∀ (i : Nat) (c : AV) (u : Value), args[i]? = some c → cargs[i]? = some u → VR G.F c u ∧ OwnAt G Dc (.arg i) c u := by
    intro i c u hci hui
    obtain ⟨q1, q2⟩ := hargs i c u hci hui
    refine ⟨q1, ?_⟩
    have hd : ∀ j g m z, D g → G.S g = some (m, z, .arg i j) → Dc g := fun j g m z hd hg => .inr (.inr (.inl ⟨hd, m, z, i, j, hg⟩))
    unfold OwnAt at q2 ⊢
    split at q2
    · exact fun j c u hc hu => own1 (hd j) (q2 j c u hc hu)
    · exact fun j c u hc hu => own1 (hd j) (q2 j c u hc hu)
    · exact own1 (hd 0) q2
  refine (hc Dc G w cargs hl hA hW (fun k hk => .inl hk)).mono ?_
  rintro e w' ⟨v, cv, G', σ', he, hR, hv, ho, hW', hext⟩
  refine ⟨v, cv, G', σ', he, hR, hv, ho.wide hsub, h.step hext.frz (fun g m z i j hd hg => ?_) (hW'.wide hsub) hext.size, hext.wide hsub⟩
  have hnot : ¬ Dc g := by
    obtain ⟨q1, ⟨c, e', q2, _⟩, _⟩ := h.world.own g m z _ hg
    rintro (h1 | ⟨cs, h2⟩ | ⟨_, m', z', i', j', h3⟩ | ⟨_, m', z', i', j', h3⟩)
    · have := (Array.getElem?_eq_some_iff.1 q2).1; omega
    · rw [q1] at h2; cases h2
    · rw [hg] at h3; simp at h3
    · rw [hg] at h3; simp at h3
  rw [(hext.block g hnot).2.1]; exact hg

/-! ### The arguments -/
def takeArgs (P : Program) : List Operand → List TypeId → Slots → (List AV → Slots → Prop) → Prop
  | [], _, A, K => K [] A
  | x :: xs, ts, A, K => takeA A x fun v A' => takeArgs P xs ts.tail A' fun vs A'' => K (conv P (ts.headD 0) v :: vs) A''

def toArg (i : Nat) : Place → Place
  | .acc j => .arg i j
  | π => π

theorem takeArgs_sound {P : Program} {D : Nat → Prop} {n : Nat} {σ : Store} {a : Act} {w : World} : ∀ (xs : List Operand) (ts : List TypeId) (k : Nat) {G : Ghost} {A : Slots} {K : List AV → Slots → Prop}, Rel D n G A σ a w → takeArgs P xs ts A K →
    ∃ vs A' G', K vs A' ∧ Rel D n G' A' σ a w ∧ vs.length = xs.length ∧ (∀ (i : Nat) (c : AV) (x : Operand), vs[i]? = some c → xs[i]? = some x → VR G'.F c (a.eval x) ∧ OwnAt G' D (.arg (k + i)) c (a.eval x)) ∧ Ext D G w G' w ∧
      G'.F = G.F ∧ ∀ g m z i j, i < k → D g → G.S g = some (m, z, .arg i j) → G'.S g = some (m, z, .arg i j)
  | [], _, k, G, A, K, h, hK => ⟨[], A, G, hK, h, rfl, by simp, Ext.refl .., rfl, fun _ _ _ _ _ _ _ h => h⟩
  | x :: xs, ts, k, G, A, K, h, hK => by
    have step : ∃ v A1 G1, (takeArgs P xs ts.tail A1 fun vs A'' => K (conv P (ts.headD 0) v :: vs) A'') ∧ Rel D n G1 A1 σ a w ∧ VR G1.F v (a.eval x) ∧ OwnAt G1 D (.arg k) v (a.eval x) ∧ Ext D G w G1 w ∧ G1.F = G.F ∧
        ∀ g m z i j, i < k → D g → G.S g = some (m, z, .arg i j) → G1.S g = some (m, z, .arg i j) := by
      have plain : ∀ y : Operand, (evalA A y).plain = true → (takeArgs P xs ts.tail A fun vs A'' => K (conv P (ts.headD 0) (evalA A y) :: vs) A'') → y = x → ∃ v A1 G1, (takeArgs P xs ts.tail A1 fun vs A'' => K (conv P (ts.headD 0) v :: vs) A'') ∧ Rel D n G1 A1 σ a w ∧ VR G1.F v (a.eval x) ∧ OwnAt G1 D (.arg k) v (a.eval x) ∧ Ext D G w G1 w ∧ G1.F = G.F ∧
          ∀ g m z i j, i < k → D g → G.S g = some (m, z, .arg i j) → G1.S g = some (m, z, .arg i j) := by
        rintro y hp hk rfl
        exact ⟨_, A, G, hk, h, h.eval y, OwnAt.of_plain hp, Ext.refl .., rfl, fun _ _ _ _ _ _ _ h => h⟩
      cases x with
      | const c => exact plain (.const c) rfl hK rfl
      | global g => exact plain (.global g) rfl hK rfl
      | func f => exact plain (.func f) rfl hK rfl
      | tmp t =>
        let f : Place → Place := fun π => match π with | .slot i j => if i = t then .arg k j else .slot i j | π => π
        refine ⟨A t, _, G.mv D f, hK, ⟨h.defers, h.size, fun i => ?_, fun i => ?_, h.world.mv _ (fun _ _ => rfl), h.fresh⟩, h.val t, ?_, Ext.mv .., rfl, fun g m z i j _ hd hg => by rw [Ghost.mv_some hd hg]⟩
        · simp only [upd]; split
          · rename_i hi; subst hi; exact (h.val i).share
          · exact h.val i
        · simp only [upd]; split
          · exact OwnAt.share ..
          · rename_i hi
            exact (h.own i).re fun g m z j hd hg => by rw [Ghost.mv_some hd hg]; simp [f, hi]
        · exact (h.own t).re fun g m z j hd hg => by rw [Ghost.mv_some hd hg]; simp [f]
    obtain ⟨v, A1, G1, hk1, hR1, hv1, ho1, hext1, hF1, hkeep1⟩ := step
    obtain ⟨vs, A', G', hk', hR', hl', hvs', hext', hF', hkeep'⟩ := takeArgs_sound xs ts.tail (k + 1) hR1 hk1
    refine ⟨conv P (ts.headD 0) v :: vs, A', G', hk', hR', by simp [hl'], fun i c y hc hy => ?_, hext1.trans hext', hF'.trans hF1, fun g m z i j hi hd hg => hkeep' g m z i j (by omega) hd (hkeep1 g m z i j hi hd hg)⟩
    cases i with
    | zero =>
      simp at hc hy; subst hc hy
      refine ⟨conv_VR (by rw [hF']; exact hv1), conv_own (F := G1.F) hv1 (ho1.re fun g m z j hd hg => hkeep' g m z k j (by omega) hd hg)⟩
    | succ i =>
      simp at hc hy
      have := hvs' i c y hc hy
      rwa [show k + 1 + i = k + (i + 1) from by omega] at this

/-! ### One operation: as it stands, or a call -/
def callable (P : Program) (f : FuncId) : Bool :=
  match P.funcs[f]? with
  | some fn => fn.body.isSome && !(fn.name == "runtime.NumGoroutine")
  | none => false

/-- An entry of the model's own, that leaves the world as it is. -/
def AExt (P : Program) (f : FuncId) (args : List AV) (σ : Store) (R : AV → Store → Prop) : Prop :=
  ∀ (D : Nat → Prop) (G : Ghost) (w : World) (cargs : Array Value), args.length = cargs.size → (∀ (i : Nat) (c : AV) (u : Value), args[i]? = some c → cargs[i]? = some u → VR G.F c u) → WR D G σ w →
    ∃ v cv, (callFunc f cargs).run P w = .ok (.value cv) w ∧ v.plain = true ∧ VR G.F v cv ∧ R v σ
theorem AExt.mono {P : Program} {f : FuncId} {args : List AV} {σ : Store} {R R' : AV → Store → Prop} (h : AExt P f args σ R) (hr : ∀ v σ', R v σ' → R' v σ') : AExt P f args σ R' :=
  fun D G w cargs h1 h2 h3 => let ⟨v, cv, q1, q2, q3, q4⟩ := h D G w cargs h1 h2 h3; ⟨v, cv, q1, q2, q3, hr _ _ q4⟩
def ACallX (P : Program) (f : FuncId) (args : List AV) (σ : Store) (R : AV → Store → Prop) : Prop := if callable P f = true then ACalls P f args σ R else AExt P f args σ R
theorem ACallX.mono {P : Program} {f : FuncId} {args : List AV} {σ : Store} {R R' : AV → Store → Prop} (h : ACallX P f args σ R) (hr : ∀ v σ', R v σ' → R' v σ') : ACallX P f args σ R' := by
  unfold ACallX at *
  split at h
  · rename_i hc; rw [if_pos hc]; exact h.mono hr
  · rename_i hc; rw [if_neg hc]; exact h.mono hr

def aoper (P : Program) (st : List Tmp) (o : Oper) (A : Slots) (σ : Store) (K : AV → Slots → Store → Prop) : Prop :=
  match o.op with
  | .call c => match c.callee with
    | .value f => match evalA A f with
      | .func (.func f) first captured => takeArgs P c.args.toList c.argTypes.toList A fun vs A' => ACallX P f (first.map AV.share ++ vs ++ captured.map AV.share) σ fun v σ' => K v A' σ'
      | _ => False
    | _ => astep P st o A σ K
  | _ => astep P st o A σ K

theorem run_callFunc {P : Program} {f : FuncId} (h : callable P f = true) (args : Array Value) (w : World) : (callFunc f args).run P w = .ok (.enter f args) w := by
  unfold callable at h
  cases hf : P.funcs[f]? with
  | none => simp [hf] at h
  | some fn =>
    simp [hf] at h
    obtain ⟨h1, h2⟩ := h
    obtain ⟨b, hb⟩ := Option.isSome_iff_exists.1 h1
    simp [callFunc, hf, hb, h2]

theorem plain_list {vs : List AV} {F : Frz} {us : Array Value} (h : ∀ (i : Nat) (c : AV) (u : Value), vs[i]? = some c → us[i]? = some u → VR F c u) (G : Ghost) (D : Nat → Prop) (r : Nat → Nat → Place) :
    ∀ (i : Nat) (c : AV) (u : Value), (vs.map AV.share)[i]? = some c → us[i]? = some u → VR F c u ∧ OwnAt G D (r i) c u := by
  intro i c u hc hu
  rw [List.getElem?_map] at hc
  cases hv : vs[i]? with
  | none => simp [hv] at hc
  | some v => simp [hv] at hc; subst hc; exact ⟨(h i v u hv hu).share, OwnAt.share ..⟩

end Go.AL
