/-
  The abstract-state logic: code in a round of a range over a function; yields; what lies outside the footprint: the loops' records.
-/
import Derived.Test.YtkfhpnfgnjmdbaaALBytes
import Derived.OrdersIn
import Derived.RangeFuncIn
import Derived.RangeFuncLeaves
namespace Go.AL
open Go Go.RowKit Classical

/-- No fence; in a round, or in none. -/
def Fw (ρ : Option Nat) : Fence := { Fence.wide with round := ρ }
theorem room_Fw (ρ : Option Nat) (n : Nat) : (Fw ρ).room n := fun _ h => by simp [Fw, Fence.wide] at h
theorem callsIn_Fw {ρ : Option Nat} {n : Nat} {P : Program} {f : FuncId} {args : Array Value} {w : World} {R : Ending → World → Prop} : CallsIn (Fw ρ) n P f args w R ↔ Calls P f args w R :=
  callsIn_wide (n := n)
theorem CallsIn.mono' {F : Fence} {n : Nat} {P : Program} {f : FuncId} {args : Array Value} {w : World} {R R' : Ending → World → Prop} (h : CallsIn F n P f args w R) (hr : ∀ e w, R e w → R' e w) : CallsIn F n P f args w R' :=
  ⟨h.1, fun cs hc => let ⟨e, w', fr, r, s, x⟩ := h.2 cs hc; ⟨e, w', fr, hr _ _ r, s, x⟩⟩

theorem not_defer {P : Program} {st : List Tmp} {o : Oper} {A : Slots} {σ : Store} {K : AV → Slots → Store → Prop} (h : aoper P st o A σ K) : ∀ c, o.op ≠ .defer c := by
  intro c hc
  unfold aoper at h
  rw [hc] at h
  unfold astep at h
  rw [hc] at h
  dsimp only at h
  unfold apure at h
  rw [hc] at h
  exact h

/-- An operation that the plain logic takes is taken in a round, too, and with deferred calls about. -/
theorem wpIn_of_wp {P : Program} {o : Oper} (hd : ∀ c, o.op ≠ .defer c) {ρ : Option Nat} {a : Act} {w : World} {next : Act → World → Prop} {Q' : Exit → Act → World → Prop} (hn : ∀ a' w', next a' w' → a'.defers = []) (h : o.wp P { a with defers := [] } w next fun _ _ _ => False) :
    o.wpIn (Fw ρ) 0 P a w (fun a' w' => next { a' with defers := [] } w' ∧ a'.defers = a.defers) Q' := by
  refine ⟨fun _ _ => trivial, ?_⟩
  rw [Oper.semAt_eq _ _ _ hd]
  unfold Oper.wp at h
  have he : ({ a with defers := [] } : Act).eval = a.eval := rfl
  rw [he] at h
  have hp : ∀ v, ({ a with defers := [] } : Act).put o.dst v = { a.put o.dst v with defers := [] } := fun v => by unfold Act.put; cases o.dst <;> rfl
  have hp2 : ∀ v, (a.put o.dst v).defers = a.defers := fun v => by unfold Act.put; cases o.dst <;> rfl
  generalize (execOp a.eval o).run P w = r at *
  cases r with
  | ok x w' =>
    cases x with
    | value v => rw [Oper.upon_value, hp] at h; exact ⟨h, hp2 v⟩
    | skip => rw [Oper.upon_skip, hp] at h; exact ⟨h, hp2 _⟩
    | defer d =>
      exfalso
      rw [Oper.upon_defer] at h
      have := hn _ _ h
      revert this
      unfold Act.put
      cases o.dst <;> simp
    | enter f args =>
      rw [Oper.upon_enter] at h
      refine ⟨fun hx => by simp [Fw, Fence.wide] at hx, callsIn_Fw.2 (h.mono fun e w'' hh => ?_)⟩
      cases e with
      | returned v => dsimp only at hh ⊢; rw [hp] at hh; exact ⟨hh, hp2 v⟩
      | panicked chain => exact hh.elim
      | outgrown => obtain ⟨_, _, hf⟩ := hh; exact hf.elim
    | row rw' args =>
      rw [Oper.upon_row] at h
      refine ⟨fun hx => by simp [Fw, Fence.wide] at hx, fun c cs _ => ?_⟩
      obtain ⟨v, w'', q1, q2⟩ := h c cs
      rw [hp] at q1
      exact ⟨v, w'', ⟨q1, hp2 v⟩, stepsIn_wide.2 q2⟩
    | _ => exact h.elim
  | halt x w' =>
    cases x with
    | panic v => exact h.elim
    | _ => exact h.elim

/-- The relation, whatever calls are deferred. -/
abbrev bare (a : Act) : Act := { a with defers := [] }
theorem lift_defers {D : Nat → Prop} {n : Nat} {G : Ghost} {w : World} {Q : Slots → Store → Prop} {a' : Act} {w' : World} (h : lift D n G w Q a' w') : a'.defers = [] := by
  obtain ⟨_, _, _, _, h, _⟩ := h; exact h.defers

theorem estepIn_sound {P : Program} {st : List Tmp} {D : Nat → Prop} {n : Nat} {G : Ghost} {A : Slots} {σ : Store} {a : Act} {w : World} {ρ : Option Nat} (h : Rel D n G A σ (bare a) w) {ops : Array Oper} (hn : ∀ o ∈ ops.toList, dstOk n o = true) {i : Nat} {K : Slots → Store → Prop}
    (hK : estep P st ops i K A σ) (Q : Exit → Act → World → Prop) : wpOpIn (Fw ρ) 0 P ops Q i (fun a' w' => lift D n G w K (bare a') w' ∧ a'.defers = a.defers) a w := by
  unfold estep at hK
  unfold wpOpIn
  cases ho : ops[i]? with
  | none => rw [ho] at hK; exact hK.elim
  | some o =>
    rw [ho] at hK
    dsimp only at hK ⊢
    have hd : ∀ d, o.dst = some d → d < n := fun d hd => by
      have := hn o (by have := Array.mem_of_getElem? ho; simpa using this)
      simpa [dstOk, hd] using this
    have run : (aoper P st o A σ fun v A' σ' => K (aput A' o.dst v) σ') → o.wpIn (Fw ρ) 0 P a w (fun a' w' => lift D n G w K (bare a') w' ∧ a'.defers = a.defers) Q := fun hk => by
      refine wpIn_of_wp (not_defer hk) (fun a' w' hl => lift_defers hl) ?_
      refine Oper.wp_mono (fun a' w' hl => ?_) (aoper_sound h hk hd _)
      obtain ⟨G', A', σ', ⟨v, A0, h1, rfl⟩, h2, h3⟩ := hl
      exact ⟨G', _, σ', h1, h2, h3⟩
    split at hK
    · rename_i hg
      have hw : Region.wanted o (yielded ops a.tmps) = true := by simp [Region.wanted, hg]
      rw [if_pos hw]
      exact run hK
    · rename_i j want hg
      split at hK
      case h_2 => exact hK.elim
      rename_i b hy
      have hyy := yielded_of h hn hy
      have hw : Region.wanted o (yielded ops a.tmps) = (b == want) := by simp only [Region.wanted, hg]; have : yielded ops a.tmps j = some b := hyy; rw [this]; cases b <;> cases want <;> rfl
      split at hK
      · rename_i hb
        rw [if_pos (by rw [hw]; simp [hb])]
        exact run hK
      · rename_i hb
        rw [if_neg (by rw [hw]; simp [hb])]
        obtain ⟨G2, h1, h2⟩ := h.aput (.top undef) (OwnAt.of_plain (r := .acc) rfl) hd
        refine ⟨fun _ _ => trivial, ⟨G2, _, σ, hK, ?_, h2⟩, by unfold Act.put; cases o.dst <;> rfl⟩
        have : bare (a.put o.dst undef) = (bare a).put o.dst undef := by unfold Act.put; cases o.dst <;> rfl
        rw [this]; exact h1

theorem aopsIn_sound {P : Program} {st : List Tmp} {D : Nat → Prop} {n : Nat} {ops : Array Oper} {ρ : Option Nat} (hn : ∀ o ∈ ops.toList, dstOk n o = true) {Q : Slots → Store → Prop} {Q' : Exit → Act → World → Prop} {ds : List Deferred} :
    ∀ (l : List Nat) {G0 G : Ghost} {w0 : World} {A : Slots} {σ : Store} {a : Act} {w : World}, (∀ a' w', lift D n G0 w0 Q (bare a') w' → a'.defers = ds → Q' .normal a' w') → Ext D G0 w0 G w → Rel D n G A σ (bare a) w → a.defers = ds → aops P st ops Q l A σ → wpOpsIn (Fw ρ) 0 P ops Q' l a w
  | [], G0, G, w0, A, σ, a, w, hq, hext, hR, hds, h => hq a w ⟨G, A, σ, h, hR, hext⟩ hds
  | i :: rest, G0, G, w0, A, σ, a, w, hq, hext, hR, hds, h => by
    rw [wpOpsIn_cons]
    refine wpOpIn_mono (fun a' w' hl => ?_) (estepIn_sound hR hn h Q')
    obtain ⟨⟨G', A', σ', h1, h2, h3⟩, h4⟩ := hl
    exact aopsIn_sound hn rest hq (hext.trans h3) h2 (h4.trans hds) h1

theorem aAnyIn_sound {P : Program} {st : List Tmp} {D : Nat → Prop} {n : Nat} {ops : Array Oper} {ρ : Option Nat} (hn : ∀ o ∈ ops.toList, dstOk n o = true) {Q : Slots → Store → Prop} {Q' : Exit → Act → World → Prop} {ds : List Deferred} :
    ∀ (fuel : Nat) (listed : Array Bool) {G0 G : Ghost} {w0 : World} {A : Slots} {σ : Store} {a : Act} {w : World}, (∀ a' w', lift D n G0 w0 Q (bare a') w' → a'.defers = ds → Q' .normal a' w') → Ext D G0 w0 G w → Rel D n G A σ (bare a) w → a.defers = ds → aAny P st ops Q fuel listed A σ →
      wpAnyIn (Fw ρ) 0 P .any ops Q' fuel listed a w
  | 0, listed, G0, G, w0, A, σ, a, w, hq, hext, hR, hds, h => ⟨h.1, hq a w ⟨G, A, σ, h.2, hR, hext⟩ hds⟩
  | fuel + 1, listed, G0, G, w0, A, σ, a, w, hq, hext, hR, hds, h => by
    refine ⟨fun hr => hq a w ⟨G, A, σ, h.1 hr, hR, hext⟩ hds, fun i hi => ?_⟩
    refine wpOpIn_mono (fun a' w' hl => ?_) (estepIn_sound hR hn (h.2 i hi) Q')
    obtain ⟨⟨G', A', σ', h1, h2, h3⟩, h4⟩ := hl
    exact aAnyIn_sound hn fuel _ hq (hext.trans h3) h2 (h4.trans hds) h1

/-! ### What lies outside the footprint -/
/-- What is known of the blocks X (loops' records, of whom this code may ask rounds). -/
structure Env (X : Nat → Prop) where
  holds : Frz → World → Prop
  stable : ∀ {F F' : Frz} {w w' : World}, holds F w → (∀ g i u, F g i = some u → F' g i = some u) → (∀ k, X k → w'.heap[k]? = w.heap[k]?) → holds F' w'

structure Sit {X : Nat → Prop} (E : Env X) (D : Nat → Prop) (G : Ghost) (w : World) : Prop where
  out : ∀ k, X k → ¬ D k
  loops : ∀ k, X k → ∃ r, w.heap[k]? = some (.loop r)
  env : E.holds G.F w
theorem Sit.step {X : Nat → Prop} {E : Env X} {D : Nat → Prop} {G G' : Ghost} {w w' : World} (h : Sit E D G w) (hx : Ext D G w G' w') : Sit E D G' w' :=
  ⟨h.out, fun k hk => by rw [(hx.block k (h.out k hk)).1]; exact h.loops k hk, E.stable h.env hx.frz fun k hk => (hx.block k (h.out k hk)).1⟩
theorem Sit.less {X : Nat → Prop} {E : Env X} {D D' : Nat → Prop} {G : Ghost} {w : World} (h : Sit E D G w) (hd : ∀ k, D' k → D k) : Sit E D' G w :=
  ⟨fun k hk h' => h.out k hk (hd k h'), h.loops, h.env⟩
theorem Sit.more {X : Nat → Prop} {E : Env X} {D D' : Nat → Prop} {G : Ghost} {w : World} (h : Sit E D' G w) (ho : ∀ k, X k → ¬ D k) : Sit E D G w := ⟨ho, h.loops, h.env⟩

def OrX (D X : Nat → Prop) : Nat → Prop := fun k => D k ∨ X k
theorem Ext.orX {D X : Nat → Prop} {G G' : Ghost} {w w' : World} (h : Ext D G w G' w') : Ext (OrX D X) G w G' w' := h.wide fun _ h => .inl h
theorem OrX.mono {D D' X : Nat → Prop} (h : ∀ k, D' k → D k) : ∀ k, OrX D' X k → OrX D X k := fun _ hk => hk.imp (h _) id

/-- What a call comes to, that may ask rounds of the loops X. -/
def ACallsY (P : Program) {X : Nat → Prop} (f : FuncId) (args : List AV) (σ : Store) (E : Env X) (R : AV → Store → Env X → Prop) : Prop :=
  ∀ (D : Nat → Prop) (G : Ghost) (w : World) (cargs : Array Value), args.length = cargs.size →
    (∀ (i : Nat) (c : AV) (u : Value), args[i]? = some c → cargs[i]? = some u → VR G.F c u ∧ OwnAt G D (.arg i) c u) → WR D G σ w → (∀ k, w.heap.size ≤ k → D k) → Sit E D G w →
    Calls P f cargs w fun e w' => ∃ v cv G' σ' E', e = .returned cv ∧ R v σ' E' ∧ VR G'.F v cv ∧ OwnAt G' D .acc v cv ∧ WR D G' σ' w' ∧ Ext (OrX D X) G w G' w' ∧ Sit E' D G' w'

/-- What one round comes to. -/
def AYields (P : Program) {X : Nat → Prop} (l : Nat) (args : List AV) (σ : Store) (E : Env X) (R : Bool → Store → Env X → Prop) : Prop :=
  ∀ (D : Nat → Prop) (G : Ghost) (w : World) (cargs : Array Value), args.length = cargs.size →
    (∀ (i : Nat) (c : AV) (u : Value), args[i]? = some c → cargs[i]? = some u → VR G.F c u ∧ OwnAt G D (.arg i) c u) → WR D G σ w → (∀ k, w.heap.size ≤ k → D k) → Sit E D G w →
    ∃ f tmps assign body, (Instr.yield l cargs).run P w = .ok (.round l f tmps assign body) w ∧
      RoundIn Fence.wide 0 P l f tmps assign body w fun e w' => ∃ b G' σ' E', e = .returned (.bool b) ∧ R b σ' E' ∧ WR D G' σ' w' ∧ Ext (OrX D X) G w G' w' ∧ Sit E' D G' w'

theorem ACallsY.mono {P : Program} {X : Nat → Prop} {f : FuncId} {args : List AV} {σ : Store} {E : Env X} {R R' : AV → Store → Env X → Prop} (h : ACallsY P f args σ E R) (hr : ∀ v σ' E', R v σ' E' → R' v σ' E') : ACallsY P f args σ E R' :=
  fun D G w cargs h1 h2 h3 h4 h5 => (h D G w cargs h1 h2 h3 h4 h5).mono fun _ _ ⟨v, cv, G', σ', E', he, hR, rest⟩ => ⟨v, cv, G', σ', E', he, hr _ _ _ hR, rest⟩
theorem AYields.mono {P : Program} {X : Nat → Prop} {l : Nat} {args : List AV} {σ : Store} {E : Env X} {R R' : Bool → Store → Env X → Prop} (h : AYields P l args σ E R) (hr : ∀ v σ' E', R v σ' E' → R' v σ' E') : AYields P l args σ E R' :=
  fun D G w cargs h1 h2 h3 h4 h5 => let ⟨f, t, a, b, q1, q2⟩ := h D G w cargs h1 h2 h3 h4 h5; ⟨f, t, a, b, q1, q2.mono fun _ _ ⟨v, G', σ', E', he, hR, rest⟩ => ⟨v, G', σ', E', he, hr _ _ _ hR, rest⟩⟩

/-- The store behind a round: what the round leaves, and what lay apart. -/
def Store.over (τ' τ σ : Store) : Store := fun o => match τ' o with
  | some cs => some cs
  | none => if (τ o).isSome then none else σ o
/-- The round touches nothing that lies apart. -/
def Apart (τ' τ σ : Store) : Prop := ∀ o, τ o = none → σ o ≠ none → τ' o = none
end Go.AL
