/-
  The abstract-state logic: how the relation to the world is kept by a new row, by a write into an own row, by the freezing of cells, by a store into an object.
-/
import Derived.Test.YtkfhpnfgnjmdbaaALCore
import Derived.Laws.AppendOwn
namespace Go.AL
open Go Go.RowKit Classical

noncomputable def Ghost.mv (G : Ghost) (D : Nat → Prop) (f : Place → Place) : Ghost :=
  { G with S := fun g => if D g then (G.S g).map fun e => (e.1, e.2.1, f e.2.2) else G.S g }

theorem Ghost.mv_some {G : Ghost} {D : Nat → Prop} {f : Place → Place} {g n z : Nat} {π : Place} (hd : D g) (h : G.S g = some (n, z, π)) : (G.mv D f).S g = some (n, z, f π) := by
  simp [Ghost.mv, hd, h]
theorem Ghost.mv_back {G : Ghost} {D : Nat → Prop} {f : Place → Place} {g n z : Nat} {π : Place} (h : (G.mv D f).S g = some (n, z, π)) : ∃ π', G.S g = some (n, z, π') := by
  simp only [Ghost.mv] at h
  split at h
  · cases hg : G.S g with
    | none => simp [hg] at h
    | some e => simp [hg] at h; obtain ⟨rfl, rfl, _⟩ := h; exact ⟨e.2.2, rfl⟩
  · exact ⟨π, h⟩
theorem Ghost.mv_none {G : Ghost} {D : Nat → Prop} {f : Place → Place} {g : Nat} (h : G.S g = none) : (G.mv D f).S g = none := by
  simp [Ghost.mv, h]

/-- Rights may change hands, as long as no object's cell loses its own. -/
theorem WR.reS {D : Nat → Prop} {G G' : Ghost} {σ : Store} {w : World} (h : WR D G σ w) (hF : G'.F = G.F)
    (hb : ∀ g n z π, G'.S g = some (n, z, π) → ∃ π', G.S g = some (n, z, π'))
    (ho : ∀ g n z o i, D g → σ o ≠ none → G.S g = some (n, z, .obj o i) → G'.S g = some (n, z, .obj o i)) : WR D G' σ w := by
  refine ⟨by rw [hF]; exact h.frz, fun g n z π hg => ?_, fun o cs hcs => ?_⟩
  · obtain ⟨π', hg'⟩ := hb g n z π hg
    rw [hF]; exact h.own g n z π' hg'
  · obtain ⟨h1, h2, h3, cur, e, h4, h5, h6⟩ := h.obj o cs hcs
    refine ⟨h1, ?_, by rw [hF]; exact h3, cur, e, h4, h5, fun i c u hc hu => ?_⟩
    · cases hs : G'.S o with
      | none => rfl
      | some x => obtain ⟨π', hx⟩ := hb o x.1 x.2.1 x.2.2 hs; simp [h2] at hx
    · obtain ⟨p, q, r⟩ := h6 i c u hc hu
      exact ⟨p, by rw [hF]; exact q, r.same fun g n z hd hg => ho g n z o i hd (by rw [hcs]; simp) hg⟩

theorem WR.mv {D : Nat → Prop} {G : Ghost} {σ : Store} {w : World} (h : WR D G σ w) (f : Place → Place) (hf : ∀ o i, f (.obj o i) = .obj o i) : WR D (G.mv D f) σ w :=
  h.reS rfl (fun _ _ _ _ hg => Ghost.mv_back hg) (fun g n z o i hd _ hg => by rw [Ghost.mv_some hd hg, hf])
theorem WR.mvOf {D : Nat → Prop} {G : Ghost} {σ : Store} {w : World} (h : WR D G σ w) (f : Place → Place) (hf : ∀ o i, σ o ≠ none → f (.obj o i) = .obj o i) : WR D (G.mv D f) σ w :=
  h.reS rfl (fun _ _ _ _ hg => Ghost.mv_back hg) (fun g n z o i hd ho hg => by rw [Ghost.mv_some hd hg, hf _ _ ho])

theorem Ext.mv {D : Nat → Prop} (G : Ghost) (w : World) (f : Place → Place) : Ext D G w (G.mv D f) w :=
  ⟨rfl, rfl, rfl, Nat.le_refl _, fun _ _ _ h => h, fun k hk => ⟨rfl, by simp [Ghost.mv, hk], rfl⟩⟩

theorem getD_set (ts : Array Value) (d i : Nat) (v : Value) : (ts.setIfInBounds d v).getD i undef = if i = d ∧ d < ts.size then v else ts.getD i undef := by
  simp only [Array.getD_eq_getD_getElem?, Array.getElem?_setIfInBounds]
  by_cases h : d = i
  · subst h
    by_cases hd : d < ts.size
    · simp [hd]
    · simp [hd]
  · rw [if_neg h, if_neg (by intro hh; exact h hh.1.symm)]

/-- From the accumulator into a slot. -/
def toSlot (d : Nat) : Place → Place
  | .acc j => .slot d j
  | π => π

theorem Rel.put {D : Nat → Prop} {n : Nat} {G : Ghost} {A : Slots} {σ : Store} {a : Act} {w : World} (h : Rel D n G A σ a w) {v : AV} {cv : Value} (hv : VR G.F v cv) (ho : OwnAt G D .acc v cv)
    {d : Nat} (hd : d < n) : Rel D n (G.mv D (toSlot d)) (upd A d v) σ (a.put (some d) cv) w := by
  have hsz := h.size
  refine ⟨h.defers, by simp [Act.put, hsz], fun i => ?_, fun i => ?_, h.world.mv _ (fun _ _ => rfl), h.fresh⟩
  · simp only [Act.put, getD_set, upd, hsz]
    by_cases hi : i = d
    · simp only [hi, hd, and_self, if_true]; exact hv
    · simp only [hi, false_and, if_false]; exact h.val i
  · simp only [Act.put, getD_set, upd, hsz]
    by_cases hi : i = d
    · simp only [hi, hd, and_self, if_true]
      exact ho.re fun g n z j hg hs => Ghost.mv_some hg hs
    · simp only [hi, false_and, if_false]
      exact (h.own i).re fun g n z j hg hs => Ghost.mv_some hg hs

/-- A slot may be known less well. -/
theorem Rel.forget {D : Nat → Prop} {n : Nat} {G : Ghost} {A : Slots} {σ : Store} {a : Act} {w : World} (h : Rel D n G A σ a w) (A' : Slots)
    (hv : ∀ i v, VR G.F (A i) v → VR G.F (A' i) v) (ho : ∀ i v, OwnAt G D (.slot i) (A i) v → OwnAt G D (.slot i) (A' i) v) : Rel D n G A' σ a w :=
  ⟨h.defers, h.size, fun i => hv i _ (h.val i), fun i => ho i _ (h.own i), h.world, h.fresh⟩

/-- From a slot into the accumulator. -/
def fromSlot (t : Nat) : Place → Place
  | .slot i j => if i = t then .acc j else .slot i j
  | π => π

theorem Rel.take {D : Nat → Prop} {n : Nat} {G : Ghost} {A : Slots} {σ : Store} {a : Act} {w : World} (h : Rel D n G A σ a w) (t : Nat) :
    Rel D n (G.mv D (fromSlot t)) (upd A t (A t).share) σ a w ∧ OwnAt (G.mv D (fromSlot t)) D .acc (A t) (a.tmps.getD t undef) := by
  refine ⟨⟨h.defers, h.size, fun i => ?_, fun i => ?_, h.world.mv _ (fun _ _ => rfl), h.fresh⟩, ?_⟩
  · simp only [upd]; split
    · rename_i hi; subst hi; exact (h.val i).share
    · exact h.val i
  · simp only [upd]; split
    · exact OwnAt.share ..
    · rename_i hi
      exact (h.own i).re fun g n z j hg hs => by rw [Ghost.mv_some hg hs]; simp [fromSlot, hi]
  · exact (h.own t).re fun g n z j hg hs => by rw [Ghost.mv_some hg hs]; simp [fromSlot]

/-! ### Frozen cells -/
def Frz.put (F : Frz) (g off : Nat) (us : List Value) : Frz := fun k i => if k = g ∧ off ≤ i ∧ i < off + us.length then us[i - off]? else F k i

theorem Frz.put_mono {F : Frz} {g off : Nat} {us : List Value} (h : ∀ i, off ≤ i → F g i = none) (k i : Nat) (u : Value) (hu : F k i = some u) : F.put g off us k i = some u := by
  unfold Frz.put
  split
  · rename_i hc; obtain ⟨rfl, h1, _⟩ := hc; simp [h i h1] at hu
  · exact hu
theorem Frz.put_at (F : Frz) (g off : Nat) (us : List Value) (i : Nat) (u : Value) (hu : us[i]? = some u) : F.put g off us g (off + i) = some u := by
  have hlt : i < us.length := (List.getElem?_eq_some_iff.1 hu).1
  unfold Frz.put
  rw [if_pos ⟨rfl, by omega, by omega⟩]
  simpa using hu
theorem Frz.put_other {F : Frz} {g off : Nat} {us : List Value} {k : Nat} (h : k ≠ g) : F.put g off us k = F k := by
  funext i; simp [Frz.put, h]
theorem Frz.put_above {F : Frz} {g off : Nat} {us : List Value} {i : Nat} (hi : off + us.length ≤ i) : F.put g off us g i = F g i := by
  unfold Frz.put; rw [if_neg (by omega)]

/-- One block's entry. -/
noncomputable def Ghost.setS (G : Ghost) (g : Nat) (x : Nat × Nat × Place) : Ghost := { G with S := fun k => if k = g then some x else G.S k }

/-- The cells behind the front of an own row become frozen; the front moves. -/
theorem WR.freeze {D : Nat → Prop} {G : Ghost} {σ : Store} {w : World} (h : WR D G σ w) {g n z : Nat} {π : Place} (hS : G.S g = some (n, z, π)) (hπ : ∀ o i, π ≠ .obj o i)
    {cur : Array Value} {e : TypeId} {fz : Nat × Nat} (hg : w.heap[g]? = some (.cells cur e fz)) (us : List Value) (hus : ∀ i u, us[i]? = some u → cur[n + i]? = some u) (π' : Place) :
    WR D (Ghost.setS ⟨Frz.put G.F g n us, G.S⟩ g (n + us.length, z, π')) σ w := by
  obtain ⟨hσ, ⟨cur0, e0, hg0, hz⟩, hnone⟩ := h.own g n z π hS
  refine ⟨fun k i u hu => ?_, fun k m y ρ hk => ?_, fun o cs hcs => ?_⟩
  · simp only [Ghost.setS, Frz.put] at hu
    split at hu
    · rename_i hc; obtain ⟨rfl, h1, h2⟩ := hc
      refine ⟨cur, e, fz, hg, ?_⟩
      have := hus _ _ hu
      rwa [show n + (i - n) = i from by omega] at this
    · exact h.frz k i u hu
  · simp only [Ghost.setS] at hk
    split at hk
    · rename_i hkg; subst hkg
      simp only [Option.some.injEq, Prod.mk.injEq] at hk
      obtain ⟨rfl, rfl, rfl⟩ := hk
      refine ⟨hσ, ⟨cur0, e0, hg0, hz⟩, fun i hi => ?_⟩
      simp only [Ghost.setS]
      rw [Frz.put_above hi]; exact hnone i (by omega)
    · rename_i hkg
      obtain ⟨h1, h2, h3⟩ := h.own k m y ρ hk
      refine ⟨h1, h2, fun i hi => ?_⟩
      simp only [Ghost.setS]
      rw [Frz.put_other hkg]; exact h3 i hi
  · obtain ⟨h1, h2, h3, cur', e', h4, h5, h6⟩ := h.obj o cs hcs
    have hne : o ≠ g := fun e => by subst e; simp [hS] at h2
    refine ⟨h1, by simp [Ghost.setS, hne, h2], fun i => by simp only [Ghost.setS]; rw [Frz.put_other hne]; exact h3 i, cur', e', h4, h5, fun i c u hc hu => ?_⟩
    obtain ⟨p, q, r⟩ := h6 i c u hc hu
    refine ⟨p, q.mono (Frz.put_mono hnone), r.same fun k m y hd hk => ?_⟩
    simp only [Ghost.setS]
    split
    · rename_i hkg; subst hkg; rw [hS] at hk; simp only [Option.some.injEq, Prod.mk.injEq] at hk; exact absurd hk.2.2 (hπ o i)
    · exact hk

/-- A new row that nobody knows yet, with the right to it. -/
theorem WR.newRow {D : Nat → Prop} {G : Ghost} {σ : Store} {w : World} (h : WR D G σ w) (cur : Array Value) (e : TypeId) (π : Place) :
    WR D (G.setS w.heap.size (0, cur.size, π)) σ (w.alloc (.cells cur e)) := by
  have hlt : ∀ (k : Nat) (o : Obj), w.heap[k]? = some o → k ≠ w.heap.size := fun k o hk => by have := (Array.getElem?_eq_some_iff.1 hk).1; omega
  have hold : ∀ (k : Nat) (o : Obj), w.heap[k]? = some o → (w.alloc (.cells cur e)).heap[k]? = some o := fun k o hk => by
    rw [Below.heap_alloc w _ k (Array.getElem?_eq_some_iff.1 hk).1]; exact hk
  refine ⟨fun g i u hu => ?_, fun g n z ρ hg => ?_, fun o cs hcs => ?_⟩
  · obtain ⟨c, e', fz, h1, h2⟩ := h.frz g i u hu
    exact ⟨c, e', fz, hold _ _ h1, h2⟩
  · simp only [Ghost.setS] at hg
    split at hg
    · rename_i hgs; subst hgs
      simp only [Option.some.injEq, Prod.mk.injEq] at hg
      obtain ⟨rfl, rfl, rfl⟩ := hg
      refine ⟨?_, ⟨cur, e, heap_alloc_new w _, rfl⟩, fun i _ => ?_⟩
      · cases hs : σ w.heap.size with
        | none => rfl
        | some cs => obtain ⟨_, _, _, c, e', h4, _⟩ := h.obj _ cs hs; exact absurd rfl (hlt _ _ h4)
      · cases hF : G.F w.heap.size i with
        | none => exact hF
        | some u => obtain ⟨c, e', fz, h1, _⟩ := h.frz _ i u hF; exact absurd rfl (hlt _ _ h1)
    · obtain ⟨h1, ⟨c, e', h2, h3⟩, h4⟩ := h.own g n z ρ hg
      exact ⟨h1, ⟨c, e', hold _ _ h2, h3⟩, h4⟩
  · obtain ⟨h1, h2, h3, c, e', h4, h5, h6⟩ := h.obj o cs hcs
    refine ⟨h1, by simp [Ghost.setS, hlt _ _ h4, h2], h3, c, e', hold _ _ h4, h5, fun i cc u hc hu => ?_⟩
    obtain ⟨p, q, r⟩ := h6 i cc u hc hu
    refine ⟨p, q, r.same fun k m y hd hk => ?_⟩
    obtain ⟨_, ⟨c', e'', hk', _⟩, _⟩ := h.own k m y _ hk
    simp [Ghost.setS, hlt _ _ hk', hk]

/-- A new object. -/
theorem WR.newObj {D : Nat → Prop} {G : Ghost} {σ : Store} {w : World} (h : WR D G σ w) (hD : D w.heap.size) (cur : Array Value) (e : TypeId) (cs : List AV) (hl : cs.length ≤ cur.size)
    (hc : ∀ i c u, cs[i]? = some c → cur[i]? = some u → u.oneCell' = true ∧ VR G.F c u ∧ Own1 G D (.obj w.heap.size i) c u) : WR D G (σ.upd w.heap.size cs) (w.alloc (.cells cur e)) := by
  have hlt : ∀ (k : Nat) (o : Obj), w.heap[k]? = some o → k ≠ w.heap.size := fun k o hk => by have := (Array.getElem?_eq_some_iff.1 hk).1; omega
  have hold : ∀ (k : Nat) (o : Obj), w.heap[k]? = some o → (w.alloc (.cells cur e)).heap[k]? = some o := fun k o hk => by
    rw [Below.heap_alloc w _ k (Array.getElem?_eq_some_iff.1 hk).1]; exact hk
  refine ⟨fun g i u hu => ?_, fun g n z ρ hg => ?_, fun o cs' hcs => ?_⟩
  · obtain ⟨c, e', fz, h1, h2⟩ := h.frz g i u hu
    exact ⟨c, e', fz, hold _ _ h1, h2⟩
  · obtain ⟨h1, ⟨c, e', h2, h3⟩, h4⟩ := h.own g n z ρ hg
    exact ⟨by simp [Store.upd, hlt _ _ h2, h1], ⟨c, e', hold _ _ h2, h3⟩, h4⟩
  · simp only [Store.upd] at hcs
    split at hcs
    · rename_i ho; subst ho
      simp only [Option.some.injEq] at hcs; subst hcs
      refine ⟨hD, ?_, fun i => ?_, cur, e, heap_alloc_new w _, hl, hc⟩
      · cases hs : G.S w.heap.size with
        | none => rfl
        | some x => obtain ⟨_, ⟨c, e', h2, _⟩, _⟩ := h.own _ x.1 x.2.1 x.2.2 hs; exact absurd rfl (hlt _ _ h2)
      · cases hF : G.F w.heap.size i with
        | none => rfl
        | some u => obtain ⟨c, e', fz, h1, _⟩ := h.frz _ i u hF; exact absurd rfl (hlt _ _ h1)
    · obtain ⟨h1, h2, h3, c, e', h4, h5, h6⟩ := h.obj o cs' hcs
      exact ⟨h1, h2, h3, c, e', hold _ _ h4, h5, h6⟩

/-- A write behind the front of an own row. -/
theorem WR.write {D : Nat → Prop} {G : Ghost} {σ : Store} {w w' : World} (h : WR D G σ w) {g n z : Nat} {π : Place} (hS : G.S g = some (n, z, π))
    {cur cur' : Array Value} {e : TypeId} (hg : w.heap[g]? = some (.cells cur e (0, 0))) (hg' : w'.heap[g]? = some (.cells cur' e (0, 0))) (hsz : cur'.size = cur.size)
    (hlow : ∀ i, i < n → cur'[i]? = cur[i]?) (hother : ∀ k, k ≠ g → w'.heap[k]? = w.heap[k]?) : WR D G σ w' := by
  obtain ⟨hσ, ⟨cur0, e0, hg0, hz⟩, hnone⟩ := h.own g n z π hS
  rw [hg] at hg0; simp only [Option.some.injEq, Obj.cells.injEq, and_true] at hg0; obtain ⟨rfl, rfl⟩ := hg0
  refine ⟨fun k i u hu => ?_, fun k m y ρ hk => ?_, fun o cs hcs => ?_⟩
  · obtain ⟨c, e', fz, h1, h2⟩ := h.frz k i u hu
    by_cases hkg : k = g
    · subst hkg
      rw [hg] at h1; simp only [Option.some.injEq, Obj.cells.injEq] at h1; obtain ⟨rfl, rfl, rfl⟩ := h1
      refine ⟨cur', e, _, hg', ?_⟩
      have : i < n := by
        rcases Nat.lt_or_ge i n with hi | hi
        · exact hi
        · simp [hnone i hi] at hu
      rw [hlow i this]; exact h2
    · exact ⟨c, e', fz, by rw [hother k hkg]; exact h1, h2⟩
  · obtain ⟨h1, ⟨c, e', h2, h3⟩, h4⟩ := h.own k m y ρ hk
    by_cases hkg : k = g
    · subst hkg
      rw [hg] at h2; simp only [Option.some.injEq, Obj.cells.injEq, and_true] at h2; obtain ⟨rfl, rfl⟩ := h2
      exact ⟨h1, ⟨cur', e, hg', by omega⟩, h4⟩
    · exact ⟨h1, ⟨c, e', by rw [hother k hkg]; exact h2, h3⟩, h4⟩
  · obtain ⟨h1, h2, h3, c, e', h4, h5, h6⟩ := h.obj o cs hcs
    have hne : o ≠ g := fun e => by subst e; simp [hS] at h2
    exact ⟨h1, h2, h3, c, e', by rw [hother o hne]; exact h4, h5, h6⟩

/-- A store into one cell of an object. -/
theorem WR.setObj {D : Nat → Prop} {G : Ghost} {σ : Store} {w : World} (h : WR D G σ w) {o : Nat} {cs : List AV} (hcs : σ o = some cs) {i : Nat} (hi : i < cs.length) {c : AV} {u : Value}
    (h1 : u.oneCell' = true) (hv : VR G.F c u) (ho : Own1 G D (.obj o i) c u) : WR D G (σ.upd o (cs.set i c)) (w.setCell ⟨o, i, none⟩ u) := by
  obtain ⟨p1, p2, p3, cur, e, p4, p5, p6⟩ := h.obj o cs hcs
  have hother : ∀ k, k ≠ o → (w.setCell ⟨o, i, none⟩ u).heap[k]? = w.heap[k]? := fun k hk => Below.heap_setCell w _ u k hk
  have hme : (w.setCell ⟨o, i, none⟩ u).heap[o]? = some (.cells (cur.setIfInBounds i u) e (0, 0)) := by
    simp [World.setCell, Array.getElem?_modify, p4]
  refine ⟨fun g j v hv => ?_, fun g n z ρ hg => ?_, fun o' cs' hcs' => ?_⟩
  · obtain ⟨c', e', fz, q1, q2⟩ := h.frz g j v hv
    have : g ≠ o := fun e => by subst e; simp [p3] at hv
    exact ⟨c', e', fz, by rw [hother g this]; exact q1, q2⟩
  · obtain ⟨q1, ⟨c', e', q2, q3⟩, q4⟩ := h.own g n z ρ hg
    have : g ≠ o := fun e => by subst e; simp [p2] at hg
    exact ⟨by simp [Store.upd, this, q1], ⟨c', e', by rw [hother g this]; exact q2, q3⟩, q4⟩
  · simp only [Store.upd] at hcs'
    split at hcs'
    · rename_i hoo; subst hoo
      simp only [Option.some.injEq] at hcs'; subst hcs'
      refine ⟨p1, p2, p3, _, e, hme, by simpa using p5, fun j c' u' hc' hu' => ?_⟩
      rw [List.getElem?_set] at hc'
      rw [Array.getElem?_setIfInBounds] at hu'
      by_cases hij : i = j
      · subst hij
        simp only [if_true, hi] at hc' hu'
        rw [if_pos (by omega)] at hu'
        simp only [Option.some.injEq] at hc' hu'; subst hc' hu'
        exact ⟨h1, hv, ho⟩
      · rw [if_neg hij] at hc' hu'
        exact p6 j c' u' hc' hu'
    · rename_i hoo
      obtain ⟨q1, q2, q3, c', e', q4, q5, q6⟩ := h.obj o' cs' hcs'
      exact ⟨q1, q2, q3, c', e', by rw [hother o' hoo]; exact q4, q5, q6⟩

/-- An object may be forgotten. -/
theorem WR.forget {D : Nat → Prop} {G : Ghost} {σ σ' : Store} {w : World} (h : WR D G σ w) (hs : ∀ o, σ' o = none ∨ σ' o = σ o) : WR D G σ' w := by
  refine ⟨h.frz, fun g n z ρ hg => ?_, fun o cs hcs => ?_⟩
  · obtain ⟨h1, h2⟩ := h.own g n z ρ hg
    exact ⟨by rcases hs g with h' | h' <;> simp [h', h1], h2⟩
  · rcases hs o with h' | h'
    · simp [h'] at hcs
    · exact h.obj o cs (h' ▸ hcs)

end Go.AL
