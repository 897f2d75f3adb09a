/-
  The abstract-state logic (AL): values of Go slices that are only appended to are lists by value; mutable objects lie in a small store.
  This text: abstract values, how they stand to the model's values in a world, and how that is kept.
-/
import Derived.Calls
import Derived.Below
namespace Go.AL
open Go

/-- Abstract values. 'lit v': the very value. 'list own sz vs': a slice whose cells are never written again; 'own': this holder alone may append in place. 'fptr cs': a pointer to such cells. -/
inductive AV where
  | top
  | lit (v : Value)
  | list (own : Bool) (sz : Nat) (vs : List AV)
  | fptr (cs : List AV)
  | func (fn : Fn) (first captured : List AV)
  | iface (t : TypeId) (v : AV)
  | agg (cells : List AV)
  | tuple (vs : List AV)
  deriving Inhabited

def AV.cells : AV → List AV
  | .agg cs => cs
  | v => [v]
def flat (vs : List AV) : List AV := vs.flatMap AV.cells

abbrev Frz := Nat → Nat → Option Value

/-- How an abstract value stands to a value, by what is known of frozen cells. -/
inductive VR (F : Frz) : AV → Value → Prop
  | top (v : Value) : VR F .top v
  | lit (v : Value) : VR F (.lit v) v
  | nil (own : Bool) (sz : Nat) : VR F (.list own sz []) (.slice none 0 0)
  | void (sz : Nat) (a : Addr) : VR F (.list false sz []) (.slice (some a) 0 0)
  | list (own : Bool) (sz : Nat) (vs : List AV) (g off n cap : Nat) (us : List Value) (hn : n = vs.length) (hc : n ≤ cap) (hw : ∀ v ∈ vs, v.cells.length = sz)
      (hl : us.length = (flat vs).length) (hF : ∀ (i : Nat) (u : Value), us[i]? = some u → F g (off + i) = some u ∧ u.oneCell' = true)
      (hv : ∀ (i : Nat) (c : AV) (u : Value), (flat vs)[i]? = some c → us[i]? = some u → VR F c u) : VR F (.list own sz vs) (.slice (some ⟨g, off, none⟩) n cap)
  | fptr (cs : List AV) (g off : Nat) (us : List Value) (hl : us.length = cs.length) (hF : ∀ (i : Nat) (u : Value), us[i]? = some u → F g (off + i) = some u ∧ u.oneCell' = true)
      (hv : ∀ (i : Nat) (c : AV) (u : Value), cs[i]? = some c → us[i]? = some u → VR F c u) : VR F (.fptr cs) (.pointer (some ⟨g, off, none⟩))
  | func (fn : Fn) (fs cs : List AV) (ufs ucs : Array Value) (h1 : fs.length = ufs.size) (h2 : cs.length = ucs.size)
      (h3 : ∀ (i : Nat) (c : AV) (u : Value), fs[i]? = some c → ufs[i]? = some u → VR F c u) (h4 : ∀ (i : Nat) (c : AV) (u : Value), cs[i]? = some c → ucs[i]? = some u → VR F c u) : VR F (.func fn fs cs) (.func fn ufs ucs)
  | iface (t : TypeId) (a : AV) (v : Value) (h : VR F a v) : VR F (.iface t a) (.iface t v)
  | agg (cs : List AV) (us : Array Value) (hl : cs.length = us.size) (h1 : ∀ (i : Nat) (u : Value), us[i]? = some u → u.oneCell' = true)
      (hv : ∀ (i : Nat) (c : AV) (u : Value), cs[i]? = some c → us[i]? = some u → VR F c u) : VR F (.agg cs) (.agg us)
  | tuple (cs : List AV) (us : Array Value) (hl : cs.length = us.size)
      (hv : ∀ (i : Nat) (c : AV) (u : Value), cs[i]? = some c → us[i]? = some u → VR F c u) : VR F (.tuple cs) (.tuple us)

theorem VR.mono {F F' : Frz} (hF : ∀ g i u, F g i = some u → F' g i = some u) {a : AV} {v : Value} (h : VR F a v) : VR F' a v := by
  induction h with
  | top v => exact .top v
  | lit v => exact .lit v
  | nil o s => exact .nil o s
  | void s a => exact .void s a
  | list own sz vs g off n cap us hn hc hw hl h1 _ ih => exact .list own sz vs g off n cap us hn hc hw hl (fun i u hu => ⟨hF _ _ _ (h1 i u hu).1, (h1 i u hu).2⟩) ih
  | fptr cs g off us hl h1 _ ih => exact .fptr cs g off us hl (fun i u hu => ⟨hF _ _ _ (h1 i u hu).1, (h1 i u hu).2⟩) ih
  | func fn fs cs ufs ucs h1 h2 _ _ ih1 ih2 => exact .func fn fs cs ufs ucs h1 h2 ih1 ih2
  | iface t a v _ ih => exact .iface t a v ih
  | agg cs us hl h1 _ ih => exact .agg cs us hl h1 ih
  | tuple cs us hl _ ih => exact .tuple cs us hl ih

/-- Where a slice with the right to append in place lies. -/
inductive Place where
  | slot (i j : Nat)
  | obj (o j : Nat)
  | arg (i j : Nat)
  | acc (j : Nat)
  deriving DecidableEq

structure Ghost where
  F : Frz
  S : Nat → Option (Nat × Nat × Place)

abbrev Store := Nat → Option (List AV)

/-- One cell's right: if it is a slice that may be appended to in place, its block is this place's. -/
def Own1 (G : Ghost) (D : Nat → Prop) (π : Place) : AV → Value → Prop
  | .list true sz _, .slice (some ad) n cap => D ad.block ∧ ∃ z, G.S ad.block = some (ad.off + n * sz, z, π) ∧ ad.off + cap * sz ≤ z ∧ cap ≤ maxLen
  | _, _ => True

def OwnAt (G : Ghost) (D : Nat → Prop) (r : Nat → Place) : AV → Value → Prop
  | .agg cs, .agg us => ∀ j c u, cs[j]? = some c → us[j]? = some u → Own1 G D (r j) c u
  | .tuple cs, .tuple us => ∀ j c u, cs[j]? = some c → us[j]? = some u → Own1 G D (r j) c u
  | a, v => Own1 G D (r 0) a v

structure WR (D : Nat → Prop) (G : Ghost) (σ : Store) (w : World) : Prop where
  frz : ∀ g i u, G.F g i = some u → ∃ cur e fz, w.heap[g]? = some (.cells cur e fz) ∧ cur[i]? = some u
  own : ∀ g n z π, G.S g = some (n, z, π) → σ g = none ∧ (∃ cur e, w.heap[g]? = some (.cells cur e (0, 0)) ∧ cur.size = z) ∧ ∀ i, n ≤ i → G.F g i = none
  obj : ∀ o cs, σ o = some cs → D o ∧ G.S o = none ∧ (∀ i, G.F o i = none) ∧ ∃ cur e, w.heap[o]? = some (.cells cur e (0, 0)) ∧ cs.length ≤ cur.size ∧
    ∀ i c u, cs[i]? = some c → cur[i]? = some u → u.oneCell' = true ∧ VR G.F c u ∧ Own1 G D (.obj o i) c u

abbrev Slots := Nat → AV
def upd (A : Slots) (i : Nat) (v : AV) : Slots := fun j => if j = i then v else A j
def Store.upd (σ : Store) (o : Nat) (cs : List AV) : Store := fun p => if p = o then some cs else σ p

structure Rel (D : Nat → Prop) (n : Nat) (G : Ghost) (A : Slots) (σ : Store) (a : Act) (w : World) : Prop where
  defers : a.defers = []
  size : a.tmps.size = n
  val : ∀ i, VR G.F (A i) (a.tmps.getD i undef)
  own : ∀ i, OwnAt G D (.slot i) (A i) (a.tmps.getD i undef)
  world : WR D G σ w
  fresh : ∀ k, w.heap.size ≤ k → D k

structure Ext (D : Nat → Prop) (G : Ghost) (w : World) (G' : Ghost) (w' : World) : Prop where
  os : w'.os = w.os
  tape : w'.tape = w.tape
  output : w'.output = w.output
  size : w.heap.size ≤ w'.heap.size
  frz : ∀ g i u, G.F g i = some u → G'.F g i = some u
  block : ∀ k, ¬ D k → w'.heap[k]? = w.heap[k]? ∧ G'.S k = G.S k ∧ G'.F k = G.F k

theorem Ext.refl (D : Nat → Prop) (G : Ghost) (w : World) : Ext D G w G w := ⟨rfl, rfl, rfl, Nat.le_refl _, fun _ _ _ h => h, fun _ _ => ⟨rfl, rfl, rfl⟩⟩
theorem Ext.trans {D : Nat → Prop} {G1 G2 G3 : Ghost} {w1 w2 w3 : World} (h : Ext D G1 w1 G2 w2) (k : Ext D G2 w2 G3 w3) : Ext D G1 w1 G3 w3 :=
  ⟨k.os.trans h.os, k.tape.trans h.tape, k.output.trans h.output, Nat.le_trans h.size k.size, fun g i u hu => k.frz _ _ _ (h.frz _ _ _ hu),
   fun b hb => ⟨(k.block b hb).1.trans (h.block b hb).1, (k.block b hb).2.1.trans (h.block b hb).2.1, (k.block b hb).2.2.trans (h.block b hb).2.2⟩⟩
theorem Ext.wide {D D' : Nat → Prop} {G1 G2 : Ghost} {w1 w2 : World} (h : Ext D G1 w1 G2 w2) (hD : ∀ k, D k → D' k) : Ext D' G1 w1 G2 w2 :=
  ⟨h.os, h.tape, h.output, h.size, h.frz, fun k hk => h.block k (fun hd => hk (hD k hd))⟩

theorem Own1.wide {G : Ghost} {D D' : Nat → Prop} {π : Place} {a : AV} {v : Value} (h : Own1 G D π a v) (hD : ∀ k, D k → D' k) : Own1 G D' π a v := by
  unfold Own1 at *
  split at h
  · exact ⟨hD _ h.1, h.2⟩
  · trivial
theorem OwnAt.wide {G : Ghost} {D D' : Nat → Prop} {r : Nat → Place} {a : AV} {v : Value} (h : OwnAt G D r a v) (hD : ∀ k, D k → D' k) : OwnAt G D' r a v := by
  unfold OwnAt at *
  split at h
  · exact fun j c u hc hu => (h j c u hc hu).wide hD
  · exact fun j c u hc hu => (h j c u hc hu).wide hD
  · exact Own1.wide h hD
theorem WR.wide {D D' : Nat → Prop} {G : Ghost} {σ : Store} {w : World} (h : WR D G σ w) (hD : ∀ k, D k → D' k) : WR D' G σ w :=
  ⟨h.frz, h.own, fun o cs ho => let ⟨h1, h2, h3, cur, e, h4, h5, h6⟩ := h.obj o cs ho
    ⟨hD _ h1, h2, h3, cur, e, h4, h5, fun i c u hc hu => let ⟨p, q, r⟩ := h6 i c u hc hu; ⟨p, q, r.wide hD⟩⟩⟩

/-- What of one cell's right hangs on the ghost: only its own block's entry. -/
theorem Own1.same {G G' : Ghost} {D : Nat → Prop} {π : Place} {a : AV} {v : Value} (h : Own1 G D π a v) (hS : ∀ g n z, D g → G.S g = some (n, z, π) → G'.S g = some (n, z, π)) : Own1 G' D π a v := by
  unfold Own1 at *
  split at h
  · obtain ⟨hd, z, hz, hc⟩ := h
    exact ⟨hd, z, hS _ _ _ hd hz, hc⟩
  · trivial
theorem Own1.re {G G' : Ghost} {D : Nat → Prop} {π π' : Place} {a : AV} {v : Value} (h : Own1 G D π a v) (hS : ∀ g n z, D g → G.S g = some (n, z, π) → G'.S g = some (n, z, π')) : Own1 G' D π' a v := by
  unfold Own1 at *
  split at h
  · obtain ⟨hd, z, hz, hc⟩ := h
    exact ⟨hd, z, hS _ _ _ hd hz, hc⟩
  · trivial
theorem OwnAt.re {G G' : Ghost} {D : Nat → Prop} {r r' : Nat → Place} {a : AV} {v : Value} (h : OwnAt G D r a v) (hS : ∀ g n z j, D g → G.S g = some (n, z, r j) → G'.S g = some (n, z, r' j)) : OwnAt G' D r' a v := by
  unfold OwnAt at *
  split at h
  · exact fun j c u hc hu => Own1.re (h j c u hc hu) fun g n z hd hg => hS g n z j hd hg
  · exact fun j c u hc hu => Own1.re (h j c u hc hu) fun g n z hd hg => hS g n z j hd hg
  · exact Own1.re h fun g n z hd hg => hS g n z 0 hd hg

/-- Without the right. -/
def AV.drop1 : AV → AV
  | .list _ sz vs => .list false sz vs
  | v => v
def AV.share : AV → AV
  | .list _ sz vs => .list false sz vs
  | .agg cs => .agg (cs.map AV.drop1)
  | .tuple cs => .tuple (cs.map AV.drop1)
  | v => v

theorem VR.drop1 {F : Frz} {a : AV} {v : Value} (h : VR F a v) : VR F a.drop1 v := by
  cases h with
  | nil o s => exact .nil false s
  | void s a => exact .void s a
  | list own sz vs g off n cap us hn hc hw hl h1 h2 => exact .list false sz vs g off n cap us hn hc hw hl h1 h2
  | top v => exact .top v
  | lit v => exact .lit v
  | fptr cs g off us hl h1 h2 => exact .fptr cs g off us hl h1 h2
  | func fn fs cs ufs ucs h1 h2 h3 h4 => exact .func fn fs cs ufs ucs h1 h2 h3 h4
  | iface t a v h => exact .iface t a v h
  | agg cs us hl h1 hv => exact .agg cs us hl h1 hv
  | tuple cs us hl hv => exact .tuple cs us hl hv
theorem VR.share {F : Frz} {a : AV} {v : Value} (h : VR F a v) : VR F a.share v := by
  cases h with
  | agg cs us hl h1 hv =>
    refine .agg _ us (by simpa using hl) h1 fun i c u hc hu => ?_
    rw [List.getElem?_map] at hc
    cases hci : cs[i]? with
    | none => simp [hci] at hc
    | some c' => simp [hci] at hc; subst hc; exact (hv i c' u hci hu).drop1
  | tuple cs us hl hv =>
    refine .tuple _ us (by simpa using hl) fun i c u hc hu => ?_
    rw [List.getElem?_map] at hc
    cases hci : cs[i]? with
    | none => simp [hci] at hc
    | some c' => simp [hci] at hc; subst hc; exact (hv i c' u hci hu).drop1
  | nil o s => exact .nil false s
  | void s a => exact .void s a
  | list own sz vs g off n cap us hn hc hw hl h1 h2 => exact .list false sz vs g off n cap us hn hc hw hl h1 h2
  | top v => exact .top v
  | lit v => exact .lit v
  | fptr cs g off us hl h1 h2 => exact .fptr cs g off us hl h1 h2
  | func fn fs cs ufs ucs h1 h2 h3 h4 => exact .func fn fs cs ufs ucs h1 h2 h3 h4
  | iface t a v h => exact .iface t a v h

theorem Own1.drop1 (G : Ghost) (D : Nat → Prop) (π : Place) (a : AV) (v : Value) : Own1 G D π a.drop1 v := by
  cases a <;> simp [AV.drop1, Own1]
theorem OwnAt.share (G : Ghost) (D : Nat → Prop) (r : Nat → Place) (a : AV) (v : Value) : OwnAt G D r a.share v := by
  cases a with
  | agg cs =>
    cases v <;> simp only [AV.share, OwnAt, Own1]
    intro j c u hc _
    rw [List.getElem?_map] at hc
    cases hci : cs[j]? with
    | none => simp [hci] at hc
    | some c' => simp [hci] at hc; subst hc; exact Own1.drop1 ..
  | tuple cs =>
    cases v <;> simp only [AV.share, OwnAt, Own1]
    intro j c u hc _
    rw [List.getElem?_map] at hc
    cases hci : cs[j]? with
    | none => simp [hci] at hc
    | some c' => simp [hci] at hc; subst hc; exact Own1.drop1 ..
  | list o s vs => simp [AV.share, OwnAt, Own1]
  | _ => simp [AV.share, OwnAt, Own1]

/-- A value without a slice of its own at its outermost cells. -/
def AV.plain1 : AV → Bool
  | .list o _ _ => !o
  | _ => true
def AV.plain : AV → Bool
  | .list o _ _ => !o
  | .agg cs => cs.all AV.plain1
  | .tuple cs => cs.all AV.plain1
  | _ => true
theorem Own1.of_plain {G : Ghost} {D : Nat → Prop} {π : Place} {a : AV} {v : Value} (h : a.plain1 = true) : Own1 G D π a v := by
  cases a <;> simp_all [AV.plain1, Own1]
theorem OwnAt.of_plain {G : Ghost} {D : Nat → Prop} {r : Nat → Place} {a : AV} {v : Value} (h : a.plain = true) : OwnAt G D r a v := by
  cases a with
  | agg cs =>
    cases v <;> simp only [OwnAt, Own1]
    intro j c u hc _
    exact Own1.of_plain (List.all_eq_true.1 h c (List.mem_of_getElem? hc))
  | tuple cs =>
    cases v <;> simp only [OwnAt, Own1]
    intro j c u hc _
    exact Own1.of_plain (List.all_eq_true.1 h c (List.mem_of_getElem? hc))
  | list o s vs => simp_all [AV.plain, OwnAt, Own1]
  | _ => simp [OwnAt, Own1]

end Go.AL
