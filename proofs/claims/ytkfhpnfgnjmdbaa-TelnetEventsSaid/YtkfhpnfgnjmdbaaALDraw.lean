/-
  The abstract-state logic: a region that draws its order: which operations may be taken first, and that this covers all orders.
-/
import Derived.Test.YtkfhpnfgnjmdbaaALCode
namespace Go.AL
open Go Go.RowKit Classical

def temps (xs : List Operand) : List Tmp := xs.filterMap fun | .tmp t => some t | _ => none

theorem upd_comm (A : Slots) {i j : Nat} (h : i ≠ j) (x y : AV) : upd (upd A i x) j y = upd (upd A j y) i x := by
  funext k; simp only [upd]
  split
  · rename_i h1; split
    · rename_i h2; exact absurd (h2.symm.trans h1) h
    · rfl
  · rfl
theorem upd_other {A : Slots} {i j : Nat} (h : j ≠ i) (x : AV) : upd A i x j = A j := by simp [upd, h]

theorem evalA_upd {A : Slots} {d : Tmp} {x : AV} {y : Operand} (h : d ∉ temps [y]) : evalA (upd A d x) y = evalA A y := by
  cases y with
  | tmp t => simp [temps] at h; exact upd_other (fun e => h e.symm) x
  | _ => rfl
theorem evalA_congr {A B : Slots} {y : Operand} (h : ∀ t ∈ temps [y], A t = B t) : evalA A y = evalA B y := by
  cases y with
  | tmp t => exact h t (by simp [temps])
  | _ => rfl
theorem temps_of {y : Operand} {xs : List Operand} (h : y ∈ xs) {t : Tmp} (ht : t ∈ temps [y]) : t ∈ temps xs := by
  cases y with
  | tmp u => simp [temps] at ht; subst ht; simp only [temps, List.mem_filterMap]; exact ⟨.tmp t, h, rfl⟩
  | _ => simp [temps] at ht

theorem takeA_frame {A : Slots} {d : Tmp} {x : AV} {y : Operand} {K : AV → Slots → Prop} (h : d ∉ temps [y]) (hK : takeA (upd A d x) y K) : takeA A y fun v A' => K v (upd A' d x) := by
  cases y with
  | tmp t =>
    have hne : t ≠ d := fun e => h (by simp [temps, e])
    simp only [takeA] at *
    rw [upd_other hne] at hK
    rwa [upd_comm A (Ne.symm hne)] at hK
  | _ => exact hK
theorem takeArgs_frame {P : Program} {d : Tmp} {x : AV} : ∀ (ys : List Operand) (ts : List TypeId) {A : Slots} {K : List AV → Slots → Prop}, d ∉ temps ys → takeArgs P ys ts (upd A d x) K → takeArgs P ys ts A fun v A' => K v (upd A' d x)
  | [], _, _, _, _, h => h
  | y :: ys, ts, A, K, hd, h => by
    have h1 : d ∉ temps [y] := fun hm => hd (temps_of (by simp) hm)
    have h2 : d ∉ temps ys := fun hm => hd (by simp only [temps, List.mem_filterMap] at hm ⊢; obtain ⟨z, hz, hz'⟩ := hm; exact ⟨z, by simp [hz], hz'⟩)
    exact takeA_mono (takeA_frame h1 h) fun _ _ h' => takeArgs_frame ys ts.tail h2 h'

theorem fillTake_frame {P : Program} {t : TypeId} {d : Tmp} {x : AV} : ∀ (parts : List (Nat × Operand)) (cs : List AV) {A : Slots} {K : List AV → Slots → Prop}, (∀ p ∈ parts, d ∉ temps [p.2]) → fillTake P t parts cs (upd A d x) K → fillTake P t parts cs A fun v A' => K v (upd A' d x)
  | [], _, _, _, _, h => h
  | (i, y) :: rest, cs, A, K, hd, h => by
    simp only [fillTake] at *
    split at h
    · exact takeA_mono (takeA_frame (hd (i, y) (by simp)) h) fun v A' ⟨h1, h2, h3, h4⟩ => ⟨h1, h2, h3, fillTake_frame rest _ (fun p hp => hd p (by simp [hp])) h4⟩
    · exact h

theorem map_congr_eval {A B : Slots} {xs : List Operand} (h : ∀ t ∈ temps xs, A t = B t) : xs.map (evalA A) = xs.map (evalA B) :=
  List.map_congr_left fun y hy => evalA_congr fun t ht => h t (temps_of hy ht)

/-- What an operation computes hangs on its operands alone. -/
theorem apure_congr {P : Program} {o : Oper} {A B : Slots} {σ : Store} (h : ∀ t ∈ temps o.op.operands.toList, A t = B t) : apure P o A σ = apure P o B σ := by
  have ev : ∀ y ∈ o.op.operands.toList, evalA A y = evalA B y := fun y hy => evalA_congr fun t ht => h t (temps_of hy ht)
  unfold apure
  cases hop : o.op with
  | move x => rw [hop] at ev; have := ev x (by simp [Op.operands]); cases x <;> simp_all
  | pick c a b =>
    rw [hop] at ev
    have e1 := ev c (by simp [Op.operands]); have e2 := ev a (by simp [Op.operands]); have e3 := ev b (by simp [Op.operands])
    dsimp only
    rw [e1]
    split
    · split <;> simp_all
    · rfl
  | makeFunc fn first captured =>
    rw [hop] at ev
    simp only [Op.operands, Array.toList_append, List.mem_append] at ev
    dsimp only
    congr 2
    · exact List.map_congr_left fun y hy => by rw [ev y (.inl hy)]
    · exact List.map_congr_left fun y hy => by rw [ev y (.inr hy)]
  | build t parts =>
    rw [hop] at ev
    have : nodeOf parts A = nodeOf parts B := by
      unfold nodeOf
      exact List.map_congr_left fun p hp => by rw [ev p.2 (by simp [Op.operands]; exact ⟨p.1, by simpa using hp⟩)]
    dsimp only; rw [this]
  | slice t x lo hi mx =>
    rw [hop] at ev
    simp only [Op.operands, Array.toList_append] at ev
    have e1 := ev x (by simp)
    have e2 : lo.map (evalA A) = lo.map (evalA B) := by cases lo with | none => rfl | some y => simp [ev y (by simp)]
    have e3 : hi.map (evalA A) = hi.map (evalA B) := by cases hi with | none => rfl | some y => simp [ev y (by simp)]
    have e4 : mx.map (evalA A) = mx.map (evalA B) := by cases mx with | none => rfl | some y => simp [ev y (by simp)]
    dsimp only; rw [e1, e2, e3, e4]
  | call c =>
    rw [hop] at ev
    simp only [Op.operands, Call.operands, Array.toList_append, List.mem_append] at ev
    dsimp only
    split
    · rename_i x t hc hargs hts; rw [ev x (.inr (by rw [hargs]; simp))]
    · rename_i x y hc hargs; rw [ev x (.inr (by rw [hargs]; simp)), ev y (.inr (by rw [hargs]; simp))]
    · rename_i x y hc hargs; rw [ev x (.inr (by rw [hargs]; simp)), ev y (.inr (by rw [hargs]; simp))]
    · rfl
  | load t x => rw [hop] at ev; dsimp only; rw [ev x (by simp [Op.operands])]
  | nilCheck x => rw [hop] at ev; dsimp only; rw [ev x (by simp [Op.operands])]
  | binOp op t x y u => rw [hop] at ev; dsimp only; rw [ev x (by simp [Op.operands]), ev y (by simp [Op.operands])]
  | unOp op t x => rw [hop] at ev; dsimp only; rw [ev x (by simp [Op.operands])]
  | convert s t x => rw [hop] at ev; dsimp only; rw [ev x (by simp [Op.operands])]
  | fieldAddr s x f => rw [hop] at ev; dsimp only; rw [ev x (by simp [Op.operands])]
  | field s x f => rw [hop] at ev; dsimp only; rw [ev x (by simp [Op.operands])]
  | indexAddr t x y => rw [hop] at ev; dsimp only; rw [ev x (by simp [Op.operands]), ev y (by simp [Op.operands])]
  | index t x y => rw [hop] at ev; dsimp only; rw [ev x (by simp [Op.operands]), ev y (by simp [Op.operands])]
  | makeInterface t x => rw [hop] at ev; dsimp only; rw [ev x (by simp [Op.operands])]
  | _ => rfl

def Store.le (σ σ' : Store) : Prop := ∀ o cs, σ o = some cs → σ' o = some cs

theorem aLoad_grow {P : Program} {σ σ' : Store} (h : σ.le σ') {t : TypeId} {a v : AV} (hv : aLoad P σ t a = some v) : aLoad P σ' t a = some v := by
  unfold aLoad at *
  split at hv
  · rename_i h1 h2
    split at hv
    · split at hv
      · rename_i hs; simp only [h _ _ hs]; exact hv
      · simp at hv
    · exact hv
    · simp at hv
  · simp at hv

def isLoad (o : Oper) : Bool := match o.op with | .load .. => true | _ => false
theorem apure_store {P : Program} {o : Oper} {A : Slots} {σ σ' : Store} (h : isLoad o = false) : apure P o A σ = apure P o A σ' := by
  unfold apure; unfold isLoad at h
  cases hop : o.op with
  | move x => cases x <;> rfl
  | load t x => simp [hop] at h
  | _ => rfl
theorem apure_grow {P : Program} {o : Oper} {A : Slots} {σ σ' : Store} (h : σ.le σ') {v : AV} (hv : apure P o A σ = some v) : apure P o A σ' = some v := by
  cases hl : isLoad o with
  | false => rwa [← apure_store (σ := σ) hl]
  | true =>
    unfold isLoad at hl; unfold apure at *
    cases hop : o.op with
    | load t x =>
      rw [hop] at hv; dsimp only at *
      cases hx : aLoad P σ t (evalA A x) with
      | none => simp [hx] at hv
      | some y => rw [aLoad_grow h hx]; simpa [hx] using hv
    | _ => simp [hop] at hl

/-- Operations that only compute. -/
def pureOp (st : List Tmp) (o : Oper) : Bool :=
  match o.op with
  | .move (.tmp _) => !steals st o
  | .load .. => !steals st o
  | .binOp _ _ _ y _ => !isNilConst y
  | .convert src dst _ => !(src == dst)
  | .move _ | .pick .. | .nilCheck _ | .unOp .. | .fieldAddr .. | .field .. | .indexAddr .. | .index .. | .slice .. | .makeInterface .. | .makeFunc .. => true
  | .build .. => !objs st o
  | .call c => match c.callee with
    | .builtin .len | .builtin .min | .builtin .max => true
    | _ => false
  | _ => false

theorem pureOp_iff {P : Program} {st : List Tmp} {o : Oper} (h : pureOp st o = true) {A : Slots} {σ : Store} {K : AV → Slots → Store → Prop} : aoper P st o A σ K ↔ ∃ v, apure P o A σ = some v ∧ K v A σ := by
  have go : (match apure P o A σ with | some v => K v A σ | none => False) ↔ ∃ v, apure P o A σ = some v ∧ K v A σ := by
    cases apure P o A σ <;> simp
  unfold pureOp at h
  unfold aoper astep
  cases hop : o.op with
  | move x =>
    rw [hop] at h
    cases x with
    | tmp t =>
      simp only [Bool.not_eq_true', ← Bool.not_eq_true] at h
      dsimp only
      rw [if_neg h]
      simp [apure, hop, evalA]
    | _ => exact go
  | load t x =>
    rw [hop] at h
    simp only [Bool.not_eq_true', ← Bool.not_eq_true] at h
    dsimp only
    rw [if_neg h]; exact go
  | binOp op t x y t' =>
    rw [hop] at h
    simp only [Bool.not_eq_true', ← Bool.not_eq_true] at h
    dsimp only
    rw [if_neg h]; exact go
  | convert src dst x =>
    rw [hop] at h
    dsimp only
    rw [if_neg (by simpa using h)]; exact go
  | build t parts =>
    rw [hop] at h
    simp only [Bool.not_eq_true', ← Bool.not_eq_true] at h
    dsimp only
    rw [if_neg h]; exact go
  | call c =>
    rw [hop] at h
    dsimp only at *
    cases hc : c.callee with
    | builtin b =>
      rw [hc] at h
      cases b <;> first
        | (simp at h; done)
        | exact go
    | _ => rw [hc] at h; simp at h
  | _ => first
    | (simp [hop] at h; done)
    | exact go

/-- Operations that leave the objects as they are. -/
def growOp (st : List Tmp) (o : Oper) : Bool :=
  pureOp st o || match o.op with
  | .build .. | .binOp .. | .convert .. | .assign _ | .move _ | .alloc _ | .box .. | .buildSlice .. | .makeSlice .. | .extract .. => true
  | .call c => match c.callee with
    | .builtin .copy => false
    | .builtin _ => !objs st o
    | _ => false
  | _ => false

end Go.AL
