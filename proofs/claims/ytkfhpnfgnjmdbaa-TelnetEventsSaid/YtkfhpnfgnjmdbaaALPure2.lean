/-
  The abstract-state logic: more operations that compute a value and leave the state alone; all of them under one name.
-/
import Derived.Test.YtkfhpnfgnjmdbaaALPure
namespace Go.AL
open Go Go.RowKit Classical

/-! ### comparisons with nil, of bools -/
def eqNil (P : Program) (t : TypeId) (a b : AV) : Option Bool :=
  match P.underlying t, a, b with
  | some (.pointer _), .lit (.pointer none), .lit (.pointer b) => some b.isNone
  | some (.pointer _), .lit (.pointer (some _)), .lit (.pointer none) => some false
  | some (.pointer _), .fptr _, .lit (.pointer none) => some false
  | some .bool, .lit (.bool x), .lit (.bool y) => some (x == y)
  | some (.slice _), .list _ _ (_ :: _), .lit (.slice none 0 0) => some false
  | some (.slice _), .lit (.slice (some _) _ _), .lit (.slice none _ _) => some false
  | some (.func ..), .func .., .lit .nilFunc => some false
  | some (.func ..), .lit .nilFunc, .lit .nilFunc => some true
  | some (.interface _), .iface .., .lit .nilIface => some false
  | _, _, _ => none

def nilBin (P : Program) (op : BinOp) (t : TypeId) (a b : AV) : Option AV :=
  match op with
  | .eql => (eqNil P t a b).map fun r => .lit (.bool r)
  | .neq => (eqNil P t a b).map fun r => .lit (.bool (!r))
  | _ => none
def aBin (P : Program) (op : BinOp) (t : TypeId) (a b : AV) : Option AV :=
  match a, b with
  | .lit x, .lit y => match pureBin op x y with
    | some v => some (.lit v)
    | none => nilBin P op t (.lit x) (.lit y)
  | a, b => nilBin P op t a b

theorem eqNil_sound {P : Program} {F : Frz} {w : World} {t : TypeId} {a b : AV} {x y : Value} {r : Bool} (h : eqNil P t a b = some r) (hx : VR F a x) (hy : VR F b y) (ox oy : Operand) :
    (∀ op, (eqGuard op t ox oy x y).run P w = .ok () w) ∧ (∀ d, (Op.equalIn (d + 1) t x y).run P w = .ok r w) ∧ binOp .eql t x y = (do pure (.bool (← Op.equal t x y))) ∧ binOp .neq t x y = (do pure (.bool (!(← Op.equal t x y)))) := by
  unfold eqNil at h
  split at h
  all_goals first
    | (cases h; done)
    | (rename_i hu
       simp only [Option.some.injEq] at h; subst h
       cases hx; cases hy
       refine ⟨fun op => by cases op <;> rfl, fun d => ?_, ?_, ?_⟩ <;> first
         | rfl
         | (simp [Op.equalIn, run_underlying hu]; done))
    | (rename_i hu
       simp only [Option.some.injEq] at h; subst h
       cases hx with
       | list _ _ _ _ _ _ _ us hn => ?_
       cases hy with
       | lit => ?_
       refine ⟨fun op => by cases op <;> rfl, fun d => ?_, ?_, ?_⟩ <;> first
         | rfl
         | (simp [Op.equalIn, run_underlying hu]; done))

theorem aBin_sound {P : Program} {F : Frz} {w : World} {op : BinOp} {t : TypeId} {a b v : AV} {x y : Value} (h : aBin P op t a b = some v) (hx : VR F a x) (hy : VR F b y) (ox oy : Operand) :
    ∃ cv, (do eqGuard op t ox oy x y; binOp op t x y : Sem Value).run P w = .ok cv w ∧ VR F v cv := by
  have nilCase : nilBin P op t a b = some v → ∃ cv, (do eqGuard op t ox oy x y; binOp op t x y : Sem Value).run P w = .ok cv w ∧ VR F v cv := by
    intro h
    unfold nilBin at h
    cases hr : eqNil P t a b with
    | none => cases op <;> simp [hr] at h
    | some r =>
      obtain ⟨h1, h2, h4, h5⟩ := eqNil_sound (w := w) hr hx hy ox oy
      have h2' : (Op.equal t x y).run P w = .ok r w := h2 9999
      cases op <;> first
        | (simp at h; done)
        | (simp [hr] at h; subst h
           first
             | exact ⟨_, by simp only [Sem.run_bind, h1, Result.andThen_ok, h4, h2']; rfl, .lit _⟩
             | exact ⟨_, by simp only [Sem.run_bind, h1, Result.andThen_ok, h5, h2']; rfl, .lit _⟩)
  unfold aBin at h
  split at h
  · split at h
    · rename_i v' hp
      simp at h; subst h
      cases hx; cases hy
      exact ⟨_, pureBin_sound hp w, .lit _⟩
    · exact nilCase h
  · exact nilCase h

/-! ### slices, strings -/
def bndA (o : Option AV) (dflt : Nat) : Option Nat :=
  match o with
  | none => some dflt
  | some (.lit (.int _ i)) => if 0 ≤ i then some i.toNat else none
  | _ => none

def aSlice (P : Program) (t : TypeId) (a : AV) (lo hi mx : Option AV) : Option AV :=
  match tElem P t with
  | some e => match tSize P e with
    | some s => match a with
      | .list _ sz vs => match bndA lo 0, bndA hi vs.length, bndA mx vs.length with
        | some l, some h, some m => if sz = s ∧ l ≤ h ∧ h ≤ m ∧ m ≤ vs.length ∧ (mx.isSome → hi.isSome) then some (.list false sz ((vs.take h).drop l)) else none
        | _, _, _ => none
      | .lit (.slice base len cap) => match bndA lo 0, bndA hi len, bndA mx cap with
        | some l, some h, some m => if l ≤ h ∧ h ≤ m ∧ m ≤ cap ∧ (mx.isSome → hi.isSome) then some (.lit (.slice (if m = l then base else base.map (·.add (l * s))) (h - l) (m - l))) else none
        | _, _, _ => none
      | _ => none
    | none => none
  | none => if tStr P t then match a with
      | .lit (.string b) => match bndA lo 0, bndA hi b.size with
        | some l, some h => if l ≤ h ∧ h ≤ b.size ∧ mx.isNone then some (.lit (.string (b.extract l h))) else none
        | _, _ => none
      | _ => none
    else none

theorem run_bound {P : Program} {w : World} {k : IntKind} {i : Int} {y : Nat} {code : BoundsCode} (h0 : 0 ≤ i) (h : i.toNat ≤ y) : (Instr.sliceBound (.int k i) y code).run P w = .ok i.toNat w := by
  simp [Instr.sliceBound, asIntOf, h0, show i ≤ (y : Int) from by omega]

/-- How abstract bounds stand to the values. -/
def OptVR (F : Frz) (a : Option AV) (v : Option Value) : Prop :=
  match a, v with
  | none, none => True
  | some a, some v => VR F a v
  | _, _ => False

theorem run_bounds {P : Program} {F : Frz} {w : World} {isSlice : Bool} {len cap : Nat} {lo hi mx : Option AV} {lo' hi' mx' : Option Value} (h1 : OptVR F lo lo') (h2 : OptVR F hi hi') (h3 : OptVR F mx mx')
    {l h m m' : Nat} (b1 : bndA lo 0 = some l) (b2 : bndA hi len = some h) (b3 : bndA mx m' = some m) (hlh : l ≤ h) (hhm : h ≤ m) (hmc : m ≤ cap) (hmi : mx.isSome → hi.isSome) :
    (Instr.sliceBounds isSlice len cap lo' hi' mx').run P w = .ok (l, h, if mx.isSome then m else cap) w := by
  have op : ∀ {o : Option AV} {v : Option Value} {d r : Nat}, OptVR F o v → bndA o d = some r → (o = none ∧ v = none ∧ r = d) ∨ ∃ k i, o = some (.lit (.int k i)) ∧ v = some (.int k i) ∧ 0 ≤ i ∧ r = i.toNat := by
    intro o v d r hv hb
    cases o with
    | none => cases v with
      | none => simp [bndA] at hb; exact .inl ⟨rfl, rfl, hb.symm⟩
      | some v => exact hv.elim
    | some a => cases v with
      | none => exact hv.elim
      | some v =>
        unfold bndA at hb
        split at hb
        · simp_all
        · rename_i k i heq
          split at hb
          · simp at hb heq; subst heq; cases hv; exact .inr ⟨k, i, rfl, rfl, by assumption, hb.symm⟩
          · simp at hb
        · simp at hb
  rcases op h3 b3 with ⟨rfl, rfl, rfl⟩ | ⟨k3, i3, rfl, rfl, p3, rfl⟩ <;> rcases op h2 b2 with ⟨rfl, rfl, rfl⟩ | ⟨k2, i2, rfl, rfl, p2, rfl⟩ <;> rcases op h1 b1 with ⟨rfl, rfl, rfl⟩ | ⟨k1, i1, rfl, rfl, p1, rfl⟩
  all_goals first
    | (simp at hmi; done)
    | (cases isSlice <;> simp (disch := first | assumption | omega) [Instr.sliceBounds, run_bound, Sem.run_bind])

theorem VR.list_cut {F : Frz} {own : Bool} {sz : Nat} {vs : List AV} {g off n cap : Nat} (h : VR F (.list own sz vs) (.slice (some ⟨g, off, none⟩) n cap)) {l hh m : Nat} (h1 : l ≤ hh) (h2 : hh ≤ vs.length) (h3 : hh ≤ m) :
    VR F (.list false sz ((vs.take hh).drop l)) (.slice (some ⟨g, off + l * sz, none⟩) (hh - l) (m - l)) := by
  cases h with
  | void =>
    have h0 : hh = 0 := by simpa using h2
    subst h0
    simp only [List.take_nil, List.drop_nil]
    exact .list false sz [] g _ _ _ [] (by simp) (by omega) (by simp) (by simp [flat]) (by simp) (by simp)
  | list _ _ _ _ _ _ _ us hn hc hw hl hF hv =>
  have hmem : ∀ v ∈ (vs.take hh).drop l, v.cells.length = sz := fun v hv => hw v (List.mem_of_mem_take (List.mem_of_mem_drop hv))
  have hfl := flat_length hw
  have hfl' := flat_length hmem
  have hflat : flat ((vs.take hh).drop l) = ((flat vs).drop (l * sz)).take ((hh - l) * sz) := by
    have key : ∀ (ys : List AV), (∀ v ∈ ys, v.cells.length = sz) → ∀ k, flat (ys.take k) = (flat ys).take (k * sz) ∧ flat (ys.drop k) = (flat ys).drop (k * sz) := by
      intro ys
      induction ys with
      | nil => intro _ k; simp [flat]
      | cons y ys ih =>
        intro hy k
        cases k with
        | zero => simp [flat]
        | succ k =>
          have ihk := ih (fun v hv => hy v (by simp [hv])) k
          have hy0 := hy y (by simp)
          simp only [flat, List.take_succ_cons, List.drop_succ_cons, List.flatMap_cons] at ihk ⊢
          rw [ihk.1, ihk.2, List.take_append, List.drop_append, hy0]
          have e1 : (k + 1) * sz - sz = k * sz := by rw [Nat.succ_mul]; omega
          have e2 : sz ≤ (k + 1) * sz := by rw [Nat.succ_mul]; omega
          rw [e1, List.take_of_length_le (l := y.cells) (by omega), List.drop_of_length_le (l := y.cells) (by omega)]
          simp
    rw [(key _ (fun v hv => hw v (List.mem_of_mem_take hv)) l).2, (key _ hw hh).1, List.drop_take, Nat.sub_mul]
  have hmul : hh * sz ≤ vs.length * sz := Nat.mul_le_mul_right _ h2
  have hmul' : l * sz ≤ hh * sz := Nat.mul_le_mul_right _ h1
  have hsub : (hh - l) * sz = hh * sz - l * sz := Nat.sub_mul ..
  refine .list false sz _ g _ _ _ ((us.drop (l * sz)).take ((hh - l) * sz)) (by simp; omega) (by omega) hmem ?_ (fun i u hu => ?_) fun i c u hc' hu => ?_
  · rw [hflat]; simp; omega
  · have hi : i < (hh - l) * sz := by have := (List.getElem?_eq_some_iff.1 hu).1; simp at this; omega
    rw [List.getElem?_take_of_lt hi, List.getElem?_drop] at hu
    have := hF _ _ hu
    rwa [show off + l * sz + i = off + (l * sz + i) from by omega]
  · rw [hflat] at hc'
    have hi : i < (hh - l) * sz := by have := (List.getElem?_eq_some_iff.1 hu).1; simp at this; omega
    rw [List.getElem?_take_of_lt hi, List.getElem?_drop] at hc' hu
    exact hv _ _ _ hc' hu

theorem aSlice_sound {P : Program} {F : Frz} {w : World} {t : TypeId} {a v : AV} {lo hi mx : Option AV} {x : Value} {lo' hi' mx' : Option Value} (h : aSlice P t a lo hi mx = some v) (hx : VR F a x)
    (h1 : OptVR F lo lo') (h2 : OptVR F hi hi') (h3 : OptVR F mx mx') : ∃ cv, (Instr.sliceAt t x lo' hi' mx').run P w = .ok cv w ∧ VR F v cv := by
  unfold aSlice at h
  split at h
  · rename_i e he
    split at h
    case h_2 => simp at h
    rename_i s hs
    have hu := under_elem he
    split at h
    · rename_i own sz vs
      split at h
      case h_2 => simp at h
      rename_i l hh m b1 b2 b3
      split at h
      case isFalse => simp at h
      rename_i hc
      obtain ⟨rfl, c1, c2, c3, c4⟩ := hc
      simp at h; subst h
      cases hx with
      | nil =>
        simp at c3; subst c3
        have hh0 : hh = 0 := by omega
        have hl0 : l = 0 := by omega
        subst hh0 hl0
        refine ⟨.slice none 0 0, ?_, by simp; exact .nil ..⟩
        have := run_bounds (P := P) (w := w) (isSlice := true) (cap := 0) h1 h2 h3 b1 b2 b3 (by omega) (by omega) (by omega) c4
        simp only [List.length_nil] at this
        simp [Instr.sliceAt, Instr.slice, run_underlying hu, this, run_sizeOf hs]
      | void =>
        rename_i ad
        simp at c3; subst c3
        have hh0 : hh = 0 := by omega
        have hl0 : l = 0 := by omega
        subst hh0 hl0
        refine ⟨.slice (some ad) 0 0, ?_, by simp; exact .void ..⟩
        have := run_bounds (P := P) (w := w) (isSlice := true) (cap := 0) h1 h2 h3 b1 b2 b3 (by omega) (by omega) (by omega) c4
        simp only [List.length_nil] at this
        simp [Instr.sliceAt, Instr.slice, run_underlying hu, this, run_sizeOf hs]
      | list _ _ _ g off n cap us hn hcap hw hl hF hv =>
        have hx' : VR F (.list own sz vs) (.slice (some ⟨g, off, none⟩) n cap) := .list own sz vs g off n cap us hn hcap hw hl hF hv
        have hr := run_bounds (P := P) (w := w) (isSlice := true) (len := n) (cap := cap) h1 h2 h3 b1 (by rw [hn]; exact b2) b3 c1 c2 (by omega) c4
        generalize hm : (if mx.isSome then m else cap) = mm at hr
        have hmm : hh ≤ mm := by subst hm; split <;> omega
        by_cases hml : mm = l
        · refine ⟨.slice (some ⟨g, off, none⟩) (hh - l) (mm - l), ?_, ?_⟩
          · simp [Instr.sliceAt, Instr.slice, run_underlying hu, hr, run_sizeOf hs, hml]
          · have : hh = l := by omega
            subst this
            have e0 : (vs.take hh).drop hh = [] := by simp
            rw [e0]
            exact .list false sz [] g off _ _ [] (by simp) (by omega) (by simp) (by simp [flat]) (by simp) (by simp)
        · refine ⟨.slice (some ⟨g, off + l * sz, none⟩) (hh - l) (mm - l), ?_, hx'.list_cut c1 (by omega) hmm⟩
          simp [Instr.sliceAt, Instr.slice, run_underlying hu, hr, run_sizeOf hs, hml, add_addr]
    · rename_i base len cap
      split at h
      case h_2 => simp at h
      rename_i l hh m b1 b2 b3
      split at h
      case isFalse => simp at h
      rename_i hc
      obtain ⟨c1, c2, c3, c4⟩ := hc
      simp at h; subst h
      cases hx
      have hr := run_bounds (P := P) (w := w) (isSlice := true) (len := len) (cap := cap) h1 h2 h3 b1 b2 b3 c1 c2 c3 c4
      have hm : (if mx.isSome then m else cap) = m := by
        cases mx with
        | none => simp [bndA] at b3; simp [b3]
        | some _ => simp
      rw [hm] at hr
      refine ⟨_, ?_, .lit _⟩
      simp [Instr.sliceAt, Instr.slice, run_underlying hu, hr, run_sizeOf hs]
    · simp at h
  · split at h
    case isFalse => simp at h
    rename_i hst
    have hu := under_str hst
    split at h
    case h_2 => simp at h
    rename_i b
    split at h
    case h_2 => simp at h
    rename_i l hh b1 b2
    split at h
    case isFalse => simp at h
    rename_i hc
    obtain ⟨c1, c2, c3⟩ := hc
    simp at h; subst h
    cases hx
    have hmx : mx = none := by simpa using c3
    subst hmx
    have hmx' : mx' = none := by cases mx' with
      | none => rfl
      | some _ => exact h3.elim
    subst hmx'
    have hr := run_bounds (P := P) (w := w) (isSlice := false) (len := b.size) (cap := b.size) (m' := b.size) h1 h2 h3 b1 b2 rfl c1 c2 (Nat.le_refl _) (by simp)
    refine ⟨_, ?_, .lit _⟩
    simp [Instr.sliceAt, Instr.slice, run_underlying hu, hr]

end Go.AL
