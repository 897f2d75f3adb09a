/-
  The abstract-state logic: the rest of the operations that leave the state alone; all of them under one name.
-/
import Derived.Test.YtheldoijfnigoaaGreatDoorAALPart1
import Derived.Laws.BytesArg
import Derived.Laws.Cover4
set_option linter.unusedSimpArgs false
set_option linter.unusedVariables false
namespace Go.AL
open Go Go.RowKit Classical
variable [GL]
set_option linter.unusedSectionVars false

/-! ### fields, indexes -/
def aField (P : Program) (t : TypeId) (f : Nat) (a : AV) : Option AV :=
  match tField P t f, a with
  | some (off, ft), .agg cs => cutAV P ft cs off
  | _, _ => none
theorem aField_sound {P : Program} {F : Frz} {w : World} {t : TypeId} {f : Nat} {a v : AV} {x : Value} (h : aField P t f a = some v) (hx : VR F a x) : ∃ cv, (Instr.field t x f).run P w = .ok cv w ∧ VR F v cv := by
  unfold aField at h
  split at h
  case h_2 => simp at h
  rename_i off ft cs hf
  obtain ⟨fs, fl, h1, h2, h3, h4⟩ := under_field hf
  cases hx with | agg _ us hl ho hv => ?_
  obtain ⟨cv, hr, hvv⟩ := part_sound (w := w) h hl ho hv
  refine ⟨cv, ?_, hvv⟩
  simp [Instr.field, run_underlying h1, h2, asAgg, h3, h4, hr]

def aIndex (P : Program) (t : TypeId) (a ix : AV) : Option AV :=
  match ix with
  | .lit (.int _ i) =>
    if 0 ≤ i then match tArr P t with
      | some (n, e) => match tSize P e, a with
        | some s, .agg cs => if i < n then cutAV P e cs (i.toNat * s) else none
        | _, _ => none
      | none => if tStr P t then match a with
          | .lit (.string b) => (b.data[i.toNat]?).map fun c => .lit (.int .u8 c.toNat)
          | _ => none
        else none
    else none
  | _ => none
theorem aIndex_sound {P : Program} {F : Frz} {w : World} {t : TypeId} {a ix v : AV} {x y : Value} (h : aIndex P t a ix = some v) (hx : VR F a x) (hy : VR F ix y) : ∃ cv, (Instr.index t x y).run P w = .ok cv w ∧ VR F v cv := by
  unfold aIndex at h
  split at h
  case h_2 => simp at h
  rename_i k i
  cases hy
  split at h
  case isFalse => simp at h
  rename_i h0
  split at h
  · rename_i n e he
    split at h
    case h_2 => simp at h
    rename_i s cs hs
    split at h
    case isFalse => simp at h
    rename_i hlt
    cases hx with | agg _ us hl ho hv => ?_
    obtain ⟨cv, hr, hvv⟩ := part_sound (w := w) h hl ho hv
    refine ⟨cv, ?_, hvv⟩
    simp [Instr.index, asIntOf, run_underlying (under_arr he), h0, hlt, run_sizeOf hs, hr]
  · split at h
    case isFalse => simp at h
    rename_i hst
    split at h
    case h_2 => simp at h
    rename_i b
    cases hx
    cases hb : b.data[i.toNat]? with
    | none => simp [hb] at h
    | some c =>
      simp [hb] at h; subst h
      refine ⟨_, ?_, .lit _⟩
      have hb' : b[i.toNat]? = some c := by
        have hlt := (Array.getElem?_eq_some_iff.1 hb).1
        have hc := (Array.getElem?_eq_some_iff.1 hb).2
        have : i.toNat < b.size := hlt
        rw [getElem?_pos b i.toNat this]
        exact congrArg some hc
      simp [Instr.index, asIntOf, run_underlying (under_str hst), h0, hb']

/-! ### len, min, max -/
def aLen (P : Program) (t : TypeId) (a : AV) : Option AV :=
  match a with
  | .list _ _ vs => match tElem P t with
    | some _ => some (.lit (.int .i64 vs.length))
    | none => none
  | .lit (.slice _ n _) => match tElem P t with
    | some _ => some (.lit (.int .i64 n))
    | none => none
  | .lit (.string s) => if tStr P t then some (.lit (.int .i64 s.size)) else none
  | .row _ n => match tElem P t with
    | some _ => some (.lit (.int .i64 n))
    | none => none
  | _ => none
theorem aLen_sound {P : Program} {F : Frz} {w : World} {t ty : TypeId} {a v : AV} {x : Value} (h : aLen P t a = some v) (hx : VR F a x) : ∃ cv, (Builtin.len_ #[t] ty #[x]).run P w = .ok cv w ∧ VR F v cv := by
  unfold aLen at h
  split at h
  · split at h
    case h_2 => simp at h
    rename_i e he
    simp at h; subst h
    cases hx with
    | nil => exact ⟨_, by simp [Builtin.len_, run_underlying (under_elem he), goInt], .lit _⟩
    | void => exact ⟨_, by simp [Builtin.len_, run_underlying (under_elem he), goInt], .lit _⟩
    | list _ _ _ _ _ n _ us hn => exact ⟨_, by simp [Builtin.len_, run_underlying (under_elem he), goInt, hn], .lit _⟩
  · split at h
    case h_2 => simp at h
    rename_i e he
    simp at h; subst h
    cases hx
    exact ⟨_, by simp [Builtin.len_, run_underlying (under_elem he), goInt], .lit _⟩
  · split at h
    case isFalse => simp at h
    rename_i hst
    simp at h; subst h
    cases hx
    exact ⟨_, by simp [Builtin.len_, run_underlying (under_str hst), goInt], .lit _⟩
  · split at h
    case h_2 => simp at h
    rename_i e he
    simp at h; subst h
    cases hx
    exact ⟨_, by simp [Builtin.len_, run_underlying (under_elem he), goInt], .lit _⟩
  · simp at h

def aMin (a b : AV) : Option AV :=
  match a, b with
  | .lit (.int k x), .lit (.int _ y) => some (.lit (.int k (if y < x then y else x)))
  | _, _ => none
def aMax (a b : AV) : Option AV :=
  match a, b with
  | .lit (.int k x), .lit (.int _ y) => some (.lit (.int k (if y > x then y else x)))
  | _, _ => none
theorem aMin_sound {P : Program} {F : Frz} {w : World} {ts : Array TypeId} {ty : TypeId} {a b v : AV} {x y : Value} (h : aMin a b = some v) (hx : VR F a x) (hy : VR F b y) : ∃ cv, (Builtin.min_ ts ty #[x, y]).run P w = .ok cv w ∧ VR F v cv := by
  unfold aMin at h
  split at h
  · simp at h; subst h; cases hx; cases hy
    exact ⟨_, by simp [Builtin.min_, Builtin.min2], .lit _⟩
  · simp at h
theorem aMax_sound {P : Program} {F : Frz} {w : World} {ts : Array TypeId} {ty : TypeId} {a b v : AV} {x y : Value} (h : aMax a b = some v) (hx : VR F a x) (hy : VR F b y) : ∃ cv, (Builtin.max_ ts ty #[x, y]).run P w = .ok cv w ∧ VR F v cv := by
  unfold aMax at h
  split at h
  · simp at h; subst h; cases hx; cases hy
    exact ⟨_, by simp [Builtin.max_, Builtin.max2], .lit _⟩
  · simp at h

/-! ### conversions of integers; interfaces -/
def aNilCheck (a : AV) : Option AV :=
  match a with
  | .lit (.pointer (some p)) => some (.lit (.pointer (some p)))
  | .fptr cs => some (.fptr cs)
  | .func (.func f) fs cs => some (.func (.func f) fs cs)
  | _ => none

/-! ### a struct or an array out of its parts -/
def setRange {α : Type} (cs : List α) (off : Nat) : List α → List α
  | [] => cs
  | x :: xs => setRange (cs.set off x) (off + 1) xs
theorem setRange_length {α : Type} (xs : List α) : ∀ (cs : List α) (off : Nat), (setRange cs off xs).length = cs.length := by
  induction xs with
  | nil => intros; rfl
  | cons x xs ih => intro cs off; simp [setRange, ih]
theorem setRange_get {α : Type} (xs : List α) : ∀ (cs : List α) (off i : Nat), off + xs.length ≤ cs.length → (setRange cs off xs)[i]? = if off ≤ i ∧ i < off + xs.length then xs[i - off]? else cs[i]? := by
  induction xs with
  | nil => intro cs off i _; rw [if_neg (by simp <;> omega)]; rfl
  | cons x xs ih =>
    intro cs off i h
    simp only [List.length_cons] at h
    simp only [setRange]
    rw [ih _ _ _ (by simp; omega)]
    by_cases h1 : off + 1 ≤ i ∧ i < off + 1 + xs.length
    · rw [if_pos h1, if_pos (by simp; omega)]
      rw [show i - off = (i - (off + 1)) + 1 from by omega]; simp
    · rw [if_neg h1, List.getElem?_set]
      by_cases h2 : off = i
      · subst h2
        rw [if_pos rfl, if_pos (by omega), if_pos (by simp)]; simp
      · rw [if_neg h2, if_neg (by simp; omega)]

/-- Where a part lies: its offset and its size. -/
def tPart (P : Program) (t : TypeId) (i : Nat) : Option (Nat × Nat) :=
  match tArr P t with
  | some (_, e) => (tSize P e).map fun s => (i * s, s)
  | none => (tField P t i).bind fun p => (tSize P p.2).map fun s => (p.1, s)

def fillA (P : Program) (t : TypeId) (cs : List AV) : List (Nat × AV) → Option (List AV)
  | [] => some cs
  | (i, v) :: rest => match tPart P t i with
    | some (off, s) => if v.solid = true ∧ v.cells.length = s ∧ off + s ≤ cs.length then fillA P t (setRange cs off v.cells) rest else none
    | none => none

theorem foldl_set (xs : List Value) : ∀ (cs : Array Value) (off k : Nat), ((xs.zipIdx k).foldl (fun cs p => cs.setIfInBounds (off + p.2) p.1) cs).toList = setRange cs.toList (off + k) xs := by
  induction xs with
  | nil => intros; rfl
  | cons x xs ih => intro cs off k; simp only [List.zipIdx_cons, List.foldl_cons, setRange]; rw [ih]; simp [Nat.add_assoc]

/-- Cell by cell. -/
def CellsR (R : AV → Value → Prop) (cs : List AV) (us : List Value) : Prop := cs.length = us.length ∧ (∀ (i : Nat) (u : Value), us[i]? = some u → u.oneCell' = true) ∧ ∀ (i : Nat) (c : AV) (u : Value), cs[i]? = some c → us[i]? = some u → R c u

theorem CellsR.setRange {R : AV → Value → Prop} {cs : List AV} {us : List Value} (h : CellsR R cs us) {off : Nat} {xs : List AV} {ys : List Value} (k : CellsR R xs ys) (hle : off + xs.length ≤ cs.length) :
    CellsR R (setRange cs off xs) (Go.AL.setRange us off ys) := by
  obtain ⟨h1, h2, h3⟩ := h
  obtain ⟨k1, k2, k3⟩ := k
  refine ⟨by simp [setRange_length, h1], fun i u hu => ?_, fun i c u hc hu => ?_⟩
  · rw [setRange_get _ _ _ _ (by omega)] at hu
    split at hu
    · exact k2 _ _ hu
    · exact h2 _ _ hu
  · rw [setRange_get _ _ _ _ (by omega)] at hu
    rw [setRange_get _ _ _ _ (by omega)] at hc
    rw [k1] at hc
    split at hu
    · rename_i hi; rw [if_pos hi] at hc; exact k3 _ _ _ hc hu
    · rename_i hi; rw [if_neg hi] at hc; exact h3 _ _ _ hc hu

theorem VR.cellsR {F : Frz} {a : AV} {v : Value} (h : VR F a v) (hs : a.solid = true) : CellsR (VR F) a.cells v.cells.toList := by
  obtain ⟨h1, h2⟩ := h.cells hs
  refine ⟨by simpa using h1, fun i u hu => ?_, fun i c u hc hu => (h2 i c u hc (by simpa using hu)).2⟩
  have hlt : i < a.cells.length := by have := (List.getElem?_eq_some_iff.1 hu).1; simp at this; omega
  exact (h2 i _ u (List.getElem?_eq_getElem hlt) (by simpa using hu)).1

/-- A cell whose slice, if it may be appended to in place, is nil. -/
def VRn (F : Frz) (c : AV) (u : Value) : Prop := VR F c u ∧ (c.plain1 = true ∨ u = .slice none 0 0)

theorem plain1_drop1 (c : AV) : c.drop1.plain1 = true := by cases c <;> rfl
theorem VRn.own {F : Frz} {c : AV} {u : Value} (h : VRn F c u) (G : Ghost) (D : Nat → Prop) (π : Place) : Own1 G D π c u := by
  rcases h.2 with h | h
  · exact Own1.of_plain h
  · subst h; cases c <;> simp [Own1]
theorem VR.cellsRn {F : Frz} {a : AV} {v : Value} (h : VR F a v) (hs : a.share.solid = true) : CellsR (VRn F) a.share.cells v.cells.toList := by
  obtain ⟨h1, h2, h3⟩ := h.share.cellsR hs
  refine ⟨h1, h2, fun i c u hc hu => ⟨h3 i c u hc hu, .inl ?_⟩⟩
  cases a with
  | agg cs =>
    simp only [AV.share, AV.cells, List.getElem?_map] at hc
    cases hcs : cs[i]? with
    | none => simp [hcs] at hc
    | some c' => simp [hcs] at hc; subst hc; exact plain1_drop1 _
  | tuple cs => simp [AV.share, AV.solid, AV.one] at hs
  | list o s vs =>
    cases i with
    | zero => simp [AV.share, AV.cells] at hc; subst hc; rfl
    | succ i => simp [AV.share, AV.cells] at hc
  | _ =>
    cases i with
    | zero => simp [AV.share, AV.cells] at hc; subst hc; rfl
    | succ i => simp [AV.share, AV.cells] at hc
/-- So too a written nil, at its type. -/
theorem VR.cellsRn_conv {P : Program} {t : TypeId} {F : Frz} {a : AV} {v : Value} (h : VR F a v) (hs : (conv P t a.share).solid = true) : CellsR (VRn F) (conv P t a.share).cells v.cells.toList := by
  unfold conv at hs ⊢
  split at hs
  · rename_i heq
    rw [heq] at hs ⊢
    have hv : v = .slice none 0 0 := by
      have := h.share
      rw [heq] at this
      cases this; rfl
    subst hv
    split
    · refine ⟨rfl, fun i u hu => ?_, fun i c u hc hu => ?_⟩
      · cases i with
        | zero => simp [Value.cells] at hu; subst hu; rfl
        | succ i => simp [Value.cells] at hu
      · cases i with
        | zero => simp [Value.cells, AV.cells] at hu hc; subst hu hc; exact ⟨.nil .., .inr rfl⟩
        | succ i => simp [Value.cells] at hu
    · refine ⟨rfl, fun i u hu => ?_, fun i c u hc hu => ?_⟩
      · cases i with
        | zero => simp [Value.cells] at hu; subst hu; rfl
        | succ i => simp [Value.cells] at hu
      · cases i with
        | zero => simp [Value.cells, AV.cells] at hu hc; subst hu hc; exact ⟨.lit .., .inr rfl⟩
        | succ i => simp [Value.cells] at hu
  · exact h.cellsRn hs

theorem fill_sound {P : Program} {t : TypeId} {R : AV → Value → Prop} {place : Nat → Option (Nat × Nat)} (hp : ∀ i p, tPart P t i = some p → place i = some p) : ∀ (parts : List (Nat × AV)) (parts' : List (Nat × Value)) (cs : List AV) (us : Array Value) (r : List AV),
    parts.length = parts'.length → (∀ (i : Nat) p q, parts[i]? = some p → parts'[i]? = some q → p.1 = q.1 ∧ (p.2.solid = true → CellsR R p.2.cells q.2.cells.toList)) → CellsR R cs us.toList → fillA P t cs parts = some r → ∃ us', Instr.fill place us parts' = some us' ∧ CellsR R r us'.toList
  | [], [], cs, us, r, _, _, hc, h => by simp [fillA] at h; subst h; exact ⟨us, rfl, hc⟩
  | [], _ :: _, _, _, _, hl, _, _, _ => by simp at hl
  | _ :: _, [], _, _, _, hl, _, _, _ => by simp at hl
  | (i, v) :: rest, (i', v') :: rest', cs, us, r, hl, hvr, hc, h => by
    obtain ⟨e1, e2⟩ := hvr 0 _ _ rfl rfl
    simp only at e1 e2; subst e1
    simp only [fillA] at h
    split at h
    case h_2 => simp at h
    rename_i off s hpt
    split at h
    case isFalse => simp at h
    rename_i hcond
    obtain ⟨c1, c2, c3⟩ := hcond
    have hcv := e2 c1
    have hsz : v'.cells.size = s := by have := hcv.1; simp at this; omega
    have hus : cs.length = us.size := by simpa using hc.1
    have hset := hc.setRange (off := off) hcv (by omega)
    obtain ⟨us', h1, h2⟩ := fill_sound hp rest rest' (setRange cs off v.cells) (v'.cells.zipIdx.foldl (fun cs p => cs.setIfInBounds (off + p.2) p.1) us) r (by simpa using hl)
      (fun j p q hp hq => hvr (j + 1) p q (by simpa using hp) (by simpa using hq)) (by
        have := foldl_set v'.cells.toList us off 0
        rw [← Array.foldl_toList]
        simp only [Nat.add_zero, Array.toList_zipIdx] at this ⊢
        rw [this]; exact hset) h
    refine ⟨us', ?_, h2⟩
    simp only [Instr.fill, hp i _ hpt, hsz]
    rw [if_neg (by simp; omega)]
    exact h1

/-- Bytes, if they are known as such. -/
def byteOf : AV → Option UInt8
  | .lit (.int .u8 n) => some (UInt8.ofNat n.toNat)
  | _ => none
def bytesOf (vs : List AV) : Option (List UInt8) := vs.mapM byteOf
/-- Runes, if they are known as such. -/
def runeOf : AV → Option Int
  | .lit (.int .i32 n) => some n
  | _ => none
def runesOf (vs : List AV) : Option (List Int) := vs.mapM runeOf

def aConv (P : Program) (src dst : TypeId) (a : AV) : Option AV :=
  match tInt P dst, a with
  | some k, .lit (.int _ n) => if (P.underlying src).isSome then some (.lit (.int k (k.wrap n))) else none
  | none, .lit (.int _ n) => if (P.underlying src).isSome ∧ tStr P dst = true then some (.lit (.string (Utf8.encode n))) else none
  | _, .list _ sz vs => if sz = 1 ∧ tStr P dst = true then (match (tElem P src).bind (tInt P) with
      | some .u8 => (bytesOf vs).map fun l => .lit (.string ⟨l.toArray⟩)
      | some .i32 => (runesOf vs).map fun l => .lit (.string (runesBytes l))
      | _ => none) else none
  | _, _ => none

theorem runesOf_vals {F : Frz} : ∀ (vs : List AV) (us : List Value) (l : List Int), runesOf vs = some l → CellsR (VR F) (flat vs) us → us = l.map (fun n => .int .i32 n)
  | [], us, l, h, hc => by
    simp [runesOf] at h; subst h; have := hc.1; simp only [flat, List.flatMap_nil, List.length_nil] at this; have hu : us = [] := List.eq_nil_of_length_eq_zero this.symm; subst hu; rfl
  | v :: vs, us, l, h, hc => by
    simp only [runesOf, List.mapM_cons] at h
    cases hb : runeOf v with
    | none => rw [hb] at h; simp at h
    | some b =>
      cases hbs : vs.mapM runeOf with
      | none => rw [hb, hbs] at h; simp at h
      | some l' =>
        rw [hb, hbs] at h; simp at h; subst h
        have hv : v = .lit (.int .i32 b) := by
          unfold runeOf at hb
          split at hb
          · simp at hb; subst hb; rfl
          · simp at hb
        subst hv
        cases us with
        | nil => have := hc.1; simp [flat, AV.cells] at this
        | cons u us =>
          have hu := hc.2.2 0 _ u rfl rfl
          cases hu
          have hf1 := runesOf_vals vs us l' hbs ⟨by have := hc.1; simp [flat, AV.cells] at this ⊢; exact this, fun i u hu => hc.2.1 (i + 1) u (by simpa using hu), fun i c u h1 h2 => hc.2.2 (i + 1) c u (by simpa [flat, AV.cells] using h1) (by simpa using h2)⟩
          simp [hf1]
theorem bytesOf_vals {F : Frz} : ∀ (vs : List AV) (us : List Value) (l : List UInt8), bytesOf vs = some l → CellsR (VR F) (flat vs) us →
    ∃ f : List Int, us = f.map (fun n => .int .u8 n) ∧ f.map (fun n => UInt8.ofNat n.toNat) = l
  | [], us, l, h, hc => by
    simp [bytesOf] at h; subst h; have := hc.1; simp only [flat, List.flatMap_nil, List.length_nil] at this; have hu : us = [] := List.eq_nil_of_length_eq_zero this.symm; subst hu; exact ⟨[], rfl, rfl⟩
  | v :: vs, us, l, h, hc => by
    simp only [bytesOf, List.mapM_cons] at h
    cases hb : byteOf v with
    | none => rw [hb] at h; simp at h
    | some b =>
      cases hbs : vs.mapM byteOf with
      | none => rw [hb, hbs] at h; simp at h
      | some l' =>
        rw [hb, hbs] at h; simp at h; subst h
        have hv : ∃ n, v = .lit (.int .u8 n) ∧ UInt8.ofNat n.toNat = b := by
          unfold byteOf at hb
          split at hb
          · simp at hb; exact ⟨_, rfl, hb⟩
          · simp at hb
        obtain ⟨n, rfl, hn⟩ := hv
        cases us with
        | nil => have := hc.1; simp [flat, AV.cells] at this
        | cons u us =>
          have hu := hc.2.2 0 _ u rfl rfl
          cases hu
          obtain ⟨f, hf1, hf2⟩ := bytesOf_vals vs us l' hbs ⟨by have := hc.1; simp [flat, AV.cells] at this ⊢; exact this, fun i u hu => hc.2.1 (i + 1) u (by simpa using hu), fun i c u h1 h2 => hc.2.2 (i + 1) c u (by simpa [flat, AV.cells] using h1) (by simpa using h2)⟩
          exact ⟨n :: f, by simp [hf1], by simp [hn, hf2]⟩

theorem aConv_sound {P : Program} {D : Nat → Prop} {G : Ghost} {σ : Store} {w : World} (hW : WR D G σ w) {src dst : TypeId} {a v : AV} {x : Value} (h : aConv P src dst a = some v) (hx : VR G.F a x) : ∃ cv, (convert src dst x).run P w = .ok cv w ∧ VR G.F v cv := by
  unfold aConv at h
  split at h
  · rename_i k _ n hk
    split at h
    case isFalse => simp at h
    rename_i hs
    simp at h; subst h
    cases hx
    obtain ⟨d, hd⟩ := Option.isSome_iff_exists.1 hs
    refine ⟨_, ?_, .lit _⟩
    cases d <;> simp [convert, run_underlying hd, run_underlying (under_int hk), Conv.intToInt]
  · rename_i k n hk
    split at h
    case isFalse => simp at h
    rename_i hs
    simp at h; subst h
    cases hx
    obtain ⟨d, hd⟩ := Option.isSome_iff_exists.1 hs.1
    refine ⟨_, ?_, .lit _⟩
    cases d <;> simp [convert, run_underlying hd, run_underlying (under_str hs.2), Conv.intToString]
  · rename_i own sz vs
    split at h
    case isFalse => simp at h
    rename_i hc
    obtain ⟨rfl, hst⟩ := hc
    split at h
    case h_3 => simp at h
    · rename_i hel
      cases hb : bytesOf vs with
      | none => simp [hb] at h
      | some l =>
        simp [hb] at h; subst h
        cases he : tElem P src with
        | none => simp [he] at hel
        | some e =>
          simp [he] at hel
          cases hx with
          | nil =>
            simp [bytesOf] at hb; subst hb
            exact ⟨_, run_convert_bytes_nil w src e (under_elem he) (under_int hel) 0 0 dst (under_str hst), .lit _⟩
          | void =>
            rename_i ad
            simp [bytesOf] at hb; subst hb
            have hl : (loadCells ad 0).run P w = .ok (([] : List Int).map (Value.int .u8)).toArray w := by simp [loadCells, loadCellsFrom]
            refine ⟨_, by rw [run_convert_bytes_string w src dst e _ 0 0 (under_elem he) (under_int hel) (under_str hst), run_bytesToString w _ 0 0 [] hl]; rfl, .lit _⟩
          | list _ _ _ g off n cap us hn hcap hw hl hF hv =>
            obtain ⟨f, hf1, hf2⟩ := bytesOf_vals vs us l hb ⟨hl.symm, fun i u hu => (hF i u hu).2, hv⟩
            have hfl := flat_length hw
            have hlen : f.length = n := by rw [hf1] at hl; simp at hl; omega
            refine ⟨_, run_convert_bytes_arg w src e (under_elem he) (under_int hel) g off n cap f hlen (fun i hi => ?_) dst (under_str hst), ?_⟩
            · have hu : us[i]? = some (.int .u8 (f.getD i 0)) := by
                rw [hf1, List.getElem?_map, List.getD_eq_getElem?_getD, List.getElem?_eq_getElem (by omega)]; rfl
              obtain ⟨cur, e', fz, q1, q2⟩ := hW.frz _ _ _ (hF i _ hu).1
              rw [cell_of_row w g (off + i) cur e' fz q1]; exact q2
            · have : strOfNums f = ⟨l.toArray⟩ := by unfold strOfNums; rw [hf2]
              rw [this]; exact .lit _
    · rename_i hel
      cases hb : runesOf vs with
      | none => simp [hb] at h
      | some l =>
        simp [hb] at h; subst h
        cases he : tElem P src with
        | none => simp [he] at hel
        | some e =>
          simp [he] at hel
          cases hx with
          | nil =>
            simp [runesOf] at hb; subst hb
            refine ⟨.string .empty, ?_, .lit _⟩
            rw [run_convert_runes_string w src dst e none 0 0 (under_elem he) (under_int hel) (under_str hst)]
            simp [Conv.runesToString]
          | void =>
            rename_i ad
            simp [runesOf] at hb; subst hb
            have hl : (loadCells ad 0).run P w = .ok (([] : List Int).map (Value.int .i32)).toArray w := by simp [loadCells, loadCellsFrom]
            exact ⟨_, by rw [run_convert_runes_string w src dst e _ 0 0 (under_elem he) (under_int hel) (under_str hst), run_runesToString w _ 0 0 [] hl], .lit _⟩
          | list _ _ _ g off n cap us hn hcap hw hl hF hv =>
            have hf1 := runesOf_vals vs us l hb ⟨hl.symm, fun i u hu => (hF i u hu).2, hv⟩
            have hfl := flat_length hw
            have hlen : l.length = n := by rw [hf1] at hl; simp at hl; omega
            have hld : (loadCells ⟨g, off, none⟩ n).run P w = .ok (l.map (Value.int .i32)).toArray w := by
              have := run_loadCells_list (P := P) w ⟨g, off, none⟩ (l.map (Value.int .i32)) (fun j v hj => by
                obtain ⟨cur, e', fz, q1, q2⟩ := hW.frz _ _ _ (hF j v (by rw [hf1]; exact hj)).1
                rw [add_addr, cell_of_row w g (off + j) cur e' fz q1]; exact q2)
              rwa [List.length_map, hlen] at this
            exact ⟨_, by rw [run_convert_runes_string w src dst e _ n cap (under_elem he) (under_int hel) (under_str hst), run_runesToString w _ n cap l hld], .lit _⟩
  · simp at h

/-- All sizes are known. -/
def tParts (P : Program) (t : TypeId) : Bool := (P.underlying t).any fun
  | .struct fs => fs.toList.all fun f => (tSize P f.type).isSome
  | .array _ e => (tSize P e).isSome
  | _ => false
def aBuild (P : Program) (t : TypeId) (parts : List (Nat × AV)) : Option AV :=
  match tParts P t, azero P t with
  | true, some zs => (fillA P t zs parts).map .agg
  | _, _ => none

end Go.AL
/-
  The abstract-state logic: structs built of their parts; the operations that leave the state alone, under one name.
-/
namespace Go.AL
open Go Go.RowKit Classical
variable [GL]
set_option linter.unusedSectionVars false

theorem conv_plainlit {P : Program} {t : TypeId} {F : Frz} {v : Value} : VR F (conv P t (.lit v)) v := conv_VR (.lit v)

theorem azero_sound {P : Program} {t : TypeId} {zs : List AV} (h : azero P t = some zs) (F : Frz) : ∃ z, tZero P t = some z ∧ CellsR (VRn F) zs z.cells.toList := by
  unfold azero at h
  cases hz : tZero P t with
  | none => simp [hz] at h
  | some z =>
    simp only [hz, Option.bind_some] at h
    split at h
    case isFalse => simp at h
    rename_i hall
    simp at h; subst h
    refine ⟨z, rfl, by simp, fun i u hu => List.all_eq_true.1 hall u (List.mem_of_getElem? hu), fun i c u hc hu => ?_⟩
    rw [List.getElem?_map, List.getElem?_zipIdx] at hc
    rw [hu] at hc
    simp at hc; subst hc
    refine ⟨conv_plainlit, ?_⟩
    unfold conv
    split
    · rename_i heq; simp only [AV.lit.injEq] at heq; exact .inr heq
    · exact .inl rfl

/-- The zero's cells; raw: as they are written. -/
def azeroB (P : Program) (raw : Bool) (t : TypeId) : Option (List AV) :=
  if raw = true then (tZero P t).bind fun z => if z.cells.toList.all Value.oneCell' then some (z.cells.toList.map .lit) else none else azero P t

theorem azeroB_sound {P : Program} {raw : Bool} {t : TypeId} {zs : List AV} (h : azeroB P raw t = some zs) (F : Frz) : ∃ z, tZero P t = some z ∧ CellsR (VRn F) zs z.cells.toList := by
  unfold azeroB at h
  split at h
  case isFalse => exact azero_sound h F
  cases hz : tZero P t with
  | none => simp [hz] at h
  | some z =>
    simp only [hz, Option.bind_some] at h
    split at h
    case isFalse => simp at h
    rename_i hall
    simp at h; subst h
    refine ⟨z, rfl, by simp, fun i u hu => List.all_eq_true.1 hall u (List.mem_of_getElem? hu), fun i c u hc hu => ?_⟩
    rw [List.getElem?_map, hu] at hc
    simp at hc; subst hc
    exact ⟨.lit _, .inl rfl⟩

theorem mapM_sizes {P : Program} (w : World) : ∀ (l : List Field), (∀ f ∈ l, (tSize P f.type).isSome = true) → (l.mapM fun f => (do pure (f.offset, ← sizeOf f.type) : Sem (Nat × Nat))).run P w = .ok (l.map fun f => (f.offset, (tSize P f.type).getD 0)) w
  | [], _ => rfl
  | f :: l, h => by
    obtain ⟨s, hs⟩ := Option.isSome_iff_exists.1 (h f (by simp))
    have ih := mapM_sizes w l (fun g hg => h g (by simp [hg]))
    simp only [List.mapM_cons, Sem.run_bind, run_sizeOf hs, Result.andThen_ok, Sem.run_pure, ih]
    simp [hs]

theorem build_sound {P : Program} {F : Frz} {w : World} {t : TypeId} {parts : List (Nat × AV)} {parts' : List (Nat × Value)} {v : AV} (h : aBuild P t parts = some v) (hl : parts.length = parts'.length)
    (hv : ∀ (i : Nat) p q, parts[i]? = some p → parts'[i]? = some q → p.1 = q.1 ∧ (p.2.solid = true → CellsR (VRn F) p.2.cells q.2.cells.toList)) : ∃ cv, (Instr.build t parts'.toArray).run P w = .ok cv w ∧ VR F v cv ∧ ∀ (G : Ghost) D r, OwnAt G D r v cv := by
  unfold aBuild at h
  split at h
  case h_2 => simp at h
  rename_i zs hb hz
  obtain ⟨z, hz1, hz2⟩ := azero_sound hz F
  cases hr : fillA P t zs parts with
  | none => simp [hr] at h
  | some r =>
    simp [hr] at h; subst h
    unfold tParts at hb
    cases hu : P.underlying t with
    | none => simp [hu] at hb
    | some d =>
      cases d with
      | struct fs =>
        have hplace : ∀ i p, tPart P t i = some p → ((fs.toList.map fun f => (f.offset, (tSize P f.type).getD 0)).toArray[·]?) i = some p := by
          intro i p hp
          have ha : tArr P t = none := by simp [tArr, hu]
          simp only [tPart, ha, tField, hu, Option.bind_some] at hp
          cases hf : fs[i]? with
          | none => simp [hf] at hp
          | some f =>
            simp [hf] at hp
            obtain ⟨s, hs, rfl⟩ := hp
            simp [hf, hs]
        obtain ⟨us', h1, h2⟩ := fill_sound hplace parts parts' zs z.cells r hl hv hz2 hr
        have hm := mapM_sizes (P := P) w fs.toList (by intro f hf; simp only [hu, Option.any_some] at hb; exact List.all_eq_true.1 hb f hf)
        refine ⟨.agg us', ?_, .agg _ _ (by simpa using h2.1) (fun i u hu' => h2.2.1 i u (by simpa using hu')) fun i c u hc hu' => (h2.2.2 i c u hc (by simpa using hu')).1, fun G D ρ j c u hc hu' => (h2.2.2 j c u hc (by simpa using hu')).own ..⟩
        have hm' : (fs.mapM fun f => (do pure (f.offset, ← sizeOf f.type) : Sem (Nat × Nat))).run P w = .ok (fs.toList.map fun f => (f.offset, (tSize P f.type).getD 0)).toArray w := by
          rw [Array.mapM_eq_mapM_toList, Sem.run_map, hm]
          rfl
        simp only [Instr.build, Sem.run_bind, run_zeroValue hz1, Result.andThen_ok, run_underlying hu, hm', h1]
        simp
      | array n e =>
        have ha : tArr P t = some (n, e) := by simp [tArr, hu]
        cases hs : tSize P e with
        | none => simp [hu, hs] at hb
        | some s =>
          have hplace : ∀ i p, tPart P t i = some p → (fun i => some (i * s, s)) i = some p := by
            intro i p hp; simpa [tPart, ha, hs] using hp
          obtain ⟨us', h1, h2⟩ := fill_sound hplace parts parts' zs z.cells r hl hv hz2 hr
          refine ⟨.agg us', ?_, .agg _ _ (by simpa using h2.1) (fun i u hu' => h2.2.1 i u (by simpa using hu')) fun i c u hc hu' => (h2.2.2 i c u hc (by simpa using hu')).1, fun G D ρ j c u hc hu' => (h2.2.2 j c u hc (by simpa using hu')).own ..⟩
          simp only [Instr.build, Sem.run_bind, run_zeroValue hz1, Result.andThen_ok, run_underlying hu, run_sizeOf hs]
          simp [h1]
      | _ => simp [hu] at hb

/-! ### Under one name -/
def nodeOf (parts : Array (Nat × Operand)) (A : Slots) : List (Nat × AV) := parts.toList.map fun p => (p.1, evalA A p.2)

/-- The conversion of the written value at a part's type. -/
def apure (P : Program) (o : Oper) (A : Slots) (σ : Store) : Option AV :=
  match o.op with
  | .move (.const c) => some (conv P o.type (.lit c))
  | .move x => some (evalA A x).share
  | .pick c a b => match evalA A c with
    | .lit (.bool t) => some (evalA A (if t then a else b)).share
    | _ => none
  | .load t x => (aLoad P σ t (evalA A x)).map AV.share
  | .nilCheck x => aNilCheck (evalA A x)
  | .binOp op t x y _ => aBin P op t (evalA A x) (evalA A y)
  | .unOp op _ x => match evalA A x with
    | .lit v => (pureUn op v).map .lit
    | _ => none
  | .convert src dst x => aConv P src dst (evalA A x)
  | .fieldAddr s x f => aFieldAddr P s f (evalA A x)
  | .field t x f => (aField P t f (evalA A x)).map AV.share
  | .indexAddr t x ix => aIndexAddr P t (evalA A x) (evalA A ix)
  | .index t x ix => (aIndex P t (evalA A x) (evalA A ix)).map AV.share
  | .slice t x lo hi mx => aSlice P t (evalA A x) (lo.map (evalA A)) (hi.map (evalA A)) (mx.map (evalA A))
  | .makeInterface t x => match tIface P t with
    | some false => some (.iface t (evalA A x).share)
    | _ => none
  | .makeFunc fn first captured => some (.func fn (first.toList.map fun x => (evalA A x).share) (captured.toList.map fun x => (evalA A x).share))
  | .build t parts => (aBuild P t ((nodeOf parts A).map fun p => (p.1, conv P (((tField P t p.1).map (·.2)).getD (((tArr P t).map (·.2)).getD 0)) p.2.share)))
  | .call c => match c.callee, c.args.toList, c.argTypes.toList with
    | .builtin .len, [x], [t] => aLen P t (evalA A x)
    | .builtin .min, [x, y], _ => aMin (evalA A x) (evalA A y)
    | .builtin .max, [x, y], _ => aMax (evalA A x) (evalA A y)
    | _, _, _ => none
  | _ => none

theorem optVR {D : Nat → Prop} {n : Nat} {G : Ghost} {A : Slots} {σ : Store} {a : Act} {w : World} (h : Rel D n G A σ a w) (o : Option Operand) : OptVR G.F (o.map (evalA A)) (o.map a.eval) := by
  cases o with
  | none => trivial
  | some x => exact h.eval x

theorem value_ok {P : Program} {s : Sem Value} {w w' : World} {v : Value} (h : s.run P w = .ok v w') : (do pure (Next.value (← s)) : Sem Next).run P w = .ok (.value v) w' := by
  simp [h]

theorem apure_sound {P : Program} {o : Oper} {D : Nat → Prop} {n : Nat} {G : Ghost} {A : Slots} {σ : Store} {a : Act} {w : World} {v : AV} (h : apure P o A σ = some v) (hR : Rel D n G A σ a w) :
    ∃ cv, (execOp a.eval o).run P w = .ok (.value cv) w ∧ VR G.F v cv ∧ OwnAt G D .acc v cv := by
  unfold apure at h
  unfold execOp
  have share : ∀ {x : Option AV} {s : Sem Value}, x.map AV.share = some v → (∀ v', x = some v' → ∃ cv, s.run P w = .ok cv w ∧ VR G.F v' cv) →
      ∃ cv, (do pure (Next.value (← s)) : Sem Next).run P w = .ok (.value cv) w ∧ VR G.F v cv ∧ OwnAt G D .acc v cv := by
    intro x s hx hs
    cases x with
    | none => simp at hx
    | some v' =>
      simp at hx; subst hx
      obtain ⟨cv, h1, h2⟩ := hs v' rfl
      exact ⟨cv, value_ok h1, h2.share, OwnAt.share ..⟩
  have plain : ∀ {s : Sem Value}, v.plain = true → (∃ cv, s.run P w = .ok cv w ∧ VR G.F v cv) →
      ∃ cv, (do pure (Next.value (← s)) : Sem Next).run P w = .ok (.value cv) w ∧ VR G.F v cv ∧ OwnAt G D .acc v cv := by
    rintro s hp ⟨cv, h1, h2⟩
    exact ⟨cv, value_ok h1, h2, OwnAt.of_plain hp⟩
  generalize o.op = op at h ⊢
  cases op with
  | move x =>
    cases x with
    | const c =>
      simp only [Option.some.injEq] at h; subst h
      exact ⟨c, rfl, conv_VR (.lit c), conv_own (F := G.F) (.lit c) (OwnAt.of_plain rfl)⟩
    | tmp t => simp only [Option.some.injEq] at h; subst h; exact ⟨_, rfl, (hR.eval (.tmp t)).share, OwnAt.share ..⟩
    | global g => simp only [Option.some.injEq] at h; subst h; exact ⟨_, rfl, (hR.eval (.global g)).share, OwnAt.share ..⟩
    | func f => simp only [Option.some.injEq] at h; subst h; exact ⟨_, rfl, (hR.eval (.func f)).share, OwnAt.share ..⟩
  | pick c x y =>
    dsimp only at h
    split at h
    case h_2 => simp at h
    rename_i t hc
    simp at h; subst h
    have hcv := hR.eval c
    rw [hc] at hcv
    generalize hcc : a.eval c = cc at hcv
    cases hcv
    refine ⟨if t then a.eval x else a.eval y, by cases t <;> simp [hcc, asBool], ?_, OwnAt.share ..⟩
    cases t
    · exact (hR.eval y).share
    · exact (hR.eval x).share
  | load t x => exact share h fun v' hv' => aLoad_sound hR.world hv' (hR.eval x)
  | nilCheck x =>
    dsimp only at h ⊢
    have hx := hR.eval x
    unfold aNilCheck at h
    split at h
    · rename_i p heq
      simp at h; subst h
      rw [heq] at hx
      generalize a.eval x = cx at hx
      cases hx
      exact ⟨_, rfl, .lit _, OwnAt.of_plain rfl⟩
    · rename_i cs heq
      simp at h; subst h
      rw [heq] at hx
      generalize a.eval x = cx at hx
      cases hx with | fptr _ g off us hl hF hv => ?_
      exact ⟨_, rfl, .fptr cs g off us hl hF hv, OwnAt.of_plain rfl⟩
    · rename_i f fs cs heq
      simp at h; subst h
      rw [heq] at hx
      generalize a.eval x = cx at hx
      cases hx with | func _ _ _ ufs ucs h1 h2 h3 h4 => ?_
      exact ⟨_, rfl, .func _ _ _ _ _ h1 h2 h3 h4, OwnAt.of_plain rfl⟩
    · simp at h
  | binOp op t x y ty =>
    dsimp only at h ⊢
    refine plain ?_ (aBin_sound h (hR.eval x) (hR.eval y) x y)
    unfold aBin nilBin at h
    split at h
    · exact aggBin_plain h
    · split at h
      · simp at h; subst h; rfl
      · split at h
        · cases hr : eqNil P t _ _ <;> rw [hr] at h <;> simp at h; subst h; rfl
        · cases hr : eqNil P t _ _ <;> rw [hr] at h <;> simp at h; subst h; rfl
        · simp at h
    · split at h
      · cases hr : eqNil P t _ _ <;> rw [hr] at h <;> simp at h; subst h; rfl
      · cases hr : eqNil P t _ _ <;> rw [hr] at h <;> simp at h; subst h; rfl
      · simp at h
  | unOp op t x =>
    dsimp only at h ⊢
    have hx := hR.eval x
    split at h
    case h_2 => simp at h
    rename_i v' heq
    cases hp : pureUn op v' with
    | none => simp [hp] at h
    | some r =>
      simp [hp] at h; subst h
      rw [heq] at hx
      generalize a.eval x = cx at hx
      cases hx
      exact plain rfl ⟨_, pureUn_sound hp w, .lit _⟩
  | convert src dst x =>
    refine plain ?_ (aConv_sound hR.world h (hR.eval x))
    dsimp only at h
    unfold aConv at h
    split at h
    · split at h
      · simp at h; subst h; rfl
      · simp at h
    · split at h
      · simp at h; subst h; rfl
      · simp at h
    · split at h
      · split at h
        · simp at h; obtain ⟨_, _, rfl⟩ := h; rfl
        · simp at h; obtain ⟨_, _, rfl⟩ := h; rfl
        · simp at h
      · simp at h
    · simp at h
  | fieldAddr s x f =>
    refine plain ?_ (aFieldAddr_sound h (hR.eval x))
    dsimp only at h
    unfold aFieldAddr at h
    (repeat' split at h) <;> first
      | (simp at h; done)
      | (simp at h; subst h; rfl)
  | field t x f => exact share h fun v' hv' => aField_sound hv' (hR.eval x)
  | indexAddr t x ix =>
    refine plain ?_ (aIndexAddr_sound h (hR.eval x) (hR.eval ix))
    dsimp only at h
    unfold aIndexAddr at h
    (repeat' split at h) <;> first
      | (simp at h; done)
      | (simp at h; subst h; rfl)
      | (simp at h; obtain ⟨_, _, rfl⟩ := h; rfl)
  | index t x ix => exact share h fun v' hv' => aIndex_sound hv' (hR.eval x) (hR.eval ix)
  | slice t x lo hi mx =>
    refine plain ?_ (aSlice_sound h (hR.eval x) (optVR hR lo) (optVR hR hi) (optVR hR mx))
    dsimp only at h
    unfold aSlice at h
    (repeat' split at h) <;> first
      | (simp at h; done)
      | (simp at h; subst h; rfl)
  | makeInterface t x =>
    dsimp only at h ⊢
    split at h
    case h_2 => simp at h
    rename_i ht
    simp at h; subst h
    obtain ⟨d, hd, hi⟩ := under_iface ht
    refine plain rfl ⟨.iface t (a.eval x), ?_, .iface t _ _ (hR.eval x).share⟩
    cases d <;> first
      | (simp at hi; done)
      | simp [Instr.makeInterface, run_underlying hd]
  | makeFunc fn first captured =>
    dsimp only at h ⊢
    simp at h; subst h
    refine plain rfl ⟨.func fn (first.map a.eval) (captured.map a.eval), rfl, .func _ _ _ _ _ (by simp) (by simp) (fun i c u hc hu => ?_) fun i c u hc hu => ?_⟩
    · simp only [List.getElem?_map, Array.getElem?_toList] at hc
      simp only [Array.getElem?_map] at hu
      cases hx : first[i]? with
      | none => simp [hx] at hc
      | some x => simp [hx] at hc hu; subst hc hu; exact (hR.eval x).share
    · simp only [List.getElem?_map, Array.getElem?_toList] at hc
      simp only [Array.getElem?_map] at hu
      cases hx : captured[i]? with
      | none => simp [hx] at hc
      | some x => simp [hx] at hc hu; subst hc hu; exact (hR.eval x).share
  | build t parts =>
    dsimp only at h ⊢
    obtain ⟨cv, h1, h2, h3⟩ := build_sound (w := w) (F := G.F) (parts' := (parts.map fun p => (p.1, a.eval p.2)).toList) h (by simp [nodeOf]) (fun i p q hp hq => by
      simp only [nodeOf, List.map_map, List.getElem?_map, Array.getElem?_toList, Array.toList_map] at hp hq
      cases hx : parts[i]? with
      | none => simp [hx] at hp
      | some x =>
        simp [hx] at hp hq; subst hp hq
        exact ⟨rfl, fun hs => (hR.eval x.2).cellsRn_conv hs⟩)
    rw [Array.toArray_toList] at h1
    exact ⟨cv, value_ok h1, h2, h3 ..⟩
  | call c =>
    obtain ⟨callee, args, argTypes⟩ := c
    dsimp only at h ⊢
    split at h
    · rename_i x t hargs hts
      have e1 : args = #[x] := by rw [← Array.toArray_toList (xs := args), hargs]
      have e2 : argTypes = #[t] := by rw [← Array.toArray_toList (xs := argTypes), hts]
      subst e1 e2
      obtain ⟨cv, h1, h2⟩ := aLen_sound (w := w) (ty := o.type) h (hR.eval x)
      refine ⟨cv, ?_, h2, OwnAt.of_plain ?_⟩
      · simp [resolve, invoke, builtin, h1]
      · unfold aLen at h
        (repeat' split at h) <;> first
          | (simp at h; done)
          | (simp at h; subst h; rfl)
    · rename_i x y hargs
      have e1 : args = #[x, y] := by rw [← Array.toArray_toList (xs := args), hargs]
      subst e1
      obtain ⟨cv, h1, h2⟩ := aMin_sound (P := P) (w := w) (ts := argTypes) (ty := o.type) h (hR.eval x) (hR.eval y)
      refine ⟨cv, ?_, h2, OwnAt.of_plain ?_⟩
      · simp [resolve, invoke, builtin, h1]
      · unfold aMin at h
        split at h
        · simp at h; subst h; rfl
        · simp at h
    · rename_i x y hargs
      have e1 : args = #[x, y] := by rw [← Array.toArray_toList (xs := args), hargs]
      subst e1
      obtain ⟨cv, h1, h2⟩ := aMax_sound (P := P) (w := w) (ts := argTypes) (ty := o.type) h (hR.eval x) (hR.eval y)
      refine ⟨cv, ?_, h2, OwnAt.of_plain ?_⟩
      · simp [resolve, invoke, builtin, h1]
      · unfold aMax at h
        split at h
        · simp at h; subst h; rfl
        · simp at h
    · simp at h
  | _ => simp at h

end Go.AL
/-
  The abstract-state logic: operations that change the state: boxes, stores, new rows, append.
-/
namespace Go.AL
open Go Go.RowKit Classical
variable [GL]
set_option linter.unusedSectionVars false

theorem Rel.step {D : Nat → Prop} {n : Nat} {G G' : Ghost} {A : Slots} {σ σ' : Store} {a : Act} {w w' : World} (h : Rel D n G A σ a w) (hF : ∀ g i u, G.F g i = some u → G'.F g i = some u)
    (hS : ∀ g m z i j, D g → G.S g = some (m, z, .slot i j) → G'.S g = some (m, z, .slot i j)) (hW : WR D G' σ' w') (hsz : w.heap.size ≤ w'.heap.size) : Rel D n G' A σ' a w' :=
  ⟨h.defers, h.size, fun i => (h.val i).mono hF, fun i => (h.own i).re fun g m z j hd hg => hS g m z i j hd hg, hW, fun k hk => h.fresh k (Nat.le_trans hsz hk)⟩

/-- What an operation comes to. -/
def Does (P : Program) (D : Nat → Prop) (n : Nat) (G : Ghost) (a : Act) (w : World) (o : Oper) (K : AV → Slots → Store → Prop) : Prop :=
  ∃ v cv A' σ' G' w', K v A' σ' ∧ ((execOp a.eval o).run P w = .ok (.value cv) w' ∨ ((execOp a.eval o).run P w = .ok .skip w' ∧ cv = undef)) ∧
    Rel D n G' A' σ' a w' ∧ VR G'.F v cv ∧ OwnAt G' D .acc v cv ∧ Ext D G w G' w'

theorem Ext.alloc {D : Nat → Prop} {w : World} (hD : ∀ k, w.heap.size ≤ k → D k) (G : Ghost) (o : Obj) : Ext D G w G (w.alloc o) :=
  ⟨rfl, rfl, rfl, by simp, fun _ _ _ h => h, fun k hk => ⟨Below.heap_alloc w o k (by
    rcases Nat.lt_or_ge k w.heap.size with h | h
    · exact h
    · exact absurd (hD k h) hk), rfl, rfl⟩⟩
theorem Ext.setS {D : Nat → Prop} {w : World} {G : Ghost} {F : Frz} {g : Nat} (hg : D g) (x : Nat × Nat × Place) (hF : ∀ k i u, G.F k i = some u → F k i = some u) (ho : ∀ k, k ≠ g → F k = G.F k) :
    Ext D G w (Ghost.setS ⟨F, G.S⟩ g x) w :=
  ⟨rfl, rfl, rfl, Nat.le_refl _, hF, fun k hk => by
    have hne : k ≠ g := fun e => hk (e ▸ hg)
    exact ⟨rfl, by simp [Ghost.setS, hne], ho k hne⟩⟩

theorem CellsR.mono {R R' : AV → Value → Prop} {cs : List AV} {us : List Value} (h : CellsR R cs us) (hr : ∀ c u, R c u → R' c u) : CellsR R' cs us :=
  ⟨h.1, h.2.1, fun i c u hc hu => hr _ _ (h.2.2 i c u hc hu)⟩

/-! ### boxes -/
theorem newObj_does {P : Program} {D : Nat → Prop} {n : Nat} {G : Ghost} {A : Slots} {σ : Store} {a : Act} {w : World} (h : Rel D n G A σ a w) {o : Oper} {K : AV → Slots → Store → Prop} {cs : List AV} {cur : Array Value} {e : TypeId}
    (hc : CellsR (VRn G.F) cs cur.toList) (f : Nat → Value) (hK : ∀ p : Nat, σ p = none → K (.lit (f p)) A (σ.upd p cs))
    (hr : (execOp a.eval o).run P w = .ok (.value (f w.heap.size)) (w.alloc (.cells cur e))) : Does P D n G a w o K := by
  have hD := h.fresh _ (Nat.le_refl w.heap.size)
  have hn : σ w.heap.size = none := by
    cases hs : σ w.heap.size with
    | none => rfl
    | some x => obtain ⟨_, _, _, c, e', h4, _⟩ := h.world.obj _ x hs; have := (Array.getElem?_eq_some_iff.1 h4).1; omega
  refine ⟨_, _, _, _, G, _, hK _ hn, .inl hr, h.step (fun _ _ _ h => h) (fun _ _ _ _ _ _ h => h) (h.world.newObj hD cur e cs (by have := hc.1; simp at this; omega) fun i c u hci hu => ?_) (by simp), .lit _, OwnAt.of_plain rfl, Ext.alloc h.fresh G _⟩
  have hu' : cur.toList[i]? = some u := by simpa using hu
  exact ⟨hc.2.1 i u hu', (hc.2.2 i c u hci hu').1, (hc.2.2 i c u hci hu').own ..⟩

theorem newRow_does {P : Program} {D : Nat → Prop} {n : Nat} {G : Ghost} {A : Slots} {σ : Store} {a : Act} {w : World} (h : Rel D n G A σ a w) {o : Oper} {K : AV → Slots → Store → Prop} {cs : List AV} {cur : Array Value} {e : TypeId}
    (hc : CellsR (VRn G.F) cs cur.toList) {l c : Nat} (hlc : l ≤ c) (hK : ∀ p : Nat, σ p = none → K (.row p l) A (σ.upd p cs))
    (hr : (execOp a.eval o).run P w = .ok (.value (.slice (some ⟨w.heap.size, 0, none⟩) l c)) (w.alloc (.cells cur e))) : Does P D n G a w o K := by
  have hD := h.fresh _ (Nat.le_refl w.heap.size)
  have hn : σ w.heap.size = none := by
    cases hs : σ w.heap.size with
    | none => rfl
    | some x => obtain ⟨_, _, _, c, e', h4, _⟩ := h.world.obj _ x hs; have := (Array.getElem?_eq_some_iff.1 h4).1; omega
  refine ⟨_, _, _, _, G, _, hK _ hn, .inl hr, h.step (fun _ _ _ h => h) (fun _ _ _ _ _ _ h => h) (h.world.newObj hD cur e cs (by have := hc.1; simp at this; omega) fun i c u hci hu => ?_) (by simp), .row _ _ _ hlc, OwnAt.of_plain rfl, Ext.alloc h.fresh G _⟩
  have hu' : cur.toList[i]? = some u := by simpa using hu
  exact ⟨hc.2.1 i u hu', (hc.2.2 i c u hci hu').1, (hc.2.2 i c u hci hu').own ..⟩

def aAlloc (P : Program) (e : TypeId) (A : Slots) (σ : Store) (K : AV → Slots → Store → Prop) : Prop :=
  match azero P e with
  | some cs => ∀ p : Nat, σ p = none → K (.lit (.pointer (some ⟨p, 0, none⟩))) A (σ.upd p cs)
  | none => False
def aBox (P : Program) (raw : Bool) (e : TypeId) (x : Operand) (A : Slots) (σ : Store) (K : AV → Slots → Store → Prop) : Prop :=
  takeA A x fun v A' => (cond raw v (conv P e v)).solid = true ∧ ∀ p : Nat, σ p = none → K (.lit (.pointer (some ⟨p, 0, none⟩))) A' (σ.upd p (cond raw v (conv P e v)).cells)

theorem aAlloc_sound {P : Program} {D : Nat → Prop} {n : Nat} {G : Ghost} {A : Slots} {σ : Store} {a : Act} {w : World} (h : Rel D n G A σ a w) {o : Oper} {K : AV → Slots → Store → Prop} {e : TypeId} (ho : o.op = .alloc e)
    (hK : aAlloc P e A σ K) : Does P D n G a w o K := by
  unfold aAlloc at hK
  split at hK
  case h_2 => exact hK.elim
  rename_i cs hz
  obtain ⟨z, hz1, hz2⟩ := azero_sound hz G.F
  refine newObj_does h (cur := z.cells) (e := e) hz2 (fun p => .pointer (some ⟨p, 0, none⟩)) hK ?_
  simp [execOp, ho, Instr.alloc, run_zeroValue hz1, newVar, newRow]
/-! ### stores -/
theorem WR.objTo {D : Nat → Prop} {G G' : Ghost} {σ : Store} {w w' : World} (h : WR D G σ w) {o : Nat} {cs cs' : List AV} (hcs : σ o = some cs) (hF : G'.F = G.F)
    (hb : ∀ g n z π, G'.S g = some (n, z, π) → ∃ π', G.S g = some (n, z, π'))
    (hob : ∀ g n z p i, D g → p ≠ o → σ p ≠ none → G.S g = some (n, z, .obj p i) → G'.S g = some (n, z, .obj p i))
    {cur cur' : Array Value} {e : TypeId} (hg : w.heap[o]? = some (.cells cur e (0, 0))) (hg' : w'.heap[o]? = some (.cells cur' e (0, 0))) (hother : ∀ k, k ≠ o → w'.heap[k]? = w.heap[k]?)
    (hl : cs'.length ≤ cur'.size) (hc : ∀ i c u, cs'[i]? = some c → cur'[i]? = some u → u.oneCell' = true ∧ VR G.F c u ∧ Own1 G' D (.obj o i) c u) : WR D G' (σ.upd o cs') w' := by
  obtain ⟨p1, p2, p3, _, _, _, _, _⟩ := h.obj o cs hcs
  have hS' : ∀ k, G.S k = none → G'.S k = none := fun k hk => by
    cases hs : G'.S k with
    | none => rfl
    | some x => obtain ⟨π', hx⟩ := hb k x.1 x.2.1 x.2.2 hs; simp [hk] at hx
  refine ⟨fun g j v hv => ?_, fun g n z ρ hgS => ?_, fun o' cs'' hcs' => ?_, by rw [hF]; exact h.laid, othKeep h (fun _ _ _ h => by rw [hF]; exact h) (fun g => upd_mkey ..) fun k ob hi hk => by
    have hne : k ≠ o := fun e => by subst e; have := hi.1; rw [hcs] at this; cases this
    exact ⟨by rw [hother k hne]; exact hk, by simp [hne, hi.1], hS' k hi.2.1, by rw [hF]; exact hi.2.2⟩, varKeep h fun k ob hi hk => by
    have hne : k ≠ o := fun e => by subst e; have := hi.1; rw [hcs] at this; cases this
    exact ⟨by rw [hother k hne]; exact hk, by simp [hne, hi.1], by rw [upd_mkey]; exact hi.2.1, hS' k hi.2.2⟩⟩
  · rw [hF] at hv
    obtain ⟨c', e', fz, q1, q2⟩ := h.frz g j v hv
    have : g ≠ o := fun e => by subst e; simp [p3] at hv
    exact ⟨c', e', fz, by rw [hother g this]; exact q1, q2⟩
  · obtain ⟨π', hgS'⟩ := hb g n z ρ hgS
    obtain ⟨q1, ⟨c', e', q2, q3⟩, q4⟩ := h.own g n z π' hgS'
    have : g ≠ o := fun e => by subst e; simp [p2] at hgS'
    exact ⟨by simp [this, q1], ⟨c', e', q2.same (hother g this), q3⟩, by rw [hF]; exact q4⟩
  · simp only [upd_nat] at hcs'
    split at hcs'
    · rename_i hoo; subst hoo
      simp only [Option.some.injEq] at hcs'; subst hcs'
      exact ⟨p1, hS' _ p2, by rw [hF]; exact p3, cur', e, hg', hl, by rw [hF]; exact hc⟩
    · rename_i hoo
      obtain ⟨q1, q2, q3, c', e', q4, q5, q6⟩ := h.obj o' cs'' hcs'
      refine ⟨q1, hS' _ q2, by rw [hF]; exact q3, c', e', by rw [hother o' hoo]; exact q4, q5, fun i c u hci hu => ?_⟩
      obtain ⟨r1, r2, r3⟩ := q6 i c u hci hu
      exact ⟨r1, by rw [hF]; exact r2, r3.same fun k m y hd hk => hob k m y o' i hd hoo (by rw [hcs']; simp) hk⟩

/-- From the accumulator into an object, from this place on. -/
def toObj (o off : Nat) : Place → Place
  | .acc j => .obj o (off + j)
  | π => π

def aStore (P : Program) (t : TypeId) (ad : AV) (x : Operand) (A : Slots) (σ : Store) (K : AV → Slots → Store → Prop) : Prop :=
  match ad with
  | .lit (.pointer (some ⟨o, off, none⟩)) => match σ o with
    | some cs => takeA A x fun v A' => (conv P t v).solid = true ∧ tSize P t = some (conv P t v).cells.length ∧ off + (conv P t v).cells.length ≤ cs.length ∧ K .top A' (σ.upd o (setRange cs off (conv P t v).cells))
    | none => False
  | _ => False

theorem toList_setRow {cur : Array Value} {us : List Value} {off : Nat} (h : off + us.length ≤ cur.size) : cur.toList.take off ++ us ++ cur.toList.drop (off + us.length) = setRange cur.toList off us := by
  apply List.ext_getElem?
  intro i
  rw [setRange_get _ _ _ _ (by simpa using h)]
  by_cases h1 : i < off
  · rw [if_neg (by omega), List.append_assoc, List.getElem?_append_left (by simp; omega), List.getElem?_take_of_lt h1]
  · by_cases h2 : i < off + us.length
    · rw [if_pos (by omega), List.append_assoc, List.getElem?_append_right (by simp; omega), List.getElem?_append_left (by simp; omega)]
      congr 1; simp; omega
    · rw [if_neg (by omega), List.getElem?_append_right (by simp; omega), List.getElem?_drop]
      congr 1; simp; omega

/-- Cells are stored one behind the other into a row of which none is frozen for good. -/
theorem storeCells_fz (P : Program) (g o : Nat) (e : TypeId) (fz : Nat × Nat) : ∀ (us : List Value) (i : Nat) (cur : Array Value) (w : World), (fz = (0, 0) ∨ cur.size ≤ fz.1) → w.heap[g]? = some (.cells cur e fz) →
    o + i + us.length ≤ cur.size → (∀ u ∈ us, u.oneCell' = true) → (storeCells ⟨g, o, none⟩ us i).run P w = .ok () (w.setRow g (cur.toList.take (o + i) ++ us ++ cur.toList.drop (o + i + us.length)).toArray)
  | [], i, cur, w, _, hg, _, _ => by
    have e1 : (cur.toList.take (o + i) ++ [] ++ cur.toList.drop (o + i + ([] : List Value).length)).toArray = cur := by simp
    rw [e1, setRow_self w g cur e fz hg]; rfl
  | u :: us, i, cur, w, hfz, hg, hl, h1 => by
    have hi : o + i < cur.size := by simp at hl; omega
    have hat : (⟨g, o, none⟩ : Addr).add i = ⟨g, o + i, none⟩ := by unfold Addr.add; split <;> simp_all
    have hno : w.frozen? ⟨g, o + i, none⟩ = false := by
      rcases hfz with rfl | hfz
      · simp [World.frozen?, hg]
      · obtain ⟨lo, hi'⟩ := fz
        simp [World.frozen?, hg]
        dsimp only at hfz; omega
    have hone : (store ((⟨g, o, none⟩ : Addr).add i) u).run P w = .ok () (w.setRow g (cur.setIfInBounds (o + i) u)) := by
      have hc : w.cell? ⟨g, o + i, none⟩ = some cur[o + i] := by simp [World.cell?, hg, hi]
      rw [hat, run_store P w _ u _ (h1 u (by simp)), hc]
      simp [hno, setCell_eq_setRow w g (o + i) cur e fz u hg]
    have hrest := storeCells_fz P g o e fz us (i + 1) (cur.setIfInBounds (o + i) u) (w.setRow g (cur.setIfInBounds (o + i) u)) (by simpa using hfz) (setRow_heap w g cur _ e _ hg) (by simp at hl ⊢; omega) fun x hx => h1 x (by simp [hx])
    have hstep := list_seg_step cur.toList (o + i) u us (by simp at hl ⊢; omega)
    simp only [storeCells, Sem.run_bind, hone, Result.andThen_ok, hrest, setRow_setRow]
    congr 3
    simpa [Array.toList_setIfInBounds, Nat.add_assoc] using hstep

theorem OwnAt.cells {G : Ghost} {D : Nat → Prop} {r : Nat → Place} {a : AV} {v : Value} (h : OwnAt G D r a v) (hv : VR G.F a v) (hs : a.solid = true) : ∀ (j : Nat) (c : AV) (u : Value), a.cells[j]? = some c → v.cells[j]? = some u → Own1 G D (r j) c u := by
  intro j c u hc hu
  cases hv with
  | agg cs us => exact h j c u hc hu
  | top v => simp [AV.solid, AV.one] at hs
  | tuple => simp [AV.solid, AV.one] at hs
  | lit v => 
    have : c.plain1 = true := by
      cases j with
      | zero => simp [AV.cells] at hc; subst hc; rfl
      | succ j => simp [AV.cells] at hc
    exact Own1.of_plain this
  | _ =>
    cases j with
    | zero => simp [AV.cells, Value.cells] at hc hu; subst hc hu; exact h
    | succ j => simp [AV.cells] at hc

theorem aBox_sound {P : Program} {D : Nat → Prop} {n : Nat} {G : Ghost} {A : Slots} {σ : Store} {a : Act} {w : World} (h : Rel D n G A σ a w) {o : Oper} {K : AV → Slots → Store → Prop} {raw : Bool} {e : TypeId} {x : Operand} (ho : o.op = .box e x)
    (hK : aBox P raw e x A σ K) : Does P D n G a w o K := by
  obtain ⟨v, A', G1, ⟨hs, hk⟩, hR, hv, hown, hext, hF⟩ := h.takes hK
  have hv' : VR G1.F (cond raw v (conv P e v)) (a.eval x) := by cases raw <;> first | exact hv | exact conv_VR hv
  have hown' : OwnAt G1 D .acc (cond raw v (conv P e v)) (a.eval x) := by cases raw <;> first | exact hown | exact conv_own hv hown
  generalize (cond raw v (conv P e v)) = v2 at hs hk hv' hown'
  have hD := hR.fresh _ (Nat.le_refl w.heap.size)
  have hn : σ w.heap.size = none := by
    cases hs : σ w.heap.size with
    | none => rfl
    | some x => obtain ⟨_, _, _, c, e', h4, _⟩ := hR.world.obj _ x hs; have := (Array.getElem?_eq_some_iff.1 h4).1; omega
  obtain ⟨c1, c2, c3⟩ := hv'.cellsR hs
  refine ⟨_, .pointer (some ⟨w.heap.size, 0, none⟩), A', _, G1.mv D (toObj w.heap.size 0), w.alloc (.cells (a.eval x).cells e), hk _ hn, .inl ?_, hR.step (fun _ _ _ h => h) (fun g m z i j hd hg => by rw [Ghost.mv_some hd hg]; rfl) ?_ (by simp), .lit _, OwnAt.of_plain rfl,
    (hext.trans (Ext.mv ..)).trans (Ext.alloc hR.fresh _ _)⟩
  · simp [execOp, ho, Instr.box, newVar, newRow]
  · refine (hR.world.mv _ (fun _ _ => rfl)).newObj hD _ e _ (by simp at c1; omega) fun i c u hc hu => ?_
    have hu' : (a.eval x).cells.toList[i]? = some u := by simpa using hu
    refine ⟨c2 i u hu', c3 i c u hc hu', (hown'.cells hv' hs i c u hc hu).re fun g m z hd hg => ?_⟩
    rw [Ghost.mv_some hd hg]; simp [toObj]

theorem aStore_sound {P : Program} {D : Nat → Prop} {n : Nat} {G : Ghost} {A : Slots} {σ : Store} {a : Act} {w : World} (h : Rel D n G A σ a w) {o : Oper} {K : AV → Slots → Store → Prop} {t : TypeId} {y x : Operand} (ho : o.op = .store t y x)
    (hK : aStore P t (evalA A y) x A σ K) : Does P D n G a w o K := by
  unfold aStore at hK
  split at hK
  case h_2 => exact hK.elim
  rename_i p off heq
  split at hK
  case h_2 => exact hK.elim
  rename_i cs hcs
  have hy := h.eval y
  rw [heq] at hy
  generalize hyv : a.eval y = yv at hy
  cases hy
  obtain ⟨v, A', G1, ⟨hsolid, hsz, hle, hk⟩, hR1, hv, hown, hext, hF⟩ := h.takes hK
  have hv' : VR G1.F (conv P t v) (a.eval x) := conv_VR hv
  have hown' : OwnAt G1 D .acc (conv P t v) (a.eval x) := conv_own hv hown
  generalize conv P t v = v2 at hsolid hsz hle hk hv' hown'
  obtain ⟨p1, p2, p3, cur, e, p4, p5, p6⟩ := hR1.world.obj p cs hcs
  obtain ⟨c1, c2, c3⟩ := hv'.cellsR hsolid
  have hlen : (a.eval x).cells.size = v2.cells.length := by simpa using c1.symm
  have hfit : off + (a.eval x).cells.toList.length ≤ cur.size := by simp; omega
  have hrun := run_storeCells_at P p off e (a.eval x).cells.toList 0 cur w p4 (by simpa using hfit) (fun u hu => by
    obtain ⟨i, hi⟩ := List.getElem?_of_mem hu; exact c2 i u hi)
  simp only [Nat.add_zero] at hrun
  rw [toList_setRow hfit] at hrun
  generalize hw' : w.setRow p (setRange cur.toList off (a.eval x).cells.toList).toArray = w' at hrun
  have hg' : w'.heap[p]? = some (.cells (setRange cur.toList off (a.eval x).cells.toList).toArray e (0, 0)) := by subst hw'; exact setRow_heap w p cur _ e _ p4
  have hoth : ∀ k, k ≠ p → w'.heap[k]? = w.heap[k]? := fun k hk => by subst hw'; exact setRow_other w p k _ hk
  have hback : ∀ g m z π, (G1.mv D (toObj p off)).S g = some (m, z, π) → ∃ π', G1.S g = some (m, z, π') := fun g m z π hg => Ghost.mv_back hg
  have hkeep : ∀ g m z q i, D g → G1.S g = some (m, z, .obj q i) → (G1.mv D (toObj p off)).S g = some (m, z, .obj q i) := fun g m z q i hd hg => by rw [Ghost.mv_some hd hg]; rfl
  refine ⟨.top, undef, A', _, G1.mv D (toObj p off), w', hk, .inr ⟨?_, rfl⟩, hR1.step (fun _ _ _ h => h) (fun g m z i j hd hg => by rw [Ghost.mv_some hd hg]; rfl) ?_ (by subst hw'; simp), .top _, OwnAt.of_plain rfl,
    hext.trans ⟨by subst hw'; rfl, by subst hw'; rfl, by subst hw'; rfl, by subst hw'; simp, fun _ _ _ h => h, fun k hk => ?_⟩⟩
  · have hsz' : (sizeOf t).run P w = .ok v2.cells.length w := run_sizeOf hsz w
    simp [execOp, ho, hyv, Instr.storeAt, Instr.sureAddr, storeVar, hsz', hlen, hrun]
  · refine hR1.world.objTo hcs rfl hback (fun g m z q i hd _ _ hg => hkeep g m z q i hd hg) p4 hg' hoth (by simp [setRange_length]; omega) fun i c u hc hu => ?_
    have hu' : (setRange cur.toList off (a.eval x).cells.toList)[i]? = some u := by simpa using hu
    rw [setRange_get _ _ _ _ (by simpa using hfit)] at hu'
    rw [setRange_get _ _ _ _ (by omega)] at hc
    simp only [Array.length_toList, hlen] at hu'
    split at hc
    · rename_i hi
      rw [if_pos hi] at hu'
      refine ⟨c2 _ _ hu', c3 _ _ _ hc hu', ?_⟩
      have := hown'.cells hv' hsolid (i - off) c u hc (by simpa using hu')
      refine this.re fun g m z hd hg => ?_
      rw [Ghost.mv_some hd hg]; simp [toObj]; omega
    · rename_i hi
      rw [if_neg hi] at hu'
      obtain ⟨q1, q2, q3⟩ := p6 i c u hc (by simpa using hu')
      exact ⟨q1, q2, q3.same fun g m z hd hg => hkeep g m z p i hd hg⟩
  · have hne : k ≠ p := fun e => hk (e ▸ p1)
    exact ⟨hoth k hne, by simp [Ghost.mv, hk], rfl⟩

end Go.AL
/-
  The abstract-state logic: rows by value: a slice literal, make, append.
-/
namespace Go.AL
open Go Go.RowKit Classical
variable [GL]
set_option linter.unusedSectionVars false

/-- A new row, frozen up to there, is a list. -/
theorem newListS {D : Nat → Prop} {n : Nat} {G : Ghost} {A : Slots} {σ : Store} {a : Act} {w : World} (h : Rel D n G A σ a w) (cur : Array Value) (e : TypeId) (sz : Nat) (vs : List AV) (cap : Nat)
    (hcap : cap * sz = cur.size) (hle : vs.length ≤ cap) (hmax : cap ≤ maxLen) (hw : ∀ v ∈ vs, v.cells.length = sz) (us : List Value) (hus : CellsR (VR G.F) (flat vs) us) (hcur : ∀ (i : Nat) (u : Value), us[i]? = some u → cur[i]? = some u) :
    ∃ G', Rel D n G' A σ a (w.alloc (.cells cur e)) ∧ VR G'.F (.list true sz vs) (.slice (some ⟨w.heap.size, 0, none⟩) vs.length cap) ∧ OwnAt G' D .acc (.list true sz vs) (.slice (some ⟨w.heap.size, 0, none⟩) vs.length cap) ∧
      Ext D G w G' (w.alloc (.cells cur e)) ∧ (∀ g i u, G.F g i = some u → G'.F g i = some u) ∧ D w.heap.size ∧ G'.S w.heap.size = some (us.length, cur.size, .acc 0) := by
  have hD := h.fresh _ (Nat.le_refl w.heap.size)
  have hnoF : ∀ i, G.F w.heap.size i = none := fun i => by
    cases hF : G.F w.heap.size i with
    | none => rfl
    | some u => obtain ⟨c, e', fz, h1, _⟩ := h.world.frz _ i u hF; have := (Array.getElem?_eq_some_iff.1 h1).1; omega
  have hW1 := h.world.newRow cur e (.acc 0)
  have hS1 : (G.setS w.heap.size (0, cur.size, .acc 0)).S w.heap.size = some (0, cur.size, .acc 0) := by simp [Ghost.setS]
  have hW2 := hW1.freeze hS1 (by simp) (heap_alloc_new w (.cells cur e)) us (fun i u hu => by simpa using hcur i u hu) (.acc 0)
  generalize hG' : Ghost.setS ⟨Frz.put (G.setS w.heap.size (0, cur.size, .acc 0)).F w.heap.size 0 us, (G.setS w.heap.size (0, cur.size, .acc 0)).S⟩ w.heap.size (0 + us.length, cur.size, .acc 0) = G' at hW2
  have hGF : G'.F = Frz.put G.F w.heap.size 0 us := by subst hG'; rfl
  have hmono : ∀ g i u, G.F g i = some u → G'.F g i = some u := fun g i u hu => by
    rw [hGF]; exact Frz.put_mono (fun i _ => hnoF i) g i u hu
  have hGS : ∀ k, k ≠ w.heap.size → G'.S k = G.S k := fun k hk => by subst hG'; simp [Ghost.setS, hk]
  have hGS0 : G'.S w.heap.size = some (us.length, cur.size, .acc 0) := by subst hG'; simp [Ghost.setS]
  have hfl := flat_length hw
  refine ⟨G', h.step hmono (fun g m z i j hd hg => ?_) hW2 (by simp), ?_, Or.inr ⟨hD, cur.size, ?_, ?_, hmax⟩, ⟨rfl, rfl, rfl, by simp, hmono, fun k hk => ?_⟩, hmono, hD, hGS0⟩
  · have : g ≠ w.heap.size := fun e => by
      subst e; obtain ⟨_, ⟨c, e', ⟨_, h2, _⟩, _⟩, _⟩ := h.world.own _ _ _ _ hg; have := (Array.getElem?_eq_some_iff.1 h2).1; omega
    rw [hGS g this]; exact hg
  · refine .list true sz vs w.heap.size 0 _ cap us rfl hle hw hus.1.symm (fun i u hu => ⟨?_, hus.2.1 i u hu⟩) fun i c u hc hu => (hus.2.2 i c u hc hu).mono hmono
    rw [hGF]; exact Frz.put_at G.F w.heap.size 0 us i u hu
  · rw [hGS0, hus.1.symm, hfl]; simp
  · simp only [Nat.zero_add]; omega
  · have hne : k ≠ w.heap.size := fun e => hk (e ▸ hD)
    refine ⟨(Ext.alloc h.fresh G (.cells cur e)).block k hk |>.1, hGS k hne, ?_⟩
    rw [hGF]; exact Frz.put_other hne

theorem newList {D : Nat → Prop} {n : Nat} {G : Ghost} {A : Slots} {σ : Store} {a : Act} {w : World} (h : Rel D n G A σ a w) (cur : Array Value) (e : TypeId) (sz : Nat) (vs : List AV) (cap : Nat)
    (hcap : cap * sz = cur.size) (hle : vs.length ≤ cap) (hmax : cap ≤ maxLen) (hw : ∀ v ∈ vs, v.cells.length = sz) (us : List Value) (hus : CellsR (VR G.F) (flat vs) us) (hcur : ∀ (i : Nat) (u : Value), us[i]? = some u → cur[i]? = some u) :
    ∃ G', Rel D n G' A σ a (w.alloc (.cells cur e)) ∧ VR G'.F (.list true sz vs) (.slice (some ⟨w.heap.size, 0, none⟩) vs.length cap) ∧ OwnAt G' D .acc (.list true sz vs) (.slice (some ⟨w.heap.size, 0, none⟩) vs.length cap) ∧
      Ext D G w G' (w.alloc (.cells cur e)) ∧ (∀ g i u, G.F g i = some u → G'.F g i = some u) :=
  let ⟨G', q1, q2, q3, q4, q5, _⟩ := newListS h cur e sz vs cap hcap hle hmax hw us hus hcur
  ⟨G', q1, q2, q3, q4, q5⟩

/-! ### A slice literal -/
def setEls (P : Program) (e : TypeId) (s : Nat) (els : List AV) : List (Nat × AV) → Option (List AV)
  | [] => some els
  | (i, v) :: rest => if (conv P e v.share).share.solid = true ∧ (conv P e v.share).share.cells.length = s ∧ i < els.length then setEls P e s (els.set i (conv P e v.share).share) rest else none

def zeroEl (P : Program) (e : TypeId) : Option AV :=
  match tAgg P e, azero P e with
  | some b, some zs => (mkAV b zs).map AV.share
  | _, _ => none

def aBuildSlice (P : Program) (t : TypeId) (len : Nat) (parts : List (Nat × AV)) : Option AV :=
  match tElem P t with
  | some e => match tSize P e, zeroEl P e with
    | some s, some z => if len * s ≤ 16777216 ∧ 0 < s ∧ z.cells.length = s ∧ z.solid = true then (setEls P e s (List.replicate len z) parts).map (.list true s) else none
    | _, _ => none
  | none => none

theorem zeroCells_eq (z : List Value) (s n : Nat) (hs : z.length = s) : (List.range (n * s)).map (fun i => z[i % s]!) = (List.replicate n z).flatten := by
  induction n with
  | zero => simp
  | succ n ih =>
    rw [Nat.succ_mul, List.range_add, List.map_append, ih, List.replicate_succ', List.flatten_append]
    congr 1
    simp only [List.map_map, List.flatten_cons, List.flatten_nil, List.append_nil]
    apply List.ext_getElem
    · simp [hs]
    · intro i h1 h2
      simp at h1
      simp only [List.getElem_map, List.getElem_range, Function.comp]
      have : (n * s + i) % s = i := by rw [Nat.mul_comm, Nat.mul_add_mod]; exact Nat.mod_eq_of_lt h1
      rw [this, getElem!_pos z i h2]

theorem flat_set {els : List AV} {s : Nat} (hw : ∀ v ∈ els, v.cells.length = s) {i : Nat} (hi : i < els.length) {v : AV} (hv : v.cells.length = s) : flat (els.set i v) = setRange (flat els) (i * s) v.cells := by
  have hw' : ∀ x ∈ els.set i v, x.cells.length = s := fun x hx => by
    rcases List.mem_or_eq_of_mem_set hx with h | h
    · exact hw x h
    · rw [h, hv]
  have hl := flat_length hw
  have hl' := flat_length hw'
  rw [List.length_set] at hl'
  have hmul : (i + 1) * s ≤ els.length * s := Nat.mul_le_mul_right _ hi
  rw [Nat.succ_mul] at hmul
  apply List.ext_getElem?
  intro k
  rw [setRange_get _ _ _ _ (by omega)]
  by_cases hs : s = 0
  · subst hs
    rw [if_neg (by omega)]
    have e1 : flat els = [] := List.eq_nil_of_length_eq_zero (by simpa using hl)
    have e2 : flat (els.set i v) = [] := List.eq_nil_of_length_eq_zero (by simpa using hl')
    rw [e1, e2]
  have hs' : 0 < s := Nat.pos_of_ne_zero hs
  by_cases hk : k < els.length * s
  · have hq : k / s < els.length := Nat.div_lt_of_lt_mul (by rw [Nat.mul_comm]; exact hk)
    have hkm : k / s * s + k % s = k := Nat.div_add_mod' k s
    have hm : k % s < s := Nat.mod_lt _ hs'
    have get : ∀ (xs : List AV), (∀ x ∈ xs, x.cells.length = s) → ∀ x, xs[k / s]? = some x → (flat xs)[k]? = x.cells[k % s]? := fun xs hxs x hx => by
      have hxl : x.cells.length = s := hxs x (List.mem_of_getElem? hx)
      have hc : x.cells[k % s]? = some (x.cells[k % s]'(by omega)) := List.getElem?_eq_getElem _
      have := flat_at hxs hx (k % s) _ hc
      rw [hkm] at this
      rw [this, hc]
    by_cases hki : k / s = i
    · rw [get _ hw' v (by rw [hki]; simp [hi])]
      rw [if_pos (by rw [← hki, hv]; omega)]
      congr 1; rw [← hki]; omega
    · rw [if_neg]
      · rw [get _ hw' (els[k / s]) (by rw [List.getElem?_set_ne (Ne.symm hki)]; exact List.getElem?_eq_getElem hq), get _ hw _ (List.getElem?_eq_getElem hq)]
      · rw [hv]
        rintro ⟨a1, a2⟩
        apply hki
        rw [Nat.div_eq_iff hs']
        omega
  · rw [List.getElem?_eq_none (by omega), if_neg (by omega), List.getElem?_eq_none (by omega)]

theorem setEls_sound {P : Program} {e : TypeId} {F : Frz} {s : Nat} : ∀ (parts : List (Nat × AV)) (parts' : List (Nat × Value)) (els r : List AV) (us : Array Value),
    parts.length = parts'.length → (∀ (i : Nat) p q, parts[i]? = some p → parts'[i]? = some q → p.1 = q.1 ∧ VR F p.2 q.2) → (∀ v ∈ els, v.cells.length = s) → CellsR (VR F) (flat els) us.toList → setEls P e s els parts = some r →
    ∃ us', Instr.fill (fun i => some (i * s, s)) us parts' = some us' ∧ CellsR (VR F) (flat r) us'.toList ∧ r.length = els.length ∧ (∀ v ∈ r, v.cells.length = s)
  | [], [], els, r, us, _, _, hw, hc, h => by simp [setEls] at h; subst h; exact ⟨us, rfl, hc, rfl, hw⟩
  | [], _ :: _, _, _, _, hl, _, _, _, _ => by simp at hl
  | _ :: _, [], _, _, _, hl, _, _, _, _ => by simp at hl
  | (i, v) :: rest, (i', v') :: rest', els, r, us, hl, hvr, hw, hc, h => by
    obtain ⟨e1, e2⟩ := hvr 0 _ _ rfl rfl
    simp only at e1 e2; subst e1
    simp only [setEls] at h
    split at h
    case isFalse => simp at h
    rename_i hcond
    obtain ⟨c1, c2, c3⟩ := hcond
    have hv2 : VR F (conv P e v.share).share v' := (conv_VR e2.share).share
    generalize (conv P e v.share).share = v2 at *
    have hcv := hv2.cellsR c1
    have hsz : v'.cells.size = s := by have := hcv.1; simp at this; omega
    have hfl := flat_length hw
    have hus : (flat els).length = us.size := by simpa using hc.1
    have hmul : (i + 1) * s ≤ els.length * s := Nat.mul_le_mul_right _ c3
    rw [Nat.succ_mul] at hmul
    have hset := hc.setRange (off := i * s) hcv (by omega)
    rw [← flat_set hw c3 c2] at hset
    have hw2 : ∀ x ∈ els.set i v2, x.cells.length = s := fun x hx => by
      rcases List.mem_or_eq_of_mem_set hx with h | h
      · exact hw x h
      · rw [h, c2]
    obtain ⟨us', h1, h2, h3, h4⟩ := setEls_sound rest rest' (els.set i v2) r (v'.cells.zipIdx.foldl (fun cs p => cs.setIfInBounds (i * s + p.2) p.1) us) (by simpa using hl)
      (fun j p q hp hq => hvr (j + 1) p q (by simpa using hp) (by simpa using hq)) hw2 (by
        have := foldl_set v'.cells.toList us (i * s) 0
        rw [← Array.foldl_toList]
        simp only [Nat.add_zero, Array.toList_zipIdx] at this ⊢
        rw [this]; exact hset) h
    refine ⟨us', ?_, h2, by simpa using h3, h4⟩
    simp only [Instr.fill, hsz]
    rw [if_neg (by simp; omega)]
    exact h1

theorem flat_replicate {z : AV} (n : Nat) : flat (List.replicate n z) = (List.replicate n z.cells).flatten := by
  induction n with
  | zero => rfl
  | succ n ih => simp only [flat, List.replicate_succ, List.flatMap_cons, List.flatten_cons] at ih ⊢; rw [ih]

theorem CellsR.append {R : AV → Value → Prop} {cs ds : List AV} {us vs : List Value} (h : CellsR R cs us) (k : CellsR R ds vs) : CellsR R (cs ++ ds) (us ++ vs) := by
  obtain ⟨h1, h2, h3⟩ := h
  obtain ⟨k1, k2, k3⟩ := k
  refine ⟨by simp; omega, fun i u hu => ?_, fun i c u hc hu => ?_⟩
  · rw [List.getElem?_append] at hu
    split at hu
    · exact h2 _ _ hu
    · exact k2 _ _ hu
  · rw [List.getElem?_append] at hu hc
    rw [h1] at hc
    split at hu
    · rename_i hi; rw [if_pos hi] at hc; exact h3 _ _ _ hc hu
    · rename_i hi; rw [if_neg hi] at hc; exact k3 _ _ _ hc hu
theorem CellsR.rep {R : AV → Value → Prop} {cs : List AV} {us : List Value} (h : CellsR R cs us) (n : Nat) : CellsR R (List.replicate n cs).flatten (List.replicate n us).flatten := by
  induction n with
  | zero => exact ⟨rfl, by simp, by simp⟩
  | succ n ih => simp only [List.replicate_succ, List.flatten_cons]; exact h.append ih

theorem zeroEl_sound {P : Program} {e : TypeId} {z : AV} (h : zeroEl P e = some z) (F : Frz) : ∃ zv, tZero P e = some zv ∧ CellsR (VR F) z.cells zv.cells.toList := by
  unfold zeroEl at h
  split at h
  case h_2 => simp at h
  rename_i b zs hb hz
  obtain ⟨zv, h1, h2⟩ := azero_sound hz F
  refine ⟨zv, h1, ?_⟩
  cases b with
  | true =>
    simp [mkAV] at h; subst h
    simp only [AV.share, AV.cells]
    refine ⟨by simpa using h2.1, h2.2.1, fun i c u hc hu => ?_⟩
    rw [List.getElem?_map] at hc
    cases hci : zs[i]? with
    | none => simp [hci] at hc
    | some c' => simp [hci] at hc; subst hc; exact (h2.2.2 i c' u hci hu).1.drop1
  | false =>
    match zs, h with
    | [c], h =>
      simp [mkAV] at h; subst h
      have hlen : zv.cells.size = 1 := by have := h2.1; simp at this; omega
      have hs : CellsR (VR F) [c.share] zv.cells.toList := by
        refine ⟨by simpa using hlen.symm, h2.2.1, fun i c' u hc hu => ?_⟩
        cases i with
        | zero => simp at hc; subst hc; exact (h2.2.2 0 c u rfl hu).1.share
        | succ i => simp at hc
      have hone : c.share.cells = [c.share] := by
        have hu : zv.cells.toList[0]? = some (zv.cells[0]'(by omega)) := by simp [hlen]
        have := (h2.2.2 0 c _ rfl hu).1
        have h1c := h2.2.1 0 _ hu
        cases c with
        | agg cs => generalize zv.cells[0] = u at this h1c; cases this; simp [Value.oneCell'] at h1c
        | _ => rfl
      rw [hone]; exact hs
    | [], h => simp [mkAV] at h
    | _ :: _ :: _, h => simp [mkAV] at h

theorem maxLen_big {n : Nat} (h : n ≤ 16777216) : n ≤ maxLen := by unfold maxLen; omega

theorem aBuildSlice_sound {P : Program} {D : Nat → Prop} {n : Nat} {G : Ghost} {A : Slots} {σ : Store} {a : Act} {w : World} (h : Rel D n G A σ a w) {o : Oper} {K : AV → Slots → Store → Prop} {t : TypeId} {len : Nat} {parts : Array (Nat × Operand)}
    (ho : o.op = .buildSlice t len parts) {v : AV} (hv : aBuildSlice P t len (nodeOf parts A) = some v) (hK : K v A σ) : Does P D n G a w o K := by
  unfold aBuildSlice at hv
  split at hv
  case h_2 => simp at hv
  rename_i e he
  split at hv
  case h_2 => simp at hv
  rename_i s z hs hz
  split at hv
  case isFalse => simp at hv
  rename_i hc
  obtain ⟨c1, c2, c3, c4⟩ := hc
  cases hr : setEls P e s (List.replicate len z) (nodeOf parts A) with
  | none => simp [hr] at hv
  | some r =>
    simp [hr] at hv; subst hv
    obtain ⟨zv, hz1, hz2⟩ := zeroEl_sound hz G.F
    have hzl : zv.cells.size = s := by have := hz2.1; simp at this; omega
    generalize hz0 : ((Array.range (len * s)).map (zv.cells[· % zv.cells.size]!)) = z0
    have hz0' : z0.toList = (List.replicate len zv.cells.toList).flatten := by
      subst hz0
      rw [← zeroCells_eq zv.cells.toList s len (by simpa using hzl), hzl]
      simp only [Array.toList_map, Array.toList_range]
      apply List.map_congr_left
      intro i _
      rw [Array.getElem!_toList]
    obtain ⟨us', h1, h2, h3, h4⟩ := setEls_sound (P := P) (e := e) (F := G.F) (nodeOf parts A) (parts.map fun p => (p.1, a.eval p.2)).toList (List.replicate len z) r z0 (by simp [nodeOf]) (fun i p q hp hq => by
      simp only [nodeOf, List.getElem?_map, Array.getElem?_toList, Array.toList_map] at hp hq
      cases hx : parts[i]? with
      | none => simp [hx] at hp
      | some x => simp [hx] at hp hq; subst hp hq; exact ⟨rfl, h.eval x.2⟩) (fun v hv => by rw [(List.mem_replicate.1 hv).2, c3]) (by rw [flat_replicate, hz0']; exact hz2.rep len) hr
    have hfl := flat_length h4
    simp only [List.length_replicate] at h3
    have husz : us'.size = len * s := by have := h2.1; rw [hfl, h3] at this; simpa using this.symm
    obtain ⟨G', q1, q2, q3, q4, _⟩ := newList h us' e s r len husz.symm (by omega) (maxLen_big (Nat.le_trans (Nat.le_mul_of_pos_right _ c2) c1)) h4 us'.toList h2 (fun i u hu => by simpa using hu)
    refine ⟨_, _, A, σ, G', _, hK, .inl ?_, q1, q2, q3, q4⟩
    have hlim : ¬ (2 ^ 24 < len * s) := by omega
    rw [h3]
    rw [Array.toList_map] at h1
    by_cases h0 : len * s = 0
    · have hl0 : len = 0 := by
        rcases Nat.mul_eq_zero.1 h0 with h | h
        · exact h
        · omega
      subst hl0
      have hz00 : z0 = #[] := by subst hz0; simp
      rw [hz00] at h1
      simp [execOp, ho, Instr.buildSlice, run_underlying (under_elem he), run_sizeOf hs, Array.range_zero', h1, newRow] 
    · simp [execOp, ho, Instr.buildSlice, run_underlying (under_elem he), run_sizeOf hs, hlim, h0, run_zeroValue hz1, hz0, h1, newRow]

end Go.AL
/-
  The abstract-state logic: append, make, parts of results; one operation under one name.
-/
namespace Go.AL
open Go Go.RowKit Classical
variable [GL]
set_option linter.unusedSectionVars false

/-- The list that is appended. -/
def srcA (sz : Nat) (v : AV) : Option (List AV) :=
  match v with
  | .list _ sz' vs => if sz' = sz then some vs else none
  | .lit (.slice none 0 0) => some []
  | _ => none

def tZeroSize (P : Program) (e : TypeId) : Option Nat := (tZero P e).map fun z => z.cells.size
def aAppend (P : Program) (t : TypeId) (s x : Operand) (A : Slots) (σ : Store) (K : AV → Slots → Store → Prop) : Prop :=
  match tElem P t with
  | some e => match tSize P e, tBytes P e with
    | some sz, some by_ => match srcA sz (evalA A x) with
      | some ws => takeA A s fun v A' => match conv P t v with
        | .list own sz' vs => sz' = sz ∧ 0 < sz ∧ tZeroSize P e = some sz ∧ own = true ∧ vs.length + ws.length ≤ maxLen ∧ (vs.length + ws.length) * by_ ≤ 140737488355328 ∧ K (.list true sz (vs ++ ws)) A' σ
        | _ => False
      | none => False
    | _, _ => False
  | none => False

theorem VR.list_src {F : Frz} {v : AV} {sz : Nat} {ws : List AV} {x : Value} (h : VR F v x) (hs : srcA sz v = some ws) :
    (ws = [] ∧ ∃ xb, x = .slice xb 0 0) ∨ ∃ g off cap us, x = .slice (some ⟨g, off, none⟩) ws.length cap ∧ (∀ v ∈ ws, v.cells.length = sz) ∧ (∀ (i : Nat) (u : Value), us[i]? = some u → F g (off + i) = some u) ∧ CellsR (VR F) (flat ws) us := by
  unfold srcA at hs
  split at hs
  · split at hs
    case isFalse => simp at hs
    rename_i hsz; subst hsz
    simp at hs; subst hs
    cases h with
    | nil => exact .inl ⟨rfl, _, rfl⟩
    | void => exact .inl ⟨rfl, _, rfl⟩
    | list _ _ _ g off n cap us hn hc hw hl hF hv => exact .inr ⟨g, off, cap, us, by rw [hn], hw, fun i u hu => (hF i u hu).1, hl.symm, fun i u hu => (hF i u hu).2, hv⟩
  · simp at hs; subst hs
    cases h
    exact .inl ⟨rfl, _, rfl⟩
  · simp at hs

theorem WR.drew {D : Nat → Prop} {G : Ghost} {σ : Store} {w : World} (h : WR D G σ w) : WR D G σ w.drew := ⟨h.frz, h.own, h.obj, h.laid, h.oth, h.vars⟩
theorem Ext.drew {D : Nat → Prop} {G : Ghost} {w : World} : Ext D G w G w.drew := ⟨rfl, rfl, rfl, Nat.le_refl _, fun _ _ _ h => h, fun _ _ => ⟨rfl, rfl, rfl⟩⟩
theorem Rel.drew {D : Nat → Prop} {n : Nat} {G : Ghost} {A : Slots} {σ : Store} {a : Act} {w : World} (h : Rel D n G A σ a w) : Rel D n G A σ a w.drew :=
  ⟨h.defers, h.size, h.val, h.own, h.world.drew, h.fresh⟩

theorem run_append_none {P : Program} (w : World) {t ty e : TypeId} {i : TypeInfo} (ht : P.underlying t = some (.slice e)) (hi : P.info? e = some i) (base xb : Option Addr) (n c : Nat) (h : n ≤ c) :
    (Builtin.append_ #[t, t] ty #[.slice base n c, .slice xb 0 0]).run P w = .ok (.slice base n c) w := by
  cases base with
  | none => cases xb <;> simp [Builtin.append_, run_underlying ht, sizeOf, typeInfo, hi, Builtin.lenOf, h, Builtin.firstCells, loadCells, loadCellsFrom]
  | some a => cases xb <;> simp [Builtin.append_, run_underlying ht, sizeOf, typeInfo, hi, Builtin.lenOf, h, Builtin.firstCells, storeCells, loadCells, loadCellsFrom]

theorem aAppend_sound {P : Program} {D : Nat → Prop} {n : Nat} {G : Ghost} {A : Slots} {σ : Store} {a : Act} {w : World} (h : Rel D n G A σ a w) {o : Oper} {K : AV → Slots → Store → Prop} {t : TypeId} {s x : Operand}
    (ho : o.op = .call { callee := .builtin .append, args := #[s, x], argTypes := #[t, t] }) (hK : aAppend P t s x A σ K) : Does P D n G a w o K := by
  unfold aAppend at hK
  split at hK
  case h_2 => exact hK.elim
  rename_i e he
  split at hK
  case h_2 => exact hK.elim
  rename_i sz bt hsz hbt
  split at hK
  case h_2 => exact hK.elim
  rename_i ws hws
  obtain ⟨v, A', G1, hK1, hR1, hv, hown, hext, hF⟩ := h.takes hK
  have hsrc := (h.eval x).list_src hws
  rw [← hF] at hsrc
  have hv' : VR G1.F (conv P t v) (a.eval s) := conv_VR hv
  have hown' : OwnAt G1 D .acc (conv P t v) (a.eval s) := conv_own hv hown
  generalize conv P t v = v2 at hK1 hv' hown'
  split at hK1
  case h_2 => exact hK1.elim
  rename_i own sz' vs
  obtain ⟨rfl, hpos, hzs0, rfl, hmax, hbytes, hk⟩ := hK1
  obtain ⟨z, hz, hzs⟩ : ∃ z, tZero P e = some z ∧ z.cells.size = sz' := by
    unfold tZeroSize at hzs0
    cases hq : tZero P e with
    | none => simp [hq] at hzs0
    | some z => exact ⟨z, rfl, by simpa [hq] using hzs0⟩
  have ht := under_elem he
  obtain ⟨i, hi, hisz⟩ : ∃ i, P.info? e = some i ∧ i.size = sz' := by
    unfold tSize at hsz; cases hq : P.info? e with
    | none => simp [hq] at hsz
    | some i => exact ⟨i, rfl, by simpa [hq] using hsz⟩
  have hibt : i.bytes = bt := by simpa [tBytes, hi] using hbt
  have hiz : i.zero = some z := by simpa [tZero, hi] using hz
  -- the run of the operation is append's
  have run_of : ∀ {r : Value} {w' : World}, (Builtin.append_ #[t, t] o.type #[a.eval s, a.eval x]).run P w = .ok r w' → (execOp a.eval o).run P w = .ok (.value r) w' := by
    intro r w' hr
    simp [execOp, ho, resolve, invoke, builtin, hr]
  generalize a.eval s = sv at *
  generalize a.eval x = xv at *
  subst hisz hibt
  rcases hsrc with ⟨rfl, xb, rfl⟩ | ⟨g2, off2, cap2, us2, rfl, hw2, hF2, hc2⟩
  · -- nothing is appended
    rw [List.append_nil] at hk
    cases hv' with
    | nil => exact ⟨_, _, A', σ, G1, w, hk, .inl (run_of (run_append_none w ht hi none xb 0 0 (Nat.le_refl _))), hR1, .nil .., by simp [OwnAt, Own1], hext⟩
    | list _ _ _ g off m cap us hn hc hw hl hF1 hv1 =>
      exact ⟨_, _, A', σ, G1, w, hk, .inl (run_of (run_append_none w ht hi _ xb m cap hc)), hR1, .list true _ vs g off m cap us hn hc hw hl hF1 hv1, hown', hext⟩
  · have hflw := flat_length hw2
    have hus2 : us2.length = ws.length * i.size := by rw [← hflw]; exact hc2.1.symm
    have hnews : ∀ (j : Nat) (u : Value), us2[j]? = some u → w.cell? ((⟨g2, off2, none⟩ : Addr).add j) = some u := fun j u hu => by
      rw [add_addr]
      obtain ⟨cur, e', fz, q1, q2⟩ := hR1.world.frz _ _ _ (hF2 j u hu)
      rw [cell_of_row w g2 (off2 + j) cur e' fz q1]; exact q2
    have hone : ∀ u ∈ us2, u.oneCell' = true := fun u hu => by obtain ⟨j, hj⟩ := List.getElem?_of_mem hu; exact hc2.2.1 j u hj
    have hbig : ∀ {k : Nat}, k ≤ maxLen → (k : Int) ≤ 9223372036854775807 := fun hk => by unfold maxLen at hk; omega
    -- a new row
    have grown : ∀ (olds : List Value) (old : Nat) (run : (Builtin.append_ #[t, t] o.type #[sv, .slice (some ⟨g2, off2, none⟩) ws.length cap2]).run P w =
          .ok (.slice (some ⟨w.heap.size, 0, none⟩) (vs.length + ws.length) (grownCap w (vs.length + ws.length) old e)) (w.drew.alloc (.cells (olds.toArray ++ us2.toArray ++ Builtin.zeroCells z.cells (grownCap w (vs.length + ws.length) old e - (vs.length + ws.length))) e))),
        (∀ v ∈ vs, v.cells.length = i.size) → CellsR (VR G1.F) (flat vs) olds → Does P D n G a w o K := by
      intro olds old run hwv hco
      have hge := grownCap_ge w (vs.length + ws.length) old e
      have hcm := grownCap_le_maxLen w (vs.length + ws.length) old e hmax
      have hol : olds.length = vs.length * i.size := by rw [← flat_length hwv]; exact hco.1.symm
      have hwall : ∀ v ∈ vs ++ ws, v.cells.length = i.size := fun v hv => by
        rcases List.mem_append.1 hv with h | h
        · exact hwv v h
        · exact hw2 v h
      have hflat : flat (vs ++ ws) = flat vs ++ flat ws := by simp [flat]
      obtain ⟨G', q1, q2, q3, q4, _⟩ := newList hR1.drew (olds.toArray ++ us2.toArray ++ Builtin.zeroCells z.cells (grownCap w (vs.length + ws.length) old e - (vs.length + ws.length))) e i.size (vs ++ ws) (grownCap w (vs.length + ws.length) old e)
        (by simp only [Array.size_append, List.size_toArray, size_zeroCells, hzs, hol, hus2, ← Nat.add_mul]; congr 1; omega) (by simpa using hge) hcm hwall (olds ++ us2) (by rw [hflat]; exact hco.append hc2)
        (fun j u hu => by
          have hlt := (List.getElem?_eq_some_iff.1 hu).1
          rw [Array.getElem?_append_left (by simpa using hlt)]
          simpa using hu)
      rw [List.length_append] at q2 q3
      exact ⟨_, _, A', σ, G', _, hk, .inl (run_of run), q1, q2, q3, hext.trans (Ext.drew.trans q4)⟩
    cases hv' with
    | nil =>
      simp only [List.length_nil, Nat.zero_add] at grown hmax hbytes
      by_cases h0 : ws.length = 0
      · have hws0 : ws = [] := List.eq_nil_of_length_eq_zero h0
        subst hws0
        have hu0 : us2 = [] := List.eq_nil_of_length_eq_zero (by simpa using hus2)
        subst hu0
        refine ⟨_, .slice none 0 0, A', σ, G1, w, hk, .inl (run_of ?_), hR1, .nil .., by simp [OwnAt, Own1], hext⟩
        simp [Builtin.append_, run_underlying ht, sizeOf, typeInfo, hi, Builtin.lenOf, Builtin.firstCells, loadCells, loadCellsFrom]
      · have hr := run_append_nil (P := P) w t o.type e i z ht hi hiz ⟨g2, off2, none⟩ ws.length cap2 us2 hus2 hnews (by omega) (hbig hmax) (by omega)
        exact grown [] 0 (by simpa using hr) (by simp) ⟨rfl, by simp, by simp⟩
    | list _ _ _ g off m cap us hn hc hw hl hF1 hv1 =>
      rcases hown' with hcap0 | hown'
      · subst hcap0
        subst hn
        have hvs0 : vs = [] := List.eq_nil_of_length_eq_zero (by omega)
        subst hvs0
        have hus0 : us = [] := List.eq_nil_of_length_eq_zero (by simpa [flat] using hl)
        subst hus0
        by_cases h0 : ws.length = 0
        · have hws0 : ws = [] := List.eq_nil_of_length_eq_zero h0
          subst hws0
          have hu0 : us2 = [] := List.eq_nil_of_length_eq_zero (by simpa using hus2)
          subst hu0
          refine ⟨_, .slice (some ⟨g, off, none⟩) 0 0, A', σ, G1, w, hk, .inl (run_of ?_), hR1, .list true _ [] g off 0 0 [] rfl (Nat.le_refl _) (by simp) (by simp [flat]) (by simp) (by simp), .inl rfl, hext⟩
          simp [Builtin.append_, run_underlying ht, sizeOf, typeInfo, hi, Builtin.lenOf, Builtin.firstCells, storeCells, loadCells, loadCellsFrom]
        · have hr := run_append_grow (P := P) w t o.type e i z ht hi hiz ⟨g, off, none⟩ 0 0 [] (by simp) (by simp) ⟨g2, off2, none⟩ ws.length cap2 us2 hus2 hnews (by omega) (hbig (by simpa using hmax)) (growslice_fits (by omega) (by simpa using hbytes))
          exact grown [] 0 hr (by simp) ⟨rfl, by simp, by simp⟩
      obtain ⟨hDg, zz, hSg, hcapz, hcapm⟩ := hown'
      have hfl := flat_length hw
      obtain ⟨hσg, ⟨cur, e', ⟨fz, hg, hfz⟩, hcz⟩, hnone⟩ := hR1.world.own _ _ _ _ hSg
      dsimp only at hDg hSg hcapz hcapm hσg hg hnone
      have hco : CellsR (VR G1.F) (flat vs) us := ⟨hl.symm, fun j u hu => (hF1 j u hu).2, hv1⟩
      have hcells : ∀ (j : Nat) (u : Value), us[j]? = some u → cur[off + j]? = some u := fun j u hu => by
        obtain ⟨c', e'', fz', q1, q2⟩ := hR1.world.frz _ _ _ (hF1 j u hu).1
        rw [hg] at q1; simp only [Option.some.injEq, Obj.cells.injEq] at q1; obtain ⟨rfl, _, _⟩ := q1; exact q2
      subst hn
      by_cases hroom : vs.length + ws.length ≤ cap
      · -- in place
        have hmul : (vs.length + ws.length) * i.size ≤ cap * i.size := Nat.mul_le_mul_right _ hroom
        rw [Nat.add_mul] at hmul
        have hfit : off + vs.length * i.size + us2.length ≤ cur.size := by omega
        have hst := storeCells_fz P g (off + vs.length * i.size) e' fz us2 0 cur w hfz hg (by simpa using hfit) hone
        simp only [Nat.add_zero] at hst
        rw [toList_setRow hfit] at hst
        have hf := run_firstCells_some (P := P) w i.size ws.length ⟨g2, off2, none⟩ ws.length cap2 us2 hus2 hnews
        generalize hw' : w.setRow g (setRange cur.toList (off + vs.length * i.size) us2).toArray = w' at hst
        have hrun : (Builtin.append_ #[t, t] o.type #[.slice (some ⟨g, off, none⟩) vs.length cap, .slice (some ⟨g2, off2, none⟩) ws.length cap2]).run P w = .ok (.slice (some ⟨g, off, none⟩) (vs.length + ws.length) cap) w' := by
          simp [Builtin.append_, run_underlying ht, sizeOf, typeInfo, hi, Builtin.lenOf, hroom, hf, add_addr, hst]
        have hg' : w'.heap[g]? = some (.cells (setRange cur.toList (off + vs.length * i.size) us2).toArray e' fz) := by subst hw'; exact setRow_heap w g cur _ e' _ hg
        have hoth : ∀ k, k ≠ g → w'.heap[k]? = w.heap[k]? := fun k hk => by subst hw'; exact setRow_other w g k _ hk
        have hW1 := hR1.world.write hSg hfz hg hg' (by simp [setRange_length]) (fun j hj => by
          have : (setRange cur.toList (off + vs.length * i.size) us2)[j]? = cur.toList[j]? := by
            rw [setRange_get _ _ _ _ (by simpa using hfit), if_neg (by omega)]
          simpa using this) hoth
        have hW2 := hW1.freeze hSg (by simp) hg' us2 (fun j u hu => by
          have hj := (List.getElem?_eq_some_iff.1 hu).1
          have : (setRange cur.toList (off + vs.length * i.size) us2)[off + vs.length * i.size + j]? = some u := by
            rw [setRange_get _ _ _ _ (by simpa using hfit), if_pos (by omega)]
            simpa using hu
          simpa using this) (.acc 0)
        generalize hG' : Ghost.setS ⟨Frz.put G1.F g (off + vs.length * i.size) us2, G1.S⟩ g (off + vs.length * i.size + us2.length, zz, .acc 0) = G' at hW2
        have hGF : G'.F = Frz.put G1.F g (off + vs.length * i.size) us2 := by subst hG'; rfl
        have hmono : ∀ k j u, G1.F k j = some u → G'.F k j = some u := fun k j u hu => by rw [hGF]; exact Frz.put_mono hnone k j u hu
        have hGS : ∀ k, k ≠ g → G'.S k = G1.S k := fun k hk => by subst hG'; simp [Ghost.setS, hk]
        have hGS0 : G'.S g = some (off + vs.length * i.size + us2.length, zz, .acc 0) := by subst hG'; simp [Ghost.setS]
        have hwall : ∀ v ∈ vs ++ ws, v.cells.length = i.size := fun v hv => by
          rcases List.mem_append.1 hv with h | h
          · exact hw v h
          · exact hw2 v h
        have hflat : flat (vs ++ ws) = flat vs ++ flat ws := by simp [flat]
        have hcc : CellsR (VR G'.F) (flat (vs ++ ws)) (us ++ us2) := by rw [hflat]; exact (hco.append hc2).mono fun c u h => h.mono hmono
        have husl : us.length = vs.length * i.size := by omega
        refine ⟨_, _, A', σ, G', w', hk, .inl (run_of hrun), hR1.step hmono (fun k m z' q j hd hk => ?_) hW2 (by subst hw'; simp), ?_, Or.inr ⟨hDg, zz, ?_, hcapz, hcapm⟩, hext.trans ⟨by subst hw'; rfl, by subst hw'; rfl, by subst hw'; rfl, by subst hw'; simp, hmono, fun k hk => ?_⟩⟩
        · have : k ≠ g := fun e => by subst e; rw [hSg] at hk; simp at hk
          rw [hGS k this]; exact hk
        · refine .list true i.size (vs ++ ws) g off _ cap (us ++ us2) (by simp) hroom hwall hcc.1.symm (fun j u hu => ⟨?_, hcc.2.1 j u hu⟩) hcc.2.2
          rw [List.getElem?_append] at hu
          split at hu
          · exact hmono _ _ _ (hF1 j u hu).1
          · rename_i hj
            rw [hGF]
            have := Frz.put_at G1.F g (off + vs.length * i.size) us2 _ u hu
            rwa [show off + vs.length * i.size + (j - us.length) = off + j from by omega] at this
        · dsimp only; rw [hGS0, Nat.add_mul, hus2]; simp [Nat.add_assoc]
        · have hne : k ≠ g := fun e => hk (e ▸ hDg)
          exact ⟨hoth k hne, hGS k hne, by rw [hGF]; exact Frz.put_other hne⟩
      · -- a new row: what was is copied
        have holds : ∀ (j : Nat) (u : Value), us[j]? = some u → w.cell? ((⟨g, off, none⟩ : Addr).add j) = some u := fun j u hu => by
          rw [add_addr, cell_of_row w g (off + j) cur e' fz hg]; exact hcells j u hu
        have hr := run_append_grow (P := P) w t o.type e i z ht hi hiz ⟨g, off, none⟩ vs.length cap us (by omega) holds ⟨g2, off2, none⟩ ws.length cap2 us2 hus2 hnews (by omega) (hbig hmax) (growslice_fits (by omega) hbytes)
        exact grown us cap hr hw hco

end Go.AL
