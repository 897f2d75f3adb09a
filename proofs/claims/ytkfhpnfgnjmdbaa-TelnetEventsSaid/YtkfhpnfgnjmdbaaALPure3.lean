/-
  The abstract-state logic: the rest of the operations that leave the state alone; all of them under one name.
-/
import Derived.Test.YtkfhpnfgnjmdbaaALPure2
import Derived.Laws.BytesArg
namespace Go.AL
open Go Go.RowKit Classical

/-! ### fields, indexes -/
def cutAV (P : Program) (t : TypeId) (cs : List AV) (off : Nat) : Option AV :=
  match tAgg P t with
  | some true => match tSize P t with
    | some s => some (.agg ((cs.drop off).take s))
    | none => none
  | some false => cs[off]?
  | none => none

theorem part_sound {P : Program} {F : Frz} {w : World} {t : TypeId} {cs : List AV} {us : Array Value} {off : Nat} {v : AV} (h : cutAV P t cs off = some v) (hl : cs.length = us.size) (h1 : ∀ (i : Nat) (u : Value), us[i]? = some u → u.oneCell' = true)
    (hv : ∀ (i : Nat) (c : AV) (u : Value), cs[i]? = some c → us[i]? = some u → VR F c u) : ∃ cv, (part t us off).run P w = .ok cv w ∧ VR F v cv := by
  unfold cutAV at h
  split at h
  · rename_i hb
    split at h
    case h_2 => simp at h
    rename_i s hs
    simp at h; subst h
    refine ⟨.agg (us.extract off (off + s)), by simp [part, run_isAgg hb, run_sizeOf hs], .agg _ _ ?_ (fun i u hu => ?_) fun i c u hc hu => ?_⟩
    · simp; omega
    · rw [Array.getElem?_extract] at hu
      split at hu
      · exact h1 _ _ hu
      · simp at hu
    · rw [Array.getElem?_extract] at hu
      split at hu
      · rename_i hi
        rw [List.getElem?_take_of_lt (by omega), List.getElem?_drop] at hc
        exact hv _ _ _ hc hu
      · simp at hu
  · rename_i hb
    have hlt := (List.getElem?_eq_some_iff.1 h).1
    have hu : us[off]? = some (us[off]'(by omega)) := by simp
    exact ⟨_, by simp [part, run_isAgg hb, hu], hv _ _ _ h hu⟩
  · simp at h

def aField (P : Program) (t : TypeId) (f : Nat) (a : AV) : Option AV :=
  match tField P t f, a with
  | some (off, ft), .agg cs => cutAV P ft cs off
  | _, _ => none
theorem aField_sound {P : Program} {F : Frz} {w : World} {t : TypeId} {f : Nat} {a v : AV} {x : Value} (h : aField P t f a = some v) (hx : VR F a x) : ∃ cv, (Instr.field t x f).run P w = .ok cv w ∧ VR F v cv := by
  unfold aField at h
  split at h
  case h_2 => simp at h
  rename_i off ft cs hf
  obtain ⟨fs, fl, h1, h2, h3, h4⟩ := under_field hf
  cases hx with | agg _ us hl ho hv => ?_
  obtain ⟨cv, hr, hvv⟩ := part_sound (w := w) h hl ho hv
  refine ⟨cv, ?_, hvv⟩
  simp [Instr.field, run_underlying h1, h2, asAgg, h3, h4, hr]

def aIndex (P : Program) (t : TypeId) (a ix : AV) : Option AV :=
  match ix with
  | .lit (.int _ i) =>
    if 0 ≤ i then match tArr P t with
      | some (n, e) => match tSize P e, a with
        | some s, .agg cs => if i < n then cutAV P e cs (i.toNat * s) else none
        | _, _ => none
      | none => if tStr P t then match a with
          | .lit (.string b) => (b.data[i.toNat]?).map fun c => .lit (.int .u8 c.toNat)
          | _ => none
        else none
    else none
  | _ => none
theorem aIndex_sound {P : Program} {F : Frz} {w : World} {t : TypeId} {a ix v : AV} {x y : Value} (h : aIndex P t a ix = some v) (hx : VR F a x) (hy : VR F ix y) : ∃ cv, (Instr.index t x y).run P w = .ok cv w ∧ VR F v cv := by
  unfold aIndex at h
  split at h
  case h_2 => simp at h
  rename_i k i
  cases hy
  split at h
  case isFalse => simp at h
  rename_i h0
  split at h
  · rename_i n e he
    split at h
    case h_2 => simp at h
    rename_i s cs hs
    split at h
    case isFalse => simp at h
    rename_i hlt
    cases hx with | agg _ us hl ho hv => ?_
    obtain ⟨cv, hr, hvv⟩ := part_sound (w := w) h hl ho hv
    refine ⟨cv, ?_, hvv⟩
    simp [Instr.index, asIntOf, run_underlying (under_arr he), h0, hlt, run_sizeOf hs, hr]
  · split at h
    case isFalse => simp at h
    rename_i hst
    split at h
    case h_2 => simp at h
    rename_i b
    cases hx
    cases hb : b.data[i.toNat]? with
    | none => simp [hb] at h
    | some c =>
      simp [hb] at h; subst h
      refine ⟨_, ?_, .lit _⟩
      have hb' : b[i.toNat]? = some c := by
        have hlt := (Array.getElem?_eq_some_iff.1 hb).1
        have hc := (Array.getElem?_eq_some_iff.1 hb).2
        have : i.toNat < b.size := hlt
        rw [getElem?_pos b i.toNat this]
        exact congrArg some hc
      simp [Instr.index, asIntOf, run_underlying (under_str hst), h0, hb']

/-! ### len, min, max -/
def aLen (P : Program) (t : TypeId) (a : AV) : Option AV :=
  match a with
  | .list _ _ vs => match tElem P t with
    | some _ => some (.lit (.int .i64 vs.length))
    | none => none
  | .lit (.slice _ n _) => match tElem P t with
    | some _ => some (.lit (.int .i64 n))
    | none => none
  | .lit (.string s) => if tStr P t then some (.lit (.int .i64 s.size)) else none
  | _ => none
theorem aLen_sound {P : Program} {F : Frz} {w : World} {t ty : TypeId} {a v : AV} {x : Value} (h : aLen P t a = some v) (hx : VR F a x) : ∃ cv, (Builtin.len_ #[t] ty #[x]).run P w = .ok cv w ∧ VR F v cv := by
  unfold aLen at h
  split at h
  · split at h
    case h_2 => simp at h
    rename_i e he
    simp at h; subst h
    cases hx with
    | nil => exact ⟨_, by simp [Builtin.len_, run_underlying (under_elem he), goInt], .lit _⟩
    | void => exact ⟨_, by simp [Builtin.len_, run_underlying (under_elem he), goInt], .lit _⟩
    | list _ _ _ _ _ n _ us hn => exact ⟨_, by simp [Builtin.len_, run_underlying (under_elem he), goInt, hn], .lit _⟩
  · split at h
    case h_2 => simp at h
    rename_i e he
    simp at h; subst h
    cases hx
    exact ⟨_, by simp [Builtin.len_, run_underlying (under_elem he), goInt], .lit _⟩
  · split at h
    case isFalse => simp at h
    rename_i hst
    simp at h; subst h
    cases hx
    exact ⟨_, by simp [Builtin.len_, run_underlying (under_str hst), goInt], .lit _⟩
  · simp at h

def aMin (a b : AV) : Option AV :=
  match a, b with
  | .lit (.int k x), .lit (.int _ y) => some (.lit (.int k (if y < x then y else x)))
  | _, _ => none
def aMax (a b : AV) : Option AV :=
  match a, b with
  | .lit (.int k x), .lit (.int _ y) => some (.lit (.int k (if y > x then y else x)))
  | _, _ => none
theorem aMin_sound {P : Program} {F : Frz} {w : World} {ts : Array TypeId} {ty : TypeId} {a b v : AV} {x y : Value} (h : aMin a b = some v) (hx : VR F a x) (hy : VR F b y) : ∃ cv, (Builtin.min_ ts ty #[x, y]).run P w = .ok cv w ∧ VR F v cv := by
  unfold aMin at h
  split at h
  · simp at h; subst h; cases hx; cases hy
    exact ⟨_, by simp [Builtin.min_, Builtin.min2], .lit _⟩
  · simp at h
theorem aMax_sound {P : Program} {F : Frz} {w : World} {ts : Array TypeId} {ty : TypeId} {a b v : AV} {x y : Value} (h : aMax a b = some v) (hx : VR F a x) (hy : VR F b y) : ∃ cv, (Builtin.max_ ts ty #[x, y]).run P w = .ok cv w ∧ VR F v cv := by
  unfold aMax at h
  split at h
  · simp at h; subst h; cases hx; cases hy
    exact ⟨_, by simp [Builtin.max_, Builtin.max2], .lit _⟩
  · simp at h

/-! ### conversions of integers; interfaces -/
def aNilCheck (a : AV) : Option AV :=
  match a with
  | .lit (.pointer (some p)) => some (.lit (.pointer (some p)))
  | .fptr cs => some (.fptr cs)
  | .func (.func f) fs cs => some (.func (.func f) fs cs)
  | _ => none

/-! ### a struct or an array out of its parts -/
def setRange {α : Type} (cs : List α) (off : Nat) : List α → List α
  | [] => cs
  | x :: xs => setRange (cs.set off x) (off + 1) xs
theorem setRange_length {α : Type} (xs : List α) : ∀ (cs : List α) (off : Nat), (setRange cs off xs).length = cs.length := by
  induction xs with
  | nil => intros; rfl
  | cons x xs ih => intro cs off; simp [setRange, ih]
theorem setRange_get {α : Type} (xs : List α) : ∀ (cs : List α) (off i : Nat), off + xs.length ≤ cs.length → (setRange cs off xs)[i]? = if off ≤ i ∧ i < off + xs.length then xs[i - off]? else cs[i]? := by
  induction xs with
  | nil => intro cs off i _; rw [if_neg (by simp <;> omega)]; rfl
  | cons x xs ih =>
    intro cs off i h
    simp only [List.length_cons] at h
    simp only [setRange]
    rw [ih _ _ _ (by simp; omega)]
    by_cases h1 : off + 1 ≤ i ∧ i < off + 1 + xs.length
    · rw [if_pos h1, if_pos (by simp; omega)]
      rw [show i - off = (i - (off + 1)) + 1 from by omega]; simp
    · rw [if_neg h1, List.getElem?_set]
      by_cases h2 : off = i
      · subst h2
        rw [if_pos rfl, if_pos (by omega), if_pos (by simp)]; simp
      · rw [if_neg h2, if_neg (by simp; omega)]

/-- Where a part lies: its offset and its size. -/
def tPart (P : Program) (t : TypeId) (i : Nat) : Option (Nat × Nat) :=
  match tArr P t with
  | some (_, e) => (tSize P e).map fun s => (i * s, s)
  | none => (tField P t i).bind fun p => (tSize P p.2).map fun s => (p.1, s)

def fillA (P : Program) (t : TypeId) (cs : List AV) : List (Nat × AV) → Option (List AV)
  | [] => some cs
  | (i, v) :: rest => match tPart P t i with
    | some (off, s) => if v.solid = true ∧ v.cells.length = s ∧ off + s ≤ cs.length then fillA P t (setRange cs off v.cells) rest else none
    | none => none

theorem foldl_set (xs : List Value) : ∀ (cs : Array Value) (off k : Nat), ((xs.zipIdx k).foldl (fun cs p => cs.setIfInBounds (off + p.2) p.1) cs).toList = setRange cs.toList (off + k) xs := by
  induction xs with
  | nil => intros; rfl
  | cons x xs ih => intro cs off k; simp only [List.zipIdx_cons, List.foldl_cons, setRange]; rw [ih]; simp [Nat.add_assoc]

/-- Cell by cell. -/
def CellsR (R : AV → Value → Prop) (cs : List AV) (us : List Value) : Prop := cs.length = us.length ∧ (∀ (i : Nat) (u : Value), us[i]? = some u → u.oneCell' = true) ∧ ∀ (i : Nat) (c : AV) (u : Value), cs[i]? = some c → us[i]? = some u → R c u

theorem CellsR.setRange {R : AV → Value → Prop} {cs : List AV} {us : List Value} (h : CellsR R cs us) {off : Nat} {xs : List AV} {ys : List Value} (k : CellsR R xs ys) (hle : off + xs.length ≤ cs.length) :
    CellsR R (setRange cs off xs) (Go.AL.setRange us off ys) := by
  obtain ⟨h1, h2, h3⟩ := h
  obtain ⟨k1, k2, k3⟩ := k
  refine ⟨by simp [setRange_length, h1], fun i u hu => ?_, fun i c u hc hu => ?_⟩
  · rw [setRange_get _ _ _ _ (by omega)] at hu
    split at hu
    · exact k2 _ _ hu
    · exact h2 _ _ hu
  · rw [setRange_get _ _ _ _ (by omega)] at hu
    rw [setRange_get _ _ _ _ (by omega)] at hc
    rw [k1] at hc
    split at hu
    · rename_i hi; rw [if_pos hi] at hc; exact k3 _ _ _ hc hu
    · rename_i hi; rw [if_neg hi] at hc; exact h3 _ _ _ hc hu

theorem VR.cellsR {F : Frz} {a : AV} {v : Value} (h : VR F a v) (hs : a.solid = true) : CellsR (VR F) a.cells v.cells.toList := by
  obtain ⟨h1, h2⟩ := h.cells hs
  refine ⟨by simpa using h1, fun i u hu => ?_, fun i c u hc hu => (h2 i c u hc (by simpa using hu)).2⟩
  have hlt : i < a.cells.length := by have := (List.getElem?_eq_some_iff.1 hu).1; simp at this; omega
  exact (h2 i _ u (List.getElem?_eq_getElem hlt) (by simpa using hu)).1

/-- A cell whose slice, if it may be appended to in place, is nil. -/
def VRn (F : Frz) (c : AV) (u : Value) : Prop := VR F c u ∧ (c.plain1 = true ∨ u = .slice none 0 0)

theorem plain1_drop1 (c : AV) : c.drop1.plain1 = true := by cases c <;> rfl
theorem VRn.own {F : Frz} {c : AV} {u : Value} (h : VRn F c u) (G : Ghost) (D : Nat → Prop) (π : Place) : Own1 G D π c u := by
  rcases h.2 with h | h
  · exact Own1.of_plain h
  · subst h; cases c <;> simp [Own1]
theorem VR.cellsRn {F : Frz} {a : AV} {v : Value} (h : VR F a v) (hs : a.share.solid = true) : CellsR (VRn F) a.share.cells v.cells.toList := by
  obtain ⟨h1, h2, h3⟩ := h.share.cellsR hs
  refine ⟨h1, h2, fun i c u hc hu => ⟨h3 i c u hc hu, .inl ?_⟩⟩
  cases a with
  | agg cs =>
    simp only [AV.share, AV.cells, List.getElem?_map] at hc
    cases hcs : cs[i]? with
    | none => simp [hcs] at hc
    | some c' => simp [hcs] at hc; subst hc; exact plain1_drop1 _
  | tuple cs => simp [AV.share, AV.solid, AV.one] at hs
  | list o s vs =>
    cases i with
    | zero => simp [AV.share, AV.cells] at hc; subst hc; rfl
    | succ i => simp [AV.share, AV.cells] at hc
  | _ =>
    cases i with
    | zero => simp [AV.share, AV.cells] at hc; subst hc; rfl
    | succ i => simp [AV.share, AV.cells] at hc
/-- So too a written nil, at its type. -/
theorem VR.cellsRn_conv {P : Program} {t : TypeId} {F : Frz} {a : AV} {v : Value} (h : VR F a v) (hs : (conv P t a.share).solid = true) : CellsR (VRn F) (conv P t a.share).cells v.cells.toList := by
  unfold conv at hs ⊢
  split at hs
  · rename_i heq
    rw [heq] at hs ⊢
    have hv : v = .slice none 0 0 := by
      have := h.share
      rw [heq] at this
      cases this; rfl
    subst hv
    split
    · refine ⟨rfl, fun i u hu => ?_, fun i c u hc hu => ?_⟩
      · cases i with
        | zero => simp [Value.cells] at hu; subst hu; rfl
        | succ i => simp [Value.cells] at hu
      · cases i with
        | zero => simp [Value.cells, AV.cells] at hu hc; subst hu hc; exact ⟨.nil .., .inr rfl⟩
        | succ i => simp [Value.cells] at hu
    · refine ⟨rfl, fun i u hu => ?_, fun i c u hc hu => ?_⟩
      · cases i with
        | zero => simp [Value.cells] at hu; subst hu; rfl
        | succ i => simp [Value.cells] at hu
      · cases i with
        | zero => simp [Value.cells, AV.cells] at hu hc; subst hu hc; exact ⟨.lit .., .inr rfl⟩
        | succ i => simp [Value.cells] at hu
  · exact h.cellsRn hs

theorem fill_sound {P : Program} {t : TypeId} {R : AV → Value → Prop} {place : Nat → Option (Nat × Nat)} (hp : ∀ i p, tPart P t i = some p → place i = some p) : ∀ (parts : List (Nat × AV)) (parts' : List (Nat × Value)) (cs : List AV) (us : Array Value) (r : List AV),
    parts.length = parts'.length → (∀ (i : Nat) p q, parts[i]? = some p → parts'[i]? = some q → p.1 = q.1 ∧ (p.2.solid = true → CellsR R p.2.cells q.2.cells.toList)) → CellsR R cs us.toList → fillA P t cs parts = some r → ∃ us', Instr.fill place us parts' = some us' ∧ CellsR R r us'.toList
  | [], [], cs, us, r, _, _, hc, h => by simp [fillA] at h; subst h; exact ⟨us, rfl, hc⟩
  | [], _ :: _, _, _, _, hl, _, _, _ => by simp at hl
  | _ :: _, [], _, _, _, hl, _, _, _ => by simp at hl
  | (i, v) :: rest, (i', v') :: rest', cs, us, r, hl, hvr, hc, h => by
    obtain ⟨e1, e2⟩ := hvr 0 _ _ rfl rfl
    simp only at e1 e2; subst e1
    simp only [fillA] at h
    split at h
    case h_2 => simp at h
    rename_i off s hpt
    split at h
    case isFalse => simp at h
    rename_i hcond
    obtain ⟨c1, c2, c3⟩ := hcond
    have hcv := e2 c1
    have hsz : v'.cells.size = s := by have := hcv.1; simp at this; omega
    have hus : cs.length = us.size := by simpa using hc.1
    have hset := hc.setRange (off := off) hcv (by omega)
    obtain ⟨us', h1, h2⟩ := fill_sound hp rest rest' (setRange cs off v.cells) (v'.cells.zipIdx.foldl (fun cs p => cs.setIfInBounds (off + p.2) p.1) us) r (by simpa using hl)
      (fun j p q hp hq => hvr (j + 1) p q (by simpa using hp) (by simpa using hq)) (by
        have := foldl_set v'.cells.toList us off 0
        rw [← Array.foldl_toList]
        simp only [Nat.add_zero, Array.toList_zipIdx] at this ⊢
        rw [this]; exact hset) h
    refine ⟨us', ?_, h2⟩
    simp only [Instr.fill, hp i _ hpt, hsz]
    rw [if_neg (by simp; omega)]
    exact h1

/-- Bytes, if they are known as such. -/
def byteOf : AV → Option UInt8
  | .lit (.int .u8 n) => some (UInt8.ofNat n.toNat)
  | _ => none
def bytesOf (vs : List AV) : Option (List UInt8) := vs.mapM byteOf

def aConv (P : Program) (src dst : TypeId) (a : AV) : Option AV :=
  match tInt P dst, a with
  | some k, .lit (.int _ n) => if (P.underlying src).isSome then some (.lit (.int k (k.wrap n))) else none
  | _, .list _ sz vs => if sz = 1 ∧ tStr P dst = true ∧ (tElem P src).bind (tInt P) = some .u8 then (bytesOf vs).map fun l => .lit (.string ⟨l.toArray⟩) else none
  | _, _ => none

theorem bytesOf_vals {F : Frz} : ∀ (vs : List AV) (us : List Value) (l : List UInt8), bytesOf vs = some l → CellsR (VR F) (flat vs) us →
    ∃ f : List Int, us = f.map (fun n => .int .u8 n) ∧ f.map (fun n => UInt8.ofNat n.toNat) = l
  | [], us, l, h, hc => by
    simp [bytesOf] at h; subst h; have := hc.1; simp only [flat, List.flatMap_nil, List.length_nil] at this; have hu : us = [] := List.eq_nil_of_length_eq_zero this.symm; subst hu; exact ⟨[], rfl, rfl⟩
  | v :: vs, us, l, h, hc => by
    simp only [bytesOf, List.mapM_cons] at h
    cases hb : byteOf v with
    | none => rw [hb] at h; simp at h
    | some b =>
      cases hbs : vs.mapM byteOf with
      | none => rw [hb, hbs] at h; simp at h
      | some l' =>
        rw [hb, hbs] at h; simp at h; subst h
        have hv : ∃ n, v = .lit (.int .u8 n) ∧ UInt8.ofNat n.toNat = b := by
          unfold byteOf at hb
          split at hb
          · simp at hb; exact ⟨_, rfl, hb⟩
          · simp at hb
        obtain ⟨n, rfl, hn⟩ := hv
        cases us with
        | nil => have := hc.1; simp [flat, AV.cells] at this
        | cons u us =>
          have hu := hc.2.2 0 _ u rfl rfl
          cases hu
          obtain ⟨f, hf1, hf2⟩ := bytesOf_vals vs us l' hbs ⟨by have := hc.1; simp [flat, AV.cells] at this ⊢; exact this, fun i u hu => hc.2.1 (i + 1) u (by simpa using hu), fun i c u h1 h2 => hc.2.2 (i + 1) c u (by simpa [flat, AV.cells] using h1) (by simpa using h2)⟩
          exact ⟨n :: f, by simp [hf1], by simp [hn, hf2]⟩

theorem aConv_sound {P : Program} {D : Nat → Prop} {G : Ghost} {σ : Store} {w : World} (hW : WR D G σ w) {src dst : TypeId} {a v : AV} {x : Value} (h : aConv P src dst a = some v) (hx : VR G.F a x) : ∃ cv, (convert src dst x).run P w = .ok cv w ∧ VR G.F v cv := by
  unfold aConv at h
  split at h
  · rename_i k _ n hk
    split at h
    case isFalse => simp at h
    rename_i hs
    simp at h; subst h
    cases hx
    obtain ⟨d, hd⟩ := Option.isSome_iff_exists.1 hs
    refine ⟨_, ?_, .lit _⟩
    cases d <;> simp [convert, run_underlying hd, run_underlying (under_int hk), Conv.intToInt]
  · rename_i own sz vs
    split at h
    case isFalse => simp at h
    rename_i hc
    obtain ⟨rfl, hst, hel⟩ := hc
    cases hb : bytesOf vs with
    | none => simp [hb] at h
    | some l =>
      simp [hb] at h; subst h
      cases he : tElem P src with
      | none => simp [he] at hel
      | some e =>
        simp [he] at hel
        cases hx with
        | nil =>
          simp [bytesOf] at hb; subst hb
          exact ⟨_, run_convert_bytes_nil w src e (under_elem he) (under_int hel) 0 0 dst (under_str hst), .lit _⟩
        | void =>
          rename_i ad
          simp [bytesOf] at hb; subst hb
          have hl : (loadCells ad 0).run P w = .ok (([] : List Int).map (Value.int .u8)).toArray w := by simp [loadCells, loadCellsFrom]
          refine ⟨_, by rw [run_convert_bytes_string w src dst e _ 0 0 (under_elem he) (under_int hel) (under_str hst), run_bytesToString w _ 0 0 [] hl]; rfl, .lit _⟩
        | list _ _ _ g off n cap us hn hcap hw hl hF hv =>
          obtain ⟨f, hf1, hf2⟩ := bytesOf_vals vs us l hb ⟨hl.symm, fun i u hu => (hF i u hu).2, hv⟩
          have hfl := flat_length hw
          have hlen : f.length = n := by rw [hf1] at hl; simp at hl; omega
          refine ⟨_, run_convert_bytes_arg w src e (under_elem he) (under_int hel) g off n cap f hlen (fun i hi => ?_) dst (under_str hst), ?_⟩
          · have hu : us[i]? = some (.int .u8 (f.getD i 0)) := by
              rw [hf1, List.getElem?_map, List.getD_eq_getElem?_getD, List.getElem?_eq_getElem (by omega)]; rfl
            obtain ⟨cur, e', fz, q1, q2⟩ := hW.frz _ _ _ (hF i _ hu).1
            rw [cell_of_row w g (off + i) cur e' fz q1]; exact q2
          · have : strOfNums f = ⟨l.toArray⟩ := by unfold strOfNums; rw [hf2]
            rw [this]; exact .lit _
  · simp at h

/-- All sizes are known. -/
def tParts (P : Program) (t : TypeId) : Bool := (P.underlying t).any fun
  | .struct fs => fs.toList.all fun f => (tSize P f.type).isSome
  | .array _ e => (tSize P e).isSome
  | _ => false
def aBuild (P : Program) (t : TypeId) (parts : List (Nat × AV)) : Option AV :=
  match tParts P t, azero P t with
  | true, some zs => (fillA P t zs parts).map .agg
  | _, _ => none

end Go.AL
