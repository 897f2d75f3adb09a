/-
  The abstract-state logic: operations that compute a value and leave the state alone.
-/
import Derived.Test.YtkfhpnfgnjmdbaaALStep
namespace Go.AL
open Go Go.RowKit Classical

theorem run_isAgg {P : Program} {t : TypeId} {g : Bool} (h : tAgg P t = some g) (w : World) : (isAgg t).run P w = .ok g w := by
  unfold tAgg at h
  cases hu : P.underlying t with
  | none => simp [hu] at h
  | some d =>
    simp [hu] at h
    unfold isAgg
    rw [Sem.run_bind, run_underlying hu w]
    cases d <;> simp_all
theorem run_sizeOf {P : Program} {t : TypeId} {s : Nat} (h : tSize P t = some s) (w : World) : (sizeOf t).run P w = .ok s w := by
  unfold tSize at h
  cases hi : P.info? t with
  | none => simp [hi] at h
  | some i => simp [hi] at h; simp [sizeOf, typeInfo, hi, h]
theorem run_zeroValue {P : Program} {t : TypeId} {z : Value} (h : tZero P t = some z) (w : World) : (zeroValue t).run P w = .ok z w := by
  unfold tZero at h
  cases hi : P.info? t with
  | none => simp [hi] at h
  | some i => simp [hi] at h; simp [zeroValue, typeInfo, hi, h]
theorem under_elem {P : Program} {t e : TypeId} (h : tElem P t = some e) : P.underlying t = some (.slice e) := by
  unfold tElem at h
  cases hu : P.underlying t with
  | none => simp [hu] at h
  | some d => cases d <;> simp_all
theorem under_arr {P : Program} {t e : TypeId} {n : Nat} (h : tArr P t = some (n, e)) : P.underlying t = some (.array n e) := by
  unfold tArr at h
  cases hu : P.underlying t with
  | none => simp [hu] at h
  | some d => cases d <;> simp_all
theorem under_int {P : Program} {t : TypeId} {k : IntKind} (h : tInt P t = some k) : P.underlying t = some (.int k) := by
  unfold tInt at h
  cases hu : P.underlying t with
  | none => simp [hu] at h
  | some d => cases d <;> simp_all
theorem under_str {P : Program} {t : TypeId} (h : tStr P t = true) : P.underlying t = some .string := by
  unfold tStr at h
  cases hu : P.underlying t with
  | none => simp [hu] at h
  | some d => cases d <;> simp_all
theorem under_iface {P : Program} {t : TypeId} {b : Bool} (h : tIface P t = some b) : ∃ d, P.underlying t = some d ∧ (b = true ↔ ∃ ms, d = .interface ms) := by
  unfold tIface at h
  cases hu : P.underlying t with
  | none => simp [hu] at h
  | some d => cases d <;> simp_all
theorem under_field {P : Program} {t ft : TypeId} {f off : Nat} (h : tField P t f = some (off, ft)) : ∃ fs fl, P.underlying t = some (.struct fs) ∧ fs[f]? = some fl ∧ fl.offset = off ∧ fl.type = ft := by
  unfold tField at h
  cases hu : P.underlying t with
  | none => simp [hu] at h
  | some d =>
    cases d <;> simp_all

theorem add_addr (g o j : Nat) : (⟨g, o, none⟩ : Addr).add j = ⟨g, o + j, none⟩ := Addr.add_lit g o j

/-- Loading what is known cell by cell. -/
theorem run_loadVar_cells {P : Program} {t : TypeId} {b : Bool} {s : Nat} (hb : tAgg P t = some b) (hs : tSize P t = some s) {w : World} {F : Frz} {g off : Nat} {cs : List AV} {us : List Value}
    (hl : cs.length = us.length) (hcell : ∀ (i : Nat) (u : Value), us[i]? = some u → w.cell? ⟨g, off + i, none⟩ = some u ∧ u.oneCell' = true) (hv : ∀ (i : Nat) (c : AV) (u : Value), cs[i]? = some c → us[i]? = some u → VR F c u)
    (hn : cs.length = s) {v : AV} (hm : mkAV b cs = some v) : ∃ cv, (loadVar t ⟨g, off, none⟩).run P w = .ok cv w ∧ VR F v cv := by
  cases b with
  | true =>
    simp [mkAV] at hm; subst hm
    refine ⟨.agg us.toArray, ?_, .agg _ _ (by simpa using hl) (fun i u hu => (hcell i u (by simpa using hu)).2) fun i c u hc hu => hv i c u hc (by simpa using hu)⟩
    have := run_loadCells_list (P := P) w ⟨g, off, none⟩ us (fun j v hj => by rw [add_addr]; exact (hcell j v hj).1)
    rw [← hl, hn] at this
    simp [loadVar, run_isAgg hb, run_sizeOf hs, this]
  | false =>
    match cs, hm with
    | [c], hm =>
      simp [mkAV] at hm; subst hm
      match us, hl with
      | [u], _ =>
        refine ⟨u, ?_, hv 0 c u rfl rfl⟩
        have := (hcell 0 u rfl).1
        simp only [Nat.add_zero] at this
        simp [loadVar, run_isAgg hb, this]
    | [], hm => simp [mkAV] at hm
    | _ :: _ :: _, hm => simp [mkAV] at hm

/-! ### load -/
def aLoad (P : Program) (σ : Store) (t : TypeId) (a : AV) : Option AV :=
  match tAgg P t, tSize P t with
  | some b, some s =>
    match a with
    | .lit (.pointer (some ⟨o, off, none⟩)) => match σ o with
      | some cs => if off + s ≤ cs.length then mkAV b ((cs.drop off).take s) else none
      | none => none
    | .fptr cs => if s ≤ cs.length then mkAV b (cs.take s) else none
    | _ => none
  | _, _ => none

theorem aLoad_sound {P : Program} {D : Nat → Prop} {G : Ghost} {σ : Store} {w : World} (hW : WR D G σ w) {t : TypeId} {a v : AV} {x : Value} (h : aLoad P σ t a = some v) (hx : VR G.F a x) :
    ∃ cv, (Instr.loadAt t x).run P w = .ok cv w ∧ VR G.F v cv := by
  unfold aLoad at h
  split at h
  case h_2 => simp at h
  rename_i b s hb hs
  split at h
  · rename_i o off
    cases hx
    split at h
    case h_2 => simp at h
    rename_i cs hcs
    split at h
    case isFalse => simp at h
    rename_i hle
    obtain ⟨_, _, _, cur, e, h4, h5, h6⟩ := hW.obj o cs hcs
    have hlen : ((cur.toList.drop off).take s).length = s := by simp; omega
    have hlen' : ((cs.drop off).take s).length = s := by simp; omega
    have key : ∀ (i : Nat) (c : AV) (u : Value), ((cs.drop off).take s)[i]? = some c → ((cur.toList.drop off).take s)[i]? = some u → cs[off + i]? = some c ∧ cur[off + i]? = some u := by
      intro i c u hc hu
      have hi : i < s := by have := (List.getElem?_eq_some_iff.1 hc).1; omega
      rw [List.getElem?_take_of_lt hi, List.getElem?_drop] at hc hu
      exact ⟨hc, by simpa using hu⟩
    refine let ⟨cv, hr, hvv⟩ := run_loadVar_cells hb hs (w := w) (F := G.F) (g := o) (off := off) (cs := (cs.drop off).take s) (us := (cur.toList.drop off).take s) (by omega) ?_ ?_ hlen' h
      ⟨cv, by simpa [Instr.loadAt, Instr.sureAddr] using hr, hvv⟩
    · intro i u hu
      have hi : i < s := by have := (List.getElem?_eq_some_iff.1 hu).1; omega
      have hc : ((cs.drop off).take s)[i]? = some (((cs.drop off).take s)[i]'(by omega)) := List.getElem?_eq_getElem _
      obtain ⟨q1, q2⟩ := key i _ u hc hu
      rw [cell_of_row w o (off + i) cur e (0, 0) h4]
      exact ⟨q2, (h6 _ _ _ q1 q2).1⟩
    · intro i c u hc hu
      obtain ⟨q1, q2⟩ := key i c u hc hu
      exact (h6 _ _ _ q1 q2).2.1
  · rename_i cs
    cases hx with | fptr _ g off us hl hF hv => ?_
    split at h
    case isFalse => simp at h
    rename_i hle
    have key : ∀ (i : Nat) (u : Value), (us.take s)[i]? = some u → us[i]? = some u := by
      intro i u hu
      have hi : i < s := by have := (List.getElem?_eq_some_iff.1 hu).1; simp at this; omega
      rwa [List.getElem?_take_of_lt hi] at hu
    have key' : ∀ (i : Nat) (u : AV), (cs.take s)[i]? = some u → cs[i]? = some u := by
      intro i u hu
      have hi : i < s := by have := (List.getElem?_eq_some_iff.1 hu).1; simp at this; omega
      rwa [List.getElem?_take_of_lt hi] at hu
    refine let ⟨cv, hr, hvv⟩ := run_loadVar_cells hb hs (w := w) (F := G.F) (g := g) (off := off) (cs := cs.take s) (us := us.take s) (by simp; omega) ?_ ?_ (by simp; omega) h
      ⟨cv, by simpa [Instr.loadAt, Instr.sureAddr] using hr, hvv⟩
    · intro i u hu
      obtain ⟨q1, q2⟩ := hF i u (key i u hu)
      obtain ⟨cur, e, fz, q3, q4⟩ := hW.frz _ _ _ q1
      exact ⟨by rw [cell_of_row w g (off + i) cur e fz q3]; exact q4, q2⟩
    · exact fun i c u hc hu => hv i c u (key' i c hc) (key i u hu)
  · simp at h

/-! ### places -/
def aFieldAddr (P : Program) (s : TypeId) (f : Nat) (a : AV) : Option AV :=
  match tField P s f with
  | some (off, ft) => match tSize P ft with
    | some (_ + 1) => match a with
      | .lit (.pointer (some ⟨o, i, none⟩)) => some (.lit (.pointer (some ⟨o, i + off, none⟩)))
      | .fptr cs => some (.fptr (cs.drop off))
      | _ => none
    | _ => none
  | none => none

theorem VR.fptr_drop {F : Frz} {cs : List AV} {g off : Nat} (h : VR F (.fptr cs) (.pointer (some ⟨g, off, none⟩))) (k : Nat) : VR F (.fptr (cs.drop k)) (.pointer (some ⟨g, off + k, none⟩)) := by
  cases h with | fptr _ _ _ us hl hF hv => ?_
  refine .fptr _ g (off + k) (us.drop k) (by simp [hl]) (fun i u hu => ?_) fun i c u hc hu => ?_
  · rw [List.getElem?_drop] at hu
    have := hF _ _ hu
    rwa [show off + k + i = off + (k + i) from by omega]
  · rw [List.getElem?_drop] at hc hu
    exact hv _ _ _ hc hu

theorem aFieldAddr_sound {P : Program} {F : Frz} {w : World} {s : TypeId} {f : Nat} {a v : AV} {x : Value} (h : aFieldAddr P s f a = some v) (hx : VR F a x) :
    ∃ cv, (Instr.fieldAt s x f).run P w = .ok cv w ∧ VR F v cv := by
  unfold aFieldAddr at h
  split at h
  case h_2 => simp at h
  rename_i off ft hf
  split at h
  case h_2 => simp at h
  rename_i m hs
  obtain ⟨fs, fl, h1, h2, h3, h4⟩ := under_field hf
  have hsz : (sizeOf fl.type).run P w = .ok (m + 1) w := by rw [h4]; exact run_sizeOf hs w
  split at h
  · rename_i o i
    cases hx
    simp at h; subst h
    refine ⟨.pointer (some ⟨o, i + off, none⟩), ?_, .lit _⟩
    simp [Instr.fieldAt, run_underlying h1, h2, Instr.sureAddr, fieldPlace, hsz, h3, add_addr]
  · rename_i cs
    simp at h; subst h
    have hx0 := hx
    cases hx with | fptr _ g off' us hl hF hv => ?_
    refine ⟨.pointer (some ⟨g, off' + off, none⟩), ?_, hx0.fptr_drop off⟩
    simp [Instr.fieldAt, run_underlying h1, h2, Instr.sureAddr, fieldPlace, hsz, h3, add_addr]
  · simp at h

/-- The place of a list's element. -/
theorem flat_at {vs : List AV} {s i : Nat} (hw : ∀ v ∈ vs, v.cells.length = s) {v : AV} (hi : vs[i]? = some v) (j : Nat) (c : AV) (hc : v.cells[j]? = some c) : (flat vs)[i * s + j]? = some c := by
  induction vs generalizing i with
  | nil => simp at hi
  | cons x xs ih =>
    have hx : x.cells.length = s := hw x (by simp)
    cases i with
    | zero =>
      simp at hi; subst hi
      have : j < x.cells.length := (List.getElem?_eq_some_iff.1 hc).1
      simp only [flat, List.flatMap_cons, Nat.zero_mul, Nat.zero_add]
      rw [List.getElem?_append_left this]; exact hc
    | succ i =>
      simp at hi
      have := ih (fun v hv => hw v (by simp [hv])) hi
      simp only [flat, List.flatMap_cons] at this ⊢
      rw [List.getElem?_append_right (by rw [hx, Nat.succ_mul]; omega), hx]
      rw [show (i + 1) * s + j - s = i * s + j from by rw [Nat.succ_mul]; omega]
      exact this
theorem flat_length {vs : List AV} {s : Nat} (hw : ∀ v ∈ vs, v.cells.length = s) : (flat vs).length = vs.length * s := by
  induction vs with
  | nil => simp [flat]
  | cons x xs ih =>
    have := ih (fun v hv => hw v (by simp [hv]))
    simp only [flat, List.flatMap_cons, List.length_append, List.length_cons] at this ⊢
    rw [this, hw x (by simp), Nat.succ_mul]; omega

def asIntA : AV → Option Int
  | .lit (.int _ n) => some n
  | _ => none

def aIndexAddr (P : Program) (t : TypeId) (a ix : AV) : Option AV :=
  match ix with
  | .lit (.int _ i) =>
    if 0 ≤ i then
      match tElem P t with
      | some e => match tSize P e with
        | some s => match a with
          | .list _ sz vs => if sz = s then (vs[i.toNat]?).map fun v => .fptr v.cells else none
          | .lit (.slice (some ⟨o, off, none⟩) len _) => if i < len then some (.lit (.pointer (some ⟨o, off + i.toNat * s, none⟩))) else none
          | _ => none
        | none => none
      | none => match tArr P t with
        | some (n, e) => match tSize P e with
          | some s => if i < n then (match a with
            | .lit (.pointer (some ⟨o, off, none⟩)) => some (.lit (.pointer (some ⟨o, off + i.toNat * s, none⟩)))
            | .fptr cs => some (.fptr (cs.drop (i.toNat * s)))
            | _ => none) else none
          | none => none
        | none => none
    else none
  | _ => none

theorem aIndexAddr_sound {P : Program} {F : Frz} {w : World} {t : TypeId} {a ix v : AV} {x y : Value} (h : aIndexAddr P t a ix = some v) (hx : VR F a x) (hy : VR F ix y) :
    ∃ cv, (Instr.indexAt t x y).run P w = .ok cv w ∧ VR F v cv := by
  unfold aIndexAddr at h
  split at h
  case h_2 => simp at h
  rename_i k i
  cases hy
  split at h
  case isFalse => simp at h
  rename_i h0
  split at h
  · rename_i e he
    split at h
    case h_2 => simp at h
    rename_i s hs
    have hu := under_elem he
    split at h
    · rename_i own sz vs
      split at h
      case isFalse => simp at h
      rename_i hsz; subst hsz
      cases hvi : vs[i.toNat]? with
      | none => simp [hvi] at h
      | some v' =>
        simp [hvi] at h; subst h
        have hlt : i.toNat < vs.length := (List.getElem?_eq_some_iff.1 hvi).1
        cases hx with
        | nil => simp at hlt
        | void => simp at hlt
        | list _ _ _ g off n cap us hn hc hw hl hF hv =>
          refine ⟨.pointer (some ⟨g, off + i.toNat * sz, none⟩), ?_, ?_⟩
          · simp [Instr.indexAt, asIntOf, run_underlying hu, h0, hn, show i < (vs.length : Int) from by omega, run_sizeOf hs, add_addr]
          · have hcell : ∀ (j : Nat) (c : AV), v'.cells[j]? = some c → (flat vs)[i.toNat * sz + j]? = some c := fun j c hc => flat_at hw hvi j c hc
            have hfl := flat_length hw
            have hvl : v'.cells.length = sz := hw v' (List.mem_of_getElem? hvi)
            have hmul : (i.toNat + 1) * sz ≤ vs.length * sz := Nat.mul_le_mul_right _ hlt
            rw [Nat.succ_mul] at hmul
            refine .fptr _ g _ ((us.drop (i.toNat * sz)).take sz) (by simp; omega) (fun j u hu => ?_) fun j c u hc hu => ?_
            · have hj : j < sz := by have := (List.getElem?_eq_some_iff.1 hu).1; simp at this; omega
              rw [List.getElem?_take_of_lt hj, List.getElem?_drop] at hu
              have := hF _ _ hu
              rwa [show off + i.toNat * sz + j = off + (i.toNat * sz + j) from by omega]
            · have hj : j < sz := by have := (List.getElem?_eq_some_iff.1 hu).1; simp at this; omega
              rw [List.getElem?_take_of_lt hj, List.getElem?_drop] at hu
              exact hv _ _ _ (hcell j c hc) hu
    · rename_i o off len cap
      split at h
      case isFalse => simp at h
      rename_i hlt
      simp at h; subst h
      cases hx
      refine ⟨_, ?_, .lit _⟩
      simp [Instr.indexAt, asIntOf, run_underlying hu, h0, hlt, run_sizeOf hs, add_addr]
    · simp at h
  · split at h
    case h_2 => simp at h
    rename_i n e he
    split at h
    case h_2 => simp at h
    rename_i s hs
    have hu := under_arr he
    split at h
    case isFalse => simp at h
    rename_i hlt
    split at h
    · rename_i o off
      simp at h; subst h
      cases hx
      refine ⟨_, ?_, .lit _⟩
      simp [Instr.indexAt, asIntOf, run_underlying hu, h0, hlt, run_sizeOf hs, add_addr, Instr.sureAddr]
    · rename_i cs
      simp at h; subst h
      have hx0 := hx
      cases hx with | fptr _ g off us hl hF hv => ?_
      refine ⟨_, ?_, hx0.fptr_drop _⟩
      simp [Instr.indexAt, asIntOf, run_underlying hu, h0, hlt, run_sizeOf hs, add_addr, Instr.sureAddr]
    · simp at h

end Go.AL
