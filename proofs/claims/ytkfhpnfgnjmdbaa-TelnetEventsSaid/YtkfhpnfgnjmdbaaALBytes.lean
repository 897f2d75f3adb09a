/-
  The abstract-state logic: the model's own entries on rows of bytes.
-/
import Derived.Test.YtkfhpnfgnjmdbaaALShift
import Derived.Lib.BytesEntry
import Derived.Laws.Externs
namespace Go.AL
open Go

def bytes1 (l : List UInt8) : List AV := l.map fun b => .lit (.int .u8 (b.toNat : Int))
theorem flat_bytes1 (l : List UInt8) : flat (bytes1 l) = bytes1 l := by
  induction l with
  | nil => rfl
  | cons b l ih => simp only [flat, bytes1, List.map_cons, List.flatMap_cons] at ih ⊢; rw [ih]; rfl
theorem libBytes (l : List UInt8) : Lib.bytesOf (l.map fun b => (b.toNat : Int)) = l := by
  simp only [Lib.bytesOf, List.map_map]
  conv => rhs; rw [← List.map_id l]
  apply List.map_congr_left
  intro b _
  simp
/-- A row of bytes, as the entries read it. -/
theorem run_bytesOf {P : Program} {D : Nat → Prop} {G : Ghost} {σ : Store} {w : World} (hW : WR D G σ w) {o : Bool} {l : List UInt8} {v : Value} (h : VR G.F (.list o 1 (bytes1 l)) v) : (Extern.Bytes.bytesOf v).run P w = .ok ⟨l.toArray⟩ w := by
  generalize hb : bytes1 l = vs at h
  cases h with
  | nil =>
    have : l = [] := by simpa [bytes1] using hb
    subst this; rfl
  | void sz a =>
    have : l = [] := by simpa [bytes1] using hb
    subst this; rfl
  | list _ _ _ g off n cap us hn hc hw hl hF hv =>
    subst hb
    have hul : us.length = l.length := by rw [hl, flat_bytes1]; simp [bytes1]
    have hnl : n = l.length := by rw [hn]; simp [bytes1]
    have := Lib.run_loadBytesX (P := P) w (l.map fun b => (b.toNat : Int)) ⟨g, off, none⟩ .empty (fun j x hx => by
      rw [List.getElem?_map] at hx
      cases hj : l[j]? with
      | none => rw [hj] at hx; cases hx
      | some b =>
        rw [hj] at hx
        simp only [Option.map_some, Option.some.injEq] at hx; subst hx
        have hlt : j < l.length := (List.getElem?_eq_some_iff.1 hj).1
        have hu : us[j]? = some us[j] := List.getElem?_eq_getElem (by omega)
        have hvr := hv j (.lit (.int .u8 (b.toNat : Int))) us[j] (by rw [flat_bytes1, bytes1, List.getElem?_map, hj]; rfl) hu
        have hval : us[j] = .int .u8 (b.toNat : Int) := by
          generalize us[j] = u at hvr
          cases hvr; rfl
        obtain ⟨cur, e', fz, q1, q2⟩ := hW.frz _ _ _ (hF j _ hu).1
        rw [add_addr, cell_of_row w g (off + j) cur e' fz q1, q2, hval])
    rw [List.length_map, ← hnl, libBytes] at this
    have e : (⟨ByteArray.empty.data ++ l.toArray⟩ : ByteArray) = ⟨l.toArray⟩ := by
      apply ByteArray.ext
      show (#[] : Array UInt8) ++ l.toArray = l.toArray
      simp
    rw [e] at this
    exact this

theorem ext_indexByte {P : Program} {f : FuncId} {fn : Func} (hf : P.funcs[f]? = some fn) (hname : (fn.name == "runtime.NumGoroutine") = false) (hb : fn.body.isNone = true) (hn : Extern.findNext fn = none) (he : Extern.find fn = some Extern.BytealgIndexByte.indexByte)
    (o : Bool) (l : List UInt8) (c : UInt8) (σ : Store) : AExt P f [.list o 1 (bytes1 l), .lit (.int .u8 (c.toNat : Int))] σ fun v σ' => v = .lit (.int .i64 (Lib.indexByte l c)) ∧ σ' = σ := by
  intro D G w cargs h1 h2 hW
  obtain ⟨x, y, rfl⟩ : ∃ x y, cargs = #[x, y] := by
    obtain ⟨lst⟩ := cargs
    match lst, h1 with
    | [x, y], _ => exact ⟨x, y, rfl⟩
  have hx := h2 0 _ x rfl rfl
  have hy := h2 1 _ y rfl rfl
  cases hy
  have hl := run_bytesOf (P := P) hW hx
  refine ⟨_, .int .i64 (Lib.indexByte l c), ?_, rfl, .lit _, rfl, rfl⟩
  rw [run_callFunc_extern hf hname hb hn he]
  have hs := Lib.run_indexByteString (P := P) ⟨l.toArray⟩ (c.toNat : Int) w
  have key : (Extern.BytealgIndexByte.indexByte #[x, .int .u8 (c.toNat : Int)]).run P w = (Extern.BytealgIndexByte.indexByte #[.string ⟨l.toArray⟩, .int .u8 (c.toNat : Int)]).run P w := by
    change Sem.run P (Extern.Bytes.bytesOf x >>= fun b => (Extern.Bytes.asByte (.int .u8 (c.toNat : Int)) >>= fun c => match (List.range b.size).find? fun i => b[i]! == c with | some i => pure (goInt i) | none => pure (goInt (-1)))) w =
      Sem.run P (Extern.Bytes.bytesOf (.string ⟨l.toArray⟩) >>= fun b => (Extern.Bytes.asByte (.int .u8 (c.toNat : Int)) >>= fun c => match (List.range b.size).find? fun i => b[i]! == c with | some i => pure (goInt i) | none => pure (goInt (-1)))) w
    rw [Sem.run_bind, Sem.run_bind, hl]
    rfl
  rw [key, hs]
  simp [Result.andThen]
theorem ext_count {P : Program} {f : FuncId} {fn : Func} (hf : P.funcs[f]? = some fn) (hname : (fn.name == "runtime.NumGoroutine") = false) (hb : fn.body.isNone = true) (hn : Extern.findNext fn = none) (he : Extern.find fn = some Extern.BytealgCount.count)
    (o : Bool) (l : List UInt8) (c : UInt8) (σ : Store) : AExt P f [.list o 1 (bytes1 l), .lit (.int .u8 (c.toNat : Int))] σ fun v σ' => v = .lit (.int .i64 (Lib.countByte l c)) ∧ σ' = σ := by
  intro D G w cargs h1 h2 hW
  obtain ⟨x, y, rfl⟩ : ∃ x y, cargs = #[x, y] := by
    obtain ⟨lst⟩ := cargs
    match lst, h1 with
    | [x, y], _ => exact ⟨x, y, rfl⟩
  have hx := h2 0 _ x rfl rfl
  have hy := h2 1 _ y rfl rfl
  cases hy
  have hl := run_bytesOf (P := P) hW hx
  refine ⟨_, .int .i64 (Lib.countByte l c), ?_, rfl, .lit _, rfl, rfl⟩
  rw [run_callFunc_extern hf hname hb hn he]
  have hs := Lib.run_countString (P := P) ⟨l.toArray⟩ (c.toNat : Int) w
  have key : (Extern.BytealgCount.count #[x, .int .u8 (c.toNat : Int)]).run P w = (Extern.BytealgCount.count #[.string ⟨l.toArray⟩, .int .u8 (c.toNat : Int)]).run P w := by
    change Sem.run P (Extern.Bytes.bytesOf x >>= fun b => (Extern.Bytes.asByte (.int .u8 (c.toNat : Int)) >>= fun c => pure (goInt (b.foldl (fun n x => if x == c then n + 1 else n) (0 : Nat))))) w =
      Sem.run P (Extern.Bytes.bytesOf (.string ⟨l.toArray⟩) >>= fun b => (Extern.Bytes.asByte (.int .u8 (c.toNat : Int)) >>= fun c => pure (goInt (b.foldl (fun n x => if x == c then n + 1 else n) (0 : Nat))))) w
    rw [Sem.run_bind, Sem.run_bind, hl]
    rfl
  rw [key, hs]
  simp [Result.andThen]

/-! ### Rows written part by part -/
theorem setRange_app (a r xs : List AV) (h : xs.length ≤ r.length) : setRange (a ++ r) a.length xs = a ++ xs ++ r.drop xs.length := by
  apply List.ext_getElem?
  intro i
  rw [setRange_get _ _ _ _ (by simp; omega)]
  by_cases h1 : i < a.length
  · rw [if_neg (by omega), List.getElem?_append_left h1, List.append_assoc, List.getElem?_append_left h1]
  · by_cases h2 : i < a.length + xs.length
    · rw [if_pos (by omega), List.append_assoc, List.getElem?_append_right (by omega), List.getElem?_append_left (by omega)]
    · rw [if_neg (by omega), List.getElem?_append_right (by omega), List.append_assoc, List.getElem?_append_right (by omega), List.getElem?_append_right (by omega), List.getElem?_drop]
      congr 1 <;> omega
theorem setRange_nil (cs : List AV) (off : Nat) (h : off ≤ cs.length) : setRange cs off [] = cs := by
  apply List.ext_getElem?
  intro i
  rw [setRange_get _ _ _ _ (by simpa using h), if_neg (by simp)]

/-! ### What stands ahead of a byte, and how often it comes -/
theorem indexByte_split (l : List UInt8) (c : UInt8) (h : 0 < l.count c) : ∃ pre post, l = pre ++ c :: post ∧ c ∉ pre ∧ Lib.indexByte l c = pre.length := by
  induction l with
  | nil => simp at h
  | cons b l ih =>
    by_cases hb : b = c
    · subst hb; exact ⟨[], l, rfl, by simp, by simp [Lib.indexByte]⟩
    · have hc : 0 < l.count c := by rw [List.count_cons] at h; simpa [hb] using h
      obtain ⟨pre, post, h1, h2, h3⟩ := ih hc
      refine ⟨b :: pre, post, by rw [h1]; rfl, by simp [h2, Ne.symm hb], ?_⟩
      have hbc : (b == c) = false := by simpa using hb
      simp [Lib.indexByte, hbc, h3]
      try omega
/-- Each such byte written otherwise. -/
def escOf (c : UInt8) (new : List UInt8) (l : List UInt8) : List UInt8 := l.flatMap fun b => if b = c then new else [b]
theorem escOf_append (c : UInt8) (new l k : List UInt8) : escOf c new (l ++ k) = escOf c new l ++ escOf c new k := by simp [escOf]
theorem escOf_none (c : UInt8) (new l : List UInt8) (h : c ∉ l) : escOf c new l = l := by
  induction l with
  | nil => rfl
  | cons b l ih =>
    simp only [List.mem_cons, not_or] at h
    have := ih h.2
    simp only [escOf, List.flatMap_cons] at this ⊢
    rw [this, if_neg (Ne.symm h.1)]; rfl
theorem escOf_length (c : UInt8) (new l : List UInt8) : (escOf c new l).length + l.count c = l.length + l.count c * new.length := by
  induction l with
  | nil => simp [escOf]
  | cons b l ih =>
    have e : escOf c new (b :: l) = (if b = c then new else [b]) ++ escOf c new l := rfl
    rw [e, List.length_append, List.count_cons, List.length_cons]
    by_cases hb : b = c
    · simp only [hb, if_true, beq_self_eq_true]
      rw [Nat.add_mul, Nat.one_mul]; omega
    · have : (b == c) = false := by simpa using hb
      simp only [hb, if_false, this, List.length_singleton]; simp; omega
end Go.AL
