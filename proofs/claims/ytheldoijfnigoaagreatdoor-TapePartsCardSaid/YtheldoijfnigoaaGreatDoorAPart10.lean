/-
  Of each function: which temporaries take a right to append with the value; the plans of the regions that draw their order. Written by a program of mine.
-/
import Derived.Test.YtheldoijfnigoaaGreatDoorAPart9
set_option linter.unusedSimpArgs false
set_option linter.unusedVariables false
namespace Go.Proofs.YtheldoijfnigoaaGreatDoor
open Go Go.AL
@[simp] def st3 : List Nat := [36, 44, 55, 70, 5000013, 4000034, 4000038, 4000042, 4000046, 4000049, 4000056, 4000060]
@[simp] def pl3 : List (Nat × Plan) := []
@[simp] def st4 : List Nat := []
@[simp] def pl4 : List (Nat × Plan) := []
@[simp] def st5 : List Nat := [19, 24]
@[simp] def pl5 : List (Nat × Plan) := []
@[simp] def st6 : List Nat := [10, 5000003, 4000016]
@[simp] def pl6 : List (Nat × Plan) := []
@[simp] def st8 : List Nat := []
@[simp] def pl8 : List (Nat × Plan) := []
@[simp] def pl9 : List (Nat × Plan) := [(13, Plan.seq [0, 2] (.alt (Plan.seq [1, 3, 4, 5] (.done)) (Plan.seq [3, 1, 4, 5] (.done))))]
@[simp] def st10 : List Nat := [5000006, 5000007, 4000021, 4000025]
@[simp] def pl10 : List (Nat × Plan) := [(6, Plan.seq [0, 1, 2, 3, 4, 5, 6, 7] (.alt (Plan.seq [8, 9, 10, 11] (.done)) (Plan.seq [9, 8, 10, 11] (.done))))]
@[simp] def st11 : List Nat := [12, 23]
@[simp] def pl11 : List (Nat × Plan) := []
@[simp] def st12 : List Nat := [26, 35]
@[simp] def pl12 : List (Nat × Plan) := []
@[simp] def st13 : List Nat := []
@[simp] def pl13 : List (Nat × Plan) := []
@[simp] def st14 : List Nat := [15, 20, 5000005, 4000013, 4000017]
@[simp] def pl14 : List (Nat × Plan) := []
@[simp] def pl15 : List (Nat × Plan) := []
@[simp] def st16 : List Nat := [33, 38]
@[simp] def pl16 : List (Nat × Plan) := []
@[simp] def st17 : List Nat := []
@[simp] def pl17 : List (Nat × Plan) := []
@[simp] def st18 : List Nat := [5000001]
@[simp] def pl18 : List (Nat × Plan) := []
@[simp] def st19 : List Nat := []
@[simp] def pl19 : List (Nat × Plan) := []
@[simp] def st22 : List Nat := []
@[simp] def pl22 : List (Nat × Plan) := []
@[simp] def st24 : List Nat := []
@[simp] def pl24 : List (Nat × Plan) := []
@[simp] def st25 : List Nat := [5000002, 5000003]
@[simp] def pl25 : List (Nat × Plan) := []
@[simp] def pl26 : List (Nat × Plan) := []
@[simp] def pl27 : List (Nat × Plan) := []
@[simp] def st28 : List Nat := []
@[simp] def pl28 : List (Nat × Plan) := []
@[simp] def st29 : List Nat := []
@[simp] def pl29 : List (Nat × Plan) := []
@[simp] def st30 : List Nat := [5000004, 4000012, 4000017]
@[simp] def pl30 : List (Nat × Plan) := []
@[simp] def st37 : List Nat := [5000003, 4000005, 4000007, 4000008, 4000011]
@[simp] def pl37 : List (Nat × Plan) := [(4, Plan.tail 3 (Plan.seq [0, 1, 2] (.done)))]
@[simp] def pl38 : List (Nat × Plan) := []
@[simp] def st39 : List Nat := [22]
@[simp] def pl39 : List (Nat × Plan) := [(3, Plan.seq [0, 1, 2, 3, 4, 5, 6, 7, 8, 9, 10, 11] (.done))]
@[simp] def st40 : List Nat := []
@[simp] def pl40 : List (Nat × Plan) := []
@[simp] def pl41 : List (Nat × Plan) := [(16, Plan.seq [0] (.alt (Plan.seq [1, 2, 3, 4, 5] (.done)) (Plan.seq [4, 1, 2, 3, 5] (.done))))]
@[simp] def st42 : List Nat := []
@[simp] def pl42 : List (Nat × Plan) := []
@[simp] def st57 : List Nat := []
@[simp] def pl57 : List (Nat × Plan) := [(3, Plan.seq [0, 1, 2, 3, 4, 5, 6] (.done))]
@[simp] def st58 : List Nat := [94]
@[simp] def pl58 : List (Nat × Plan) := []
@[simp] def st59 : List Nat := []
@[simp] def pl59 : List (Nat × Plan) := []
@[simp] def st60 : List Nat := []
@[simp] def pl60 : List (Nat × Plan) := []
@[simp] def st89 : List Nat := []
@[simp] def pl89 : List (Nat × Plan) := []
@[simp] def st94 : List Nat := [25]
@[simp] def pl94 : List (Nat × Plan) := []
@[simp] def st95 : List Nat := []
@[simp] def pl95 : List (Nat × Plan) := []
end Go.Proofs.YtheldoijfnigoaaGreatDoor
/-
  Texts: their parts between bytes, by the library and by plain recursion.
-/
namespace Go.Proofs.YtheldoijfnigoaaGreatDoor
open Go Go.AL

theorem follows : Tryz.prog.follows .mixedOrders = true := by kernel_rfl
def byteA (b : UInt8) : AV := .lit (.int .u8 (b.toNat : Int))
def bytesA (l : List UInt8) : List AV := l.map byteA
@[simp] theorem bytesA_length (l : List UInt8) : (bytesA l).length = l.length := by simp [bytesA]
def toB (L : List UInt8) : ByteArray := ⟨L.toArray⟩
theorem toB_size (L : List UInt8) : (toB L).size = L.length := by simp [toB, ByteArray.size]
theorem toB_data (l : List UInt8) : (toB l).data.toList = l := by simp [toB]
theorem toB_extract (L : List UInt8) (i j : Nat) (h : i ≤ j) : (toB L).extract i j = toB ((L.drop i).take (j - i)) := by
  apply ByteArray.ext
  apply Array.ext'
  simp [toB, ByteArray.data_extract]
def strA (l : List UInt8) : AV := .lit (.string (toB l))
def strsA (l : List (List UInt8)) : List AV := l.map fun x => .lit (.string (toB x))
@[simp] theorem strsA_length (l : List (List UInt8)) : (strsA l).length = l.length := by simp [strsA]
theorem flat_strs (l : List (List UInt8)) : flat (strsA l) = strsA l := by
  induction l with
  | nil => rfl
  | cons a l ih => simp only [flat, strsA, List.map_cons, List.flatMap_cons] at ih ⊢; rw [ih]; rfl
variable [Errs]
set_option linter.unusedSectionVars false
/-- A text up to a place, from a place on. -/
theorem aSlice_to {P : Program} {t : TypeId} (ht : tElem P t = none) (hs : tStr P t = true) (L : List UInt8) (b : Nat) (zb : Int) (hb : zb = b) (hbl : b ≤ L.length) :
    aSlice P t (.lit (.string (toB L))) none (some (.lit (.int .i64 zb))) none = some (.lit (.string (toB (L.take b)))) := by
  subst hb
  have hsz := toB_size L
  have h1 : (0 : Int) ≤ (b : Int) := by omega
  have h2 : b ≤ (toB L).size := by omega
  have := toB_extract L 0 b (by omega)
  simp at this
  simp [aSlice, ht, hs, bndA, h1, h2, this]
theorem aSlice_from {P : Program} {t : TypeId} (ht : tElem P t = none) (hs : tStr P t = true) (L : List UInt8) (a : Nat) (za : Int) (ha : za = a) (hal : a ≤ L.length) :
    aSlice P t (.lit (.string (toB L))) (some (.lit (.int .i64 za))) none none = some (.lit (.string (toB (L.drop a)))) := by
  subst ha
  have hsz := toB_size L
  have h1 : (0 : Int) ≤ (a : Int) := by omega
  have := toB_extract L a L.length (by omega)
  rw [List.take_of_length_le (by simp)] at this
  simp [aSlice, ht, hs, bndA, h1, hsz, hal, this]
/-! ### Where a byte stands -/
theorem ext_indexS {P : Program} {f : FuncId} {fn : Func} (hf : P.funcs[f]? = some fn) (hname : (fn.name == "runtime.NumGoroutine") = false) (hb : fn.body.isNone = true) (hn : Extern.findNext fn = none) (he : Extern.find fn = some Extern.BytealgIndexByte.indexByte)
    (l : List UInt8) (c : UInt8) (σ : Store) : AExt P f [.lit (.string (toB l)), .lit (.int .u8 (c.toNat : Int))] σ fun v σ' => v = .lit (.int .i64 (Lib.indexByte l c)) ∧ σ' = σ := by
  intro D G w cargs h1 h2 hW
  obtain ⟨x, y, rfl⟩ : ∃ x y, cargs = #[x, y] := by
    obtain ⟨lst⟩ := cargs
    match lst, h1 with
    | [x, y], _ => exact ⟨x, y, rfl⟩
  have hx := h2 0 _ x rfl rfl
  have hy := h2 1 _ y rfl rfl
  cases hx
  cases hy
  refine ⟨_, .int .i64 (Lib.indexByte l c), ?_, rfl, .lit _, rfl, rfl⟩
  rw [run_callFunc_extern hf hname hb hn he]
  have hs := Lib.run_indexByteString (P := P) (toB l) (c.toNat : Int) w
  rw [hs]
  simp [Result.andThen, toB]
theorem ext_countS {P : Program} {f : FuncId} {fn : Func} (hf : P.funcs[f]? = some fn) (hname : (fn.name == "runtime.NumGoroutine") = false) (hb : fn.body.isNone = true) (hn : Extern.findNext fn = none) (he : Extern.find fn = some Extern.BytealgCount.count)
    (l : List UInt8) (c : UInt8) (σ : Store) : AExt P f [.lit (.string (toB l)), .lit (.int .u8 (c.toNat : Int))] σ fun v σ' => v = .lit (.int .i64 (Lib.countByte l c)) ∧ σ' = σ := by
  intro D G w cargs h1 h2 hW
  obtain ⟨x, y, rfl⟩ : ∃ x y, cargs = #[x, y] := by
    obtain ⟨lst⟩ := cargs
    match lst, h1 with
    | [x, y], _ => exact ⟨x, y, rfl⟩
  have hx := h2 0 _ x rfl rfl
  have hy := h2 1 _ y rfl rfl
  cases hx
  cases hy
  refine ⟨_, .int .i64 (Lib.countByte l c), ?_, rfl, .lit _, rfl, rfl⟩
  rw [run_callFunc_extern hf hname hb hn he]
  have hs := Lib.run_countString (P := P) (toB l) (c.toNat : Int) w
  rw [hs]
  simp [Result.andThen, toB]
@[simp] theorem qcallable39 : callable Tryz.prog 39 = true := nr (by kernel_rfl)
@[simp] theorem qcallable54 : callable Tryz.prog 58 = true := nr (by kernel_rfl)
@[simp] theorem qcallable59 : callable Tryz.prog 89 = true := nr (by kernel_rfl)
@[simp] theorem qcallable72 : callable Tryz.prog 161 = false := nr (by kernel_rfl)
@[simp] theorem qcallable73 : callable Tryz.prog 157 = false := nr (by kernel_rfl)
set_option maxRecDepth 8000 in
theorem ext73 (l : List UInt8) (c : UInt8) (σ : Store) : AExt Tryz.prog 157 [.lit (.string (toB l)), byteA c] σ fun v σ' => v = .lit (.int .i64 (Lib.indexByte l c)) ∧ σ' = σ :=
  ext_indexS Tryz.func157 (by kernel_rfl) (by kernel_rfl) (by kernel_rfl) (by kernel_rfl) l c σ
set_option maxRecDepth 8000 in
theorem ext72 (l : List UInt8) (c : UInt8) (σ : Store) : AExt Tryz.prog 161 [.lit (.string (toB l)), byteA c] σ fun v σ' => v = .lit (.int .i64 (l.count c)) ∧ σ' = σ :=
  ext_countS Tryz.func161 (by kernel_rfl) (by kernel_rfl) (by kernel_rfl) (by kernel_rfl) l c σ
set_option maxRecDepth 8000 in
theorem slb_calls (l : List UInt8) (c : UInt8) (σ : Store) : ACalls Tryz.prog 89 [.lit (.string (toB l)), byteA c] σ fun v σ' => v = .lit (.int .i64 (Lib.indexByte l c)) ∧ σ' = σ := by
  refine ACalls.of_awp follows (st := st89) (plans := pl89) (n := 8) Tryz.func89 rfl (by kernel_rfl) (by kernel_rfl) (by kernel_rfl) ?_
  simp [byteA]
  refine extK.of (ext73 l c σ) ?_
  rintro v σ' ⟨rfl, rfl⟩
  simp
set_option maxRecDepth 8000 in
theorem idxb_calls (l : List UInt8) (c : UInt8) (σ : Store) : ACalls Tryz.prog 60 [.lit (.string (toB l)), byteA c] σ fun v σ' => v = .lit (.int .i64 (Lib.indexByte l c)) ∧ σ' = σ := by
  refine ACalls.of_awp follows (st := st60) (plans := pl60) (n := 8) Tryz.func60 rfl (by kernel_rfl) (by kernel_rfl) (by kernel_rfl) ?_
  have h := slb_calls l c σ
  unfold byteA at h ⊢
  simp
  refine callK.of h ?_
  rintro v σ' ⟨rfl, rfl⟩
  simp
set_option maxRecDepth 8000 in
theorem idx1_calls (l : List UInt8) (c : UInt8) (σ : Store) : ACalls Tryz.prog 58 [.lit (.string (toB l)), .lit (.string ⟨#[c]⟩)] σ fun v σ' => v = .lit (.int .i64 (Lib.indexByte l c)) ∧ σ' = σ := by
  refine ACalls.of_awp follows (st := st58) (plans := pl58) (n := 143) Tryz.func58 rfl (by kernel_rfl) (by kernel_rfl) (by kernel_rfl) ?_
  have hs1 : (⟨#[c]⟩ : ByteArray).size = 1 := rfl
  have h := slb_calls l c σ
  unfold byteA at h
  simp [hs1]
  by_cases he : [c] = (toB l).toList
  · rw [if_pos he]
    have e : l = [c] := by rw [he, ByteArray.toList_eq, toB_data]
    subst e
    have : Lib.indexByte [c] c = 0 := by simp [Lib.indexByte]
    rw [this]; exact AV.le_refl _
  · rw [if_neg he]
    refine callK.of h ?_
    rintro v σ' ⟨rfl, rfl⟩
    simp
set_option maxRecDepth 8000 in
theorem sidx1_calls (l : List UInt8) (c : UInt8) (σ : Store) : ACalls Tryz.prog 95 [.lit (.string (toB l)), .lit (.string ⟨#[c]⟩)] σ fun v σ' => v = .lit (.int .i64 (Lib.indexByte l c)) ∧ σ' = σ := by
  refine ACalls.of_awp follows (st := st95) (plans := pl95) (n := 8) Tryz.func95 rfl (by kernel_rfl) (by kernel_rfl) (by kernel_rfl) ?_
  simp
  refine callK.of (idx1_calls l c σ) ?_
  rintro v σ' ⟨rfl, rfl⟩
  simp
set_option maxRecDepth 8000 in
theorem cnt1_calls (l : List UInt8) (c : UInt8) (σ : Store) : ACalls Tryz.prog 94 [.lit (.string (toB l)), .lit (.string ⟨#[c]⟩)] σ fun v σ' => v = .lit (.int .i64 (l.count c)) ∧ σ' = σ := by
  refine ACalls.of_awp follows (st := st94) (plans := pl94) (n := 34) Tryz.func94 rfl (by kernel_rfl) (by kernel_rfl) (by kernel_rfl) ?_
  have hs1 : (⟨#[c]⟩ : ByteArray).size = 1 := rfl
  simp [hs1]
  refine extK.of (ext72 l c σ) ?_
  rintro v σ' ⟨rfl, rfl⟩
  simp
end Go.Proofs.YtheldoijfnigoaaGreatDoor
/-
  strings.Cut and strings.Split at one byte.
-/
namespace Go.Proofs.YtheldoijfnigoaaGreatDoor
open Go Go.AL

/-- The parts of a text between bytes. -/
def splitL (c : UInt8) : List UInt8 → List (List UInt8)
  | [] => [[]]
  | b :: l => if b = c then [] :: splitL c l else match splitL c l with
    | [] => [[b]]
    | h :: t => (b :: h) :: t
theorem splitL_none (c : UInt8) : ∀ l : List UInt8, c ∉ l → splitL c l = [l]
  | [], _ => rfl
  | b :: l, h => by
    have h1 : ¬ b = c := fun e => h (by simp [e])
    rw [splitL, if_neg h1, splitL_none c l (fun e => h (by simp [e]))]
theorem splitL_cut (c : UInt8) (post : List UInt8) : ∀ pre : List UInt8, c ∉ pre → splitL c (pre ++ c :: post) = pre :: splitL c post
  | [], _ => by show splitL c (c :: post) = _; rw [splitL, if_pos rfl]
  | b :: l, h => by
    have h1 : ¬ b = c := fun e => h (by simp [e])
    show splitL c (b :: (l ++ c :: post)) = _
    rw [splitL, if_neg h1, splitL_cut c post l (fun e => h (by simp [e]))]
theorem splitL_len (c : UInt8) : ∀ l : List UInt8, (splitL c l).length = l.count c + 1
  | [] => rfl
  | b :: l => by
    have ih := splitL_len c l
    rw [splitL]
    split
    · rename_i h; subst h; simp [ih]
    · rename_i h
      rw [List.count_cons_of_ne h]
      split
      · rename_i e; rw [e] at ih; simp at ih
      · rename_i e; rw [e] at ih; simpa using ih
theorem indexByte_nil (c : UInt8) : ∀ l : List UInt8, c ∉ l → Lib.indexByte l c = -1
  | [], _ => rfl
  | b :: l, h => by
    have h1 : ¬ b = c := fun e => h (by simp [e])
    simp [Lib.indexByte, h1, indexByte_nil c l (fun e => h (by simp [e]))]
/-- A text ahead of a byte and behind it; whether it is there. -/
def cutL (c : UInt8) (l : List UInt8) : List UInt8 × List UInt8 × Bool :=
  if c ∈ l then (l.take (Lib.indexByte l c).toNat, l.drop ((Lib.indexByte l c).toNat + 1), true) else (l, [], false)
theorem cutL_some (c : UInt8) {pre post : List UInt8} (h : Lib.indexByte (pre ++ c :: post) c = pre.length) : cutL c (pre ++ c :: post) = (pre, post, true) := by
  have h1 : (Lib.indexByte (pre ++ c :: post) c).toNat = pre.length := by rw [h]; simp
  have h2 : (pre ++ c :: post).drop (pre.length + 1) = post := by
    rw [← List.drop_drop]; simp
  unfold cutL
  rw [if_pos (by simp), h1, h2]
  simp
theorem cutL_none (c : UInt8) {l : List UInt8} (h : c ∉ l) : cutL c l = (l, [], false) := by unfold cutL; rw [if_neg h]

variable [Errs]
set_option linter.unusedSectionVars false
def cutA (x : List UInt8 × List UInt8 × Bool) : AV := .tuple [.lit (.string (toB x.1)), .lit (.string (toB x.2.1)), .lit (.bool x.2.2)]
theorem str_nil : (⟨#[]⟩ : ByteArray) = toB [] := rfl
set_option maxRecDepth 8000 in
theorem icut_calls (l : List UInt8) (hl : l.length ≤ 1000000000) (c : UInt8) (σ : Store) : ACalls Tryz.prog 39 [.lit (.string (toB l)), .lit (.string ⟨#[c]⟩)] σ fun v σ' => v = cutA (cutL c l) ∧ σ' = σ := by
  refine ACalls.of_awp follows (st := st39) (plans := pl39) (n := 23) Tryz.func39 rfl (by kernel_rfl) (by kernel_rfl) (by kernel_rfl) ?_
  have hs1 : (⟨#[c]⟩ : ByteArray).size = 1 := rfl
  simp
  refine callK.of (idx1_calls l c σ) ?_
  rintro v σ' ⟨rfl, rfl⟩
  by_cases hc : c ∈ l
  · obtain ⟨pre, post, rfl, h2, h3⟩ := indexByte_split l c (List.count_pos_iff.2 hc)
    rw [cutL_some c h3, h3]
    have hk := aSlice_to (P := Tryz.prog) (t := 9) (by simp) (by simp) (pre ++ c :: post) pre.length (pre.length : Int) rfl (by simp)
    have hw : IntKind.i64.wrap ((pre.length : Int) + 1) = ((pre.length + 1 : Nat) : Int) := by
      have : (pre ++ c :: post).length = pre.length + (post.length + 1) := by simp
      rw [wrap_i64 (by omega) (by omega)]; omega
    have hk2 := aSlice_from (P := Tryz.prog) (t := 9) (by simp) (by simp) (pre ++ c :: post) (pre.length + 1) ((pre.length + 1 : Nat) : Int) rfl (by simp)
    have e2 : (pre ++ c :: post).drop (pre.length + 1) = post := by rw [← List.drop_drop]; simp
    rw [e2] at hk2
    have e1 : (pre ++ c :: post).take pre.length = pre := by simp
    rw [e1] at hk
    generalize hS : toB (pre ++ c :: post) = S at *
    generalize hn : ((pre.length + 1 : Nat) : Int) = m at *
    simp [-e_aSlice_1, -e_aSlice_2, hs1, hw, hk, hk2, cutA]
  · rw [cutL_none c hc, indexByte_nil c l hc]
    simp [cutA, str_nil]
set_option maxRecDepth 8000 in
theorem cut_calls (l : List UInt8) (hl : l.length ≤ 1000000000) (c : UInt8) (σ : Store) : ACalls Tryz.prog 28 [.lit (.string (toB l)), .lit (.string ⟨#[c]⟩)] σ fun v σ' => v = cutA (cutL c l) ∧ σ' = σ := by
  refine ACalls.of_awp follows (st := st28) (plans := pl28) (n := 13) Tryz.func28 rfl (by kernel_rfl) (by kernel_rfl) (by kernel_rfl) ?_
  simp
  refine callK.of (icut_calls l hl c σ) ?_
  rintro v σ' ⟨rfl, rfl⟩
  simp [cutA]
theorem strsA_append (a b : List (List UInt8)) : strsA (a ++ b) = strsA a ++ strsA b := by simp [strsA]
set_option maxHeartbeats 1000000 in
set_option maxRecDepth 8000 in
theorem gsplit_calls (l : List UInt8) (hl : l.length ≤ 1000000000) (c : UInt8) (σ : Store) :
    ACalls Tryz.prog 59 [.lit (.string (toB l)), .lit (.string ⟨#[c]⟩), .lit (.int .i64 0), .lit (.int .i64 (-1))] σ fun v σ' => v = .list true 1 (strsA (splitL c l)) ∧ σ' = σ := by
  refine ACalls.shift (R := fun v σ' => ∃ p : Nat, σ p = none ∧ v = .lit (.slice (some ⟨p, 0, none⟩) (splitL c l).length (splitL c l).length) ∧ σ' = σ.upd p (strsA (splitL c l))) ?_ ?_
  · refine ACalls.of_awp follows (st := st59) (plans := pl59) (n := 66) Tryz.func59 rfl (by kernel_rfl) (by kernel_rfl) (by kernel_rfl) ?_
    have hs1 : (⟨#[c]⟩ : ByteArray).size = 1 := rfl
    have hcl := l.count_le_length (a := c)
    have hw : IntKind.i64.wrap ((l.count c : Int) + 1) = ((l.count c + 1 : Nat) : Int) := by rw [wrap_i64 (by omega) (by omega)]; omega
    have hsz := toB_size l
    simp
    refine callK.of (cnt1_calls l c σ) ?_
    rintro v σ' ⟨rfl, rfl⟩
    have hw2 : IntKind.i64.wrap ((l.length : Int) + 1) = ((l.length + 1 : Nat) : Int) := by rw [wrap_i64 (by omega) (by omega)]; omega
    have hw3 : IntKind.i64.wrap (((l.count c + 1 : Nat) : Int) - 1) = (l.count c : Int) := by rw [wrap_i64 (by omega) (by omega)]; omega
    have hw4 : IntKind.i64.wrap (l.count c : Int) = (l.count c : Int) := wrap_i64 (by omega) (by omega)
    have hNN : (splitL c l).length = l.count c + 1 := splitL_len c l
    generalize hN : l.count c + 1 = N at *
    generalize hM : l.length + 1 = M at *
    have hMN : ¬ M < N := by omega
    simp [hw, hsz, hw2, hMN, hw3, hw4]
    refine ⟨by omega, by omega, fun p hp => ?_⟩
    refine codeK.loop follows (st := st59) (plans := pl59) (X := List (List UInt8) × List UInt8) (fun x => x.1 ++ splitL c x.2 = splitL c l ∧ x.1.length + x.2.count c = l.count c ∧ x.2.length ≤ l.length)
      (fun x => [(0, .lit (.string (toB x.2))), (1, .lit (.string ⟨#[c]⟩)), (2, .lit (.int .i64 0)), (3, .lit (.int .i64 (l.count c))), (9, .lit (.slice (some ⟨p, 0, none⟩) N N)), (10, .lit (.int .i64 x.1.length))])
      (fun x => σ'.upd p (strsA x.1 ++ List.replicate (N - x.1.length) (.lit (.string ByteArray.empty)))) (fun x => l.count c - x.1.length) ([], l) (by kernel_rfl)
      ⟨by simp, by simp, by simp⟩ (by simp) (by simp [strsA]) fun x hx => ?_
    obtain ⟨done, rest⟩ := x
    obtain ⟨h1, h2, h3⟩ := hx
    dsimp only at h1 h2 h3 ⊢
    have hdw : IntKind.i64.wrap ((done.length : Int) + 1) = ((done.length + 1 : Nat) : Int) := by rw [wrap_i64 (by omega) (by omega)]; omega
    have hrw : List.replicate (N - done.length) (AV.lit (.string ByteArray.empty)) = .lit (.string ByteArray.empty) :: List.replicate (N - (done.length + 1)) (.lit (.string ByteArray.empty)) := by
      rw [show N - done.length = (N - (done.length + 1)) + 1 by omega, List.replicate_succ]
    have hset : ∀ x : List UInt8, setRange (strsA done ++ List.replicate (N - done.length) (.lit (.string ByteArray.empty))) done.length [.lit (.string (toB x))] = strsA (done ++ [x]) ++ List.replicate (N - (done.length + 1)) (.lit (.string ByteArray.empty)) := fun x => by
      have := setRange_app (strsA done) (List.replicate (N - done.length) (.lit (.string ByteArray.empty))) [.lit (.string (toB x))] (by simp; omega)
      rw [strsA_length] at this
      rw [this, strsA_append, hrw]
      simp [strsA]
    have hln : (strsA done ++ List.replicate (N - done.length) (AV.lit (.string ByteArray.empty))).length = N := by simp; omega
    have hdN : done.length < N := by omega
    by_cases hlt : done.length < l.count c
    · obtain ⟨pre, post, e1, e2, e3⟩ := indexByte_split rest c (by omega)
      have hw5 : IntKind.i64.wrap ((pre.length : Int) + 0) = (pre.length : Int) := wrap_i64 (by omega) (by have := congrArg List.length e1; simp at this; omega)
      simp [hlt]
      refine callK.of (sidx1_calls rest c _) ?_
      rintro v σ2 ⟨rfl, rfl⟩
      rw [e3]
      have hpl : pre.length + (post.length + 1) = rest.length := by rw [e1]; simp
      have hk := aSlice_to (P := Tryz.prog) (t := 9) (by simp) (by simp) rest pre.length (pre.length : Int) rfl (by omega)
      have hw6 : IntKind.i64.wrap ((pre.length : Int) + 1) = ((pre.length + 1 : Nat) : Int) := by rw [wrap_i64 (by omega) (by omega)]; omega
      have hw7 : IntKind.i64.wrap (pre.length : Int) = (pre.length : Int) := wrap_i64 (by omega) (by omega)
      have hk2 := aSlice_from (P := Tryz.prog) (t := 9) (by simp) (by simp) rest (pre.length + 1) ((pre.length + 1 : Nat) : Int) rfl (by omega)
      have e5 : rest.drop (pre.length + 1) = post := by rw [e1, ← List.drop_drop]; simp
      have e4 : rest.take pre.length = pre := by rw [e1]; simp
      rw [e5] at hk2
      rw [e4] at hk
      have hcr : pre.count c = 0 := List.count_eq_zero.2 e2
      have hcp : post.count c + 1 = rest.count c := by rw [e1, List.count_append, hcr, List.count_cons_self]; omega
      have hsp : splitL c rest = pre :: splitL c post := by rw [e1]; exact splitL_cut c post pre e2
      generalize hS : toB rest = S at *
      generalize hn : ((pre.length + 1 : Nat) : Int) = m at *
      have hpn : ¬ ((pre.length : Int) < 0) := by omega
      simp [-e_aSlice_1, -e_aSlice_2, -e_setRange_1, -e_setRange_2, hs1, hw6, hw7, hk, hk2, hset, hln, hdw, hpn, hdN]
      refine ⟨by omega, done ++ [pre], post, ⟨by rw [← h1, hsp]; simp, by simp; omega, by omega⟩, by simp; omega, ⟨AV.le_refl _, by simp⟩, ?_⟩
      simp only [List.length_append, List.length_cons, List.length_nil]
      exact Store.sub_refl _
    · have hd1 : done.length + 1 = N := by omega
      have hc0 : c ∉ rest := List.count_eq_zero.1 (by omega)
      have hfin : splitL c l = done ++ [rest] := by rw [← h1, splitL_none c rest hc0]
      rw [hd1] at hdw hset
      have hg1 : ¬ N = 0 := by omega
      simp [-e_setRange_1, -e_setRange_2, hlt, hset, hln, hdN, hdw, hg1]
      rw [← hfin]
      refine ⟨by omega, _, AV.le_refl _, _, Store.sub_refl _, p, hp, ?_, rfl⟩
      rw [hNN]; rfl
  · rintro v σ' ⟨p, hp, rfl, rfl⟩
    refine .inr ⟨p, (splitL c l).length, 1, strsA (splitL c l), [], by simp, by simp [flat_strs], by simp [flat_strs], ?_, by simp, by simp [strsA], _, AV.le_refl _, rfl, ?_⟩
    · rw [splitL_len]; have := l.count_le_length (a := c); unfold maxLen; omega
    · rw [del_upd_new hp]
set_option maxRecDepth 8000 in
theorem split_calls (l : List UInt8) (hl : l.length ≤ 1000000000) (c : UInt8) (σ : Store) :
    ACalls Tryz.prog 40 [.lit (.string (toB l)), .lit (.string ⟨#[c]⟩)] σ fun v σ' => v = .list true 1 (strsA (splitL c l)) ∧ σ' = σ := by
  refine ACalls.of_awp follows (st := st40) (plans := pl40) (n := 8) Tryz.func40 rfl (by kernel_rfl) (by kernel_rfl) (by kernel_rfl) ?_
  simp
  refine callK.of (gsplit_calls l hl c σ) ?_
  rintro v σ' ⟨rfl, rfl⟩
  simp
end Go.Proofs.YtheldoijfnigoaaGreatDoor
/-
  Pairs of letters; bytes that are told by them.
-/
namespace Go.Proofs.YtheldoijfnigoaaGreatDoor
open Go Go.AL

/-- A list in pairs; the last one may be alone. -/
def chunksL : List UInt8 → List (List UInt8)
  | [] => []
  | [a] => [[a]]
  | a :: b :: l => [a, b] :: chunksL l
theorem chunksL_at : ∀ (l : List UInt8) (k : Nat), 2 * k < l.length → (chunksL l)[k]? = some ((l.drop (2 * k)).take 2)
  | [], k, h => by simp at h
  | [a], k, h => by
    have : k = 0 := by simp at h; omega
    subst this; rfl
  | a :: b :: l, 0, _ => rfl
  | a :: b :: l, k + 1, h => by
    have h' : 2 * k < l.length := by simp at h; omega
    have := chunksL_at l k h'
    rw [show 2 * (k + 1) = 2 * k + 2 by omega]
    simpa [chunksL] using this
theorem chunksL_len : ∀ l : List UInt8, (chunksL l).length = (l.length + 1) / 2
  | [] => rfl
  | [a] => by simp [chunksL]
  | a :: b :: l => by simp only [chunksL, List.length_cons, chunksL_len l]; omega

variable [Errs]
set_option linter.unusedSectionVars false
theorem bytesA_take (l : List UInt8) (n : Nat) : (bytesA l).take n = bytesA (l.take n) := by simp [bytesA]
theorem bytesA_drop (l : List UInt8) (n : Nat) : (bytesA l).drop n = bytesA (l.drop n) := by simp [bytesA]
@[simp] def st41x : List Nat := [5000002, 5000003]
set_option maxRecDepth 8000 in
theorem chunk_calls (o : Bool) (l : List UInt8) (σ : Store) :
    ACalls Tryz.prog 38 [.list o 1 (bytesA l), .lit (.int .i64 2)] σ fun v σ' => v = .func (.func 57) [] [.fptr [.list false 1 (bytesA l)], .fptr [.lit (.int .i64 2)]] ∧ σ' = σ := by
  refine ACalls.of_awp follows (st := st41x) (plans := pl38) (n := 9) Tryz.func38 rfl (by kernel_rfl) (by kernel_rfl) (by kernel_rfl) ?_
  simp
set_option maxRecDepth 8000 in
set_option maxHeartbeats 1000000 in
theorem chunk_iter (p : List UInt8) (hp : p.length ≤ 100000) (σ : Store) :
    Iter Tryz.prog 57 [.fptr [.list false 1 (bytesA p)], .fptr [.lit (.int .i64 2)]] σ ((chunksL p).map fun c => [.list false 1 (bytesA c)]) := by
  intro X l I J hy τ E h0 hs
  have hcl := chunksL_len p
  have hy' : ∀ (k : Nat) (h : 2 * k < p.length) (τ : Store) (E : Env X), I k τ E → AYields Tryz.prog l [.list false 1 (bytesA ((p.drop (2 * k)).take 2))] τ E fun b τ' E' => if b = true then I (k + 1) τ' E' else J τ' E' := by
    intro k h τ E hI
    have hk : k < (chunksL p).length := by omega
    have := hy k (by simpa using hk) τ E hI
    have e := chunksL_at p k h
    rw [List.getElem?_eq_getElem hk, Option.some.injEq] at e
    rwa [List.getElem_map, e] at this
  refine ACallsY.of_awp follows (st := st57) (plans := pl57) (n := 31) Tryz.func57 rfl (by kernel_rfl) (by kernel_rfl) (by kernel_rfl) ?_
  simp
  refine codeYK.loop follows (st := st57) (plans := pl57) (S := Nat × Store) (fun x => x.1 ≤ (chunksL p).length)
    (fun x => [(0, .func (.yield l) [] []), (1, .fptr [.list false 1 (bytesA p)]), (2, .fptr [.lit (.int .i64 2)]), (4, .lit (.int .i64 ((2 * x.1 : Nat) : Int)))]) (fun x => x.2) (fun x E => I x.1 x.2 E) (fun x => (chunksL p).length - x.1) (0, τ) (by kernel_rfl) (by simp) (by simp) hs h0 ?_
  rintro ⟨k, τ1⟩ E1 hk hI
  dsimp only at hk hI ⊢
  obtain ⟨i, hi⟩ : ∃ i, 2 * k = i := ⟨_, rfl⟩
  rw [hi]
  by_cases hlt : i < p.length
  · have hyk := hy' k (by omega) τ1 E1 hI
    rw [hi] at hyk
    have hlt' : (i : Int) < p.length := by omega
    have hfull : (bytesA p).take p.length = bytesA p := List.take_of_length_le (by simp)
    have hle : i ≤ p.length := by omega
    obtain ⟨r, hr⟩ : ∃ r, p.length - i = r := ⟨_, rfl⟩
    have hrl : (bytesA (p.drop i)).length = r := by simp [hr]
    have hrl2 : (p.drop i).length = r := by simp [hr]
    obtain ⟨j, hj⟩ : ∃ j, i + min r 2 = j := ⟨_, rfl⟩
    have hw : IntKind.i64.wrap ((i : Int) + if (r : Int) < 2 then (r : Int) else 2) = (j : Int) := by
      have : ((i : Int) + if (r : Int) < 2 then (r : Int) else 2) = (j : Int) := by split <;> omega
      rw [this, wrap_i64 (by omega) (by omega)]
    have hij : i ≤ j := by omega
    have hjl : j ≤ p.length := by omega
    have hdt : List.drop i (List.take j (bytesA p)) = bytesA ((p.drop i).take 2) := by
      rw [bytesA_take, bytesA_drop, List.drop_take]
      congr 1
      rw [show j - i = min r 2 by omega]
      rcases Nat.le_total r 2 with h | h
      · rw [Nat.min_eq_left h, List.take_of_length_le (by omega), List.take_of_length_le (by omega)]
      · rw [Nat.min_eq_right h]
    have hw2 : IntKind.i64.wrap ((i : Int) + 2) = ((2 * (k + 1) : Nat) : Int) := by rw [wrap_i64 (by omega) (by omega)]; omega
    simp [hlt, hlt', hfull, hle, bytesA_drop, hrl, hrl2, hr, hw, hij, hjl, hdt]
    refine yieldK.of (by simp) hyk (Store.sub_refl _) ?_
    intro b2 τ' E' hR hap
    cases b2
    · simp
      exact ⟨⟨_, AV.le_refl _⟩, _, Store.sub_over _ _ _, τ', Store.sub_refl _, .inr (by simpa using hR)⟩
    · simp
      refine ⟨k + 1, by omega, by omega, ?_, τ', Store.sub_over _ _ _, by simpa using hR⟩
      rw [hw2]; exact AV.le_refl _
  · obtain rfl : k = (chunksL p).length := by omega
    simp [hlt]
    exact ⟨⟨_, AV.le_refl _⟩, _, Store.sub_refl _, τ1, Store.sub_refl _, .inl hI⟩
end Go.Proofs.YtheldoijfnigoaaGreatDoor
