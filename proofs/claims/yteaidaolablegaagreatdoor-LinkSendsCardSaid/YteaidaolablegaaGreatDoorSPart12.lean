/-
  Names, bytes within bytes.
-/
import Derived.Test.YteaidaolablegaaGreatDoorSPart11
set_option linter.unusedSimpArgs false
set_option linter.unusedVariables false
namespace Go.Proofs.YteaidaolablegaaGreatDoor
open Go Go.AL

theorem byteA_lit (b : UInt8) : byteA b = .lit (.int .u8 (b.toNat : Int)) := rfl
/-- A string of these bytes. -/
abbrev strS (l : List UInt8) : AV := .lit (.string ⟨l.toArray⟩)
theorem bytesV_mk (l : List UInt8) : bytesV ⟨l.toArray⟩ = bytesA l := by simp [bytesV, bytesA, byteA]
theorem ixByte_mem (l : List UInt8) (c : UInt8) : (Lib.indexByte l c < 0 ↔ c ∉ l) ∧ (c ∉ l → Lib.indexByte l c = -1) := by
  induction l with
  | nil => simp [Lib.indexByte]
  | cons b l ih =>
    have hge := Lib.indexByte_ge l c
    unfold Lib.indexByte
    by_cases hb : b = c
    · subst hb; simp
    · have hbc : (b == c) = false := by simpa using hb
      have hcb : ¬ c = b := fun e => hb e.symm
      rw [hbc]
      simp only [Bool.false_eq_true, if_false, List.mem_cons, hcb, false_or]
      by_cases hm : Lib.indexByte l c = -1
      · rw [if_pos (by rw [hm]; rfl)]
        have : c ∉ l := ih.1.1 (by omega)
        exact ⟨⟨fun _ => this, fun _ => by omega⟩, fun _ => rfl⟩
      · rw [if_neg (by simpa using hm)]
        have : ¬ c ∉ l := fun h => hm (ih.2 h)
        exact ⟨⟨fun h => by omega, fun h => absurd h this⟩, fun h => absurd h this⟩
@[simp] theorem callable84 : callable Tryz.prog 84 = false := nr (by kernel_rfl)
set_option maxRecDepth 8000 in
theorem ext84 (o : Bool) (l : List UInt8) (c : UInt8) (σ : Store) : AExt Tryz.prog 84 [.list o 1 (bytesA l), byteA c] σ fun v σ' => v = .lit (.int .i64 (Lib.indexByte l c)) ∧ σ' = σ :=
  ext_indexByte Tryz.func84 (by kernel_rfl) (by kernel_rfl) (by kernel_rfl) (by kernel_rfl) o l c σ
set_option maxRecDepth 8000 in
theorem indexByte_calls (o : Bool) (l : List UInt8) (c : UInt8) (σ : Store) :
    ACalls Tryz.prog 64 [.list o 1 (bytesA l), byteA c] σ fun v σ' => v = .lit (.int .i64 (Lib.indexByte l c)) ∧ σ' = σ := by
  refine ACalls.of_awp follows (st := st64) (plans := pl64) (n := 8) Tryz.func64 rfl (by kernel_rfl) (by kernel_rfl) (by kernel_rfl) ?_
  simp [byteA]
  refine extK.of (ext84 false l c σ) ?_
  rintro v σ' ⟨rfl, rfl⟩
  simp
set_option maxRecDepth 10000 in
theorem index_calls (o o' : Bool) (l : List UInt8) (c : UInt8) (σ : Store) :
    ACalls Tryz.prog 104 [.list o 1 (bytesA l), .list o' 1 (bytesA [c])] σ fun v σ' => v = .lit (.int .i64 (Lib.indexByte l c)) ∧ σ' = σ := by
  refine ACalls.of_awp follows (st := st104) (plans := pl104) (n := 200) Tryz.func104 rfl (by kernel_rfl) (by kernel_rfl) (by kernel_rfl) ?_
  simp [bytesA, byteA]
  refine callK.of (indexByte_calls false l c σ) ?_
  rintro v σ' ⟨rfl, rfl⟩
  simp
/-- What stands ahead of a byte, and behind it. -/
def cutF (l : List UInt8) (c : UInt8) : List UInt8 × List UInt8 × Bool := if c ∈ l then (l.takeWhile (· != c), (l.dropWhile (· != c)).tail, true) else (l, [], false)
theorem cutF_split {pre post : List UInt8} {c : UInt8} (h : c ∉ pre) : cutF (pre ++ c :: post) c = (pre, post, true) := by
  have h1 : ∀ x ∈ pre, (x != c) = true := fun x hx => by
    have : x ≠ c := fun e => h (e ▸ hx)
    simpa using this
  have e1 : (pre ++ c :: post).takeWhile (· != c) = pre := by
    rw [List.takeWhile_append_of_pos h1]; simp
  have e2 : (pre ++ c :: post).dropWhile (· != c) = c :: post := by
    rw [List.dropWhile_append_of_pos h1]; simp
  unfold cutF
  rw [if_pos (by simp), e1, e2]; rfl
set_option maxRecDepth 8000 in
theorem bcut_calls (o o' : Bool) (l : List UInt8) (c : UInt8) (hl : l.length ≤ 1000000) (σ : Store) :
    ACalls Tryz.prog 131 [.list o 1 (bytesA l), .list o' 1 (bytesA [c])] σ fun v σ' => v = .tuple [.list false 1 (bytesA (cutF l c).1), .list false 1 (bytesA (cutF l c).2.1), .lit (.bool (cutF l c).2.2)] ∧ σ' = σ := by
  have hix := fun τ => index_calls false false l c τ
  refine ACalls.of_awp follows (st := st131) (plans := pl131) (n := 23) Tryz.func131 rfl (by kernel_rfl) (by kernel_rfl) (by kernel_rfl) ?_
  by_cases hm : c ∈ l
  · obtain ⟨pre, post, rfl, h2, h3⟩ := indexByte_split l c (List.count_pos_iff.2 hm)
    rw [cutF_split h2]
    rw [h3] at hix
    have ht : (bytesA (pre ++ c :: post)).take pre.length = bytesA pre := by rw [bytesA_take]; simp
    have hd : (bytesA (pre ++ c :: post)).drop (pre.length + 1) = bytesA post := by
      rw [bytesA_drop]; simp
    have hw : IntKind.i64.wrap ((pre.length : Int) + 1) = ((pre.length + 1 : Nat) : Int) := wrap_i64 (by simp at hl; omega) (by simp at hl; omega)
    have hc1 : bytesA [c] = [byteA c] := rfl
    have hln : (bytesA (pre ++ c :: post)).length = pre.length + (post.length + 1) := by simp
    have hle : pre.length ≤ (bytesA (pre ++ c :: post)).length := by omega
    have hle2 : pre.length + 1 ≤ (bytesA (pre ++ c :: post)).length := by omega
    have hl1 : (bytesA [c]).length = 1 := rfl
    have hp : (0 : Int) ≤ (pre.length : Int) + 1 := by omega
    generalize bytesA (pre ++ c :: post) = L at *
    simp
    refine callK.of (hix _) ?_
    rintro v σ' ⟨rfl, rfl⟩
    simp [hl1, hw, hle, hle2, ht, hd, hp]
  · have hno := (ixByte_mem l c).2 hm
    rw [hno] at hix
    have hcf : cutF l c = (l, [], false) := if_neg hm
    rw [hcf]
    simp
    refine callK.of (hix _) ?_
    rintro v σ' ⟨rfl, rfl⟩
    simp [bytesA]
    exact AV.le_tuple ⟨AV.le1_list _ _ _, AV.le1_list _ _ _, AV.le1_refl _, trivial⟩
/-- Is it a name? -/
def okN (b : UInt8) : Bool := decide (33 ≤ b.toNat) && decide (b.toNat ≤ 126)
def nameS (l : List UInt8) : Bool := l.all okN && !l.isEmpty && decide (l.length ≤ 40)
set_option maxRecDepth 8000 in
theorem str_size (l : List UInt8) : (ByteArray.mk l.toArray).size = l.length := by simp [ByteArray.size]
set_option maxRecDepth 8000 in
theorem name_calls (l : List UInt8) (hl : l.length ≤ 1000000) (σ : Store) : ACalls Tryz.prog 72 [strS l] σ fun v σ' => v = .lit (.bool (nameS l)) ∧ σ' = σ := by
  have hsz := str_size l
  refine ACalls.of_awp follows (st := st72) (plans := pl72) (n := 27) Tryz.func72 rfl (by kernel_rfl) (by kernel_rfl) (by kernel_rfl) ?_
  simp [hsz]
  refine codeK.loop follows (st := st72) (plans := pl72) (X := Nat) (fun i => i ≤ l.length ∧ ∀ j (hj : j < l.length), j < i → okN l[j] = true)
    (fun i => [(0, strS l), (5, .lit (.int .i64 l.length)), (6, .lit (.int .i64 i))]) (fun _ => σ) (fun i => l.length - i) 0 (by kernel_rfl) (by simp) (by simp) (Store.sub_refl _) fun i hi => ?_
  obtain ⟨hi, hk⟩ := hi
  by_cases hlt : i < l.length
  · have hw : IntKind.i64.wrap ((i : Int) + 1) = ((i + 1 : Nat) : Int) := wrap_i64 (by omega) (by omega)
    have hg : l[i]? = some l[i] := List.getElem?_eq_getElem hlt
    have hlt' : (i : Int) < l.length := by omega
    have hnx : okN l[i] = true → ∀ j (hj : j < l.length), j < i + 1 → okN l[j] = true := fun h j hj hji => by
      by_cases e : j = i
      · subst e; exact h
      · exact hk j hj (by omega)
    have hno : okN l[i] = false → nameS l = false := fun h => by
      have : l.all okN = false := by rw [List.all_eq_false]; exact ⟨_, List.getElem_mem hlt, by simp [h]⟩
      simp [nameS, this]
    obtain ⟨b, hb⟩ : ∃ b, l[i] = b := ⟨_, rfl⟩
    have hgg : ∀ h : i < l.length, l[i]'h = b := fun _ => hb
    rw [hb] at hnx hno
    by_cases h1 : (b.toNat : Int) < 33
    · have := hno (by unfold okN; simp; omega)
      simp [hlt, hlt', hgg, h1, this]
    · have h1' : (33 : Int) ≤ (b.toNat : Int) := by omega
      by_cases h2 : (126 : Int) < (b.toNat : Int)
      · have := hno (by unfold okN; simp; omega)
        simp [hlt, hlt', hgg, h1, h1', h2, this]
      · have h2' : (b.toNat : Int) ≤ 126 := by omega
        have := hnx (by unfold okN; simp; omega)
        simp [hlt, hlt', hgg, h1, h1', h2, h2']
        exact ⟨i + 1, ⟨by omega, this⟩, by omega, by rw [hw]; exact AV.le_refl _⟩
  · obtain rfl : i = l.length := by omega
    have hall : l.all okN = true := by
      rw [List.all_eq_true]
      intro x hx
      obtain ⟨j, hj, rfl⟩ := List.getElem_of_mem hx
      exact hk j hj hj
    by_cases hnil : l = []
    · subst hnil; simp [nameS]
    · have he : l.isEmpty = false := by simpa using hnil
      have h40 : decide ((l.length : Int) ≤ 40) = decide (l.length ≤ 40) := by rw [decide_eq_decide]; omega
      have hnm : nameS l = decide (l.length ≤ 40) := by simp [nameS, hall, he]
      rw [hnm]
      simp [hnil, hsz, h40]
end Go.Proofs.YteaidaolablegaaGreatDoor
/-
  A device's answer; lists in which each byte comes once, lists that rise.
-/
namespace Go.Proofs.YteaidaolablegaaGreatDoor
open Go Go.AL

/-- Rising, of bytes that are no greater than 4. -/
def sortL (l : List UInt8) : List UInt8 := [0, 1, 2, 3, 4].filter fun f => decide (f ∈ l)
def gotF (l : List UInt8) : List UInt8 × Bool := ((cutF l 1).2.1, (cutF l 1).2.2 && nameS (cutF l 1).1 && nameS (cutF l 1).2.1)
theorem cutF_len (l : List UInt8) (c : UInt8) : (cutF l c).1.length ≤ l.length ∧ (cutF l c).2.1.length ≤ l.length := by
  unfold cutF
  split
  · have h1 := (List.takeWhile_sublist (l := l) (· != c)).length_le
    have h2 := (List.dropWhile_sublist (l := l) (· != c)).length_le
    simp only [List.length_tail]
    omega
  · simp
set_option maxRecDepth 8000 in
theorem got_calls (o : Bool) (l : List UInt8) (hl : l.length ≤ 1000000) (σ : Store) : ACalls Tryz.prog 124 [.list o 1 (bytesA l)] σ fun v σ' => v = .tuple [strS (gotF l).1, .lit (.bool (gotF l).2)] ∧ σ' = σ := by
  have hcu := fun τ => bcut_calls false true l 1 hl τ
  obtain ⟨k1, k2⟩ := cutF_len l 1
  have hb1 : bytesA [1] = [.lit (.int .u8 1)] := rfl
  have hn1 := fun τ => name_calls (cutF l 1).1 (by omega) τ
  have hn2 := fun τ => name_calls (cutF l 1).2.1 (by omega) τ
  unfold gotF
  generalize cutF l 1 = C at *
  obtain ⟨a, b, ok⟩ := C
  dsimp only at *
  rw [hb1] at hcu
  have ha := bytesOf_bytesA a
  have hb := bytesOf_bytesA b
  refine ACalls.of_awp follows (st := st124) (plans := pl124) (n := 27) Tryz.func124 rfl (by kernel_rfl) (by kernel_rfl) (by kernel_rfl) ?_
  simp
  refine callK.of (hcu _) ?_
  rintro v σ' ⟨rfl, rfl⟩
  cases ok
  · simp [ha, hb]
  · simp [ha, hb]
    refine callK.of (hn1 _) ?_
    rintro v σ' ⟨rfl, rfl⟩
    cases h1 : nameS a
    · simp [hb]
    · simp [hb]
      refine callK.of (hn2 _) ?_
      rintro v σ' ⟨rfl, rfl⟩
      simp
set_option maxRecDepth 8000 in
theorem once_calls (o : Bool) (l : List UInt8) (hl : l.length ≤ 1000000) (σ : Store) : ACalls Tryz.prog 126 [.list o 1 (bytesA l)] σ fun v σ' => v = .lit (.bool (decide l.Nodup)) ∧ σ' = σ := by
  refine ACalls.of_awp follows (st := st126) (plans := pl126) (n := 19) Tryz.func126 rfl (by kernel_rfl) (by kernel_rfl) (by kernel_rfl) ?_
  simp
  refine codeK.loop follows (st := st126) (plans := pl126) (X := Nat) (fun i => i ≤ l.length ∧ (l.take i).Nodup)
    (fun i => [(0, .list false 1 (bytesA l)), (5, .list false 1 (bytesA l)), (6, .lit (.int .i64 l.length)), (7, .lit (.int .i64 i))]) (fun _ => σ) (fun i => l.length - i) 0 (by kernel_rfl) (by simp) (by simp) (Store.sub_refl _) fun i hi => ?_
  obtain ⟨hi, hk⟩ := hi
  by_cases hlt : i < l.length
  · have hw : IntKind.i64.wrap ((i : Int) + 1) = ((i + 1 : Nat) : Int) := wrap_i64 (by omega) (by omega)
    have hlt' : (i : Int) < l.length := by omega
    obtain ⟨b, hb⟩ : ∃ b, l[i] = b := ⟨_, rfl⟩
    have hg : ∀ h : i < (bytesA l).length, (bytesA l)[i]'h = .lit (.int .u8 b.toNat) := fun h => by
      rw [List.getElem_eq_iff, bytesA_get, List.getElem?_eq_getElem hlt, hb]; rfl
    have ht : (bytesA l).take i = bytesA (l.take i) := bytesA_take l i
    have hix := fun τ => indexByte_calls false (l.take i) b τ
    obtain ⟨h1, h2⟩ := ixByte_mem (l.take i) b
    have hts := List.take_succ_eq_append_getElem hlt
    rw [hb] at hts
    have hyes : b ∉ l.take i → (l.take (i + 1)).Nodup := fun h => by
      rw [hts, List.nodup_append]
      exact ⟨hk, by simp, fun x hx y hy => by simp at hy; rintro rfl; subst hy; exact h hx⟩
    have hno : b ∈ l.take i → ¬ l.Nodup := fun h hn => by
      have hn2 : (l.take (i + 1)).Nodup := hn.sublist (List.take_sublist _ _)
      rw [hts, List.nodup_append] at hn2
      exact hn2.2.2 b h b (by simp) rfl
    simp [hlt, hlt', hg, ht, hi]
    refine callK.of (hix _) ?_
    rintro v σ' ⟨rfl, rfl⟩
    by_cases hm : b ∈ l.take i
    · have h3 : ¬ Lib.indexByte (l.take i) b < 0 := fun h => h1.1 h hm
      have h4 : 0 ≤ Lib.indexByte (l.take i) b := by omega
      simp [h4, hno hm]
    · have h3 := h2 hm
      simp [h3]
      exact ⟨i + 1, ⟨by omega, hyes hm⟩, by omega, by rw [hw]; exact AV.le_refl _⟩
  · obtain rfl : i = l.length := by omega
    rw [List.take_length] at hk
    simp [hk]
/-- Does a list rise, and is each a function? -/
def riseAt (l : List UInt8) (i : Nat) : Prop := (l[i]?.getD 0).toNat ≤ 4 ∧ (0 < i → (l[i - 1]?.getD 0).toNat < (l[i]?.getD 0).toNat)
instance (l : List UInt8) (i : Nat) : Decidable (riseAt l i) := by unfold riseAt; infer_instance
def Rises (l : List UInt8) : Prop := ∀ i, i < l.length → riseAt l i
instance (l : List UInt8) : Decidable (Rises l) := by unfold Rises; infer_instance
set_option maxRecDepth 8000 in
theorem rises_calls (o : Bool) (l : List UInt8) (hl : l.length ≤ 1000000) (σ : Store) : ACalls Tryz.prog 73 [.list o 1 (bytesA l)] σ fun v σ' => v = .lit (.bool (decide (Rises l))) ∧ σ' = σ := by
  refine ACalls.of_awp follows (st := st73) (plans := pl73) (n := 28) Tryz.func73 rfl (by kernel_rfl) (by kernel_rfl) (by kernel_rfl) ?_
  simp
  refine codeK.loop follows (st := st73) (plans := pl73) (X := Nat) (fun i => i ≤ l.length ∧ ∀ j, j < i → riseAt l j)
    (fun i => [(0, .list false 1 (bytesA l)), (5, .list false 1 (bytesA l)), (6, .lit (.int .i64 l.length)), (7, .lit (.int .i64 i))]) (fun _ => σ) (fun i => l.length - i) 0 (by kernel_rfl) (by simp) (by simp) (Store.sub_refl _) fun i hi => ?_
  obtain ⟨hi, hk⟩ := hi
  by_cases hlt : i < l.length
  · have hw : IntKind.i64.wrap ((i : Int) + 1) = ((i + 1 : Nat) : Int) := wrap_i64 (by omega) (by omega)
    have hlt' : (i : Int) < l.length := by omega
    obtain ⟨b, hb⟩ : ∃ b, l[i]? = some b := ⟨_, List.getElem?_eq_getElem hlt⟩
    have hg : ∀ h : i < (bytesA l).length, (bytesA l)[i]'h = .lit (.int .u8 b.toNat) := fun h => by
      rw [List.getElem_eq_iff, bytesA_get, hb]; rfl
    have hat : riseAt l i ↔ b.toNat ≤ 4 ∧ (0 < i → (l[i - 1]?.getD 0).toNat < b.toNat) := by unfold riseAt; rw [hb]; rfl
    have hyes : riseAt l i → ∀ j, j < i + 1 → riseAt l j := fun h j hj => by
      by_cases e : j = i
      · subst e; exact h
      · exact hk j (by omega)
    have hno : ¬ riseAt l i → ¬ Rises l := fun h hr => h (hr i hlt)
    by_cases h4 : b.toNat ≤ 4
    · have h4' : ¬ (4 : Int) < (b.toNat : Int) := by omega
      by_cases h0 : i = 0
      · subst h0
        simp [hlt, hg, h4, h4']
        exact ⟨1, ⟨by omega, hyes (hat.2 ⟨h4, by omega⟩)⟩, by omega, by rw [show (1 : Int) = ((0 + 1 : Nat) : Int) from rfl]; exact AV.le_refl _⟩
      · have h0' : (0 : Int) < (i : Int) := by omega
        have hw2 : IntKind.i64.wrap ((i : Int) - 1) = ((i - 1 : Nat) : Int) := by rw [wrap_i64 (by omega) (by omega)]; omega
        obtain ⟨d, hd⟩ : ∃ d, l[i - 1]? = some d := ⟨_, List.getElem?_eq_getElem (by omega)⟩
        have hg2 : ∀ h : i - 1 < (bytesA l).length, (bytesA l)[i - 1]'h = .lit (.int .u8 d.toNat) := fun h => by
          rw [List.getElem_eq_iff, bytesA_get, hd]; rfl
        rw [hd] at hat
        have hil : i - 1 < l.length := by omega
        by_cases h5 : d.toNat < b.toNat
        · have h5' : ¬ (b.toNat : Int) ≤ (d.toNat : Int) := by omega
          simp [hlt, hlt', hg, h4, h4', h0', show 0 < i by omega, hw2, hg2, hil, h5']
          exact ⟨i + 1, ⟨by omega, hyes (hat.2 ⟨h4, fun _ => h5⟩)⟩, by omega, by rw [hw]; exact AV.le_refl _⟩
        · have h5' : (b.toNat : Int) ≤ (d.toNat : Int) := by omega
          have hn := hno fun h => h5 ((hat.1 h).2 (by omega))
          simp [hlt, hlt', hg, h4, h4', h0', show 0 < i by omega, hw2, hg2, hil, h5', hn]
    · have h4' : (4 : Int) < (b.toNat : Int) := by omega
      have hn := hno fun h => h4 (hat.1 h).1
      simp [hlt, hlt', hg, h4', show 4 < b.toNat by omega, hn]
  · obtain rfl : i = l.length := by omega
    have hr : Rises l := hk
    simp [hr]
end Go.Proofs.YteaidaolablegaaGreatDoor
/-
  The end: what it is, how far, what it got.
-/
namespace Go.Proofs.YteaidaolablegaaGreatDoor
open Go Go.AL

structure Ng where
  ty : List UInt8
  dev : List UInt8
  fns : List UInt8
  st : Nat := 0
  name : List UInt8 := []
  agreed : List UInt8 := []
def endO (e : Ng) (o1 o2 : Bool) : List AV := [strS e.ty, strS e.dev, .list o1 1 (bytesA e.fns), .lit (.int .i64 e.st), strS e.name, .list o2 1 (bytesA e.agreed)]
structure Small (e : Ng) : Prop where
  ty : e.ty.length ≤ 1000
  dev : e.dev.length ≤ 1000
  fns : e.fns.length ≤ 1000
  agreed : e.agreed.length ≤ 1000
/-- The end is so from now on. -/
def Up (σ : Store) (q : Nat) (e : Ng) (σ' : Store) : Prop := ∃ o1 o2, σ' = σ.upd q (endO e o1 o2)
def askB (e : Ng) : List UInt8 := 2 :: 7 :: e.ty ++ (if e.dev = [] then [] else 1 :: e.dev)
def Ng.asked (e : Ng) : Ng := { e with st := 1, name := [], agreed := [] }
def Ng.offered (e : Ng) : Ng := { e with st := 2, agreed := [] }
theorem str_nil (l : List UInt8) : ((ByteArray.mk l.toArray) == ⟨#[]⟩) = decide (l = []) := by
  cases l <;> rfl
set_option maxRecDepth 8000 in
theorem asks_calls (q : Nat) (e : Ng) (o1 o2 : Bool) (hs : Small e) (σ : Store) (h : σ q = some (endO e o1 o2)) :
    ACalls Tryz.prog 111 [ptrA q] σ fun v σ' => v = .list true 1 (bytesA (askB e)) ∧ Up σ q e.asked σ' := by
  obtain ⟨ty, dev, fns, st, name, agreed⟩ := e
  have h1 := hs.ty
  have h2 := hs.dev
  have hz1 := str_size ty
  have hz2 := str_size dev
  have hv1 := bytesV_mk ty
  have hv2 := bytesV_mk dev
  simp only at h1 h2
  unfold endO at h
  refine ACalls.of_awp follows (st := st111) (plans := pl111) (n := 36) Tryz.func111 rfl (by kernel_rfl) (by kernel_rfl) (by kernel_rfl) ?_
  simp [ptrA, h, hz1, hz2, hv1, hv2]
  refine ⟨by omega, by omega, ?_⟩
  by_cases hd : dev = []
  · subst hd
    simp
    exact ⟨_, AV.le_refl _, _, Store.sub_refl _, by simp [askB, bytesA, byteA_lit], o1, true, rfl⟩
  · simp [hd]
    refine ⟨by omega, by omega, by omega, by omega, _, AV.le_refl _, _, Store.sub_refl _, ?_, o1, true, rfl⟩
    simp [askB, hd, bytesA, byteA_lit]
set_option maxRecDepth 8000 in
theorem state_calls (q : Nat) (e : Ng) (o1 o2 : Bool) (σ : Store) (h : σ q = some (endO e o1 o2)) : ACalls Tryz.prog 27 [ptrA q] σ fun v σ' => v = .lit (.int .i64 e.st) ∧ σ' = σ := by
  unfold endO at h
  refine ACalls.of_awp follows (st := st27) (plans := pl27) (n := 9) Tryz.func27 rfl (by kernel_rfl) (by kernel_rfl) (by kernel_rfl) ?_
  simp [ptrA, h]
set_option maxRecDepth 8000 in
theorem ready_calls (q : Nat) (e : Ng) (o1 o2 : Bool) (σ : Store) (h : σ q = some (endO e o1 o2)) : ACalls Tryz.prog 37 [ptrA q] σ fun v σ' => v = .lit (.bool (decide (e.st = 3))) ∧ σ' = σ := by
  have hst := state_calls q e o1 o2 σ h
  unfold ptrA at hst
  have hd : ((e.st : Int) == 3) = decide (e.st = 3) := by rw [Bool.eq_iff_iff]; simp; omega
  refine ACalls.of_awp follows (st := st37) (plans := pl37) (n := 6) Tryz.func37 rfl (by kernel_rfl) (by kernel_rfl) (by kernel_rfl) ?_
  simp [ptrA]
  refine callK.of hst ?_
  rintro v σ' ⟨rfl, rfl⟩
  simp [hd]
set_option maxRecDepth 8000 in
theorem functions_calls (q : Nat) (e : Ng) (o1 o2 : Bool) (hs : Small e) (σ : Store) (h : σ q = some (endO e o1 o2)) :
    ACalls Tryz.prog 65 [ptrA q] σ fun v σ' => v = .list true 1 (bytesA (if e.st = 3 then e.agreed else [])) ∧ σ' = σ := by
  have hr := ready_calls q e o1 o2 σ h
  have hcl := fun τ => clone_calls false e.agreed τ (by have := hs.agreed; omega)
  unfold ptrA at hr
  unfold endO at h
  refine ACalls.of_awp follows (st := st65) (plans := pl65) (n := 11) Tryz.func65 rfl (by kernel_rfl) (by kernel_rfl) (by kernel_rfl) ?_
  simp [ptrA]
  refine callK.of hr ?_
  rintro v σ' ⟨rfl, rfl⟩
  by_cases h3 : e.st = 3
  · simp [h3, h]
    refine callK.of (hcl _) ?_
    rintro v σ' ⟨rfl, rfl⟩
    simp
  · simp [h3, bytesA]
def Ng.reset (e : Ng) : Ng := { e with st := 0, name := [], agreed := [] }
set_option maxRecDepth 8000 in
theorem reset_calls (q : Nat) (e : Ng) (o1 o2 : Bool) (σ : Store) (h : σ q = some (endO e o1 o2)) : ACalls Tryz.prog 94 [ptrA q] σ fun v σ' => v = .tuple [] ∧ Up σ q e.reset σ' := by
  unfold endO at h
  refine ACalls.of_awp follows (st := st94) (plans := pl94) (n := 13) Tryz.func94 rfl (by kernel_rfl) (by kernel_rfl) (by kernel_rfl) ?_
  simp [ptrA, h]
  exact ⟨_, AV.le_refl _, _, Store.sub_refl _, rfl, o1, true, rfl⟩
set_option maxRecDepth 8000 in
theorem offer_calls (q : Nat) (e : Ng) (o1 o2 o : Bool) (l : List UInt8) (hl : l.length ≤ 1000000) (σ : Store) (h : σ q = some (endO e o1 o2)) :
    ACalls Tryz.prog 125 [ptrA q, .list o 1 (bytesA l)] σ fun v σ' => v = .list true 1 (bytesA (3 :: 7 :: l)) ∧ Up σ q e.offered σ' := by
  unfold endO at h
  refine ACalls.of_awp follows (st := st125) (plans := pl125) (n := 14) Tryz.func125 rfl (by kernel_rfl) (by kernel_rfl) (by kernel_rfl) ?_
  simp [ptrA, h]
  exact ⟨by omega, by omega, _, AV.le_refl _, _, Store.sub_refl _, rfl, o1, true, rfl⟩
/-- A config that may be an end's: of what it is made. -/
def okC (e : Ng) : Prop := nameS e.ty = true ∧ (e.dev = [] ∨ nameS e.dev = true) ∧ Rises e.fns
instance (e : Ng) : Decidable (okC e) := by unfold okC; infer_instance
def confA (e : Ng) (o : Bool) : AV := .agg [strS e.ty, strS e.dev, .list o 1 (bytesA e.fns)]
def NewR (e : Ng) (σ : Store) (v : AV) (σ' : Store) : Prop :=
  (¬ okC e ∧ (∃ k : Nat, k ≠ 0 ∧ v = .tuple [.lit (.pointer none), .lit (.int .i64 k)]) ∧ σ' = σ) ∨
  (okC e ∧ ∃ q : Nat, σ q = none ∧ v = .tuple [ptrA q, .lit (.int .i64 0)] ∧ Up σ q { ty := e.ty, dev := e.dev, fns := e.fns } σ')
set_option maxRecDepth 8000 in
theorem nnew_calls (e : Ng) (o : Bool) (hs : Small e) (σ : Store) : ACalls Tryz.prog 54 [confA e o] σ (NewR e σ) := by
  obtain ⟨ty, dev, fns, st, name, agreed⟩ := e
  have h1 := hs.ty
  have h2 := hs.dev
  have h3 := hs.fns
  simp only at h1 h2 h3
  have n1 := fun τ => name_calls ty (by omega) τ
  have n2 := fun τ => name_calls dev (by omega) τ
  have nr := fun τ => rises_calls false fns (by omega) τ
  have ncl := fun τ => clone_calls false fns τ (by omega)
  have hz2 := str_nil dev
  have hoc : okC ⟨ty, dev, fns, st, name, agreed⟩ ↔ nameS ty = true ∧ (dev = [] ∨ nameS dev = true) ∧ Rises fns := Iff.rfl
  unfold confA
  refine ACalls.of_awp follows (st := st54) (plans := pl54) (n := 32) Tryz.func54 rfl (by kernel_rfl) (by kernel_rfl) (by kernel_rfl) ?_
  simp
  intro p hp
  refine callK.of (n1 _) ?_
  rintro v σ' ⟨rfl, rfl⟩
  cases e1 : nameS ty
  · simp
    exact ⟨_, AV.le_refl _, _, sub_upd_self _ _ _ hp, .inl ⟨fun h => by rw [hoc, e1] at h; simp at h, ⟨4, by decide, rfl⟩, rfl⟩⟩
  · by_cases hd : dev = []
    · simp [hd]
      refine callK.of (nr _) ?_
      rintro v σ' ⟨rfl, rfl⟩
      by_cases hr : Rises fns
      · simp [hr]
        refine callK.of (ncl _) ?_
        rintro v σ' ⟨rfl, rfl⟩
        simp
        intro r hr0
        rw [ite_none] at hr0
        refine ⟨_, AV.le_refl _, _, ?_, .inr ⟨⟨e1, .inl rfl, hr⟩, r, hr0.2, rfl, false, true, rfl⟩⟩
        unfold endO
        (intro q; simp only [Store.upd, Store.del]; (repeat' split) <;> first | exact Or.inr rfl | exact Or.inl rfl | (exfalso; omega) | (left; subst_vars; assumption) | simp_all)
      · simp [hr]
        exact ⟨_, AV.le_refl _, _, sub_upd_self _ _ _ hp, .inl ⟨fun h => hr h.2.2, ⟨1, by decide, rfl⟩, rfl⟩⟩
    · simp [hd]
      refine callK.of (n2 _) ?_
      rintro v σ' ⟨rfl, rfl⟩
      cases e2 : nameS dev
      · simp [hd]
        exact ⟨_, AV.le_refl _, _, sub_upd_self _ _ _ hp, .inl ⟨fun h => by rw [hoc, e2] at h; simp [hd] at h, ⟨4, by decide, rfl⟩, rfl⟩⟩
      · simp [hd]
        refine callK.of (nr _) ?_
        rintro v σ' ⟨rfl, rfl⟩
        by_cases hr : Rises fns
        · simp [hr]
          refine callK.of (ncl _) ?_
          rintro v σ' ⟨rfl, rfl⟩
          simp
          intro r hr0
          rw [ite_none] at hr0
          refine ⟨_, AV.le_refl _, _, ?_, .inr ⟨⟨e1, .inr e2, hr⟩, r, hr0.2, rfl, false, true, rfl⟩⟩
          unfold endO
          (intro q; simp only [Store.upd, Store.del]; (repeat' split) <;> first | exact Or.inr rfl | exact Or.inl rfl | (exfalso; omega) | (left; subst_vars; assumption) | simp_all)
        · simp [hr]
          exact ⟨_, AV.le_refl _, _, sub_upd_self _ _ _ hp, .inl ⟨fun h => hr h.2.2, ⟨1, by decide, rfl⟩, rfl⟩⟩
end Go.Proofs.YteaidaolablegaaGreatDoor
/-
  Are all of a list its own?
-/
namespace Go.Proofs.YteaidaolablegaaGreatDoor
open Go Go.AL

set_option maxRecDepth 8000 in
theorem own1_calls (q b : Nat) (e : Ng) (o1 o2 : Bool) (c : UInt8) (σ : Store) (h : σ q = some (endO e o1 o2)) (hb : σ b = some [ptrA q]) :
    ACalls Tryz.prog 133 [byteA c, ptrA b] σ fun v σ' => v = .lit (.bool (decide (c ∉ e.fns))) ∧ σ' = σ := by
  have hix := fun τ => indexByte_calls false e.fns c τ
  obtain ⟨h1, h2⟩ := ixByte_mem e.fns c
  unfold endO at h
  unfold ptrA at hb
  refine ACalls.of_awp follows (st := st133) (plans := pl133) (n := 12) Tryz.func133 rfl (by kernel_rfl) (by kernel_rfl) (by kernel_rfl) ?_
  simp [ptrA, h, hb]
  refine callK.of (hix _) ?_
  rintro v σ' ⟨rfl, rfl⟩
  by_cases hm : c ∈ e.fns
  · have h3 : ¬ Lib.indexByte e.fns c < 0 := fun h => h1.1 h hm
    simp [h3, hm]
  · have h3 := h2 hm
    simp [h3, hm]
def ownS (e : Ng) (l : List UInt8) : Bool := l.all fun c => decide (c ∈ e.fns)
set_option maxRecDepth 8000 in
theorem ixf_calls (q b : Nat) (e : Ng) (o1 o2 o : Bool) (l : List UInt8) (hl : l.length ≤ 1000000) (σ : Store) (h : σ q = some (endO e o1 o2)) (hb : σ b = some [ptrA q]) :
    ACalls Tryz.prog 136 [.list o 1 (bytesA l), .func (.func 133) [] [ptrA b]] σ fun v σ' => ∃ n : Int, v = .lit (.int .i64 n) ∧ (n < 0 ↔ ownS e l = true) ∧ σ' = σ := by
  have ho := fun c => own1_calls q b e o1 o2 c σ h hb
  refine ACalls.of_awp follows (st := st136) (plans := pl136) (n := 19) Tryz.func136 rfl (by kernel_rfl) (by kernel_rfl) (by kernel_rfl) ?_
  simp
  refine codeK.loop follows (st := st136) (plans := pl136) (X := Nat) (fun i => i ≤ l.length ∧ ∀ j (hj : j < l.length), j < i → l[j] ∈ e.fns)
    (fun i => [(0, .list false 1 (bytesA l)), (1, .func (.func 133) [] [ptrA b]), (6, .list false 1 (bytesA l)), (7, .lit (.int .i64 l.length)), (8, .lit (.int .i64 i))]) (fun _ => σ) (fun i => l.length - i) 0 (by kernel_rfl) (by simp) (by simp) (Store.sub_refl _) fun i hi => ?_
  obtain ⟨hi, hk⟩ := hi
  by_cases hlt : i < l.length
  · have hw : IntKind.i64.wrap ((i : Int) + 1) = ((i + 1 : Nat) : Int) := wrap_i64 (by omega) (by omega)
    have hlt' : (i : Int) < l.length := by omega
    obtain ⟨c, hc⟩ : ∃ c, l[i] = c := ⟨_, rfl⟩
    have hg : ∀ h : i < (bytesA l).length, (bytesA l)[i]'h = .lit (.int .u8 c.toNat) := fun h => by
      rw [List.getElem_eq_iff, bytesA_get, List.getElem?_eq_getElem hlt, hc]; rfl
    have hnx : c ∈ e.fns → ∀ j (hj : j < l.length), j < i + 1 → l[j] ∈ e.fns := fun hm j hj hji => by
      by_cases ej : j = i
      · subst ej; rw [hc]; exact hm
      · exact hk j hj (by omega)
    have hno : c ∉ e.fns → ¬ ownS e l = true := fun hm ha => hm (by
      have := List.all_eq_true.1 ha c (hc ▸ List.getElem_mem hlt)
      simpa using this)
    have hoc := ho c
    unfold ptrA at hoc
    rw [byteA_lit] at hoc
    simp [hlt, hlt', hg, ptrA]
    refine callK.of hoc ?_
    rintro v σ' ⟨rfl, rfl⟩
    by_cases hm : c ∈ e.fns
    · simp [hm]
      exact ⟨i + 1, ⟨by omega, hnx hm⟩, by omega, by rw [hw]; exact AV.le_refl _⟩
    · simp [hm]
      exact ⟨_, AV.le_refl _, _, Store.sub_refl _, i, rfl, ⟨fun h => by omega, fun h => absurd h (hno hm)⟩, rfl⟩
  · obtain rfl : i = l.length := by omega
    have ha : ownS e l = true := by
      unfold ownS
      rw [List.all_eq_true]
      intro x hx
      obtain ⟨j, hj, rfl⟩ := List.getElem_of_mem hx
      simpa using hk j hj hj
    simp
    exact ⟨_, AV.le_refl _, _, Store.sub_refl _, -1, rfl, ⟨fun _ => ha, fun _ => by omega⟩, rfl⟩
set_option maxRecDepth 8000 in
theorem own_calls (q : Nat) (e : Ng) (o1 o2 o : Bool) (l : List UInt8) (hl : l.length ≤ 1000000) (σ : Store) (h : σ q = some (endO e o1 o2)) :
    ACalls Tryz.prog 127 [ptrA q, .list o 1 (bytesA l)] σ fun v σ' => v = .lit (.bool (ownS e l)) ∧ σ' = σ := by
  have hix := fun b τ h hb => ixf_calls q b e o1 o2 false l hl τ h hb
  have hcf : ∀ b τ, τ q = some (endO e o1 o2) → τ b = some [ptrA q] → ACalls Tryz.prog 132 [.list false 1 (bytesA l), .func (.func 133) [] [ptrA b]] τ fun v σ' => v = .lit (.bool (!ownS e l)) ∧ σ' = τ := fun b τ h hb => by
    refine ACalls.of_awp follows (st := st132) (plans := pl132) (n := 9) Tryz.func132 rfl (by kernel_rfl) (by kernel_rfl) (by kernel_rfl) ?_
    simp
    refine callK.of (hix b τ h hb) ?_
    rintro v σ' ⟨n, rfl, hn, rfl⟩
    cases ho : ownS e l
    · have h0 : 0 ≤ n := by have := mt hn.1 (by simp [ho]); omega
      simp [h0]
    · have h0 : ¬ 0 ≤ n := by have := hn.2 ho; omega
      simp [h0]
  refine ACalls.of_awp follows (st := st127) (plans := pl127) (n := 9) Tryz.func127 rfl (by kernel_rfl) (by kernel_rfl) (by kernel_rfl) ?_
  simp [ptrA]
  intro b hb
  have hqb : ¬ q = b := by rintro rfl; rw [h] at hb; cases hb
  have := hcf b (σ.upd b [ptrA q]) (by simp [hqb, h]) (by simp)
  unfold ptrA at this
  refine callK.of this ?_
  rintro v σ' ⟨rfl, rfl⟩
  simp
  exact sub_upd_self _ _ _ hb
end Go.Proofs.YteaidaolablegaaGreatDoor
/-
  What an end hears.
-/
namespace Go.Proofs.YteaidaolablegaaGreatDoor
open Go Go.AL

/-- An answer, its error, the end. -/
def HearR (q : Nat) (σ : Store) (r : List UInt8 × Nat × Ng) (v : AV) (σ' : Store) : Prop := v = .tuple [.list true 1 (bytesA r.1), .lit (.int .i64 r.2.1)] ∧ Up σ q r.2.2 σ'
theorem hear_same {q : Nat} {σ : Store} {e : Ng} {o1 o2 : Bool} (h : σ q = some (endO e o1 o2)) (n : Nat) {v : AV} (hv : v.le (.tuple [.list true 1 [], .lit (.int .i64 n)])) : ∃ v', v.le v' ∧ ∃ x, Store.sub x σ ∧ HearR q σ ([], n, e) v' x :=
  ⟨_, hv, σ, Store.sub_refl _, rfl, o1, o2, (upd_back h).symm⟩
def devF (e : Ng) : List UInt8 → List UInt8 × Nat × Ng
  | [] => ([], 4, e)
  | a :: k => if k.length = 2 ∧ a = 6 ∧ k.head? = some 5 then (if e.st = 1 then ([], 0, { e with st := 4 }) else ([], 6, e))
    else if ¬ a = 4 ∨ (gotF k).2 = false then ([], 4, e) else if ¬ e.st = 1 then ([], 6, e) else (3 :: 7 :: e.fns, 0, { e with st := 2, name := (gotF k).1, agreed := [] })
theorem htake (l : List UInt8) : (bytesA l).take l.length = bytesA l := by rw [← bytesA_length l, List.take_length]
theorem u8_ne {a : UInt8} {n : Nat} (hn : n < 256) (h : ¬ a = UInt8.ofNat n) : ¬ (a.toNat : Int) = (n : Int) := fun e => h (by
  have : a.toNat = n := by omega
  rw [← this]; simp)
set_option maxRecDepth 8000 in
set_option maxHeartbeats 1000000 in
theorem dev_calls (q : Nat) (e : Ng) (o1 o2 o : Bool) (l : List UInt8) (hl : l.length ≤ 1000000) (hs : Small e) (σ : Store) (h : σ q = some (endO e o1 o2)) :
    ACalls Tryz.prog 112 [ptrA q, .list o 1 (bytesA l)] σ (HearR q σ (devF e l)) := by
  have hf := hs.fns
  have hsame := fun n v hv => hear_same (v := v) h n hv
  rcases l with _ | ⟨a, k⟩
  · refine ACalls.of_awp follows (st := st112) (plans := pl112) (n := 68) Tryz.func112 rfl (by kernel_rfl) (by kernel_rfl) (by kernel_rfl) ?_
    simp [bytesA]
    exact hsame 4 _ (AV.le_refl _)
  have hc : bytesA (a :: k) = .lit (.int .u8 a.toNat) :: bytesA k := rfl
  have htk := htake k
  have hkl : k.length ≤ 1000000 := by simp at hl; omega
  have hgo := fun τ => got_calls false k hkl τ
  have hoff := fun τ o1 o2 (e' : Ng) (he : e'.fns = e.fns) (ht : τ q = some (endO e' o1 o2)) => offer_calls q e' o1 o2 false e.fns (by omega) τ ht
  have h0 := h
  unfold endO at h
  by_cases hr : k.length = 2 ∧ a = 6 ∧ k.head? = some 5
  · obtain ⟨hr1, rfl, hr2⟩ := hr
    obtain ⟨x, y, rfl⟩ : ∃ x y, k = [x, y] := by
      rcases k with _ | ⟨x, _ | ⟨y, _ | ⟨z, t⟩⟩⟩ <;> simp at hr1
      exact ⟨x, y, rfl⟩
    obtain rfl : x = 5 := by simpa using hr2
    have hc2 : bytesA [6, 5, y] = [.lit (.int .u8 6), .lit (.int .u8 5), .lit (.int .u8 y.toNat)] := rfl
    refine ACalls.of_awp follows (st := st112) (plans := pl112) (n := 68) Tryz.func112 rfl (by kernel_rfl) (by kernel_rfl) (by kernel_rfl) ?_
    by_cases hst : e.st = 1
    · have hd : devF e [6, 5, y] = ([], 0, { e with st := 4 }) := by simp [devF, hst]
      rw [hd]
      simp [hc2, ptrA, h, hst]
      exact ⟨_, AV.le_refl _, _, Store.sub_refl _, rfl, o1, o2, rfl⟩
    · have hd : devF e [6, 5, y] = ([], 6, e) := by simp [devF, hst]
      have hst' : ¬ (e.st : Int) = 1 := by omega
      rw [hd]
      simp [hc2, ptrA, h, hst, hst']
      exact hsame 6 _ (AV.le_refl _)
  · have hdev : devF e (a :: k) = if ¬ a = 4 ∨ (gotF k).2 = false then ([], 4, e) else if ¬ e.st = 1 then ([], 6, e) else (3 :: 7 :: e.fns, 0, { e with st := 2, name := (gotF k).1, agreed := [] }) := if_neg hr
    have hcase : (¬ (k.length : Int) + 1 = 3) ∨ ((k.length : Int) + 1 = 3 ∧ ¬ (a.toNat : Int) = 6) ∨ (∃ y z, k = [y, z] ∧ (a.toNat : Int) = 6 ∧ ¬ (y.toNat : Int) = 5) := by
      by_cases h2 : k.length = 2
      · by_cases h6 : a = 6
        · right; right
          obtain ⟨x, y, rfl⟩ : ∃ x y, k = [x, y] := by
            rcases k with _ | ⟨x, _ | ⟨y, _ | ⟨z, t⟩⟩⟩ <;> simp at h2
            exact ⟨x, y, rfl⟩
          refine ⟨x, y, rfl, by rw [h6]; rfl, u8_ne (n := 5) (by omega) fun h5 => hr ⟨h2, h6, by rw [h5]; rfl⟩⟩
        · exact .inr (.inl ⟨by omega, u8_ne (n := 6) (by omega) h6⟩)
      · exact .inl (by omega)
    rcases hcase with h3 | ⟨h3, h6⟩ | ⟨y, z, rfl, h6, h5⟩
    case inr.inr =>
      have h4 : ¬ a = 4 := fun h4 => by rw [h4] at h6; cases h6
      have h4' : ¬ (a.toNat : Int) = 4 := by omega
      rw [hdev, if_pos (.inl h4)]
      have hc2 : bytesA [a, y, z] = [.lit (.int .u8 a.toNat), .lit (.int .u8 y.toNat), .lit (.int .u8 z.toNat)] := rfl
      refine ACalls.of_awp follows (st := st112) (plans := pl112) (n := 68) Tryz.func112 rfl (by kernel_rfl) (by kernel_rfl) (by kernel_rfl) ?_
      simp [hc2, h6, h5, h4']
      exact hsame 4 _ (AV.le_refl _)
    all_goals
      have hpos : ¬ (k.length : Int) + 1 < 1 := by omega
      refine ACalls.of_awp follows (st := st112) (plans := pl112) (n := 68) Tryz.func112 rfl (by kernel_rfl) (by kernel_rfl) (by kernel_rfl) ?_
      by_cases h4 : a = 4
      case neg =>
        have h4' : ¬ (a.toNat : Int) = 4 := u8_ne (n := 4) (by omega) h4
        rw [hdev, if_pos (.inl h4)]
        first | simp [hc, h3, h6, h4', hpos] | simp [hc, h3, h4', hpos]
        exact hsame 4 _ (AV.le_refl _)
      case pos =>
        have h4' : (a.toNat : Int) = 4 := by rw [h4]; rfl
        first | simp [hc, h3, h6, h4', hpos, htk] | simp [hc, h3, h4', hpos, htk]
        refine callK.of (hgo _) ?_
        rintro v σ' ⟨rfl, rfl⟩
        cases hg : (gotF k).2
        · have hd : devF e (a :: k) = ([], 4, e) := by rw [hdev, hg]; simp
          rw [hd]
          simp
          exact hsame 4 _ (AV.le_refl _)
        · by_cases hst : e.st = 1
          · have hd : devF e (a :: k) = (3 :: 7 :: e.fns, 0, { e with st := 2, name := (gotF k).1, agreed := [] }) := by rw [hdev, hg]; simp [h4, hst]
            rw [hd]
            simp [ptrA, h, hst]
            have := hoff (σ'.upd q (endO { e with st := 1, name := (gotF k).1 } o1 o2)) o1 o2 { e with st := 1, name := (gotF k).1 } rfl (by simp)
            unfold endO ptrA at this
            refine callK.of this ?_
            rintro v σ2 ⟨rfl, p1, p2, rfl⟩
            simp
            refine ⟨_, AV.le_refl _, _, Store.sub_refl _, rfl, p1, p2, rfl⟩
          · have hd : devF e (a :: k) = ([], 6, e) := by rw [hdev, hg]; simp [h4, hst]
            rw [hd]
            have hst' : ¬ (e.st : Int) = 1 := by omega
            simp [ptrA, h, hst']
            exact hsame 6 _ (AV.le_refl _)
end Go.Proofs.YteaidaolablegaaGreatDoor
