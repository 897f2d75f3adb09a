/-
  A screen and the document's, made alike.
-/
import Derived.Test.YtkggdohfcmiakaaGreatDoorSPart13
set_option linter.unusedSimpArgs false
set_option linter.unusedVariables false
namespace Go.Proofs.YtkggdohfcmiakaaGreatDoor
open Go Go.AL Go.Sp

theorem byteA_lit (b : UInt8) : byteA b = .lit (.int .u8 b.toNat) := rfl
theorem eqLits_cell (c d : Cell) : eqLits [.int, .bool, .int, .int, .int, .int] [byteA c.char, .lit (.bool c.attr), byteA c.fa, byteA c.high, byteA c.color, byteA c.set]
    [byteA d.char, .lit (.bool d.attr), byteA d.fa, byteA d.high, byteA d.color, byteA d.set] = some (decide (c = d)) := by
  obtain ⟨a1, a2, a3, a4, a5, a6⟩ := c
  obtain ⟨b1, b2, b3, b4, b5, b6⟩ := d
  have h : ∀ x y : UInt8, ((x.toNat : Int) == (y.toNat : Int)) = decide (x = y) := fun x y => by rw [byte_eq]; rfl
  simp only [byteA_lit]
  simp [h]
  rw [Bool.eq_iff_iff]
  simp
theorem eqLits_zero (c : Cell) : eqLits [.int, .bool, .int, .int, .int, .int] [byteA c.char, .lit (.bool c.attr), byteA c.fa, byteA c.high, byteA c.color, byteA c.set]
    [.lit (.int .u8 0), .lit (.bool false), .lit (.int .u8 0), .lit (.int .u8 0), .lit (.int .u8 0), .lit (.int .u8 0)] = some (decide (c = .zero)) := eqLits_cell c .zero

def actsA (l : List Sp.Act) : List AV := l.map actA
@[simp] theorem actsA_length (l : List Sp.Act) : (actsA l).length = l.length := by simp [actsA]
theorem actsA_at (l : List Sp.Act) (i : Nat) (h : i < l.length) : (actsA l)[i]'(by simpa using h) = actA l[i] := by simp [actsA]

/-- Cells up to a place; the rest are null. -/
def upTo (s : Sp) (j : Nat) : Sp := { s with cells := s.cells.take j ++ List.replicate (s.n - j) .zero, cursor := 0 }
theorem upTo_len {s : Sp} (h : s.good) {j : Nat} (hj : j ≤ s.n) : (upTo s j).cells.length = s.n := by
  simp [upTo, h.len]; omega
theorem upTo_good {s : Sp} (h : s.good) {j : Nat} (hj : j ≤ s.n) : (upTo s j).good := by
  refine ⟨h.model, upTo_len h hj, s.n_pos, fun c hc => ?_⟩
  simp only [upTo, List.mem_append, List.mem_replicate] at hc
  rcases hc with hc | ⟨_, rfl⟩
  · exact h.fit c (List.mem_of_mem_take hc)
  · exact fitted_zero
theorem upTo_next {s : Sp} (h : s.good) {j : Nat} (hj : j < s.n) (hjc : j < s.cells.length) : (upTo s (j + 1)) = (upTo s j).set j s.cells[j] := by
  have hf : Sp.fit s.cells[j] = s.cells[j] := h.fit _ (List.getElem_mem hjc)
  have hw : wrap (upTo s j).n (j : Int) = j := wrap_of_lt hj
  simp only [Sp.set, hw, hf, Sp.put1]
  simp only [upTo]
  congr 1
  rw [List.take_succ_eq_append_getElem hjc, show s.n - j = (s.n - (j + 1)) + 1 by omega, List.replicate_succ]
  have hl : (s.cells.take j).length = j := by simp; omega
  rw [List.set_append_right _ _ (by omega), hl]
  simp only [List.append_assoc, Nat.sub_self, List.set_cons_zero, List.singleton_append]
theorem upTo_same {s : Sp} {j : Nat} (_h : s.good) (hj : j < s.n) (hjc : j < s.cells.length) (hz : s.cells[j] = .zero) : upTo s (j + 1) = upTo s j := by
  simp only [upTo]
  congr 1
  rw [List.take_succ_eq_append_getElem hjc, show s.n - j = (s.n - (j + 1)) + 1 by omega, List.replicate_succ, hz]
  simp only [List.append_assoc, List.singleton_append]
theorem upTo_zero (s : Sp) : upTo s 0 = Sp.clear ⟨s.model, false, [], 0⟩ s.alt := by simp [upTo, Sp.clear, Sp.n, Sp.rows, Sp.cols]

/-- Four blocks, apart. -/
structure Four (σ : Store) (q p x y : Nat) : Prop where
  q0 : σ q = none
  p0 : σ p = none
  x0 : σ x = none
  y0 : σ y = none
  qp : q ≠ p
  qx : q ≠ x
  qy : q ≠ y
  px : p ≠ x
  py : p ≠ y
  xy : x ≠ y
/-- The program's screen and the document's. -/
def both (σ : Store) (q p x y : Nat) (s t : Sp) : Store := putS spO (putS rfO σ x y t) q p s
theorem both_ref {σ : Store} {q p x y : Nat} {s t : Sp} (h : Four σ q p x y) (hg : t.good) : Ref (both σ q p x y s t) x y t :=
  ⟨by simp [both, putS, h.xy, Ne.symm h.qx, Ne.symm h.px], by simp [both, putS, Ne.symm h.qy, Ne.symm h.py], h.xy, hg⟩
theorem both_prg {σ : Store} {q p x y : Nat} {s t : Sp} (h : Four σ q p x y) (hg : s.good) : Prg (both σ q p x y s t) q p s := Scr.of_put h.qp hg
def LayR (σ : Store) (s : Sp) (v : AV) (σ' : Store) : Prop := ∃ q p x y : Nat, v = .tuple [ptrA q, ptrA x] ∧ Four σ q p x y ∧ σ' = both σ q p x y s s

theorem lays_step (m : UInt8) (l : List Sp.Act) (i : Nat) (h : i < l.length) (h2 : i < 30) : ((l.take 30).take (i + 1)).foldl Sp.act (Sp.new (2 + m.toNat % 4)) = (((l.take 30).take i).foldl Sp.act (Sp.new (2 + m.toNat % 4))).act l[i] := by
  have h3 : i < (l.take 30).length := by simp; omega
  rw [List.take_succ_eq_append_getElem h3, List.foldl_append]; simp
theorem foldl_model : ∀ (l : List Sp.Act) (s : Sp), (l.foldl Sp.act s).model = s.model
  | [], _ => rfl
  | a :: l, s => (foldl_model l (s.act a)).trans (s.model_act a)

end Go.Proofs.YtkggdohfcmiakaaGreatDoor
/-
  The iterators over a screen.
-/
namespace Go.Proofs.YtkggdohfcmiakaaGreatDoor
open Go Go.AL Go.Sp

/-- What an iterator over a screen finds. -/
def NeedS (b q p : Nat) (s : Sp) (_k : Nat) (τ : Store) : Prop := τ b = some [ptrA q] ∧ Prg τ q p s
theorem prg_mono {σ τ : Store} {q p : Nat} {s : Sp} {f : Sp → Nat → List AV} (h : Scr f τ q p s) (hs : Store.sub τ σ) : Scr f σ q p s := by
  refine ⟨?_, ?_, h.ne, h.good⟩
  · rcases hs q with h' | h'
    · rw [h.obj] at h'; cases h'
    · rw [← h', h.obj]
  · rcases hs p with h' | h'
    · rw [h.row] at h'; cases h'
    · rw [← h', h.row]
theorem sub_at {σ τ : Store} {b : Nat} {x : List AV} (h : τ b = some x) (hs : Store.sub τ σ) : σ b = some x := by
  rcases hs b with h' | h'
  · rw [h] at h'; cases h'
  · rw [← h', h]
theorem needS_mono {b q p : Nat} {s : Sp} {k : Nat} {τ τ' : Store} (h : NeedS b q p s k τ) (hs : Store.sub τ τ') : NeedS b q p s k τ' :=
  ⟨sub_at h.1 hs, prg_mono h.2 hs⟩

theorem all_calls2 (q : Nat) (σ : Store) : ACalls Tryz.prog 38 [ptrA q] σ fun v σ' => ∃ b : Nat, σ b = none ∧ v = .func (.func 68) [] [ptrA b] ∧ σ' = σ.upd b [ptrA q] := by
  refine ACalls.of_awp follows (st := st38) (plans := pl38) (n := 4) Tryz.func38 rfl (by kernel_rfl) (by kernel_rfl) (by kernel_rfl) ?_
  simp
  exact fun b hb => ⟨_, AV.le_refl _, _, Store.sub_refl _, b, hb, rfl, rfl⟩

set_option maxRecDepth 8000 in
theorem all_iter (b q p : Nat) (s : Sp) (σ : Store) : IterG Tryz.prog 68 [ptrA b] σ s.n (NeedS b q p s) fun k _ => [.lit (.int .i64 (k : Nat)), cellA (s.at k)] := by
  refine ⟨fun k τ τ' h hs => ⟨needS_mono h hs, rfl⟩, fun X l I J hneed hy τ E h0 hs => ?_⟩
  obtain ⟨hb, hP⟩ := needS_mono (hneed 0 τ E (Nat.zero_le _) h0) hs
  have hsz := size_calls hP
  have hcl := scells_calls s
  have hn := s.n_le
  refine ACallsY.of_awp follows (st := st68) (plans := pl68) (n := 18) Tryz.func68 rfl (by kernel_rfl) (by kernel_rfl) (by kernel_rfl) ?_
  simp [hb]
  refine callK.of hsz ?_
  rintro v σ' ⟨rfl, rfl⟩
  simp
  refine callK.of (hcl _) ?_
  rintro v σ' ⟨rfl, rfl⟩
  simp
  refine codeYK.loop follows (st := st68) (plans := pl68) (S := Nat × Store) (fun x => x.1 ≤ s.n)
    (fun x => [(0, .func (.yield l) [] []), (1, ptrA b), (6, .lit (.int .i64 s.n)), (7, .lit (.int .i64 x.1))]) (fun x => x.2) (fun x E => I x.1 x.2 E) (fun x => s.n - x.1) (0, τ) (by kernel_rfl) (by simp) (by simp) hs h0 ?_
  rintro ⟨k, τ1⟩ E1 hk hI
  dsimp only at hk hI ⊢
  obtain ⟨hb1, hP1⟩ := hneed k τ1 E1 hk hI
  by_cases hlt : k < s.n
  · have hat := at_calls hP1 (k : Int)
    have hw : IntKind.i64.wrap ((k : Int) + 1) = ((k + 1 : Nat) : Int) := wrap_i64 (by omega) (by omega)
    have hyk := hy k hlt τ1 E1 hI
    simp only [cellA_eq] at hat hyk
    simp [hlt, hb1]
    refine callK.of hat ?_
    rintro v σ' ⟨rfl, rfl⟩
    simp
    refine yieldK.of (by simp) hyk (Store.sub_refl _) ?_
    intro b2 τ' E' hR hap
    cases b2
    · simp
      exact ⟨⟨_, AV.le_refl _⟩, _, Store.sub_over _ _ _, τ', Store.sub_refl _, .inr (by simpa using hR)⟩
    · simp
      refine ⟨k + 1, by omega, by omega, by rw [hw]; exact AV.le_refl _, τ', Store.sub_over _ _ _, by simpa using hR⟩
  · obtain rfl : k = s.n := by omega
    simp
    exact ⟨⟨_, AV.le_refl _⟩, _, Store.sub_refl _, τ1, Store.sub_refl _, .inl hI⟩
end Go.Proofs.YtkggdohfcmiakaaGreatDoor
/-
  The iterators over a screen's attributes.
-/
namespace Go.Proofs.YtkggdohfcmiakaaGreatDoor
open Go Go.AL Go.Sp

/-- How many of the first ones are so. -/
def cntP {α : Type} (P : α → Bool) (xs : List α) (k : Nat) : Nat := ((xs.take k).filter P).length
def isAt (s : Sp) (i : Nat) : Bool := (s.cells[i]?.getD .zero).attr
theorem attrs_eq (s : Sp) (h : s.good) : s.attrs = (List.range s.n).filter (isAt s) := by rw [← h.len]; rfl
theorem at_of {s : Sp} (_h : s.good) {i : Nat} (hi : i < s.n) : s.at (i : Int) = s.cells[i]?.getD .zero := by
  unfold Sp.at; rw [wrap_of_lt hi]
/-- What an iterator keeps beside what its rounds know of. -/
structure Beside (τ ρ : Store) (b2 y : Nat) (f g : AV) : Prop where
  b0 : τ b2 = none
  y0 : τ y = none
  ne : b2 ≠ y
  eq : ρ = (τ.upd b2 [f]).upd y [g]
theorem Beside.sub {τ ρ : Store} {b2 y : Nat} {f g : AV} (h : Beside τ ρ b2 y f g) : Store.sub τ ρ := by
  rw [h.eq]
  exact Store.sub_upd h.y0 (Store.sub_upd h.b0 (Store.sub_refl _))
/-- Behind a round. -/
theorem Beside.next {τ ρ τ' cur : Store} {b2 y : Nat} {f g : AV} (h : Beside τ ρ b2 y f g) (hc : Store.sub ρ cur) (hap : Apart τ' τ cur) : ∃ ρ', Store.sub ρ' (Store.over τ' τ cur) ∧ Beside τ' ρ' b2 y f g := by
  have c1 : cur b2 = some [f] := sub_at (by rw [h.eq]; simp [h.ne]) hc
  have c2 : cur y = some [g] := sub_at (by rw [h.eq]; simp) hc
  have d1 := hap b2 h.b0 (by rw [c1]; simp)
  have d2 := hap y h.y0 (by rw [c2]; simp)
  refine ⟨(τ'.upd b2 [f]).upd y [g], Store.sub2 (fun o => ?_) (fun i => by simpa using Store.sub_over τ' τ cur (mkey i)), ⟨d1, d2, h.ne, rfl⟩⟩
  by_cases h1 : o = y
  · subst h1; right; simp [Store.over, d2, h.y0, c2]
  · by_cases h2 : o = b2
    · subst h2; right; simp [Store.over, d1, h.b0, c1, h.ne]
    · simp only [supd_apply, if_neg h1, if_neg h2]
      exact Store.sub_over τ' τ cur o

end Go.Proofs.YtkggdohfcmiakaaGreatDoor
/-
  The iterators over a screen's fields.
-/
namespace Go.Proofs.YtkggdohfcmiakaaGreatDoor
open Go Go.AL Go.Sp

theorem fld_prg (b : UInt8) : ((((b &&& 32).toNat : Nat) : Int) != 0) = (fld b).prot ∧ ((((b &&& 16).toNat : Nat) : Int) != 0) = (fld b).num ∧ (b &&& 12).toNat / 4 = (fld b).disp ∧ ((((b &&& 1).toNat : Nat) : Int) != 0) = (fld b).mod :=
  all_bytes (p := fun b => ((((b &&& 32).toNat : Nat) : Int) != 0) = (fld b).prot ∧ ((((b &&& 16).toNat : Nat) : Int) != 0) = (fld b).num ∧ (b &&& 12).toNat / 4 = (fld b).disp ∧ ((((b &&& 1).toNat : Nat) : Int) != 0) = (fld b).mod) (by decide +kernel) b
set_option maxRecDepth 4000 in
theorem of_calls (b : UInt8) (σ : Store) : ACalls Tryz.prog 54 [byteA b] σ fun v σ' => v = fldA (fld b) ∧ σ' = σ := by
  obtain ⟨h1, h2, h3, h4⟩ := fld_prg b
  rw [fldA, ← h1, ← h2, ← h3, ← h4]
  have a1 : pureBin .and (.int .u8 (b.toNat : Int)) (.int .u8 32) = some (.int .u8 ((b &&& 32).toNat : Int)) := and_u8 b 32
  have a2 : pureBin .and (.int .u8 (b.toNat : Int)) (.int .u8 16) = some (.int .u8 ((b &&& 16).toNat : Int)) := and_u8 b 16
  have a3 : pureBin .and (.int .u8 (b.toNat : Int)) (.int .u8 12) = some (.int .u8 ((b &&& 12).toNat : Int)) := and_u8 b 12
  have a4 : pureBin .and (.int .u8 (b.toNat : Int)) (.int .u8 1) = some (.int .u8 ((b &&& 1).toNat : Int)) := and_u8 b 1
  have hl := (b &&& 12).toNat_lt
  have hw : IntKind.i64.wrap ((b &&& 12).toNat : Int) = ((b &&& 12).toNat : Int) := wrap_i64 (by omega) (by omega)
  have hs := shr_nat (b &&& 12).toNat 2 (by omega)
  have hs' : pureBin .shr (.int .i64 ((b &&& 12).toNat : Int)) (.int .u64 2) = some (.int .i64 (((b &&& 12).toNat / 4 : Nat) : Int)) := hs
  refine ACalls.of_awp follows (st := st54) (plans := pl54) (n := 17) Tryz.func54 rfl (by kernel_rfl) (by kernel_rfl) (by kernel_rfl) ?_
  generalize (b &&& 32).toNat = x1 at *
  generalize (b &&& 16).toNat = x2 at *
  generalize (b &&& 12).toNat = x3 at *
  generalize (b &&& 1).toNat = x4 at *
  simp [-e_pureBin_8, -e_pureBin_2, byteA, a1, a2, a3, a4, hw, hs']
  intro p hp
  (intro q; simp only [Store.upd, Store.del]; (repeat' split) <;> first | exact Or.inr rfl | exact Or.inl rfl | (exfalso; omega) | (left; subst_vars; assumption) | simp_all)
/-- The plan of the region that asks for a round. -/
def pl106t : List (Nat × Plan) := [(3, Plan.tail 7 (Plan.seq [1, 2, 3] (.alt (Plan.seq [0, 4, 5, 6] (.done)) (Plan.seq [4, 5] (.alt (Plan.seq [0, 6] (.done)) (Plan.seq [6, 0] (.done)))))))]
def atFld (s : Sp) (k : Nat) : Nat × Fld := (s.attrs[k]?.getD 0, fld ((s.cells[s.attrs[k]?.getD 0]?.getD .zero).fa))

end Go.Proofs.YtkggdohfcmiakaaGreatDoor
/-
  The iterators over modified fields, and over a field's places.
-/
namespace Go.Proofs.YtkggdohfcmiakaaGreatDoor
open Go Go.AL Go.Sp

def isMod (s : Sp) (a : Nat) : Bool := (fld (s.cells[a]?.getD .zero).fa).mod
/-- What the iterator over a field's places finds. -/
def NeedP (b c q p : Nat) (s : Sp) (a : Nat) (_k : Nat) (τ : Store) : Prop := τ b = some [ptrA q] ∧ τ c = some [.lit (.int .i64 a)] ∧ Prg τ q p s
end Go.Proofs.YtkggdohfcmiakaaGreatDoor
/-
  Fields, plainly: where one may write, the next one, runs of places.
-/
namespace Go.Proofs.YtkggdohfcmiakaaGreatDoor
open Go Go.AL Go.Sp

/-- The places from one on up to another. -/
def spanLen (N f t : Nat) : Nat := if (t + N - f) % N = 0 then N else (t + N - f) % N
def spanL (N f t : Nat) : List Nat := (List.range (spanLen N f t)).map fun i => (f + i) % N
def fldAt (s : Sp) (a : Nat) : Fld := fld (s.cells[a]?.getD .zero).fa
/-- May one write there? -/
def openS (s : Sp) (n : Nat) : Bool := !(attrAt s.cells n) && !(decide (0 ≤ startS s.cells n) && (fldAt s (startS s.cells n).toNat).prot)
def rangeS (s : Sp) (l : List Nat) : Sp := l.foldl (fun s (n : Nat) => if openS s n = true then s.put n 0 else s) s
def repeatS (s : Sp) (l : List Nat) (c : Cell) : Sp := l.foldl (fun s (n : Nat) => s.set n c) s
/-- Is it the first place of an unprotected field? -/
def firstS (s : Sp) (n : Nat) : Bool := (s.at ((n : Int) - 1)).attr && !(s.at n).attr && !(fld (s.at ((n : Int) - 1)).fa).prot
def nextS (s : Sp) (n : Nat) : Int := match (List.range s.n).find? (fun i => firstS s ((n + i + 1) % s.n)) with
  | some i => ((n + i + 1) % s.n : Nat)
  | none => -1
def nullsL (s : Sp) (n : Nat) : List Nat := ((List.range (s.n - n)).map fun i => n + i).takeWhile fun k => !attrAt s.cells k
def nullS (s : Sp) (l : List Nat) : Sp := l.foldl (fun s (n : Nat) => s.put n 0) s
end Go.Proofs.YtkggdohfcmiakaaGreatDoor
/-
  The places from one up to another.
-/
namespace Go.Proofs.YtkggdohfcmiakaaGreatDoor
open Go Go.AL Go.Sp

abbrev sizeA (s : Sp) : AV := .agg [.lit (.int .i64 s.rows), .lit (.int .i64 s.cols)]
/-- What the iterator over places keeps. -/
def NeedB (b1 b2 b3 : Nat) (s : Sp) (f t : Nat) (τ : Store) : Prop := τ b1 = some [.lit (.int .i64 s.rows), .lit (.int .i64 s.cols)] ∧ τ b2 = some [.lit (.int .i64 f)] ∧ τ b3 = some [.lit (.int .i64 t)]
theorem NeedB.mono {b1 b2 b3 : Nat} {s : Sp} {f t : Nat} {τ τ' : Store} (h : NeedB b1 b2 b3 s f t τ) (hs : Store.sub τ τ') : NeedB b1 b2 b3 s f t τ' := ⟨sub_at h.1 hs, sub_at h.2.1 hs, sub_at h.2.2 hs⟩
end Go.Proofs.YtkggdohfcmiakaaGreatDoor
/-
  Where a field starts; whether one may write there; the next field.
-/
namespace Go.Proofs.YtkggdohfcmiakaaGreatDoor
open Go Go.AL Go.Sp

theorem attrAt_at {s : Sp} {n : Nat} (hn : n < s.n) : (s.at (n : Int)).attr = attrAt s.cells n := by
  unfold Sp.at attrAt; rw [wrap_of_lt hn]
theorem count_some {s : Sp} (h : 0 < s.count) : ∃ a, a < s.cells.length ∧ attrAt s.cells a = true := by
  unfold Sp.count at h
  rw [List.countP_pos_iff] at h
  obtain ⟨c, hm, hc⟩ := h
  obtain ⟨i, hi, rfl⟩ := List.getElem_of_mem hm
  exact ⟨i, hi, by unfold attrAt; rw [List.getElem?_eq_getElem hi]; exact hc⟩
theorem startS_none {s : Sp} (h : s.count = 0) (n : Nat) : startS s.cells n = -1 := by
  have hno : ∀ i, attrAt s.cells i = false := fun i => by
    cases ha : attrAt s.cells i with
    | false => rfl
    | true =>
      exfalso
      unfold attrAt at ha
      cases hi : s.cells[i]? with
      | none => rw [hi] at ha; exact absurd ha (by decide)
      | some c =>
        rw [hi] at ha
        have : 0 < s.cells.countP (·.attr) := List.countP_pos_iff.2 ⟨c, List.mem_of_getElem? hi, ha⟩
        unfold Sp.count at h; omega
  unfold startS
  rw [lastA_none fun i _ => hno i, lastA_none fun i _ => hno i]
/-- From a place back to an attribute. -/
theorem back_start {s : Sp} (h : s.good) {n j : Nat} (hn : n < s.n) (hj : j < s.n) (hfree : ∀ i, i < j → attrAt s.cells ((n + s.n - i) % s.n) = false) (hat : attrAt s.cells ((n + s.n - j) % s.n) = true) : startS s.cells n = ((n + s.n - j) % s.n : Nat) := by
  have hl := h.len
  have hpos := s.n_pos
  have ha : (n + s.n - j) % s.n < s.cells.length := by rw [hl]; exact Nat.mod_lt _ hpos
  have key := startS_in hat ha (i := j) (by omega) (fun k h1 h2 => by
    have := hfree (j - k) (by omega)
    rw [hl]
    have e : ((n + s.n - j) % s.n + k) % s.n = (n + s.n - (j - k)) % s.n := by
      rw [Nat.mod_add_mod]; congr 1; omega
    rw [e]; exact this)
  have e2 : ((n + s.n - j) % s.n + j) % s.cells.length = n := by
    rw [hl, Nat.mod_add_mod, show n + s.n - j + j = n + s.n from by omega, Nat.add_mod_right, Nat.mod_eq_of_lt hn]
  rw [e2] at key
  exact key
theorem wrap_pred {N m : Nat} (hN : 0 < N) (hm : m < N) : wrap N ((m : Int) - 1) = (m + N - 1) % N := by
  unfold wrap
  have e : ((m : Int) - 1) % (N : Int) = ((m + N - 1 : Nat) : Int) % (N : Int) := by
    rw [show ((m + N - 1 : Nat) : Int) = ((m : Int) - 1) + N from by omega, Int.add_emod_right]
  rw [e, ← Int.natCast_emod]; rfl
set_option maxRecDepth 8000 in
theorem start_calls {q r : Nat} {s : Sp} {σ : Store} (h : Prg σ q r s) {n : Nat} (hn : n < s.n) : ACalls Tryz.prog 53 [ptrA q, .lit (.int .i64 n)] σ fun v σ' => v = .lit (.int .i64 (startS s.cells n)) ∧ σ' = σ := by
  have hf := fun τ (hτ : Prg τ q r s) => formatted_calls hτ
  have hsz := fun τ (hτ : Prg τ q r s) => size_calls hτ
  have hnl := s.n_le
  refine ACalls.of_awp follows (st := st53) (plans := pl53) (n := 24) Tryz.func53 rfl (by kernel_rfl) (by kernel_rfl) (by kernel_rfl) ?_
  by_cases hc : s.count = 0
  · have hs := startS_none hc n
    rw [hs]
    simp
    refine callK.of (hf _ h) ?_
    rintro v σ' ⟨rfl, rfl⟩
    simp [hc]
  · have hc' : 0 < s.count := by omega
    obtain ⟨a, ha, hat⟩ := count_some hc'
    have hw := fun τ => swrap_calls s (n : Int) τ
    rw [wrap_of_lt hn] at hw
    simp
    refine callK.of (hf _ h) ?_
    rintro v σ' ⟨rfl, rfl⟩
    simp [hc']
    refine callK.of (hsz _ h) ?_
    rintro v σ' ⟨rfl, rfl⟩
    simp
    intro b hb
    have hbq := h.fresh hb
    refine callK.of (hw _) ?_
    rintro v σ2 ⟨rfl, rfl⟩
    simp
    have hbk := @back_start s h.good n
    have hgood := h.good
    have hpos := s.n_pos
    -- as many steps back as there are places, at most
    have hstop : ∀ j, j < s.n → (∀ i, i < j → attrAt s.cells ((n + s.n - i) % s.n) = false) → attrAt s.cells ((n + s.n - j) % s.n) = false → j + 1 < s.n := fun j hj hfree hthis => by
      rcases Nat.lt_or_ge (j + 1) s.n with h1 | h1
      · exact h1
      · exfalso
        rw [h.good.len] at ha
        have e : (n + s.n - (n + s.n - a) % s.n) % s.n = a := by
          rcases Nat.lt_or_ge n a with h2 | h2
          · rw [Nat.mod_eq_of_lt (by omega : n + s.n - a < s.n), show n + s.n - (n + s.n - a) = a from by omega, Nat.mod_eq_of_lt ha]
          · rw [show n + s.n - a = (n - a) + s.n from by omega, Nat.add_mod_right, Nat.mod_eq_of_lt (by omega : n - a < s.n), show n + s.n - (n - a) = a + s.n from by omega, Nat.add_mod_right, Nat.mod_eq_of_lt ha]
        have hm := Nat.mod_lt (n + s.n - a) hpos
        rcases Nat.lt_or_ge ((n + s.n - a) % s.n) j with h3 | h3
        · have := hfree _ h3; rw [e, hat] at this; cases this
        · have : (n + s.n - a) % s.n = j := by omega
          rw [this] at e; rw [e, hat] at hthis; cases hthis
    refine codeK.loop follows (st := st53) (plans := pl53) (X := Nat) (fun j => j < s.n ∧ ∀ i, i < j → attrAt s.cells ((n + s.n - i) % s.n) = false)
      (fun j => [(0, ptrA q), (1, .lit (.int .i64 ((n + s.n - j) % s.n : Nat))), (5, ptrA b)]) (fun _ => σ'.upd b [.lit (.int .i64 s.rows), .lit (.int .i64 s.cols)]) (fun j => s.n - j) 0 (by kernel_rfl) ⟨hpos, fun i hi => by omega⟩ (by simp [Nat.mod_eq_of_lt hn]) (by first | exact Store.sub_refl _ | (intro q; simp only [Store.upd, Store.del]; (repeat' split) <;> first | exact Or.inr rfl | exact Or.inl rfl | (exfalso; omega) | (left; subst_vars; assumption) | simp_all)) fun j hj => ?_
    obtain ⟨hj, hfree⟩ := hj
    have hbk2 := hbk hn hj hfree
    have hstop2 := hstop j hj hfree
    have hm := Nat.mod_lt (n + s.n - j) hpos
    have hnext : ((n + s.n - j) % s.n + s.n - 1) % s.n = (n + s.n - (j + 1)) % s.n := by
      rcases Nat.lt_or_ge (n + s.n - j) s.n with h1 | h1
      · rw [Nat.mod_eq_of_lt h1, show n + s.n - j + s.n - 1 = (n + s.n - (j + 1)) + s.n from by omega, Nat.add_mod_right]
      · rw [show n + s.n - j = (n - j) + s.n from by omega, Nat.add_mod_right, Nat.mod_eq_of_lt (by omega : n - j < s.n), show n + s.n - (j + 1) = n - j + s.n - 1 from by omega]
    have hfree2 : attrAt s.cells ((n + s.n - j) % s.n) = false → ∀ i, i < j + 1 → attrAt s.cells ((n + s.n - i) % s.n) = false := fun h0 i hi => by
      by_cases e : i = j
      · subst e; exact h0
      · exact hfree i (by omega)
    have hnI : (((n + s.n - j) % s.n + s.n - 1 : Nat) : Int) % (s.n : Int) = ((n + s.n - (j + 1) : Nat) : Int) % (s.n : Int) := by
      have := congrArg (fun x : Nat => (x : Int)) hnext
      simpa using this
    have hat2 := attrAt_at hm
    have hwp := wrap_pred hpos hm
    generalize (n + s.n - j) % s.n = m at *
    have hsw := fun τ => swrap_calls s ((m : Int) - 1) τ
    rw [hwp] at hsw
    have hatc := fun τ (hτ : Prg τ q r s) => at_calls hτ (m : Int)
    simp only [cellA_eq, hat2] at hatc
    have hi : IntKind.i64.wrap ((m : Int) - 1) = (m : Int) - 1 := wrap_i64 (by omega) (by omega)
    simp
    refine callK.of (hatc _ (h.new hb _)) ?_
    rintro v σ3 ⟨rfl, rfl⟩
    by_cases h0 : attrAt s.cells m = true
    · rw [hbk2 h0]
      simp [h0]
      (intro q; simp only [Store.upd, Store.del]; (repeat' split) <;> first | exact Or.inr rfl | exact Or.inl rfl | (exfalso; omega) | (left; subst_vars; assumption) | simp_all)
    · have h0' : attrAt s.cells m = false := by simpa using h0
      simp [h0', hi]
      refine callK.of (hsw _) ?_
      rintro v σ3 ⟨rfl, rfl⟩
      simp
      exact ⟨j + 1, ⟨hstop2 h0', hfree2 h0'⟩, by omega, by rw [hnI]; exact AV.le_refl _⟩
theorem startS_at {s : Sp} (h : s.good) {n : Nat} (hn : n < s.n) (hc : ¬ s.count = 0) : 0 ≤ startS s.cells n ∧ (startS s.cells n).toNat < s.n := by
  have key : ∀ (l : List Cell) (i : Int) (m : Nat), lastA l i m = i ∨ ∃ a, a < m ∧ lastA l i m = (a : Nat) ∧ attrAt l a = true := by
    intro l i m
    induction m with
    | zero => exact .inl rfl
    | succ m ih =>
      have e : lastA l i (m + 1) = if attrAt l m = true then (m : Int) else lastA l i m := rfl
      rw [e]
      split
      · rename_i ha; exact .inr ⟨m, by omega, rfl, ha⟩
      · rcases ih with ih | ⟨a, h1, h2, h3⟩
        · exact .inl ih
        · exact .inr ⟨a, by omega, h2, h3⟩
  obtain ⟨b, hb, hbt⟩ := count_some (by omega : 0 < s.count)
  have hl := h.len
  have h2 : ∃ a, a < s.cells.length ∧ lastA s.cells (-1) s.cells.length = (a : Nat) := by
    rcases key s.cells (-1) s.cells.length with h1 | ⟨a, h1, h2, _⟩
    · exfalso
      have : ∀ m, m ≤ s.cells.length → b < m → lastA s.cells (-1) m ≠ -1 := by
        intro m hm hbm
        induction m with
        | zero => omega
        | succ m ih =>
          have e : lastA s.cells (-1) (m + 1) = if attrAt s.cells m = true then (m : Int) else lastA s.cells (-1) m := rfl
          rw [e]
          split
          · omega
          · rename_i hm'
            exact ih (by omega) (by
              rcases Nat.lt_or_ge b m with h | h
              · exact h
              · exfalso; obtain rfl : b = m := by omega
                exact hm' hbt)
      exact this _ (Nat.le_refl _) hb h1
    · exact ⟨a, h1, h2⟩
  obtain ⟨a, ha, he⟩ := h2
  unfold startS
  rw [he]
  rcases key s.cells (a : Int) (n + 1) with h1 | ⟨c, h1, h2, _⟩
  · rw [h1]; omega
  · rw [h2]; omega
set_option maxRecDepth 8000 in
theorem fof_calls {q r : Nat} {s : Sp} {σ : Store} (h : Prg σ q r s) {n : Nat} (hn : n < s.n) : ACalls Tryz.prog 23 [ptrA q, .lit (.int .i64 n)] σ fun v σ' => v = .tuple [if 0 ≤ startS s.cells n then fldA (fldAt s (startS s.cells n).toNat) else .agg [.lit (.bool false), .lit (.bool false), .lit (.int .i64 0), .lit (.bool false)], .lit (.bool (decide (0 ≤ startS s.cells n)))] ∧ σ' = σ := by
  have hst := fun τ (hτ : Prg τ q r s) => start_calls hτ hn
  have hfa : ∀ f : Fld, fldA f = .agg [.lit (.bool f.prot), .lit (.bool f.num), .lit (.int .i64 f.disp), .lit (.bool f.mod)] := fun _ => rfl
  refine ACalls.of_awp follows (st := st23) (plans := pl23) (n := 18) Tryz.func23 rfl (by kernel_rfl) (by kernel_rfl) (by kernel_rfl) ?_
  by_cases hc : s.count = 0
  · rw [startS_none hc n] at hst ⊢
    simp
    intro b hb
    refine callK.of (hst _ (h.new hb _)) ?_
    rintro v σ' ⟨rfl, rfl⟩
    simp
    exact sub_upd_self _ _ _ hb
  · obtain ⟨h1, h2⟩ := startS_at h.good hn hc
    obtain ⟨a, ha⟩ : ∃ a : Nat, startS s.cells n = a := ⟨_, (Int.toNat_of_nonneg h1).symm⟩
    rw [ha] at hst h2 ⊢
    simp only [Int.toNat_natCast] at h2 ⊢
    rw [if_pos (by omega)]
    have hat := fun τ (hτ : Prg τ q r s) => at_calls hτ (a : Int)
    have hae := at_of h.good h2
    have hfe : fldAt s a = fld (s.at (a : Int)).fa := by unfold fldAt; rw [hae]
    have hof := fun τ => of_calls (s.at (a : Int)).fa τ
    rw [hfe]
    simp only [cellA_eq] at hat
    rw [hfa] at hof ⊢
    have ha1 : ¬ (a : Int) = -1 := by omega
    have ha0 : (0 : Int) ≤ a := by omega
    simp
    intro b hb
    refine callK.of (hst _ (h.new hb _)) ?_
    rintro v σ' ⟨rfl, rfl⟩
    simp [ha1]
    refine callK.of (hat _ (h.new hb _)) ?_
    rintro v σ' ⟨rfl, rfl⟩
    simp
    refine callK.of (hof _) ?_
    rintro v σ' ⟨rfl, rfl⟩
    simp
    (intro q; simp only [Store.upd, Store.del]; (repeat' split) <;> first | exact Or.inr rfl | exact Or.inl rfl | (exfalso; omega) | (left; subst_vars; assumption) | simp_all)
end Go.Proofs.YtkggdohfcmiakaaGreatDoor
/-
  What codes may be used for, by a page; small things of attributes.
-/
namespace Go.Proofs.YtkggdohfcmiakaaGreatDoor
open Go Go.AL Go.Sp

set_option maxRecDepth 8000 in
theorem csign_calls (b : Nat) (n : Int) (hn : isPage n) (x : Option Nat) (c : UInt8) (σ : Store) : ACalls Tryz.prog 82 [ptrA b, byteA c] (pgS b n x σ) fun v σ' => v = .lit (.int .i32 ((sgF n c.toNat : Nat) : Int)) ∧ ∃ q, NxP σ x (some q) ∧ σ' = pgS b n (some q) σ := by
  refine ACalls.of_awp follows (st := st82) (plans := pl82) (n := 14) Tryz.func82 rfl (by kernel_rfl) (by kernel_rfl) (by kernel_rfl) ?_
  simp
  refine callK.of (sign_calls b n hn x c σ) ?_
  rintro v σ1 ⟨rfl, q, nx, rfl⟩
  simp
  exact ⟨_, AV.le_refl _, _, Store.sub_refl _, rfl, q, nx, rfl⟩
def dataB (c : UInt8) : Bool := decide (64 ≤ c.toNat) && decide (c.toNat < 255)
set_option maxRecDepth 8000 in
theorem data_calls (c : UInt8) (σ : Store) : ACalls Tryz.prog 81 [byteA c] σ fun v σ' => v = .lit (.bool (dataB c)) ∧ σ' = σ := by
  refine ACalls.of_awp follows (st := st81) (plans := pl81) (n := 9) Tryz.func81 rfl (by kernel_rfl) (by kernel_rfl) (by kernel_rfl) ?_
  unfold dataB
  by_cases h : 64 ≤ c.toNat
  · have h' : (64 : Int) ≤ c.toNat := by omega
    simp [byteA, h, h']
    by_cases h2 : c.toNat < 255
    · have h2' : (c.toNat : Int) < 255 := by omega
      simp [h2, h2']
    · have h2' : ¬ (c.toNat : Int) < 255 := by omega
      simp [h2, h2']
  · have h' : ¬ (64 : Int) ≤ c.toNat := by omega
    simp [byteA, h, h']
/-- Digits, a period, a minus. -/
def numSign (s : Nat) : Bool := (decide (48 ≤ s) && decide (s ≤ 57)) || s == 46 || s == 45
def numB (n : Int) (c : UInt8) : Bool := c == 28 || (dataB c && numSign (sgF n c.toNat))
/-- Of a field's first character. -/
def desigN (n : Int) (c : UInt8) : Nat := if c = 0 then 3 else if sgF n c.toNat = 63 then 1 else if sgF n c.toNat = 62 then 2 else if sgF n c.toNat = 32 then 3 else if sgF n c.toNat = 38 then 4 else 0
def detB (f : Fld) : Bool := f.disp == 1 || f.disp == 2
end Go.Proofs.YtkggdohfcmiakaaGreatDoor
/-
  The document's signs and codes.
-/
namespace Go.Proofs.YtkggdohfcmiakaaGreatDoor
open Go Go.AL

def digN (b : UInt8) : Nat := if 97 ≤ b.toNat then (b - 97).toNat + 10 else (b - 48).toNat
def numTo (s : ByteArray) : Nat → Nat
  | 0 => 0
  | k + 1 => 16 * numTo s k + digN (s.data[k]?.getD 0)
theorem digN_le (b : UInt8) : digN b ≤ 265 := all_bytes (p := fun b => digN b ≤ 265) (by decide +kernel) b
theorem numTo_le (s : ByteArray) (k : Nat) (h : k ≤ 4) : numTo s k ≤ 1200000 := by
  have hd := fun j : Nat => digN_le (s.data[j]?.getD 0)
  have h1 : numTo s 1 ≤ 265 := by have := hd 0; simp only [numTo]; omega
  have h2 : numTo s 2 ≤ 4505 := by have := hd 1; rw [numTo]; omega
  have h3 : numTo s 3 ≤ 72345 := by have := hd 2; rw [numTo]; omega
  have h4 : numTo s 4 ≤ 1157785 := by have := hd 3; rw [numTo]; omega
  rcases (by omega : k = 0 ∨ k = 1 ∨ k = 2 ∨ k = 3 ∨ k = 4) with rfl | rfl | rfl | rfl | rfl
  · simp [numTo]
  all_goals omega
theorem sub48 (b : UInt8) : IntKind.u8.wrap ((b.toNat : Int) - 48) = ((b - 48).toNat : Int) := all_bytes (p := fun b => IntKind.u8.wrap ((b.toNat : Int) - 48) = ((b - 48).toNat : Int)) (by decide +kernel) b
theorem sub97 (b : UInt8) : IntKind.u8.wrap ((b.toNat : Int) - 97) = ((b - 97).toNat : Int) := all_bytes (p := fun b => IntKind.u8.wrap ((b.toNat : Int) - 97) = ((b - 97).toNat : Int)) (by decide +kernel) b
set_option maxRecDepth 8000 in
theorem num_calls (s : ByteArray) (hs : s.size ≤ 4) (σ : Store) : ACalls Tryz.prog 78 [.lit (.string s)] σ fun v σ' => v = .lit (.int .i64 (numTo s s.size : Nat)) ∧ σ' = σ := by
  refine ACalls.of_awp follows (st := st78) (plans := pl78) (n := 32) Tryz.func78 rfl (by kernel_rfl) (by kernel_rfl) (by kernel_rfl) ?_
  simp
  refine codeK.loop follows (st := st78) (plans := pl78) (X := Nat) (fun k => k ≤ s.size)
    (fun k => [(0, .lit (.string s)), (3, .lit (.int .i64 (numTo s k : Nat))), (4, .lit (.int .i64 k))]) (fun _ => σ) (fun k => s.size - k) 0 (by kernel_rfl) (by simp) (by simp [numTo]) (Store.sub_refl _) fun k hk => ?_
  by_cases hlt : k < s.size
  · have hle := numTo_le s k (by omega)
    have hle2 := numTo_le s (k + 1) (by omega)
    have hk1 : IntKind.i64.wrap ((k : Int) + 1) = ((k + 1 : Nat) : Int) := wrap_i64 (by omega) (by omega)
    have hdl : k < s.data.size := hlt
    have hs2 : numTo s (k + 1) = 16 * numTo s k + digN s.data[k] := by rw [numTo, Array.getElem?_eq_getElem hdl]; rfl
    have hm : IntKind.i64.wrap (16 * (numTo s k : Int)) = ((16 * numTo s k : Nat) : Int) := wrap_i64 (by omega) (by omega)
    have hlt2 := (s.data[k]).toNat_lt
    simp [hlt]
    generalize s.data[k] = b at *
    have d1 := sub48 b
    have d2 := sub97 b
    have l1 := (b - 48).toNat_lt
    have l2 := (b - 97).toNat_lt
    unfold digN at hs2
    split
    · next h97 =>
      rw [if_pos (by omega)] at hs2
      have hw : IntKind.i64.wrap (IntKind.i64.wrap (16 * (numTo s k : Int)) + IntKind.i64.wrap (IntKind.i64.wrap (IntKind.u8.wrap ((b.toNat : Int) - 97)) + 10)) = (numTo s (k + 1) : Nat) := by
        rw [hm, d2, wrap_i64 (n := ((b - 97).toNat : Int)) (by omega) (by omega), wrap_i64 (n := ((b - 97).toNat : Int) + 10) (by omega) (by omega), wrap_i64 (by omega) (by omega), hs2]
        omega
      exact ⟨k + 1, by omega, by omega, by rw [hw]; exact AV.le_refl _, by rw [hk1]; exact AV.le_refl _⟩
    · next h97 =>
      rw [if_neg (by omega)] at hs2
      have hw : IntKind.i64.wrap (IntKind.i64.wrap (16 * (numTo s k : Int)) + IntKind.i64.wrap (IntKind.u8.wrap ((b.toNat : Int) - 48))) = (numTo s (k + 1) : Nat) := by
        rw [hm, d1, wrap_i64 (n := ((b - 48).toNat : Int)) (by omega) (by omega), wrap_i64 (by omega) (by omega), hs2]
        omega
      exact ⟨k + 1, by omega, by omega, by rw [hw]; exact AV.le_refl _, by rw [hk1]; exact AV.le_refl _⟩
  · obtain rfl : k = s.size := by omega
    simp [hlt]
end Go.Proofs.YtkggdohfcmiakaaGreatDoor
