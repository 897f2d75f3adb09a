/-
  A screen and the document's, made alike.
-/
import Derived.Test.YtlmdbcgceijlnaaGreatDoorHPart13
set_option linter.unusedSimpArgs false
set_option linter.unusedVariables false
namespace Go.Proofs.YtlmdbcgceijlnaaGreatDoor
open Go Go.AL Go.Sp

theorem byteA_lit (b : UInt8) : byteA b = .lit (.int .u8 b.toNat) := rfl
theorem eqLits_cell (c d : Cell) : eqLits [.int, .bool, .int, .int, .int, .int] [byteA c.char, .lit (.bool c.attr), byteA c.fa, byteA c.high, byteA c.color, byteA c.set]
    [byteA d.char, .lit (.bool d.attr), byteA d.fa, byteA d.high, byteA d.color, byteA d.set] = some (decide (c = d)) := by
  obtain ⟨a1, a2, a3, a4, a5, a6⟩ := c
  obtain ⟨b1, b2, b3, b4, b5, b6⟩ := d
  have h : ∀ x y : UInt8, ((x.toNat : Int) == (y.toNat : Int)) = decide (x = y) := fun x y => by rw [byte_eq]; rfl
  simp only [byteA_lit]
  simp [h]
  rw [Bool.eq_iff_iff]
  simp
theorem eqLits_zero (c : Cell) : eqLits [.int, .bool, .int, .int, .int, .int] [byteA c.char, .lit (.bool c.attr), byteA c.fa, byteA c.high, byteA c.color, byteA c.set]
    [.lit (.int .u8 0), .lit (.bool false), .lit (.int .u8 0), .lit (.int .u8 0), .lit (.int .u8 0), .lit (.int .u8 0)] = some (decide (c = .zero)) := eqLits_cell c .zero

def actsA (l : List Sp.Act) : List AV := l.map actA
@[simp] theorem actsA_length (l : List Sp.Act) : (actsA l).length = l.length := by simp [actsA]
theorem actsA_at (l : List Sp.Act) (i : Nat) (h : i < l.length) : (actsA l)[i]'(by simpa using h) = actA l[i] := by simp [actsA]

/-- Cells up to a place; the rest are null. -/
def upTo (s : Sp) (j : Nat) : Sp := { s with cells := s.cells.take j ++ List.replicate (s.n - j) .zero, cursor := 0 }
theorem upTo_len {s : Sp} (h : s.good) {j : Nat} (hj : j ≤ s.n) : (upTo s j).cells.length = s.n := by
  simp [upTo, h.len]; omega
theorem upTo_good {s : Sp} (h : s.good) {j : Nat} (hj : j ≤ s.n) : (upTo s j).good := by
  refine ⟨h.model, upTo_len h hj, s.n_pos, fun c hc => ?_⟩
  simp only [upTo, List.mem_append, List.mem_replicate] at hc
  rcases hc with hc | ⟨_, rfl⟩
  · exact h.fit c (List.mem_of_mem_take hc)
  · exact fitted_zero
theorem upTo_next {s : Sp} (h : s.good) {j : Nat} (hj : j < s.n) (hjc : j < s.cells.length) : (upTo s (j + 1)) = (upTo s j).set j s.cells[j] := by
  have hf : Sp.fit s.cells[j] = s.cells[j] := h.fit _ (List.getElem_mem hjc)
  have hw : wrap (upTo s j).n (j : Int) = j := wrap_of_lt hj
  simp only [Sp.set, hw, hf, Sp.put1]
  simp only [upTo]
  congr 1
  rw [List.take_succ_eq_append_getElem hjc, show s.n - j = (s.n - (j + 1)) + 1 by omega, List.replicate_succ]
  have hl : (s.cells.take j).length = j := by simp; omega
  rw [List.set_append_right _ _ (by omega), hl]
  simp only [List.append_assoc, Nat.sub_self, List.set_cons_zero, List.singleton_append]
theorem upTo_same {s : Sp} {j : Nat} (_h : s.good) (hj : j < s.n) (hjc : j < s.cells.length) (hz : s.cells[j] = .zero) : upTo s (j + 1) = upTo s j := by
  simp only [upTo]
  congr 1
  rw [List.take_succ_eq_append_getElem hjc, show s.n - j = (s.n - (j + 1)) + 1 by omega, List.replicate_succ, hz]
  simp only [List.append_assoc, List.singleton_append]
theorem upTo_zero (s : Sp) : upTo s 0 = Sp.clear ⟨s.model, false, [], 0⟩ s.alt := by simp [upTo, Sp.clear, Sp.n, Sp.rows, Sp.cols]

/-- Four blocks, apart. -/
structure Four (σ : Store) (q p x y : Nat) : Prop where
  q0 : σ q = none
  p0 : σ p = none
  x0 : σ x = none
  y0 : σ y = none
  qp : q ≠ p
  qx : q ≠ x
  qy : q ≠ y
  px : p ≠ x
  py : p ≠ y
  xy : x ≠ y
/-- The program's screen and the document's. -/
def both (σ : Store) (q p x y : Nat) (s t : Sp) : Store := putS spO (putS rfO σ x y t) q p s
theorem both_ref {σ : Store} {q p x y : Nat} {s t : Sp} (h : Four σ q p x y) (hg : t.good) : Ref (both σ q p x y s t) x y t :=
  ⟨by simp [both, putS, h.xy, Ne.symm h.qx, Ne.symm h.px], by simp [both, putS, Ne.symm h.qy, Ne.symm h.py], h.xy, hg⟩
theorem both_prg {σ : Store} {q p x y : Nat} {s t : Sp} (h : Four σ q p x y) (hg : s.good) : Prg (both σ q p x y s t) q p s := Scr.of_put h.qp hg
def LayR (σ : Store) (s : Sp) (v : AV) (σ' : Store) : Prop := ∃ q p x y : Nat, v = .tuple [ptrA q, ptrA x] ∧ Four σ q p x y ∧ σ' = both σ q p x y s s

theorem lays_step (m : UInt8) (l : List Sp.Act) (i : Nat) (h : i < l.length) (h2 : i < 30) : ((l.take 30).take (i + 1)).foldl Sp.act (Sp.new (2 + m.toNat % 4)) = (((l.take 30).take i).foldl Sp.act (Sp.new (2 + m.toNat % 4))).act l[i] := by
  have h3 : i < (l.take 30).length := by simp; omega
  rw [List.take_succ_eq_append_getElem h3, List.foldl_append]; simp
theorem foldl_model : ∀ (l : List Sp.Act) (s : Sp), (l.foldl Sp.act s).model = s.model
  | [], _ => rfl
  | a :: l, s => (foldl_model l (s.act a)).trans (s.model_act a)

end Go.Proofs.YtlmdbcgceijlnaaGreatDoor
/-
  The iterators over a screen.
-/
namespace Go.Proofs.YtlmdbcgceijlnaaGreatDoor
open Go Go.AL Go.Sp

/-- What an iterator over a screen finds. -/
def NeedS (b q p : Nat) (s : Sp) (_k : Nat) (τ : Store) : Prop := τ b = some [ptrA q] ∧ Prg τ q p s
theorem prg_mono {σ τ : Store} {q p : Nat} {s : Sp} {f : Sp → Nat → List AV} (h : Scr f τ q p s) (hs : Store.sub τ σ) : Scr f σ q p s := by
  refine ⟨?_, ?_, h.ne, h.good⟩
  · rcases hs q with h' | h'
    · rw [h.obj] at h'; cases h'
    · rw [← h', h.obj]
  · rcases hs p with h' | h'
    · rw [h.row] at h'; cases h'
    · rw [← h', h.row]
theorem sub_at {σ τ : Store} {b : Nat} {x : List AV} (h : τ b = some x) (hs : Store.sub τ σ) : σ b = some x := by
  rcases hs b with h' | h'
  · rw [h] at h'; cases h'
  · rw [← h', h]
theorem needS_mono {b q p : Nat} {s : Sp} {k : Nat} {τ τ' : Store} (h : NeedS b q p s k τ) (hs : Store.sub τ τ') : NeedS b q p s k τ' :=
  ⟨sub_at h.1 hs, prg_mono h.2 hs⟩

theorem all_calls2 (q : Nat) (σ : Store) : ACalls Tryz.prog 82 [ptrA q] σ fun v σ' => ∃ b : Nat, σ b = none ∧ v = .func (.func 124) [] [ptrA b] ∧ σ' = σ.upd b [ptrA q] := by
  refine ACalls.of_awp follows (st := st82) (plans := pl82) (n := 4) Tryz.func82 rfl (by kernel_rfl) (by kernel_rfl) (by kernel_rfl) ?_
  simp
  exact fun b hb => ⟨_, AV.le_refl _, _, Store.sub_refl _, b, hb, rfl, rfl⟩

set_option maxRecDepth 8000 in
theorem all_iter (b q p : Nat) (s : Sp) (σ : Store) : IterG Tryz.prog 124 [ptrA b] σ s.n (NeedS b q p s) fun k _ => [.lit (.int .i64 (k : Nat)), cellA (s.at k)] := by
  refine ⟨fun k τ τ' h hs => ⟨needS_mono h hs, rfl⟩, fun X l I J hneed hy τ E h0 hs => ?_⟩
  obtain ⟨hb, hP⟩ := needS_mono (hneed 0 τ E (Nat.zero_le _) h0) hs
  have hsz := size_calls hP
  have hcl := scells_calls s
  have hn := s.n_le
  refine ACallsY.of_awp follows (st := st124) (plans := pl124) (n := 18) Tryz.func124 rfl (by kernel_rfl) (by kernel_rfl) (by kernel_rfl) ?_
  simp [hb]
  refine callK.of hsz ?_
  rintro v σ' ⟨rfl, rfl⟩
  simp
  refine callK.of (hcl _) ?_
  rintro v σ' ⟨rfl, rfl⟩
  simp
  refine codeYK.loop follows (st := st124) (plans := pl124) (S := Nat × Store) (fun x => x.1 ≤ s.n)
    (fun x => [(0, .func (.yield l) [] []), (1, ptrA b), (6, .lit (.int .i64 s.n)), (7, .lit (.int .i64 x.1))]) (fun x => x.2) (fun x E => I x.1 x.2 E) (fun x => s.n - x.1) (0, τ) (by kernel_rfl) (by simp) (by simp) hs h0 ?_
  rintro ⟨k, τ1⟩ E1 hk hI
  dsimp only at hk hI ⊢
  obtain ⟨hb1, hP1⟩ := hneed k τ1 E1 hk hI
  by_cases hlt : k < s.n
  · have hat := at_calls hP1 (k : Int)
    have hw : IntKind.i64.wrap ((k : Int) + 1) = ((k + 1 : Nat) : Int) := wrap_i64 (by omega) (by omega)
    have hyk := hy k hlt τ1 E1 hI
    simp only [cellA_eq] at hat hyk
    simp [hlt, hb1]
    refine callK.of hat ?_
    rintro v σ' ⟨rfl, rfl⟩
    simp
    refine yieldK.of (by simp) hyk (Store.sub_refl _) ?_
    intro b2 τ' E' hR hap
    cases b2
    · simp
      exact ⟨⟨_, AV.le_refl _⟩, _, Store.sub_over _ _ _, τ', Store.sub_refl _, .inr (by simpa using hR)⟩
    · simp
      refine ⟨k + 1, by omega, by omega, by rw [hw]; exact AV.le_refl _, τ', Store.sub_over _ _ _, by simpa using hR⟩
  · obtain rfl : k = s.n := by omega
    simp
    exact ⟨⟨_, AV.le_refl _⟩, _, Store.sub_refl _, τ1, Store.sub_refl _, .inl hI⟩
end Go.Proofs.YtlmdbcgceijlnaaGreatDoor
/-
  The iterators over a screen's attributes.
-/
namespace Go.Proofs.YtlmdbcgceijlnaaGreatDoor
open Go Go.AL Go.Sp

theorem filter_at {α : Type} (P : α → Bool) (xs : List α) (k : Nat) (h : k < xs.length) : (xs.take (k + 1)).filter P = (xs.take k).filter P ++ (if P xs[k] = true then [xs[k]] else []) ∧ (P xs[k] = true → (xs.filter P)[((xs.take k).filter P).length]? = some xs[k]) := by
  refine ⟨?_, fun hp => ?_⟩
  · rw [List.take_succ_eq_append_getElem h, List.filter_append]
    congr 1
    simp only [List.filter_cons, List.filter_nil]
  · have e : xs = xs.take k ++ (xs[k] :: xs.drop (k + 1)) := by rw [← List.drop_eq_getElem_cons h, List.take_append_drop]
    conv => lhs; rw [e]
    rw [List.filter_append, List.filter_cons_of_pos hp]
    have e2 : ((List.take k (xs.take k ++ xs[k] :: xs.drop (k + 1))).filter P).length = ((xs.take k).filter P).length := by rw [← e]
    rw [e2, List.getElem?_append_right (Nat.le_refl _), Nat.sub_self]; rfl

/-- How many of the first ones are so. -/
def cntP {α : Type} (P : α → Bool) (xs : List α) (k : Nat) : Nat := ((xs.take k).filter P).length
theorem cntP_zero {α : Type} (P : α → Bool) (xs : List α) : cntP P xs 0 = 0 := by simp [cntP]
theorem cntP_all {α : Type} (P : α → Bool) (xs : List α) : cntP P xs xs.length = (xs.filter P).length := by simp [cntP]
theorem cntP_yes {α : Type} {P : α → Bool} {xs : List α} {k : Nat} (h : k < xs.length) (hp : P xs[k] = true) : cntP P xs (k + 1) = cntP P xs k + 1 ∧ cntP P xs k < (xs.filter P).length ∧ (xs.filter P)[cntP P xs k]? = some xs[k] := by
  obtain ⟨h1, h2⟩ := filter_at P xs k h
  have h2 := h2 hp
  refine ⟨?_, (List.getElem?_eq_some_iff.1 h2).1, h2⟩
  rw [cntP, h1, if_pos hp]; simp [cntP]
theorem cntP_no {α : Type} {P : α → Bool} {xs : List α} {k : Nat} (h : k < xs.length) (hp : P xs[k] = false) : cntP P xs (k + 1) = cntP P xs k := by
  obtain ⟨h1, _⟩ := filter_at P xs k h
  rw [cntP, h1, if_neg (by simp [hp])]; simp [cntP]

def isAt (s : Sp) (i : Nat) : Bool := (s.cells[i]?.getD .zero).attr
theorem attrs_eq (s : Sp) (h : s.good) : s.attrs = (List.range s.n).filter (isAt s) := by rw [← h.len]; rfl
theorem at_of {s : Sp} (_h : s.good) {i : Nat} (hi : i < s.n) : s.at (i : Int) = s.cells[i]?.getD .zero := by
  unfold Sp.at; rw [wrap_of_lt hi]
theorem attrs_calls2 (q : Nat) (σ : Store) : ACalls Tryz.prog 118 [ptrA q] σ fun v σ' => ∃ b : Nat, σ b = none ∧ v = .func (.func 156) [] [ptrA b] ∧ σ' = σ.upd b [ptrA q] := by
  refine ACalls.of_awp follows (st := st118) (plans := pl118) (n := 4) Tryz.func118 rfl (by kernel_rfl) (by kernel_rfl) (by kernel_rfl) ?_
  simp
  exact fun b hb => ⟨_, AV.le_refl _, _, Store.sub_refl _, b, hb, rfl, rfl⟩

/-- What an iterator keeps beside what its rounds know of. -/
structure Beside (τ ρ : Store) (b2 y : Nat) (f g : AV) : Prop where
  b0 : τ b2 = none
  y0 : τ y = none
  ne : b2 ≠ y
  eq : ρ = (τ.upd b2 [f]).upd y [g]
theorem Beside.sub {τ ρ : Store} {b2 y : Nat} {f g : AV} (h : Beside τ ρ b2 y f g) : Store.sub τ ρ := by
  rw [h.eq]
  exact Store.sub_upd h.y0 (Store.sub_upd h.b0 (Store.sub_refl _))
/-- Behind a round. -/
theorem Beside.next {τ ρ τ' cur : Store} {b2 y : Nat} {f g : AV} (h : Beside τ ρ b2 y f g) (hc : Store.sub ρ cur) (hap : Apart τ' τ cur) : ∃ ρ', Store.sub ρ' (Store.over τ' τ cur) ∧ Beside τ' ρ' b2 y f g := by
  have c1 : cur b2 = some [f] := sub_at (by rw [h.eq]; simp [h.ne]) hc
  have c2 : cur y = some [g] := sub_at (by rw [h.eq]; simp) hc
  have d1 := hap b2 h.b0 (by rw [c1]; simp)
  have d2 := hap y h.y0 (by rw [c2]; simp)
  refine ⟨(τ'.upd b2 [f]).upd y [g], Store.sub2 (fun o => ?_) (fun i => by simpa using Store.sub_over τ' τ cur (mkey i)), ⟨d1, d2, h.ne, rfl⟩⟩
  by_cases h1 : o = y
  · subst h1; right; simp [Store.over, d2, h.y0, c2]
  · by_cases h2 : o = b2
    · subst h2; right; simp [Store.over, d1, h.b0, c1, h.ne]
    · simp only [supd_apply, if_neg h1, if_neg h2]
      exact Store.sub_over τ' τ cur o

set_option maxRecDepth 8000 in
theorem attrs_iter (b q p : Nat) (s : Sp) (σ : Store) : IterG Tryz.prog 156 [ptrA b] σ s.attrs.length (NeedS b q p s) fun k _ => [.lit (.int .i64 (s.attrs[k]?.getD 0 : Nat))] := by
  refine ⟨fun k τ τ' h hs => ⟨needS_mono h hs, rfl⟩, fun X l I J hneed hy τ E h0 hs => ?_⟩
  have hN0 := hneed 0 τ E (Nat.zero_le _) h0
  obtain ⟨hb, hP⟩ := needS_mono hN0 hs
  have hg := hP.good
  have hae := attrs_eq s hg
  have hc0 := cntP_zero (isAt s) (List.range s.n)
  have hcN := cntP_all (isAt s) (List.range s.n)
  rw [List.length_range, ← hae] at hcN
  refine ACallsY.of_awp follows (st := st156) (plans := pl156) (n := 17) Tryz.func156 rfl (by kernel_rfl) (by kernel_rfl) (by kernel_rfl) ?_
  simp [hb]
  intro y hyn
  have hby : ¬ b = y := by rintro rfl; rw [hb] at hyn; cases hyn
  simp [hby]
  refine callK.of (all_calls2 q _) ?_
  rintro v σ' ⟨b2, hb2, rfl, rfl⟩
  simp only [supd_apply, ite_none] at hb2
  obtain ⟨e1, hb2⟩ := hb2
  have tn : ∀ o : Nat, σ o = none → τ o = none := fun o ho => by
    rcases hs o with h | h
    · exact h
    · rw [h, ho]
  simp
  have hB0 : Beside τ ((τ.upd b2 [ptrA q]).upd y [.func (.yield l) [] []]) b2 y (ptrA q) (.func (.yield l) [] []) := ⟨tn _ hb2, tn _ hyn, e1, rfl⟩
  refine codeYK.rangeG follows (st := st156) (plans := pl156) (all_iter b2 q p s _) (by simp) (by simp) (by simp) (by kernel_rfl) (by kernel_rfl) (by kernel_rfl)
    (fun k ρ E => ∃ τ, I (cntP (isAt s) (List.range s.n) k) τ E ∧ Beside τ ρ b2 y (ptrA q) (.func (.yield l) [] [])) (fun c ρ E => c = .ret ∧ ∃ τ, J τ E ∧ Store.sub τ ρ)
    _ ⟨τ, by rw [hc0]; exact h0, hB0⟩ ?_ ?_ ?_ ?_ ?_
  · refine Store.sub2 (fun o => ?_) (fun i => by simpa using hs (mkey i))
    simp only [supd_apply]
    by_cases h1 : o = y
    · subst h1; right; simp [Ne.symm e1]
    · by_cases h2 : o = b2
      · subst h2; right; simp [h1]
      · simp only [if_neg h1, if_neg h2]; exact hs o
  · rintro k ρ E hk ⟨τ1, hI, hB⟩
    have hle : cntP (isAt s) (List.range s.n) k ≤ s.attrs.length := by
      rw [hae]; exact (List.Sublist.filter _ (List.take_sublist _ _)).length_le
    have := hneed _ τ1 E hle hI
    refine ⟨?_, prg_mono this.2 hB.sub⟩
    rw [hB.eq]; simp [e1]
  · rintro k hk ρ E ⟨τ1, hI, hB⟩
    have hkr : k < (List.range s.n).length := by simpa using hk
    have hgk : (List.range s.n)[k] = k := by simp
    have hat := at_of hg hk
    have hρy : ρ y = some [.func (.yield l) [] []] := by rw [hB.eq]; simp
    by_cases ha : isAt s k = true
    · obtain ⟨c1, c2, c3⟩ := cntP_yes (P := isAt s) hkr (by rw [hgk]; exact ha)
      rw [← hae] at c2 c3
      rw [hgk] at c3
      have hyk := hy _ c2 τ1 E hI
      rw [c3] at hyk
      rw [← c1] at hyk
      have hca : (s.at (k : Int)).attr = true := by rw [hat]; exact ha
      simp +contextual [cellA, cellC, hca]
      intro c hc
      have hyc : ¬ y = c := by rintro rfl; rw [hρy] at hc; cases hc
      simp [hρy, hyc]
      have hcur : Store.sub ρ (ρ.upd c [byteA (s.at (k : Int)).char, .lit (.bool true), byteA (s.at (k : Int)).fa, byteA (s.at (k : Int)).high, byteA (s.at (k : Int)).color, byteA (s.at (k : Int)).set]) := Store.sub_upd hc (Store.sub_refl _)
      refine yieldK.of (args' := [.lit (.int .i64 (k : Nat))]) (by simp) hyk (Store.sub_trans hB.sub hcur) ?_
      intro b3 τ' E' hR hap
      cases b3
      · simp
        exact ⟨_, Store.sub_refl _, τ', by simpa using hR, Store.sub_over _ _ _⟩
      · simp
        obtain ⟨ρ', h1, h2⟩ := hB.next hcur hap
        exact ⟨ρ', h1, τ', by simpa using hR, h2⟩
    · have ha' : isAt s k = false := by simpa using ha
      have c1 := cntP_no (P := isAt s) hkr (by rw [hgk]; exact ha')
      have hca : (s.at (k : Int)).attr = false := by rw [hat]; exact ha'
      simp +contextual [cellA, cellC, hca]
      intro c hc
      exact ⟨ρ, Store.sub_upd hc (Store.sub_refl _), τ1, by rw [c1]; exact hI, hB⟩
  · rintro ρ E2 σ2 hs2 ⟨τ1, hI, hB⟩
    rw [hcN] at hI
    simp
    exact ⟨⟨_, AV.le_refl _⟩, _, Store.sub_refl _, τ1, Store.sub_trans hB.sub hs2, .inl hI⟩
  · rintro c ρ E2 σ2 hs2 ⟨rfl, τ1, hJ, hsub⟩
    simp
    exact ⟨⟨_, AV.le_refl _⟩, _, Store.sub_refl _, τ1, Store.sub_trans hsub hs2, .inr hJ⟩
end Go.Proofs.YtlmdbcgceijlnaaGreatDoor
/-
  The iterators over a screen's fields.
-/
namespace Go.Proofs.YtlmdbcgceijlnaaGreatDoor
open Go Go.AL Go.Sp

theorem fld_prg (b : UInt8) : ((((b &&& 32).toNat : Nat) : Int) != 0) = (fld b).prot ∧ ((((b &&& 16).toNat : Nat) : Int) != 0) = (fld b).num ∧ (b &&& 12).toNat / 4 = (fld b).disp ∧ ((((b &&& 1).toNat : Nat) : Int) != 0) = (fld b).mod :=
  all_bytes (p := fun b => ((((b &&& 32).toNat : Nat) : Int) != 0) = (fld b).prot ∧ ((((b &&& 16).toNat : Nat) : Int) != 0) = (fld b).num ∧ (b &&& 12).toNat / 4 = (fld b).disp ∧ ((((b &&& 1).toNat : Nat) : Int) != 0) = (fld b).mod) (by decide +kernel) b
set_option maxRecDepth 4000 in
theorem of_calls (b : UInt8) (σ : Store) : ACalls Tryz.prog 110 [byteA b] σ fun v σ' => v = fldA (fld b) ∧ σ' = σ := by
  obtain ⟨h1, h2, h3, h4⟩ := fld_prg b
  rw [fldA, ← h1, ← h2, ← h3, ← h4]
  have a1 : pureBin .and (.int .u8 (b.toNat : Int)) (.int .u8 32) = some (.int .u8 ((b &&& 32).toNat : Int)) := and_u8 b 32
  have a2 : pureBin .and (.int .u8 (b.toNat : Int)) (.int .u8 16) = some (.int .u8 ((b &&& 16).toNat : Int)) := and_u8 b 16
  have a3 : pureBin .and (.int .u8 (b.toNat : Int)) (.int .u8 12) = some (.int .u8 ((b &&& 12).toNat : Int)) := and_u8 b 12
  have a4 : pureBin .and (.int .u8 (b.toNat : Int)) (.int .u8 1) = some (.int .u8 ((b &&& 1).toNat : Int)) := and_u8 b 1
  have hl := (b &&& 12).toNat_lt
  have hw : IntKind.i64.wrap ((b &&& 12).toNat : Int) = ((b &&& 12).toNat : Int) := wrap_i64 (by omega) (by omega)
  have hs := shr_nat (b &&& 12).toNat 2 (by omega)
  have hs' : pureBin .shr (.int .i64 ((b &&& 12).toNat : Int)) (.int .u64 2) = some (.int .i64 (((b &&& 12).toNat / 4 : Nat) : Int)) := hs
  refine ACalls.of_awp follows (st := st110) (plans := pl110) (n := 17) Tryz.func110 rfl (by kernel_rfl) (by kernel_rfl) (by kernel_rfl) ?_
  generalize (b &&& 32).toNat = x1 at *
  generalize (b &&& 16).toNat = x2 at *
  generalize (b &&& 12).toNat = x3 at *
  generalize (b &&& 1).toNat = x4 at *
  simp [-e_pureBin_8, -e_pureBin_2, byteA, a1, a2, a3, a4, hw, hs']
  intro p hp
  (intro q; simp only [Store.upd, Store.del]; (repeat' split) <;> first | exact Or.inr rfl | exact Or.inl rfl | (exfalso; omega) | (left; subst_vars; assumption) | simp_all)
theorem fields_calls2 (q : Nat) (σ : Store) : ACalls Tryz.prog 72 [ptrA q] σ fun v σ' => ∃ b : Nat, σ b = none ∧ v = .func (.func 117) [] [ptrA b] ∧ σ' = σ.upd b [ptrA q] := by
  refine ACalls.of_awp follows (st := st72) (plans := pl72) (n := 4) Tryz.func72 rfl (by kernel_rfl) (by kernel_rfl) (by kernel_rfl) ?_
  simp
  exact fun b hb => ⟨_, AV.le_refl _, _, Store.sub_refl _, b, hb, rfl, rfl⟩
/-- The plan of the region that asks for a round. -/
def pl106t : List (Nat × Plan) := [(3, Plan.tail 7 (Plan.seq [1, 2, 3] (.alt (Plan.seq [0, 4, 5, 6] (.done)) (Plan.seq [4, 5] (.alt (Plan.seq [0, 6] (.done)) (Plan.seq [6, 0] (.done)))))))]
def atFld (s : Sp) (k : Nat) : Nat × Fld := (s.attrs[k]?.getD 0, fld ((s.cells[s.attrs[k]?.getD 0]?.getD .zero).fa))

set_option maxRecDepth 8000 in
theorem fields_iter (b q p : Nat) (s : Sp) (σ : Store) : IterG Tryz.prog 117 [ptrA b] σ s.attrs.length (NeedS b q p s) fun k _ => [.lit (.int .i64 ((atFld s k).1 : Nat)), fldA (atFld s k).2] := by
  refine ⟨fun k τ τ' h hs => ⟨needS_mono h hs, rfl⟩, fun X l I J hneed hy τ E h0 hs => ?_⟩
  have hN0 := hneed 0 τ E (Nat.zero_le _) h0
  obtain ⟨hb, hP⟩ := needS_mono hN0 hs
  have hg := hP.good
  refine ACallsY.of_awp follows (st := st117) (plans := pl106t) (n := 16) Tryz.func117 rfl (by kernel_rfl) (by kernel_rfl) (by kernel_rfl) ?_
  simp [hb]
  intro y hyn
  have hby : ¬ b = y := by rintro rfl; rw [hb] at hyn; cases hyn
  simp [hby]
  refine callK.of (attrs_calls2 q _) ?_
  rintro v σ' ⟨b2, hb2, rfl, rfl⟩
  simp only [supd_apply, ite_none] at hb2
  obtain ⟨e1, hb2⟩ := hb2
  have tn : ∀ o : Nat, σ o = none → τ o = none := fun o ho => by
    rcases hs o with h | h
    · exact h
    · rw [h, ho]
  simp
  have hB0 : Beside τ ((τ.upd b2 [ptrA q]).upd y [.func (.yield l) [] []]) b2 y (ptrA q) (.func (.yield l) [] []) := ⟨tn _ hb2, tn _ hyn, e1, rfl⟩
  refine codeYK.rangeG follows (st := st117) (plans := pl106t) (attrs_iter b2 q p s _) (by simp) (by simp) (by simp) (by kernel_rfl) (by kernel_rfl) (by kernel_rfl)
    (fun k ρ E => ∃ τ, I k τ E ∧ Beside τ ρ b2 y (ptrA q) (.func (.yield l) [] [])) (fun c ρ E => c = .ret ∧ ∃ τ, J τ E ∧ Store.sub τ ρ)
    _ ⟨τ, h0, hB0⟩ ?_ ?_ ?_ ?_ ?_
  · refine Store.sub2 (fun o => ?_) (fun i => by first | simpa using hs (mkey i) | simp)
    simp only [supd_apply]
    by_cases h1 : o = y
    · subst h1; right; simp [Ne.symm e1]
    · by_cases h2 : o = b2
      · subst h2; right; simp [h1]
      · simp only [if_neg h1, if_neg h2]; exact hs o
  · rintro k ρ E hk ⟨τ1, hI, hB⟩
    have := hneed _ τ1 E hk hI
    refine ⟨?_, prg_mono this.2 hB.sub⟩
    rw [hB.eq]; simp [e1]
  · rintro k hk ρ E ⟨τ1, hI, hB⟩
    have hyk := hy _ hk τ1 E hI
    have hNe := hneed _ τ1 E (Nat.le_of_lt hk) hI
    have hPr := prg_mono hNe.2 hB.sub
    have hρb := sub_at hNe.1 hB.sub
    have hρy : ρ y = some [.func (.yield l) [] []] := by rw [hB.eq]; simp
    have hm : s.attrs[k]?.getD 0 ∈ s.attrs := by
      rw [List.getElem?_eq_getElem hk]; exact List.getElem_mem hk
    obtain ⟨m1, m2⟩ := mem_attrs hm
    rw [hg.len] at m1
    have hat := at_calls hPr ((s.attrs[k]?.getD 0 : Nat) : Int)
    have hae := at_of hg m1
    have hof := of_calls ((s.at ((s.attrs[k]?.getD 0 : Nat) : Int)).fa)
    have hF : (atFld s k).2 = fld ((s.at ((s.attrs[k]?.getD 0 : Nat) : Int)).fa) := by rw [hae]; rfl
    have hF1 : (atFld s k).1 = s.attrs[k]?.getD 0 := rfl
    rw [hF, hF1] at hyk
    generalize s.attrs[k]?.getD 0 = a at *
    generalize s.at (a : Int) = c at *
    simp only [cellA_eq] at hat
    have hfa : ∀ f : Fld, fldA f = .agg [.lit (.bool f.prot), .lit (.bool f.num), .lit (.int .i64 f.disp), .lit (.bool f.mod)] := fun _ => rfl
    simp only [hfa] at hof hyk
    simp +contextual [pl106t, hρy, hρb]
    repeat' (with_reducible apply And.intro)
    all_goals
      refine callK.of hat ?_
      rintro v σ' ⟨rfl, rfl⟩
      simp [hρy]
      repeat' (with_reducible apply And.intro)
    all_goals
    all_goals
      refine callK.of (hof _) ?_
      rintro v σ' ⟨rfl, rfl⟩
      simp [hρy]
    all_goals
      refine yieldK.of (by simp) hyk hB.sub ?_
      intro b3 τ' E' hR hap
      cases b3
      · simp
        exact ⟨_, Store.sub_refl _, τ', by simpa using hR, Store.sub_over _ _ _⟩
      · simp
        obtain ⟨ρ', h1, h2⟩ := hB.next (Store.sub_refl _) hap
        exact ⟨ρ', h1, τ', by simpa using hR, h2⟩
  · rintro ρ E2 σ2 hs2 ⟨τ1, hI, hB⟩
    simp
    exact ⟨⟨_, AV.le_refl _⟩, _, Store.sub_refl _, τ1, Store.sub_trans hB.sub hs2, .inl hI⟩
  · rintro c ρ E2 σ2 hs2 ⟨rfl, τ1, hJ, hsub⟩
    simp
    exact ⟨⟨_, AV.le_refl _⟩, _, Store.sub_refl _, τ1, Store.sub_trans hsub hs2, .inr hJ⟩
end Go.Proofs.YtlmdbcgceijlnaaGreatDoor
/-
  The iterators over modified fields, and over a field's places.
-/
namespace Go.Proofs.YtlmdbcgceijlnaaGreatDoor
open Go Go.AL Go.Sp

def isMod (s : Sp) (a : Nat) : Bool := (fld (s.cells[a]?.getD .zero).fa).mod
theorem places_calls2 (q : Nat) (a : Int) (σ : Store) : ACalls Tryz.prog 76 [ptrA q, .lit (.int .i64 a)] σ fun v σ' => ∃ (b c : Nat), σ b = none ∧ σ c = none ∧ b ≠ c ∧ v = .func (.func 120) [] [ptrA b, ptrA c] ∧ σ' = (σ.upd b [ptrA q]).upd c [.lit (.int .i64 a)] := by
  refine ACalls.of_awp follows (st := st76) (plans := pl76) (n := 6) Tryz.func76 rfl (by kernel_rfl) (by kernel_rfl) (by kernel_rfl) ?_
  simp +contextual [ite_free]
  exact fun b hb c h1 h2 hc => ⟨_, AV.le_refl _, _, Store.sub_refl _, b, hb, c, hc, h2, rfl, rfl⟩
/-- What the iterator over a field's places finds. -/
def NeedP (b c q p : Nat) (s : Sp) (a : Nat) (_k : Nat) (τ : Store) : Prop := τ b = some [ptrA q] ∧ τ c = some [.lit (.int .i64 a)] ∧ Prg τ q p s
theorem needP_mono {b c q p a : Nat} {s : Sp} {k : Nat} {τ τ' : Store} (h : NeedP b c q p s a k τ) (hs : Store.sub τ τ') : NeedP b c q p s a k τ' :=
  ⟨sub_at h.1 hs, sub_at h.2.1 hs, prg_mono h.2.2 hs⟩
theorem wrap_mod {n k : Nat} (_h : 0 < n) : wrap n (k : Int) = k % n := by
  unfold wrap
  rw [← Int.natCast_emod]; rfl

set_option maxRecDepth 8000 in
theorem places_iter (b c q p : Nat) (s : Sp) (a : Nat) (ha : a < s.n) (hat : attrAt s.cells a = true) (σ : Store) : IterG Tryz.prog 120 [ptrA b, ptrA c] σ (Sp.len s.cells a) (NeedP b c q p s a) fun k _ => [.lit (.int .i64 ((a + k + 1) % s.n : Nat))] := by
  refine ⟨fun k τ τ' h hs => ⟨needP_mono h hs, rfl⟩, fun X l I J hneed hy τ E h0 hs => ?_⟩
  have hN0 := hneed 0 τ E (Nat.zero_le _) h0
  obtain ⟨hb, hc, hP⟩ := needP_mono hN0 hs
  have hg := hP.good
  have hln := hg.len
  have hn := s.n_le
  have hnp := s.n_pos
  have tn : ∀ o : Nat, σ o = none → τ o = none := fun o ho => by
    rcases hs o with h | h
    · exact h
    · rw [h, ho]
  have hsz := size_calls hP
  have hw1 := swrap_calls s (a : Int)
  rw [wrap_of_lt ha] at hw1
  have hca : (s.at (a : Int)).attr = true := by rw [at_of hg ha]; exact hat
  have hat1 := fun τ (hτ : Prg τ q p s) => at_calls hτ (a : Int)
  simp only [cellA_eq, hca] at hat1
  have hw2 := swrap_calls s ((a : Int) + 1)
  have e2 : wrap s.n ((a : Int) + 1) = (a + 0 + 1) % s.n := by
    rw [show ((a : Int) + 1) = ((a + 1 : Nat) : Int) by omega, wrap_mod hnp]
  rw [e2] at hw2
  have hi1 : IntKind.i64.wrap ((a : Int) + 1) = (a : Int) + 1 := wrap_i64 (by omega) (by omega)
  refine ACallsY.of_awp follows (st := st120) (plans := pl120) (n := 33) Tryz.func120 rfl (by kernel_rfl) (by kernel_rfl) (by kernel_rfl) ?_
  simp [hb]
  refine callK.of hsz ?_
  rintro v σ' ⟨rfl, rfl⟩
  simp
  intro z hz
  have hcz : ¬ c = z := by rintro rfl; rw [hc] at hz; cases hz
  have hbz : ¬ b = z := by rintro rfl; rw [hb] at hz; cases hz
  simp [hc, hcz]
  refine callK.of (hw1 _) ?_
  rintro v σ' ⟨rfl, rfl⟩
  have hqc : ¬ q = c := by
    rintro rfl; have := hP.obj; rw [hc] at this; simp [spO] at this
  have hpc : ¬ p = c := by
    rintro rfl
    have h1 := hP.row; rw [hc] at h1
    have h2 := congrArg (fun o => (o.getD []).length) h1
    simp only [Option.getD_some, cellsO_length, List.length_cons, List.length_nil] at h2; omega
  obtain ⟨m1, m2, m3, m4⟩ := hP.fresh hz
  have hbc : ¬ b = c := by
    rintro rfl; rw [hb] at hc; simp at hc
  simp [hc, hcz, hb, hbz, hbc]
  refine callK.of (hat1 _ ((hP.new hz _).upd ⟨hqc, hpc⟩ _)) ?_
  rintro v σ' ⟨rfl, rfl⟩
  simp [Ne.symm hcz, hi1]
  refine callK.of (hw2 _) ?_
  rintro v σ' ⟨rfl, rfl⟩
  simp
  have hlen := Sp.len_lt (l := s.cells) (a := a) (by omega)
  refine codeYK.loop follows (st := st120) (plans := pl120) (S := Nat × Store) (fun x => x.1 ≤ Sp.len s.cells a ∧ x.2 z = none)
    (fun x => [(0, .func (.yield l) [] []), (1, ptrA b), (2, ptrA c), (4, ptrA z), (5, .lit (.int .i64 ((a + x.1 + 1) % s.n : Nat)))]) (fun x => x.2.upd z [.lit (.int .i64 s.rows), .lit (.int .i64 s.cols)]) (fun x E => I x.1 x.2 E) (fun x => Sp.len s.cells a - x.1) (0, τ) (by kernel_rfl) ⟨Nat.zero_le _, tn _ hz⟩ (by simp) ?_ h0 ?_
  · refine Store.sub2 (fun o => ?_) (fun i => by simpa using hs (mkey i))
    dsimp only
    simp only [supd_apply]
    by_cases h1 : o = z
    · subst h1; right; simp [Ne.symm hcz]
    · by_cases h2 : o = c
      · subst h2
        rcases hs o with h | h
        · left; simp [h1, h]
        · right; simp [h1, h, hc]
      · simp only [if_neg h1, if_neg h2]; exact hs o
  rintro ⟨k, τ1⟩ E1 ⟨hk, hz1⟩ hI
  dsimp only at hk hz1 hI ⊢
  have hNk := hneed k τ1 E1 hk hI
  have hsub : Store.sub τ1 (τ1.upd z [.lit (.int .i64 s.rows), .lit (.int .i64 s.cols)]) := Store.sub_upd hz1 (Store.sub_refl _)
  have hPk := prg_mono hNk.2.2 hsub
  have hbk := sub_at hNk.1 hsub
  have hml : (a + k + 1) % s.n < s.n := Nat.mod_lt _ hnp
  have hatk := at_calls hPk (((a + k + 1) % s.n : Nat) : Int)
  have hae := at_of hg hml
  by_cases hlt : k < Sp.len s.cells a
  · have hfree := Sp.len_free (l := s.cells) (a := a) (j := k + 1) (by omega) (by omega)
    rw [show a + (k + 1) = a + k + 1 by omega, hln] at hfree
    have hcf : (s.at (((a + k + 1) % s.n : Nat) : Int)).attr = false := by rw [hae]; exact hfree
    have hyk := hy k hlt τ1 E1 hI
    have hwk := swrap_calls s ((((a + k + 1) % s.n : Nat) : Int) + 1)
    have e3 : wrap s.n ((((a + k + 1) % s.n : Nat) : Int) + 1) = (a + (k + 1) + 1) % s.n := by
      rw [show ((((a + k + 1) % s.n : Nat) : Int) + 1) = (((a + k + 1) % s.n + 1 : Nat) : Int) by omega, wrap_mod hnp, Nat.mod_add_mod, show a + (k + 1) + 1 = a + k + 1 + 1 by omega]
    rw [e3] at hwk
    have hik : IntKind.i64.wrap ((((a + k + 1) % s.n : Nat) : Int) + 1) = (((a + k + 1) % s.n : Nat) : Int) + 1 := wrap_i64 (by omega) (by omega)
    generalize (a + k + 1) % s.n = m at *
    simp only [cellA_eq, hcf] at hatk
    have hbk' : τ1 b = some [ptrA q] := hNk.1
    simp [hbk', hbz]
    refine callK.of hatk ?_
    rintro v σ' ⟨rfl, rfl⟩
    simp
    refine yieldK.of (args' := [.lit (.int .i64 (m : Nat))]) (by simp) hyk hsub ?_
    intro b3 τ' E' hR hap
    have hz2 : τ' z = none := hap z hz1 (by simp)
    have hov : Store.over τ' τ1 (τ1.upd z [.lit (.int .i64 s.rows), .lit (.int .i64 s.cols)]) z = some [.lit (.int .i64 s.rows), .lit (.int .i64 s.cols)] := by
      rw [Store.over_apart hap hz1 (by simp)]; simp
    cases b3
    · simp
      exact ⟨⟨_, AV.le_refl _⟩, _, Store.sub_refl _, τ', Store.sub_over _ _ _, .inr (by simpa using hR)⟩
    · simp [hov, hik]
      refine callK.of (hwk _) ?_
      rintro v σ' ⟨rfl, rfl⟩
      simp
      refine ⟨k + 1, τ', ⟨by omega, hz2⟩, by omega, AV.le_refl _, Store.sub2 (fun o => ?_) (fun i => by simpa using Store.sub_over _ _ _ (mkey i)), by simpa using hR⟩
      by_cases h1 : o = z
      · subst h1; right; rw [hov]; simp
      · simp only [supd_apply, if_neg h1]; exact Store.sub_over _ _ _ o
  · obtain rfl : k = Sp.len s.cells a := by omega
    have hstop := Sp.len_stop hat (by omega)
    rw [hln] at hstop
    have hcf : (s.at (((a + Sp.len s.cells a + 1) % s.n : Nat) : Int)).attr = true := by rw [hae]; exact hstop
    generalize (a + Sp.len s.cells a + 1) % s.n = m at *
    simp only [cellA_eq, hcf] at hatk
    have hbk' : τ1 b = some [ptrA q] := hNk.1
    simp [hbk', hbz]
    refine callK.of hatk ?_
    rintro v σ' ⟨rfl, rfl⟩
    simp
    exact ⟨⟨_, AV.le_refl _⟩, _, Store.sub_refl _, τ1, hsub, .inl hI⟩
end Go.Proofs.YtlmdbcgceijlnaaGreatDoor
/-
  Fields, plainly: where one may write, the next one, runs of places.
-/
namespace Go.Proofs.YtlmdbcgceijlnaaGreatDoor
open Go Go.AL Go.Sp

/-- The places from one on up to another. -/
def spanLen (N f t : Nat) : Nat := if (t + N - f) % N = 0 then N else (t + N - f) % N
def spanL (N f t : Nat) : List Nat := (List.range (spanLen N f t)).map fun i => (f + i) % N
def fldAt (s : Sp) (a : Nat) : Fld := fld (s.cells[a]?.getD .zero).fa
/-- May one write there? -/
def openS (s : Sp) (n : Nat) : Bool := !(attrAt s.cells n) && !(decide (0 ≤ startS s.cells n) && (fldAt s (startS s.cells n).toNat).prot)
def rangeS (s : Sp) (l : List Nat) : Sp := l.foldl (fun s (n : Nat) => if openS s n = true then s.put n 0 else s) s
def repeatS (s : Sp) (l : List Nat) (c : Cell) : Sp := l.foldl (fun s (n : Nat) => s.set n c) s
/-- Is it the first place of an unprotected field? -/
def firstS (s : Sp) (n : Nat) : Bool := (s.at ((n : Int) - 1)).attr && !(s.at n).attr && !(fld (s.at ((n : Int) - 1)).fa).prot
def nextS (s : Sp) (n : Nat) : Int := match (List.range s.n).find? (fun i => firstS s ((n + i + 1) % s.n)) with
  | some i => ((n + i + 1) % s.n : Nat)
  | none => -1
def nullsL (s : Sp) (n : Nat) : List Nat := ((List.range (s.n - n)).map fun i => n + i).takeWhile fun k => !attrAt s.cells k
def nullS (s : Sp) (l : List Nat) : Sp := l.foldl (fun s (n : Nat) => s.put n 0) s
end Go.Proofs.YtlmdbcgceijlnaaGreatDoor
/-
  The places from one up to another.
-/
namespace Go.Proofs.YtlmdbcgceijlnaaGreatDoor
open Go Go.AL Go.Sp

abbrev sizeA (s : Sp) : AV := .agg [.lit (.int .i64 s.rows), .lit (.int .i64 s.cols)]
/-- What the iterator over places keeps. -/
def NeedB (b1 b2 b3 : Nat) (s : Sp) (f t : Nat) (τ : Store) : Prop := τ b1 = some [.lit (.int .i64 s.rows), .lit (.int .i64 s.cols)] ∧ τ b2 = some [.lit (.int .i64 f)] ∧ τ b3 = some [.lit (.int .i64 t)]
theorem NeedB.mono {b1 b2 b3 : Nat} {s : Sp} {f t : Nat} {τ τ' : Store} (h : NeedB b1 b2 b3 s f t τ) (hs : Store.sub τ τ') : NeedB b1 b2 b3 s f t τ' := ⟨sub_at h.1 hs, sub_at h.2.1 hs, sub_at h.2.2 hs⟩
end Go.Proofs.YtlmdbcgceijlnaaGreatDoor
