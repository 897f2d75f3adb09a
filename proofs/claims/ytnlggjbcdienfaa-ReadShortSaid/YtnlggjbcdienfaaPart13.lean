/-
  The iterators over a screen's attributes.
-/
import Derived.Test.YtnlggjbcdienfaaPart12
namespace Go.Proofs.Ytnlggjbcdienfaa
open Go Go.AL Go.Sp

theorem filter_at {α : Type} (P : α → Bool) (xs : List α) (k : Nat) (h : k < xs.length) : (xs.take (k + 1)).filter P = (xs.take k).filter P ++ (if P xs[k] = true then [xs[k]] else []) ∧ (P xs[k] = true → (xs.filter P)[((xs.take k).filter P).length]? = some xs[k]) := by
  refine ⟨?_, fun hp => ?_⟩
  · rw [List.take_succ_eq_append_getElem h, List.filter_append]
    congr 1
    simp only [List.filter_cons, List.filter_nil]
  · have e : xs = xs.take k ++ (xs[k] :: xs.drop (k + 1)) := by rw [← List.drop_eq_getElem_cons h, List.take_append_drop]
    conv => lhs; rw [e]
    rw [List.filter_append, List.filter_cons_of_pos hp]
    have e2 : ((List.take k (xs.take k ++ xs[k] :: xs.drop (k + 1))).filter P).length = ((xs.take k).filter P).length := by rw [← e]
    rw [e2, List.getElem?_append_right (Nat.le_refl _), Nat.sub_self]; rfl

/-- How many of the first ones are so. -/
def cntP {α : Type} (P : α → Bool) (xs : List α) (k : Nat) : Nat := ((xs.take k).filter P).length
theorem cntP_zero {α : Type} (P : α → Bool) (xs : List α) : cntP P xs 0 = 0 := by simp [cntP]
theorem cntP_all {α : Type} (P : α → Bool) (xs : List α) : cntP P xs xs.length = (xs.filter P).length := by simp [cntP]
theorem cntP_yes {α : Type} {P : α → Bool} {xs : List α} {k : Nat} (h : k < xs.length) (hp : P xs[k] = true) : cntP P xs (k + 1) = cntP P xs k + 1 ∧ cntP P xs k < (xs.filter P).length ∧ (xs.filter P)[cntP P xs k]? = some xs[k] := by
  obtain ⟨h1, h2⟩ := filter_at P xs k h
  have h2 := h2 hp
  refine ⟨?_, (List.getElem?_eq_some_iff.1 h2).1, h2⟩
  rw [cntP, h1, if_pos hp]; simp [cntP]
theorem cntP_no {α : Type} {P : α → Bool} {xs : List α} {k : Nat} (h : k < xs.length) (hp : P xs[k] = false) : cntP P xs (k + 1) = cntP P xs k := by
  obtain ⟨h1, _⟩ := filter_at P xs k h
  rw [cntP, h1, if_neg (by simp [hp])]; simp [cntP]

def isAt (s : Sp) (i : Nat) : Bool := (s.cells[i]?.getD .zero).attr
theorem attrs_eq (s : Sp) (h : s.good) : s.attrs = (List.range s.n).filter (isAt s) := by rw [← h.len]; rfl
theorem at_of {s : Sp} (h : s.good) {i : Nat} (hi : i < s.n) : s.at (i : Int) = s.cells[i]?.getD .zero := by
  unfold Sp.at; rw [wrap_of_lt hi]
theorem attrs_calls2 (q : Nat) (σ : Store) : ACalls Try.prog 107 [ptrA q] σ fun v σ' => ∃ b, σ b = none ∧ v = .func (.func 113) [] [ptrA b] ∧ σ' = σ.upd b [ptrA q] := by
  refine ACalls.of_awp follows (st := st107) (plans := pl107) (n := 4) Try.func107 rfl (by kernel_rfl) (by kernel_rfl) (by kernel_rfl) ?_
  simp
  exact fun b hb => ⟨_, AV.le_refl _, _, Store.sub_refl _, b, hb, rfl, rfl⟩

/-- What an iterator keeps beside what its rounds know of. -/
structure Beside (τ ρ : Store) (b2 y : Nat) (f g : AV) : Prop where
  b0 : τ b2 = none
  y0 : τ y = none
  ne : b2 ≠ y
  eq : ρ = (τ.upd b2 [f]).upd y [g]
theorem Beside.sub {τ ρ : Store} {b2 y : Nat} {f g : AV} (h : Beside τ ρ b2 y f g) : Store.sub τ ρ := by
  rw [h.eq]
  exact Store.sub_upd h.y0 (Store.sub_upd h.b0 (Store.sub_refl _))
/-- Behind a round. -/
theorem Beside.next {τ ρ τ' cur : Store} {b2 y : Nat} {f g : AV} (h : Beside τ ρ b2 y f g) (hc : Store.sub ρ cur) (hap : Apart τ' τ cur) : ∃ ρ', Store.sub ρ' (Store.over τ' τ cur) ∧ Beside τ' ρ' b2 y f g := by
  have c1 : cur b2 = some [f] := sub_at (by rw [h.eq]; simp [h.ne]) hc
  have c2 : cur y = some [g] := sub_at (by rw [h.eq]; simp) hc
  have d1 := hap b2 h.b0 (by rw [c1]; simp)
  have d2 := hap y h.y0 (by rw [c2]; simp)
  refine ⟨(τ'.upd b2 [f]).upd y [g], fun o => ?_, ⟨d1, d2, h.ne, rfl⟩⟩
  by_cases h1 : o = y
  · subst h1; right; simp [Store.over, d2, h.y0, c2]
  · by_cases h2 : o = b2
    · subst h2; right; simp [Store.over, d1, h.b0, c1, h.ne]
    · simp only [supd_apply, if_neg h1, if_neg h2]
      exact Store.sub_over τ' τ cur o

set_option maxRecDepth 8000 in
theorem attrs_iter (b q p : Nat) (s : Sp) (σ : Store) : IterG Try.prog 113 [ptrA b] σ s.attrs.length (NeedS b q p s) fun k _ => [.lit (.int .i64 (s.attrs[k]?.getD 0 : Nat))] := by
  refine ⟨fun k τ τ' h hs => ⟨needS_mono h hs, rfl⟩, fun X l I J hneed hy τ E h0 hs => ?_⟩
  have hN0 := hneed 0 τ E (Nat.zero_le _) h0
  obtain ⟨hb, hP⟩ := needS_mono hN0 hs
  have hg := hP.good
  have hae := attrs_eq s hg
  have hc0 := cntP_zero (isAt s) (List.range s.n)
  have hcN := cntP_all (isAt s) (List.range s.n)
  rw [List.length_range, ← hae] at hcN
  refine ACallsY.of_awp follows (st := st113) (plans := pl113) (n := 17) Try.func113 rfl (by kernel_rfl) (by kernel_rfl) (by kernel_rfl) ?_
  simp [hb]
  intro y hyn
  have hby : ¬ b = y := by rintro rfl; rw [hb] at hyn; cases hyn
  simp [hby]
  refine callK.of (all_calls2 q _) ?_
  rintro v σ' ⟨b2, hb2, rfl, rfl⟩
  simp only [supd_apply, ite_none] at hb2
  obtain ⟨e1, hb2⟩ := hb2
  have tn : ∀ o, σ o = none → τ o = none := fun o ho => by
    rcases hs o with h | h
    · exact h
    · rw [h, ho]
  simp
  have hB0 : Beside τ ((τ.upd b2 [ptrA q]).upd y [.func (.yield l) [] []]) b2 y (ptrA q) (.func (.yield l) [] []) := ⟨tn _ hb2, tn _ hyn, e1, rfl⟩
  refine codeYK.rangeG follows (st := st113) (plans := pl113) (all_iter b2 q p s _) (by simp) (by simp) (by simp) (by kernel_rfl) (by kernel_rfl) (by kernel_rfl)
    (fun k ρ E => ∃ τ, I (cntP (isAt s) (List.range s.n) k) τ E ∧ Beside τ ρ b2 y (ptrA q) (.func (.yield l) [] [])) (fun c ρ E => c = .ret ∧ ∃ τ, J τ E ∧ Store.sub τ ρ)
    _ ⟨τ, by rw [hc0]; exact h0, hB0⟩ ?_ ?_ ?_ ?_ ?_
  · intro o
    simp only [supd_apply]
    by_cases h1 : o = y
    · subst h1; right; simp [Ne.symm e1]
    · by_cases h2 : o = b2
      · subst h2; right; simp [h1]
      · simp only [if_neg h1, if_neg h2]; exact hs o
  · rintro k ρ E hk ⟨τ1, hI, hB⟩
    have hle : cntP (isAt s) (List.range s.n) k ≤ s.attrs.length := by
      rw [hae]; exact (List.Sublist.filter _ (List.take_sublist _ _)).length_le
    have := hneed _ τ1 E hle hI
    refine ⟨?_, prg_mono this.2 hB.sub⟩
    rw [hB.eq]; simp [e1]
  · rintro k hk ρ E ⟨τ1, hI, hB⟩
    have hkr : k < (List.range s.n).length := by simpa using hk
    have hgk : (List.range s.n)[k] = k := by simp
    have hat := at_of hg hk
    have hρy : ρ y = some [.func (.yield l) [] []] := by rw [hB.eq]; simp
    by_cases ha : isAt s k = true
    · obtain ⟨c1, c2, c3⟩ := cntP_yes (P := isAt s) hkr (by rw [hgk]; exact ha)
      rw [← hae] at c2 c3
      rw [hgk] at c3
      have hyk := hy _ c2 τ1 E hI
      rw [c3] at hyk
      rw [← c1] at hyk
      have hca : (s.at (k : Int)).attr = true := by rw [hat]; exact ha
      simp +contextual [cellA, cellC, hca]
      intro c hc
      have hyc : ¬ y = c := by rintro rfl; rw [hρy] at hc; cases hc
      simp [hρy, hyc]
      have hcur : Store.sub ρ (ρ.upd c [byteA (s.at (k : Int)).char, .lit (.bool true), byteA (s.at (k : Int)).fa, byteA (s.at (k : Int)).high, byteA (s.at (k : Int)).color, byteA (s.at (k : Int)).set]) := Store.sub_upd hc (Store.sub_refl _)
      refine yieldK.of (args' := [.lit (.int .i64 (k : Nat))]) (by simp) hyk (Store.sub_trans hB.sub hcur) ?_
      intro b3 τ' E' hR hap
      cases b3
      · simp
        exact ⟨_, Store.sub_refl _, τ', by simpa using hR, Store.sub_over _ _ _⟩
      · simp
        obtain ⟨ρ', h1, h2⟩ := hB.next hcur hap
        exact ⟨ρ', h1, τ', by simpa using hR, h2⟩
    · have ha' : isAt s k = false := by simpa using ha
      have c1 := cntP_no (P := isAt s) hkr (by rw [hgk]; exact ha')
      have hca : (s.at (k : Int)).attr = false := by rw [hat]; exact ha'
      simp +contextual [cellA, cellC, hca]
      intro c hc
      exact ⟨ρ, Store.sub_upd hc (Store.sub_refl _), τ1, by rw [c1]; exact hI, hB⟩
  · rintro ρ E2 σ2 hs2 ⟨τ1, hI, hB⟩
    rw [hcN] at hI
    simp
    exact ⟨⟨_, AV.le_refl _⟩, _, Store.sub_refl _, τ1, Store.sub_trans hB.sub hs2, .inl hI⟩
  · rintro c ρ E2 σ2 hs2 ⟨rfl, τ1, hJ, hsub⟩
    simp
    exact ⟨⟨_, AV.le_refl _⟩, _, Store.sub_refl _, τ1, Store.sub_trans hsub hs2, .inr hJ⟩
end Go.Proofs.Ytnlggjbcdienfaa
/-
  The iterators over a screen's fields.
-/
namespace Go.Proofs.Ytnlggjbcdienfaa
open Go Go.AL Go.Sp

theorem fld_prg (b : UInt8) : ((((b &&& 32).toNat : Nat) : Int) != 0) = (fld b).prot ∧ ((((b &&& 16).toNat : Nat) : Int) != 0) = (fld b).num ∧ (b &&& 12).toNat / 4 = (fld b).disp ∧ ((((b &&& 1).toNat : Nat) : Int) != 0) = (fld b).mod :=
  all_bytes (p := fun b => ((((b &&& 32).toNat : Nat) : Int) != 0) = (fld b).prot ∧ ((((b &&& 16).toNat : Nat) : Int) != 0) = (fld b).num ∧ (b &&& 12).toNat / 4 = (fld b).disp ∧ ((((b &&& 1).toNat : Nat) : Int) != 0) = (fld b).mod) (by decide +kernel) b
set_option maxRecDepth 4000 in
theorem of_calls (b : UInt8) (σ : Store) : ACalls Try.prog 108 [byteA b] σ fun v σ' => v = fldA (fld b) ∧ σ' = σ := by
  obtain ⟨h1, h2, h3, h4⟩ := fld_prg b
  rw [fldA, ← h1, ← h2, ← h3, ← h4]
  have a1 : pureBin .and (.int .u8 (b.toNat : Int)) (.int .u8 32) = some (.int .u8 ((b &&& 32).toNat : Int)) := and_u8 b 32
  have a2 : pureBin .and (.int .u8 (b.toNat : Int)) (.int .u8 16) = some (.int .u8 ((b &&& 16).toNat : Int)) := and_u8 b 16
  have a3 : pureBin .and (.int .u8 (b.toNat : Int)) (.int .u8 12) = some (.int .u8 ((b &&& 12).toNat : Int)) := and_u8 b 12
  have a4 : pureBin .and (.int .u8 (b.toNat : Int)) (.int .u8 1) = some (.int .u8 ((b &&& 1).toNat : Int)) := and_u8 b 1
  have hl := (b &&& 12).toNat_lt
  have hw : IntKind.i64.wrap ((b &&& 12).toNat : Int) = ((b &&& 12).toNat : Int) := wrap_i64 (by omega) (by omega)
  have hs := shr_nat (b &&& 12).toNat 2 (by omega)
  have hs' : pureBin .shr (.int .i64 ((b &&& 12).toNat : Int)) (.int .u64 2) = some (.int .i64 (((b &&& 12).toNat / 4 : Nat) : Int)) := hs
  refine ACalls.of_awp follows (st := st108) (plans := pl108) (n := 17) Try.func108 rfl (by kernel_rfl) (by kernel_rfl) (by kernel_rfl) ?_
  generalize (b &&& 32).toNat = x1 at *
  generalize (b &&& 16).toNat = x2 at *
  generalize (b &&& 12).toNat = x3 at *
  generalize (b &&& 1).toNat = x4 at *
  simp [-e_pureBin_8, -e_pureBin_2, byteA, a1, a2, a3, a4, hw, hs']
  intro p hp
  (intro q; simp only [Store.upd, Store.del]; (repeat' split) <;> first | exact Or.inr rfl | exact Or.inl rfl | (exfalso; omega) | (left; subst_vars; assumption) | simp_all)
theorem fields_calls2 (q : Nat) (σ : Store) : ACalls Try.prog 90 [ptrA q] σ fun v σ' => ∃ b, σ b = none ∧ v = .func (.func 106) [] [ptrA b] ∧ σ' = σ.upd b [ptrA q] := by
  refine ACalls.of_awp follows (st := st90) (plans := pl90) (n := 4) Try.func90 rfl (by kernel_rfl) (by kernel_rfl) (by kernel_rfl) ?_
  simp
  exact fun b hb => ⟨_, AV.le_refl _, _, Store.sub_refl _, b, hb, rfl, rfl⟩
theorem modified_calls2 (q : Nat) (σ : Store) : ACalls Try.prog 69 [ptrA q] σ fun v σ' => ∃ b, σ b = none ∧ v = .func (.func 89) [] [ptrA b] ∧ σ' = σ.upd b [ptrA q] := by
  refine ACalls.of_awp follows (st := st69) (plans := pl69) (n := 4) Try.func69 rfl (by kernel_rfl) (by kernel_rfl) (by kernel_rfl) ?_
  simp
  exact fun b hb => ⟨_, AV.le_refl _, _, Store.sub_refl _, b, hb, rfl, rfl⟩
/-- The plan of the region that asks for a round. -/
def pl106t : List (Nat × Plan) := [(3, Plan.tail 7 (Plan.seq [1, 2, 3] (.alt (Plan.seq [0, 4, 5, 6] (.done)) (Plan.seq [4, 5] (.alt (Plan.seq [0, 6] (.done)) (Plan.seq [6, 0] (.done)))))))]
def atFld (s : Sp) (k : Nat) : Nat × Fld := (s.attrs[k]?.getD 0, fld ((s.cells[s.attrs[k]?.getD 0]?.getD .zero).fa))

set_option maxRecDepth 8000 in
theorem fields_iter (b q p : Nat) (s : Sp) (σ : Store) : IterG Try.prog 106 [ptrA b] σ s.attrs.length (NeedS b q p s) fun k _ => [.lit (.int .i64 ((atFld s k).1 : Nat)), fldA (atFld s k).2] := by
  refine ⟨fun k τ τ' h hs => ⟨needS_mono h hs, rfl⟩, fun X l I J hneed hy τ E h0 hs => ?_⟩
  have hN0 := hneed 0 τ E (Nat.zero_le _) h0
  obtain ⟨hb, hP⟩ := needS_mono hN0 hs
  have hg := hP.good
  refine ACallsY.of_awp follows (st := st106) (plans := pl106t) (n := 16) Try.func106 rfl (by kernel_rfl) (by kernel_rfl) (by kernel_rfl) ?_
  simp [hb]
  intro y hyn
  have hby : ¬ b = y := by rintro rfl; rw [hb] at hyn; cases hyn
  simp [hby]
  refine callK.of (attrs_calls2 q _) ?_
  rintro v σ' ⟨b2, hb2, rfl, rfl⟩
  simp only [supd_apply, ite_none] at hb2
  obtain ⟨e1, hb2⟩ := hb2
  have tn : ∀ o, σ o = none → τ o = none := fun o ho => by
    rcases hs o with h | h
    · exact h
    · rw [h, ho]
  simp
  have hB0 : Beside τ ((τ.upd b2 [ptrA q]).upd y [.func (.yield l) [] []]) b2 y (ptrA q) (.func (.yield l) [] []) := ⟨tn _ hb2, tn _ hyn, e1, rfl⟩
  refine codeYK.rangeG follows (st := st106) (plans := pl106t) (attrs_iter b2 q p s _) (by simp) (by simp) (by simp) (by kernel_rfl) (by kernel_rfl) (by kernel_rfl)
    (fun k ρ E => ∃ τ, I k τ E ∧ Beside τ ρ b2 y (ptrA q) (.func (.yield l) [] [])) (fun c ρ E => c = .ret ∧ ∃ τ, J τ E ∧ Store.sub τ ρ)
    _ ⟨τ, h0, hB0⟩ ?_ ?_ ?_ ?_ ?_
  · intro o
    simp only [supd_apply]
    by_cases h1 : o = y
    · subst h1; right; simp [Ne.symm e1]
    · by_cases h2 : o = b2
      · subst h2; right; simp [h1]
      · simp only [if_neg h1, if_neg h2]; exact hs o
  · rintro k ρ E hk ⟨τ1, hI, hB⟩
    have := hneed _ τ1 E hk hI
    refine ⟨?_, prg_mono this.2 hB.sub⟩
    rw [hB.eq]; simp [e1]
  · rintro k hk ρ E ⟨τ1, hI, hB⟩
    have hyk := hy _ hk τ1 E hI
    have hNe := hneed _ τ1 E (Nat.le_of_lt hk) hI
    have hPr := prg_mono hNe.2 hB.sub
    have hρb := sub_at hNe.1 hB.sub
    have hρy : ρ y = some [.func (.yield l) [] []] := by rw [hB.eq]; simp
    have hm : s.attrs[k]?.getD 0 ∈ s.attrs := by
      rw [List.getElem?_eq_getElem hk]; exact List.getElem_mem hk
    obtain ⟨m1, m2⟩ := mem_attrs hm
    rw [hg.len] at m1
    have hat := at_calls hPr ((s.attrs[k]?.getD 0 : Nat) : Int)
    have hae := at_of hg m1
    have hof := of_calls ((s.at ((s.attrs[k]?.getD 0 : Nat) : Int)).fa)
    have hF : (atFld s k).2 = fld ((s.at ((s.attrs[k]?.getD 0 : Nat) : Int)).fa) := by rw [hae]; rfl
    have hF1 : (atFld s k).1 = s.attrs[k]?.getD 0 := rfl
    rw [hF, hF1] at hyk
    generalize s.attrs[k]?.getD 0 = a at *
    generalize s.at (a : Int) = c at *
    simp only [cellA_eq] at hat
    have hfa : ∀ f : Fld, fldA f = .agg [.lit (.bool f.prot), .lit (.bool f.num), .lit (.int .i64 f.disp), .lit (.bool f.mod)] := fun _ => rfl
    simp only [hfa] at hof hyk
    simp +contextual [pl106t, hρy, hρb]
    repeat' (with_reducible apply And.intro)
    all_goals
      refine callK.of hat ?_
      rintro v σ' ⟨rfl, rfl⟩
      simp [hρy]
      repeat' (with_reducible apply And.intro)
    all_goals
    all_goals
      refine callK.of (hof _) ?_
      rintro v σ' ⟨rfl, rfl⟩
      simp [hρy]
    all_goals
      refine yieldK.of (by simp) hyk hB.sub ?_
      intro b3 τ' E' hR hap
      cases b3
      · simp
        exact ⟨_, Store.sub_refl _, τ', by simpa using hR, Store.sub_over _ _ _⟩
      · simp
        obtain ⟨ρ', h1, h2⟩ := hB.next (Store.sub_refl _) hap
        exact ⟨ρ', h1, τ', by simpa using hR, h2⟩
  · rintro ρ E2 σ2 hs2 ⟨τ1, hI, hB⟩
    simp
    exact ⟨⟨_, AV.le_refl _⟩, _, Store.sub_refl _, τ1, Store.sub_trans hB.sub hs2, .inl hI⟩
  · rintro c ρ E2 σ2 hs2 ⟨rfl, τ1, hJ, hsub⟩
    simp
    exact ⟨⟨_, AV.le_refl _⟩, _, Store.sub_refl _, τ1, Store.sub_trans hsub hs2, .inr hJ⟩
end Go.Proofs.Ytnlggjbcdienfaa
/-
  The iterators over modified fields, and over a field's places.
-/
namespace Go.Proofs.Ytnlggjbcdienfaa
open Go Go.AL Go.Sp

def isMod (s : Sp) (a : Nat) : Bool := (fld (s.cells[a]?.getD .zero).fa).mod
theorem modified_eq (s : Sp) : s.modified = s.attrs.filter (isMod s) := rfl

set_option maxRecDepth 8000 in
theorem modified_iter (b q p : Nat) (s : Sp) (σ : Store) : IterG Try.prog 89 [ptrA b] σ s.modified.length (NeedS b q p s) fun k _ => [.lit (.int .i64 (s.modified[k]?.getD 0 : Nat))] := by
  refine ⟨fun k τ τ' h hs => ⟨needS_mono h hs, rfl⟩, fun X l I J hneed hy τ E h0 hs => ?_⟩
  have hN0 := hneed 0 τ E (Nat.zero_le _) h0
  obtain ⟨hb, hP⟩ := needS_mono hN0 hs
  have hg := hP.good
  have hae := modified_eq s
  have hc0 := cntP_zero (isMod s) s.attrs
  have hcN := cntP_all (isMod s) s.attrs
  rw [← hae] at hcN
  refine ACallsY.of_awp follows (st := st89) (plans := pl89) (n := 17) Try.func89 rfl (by kernel_rfl) (by kernel_rfl) (by kernel_rfl) ?_
  simp [hb]
  intro y hyn
  have hby : ¬ b = y := by rintro rfl; rw [hb] at hyn; cases hyn
  simp [hby]
  refine callK.of (fields_calls2 q _) ?_
  rintro v σ' ⟨b2, hb2, rfl, rfl⟩
  simp only [supd_apply, ite_none] at hb2
  obtain ⟨e1, hb2⟩ := hb2
  have tn : ∀ o, σ o = none → τ o = none := fun o ho => by
    rcases hs o with h | h
    · exact h
    · rw [h, ho]
  simp
  have hB0 : Beside τ ((τ.upd b2 [ptrA q]).upd y [.func (.yield l) [] []]) b2 y (ptrA q) (.func (.yield l) [] []) := ⟨tn _ hb2, tn _ hyn, e1, rfl⟩
  refine codeYK.rangeG follows (st := st89) (plans := pl89) (fields_iter b2 q p s _) (by simp) (by simp) (by simp [fldA]) (by kernel_rfl) (by kernel_rfl) (by kernel_rfl)
    (fun k ρ E => ∃ τ, I (cntP (isMod s) s.attrs k) τ E ∧ Beside τ ρ b2 y (ptrA q) (.func (.yield l) [] [])) (fun c ρ E => c = .ret ∧ ∃ τ, J τ E ∧ Store.sub τ ρ)
    _ ⟨τ, by rw [hc0]; exact h0, hB0⟩ ?_ ?_ ?_ ?_ ?_
  · intro o
    simp only [supd_apply]
    by_cases h1 : o = y
    · subst h1; right; simp [Ne.symm e1]
    · by_cases h2 : o = b2
      · subst h2; right; simp [h1]
      · simp only [if_neg h1, if_neg h2]; exact hs o
  · rintro k ρ E hk ⟨τ1, hI, hB⟩
    have hle : cntP (isMod s) s.attrs k ≤ s.modified.length := by
      rw [hae]; exact (List.Sublist.filter _ (List.take_sublist _ _)).length_le
    have := hneed _ τ1 E hle hI
    refine ⟨?_, prg_mono this.2 hB.sub⟩
    rw [hB.eq]; simp [e1]
  · rintro k hk ρ E ⟨τ1, hI, hB⟩
    have hρy : ρ y = some [.func (.yield l) [] []] := by rw [hB.eq]; simp
    have hF1 : (atFld s k).1 = s.attrs[k] := by simp [atFld, hk]
    have hF2 : (atFld s k).2.mod = isMod s s.attrs[k] := by simp [atFld, hk, isMod]
    have hfa : ∀ f : Fld, fldA f = .agg [.lit (.bool f.prot), .lit (.bool f.num), .lit (.int .i64 f.disp), .lit (.bool f.mod)] := fun _ => rfl
    by_cases ha : isMod s s.attrs[k] = true
    · obtain ⟨c1, c2, c3⟩ := cntP_yes (P := isMod s) hk ha
      rw [← hae] at c2 c3
      have hyk := hy _ c2 τ1 E hI
      rw [c3] at hyk
      rw [← c1] at hyk
      rw [ha] at hF2
      rw [hF1, hfa, hF2]
      generalize s.attrs[k] = a at *
      simp +contextual
      intro c hc
      have hyc : ¬ y = c := by rintro rfl; rw [hρy] at hc; cases hc
      simp [hρy, hyc]
      refine yieldK.of (args' := [.lit (.int .i64 (a : Nat))]) (by simp) (by simpa using hyk) (Store.sub_trans hB.sub (Store.sub_upd hc (Store.sub_refl _))) ?_
      intro b3 τ' E' hR hap
      cases b3
      · simp
        exact ⟨_, Store.sub_refl _, τ', by simpa using hR, Store.sub_over _ _ _⟩
      · simp
        obtain ⟨ρ', h1, h2⟩ := hB.next (Store.sub_upd hc (Store.sub_refl _)) hap
        exact ⟨ρ', h1, τ', by simpa using hR, h2⟩
    · have ha' : isMod s s.attrs[k] = false := by simpa using ha
      have c1 := cntP_no (P := isMod s) hk ha'
      rw [ha'] at hF2
      rw [hfa, hF2]
      simp +contextual
      intro c hc
      exact ⟨ρ, Store.sub_upd hc (Store.sub_refl _), τ1, by rw [c1]; exact hI, hB⟩
  · rintro ρ E2 σ2 hs2 ⟨τ1, hI, hB⟩
    rw [hcN] at hI
    simp
    exact ⟨⟨_, AV.le_refl _⟩, _, Store.sub_refl _, τ1, Store.sub_trans hB.sub hs2, .inl hI⟩
  · rintro c ρ E2 σ2 hs2 ⟨rfl, τ1, hJ, hsub⟩
    simp
    exact ⟨⟨_, AV.le_refl _⟩, _, Store.sub_refl _, τ1, Store.sub_trans hsub hs2, .inr hJ⟩

theorem places_calls2 (q : Nat) (a : Int) (σ : Store) : ACalls Try.prog 71 [ptrA q, .lit (.int .i64 a)] σ fun v σ' => ∃ b c, σ b = none ∧ σ c = none ∧ b ≠ c ∧ v = .func (.func 92) [] [ptrA b, ptrA c] ∧ σ' = (σ.upd b [ptrA q]).upd c [.lit (.int .i64 a)] := by
  refine ACalls.of_awp follows (st := st71) (plans := pl71) (n := 6) Try.func71 rfl (by kernel_rfl) (by kernel_rfl) (by kernel_rfl) ?_
  simp +contextual [ite_free]
  exact fun b hb c h1 h2 hc => ⟨_, AV.le_refl _, _, Store.sub_refl _, b, hb, c, hc, h2, rfl, rfl⟩
/-- What the iterator over a field's places finds. -/
def NeedP (b c q p : Nat) (s : Sp) (a : Nat) (_k : Nat) (τ : Store) : Prop := τ b = some [ptrA q] ∧ τ c = some [.lit (.int .i64 a)] ∧ Prg τ q p s
theorem needP_mono {b c q p a : Nat} {s : Sp} {k : Nat} {τ τ' : Store} (h : NeedP b c q p s a k τ) (hs : Store.sub τ τ') : NeedP b c q p s a k τ' :=
  ⟨sub_at h.1 hs, sub_at h.2.1 hs, prg_mono h.2.2 hs⟩
theorem wrap_mod {n k : Nat} (h : 0 < n) : wrap n (k : Int) = k % n := by
  unfold wrap
  rw [← Int.natCast_emod]; rfl

set_option maxRecDepth 8000 in
theorem places_iter (b c q p : Nat) (s : Sp) (a : Nat) (ha : a < s.n) (hat : attrAt s.cells a = true) (σ : Store) : IterG Try.prog 92 [ptrA b, ptrA c] σ (Sp.len s.cells a) (NeedP b c q p s a) fun k _ => [.lit (.int .i64 ((a + k + 1) % s.n : Nat))] := by
  refine ⟨fun k τ τ' h hs => ⟨needP_mono h hs, rfl⟩, fun X l I J hneed hy τ E h0 hs => ?_⟩
  have hN0 := hneed 0 τ E (Nat.zero_le _) h0
  obtain ⟨hb, hc, hP⟩ := needP_mono hN0 hs
  have hg := hP.good
  have hln := hg.len
  have hn := s.n_le
  have hnp := s.n_pos
  have tn : ∀ o, σ o = none → τ o = none := fun o ho => by
    rcases hs o with h | h
    · exact h
    · rw [h, ho]
  have hsz := size_calls hP
  have hw1 := swrap_calls s (a : Int)
  rw [wrap_of_lt ha] at hw1
  have hca : (s.at (a : Int)).attr = true := by rw [at_of hg ha]; exact hat
  have hat1 := fun τ (hτ : Prg τ q p s) => at_calls hτ (a : Int)
  simp only [cellA_eq, hca] at hat1
  have hw2 := swrap_calls s ((a : Int) + 1)
  have e2 : wrap s.n ((a : Int) + 1) = (a + 0 + 1) % s.n := by
    rw [show ((a : Int) + 1) = ((a + 1 : Nat) : Int) by omega, wrap_mod hnp]
  rw [e2] at hw2
  have hi1 : IntKind.i64.wrap ((a : Int) + 1) = (a : Int) + 1 := wrap_i64 (by omega) (by omega)
  refine ACallsY.of_awp follows (st := st92) (plans := pl92) (n := 33) Try.func92 rfl (by kernel_rfl) (by kernel_rfl) (by kernel_rfl) ?_
  simp [hb]
  refine callK.of hsz ?_
  rintro v σ' ⟨rfl, rfl⟩
  simp
  intro z hz
  have hcz : ¬ c = z := by rintro rfl; rw [hc] at hz; cases hz
  have hbz : ¬ b = z := by rintro rfl; rw [hb] at hz; cases hz
  simp [hc, hcz]
  refine callK.of (hw1 _) ?_
  rintro v σ' ⟨rfl, rfl⟩
  have hqc : ¬ q = c := by
    rintro rfl; have := hP.obj; rw [hc] at this; simp [spO] at this
  have hpc : ¬ p = c := by
    rintro rfl
    have h1 := hP.row; rw [hc] at h1
    have h2 := congrArg (fun o => (o.getD []).length) h1
    simp only [Option.getD_some, cellsO_length, List.length_cons, List.length_nil] at h2; omega
  obtain ⟨m1, m2, m3, m4⟩ := hP.fresh hz
  have hbc : ¬ b = c := by
    rintro rfl; rw [hb] at hc; simp at hc
  simp [hc, hcz, hb, hbz, hbc]
  refine callK.of (hat1 _ ((hP.new hz _).upd ⟨hqc, hpc⟩ _)) ?_
  rintro v σ' ⟨rfl, rfl⟩
  simp [Ne.symm hcz, hi1]
  refine callK.of (hw2 _) ?_
  rintro v σ' ⟨rfl, rfl⟩
  simp
  have hlen := Sp.len_lt (l := s.cells) (a := a) (by omega)
  refine codeYK.loop follows (st := st92) (plans := pl92) (S := Nat × Store) (fun x => x.1 ≤ Sp.len s.cells a ∧ x.2 z = none)
    (fun x => [(0, .func (.yield l) [] []), (1, ptrA b), (2, ptrA c), (4, ptrA z), (5, .lit (.int .i64 ((a + x.1 + 1) % s.n : Nat)))]) (fun x => x.2.upd z [.lit (.int .i64 s.rows), .lit (.int .i64 s.cols)]) (fun x E => I x.1 x.2 E) (fun x => Sp.len s.cells a - x.1) (0, τ) (by kernel_rfl) ⟨Nat.zero_le _, tn _ hz⟩ (by simp) ?_ h0 ?_
  · intro o
    dsimp only
    simp only [supd_apply]
    by_cases h1 : o = z
    · subst h1; right; simp [Ne.symm hcz]
    · by_cases h2 : o = c
      · subst h2
        rcases hs o with h | h
        · left; simp [h1, h]
        · right; simp [h1, h, hc]
      · simp only [if_neg h1, if_neg h2]; exact hs o
  rintro ⟨k, τ1⟩ E1 ⟨hk, hz1⟩ hI
  dsimp only at hk hz1 hI ⊢
  have hNk := hneed k τ1 E1 hk hI
  have hsub : Store.sub τ1 (τ1.upd z [.lit (.int .i64 s.rows), .lit (.int .i64 s.cols)]) := Store.sub_upd hz1 (Store.sub_refl _)
  have hPk := prg_mono hNk.2.2 hsub
  have hbk := sub_at hNk.1 hsub
  have hml : (a + k + 1) % s.n < s.n := Nat.mod_lt _ hnp
  have hatk := at_calls hPk (((a + k + 1) % s.n : Nat) : Int)
  have hae := at_of hg hml
  by_cases hlt : k < Sp.len s.cells a
  · have hfree := Sp.len_free (l := s.cells) (a := a) (j := k + 1) (by omega) (by omega)
    rw [show a + (k + 1) = a + k + 1 by omega, hln] at hfree
    have hcf : (s.at (((a + k + 1) % s.n : Nat) : Int)).attr = false := by rw [hae]; exact hfree
    have hyk := hy k hlt τ1 E1 hI
    have hwk := swrap_calls s ((((a + k + 1) % s.n : Nat) : Int) + 1)
    have e3 : wrap s.n ((((a + k + 1) % s.n : Nat) : Int) + 1) = (a + (k + 1) + 1) % s.n := by
      rw [show ((((a + k + 1) % s.n : Nat) : Int) + 1) = (((a + k + 1) % s.n + 1 : Nat) : Int) by omega, wrap_mod hnp, Nat.mod_add_mod, show a + (k + 1) + 1 = a + k + 1 + 1 by omega]
    rw [e3] at hwk
    have hik : IntKind.i64.wrap ((((a + k + 1) % s.n : Nat) : Int) + 1) = (((a + k + 1) % s.n : Nat) : Int) + 1 := wrap_i64 (by omega) (by omega)
    generalize (a + k + 1) % s.n = m at *
    simp only [cellA_eq, hcf] at hatk
    have hbk' : τ1 b = some [ptrA q] := hNk.1
    simp [hbk', hbz]
    refine callK.of hatk ?_
    rintro v σ' ⟨rfl, rfl⟩
    simp
    refine yieldK.of (args' := [.lit (.int .i64 (m : Nat))]) (by simp) hyk hsub ?_
    intro b3 τ' E' hR hap
    have hz2 : τ' z = none := hap z hz1 (by simp)
    have hov : Store.over τ' τ1 (τ1.upd z [.lit (.int .i64 s.rows), .lit (.int .i64 s.cols)]) z = some [.lit (.int .i64 s.rows), .lit (.int .i64 s.cols)] := by
      rw [Store.over_apart hap hz1 (by simp)]; simp
    cases b3
    · simp
      exact ⟨⟨_, AV.le_refl _⟩, _, Store.sub_refl _, τ', Store.sub_over _ _ _, .inr (by simpa using hR)⟩
    · simp [hov, hik]
      refine callK.of (hwk _) ?_
      rintro v σ' ⟨rfl, rfl⟩
      simp
      refine ⟨k + 1, τ', ⟨by omega, hz2⟩, by omega, AV.le_refl _, fun o => ?_, by simpa using hR⟩
      by_cases h1 : o = z
      · subst h1; right; rw [hov]; simp
      · simp only [supd_apply, if_neg h1]; exact Store.sub_over _ _ _ o
  · obtain rfl : k = Sp.len s.cells a := by omega
    have hstop := Sp.len_stop hat (by omega)
    rw [hln] at hstop
    have hcf : (s.at (((a + Sp.len s.cells a + 1) % s.n : Nat) : Int)).attr = true := by rw [hae]; exact hstop
    generalize (a + Sp.len s.cells a + 1) % s.n = m at *
    simp only [cellA_eq, hcf] at hatk
    have hbk' : τ1 b = some [ptrA q] := hNk.1
    simp [hbk', hbz]
    refine callK.of hatk ?_
    rintro v σ' ⟨rfl, rfl⟩
    simp
    exact ⟨⟨_, AV.le_refl _⟩, _, Store.sub_refl _, τ1, hsub, .inl hI⟩
end Go.Proofs.Ytnlggjbcdienfaa
/-
  What is sent: characters, addresses, in the modes that tell no looks.
-/
namespace Go.Proofs.Ytnlggjbcdienfaa
open Go Go.AL Go.Sp

/-- A sender. -/
def seO (out : List UInt8) (last : Cell) (mode : Nat) : List AV := [.list true 1 (bytesA out), byteA last.char, .lit (.bool last.attr), byteA last.fa, byteA last.high, byteA last.color, byteA last.set, .lit (.int .i64 mode)]
def codeB (c : UInt8) : UInt8 := if isOrd c = true then 0x3f else c
def charB (c : Cell) : List UInt8 := (if c.set = 0xf1 then [8] else []) ++ [codeB c.char]
def someB (c : Cell) : List UInt8 := if c.char = 0 then [] else charB c
theorem someB_len (c : Cell) : (someB c).length ≤ 2 := by unfold someB charB; split <;> (try split) <;> simp

set_option maxRecDepth 4000 in
theorem saddr_calls (z : Nat) (out : List UInt8) (last : Cell) (mode n : Nat) (hn : n < 4096) (ho : out.length ≤ 1000000000) (σ : Store) (hz : σ z = some (seO out last mode)) :
    ACalls Try.prog 70 [ptrA z, .lit (.int .i64 n)] σ fun v σ' => v = .tuple [] ∧ σ' = σ.upd z (seO (out ++ encM n) last mode) := by
  have he := fun σ => enc_calls (n : Int) σ
  have hok : okAddr (n : Int) := ⟨by omega, by omega⟩
  have her : encR (n : Int) = [.list true 1 (bytesA (encM n)), .lit (.int .i64 0)] := by rw [encR, if_pos hok]; rfl
  rw [her] at he
  have h2 : (encM n).length = 2 := rfl
  have hap := bytesA_append out (encM n)
  have hse : seO (out ++ encM n) last mode = [.list true 1 (bytesA out ++ bytesA (encM n)), byteA last.char, .lit (.bool last.attr), byteA last.fa, byteA last.high, byteA last.color, byteA last.set, .lit (.int .i64 mode)] := by rw [← hap]; rfl
  rw [hse]
  unfold seO at hz
  generalize encM n = e at *
  refine ACalls.of_awp follows (st := st70) (plans := pl70) (n := 22) Try.func70 rfl (by kernel_rfl) (by kernel_rfl) (by kernel_rfl) ?_
  simp
  refine callK.of (he _) ?_
  rintro v σ' ⟨rfl, rfl⟩
  simp [hz, h2]
  omega

set_option maxRecDepth 8000 in
theorem schar_calls (z : Nat) (out : List UInt8) (last : Cell) (mode : Nat) (hm : mode < 2) (c : Cell) (ho : out.length ≤ 1000000000) (σ : Store) (hz : σ z = some (seO out last mode)) :
    ACalls Try.prog 50 [ptrA z, cellA c] σ fun v σ' => v = .tuple [] ∧ σ' = σ.upd z (seO (out ++ charB c) last mode) := by
  have hi := is_calls c.char
  have hm2 : ¬ (mode : Int) = 2 := by omega
  rw [cellA_eq]
  have hc8 : bytesA [8] = [.lit (.int .u8 8)] := rfl
  refine ACalls.of_awp follows (st := st50) (plans := pl50) (n := 69) Try.func50 rfl (by kernel_rfl) (by kernel_rfl) (by kernel_rfl) ?_
  have hs1 : ∀ l, seO l last mode = [.list true 1 (bytesA l), byteA last.char, .lit (.bool last.attr), byteA last.fa, byteA last.high, byteA last.color, byteA last.set, .lit (.int .i64 mode)] := fun _ => rfl
  rw [hs1] at hz
  have hzb : ∀ b, σ b = none → ¬ z = b := by rintro b hb rfl; rw [hz] at hb; cases hb
  by_cases hset : c.set = 0xf1
  · have hse : (c.set.toNat : Int) = 241 := by rw [hset]; rfl
    have e1 : byteA c.set = .lit (.int .u8 241) := by rw [byteA, hse]
    rw [e1]
    by_cases hor : isOrd c.char = true
    · have hch : charB c = [8, 0x3f] := by simp [charB, codeB, hset, hor]
      rw [hor] at hi
      rw [hch, hs1, bytesA_append, show bytesA [8, 0x3f] = [.lit (.int .u8 8), .lit (.int .u8 63)] from rfl]
      simp
      intro b hb
      have n1 := hzb b hb
      have n2 := Ne.symm n1
      simp [hz, n1, n2, hm2]
      refine ⟨by omega, by omega, ?_⟩
      refine callK.of (hi _) ?_
      rintro v σ' ⟨rfl, rfl⟩
      simp
      refine ⟨by omega, by omega, ?_⟩
      (intro q; simp only [Store.upd, Store.del]; (repeat' split) <;> first | exact Or.inr rfl | exact Or.inl rfl | (exfalso; omega) | (left; subst_vars; assumption) | simp_all)
    · have hch : charB c = [8, c.char] := by simp [charB, codeB, hset, hor]
      rw [show isOrd c.char = false by simpa using hor] at hi
      rw [hch, hs1, bytesA_append, show bytesA [8, c.char] = [.lit (.int .u8 8), byteA c.char] from rfl]
      simp
      intro b hb
      have n1 := hzb b hb
      have n2 := Ne.symm n1
      simp [hz, n1, n2, hm2]
      refine ⟨by omega, by omega, ?_⟩
      refine callK.of (hi _) ?_
      rintro v σ' ⟨rfl, rfl⟩
      simp
      refine ⟨by omega, by omega, ?_⟩
      (intro q; simp only [Store.upd, Store.del]; (repeat' split) <;> first | exact Or.inr rfl | exact Or.inl rfl | (exfalso; omega) | (left; subst_vars; assumption) | simp_all)
  · have hse : ¬ (c.set.toNat : Int) = 241 := fun h => hset (UInt8.toNat_inj.1 (by have : (0xf1 : UInt8).toNat = 241 := rfl; omega))
    have e1 : byteA c.set = .lit (.int .u8 c.set.toNat) := rfl
    rw [e1]
    by_cases hor : isOrd c.char = true
    · have hch : charB c = [0x3f] := by simp [charB, codeB, hset, hor]
      rw [hor] at hi
      rw [hch, hs1, bytesA_append, show bytesA [0x3f] = [.lit (.int .u8 63)] from rfl]
      simp
      intro b hb
      have n1 := hzb b hb
      have n2 := Ne.symm n1
      simp [hz, n1, hm2, hse]
      refine callK.of (hi _) ?_
      rintro v σ' ⟨rfl, rfl⟩
      simp [hz, n1]
      refine ⟨by omega, by omega, ?_⟩
      (intro q; simp only [Store.upd, Store.del]; (repeat' split) <;> first | exact Or.inr rfl | exact Or.inl rfl | (exfalso; omega) | (left; subst_vars; assumption) | simp_all)
    · have hch : charB c = [c.char] := by simp [charB, codeB, hset, hor]
      rw [show isOrd c.char = false by simpa using hor] at hi
      rw [hch, hs1, bytesA_append, show bytesA [c.char] = [byteA c.char] from rfl]
      simp
      intro b hb
      have n1 := hzb b hb
      have n2 := Ne.symm n1
      simp [hz, n1, hm2, hse]
      refine callK.of (hi _) ?_
      rintro v σ' ⟨rfl, rfl⟩
      simp [hz, n1]
      refine ⟨by omega, by omega, ?_⟩
      (intro q; simp only [Store.upd, Store.del]; (repeat' split) <;> first | exact Or.inr rfl | exact Or.inl rfl | (exfalso; omega) | (left; subst_vars; assumption) | simp_all)

set_option maxRecDepth 4000 in
theorem ssome_calls (z : Nat) (out : List UInt8) (last : Cell) (mode : Nat) (hm : mode < 2) (c : Cell) (ho : out.length ≤ 1000000000) (σ : Store) (hz : σ z = some (seO out last mode)) :
    ACalls Try.prog 68 [ptrA z, cellA c] σ fun v σ' => v = .tuple [] ∧ σ' = σ.upd z (seO (out ++ someB c) last mode) := by
  have hch := fun τ (hτ : τ z = some (seO out last mode)) => schar_calls z out last mode hm c ho τ hτ
  rw [cellA_eq] at hch ⊢
  have hzb : ∀ b, σ b = none → ¬ z = b := by rintro b hb rfl; rw [hz] at hb; cases hb
  refine ACalls.of_awp follows (st := st68) (plans := pl68) (n := 10) Try.func68 rfl (by kernel_rfl) (by kernel_rfl) (by kernel_rfl) ?_
  by_cases h0 : c.char = 0
  · have hs : someB c = [] := by simp [someB, h0]
    have e1 : byteA c.char = .lit (.int .u8 0) := by rw [h0]; rfl
    rw [hs, List.append_nil, e1, upd_back hz]
    simp
    exact fun b hb => sub_upd_self _ _ _ hb
  · have hs : someB c = charB c := by simp [someB, h0]
    have h0' : ¬ (c.char.toNat : Int) = 0 := fun h => h0 (UInt8.toNat_inj.1 (by have : (0 : UInt8).toNat = 0 := rfl; omega))
    have e1 : byteA c.char = .lit (.int .u8 c.char.toNat) := rfl
    rw [hs]
    rw [e1] at hch ⊢
    have h00 : ¬ c.char.toNat = 0 := by omega
    simp [h00]
    intro b hb
    have n1 := hzb b hb
    have n2 := Ne.symm n1
    refine callK.of (hch _ (by simp [n1, hz])) ?_
    rintro v σ' ⟨rfl, rfl⟩
    simp
    (intro q; simp only [Store.upd, Store.del]; (repeat' split) <;> first | exact Or.inr rfl | exact Or.inl rfl | (exfalso; omega) | (left; subst_vars; assumption) | simp_all)
end Go.Proofs.Ytnlggjbcdienfaa
