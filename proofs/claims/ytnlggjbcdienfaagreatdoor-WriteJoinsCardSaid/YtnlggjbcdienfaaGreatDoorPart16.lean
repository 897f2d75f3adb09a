/-
  The iterators over a screen's fields.
-/
import Derived.Test.YtnlggjbcdienfaaGreatDoorPart15
namespace Go.Proofs.YtnlggjbcdienfaaGreatDoor
open Go Go.AL Go.Sp

theorem fld_prg (b : UInt8) : ((((b &&& 32).toNat : Nat) : Int) != 0) = (fld b).prot ∧ ((((b &&& 16).toNat : Nat) : Int) != 0) = (fld b).num ∧ (b &&& 12).toNat / 4 = (fld b).disp ∧ ((((b &&& 1).toNat : Nat) : Int) != 0) = (fld b).mod :=
  all_bytes (p := fun b => ((((b &&& 32).toNat : Nat) : Int) != 0) = (fld b).prot ∧ ((((b &&& 16).toNat : Nat) : Int) != 0) = (fld b).num ∧ (b &&& 12).toNat / 4 = (fld b).disp ∧ ((((b &&& 1).toNat : Nat) : Int) != 0) = (fld b).mod) (by decide +kernel) b
set_option maxRecDepth 4000 in
theorem of_calls (b : UInt8) (σ : Store) : ACalls Tryz.prog 126 [byteA b] σ fun v σ' => v = fldA (fld b) ∧ σ' = σ := by
  obtain ⟨h1, h2, h3, h4⟩ := fld_prg b
  rw [fldA, ← h1, ← h2, ← h3, ← h4]
  have a1 : pureBin .and (.int .u8 (b.toNat : Int)) (.int .u8 32) = some (.int .u8 ((b &&& 32).toNat : Int)) := and_u8 b 32
  have a2 : pureBin .and (.int .u8 (b.toNat : Int)) (.int .u8 16) = some (.int .u8 ((b &&& 16).toNat : Int)) := and_u8 b 16
  have a3 : pureBin .and (.int .u8 (b.toNat : Int)) (.int .u8 12) = some (.int .u8 ((b &&& 12).toNat : Int)) := and_u8 b 12
  have a4 : pureBin .and (.int .u8 (b.toNat : Int)) (.int .u8 1) = some (.int .u8 ((b &&& 1).toNat : Int)) := and_u8 b 1
  have hl := (b &&& 12).toNat_lt
  have hw : IntKind.i64.wrap ((b &&& 12).toNat : Int) = ((b &&& 12).toNat : Int) := wrap_i64 (by omega) (by omega)
  have hs := shr_nat (b &&& 12).toNat 2 (by omega)
  have hs' : pureBin .shr (.int .i64 ((b &&& 12).toNat : Int)) (.int .u64 2) = some (.int .i64 (((b &&& 12).toNat / 4 : Nat) : Int)) := hs
  refine ACalls.of_awp follows (st := st126) (plans := pl126) (n := 17) Tryz.func126 rfl (by kernel_rfl) (by kernel_rfl) (by kernel_rfl) ?_
  generalize (b &&& 32).toNat = x1 at *
  generalize (b &&& 16).toNat = x2 at *
  generalize (b &&& 12).toNat = x3 at *
  generalize (b &&& 1).toNat = x4 at *
  simp [-e_pureBin_8, -e_pureBin_2, byteA, a1, a2, a3, a4, hw, hs']
  intro p hp
  (intro q; simp only [Store.upd, Store.del]; (repeat' split) <;> first | exact Or.inr rfl | exact Or.inl rfl | (exfalso; omega) | (left; subst_vars; assumption) | simp_all)
theorem fields_calls2 (q : Nat) (σ : Store) : ACalls Tryz.prog 94 [ptrA q] σ fun v σ' => ∃ b, σ b = none ∧ v = .func (.func 125) [] [ptrA b] ∧ σ' = σ.upd b [ptrA q] := by
  refine ACalls.of_awp follows (st := st94) (plans := pl94) (n := 4) Tryz.func94 rfl (by kernel_rfl) (by kernel_rfl) (by kernel_rfl) ?_
  simp
  exact fun b hb => ⟨_, AV.le_refl _, _, Store.sub_refl _, b, hb, rfl, rfl⟩
/-- The plan of the region that asks for a round. -/
def pl106t : List (Nat × Plan) := [(3, Plan.tail 7 (Plan.seq [1, 2, 3] (.alt (Plan.seq [0, 4, 5, 6] (.done)) (Plan.seq [4, 5] (.alt (Plan.seq [0, 6] (.done)) (Plan.seq [6, 0] (.done)))))))]
def atFld (s : Sp) (k : Nat) : Nat × Fld := (s.attrs[k]?.getD 0, fld ((s.cells[s.attrs[k]?.getD 0]?.getD .zero).fa))

set_option maxRecDepth 8000 in
theorem fields_iter (b q p : Nat) (s : Sp) (σ : Store) : IterG Tryz.prog 125 [ptrA b] σ s.attrs.length (NeedS b q p s) fun k _ => [.lit (.int .i64 ((atFld s k).1 : Nat)), fldA (atFld s k).2] := by
  refine ⟨fun k τ τ' h hs => ⟨needS_mono h hs, rfl⟩, fun X l I J hneed hy τ E h0 hs => ?_⟩
  have hN0 := hneed 0 τ E (Nat.zero_le _) h0
  obtain ⟨hb, hP⟩ := needS_mono hN0 hs
  have hg := hP.good
  refine ACallsY.of_awp follows (st := st125) (plans := pl106t) (n := 16) Tryz.func125 rfl (by kernel_rfl) (by kernel_rfl) (by kernel_rfl) ?_
  simp [hb]
  intro y hyn
  have hby : ¬ b = y := by rintro rfl; rw [hb] at hyn; cases hyn
  simp [hby]
  refine callK.of (attrs_calls2 q _) ?_
  rintro v σ' ⟨b2, hb2, rfl, rfl⟩
  simp only [supd_apply, ite_none] at hb2
  obtain ⟨e1, hb2⟩ := hb2
  have tn : ∀ o, σ o = none → τ o = none := fun o ho => by
    rcases hs o with h | h
    · exact h
    · rw [h, ho]
  simp
  have hB0 : Beside τ ((τ.upd b2 [ptrA q]).upd y [.func (.yield l) [] []]) b2 y (ptrA q) (.func (.yield l) [] []) := ⟨tn _ hb2, tn _ hyn, e1, rfl⟩
  refine codeYK.rangeG follows (st := st125) (plans := pl106t) (attrs_iter b2 q p s _) (by simp) (by simp) (by simp) (by kernel_rfl) (by kernel_rfl) (by kernel_rfl)
    (fun k ρ E => ∃ τ, I k τ E ∧ Beside τ ρ b2 y (ptrA q) (.func (.yield l) [] [])) (fun c ρ E => c = .ret ∧ ∃ τ, J τ E ∧ Store.sub τ ρ)
    _ ⟨τ, h0, hB0⟩ ?_ ?_ ?_ ?_ ?_
  · intro o
    simp only [supd_apply]
    by_cases h1 : o = y
    · subst h1; right; simp [Ne.symm e1]
    · by_cases h2 : o = b2
      · subst h2; right; simp [h1]
      · simp only [if_neg h1, if_neg h2]; exact hs o
  · rintro k ρ E hk ⟨τ1, hI, hB⟩
    have := hneed _ τ1 E hk hI
    refine ⟨?_, prg_mono this.2 hB.sub⟩
    rw [hB.eq]; simp [e1]
  · rintro k hk ρ E ⟨τ1, hI, hB⟩
    have hyk := hy _ hk τ1 E hI
    have hNe := hneed _ τ1 E (Nat.le_of_lt hk) hI
    have hPr := prg_mono hNe.2 hB.sub
    have hρb := sub_at hNe.1 hB.sub
    have hρy : ρ y = some [.func (.yield l) [] []] := by rw [hB.eq]; simp
    have hm : s.attrs[k]?.getD 0 ∈ s.attrs := by
      rw [List.getElem?_eq_getElem hk]; exact List.getElem_mem hk
    obtain ⟨m1, m2⟩ := mem_attrs hm
    rw [hg.len] at m1
    have hat := at_calls hPr ((s.attrs[k]?.getD 0 : Nat) : Int)
    have hae := at_of hg m1
    have hof := of_calls ((s.at ((s.attrs[k]?.getD 0 : Nat) : Int)).fa)
    have hF : (atFld s k).2 = fld ((s.at ((s.attrs[k]?.getD 0 : Nat) : Int)).fa) := by rw [hae]; rfl
    have hF1 : (atFld s k).1 = s.attrs[k]?.getD 0 := rfl
    rw [hF, hF1] at hyk
    generalize s.attrs[k]?.getD 0 = a at *
    generalize s.at (a : Int) = c at *
    simp only [cellA_eq] at hat
    have hfa : ∀ f : Fld, fldA f = .agg [.lit (.bool f.prot), .lit (.bool f.num), .lit (.int .i64 f.disp), .lit (.bool f.mod)] := fun _ => rfl
    simp only [hfa] at hof hyk
    simp +contextual [pl106t, hρy, hρb]
    repeat' (with_reducible apply And.intro)
    all_goals
      refine callK.of hat ?_
      rintro v σ' ⟨rfl, rfl⟩
      simp [hρy]
      repeat' (with_reducible apply And.intro)
    all_goals
    all_goals
      refine callK.of (hof _) ?_
      rintro v σ' ⟨rfl, rfl⟩
      simp [hρy]
    all_goals
      refine yieldK.of (by simp) hyk hB.sub ?_
      intro b3 τ' E' hR hap
      cases b3
      · simp
        exact ⟨_, Store.sub_refl _, τ', by simpa using hR, Store.sub_over _ _ _⟩
      · simp
        obtain ⟨ρ', h1, h2⟩ := hB.next (Store.sub_refl _) hap
        exact ⟨ρ', h1, τ', by simpa using hR, h2⟩
  · rintro ρ E2 σ2 hs2 ⟨τ1, hI, hB⟩
    simp
    exact ⟨⟨_, AV.le_refl _⟩, _, Store.sub_refl _, τ1, Store.sub_trans hB.sub hs2, .inl hI⟩
  · rintro c ρ E2 σ2 hs2 ⟨rfl, τ1, hJ, hsub⟩
    simp
    exact ⟨⟨_, AV.le_refl _⟩, _, Store.sub_refl _, τ1, Store.sub_trans hsub hs2, .inr hJ⟩
end Go.Proofs.YtnlggjbcdienfaaGreatDoor
/-
  The iterators over modified fields, and over a field's places.
-/
namespace Go.Proofs.YtnlggjbcdienfaaGreatDoor
open Go Go.AL Go.Sp

def isMod (s : Sp) (a : Nat) : Bool := (fld (s.cells[a]?.getD .zero).fa).mod
theorem modified_eq (s : Sp) : s.modified = s.attrs.filter (isMod s) := rfl

theorem places_calls2 (q : Nat) (a : Int) (σ : Store) : ACalls Tryz.prog 95 [ptrA q, .lit (.int .i64 a)] σ fun v σ' => ∃ b c, σ b = none ∧ σ c = none ∧ b ≠ c ∧ v = .func (.func 127) [] [ptrA b, ptrA c] ∧ σ' = (σ.upd b [ptrA q]).upd c [.lit (.int .i64 a)] := by
  refine ACalls.of_awp follows (st := st95) (plans := pl95) (n := 6) Tryz.func95 rfl (by kernel_rfl) (by kernel_rfl) (by kernel_rfl) ?_
  simp +contextual [ite_free]
  exact fun b hb c h1 h2 hc => ⟨_, AV.le_refl _, _, Store.sub_refl _, b, hb, c, hc, h2, rfl, rfl⟩
/-- What the iterator over a field's places finds. -/
def NeedP (b c q p : Nat) (s : Sp) (a : Nat) (_k : Nat) (τ : Store) : Prop := τ b = some [ptrA q] ∧ τ c = some [.lit (.int .i64 a)] ∧ Prg τ q p s
theorem needP_mono {b c q p a : Nat} {s : Sp} {k : Nat} {τ τ' : Store} (h : NeedP b c q p s a k τ) (hs : Store.sub τ τ') : NeedP b c q p s a k τ' :=
  ⟨sub_at h.1 hs, sub_at h.2.1 hs, prg_mono h.2.2 hs⟩
theorem wrap_mod {n k : Nat} (_h : 0 < n) : wrap n (k : Int) = k % n := by
  unfold wrap
  rw [← Int.natCast_emod]; rfl

set_option maxRecDepth 8000 in
theorem places_iter (b c q p : Nat) (s : Sp) (a : Nat) (ha : a < s.n) (hat : attrAt s.cells a = true) (σ : Store) : IterG Tryz.prog 127 [ptrA b, ptrA c] σ (Sp.len s.cells a) (NeedP b c q p s a) fun k _ => [.lit (.int .i64 ((a + k + 1) % s.n : Nat))] := by
  refine ⟨fun k τ τ' h hs => ⟨needP_mono h hs, rfl⟩, fun X l I J hneed hy τ E h0 hs => ?_⟩
  have hN0 := hneed 0 τ E (Nat.zero_le _) h0
  obtain ⟨hb, hc, hP⟩ := needP_mono hN0 hs
  have hg := hP.good
  have hln := hg.len
  have hn := s.n_le
  have hnp := s.n_pos
  have tn : ∀ o, σ o = none → τ o = none := fun o ho => by
    rcases hs o with h | h
    · exact h
    · rw [h, ho]
  have hsz := size_calls hP
  have hw1 := swrap_calls s (a : Int)
  rw [wrap_of_lt ha] at hw1
  have hca : (s.at (a : Int)).attr = true := by rw [at_of hg ha]; exact hat
  have hat1 := fun τ (hτ : Prg τ q p s) => at_calls hτ (a : Int)
  simp only [cellA_eq, hca] at hat1
  have hw2 := swrap_calls s ((a : Int) + 1)
  have e2 : wrap s.n ((a : Int) + 1) = (a + 0 + 1) % s.n := by
    rw [show ((a : Int) + 1) = ((a + 1 : Nat) : Int) by omega, wrap_mod hnp]
  rw [e2] at hw2
  have hi1 : IntKind.i64.wrap ((a : Int) + 1) = (a : Int) + 1 := wrap_i64 (by omega) (by omega)
  refine ACallsY.of_awp follows (st := st127) (plans := pl127) (n := 33) Tryz.func127 rfl (by kernel_rfl) (by kernel_rfl) (by kernel_rfl) ?_
  simp [hb]
  refine callK.of hsz ?_
  rintro v σ' ⟨rfl, rfl⟩
  simp
  intro z hz
  have hcz : ¬ c = z := by rintro rfl; rw [hc] at hz; cases hz
  have hbz : ¬ b = z := by rintro rfl; rw [hb] at hz; cases hz
  simp [hc, hcz]
  refine callK.of (hw1 _) ?_
  rintro v σ' ⟨rfl, rfl⟩
  have hqc : ¬ q = c := by
    rintro rfl; have := hP.obj; rw [hc] at this; simp [spO] at this
  have hpc : ¬ p = c := by
    rintro rfl
    have h1 := hP.row; rw [hc] at h1
    have h2 := congrArg (fun o => (o.getD []).length) h1
    simp only [Option.getD_some, cellsO_length, List.length_cons, List.length_nil] at h2; omega
  obtain ⟨m1, m2, m3, m4⟩ := hP.fresh hz
  have hbc : ¬ b = c := by
    rintro rfl; rw [hb] at hc; simp at hc
  simp [hc, hcz, hb, hbz, hbc]
  refine callK.of (hat1 _ ((hP.new hz _).upd ⟨hqc, hpc⟩ _)) ?_
  rintro v σ' ⟨rfl, rfl⟩
  simp [Ne.symm hcz, hi1]
  refine callK.of (hw2 _) ?_
  rintro v σ' ⟨rfl, rfl⟩
  simp
  have hlen := Sp.len_lt (l := s.cells) (a := a) (by omega)
  refine codeYK.loop follows (st := st127) (plans := pl127) (S := Nat × Store) (fun x => x.1 ≤ Sp.len s.cells a ∧ x.2 z = none)
    (fun x => [(0, .func (.yield l) [] []), (1, ptrA b), (2, ptrA c), (4, ptrA z), (5, .lit (.int .i64 ((a + x.1 + 1) % s.n : Nat)))]) (fun x => x.2.upd z [.lit (.int .i64 s.rows), .lit (.int .i64 s.cols)]) (fun x E => I x.1 x.2 E) (fun x => Sp.len s.cells a - x.1) (0, τ) (by kernel_rfl) ⟨Nat.zero_le _, tn _ hz⟩ (by simp) ?_ h0 ?_
  · intro o
    dsimp only
    simp only [supd_apply]
    by_cases h1 : o = z
    · subst h1; right; simp [Ne.symm hcz]
    · by_cases h2 : o = c
      · subst h2
        rcases hs o with h | h
        · left; simp [h1, h]
        · right; simp [h1, h, hc]
      · simp only [if_neg h1, if_neg h2]; exact hs o
  rintro ⟨k, τ1⟩ E1 ⟨hk, hz1⟩ hI
  dsimp only at hk hz1 hI ⊢
  have hNk := hneed k τ1 E1 hk hI
  have hsub : Store.sub τ1 (τ1.upd z [.lit (.int .i64 s.rows), .lit (.int .i64 s.cols)]) := Store.sub_upd hz1 (Store.sub_refl _)
  have hPk := prg_mono hNk.2.2 hsub
  have hbk := sub_at hNk.1 hsub
  have hml : (a + k + 1) % s.n < s.n := Nat.mod_lt _ hnp
  have hatk := at_calls hPk (((a + k + 1) % s.n : Nat) : Int)
  have hae := at_of hg hml
  by_cases hlt : k < Sp.len s.cells a
  · have hfree := Sp.len_free (l := s.cells) (a := a) (j := k + 1) (by omega) (by omega)
    rw [show a + (k + 1) = a + k + 1 by omega, hln] at hfree
    have hcf : (s.at (((a + k + 1) % s.n : Nat) : Int)).attr = false := by rw [hae]; exact hfree
    have hyk := hy k hlt τ1 E1 hI
    have hwk := swrap_calls s ((((a + k + 1) % s.n : Nat) : Int) + 1)
    have e3 : wrap s.n ((((a + k + 1) % s.n : Nat) : Int) + 1) = (a + (k + 1) + 1) % s.n := by
      rw [show ((((a + k + 1) % s.n : Nat) : Int) + 1) = (((a + k + 1) % s.n + 1 : Nat) : Int) by omega, wrap_mod hnp, Nat.mod_add_mod, show a + (k + 1) + 1 = a + k + 1 + 1 by omega]
    rw [e3] at hwk
    have hik : IntKind.i64.wrap ((((a + k + 1) % s.n : Nat) : Int) + 1) = (((a + k + 1) % s.n : Nat) : Int) + 1 := wrap_i64 (by omega) (by omega)
    generalize (a + k + 1) % s.n = m at *
    simp only [cellA_eq, hcf] at hatk
    have hbk' : τ1 b = some [ptrA q] := hNk.1
    simp [hbk', hbz]
    refine callK.of hatk ?_
    rintro v σ' ⟨rfl, rfl⟩
    simp
    refine yieldK.of (args' := [.lit (.int .i64 (m : Nat))]) (by simp) hyk hsub ?_
    intro b3 τ' E' hR hap
    have hz2 : τ' z = none := hap z hz1 (by simp)
    have hov : Store.over τ' τ1 (τ1.upd z [.lit (.int .i64 s.rows), .lit (.int .i64 s.cols)]) z = some [.lit (.int .i64 s.rows), .lit (.int .i64 s.cols)] := by
      rw [Store.over_apart hap hz1 (by simp)]; simp
    cases b3
    · simp
      exact ⟨⟨_, AV.le_refl _⟩, _, Store.sub_refl _, τ', Store.sub_over _ _ _, .inr (by simpa using hR)⟩
    · simp [hov, hik]
      refine callK.of (hwk _) ?_
      rintro v σ' ⟨rfl, rfl⟩
      simp
      refine ⟨k + 1, τ', ⟨by omega, hz2⟩, by omega, AV.le_refl _, fun o => ?_, by simpa using hR⟩
      by_cases h1 : o = z
      · subst h1; right; rw [hov]; simp
      · simp only [supd_apply, if_neg h1]; exact Store.sub_over _ _ _ o
  · obtain rfl : k = Sp.len s.cells a := by omega
    have hstop := Sp.len_stop hat (by omega)
    rw [hln] at hstop
    have hcf : (s.at (((a + Sp.len s.cells a + 1) % s.n : Nat) : Int)).attr = true := by rw [hae]; exact hstop
    generalize (a + Sp.len s.cells a + 1) % s.n = m at *
    simp only [cellA_eq, hcf] at hatk
    have hbk' : τ1 b = some [ptrA q] := hNk.1
    simp [hbk', hbz]
    refine callK.of hatk ?_
    rintro v σ' ⟨rfl, rfl⟩
    simp
    exact ⟨⟨_, AV.le_refl _⟩, _, Store.sub_refl _, τ1, hsub, .inl hI⟩
end Go.Proofs.YtnlggjbcdienfaaGreatDoor
/-
  What orders do to a screen: plainly.
-/
namespace Go.Proofs.YtnlggjbcdienfaaGreatDoor
open Go Go.AL Go.Sp

/-- Where one writes, how it looks, and whether the piece ahead was a text. -/
structure Pen where
  s : Sp
  n : Nat
  look : Cell := .zero
  texts : Bool := false
def lookW (look : Cell) (code : UInt8) (g : Bool) : Cell := { look with char := code, set := if g = true then 0xf1 else look.set }
def Pen.step (p : Pen) (s : Sp) : Pen := { p with s := s, n := (p.n + 1) % p.s.n }
def Pen.put (p : Pen) (code : UInt8) (g : Bool) : Pen := p.step (p.s.set p.n (lookW p.look code g))
/-- One extended attribute. -/
def applyP (c : Cell) (t v : UInt8) : Cell :=
  if t.toNat = 0 then { c with high := 0, color := 0, set := 0 } else if t.toNat = 192 then (if c.attr = true then { c with fa := Sp.six v } else c)
  else if t.toNat = 65 then { c with high := v } else if t.toNat = 66 then { c with color := v } else { c with set := v }
def appliedS : Cell → List (UInt8 × UInt8) → Option Cell
  | c, [] => some c
  | c, x :: l => if chkE x.1 x.2 = 0 then appliedS (applyP c x.1 x.2) l else none
/-- The places from one on up to another. -/
def spanLen (N f t : Nat) : Nat := if (t + N - f) % N = 0 then N else (t + N - f) % N
def spanL (N f t : Nat) : List Nat := (List.range (spanLen N f t)).map fun i => (f + i) % N
def fldAt (s : Sp) (a : Nat) : Fld := fld (s.cells[a]?.getD .zero).fa
/-- May one write there? -/
def openS (s : Sp) (n : Nat) : Bool := !(attrAt s.cells n) && !(decide (0 ≤ startS s.cells n) && (fldAt s (startS s.cells n).toNat).prot)
def rangeS (s : Sp) (l : List Nat) : Sp := l.foldl (fun s (n : Nat) => if openS s n = true then s.put n 0 else s) s
def repeatS (s : Sp) (l : List Nat) (c : Cell) : Sp := l.foldl (fun s (n : Nat) => s.set n c) s
/-- Is it the first place of an unprotected field? -/
def firstS (s : Sp) (n : Nat) : Bool := (s.at ((n : Int) - 1)).attr && !(s.at n).attr && !(fld (s.at ((n : Int) - 1)).fa).prot
def nextS (s : Sp) (n : Nat) : Int := match (List.range s.n).find? (fun i => firstS s ((n + i + 1) % s.n)) with
  | some i => ((n + i + 1) % s.n : Nat)
  | none => -1
def nullsL (s : Sp) (n : Nat) : List Nat := ((List.range (s.n - n)).map fun i => n + i).takeWhile fun k => !attrAt s.cells k
def nullS (s : Sp) (l : List Nat) : Sp := l.foldl (fun s (n : Nat) => s.put n 0) s
def tabN (s : Sp) (n : Nat) : Nat := if nextS s n > n then (nextS s n).toNat else 0
def Pen.tab (p : Pen) : Pen := let s := if p.texts = true then nullS p.s (nullsL p.s p.n) else p.s
  { p with s := s, n := tabN s p.n }
def Pen.attribute (p : Pen) (c : Cell) (l : List (UInt8 × UInt8)) : Pen × Nat := match appliedS c l with
  | some d => (p.step (p.s.set p.n d), 0)
  | none => (p, 10)
def Pen.to (p : Pen) (n : Int) : Pen × Nat := if (p.s.n : Int) ≤ n then (p, 9) else ({ p with n := n.toNat }, 0)
def Pen.span (p : Pen) (o : Op) : Pen × Nat := if (p.s.n : Int) ≤ o.addr then (p, 9)
  else ({ p with s := if o.kind = 18 then rangeS p.s (spanL p.s.n p.n o.addr.toNat) else repeatS p.s (spanL p.s.n p.n o.addr.toNat) (lookW p.look o.code o.graph), n := o.addr.toNat }, 0)
/-- A piece. -/
def Pen.do (p : Pen) (o : Op) : Pen × Nat :=
  if o.kind = 0 then (o.text.foldl (fun p c => p.put c false) p, 0)
  else if o.kind = 8 then (p.put o.code true, 0)
  else if o.kind = 17 then p.to o.addr
  else if o.kind = 18 ∨ o.kind = 60 then p.span o
  else if o.kind = 29 then p.attribute { attr := true, fa := o.fa } []
  else if o.kind = 41 then p.attribute { attr := true } o.pairs
  else if o.kind = 44 then (if (p.s.at p.n).attr = true then p.attribute (p.s.at p.n) o.pairs else (p, 10))
  else if o.kind = 40 then (match appliedS p.look o.pairs with | some c => ({ p with look := c }, 0) | none => (p, 10))
  else if o.kind = 19 then ({ p with s := p.s.place p.n }, 0)
  else if o.kind = 5 then (p.tab, 0)
  else (p, 0)
def Pen.mark (p : Pen) (o : Op) : Pen := { p with texts := decide (o.kind = 0 ∨ o.kind = 8) }
/-- Orders: where one writes then, how many pieces were done, the error. -/
def ordN : Nat → List UInt8 → Pen → Nat → Pen × Nat × Nat
  | 0, _, p, k => (p, k, 0)
  | _ + 1, [], p, k => (p, k, 0)
  | n + 1, c :: tl, p, k => if (opF (c :: tl)).1 ≠ 0 then (p, k, (opF (c :: tl)).1) else
      if (p.do (opF (c :: tl)).2.1).2 ≠ 0 then ((p.do (opF (c :: tl)).2.1).1, k, (p.do (opF (c :: tl)).2.1).2)
      else ordN n (opF (c :: tl)).2.2 ((p.do (opF (c :: tl)).2.1).1.mark (opF (c :: tl)).2.1) (k + 1)
def ordS (l : List UInt8) (p : Pen) (k : Nat) : Pen × Nat × Nat := ordN l.length l p k

/-! ### What stays -/
theorem good_set {s : Sp} (h : s.good) (k : Int) (c : Cell) : (s.set k c).good := h.set k c
theorem good_put {s : Sp} (h : s.good) (k : Int) (c : UInt8) : (s.put k c).good := h.put k c
theorem n_set (s : Sp) (k : Int) (c : Cell) : (s.set k c).n = s.n := rfl
theorem n_put (s : Sp) (k : Int) (c : UInt8) : (s.put k c).n = s.n := by
  have := s.model_put k c
  unfold Sp.n Sp.rows Sp.cols; rw [this.1, this.2]
theorem foldl_inv {α β : Type} {P : β → Prop} (f : β → α → β) (h : ∀ b a, P b → P (f b a)) : ∀ (l : List α) (b : β), P b → P (l.foldl f b)
  | [], _, hb => hb
  | a :: l, b, hb => foldl_inv f h l (f b a) (h b a hb)
/-- A screen of the same size. -/
def SameN (s t : Sp) : Prop := t.good ∧ t.model = s.model ∧ t.alt = s.alt
theorem SameN.refl {s : Sp} (h : s.good) : SameN s s := ⟨h, rfl, rfl⟩
theorem SameN.n {s t : Sp} (h : SameN s t) : t.n = s.n := by unfold Sp.n Sp.rows Sp.cols; rw [h.2.1, h.2.2]
theorem SameN.trans {a b c : Sp} (h : SameN a b) (k : SameN b c) : SameN a c := ⟨k.1, k.2.1.trans h.2.1, k.2.2.trans h.2.2⟩
theorem SameN.set {s t : Sp} (h : SameN s t) (k : Int) (c : Cell) : SameN s (t.set k c) := ⟨h.1.set k c, h.2.1, h.2.2⟩
theorem SameN.put {s t : Sp} (h : SameN s t) (k : Int) (c : UInt8) : SameN s (t.put k c) := ⟨h.1.put k c, (t.model_put k c).1.trans h.2.1, (t.model_put k c).2.trans h.2.2⟩
theorem SameN.place {s t : Sp} (h : SameN s t) (k : Int) : SameN s (t.place k) := ⟨h.1.place k, h.2.1, h.2.2⟩
theorem SameN.rangeS {s t : Sp} (h : SameN s t) (l : List Nat) : SameN s (rangeS t l) :=
  foldl_inv (P := SameN s) _ (fun b a hb => by split; exact hb.put _ _; exact hb) l t h
theorem SameN.repeatS {s t : Sp} (h : SameN s t) (l : List Nat) (c : Cell) : SameN s (repeatS t l c) :=
  foldl_inv (P := SameN s) _ (fun _b _a hb => hb.set _ _) l t h
theorem SameN.nullS {s t : Sp} (h : SameN s t) (l : List Nat) : SameN s (nullS t l) :=
  foldl_inv (P := SameN s) _ (fun _b _a hb => hb.put _ _) l t h
/-- A pen on such a screen, at one of its places. -/
structure PenOk (s : Sp) (p : Pen) : Prop where
  same : SameN s p.s
  lt : p.n < s.n
theorem PenOk.step {s : Sp} {p : Pen} (h : PenOk s p) {t : Sp} (ht : SameN s t) : PenOk s (p.step t) :=
  ⟨ht, by show (p.n + 1) % p.s.n < s.n; rw [h.same.n]; exact Nat.mod_lt _ s.n_pos⟩
theorem PenOk.put {s : Sp} {p : Pen} (h : PenOk s p) (c : UInt8) (g : Bool) : PenOk s (p.put c g) := h.step (h.same.set _ _)
theorem nextS_lt (s : Sp) (n : Nat) : nextS s n < s.n := by
  unfold nextS
  split
  · rename_i i _; have := Nat.mod_lt (n + i + 1) s.n_pos; omega
  · have := s.n_pos; omega
theorem PenOk.tab {s : Sp} {p : Pen} (h : PenOk s p) : PenOk s p.tab := by
  have hs : SameN s (if p.texts = true then nullS p.s (nullsL p.s p.n) else p.s) := by
    split
    · exact h.same.nullS _
    · exact h.same
  refine ⟨hs, ?_⟩
  show tabN (if p.texts = true then nullS p.s (nullsL p.s p.n) else p.s) p.n < s.n
  have h1 := nextS_lt (if p.texts = true then nullS p.s (nullsL p.s p.n) else p.s) p.n
  rw [hs.n] at h1
  generalize (if p.texts = true then nullS p.s (nullsL p.s p.n) else p.s) = t at *
  have := s.n_pos
  unfold tabN
  split <;> omega
theorem PenOk.attribute {s : Sp} {p : Pen} (h : PenOk s p) (c : Cell) (l : List (UInt8 × UInt8)) : PenOk s (p.attribute c l).1 := by
  unfold Pen.attribute; split
  · exact h.step (h.same.set _ _)
  · exact h
theorem PenOk.do {s : Sp} {p : Pen} (h : PenOk s p) (o : Op) : PenOk s (p.do o).1 := by
  unfold Pen.do
  split
  · exact foldl_inv (P := PenOk s) _ (fun b a hb => hb.put _ _) _ _ h
  split
  · exact h.put _ _
  split
  · unfold Pen.to; split
    · exact h
    · rename_i hlt; have := s.n_pos; have := h.same.n
      exact ⟨h.same, by show o.addr.toNat < s.n; omega⟩
  split
  · unfold Pen.span; split
    · exact h
    · rename_i hlt; have := s.n_pos; have := h.same.n
      refine ⟨?_, by show o.addr.toNat < s.n; omega⟩
      show SameN s (if _ then _ else _)
      split
      · exact h.same.rangeS _
      · exact h.same.repeatS _ _
  split
  · exact h.attribute _ _
  split
  · exact h.attribute _ _
  split
  · split
    · exact h.attribute _ _
    · exact h
  split
  · split
    · exact ⟨h.same, h.lt⟩
    · exact h
  split
  · exact ⟨h.same.place _, h.lt⟩
  split
  · exact h.tab
  · exact h
theorem PenOk.mark {s : Sp} {p : Pen} (h : PenOk s p) (o : Op) : PenOk s (p.mark o) := ⟨h.same, h.lt⟩
theorem PenOk.ordN {s : Sp} : ∀ (n : Nat) (l : List UInt8) {p : Pen} (k : Nat), PenOk s p → PenOk s (ordN n l p k).1
  | 0, _, _, _, h => h
  | _ + 1, [], _, _, h => h
  | n + 1, c :: tl, p, k, h => by
    unfold Go.Proofs.YtnlggjbcdienfaaGreatDoor.ordN
    split
    · exact h
    · split
      · exact h.do _
      · exact PenOk.ordN n _ _ ((h.do _).mark _)
end Go.Proofs.YtnlggjbcdienfaaGreatDoor
/-
  The pen: one place on; a character; an address; an attribute.
-/
namespace Go.Proofs.YtnlggjbcdienfaaGreatDoor
open Go Go.AL Go.Sp

def penO (q : Nat) (p : Pen) : List AV := [ptrA q, .lit (.int .i64 p.n), byteA p.look.char, .lit (.bool p.look.attr), byteA p.look.fa, byteA p.look.high, byteA p.look.color, byteA p.look.set, .lit (.bool p.texts)]
/-- A pen and its screen stand in the store. -/
structure Pn (σ : Store) (z q r : Nat) (p : Pen) : Prop where
  pen : σ z = some (penO q p)
  scr : Prg σ q r p.s
  zq : ¬ z = q
  zr : ¬ z = r
def pn (σ : Store) (z q r : Nat) (p : Pen) : Store := (putS spO σ q r p.s).upd z (penO q p)
theorem Pn.self {σ : Store} {z q r : Nat} {p : Pen} (h : Pn σ z q r p) : pn σ z q r p = σ := by
  rw [pn, h.scr.put_self, upd_back h.pen]
theorem Pn.make {σ : Store} {z q r : Nat} {p : Pen} (hq : q ≠ r) (hzq : ¬ z = q) (hzr : ¬ z = r) (hg : p.s.good) : Pn (pn σ z q r p) z q r p :=
  ⟨by simp [pn], (Scr.of_put hq hg).upd ⟨fun h => hzq h.symm, fun h => hzr h.symm⟩ _, hzq, hzr⟩
theorem Pn.to {σ : Store} {z q r : Nat} {p : Pen} (h : Pn σ z q r p) (p' : Pen) (hg : p'.s.good) : Pn (pn σ z q r p') z q r p' := Pn.make h.scr.ne h.zq h.zr hg
theorem putS_upd {f : Sp → Nat → List AV} {σ : Store} {q r z : Nat} (s : Sp) (X : List AV) (h1 : ¬ z = q) (h2 : ¬ z = r) : putS f (σ.upd z X) q r s = (putS f σ q r s).upd z X := by
  funext o
  simp only [putS, supd_apply]
  by_cases e : o = z
  · subst e; simp [h1, h2]
  · simp [e]
theorem pn_pn {σ : Store} {z q r : Nat} (p p' : Pen) (hq : q ≠ r) (h1 : ¬ z = q) (h2 : ¬ z = r) : pn (pn σ z q r p) z q r p' = pn σ z q r p' := by
  unfold pn
  rw [putS_upd _ _ h1 h2, putS_twice _ _ hq]
  simp
/-- The screen alone has changed. -/
theorem pn_scr {σ : Store} {z q r : Nat} {p : Pen} (h : Pn σ z q r p) (s : Sp) : putS spO σ q r s = pn σ z q r { p with s := s } := by
  have : penO q { p with s := s } = penO q p := rfl
  rw [pn, this]
  funext o
  simp only [supd_apply]
  split
  · rename_i ho; subst ho
    simp [putS, h.zq, h.zr, h.pen]
  · rfl
/-- The pen alone has changed. -/
theorem pn_pen {σ : Store} {z q r : Nat} {p : Pen} (h : Pn σ z q r p) (p' : Pen) (hs : p'.s = p.s) : σ.upd z (penO q p') = pn σ z q r p' := by
  rw [pn, hs, h.scr.put_self]
theorem Pn.new {σ : Store} {z q r : Nat} {p : Pen} (h : Pn σ z q r p) {b : Nat} (hb : σ b = none) (X : List AV) : Pn (σ.upd b X) z q r p := by
  have hz : ¬ z = b := by rintro rfl; rw [h.pen] at hb; cases hb
  exact ⟨by simp [hz, h.pen], h.scr.new hb X, h.zq, h.zr⟩
theorem Pn.fresh {σ : Store} {z q r : Nat} {p : Pen} (h : Pn σ z q r p) {b : Nat} (hb : σ b = none) : ¬ z = b ∧ ¬ b = z ∧ ¬ q = b ∧ ¬ r = b ∧ ¬ b = q ∧ ¬ b = r := by
  have hz : ¬ z = b := by rintro rfl; rw [h.pen] at hb; cases hb
  obtain ⟨a, b', c, d⟩ := h.scr.fresh hb
  exact ⟨hz, Ne.symm hz, a, b', c, d⟩
theorem Pn.ne {σ : Store} {z q r : Nat} {p : Pen} (h : Pn σ z q r p) : ∀ b, σ b = none → ¬ z = b := fun _ hb => (h.fresh hb).1
theorem Pn.mono {σ τ : Store} {z q r : Nat} {p : Pen} (h : Pn τ z q r p) (hs : Store.sub τ σ) : Pn σ z q r p := by
  refine ⟨?_, ?_, h.zq, h.zr⟩
  · exact sub_at h.pen hs
  · exact prg_mono h.scr hs

theorem pn_sub {σ τ : Store} (h : Store.sub σ τ) (z q r : Nat) (p : Pen) : Store.sub (pn σ z q r p) (pn τ z q r p) := by
  intro o
  simp only [pn, putS, supd_apply]
  repeat' split
  · exact .inr rfl
  · exact .inr rfl
  · exact .inr rfl
  · exact h o
/-- A set and a step, one behind the other. -/
theorem pn_step {σ : Store} {z q r : Nat} {p : Pen} (h : Pn σ z q r p) (s : Sp) : pn (putS spO σ q r s) z q r (Pen.step { p with s := s } s) = pn σ z q r { p with s := s, n := (p.n + 1) % s.n } := by
  rw [pn_scr h, pn_pn _ _ h.scr.ne h.zq h.zr]; rfl
set_option maxRecDepth 8000 in
theorem next_calls {σ : Store} {z q r : Nat} {p : Pen} (h : Pn σ z q r p) (hl : p.n < 4000) : ACalls Tryz.prog 111 [ptrA z] σ fun v σ' => v = .tuple [] ∧ σ' = pn σ z q r (p.step p.s) := by
  have hp := h.pen
  have hsz := fun τ (hτ : Prg τ q r p.s) => size_calls hτ
  have hw := fun τ => swrap_calls p.s ((p.n + 1 : Nat) : Int) τ
  rw [wrap_mod p.s.n_pos] at hw
  have hi : IntKind.i64.wrap ((p.n : Int) + 1) = ((p.n + 1 : Nat) : Int) := by rw [wrap_i64 (by omega) (by omega)]; omega
  have hfin : ∀ X, penO q (p.step p.s) = X → pn σ z q r (p.step p.s) = σ.upd z X := fun X hX => by rw [← hX]; exact (pn_pen h (p.step p.s) rfl).symm
  have hst : penO q (p.step p.s) = [ptrA q, .lit (.int .i64 ((p.n + 1) % p.s.n : Nat)), byteA p.look.char, .lit (.bool p.look.attr), byteA p.look.fa, byteA p.look.high, byteA p.look.color, byteA p.look.set, .lit (.bool p.texts)] := rfl
  rw [hfin _ hst]
  generalize (p.n + 1) % p.s.n = m at *
  unfold penO at hp
  refine ACalls.of_awp follows (st := st111) (plans := pl111) (n := 16) Tryz.func111 rfl (by kernel_rfl) (by kernel_rfl) (by kernel_rfl) ?_
  simp [hp]
  repeat' (with_reducible apply And.intro)
  all_goals
    refine callK.of (hsz _ h.scr) ?_
    rintro v σ' ⟨rfl, rfl⟩
    simp [hp, hi]
    refine callK.of (hw _) ?_
    rintro v σ' ⟨rfl, rfl⟩
    simp [hp]
set_option maxRecDepth 8000 in
theorem cell_calls {σ : Store} {z q r : Nat} {p : Pen} (h : Pn σ z q r p) (c : UInt8) (g : Bool) : ACalls Tryz.prog 110 [ptrA z, byteA c, .lit (.bool g)] σ fun v σ' => v = cellA (lookW p.look c g) ∧ σ' = σ := by
  have hp := h.pen
  unfold penO at hp
  refine ACalls.of_awp follows (st := st110) (plans := pl110) (n := 17) Tryz.func110 rfl (by kernel_rfl) (by kernel_rfl) (by kernel_rfl) ?_
  rw [cellA_eq]
  have hzb := h.ne
  cases g
  · simp +contextual [hp, lookW, ite_free, hzb]
    intros
    first | exact ⟨AV.le_refl _, by (intro q; simp only [Store.upd, Store.del]; (repeat' split) <;> first | exact Or.inr rfl | exact Or.inl rfl | (exfalso; omega) | (left; subst_vars; assumption) | simp_all)⟩ | (intro q; simp only [Store.upd, Store.del]; (repeat' split) <;> first | exact Or.inr rfl | exact Or.inl rfl | (exfalso; omega) | (left; subst_vars; assumption) | simp_all)
  · simp +contextual [hp, lookW, ite_free, hzb]
    intros
    first | exact ⟨AV.le_refl _, by (intro q; simp only [Store.upd, Store.del]; (repeat' split) <;> first | exact Or.inr rfl | exact Or.inl rfl | (exfalso; omega) | (left; subst_vars; assumption) | simp_all)⟩ | (intro q; simp only [Store.upd, Store.del]; (repeat' split) <;> first | exact Or.inr rfl | exact Or.inl rfl | (exfalso; omega) | (left; subst_vars; assumption) | simp_all)
set_option maxRecDepth 8000 in
theorem pput2_calls {σ : Store} {z q r : Nat} {p : Pen} (h : Pn σ z q r p) (hl : p.n < 4000) (c : UInt8) (g : Bool) : ACalls Tryz.prog 71 [ptrA z, byteA c, .lit (.bool g)] σ fun v σ' => v = .tuple [] ∧ σ' = pn σ z q r (p.put c g) := by
  have hp := h.pen
  have hc := fun τ (hτ : Pn τ z q r p) => cell_calls hτ c g
  have hs := fun τ (hτ : Prg τ q r p.s) => set_calls hτ (p.n : Int) (lookW p.look c g)
  have hP1 : Pn (pn σ z q r { p with s := p.s.set p.n (lookW p.look c g) }) z q r { p with s := p.s.set p.n (lookW p.look c g) } := h.to _ (h.scr.good.set _ _)
  have hn := next_calls hP1 hl
  have hfin : ∀ τ, τ = pn (pn σ z q r { p with s := p.s.set p.n (lookW p.look c g) }) z q r (Pen.step { p with s := p.s.set p.n (lookW p.look c g) } (p.s.set p.n (lookW p.look c g))) → τ = pn σ z q r (p.put c g) := fun τ hτ => by
    rw [hτ, pn_pn _ _ h.scr.ne h.zq h.zr]; rfl
  have hs2 := pn_scr h (p.s.set p.n (lookW p.look c g))
  rw [← hs2] at hn hfin
  unfold penO at hp
  refine ACalls.of_awp follows (st := st71) (plans := pl71) (n := 21) Tryz.func71 rfl (by kernel_rfl) (by kernel_rfl) (by kernel_rfl) ?_
  simp [hp]
  repeat' (with_reducible apply And.intro)
  all_goals
    refine callK.of (hc _ h) ?_
    rintro v σ' ⟨rfl, rfl⟩
    simp [hp]
    refine callK.of (hs _ h.scr) ?_
    rintro v σ' ⟨rfl, rfl⟩
    simp
    refine callK.of hn ?_
    rintro v σ' ⟨rfl, h2⟩
    simp
    rw [← hfin _ h2]
    exact Store.sub_refl _
set_option maxRecDepth 8000 in
theorem to_calls {σ : Store} {z q r : Nat} {p : Pen} (h : Pn σ z q r p) (n : Int) (hn0 : 0 ≤ n) : ACalls Tryz.prog 72 [ptrA z, .lit (.int .i64 n)] σ fun v σ' => v = .lit (.int .i64 (p.to n).2) ∧ σ' = pn σ z q r (p.to n).1 := by
  have hp := h.pen
  have hsz := fun τ (hτ : Prg τ q r p.s) => size_calls hτ
  have hcl := fun τ => scells_calls p.s τ
  unfold Pen.to
  by_cases hlt : (p.s.n : Int) ≤ n
  · rw [if_pos hlt, h.self]
    unfold penO at hp
    refine ACalls.of_awp follows (st := st72) (plans := pl72) (n := 17) Tryz.func72 rfl (by kernel_rfl) (by kernel_rfl) (by kernel_rfl) ?_
    simp [hp]
    refine callK.of (hsz _ h.scr) ?_
    rintro v σ' ⟨rfl, rfl⟩
    simp
    refine callK.of (hcl _) ?_
    rintro v σ' ⟨rfl, rfl⟩
    simp [hlt]
  · rw [if_neg hlt]
    have hfin : σ.upd z (penO q { p with n := n.toNat }) = pn σ z q r { p with n := n.toNat } := pn_pen h { p with n := n.toNat } rfl
    rw [← hfin]
    have hnn : ((n.toNat : Nat) : Int) = n := by omega
    unfold penO at hp ⊢
    rw [hnn]
    refine ACalls.of_awp follows (st := st72) (plans := pl72) (n := 17) Tryz.func72 rfl (by kernel_rfl) (by kernel_rfl) (by kernel_rfl) ?_
    simp [hp]
    refine callK.of (hsz _ h.scr) ?_
    rintro v σ' ⟨rfl, rfl⟩
    simp
    refine callK.of (hcl _) ?_
    rintro v σ' ⟨rfl, rfl⟩
    simp [hlt, hp]
set_option maxRecDepth 8000 in
set_option maxHeartbeats 1000000 in
theorem apply_calls (c : Cell) (t v : UInt8) (σ : Store) : ACalls Tryz.prog 86 [.agg [byteA t, byteA v], cellA c] σ fun w σ' => w = .tuple [cellA (if chkE t v = 0 then applyP c t v else .zero), .lit (.int .i64 (chkE t v : Nat))] ∧ σ' = σ := by
  have hch := fun τ => check_calls t v τ
  have ht := byteA_lit t
  have hv := byteA_lit v
  have h6 := and61 v
  by_cases h0 : chkE t v = 0
  · have hok : okP t.toNat v.toNat := by unfold chkE at h0; split at h0 <;> simp_all
    rw [if_pos h0]
    rw [h0] at hch ⊢
    unfold applyP
    rw [cellA_eq, cellA_eq]
    have l0 : byteA 0 = .lit (.int .u8 0) := rfl
    by_cases t0 : t.toNat = 0
    · rw [if_pos t0]
      rw [ht, t0] at hch ⊢
      rw [l0]
      refine ACalls.of_awp follows (st := st86) (plans := pl86) (n := 44) Tryz.func86 rfl (by kernel_rfl) (by kernel_rfl) (by kernel_rfl) ?_
      simp +contextual [ite_free]
      intro b1 hb1 b2 n1 n2 hb2 b3 n3 n4 n5 n6 hb3
      refine callK.of (hch _) ?_
      rintro w σ' ⟨rfl, rfl⟩
      simp +contextual [n2, n3, n4, n6]
      intros
      first | exact ⟨AV.le_refl _, by (intro q; simp only [Store.upd, Store.del]; (repeat' split) <;> first | exact Or.inr rfl | exact Or.inl rfl | (exfalso; omega) | (left; subst_vars; assumption) | simp_all)⟩ | (intro q; simp only [Store.upd, Store.del]; (repeat' split) <;> first | exact Or.inr rfl | exact Or.inl rfl | (exfalso; omega) | (left; subst_vars; assumption) | simp_all)
    rw [if_neg t0]
    by_cases t1 : t.toNat = 192
    · rw [if_pos t1]
      rw [ht, t1] at hch ⊢
      rw [hv] at hch ⊢
      by_cases ha : c.attr = true
      · rw [if_pos ha]
        have hsx := byteA_lit (Sp.six v)
        rw [ha]
        simp only [hsx]
        refine ACalls.of_awp follows (st := st86) (plans := pl86) (n := 44) Tryz.func86 rfl (by kernel_rfl) (by kernel_rfl) (by kernel_rfl) ?_
        simp +contextual [-e_pureBin_8, ite_free]
        intro b1 hb1 b2 n1 n2 hb2 b3 n3 n4 n5 n6 hb3
        refine callK.of (hch _) ?_
        rintro w σ' ⟨rfl, rfl⟩
        simp +contextual [-e_pureBin_8, h6, n2, n3, n4, n6]
        intros
        first | exact ⟨AV.le_refl _, by (intro q; simp only [Store.upd, Store.del]; (repeat' split) <;> first | exact Or.inr rfl | exact Or.inl rfl | (exfalso; omega) | (left; subst_vars; assumption) | simp_all)⟩ | (intro q; simp only [Store.upd, Store.del]; (repeat' split) <;> first | exact Or.inr rfl | exact Or.inl rfl | (exfalso; omega) | (left; subst_vars; assumption) | simp_all)
      · rw [if_neg ha]
        have ha' : c.attr = false := by simpa using ha
        rw [ha']
        refine ACalls.of_awp follows (st := st86) (plans := pl86) (n := 44) Tryz.func86 rfl (by kernel_rfl) (by kernel_rfl) (by kernel_rfl) ?_
        simp +contextual [ite_free]
        intro b1 hb1 b2 n1 n2 hb2 b3 n3 n4 n5 n6 hb3
        refine callK.of (hch _) ?_
        rintro w σ' ⟨rfl, rfl⟩
        simp +contextual [n2, n4, n6]
        intros
        first | exact ⟨AV.le_refl _, by (intro q; simp only [Store.upd, Store.del]; (repeat' split) <;> first | exact Or.inr rfl | exact Or.inl rfl | (exfalso; omega) | (left; subst_vars; assumption) | simp_all)⟩ | (intro q; simp only [Store.upd, Store.del]; (repeat' split) <;> first | exact Or.inr rfl | exact Or.inl rfl | (exfalso; omega) | (left; subst_vars; assumption) | simp_all)
    rw [if_neg t1]
    by_cases t2 : t.toNat = 65
    · rw [if_pos t2]
      rw [ht, t2] at hch ⊢
      refine ACalls.of_awp follows (st := st86) (plans := pl86) (n := 44) Tryz.func86 rfl (by kernel_rfl) (by kernel_rfl) (by kernel_rfl) ?_
      simp +contextual [ite_free]
      intro b1 hb1 b2 n1 n2 hb2 b3 n3 n4 n5 n6 hb3
      refine callK.of (hch _) ?_
      rintro w σ' ⟨rfl, rfl⟩
      simp +contextual [n2, n3, n4, n6]
      intros
      first | exact ⟨AV.le_refl _, by (intro q; simp only [Store.upd, Store.del]; (repeat' split) <;> first | exact Or.inr rfl | exact Or.inl rfl | (exfalso; omega) | (left; subst_vars; assumption) | simp_all)⟩ | (intro q; simp only [Store.upd, Store.del]; (repeat' split) <;> first | exact Or.inr rfl | exact Or.inl rfl | (exfalso; omega) | (left; subst_vars; assumption) | simp_all)
    rw [if_neg t2]
    by_cases t3 : t.toNat = 66
    · rw [if_pos t3]
      rw [ht, t3] at hch ⊢
      refine ACalls.of_awp follows (st := st86) (plans := pl86) (n := 44) Tryz.func86 rfl (by kernel_rfl) (by kernel_rfl) (by kernel_rfl) ?_
      simp +contextual [ite_free]
      intro b1 hb1 b2 n1 n2 hb2 b3 n3 n4 n5 n6 hb3
      refine callK.of (hch _) ?_
      rintro w σ' ⟨rfl, rfl⟩
      simp +contextual [n2, n3, n4, n6]
      intros
      first | exact ⟨AV.le_refl _, by (intro q; simp only [Store.upd, Store.del]; (repeat' split) <;> first | exact Or.inr rfl | exact Or.inl rfl | (exfalso; omega) | (left; subst_vars; assumption) | simp_all)⟩ | (intro q; simp only [Store.upd, Store.del]; (repeat' split) <;> first | exact Or.inr rfl | exact Or.inl rfl | (exfalso; omega) | (left; subst_vars; assumption) | simp_all)
    rw [if_neg t3]
    have t4 : t.toNat = 67 := by unfold okP at hok; omega
    rw [ht, t4] at hch ⊢
    refine ACalls.of_awp follows (st := st86) (plans := pl86) (n := 44) Tryz.func86 rfl (by kernel_rfl) (by kernel_rfl) (by kernel_rfl) ?_
    simp +contextual [ite_free]
    intro b1 hb1 b2 n1 n2 hb2 b3 n3 n4 n5 n6 hb3
    refine callK.of (hch _) ?_
    rintro w σ' ⟨rfl, rfl⟩
    simp +contextual [n2, n3, n4, n6]
    intros
    first | exact ⟨AV.le_refl _, by (intro q; simp only [Store.upd, Store.del]; (repeat' split) <;> first | exact Or.inr rfl | exact Or.inl rfl | (exfalso; omega) | (left; subst_vars; assumption) | simp_all)⟩ | (intro q; simp only [Store.upd, Store.del]; (repeat' split) <;> first | exact Or.inr rfl | exact Or.inl rfl | (exfalso; omega) | (left; subst_vars; assumption) | simp_all)
  · rw [if_neg h0]
    have h0' : ¬ (chkE t v : Int) = 0 := by omega
    generalize chkE t v = e at *
    rw [cellA_eq]
    have hz : cellA .zero = .agg [.lit (.int .u8 0), .lit (.bool false), .lit (.int .u8 0), .lit (.int .u8 0), .lit (.int .u8 0), .lit (.int .u8 0)] := rfl
    rw [hz]
    refine ACalls.of_awp follows (st := st86) (plans := pl86) (n := 44) Tryz.func86 rfl (by kernel_rfl) (by kernel_rfl) (by kernel_rfl) ?_
    simp +contextual [ite_free]
    intro b1 hb1 b2 n1 n2 hb2 b3 n3 n4 n5 n6 hb3
    refine callK.of (hch _) ?_
    rintro w σ' ⟨rfl, rfl⟩
    simp +contextual [h0]
    intros
    first | exact ⟨AV.le_refl _, by (intro q; simp only [Store.upd, Store.del]; (repeat' split) <;> first | exact Or.inr rfl | exact Or.inl rfl | (exfalso; omega) | (left; subst_vars; assumption) | simp_all)⟩ | (intro q; simp only [Store.upd, Store.del]; (repeat' split) <;> first | exact Or.inr rfl | exact Or.inl rfl | (exfalso; omega) | (left; subst_vars; assumption) | simp_all)
end Go.Proofs.YtnlggjbcdienfaaGreatDoor
