/-
 The iterators over a screen that their rounds change, attributes staying where they are.
-/
import Derived.Test.YtlmdbcgceijlnaaGreatPPart12
set_option linter.unusedSimpArgs false
set_option linter.unusedVariables false
set_option maxRecDepth 8000
set_option maxHeartbeats 8000000

namespace Go.Proofs.YtlmdbcgceijlnaaGreat
open Go Go.AL Go.Sp
def NeedF (b q p : Nat) (S : Nat → Sp) (k : Nat) (τ : Store) : Prop := τ b = some [ptrA q] ∧ Prg τ q p (S k)
theorem needF_mono {b q p : Nat} {S : Nat → Sp} {k : Nat} {τ τ' : Store} (h : NeedF b q p S k τ) (hs : Store.sub τ τ') : NeedF b q p S k τ' :=
 ⟨sub_at h.1 hs, prg_mono h.2 hs⟩
structure Fam (S : Nat → Sp) : Prop where
 good : ∀ k, (S k).good
 n : ∀ k, (S k).n = (S 0).n
 attr : ∀ k i, attrAt (S k).cells i = attrAt (S 0).cells i
theorem Fam.attrs {S : Nat → Sp} (h : Fam S) (k : Nat) : (S k).attrs = (S 0).attrs := by
 rw [attrs_eq _ (h.good k), attrs_eq _ (h.good 0), h.n k]
 congr 1
 funext i; exact h.attr k i
theorem all_iterF (b q p : Nat) (S : Nat → Sp) (N : Nat) (hN : ∀ k, (S k).n = N) (σ : Store) : IterG Tryz.prog 169 [ptrA b] σ N (NeedF b q p S) fun k _ => [.lit (.int .i64 (k : Nat)), cellA ((S k).at k)] := by
 refine ⟨fun k τ τ' h hs => ⟨needF_mono h hs, rfl⟩, fun X l I J hneed hy τ E h0 hs => ?_⟩
 obtain ⟨hb, hP⟩ := needF_mono (hneed 0 τ E (Nat.zero_le _) h0) hs
 have hsz := size_calls hP
 have hcl := scells_calls (S 0)
 rw [hN] at hcl
 have hn := (S 0).n_le
 rw [hN] at hn
 refine ACallsY.of_awp follows (st := st169) (plans := pl169) (n := 18) Tryz.func169 rfl (by kernel_rfl) (by kernel_rfl) (by kernel_rfl) ?_
 simp [hb]
 refine callK.of hsz ?_
 rintro v σ' ⟨rfl, rfl⟩
 simp
 refine callK.of (hcl _) ?_
 rintro v σ' ⟨rfl, rfl⟩
 simp
 refine codeYK.loop follows (st := st169) (plans := pl169) (S := Nat × Store) (fun x => x.1 ≤ N)
  (fun x => [(0, .func (.yield l) [] []), (1, ptrA b), (6, .lit (.int .i64 N)), (7, .lit (.int .i64 x.1))]) (fun x => x.2) (fun x E => I x.1 x.2 E) (fun x => N - x.1) (0, τ) (by kernel_rfl) (by simp) (by simp) hs h0 ?_
 rintro ⟨k, τ1⟩ E1 hk hI
 dsimp only at hk hI ⊢
 obtain ⟨hb1, hP1⟩ := hneed k τ1 E1 hk hI
 by_cases hlt : k < N
 ·have hat := at_calls hP1 (k : Int)
  have hw : IntKind.i64.wrap ((k : Int) + 1) = ((k + 1 : Nat) : Int) := wrap_i64 (by omega) (by omega)
  have hyk := hy k hlt τ1 E1 hI
  simp only [cellA_eq] at hat hyk
  simp [hlt, hb1]
  refine callK.of hat ?_
  rintro v σ' ⟨rfl, rfl⟩
  simp
  refine yieldK.of (by simp) hyk (Store.sub_refl _) ?_
  intro b2 τ' E' hR hap
  cases b2
  ·simp
   exact ⟨⟨_, AV.le_refl _⟩, _, Store.sub_over _ _ _, τ', Store.sub_refl _, .inr (by simpa using hR)⟩
  ·simp
   refine ⟨k + 1, by omega, by omega, by rw [hw]; exact AV.le_refl _, τ', Store.sub_over _ _ _, by simpa using hR⟩
 ·obtain rfl : k = N := by omega
  simp
  exact ⟨⟨_, AV.le_refl _⟩, _, Store.sub_refl _, τ1, Store.sub_refl _, .inl hI⟩
theorem attrs_iterF (b q p : Nat) (S : Nat → Sp) (hF : Fam S) (σ : Store) : IterG Tryz.prog 164 [ptrA b] σ (S 0).attrs.length (NeedF b q p S) fun k _ => [.lit (.int .i64 ((S 0).attrs[k]?.getD 0 : Nat))] := by
 refine ⟨fun k τ τ' h hs => ⟨needF_mono h hs, rfl⟩, fun X l I J hneed hy τ E h0 hs => ?_⟩
 have hN0 := hneed 0 τ E (Nat.zero_le _) h0
 obtain ⟨hb, hP⟩ := needF_mono hN0 hs
 have hg := hF.good 0
 have hae := attrs_eq (S 0) hg
 have hc0 := cntP_zero (isAt (S 0)) (List.range (S 0).n)
 have hcN := cntP_all (isAt (S 0)) (List.range (S 0).n)
 rw [List.length_range, ← hae] at hcN
 refine ACallsY.of_awp follows (st := st164) (plans := pl164) (n := 17) Tryz.func164 rfl (by kernel_rfl) (by kernel_rfl) (by kernel_rfl) ?_
 simp [hb]
 intro y hyn
 have hby : ¬ b = y := by rintro rfl; rw [hb] at hyn; cases hyn
 simp [hby]
 refine callK.of (all_calls2 q _) ?_
 rintro v σ' ⟨b2, hb2, rfl, rfl⟩
 simp only [supd_apply, ite_none] at hb2
 obtain ⟨e1, hb2⟩ := hb2
 have tn : ∀ o : Nat, σ o = none → τ o = none := fun o ho => by
  rcases hs o with h | h
  ·exact h
  ·rw [h, ho]
 simp
 have hB0 : Beside τ ((τ.upd b2 [ptrA q]).upd y [.func (.yield l) [] []]) b2 y (ptrA q) (.func (.yield l) [] []) := ⟨tn _ hb2, tn _ hyn, e1, rfl⟩
 refine codeYK.rangeG follows (st := st164) (plans := pl164) (all_iterF b2 q p (fun k => S (cntP (isAt (S 0)) (List.range (S 0).n) k)) (S 0).n (fun k => hF.n _) _) (by simp) (by simp) (by simp) (by kernel_rfl) (by kernel_rfl) (by kernel_rfl)
  (fun k ρ E => ∃ τ, I (cntP (isAt (S 0)) (List.range (S 0).n) k) τ E ∧ Beside τ ρ b2 y (ptrA q) (.func (.yield l) [] [])) (fun c ρ E => c = .ret ∧ ∃ τ, J τ E ∧ Store.sub τ ρ)
  _ ⟨τ, by rw [hc0]; exact h0, hB0⟩ ?_ ?_ ?_ ?_ ?_
 ·refine Store.sub2 (fun o => ?_) (fun i => by simpa using hs (mkey i))
  simp only [supd_apply]
  by_cases h1 : o = y
  ·subst h1; right; simp [Ne.symm e1]
  ·by_cases h2 : o = b2
   ·subst h2; right; simp [h1]
   ·simp only [if_neg h1, if_neg h2]; exact hs o
 ·rintro k ρ E hk ⟨τ1, hI, hB⟩
  have hle : cntP (isAt (S 0)) (List.range (S 0).n) k ≤ (S 0).attrs.length := by
   rw [hae]; exact (List.Sublist.filter _ (List.take_sublist _ _)).length_le
  have := hneed _ τ1 E hle hI
  refine ⟨?_, prg_mono this.2 hB.sub⟩
  rw [hB.eq]; simp [e1]
 ·rintro k hk ρ E ⟨τ1, hI, hB⟩
  have hkr : k < (List.range (S 0).n).length := by simpa using hk
  have hgk : (List.range (S 0).n)[k] = k := by simp
  have hρy : ρ y = some [.func (.yield l) [] []] := by rw [hB.eq]; simp
  have hcs := cntP_yes (P := isAt (S 0)) hkr
  have hcn := cntP_no (P := isAt (S 0)) hkr
  generalize hj : cntP (isAt (S 0)) (List.range (S 0).n) k = j at *
  have hat : ((S j).at (k : Int)).attr = isAt (S 0) k := by
   rw [attrAt_at (by rw [hF.n]; exact hk), hF.attr]; rfl
  generalize (S j).at (k : Int) = d at *
  by_cases ha : isAt (S 0) k = true
  ·obtain ⟨c1, c2, c3⟩ := hcs (by rw [hgk]; exact ha)
   rw [← hae] at c2 c3
   rw [hgk] at c3
   have hyk := hy _ c2 τ1 E hI
   rw [c3] at hyk
   rw [← c1] at hyk
   have hca : d.attr = true := by rw [hat]; exact ha
   simp +contextual [cellA, cellC, hca]
   intro c hc
   have hyc : ¬ y = c := by rintro rfl; rw [hρy] at hc; cases hc
   simp [hρy, hyc]
   have hcur : Store.sub ρ (ρ.upd c [byteA d.char, .lit (.bool true), byteA d.fa, byteA d.high, byteA d.color, byteA d.set]) := Store.sub_upd hc (Store.sub_refl _)
   refine yieldK.of (args' := [.lit (.int .i64 (k : Nat))]) (by simp) hyk (Store.sub_trans hB.sub hcur) ?_
   intro b3 τ' E' hR hap
   cases b3
   ·simp
    exact ⟨_, Store.sub_refl _, τ', by simpa using hR, Store.sub_over _ _ _⟩
   ·simp
    obtain ⟨ρ', h1, h2⟩ := hB.next hcur hap
    exact ⟨ρ', h1, τ', by simpa using hR, h2⟩
  ·have ha' : isAt (S 0) k = false := by simpa using ha
   have c1 := hcn (by rw [hgk]; exact ha')
   have hca : d.attr = false := by rw [hat]; exact ha'
   simp +contextual [cellA, cellC, hca]
   intro c hc
   exact ⟨ρ, Store.sub_upd hc (Store.sub_refl _), τ1, by rw [c1]; exact hI, hB⟩
 ·rintro ρ E2 σ2 hs2 ⟨τ1, hI, hB⟩
  rw [hcN] at hI
  simp
  exact ⟨⟨_, AV.le_refl _⟩, _, Store.sub_refl _, τ1, Store.sub_trans hB.sub hs2, .inl hI⟩
 ·rintro c ρ E2 σ2 hs2 ⟨rfl, τ1, hJ, hsub⟩
  simp
  exact ⟨⟨_, AV.le_refl _⟩, _, Store.sub_refl _, τ1, Store.sub_trans hsub hs2, .inr hJ⟩
def atFldF (S : Nat → Sp) (k : Nat) : Nat × Fld := ((S 0).attrs[k]?.getD 0, fld (((S k).cells[(S 0).attrs[k]?.getD 0]?.getD .zero).fa))
theorem fields_iterF (b q p : Nat) (S : Nat → Sp) (hF : Fam S) (σ : Store) : IterG Tryz.prog 156 [ptrA b] σ (S 0).attrs.length (NeedF b q p S) fun k _ => [.lit (.int .i64 ((atFldF S k).1 : Nat)), fldA (atFldF S k).2] := by
 refine ⟨fun k τ τ' h hs => ⟨needF_mono h hs, rfl⟩, fun X l I J hneed hy τ E h0 hs => ?_⟩
 have hN0 := hneed 0 τ E (Nat.zero_le _) h0
 obtain ⟨hb, hP⟩ := needF_mono hN0 hs
 have hg := hF.good 0
 refine ACallsY.of_awp follows (st := st156) (plans := pl106t) (n := 16) Tryz.func156 rfl (by kernel_rfl) (by kernel_rfl) (by kernel_rfl) ?_
 simp [hb]
 intro y hyn
 have hby : ¬ b = y := by rintro rfl; rw [hb] at hyn; cases hyn
 simp [hby]
 refine callK.of (attrs_calls2 q _) ?_
 rintro v σ' ⟨b2, hb2, rfl, rfl⟩
 simp only [supd_apply, ite_none] at hb2
 obtain ⟨e1, hb2⟩ := hb2
 have tn : ∀ o : Nat, σ o = none → τ o = none := fun o ho => by
  rcases hs o with h | h
  ·exact h
  ·rw [h, ho]
 simp
 have hB0 : Beside τ ((τ.upd b2 [ptrA q]).upd y [.func (.yield l) [] []]) b2 y (ptrA q) (.func (.yield l) [] []) := ⟨tn _ hb2, tn _ hyn, e1, rfl⟩
 refine codeYK.rangeG follows (st := st156) (plans := pl106t) (attrs_iterF b2 q p S hF _) (by simp) (by simp) (by simp) (by kernel_rfl) (by kernel_rfl) (by kernel_rfl)
  (fun k ρ E => ∃ τ, I k τ E ∧ Beside τ ρ b2 y (ptrA q) (.func (.yield l) [] [])) (fun c ρ E => c = .ret ∧ ∃ τ, J τ E ∧ Store.sub τ ρ)
  _ ⟨τ, h0, hB0⟩ ?_ ?_ ?_ ?_ ?_
 ·refine Store.sub2 (fun o => ?_) (fun i => by simpa using hs (mkey i))
  simp only [supd_apply]
  by_cases h1 : o = y
  ·subst h1; right; simp [Ne.symm e1]
  ·by_cases h2 : o = b2
   ·subst h2; right; simp [h1]
   ·simp only [if_neg h1, if_neg h2]; exact hs o
 ·rintro k ρ E hk ⟨τ1, hI, hB⟩
  have := hneed _ τ1 E hk hI
  refine ⟨?_, prg_mono this.2 hB.sub⟩
  rw [hB.eq]; simp [e1]
 ·rintro k hk ρ E ⟨τ1, hI, hB⟩
  have hyk := hy _ hk τ1 E hI
  have hNe := hneed _ τ1 E (Nat.le_of_lt hk) hI
  have hPr := prg_mono hNe.2 hB.sub
  have hρb := sub_at hNe.1 hB.sub
  have hρy : ρ y = some [.func (.yield l) [] []] := by rw [hB.eq]; simp
  have hm : (S 0).attrs[k]?.getD 0 ∈ (S 0).attrs := by
   rw [List.getElem?_eq_getElem hk]; exact List.getElem_mem hk
  obtain ⟨m1, m2⟩ := mem_attrs hm
  rw [hg.len] at m1
  have hat := at_calls hPr (((S 0).attrs[k]?.getD 0 : Nat) : Int)
  have hae := at_of (hF.good k) (i := (S 0).attrs[k]?.getD 0) (by rw [hF.n]; exact m1)
  have hof := of_calls (((S k).at (((S 0).attrs[k]?.getD 0 : Nat) : Int)).fa)
  have hF2 : (atFldF S k).2 = fld (((S k).at (((S 0).attrs[k]?.getD 0 : Nat) : Int)).fa) := by rw [hae]; rfl
  have hF1 : (atFldF S k).1 = (S 0).attrs[k]?.getD 0 := rfl
  rw [hF2, hF1] at hyk
  generalize (S 0).attrs[k]?.getD 0 = a at *
  generalize (S k).at (a : Int) = c at *
  simp only [cellA_eq] at hat
  have hfa : ∀ f : Fld, fldA f = .agg [.lit (.bool f.prot), .lit (.bool f.num), .lit (.int .i64 f.disp), .lit (.bool f.mod)] := fun _ => rfl
  simp only [hfa] at hof hyk
  simp +contextual [pl106t, hρy, hρb]
  repeat' (with_reducible apply And.intro)
  all_goals
   refine callK.of hat ?_
   rintro v σ' ⟨rfl, rfl⟩
   simp [hρy]
   repeat' (with_reducible apply And.intro)
  all_goals
  all_goals
   refine callK.of (hof _) ?_
   rintro v σ' ⟨rfl, rfl⟩
   simp [hρy]
  all_goals
   refine yieldK.of (by simp) hyk hB.sub ?_
   intro b3 τ' E' hR hap
   cases b3
   ·simp
    exact ⟨_, Store.sub_refl _, τ', by simpa using hR, Store.sub_over _ _ _⟩
   ·simp
    obtain ⟨ρ', h1, h2⟩ := hB.next (Store.sub_refl _) hap
    exact ⟨ρ', h1, τ', by simpa using hR, h2⟩
 ·rintro ρ E2 σ2 hs2 ⟨τ1, hI, hB⟩
  simp
  exact ⟨⟨_, AV.le_refl _⟩, _, Store.sub_refl _, τ1, Store.sub_trans hB.sub hs2, .inl hI⟩
 ·rintro c ρ E2 σ2 hs2 ⟨rfl, τ1, hJ, hsub⟩
  simp
  exact ⟨⟨_, AV.le_refl _⟩, _, Store.sub_refl _, τ1, Store.sub_trans hsub hs2, .inr hJ⟩
def NeedPF (b c q p : Nat) (S : Nat → Sp) (a : Nat) (k : Nat) (τ : Store) : Prop := τ b = some [ptrA q] ∧ τ c = some [.lit (.int .i64 a)] ∧ Prg τ q p (S k)
theorem needPF_mono {b c q p a : Nat} {S : Nat → Sp} {k : Nat} {τ τ' : Store} (h : NeedPF b c q p S a k τ) (hs : Store.sub τ τ') : NeedPF b c q p S a k τ' :=
 ⟨sub_at h.1 hs, sub_at h.2.1 hs, prg_mono h.2.2 hs⟩
theorem places_iterF (b c q p : Nat) (S : Nat → Sp) (hF : Fam S) (a : Nat) (ha : a < (S 0).n) (hat : attrAt (S 0).cells a = true) (σ : Store) : IterG Tryz.prog 158 [ptrA b, ptrA c] σ (Sp.len (S 0).cells a) (NeedPF b c q p S a) fun k _ => [.lit (.int .i64 ((a + k + 1) % (S 0).n : Nat))] := by
 refine ⟨fun k τ τ' h hs => ⟨needPF_mono h hs, rfl⟩, fun X l I J hneed hy τ E h0 hs => ?_⟩
 have hN0 := hneed 0 τ E (Nat.zero_le _) h0
 obtain ⟨hb, hc, hP⟩ := needPF_mono hN0 hs
 have hg := hF.good 0
 have hln := hg.len
 have hn := (S 0).n_le
 have hnp := (S 0).n_pos
 have tn : ∀ o : Nat, σ o = none → τ o = none := fun o ho => by
  rcases hs o with h | h
  ·exact h
  ·rw [h, ho]
 have hsz := size_calls hP
 have hw1 := swrap_calls (S 0) (a : Int)
 rw [wrap_of_lt ha] at hw1
 have hca : ((S 0).at (a : Int)).attr = true := by rw [at_of hg ha]; exact hat
 have hat1 := fun τ (hτ : Prg τ q p (S 0)) => at_calls hτ (a : Int)
 simp only [cellA_eq, hca] at hat1
 have hw2 := swrap_calls (S 0) ((a : Int) + 1)
 have e2 : wrap (S 0).n ((a : Int) + 1) = (a + 0 + 1) % (S 0).n := by
  rw [show ((a : Int) + 1) = ((a + 1 : Nat) : Int) by omega, wrap_mod hnp]
 rw [e2] at hw2
 have hi1 : IntKind.i64.wrap ((a : Int) + 1) = (a : Int) + 1 := wrap_i64 (by omega) (by omega)
 refine ACallsY.of_awp follows (st := st158) (plans := pl158) (n := 33) Tryz.func158 rfl (by kernel_rfl) (by kernel_rfl) (by kernel_rfl) ?_
 simp [hb]
 refine callK.of hsz ?_
 rintro v σ' ⟨rfl, rfl⟩
 simp
 intro z hz
 have hcz : ¬ c = z := by rintro rfl; rw [hc] at hz; cases hz
 have hbz : ¬ b = z := by rintro rfl; rw [hb] at hz; cases hz
 simp [hc, hcz]
 refine callK.of (hw1 _) ?_
 rintro v σ' ⟨rfl, rfl⟩
 have hqc : ¬ q = c := by
  rintro rfl; have := hP.obj; rw [hc] at this; simp [spO] at this
 have hpc : ¬ p = c := by
  rintro rfl
  have h1 := hP.row; rw [hc] at h1
  have h2 := congrArg (fun o => (o.getD []).length) h1
  simp only [Option.getD_some, cellsO_length, List.length_cons, List.length_nil] at h2; omega
 obtain ⟨m1, m2, m3, m4⟩ := hP.fresh hz
 have hbc : ¬ b = c := by
  rintro rfl; rw [hb] at hc; simp at hc
 simp [hc, hcz, hb, hbz, hbc]
 refine callK.of (hat1 _ ((hP.new hz _).upd ⟨hqc, hpc⟩ _)) ?_
 rintro v σ' ⟨rfl, rfl⟩
 simp [Ne.symm hcz, hi1]
 refine callK.of (hw2 _) ?_
 rintro v σ' ⟨rfl, rfl⟩
 simp
 have hlen := Sp.len_lt (l := (S 0).cells) (a := a) (by omega)
 refine codeYK.loop follows (st := st158) (plans := pl158) (S := Nat × Store) (fun x => x.1 ≤ Sp.len (S 0).cells a ∧ x.2 z = none)
  (fun x => [(0, .func (.yield l) [] []), (1, ptrA b), (2, ptrA c), (4, ptrA z), (5, .lit (.int .i64 ((a + x.1 + 1) % (S 0).n : Nat)))]) (fun x => x.2.upd z [.lit (.int .i64 (S 0).rows), .lit (.int .i64 (S 0).cols)]) (fun x E => I x.1 x.2 E) (fun x => Sp.len (S 0).cells a - x.1) (0, τ) (by kernel_rfl) ⟨Nat.zero_le _, tn _ hz⟩ (by simp) ?_ h0 ?_
 ·refine Store.sub2 (fun o => ?_) (fun i => by simpa using hs (mkey i))
  dsimp only
  simp only [supd_apply]
  by_cases h1 : o = z
  ·subst h1; right; simp [Ne.symm hcz]
  ·by_cases h2 : o = c
   ·subst h2
    rcases hs o with h | h
    ·left; simp [h1, h]
    ·right; simp [h1, h, hc]
   ·simp only [if_neg h1, if_neg h2]; exact hs o
 rintro ⟨k, τ1⟩ E1 ⟨hk, hz1⟩ hI
 dsimp only at hk hz1 hI ⊢
 have hNk := hneed k τ1 E1 hk hI
 have hsub : Store.sub τ1 (τ1.upd z [.lit (.int .i64 (S 0).rows), .lit (.int .i64 (S 0).cols)]) := Store.sub_upd hz1 (Store.sub_refl _)
 have hPk := prg_mono hNk.2.2 hsub
 have hbk := sub_at hNk.1 hsub
 have hml : (a + k + 1) % (S 0).n < (S 0).n := Nat.mod_lt _ hnp
 have hatk := at_calls hPk (((a + k + 1) % (S 0).n : Nat) : Int)
 have hae : ((S k).at (((a + k + 1) % (S 0).n : Nat) : Int)).attr = attrAt (S 0).cells ((a + k + 1) % (S 0).n) := by rw [attrAt_at (by rw [hF.n k]; exact hml), hF.attr]
 by_cases hlt : k < Sp.len (S 0).cells a
 ·have hfree := Sp.len_free (l := (S 0).cells) (a := a) (j := k + 1) (by omega) (by omega)
  rw [show a + (k + 1) = a + k + 1 by omega, hln] at hfree
  have hcf : ((S k).at (((a + k + 1) % (S 0).n : Nat) : Int)).attr = false := by rw [hae]; exact hfree
  have hyk := hy k hlt τ1 E1 hI
  have hwk := swrap_calls (S 0) ((((a + k + 1) % (S 0).n : Nat) : Int) + 1)
  have e3 : wrap (S 0).n ((((a + k + 1) % (S 0).n : Nat) : Int) + 1) = (a + (k + 1) + 1) % (S 0).n := by
   rw [show ((((a + k + 1) % (S 0).n : Nat) : Int) + 1) = (((a + k + 1) % (S 0).n + 1 : Nat) : Int) by omega, wrap_mod hnp, Nat.mod_add_mod, show a + (k + 1) + 1 = a + k + 1 + 1 by omega]
  rw [e3] at hwk
  have hik : IntKind.i64.wrap ((((a + k + 1) % (S 0).n : Nat) : Int) + 1) = (((a + k + 1) % (S 0).n : Nat) : Int) + 1 := wrap_i64 (by omega) (by omega)
  generalize (a + k + 1) % (S 0).n = m at *
  simp only [cellA_eq, hcf] at hatk
  have hbk' : τ1 b = some [ptrA q] := hNk.1
  simp [hbk', hbz]
  refine callK.of hatk ?_
  rintro v σ' ⟨rfl, rfl⟩
  simp
  refine yieldK.of (args' := [.lit (.int .i64 (m : Nat))]) (by simp) hyk hsub ?_
  intro b3 τ' E' hR hap
  have hz2 : τ' z = none := hap z hz1 (by simp)
  have hov : Store.over τ' τ1 (τ1.upd z [.lit (.int .i64 (S 0).rows), .lit (.int .i64 (S 0).cols)]) z = some [.lit (.int .i64 (S 0).rows), .lit (.int .i64 (S 0).cols)] := by
   rw [Store.over_apart hap hz1 (by simp)]; simp
  cases b3
  ·simp
   exact ⟨⟨_, AV.le_refl _⟩, _, Store.sub_refl _, τ', Store.sub_over _ _ _, .inr (by simpa using hR)⟩
  ·simp [hov, hik]
   refine callK.of (hwk _) ?_
   rintro v σ' ⟨rfl, rfl⟩
   simp
   refine ⟨k + 1, τ', ⟨by omega, hz2⟩, by omega, AV.le_refl _, Store.sub2 (fun o => ?_) (fun i => by simpa using Store.sub_over _ _ _ (mkey i)), by simpa using hR⟩
   by_cases h1 : o = z
   ·subst h1; right; rw [hov]; simp
   ·simp only [supd_apply, if_neg h1]; exact Store.sub_over _ _ _ o
 ·obtain rfl : k = Sp.len (S 0).cells a := by omega
  have hstop := Sp.len_stop hat (by omega)
  rw [hln] at hstop
  have hcf : ((S (Sp.len (S 0).cells a)).at (((a + Sp.len (S 0).cells a + 1) % (S 0).n : Nat) : Int)).attr = true := by rw [hae]; exact hstop
  generalize (a + Sp.len (S 0).cells a + 1) % (S 0).n = m at *
  simp only [cellA_eq, hcf] at hatk
  have hbk' : τ1 b = some [ptrA q] := hNk.1
  simp [hbk', hbz]
  refine callK.of hatk ?_
  rintro v σ' ⟨rfl, rfl⟩
  simp
  exact ⟨⟨_, AV.le_refl _⟩, _, Store.sub_refl _, τ1, hsub, .inl hI⟩
theorem foldl_inv {α β : Type} {P : β → Prop} (f : β → α → β) (h : ∀ b a, P b → P (f b a)) : ∀ (l : List α) (b : β), P b → P (l.foldl f b)
 | [], _, hb => hb
 | a :: l, b, hb => foldl_inv f h l (f b a) (h b a hb)
def SameN (s t : Sp) : Prop := t.good ∧ t.model = s.model ∧ t.alt = s.alt
theorem SameN.refl {s : Sp} (h : s.good) : SameN s s := ⟨h, rfl, rfl⟩
theorem SameN.n {s t : Sp} (h : SameN s t) : t.n = s.n := by unfold Sp.n Sp.rows Sp.cols; rw [h.2.1, h.2.2]
theorem SameN.trans {a b c : Sp} (h : SameN a b) (k : SameN b c) : SameN a c := ⟨k.1, k.2.1.trans h.2.1, k.2.2.trans h.2.2⟩
theorem SameN.set {s t : Sp} (h : SameN s t) (k : Int) (c : Cell) : SameN s (t.set k c) := ⟨h.1.set k c, h.2.1, h.2.2⟩
theorem SameN.put {s t : Sp} (h : SameN s t) (k : Int) (c : UInt8) : SameN s (t.put k c) := ⟨h.1.put k c, (t.model_put k c).1.trans h.2.1, (t.model_put k c).2.trans h.2.2⟩
theorem SameN.place {s t : Sp} (h : SameN s t) (k : Int) : SameN s (t.place k) := ⟨h.1.place k, h.2.1, h.2.2⟩
theorem SameN.rangeS {s t : Sp} (h : SameN s t) (l : List Nat) : SameN s (rangeS t l) :=
 foldl_inv (P := SameN s) _ (fun b a hb => by split; exact hb.put _ _; exact hb) l t h
theorem SameN.repeatS {s t : Sp} (h : SameN s t) (l : List Nat) (c : Cell) : SameN s (repeatS t l c) :=
 foldl_inv (P := SameN s) _ (fun _b _a hb => hb.set _ _) l t h
theorem SameN.nullS {s t : Sp} (h : SameN s t) (l : List Nat) : SameN s (nullS t l) :=
 foldl_inv (P := SameN s) _ (fun _b _a hb => hb.put _ _) l t h
theorem attrAt_put {s : Sp} (h : s.good) (k : Int) (b : UInt8) (i : Nat) : attrAt (s.put k b).cells i = attrAt s.cells i := by
 by_cases hc : (s.at k).attr = true
 ·unfold Sp.put; rw [if_pos hc]
 ·have hc' : (s.at k).attr = false := by simpa using hc
  obtain ⟨h1, _⟩ := put_cells h k b hc'
  rw [h1]
  have hlt := wrap_lt s.n_pos k
  have hlt' : wrap s.n k < s.cells.length := by rw [h.len]; exact hlt
  unfold attrAt
  rw [List.getElem?_set]
  split
  ·rename_i hi
   subst hi
   have e : s.cells[wrap s.n k] = s.at k := by simp [Sp.at, hlt']
   simp [hlt', e, hc']
  ·rfl
theorem putS_put {f : Sp → Nat → List AV} {σ : Store} {q p : Nat} (hne : q ≠ p) (s s2 : Sp) : putS f (putS f σ q p s) q p s2 = putS f σ q p s2 := putS_twice s s2 hne
structure Lv (σ ρ : Store) (q r : Nat) (s : Sp) : Prop where
 prg : Prg ρ q r s
 sub : Store.sub (putS spO σ q r s) ρ
theorem putS_at {f : Sp → Nat → List AV} {σ : Store} {q r o : Nat} {s : Sp} (h1 : ¬ o = q) (h2 : ¬ o = r) : putS f σ q r s o = σ o := by simp [putS, h1, h2]
theorem Lv.put {σ ρ : Store} {q r : Nat} {s : Sp} (h : Lv σ ρ q r s) {s2 : Sp} (hg : s2.good) : Lv σ (putS spO ρ q r s2) q r s2 := by
 refine ⟨Scr.of_put h.prg.ne hg, Store.sub2 (fun o => ?_) (fun i => by simpa [putS] using h.sub (mkey i))⟩
 by_cases h1 : o = q
 ·subst h1; right; simp [putS]
 ·by_cases h2 : o = r
  ·subst h2; right; simp [putS]
  ·rw [putS_at h1 h2, putS_at h1 h2]
   have := h.sub o
   rwa [putS_at h1 h2] at this
theorem Lv.new {σ ρ : Store} {q r : Nat} {s : Sp} (h : Lv σ ρ q r s) {b : Nat} (hb : ρ b = none) (X : List AV) : Lv σ (ρ.upd b X) q r s :=
 ⟨h.prg.new hb X, Store.sub_trans h.sub (Store.sub_upd hb (Store.sub_refl _))⟩
theorem Lv.refl {σ : Store} {q r : Nat} {s : Sp} (h : Prg σ q r s) : Lv σ σ q r s := ⟨h, by rw [h.put_self]; exact Store.sub_refl _⟩
theorem Lv.mono {σ ρ ρ' : Store} {q r : Nat} {s : Sp} (h : Lv σ ρ q r s) (hs : Store.sub ρ ρ') : Lv σ ρ' q r s := ⟨prg_mono h.prg hs, Store.sub_trans h.sub hs⟩
theorem NeedB.put {b1 b2 b3 : Nat} {s : Sp} {f t : Nat} {τ : Store} (h : NeedB b1 b2 b3 s f t τ) {q r : Nat} (g1 : ¬ b1 = q ∧ ¬ b1 = r) (g2 : ¬ b2 = q ∧ ¬ b2 = r) (g3 : ¬ b3 = q ∧ ¬ b3 = r) (s2 : Sp) : NeedB b1 b2 b3 s f t (putS spO τ q r s2) :=
 ⟨by rw [putS_at g1.1 g1.2]; exact h.1, by rw [putS_at g2.1 g2.2]; exact h.2.1, by rw [putS_at g3.1 g3.2]; exact h.2.2⟩
theorem andNot1 (b : UInt8) : pureBin .andNot (.int .u8 (b.toNat : Int)) (.int .u8 1) = some (.int .u8 ((b &&& 0xfe).toNat : Int)) := by
 have h : IntKind.u8.wrap ((BitVec.ofInt IntKind.u8.bits (b.toNat : Int) &&& ~~~BitVec.ofInt IntKind.u8.bits 1).toNat : Int) = ((b &&& 0xfe).toNat : Int) :=
  all_bytes (p := fun b => IntKind.u8.wrap ((BitVec.ofInt IntKind.u8.bits (b.toNat : Int) &&& ~~~BitVec.ofInt IntKind.u8.bits 1).toNat : Int) = ((b &&& 0xfe).toNat : Int)) (by decide +kernel) b
 unfold pureBin
 simp only [if_true]
 rw [h]
def clr (c : Cell) : Cell := { c with fa := c.fa &&& 0xfe }
def unmod1 (s : Sp) (a : Nat) : Sp := s.set a (clr (s.at a))
def unmodTo (s : Sp) (k : Nat) : Sp := (s.attrs.take k).foldl unmod1 s
def unmodS (s : Sp) : Sp := s.attrs.foldl unmod1 s
def unprot1 (s : Sp) (a : Nat) : Sp := if (fldAt s a).prot = true then s else unmod1 (nullS s (Sp.places s.cells a)) a
def unprotTo (s : Sp) (k : Nat) : Sp := (s.attrs.take k).foldl unprot1 s
def unprotS (s : Sp) : Sp := if s.count = 0 then (nullS s (List.range s.n)).place 0 else
 (s.attrs.foldl unprot1 s).place (max (nextS (s.attrs.foldl unprot1 s) (s.n - 1)) 0)
theorem fit_attr (c : Cell) : (Sp.fit c).attr = c.attr := by unfold Sp.fit; split <;> rfl
theorem attrAt_set {s : Sp} (h : s.good) (k : Int) (c : Cell) (i : Nat) : attrAt (s.set k c).cells i = if i = wrap s.n k then c.attr else attrAt s.cells i := by
 have hlt := wrap_lt s.n_pos k
 have hlt' : wrap s.n k < s.cells.length := by rw [h.len]; exact hlt
 unfold attrAt Sp.set Sp.put1
 simp only [List.getElem?_set]
 by_cases hi : i = wrap s.n k
 ·subst hi; simp [hlt', fit_attr]
 ·rw [if_neg hi, if_neg (Ne.symm hi)]
theorem nullS_attr {s : Sp} (h : s.good) (l : List Nat) (i : Nat) : attrAt (nullS s l).cells i = attrAt s.cells i := by
 have : ∀ (l : List Nat) (t : Sp), t.good → attrAt (nullS t l).cells i = attrAt t.cells i := by
  intro l
  induction l with
  | nil => intro t _; rfl
  | cons a l ih => intro t ht; exact (ih _ (ht.put _ _)).trans (attrAt_put ht _ _ _)
 exact this l s h
structure KeepA (s t : Sp) : Prop where
 same : SameN s t
 attr : ∀ i, attrAt t.cells i = attrAt s.cells i
theorem KeepA.refl {s : Sp} (h : s.good) : KeepA s s := ⟨SameN.refl h, fun _ => rfl⟩
theorem KeepA.trans {a b c : Sp} (h : KeepA a b) (k : KeepA b c) : KeepA a c := ⟨h.same.trans k.same, fun i => (k.attr i).trans (h.attr i)⟩
theorem KeepA.attrs {s t : Sp} (h : KeepA s t) (hs : s.good) : t.attrs = s.attrs := by
 rw [attrs_eq _ h.same.1, attrs_eq _ hs, h.same.n]
 congr 1
 funext i; exact h.attr i
theorem keep_unmod1 {s : Sp} (h : s.good) {a : Nat} (ha : a < s.n) (hat : attrAt s.cells a = true) : KeepA s (unmod1 s a) := by
 refine ⟨(SameN.refl h).set _ _, fun i => ?_⟩
 unfold unmod1
 rw [attrAt_set h, wrap_of_lt ha]
 split
 ·rename_i hi; subst hi
  show (s.at (i : Int)).attr = _
  rw [attrAt_at ha]
 ·rfl
theorem keep_null {s : Sp} (h : s.good) (l : List Nat) : KeepA s (nullS s l) := ⟨(SameN.refl h).nullS l, nullS_attr h l⟩
theorem keep_unprot1 {s : Sp} (h : s.good) {a : Nat} (ha : a < s.n) (hat : attrAt s.cells a = true) : KeepA s (unprot1 s a) := by
 unfold unprot1
 split
 ·exact KeepA.refl h
 ·have h1 := keep_null h (Sp.places s.cells a)
  exact h1.trans (keep_unmod1 h1.same.1 (by rw [h1.same.n]; exact ha) (by rw [h1.attr]; exact hat))
theorem keep_fold (f : Sp → Nat → Sp) (hf : ∀ s : Sp, s.good → ∀ a, a < s.n → attrAt s.cells a = true → KeepA s (f s a)) {s : Sp} (h : s.good) : ∀ (l : List Nat) (t : Sp), KeepA s t → (∀ a ∈ l, a < s.n ∧ attrAt s.cells a = true) → KeepA s (l.foldl f t)
 | [], _, ht, _ => ht
 | a :: l, t, ht, hl => keep_fold f hf h l (f t a) (ht.trans (hf t ht.same.1 a (by rw [ht.same.n]; exact (hl a (by simp)).1) (by rw [ht.attr]; exact (hl a (by simp)).2))) fun b hb => hl b (List.mem_cons_of_mem _ hb)
theorem attr_mem {s : Sp} (h : s.good) : ∀ a ∈ s.attrs, a < s.n ∧ attrAt s.cells a = true := fun a ha => by
 obtain ⟨h1, h2⟩ := mem_attrs ha
 rw [h.len] at h1; exact ⟨h1, h2⟩
theorem keep_unprotTo {s : Sp} (h : s.good) (k : Nat) : KeepA s (unprotTo s k) := keep_fold _ (fun _s h _a h1 h2 => keep_unprot1 h h1 h2) h _ _ (KeepA.refl h) fun a ha => attr_mem h a (List.mem_of_mem_take ha)
theorem fam_unprot {s : Sp} (h : s.good) : Fam (unprotTo s) := ⟨fun k => (keep_unprotTo h k).same.1, fun k => (keep_unprotTo h k).same.n, fun k i => (keep_unprotTo h k).attr i⟩
theorem unprotTo_succ (s : Sp) (k : Nat) (h : k < s.attrs.length) : unprotTo s (k + 1) = unprot1 (unprotTo s k) s.attrs[k] := by
 unfold unprotTo; rw [List.take_succ_eq_append_getElem h, List.foldl_append]; rfl
theorem nullS_range (s : Sp) (k : Nat) : nullS s (List.range (k + 1)) = (nullS s (List.range k)).put (k : Int) 0 := by
 unfold nullS; rw [List.range_succ, List.foldl_append]; rfl
theorem nullall_calls {q r : Nat} {s : Sp} {σ : Store} (h : Prg σ q r s) : ACalls Tryz.prog 135 [ptrA q] σ fun v σ' => v = .tuple [] ∧ σ' = putS spO σ q r (nullS s (List.range s.n)) := by
 have hsz := fun τ (hτ : Prg τ q r s) => size_calls hτ
 have hcl := fun τ => scells_calls s τ
 have hnl := s.n_le
 refine aw st135 pl135 13 Tryz.func135 rfl ?_
 simp
 refine callK.of (hsz _ h) ?_
 rintro v σ' ⟨rfl, rfl⟩
 simp
 refine callK.of (hcl _) ?_
 rintro v σ2 ⟨rfl, rfl⟩
 simp
 refine codeK.loop follows (st := st135) (plans := pl135) (X := Nat) (fun k => k ≤ s.n)
  (fun k => [(0, ptrA q), (5, .lit (.int .i64 s.n)), (6, .lit (.int .i64 k))]) (fun k => putS spO σ2 q r (nullS s (List.range k))) (fun k => s.n - k) 0 (by kernel_rfl) (by simp) (by simp) (by
   have hz0 : nullS s (List.range 0) = s := rfl
   rw [hz0, h.put_self]; exact Store.sub_refl _) fun k hk => ?_
 have hkp := keep_null h.good (List.range k)
 have hP : Prg (putS spO σ2 q r (nullS s (List.range k))) q r (nullS s (List.range k)) := Scr.of_put h.ne hkp.same.1
 by_cases hlt : k < s.n
 ·have hw : IntKind.i64.wrap ((k : Int) + 1) = ((k + 1 : Nat) : Int) := wrap_i64 (by omega) (by omega)
  have hpu := pput_calls hP (k : Int) 0
  rw [putS_twice _ _ h.ne, ← nullS_range] at hpu
  simp [hlt]
  refine callK.of hpu ?_
  rintro v σ3 ⟨rfl, rfl⟩
  simp
  exact ⟨k + 1, by omega, by omega, by rw [hw]; exact AV.le_refl _, Store.sub_refl _⟩
 ·obtain rfl : k = s.n := by omega
  simp
theorem wrap_neg {n : Nat} (h : 0 < n) : wrap n (-1) = n - 1 := by
 have := wrap_pred h h
 have e : (((0 : Nat) : Int) - 1) = -1 := rfl
 rw [e] at this
 rw [this, Nat.zero_add, Nat.mod_eq_of_lt (by omega)]
theorem fnext0_calls {q r : Nat} {s : Sp} {σ : Store} (h : Prg σ q r s) : ACalls Tryz.prog 124 [ptrA q, .lit (.int .i64 (-1))] σ fun v σ' => v = .lit (.int .i64 (nextS s (s.n - 1))) ∧ σ' = σ := by
 have hsz := fun τ (hτ : Prg τ q r s) => size_calls hτ
 have hw := fun τ => swrap_calls s (-1) τ
 have hpos := s.n_pos
 rw [wrap_neg hpos] at hw
 refine aw st124 pl124 11 Tryz.func124 rfl ?_
 simp
 refine callK.of (hsz _ h) ?_
 rintro v σ' ⟨rfl, rfl⟩
 simp
 refine callK.of (hw _) ?_
 rintro v σ' ⟨rfl, rfl⟩
 simp
 refine callK.of (find_calls h (by omega)) ?_
 rintro v σ' ⟨rfl, rfl⟩
 simp
theorem places_length' (l : List Cell) (a : Nat) : (Sp.places l a).length = Sp.len l a := by simp [Sp.places]
theorem places_get' (l : List Cell) (a k : Nat) (h : k < (Sp.places l a).length) : (Sp.places l a)[k] = (a + k + 1) % l.length := by simp [Sp.places]
def nullP (t : Sp) (a j : Nat) : Sp := nullS t ((Sp.places t.cells a).take j)
theorem nullP_succ (t : Sp) (a j : Nat) (h : j < Sp.len t.cells a) (hl : t.cells.length = t.n) : nullP t a (j + 1) = (nullP t a j).put (((a + j + 1) % t.n : Nat) : Int) 0 := by
 have hj : j < (Sp.places t.cells a).length := by rw [places_length']; exact h
 unfold nullP nullS
 rw [List.take_succ_eq_append_getElem hj, List.foldl_append, places_get', hl]; rfl
theorem nullP_all (t : Sp) (a : Nat) : nullP t a (Sp.len t.cells a) = nullS t (Sp.places t.cells a) := by
 unfold nullP; rw [← places_length', List.take_length]
theorem fam_null {t : Sp} (h : t.good) (a : Nat) : Fam (nullP t a) := ⟨fun _k => (keep_null h _).same.1, fun _k => (keep_null h _).same.n, fun _k i => (keep_null h _).attr i⟩
theorem unprotected_calls {q r : Nat} {s : Sp} {σ : Store} (h : Prg σ q r s) : ACalls Tryz.prog 95 [ptrA q] σ fun v σ' => v = .tuple [] ∧ σ' = putS spO σ q r (unprotS s) := by
 have hfo := fun τ (hτ : Prg τ q r s) => formatted_calls hτ
 by_cases hc : s.count = 0
 ·have hna := fun τ (hτ : Prg τ q r s) => nullall_calls hτ
  have hkp := keep_null h.good (List.range s.n)
  have hpl := fun τ (hτ : Prg τ q r (nullS s (List.range s.n))) => place_calls hτ 0
  unfold unprotS
  rw [if_pos hc]
  refine ACalls.of_awpY follows (st := st95) (plans := pl95) (n := 42) Tryz.func95 rfl (by kernel_rfl) (by kernel_rfl) (by kernel_rfl) ?_
  simp
  intro b hb
  have hb0 := h.fresh hb
  refine callK.of (hfo _ (h.new hb _)) ?_
  rintro v σ' ⟨rfl, rfl⟩
  simp [hc]
  refine callK.of (hna _ (h.new hb _)) ?_
  rintro v σ2 ⟨rfl, rfl⟩
  have hL := ((Lv.refl h).new hb [ptrA q]).put hkp.same.1
  have hbv : putS spO (σ.upd b [ptrA q]) q r (nullS s (List.range s.n)) b = some [ptrA q] := by rw [putS_at hb0.2.2.1 hb0.2.2.2]; simp
  simp [hbv]
  refine callK.of (hpl _ hL.prg) ?_
  rintro v σ3 ⟨rfl, rfl⟩
  simp
  exact (hL.put (hkp.same.1.place 0)).sub
 ·have hfc := fun τ => fields_calls2 q τ
  have hfam := fam_unprot h.good
  have hz0 : unprotTo s 0 = s := rfl
  have hat0 : (unprotTo s 0).attrs = s.attrs := rfl
  have hall : unprotTo s s.attrs.length = s.attrs.foldl unprot1 s := by unfold unprotTo; rw [List.take_length]
  unfold unprotS
  rw [if_neg hc, ← hall]
  have hc' : 0 < s.count := by omega
  refine ACalls.of_awpY follows (st := st95) (plans := pl95) (n := 42) Tryz.func95 rfl (by kernel_rfl) (by kernel_rfl) (by kernel_rfl) ?_
  simp
  intro b hb
  have hb0 := h.fresh hb
  refine callK.of (hfo _ (h.new hb _)) ?_
  rintro v σ' ⟨rfl, rfl⟩
  simp [hc']
  refine callK.of (hfc _) ?_
  rintro v σ2 ⟨b2, f2, rfl, rfl⟩
  simp only [supd_apply, ite_none] at f2
  have g2 := h.fresh f2.2
  simp
  refine codeYK.rangeG follows (st := st95) (plans := pl95) (fields_iterF b2 q r (unprotTo s) hfam _) (by simp) (by simp) (by simp) (by kernel_rfl) (by kernel_rfl) (by kernel_rfl)
   (fun k ρ E => Lv σ ρ q r (unprotTo s k) ∧ ρ b = some [ptrA q] ∧ ρ b2 = some [ptrA q]) (fun c ρ E => False)
   _ ⟨?_, ?_, ?_⟩ (Store.sub_refl _) ?_ ?_ ?_ ?_
  ·rw [hz0]
   exact ((Lv.refl h).new hb [ptrA q]).new (b := b2) (by simp [f2]) [ptrA q]
  ·simp [Ne.symm f2.1]
  ·simp
  ·rintro k ρ E hk ⟨hL, _, h2⟩
   exact ⟨h2, hL.prg⟩
  ·rintro k hk ρ E ⟨hL, hρb, hρ2⟩
   rw [hat0] at hk
   have hkp := keep_unprotTo h.good k
   have hsucc := unprotTo_succ s k hk
   obtain ⟨m1, m2⟩ := attr_mem h.good _ (List.getElem_mem hk)
   have hget : (unprotTo s 0).attrs[k]?.getD 0 = s.attrs[k] := by rw [hat0, List.getElem?_eq_getElem hk]; rfl
   have ha1 : (atFldF (unprotTo s) k).1 = s.attrs[k] := hget
   have ha2 : (atFldF (unprotTo s) k).2 = fldAt (unprotTo s k) s.attrs[k] := by unfold atFldF fldAt; rw [hget]
   rw [ha1, ha2, hsucc]
   generalize s.attrs[k] = a at *
   generalize unprotTo s k = t at *
   have m3 : a < t.n := by rw [hkp.same.n]; exact m1
   have m4 : attrAt t.cells a = true := by rw [hkp.attr]; exact m2
   have htg := hkp.same.1
   have hun : unprot1 t a = if (fldAt t a).prot = true then t else unmod1 (nullS t (Sp.places t.cells a)) a := rfl
   rw [hun]
   have hfa : ∀ f : Fld, fldA f = .agg [.lit (.bool f.prot), .lit (.bool f.num), .lit (.int .i64 f.disp), .lit (.bool f.mod)] := fun _ => rfl
   rw [hfa]
   generalize fldAt t a = f at *
   by_cases hpr : f.prot = true
   ·rw [hpr]
    simp
    intro t3 ht3
    have k1 : ¬ b = t3 := by rintro rfl; rw [hρb] at ht3; cases ht3
    have k2 : ¬ b2 = t3 := by rintro rfl; rw [hρ2] at ht3; cases ht3
    exact ⟨_, Store.sub_refl _, hL.new ht3 _, by simp [k1, hρb], by simp [k2, hρ2]⟩
   ·have hpr' : f.prot = false := by simpa using hpr
    rw [hpr']
    simp
    intro t3 ht3
    have k1 : ¬ b = t3 := by rintro rfl; rw [hρb] at ht3; cases ht3
    have k2 : ¬ b2 = t3 := by rintro rfl; rw [hρ2] at ht3; cases ht3
    simp [k1, hρb]
    have hL1 := hL.new ht3 [.lit (.bool false), .lit (.bool f.num), .lit (.int .i64 f.disp), .lit (.bool f.mod)]
    have c1 : (ρ.upd t3 [.lit (.bool false), .lit (.bool f.num), .lit (.int .i64 f.disp), .lit (.bool f.mod)]) b = some [ptrA q] := by simp [k1, hρb]
    have c2 : (ρ.upd t3 [.lit (.bool false), .lit (.bool f.num), .lit (.int .i64 f.disp), .lit (.bool f.mod)]) b2 = some [ptrA q] := by simp [k2, hρ2]
    have hsubρ : Store.sub ρ (ρ.upd t3 [.lit (.bool false), .lit (.bool f.num), .lit (.int .i64 f.disp), .lit (.bool f.mod)]) := Store.sub_upd ht3 (Store.sub_refl _)
    have c3 : (ρ.upd t3 [.lit (.bool false), .lit (.bool f.num), .lit (.int .i64 f.disp), .lit (.bool f.mod)]) t3 = some [.lit (.bool false), .lit (.bool f.num), .lit (.int .i64 f.disp), .lit (.bool f.mod)] := by simp
    generalize ρ.upd t3 [.lit (.bool false), .lit (.bool f.num), .lit (.int .i64 f.disp), .lit (.bool f.mod)] = ρ1 at *
    refine callK.of (places_calls2 q (a : Int) _) ?_
    rintro v σ2 ⟨pb, pc, hpb, hpc, hne, rfl, rfl⟩
    have gpb := hL1.prg.fresh hpb
    have gpc := hL1.prg.fresh hpc
    have n1 : ¬ b = pb := by rintro rfl; rw [c1] at hpb; cases hpb
    have n2 : ¬ b = pc := by rintro rfl; rw [c1] at hpc; cases hpc
    have n3 : ¬ b2 = pb := by rintro rfl; rw [c2] at hpb; cases hpb
    have n4 : ¬ b2 = pc := by rintro rfl; rw [c2] at hpc; cases hpc
    have hfn := fam_null htg a
    have hnz : nullP t a 0 = t := rfl
    have hln := htg.len
    simp
    refine codeYK.rangeG follows (st := st95) (plans := pl95) (places_iterF pb pc q r (nullP t a) hfn a m3 m4 _) (by simp) (by simp) (by simp) (by kernel_rfl) (by kernel_rfl) (by kernel_rfl)
     (fun j ρ E => Lv σ ρ q r (nullP t a j) ∧ ρ b = some [ptrA q] ∧ ρ b2 = some [ptrA q] ∧ ρ pb = some [ptrA q] ∧ ρ pc = some [.lit (.int .i64 a)]) (fun c ρ E => False)
     _ ⟨?_, ?_, ?_, ?_, ?_⟩ (Store.sub_refl _) ?_ ?_ ?_ ?_
    ·rw [hnz]
     exact (hL1.new hpb [ptrA q]).new (b := pc) (by simp [Ne.symm hne, hpc]) [.lit (.int .i64 a)]
    ·simp [n1, n2, c1]
    ·simp [n3, n4, c2]
    ·simp [hne]
    ·simp
    ·rintro j ρ E hj ⟨hLj, _, _, h4, h5⟩
     exact ⟨h4, h5, hLj.prg⟩
    ·rintro j hj ρ E ⟨hLj, h1, h2, h4, h5⟩
     have hj' : j < Sp.len t.cells a := hj
     have hsu := nullP_succ t a j hj' hln
     have hgj := hfn.good j
     have hnj : (nullP t a 0).n = t.n := rfl
     rw [hnj, hsu]
     generalize (a + j + 1) % t.n = m at *
     generalize nullP t a j = u at *
     have hpu := pput_calls hLj.prg (m : Int) 0
     simp [h1]
     refine callK.of hpu ?_
     rintro v σ3 ⟨rfl, rfl⟩
     simp
     refine ⟨_, Store.sub_refl _, hLj.put (hgj.put _ _), ?_, ?_, ?_, ?_⟩
     ·rw [putS_at hb0.2.2.1 hb0.2.2.2]; exact h1
     ·rw [putS_at g2.2.2.1 g2.2.2.2]; exact h2
     ·rw [putS_at gpb.2.2.1 gpb.2.2.2]; exact h4
     ·rw [putS_at gpc.2.2.1 gpc.2.2.2]; exact h5
    ·rintro ρ2 E2 σ2 hs2 ⟨hLj, h1, h2, _, _⟩
     have hend : nullP t a (Sp.len (nullP t a 0).cells a) = nullS t (Sp.places t.cells a) := nullP_all t a
     rw [hend] at hLj
     have hL2 := hLj.mono hs2
     have j1 := sub_at h1 hs2
     have j2 := sub_at h2 hs2
     have hkn := keep_null htg (Sp.places t.cells a)
     generalize nullS t (Sp.places t.cells a) = u at *
     have hat := fun τ (hτ : Prg τ q r u) => at_calls hτ (a : Int)
     have hse := fun τ (hτ : Prg τ q r u) => set_calls hτ (a : Int) (clr (u.at (a : Int)))
     have hk2 := keep_unmod1 hkn.same.1 (a := a) (by rw [hkn.same.n]; exact m3) (by rw [hkn.attr]; exact m4)
     have hun2 : unmod1 u a = u.set (a : Int) (clr (u.at (a : Int))) := rfl
     rw [hun2] at hk2 ⊢
     generalize hcc : u.at (a : Int) = c at *
     have hcl : cellA (clr c) = .agg [byteA c.char, .lit (.bool c.attr), byteA (c.fa &&& 0xfe), byteA c.high, byteA c.color, byteA c.set] := rfl
     rw [cellA_eq c] at hat
     rw [hcl] at hse
     have e1 := byteA_lit c.fa
     have e2 := byteA_lit (c.fa &&& 0xfe)
     have han := andNot1 c.fa
     rw [e1] at hat
     rw [e2] at hse
     simp [j1]
     refine callK.of (hat _ hL2.prg) ?_
     rintro v σ3 ⟨rfl, rfl⟩
     simp [-e_pureBin_11, han]
     intro t5 ht5
     have k3 : ¬ b = t5 := by rintro rfl; rw [j1] at ht5; cases ht5
     have k4 : ¬ b2 = t5 := by rintro rfl; rw [j2] at ht5; cases ht5
     simp [k3, j1]
     refine callK.of (hse _ (hL2.new ht5 _).prg) ?_
     rintro v σ4 ⟨rfl, rfl⟩
     simp
     refine ⟨_, Store.sub_refl _, (hL2.new ht5 _).put hk2.same.1, ?_, ?_⟩
     ·rw [putS_at hb0.2.2.1 hb0.2.2.2]; simp [k3, j1]
     ·rw [putS_at g2.2.2.1 g2.2.2.2]; simp [k4, j2]
    ·rintro c ρ E2 σ2 hs2 hF
     exact hF.elim
  ·rintro ρ E2 σ2 hs2 ⟨hL, h1, _⟩
   rw [hat0] at hL
   have hL2 := hL.mono hs2
   have j1 := sub_at h1 hs2
   have hnn : (unprotTo s s.attrs.length).n = s.n := (keep_unprotTo h.good _).same.n
   generalize unprotTo s s.attrs.length = t at *
   have hnx := fun τ (hτ : Prg τ q r t) => fnext0_calls hτ
   have hpl := fun τ (hτ : Prg τ q r t) => place_calls hτ (max (nextS t (t.n - 1)) 0)
   have hmx : max (nextS t (t.n - 1)) 0 = if nextS t (t.n - 1) < 0 then 0 else nextS t (t.n - 1) := by split <;> omega
   rw [hmx] at hpl
   rw [← hnn, hmx]
   have hgood := hL2.prg.good
   simp [j1]
   refine ⟨?_, ?_⟩
   all_goals
    refine callK.of (hnx _ hL2.prg) ?_
    rintro v σ3 ⟨rfl, rfl⟩
    simp [j1]
    refine callK.of (hpl _ hL2.prg) ?_
    rintro v σ4 ⟨rfl, rfl⟩
    simp
    exact (hL2.put (hgood.place _)).sub
  ·rintro c ρ E2 σ2 hs2 hF
   exact hF.elim
end Go.Proofs.YtlmdbcgceijlnaaGreat
