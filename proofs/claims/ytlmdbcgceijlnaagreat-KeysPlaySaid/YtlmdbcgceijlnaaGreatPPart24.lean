/-
 The document's places of a field.
-/
import Derived.Test.YtlmdbcgceijlnaaGreatPPart23
set_option linter.unusedSimpArgs false
set_option linter.unusedVariables false
set_option maxRecDepth 8000
set_option maxHeartbeats 8000000

namespace Go.Proofs.YtlmdbcgceijlnaaGreat
open Go Go.AL Go.Sp
theorem rplaces_calls {x y : Nat} {s : Sp} {σ : Store} (h : Ref σ x y s) (a : Nat) (ha : a < s.n) (hat : attrAt s.cells a = true) : ACalls Tryz.prog 142 [ptrA x, .lit (.int .i64 a)] σ fun v σ' => v = .list false 1 (natsA (Sp.places s.cells a)) ∧ σ' = σ := by
 have ho := h.obj
 have hr := h.row
 have hln := h.good.len
 have hn := s.n_le
 have hnp := s.n_pos
 have hwp := fun τ (hτ : Ref τ x y s) => rswrap_calls hτ (a : Int)
 rw [wrap_of_lt ha] at hwp
 have hsc := starts_calls h
 unfold rfO at ho
 have hac : a < s.cells.length := by omega
 have h1 : (cellsO s.cells)[a * 6 + 1]? = some (.lit (.bool true)) := by
  rw [cellsO_get1 hac (by omega)]
  have : s.cells[a].attr = true := by have := hat; simp [attrAt, hac] at this; exact this
  rw [show (cellC s.cells[a])[1]? = some (.lit (.bool s.cells[a].attr)) from rfl, this]
 have hsl : (intsA (starts s)).length = s.n := by simp [starts]
 have hlen := Sp.len_lt hac
 refine aw st142 pl142 52 Tryz.func142 rfl ?_
 simp
 refine callK.of (hwp _ h) ?_
 rintro v σ' ⟨rfl, rfl⟩
 simp [ho, rowC, ha, hr, h1]
 refine callK.of hsc ?_
 rintro v σ' ⟨p, hp, rfl, rfl⟩
 obtain ⟨f1, f2, f3, f4⟩ := h.fresh hp
 simp [rowC]
 refine codeK.loop follows (st := st142) (plans := pl142) (X := Nat) (fun k => k ≤ Sp.len s.cells a)
  (fun k => [(0, ptrA x), (1, .lit (.int .i64 a)), (5, rowC p s.n), (6, .list true 1 (natsA ((Sp.places s.cells a).take k))), (7, .lit (.int .i64 (k + 1 : Nat)))])
  (fun _ => σ'.upd p (intsA (starts s))) (fun k => Sp.len s.cells a - k) 0 (by kernel_rfl) (by simp) (by simp [rowC, natsA, le_row]) (Store.sub_refl _) fun k hk => ?_
 have hw2 : IntKind.i64.wrap ((k : Int) + 1 + 1) = (k : Int) + 1 + 1 := wrap_i64 (by omega) (by omega)
 have hw3 : IntKind.i64.wrap ((a : Int) + ((k : Int) + 1)) = ((a + (k + 1) : Nat) : Int) := by rw [wrap_i64 (by omega) (by omega)]; omega
 have hmod := fun τ => rmod_calls ((a + (k + 1) : Nat) : Int) s.n hnp (by omega) τ
 rw [wrap_mod hnp] at hmod
 have hml : (a + (k + 1)) % s.n < s.n := Nat.mod_lt _ hnp
 have hst := starts_at hml
 by_cases hkn : k + 1 < s.n
 ·have hkn' : (k : Int) + 1 < s.n := by omega
  have hsp := Sp.startS_places hat hac (i := k + 1) (by omega) (by omega) (by omega)
  rw [hln] at hsp
  by_cases hlt : k < Sp.len s.cells a
  ·have hpt := places_take_succ (s := s) (a := a) hlt
   rw [hln, show a + k + 1 = a + (k + 1) by omega] at hpt
   rw [hsp.2 (by omega)] at hst
   generalize (a + (k + 1)) % s.n = m at *
   have e1 : natsA ((Sp.places s.cells a).take (k + 1)) = natsA ((Sp.places s.cells a).take k) ++ [.lit (.int .i64 (m : Nat))] := by rw [hpt, natsA_append]; rfl
   have hl3 : ((Sp.places s.cells a).take k).length ≤ k := by simp; omega
   simp [ho, rowC, f1, hkn', hw3]
   refine callK.of (hmod _) ?_
   rintro v σ' ⟨rfl, rfl⟩
   simp [hml, hst]
   refine ⟨by omega, by omega, k + 1, by omega, by omega, by rw [e1]; exact AV.le_refl _, ?_⟩
   rw [hw2]
   exact AV.le_refl _
  ·obtain rfl : k = Sp.len s.cells a := by omega
   have hne : ¬ startS s.cells ((a + (Sp.len s.cells a + 1)) % s.n) = (a : Int) := fun e => by have := hsp.1 e; omega
   have hall : (Sp.places s.cells a).take (Sp.len s.cells a) = Sp.places s.cells a := List.take_of_length_le (by rw [places_length']; exact Nat.le_refl _)
   rw [hall]
   generalize startS s.cells ((a + (Sp.len s.cells a + 1)) % s.n) = z at *
   generalize (a + (Sp.len s.cells a + 1)) % s.n = m at *
   simp [ho, rowC, f1, hkn', hw3]
   refine callK.of (hmod _) ?_
   rintro v σ' ⟨rfl, rfl⟩
   simp [hml, hst, hne]
   exact Store.sub_upd hp (Store.sub_refl _)
 ·obtain rfl : k = Sp.len s.cells a := by omega
  have hkn' : ¬ ((Sp.len s.cells a : Nat) : Int) + 1 < s.n := by omega
  have hall : (Sp.places s.cells a).take (Sp.len s.cells a) = Sp.places s.cells a := List.take_of_length_le (by rw [places_length']; exact Nat.le_refl _)
  rw [hall]
  simp [ho, rowC, f1, hkn']
  exact Store.sub_upd hp (Store.sub_refl _)
def fstO (s : Sp) (a : Nat) : Option Nat := if (decide (0 < Sp.len s.cells a) && !(fldAt s a).prot) = true then some ((a + 1) % s.n) else none
def fstsL (s : Sp) (L : List Nat) : List Nat := L.filterMap (fstO s)
theorem fsts_succ (s : Sp) (L : List Nat) (i : Nat) (h : i < L.length) : fstsL s (L.take (i + 1)) = fstsL s (L.take i) ++ (fstO s L[i]).toList := by
 unfold fstsL
 rw [List.take_succ_eq_append_getElem h, List.filterMap_append]
 congr 1
theorem fsts_len (s : Sp) (L : List Nat) : (fstsL s L).length ≤ L.length := List.length_filterMap_le ..
theorem rfirsts_calls {x y : Nat} {s : Sp} {σ : Store} (h : Ref σ x y s) : ACalls Tryz.prog 143 [ptrA x] σ fun v σ' => v = .list false 1 (natsA (fstsL s s.attrs)) ∧ σ' = σ := by
 have hat := attrs_calls h
 have hal := attrs_length s
 have hln := h.good.len
 have hnl := s.n_le
 have hpl := fun a (h1 : a < s.n) (h2 : attrAt s.cells a = true) => rplaces_calls h a h1 h2
 have hfl := fun a (h1 : a < s.n) => rfield_calls h a h1
 have hmem := fun a (hm : a ∈ s.attrs) => attr_mem h.good a hm
 have hsucc := fun i hi => fsts_succ s s.attrs i hi
 have hlen := fun i => fsts_len s (s.attrs.take i)
 have hall : s.attrs.take s.attrs.length = s.attrs := List.take_length
 refine aw st143 pl143 35 Tryz.func143 rfl ?_
 simp
 refine callK.eq hat ?_
 generalize s.attrs = L at *
 simp
 refine codeK.loop follows (st := st143) (plans := pl143) (X := Nat) (fun i => i ≤ L.length)
  (fun i => [(0, ptrA x), (3, .list true 1 (natsA (fstsL s (L.take i)))), (8, .list false 1 (natsA L)), (9, .lit (.int .i64 L.length)), (10, .lit (.int .i64 i))])
  (fun _ => σ) (fun i => L.length - i) 0 (by kernel_rfl) (by simp) (by simp [natsA, fstsL]) (Store.sub_refl _) fun i hi => ?_
 by_cases hlt : i < L.length
 ·have hw1 : IntKind.i64.wrap ((i : Int) + 1) = ((i + 1 : Nat) : Int) := wrap_i64 (by omega) (by omega)
  obtain ⟨h1, h2⟩ := hmem L[i] (List.getElem_mem hlt)
  have hp := hpl L[i] h1 h2
  have hf := hfl L[i] h1
  have hs := hsucc i hlt
  have hl := hlen i
  have hit : (L.take i).length = i := by simp; omega
  rw [hit] at hl
  have hgi : (natsA L)[i]? = some (.lit (.int .i64 (L[i] : Nat))) := by simp [natsA, natA, hlt]
  rw [show s.cells[L[i]]?.getD .zero = cellAt s L[i] from rfl] at hf
  have hpe : ∀ (hz : 0 < Sp.len s.cells L[i]), (natsA (Sp.places s.cells L[i]))[0]? = some (.lit (.int .i64 (((L[i] + 1) % s.n : Nat)))) := fun hz => by
   have hz' : 0 < (Sp.places s.cells L[i]).length := by rw [places_length']; exact hz
   have : (Sp.places s.cells L[i])[0] = (L[i] + 1) % s.n := by rw [places_get', hln]
   simp [natsA, natA, hz', this]
  have hpn : (natsA (Sp.places s.cells L[i])).length = Sp.len s.cells L[i] := by simp [natsA, places_length']
  have hfo : fstO s L[i] = if (decide (0 < Sp.len s.cells L[i]) && !(fld (cellAt s L[i]).fa).prot) = true then some ((L[i] + 1) % s.n) else none := rfl
  rw [hfo] at hs
  have hlenlt : Sp.len s.cells L[i] < s.cells.length := Sp.len_lt (by omega)
  have hpj : ∀ (hz : 0 < Sp.len s.cells L[i]) (h : 0 < (natsA (Sp.places s.cells L[i])).length), (natsA (Sp.places s.cells L[i]))[0] = .lit (.int .i64 (((L[i] + 1) % s.n : Nat))) := fun hz h => by
   have := hpe hz
   rw [List.getElem?_eq_getElem h] at this
   exact Option.some.inj this
  generalize fld (cellAt s L[i]).fa = ff at *
  have hNl : (natsA L).length = L.length := by simp [natsA]
  have hgj : ∀ (h : i < (natsA L).length), (natsA L)[i] = .lit (.int .i64 (L[i] : Nat)) := fun _ => by simp [natsA, natA]
  generalize L[i] = a at *
  generalize natsA L = NL at *
  obtain ⟨pr, nu, di, mo⟩ := ff
  dsimp only at hs
  simp [hgi, hgj, hlt, hNl]
  refine callK.eq hp ?_
  generalize natsA (Sp.places s.cells a) = PL at *
  by_cases hz : 0 < Sp.len s.cells a
  ·have hz' : (0 : Int) < Sp.len s.cells a := by omega
   have hpe := hpe hz
   have hpj := hpj hz
   simp [hpn, hz, hz']
   refine callK.eq hf ?_
   cases pr
   ·rw [decide_eq_true hz, if_pos (by rfl)] at hs
    simp [fldA, hpe, hpj, hz, hz', hpn]
    refine ⟨by omega, by omega, i + 1, by omega, by omega, ?_, by rw [hw1]; exact AV.le_refl _⟩
    rw [hs, natsA_append]
    exact AV.le_refl _
   ·rw [decide_eq_true hz, if_neg (by simp)] at hs
    simp [fldA]
    refine ⟨i + 1, by omega, by omega, ?_, by rw [hw1]; exact AV.le_refl _⟩
    rw [hs]
    simp only [Option.toList, List.append_nil]
    exact AV.le_refl _
  ·have hz' : ¬ (0 : Int) < Sp.len s.cells a := by omega
   rw [decide_eq_false hz, if_neg (by simp)] at hs
   simp [hpn, hz, hz']
   refine ⟨i + 1, by omega, by omega, ?_, by rw [hw1]; exact AV.le_refl _⟩
   rw [hs]
   simp only [Option.toList, List.append_nil]
   exact AV.le_refl _
 ·obtain rfl : i = L.length := by omega
  rw [hall]
  simp
def nxD (N : Nat) (m f : Nat) (back : Bool) : Nat := if wrap N (if back = true then (m : Int) - f else (f : Int) - m) = 0 then N else wrap N (if back = true then (m : Int) - f else (f : Int) - m)
def nxG (N m : Nat) (back : Bool) (r : Int × Nat) (f : Nat) : Int × Nat := if r.1 < 0 ∨ nxD N m f back < r.2 then ((f : Int), nxD N m f back) else r
def nxF (N m : Nat) (back : Bool) (L : List Nat) : Int × Nat := L.foldl (nxG N m back) (-1, 0)
theorem nxF_succ (N m : Nat) (back : Bool) (L : List Nat) (i : Nat) (h : i < L.length) : nxF N m back (L.take (i + 1)) = nxG N m back (nxF N m back (L.take i)) L[i] := by
 unfold nxF
 rw [List.take_succ_eq_append_getElem h, List.foldl_append]; rfl
theorem rnextF_calls {x y : Nat} {s : Sp} {σ : Store} (h : Ref σ x y s) (n : Int) (back : Bool) : ACalls Tryz.prog 115 [ptrA x, .lit (.int .i64 n), .lit (.bool back)] σ fun v σ' => v = .lit (.int .i64 (nxF s.n (wrap s.n n) back (fstsL s s.attrs)).1) ∧ σ' = σ := by
 have hfi := rfirsts_calls h
 have hw := rswrap_calls h n
 have hnp := s.n_pos
 have hnl := s.n_le
 have hwl := wrap_lt hnp n
 have ho := h.obj
 have hln := h.good.len
 have hfl : (fstsL s s.attrs).length ≤ s.n := by
  have h1 := fsts_len s s.attrs
  have h2 := attrs_length s
  omega
 have hfm : ∀ f ∈ fstsL s s.attrs, f < s.n := fun f hf => by
  unfold fstsL at hf
  obtain ⟨a, _, ha⟩ := List.mem_filterMap.1 hf
  unfold fstO at ha
  split at ha
  ·cases ha; exact Nat.mod_lt _ hnp
  ·cases ha
 unfold rfO at ho
 generalize wrap s.n n = m at *
 generalize fstsL s s.attrs = L at *
 generalize hNN : s.n = N at *
 have hsucc := fun i hi => nxF_succ N m back L i hi
 have hall : L.take L.length = L := List.take_length
 refine aw st115 pl115 60 Tryz.func115 rfl ?_
 simp
 refine callK.eq hfi ?_
 have hNl : (natsA L).length = L.length := by simp [natsA]
 simp
 refine codeK.loop follows (st := st115) (plans := pl115) (X := Nat) (fun i => i ≤ L.length)
  (fun i => [(0, ptrA x), (1, .lit (.int .i64 n)), (2, .lit (.bool back)), (7, .lit (.int .i64 (nxF N m back (L.take i)).1)), (8, .lit (.int .i64 (nxF N m back (L.take i)).2)), (13, .list false 1 (natsA L)), (14, .lit (.int .i64 L.length)), (15, .lit (.int .i64 i))])
  (fun _ => σ) (fun i => L.length - i) 0 (by kernel_rfl) (by simp) (by simp [nxF, hNl]) (Store.sub_refl _) fun i hi => ?_
 by_cases hlt : i < L.length
 ·have hw1 : IntKind.i64.wrap ((i : Int) + 1) = ((i + 1 : Nat) : Int) := wrap_i64 (by omega) (by omega)
  have hs := hsucc i hlt
  have hgj : ∀ (h : i < (natsA L).length), (natsA L)[i] = .lit (.int .i64 (L[i] : Nat)) := fun _ => by simp [natsA, natA]
  have hgi : (natsA L)[i]? = some (.lit (.int .i64 (L[i] : Nat))) := by simp [natsA, natA, hlt]
  have hfn := hfm L[i] (List.getElem_mem hlt)
  have hm1 := fun τ => rmod_calls ((L[i] : Int) - m) N hnp (by omega) τ
  have hm2 := fun τ => rmod_calls ((m : Int) - L[i]) N hnp (by omega) τ
  have e1 : IntKind.i64.wrap ((L[i] : Int) - m) = (L[i] : Int) - m := wrap_i64 (by omega) (by omega)
  have e2 : IntKind.i64.wrap ((m : Int) - L[i]) = (m : Int) - L[i] := wrap_i64 (by omega) (by omega)
  unfold nxG nxD at hs
  generalize nxF N m back (L.take i) = r at *
  obtain ⟨rb, rf⟩ := r
  generalize L[i] = f at *
  generalize natsA L = NL at *
  have hNl2 : NL.length = L.length := hNl
  cases back
  ·simp only [Bool.false_eq_true, if_false, if_true] at hs
   generalize wrap N ((f : Int) - m) = d at *
   by_cases hd : d = 0
   ·have hdI : (d : Int) = 0 := by omega
    rw [if_pos hd] at hs
    by_cases hb : rb < 0
    ·have hb' : ¬ 0 ≤ rb := by omega
     rw [if_pos (.inl hb)] at hs
     simp [hgi, hgj, hlt, hNl, ho, rowC, e1, e2, hd, hdI, hb, hb']
     repeat' first
      | with_reducible apply And.intro
      | (refine callK.eq (hw) ?_; simp [ho, rowC, e1, e2, hd, hdI, hb, hb'])
      | (refine callK.eq (hm1 _) ?_; simp [ho, rowC, e1, e2, hd, hdI, hb, hb'])
      | (refine callK.eq (hm2 _) ?_; simp [ho, rowC, e1, e2, hd, hdI, hb, hb'])
      | exact ⟨i + 1, by omega, by omega, by rw [hs]; exact AV.le_refl _, by rw [hs]; exact AV.le_refl _, by rw [hw1]; exact AV.le_refl _⟩
    ·have hb' : 0 ≤ rb := by omega
     by_cases hD : N < rf
     ·have hDI : (N : Int) < rf := by omega
      rw [if_pos (.inr hD)] at hs
      simp [hgi, hgj, hlt, hNl, ho, rowC, e1, e2, hd, hdI, hb, hb', hD, hDI]
      repeat' first
       | with_reducible apply And.intro
       | (refine callK.eq (hw) ?_; simp [ho, rowC, e1, e2, hd, hdI, hb, hb', hD, hDI])
       | (refine callK.eq (hm1 _) ?_; simp [ho, rowC, e1, e2, hd, hdI, hb, hb', hD, hDI])
       | (refine callK.eq (hm2 _) ?_; simp [ho, rowC, e1, e2, hd, hdI, hb, hb', hD, hDI])
       | exact ⟨i + 1, by omega, by omega, by rw [hs]; exact AV.le_refl _, by rw [hs]; exact AV.le_refl _, by rw [hw1]; exact AV.le_refl _⟩
     ·have hDI : ¬ (N : Int) < rf := by omega
      rw [if_neg (by omega)] at hs
      simp [hgi, hgj, hlt, hNl, ho, rowC, e1, e2, hd, hdI, hb, hb', hD, hDI]
      repeat' first
       | with_reducible apply And.intro
       | (refine callK.eq (hw) ?_; simp [ho, rowC, e1, e2, hd, hdI, hb, hb', hD, hDI])
       | (refine callK.eq (hm1 _) ?_; simp [ho, rowC, e1, e2, hd, hdI, hb, hb', hD, hDI])
       | (refine callK.eq (hm2 _) ?_; simp [ho, rowC, e1, e2, hd, hdI, hb, hb', hD, hDI])
       | exact ⟨i + 1, by omega, by omega, by rw [hs]; exact AV.le_refl _, by rw [hs]; exact AV.le_refl _, by rw [hw1]; exact AV.le_refl _⟩
   ·have hdI : ¬ (d : Int) = 0 := by omega
    rw [if_neg hd] at hs
    by_cases hb : rb < 0
    ·have hb' : ¬ 0 ≤ rb := by omega
     rw [if_pos (.inl hb)] at hs
     simp [hgi, hgj, hlt, hNl, ho, rowC, e1, e2, hd, hdI, hb, hb']
     repeat' first
      | with_reducible apply And.intro
      | (refine callK.eq (hw) ?_; simp [ho, rowC, e1, e2, hd, hdI, hb, hb'])
      | (refine callK.eq (hm1 _) ?_; simp [ho, rowC, e1, e2, hd, hdI, hb, hb'])
      | (refine callK.eq (hm2 _) ?_; simp [ho, rowC, e1, e2, hd, hdI, hb, hb'])
      | exact ⟨i + 1, by omega, by omega, by rw [hs]; exact AV.le_refl _, by rw [hs]; exact AV.le_refl _, by rw [hw1]; exact AV.le_refl _⟩
    ·have hb' : 0 ≤ rb := by omega
     by_cases hD : d < rf
     ·have hDI : (d : Int) < rf := by omega
      rw [if_pos (.inr hD)] at hs
      simp [hgi, hgj, hlt, hNl, ho, rowC, e1, e2, hd, hdI, hb, hb', hD, hDI]
      repeat' first
       | with_reducible apply And.intro
       | (refine callK.eq (hw) ?_; simp [ho, rowC, e1, e2, hd, hdI, hb, hb', hD, hDI])
       | (refine callK.eq (hm1 _) ?_; simp [ho, rowC, e1, e2, hd, hdI, hb, hb', hD, hDI])
       | (refine callK.eq (hm2 _) ?_; simp [ho, rowC, e1, e2, hd, hdI, hb, hb', hD, hDI])
       | exact ⟨i + 1, by omega, by omega, by rw [hs]; exact AV.le_refl _, by rw [hs]; exact AV.le_refl _, by rw [hw1]; exact AV.le_refl _⟩
     ·have hDI : ¬ (d : Int) < rf := by omega
      rw [if_neg (by omega)] at hs
      simp [hgi, hgj, hlt, hNl, ho, rowC, e1, e2, hd, hdI, hb, hb', hD, hDI]
      repeat' first
       | with_reducible apply And.intro
       | (refine callK.eq (hw) ?_; simp [ho, rowC, e1, e2, hd, hdI, hb, hb', hD, hDI])
       | (refine callK.eq (hm1 _) ?_; simp [ho, rowC, e1, e2, hd, hdI, hb, hb', hD, hDI])
       | (refine callK.eq (hm2 _) ?_; simp [ho, rowC, e1, e2, hd, hdI, hb, hb', hD, hDI])
       | exact ⟨i + 1, by omega, by omega, by rw [hs]; exact AV.le_refl _, by rw [hs]; exact AV.le_refl _, by rw [hw1]; exact AV.le_refl _⟩
  ·simp only [Bool.false_eq_true, if_false, if_true] at hs
   generalize wrap N ((f : Int) - m) = d1 at *
   generalize wrap N ((m : Int) - f) = d at *
   by_cases hd : d = 0
   ·have hdI : (d : Int) = 0 := by omega
    rw [if_pos hd] at hs
    by_cases hb : rb < 0
    ·have hb' : ¬ 0 ≤ rb := by omega
     rw [if_pos (.inl hb)] at hs
     simp [hgi, hgj, hlt, hNl, ho, rowC, e1, e2, hd, hdI, hb, hb']
     repeat' first
      | with_reducible apply And.intro
      | (refine callK.eq (hw) ?_; simp [ho, rowC, e1, e2, hd, hdI, hb, hb'])
      | (refine callK.eq (hm1 _) ?_; simp [ho, rowC, e1, e2, hd, hdI, hb, hb'])
      | (refine callK.eq (hm2 _) ?_; simp [ho, rowC, e1, e2, hd, hdI, hb, hb'])
      | exact ⟨i + 1, by omega, by omega, by rw [hs]; exact AV.le_refl _, by rw [hs]; exact AV.le_refl _, by rw [hw1]; exact AV.le_refl _⟩
    ·have hb' : 0 ≤ rb := by omega
     by_cases hD : N < rf
     ·have hDI : (N : Int) < rf := by omega
      rw [if_pos (.inr hD)] at hs
      simp [hgi, hgj, hlt, hNl, ho, rowC, e1, e2, hd, hdI, hb, hb', hD, hDI]
      repeat' first
       | with_reducible apply And.intro
       | (refine callK.eq (hw) ?_; simp [ho, rowC, e1, e2, hd, hdI, hb, hb', hD, hDI])
       | (refine callK.eq (hm1 _) ?_; simp [ho, rowC, e1, e2, hd, hdI, hb, hb', hD, hDI])
       | (refine callK.eq (hm2 _) ?_; simp [ho, rowC, e1, e2, hd, hdI, hb, hb', hD, hDI])
       | exact ⟨i + 1, by omega, by omega, by rw [hs]; exact AV.le_refl _, by rw [hs]; exact AV.le_refl _, by rw [hw1]; exact AV.le_refl _⟩
     ·have hDI : ¬ (N : Int) < rf := by omega
      rw [if_neg (by omega)] at hs
      simp [hgi, hgj, hlt, hNl, ho, rowC, e1, e2, hd, hdI, hb, hb', hD, hDI]
      repeat' first
       | with_reducible apply And.intro
       | (refine callK.eq (hw) ?_; simp [ho, rowC, e1, e2, hd, hdI, hb, hb', hD, hDI])
       | (refine callK.eq (hm1 _) ?_; simp [ho, rowC, e1, e2, hd, hdI, hb, hb', hD, hDI])
       | (refine callK.eq (hm2 _) ?_; simp [ho, rowC, e1, e2, hd, hdI, hb, hb', hD, hDI])
       | exact ⟨i + 1, by omega, by omega, by rw [hs]; exact AV.le_refl _, by rw [hs]; exact AV.le_refl _, by rw [hw1]; exact AV.le_refl _⟩
   ·have hdI : ¬ (d : Int) = 0 := by omega
    rw [if_neg hd] at hs
    by_cases hb : rb < 0
    ·have hb' : ¬ 0 ≤ rb := by omega
     rw [if_pos (.inl hb)] at hs
     simp [hgi, hgj, hlt, hNl, ho, rowC, e1, e2, hd, hdI, hb, hb']
     repeat' first
      | with_reducible apply And.intro
      | (refine callK.eq (hw) ?_; simp [ho, rowC, e1, e2, hd, hdI, hb, hb'])
      | (refine callK.eq (hm1 _) ?_; simp [ho, rowC, e1, e2, hd, hdI, hb, hb'])
      | (refine callK.eq (hm2 _) ?_; simp [ho, rowC, e1, e2, hd, hdI, hb, hb'])
      | exact ⟨i + 1, by omega, by omega, by rw [hs]; exact AV.le_refl _, by rw [hs]; exact AV.le_refl _, by rw [hw1]; exact AV.le_refl _⟩
    ·have hb' : 0 ≤ rb := by omega
     by_cases hD : d < rf
     ·have hDI : (d : Int) < rf := by omega
      rw [if_pos (.inr hD)] at hs
      simp [hgi, hgj, hlt, hNl, ho, rowC, e1, e2, hd, hdI, hb, hb', hD, hDI]
      repeat' first
       | with_reducible apply And.intro
       | (refine callK.eq (hw) ?_; simp [ho, rowC, e1, e2, hd, hdI, hb, hb', hD, hDI])
       | (refine callK.eq (hm1 _) ?_; simp [ho, rowC, e1, e2, hd, hdI, hb, hb', hD, hDI])
       | (refine callK.eq (hm2 _) ?_; simp [ho, rowC, e1, e2, hd, hdI, hb, hb', hD, hDI])
       | exact ⟨i + 1, by omega, by omega, by rw [hs]; exact AV.le_refl _, by rw [hs]; exact AV.le_refl _, by rw [hw1]; exact AV.le_refl _⟩
     ·have hDI : ¬ (d : Int) < rf := by omega
      rw [if_neg (by omega)] at hs
      simp [hgi, hgj, hlt, hNl, ho, rowC, e1, e2, hd, hdI, hb, hb', hD, hDI]
      repeat' first
       | with_reducible apply And.intro
       | (refine callK.eq (hw) ?_; simp [ho, rowC, e1, e2, hd, hdI, hb, hb', hD, hDI])
       | (refine callK.eq (hm1 _) ?_; simp [ho, rowC, e1, e2, hd, hdI, hb, hb', hD, hDI])
       | (refine callK.eq (hm2 _) ?_; simp [ho, rowC, e1, e2, hd, hdI, hb, hb', hD, hDI])
       | exact ⟨i + 1, by omega, by omega, by rw [hs]; exact AV.le_refl _, by rw [hs]; exact AV.le_refl _, by rw [hw1]; exact AV.le_refl _⟩
 ·obtain rfl : i = L.length := by omega
  rw [hall]
  simp
def Near (D : Nat → Nat) (L : List Nat) (r : Int × Nat) : Prop := (L = [] ∧ r = (-1, 0)) ∨ ∃ f ∈ L, r = ((f : Int), D f) ∧ ∀ g ∈ L, D f ≤ D g
theorem near_fold (D : Nat → Nat) : ∀ (L S : List Nat) (r : Int × Nat), Near D S r → Near D (S ++ L) (L.foldl (fun r f => if r.1 < 0 ∨ D f < r.2 then ((f : Int), D f) else r) r)
 | [], S, r, h => by simpa using h
 | g :: L, S, r, h => by
  have h1 : Near D (S ++ [g]) (if r.1 < 0 ∨ D g < r.2 then ((g : Int), D g) else r) := by
   rcases h with ⟨rfl, rfl⟩ | ⟨f, hf, rfl, hm⟩
   ·right
    exact ⟨g, by simp, by simp, fun k hk => by simp at hk; rw [hk]; exact Nat.le_refl _⟩
   ·right
    by_cases hd : D g < D f
    ·refine ⟨g, by simp, by rw [if_pos (.inr hd)], fun k hk => ?_⟩
     rcases List.mem_append.1 hk with hk | hk
     ·have := hm k hk; omega
     ·simp at hk; rw [hk]; exact Nat.le_refl _
    ·refine ⟨f, by simp [hf], by rw [if_neg (by simp; omega)], fun k hk => ?_⟩
     rcases List.mem_append.1 hk with hk | hk
     ·exact hm k hk
     ·simp at hk; rw [hk]; omega
  have := near_fold D L (S ++ [g]) _ h1
  rw [List.append_assoc] at this
  exact this
theorem nxF_near (N m : Nat) (back : Bool) (L : List Nat) : Near (fun f => nxD N m f back) L (nxF N m back L) := by
 have := near_fold (fun f => nxD N m f back) L [] (-1, 0) (.inl ⟨rfl, rfl⟩)
 exact this
theorem near_find {N : Nat} {P : Nat → Bool} {L : List Nat} {D pos : Nat → Nat} {r : Int × Nat} (hL : ∀ f, f ∈ L ↔ f < N ∧ P f = true) (h1 : ∀ i, i < N → pos i < N ∧ D (pos i) = i + 1) (h2 : ∀ f, f < N → 1 ≤ D f ∧ D f ≤ N ∧ pos (D f - 1) = f) (hr : Near D L r) :
  r.1 = match (List.range N).find? (fun i => P (pos i)) with | some i => ((pos i : Nat) : Int) | none => -1 := by
 cases hf : (List.range N).find? (fun i => P (pos i)) with
 | none =>
  rw [List.find?_eq_none] at hf
  rcases hr with ⟨_, rfl⟩ | ⟨f, hm, _, _⟩
  ·rfl
  ·exfalso
   obtain ⟨hfn, hp⟩ := (hL f).1 hm
   obtain ⟨d1, d2, d3⟩ := h2 f hfn
   have := hf (D f - 1) (by rw [List.mem_range]; omega)
   rw [d3] at this
   exact this hp
 | some i =>
  have hp := List.find?_some hf
  have hi : i < N := List.mem_range.1 (List.mem_of_find?_eq_some hf)
  obtain ⟨p1, p2⟩ := h1 i hi
  have hmem : pos i ∈ L := (hL _).2 ⟨p1, hp⟩
  rcases hr with ⟨rfl, _⟩ | ⟨f, hm, rfl, hmin⟩
  ·cases hmem
  ·obtain ⟨hfn, hpf⟩ := (hL f).1 hm
   obtain ⟨d1, d2, d3⟩ := h2 f hfn
   have hle := hmin _ hmem
   rw [p2] at hle
   have hge : ¬ D f - 1 < i := fun hlt => by
    have hh := List.find?_range_eq_some.1 hf
    have := hh.2.2 (D f - 1) hlt
    rw [d3, hpf] at this
    cases this
   have : D f - 1 = i := by omega
   show (f : Int) = ((pos i : Nat) : Int)
   rw [← this, d3]
theorem mem_fsts {s : Sp} (h : s.good) (f : Nat) : f ∈ fstsL s s.attrs ↔ f < s.n ∧ firstS s f = true := by
 have hnp := s.n_pos
 have hln := h.len
 have hb := n_big s
 have hwr : ∀ f, f < s.n → wrap s.n ((f : Int) - 1) = (f + s.n - 1) % s.n := fun f hf => by
  unfold wrap
  have : (((f + s.n - 1) % s.n : Nat) : Int) = ((f : Int) - 1) % (s.n : Int) := by
   rw [Int.natCast_emod, show ((f + s.n - 1 : Nat) : Int) = ((f : Int) - 1) + (s.n : Int) from by omega, Int.add_emod_right]
  rw [← this, Int.toNat_natCast]
 have hat : ∀ f, f < s.n → s.at ((f : Int) - 1) = cellAt s ((f + s.n - 1) % s.n) := fun f hf => by unfold Sp.at cellAt; rw [hwr f hf]
 unfold fstsL
 rw [List.mem_filterMap]
 constructor
 ·rintro ⟨a, ha, he⟩
  obtain ⟨h1, h2⟩ := attr_mem h a ha
  unfold fstO at he
  split at he
  ·next hc =>
   cases he
   simp only [Bool.and_eq_true, decide_eq_true_eq, Bool.not_eq_true'] at hc
   have hlt : (a + 1) % s.n < s.n := Nat.mod_lt _ hnp
   have hback : ((a + 1) % s.n + s.n - 1) % s.n = a := by
    rcases Nat.lt_or_ge (a + 1) s.n with h3 | h3
    ·rw [Nat.mod_eq_of_lt h3, show a + 1 + s.n - 1 = a + s.n from by omega, Nat.add_mod_right, Nat.mod_eq_of_lt h1]
    ·rw [show a + 1 = s.n from by omega, Nat.mod_self, show 0 + s.n - 1 = a from by omega, Nat.mod_eq_of_lt h1]
   have hfree := len_free (l := s.cells) (a := a) (j := 1) (by omega) (by omega)
   rw [hln] at hfree
   refine ⟨hlt, ?_⟩
   unfold firstS
   rw [hat _ hlt, hback, at_attr hlt, hfree]
   have e1 : (cellAt s a).attr = true := h2
   have e2 : (fld (cellAt s a).fa).prot = false := hc.2
   rw [e1, e2]; rfl
  ·cases he
 ·rintro ⟨hf, hp⟩
  unfold firstS at hp
  rw [hat _ hf, at_attr hf] at hp
  simp only [Bool.and_eq_true, Bool.not_eq_true'] at hp
  obtain ⟨⟨p1, p2⟩, p3⟩ := hp
  have hal : (f + s.n - 1) % s.n < s.n := Nat.mod_lt _ hnp
  have hnx : ((f + s.n - 1) % s.n + 1) % s.n = f := by
   rcases Nat.eq_zero_or_pos f with rfl | h3
   ·rw [show 0 + s.n - 1 = s.n - 1 from by omega, Nat.mod_eq_of_lt (show s.n - 1 < s.n by omega), show s.n - 1 + 1 = s.n from by omega, Nat.mod_self]
   ·rw [show f + s.n - 1 = (f - 1) + s.n from by omega, Nat.add_mod_right, Nat.mod_eq_of_lt (show f - 1 < s.n by omega), show f - 1 + 1 = f from by omega, Nat.mod_eq_of_lt hf]
  have hatt : attrAt s.cells ((f + s.n - 1) % s.n) = true := p1
  refine ⟨(f + s.n - 1) % s.n, ?_, ?_⟩
  ·unfold Sp.attrs
   rw [List.mem_filter, List.mem_range]
   exact ⟨by omega, hatt⟩
  ·unfold fstO
   have hl0 : 0 < Sp.len s.cells ((f + s.n - 1) % s.n) := by
    rcases Nat.eq_zero_or_pos (Sp.len s.cells ((f + s.n - 1) % s.n)) with h0 | h0
    ·have := len_stop hatt (by omega)
     rw [h0, hln, Nat.add_zero, hnx, p2] at this
     cases this
    ·exact h0
   have e2 : (fldAt s ((f + s.n - 1) % s.n)).prot = false := p3
   rw [e2, decide_eq_true hl0, hnx]; rfl
theorem nxD_ahead {N m f : Nat} (hm : m < N) (hf : f < N) : nxD N m f false = if (f + N - m) % N = 0 then N else (f + N - m) % N := by
 unfold nxD
 have : wrap N ((f : Int) - m) = (f + N - m) % N := by
  unfold wrap
  have : (((f + N - m) % N : Nat) : Int) = ((f : Int) - m) % (N : Int) := by
   rw [Int.natCast_emod, show ((f + N - m : Nat) : Int) = ((f : Int) - m) + (N : Int) from by omega, Int.add_emod_right]
  rw [← this, Int.toNat_natCast]
 simp [this]
theorem nxD_back {N m f : Nat} (hm : m < N) (hf : f < N) : nxD N m f true = if (m + N - f) % N = 0 then N else (m + N - f) % N := by
 unfold nxD
 have : wrap N ((m : Int) - f) = (m + N - f) % N := by
  unfold wrap
  have : (((m + N - f) % N : Nat) : Int) = ((m : Int) - f) % (N : Int) := by
   rw [Int.natCast_emod, show ((m + N - f : Nat) : Int) = ((m : Int) - f) + (N : Int) from by omega, Int.add_emod_right]
  rw [← this, Int.toNat_natCast]
 simp [this]
theorem mod_cases {N k : Nat} (h : k < 2 * N) : k % N = if k < N then k else k - N := by
 split
 ·next h1 => exact Nat.mod_eq_of_lt h1
 ·next h1 => rw [Nat.mod_eq_sub_mod (by omega), Nat.mod_eq_of_lt (by omega)]
theorem nx_next {s : Sp} (h : s.good) {m : Nat} (hm : m < s.n) : (nxF s.n m false (fstsL s s.attrs)).1 = nextS s m := by
 have hnp := s.n_pos
 refine (near_find (P := firstS s) (pos := fun i => (m + i + 1) % s.n) (mem_fsts h) (fun i hi => ⟨Nat.mod_lt _ hnp, ?_⟩) (fun f hf => ?_) (nxF_near s.n m false _)).trans rfl
 ·rw [nxD_ahead hm (Nat.mod_lt _ hnp)]
  rw [mod_cases (N := s.n) (k := m + i + 1) (by omega)]
  split
  ·rw [mod_cases (by omega)]
   split <;> (split <;> omega)
  ·rw [mod_cases (by omega)]
   split <;> (split <;> omega)
 ·rw [nxD_ahead hm hf, mod_cases (by omega)]
  split
  ·split
   ·omega
   ·refine ⟨by omega, by omega, ?_⟩
    rw [mod_cases (by omega)]; split <;> omega
  ·split
   ·refine ⟨by omega, by omega, ?_⟩
    rw [mod_cases (by omega)]; split <;> omega
   ·refine ⟨by omega, by omega, ?_⟩
    rw [mod_cases (by omega)]; split <;> omega
theorem nx_prev {s : Sp} (h : s.good) {m : Nat} (hm : m < s.n) : (nxF s.n m true (fstsL s s.attrs)).1 = prevS s m := by
 have hnp := s.n_pos
 refine (near_find (P := firstS s) (pos := fun i => (m + s.n - (i + 1)) % s.n) (mem_fsts h) (fun i hi => ⟨Nat.mod_lt _ hnp, ?_⟩) (fun f hf => ?_) (nxF_near s.n m true _)).trans rfl
 ·rw [nxD_back hm (Nat.mod_lt _ hnp)]
  rw [mod_cases (N := s.n) (k := m + s.n - (i + 1)) (by omega)]
  split
  ·rw [mod_cases (by omega)]
   split <;> (split <;> omega)
  ·rw [mod_cases (by omega)]
   split <;> (split <;> omega)
 ·rw [nxD_back hm hf, mod_cases (by omega)]
  split
  ·split
   ·omega
   ·refine ⟨by omega, by omega, ?_⟩
    rw [mod_cases (by omega)]; split <;> omega
  ·split
   ·refine ⟨by omega, by omega, ?_⟩
    rw [mod_cases (by omega)]; split <;> omega
   ·refine ⟨by omega, by omega, ?_⟩
    rw [mod_cases (by omega)]; split <;> omega
variable {σ : Store} {x y : Nat} {s : Sp}
def stepN (s : Sp) (m : Nat) (back : Bool) : Int := if back = true then prevS s m else nextS s m
theorem rnext_calls (h : Ref σ x y s) (n : Int) (back : Bool) : ACalls Tryz.prog 115 [ptrA x, .lit (.int .i64 n), .lit (.bool back)] σ fun v σ' => v = .lit (.int .i64 (stepN s (wrap s.n n) back)) ∧ σ' = σ := by
 have hf := rnextF_calls h n back
 have hw := wrap_lt s.n_pos n
 have e : (nxF s.n (wrap s.n n) back (fstsL s s.attrs)).1 = stepN s (wrap s.n n) back := by
  unfold stepN
  cases back
  ·rw [nx_next h.good hw]; rfl
  ·rw [nx_prev h.good hw]; rfl
 rw [e] at hf
 exact hf
theorem rtab_calls (h : Ref σ x y s) {m : Nat} (hm : m < s.n) (back : Bool) : ACalls Tryz.prog 107 [ptrA x, .lit (.int .i64 m), .lit (.bool back)] σ fun v σ' => v = .lit (.int .i64 (max (stepN s m back) 0)) ∧ σ' = σ := by
 have hn := rnext_calls h (m : Int) back
 rw [wrap_of_lt hm] at hn
 refine aw st107 pl107 12 Tryz.func107 rfl ?_
 generalize stepN s m back = z at *
 simp
 refine callK.eq hn ?_
 simp
 rw [show (if z < 0 then (0 : Int) else z) = max z 0 from by split <;> omega]
 exact AV.le_refl _
theorem rfirst_calls (h : Ref σ x y s) {m : Nat} (hm : m < s.n) : ACalls Tryz.prog 108 [ptrA x, .lit (.int .i64 m)] σ fun v σ' => v = .lit (.int .i64 (firstN s m)) ∧ σ' = σ := by
 have ho := ropen_calls h hm
 have hw := rswrap_calls h (m : Int)
 rw [wrap_of_lt hm] at hw
 have ht := rtab_calls h hm false
 refine aw st108 pl108 14 Tryz.func108 rfl ?_
 unfold firstN
 have e : stepN s m false = nextS s m := rfl
 rw [e] at ht
 cases hop : openS s m
 ·rw [hop] at ho
  simp
  refine callK.eq ho ?_
  simp
  refine callK.of ht ?_
  rintro v τ ⟨rfl, eτ⟩
  rw [eτ]
  simp
 ·rw [hop] at ho
  simp
  refine callK.eq ho ?_
  simp
  refine callK.of hw ?_
  rintro v τ ⟨rfl, eτ⟩
  rw [eτ]
  simp
end Go.Proofs.YtlmdbcgceijlnaaGreat
namespace Go.Proofs.YtlmdbcgceijlnaaGreat
open Go Go.AL Go.Sp
variable {σ : Store}
theorem rAt_calls {r c : Nat} (h : Dim r c) (row col : Int) (σ : Store) : ACalls Tryz.prog 109 [dimA r c, .lit (.int .i64 row), .lit (.int .i64 col)] σ fun v σ' => v = .lit (.int .i64 (addrAt r c row col)) ∧ σ' = σ := by
 have hv := fun τ => rvalid_calls h τ
 have h1 := fun τ => rmod_calls row r h.r1 (by have := h.r2; omega) τ
 have h2 := fun τ => rmod_calls col c h.c1 (by have := h.c2; omega) τ
 have w1 := wrap_lt h.r1 row
 have w2 := wrap_lt h.c1 col
 have hm := h.m
 have hadd : c * wrap r row + wrap c col < r * c := by
  have := addrAt_lt h row col
  unfold addrAt at this
  rw [Nat.mul_comm] at this
  exact this
 have ha : addrAt r c row col = c * wrap r row + wrap c col := by unfold addrAt; rw [Nat.mul_comm]
 rw [ha]
 refine aw st109 pl109 22 Tryz.func109 rfl ?_
 simp only [dimA] at hv
 generalize wrap r row = a at *
 generalize wrap c col = b at *
 have e1 : IntKind.i64.wrap ((c : Int) * a) = ((c * a : Nat) : Int) := by rw [wrap_i64 (by omega) (by rw [← Int.natCast_mul]; omega)]; exact (Int.natCast_mul _ _).symm
 have e2 : IntKind.i64.wrap (((c * a : Nat) : Int) + b) = ((c * a + b : Nat) : Int) := by rw [wrap_i64 (by omega) (by omega)]; omega
 have e3 : IntKind.i64.wrap ((c : Int) * a + b) = (c : Int) * a + b := by rw [← Int.natCast_mul]; exact wrap_i64 (by omega) (by omega)
 simp [dimA]
 intro z hz
 refine callK.eq (hv _) ?_
 simp
 repeat' first
  | with_reducible apply And.intro
  | (refine callK.eq (h1 _) ?_; simp [e1, e2, e3])
  | (refine callK.eq (h2 _) ?_; simp [e1, e2, e3])
  | exact sub_upd_self _ _ _ hz
  | exact AV.le_refl _
theorem rMove_calls {r c : Nat} (h : Dim r c) (n dr dc : Int) (σ : Store) : ACalls Tryz.prog 110 [dimA r c, .lit (.int .i64 n), .lit (.int .i64 dr), .lit (.int .i64 dc)] σ fun v σ' => v = .lit (.int .i64 (moveN r c n dr dc)) ∧ σ' = σ := by
 have hv := fun τ => rvalid_calls h τ
 have hw := fun τ k => rwrap_calls h k τ
 have hc := fun τ => rcells_calls h τ
 have hm := h.m
 have hp := h.p
 have w1 := wrap_lt hp n
 have w2 := wrap_lt hp dc
 have w3 := wrap_lt h.r1 dr
 have hr2 := h.r2
 have hc2 := h.c2
 have hc1 := h.c1
 have hmd := fun τ k => rmod_calls k (r * c) hp (by omega) τ
 have hmr := fun τ => rmod_calls dr r h.r1 (by omega) τ
 have hat := fun τ a b => rAt_calls h a b τ
 have hE : moveN r c n dr dc = addrAt r c ((wrap (r * c) (((wrap (r * c) n + wrap (r * c) dc : Nat) : Int)) / c + wrap r dr : Nat) : Int) ((wrap (r * c) (((wrap (r * c) n + wrap (r * c) dc : Nat) : Int)) % c : Nat) : Int) := rfl
 rw [hE]
 refine aw st110 pl110 38 Tryz.func110 rfl ?_
 simp only [dimA] at hv hw hc hat
 have hw1 := fun τ => hw τ n
 have hw2 := fun τ => hw τ dc
 generalize wrap (r * c) n = a at *
 generalize wrap (r * c) dc = b at *
 have e1 : IntKind.i64.wrap ((a : Int) + b) = ((a + b : Nat) : Int) := by rw [wrap_i64 (by omega) (by omega)]; omega
 have e1' : IntKind.i64.wrap ((a : Int) + b) = (a : Int) + b := wrap_i64 (by omega) (by omega)
 have hmd1 := fun τ => hmd τ ((a + b : Nat) : Int)
 have wm := wrap_lt hp ((a + b : Nat) : Int)
 generalize wrap (r * c) ((a + b : Nat) : Int) = m at *
 generalize wrap r dr = d at *
 have hcz : ¬ (c : Int) = 0 := by omega
 have hcz' : ¬ c = 0 := by omega
 have hd1 : (m : Int) / c = ((m / c : Nat) : Int) := rfl
 have hd2 : (m : Int).tmod c = ((m % c : Nat) : Int) := rfl
 have hd3 : (m : Int).tdiv c = ((m / c : Nat) : Int) := rfl
 have b1 := Nat.div_le_self m c
 have b2 := Nat.mod_lt m (show 0 < c by omega)
 generalize m / c = qq at *
 generalize m % c = rr at *
 have q1 : IntKind.i64.wrap ((m : Int) / c) = (qq : Int) := by rw [hd1]; exact wrap_i64 (by omega) (by omega)
 have q1' : IntKind.i64.wrap ((m : Int).tdiv c) = (qq : Int) := by rw [hd3]; exact wrap_i64 (by omega) (by omega)
 have q2 : IntKind.i64.wrap (rr : Int) = (rr : Int) := wrap_i64 (by omega) (by omega)
 have q3 : IntKind.i64.wrap ((qq : Int) + d) = (qq : Int) + d := wrap_i64 (by omega) (by omega)
 have hat1 : ∀ τ, _ := fun τ => hat τ ((qq : Int) + d) (rr : Int)
 rw [show ((qq + d : Nat) : Int) = (qq : Int) + d from rfl]
 simp [dimA]
 intro z hz
 refine callK.eq (hv _) ?_
 simp [e1, e1', hcz, hcz', q1, q1', q2, q3, hd2]
 repeat' first
  | with_reducible apply And.intro
  | (refine callK.eq (hw1 _) ?_; simp [e1, e1', hcz, hcz', q1, q1', q2, q3, hd2])
  | (refine callK.eq (hw2 _) ?_; simp [e1, e1', hcz, hcz', q1, q1', q2, q3, hd2])
  | (refine callK.eq (hc _) ?_; simp [e1, e1', hcz, hcz', q1, q1', q2, q3, hd2])
  | (refine callK.eq (hmd1 _) ?_; simp [e1, e1', hcz, hcz', q1, q1', q2, q3, hd2])
  | (refine callK.eq (hmr _) ?_; simp [e1, e1', hcz, hcz', q1, q1', q2, q3, hd2])
  | (refine callK.eq (hat1 _) ?_; simp [e1, e1', hcz, hcz', q1, q1', q2, q3, hd2])
  | exact sub_upd_self _ _ _ hz
  | exact AV.le_refl _
end Go.Proofs.YtlmdbcgceijlnaaGreat
