/-
 The document's cursor: Tab, BackTab, Home.
-/
import Derived.Test.YtlmdbcgceijlnaaGreatPPart24
set_option linter.unusedSimpArgs false
set_option linter.unusedVariables false
set_option maxRecDepth 8000
set_option maxHeartbeats 8000000

namespace Go.Proofs.YtlmdbcgceijlnaaGreat
open Go Go.AL Go.Sp
variable {σ : Store} {x y : Nat} {s : Sp}
theorem stepN_lt (h : s.good) (m : Nat) (back : Bool) : ∃ k : Nat, k < s.n ∧ max (stepN s m back) 0 = (k : Int) := by
 have hnp := s.n_pos
 unfold stepN
 cases back
 ·show ∃ k : Nat, k < s.n ∧ max (nextS s m) 0 = (k : Int)
  unfold nextS
  split
  ·next i _ => exact ⟨_, Nat.mod_lt (m + i + 1) hnp, by omega⟩
  ·exact ⟨0, hnp, by decide⟩
 ·show ∃ k : Nat, k < s.n ∧ max (prevS s m) 0 = (k : Int)
  unfold prevS
  split
  ·next i _ => exact ⟨_, Nat.mod_lt (m + s.n - (i + 1)) hnp, by omega⟩
  ·exact ⟨0, hnp, by decide⟩
theorem rfO_place (h : Ref σ x y s) {k : Nat} (hk : k < s.n) : σ.upd x [.lit (.int .i64 s.model), .lit (.bool s.alt), .lit (.int .i64 s.rows), .lit (.int .i64 s.cols), .row y s.n, .lit (.int .i64 k)] = putS rfO σ x y (s.place k) := by
 have e : rfO (s.place k) y = [.lit (.int .i64 s.model), .lit (.bool s.alt), .lit (.int .i64 s.rows), .lit (.int .i64 s.cols), .row y s.n, .lit (.int .i64 k)] := by
  unfold rfO
  have : (s.place (k : Int)).cursor = k := by show wrap s.n (k : Int) = k; exact wrap_of_lt hk
  rw [this]; rfl
 unfold putS
 rw [e]
 have hr := h.row
 refine Store.ext2 (fun o => ?_) (fun i => by simp)
 have hne := h.ne
 by_cases e1 : o = y
 ·subst e1
  have hr' : (s.place (k : Int)).cells = s.cells := rfl
  simp [Ne.symm hne, hr, hr']
 ·simp [e1]
theorem rdo_tab (h : Ref σ x y s) (rows cols : Int) (back : Bool) : ACalls Tryz.prog 60 [ptrA x, .agg [.lit (.int .u8 (if back = true then 1 else 0)), .lit (.int .i64 rows), .lit (.int .i64 cols)]] σ fun v σ' => v = .tuple [] ∧ σ' = putS rfO σ x y (if back = true then btabS s else tabS s) := by
 have hcn := h.good.cursor
 have ho := h.obj
 obtain ⟨k, hk, hke⟩ := stepN_lt h.good s.cursor back
 have hres : (if back = true then btabS s else tabS s) = s.place (k : Int) := by
  unfold stepN at hke
  cases back
  ·show s.place _ = _; exact congrArg s.place hke
  ·show s.place _ = _; exact congrArg s.place hke
 rw [hres]
 have ht := fun τ (hτ : Ref τ x y s) => rtab_calls hτ hcn back
 rw [hke] at ht
 have hpl := rfO_place h hk
 unfold rfO rowC at ho
 refine aw st60 pl60 111 Tryz.func60 rfl ?_
 cases back
 ·simp
  intro z hz
  have f := h.fresh hz
  simp [f.1, f.2.2.1, ho]
  refine callK.eq (ht _ (h.new hz _)) ?_
  simp [f.1, f.2.2.1, ho]
  rw [← hpl, supd_swap _ f.2.2.1]
  refine Store.sub_upd ?_ (Store.sub_refl _)
  simp [f.2.2.1, hz]
 ·simp
  intro z hz
  have f := h.fresh hz
  simp [f.1, f.2.2.1, ho]
  refine callK.eq (ht _ (h.new hz _)) ?_
  simp [f.1, f.2.2.1, ho]
  rw [← hpl, supd_swap _ f.2.2.1]
  refine Store.sub_upd ?_ (Store.sub_refl _)
  simp [f.2.2.1, hz]
theorem firstN_lt (h : s.good) {m : Nat} (hm : m < s.n) : ∃ k : Nat, k < s.n ∧ firstN s m = (k : Int) := by
 unfold firstN
 split
 ·exact ⟨m, hm, rfl⟩
 ·exact stepN_lt h m false
theorem rdo_home (h : Ref σ x y s) (rows cols : Int) : ACalls Tryz.prog 60 [ptrA x, .agg [.lit (.int .u8 3), .lit (.int .i64 rows), .lit (.int .i64 cols)]] σ fun v σ' => v = .tuple [] ∧ σ' = putS rfO σ x y (homeS s) := by
 have hnp := s.n_pos
 have ho := h.obj
 obtain ⟨k, hk, hke⟩ := firstN_lt h.good hnp
 have hres : homeS s = s.place (k : Int) := by unfold homeS; rw [hke]
 rw [hres]
 have ht := fun τ (hτ : Ref τ x y s) => rfirst_calls hτ hnp
 rw [hke] at ht
 have hpl := rfO_place h hk
 unfold rfO rowC at ho
 refine aw st60 pl60 111 Tryz.func60 rfl ?_
 simp
 intro z hz
 have f := h.fresh hz
 simp [f.1, f.2.2.1, ho]
 refine callK.eq (ht _ (h.new hz _)) ?_
 simp [f.1, f.2.2.1, ho]
 rw [← hpl, supd_swap _ f.2.2.1]
 refine Store.sub_upd ?_ (Store.sub_refl _)
 simp [f.2.2.1, hz]
theorem rdo_move (h : Ref σ x y s) (dr dc : Int) : ACalls Tryz.prog 60 [ptrA x, .agg [.lit (.int .u8 4), .lit (.int .i64 dr), .lit (.int .i64 dc)]] σ fun v σ' => v = .tuple [] ∧ σ' = putS rfO σ x y (moveS s dr dc) := by
 have ho := h.obj
 have hdim : Dim s.rows s.cols := dim_of s.model s.alt
 have hk : moveN s.rows s.cols s.cursor dr dc < s.n := addrAt_lt hdim _ _
 have ht := fun τ => rMove_calls hdim (s.cursor : Int) dr dc τ
 have hpl := rfO_place h hk
 have hres : moveS s dr dc = s.place ((moveN s.rows s.cols s.cursor dr dc : Nat) : Int) := rfl
 rw [hres]
 simp only [dimA] at ht
 generalize moveN s.rows s.cols s.cursor dr dc = k at *
 unfold rfO rowC at ho
 refine aw st60 pl60 111 Tryz.func60 rfl ?_
 simp
 intro z hz
 have f := h.fresh hz
 simp [f.1, f.2.2.1, ho]
 repeat' first
  | with_reducible apply And.intro
  | (refine callK.eq (ht _) ?_
     simp [f.1, f.2.2.1, ho]
     rw [← hpl, supd_swap _ f.2.2.1]
     refine Store.sub_upd ?_ (Store.sub_refl _)
     simp [f.2.2.1, hz])
end Go.Proofs.YtlmdbcgceijlnaaGreat
namespace Go.Proofs.YtlmdbcgceijlnaaGreat
open Go Go.AL Go.Sp
variable {σ : Store} {x y : Nat} {s : Sp}
theorem moveN_one {r c n : Nat} (h : Dim r c) (hn : n < r * c) : moveN r c n 0 1 = wrap (r * c) ((n : Int) + 1) := by
 have hp := h.p
 have hc1 := h.c1
 have hr1 := h.r1
 unfold moveN
 simp only []
 rw [wrap_of_lt hn]
 have hw : wrap (r * c) (((n + wrap (r * c) 1 : Nat) : Int)) = wrap (r * c) ((n : Int) + 1) := by
  have e1 : wrap (r * c) 1 = 1 % (r * c) := wrap_mod (k := 1) hp
  have e2 : wrap (r * c) ((n : Int) + 1) = (n + 1) % (r * c) := wrap_mod (k := n + 1) hp
  rw [e1, e2, wrap_mod hp, Nat.add_mod, Nat.mod_mod, ← Nat.add_mod]
 rw [hw]
 have hm := wrap_lt hp ((n : Int) + 1)
 generalize wrap (r * c) ((n : Int) + 1) = m at *
 have e0 : wrap r 0 = 0 := wrap_of_lt (n := r) (k := 0) (by omega)
 rw [e0]
 unfold addrAt
 have hd : m / c < r := Nat.div_lt_of_lt_mul (by rw [Nat.mul_comm]; exact hm)
 rw [Nat.add_zero, wrap_of_lt hd, wrap_of_lt (Nat.mod_lt m (by omega)), Nat.mul_comm]
 exact Nat.div_add_mod m c
theorem rdo_newline (h : Ref σ x y s) (rows cols : Int) : ACalls Tryz.prog 60 [ptrA x, .agg [.lit (.int .u8 2), .lit (.int .i64 rows), .lit (.int .i64 cols)]] σ fun v σ' => v = .tuple [] ∧ σ' = putS rfO σ x y (newlineS s) := by
 have ho := h.obj
 have hdim : Dim s.rows s.cols := dim_of s.model s.alt
 have hl := lineN_lt hdim (s.cursor : Int)
 obtain ⟨k, hk, hke⟩ := firstN_lt h.good hl
 have hres : newlineS s = s.place (k : Int) := by unfold newlineS; rw [hke]
 rw [hres]
 have ht := fun τ (hτ : Ref τ x y s) => rfirst_calls hτ hl
 rw [hke] at ht
 have hpl := rfO_place h hk
 have hcu := h.good.cursor
 have hwc : wrap (s.rows * s.cols) (s.cursor : Int) = s.cursor := wrap_of_lt hcu
 have hat := fun τ => rAt_calls hdim ((s.cursor / s.cols + 1 : Nat) : Int) 0 τ
 have hlin : lineN s.rows s.cols s.cursor = addrAt s.rows s.cols ((s.cursor / s.cols + 1 : Nat) : Int) 0 := by unfold lineN; rw [hwc]
 rw [hlin] at ht
 have hc1 := hdim.c1
 have hc2 := hdim.c2
 have hm := hdim.m
 have hn' : s.n = s.rows * s.cols := rfl
 unfold rfO rowC at ho
 simp only [dimA] at hat
 generalize addrAt s.rows s.cols ((s.cursor / s.cols + 1 : Nat) : Int) 0 = a at *
 have hdl := Nat.div_le_self s.cursor s.cols
 have g1 : (s.cursor : Int).tdiv s.cols = ((s.cursor / s.cols : Nat) : Int) := rfl
 have g2 : (s.cursor : Int) / s.cols = ((s.cursor / s.cols : Nat) : Int) := rfl
 rw [show ((s.cursor / s.cols + 1 : Nat) : Int) = ((s.cursor / s.cols : Nat) : Int) + 1 from rfl] at hat
 generalize s.cursor / s.cols = qq at *
 have q1 : IntKind.i64.wrap ((s.cursor : Int).tdiv s.cols) = (qq : Int) := by rw [g1]; exact wrap_i64 (by omega) (by omega)
 have q1' : IntKind.i64.wrap ((s.cursor : Int) / s.cols) = (qq : Int) := by rw [g2]; exact wrap_i64 (by omega) (by omega)
 have q2 : IntKind.i64.wrap ((qq : Int) + 1) = (qq : Int) + 1 := wrap_i64 (by omega) (by omega)
 have hcz : ¬ (s.cols : Int) = 0 := by omega
 have hcz' : ¬ s.cols = 0 := by omega
 refine aw st60 pl60 111 Tryz.func60 rfl ?_
 simp
 intro z hz
 have f := h.fresh hz
 simp [f.1, f.2.2.1, ho, hcz, hcz', q1, q1', q2]
 repeat' first
  | with_reducible apply And.intro
  | (refine callK.eq (hat _) ?_
     simp [f.1, f.2.2.1, ho, hcz, hcz', q1, q1', q2])
  | (refine callK.eq (ht _ (h.new hz _)) ?_
     simp [f.1, f.2.2.1, ho, hcz, hcz', q1, q1', q2]
     rw [← hpl, supd_swap _ f.2.2.1]
     refine Store.sub_upd ?_ (Store.sub_refl _)
     simp [f.2.2.1, hz])
theorem sub_upd_both {a b : Store} (h : Store.sub a b) (p : Nat) (cs : List AV) : Store.sub (a.upd p cs) (b.upd p cs) := fun o => by
 by_cases ho : o = p
 ·subst ho; right; simp
 ·have e1 : (a.upd p cs) o = a o := by simp [Store.upd, ho]
  have e2 : (b.upd p cs) o = b o := by simp [Store.upd, ho]
  rw [e1, e2]; exact h o
theorem rdo_after (h : Ref σ x y s) (rows cols : Int) : ACalls Tryz.prog 60 [ptrA x, .agg [.lit (.int .u8 5), .lit (.int .i64 rows), .lit (.int .i64 cols)]] σ fun v σ' => v = .tuple [] ∧ σ' = putS rfO σ x y (afterS s) := by
 have ho := h.obj
 have hne := h.ne
 have hdim : Dim s.rows s.cols := dim_of s.model s.alt
 have hcu := h.good.cursor
 have hn' : s.n = s.rows * s.cols := rfl
 have hbd := hdim.m
 have hnp := s.n_pos
 have hk1 := wrap_lt s.n_pos ((s.cursor : Int) + 1)
 have hw1 := fun τ (hτ : Ref τ x y s) => rswrap_calls hτ ((s.cursor : Int) + 1)
 have hm1 : moveS s 0 1 = s.place (wrap s.n ((s.cursor : Int) + 1) : Int) := by unfold moveS; rw [moveN_one hdim hcu]; rfl
 generalize wrap s.n ((s.cursor : Int) + 1) = k at *
 have hg : (s.place (k : Int)).good := h.good.place _
 have hR : Ref (putS rfO σ x y (s.place k)) x y (s.place k) := Scr.of_put hne hg
 have hpl := rfO_place h hk1
 have hcur : (s.place (k : Int)).cursor = k := wrap_of_lt hk1
 have hnn : (s.place (k : Int)).n = s.n := rfl
 have hk2 := wrap_lt s.n_pos ((k : Int) + 1)
 have hw2 := fun τ (hτ : Ref τ x y (s.place k)) => rswrap_calls hτ ((k : Int) + 1)
 have hm2 : moveS (s.place (k : Int)) 0 1 = s.place (wrap s.n ((k : Int) + 1) : Int) := by
  have e : moveN (s.place (k : Int)).rows (s.place (k : Int)).cols (k : Int) 0 1 = wrap s.n ((k : Int) + 1) := moveN_one hdim hk1
  unfold moveS; rw [hcur, e]; rfl
 rw [hnn] at hw2
 generalize wrap s.n ((k : Int) + 1) = k2 at *
 have hlk := hg.len
 have hac : k < s.cells.length := by rw [h.good.len]; exact hk1
 have hgj := cellsO_get hac
 have hce : s.cells[k] = cellAt s k := by unfold cellAt; rw [List.getElem?_eq_getElem hac]; rfl
 have hcx : cellC (cellAt s k) = [byteA (cellAt s k).char, .lit (.bool (cellAt s k).attr), byteA (cellAt s k).fa, byteA (cellAt s k).high, byteA (cellAt s k).color, byteA (cellAt s k).set] := rfl
 rw [hce, hcx] at hgj
 have hcl6 := cellsO_length s.cells
 have hle6 : k * 6 + 6 ≤ (cellsO s.cells).length := by rw [hcl6]; omega
 have hat : (s.place (k : Int)).at (k : Nat) = cellAt s k := cellAt_at (s := s.place k) (by rw [hnn]; exact hk1)
 have hfi := fun τ (hτ : Ref τ x y (s.place k)) => rfield_calls hτ k (by rw [hnn]; exact hk1)
 have hfe : ((s.place (k : Int)).cells[k]?.getD .zero).fa = (cellAt s k).fa := rfl
 rw [hfe] at hfi
 have htb := fun τ (hτ : Ref τ x y (s.place k)) => rtab_calls hτ (m := k) (by rw [hnn]; exact hk1) false
 obtain ⟨k3, hk3, hke3⟩ := stepN_lt hg k false
 rw [hke3] at htb
 have hm3 : tabS (s.place (k : Int)) = s.place (k3 : Int) := by
  unfold tabS
  rw [hcur]
  have : max (nextS (s.place (k : Int)) k) 0 = k3 := hke3
  rw [this]; rfl
 have hpl2 := rfO_place h hk2
 have hpl3 := rfO_place h hk3
 have haf : afterS s = if (cellAt s k).attr = false then s.place (k : Int) else if skipF (fld (cellAt s k).fa) = true then s.place (k3 : Int) else s.place (k2 : Int) := by
  unfold afterS
  rw [hm1, hcur, hat, hm2, hm3]
 rw [haf]
 have hRo : (putS rfO σ x y (s.place (k : Int))) x = some [.lit (.int .i64 s.model), .lit (.bool s.alt), .lit (.int .i64 s.rows), .lit (.int .i64 s.cols), .row y s.n, .lit (.int .i64 k)] := by
  refine hR.obj.trans ?_
  unfold rfO rowC
  rw [hcur]; rfl
 have hRr := hR.row
 unfold rfO rowC at ho
 have q1 : IntKind.i64.wrap ((s.cursor : Int) + 1) = (s.cursor : Int) + 1 := wrap_i64 (by omega) (by omega)
 have q2 : IntKind.i64.wrap ((k : Int) + 1) = (k : Int) + 1 := wrap_i64 (by omega) (by omega)
 have hfa : ∀ f : Fld, fldA f = .agg [.lit (.bool f.prot), .lit (.bool f.num), .lit (.int .i64 f.disp), .lit (.bool f.mod)] := fun _ => rfl
 rw [hfa] at hfi
 have hrr : (s.place (k : Int)).cells = s.cells := rfl
 rw [hrr] at hRr
 have hskf : skipF (fld (cellAt s k).fa) = ((fld (cellAt s k).fa).prot && (fld (cellAt s k).fa).num) := rfl
 rw [hskf]
 refine aw st60 pl60 111 Tryz.func60 rfl ?_
 clear hfe hat hce hm1 hm2 hm3 haf hcx
 simp only [byteA] at hgj
 generalize hfl : fld (cellAt s k).fa = fl at *
 generalize cellAt s k = c at *
 simp
 intro z hz
 have f := h.fresh hz
 have f2 := h.fresh hz
 simp [f.1, f.2.2.1, ho, q1]
 refine callK.eq (hw1 _ (h.new hz _)) ?_
 simp [f.1, f.2.2.1, ho]
 rw [supd_swap _ f.2.2.1, hpl]
 have hz2 : (putS rfO σ x y (s.place k)) z = none := by simp [putS, f.2.2.1, f.2.2.2, hz]
 have hback : ∀ kk : Nat, kk < s.n → (putS rfO σ x y (s.place (k : Int))).upd x [.lit (.int .i64 s.model), .lit (.bool s.alt), .lit (.int .i64 s.rows), .lit (.int .i64 s.cols), .row y s.n, .lit (.int .i64 kk)] = putS rfO σ x y (s.place (kk : Int)) := fun kk hkk => by
  refine Eq.trans (rfO_place hR (s := s.place (k : Int)) (k := kk) hkk) ?_
  unfold putS
  refine Store.ext2 (fun o => ?_) (fun i => by simp)
  by_cases e1 : o = y
  ·subst e1; simp [hne, Ne.symm hne]; rfl
  ·by_cases e2 : o = x
   ·subst e2; simp [e1]; rfl
   ·simp [e1, e2]
 generalize hρ : putS rfO σ x y (s.place k) = ρ at *
 have hRx : (ρ.upd z [.lit (.int .u8 5), .lit (.int .i64 rows), .lit (.int .i64 cols)]) x = some [.lit (.int .i64 s.model), .lit (.bool s.alt), .lit (.int .i64 s.rows), .lit (.int .i64 s.cols), .row y s.n, .lit (.int .i64 k)] := by
  simp [f.1]; exact hRo
 have hRy : (ρ.upd z [.lit (.int .u8 5), .lit (.int .i64 rows), .lit (.int .i64 cols)]) y = some (cellsO s.cells) := by
  simp [f.2.1]; exact hRr
 have hR2 := hR.new hz2 [.lit (.int .u8 5), .lit (.int .i64 rows), .lit (.int .i64 cols)]
 generalize hρ2 : ρ.upd z [.lit (.int .u8 5), .lit (.int .i64 rows), .lit (.int .i64 cols)] = ρ2 at *
 simp [hRx, hRy, hk1, hle6, hgj]
 intro w hw
 have fw := hR2.fresh hw
 have hzw : ρ w = none := by
  have : ¬ w = z := by intro e; rw [← hρ2, e] at hw; simp at hw
  rw [← hρ2] at hw
  simpa [this] using hw
 have hsub2 : ρ.sub ρ2 := by rw [← hρ2]; exact Store.sub_upd hz2 (Store.sub_refl _)
 cases hca : c.attr
 ·simp
  rw [hρ]
  exact Store.sub_upd hzw hsub2
 ·simp
  refine callK.eq (hfi _ (hR2.new hw _)) ?_
  have hR3 := hR2.new hw [.lit (.int .u8 c.char.toNat), .lit (.bool true), .lit (.int .u8 c.fa.toNat), .lit (.int .u8 c.high.toNat), .lit (.int .u8 c.color.toNat), .lit (.int .u8 c.set.toNat)]
  have hsub3 : ρ.sub (ρ2.upd w [.lit (.int .u8 c.char.toNat), .lit (.bool true), .lit (.int .u8 c.fa.toNat), .lit (.int .u8 c.high.toNat), .lit (.int .u8 c.color.toNat), .lit (.int .u8 c.set.toNat)]) := Store.sub_upd hzw hsub2
  generalize hρ3 : ρ2.upd w [.lit (.int .u8 c.char.toNat), .lit (.bool true), .lit (.int .u8 c.fa.toNat), .lit (.int .u8 c.high.toNat), .lit (.int .u8 c.color.toNat), .lit (.int .u8 c.set.toNat)] = ρ3 at *
  have hRx3 : ∀ (u : Nat) (U : List AV), ρ3 u = none → (ρ3.upd u U) x = some [.lit (.int .i64 s.model), .lit (.bool s.alt), .lit (.int .i64 s.rows), .lit (.int .i64 s.cols), .row y s.n, .lit (.int .i64 k)] := fun u U hu => by
   have g := hR3.fresh hu
   simp [g.1]
   rw [← hρ3]
   simp [fw.1, hRx]
  have hend : ∀ (u : Nat) (U : List AV) (kk : Nat), ρ3 u = none → kk < s.n → Store.sub (putS rfO σ x y (s.place (kk : Int))) ((ρ3.upd u U).upd x [.lit (.int .i64 s.model), .lit (.bool s.alt), .lit (.int .i64 s.rows), .lit (.int .i64 s.cols), .row y s.n, .lit (.int .i64 kk)]) := fun u U kk hu hkk => by
   rw [← hback kk hkk]
   refine sub_upd_both (Store.sub_upd ?_ hsub3) _ _
   have := hsub3 u
   rw [hu] at this
   rcases this with h | h <;> exact h
  obtain ⟨fp, fn, fd, fm⟩ := fl
  cases fp <;> cases fn
  all_goals
   simp [q2]
   intro u hu
   first
    | (refine callK.eq (hw2 _ (hR3.new hu _)) ?_
       simp [hRx3 _ _ hu]
       exact hend _ _ _ hu hk2)
    | (refine callK.eq (htb _ (hR3.new hu _)) ?_
       simp [hRx3 _ _ hu]
       exact hend _ _ _ hu hk3)
end Go.Proofs.YtlmdbcgceijlnaaGreat
namespace Go.Proofs.YtlmdbcgceijlnaaGreat
open Go Go.AL Go.Sp
variable {σ : Store} {x y : Nat} {s : Sp}
theorem cell_attr_at {i : Nat} (hic : i < s.cells.length) : (cellsO s.cells)[i * 6 + 1]? = some (.lit (.bool (attrAt s.cells i))) := by
 rw [cellsO_get1 hic (by omega)]
 unfold attrAt
 simp [hic]
 rfl
theorem cell_char_at {i : Nat} (hic : i < s.cells.length) : (cellsO s.cells)[i * 6]? = some (byteA (cellAt s i).char) := by
 have := cellsO_get1 (j := 0) hic (by omega)
 rw [Nat.add_zero] at this
 rw [this]
 unfold cellAt
 simp [hic]
 rfl
theorem rowL_take {n k : Nat} (h : k < rowN s n) : (rowL s n).take (k + 1) = (rowL s n).take k ++ [n + k] := by
 have hl : k < (rowL s n).length := by rw [rowL_len]; exact h
 rw [List.take_succ_eq_append_getElem hl]
 congr 2
 simp [rowL]
theorem rrow_calls (h : Ref σ x y s) {n : Nat} (hn : n < s.n) : ACalls Tryz.prog 111 [ptrA x, .lit (.int .i64 n)] σ fun v σ' => v = .list false 1 (natsA (rowL s n)) ∧ σ' = σ := by
 have ho := h.obj
 have hr := h.row
 have hln := h.good.len
 have hnl := s.n_le
 have hw := rswrap_calls h (n : Int)
 rw [wrap_of_lt hn] at hw
 have hd : Dim s.rows s.cols := dim_of s.model s.alt
 have hml := Nat.mod_lt n hd.c1
 have hre := row_end hn
 have hNe := rowN_le hn
 have hfree : ∀ i, i < rowN s n → attrAt s.cells (n + i) = false := fun i hi => toP_free _ _ i hi
 have hstop : rowN s n < s.cols - n % s.cols → attrAt s.cells (n + rowN s n) = true := fun h => toP_stop (fun i => attrAt s.cells (n + i)) _ h
 have hle : rowN s n ≤ s.cols - n % s.cols := toP_le _ _
 have hcl := hd.c2
 have hc1 := hd.c1
 unfold rfO at ho
 have hmd : ∀ k, k < s.cols - n % s.cols → (n + k) % s.cols = n % s.cols + k := fun k hk => by
  rw [Nat.add_mod, Nat.mod_eq_of_lt (a := k) (by omega), Nat.mod_eq_of_lt (by omega)]
 refine aw st111 pl111 48 Tryz.func111 rfl ?_
 simp
 refine callK.eq hw ?_
 simp
 refine codeK.loop follows (st := st111) (plans := pl111) (X := Nat) (fun k => k ≤ rowN s n ∧ k < s.cols - n % s.cols)
  (fun k => [(0, ptrA x), (1, .lit (.int .i64 (n + k : Nat))), (5, .list true 1 (natsA ((rowL s n).take k)))])
  (fun _ => σ) (fun k => s.cols - k) 0 (by kernel_rfl) ⟨by omega, by omega⟩ (by simp [natsA]) (Store.sub_refl _) fun k hk => ?_
 obtain ⟨hk1, hk2⟩ := hk
 by_cases hkN : k < rowN s n
 ·have hf := hfree k hkN
  have hcr := cell_attr_at (s := s) (i := n + k) (by omega)
  rw [hf] at hcr
  have e1 : natsA ((rowL s n).take (k + 1)) = natsA ((rowL s n).take k) ++ [.lit (.int .i64 (n + k : Nat))] := by rw [rowL_take hkN, natsA_append]; rfl
  have hl3 : ((rowL s n).take k).length ≤ k := by simp; omega
  have hmk := hmd k hk2
  have g1 : ((n + k : Nat) : Int).tmod s.cols = (((n + k) % s.cols : Nat) : Int) := rfl
  have hlt : n + k < s.n := by omega
  have hlt' : ((n + k : Nat) : Int) < s.n := by omega
  have hcz : ¬ (s.cols : Int) = 0 := by omega
  have hcz' : ¬ s.cols = 0 := by omega
  have q3 : IntKind.i64.wrap ((s.cols : Int) - 1) = (s.cols : Int) - 1 := wrap_i64 (by omega) (by omega)
  have q4 : IntKind.i64.wrap (((n + k : Nat) : Int) + 1) = ((n + (k + 1) : Nat) : Int) := by rw [wrap_i64 (by omega) (by omega)]; omega
  rw [hmk] at g1
  have q2 : IntKind.i64.wrap ((n % s.cols + k : Nat) : Int) = ((n % s.cols + k : Nat) : Int) := wrap_i64 (by omega) (by omega)
  generalize n % s.cols = w at *
  by_cases hlast : k + 1 = s.cols - w
  ·have hN : rowN s n = k + 1 := by omega
   have hall : (rowL s n).take (k + 1) = rowL s n := List.take_of_length_le (by rw [rowL_len]; omega)
   rw [hall] at e1
   have b1 : ((w + k : Nat) : Int) = (s.cols : Int) - 1 := by omega
   generalize hm : n + k = m at *
   generalize hwk : w + k = wk at *
   simp [ho, hr, rowC, hlt, hlt', hcr, hcz, hcz', g1, q2, q3, b1]
   rw [← e1]
   exact ⟨by omega, by omega, AV.le_list _ _ _⟩
  ·have b1 : ¬ ((w + k : Nat) : Int) = (s.cols : Int) - 1 := by omega
   generalize hm : n + k = m at *
   generalize hwk : w + k = wk at *
   simp [ho, hr, rowC, hlt, hlt', hcr, hcz, hcz', g1, q2, q3, b1, q4]
   refine ⟨by omega, by omega, k + 1, ⟨by omega, by omega⟩, by omega, ?_, ?_⟩
   ·exact AV.le_refl _
   ·rw [e1]; exact AV.le_refl _
 ·obtain rfl : k = rowN s n := by omega
  have hf := hstop hk2
  have hcr := cell_attr_at (s := s) (i := n + rowN s n) (by have := row_end hn; omega)
  rw [hf] at hcr
  have hlt : n + rowN s n < s.n := by omega
  have hlt' : ((n + rowN s n : Nat) : Int) < s.n := by omega
  have hall : (rowL s n).take (rowN s n) = rowL s n := List.take_of_length_le (by rw [rowL_len]; exact Nat.le_refl _)
  rw [hall]
  generalize n + rowN s n = m at *
  simp [ho, hr, rowC, hlt, hlt', hcr]
end Go.Proofs.YtlmdbcgceijlnaaGreat
namespace Go.Proofs.YtlmdbcgceijlnaaGreat
open Go Go.AL Go.Sp
theorem idx_at {L : List Nat} (h : L.Nodup) {k : Nat} (hk : k < L.length) : L.idxOf L[k] = k := by
 have hm : L[k] ∈ L := List.getElem_mem hk
 have h1 := List.idxOf_lt_length_of_mem hm
 have h2 : L[L.idxOf L[k]]? = L[k]? := by
  rw [List.getElem?_eq_getElem h1, List.getElem?_eq_getElem hk, List.getElem_idxOf h1]
 exact (List.getElem?_inj h1 h).1 h2
theorem idx_iff {L : List Nat} (h : L.Nodup) {k : Nat} (hk : k < L.length) (j : Nat) : L.idxOf j = k ↔ j = L[k] := by
 constructor
 ·intro e
  have h1 : L.idxOf j < L.length := by omega
  have h2 := List.getElem_idxOf h1
  subst e
  exact h2.symm
 ·rintro rfl; exact idx_at h hk
theorem nd_map {f : Nat → Nat} {N : Nat} (h : ∀ i j, i < N → j < N → f i = f j → i = j) : ((List.range N).map f).Nodup := by
 rw [List.Nodup, List.pairwise_map]
 refine List.Pairwise.imp_of_mem ?_ List.nodup_range
 intro a b ha hb hne e
 exact hne (h a b (List.mem_range.1 ha) (List.mem_range.1 hb) e)
theorem mod_inj {N a i j : Nat} (hi : i < N) (hj : j < N) (h : (a + i) % N = (a + j) % N) : i = j := by
 rcases Nat.le_total i j with hij | hij
 ·have h1 := Nat.sub_mod_eq_zero_of_mod_eq h.symm
  rw [show a + j - (a + i) = j - i from by omega, Nat.mod_eq_of_lt (by omega)] at h1
  omega
 ·have h1 := Nat.sub_mod_eq_zero_of_mod_eq h
  rw [show a + i - (a + j) = i - j from by omega, Nat.mod_eq_of_lt (by omega)] at h1
  omega
structure WrL (s : Sp) (L : List Nat) : Prop where
 lt : ∀ j ∈ L, j < s.n
 free : ∀ j ∈ L, attrAt s.cells j = false
 nd : L.Nodup
theorem WrL.at {s : Sp} {L : List Nat} (w : WrL s L) {k : Nat} (hk : k < L.length) : L[k] < s.n ∧ attrAt s.cells L[k] = false := ⟨w.lt _ (List.getElem_mem hk), w.free _ (List.getElem_mem hk)⟩
theorem wr_row {s : Sp} {n : Nat} (hn : n < s.n) : WrL s (rowL s n) := by
 have h1 := rowN_le hn
 refine ⟨fun j hj => ?_, fun j hj => ?_, nd_map fun i j _ _ e => by omega⟩
 ·simp [rowL] at hj; obtain ⟨i, hi, rfl⟩ := hj; omega
 ·simp [rowL] at hj; obtain ⟨i, hi, rfl⟩ := hj; exact toP_free (fun i => attrAt s.cells (n + i)) _ i hi
theorem count_none {s : Sp} (h : s.count = 0) (i : Nat) : attrAt s.cells i = false := by
 unfold attrAt
 cases hx : s.cells[i]? with
 | none => rfl
 | some c =>
  have := List.countP_eq_zero.1 h c (List.mem_of_getElem? hx)
  simpa using this
theorem wr_span {s : Sp} (h : s.count = 0) (f t : Nat) : WrL s (spanL s.n f t) := by
 have hN := (spanLen_pos (N := s.n) (f := f) (t := t) s.n_pos).2
 refine ⟨fun j hj => ?_, fun j _ => count_none h j, nd_map fun i j hi hj e => mod_inj (by omega) (by omega) e⟩
 simp [spanL] at hj
 obtain ⟨i, _, rfl⟩ := hj
 exact Nat.mod_lt _ s.n_pos
theorem wr_places {s : Sp} (h : s.good) {a : Nat} (ha : a < s.n) : WrL s (Sp.places s.cells a) := by
 have hlen := Sp.len_lt (l := s.cells) (a := a) (by rw [h.len]; exact ha)
 refine ⟨fun j hj => ?_, fun j hj => ?_, nd_map fun i j hi hj e => ?_⟩
 ·simp [Sp.places] at hj
  obtain ⟨i, _, rfl⟩ := hj
  rw [h.len]; exact Nat.mod_lt _ s.n_pos
 ·simp [Sp.places] at hj
  obtain ⟨i, hi, rfl⟩ := hj
  exact Sp.len_free (j := i + 1) (by omega) (by omega)
 ·rw [show a + i + 1 = a + 1 + i from by omega, show a + j + 1 = a + 1 + j from by omega] at e
  exact mod_inj (by omega) (by omega) e
theorem WrL.drop {s : Sp} {L : List Nat} (w : WrL s L) (k : Nat) : WrL s (L.drop k) :=
 ⟨fun j hj => w.lt j (List.mem_of_mem_drop hj), fun j hj => w.free j (List.mem_of_mem_drop hj), List.Pairwise.sublist (List.drop_sublist k L) w.nd⟩
theorem wr_rest {s : Sp} (h : s.good) {n : Nat} (hn : n < s.n) (hat : attrAt s.cells n = false) : WrL s (restL s n) := by
 unfold restL
 split
 ·next hc => exact wr_span hc _ _
 ·next hc =>
  obtain ⟨a, ha⟩ := in_field h hn hc hat
  rw [ha.start]
  exact (wr_places h ha.lt).drop _
theorem wr_round {s : Sp} (h : s.good) {n : Nat} (hn : n < s.n) (hat : attrAt s.cells n = false) : WrL s (roundL s n) := by
 unfold roundL
 split
 ·next hc => exact wr_span hc _ _
 ·exact wr_rest h hn hat
def chP (c : Cell) (x : UInt8) : Cell := { c with char := x }
def movS (s : Sp) (L : List Nat) (cs : List UInt8) : Nat → Sp
 | 0 => s
 | k + 1 => (movS s L cs k).put (L[k]?.getD 0 : Nat) (cs[k]?.getD 0)
theorem movS_keep {s : Sp} (h : s.good) (L : List Nat) (cs : List UInt8) : ∀ k, KeepA s (movS s L cs k)
 | 0 => .refl h
 | k + 1 => keep_put (movS_keep h L cs k) _ _
theorem movS_cur (s : Sp) (L : List Nat) (cs : List UInt8) : ∀ k, (movS s L cs k).cursor = s.cursor
 | 0 => rfl
 | k + 1 => (put_same _ _ _).2.2.trans (movS_cur s L cs k)
theorem movS_take (s : Sp) (L : List Nat) (cs : List UInt8) (m : Nat) : ∀ k, k ≤ m → movS s (L.take m) cs k = movS s L cs k
 | 0, _ => rfl
 | k + 1, hk => by
  show (movS s (L.take m) cs k).put ((L.take m)[k]?.getD 0 : Nat) (cs[k]?.getD 0) = (movS s L cs k).put (L[k]?.getD 0 : Nat) (cs[k]?.getD 0)
  rw [movS_take s L cs m k (by omega), List.getElem?_take_of_lt (by omega)]
theorem cellAt_movS {s : Sp} (h : s.good) {L : List Nat} (w : WrL s L) (cs : List UInt8) (j : Nat) : ∀ k, k ≤ L.length → cellAt (movS s L cs k) j = if L.idxOf j < k then chP (cellAt s j) (cs[L.idxOf j]?.getD 0) else cellAt s j
 | 0, _ => by simp [movS]
 | k + 1, hk => by
  have hlt : k < L.length := hk
  have ih := cellAt_movS h w cs j k (by omega)
  have kp := movS_keep h L cs k
  obtain ⟨a1, a2⟩ := w.at hlt
  have e : L[k]?.getD 0 = L[k] := by rw [List.getElem?_eq_getElem hlt]; rfl
  show cellAt ((movS s L cs k).put (L[k]?.getD 0 : Nat) (cs[k]?.getD 0)) j = _
  rw [e, cellAt_put kp.same.1 (by rw [kp.same.n]; exact a1) (by rw [kp.attr]; exact a2), ih]
  have hi := idx_iff w.nd hlt j
  by_cases c : L.idxOf j = k
  ·rw [if_pos (hi.1 c), if_neg (by omega), if_pos (by omega), c]; rfl
  ·rw [if_neg (fun e => c (hi.2 e))]
   by_cases d : L.idxOf j < k
   ·rw [if_pos d, if_pos (by omega)]
   ·rw [if_neg d, if_neg (by omega)]
def codesL (s : Sp) (L : List Nat) : List UInt8 := L.map fun j => (cellAt s j).char
theorem codesL_at (s : Sp) (L : List Nat) {k : Nat} (hk : k < L.length) : (codesL s L)[k]? = some (cellAt s L[k]).char := by
 unfold codesL; rw [List.getElem?_map, List.getElem?_eq_getElem hk]; rfl
@[simp] theorem codesL_len (s : Sp) (L : List Nat) : (codesL s L).length = L.length := by simp [codesL]
theorem delTo_mov {s : Sp} (h : s.good) {L : List Nat} (w : WrL s L) : ∀ k, k ≤ L.length → delTo s L k = movS s L ((codesL s L).drop 1 ++ [0]) k
 | 0, _ => rfl
 | k + 1, hk => by
  have hlt : k < L.length := hk
  have kp := movS_keep h L ((codesL s L).drop 1 ++ [0]) k
  show (delTo s L k).put (L[k]?.getD 0 : Nat) (if k + 1 < L.length then ((delTo s L k).at (L[k + 1]?.getD 0 : Nat)).char else 0) = (movS s L ((codesL s L).drop 1 ++ [0]) k).put (L[k]?.getD 0 : Nat) (((codesL s L).drop 1 ++ [0])[k]?.getD 0)
  rw [delTo_mov h w k (by omega)]
  congr 1
  by_cases c : k + 1 < L.length
  ·obtain ⟨a1, _⟩ := w.at c
   rw [if_pos c, List.getElem?_append_left (by simp; omega), List.getElem?_drop, Nat.add_comm 1 k, codesL_at s L c, List.getElem?_eq_getElem c]
   show ((movS s L ((codesL s L).drop 1 ++ [0]) k).at ((L[k + 1] : Nat) : Int)).char = (cellAt s L[k + 1]).char
   rw [cellAt_at (by rw [kp.same.n]; exact a1), cellAt_movS h w _ _ k (by omega), idx_at w.nd c, if_neg (by omega)]
  ·rw [if_neg c, List.getElem?_append_right (by simp; omega)]
   simp
   have : k - (L.length - 1) = 0 := by omega
   rw [this]; rfl
theorem cellAt_insTo {s : Sp} (h : s.good) {L : List Nat} (w : WrL s L) {e : Nat} (he : e < L.length) (j : Nat) : ∀ k, k ≤ e → cellAt (insTo s L e k) j = if e - k < L.idxOf j ∧ L.idxOf j ≤ e then chP (cellAt s j) ((codesL s L)[L.idxOf j - 1]?.getD 0) else cellAt s j
 | 0, _ => by rw [if_neg (by omega)]; rfl
 | k + 1, hk => by
  have ih := fun j => cellAt_insTo h w he j k (by omega)
  have kp : KeepA s (insTo s L e k) := by
   clear ih
   generalize k = m
   induction m with
   | zero => exact .refl h
   | succ m im => exact keep_put im _ _
  have h1 : e - k < L.length := by omega
  have h2 : e - k - 1 < L.length := by omega
  obtain ⟨a1, a2⟩ := w.at h1
  obtain ⟨b1, _⟩ := w.at h2
  have e1 : L[e - k]?.getD 0 = L[e - k] := by rw [List.getElem?_eq_getElem h1]; rfl
  have e2 : L[e - k - 1]?.getD 0 = L[e - k - 1] := by rw [List.getElem?_eq_getElem h2]; rfl
  show cellAt ((insTo s L e k).put (L[e - k]?.getD 0 : Nat) ((insTo s L e k).at (L[e - k - 1]?.getD 0 : Nat)).char) j = _
  have hc : (cellAt (insTo s L e k) L[e - k - 1]).char = (cellAt s L[e - k - 1]).char := by rw [ih, idx_at w.nd h2, if_neg (by omega)]
  rw [e1, e2, cellAt_put kp.same.1 (by rw [kp.same.n]; exact a1) (by rw [kp.attr]; exact a2), cellAt_at (by rw [kp.same.n]; exact b1), hc, ih]
  have hi := idx_iff w.nd h1 j
  by_cases c : L.idxOf j = e - k
  ·rw [if_pos (hi.1 c), if_neg (by omega), if_pos (by omega), c, codesL_at s L h2]; rfl
  ·rw [if_neg (fun e => c (hi.2 e))]
   by_cases d : e - k < L.idxOf j ∧ L.idxOf j ≤ e
   ·rw [if_pos d, if_pos (by omega)]
   ·rw [if_neg d, if_neg (by omega)]
theorem insTo_keep {s : Sp} (h : s.good) (L : List Nat) (e : Nat) : ∀ k, KeepA s (insTo s L e k)
 | 0 => .refl h
 | k + 1 => keep_put (insTo_keep h L e k) _ _
theorem insTo_cur (s : Sp) (L : List Nat) (e : Nat) : ∀ k, (insTo s L e k).cursor = s.cursor
 | 0 => rfl
 | k + 1 => (put_same _ _ _).2.2.trans (insTo_cur s L e k)
theorem insTo_mov {s : Sp} (h : s.good) {L : List Nat} (w : WrL s L) {e : Nat} (he : e < L.length) (c : UInt8) : (insTo s L e e).put (L[0]?.getD 0 : Nat) c = movS s L (c :: (codesL s L).take e) (e + 1) := by
 have h0 : 0 < L.length := by omega
 have kp := insTo_keep h L e e
 have km := movS_keep h L (c :: (codesL s L).take e) (e + 1)
 obtain ⟨a1, a2⟩ := w.at h0
 have e1 : L[0]?.getD 0 = L[0] := by rw [List.getElem?_eq_getElem h0]; rfl
 have kq := keep_put kp (L[0]?.getD 0 : Nat) c
 refine sp_ext ?_ ?_ ?_ ((keep_len kq h).trans (keep_len km h).symm) fun j => ?_
 ·rw [kq.same.2.1, km.same.2.1]
 ·rw [kq.same.2.2, km.same.2.2]
 ·rw [(put_same _ _ _).2.2, insTo_cur, movS_cur]
 ·rw [e1, cellAt_put kp.same.1 (by rw [kp.same.n]; exact a1) (by rw [kp.attr]; exact a2), cellAt_insTo h w he j e (by omega), cellAt_movS h w _ j _ (by omega)]
  have hi := idx_iff w.nd h0 j
  by_cases c0 : L.idxOf j = 0
  ·rw [if_pos (hi.1 c0), if_neg (by omega), if_pos (by omega), c0]; rfl
  ·rw [if_neg (fun e => c0 (hi.2 e))]
   by_cases d : L.idxOf j < e + 1
   ·rw [if_pos (by omega), if_pos d]
    obtain ⟨m, hm⟩ : ∃ m, L.idxOf j = m + 1 := ⟨L.idxOf j - 1, by omega⟩
    rw [hm, List.getElem?_cons_succ, List.getElem?_take_of_lt (by omega)]
    rfl
   ·rw [if_neg (by omega), if_neg d]
variable {σ : Store} {x y : Nat} {s : Sp}
theorem getD_at (cs : List UInt8) {k : Nat} (h : k < cs.length) : cs[k]?.getD 0 = cs[k] := by rw [List.getElem?_eq_getElem h]; rfl
theorem rmove_calls (h : Ref σ x y s) (L : List Nat) (cs : List UInt8) (hN : L.length ≤ 1000000) (hcs : L.length ≤ cs.length) : ACalls Tryz.prog 112 [ptrA x, .list false 1 (natsA L), .list false 1 (bytesA cs)] σ fun v σ' => v = .tuple [] ∧ σ' = putS rfO σ x y (movS s L cs L.length) := by
 have hkp := movS_keep h.good L cs
 have hne := h.ne
 have hz : movS s L cs 0 = s := rfl
 have hsu : ∀ k, movS s L cs (k + 1) = (movS s L cs k).put (L[k]?.getD 0 : Nat) (cs[k]?.getD 0) := fun k => rfl
 refine aw st112 pl112 23 Tryz.func112 rfl ?_
 simp
 refine codeK.loop follows (st := st112) (plans := pl112) (X := Nat) (fun k => k ≤ L.length)
  (fun k => [(0, ptrA x), (2, .list false 1 (bytesA cs)), (8, .list false 1 (natsA L)), (9, .lit (.int .i64 L.length)), (10, .lit (.int .i64 k))]) (fun k => putS rfO σ x y (movS s L cs k)) (fun k => L.length - k) 0 (by kernel_rfl) (by simp) (by simp) (by rw [hz, h.put_self]; exact Store.sub_refl _) fun k hk => ?_
 by_cases hlt : k < L.length
 ·have hP : Ref (putS rfO σ x y (movS s L cs k)) x y (movS s L cs k) := Scr.of_put hne (hkp k).same.1
  have hw : IntKind.i64.wrap ((k : Int) + 1) = ((k + 1 : Nat) : Int) := wrap_i64 (by omega) (by omega)
  have hpu := fun i (b : UInt8) => rput_calls hP i b
  simp only [putS_put hne, byteA] at hpu
  have hs1 := hsu k
  have hg : L[k]?.getD 0 = L[k] := by rw [List.getElem?_eq_getElem hlt]; rfl
  have hkc : k < cs.length := by omega
  have hcb := bytesA_at cs k hkc
  rw [hg, getD_at cs hkc] at hs1
  simp only [byteA] at hcb
  generalize cs[k] = cb at *
  simp [hlt, hkc, hcb]
  refine callK.eq (hpu _ cb) ?_
  simp [hw]
  exact ⟨k + 1, by omega, by omega, by simp, by rw [hs1]; exact Store.sub_refl _⟩
 ·obtain rfl : k = L.length := by omega
  simp
theorem codesL_take (s : Sp) (L : List Nat) {k : Nat} (h : k < L.length) : codesL s (L.take (k + 1)) = codesL s (L.take k) ++ [(cellAt s L[k]).char] := by
 unfold codesL
 rw [List.take_succ_eq_append_getElem h, List.map_append]; rfl
theorem rcodes_calls (h : Ref σ x y s) (L : List Nat) (hN : L.length ≤ 1000000) (hL : ∀ j ∈ L, j < s.n) : ACalls Tryz.prog 113 [ptrA x, .list false 1 (natsA L)] σ fun v σ' => v = .list true 1 (bytesA (codesL s L)) ∧ σ' = σ := by
 have ho := h.obj
 have hr := h.row
 have hln := h.good.len
 unfold rfO at ho
 refine aw st113 pl113 27 Tryz.func113 rfl ?_
 simp
 refine codeK.loop follows (st := st113) (plans := pl113) (X := Nat) (fun k => k ≤ L.length)
  (fun k => [(0, ptrA x), (5, .list true 1 (bytesA (codesL s (L.take k)))), (8, .list false 1 (natsA L)), (9, .lit (.int .i64 L.length)), (10, .lit (.int .i64 k))]) (fun _ => σ) (fun k => L.length - k) 0 (by kernel_rfl) (by simp) (by simp [codesL, bytesA]) (Store.sub_refl _) fun k hk => ?_
 by_cases hlt : k < L.length
 ·have hw : IntKind.i64.wrap ((k : Int) + 1) = ((k + 1 : Nat) : Int) := wrap_i64 (by omega) (by omega)
  have hj := hL L[k] (List.getElem_mem hlt)
  have hcc := cell_char_at (s := s) (i := L[k]) (by omega)
  have e1 : bytesA (codesL s (L.take (k + 1))) = bytesA (codesL s (L.take k)) ++ [byteA (cellAt s L[k]).char] := by rw [codesL_take s L hlt]; simp [bytesA]
  have hl3 : (codesL s (L.take k)).length ≤ k := by simp; omega
  simp only [byteA] at hcc e1
  generalize (cellAt s L[k]).char = cb at *
  simp [hlt, ho, hr, rowC, hj, hcc, hw]
  refine ⟨by omega, by omega, k + 1, by omega, by omega, ?_, ?_⟩
  ·rw [e1]; exact AV.le_refl _
  ·exact AV.le_refl _
 ·obtain rfl : k = L.length := by omega
  simp
theorem delS_eq (h : s.good) {n : Nat} (hn : n < s.n) : delS s n = if openS s n = true then modS (movS s (rowL s n) ((codesL s (rowL s n)).drop 1 ++ [0]) (rowL s n).length) n else s := by
 unfold delS
 rw [delTo_mov h (wr_row hn) _ (Nat.le_refl _)]
theorem rowN_pos {n : Nat} (ha : attrAt s.cells n = false) : 0 < rowN s n := by
 have hd : Dim s.rows s.cols := dim_of s.model s.alt
 have h1 := Nat.mod_lt n hd.c1
 rcases Nat.eq_zero_or_pos (rowN s n) with e | e
 ·have := toP_stop (fun i => attrAt s.cells (n + i)) (s.cols - n % s.cols) (by show rowN s n < _; omega)
  rw [show toP (fun i => attrAt s.cells (n + i)) (s.cols - n % s.cols) = rowN s n from rfl, e] at this
  simp only [Nat.add_zero] at this
  rw [ha] at this; cases this
 ·exact e
theorem rdelete_calls (h : Ref σ x y s) {n : Nat} (hn : n < s.n) : ACalls Tryz.prog 61 [ptrA x, .lit (.int .i64 n)] σ fun v σ' => v = .lit (.bool (openS s n)) ∧ σ' = putS rfO σ x y (delS s n) := by
 have hop := ropen_calls h hn
 have hne := h.ne
 rw [delS_eq h.good hn]
 cases ho : openS s n
 ·rw [if_neg (by simp), h.put_self]
  rw [ho] at hop
  refine aw st61 pl61 25 Tryz.func61 rfl ?_
  simp
  refine callK.eq hop ?_
  simp
 ·rw [if_pos rfl]
  rw [ho] at hop
  have hro := rrow_calls h hn
  have hw := wr_row hn
  have hpos := rowN_pos (open_attr ho)
  rw [← rowL_len] at hpos
  have hlen : (rowL s n).length ≤ 1000000 := by
   have hnl := s.n_le
   have := rowN_le hn
   rw [rowL_len]; omega
  generalize rowL s n = L at *
  have hco := rcodes_calls h L hlen hw.lt
  have hmv := rmove_calls h L ((codesL s L).drop 1 ++ [0]) hlen (by simp; omega)
  have hcl := codesL_len s L
  have hk := movS_keep h.good L ((codesL s L).drop 1 ++ [0]) L.length
  have eb : bytesA ((codesL s L).drop 1 ++ [0]) = (bytesA (codesL s L)).tail ++ [.lit (.int .u8 0)] := by simp [bytesA, byteA]
  rw [eb] at hmv
  generalize movS s L ((codesL s L).drop 1 ++ [0]) L.length = t at *
  generalize codesL s L = cs at *
  have hmo := rmodify_calls (Scr.of_put hne hk.same.1 : Ref (putS rfO σ x y t) x y t) (i := n) (by rw [hk.same.n]; exact hn)
  rw [putS_put hne] at hmo
  refine aw st61 pl61 25 Tryz.func61 rfl ?_
  simp
  refine callK.eq hop ?_
  simp
  refine callK.eq hro ?_
  simp
  refine callK.eq hco ?_
  have h1 : 1 ≤ cs.length := by omega
  have h2 : 0 < cs.length := by omega
  have h3 : cs.length - 1 + 1 ≤ 9223372036854775807 := by omega
  have h4 : cs.length ≤ 9223372036854775807 := by omega
  have h5 : cs.length ≤ 140737488355328 := by omega
  have h6 : cs.length - 1 + 1 ≤ 140737488355328 := by omega
  simp [h1, h2, h3, h4, h5, h6]
  refine callK.le (args' := [ptrA x, .list false 1 (natsA L), .list false 1 ((bytesA cs).tail ++ [.lit (.int .u8 0)])]) ?_ hmv ?_
  ·simp [AllLe]
  rintro v τ ⟨rfl, eτ⟩
  rw [eτ]
  clear eτ τ
  simp
  refine callK.eq hmo ?_
  simp
end Go.Proofs.YtlmdbcgceijlnaaGreat
