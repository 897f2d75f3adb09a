/-
 All that is not protected goes: the document's walk.
-/
import Derived.Test.YtlmdbcgceijlnaaGreatPPart26
set_option linter.unusedSimpArgs false
set_option linter.unusedVariables false
set_option maxRecDepth 8000
set_option maxHeartbeats 8000000

namespace Go.Proofs.YtlmdbcgceijlnaaGreat
open Go Go.AL Go.Sp
variable {σ : Store} {x y : Nat} {s : Sp}
theorem fld_unpA (h : s.good) {a : Nat} (hat : attrAt s.cells a = true) (k : Nat) (hk : k ≤ s.n) : fldAt (unpA s k) a = fldAt s a := by
 rw [fldAt_cell, fldAt_cell, cellAt_unpA h a k hk, if_neg]
 rintro ⟨_, e⟩
 unfold openS at e; rw [hat] at e; simp at e
def unmX (s : Sp) (k : Nat) : Sp := (s.attrs.take k).foldl unm1 (unpA s s.n)
theorem unmX_succ (s : Sp) (k : Nat) (h : k < s.attrs.length) : unmX s (k + 1) = unm1 (unmX s k) s.attrs[k] := by
 unfold unmX; rw [List.take_succ_eq_append_getElem h, List.foldl_append]; rfl
theorem unmX_keep (h : s.good) (k : Nat) : KeepA s (unmX s k) :=
 keep_unms h (unpA_keep h s.n) _ fun a ha => attr_mem h a (List.mem_of_mem_take ha)
theorem runprot_calls (h : Ref σ x y s) : ACalls Tryz.prog 63 [ptrA x] σ fun v σ' => v = .tuple [] ∧ σ' = putS rfO σ x y (unprotS s) := by
 rw [unp_eq h.good]
 have hne := h.ne
 have hg := h.good
 have hln := hg.len
 have hnl := s.n_le
 have hst := starts_calls h
 refine aw st63 pl63 70 Tryz.func63 rfl ?_
 simp
 refine callK.of hst ?_
 rintro v τ ⟨p, hp, rfl, eτ⟩
 rw [eτ]
 clear eτ τ
 obtain ⟨p1, p2, p3, p4⟩ := h.fresh hp
 have h1 := h.new hp (intsA (starts s))
 have hsubF : ∀ T, Store.sub (putS rfO σ x y T) (putS rfO (σ.upd p (intsA (starts s))) x y T) := fun T => by
  rw [putS_upd _ _ p3 p4]; exact Store.sub_upd (by simp [putS, p3, p4, hp]) (Store.sub_refl _)
 have hpv : ∀ T, (putS rfO (σ.upd p (intsA (starts s))) x y T) p = some (intsA (starts s)) := fun T => by rw [putS_upd _ _ p3 p4]; simp
 generalize σ.upd p (intsA (starts s)) = σ1 at *
 have hsl : (intsA (starts s)).length = s.n := by simp [starts]
 have hsa := fun i (hi : i < s.n) => starts_at (s := s) hi
 have ho := h1.obj
 have hz : unpA s 0 = s := rfl
 have hRA : ∀ k, Ref (putS rfO σ1 x y (unpA s k)) x y (unpA s k) := fun k => Scr.of_put hne (unpA_keep hg k).same.1
 have hnA : ∀ k, (unpA s k).n = s.n := fun k => (unpA_keep hg k).same.n
 have hsc := unpA_succ s
 have hfA := fun a (hat : attrAt s.cells a = true) k (hk : k ≤ s.n) => fld_unpA hg hat k hk
 have hsta := fun i (hi : i < s.n) (h0 : ¬ startS s.cells i < 0) => start_attr hg hi (fun e => h0 (by omega))
 unfold rfO at ho
 generalize starts s = sts at *
 simp [ho, rowC]
 refine codeK.loop follows (st := st63) (plans := pl63) (X := Nat) (fun k => k ≤ s.n)
  (fun k => [(0, ptrA x), (2, rowC p s.n), (13, .lit (.int .i64 s.n)), (14, .lit (.int .i64 k))]) (fun k => putS rfO σ1 x y (unpA s k)) (fun k => s.n - k) 0 (by kernel_rfl) (by simp) (by simp [rowC]) (by rw [hz, h1.put_self]; exact Store.sub_refl _) fun k hk => ?_
 by_cases hlt : k < s.n
 ·have hw : IntKind.i64.wrap ((k : Int) + 1) = ((k + 1 : Nat) : Int) := wrap_i64 (by omega) (by omega)
  have hpu := rput_calls (hRA k) (k : Int) 0
  simp only [putS_put hne] at hpu
  rw [byteA_lit] at hpu
  have hs1 := hsc k
  have hpk := hpv (unpA s k)
  have hsk := hsa k hlt
  by_cases hc : startS s.cells k < 0
  ·rw [if_pos (by simp [hc])] at hs1
   generalize startS s.cells k = z at *
   simp [rowC, hlt, hpk, hsk, hc]
   refine callK.eq hpu ?_
   simp [hw]
   exact ⟨k + 1, by omega, by omega, by simp, by rw [hs1]; exact Store.sub_refl _⟩
  ·obtain ⟨a, ha, hal, hat⟩ := hsta k hlt hc
   have hfi := rfield_calls (hRA k) a (by rw [hnA]; exact hal)
   rw [show fld ((unpA s k).cells[a]?.getD .zero).fa = fldAt (unpA s k) a from rfl, hfA a hat k (by omega)] at hfi
   rw [ha] at hsk hs1
   simp only [Int.toNat_natCast] at hs1
   have hfa : fldA (fldAt s a) = .agg [.lit (.bool (fldAt s a).prot), .lit (.bool (fldAt s a).num), .lit (.int .i64 (fldAt s a).disp), .lit (.bool (fldAt s a).mod)] := rfl
   rw [hfa] at hfi
   have hneg : ¬ (a : Int) < 0 := by omega
   have hneg' : decide ((a : Int) < 0) = false := decide_eq_false hneg
   rw [hneg'] at hs1
   simp [rowC, hlt, hpk, hsk, hneg]
   refine callK.eq hfi ?_
   cases hpr : (fldAt s a).prot
   ·rw [if_pos (by simp [hpr])] at hs1
    simp
    refine callK.eq hpu ?_
    simp [hw]
    exact ⟨k + 1, by omega, by omega, by simp, by rw [hs1]; exact Store.sub_refl _⟩
   ·rw [if_neg (by simp [hpr])] at hs1
    simp [hw]
    exact ⟨k + 1, by omega, by omega, by simp, by rw [hs1]; exact Store.sub_refl _⟩
 ·obtain rfl : k = s.n := by omega
  have hat := attrs_calls (hRA s.n)
  rw [(unpA_keep hg s.n).attrs hg] at hat
  have hlen : s.attrs.length ≤ s.cells.length := attrs_length s
  have hX0 : unmX s 0 = unpA s s.n := rfl
  have hRX : ∀ k, Ref (putS rfO σ1 x y (unmX s k)) x y (unmX s k) := fun k => Scr.of_put hne (unmX_keep hg k).same.1
  have hkX := unmX_keep hg
  have hXs := unmX_succ s
  have hmem := fun a (ha : a ∈ s.attrs) => attr_mem hg a ha
  have hXall : unmX s s.attrs.length = s.attrs.foldl unm1 (unpA s s.n) := by unfold unmX; rw [List.take_length]
  have hfin : runpS s = (unmX s s.attrs.length).place (max (nextS (unmX s s.attrs.length) (s.n - 1)) 0) := by
   unfold runpS
   rw [hXall, (unpA_keep hg s.n).attrs hg]
  rw [hfin]
  generalize s.attrs = L at *
  simp
  refine callK.eq hat ?_
  simp
  refine codeK.loop follows (st := st63) (plans := pl63) (X := Nat) (fun k => k ≤ L.length)
   (fun k => [(0, ptrA x), (37, .list false 1 (natsA L)), (38, .lit (.int .i64 L.length)), (39, .lit (.int .i64 k))]) (fun k => putS rfO σ1 x y (unmX s k)) (fun k => L.length - k) 0 (by kernel_rfl) (by simp) (by simp) (by rw [hX0]; exact Store.sub_refl _) fun k hk => ?_
  by_cases hlt : k < L.length
  ·have hw : IntKind.i64.wrap ((k : Int) + 1) = ((k + 1 : Nat) : Int) := wrap_i64 (by omega) (by omega)
   obtain ⟨hal, haa⟩ := hmem L[k] (List.getElem_mem hlt)
   have hs1 := hXs k hlt
   have hR := hRX k
   have hXn : (unmX s k).n = s.n := (hkX k).same.n
   have hXg := (hkX k).same.1
   have hcst : ∀ T, putS rfO (putS rfO σ1 x y (unmX s k)) x y T = putS rfO σ1 x y T := fun T => putS_put hne _ _
   generalize hLk : L[k] = a at *
   generalize putS rfO σ1 x y (unmX s k) = ρ at *
   generalize hX2 : unmX s (k + 1) = X2 at *
   generalize unmX s k = X1 at *
   have hfi := rfield_calls hR a (by rw [hXn]; exact hal)
   rw [show fld (X1.cells[a]?.getD .zero).fa = fldAt X1 a from rfl] at hfi
   have hfa : fldA (fldAt X1 a) = .agg [.lit (.bool (fldAt X1 a).prot), .lit (.bool (fldAt X1 a).num), .lit (.int .i64 (fldAt X1 a).disp), .lit (.bool (fldAt X1 a).mod)] := rfl
   rw [hfa] at hfi
   unfold unm1 at hs1
   simp [hlt, hLk]
   refine callK.eq hfi ?_
   cases hpr : (fldAt X1 a).prot
   ·rw [if_neg (by simp [hpr])] at hs1
    have hXl := hXg.len
    have hac : a < X1.cells.length := by omega
    have hgj := cellsO_get hac
    have hce : X1.cells[a] = cellAt X1 a := by unfold cellAt; rw [List.getElem?_eq_getElem hac]; rfl
    have hms : unmod1 X1 a = X1.set (a : Nat) (clr (cellAt X1 a)) := by unfold unmod1; rw [cellAt_at (by omega)]
    rw [hms] at hs1
    have hcx : cellC (cellAt X1 a) = [byteA (cellAt X1 a).char, .lit (.bool (cellAt X1 a).attr), byteA (cellAt X1 a).fa, byteA (cellAt X1 a).high, byteA (cellAt X1 a).color, byteA (cellAt X1 a).set] := rfl
    rw [hce, hcx] at hgj
    have hcl6 := cellsO_length X1.cells
    have hle6 : a * 6 + 6 ≤ (cellsO X1.cells).length := by omega
    have hse1 : ∀ τ, Ref τ x y X1 → ACalls Tryz.prog 58 [ptrA x, .lit (.int .i64 a), .agg [.lit (.int .u8 ((cellAt X1 a).char.toNat : Int)), .lit (.bool (cellAt X1 a).attr), .lit (.int .u8 (((cellAt X1 a).fa &&& 254).toNat : Int)), .lit (.int .u8 ((cellAt X1 a).high.toNat : Int)), .lit (.int .u8 ((cellAt X1 a).color.toNat : Int)), .lit (.int .u8 ((cellAt X1 a).set.toNat : Int))]] τ
      (fun v σ' => v = .tuple [] ∧ σ' = putS rfO τ x y X2) := fun τ hτ => by
     have := rset_calls hτ (a : Int) (clr (cellAt X1 a))
     rw [cellA_eq, ← hs1] at this
     exact this
    have hand : pureBin .and (.int .u8 ((cellAt X1 a).fa.toNat : Int)) (.int .u8 254) = some (.int .u8 (((cellAt X1 a).fa &&& 254).toNat : Int)) := and_u8 (cellAt X1 a).fa 254
    have hox := hR.obj
    have hoy := hR.row
    unfold rfO at hox
    simp only [byteA] at hgj
    generalize (cellAt X1 a).fa &&& 254 = w at *
    generalize cellAt X1 a = cl at *
    simp [-e_pureBin_8, -e_pureBin_9, hox, hoy, rowC, hXn, hal, hle6, hgj, hand]
    intro b hb
    obtain ⟨b1, b2, b3, b4⟩ := hR.fresh hb
    refine callK.eq (hse1 _ (hR.new hb _)) ?_
    simp
    refine ⟨k + 1, by omega, by omega, by rw [hw]; exact AV.le_refl _, ?_⟩
    rw [hX2, putS_upd _ _ b3 b4, hcst]
    refine Store.sub_upd ?_ (Store.sub_refl _)
    rw [← hcst]
    simp [putS, b3, b4, hb]
   ·rw [if_pos hpr] at hs1
    simp [hw]
    exact ⟨k + 1, by omega, by omega, by simp, by rw [hX2, hs1, ← hcst, hR.put_self]; exact Store.sub_refl _⟩
  ·obtain rfl : k = L.length := by omega
   have hR := hRX L.length
   have hXn : (unmX s L.length).n = s.n := (hkX L.length).same.n
   have hXg := (hkX L.length).same.1
   have hcst : ∀ T, putS rfO (putS rfO σ1 x y (unmX s L.length)) x y T = putS rfO σ1 x y T := fun T => putS_put hne _ _
   generalize putS rfO σ1 x y (unmX s L.length) = ρ at *
   generalize unmX s L.length = X1 at *
   have hnx := rnext_calls hR (-1) false
   rw [wrap_neg X1.n_pos] at hnx
   obtain ⟨kk, hkk, hke⟩ := stepN_lt hXg (X1.n - 1) false
   have hke2 : max (nextS X1 (s.n - 1)) 0 = (kk : Int) := by rw [← hXn]; exact hke
   rw [hke2]
   generalize stepN X1 (X1.n - 1) false = z at *
   have hox := hR.obj
   unfold rfO at hox
   have hpl := rfO_place hR hkk
   have hmx : (if z < 0 then (0 : Int) else z) = (kk : Int) := by rw [← hke]; split <;> omega
   simp
   refine callK.eq hnx ?_
   simp [hox, hmx]
   simp only [rowC]
   rw [hpl, hcst]
   exact hsubF _
end Go.Proofs.YtlmdbcgceijlnaaGreat
namespace Go.Proofs.YtlmdbcgceijlnaaGreat
open Go Go.AL Go.Sp
variable {σ : Store} {c x y : Nat} {n : Int} {D : Bd}
theorem setE_good {s : Sp} (h : s.good) (m : Nat) (b : UInt8) : (setE s m b).good := h.set _ _
theorem cellA_cellE (c : Cell) (b : UInt8) : cellA (cellE c b) = .agg [.lit (.int .u8 b.toNat), .lit (.bool c.attr), .lit (.int .u8 c.fa.toNat), .lit (.int .u8 c.high.toNat), .lit (.int .u8 c.color.toNat), .lit (.int .u8 0)] := rfl
theorem insS_cur (s : Sp) (m : Nat) (b : UInt8) : (insS s m b).1.cursor = s.cursor := by
 unfold insS
 split
 ·exact (mod_same _ _).2.2.trans ((put_same _ _ _).2.2.trans (insTo_cur _ _ _ _))
 ·rfl
theorem u8_28 (b : UInt8) : ((b.toNat : Int) = 28) ↔ b = 28 := by
 constructor
 ·intro h
  refine UInt8.toNat_inj.1 ?_
  show b.toNat = 28
  omega
 ·rintro rfl; rfl
theorem insS_stay {s : Sp} {m : Nat} {b : UInt8} (h : (insS s m b).2 = false) : (insS s m b).1 = s := by
 unfold insS at h ⊢
 split at h
 ·cases h
 ·next hh => rw [if_neg hh]
theorem renter_A (h : DOk σ c x y n D) (hn : isPage n) (b : UInt8) (hdi : D.ins = false) : ACalls Tryz.prog 59 [ptrA c, byteA b] σ fun v σ' => v = .tuple [.lit (.bool false), .lit (.int .i64 (enterB n D b).2)] ∧ σ' = dbS σ c x y n (enterB n D b).1 := by
 have ho := h.obj
 have hx := h.ref.obj
 have hg := h.ref.good
 have hne := h.ref.ne
 have hcx := h.cx
 have hcy := h.cy
 have hcn := hg.cursor
 have hop := ropen_calls h.ref hcn
 have hst := rstart_calls h.ref hcn
 have href := fun lock e => rrefuse_calls h lock e
 have hnu := rnumeric_calls hn b σ
 have hin := rinsert_calls h.ref hcn b
 have hins := insS_same hg D.s.cursor b
 have hinc := insS_cur D.s D.s.cursor b
 have hstay := @insS_stay D.s D.s.cursor b
 have hscr := fun s => dbS_scr h s
 unfold rbdO at ho
 unfold rfO at hx
 have hE : enterB n D b = if openS D.s D.s.cursor = false then ({ D with lock := 2 }, 13)
  else if (okF D.s D.s.cursor && (fofF D.s D.s.cursor).num && !(numB n b)) = true then ({ D with lock := 3 }, 14)
  else if (D.ins && !(b == 28)) = true then
   (if (insS D.s D.s.cursor b).2 = false then ({ D with lock := 4 }, 7) else ({ D with s := entS (insS D.s D.s.cursor b).1 D.s.cursor b }, 0))
  else ({ D with s := entS D.s D.s.cursor b }, 0) := rfl
 generalize hm : D.s.cursor = m at *
 have hfl : ∀ a : Nat, startS D.s.cells m = (a : Int) → a < D.s.n → okF D.s m = true ∧ fofF D.s m = fldAt D.s a := fun a ha _ => by
  unfold okF fofF
  rw [ha]
  simp
 have hno : startS D.s.cells m < 0 → okF D.s m = false := fun h0 => by
  unfold okF; exact decide_eq_false (by omega)
 have hsta := fun (h0 : ¬ startS D.s.cells m < 0) => start_attr hg hcn (fun e => h0 (by omega))
 have hfi := fun a (ha : a < D.s.n) => rfield_calls h.ref a ha
 simp only [byteA] at hnu hin
 have hFG : ∀ S, enterB n D b = ({ D with s := S }, 0) → dbS σ c x y n (enterB n D b).1 = putS rfO σ x y S := fun S e => by rw [e]; exact (hscr S).symm
 have hGR0 : ∀ S : Sp, S.good → Ref (putS rfO σ x y S) x y S := fun S hS => Scr.of_put hne hS
 have hGG0 : ∀ S S' : Sp, putS rfO (putS rfO σ x y S) x y S' = putS rfO σ x y S' := fun S S' => putS_put hne _ _
 obtain ⟨F, hF⟩ : ∃ F, F = dbS σ c x y n (enterB n D b).1 := ⟨_, rfl⟩
 rw [← hF] at hFG ⊢
 obtain ⟨e2, he2⟩ : ∃ e2, e2 = (enterB n D b).2 := ⟨_, rfl⟩
 rw [← he2]
 have hFr : ∀ (lock : Int), (enterB n D b).1 = { D with lock := lock } → dbS σ c x y n { D with lock := lock } = F := fun lock e => by rw [hF, e]
 refine aw st59 pl59 94 Tryz.func59 rfl ?_
 simp [ho, hx, byteA]
 refine callK.eq hop ?_
 cases hopn : openS D.s m
 ·rw [hopn, if_pos rfl] at hE
  rw [hE] at he2
  simp
  refine callK.eq (href 2 13) ?_
  rw [hFr 2 (by rw [hE])]
  simp [he2]
 rw [hopn, if_neg (by simp)] at hE
 simp
 refine callK.eq hst ?_
 have hrf := href 3 14
 have hrf3 : (enterB n D b).1 = { D with lock := 3 } → dbS σ c x y n { D with lock := 3 } = F := hFr 3
 have hrg := href 4 7
 by_cases h0 : startS D.s.cells m < 0
 case' pos =>
  have hok := hno h0
  rw [hok, if_neg (by simp)] at hE
  have h0' : ¬ 0 ≤ startS D.s.cells m := by omega
  generalize startS D.s.cells m = zz at *
  simp [h0', ho, hdi]
 case' neg =>
  obtain ⟨a, ha, hal, hat⟩ := hsta h0
  obtain ⟨hok, hff⟩ := hfl a ha hal
  have hfi1 := hfi a hal
  rw [show fld (D.s.cells[a]?.getD .zero).fa = fldAt D.s a from rfl, ← hff] at hfi1
  have hfa : fldA (fofF D.s m) = .agg [.lit (.bool (fofF D.s m).prot), .lit (.bool (fofF D.s m).num), .lit (.int .i64 (fofF D.s m).disp), .lit (.bool (fofF D.s m).mod)] := rfl
  rw [hfa] at hfi1
  rw [hok] at hE
  rw [ha]
  simp
  refine callK.of hfi1 ?_
  rintro v τ ⟨rfl, eτ⟩
  rw [eτ]
  clear eτ τ hfi1 hfa hff hfl
  generalize fofF D.s m = ff at *
  obtain ⟨fp, fn, fd, fm⟩ := ff
  dsimp only at hE ⊢
  cases fn
  case' false =>
   rw [if_neg (by simp)] at hE
   simp [ho, hdi]
  case' true =>
   simp [ho]
   refine callK.eq hnu ?_
   cases hnb : numB n b
   case' true =>
    rw [hnb, if_neg (by simp)] at hE
    simp [ho, hdi]
   case' false =>
    rw [hnb, if_pos (by simp)] at hE
    rw [hE] at he2
    simp
    refine callK.eq hrf ?_
    rw [hrf3 (by rw [hE])]
    simp [he2]
    done
 all_goals
  rw [if_neg (by simp [hdi])] at hE
  rw [hE] at he2
  have hF2 := hFG _ hE
  obtain ⟨G, hps⟩ : ∃ G : Sp → Store, ∀ S, putS rfO σ x y S = G S := ⟨_, fun _ => rfl⟩
  rw [hps] at hF2
  have hrt := h.ref
  have hTn : m < D.s.n := hcn
  generalize D.s = T at hF2 hrt hTn hg
  generalize σ = ρ at hps hrt ⊢
 all_goals
  have hxr := hrt.obj
  have hyr := hrt.row
  have hTl := hg.len
  have hac : m < T.cells.length := by omega
  have hgj := cellsO_get hac
  have hce : T.cells[m] = cellAt T m := by unfold cellAt; rw [List.getElem?_eq_getElem hac]; rfl
  have hcx6 : cellC (cellAt T m) = [byteA (cellAt T m).char, .lit (.bool (cellAt T m).attr), byteA (cellAt T m).fa, byteA (cellAt T m).high, byteA (cellAt T m).color, byteA (cellAt T m).set] := rfl
  rw [hce, hcx6] at hgj
  have hcl6 := cellsO_length T.cells
  have hle6 : m * 6 + 6 ≤ (cellsO T.cells).length := by omega
  have hse : ∀ τ, Ref τ x y T → ACalls Tryz.prog 58 [ptrA x, .lit (.int .i64 m), .agg [.lit (.int .u8 (b.toNat : Int)), .lit (.bool (cellAt T m).attr), .lit (.int .u8 ((cellAt T m).fa.toNat : Int)), .lit (.int .u8 ((cellAt T m).high.toNat : Int)), .lit (.int .u8 ((cellAt T m).color.toNat : Int)), .lit (.int .u8 0)]] τ
    (fun v σ' => v = .tuple [] ∧ σ' = putS rfO τ x y (setE T m b)) := fun τ hτ => by
   have := rset_calls hτ (m : Int) (cellE (cellAt T m) b)
   rw [cellA_cellE] at this
   have e : setE T m b = T.set (m : Int) (cellE (cellAt T m) b) := by unfold setE; rw [cellAt_at hTn]
   rw [e]
   exact this
  have hS1 : (setE T m b).good := setE_good hg m b
  have hS1n : (setE T m b).n = T.n := rfl
  have hS2 := modS_same hS1 m
  have hent : entS T m b = if b = 28 then tabS (modS (setE T m b) m) else afterS (modS (setE T m b) m) := rfl
  unfold rfO at hxr
  simp only [byteA] at hgj
  generalize setE T m b = S1 at *
  generalize cellAt T m = cl at *
  simp [hxr, hyr, rowC, hTn, hle6, hgj]
  intro z hz
  obtain ⟨f1, f2, f3, f4⟩ := hrt.fresh hz
  refine callK.eq (hse _ (hrt.new hz _)) ?_
  have hGz : ∀ S, G S z = none := fun S => by rw [← hps]; simp [putS, f3, f4, hz]
  have hGR : ∀ S : Sp, S.good → Ref (G S) x y S := fun S hS => by rw [← hps]; exact Scr.of_put hne hS
  have hGG : ∀ S S', putS rfO (G S) x y S' = G S' := fun S S' => by rw [← hps, ← hps, putS_put hne]
  rw [putS_upd _ _ f3 f4, hps]
  generalize [AV.lit (.int .u8 (b.toNat : Int)), .lit (.bool cl.attr), .lit (.int .u8 (cl.fa.toNat : Int)), .lit (.int .u8 (cl.high.toNat : Int)), .lit (.int .u8 (cl.color.toNat : Int)), .lit (.int .u8 0)] = W at *
  have hmo := rmodify_calls ((hGR S1 hS1).new (hGz S1) W) (i := m) (by rw [hS1n]; exact hTn)
  rw [putS_upd _ _ f3 f4, hGG] at hmo
  generalize modS S1 m = S2 at *
  simp
  refine callK.eq hmo ?_
  have hR2 := (hGR S2 hS2.1).new (hGz S2) W
  by_cases hb1 : b = 28
  ·have ht : ACalls Tryz.prog 60 [ptrA x, .agg [.lit (.int .u8 0), .lit (.int .i64 0), .lit (.int .i64 0)]] ((G S2).upd z W) (fun v σ' => v = .tuple [] ∧ σ' = putS rfO ((G S2).upd z W) x y (tabS S2)) := rdo_tab hR2 0 0 false
   rw [putS_upd _ _ f3 f4, hGG] at ht
   rw [if_pos hb1] at hent
   simp [hb1]
   refine callK.eq ht ?_
   rw [hF2, hent]
   simp [he2]
   exact Store.sub_upd (hGz _) (Store.sub_refl _)
  ·have ht := rdo_after hR2 0 0
   rw [putS_upd _ _ f3 f4, hGG] at ht
   rw [if_neg hb1] at hent
   have hb2 : ¬ (b.toNat : Int) = 28 := fun e => hb1 ((u8_28 b).1 e)
   have hb3 : ¬ b.toNat = 28 := fun e => hb1 (UInt8.toNat_inj.1 e)
   simp [hb2, hb3]
   refine callK.eq ht ?_
   rw [hF2, hent]
   simp [he2]
   exact Store.sub_upd (hGz _) (Store.sub_refl _)
theorem renter_B (h : DOk σ c x y n D) (hn : isPage n) (b : UInt8) (hdi : D.ins = true) (hbq : b = 28) : ACalls Tryz.prog 59 [ptrA c, byteA b] σ fun v σ' => v = .tuple [.lit (.bool false), .lit (.int .i64 (enterB n D b).2)] ∧ σ' = dbS σ c x y n (enterB n D b).1 := by
 have ho := h.obj
 have hx := h.ref.obj
 have hg := h.ref.good
 have hne := h.ref.ne
 have hcx := h.cx
 have hcy := h.cy
 have hcn := hg.cursor
 have hop := ropen_calls h.ref hcn
 have hst := rstart_calls h.ref hcn
 have href := fun lock e => rrefuse_calls h lock e
 have hnu := rnumeric_calls hn b σ
 have hin := rinsert_calls h.ref hcn b
 have hins := insS_same hg D.s.cursor b
 have hinc := insS_cur D.s D.s.cursor b
 have hstay := @insS_stay D.s D.s.cursor b
 have hscr := fun s => dbS_scr h s
 unfold rbdO at ho
 unfold rfO at hx
 have hE : enterB n D b = if openS D.s D.s.cursor = false then ({ D with lock := 2 }, 13)
  else if (okF D.s D.s.cursor && (fofF D.s D.s.cursor).num && !(numB n b)) = true then ({ D with lock := 3 }, 14)
  else if (D.ins && !(b == 28)) = true then
   (if (insS D.s D.s.cursor b).2 = false then ({ D with lock := 4 }, 7) else ({ D with s := entS (insS D.s D.s.cursor b).1 D.s.cursor b }, 0))
  else ({ D with s := entS D.s D.s.cursor b }, 0) := rfl
 generalize hm : D.s.cursor = m at *
 have hP : ((b.toNat : Int) = 28) = True := eq_true ((u8_28 b).2 hbq)
 have hfl : ∀ a : Nat, startS D.s.cells m = (a : Int) → a < D.s.n → okF D.s m = true ∧ fofF D.s m = fldAt D.s a := fun a ha _ => by
  unfold okF fofF
  rw [ha]
  simp
 have hno : startS D.s.cells m < 0 → okF D.s m = false := fun h0 => by
  unfold okF; exact decide_eq_false (by omega)
 have hsta := fun (h0 : ¬ startS D.s.cells m < 0) => start_attr hg hcn (fun e => h0 (by omega))
 have hfi := fun a (ha : a < D.s.n) => rfield_calls h.ref a ha
 simp only [byteA] at hnu hin
 have hFG : ∀ S, enterB n D b = ({ D with s := S }, 0) → dbS σ c x y n (enterB n D b).1 = putS rfO σ x y S := fun S e => by rw [e]; exact (hscr S).symm
 have hGR0 : ∀ S : Sp, S.good → Ref (putS rfO σ x y S) x y S := fun S hS => Scr.of_put hne hS
 have hGG0 : ∀ S S' : Sp, putS rfO (putS rfO σ x y S) x y S' = putS rfO σ x y S' := fun S S' => putS_put hne _ _
 obtain ⟨F, hF⟩ : ∃ F, F = dbS σ c x y n (enterB n D b).1 := ⟨_, rfl⟩
 rw [← hF] at hFG ⊢
 obtain ⟨e2, he2⟩ : ∃ e2, e2 = (enterB n D b).2 := ⟨_, rfl⟩
 rw [← he2]
 have hFr : ∀ (lock : Int), (enterB n D b).1 = { D with lock := lock } → dbS σ c x y n { D with lock := lock } = F := fun lock e => by rw [hF, e]
 refine aw st59 pl59 94 Tryz.func59 rfl ?_
 simp [ho, hx, byteA]
 refine callK.eq hop ?_
 cases hopn : openS D.s m
 ·rw [hopn, if_pos rfl] at hE
  rw [hE] at he2
  simp
  refine callK.eq (href 2 13) ?_
  rw [hFr 2 (by rw [hE])]
  simp [he2]
 rw [hopn, if_neg (by simp)] at hE
 simp
 refine callK.eq hst ?_
 have hrf := href 3 14
 have hrf3 : (enterB n D b).1 = { D with lock := 3 } → dbS σ c x y n { D with lock := 3 } = F := hFr 3
 have hrg := href 4 7
 by_cases h0 : startS D.s.cells m < 0
 case' pos =>
  have hok := hno h0
  rw [hok, if_neg (by simp)] at hE
  have h0' : ¬ 0 ≤ startS D.s.cells m := by omega
  generalize startS D.s.cells m = zz at *
  simp [h0', ho, hdi, hP]
 case' neg =>
  obtain ⟨a, ha, hal, hat⟩ := hsta h0
  obtain ⟨hok, hff⟩ := hfl a ha hal
  have hfi1 := hfi a hal
  rw [show fld (D.s.cells[a]?.getD .zero).fa = fldAt D.s a from rfl, ← hff] at hfi1
  have hfa : fldA (fofF D.s m) = .agg [.lit (.bool (fofF D.s m).prot), .lit (.bool (fofF D.s m).num), .lit (.int .i64 (fofF D.s m).disp), .lit (.bool (fofF D.s m).mod)] := rfl
  rw [hfa] at hfi1
  rw [hok] at hE
  rw [ha]
  simp
  refine callK.of hfi1 ?_
  rintro v τ ⟨rfl, eτ⟩
  rw [eτ]
  clear eτ τ hfi1 hfa hff hfl
  generalize fofF D.s m = ff at *
  obtain ⟨fp, fn, fd, fm⟩ := ff
  dsimp only at hE ⊢
  cases fn
  case' false =>
   rw [if_neg (by simp)] at hE
   simp [ho, hdi, hP]
  case' true =>
   simp [ho]
   refine callK.eq hnu ?_
   cases hnb : numB n b
   case' true =>
    rw [hnb, if_neg (by simp)] at hE
    simp [ho, hdi, hP]
   case' false =>
    rw [hnb, if_pos (by simp)] at hE
    rw [hE] at he2
    simp
    refine callK.eq hrf ?_
    rw [hrf3 (by rw [hE])]
    simp [he2]
    done
 all_goals
  rw [if_neg (by simp [hbq])] at hE
  rw [hE] at he2
  have hF2 := hFG _ hE
  obtain ⟨G, hps⟩ : ∃ G : Sp → Store, ∀ S, putS rfO σ x y S = G S := ⟨_, fun _ => rfl⟩
  rw [hps] at hF2
  have hrt := h.ref
  have hTn : m < D.s.n := hcn
  generalize D.s = T at hF2 hrt hTn hg
  generalize σ = ρ at hps hrt ⊢
 all_goals
  have hxr := hrt.obj
  have hyr := hrt.row
  have hTl := hg.len
  have hac : m < T.cells.length := by omega
  have hgj := cellsO_get hac
  have hce : T.cells[m] = cellAt T m := by unfold cellAt; rw [List.getElem?_eq_getElem hac]; rfl
  have hcx6 : cellC (cellAt T m) = [byteA (cellAt T m).char, .lit (.bool (cellAt T m).attr), byteA (cellAt T m).fa, byteA (cellAt T m).high, byteA (cellAt T m).color, byteA (cellAt T m).set] := rfl
  rw [hce, hcx6] at hgj
  have hcl6 := cellsO_length T.cells
  have hle6 : m * 6 + 6 ≤ (cellsO T.cells).length := by omega
  have hse : ∀ τ, Ref τ x y T → ACalls Tryz.prog 58 [ptrA x, .lit (.int .i64 m), .agg [.lit (.int .u8 (b.toNat : Int)), .lit (.bool (cellAt T m).attr), .lit (.int .u8 ((cellAt T m).fa.toNat : Int)), .lit (.int .u8 ((cellAt T m).high.toNat : Int)), .lit (.int .u8 ((cellAt T m).color.toNat : Int)), .lit (.int .u8 0)]] τ
    (fun v σ' => v = .tuple [] ∧ σ' = putS rfO τ x y (setE T m b)) := fun τ hτ => by
   have := rset_calls hτ (m : Int) (cellE (cellAt T m) b)
   rw [cellA_cellE] at this
   have e : setE T m b = T.set (m : Int) (cellE (cellAt T m) b) := by unfold setE; rw [cellAt_at hTn]
   rw [e]
   exact this
  have hS1 : (setE T m b).good := setE_good hg m b
  have hS1n : (setE T m b).n = T.n := rfl
  have hS2 := modS_same hS1 m
  have hent : entS T m b = if b = 28 then tabS (modS (setE T m b) m) else afterS (modS (setE T m b) m) := rfl
  unfold rfO at hxr
  simp only [byteA] at hgj
  generalize setE T m b = S1 at *
  generalize cellAt T m = cl at *
  simp [hxr, hyr, rowC, hTn, hle6, hgj]
  intro z hz
  obtain ⟨f1, f2, f3, f4⟩ := hrt.fresh hz
  refine callK.eq (hse _ (hrt.new hz _)) ?_
  have hGz : ∀ S, G S z = none := fun S => by rw [← hps]; simp [putS, f3, f4, hz]
  have hGR : ∀ S : Sp, S.good → Ref (G S) x y S := fun S hS => by rw [← hps]; exact Scr.of_put hne hS
  have hGG : ∀ S S', putS rfO (G S) x y S' = G S' := fun S S' => by rw [← hps, ← hps, putS_put hne]
  rw [putS_upd _ _ f3 f4, hps]
  generalize [AV.lit (.int .u8 (b.toNat : Int)), .lit (.bool cl.attr), .lit (.int .u8 (cl.fa.toNat : Int)), .lit (.int .u8 (cl.high.toNat : Int)), .lit (.int .u8 (cl.color.toNat : Int)), .lit (.int .u8 0)] = W at *
  have hmo := rmodify_calls ((hGR S1 hS1).new (hGz S1) W) (i := m) (by rw [hS1n]; exact hTn)
  rw [putS_upd _ _ f3 f4, hGG] at hmo
  generalize modS S1 m = S2 at *
  simp
  refine callK.eq hmo ?_
  have hR2 := (hGR S2 hS2.1).new (hGz S2) W
  by_cases hb1 : b = 28
  ·have ht : ACalls Tryz.prog 60 [ptrA x, .agg [.lit (.int .u8 0), .lit (.int .i64 0), .lit (.int .i64 0)]] ((G S2).upd z W) (fun v σ' => v = .tuple [] ∧ σ' = putS rfO ((G S2).upd z W) x y (tabS S2)) := rdo_tab hR2 0 0 false
   rw [putS_upd _ _ f3 f4, hGG] at ht
   rw [if_pos hb1] at hent
   simp [hb1]
   refine callK.eq ht ?_
   rw [hF2, hent]
   simp [he2]
   exact Store.sub_upd (hGz _) (Store.sub_refl _)
  ·have ht := rdo_after hR2 0 0
   rw [putS_upd _ _ f3 f4, hGG] at ht
   rw [if_neg hb1] at hent
   have hb2 : ¬ (b.toNat : Int) = 28 := fun e => hb1 ((u8_28 b).1 e)
   have hb3 : ¬ b.toNat = 28 := fun e => hb1 (UInt8.toNat_inj.1 e)
   simp [hb2, hb3]
   refine callK.eq ht ?_
   rw [hF2, hent]
   simp [he2]
   exact Store.sub_upd (hGz _) (Store.sub_refl _)
theorem renter_C (h : DOk σ c x y n D) (hn : isPage n) (b : UInt8) (hdi : D.ins = true) (hbq : ¬ b = 28) : ACalls Tryz.prog 59 [ptrA c, byteA b] σ fun v σ' => v = .tuple [.lit (.bool false), .lit (.int .i64 (enterB n D b).2)] ∧ σ' = dbS σ c x y n (enterB n D b).1 := by
 have ho := h.obj
 have hx := h.ref.obj
 have hg := h.ref.good
 have hne := h.ref.ne
 have hcx := h.cx
 have hcy := h.cy
 have hcn := hg.cursor
 have hop := ropen_calls h.ref hcn
 have hst := rstart_calls h.ref hcn
 have href := fun lock e => rrefuse_calls h lock e
 have hnu := rnumeric_calls hn b σ
 have hin := rinsert_calls h.ref hcn b
 have hins := insS_same hg D.s.cursor b
 have hinc := insS_cur D.s D.s.cursor b
 have hstay := @insS_stay D.s D.s.cursor b
 have hscr := fun s => dbS_scr h s
 unfold rbdO at ho
 unfold rfO at hx
 have hE : enterB n D b = if openS D.s D.s.cursor = false then ({ D with lock := 2 }, 13)
  else if (okF D.s D.s.cursor && (fofF D.s D.s.cursor).num && !(numB n b)) = true then ({ D with lock := 3 }, 14)
  else if (D.ins && !(b == 28)) = true then
   (if (insS D.s D.s.cursor b).2 = false then ({ D with lock := 4 }, 7) else ({ D with s := entS (insS D.s D.s.cursor b).1 D.s.cursor b }, 0))
  else ({ D with s := entS D.s D.s.cursor b }, 0) := rfl
 generalize hm : D.s.cursor = m at *
 have hP : ((b.toNat : Int) = 28) = False := eq_false fun e => hbq ((u8_28 b).1 e)
 have hfl : ∀ a : Nat, startS D.s.cells m = (a : Int) → a < D.s.n → okF D.s m = true ∧ fofF D.s m = fldAt D.s a := fun a ha _ => by
  unfold okF fofF
  rw [ha]
  simp
 have hno : startS D.s.cells m < 0 → okF D.s m = false := fun h0 => by
  unfold okF; exact decide_eq_false (by omega)
 have hsta := fun (h0 : ¬ startS D.s.cells m < 0) => start_attr hg hcn (fun e => h0 (by omega))
 have hfi := fun a (ha : a < D.s.n) => rfield_calls h.ref a ha
 simp only [byteA] at hnu hin
 have hFG : ∀ S, enterB n D b = ({ D with s := S }, 0) → dbS σ c x y n (enterB n D b).1 = putS rfO σ x y S := fun S e => by rw [e]; exact (hscr S).symm
 have hGR0 : ∀ S : Sp, S.good → Ref (putS rfO σ x y S) x y S := fun S hS => Scr.of_put hne hS
 have hGG0 : ∀ S S' : Sp, putS rfO (putS rfO σ x y S) x y S' = putS rfO σ x y S' := fun S S' => putS_put hne _ _
 obtain ⟨F, hF⟩ : ∃ F, F = dbS σ c x y n (enterB n D b).1 := ⟨_, rfl⟩
 rw [← hF] at hFG ⊢
 obtain ⟨e2, he2⟩ : ∃ e2, e2 = (enterB n D b).2 := ⟨_, rfl⟩
 rw [← he2]
 have hFr : ∀ (lock : Int), (enterB n D b).1 = { D with lock := lock } → dbS σ c x y n { D with lock := lock } = F := fun lock e => by rw [hF, e]
 refine aw st59 pl59 94 Tryz.func59 rfl ?_
 simp [ho, hx, byteA]
 refine callK.eq hop ?_
 cases hopn : openS D.s m
 ·rw [hopn, if_pos rfl] at hE
  rw [hE] at he2
  simp
  refine callK.eq (href 2 13) ?_
  rw [hFr 2 (by rw [hE])]
  simp [he2]
 rw [hopn, if_neg (by simp)] at hE
 simp
 refine callK.eq hst ?_
 have hrf := href 3 14
 have hrf3 : (enterB n D b).1 = { D with lock := 3 } → dbS σ c x y n { D with lock := 3 } = F := hFr 3
 have hrg := href 4 7
 by_cases h0 : startS D.s.cells m < 0
 case' pos =>
  have hok := hno h0
  rw [hok, if_neg (by simp)] at hE
  have h0' : ¬ 0 ≤ startS D.s.cells m := by omega
  generalize startS D.s.cells m = zz at *
  simp [h0', ho, hdi, hP]
 case' neg =>
  obtain ⟨a, ha, hal, hat⟩ := hsta h0
  obtain ⟨hok, hff⟩ := hfl a ha hal
  have hfi1 := hfi a hal
  rw [show fld (D.s.cells[a]?.getD .zero).fa = fldAt D.s a from rfl, ← hff] at hfi1
  have hfa : fldA (fofF D.s m) = .agg [.lit (.bool (fofF D.s m).prot), .lit (.bool (fofF D.s m).num), .lit (.int .i64 (fofF D.s m).disp), .lit (.bool (fofF D.s m).mod)] := rfl
  rw [hfa] at hfi1
  rw [hok] at hE
  rw [ha]
  simp
  refine callK.of hfi1 ?_
  rintro v τ ⟨rfl, eτ⟩
  rw [eτ]
  clear eτ τ hfi1 hfa hff hfl
  generalize fofF D.s m = ff at *
  obtain ⟨fp, fn, fd, fm⟩ := ff
  dsimp only at hE ⊢
  cases fn
  case' false =>
   rw [if_neg (by simp)] at hE
   simp [ho, hdi, hP]
  case' true =>
   simp [ho]
   refine callK.eq hnu ?_
   cases hnb : numB n b
   case' true =>
    rw [hnb, if_neg (by simp)] at hE
    simp [ho, hdi, hP]
   case' false =>
    rw [hnb, if_pos (by simp)] at hE
    rw [hE] at he2
    simp
    refine callK.eq hrf ?_
    rw [hrf3 (by rw [hE])]
    simp [he2]
    done
 all_goals
  rw [if_pos (by simp [hdi, hbq])] at hE
  refine callK.eq hin ?_
  cases hi2 : (insS D.s m b).2
  case' false =>
   rw [hi2, if_pos rfl] at hE
   have hi1 := hstay hi2
   rw [hE] at he2
   simp [hP]
   rw [hi1, h.ref.put_self]
   refine callK.eq hrg ?_
   rw [hFr 4 (by rw [hE])]
   simp [he2]
   done
  case' true =>
   rw [hi2, if_neg (by simp)] at hE
   rw [hE] at he2
   have hF2 := hFG _ hE
   obtain ⟨G, hG⟩ : ∃ G : Sp → Store, ∀ S, putS rfO σ x y S = G S := ⟨_, fun _ => rfl⟩
   have hps : ∀ S, putS rfO (putS rfO σ x y (insS D.s m b).1) x y S = G S := fun S => (hGG0 _ S).trans (hG S)
   rw [hG] at hF2
   have hTn : m < (insS D.s m b).1.n := by rw [hins.n]; exact hcn
   have hrt := hGR0 _ hins.1
   have hg := hins.1
   simp [hP]
   clear hin hins hinc hE hstay hFG hG
   generalize (insS D.s m b).1 = T at *
   generalize putS rfO σ x y T = ρ at hps hrt ⊢
 all_goals
  have hxr := hrt.obj
  have hyr := hrt.row
  have hTl := hg.len
  have hac : m < T.cells.length := by omega
  have hgj := cellsO_get hac
  have hce : T.cells[m] = cellAt T m := by unfold cellAt; rw [List.getElem?_eq_getElem hac]; rfl
  have hcx6 : cellC (cellAt T m) = [byteA (cellAt T m).char, .lit (.bool (cellAt T m).attr), byteA (cellAt T m).fa, byteA (cellAt T m).high, byteA (cellAt T m).color, byteA (cellAt T m).set] := rfl
  rw [hce, hcx6] at hgj
  have hcl6 := cellsO_length T.cells
  have hle6 : m * 6 + 6 ≤ (cellsO T.cells).length := by omega
  have hse : ∀ τ, Ref τ x y T → ACalls Tryz.prog 58 [ptrA x, .lit (.int .i64 m), .agg [.lit (.int .u8 (b.toNat : Int)), .lit (.bool (cellAt T m).attr), .lit (.int .u8 ((cellAt T m).fa.toNat : Int)), .lit (.int .u8 ((cellAt T m).high.toNat : Int)), .lit (.int .u8 ((cellAt T m).color.toNat : Int)), .lit (.int .u8 0)]] τ
    (fun v σ' => v = .tuple [] ∧ σ' = putS rfO τ x y (setE T m b)) := fun τ hτ => by
   have := rset_calls hτ (m : Int) (cellE (cellAt T m) b)
   rw [cellA_cellE] at this
   have e : setE T m b = T.set (m : Int) (cellE (cellAt T m) b) := by unfold setE; rw [cellAt_at hTn]
   rw [e]
   exact this
  have hS1 : (setE T m b).good := setE_good hg m b
  have hS1n : (setE T m b).n = T.n := rfl
  have hS2 := modS_same hS1 m
  have hent : entS T m b = if b = 28 then tabS (modS (setE T m b) m) else afterS (modS (setE T m b) m) := rfl
  unfold rfO at hxr
  simp only [byteA] at hgj
  generalize setE T m b = S1 at *
  generalize cellAt T m = cl at *
  simp [hxr, hyr, rowC, hTn, hle6, hgj]
  intro z hz
  obtain ⟨f1, f2, f3, f4⟩ := hrt.fresh hz
  refine callK.eq (hse _ (hrt.new hz _)) ?_
  have hGz : ∀ S, G S z = none := fun S => by rw [← hps]; simp [putS, f3, f4, hz]
  have hGR : ∀ S : Sp, S.good → Ref (G S) x y S := fun S hS => by rw [← hps]; exact Scr.of_put hne hS
  have hGG : ∀ S S', putS rfO (G S) x y S' = G S' := fun S S' => by rw [← hps, ← hps, putS_put hne]
  rw [putS_upd _ _ f3 f4, hps]
  generalize [AV.lit (.int .u8 (b.toNat : Int)), .lit (.bool cl.attr), .lit (.int .u8 (cl.fa.toNat : Int)), .lit (.int .u8 (cl.high.toNat : Int)), .lit (.int .u8 (cl.color.toNat : Int)), .lit (.int .u8 0)] = W at *
  have hmo := rmodify_calls ((hGR S1 hS1).new (hGz S1) W) (i := m) (by rw [hS1n]; exact hTn)
  rw [putS_upd _ _ f3 f4, hGG] at hmo
  generalize modS S1 m = S2 at *
  simp
  refine callK.eq hmo ?_
  have hR2 := (hGR S2 hS2.1).new (hGz S2) W
  by_cases hb1 : b = 28
  ·have ht : ACalls Tryz.prog 60 [ptrA x, .agg [.lit (.int .u8 0), .lit (.int .i64 0), .lit (.int .i64 0)]] ((G S2).upd z W) (fun v σ' => v = .tuple [] ∧ σ' = putS rfO ((G S2).upd z W) x y (tabS S2)) := rdo_tab hR2 0 0 false
   rw [putS_upd _ _ f3 f4, hGG] at ht
   rw [if_pos hb1] at hent
   simp [hb1]
   refine callK.eq ht ?_
   rw [hF2, hent]
   simp [he2]
   exact Store.sub_upd (hGz _) (Store.sub_refl _)
  ·have ht := rdo_after hR2 0 0
   rw [putS_upd _ _ f3 f4, hGG] at ht
   rw [if_neg hb1] at hent
   have hb2 : ¬ (b.toNat : Int) = 28 := fun e => hb1 ((u8_28 b).1 e)
   have hb3 : ¬ b.toNat = 28 := fun e => hb1 (UInt8.toNat_inj.1 e)
   simp [hb2, hb3]
   refine callK.eq ht ?_
   rw [hF2, hent]
   simp [he2]
   exact Store.sub_upd (hGz _) (Store.sub_refl _)
theorem renter_calls (h : DOk σ c x y n D) (hn : isPage n) (b : UInt8) : ACalls Tryz.prog 59 [ptrA c, byteA b] σ fun v σ' => v = .tuple [.lit (.bool false), .lit (.int .i64 (enterB n D b).2)] ∧ σ' = dbS σ c x y n (enterB n D b).1 := by
 cases hdi : D.ins
 ·exact renter_A h hn b hdi
 ·by_cases hb : b = 28
  ·exact renter_B h hn b hdi hb
  ·exact renter_C h hn b hdi hb
end Go.Proofs.YtlmdbcgceijlnaaGreat
