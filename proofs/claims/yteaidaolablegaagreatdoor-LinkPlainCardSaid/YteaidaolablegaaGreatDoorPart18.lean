/-
  One lot of bytes: all that is told may be told.
-/
import Derived.Test.YteaidaolablegaaGreatDoorPart17
import Derived.Test.YteaidaolablegaaGreatDoorRows
import Derived.Lay
import Derived.LaidMore
namespace Go.Proofs.YteaidaolablegaaGreatDoor
open Go Go.AL

set_option maxRecDepth 8000 in
set_option maxHeartbeats 8000000 in
theorem agr_calls (kb : Bk) (hk : kb.Ok) (L : Lk) (a b o : Bool) (n : Nat) (p : List UInt8) (hn : n + 2 * p.length ≤ 8000) (hL : LkOk L n) (hmode : L.mode = L.modeNow) (σ : Store) (h : LkAt kb L a b σ) :
    ACalls Tryz.prog 10 [ptrA kb.l, .list o 1 (bytesA p)] σ fun v σ' => v = .lit (.bool true) ∧ LkTo kb (L.all p) σ σ' := by
  have hroom := fed_room hL p (by omega)
  obtain ⟨f1, f2, f3, f4⟩ := fed_b hL.rd p
  generalize hT : (L.fed p).tlr (L.rd.fed p) = T at *
  have hit := fun τ => iter_calls kb false p τ
  refine ACalls.of_awpY follows (st := st10) (plans := pl10) (n := 74) Tryz.func10 rfl (by kernel_rfl) (by kernel_rfl) (by kernel_rfl) ?_
  simp
  intro q hq q4 hq4
  rw [ite_none] at hq4
  obtain ⟨hq4q, hq4⟩ := hq4
  have hqq4 : ¬ q = q4 := fun e => hq4q e.symm
  simp [hqq4]
  refine callK.of (hit _) ?_
  rintro v σ1 ⟨c1, c2, hc1, hc2, hcc, rfl, rfl⟩
  rw [supd_apply, ite_none, supd_apply, ite_none] at hc1 hc2
  obtain ⟨hc14, hc1q, hc1⟩ := hc1
  obtain ⟨hc24, hc2q, hc2⟩ := hc2
  have hnq := h.ne hq
  have hnq4 := h.ne hq4
  have hcc' : ¬ c2 = c1 := fun e => hcc e.symm
  have g1 : ¬ q = c1 := fun e => hc1q e.symm
  have g2 : ¬ q = c2 := fun e => hc2q e.symm
  have g3 : ¬ q4 = c1 := fun e => hc14 e.symm
  have g4 : ¬ q4 = c2 := fun e => hc24 e.symm
  obtain ⟨W, hW⟩ : ∃ W, W = (((σ.upd q [ptrA kb.l]).upd q4 [.lit (.bool false)]).upd c1 [ptrA kb.l]).upd c2 [.list false 1 (bytesA p)] := ⟨_, rfl⟩
  have hWat : LkAt kb L a b W := by
    rw [hW]
    refine (((h.other hq _).other (by simp [hq4q, hq4]) _).other (by simp [hc14, hc1q, hc1]) _).other (by simp [hc24, hc2q, hc2, hcc']) _
  have hWσ : Store.sub σ W := by rw [hW]; intro x; simp only [supd_apply]; repeat' split
                                 all_goals first | (right; rfl) | (left; simp [*])
  have hW1 : W c1 = some [ptrA kb.l] := by rw [hW]; simp [hcc]
  have hW2 : W c2 = some [.list false 1 (bytesA p)] := by rw [hW]; simp
  have hWq : W q = some [ptrA kb.l] := by rw [hW]; simp [g1, g2, hqq4]
  have hWq4 : W q4 = some [.lit (.bool false)] := by rw [hW]; simp [g3, g4]
  have hWe : ((((σ.upd q [.lit (.pointer (some ⟨kb.l, 0, none⟩))]).upd q4 [.lit (.bool false)]).upd c1 [ptrA kb.l]).upd c2 [.list false 1 (bytesA p)]) = W := hW.symm
  clear hW
  simp only [hWe]
  have hPq : ∀ L' a b, (putL kb L' a b W) q = some [ptrA kb.l] := fun L' a b => putL_c1 hWat hWq L' a b
  have hPq4 : ∀ L' a b, (putL kb L' a b W) q4 = some [.lit (.bool false)] := fun L' a b => putL_c1 hWat hWq4 L' a b
  have hP0 : PreL kb c1 c2 false p T 0 (L, .none) W := ⟨⟨a, b, hWat⟩, hW1, hW2, hT, hroom, by simp, (fun r h => by cases h), (by rw [hL.rd.out]; simp), (by rw [hL.rd.data]; simp), Nat.le_trans hL.rd.sub (by omega)⟩
  simp
  refine codeYK.rangeL follows (st := st10) (plans := pl10) (take_iter kb hk c1 c2 false p (by omega) T W) (by simp) (by simp) ?_ (by kernel_rfl) (by kernel_rfl) (by kernel_rfl)
    (fun k g τ _ => k ≤ T.length ∧ PreL kb c1 c2 false p T k g τ ∧ (g.now p).fin (g.rest p) = L.all p ∧ (g.now p).rd = L.rd.after p ∧ (g.now p).mode = (g.now p).modeNow ∧ ∃ f : Fl, τ = putL kb g.1 f.a f.b W)
    (fun k g τ _ => k ≤ T.length ∧ (∃ τ0, PreL kb c1 c2 false p T k g τ0) ∧ (g.now p).fin (g.rest p) = L.all p ∧ (g.now p).rd = L.rd.after p ∧ (g.now p).mode = (g.now p).modeNow ∧ ∃ f : Fl, τ = putL kb ((g.now p).adv (g.rest p)) f.a f.b W)
    (fun _ _ _ => False) (L, .none) W ⟨Nat.zero_le _, hP0, rfl, rfl, hmode, ⟨a, b⟩, (putL_self hWat).symm⟩ (Store.sub_refl _) ?_ ?_ ?_ ?_ ?_
  · intro k hk1
    rw [argL_some (List.getElem?_eq_getElem hk1)]; rfl
  · rintro k g τ E _ ⟨_, h1, _⟩
    exact h1
  · rintro k g τ τ' E hkn ⟨h0, h1, h2, h3, h3', f, rfl⟩ ⟨a', b', rfl⟩
    exact ⟨h0, ⟨_, h1⟩, h2, h3, h3', ⟨a', b'⟩, putL_putL ..⟩
  · rintro k g hk1 τ E ⟨h0, ⟨τ0, h1⟩, h2, h3, h3', f, rfl⟩
    have hTd := List.drop_eq_getElem_cons hk1
    obtain ⟨x, hx⟩ : ∃ x, T[k] = x := ⟨_, rfl⟩
    have htold := h1.told
    rw [hTd, hx] at htold
    obtain ⟨q1, q2, q3, q4'⟩ := adv_cons htold h1.room
    obtain ⟨m1, m2⟩ := adv_mode htold h3'
    rw [argL_some (x := x) (by rw [List.getElem?_eq_getElem hk1, hx])]
    have hTk : T[k]? = some x := by rw [List.getElem?_eq_getElem hk1, hx]
    have hnext : ∃ g' : LG, k + 1 ≤ T.length ∧ PreL kb c1 c2 false p T (k + 1) g' (putL kb ((g.now p).adv (g.rest p)) f.a f.b W) ∧ (g'.now p).fin (g'.rest p) = L.all p ∧ (g'.now p).rd = L.rd.after p ∧ (g'.now p).mode = (g'.now p).modeNow ∧ ∃ f' : Fl, putL kb ((g.now p).adv (g.rest p)) f.a f.b W = putL kb g'.1 f'.a f'.b W :=
      ⟨((g.now p).adv (g.rest p), some x.2), hk1, ⟨⟨f.a, f.b, putL_at hk ..⟩, putL_c1 hWat hW1 .., putL_c1 hWat hW2 .., q1, q2, by simp, fun r hr => ⟨x.1, by cases hr; rw [Nat.add_sub_cancel]; exact hTk⟩, by
        show ((g.now p).adv (g.rest p)).rd.out.length ≤ 100 ∧ ((g.now p).adv (g.rest p)).rd.data.length ≤ 100000 ∧ ((g.now p).adv (g.rest p)).rd.sub.length ≤ 100000
        rw [q4', h3]
        exact ⟨by rw [f4.out]; simp, by rw [f4.data]; simp, Nat.le_trans f4.sub (by omega)⟩⟩, q3.trans h2, q4'.trans h3, m1, f, rfl⟩
    generalize (g.now p).adv (g.rest p) = L2 at *
    have hat2 := putL_at hk L2 f.a f.b W
    have hPq2 := hPq L2 f.a f.b
    have hPq42 := hPq4 L2 f.a f.b
    clear hPq hPq4 hWσ h1 h3' hT hroom hL htold q1 q2 q3 m1
    generalize putL kb L2 f.a f.b W = W2 at *
    obtain ⟨⟨xk, xd, ⟨ty, req, resp, seq⟩, xh⟩, xr⟩ := x
    simp [leA, hdL, byteA]
    intro r hr
    have hat3 := hat2.other hr [.lit (.int .i64 xk), .list false 1 (bytesA xd), .lit (.int .u8 ty.toNat), .lit (.int .u8 req.toNat), .lit (.int .u8 resp.toNat), .lit (.int .u16 seq), .lit (.bool xh)]
    have hrq : ¬ q = r := fun e => by rw [← e, hPq2] at hr; cases hr
    have hrq4 : ¬ q4 = r := fun e => by rw [← e, hPq42] at hr; cases hr
    have ho := loptions_calls kb L2 f.a f.b _ hat3
    simp [hrq, hrq4, hPq2, hPq42]
    refine callK.of ho ?_
    rintro v σ1 ⟨rfl, rfl⟩
    simp
    intro q6 hq6
    rw [ite_none] at hq6
    obtain ⟨hq6r, hq6⟩ := hq6
    have hr6 : ¬ r = q6 := fun e => hq6r e.symm
    have hq6' : (W2.upd r [.lit (.int .i64 xk), .list false 1 (bytesA xd), .lit (.int .u8 ty.toNat), .lit (.int .u8 req.toNat), .lit (.int .u8 resp.toNat), .lit (.int .u16 seq), .lit (.bool xh)]) q6 = none := by rw [supd_apply, if_neg hq6r]; exact hq6
    have hat4 := hat3.other hq6' [.lit (.pointer (some ⟨kb.o, 0, none⟩))]
    have hq64 : ¬ q4 = q6 := fun e => by rw [← e, hPq42] at hq6; cases hq6
    have hqq6 : ¬ q = q6 := fun e => by rw [← e, hPq2] at hq6; cases hq6
    have hW6 : (((W2.upd r [.lit (.int .i64 xk), .list false 1 (bytesA xd), .lit (.int .u8 ty.toNat), .lit (.int .u8 req.toNat), .lit (.int .u8 resp.toNat), .lit (.int .u16 seq), .lit (.bool xh)]).upd q6 [.lit (.pointer (some ⟨kb.o, 0, none⟩))])) q6 = some [ptrA kb.o] := by simp
    have k00 := on1_calls L2.o kb.o q6 0 0 (.inl rfl) _ hat4.o hW6
    have k10 := on1_calls L2.o kb.o q6 1 0 (.inr rfl) _ hat4.o hW6
    have k025 := on1_calls L2.o kb.o q6 0 25 (.inl rfl) _ hat4.o hW6
    have k125 := on1_calls L2.o kb.o q6 1 25 (.inr rfl) _ hat4.o hW6
    have k024 := on1_calls L2.o kb.o q6 0 24 (.inl rfl) _ hat4.o hW6
    have k040 := on1_calls L2.o kb.o q6 0 40 (.inl rfl) _ hat4.o hW6
    have kend := lend_calls kb L2 f.a f.b _ hat4
    have krd := ready_calls kb.e L2.e f.a f.b _ hat4.e
    have e40 : (40 : UInt8).toNat = 40 := rfl
    have e24 : (24 : UInt8).toNat = 24 := rfl
    have e25 : (25 : UInt8).toNat = 25 := rfl
    have e0 : (0 : UInt8).toNat = 0 := rfl
    rw [byteA_lit, e0] at k00 k10
    rw [byteA_lit, e25] at k025 k125
    rw [byteA_lit, e24] at k024
    rw [byteA_lit, e40] at k040
    have hfin : Store.sub W2 ((W2.upd r [.lit (.int .i64 xk), .list false 1 (bytesA xd), .lit (.int .u8 ty.toNat), .lit (.int .u8 req.toNat), .lit (.int .u8 resp.toNat), .lit (.int .u16 seq), .lit (.bool xh)]).upd q6 [.lit (.pointer (some ⟨kb.o, 0, none⟩))]) := Store.sub_trans (sub_upd_self _ _ _ hr) (sub_upd_self _ _ _ hq6')
    have hm : MayTell ⟨xk, xd, ⟨ty, req, resp, seq⟩, xh⟩ L2 := m2
    have hxx : (¬ (xk : Int) = 2 ∧ ¬ xk = 2) ∨ ((xk : Int) = 2 ∧ True) := (Classical.em (xk = 2)).elim (fun h => .inr ⟨by omega, trivial⟩) fun h => .inl ⟨by omega, h⟩
    have hx2 : (xk : Int) = 2 → xk = 2 := fun h => by omega
    clear hat2 hat3 hat4 ho m2 hW6 hq6'
    generalize (xk : Int) = z at *
    rcases hxx with ⟨hxk, hx1⟩ | ⟨rfl, hxk⟩ <;> cases xh
    all_goals repeat' first
      | (refine callK.of k00 ?_
         rintro v σ2 ⟨rfl, rfl⟩
         by_cases c1 : L2.o.st 0 0 = 1 <;> simp [c1, hrq, hrq4, hPq2, hPq42, hqq6, hq64, hr6, hxk])
      | (refine callK.of k10 ?_
         rintro v σ2 ⟨rfl, rfl⟩
         by_cases c2 : L2.o.st 1 0 = 1 <;> simp [c2, hrq, hrq4, hPq2, hPq42, hqq6, hq64, hr6, hxk])
      | (refine callK.of k025 ?_
         rintro v σ2 ⟨rfl, rfl⟩
         by_cases c3 : L2.o.st 0 25 = 1 <;> simp [c3, hrq, hrq4, hPq2, hPq42, hqq6, hq64, hr6, hxk])
      | (refine callK.of k125 ?_
         rintro v σ2 ⟨rfl, rfl⟩
         by_cases c4 : L2.o.st 1 25 = 1 <;> simp [c4, hrq, hrq4, hPq2, hPq42, hqq6, hq64, hr6, hxk])
      | (refine callK.of k024 ?_
         rintro v σ2 ⟨rfl, rfl⟩
         by_cases c5 : L2.o.st 0 24 = 1 <;> simp [c5, hrq, hrq4, hPq2, hPq42, hqq6, hq64, hr6, hxk])
      | (refine callK.of k040 ?_
         rintro v σ2 ⟨rfl, rfl⟩
         simp [c6, hrq, hrq4, hPq2, hPq42, hqq6, hq64, hr6, hxk])
      | (refine callK.of k040 ?_
         rintro v σ2 ⟨rfl, rfl⟩
         by_cases c6 : L2.o.st 0 40 = 1 <;> simp [c6, hrq, hrq4, hPq2, hPq42, hqq6, hq64, hr6, hxk])
      | (refine callK.of kend ?_
         rintro v σ2 ⟨rfl, rfl⟩
         simp [hrq, hrq4, hPq2, hPq42, hqq6, hq64, hr6, hxk])
      | (refine callK.of krd ?_
         rintro v σ2 ⟨rfl, rfl⟩
         by_cases c7 : L2.e.st = 3 <;> simp [c7, hrq, hrq4, hPq2, hPq42, hqq6, hq64, hr6, hxk])
    all_goals first
      | (exfalso; simp [MayTell, Lk.modeNow, *] at hm; done)
      | (obtain ⟨g', e1, e2, e3, e4, e5, f', e6⟩ := hnext
         exact ⟨W2, hfin, e1, g'.1, g'.2, e2, e3, e4, e5, f', e6⟩)
  · rintro g τ E σ' hs ⟨h0, ⟨τ0, h1⟩, h2, h3, h3', f, rfl⟩
    have ht := h1.told
    rw [List.drop_length] at ht
    obtain ⟨q1, _, _⟩ := adv_nil ht h1.room
    rw [q1, h2] at hs
    have hsub2 : Store.sub (putL kb (L.all p) f.a f.b σ) σ' := Store.sub_trans (putL_sub hWσ) hs
    have e2 : σ' q4 = some [.lit (.bool false)] := by
      rcases hs q4 with h | h
      · rw [hPq4] at h; cases h
      · rw [← h]; exact hPq4 _ _ _
    simp [e2]
    refine ⟨_, AV.le_refl _, putL kb (L.all p) f.a f.b σ, ?_, rfl, ⟨f.a, f.b, rfl⟩⟩
    obtain ⟨u1, u2, u3, u4, u5⟩ := hnq4
    intro y
    rw [supd_apply]
    by_cases hy : y = q4
    · left
      rw [hy, putL_apply, if_neg (Ne.symm u5), if_neg (Ne.symm u4), if_neg (Ne.symm u3), if_neg (Ne.symm u2), if_neg (Ne.symm u1)]; exact hq4
    · rw [if_neg hy]; exact hsub2 y
  · rintro c τ E σ' hs h
    exact h.elim
end Go.Proofs.YteaidaolablegaaGreatDoor
/-
  LinkPlain: nothing but text unless it is agreed.
-/
namespace Go.Proofs.YteaidaolablegaaGreatDoor
open Go Go.AL

def LaidNo (σ : Store) (v : AV) (σ' : Store) : Prop := ∃ (ad : Option Addr) (f : Int) (k : Nat), k ≠ 0 ∧ v = .tuple [.lit (.pointer none), .lit (.pointer ad), .lit (.int .i64 k), .lit (.int .i64 f)] ∧ σ' = σ
theorem laidno_calls {e : Ng} (h : ¬ okC e.few) (o x : Bool) (σ : Store) : ACalls Tryz.prog 9 [confA e o, .lit (.bool x)] σ (LaidNo σ) := by
  refine (lay_calls e o x σ).mono fun v σ' hh => ?_
  obtain ⟨ad, f, _, ⟨_, ⟨k, hk, hv⟩, hs⟩ | ⟨h1, _⟩⟩ := hh
  · exact ⟨ad, f, k, hk, hv, hs⟩
  · exfalso; exact h h1
theorem LkOk.more {L : Lk} {n k : Nat} (h : LkOk L n) (hk : n ≤ k) : LkOk L k := ⟨Nat.le_trans h.out (Nat.mul_le_mul_right _ hk), Nat.le_trans h.mp hk, h.small, h.ok, h.rd⟩
/-- A row of rows of bytes. -/
def rowsA (l : List (List UInt8)) : List AV := l.map fun p => .list false 1 (bytesA p)
@[simp] theorem rowsA_length (l : List (List UInt8)) : (rowsA l).length = l.length := by simp [rowsA]
structure PlS where
  i : Nat
  L : Lk
  a : Bool
  b : Bool
set_option maxRecDepth 8000 in
set_option maxHeartbeats 2000000 in
theorem linkPlain_calls (c : Ng) (o x : Bool) (l : List (List UInt8)) (σ : Store) : ACalls Tryz.prog 3 [confA c o, .lit (.bool x), .list false 1 (rowsA l)] σ fun v _ => v = .lit (.bool true) := by
  have haw := fun τ => awake_calls τ
  have hfew := few_small c
  by_cases hok : okC c.few
  · have hlay := fun τ => laid_calls hok false x τ
    have hok0 := init_ok (x := x) hfew hok
    have hm0 := init_mode c.few x
    generalize Lk.init c.few x = L0 at *
    have hcut := fun p τ => cut_calls false p 300 τ (by omega)
    simp only [confA] at hlay ⊢
    refine ACalls.of_awp follows (st := st3) (plans := pl3) (n := 40) Tryz.func3 rfl (by kernel_rfl) (by kernel_rfl) (by kernel_rfl) ?_
    simp
    intro q hq
    refine callK.of (haw _) ?_
    rintro v σ1 ⟨rfl, rfl⟩
    simp
    refine callK.of (hlay _) ?_
    rintro v σ1 ⟨ad, f, kb, a1, b1, hk, hsub, rfl, rfl⟩
    simp
    generalize σ.upd q _ = σ0 at *
    refine codeK.loop follows (st := st3) (plans := pl3) (X := PlS) (fun s => s.i ≤ l.length ∧ s.i ≤ 10 ∧ LkOk s.L (600 * s.i) ∧ s.L.mode = s.L.modeNow)
      (fun s => [(7, ptrA kb.l), (25, .list false 1 (rowsA l)), (26, .lit (.int .i64 l.length)), (27, .lit (.int .i64 s.i))]) (fun s => putL kb s.L s.a s.b σ0) (fun s => l.length - s.i) ⟨0, L0, a1, b1⟩ (by kernel_rfl) ⟨Nat.zero_le _, Nat.zero_le _, hok0, hm0⟩ (by simp) (Store.sub_refl _) ?_
    rintro ⟨i, L, a, b⟩ ⟨hi, hi10, hL, hm⟩
    dsimp only at hi hi10 hL hm ⊢
    by_cases hlt : i < l.length
    · have hlt' : (i : Int) < l.length := by omega
      obtain ⟨p, hp⟩ : ∃ p, l[i] = p := ⟨_, rfl⟩
      have hg : ∀ h : i < (rowsA l).length, (rowsA l)[i]'h = .list false 1 (bytesA p) := fun h => by simp [rowsA, hp]
      by_cases h10 : i = 10
      · subst h10
        simp [hlt, hlt', hg]
        exact ⟨_, Store.sub_refl _⟩
      · have h10' : ¬ (10 : Int) ≤ i := by omega
        have hw : IntKind.i64.wrap ((i : Int) + 1) = ((i + 1 : Nat) : Int) := wrap_i64 (by omega) (by omega)
        have hpl : (p.take 300).length ≤ 300 := by simp; omega
        have hagr := agr_calls kb hk L a b true (600 * i) (p.take 300) (by omega) hL hm _ (putL_at hk L a b σ0)
        have hok1 := all_ok hL (p.take 300) (by omega)
        have hm1 := all_mode hm (p.take 300)
        simp [hlt, hlt', hg, h10']
        refine callK.of (hcut _ _) ?_
        rintro v σ1 ⟨rfl, rfl⟩
        simp
        refine callK.of hagr ?_
        rintro v σ1 ⟨rfl, a2, b2, rfl⟩
        rw [putL_putL]
        simp
        exact ⟨⟨i + 1, L.all (p.take 300), a2, b2⟩, ⟨by dsimp only; omega, by dsimp only; omega, hok1.more (by dsimp only; omega), hm1⟩, by dsimp only; omega, by dsimp only; rw [hw]; exact AV.le_refl _, Store.sub_refl _⟩
    · obtain rfl : i = l.length := by omega
      simp
      exact ⟨_, Store.sub_refl _⟩
  · have hlay := fun τ => laidno_calls hok false x τ
    simp only [confA] at hlay ⊢
    refine ACalls.of_awp follows (st := st3) (plans := pl3) (n := 40) Tryz.func3 rfl (by kernel_rfl) (by kernel_rfl) (by kernel_rfl) ?_
    simp
    intro q hq
    refine callK.of (haw _) ?_
    rintro v σ1 ⟨rfl, rfl⟩
    simp
    refine callK.of (hlay _) ?_
    rintro v σ1 ⟨ad, f, k, hk, rfl, rfl⟩
    simp [hk]
    exact ⟨_, Store.sub_refl _⟩
end Go.Proofs.YteaidaolablegaaGreatDoor
/-
  Arguments opened.
-/
namespace Go.Proofs.YteaidaolablegaaGreatDoor
open Go Go.AL
theorem open_str : Opens Tryz.prog 9 (fun l : List UInt8 => [strS l]) (fun _ => True) :=
  (Opens.string Tryz.underlying9).by (fun s => s.data.toList) fun s _ => ⟨trivial, by cases s; simp⟩
theorem open_bytes : Opens Tryz.prog 22 (fun l : List UInt8 => [.list false 1 (bytesA l)]) (fun l => l.length ≤ maxLen) :=
  (Opens.slice Tryz.underlying22 (sz := 1) (by kernel_rfl) (by omega) (Opens.u8 Tryz.underlying5) byteA (fun _ => rfl) (fun _ => rfl)).by id fun _ h => ⟨h.1, rfl⟩
theorem open_conf : Opens Tryz.prog 24 (fun c : Ng => [strS c.ty, strS c.dev, .list false 1 (bytesA c.fns)]) (fun _ => True) :=
  (Opens.struct (total := 3) Tryz.underlying24 (by kernel_rfl)
    (.cons (k := 1) rfl (by kernel_rfl) (by omega) open_str (.cons (k := 1) rfl (by kernel_rfl) (by omega) open_str (.cons (k := 1) rfl (by kernel_rfl) (by omega) open_bytes .nil)))).by
    (fun x => ⟨x.1, x.2.1, x.2.2.1, 0, [], []⟩) fun _ _ => ⟨trivial, rfl⟩
theorem open_lists : Opens Tryz.prog 25 (fun l : List (List UInt8) => [.list false 1 (l.map fun p => .list false 1 (bytesA p))]) (fun l => l.length ≤ maxLen) :=
  (Opens.slice Tryz.underlying25 (sz := 1) (by kernel_rfl) (by omega) open_bytes (fun p => .list false 1 (bytesA p)) (fun _ => rfl) (fun _ => rfl)).by id fun _ h => ⟨h.1, rfl⟩
end Go.Proofs.YteaidaolablegaaGreatDoor
/-
  What the table of the names reads as.
-/
namespace Go.Proofs.YteaidaolablegaaGreatDoor
open Go Go.AL Go.ChangeShapes Go.WideShapes Go.ChangeAt Go.RowKit Go.Lib

def laid1 : List (String × DataW Unit) := [("unicode/utf8.acceptRanges", Rows.laid_unicode_utf8_acceptRanges), ("vitrine/header.names", Rows.laid_vitrine_header_names), ("unicode/utf8.first", Rows.laid_unicode_utf8_first)]
def nameV (x : List UInt8) : Value := .string ⟨x.toArray⟩
def nameD (x : List UInt8) : DataW Unit := .lit (.string x)
theorem laid_names : (Rows.laid_vitrine_header_names : DataW Unit) = .agg (namesL.map nameD) := rfl
theorem laid_vr {W : World} (h : laidMetH Tryz.prog laid1 W) : ∀ g cs, GL.tab g = some cs → VR (allFrz W) (.fptr cs) (.pointer (some ⟨g, 0, none⟩)) := by
  rw [MakeChecks.laidMetH_plain _ _ _ (by kernel_rfl)] at h
  obtain ⟨ps, ⟨_, _, _, _, _, _, _, _, _, _, ⟨g, t, cs, fuel, p, q, hg, ht, hv, hd, _, _⟩, _⟩, _, _⟩ := h
  obtain rfl := Option.some.inj ((show Tryz.prog.globalNamed "vitrine/header.names" = some 1 by kernel_rfl).symm.trans hg)
  obtain rfl := Option.some.inj ((show (Tryz.prog.globals[1]?).map (·.type) = some 189 by kernel_rfl).symm.trans ht)
  obtain ⟨xs, m, _, ex, hc, hl, hel⟩ := DataW.trod_array Tryz.underlying189 hd
  have c9 : Tryz.prog.cellsOf 9 = 1 := by kernel_rfl
  have c189 : Tryz.prog.cellsOf 189 = 9 := by kernel_rfl
  rw [c189] at hc
  have e3 : xs.map (·.1) = namesL.map nameD := (DataW.agg.inj ((Prod.mk.inj ex).1.symm.trans laid_names)).symm ▸ rfl
  have hcs : cs.toList = namesL.map nameV := by
    refine List.ext_getElem? fun r => ?_
    by_cases hr : r < 9
    · have he := hel r hr
      rw [c9] at he
      have e4 : (xs.map (·.1))[r]? = (namesL.map nameD)[r]? := by rw [e3]
      rw [List.getElem?_map, List.getElem?_map] at e4
      have hx : r < namesL.length := hr
      rw [List.getElem?_map, List.getElem?_eq_getElem hx] at *
      cases hxr : xs[r]? with
      | none => rw [hxr] at e4; cases e4
      | some y =>
        rw [hxr] at e4 he
        obtain ⟨d, p⟩ := y
        simp only [Option.map_some, Option.some.injEq] at e4
        subst e4
        obtain ⟨s, g0, d0, _⟩ := DataW.trod_string Tryz.underlying9 (he.trans rfl)
        have hs : namesL[r] = s.data.toList := by
          have := d0
          simp only [nameD, DataW.lit.injEq, Lit.string.injEq] at this
          simp at this; exact this.1
        rw [Nat.mul_one] at g0
        have hlr : r < cs.toList.length := by omega
        have g1 : cs.toList[r]? = some (Value.string s) := by
          have := congrArg (·[0]?) g0
          simpa [List.getElem?_take, List.getElem?_drop] using this
        rw [g1, Option.map_some, nameV, hs]
    · rw [List.getElem?_eq_none (by omega), List.getElem?_eq_none (by rw [List.length_map]; exact Nat.le_of_not_lt hr)]
  intro g cs2 hg2
  have : g = 1 ∧ cs2 = namesO := by
    have hg3 : (if g = 1 then some namesO else none) = some cs2 := hg2
    split at hg3
    · exact ⟨‹_›, (Option.some.inj hg3).symm⟩
    · cases hg3
  obtain ⟨rfl, rfl⟩ := this
  have hlit : namesO = (namesL.map nameV).map .lit := rfl
  refine .fptr _ _ _ (namesL.map nameV) rfl (fun i u hu => ⟨?_, ?_⟩) fun i c u hc hu => ?_
  · rw [Nat.zero_add]
    refine cell_back ?_
    rw [World.var?_cell hg hv i, ← Array.getElem?_toList, hcs]; exact hu
  · have : (namesL.map nameV).all Value.oneCell' = true := by decide
    exact List.all_eq_true.1 this u (List.mem_of_getElem? hu)
  · rw [hlit, List.getElem?_map, hu] at hc
    obtain rfl := Option.some.inj hc
    exact .lit _
end Go.Proofs.YteaidaolablegaaGreatDoor
/-
  LinkPlain: for every input the law returns true, and the arguments read as they did.
-/
namespace Go.Proofs.YteaidaolablegaaGreatDoor
open Go Go.AL Go.ChangeShapes Go.WideShapes Go.ChangeAt Go.RowKit Go.Lib

theorem own_linkPlain : ownKnob Tryz.prog.godebug = none := by kernel_rfl
theorem laid_linkPlain : laidOutB Tryz.prog = true := by kernel_rfl
theorem rec24_linkPlain : Tryz.prog.readableRec 24 = true := by kernel_rfl
theorem row24_linkPlain : (24 : TypeId) < Tryz.prog.types.size := of_decide_eq_true (by kernel_rfl)
theorem rec25_linkPlain : Tryz.prog.readableRec 25 = true := by kernel_rfl
theorem row25_linkPlain : (25 : TypeId) < Tryz.prog.types.size := of_decide_eq_true (by kernel_rfl)
theorem rec4_linkPlain : Tryz.prog.readableRec 4 = true := by kernel_rfl
theorem row4_linkPlain : (4 : TypeId) < Tryz.prog.types.size := of_decide_eq_true (by kernel_rfl)

set_option maxRecDepth 100000 in
theorem linkPlain_lifted (os : Os) (started : os.Started) (H : Type) (enc : TypeId × Value → H) :
    ReturnsInHanded {} Tryz.checked os 3 .any (fun w args => (Rows.linkPlainSpec.pre enc Tryz.prog Tryz.f3 [] false w args ∧ laidMetH Tryz.prog laid1 w) ∧ sizedMet enc Tryz.prog Tryz.f3 (OpenSpec.ofChange Rows.linkPlainSpec) false w args) (Rows.linkPlainSpec.post enc Tryz.prog Tryz.f3 false true false false) := by
  refine returnsInHanded_of_change_and (C := Tryz.checked) (X := fun w _ => laidMetH Tryz.prog laid1 w) (fun _ _ _ hh h => h.of_heap hh) own_linkPlain started (by kernel_rfl) Tryz.func3
    (ChangeSpec.witness_shaped (enc := enc) (C := Tryz.checked) (os := os) (X := fun w _ => laidMetH Tryz.prog laid1 w) false (World.laidAll Tryz.prog os laid1) #[.agg #[.string ⟨#[]⟩, .string ⟨#[]⟩, .slice none 0 0], .bool false, .slice none 0 0] 8 (World.laidAll_os _ _ _)
      (World.shaped_of_ZipB (by kernel_rfl) (by kernel_rfl)) (by kernel_rfl) (by kernel_rfl) (by kernel_rfl)
      (by rw [MakeChecks.laidMetH_plain _ _ _ (by kernel_rfl)]; exact laidMet_laidAll _ (by kernel_rfl) (by kernel_rfl))) ?_
  intro W base args ds gs before hval0 hW _ _ hL _
  have hval : ∀ (j : Nat) t v, Tryz.f3.params[j]? = some t → args[j]? = some v → Value.okWide Tryz.prog W .any base t v := hval0
  have hW' := hW
  obtain ⟨p, q, hA0, hV, rfl, hfz, hnd⟩ := hW
  have hA : DataW.TrodAll enc Tryz.prog W 0 (fun _ => true) true Tryz.f3.params.toList args.toList ds p := hA0
  rw [Tryz.params3] at hA hval
  obtain ⟨v0, v1, v2, d0, d1, d2, p0, p1, p2, rfl, rfl, rfl, h0, h1, h2⟩ := trodAll_three hA
  obtain ⟨rfl, rfl⟩ := trodVars_none hV
  obtain ⟨_, hv0, _⟩ := okWide_struct Tryz.underlying24 (hval 0 24 v0 rfl rfl)
  obtain ⟨a0, m0, w0⟩ := (open_conf).args hv0 h0
  obtain ⟨_, hv1⟩ := okWide_bool Tryz.underlying4 (hval 1 4 v1 rfl rfl)
  obtain ⟨a1, m1, w1⟩ := (Opens.bool Tryz.underlying4).arg _ (fun _ => rfl) (by rw [hv1]; rfl) h1
  obtain ⟨_, _, _, hv2⟩ := okWide_slice Tryz.underlying25 (hval 2 25 v2 rfl rfl)
  obtain ⟨a2, m2, w2⟩ := (open_lists).arg _ (fun _ => rfl) (by rw [hv2]; rfl) h2
  clear hA0 hval0
  simp only [List.append_nil] at hW'
  have hlt : ∀ x ∈ p0 ++ p1 ++ p2, x.block < W.heap.size := fun x hx => hW'.lt x hx
  refine (law_calls (linkPlain_calls a0 false a1 a2 _) W #[v0, v1, v2] rfl (fun i c u hc hu => ?_) (laid_vr hL)).mono fun e W' ⟨he, hb⟩ => ?_
  · match i with
    | 0 => simp at hc hu; subst hc hu; exact ⟨w0, rfl⟩
    | 1 => simp at hc hu; subst hc hu; exact ⟨w1, rfl⟩
    | 2 => simp at hc hu; subst hc hu; exact ⟨w2, rfl⟩
    | n + 3 => simp at hc
  subst he
  refine ⟨_, rfl, [d0, d1, d2], [], p0 ++ p1 ++ p2, [], p0 ++ (p1 ++ p2), [], hW', ?_, ?_, rfl, hb.frame _, fun h => (by cases h)⟩
  · exact trodAll_mk1 (shut_bool Tryz.underlying4 true)
  · refine trodAll_mk3 (Below.trod laid_linkPlain rec24_linkPlain row24_linkPlain h0 hb fun x hx => hlt x (by simp [hx])) (Below.trod laid_linkPlain rec4_linkPlain row4_linkPlain h1 hb fun x hx => hlt x (by simp [hx])) (Below.trod laid_linkPlain rec25_linkPlain row25_linkPlain h2 hb fun x hx => hlt x (by simp [hx]))

theorem linkPlain_holds : Rows.LinkPlainSaid :=
  OpenClaim.holds_of_wide 3 Tryz.f3 rfl rfl rfl rfl rfl rfl rfl ⟨rfl, rfl, rfl, rfl, rfl⟩ rfl rfl rfl rfl rfl (by kernel_rfl) Tryz.func3 (by kernel_rfl)
    (of_decide_eq_true (by kernel_rfl)) (by unfold Func.isWrapper; first | (rw [if_pos (by decide +kernel)]; kernel_rfl) | (rw [if_neg (by decide +kernel)]; exact ⟨rfl, rfl⟩))
    (fun os started H enc _ => linkPlain_lifted os started H enc)
end Go.Proofs.YteaidaolablegaaGreatDoor
