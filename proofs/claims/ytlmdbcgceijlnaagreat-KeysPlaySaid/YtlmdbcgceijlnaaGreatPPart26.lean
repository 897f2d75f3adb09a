/-
 The document's rest of a field; the end of a field goes; room for one more.
-/
import Derived.Test.YtlmdbcgceijlnaaGreatPPart25
set_option linter.unusedSimpArgs false
set_option linter.unusedVariables false
set_option maxRecDepth 8000
set_option maxHeartbeats 8000000

namespace Go.Proofs.YtlmdbcgceijlnaaGreat
open Go Go.AL Go.Sp
variable {σ : Store} {x y : Nat} {s : Sp}
theorem span_nn {N n : Nat} : spanLen N n n = N := by
 unfold spanLen
 rw [show n + N - n = N from by omega, Nat.mod_self, if_pos rfl]
theorem span_n0 {N n : Nat} (h : n < N) : spanLen N n 0 = N - n := by
 unfold spanLen
 rw [Nat.zero_add]
 by_cases e : n = 0
 ·subst e; rw [Nat.sub_zero, Nat.mod_self, if_pos rfl]
 ·rw [Nat.mod_eq_of_lt (by omega), if_neg (by omega)]
theorem spanL_take {N f t k : Nat} (h : k < spanLen N f t) : (spanL N f t).take (k + 1) = (spanL N f t).take k ++ [(f + k) % N] := by
 have hl : k < (spanL N f t).length := by rw [spanL_len]; exact h
 rw [List.take_succ_eq_append_getElem hl]
 congr 2
 simp [spanL]
def restR (s : Sp) (n : Nat) (round : Bool) : List Nat := if round = true then roundL s n else restL s n
theorem rrest_calls (h : Ref σ x y s) {n : Nat} (hn : n < s.n) (hat : attrAt s.cells n = false) (round : Bool) : ACalls Tryz.prog 114 [ptrA x, .lit (.int .i64 n), .lit (.bool round)] σ fun v σ' => v = .list false 1 (natsA (restR s n round)) ∧ σ' = σ := by
 have ho := h.obj
 have hr := h.row
 have hln := h.good.len
 have hnl := s.n_le
 have hnp := s.n_pos
 have hw := rswrap_calls h (n : Int)
 rw [wrap_of_lt hn] at hw
 have hst := rstart_calls h hn
 unfold rfO at ho
 refine aw st114 pl114 72 Tryz.func114 rfl ?_
 by_cases hc : s.count = 0
 ·have hs := startS_none hc n
  rw [hs] at hst
  have hL : restR s n round = if round = true then spanL s.n n n else spanL s.n n 0 := by
   unfold restR roundL restL
   simp [hc]
  have hwk := fun (k : Nat) => rswrap_calls h ((n + k : Nat) : Int)
  have hM : (restR s n round).length = if round = true then s.n else s.n - n := by
   rw [hL]
   cases round
   ·simp [spanL_len, span_n0 hn]
   ·simp [spanL_len, span_nn]
  have htk : ∀ k, k < (restR s n round).length → (restR s n round).take (k + 1) = (restR s n round).take k ++ [(n + k) % s.n] := fun k hk => by
   rw [hM] at hk
   rw [hL]
   cases round
   ·simp at hk ⊢; exact spanL_take (by rw [span_n0 hn]; exact hk)
   ·simp at hk ⊢; exact spanL_take (by rw [span_nn]; exact hk)
  have hMle : (restR s n round).length ≤ s.n := by rw [hM]; split <;> omega
  have hcond : ∀ k, k < s.n → (k < (restR s n round).length ↔ (round = true ∨ n + k < s.n)) := fun k hk => by
   rw [hM]
   cases round
   ·simp; omega
   ·simp; exact hk
  generalize restR s n round = L at *
  simp
  refine callK.eq hw ?_
  simp
  refine callK.eq hst ?_
  simp
  refine codeK.loop follows (st := st114) (plans := pl114) (X := Nat) (fun k => k ≤ s.n)
   (fun k => [(0, ptrA x), (1, .lit (.int .i64 n)), (2, .lit (.bool round)), (8, .list true 1 (natsA (L.take k))), (9, .lit (.int .i64 k))]) (fun _ => σ) (fun k => s.n - k) 0 (by kernel_rfl) (by simp) (by simp [natsA]) (Store.sub_refl _) fun k hk => ?_
  by_cases hlt : k < s.n
  ·have hw1 : IntKind.i64.wrap ((k : Int) + 1) = (k : Int) + 1 := wrap_i64 (by omega) (by omega)
   have hw2 : IntKind.i64.wrap ((n : Int) + k) = (n : Int) + k := wrap_i64 (by omega) (by omega)
   have hwk1 := hwk k
   have ewr : wrap s.n ((n + k : Nat) : Int) = (n + k) % s.n := by unfold wrap; rw [← Int.natCast_emod, Int.toNat_natCast]
   rw [ewr, show ((n + k : Nat) : Int) = (n : Int) + k from by omega] at hwk1
   have hck := hcond k hlt
   have hl3 : (L.take k).length ≤ k := by simp; omega
   by_cases hin : k < L.length
   ·have e1 := htk k hin
    have e2 : natsA (L.take (k + 1)) = natsA (L.take k) ++ [.lit (.int .i64 ((n + k) % s.n : Nat))] := by rw [e1, natsA_append]; rfl
    generalize (n + k) % s.n = m at *
    cases round
    ·have hnk : n + k < s.n := by have := hck.1 hin; simpa using this
     have hnk' : (n : Int) + k < s.n := by omega
     simp [ho, rowC, hlt, hw1, hw2, hnk']
     refine callK.eq hwk1 ?_
     simp
     refine ⟨by omega, by omega, k + 1, by omega, by omega, ?_, ?_⟩
     ·rw [e2]; exact AV.le_refl _
     ·rw [hw1]; exact AV.le_refl _
    ·simp [ho, rowC, hlt, hw1, hw2]
     refine callK.eq hwk1 ?_
     simp
     refine ⟨by omega, by omega, k + 1, by omega, by omega, ?_, ?_⟩
     ·rw [e2]; exact AV.le_refl _
     ·rw [hw1]; exact AV.le_refl _
   ·have e1 : L.take (k + 1) = L.take k := by rw [List.take_of_length_le (by omega), List.take_of_length_le (by omega)]
    cases round
    ·have hnk : ¬ n + k < s.n := fun e => hin (hck.2 (.inr e))
     have hnk' : ¬ (n : Int) + k < s.n := by omega
     simp [ho, rowC, hlt, hw1, hw2, hnk']
     exact ⟨k + 1, by omega, by omega, by rw [e1]; exact AV.le_refl _, by exact AV.le_refl _⟩
    ·exact absurd (hck.2 (.inl rfl)) hin
  ·obtain rfl : k = s.n := by omega
   have e1 : L.take s.n = L := List.take_of_length_le hMle
   rw [e1]
   simp [ho, rowC]
 ·obtain ⟨a, ha⟩ := in_field h.good hn hc hat
  have hs := ha.start
  rw [hs] at hst
  have hpl := rplaces_calls h a ha.lt ha.attr
  have hwr := wr_places h.good ha.lt
  have hmem := ha.mem
  have hlp : (Sp.places s.cells a).length ≤ 1000000 := by
   rw [places_length']
   have := Sp.len_lt (l := s.cells) (a := a) (by rw [hln]; exact ha.lt)
   omega
  have hL : restR s n round = (Sp.places s.cells a).drop ((Sp.places s.cells a).idxOf n) := by
   unfold restR roundL restL
   rw [hs]
   simp [hc]
  rw [hL]
  generalize Sp.places s.cells a = P at *
  have hix := List.idxOf_lt_length_of_mem hmem
  have hii := fun k (hk : k < P.length) => idx_iff hwr.nd hk n
  generalize P.idxOf n = i0 at *
  have hneg : ¬ (a : Int) < 0 := by omega
  simp
  refine callK.eq hw ?_
  simp
  refine callK.eq hst ?_
  simp [hneg]
  refine callK.eq hpl ?_
  simp
  refine codeK.loop follows (st := st114) (plans := pl114) (X := Nat) (fun k => k ≤ P.length)
   (fun k => [(1, .lit (.int .i64 n)), (8, .list true 1 (natsA ((P.take k).drop i0))), (10, .lit (.bool (decide (i0 < k)))), (53, .list false 1 (natsA P)), (54, .lit (.int .i64 P.length)), (55, .lit (.int .i64 k))]) (fun _ => σ) (fun k => P.length - k) 0 (by kernel_rfl) (by simp) (by simp [natsA]) (Store.sub_refl _) fun k hk => ?_
  by_cases hlt : k < P.length
  ·have hw1 : IntKind.i64.wrap ((k : Int) + 1) = ((k + 1 : Nat) : Int) := wrap_i64 (by omega) (by omega)
   have hie := hii k hlt
   have hl3 : ((P.take k).drop i0).length ≤ k := by simp; omega
   by_cases c : i0 < k
   ·have e2 : natsA ((P.take (k + 1)).drop i0) = natsA ((P.take k).drop i0) ++ [.lit (.int .i64 (P[k] : Nat))] := by
     rw [List.take_succ_eq_append_getElem hlt, List.drop_append_of_le_length (by simp; omega), natsA_append]; rfl
    simp [hlt, c]
    refine ⟨by omega, by omega, k + 1, by omega, by omega, ?_, ?_, ?_⟩
    ·rw [e2]; exact AV.le_refl _
    ·rw [decide_eq_true (by omega)]; exact AV.le_refl _
    ·rw [hw1]; exact AV.le_refl _
   ·have hd0 : decide (i0 < k) = false := decide_eq_false c
    have e0 : (P.take k).drop i0 = [] := List.drop_of_length_le (by simp; omega)
    by_cases c2 : i0 = k
    ·have hx : n = P[k] := hie.1 c2
     have e2 : natsA ((P.take (k + 1)).drop i0) = natsA ((P.take k).drop i0) ++ [.lit (.int .i64 (P[k] : Nat))] := by
      rw [List.take_succ_eq_append_getElem hlt, List.drop_append_of_le_length (by simp; omega), natsA_append]; rfl
     have hx2 : P[k] = n := hx.symm
     simp [hlt, c, hx2]
     refine ⟨by omega, by omega, k + 1, by omega, by omega, ?_, ?_, ?_⟩
     ·rw [e2, hx2]; exact AV.le_refl _
     ·rw [decide_eq_true (by omega)]; exact AV.le_refl _
     ·rw [hw1]; exact AV.le_refl _
    ·have hx : ¬ P[k] = n := fun e => c2 (hie.2 e.symm)
     have hx' : ¬ (P[k] : Int) = n := by omega
     have hxb : ((P[k] : Int) == (n : Int)) = false := beq_eq_false_iff_ne.2 hx'
     have e1 : (P.take (k + 1)).drop i0 = [] := List.drop_of_length_le (by simp; omega)
     have hd1 : decide (i0 < k + 1) = false := decide_eq_false (by omega)
     simp [hlt, c, hx, hx', hxb]
     refine ⟨k + 1, by omega, by omega, ?_, ?_, ?_⟩
     ·rw [e0, e1]; exact AV.le_refl _
     ·rw [hd1]; exact AV.le_refl _
     ·rw [hw1]; exact AV.le_refl _
  ·obtain rfl : k = P.length := by omega
   rw [List.take_length]
   simp
theorem restR_len (h : s.good) (n : Nat) (round : Bool) : (restR s n round).length ≤ 1000000 := by
 have hnl := s.n_le
 have h1 : (restL s n).length ≤ 1000000 := by
  unfold restL
  split
  ·rw [spanL_len]; have := (spanLen_pos (N := s.n) (f := n) (t := 0) s.n_pos).2; omega
  ·rw [List.length_drop, places_length']
   have := run_le s.cells (startS s.cells n).toNat (s.cells.length - 1)
   unfold Sp.len
   rw [h.len] at *
   omega
 unfold restR
 split
 ·unfold roundL
  split
  ·rw [spanL_len]; have := (spanLen_pos (N := s.n) (f := n) (t := n) s.n_pos).2; omega
  ·exact h1
 ·exact h1
theorem rend_calls (h : Ref σ x y s) {n : Nat} (hn : n < s.n) : ACalls Tryz.prog 62 [ptrA x, .lit (.int .i64 n)] σ fun v σ' => v = .lit (.bool (openS s n)) ∧ σ' = putS rfO σ x y (endS s n) := by
 have hop := ropen_calls h hn
 have hne := h.ne
 unfold endS
 cases ho : openS s n
 ·rw [if_neg (by simp), h.put_self]
  rw [ho] at hop
  refine aw st62 pl62 26 Tryz.func62 rfl ?_
  simp
  refine callK.eq hop ?_
  simp
 ·rw [if_pos rfl]
  rw [ho] at hop
  have hre := rrest_calls h hn (open_attr ho) false
  have hlen := restR_len h.good n false
  have hLe : restR s n false = restL s n := rfl
  rw [hLe] at hre hlen
  generalize restL s n = L at *
  have hsame := fun k => (SameN.refl h.good).nullS (L.take k)
  have hz : nullS s (L.take 0) = s := rfl
  have hall : nullS s (L.take L.length) = nullS s L := by rw [List.take_length]
  have hmo := fun τ (hτ : Ref τ x y (nullS s L)) => rmodify_calls hτ (i := n) (by rw [show (nullS s L).n = s.n from ((SameN.refl h.good).nullS L).n]; exact hn)
  have hsucc := nullS_take s L
  refine aw st62 pl62 26 Tryz.func62 rfl ?_
  simp
  refine callK.eq hop ?_
  simp
  refine callK.eq hre ?_
  simp
  refine codeK.loop follows (st := st62) (plans := pl62) (X := Nat) (fun k => k ≤ L.length)
   (fun k => [(0, ptrA x), (1, .lit (.int .i64 n)), (13, .list false 1 (natsA L)), (14, .lit (.int .i64 L.length)), (15, .lit (.int .i64 k))]) (fun k => putS rfO σ x y (nullS s (L.take k))) (fun k => L.length - k) 0 (by kernel_rfl) (by simp) (by simp) (by rw [hz, h.put_self]; exact Store.sub_refl _) fun k hk => ?_
  have hP : Ref (putS rfO σ x y (nullS s (L.take k))) x y (nullS s (L.take k)) := Scr.of_put hne (hsame k).1
  by_cases hlt : k < L.length
  ·have hw : IntKind.i64.wrap ((k : Int) + 1) = ((k + 1 : Nat) : Int) := wrap_i64 (by omega) (by omega)
   have hpu := fun i => rput_calls hP i 0
   simp only [putS_put hne] at hpu
   have hs1 := hsucc k hlt
   rw [byteA_lit] at hpu
   simp [hlt]
   refine callK.eq (hpu _) ?_
   simp [hw]
   exact ⟨k + 1, by omega, by omega, by simp, by rw [hs1]; exact Store.sub_refl _⟩
  ·obtain rfl : k = L.length := by omega
   rw [hall] at hP ⊢
   simp
   refine callK.of (hmo _ hP) ?_
   rintro v τ ⟨rfl, eτ⟩
   rw [eτ, putS_put hne]
   simp
theorem nulAt_cell {s : Sp} {j : Nat} (hj : j < s.n) : nulAt s j = ((cellAt s j).char == 0) := by unfold nulAt; rw [cellAt_at hj]
theorem rinsert_calls (h : Ref σ x y s) {n : Nat} (hn : n < s.n) (c : UInt8) : ACalls Tryz.prog 105 [ptrA x, .lit (.int .i64 n), byteA c] σ fun v σ' => v = .lit (.bool (insS s n c).2) ∧ σ' = putS rfO σ x y (insS s n c).1 := by
 have hop := ropen_calls h hn
 have hne := h.ne
 unfold insS
 cases ho : openS s n
 ·rw [if_neg (by simp), h.put_self]
  rw [ho] at hop
  refine aw st105 pl105 46 Tryz.func105 rfl ?_
  simp [byteA]
  refine callK.eq hop ?_
  simp
 ·rw [ho] at hop
  have hre := rrest_calls h hn (open_attr ho) true
  have hlen := restR_len h.good n true
  have hLe : restR s n true = roundL s n := rfl
  have hwr := wr_round h.good hn (open_attr ho)
  rw [hLe] at hre hlen
  generalize roundL s n = L at *
  have hco := rcodes_calls h L hlen hwr.lt
  have hfree : ∀ i, i < nulN s L → nulAt s (L[i]?.getD 0) = false := fun i hi => toP_free _ _ i hi
  have hstop : nulN s L < L.length → nulAt s (L[nulN s L]?.getD 0) = true := fun h => toP_stop (fun i => nulAt s (L[i]?.getD 0)) _ h
  have hle : nulN s L ≤ L.length := toP_le _ _
  have hchar : ∀ k (hk : k < L.length), nulAt s (L[k]?.getD 0) = ((cellAt s L[k]).char == 0) := fun k hk => by
   rw [List.getElem?_eq_getElem hk]
   exact nulAt_cell (hwr.at hk).1
  have hcat := fun k (hk : k < L.length) => codesL_at s L hk
  have hmv := fun e c (he : e < L.length) => rmove_calls h (L.take (e + 1)) (c :: (codesL s L).take e) (by simp; omega) (by simp; omega)
  have hres := fun e c (he : e < L.length) => insTo_mov h.good hwr he c
  have hcl := codesL_len s L
  have hkm := movS_keep h.good L
  generalize nulN s L = e at *
  have hbat2 : ∀ k (hk : k < (codesL s L).length) (hk2 : k < L.length), (codesL s L)[k] = (cellAt s L[k]).char := fun k hk hk2 => by simp [codesL]
  have hbtk : ∀ k, (bytesA (codesL s L)).take k = bytesA ((codesL s L).take k) := fun k => by simp [bytesA, List.map_take]
  generalize codesL s L = cs at *
  refine aw st105 pl105 46 Tryz.func105 rfl ?_
  simp [byteA]
  refine callK.eq hop ?_
  simp
  refine callK.eq hre ?_
  simp
  refine callK.eq hco ?_
  simp
  refine codeK.loop follows (st := st105) (plans := pl105) (X := Nat) (fun k => k ≤ e)
   (fun k => [(0, ptrA x), (1, .lit (.int .i64 n)), (2, byteA c), (7, .list false 1 (natsA L)), (8, .list false 1 (bytesA cs)), (21, .list false 1 (bytesA cs)), (22, .lit (.int .i64 L.length)), (23, .lit (.int .i64 k))]) (fun _ => σ) (fun k => e - k) 0 (by kernel_rfl) (by simp) (by simp [byteA, hcl]) (Store.sub_refl _) fun k hk => ?_
  by_cases hlt : k < L.length
  ·have hw1 : IntKind.i64.wrap ((k : Int) + 1) = ((k + 1 : Nat) : Int) := wrap_i64 (by omega) (by omega)
   have hkc : k < cs.length := by omega
   have hb1 := bytesA_at cs k hkc
   have hb2 := hbat2 k hkc hlt
   have hch := hchar k hlt
   rw [← hb2] at hch
   simp only [byteA] at hb1
   generalize cs[k] = cb at *
   by_cases hke : k < e
   ·have hnz := hfree k hke
    rw [hch] at hnz
    have hz1 : ¬ cb = 0 := by simpa using hnz
    have hz2 : ¬ cb.toNat = 0 := fun e => hz1 (UInt8.toNat_inj.1 e)
    have hz3 : ¬ (cb.toNat : Int) = 0 := by omega
    simp [byteA, hlt, hkc, hb1, hz1, hz2, hz3, hw1]
    exact ⟨k + 1, by omega, by omega, AV.le_refl _⟩
   ·obtain rfl : k = e := by omega
    have hnz := hstop hlt
    rw [hch] at hnz
    have hz1 : cb = 0 := by simpa using hnz
    subst hz1
    have hcnd : (True ∧ k < L.length) := ⟨trivial, hlt⟩
    have hcnd2 : ((true = true) ∧ k < L.length) := ⟨rfl, hlt⟩
    rw [if_pos hlt]
    have hmv1 := hmv k c hlt
    have hre1 := hres k c hlt
    have hlt1 : (L.take (k + 1)).length = k + 1 := by simp; omega
    have htk := movS_take s L (c :: cs.take k) (k + 1) (k + 1) (Nat.le_refl _)
    rw [hlt1, htk, ← hre1] at hmv1
    have hkk := hkm (c :: cs.take k) (k + 1)
    rw [← hre1] at hkk
    dsimp only
    generalize (insTo s L k k).put (L[0]?.getD 0 : Nat) c = t at *
    have hmo := rmodify_calls (Scr.of_put hne hkk.same.1 : Ref (putS rfO σ x y t) x y t) (i := n) (by rw [hkk.same.n]; exact hn)
    rw [putS_put hne] at hmo
    have hk1 : k + 1 ≤ L.length := by omega
    have hk2 : k ≤ cs.length := by omega
    have hk3 : (k : Int) + 1 ≤ L.length := by omega
    have hk4 : (k : Int) ≤ L.length := by omega
    have hk5 : (0 : Int) ≤ (k : Int) + 1 := by omega
    have hk6 : k ≤ L.length := by omega
    have hk7 : k + 1 ≤ L.length + 1 := by omega
    have hk8 : k + 1 ≤ 9223372036854775807 := by omega
    have hk9 : k + 1 ≤ 140737488355328 := by omega
    have hk10 : 1 + k ≤ 9223372036854775807 := by omega
    have hk11 : 1 + k ≤ 140737488355328 := by omega
    have hw3 : IntKind.i64.wrap ((k : Int) + 1) = (k : Int) + 1 := hw1
    have eL : natsA (L.take (k + 1)) = (natsA L).take (k + 1) := by simp [natsA, List.map_take]
    have eC : bytesA (c :: cs.take k) = .lit (.int .u8 (c.toNat : Int)) :: (bytesA cs).take k := by rw [hbtk]; rfl
    rw [eL, eC] at hmv1
    simp [byteA, hlt, hkc, hb1, hw1, hcl, hk1, hk2, hk3, hk4, hk5, hk6, hk8, hk9, hk10, hk11]
    repeat' first
     | with_reducible apply And.intro
     | (refine callK.le (args' := [ptrA x, .list false 1 ((natsA L).take (k + 1)), .list false 1 (.lit (.int .u8 (c.toNat : Int)) :: (bytesA cs).take k)]) ?_ hmv1 ?_
        · simp [AllLe]
        rintro v τ ⟨rfl, eτ⟩
        rw [eτ]
        clear eτ τ
        simp
        refine callK.eq hmo ?_
        simp)
     | omega
  ·obtain rfl : k = e := by omega
   have hcnd2 : ¬ ((true = true) ∧ k < L.length) := fun e => hlt e.2
   rw [if_neg hlt, h.put_self]
   have hlt' : ¬ k < L.length := hlt
   have : ¬ (k : Int) < L.length := by omega
   simp [hlt]
end Go.Proofs.YtlmdbcgceijlnaaGreat
namespace Go.Proofs.YtlmdbcgceijlnaaGreat
open Go Go.AL Go.Sp
theorem cellAt_out {s : Sp} (h : s.good) {j : Nat} (hj : ¬ j < s.n) : cellAt s j = .zero := by
 unfold cellAt
 rw [List.getElem?_eq_none (by rw [h.len]; omega)]; rfl
theorem cellAt_nullS : ∀ (L : List Nat) {s : Sp}, s.good → (∀ j ∈ L, j < s.n ∧ attrAt s.cells j = false) → ∀ j, cellAt (nullS s L) j = if j ∈ L then chP (cellAt s j) 0 else cellAt s j
 | [], s, _, _, j => by simp [nullS]
 | a :: L, s, h, w, j => by
  obtain ⟨a1, a2⟩ := w a (by simp)
  have kp := keep_put (KeepA.refl h) (a : Nat) 0
  have ih := cellAt_nullS L kp.same.1 (fun i hi => by rw [kp.same.n, kp.attr]; exact w i (List.mem_cons_of_mem _ hi)) j
  show cellAt (nullS (s.put (a : Nat) 0) L) j = _
  rw [ih, cellAt_put h a1 a2]
  by_cases c1 : j ∈ L
  ·rw [if_pos c1, if_pos (List.mem_cons_of_mem _ c1)]
   split <;> rfl
  ·rw [if_neg c1]
   by_cases c2 : j = a
   ·rw [if_pos c2, if_pos (by rw [c2]; simp)]; rfl
   ·rw [if_neg c2, if_neg (by simp [c1, c2])]
theorem mem_places {s : Sp} (h : s.good) {a : Nat} (ha : a < s.n) (hat : attrAt s.cells a = true) (j : Nat) : j ∈ Sp.places s.cells a ↔ j < s.n ∧ attrAt s.cells j = false ∧ startS s.cells j = (a : Nat) := by
 constructor
 ·exact with_places h ha hat
 ·rintro ⟨h1, h2, h3⟩
  have hc : ¬ s.count = 0 := fun e => by rw [count0 h e] at hat; cases hat
  obtain ⟨b, hb⟩ := in_field h h1 hc h2
  have : b = a := by have := hb.start; omega
  rw [← this]; exact hb.mem
theorem nullS_cur : ∀ (L : List Nat) (s : Sp), (nullS s L).cursor = s.cursor
 | [], _ => rfl
 | a :: L, s => (nullS_cur L (s.put (a : Nat) 0)).trans (put_same _ _ _).2.2
def unpC (s : Sp) (D : List Nat) (j : Nat) : Cell :=
 if attrAt s.cells j = true then (if j ∈ D ∧ (fldAt s j).prot = false then clr (cellAt s j) else cellAt s j)
 else if 0 ≤ startS s.cells j ∧ (startS s.cells j).toNat ∈ D ∧ (fldAt s (startS s.cells j).toNat).prot = false then chP (cellAt s j) 0 else cellAt s j
theorem fldAt_cell (s : Sp) (a : Nat) : fldAt s a = fld (cellAt s a).fa := rfl
theorem unpC_step {s t : Sp} (h : s.good) {D : List Nat} {a : Nat} (ha : a < s.n) (hat : attrAt s.cells a = true) (hD : a ∉ D) (k : KeepA s t) (hc : ∀ j, j < s.n → cellAt t j = unpC s D j) : ∀ j, j < s.n → cellAt (unprot1 t a) j = unpC s (a :: D) j := fun j hj => by
 have hca : cellAt t a = cellAt s a := by
  rw [hc a ha]; unfold unpC; rw [if_pos hat, if_neg (fun e => hD e.1)]
 have hfa : fldAt t a = fldAt s a := by rw [fldAt_cell, fldAt_cell, hca]
 have htn := k.same.n
 have htg := k.same.1
 unfold unprot1
 rw [hfa]
 by_cases hp : (fldAt s a).prot = true
 ·rw [if_pos hp, hc j hj]
  unfold unpC
  have e1 : (j ∈ a :: D ∧ (fldAt s j).prot = false) ↔ (j ∈ D ∧ (fldAt s j).prot = false) := by
   constructor
   ·rintro ⟨h1, h2⟩
    rcases List.mem_cons.1 h1 with rfl | h3
    ·rw [hp] at h2; cases h2
    ·exact ⟨h3, h2⟩
   ·rintro ⟨h1, h2⟩; exact ⟨List.mem_cons_of_mem _ h1, h2⟩
  have e2 : (0 ≤ startS s.cells j ∧ (startS s.cells j).toNat ∈ a :: D ∧ (fldAt s (startS s.cells j).toNat).prot = false) ↔ (0 ≤ startS s.cells j ∧ (startS s.cells j).toNat ∈ D ∧ (fldAt s (startS s.cells j).toNat).prot = false) := by
   constructor
   ·rintro ⟨h0, h1, h2⟩
    rcases List.mem_cons.1 h1 with h3 | h3
    ·rw [h3, hp] at h2; cases h2
    ·exact ⟨h0, h3, h2⟩
   ·rintro ⟨h0, h1, h2⟩; exact ⟨h0, List.mem_cons_of_mem _ h1, h2⟩
  simp only [e1, e2]
 ·have hp' : (fldAt s a).prot = false := by simpa using hp
  rw [if_neg hp]
  have hpl : Sp.places t.cells a = Sp.places s.cells a := places_congr (keep_len k h) k.attr a
  have hm := mem_places h ha hat
  have hw : ∀ i ∈ Sp.places s.cells a, i < t.n ∧ attrAt t.cells i = false := fun i hi => by
   rw [htn, k.attr]; exact ⟨((hm i).1 hi).1, ((hm i).1 hi).2.1⟩
  have kn := keep_null htg (Sp.places s.cells a)
  rw [hpl, cellAt_unmod kn.same.1 (by rw [kn.same.n, htn]; exact ha) (by rw [kn.attr, k.attr]; exact hat), cellAt_nullS _ htg hw]
  by_cases e : j = a
  ·subst e
   rw [if_pos rfl, if_neg (fun e => by have := ((hm j).1 e).2.1; rw [hat] at this; cases this), hca]
   unfold unpC
   rw [if_pos hat, if_pos ⟨by simp, hp'⟩]
  ·rw [if_neg e, hc j hj]
   by_cases hja : attrAt s.cells j = true
   ·rw [if_neg (fun e => by have := ((hm j).1 e).2.1; rw [hja] at this; cases this)]
    unfold unpC
    rw [if_pos hja, if_pos hja]
    have e1 : (j ∈ a :: D ∧ (fldAt s j).prot = false) ↔ (j ∈ D ∧ (fldAt s j).prot = false) := by simp [e]
    simp only [e1]
   ·have hjf : attrAt s.cells j = false := by simpa using hja
    by_cases hs : startS s.cells j = (a : Nat)
    ·rw [if_pos ((hm j).2 ⟨hj, hjf, hs⟩)]
     unfold unpC
     rw [if_neg hja, if_neg hja, hs]
     simp only [Int.toNat_natCast]
     rw [if_neg (fun e => hD e.2.1), if_pos ⟨by omega, by simp, hp'⟩]
    ·rw [if_neg (fun e => hs ((hm j).1 e).2.2)]
     unfold unpC
     rw [if_neg hja, if_neg hja]
     have e2 : (0 ≤ startS s.cells j ∧ (startS s.cells j).toNat ∈ a :: D ∧ (fldAt s (startS s.cells j).toNat).prot = false) ↔ (0 ≤ startS s.cells j ∧ (startS s.cells j).toNat ∈ D ∧ (fldAt s (startS s.cells j).toNat).prot = false) := by
      constructor
      ·rintro ⟨h0, h1, h2⟩
       rcases List.mem_cons.1 h1 with h3 | h3
       ·omega
       ·exact ⟨h0, h3, h2⟩
      ·rintro ⟨h0, h1, h2⟩; exact ⟨h0, List.mem_cons_of_mem _ h1, h2⟩
     simp only [e2]
theorem unpC_fold {s : Sp} (h : s.good) : ∀ (L D : List Nat) (t : Sp), (∀ a ∈ L, a < s.n ∧ attrAt s.cells a = true ∧ a ∉ D) → L.Nodup → KeepA s t → (∀ j, j < s.n → cellAt t j = unpC s D j) → ∀ j, j < s.n → cellAt (L.foldl unprot1 t) j = unpC s (L.reverse ++ D) j
 | [], D, t, _, _, _, hc, j, hj => hc j hj
 | a :: L, D, t, hl, hnd, k, hc, j, hj => by
  obtain ⟨a1, a2, a3⟩ := hl a (by simp)
  have hnd' := List.nodup_cons.1 hnd
  have hs := unpC_step h a1 a2 a3 k hc
  have kp := k.trans (keep_unprot1 k.same.1 (a := a) (by rw [k.same.n]; exact a1) (by rw [k.attr]; exact a2))
  have := unpC_fold h L (a :: D) (unprot1 t a) (fun b hb => by
   obtain ⟨b1, b2, b3⟩ := hl b (List.mem_cons_of_mem _ hb)
   refine ⟨b1, b2, fun e => ?_⟩
   rcases List.mem_cons.1 e with rfl | e
   ·exact hnd'.1 hb
   ·exact b3 e) hnd'.2 kp hs j hj
  rw [List.foldl_cons, this]
  simp
theorem unprot1_cur (s : Sp) (a : Nat) : (unprot1 s a).cursor = s.cursor := by
 unfold unprot1
 split
 ·rfl
 ·exact nullS_cur _ _
theorem unprots_cur : ∀ (L : List Nat) (s : Sp), (L.foldl unprot1 s).cursor = s.cursor
 | [], _ => rfl
 | a :: L, s => (unprots_cur L (unprot1 s a)).trans (unprot1_cur s a)
theorem attrs_nodup {s : Sp} (h : s.good) : s.attrs.Nodup := by
 rw [attrs_eq s h]
 exact List.Pairwise.sublist List.filter_sublist List.nodup_range
theorem mem_attrs' {s : Sp} (h : s.good) (a : Nat) : a ∈ s.attrs ↔ a < s.n ∧ attrAt s.cells a = true := by
 rw [attrs_eq s h, List.mem_filter, List.mem_range]; rfl
def unpD (s : Sp) (j : Nat) : Cell :=
 if attrAt s.cells j = true then (if (fldAt s j).prot = false then clr (cellAt s j) else cellAt s j)
 else if openS s j = true then chP (cellAt s j) 0 else cellAt s j
theorem unpC_all {s : Sp} (h : s.good) (hc : ¬ s.count = 0) {D : List Nat} (hD : ∀ a, a ∈ D ↔ a ∈ s.attrs) {j : Nat} (hj : j < s.n) : unpC s D j = unpD s j := by
 unfold unpC unpD
 by_cases hja : attrAt s.cells j = true
 ·rw [if_pos hja, if_pos hja]
  have : j ∈ D := (hD j).2 ((mem_attrs' h j).2 ⟨hj, hja⟩)
  simp only [this, true_and]
 ·rw [if_neg hja, if_neg hja]
  have hjf : attrAt s.cells j = false := by simpa using hja
  obtain ⟨a, ha⟩ := in_field h hj hc hjf
  have hm : a ∈ D := (hD a).2 ((mem_attrs' h a).2 ⟨ha.lt, ha.attr⟩)
  have hs := ha.start
  unfold openS
  rw [hs, hjf]
  simp [hm]
theorem unprot_cells {s : Sp} (h : s.good) (hc : ¬ s.count = 0) {j : Nat} (hj : j < s.n) : cellAt (s.attrs.foldl unprot1 s) j = unpD s j := by
 have h0 : ∀ j, j < s.n → cellAt s j = unpC s [] j := fun j _ => by unfold unpC; simp
 rw [unpC_fold h s.attrs [] s (fun a ha => ⟨(attr_mem h a ha).1, (attr_mem h a ha).2, by simp⟩) (attrs_nodup h) (.refl h) h0 j hj]
 exact unpC_all h hc (fun a => by simp) hj
def unpA (s : Sp) (k : Nat) : Sp := (List.range k).foldl (fun t n => if decide (startS s.cells n < 0) || !(fldAt s (startS s.cells n).toNat).prot then t.put (n : Nat) 0 else t) s
theorem unpA_succ (s : Sp) (k : Nat) : unpA s (k + 1) = if decide (startS s.cells k < 0) || !(fldAt s (startS s.cells k).toNat).prot then (unpA s k).put (k : Nat) 0 else unpA s k := by
 unfold unpA; rw [List.range_succ, List.foldl_append]; rfl
theorem unpA_keep {s : Sp} (h : s.good) : ∀ k, KeepA s (unpA s k)
 | 0 => .refl h
 | k + 1 => by
  rw [unpA_succ]
  split
  ·exact keep_put (unpA_keep h k) _ _
  ·exact unpA_keep h k
theorem unpA_cur (s : Sp) : ∀ k, (unpA s k).cursor = s.cursor
 | 0 => rfl
 | k + 1 => by
  rw [unpA_succ]
  split
  ·exact (put_same _ _ _).2.2.trans (unpA_cur s k)
  ·exact unpA_cur s k
theorem cellAt_unpA {s : Sp} (h : s.good) (j : Nat) : ∀ k, k ≤ s.n → cellAt (unpA s k) j = if j < k ∧ openS s j = true then chP (cellAt s j) 0 else cellAt s j
 | 0, _ => by simp [unpA]
 | k + 1, hk => by
  have ih := cellAt_unpA h j k (by omega)
  have kp := unpA_keep h k
  rw [unpA_succ]
  by_cases hc : (decide (startS s.cells k < 0) || !(fldAt s (startS s.cells k).toNat).prot) = true
  ·rw [if_pos hc]
   by_cases hka : attrAt s.cells k = true
   ·rw [put_attr (by rw [at_attr (by rw [kp.same.n]; omega), kp.attr]; exact hka), ih]
    have ho : openS s k = false := by unfold openS; rw [hka]; rfl
    by_cases e : j = k
    ·subst e; rw [ho]; simp
    ·have : (j < k + 1 ∧ openS s j = true) ↔ (j < k ∧ openS s j = true) := by rw [show j < k + 1 ↔ j < k from by omega]
     simp only [this]
   ·have hkf : attrAt s.cells k = false := by simpa using hka
    have ho : openS s k = true := by
     unfold openS; rw [hkf]
     by_cases h0 : startS s.cells k < 0
     ·rw [decide_eq_false (by omega)]; rfl
     ·rw [decide_eq_false h0] at hc
      simp at hc
      rw [hc]; simp
    rw [cellAt_put kp.same.1 (by rw [kp.same.n]; omega) (by rw [kp.attr]; exact hkf), ih]
    by_cases e : j = k
    ·subst e; rw [if_pos rfl, if_neg (by omega), if_pos ⟨by omega, ho⟩]; rfl
    ·rw [if_neg e]
     have : (j < k + 1 ∧ openS s j = true) ↔ (j < k ∧ openS s j = true) := by rw [show j < k + 1 ↔ j < k from by omega]
     simp only [this]
  ·rw [if_neg hc, ih]
   have ho : openS s k = false := by
    simp only [Bool.or_eq_true, decide_eq_true_eq, Bool.not_eq_true', not_or, Bool.not_eq_false] at hc
    unfold openS
    rw [hc.2, decide_eq_true (by omega)]; simp
   by_cases e : j = k
   ·subst e; rw [ho]; simp
   ·have : (j < k + 1 ∧ openS s j = true) ↔ (j < k ∧ openS s j = true) := by rw [show j < k + 1 ↔ j < k from by omega]
    simp only [this]
def unm1 (s : Sp) (a : Nat) : Sp := if (fldAt s a).prot = true then s else unmod1 s a
theorem keep_unm1 {s : Sp} (h : s.good) {a : Nat} (ha : a < s.n) (hat : attrAt s.cells a = true) : KeepA s (unm1 s a) := by
 unfold unm1
 split
 ·exact .refl h
 ·exact keep_unmod1 h ha hat
theorem unm_fold {s : Sp} (h : s.good) : ∀ (L D : List Nat) (t : Sp), (∀ a ∈ L, a < s.n ∧ attrAt s.cells a = true ∧ a ∉ D) → L.Nodup → KeepA s t → (∀ j, cellAt t j = if j ∈ D ∧ (fldAt s j).prot = false then clr (cellAt s j) else cellAt s j) → ∀ j, cellAt (L.foldl unm1 t) j = if (j ∈ L ∨ j ∈ D) ∧ (fldAt s j).prot = false then clr (cellAt s j) else cellAt s j
 | [], D, t, _, _, _, hc, j => by rw [List.foldl_nil, hc j]; simp
 | a :: L, D, t, hl, hnd, k, hc, j => by
  obtain ⟨a1, a2, a3⟩ := hl a (by simp)
  have hnd' := List.nodup_cons.1 hnd
  have kp := k.trans (keep_unm1 k.same.1 (a := a) (by rw [k.same.n]; exact a1) (by rw [k.attr]; exact a2))
  have hca : cellAt t a = cellAt s a := by rw [hc a, if_neg (fun e => a3 e.1)]
  have hfa : fldAt t a = fldAt s a := by rw [fldAt_cell, fldAt_cell, hca]
  have hs : ∀ j, cellAt (unm1 t a) j = if j ∈ a :: D ∧ (fldAt s j).prot = false then clr (cellAt s j) else cellAt s j := fun j => by
   unfold unm1
   rw [hfa]
   by_cases hp : (fldAt s a).prot = true
   ·rw [if_pos hp, hc j]
    have : (j ∈ a :: D ∧ (fldAt s j).prot = false) ↔ (j ∈ D ∧ (fldAt s j).prot = false) := by
     constructor
     ·rintro ⟨h1, h2⟩
      rcases List.mem_cons.1 h1 with rfl | h3
      ·rw [hp] at h2; cases h2
      ·exact ⟨h3, h2⟩
     ·rintro ⟨h1, h2⟩; exact ⟨List.mem_cons_of_mem _ h1, h2⟩
    simp only [this]
   ·have hp' : (fldAt s a).prot = false := by simpa using hp
    rw [if_neg hp, cellAt_unmod k.same.1 (by rw [k.same.n]; exact a1) (by rw [k.attr]; exact a2)]
    by_cases e : j = a
    ·subst e
     rw [if_pos rfl, hca, if_pos ⟨by simp, hp'⟩]
    ·rw [if_neg e, hc j]
     have : (j ∈ a :: D ∧ (fldAt s j).prot = false) ↔ (j ∈ D ∧ (fldAt s j).prot = false) := by simp [e]
     simp only [this]
  rw [List.foldl_cons, unm_fold h L (a :: D) (unm1 t a) (fun b hb => by
   obtain ⟨b1, b2, b3⟩ := hl b (List.mem_cons_of_mem _ hb)
   refine ⟨b1, b2, fun e => ?_⟩
   rcases List.mem_cons.1 e with rfl | e
   ·exact hnd'.1 hb
   ·exact b3 e) hnd'.2 kp hs j]
  have : ((j ∈ L ∨ j ∈ a :: D) ∧ (fldAt s j).prot = false) ↔ ((j ∈ a :: L ∨ j ∈ D) ∧ (fldAt s j).prot = false) := by
   simp only [List.mem_cons]
   constructor
   ·rintro ⟨h1, h2⟩
    exact ⟨by rcases h1 with h1 | h1 | h1 <;> simp [h1], h2⟩
   ·rintro ⟨h1, h2⟩
    exact ⟨by rcases h1 with (h1 | h1) | h1 <;> simp [h1], h2⟩
  simp only [this]
theorem unm1_cur (s : Sp) (a : Nat) : (unm1 s a).cursor = s.cursor := by
 unfold unm1
 split <;> rfl
theorem unms_cur : ∀ (L : List Nat) (s : Sp), (L.foldl unm1 s).cursor = s.cursor
 | [], _ => rfl
 | a :: L, s => (unms_cur L (unm1 s a)).trans (unm1_cur s a)
theorem keep_unms {s t : Sp} (h : s.good) (k : KeepA s t) (L : List Nat) (hl : ∀ a ∈ L, a < s.n ∧ attrAt s.cells a = true) : KeepA s (L.foldl unm1 t) :=
 keep_fold _ (fun _s h _a h1 h2 => keep_unm1 h h1 h2) h L t k hl
def runpS (s : Sp) : Sp := ((unpA s s.n).attrs.foldl unm1 (unpA s s.n)).place (max (nextS ((unpA s s.n).attrs.foldl unm1 (unpA s s.n)) (s.n - 1)) 0)
theorem next_none {s : Sp} (h : s.good) (hc : s.count = 0) (n : Nat) : nextS s n = -1 := by
 unfold nextS
 have : (List.range s.n).find? (fun i => firstS s ((n + i + 1) % s.n)) = none := by
  rw [List.find?_eq_none]
  intro i _
  unfold firstS
  have : (s.at ((((n + i + 1) % s.n : Nat) : Int) - 1)).attr = false := by
   unfold Sp.at
   exact count0 h hc _
  rw [this]; simp
 rw [this]
theorem unp_eq {s : Sp} (h : s.good) : unprotS s = runpS s := by
 have kA := unpA_keep h s.n
 have hat : (unpA s s.n).attrs = s.attrs := kA.attrs h
 have kB := keep_unms h kA s.attrs (attr_mem h)
 unfold unprotS runpS
 rw [hat]
 have hfin : ∀ j, j < s.n → cellAt (s.attrs.foldl unm1 (unpA s s.n)) j = unpD s j := fun j hj => by
  have kl := keep_len kA h
  have hp : ∀ i, attrAt s.cells i = true → cellAt (unpA s s.n) i = cellAt s i := fun i hi => by
   rw [cellAt_unpA h i s.n (Nat.le_refl _), if_neg]
   rintro ⟨_, e⟩
   unfold openS at e; rw [hi] at e; simp at e
  have hf := unm_fold kA.same.1 s.attrs [] (unpA s s.n) (fun a ha => by
   obtain ⟨b1, b2⟩ := attr_mem h a ha
   exact ⟨by rw [kA.same.n]; exact b1, by rw [kA.attr]; exact b2, by simp⟩) (attrs_nodup h) (.refl kA.same.1) (fun j => by simp) j
  rw [hf]
  unfold unpD
  by_cases hja : attrAt s.cells j = true
  ·rw [if_pos hja]
   have hm : j ∈ s.attrs := (mem_attrs' h j).2 ⟨hj, hja⟩
   have e1 : fldAt (unpA s s.n) j = fldAt s j := by rw [fldAt_cell, fldAt_cell, hp j hja]
   rw [e1, hp j hja]
   simp [hm]
  ·rw [if_neg hja]
   have hm : ¬ (j ∈ s.attrs ∨ j ∈ ([] : List Nat)) := by
    rintro (e | e)
    ·exact hja ((mem_attrs' h j).1 e).2
    ·simp at e
   rw [if_neg (fun e => hm e.1), cellAt_unpA h j s.n (Nat.le_refl _)]
   simp [hj]
 by_cases hc : s.count = 0
 ·rw [if_pos hc]
  have kn := keep_null h (List.range s.n)
  have hE : nullS s (List.range s.n) = s.attrs.foldl unm1 (unpA s s.n) := by
   refine sp_ext ?_ ?_ ?_ ((keep_len kn h).trans (keep_len kB h).symm) fun j => ?_
   ·rw [kn.same.2.1, kB.same.2.1]
   ·rw [kn.same.2.2, kB.same.2.2]
   ·rw [nullS_cur, unms_cur, unpA_cur]
   ·by_cases hj : j < s.n
    ·rw [hfin j hj, cellAt_nullS _ h (fun i hi => ⟨List.mem_range.1 hi, count0 h hc i⟩), if_pos (List.mem_range.2 hj)]
     unfold unpD openS
     rw [count0 h hc j, startS_none hc]
     simp
    ·rw [cellAt_out kn.same.1 (by rw [kn.same.n]; exact hj), cellAt_out kB.same.1 (by rw [kB.same.n]; exact hj)]
  rw [← hE]
  have hc2 : (nullS s (List.range s.n)).count = 0 := by
   cases Nat.eq_zero_or_pos (nullS s (List.range s.n)).count with
   | inl e => exact e
   | inr e =>
    obtain ⟨b, hb, hbt⟩ := count_some e
    rw [kn.attr, count0 h hc] at hbt; cases hbt
  rw [next_none kn.same.1 hc2]
  rfl
 ·rw [if_neg hc]
  have kP := keep_fold unprot1 (fun _s h _a h1 h2 => keep_unprot1 h h1 h2) h s.attrs s (.refl h) (attr_mem h)
  have hE : s.attrs.foldl unprot1 s = s.attrs.foldl unm1 (unpA s s.n) := by
   refine sp_ext ?_ ?_ ?_ ((keep_len kP h).trans (keep_len kB h).symm) fun j => ?_
   ·rw [kP.same.2.1, kB.same.2.1]
   ·rw [kP.same.2.2, kB.same.2.2]
   ·rw [unprots_cur, unms_cur, unpA_cur]
   ·by_cases hj : j < s.n
    ·rw [hfin j hj, unprot_cells h hc hj]
    ·rw [cellAt_out kP.same.1 (by rw [kP.same.n]; exact hj), cellAt_out kB.same.1 (by rw [kB.same.n]; exact hj)]
  rw [hE]
end Go.Proofs.YtlmdbcgceijlnaaGreat
