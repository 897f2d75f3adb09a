/-
  Orders, one behind the other.
-/
import Derived.Test.YtnlggjbcdienfaaGreatDoorPart19
namespace Go.Proofs.YtnlggjbcdienfaaGreatDoor
open Go Go.AL Go.Sp

def runOps : List Op → Pen → Nat → Pen × Nat × Nat
  | [], p, k => (p, k, 0)
  | o :: os, p, k => if (p.do o).2 ≠ 0 then ((p.do o).1, k, (p.do o).2) else runOps os ((p.do o).1.mark o) (k + 1)
/-- What is said behind the last piece. -/
def endE (r : Pen × Nat × Nat) (e : Nat) : Pen × Nat × Nat := if r.2.2 ≠ 0 then r else (r.1, r.2.1, e)
theorem ordN_run : ∀ (n : Nat) (l : List UInt8) (p : Pen) (k : Nat), ordN n l p k = endE (runOps (allN n l).1 p k) (allN n l).2
  | 0, _, _, _ => rfl
  | _ + 1, [], _, _ => rfl
  | n + 1, c :: tl, p, k => by
    unfold ordN allN
    by_cases he : (opF (c :: tl)).1 = 0
    · rw [if_neg (by simp [he]), if_pos he]
      simp only [runOps]
      by_cases hd : (p.do (opF (c :: tl)).2.1).2 = 0
      · rw [if_neg (by simp [hd]), if_neg (by simp [hd])]
        exact ordN_run n _ _ _
      · rw [if_pos hd, if_pos hd]; simp [endE, hd]
    · rw [if_pos he, if_neg he]; rfl
theorem ordS_run (l : List UInt8) (p : Pen) (k : Nat) : ordS l p k = endE (runOps (allF l).1 p k) (allF l).2 := ordN_run _ _ _ _
/-- A piece that the scanner tells of bytes. -/
structure OpOk (m : Nat) (o : Op) : Prop where
  kind : o.kind = 0 ∨ isOrd (UInt8.ofNat o.kind) = true ∧ o.kind < 256
  addr : 0 ≤ o.addr
  text : o.text.length ≤ m
  pairs : o.pairs.length ≤ 256
theorem prsN_length (l : List UInt8) (n : Nat) : (prsN l n).length = n := by simp [prsN]
theorem attrF_length (l : List UInt8) : (attrF l).2.length ≤ 256 := by
  unfold attrF
  split
  · simp
  · rename_i c tl
    have := c.toNat_lt
    split
    · simp
    · split
      · rw [prsN_length]; omega
      · simp
theorem opF_ok {l : List UInt8} (h : l ≠ []) : OpOk l.length (opF l).2.1 := by
  rcases l with _ | ⟨c, tl⟩
  · exact absurd rfl h
  have hu : (untilO (c :: tl)).length ≤ (c :: tl).length := (List.takeWhile_sublist _).length_le
  by_cases hc : isOrd c = true
  · rcases isOrd_cases hc with rfl | rfl | rfl | rfl | rfl | rfl | rfl | rfl | rfl | rfl
    · rw [opF_5]; exact ⟨.inr ⟨(by decide : isOrd 5 = true), (by decide : 5 < 256)⟩, by simp, by simp, by simp⟩
    · rw [opF_8]; exact ⟨.inr ⟨(by decide : isOrd 8 = true), (by decide : 8 < 256)⟩, by simp, by simp, by simp⟩
    · rw [opF_17]; exact ⟨.inr ⟨(by decide : isOrd 17 = true), (by decide : 17 < 256)⟩, by simp, by simp, by simp⟩
    · rw [opF_18]; exact ⟨.inr ⟨(by decide : isOrd 18 = true), (by decide : 18 < 256)⟩, by simp, by simp, by simp⟩
    · rw [opF_19]; exact ⟨.inr ⟨(by decide : isOrd 19 = true), (by decide : 19 < 256)⟩, by simp, by simp, by simp⟩
    · rw [opF_29]; exact ⟨.inr ⟨(by decide : isOrd 29 = true), (by decide : 29 < 256)⟩, by simp, by simp, by simp⟩
    · rw [opF_40]
      refine ⟨.inr ⟨(by decide : isOrd 40 = true), (by decide : 40 < 256)⟩, by simp, by simp, ?_⟩
      show (prP tl).length ≤ 256
      unfold prP; split <;> simp
    · rw [opF_41]; exact ⟨.inr ⟨(by decide : isOrd 41 = true), (by decide : 41 < 256)⟩, by simp, by simp, attrF_length tl⟩
    · rw [opF_44]; exact ⟨.inr ⟨(by decide : isOrd 44 = true), (by decide : 44 < 256)⟩, by simp, by simp, attrF_length tl⟩
    · rw [opF_60]; exact ⟨.inr ⟨(by decide : isOrd 60 = true), (by decide : 60 < 256)⟩, by simp, by simp, by simp⟩
  · rw [opF_text c tl (by simpa using hc)]
    exact ⟨.inl rfl, by simp [txtOp], hu, by simp [txtOp]⟩
theorem allN_ok : ∀ (n : Nat) (l : List UInt8) (m : Nat), l.length ≤ m → ∀ o ∈ (allN n l).1, OpOk m o
  | 0, _, _, _ => fun o ho => by simp [allN] at ho
  | _ + 1, [], _, _ => fun o ho => by simp [allN] at ho
  | n + 1, c :: tl, m, hm => fun o ho => by
    have h1 := opF_ok (l := c :: tl) (by simp)
    have h2 := opF_len (l := c :: tl) (by simp)
    unfold allN at ho
    split at ho
    · rcases List.mem_cons.1 ho with rfl | ho
      · exact ⟨h1.kind, h1.addr, Nat.le_trans h1.text hm, h1.pairs⟩
      · exact allN_ok n _ m (by omega) o ho
    · simp at ho
theorem allF_ok {l : List UInt8} : ∀ o ∈ (allF l).1, OpOk l.length o := allN_ok _ _ _ (Nat.le_refl _)
theorem allN_count : ∀ (n : Nat) (l : List UInt8), (allN n l).1.length ≤ n
  | 0, _ => by simp [allN]
  | _ + 1, [] => by simp [allN]
  | n + 1, c :: tl => by
    unfold allN; split
    · have := allN_count n (opF (c :: tl)).2.2; simp; omega
    · simp
theorem allF_count (l : List UInt8) : (allF l).1.length ≤ l.length := allN_count _ _
/-- Where a run of orders is. -/
structure Or (σ ρ : Store) (q r z b9 b10 : Nat) (s : Sp) (k : Nat) (p : Pen) : Prop where
  pen : Pn ρ z q r p
  ok : PenOk s p
  sub : Store.sub (putS spO σ q r p.s) ρ
  i9 : ρ b9 = some [ptrA z]
  i10 : ρ b10 = some [.lit (.int .i64 k)]
theorem Or.next {σ ρ : Store} {q r z b9 b10 : Nat} {s : Sp} {k : Nat} {p : Pen} (h : Or σ ρ q r z b9 b10 s k p) {t : Nat} (ht : ρ t = none) (X : List AV) {p' : Pen} (hp : PenOk s p') (hz : σ z = none) (h10 : σ b10 = none) (n9 : ¬ b9 = z ∧ ¬ b9 = q ∧ ¬ b9 = r ∧ ¬ b9 = b10) (n10 : ¬ b10 = z ∧ ¬ b10 = q ∧ ¬ b10 = r) :
    Or σ ((pn (ρ.upd t X) z q r p').upd b10 [.lit (.int .i64 (k + 1 : Nat))]) q r z b9 b10 s (k + 1) p' := by
  have ht9 : ¬ b9 = t := by rintro rfl; rw [h.i9] at ht; cases ht
  have htq : ¬ t = q ∧ ¬ t = r := by
    have := h.pen.fresh ht
    exact ⟨fun e => this.2.2.1 e.symm, fun e => this.2.2.2.1 e.symm⟩
  have hP := (h.pen.new ht X).to p' hp.same.1
  refine ⟨⟨?_, hP.scr.upd ⟨Ne.symm n10.2.1, Ne.symm n10.2.2⟩ _, hP.zq, hP.zr⟩, hp, fun o => ?_, ?_, by simp⟩
  · simp only [supd_apply, if_neg (Ne.symm n10.1)]; exact hP.pen
  · by_cases e1 : o = q
    · subst e1; right; simp [pn, putS, Ne.symm n10.2.1, Ne.symm hP.zq]
    by_cases e2 : o = r
    · subst e2; right; simp [pn, putS, Ne.symm n10.2.2, Ne.symm hP.zr]
    rw [putS_at e1 e2]
    by_cases e3 : o = b10
    · subst e3; exact .inl h10
    by_cases e4 : o = z
    · subst e4; exact .inl hz
    have hs := h.sub o
    rw [putS_at e1 e2] at hs
    rw [supd_apply, if_neg e3, pn_at e4 e1 e2, supd_apply]
    split
    · rename_i e5; subst e5
      rcases hs with hs | hs
      · exact .inl hs
      · left; rw [hs, ht]
    · exact hs
  · simp only [supd_apply, if_neg n9.2.2.2]
    rw [pn_at n9.1 n9.2.1 n9.2.2.1, supd_apply, if_neg ht9]; exact h.i9
theorem parX_length (l : List UInt8) : (parX l).length = (allF l).1.length + if (allF l).2 = 0 then 0 else 1 := by
  unfold parX; rw [List.length_append, List.length_map]; congr 1; split <;> rfl
theorem parX_get_ok {l : List UInt8} {k : Nat} (h : k < (allF l).1.length) (h2 : k < (parX l).length) : (parX l)[k] = okX (allF l).1[k] := by
  rw [List.getElem_eq_iff]
  unfold parX
  rw [List.getElem?_append_left (by simpa using h), List.getElem?_map, List.getElem?_eq_getElem h]; rfl
theorem parX_get_bad {l : List UInt8} {k : Nat} (h : ¬ k < (allF l).1.length) (h2 : k < (parX l).length) : (allF l).2 ≠ 0 ∧ (parX l)[k] = badX (allF l).2 := by
  have hl := parX_length l
  by_cases he : (allF l).2 = 0
  · rw [if_pos he] at hl; omega
  · refine ⟨he, ?_⟩
    rw [if_neg he] at hl
    have hk : k = (allF l).1.length := by omega
    subst hk
    rw [List.getElem_eq_iff]
    unfold parX
    rw [List.getElem?_append_right (by simp), if_neg he]
    simp
def pen0 (s : Sp) (n : Nat) : Pen := ⟨s, n, .zero, false⟩
set_option maxRecDepth 8000 in
set_option maxHeartbeats 2000000 in
theorem orders_calls {q r : Nat} {s : Sp} {σ : Store} (h : Prg σ q r s) (o : Bool) (l : List UInt8) (hl : l.length ≤ 1000000000) (n : Int) : ACalls Tryz.prog 10 [ptrA q, .list o 1 (bytesA l), .lit (.int .i64 n)] σ fun v σ' =>
    v = .tuple [.lit (.int .i64 ((ordS l (pen0 s (wrap s.n n)) 0).1.n : Nat)), .lit (.int .i64 ((ordS l (pen0 s (wrap s.n n)) 0).2.1 : Nat)), .lit (.int .i64 ((ordS l (pen0 s (wrap s.n n)) 0).2.2 : Nat))] ∧ σ' = putS spO σ q r (ordS l (pen0 s (wrap s.n n)) 0).1.s := by
  have hsz := fun τ (hτ : Prg τ q r s) => size_calls hτ
  have hw := fun τ => swrap_calls s n τ
  have hwl := wrap_lt s.n_pos n
  have hnl := s.n_le
  have hpc := fun τ => parse_calls2 false l τ
  have hcnt := allF_count l
  have hok := @allF_ok l
  generalize wrap s.n n = m at *
  rw [ordS_run]
  refine ACalls.of_awpY follows (st := st10) (plans := pl10) (n := 57) Tryz.func10 rfl (by kernel_rfl) (by kernel_rfl) (by kernel_rfl) ?_
  simp +contextual [ite_free]
  intro b6 h6 b7 a1 a2 h7 b8 a3 a4 a5 a6 h8
  have f6 := h.fresh h6
  have f7 := h.fresh h7
  have f8 := h.fresh h8
  have l6 := (Lv.refl h).new h6 [.lit (.int .i64 0)]
  have l7 := l6.new (b := b7) (by simp [a1, h7]) [.lit (.int .i64 0)]
  have l8 := l7.new (b := b8) (by simp [a3, a5, h8]) [.lit (.int .i64 0)]
  refine callK.of (hsz _ l8.prg) ?_
  rintro v σ2 ⟨rfl, rfl⟩
  simp
  refine callK.of (hw _) ?_
  rintro v σ2 ⟨rfl, rfl⟩
  simp +contextual [ite_free]
  intro z z1 z2 z3 z4 z5 z6 hz b9 y1 y2 y3 y4 y5 y6 y7 y8 h9 b10 w1 w2 w3 w4 w5 w6 w7 w8 w9 w10 h10
  have fz := h.fresh hz
  have f9 := h.fresh h9
  have f10 := h.fresh h10
  have hzero : ∀ a b c d e f : AV, True := fun _ _ _ _ _ _ => trivial
  refine callK.of (hpc _) ?_
  rintro v σ2 ⟨bp, hbp, rfl, rfl⟩
  simp only [supd_apply, ite_none] at hbp
  obtain ⟨p10, p9, pz, p8, p7, p6, hbp⟩ := hbp
  have hrun : ∀ k, k ≤ (allF l).1.length → True := fun _ _ => trivial
  generalize hR : endE (runOps (allF l).1 (pen0 s m) 0) (allF l).2 = R at *
  have hit := parse_iter bp false l hl ((((((((σ.upd b6 [.lit (.int .i64 0)]).upd b7 [.lit (.int .i64 0)]).upd b8 [.lit (.int .i64 0)]).upd z (penO q (pen0 s m))).upd b9 [ptrA z]).upd b10 [.lit (.int .i64 0)]).upd bp [.list false 1 (bytesA l)])) (by simp)
  simp
  refine codeYK.range follows (st := st10) (plans := pl10) hit (by simp) (by simp) (by
      intro x hx
      unfold parX at hx
      rcases List.mem_append.1 hx with hx | hx
      · obtain ⟨_, _, rfl⟩ := List.mem_map.1 hx; rfl
      · split at hx
        · cases hx
        · simp at hx; subst hx; rfl) (by kernel_rfl) (by kernel_rfl) (by kernel_rfl)
    (fun k ρ E => ∃ p, Or σ ρ q r z b9 b10 s k p ∧ k ≤ (allF l).1.length ∧ endE (runOps ((allF l).1.drop k) p k) (allF l).2 = R ∧ ρ b6 = some [.lit (.int .i64 0)] ∧ ρ b7 = some [.lit (.int .i64 0)] ∧ ρ b8 = some [.lit (.int .i64 0)])
    (fun c ρ E => c = .ret ∧ Store.sub (putS spO σ q r R.1.s) ρ ∧ ρ b6 = some [.lit (.int .i64 (R.1.n : Nat))] ∧ ρ b7 = some [.lit (.int .i64 (R.2.1 : Nat))] ∧ ρ b8 = some [.lit (.int .i64 (R.2.2 : Nat))])
    _ ?_ (Store.sub_refl _) ?_ ?_ ?_
  · have lz := l8.new (b := z) (by simp [z1, z3, z5, hz]) (penO q (pen0 s m))
    have l9 := lz.new (b := b9) (by simp [y1, y3, y5, y7, h9]) [ptrA z]
    have l10 := l9.new (b := b10) (by simp [w1, w3, w5, w7, w9, h10]) [.lit (.int .i64 0)]
    have lb := l10.new (b := bp) (by simp [p10, p9, pz, p8, p7, p6, hbp]) [.list false 1 (bytesA l)]
    refine ⟨pen0 s m, ⟨⟨?_, lb.prg, fz.2.2.1, fz.2.2.2⟩, ⟨SameN.refl h.good, hwl⟩, lb.sub, ?_, ?_⟩, Nat.zero_le _, ?_, ?_, ?_, ?_⟩
    · simp [Ne.symm pz, w4, y2, penO, pen0, Cell.zero, byteA_zero]
    · simp [Ne.symm p9, w2]
    · simp [Ne.symm p10]
    · rw [List.drop_zero]; exact hR
    · simp [Ne.symm p6, w10, y8, z6, a6, a2]
    · simp [Ne.symm p7, w8, y6, z4, a4]
    · simp [Ne.symm p8, w6, y4, z2]
  · rintro k hk ρ E ⟨p, hO, hkl, hRk, i6, i7, i8⟩
    have hPf := fun b hb => hO.pen.fresh (b := b) hb
    have hpn := hO.pen.pen
    unfold penO at hpn
    by_cases hlt : k < (allF l).1.length
    · rw [parX_get_ok hlt hk]
      rw [List.drop_eq_getElem_cons hlt] at hRk
      have ho := hok _ (List.getElem_mem hlt)
      generalize (allF l).1[k] = op at *
      have hdo := fun τ (hτ : Pn τ z q r p) => pdo_calls hτ (by have := hO.ok.lt; rw [hO.ok.same.n]; exact this) op ho.kind ho.addr (Nat.le_trans ho.text hl) (Nat.le_trans ho.pairs (by decide))
      have hpo := hO.ok.do op
      simp only [runOps] at hRk
      have hoc : opA op = .agg (opC op) := rfl
      rw [okX, hoc, opC_eq]
      rw [hoc, opC_eq] at hdo
      generalize hX : [AV.lit (.int .i64 op.kind), .lit (.int .i64 op.addr), byteA op.code, .lit (.bool op.graph), byteA op.fa, .list false 2 (pairsA op.pairs), .list false 1 (bytesA op.text)] = X at *
      generalize hd : p.do op = d at *
      obtain ⟨p', e⟩ := d
      dsimp only at hdo hpo hRk
      rw [← hX]
      simp
      intro t ht
      obtain ⟨t1, t2, t3, t4, t5, t6⟩ := hPf t ht
      have k9 : ¬ b9 = t := by rintro rfl; rw [hO.i9] at ht; cases ht
      have k10 : ¬ b10 = t := by rintro rfl; rw [hO.i10] at ht; cases ht
      have k6 : ¬ b6 = t := by rintro rfl; rw [i6] at ht; cases ht
      have k7 : ¬ b7 = t := by rintro rfl; rw [i7] at ht; cases ht
      have k8 : ¬ b8 = t := by rintro rfl; rw [i8] at ht; cases ht
      have hT := hO.pen.new ht X
      have hP2 : Pn (pn (ρ.upd t X) z q r p') z q r p' := hT.to p' hpo.same.1
      have hsub2 : Store.sub (putS spO σ q r p'.s) (pn (ρ.upd t X) z q r p') := fun o => by
        have hn := hO.next ht X hpo hz h10 ⟨y1, f9.2.2.1, f9.2.2.2, w2⟩ ⟨w3, f10.2.2.1, f10.2.2.2⟩
        have := hn.sub o
        by_cases e1 : o = b10
        · subst e1; left; rw [putS_at f10.2.2.1 f10.2.2.2]; exact h10
        · rwa [supd_apply, if_neg e1] at this
      have s9 : pn (ρ.upd t X) z q r p' b9 = some [ptrA z] := by rw [pn_at y1 f9.2.2.1 f9.2.2.2, supd_apply, if_neg k9]; exact hO.i9
      have s10 : pn (ρ.upd t X) z q r p' b10 = some [.lit (.int .i64 k)] := by rw [pn_at w3 f10.2.2.1 f10.2.2.2, supd_apply, if_neg k10]; exact hO.i10
      have s6 : pn (ρ.upd t X) z q r p' b6 = some [.lit (.int .i64 0)] := by rw [pn_at z6 f6.2.2.1 f6.2.2.2, supd_apply, if_neg k6]; exact i6
      have s7 : pn (ρ.upd t X) z q r p' b7 = some [.lit (.int .i64 0)] := by rw [pn_at z4 f7.2.2.1 f7.2.2.2, supd_apply, if_neg k7]; exact i7
      have s8 : pn (ρ.upd t X) z q r p' b8 = some [.lit (.int .i64 0)] := by rw [pn_at z2 f8.2.2.1 f8.2.2.2, supd_apply, if_neg k8]; exact i8
      have st : pn (ρ.upd t X) z q r p' t = some X := by rw [pn_at t2 t5 t6]; simp
      have sz := hP2.pen
      unfold penO at sz
      have hfinal : ∀ B, (p'.mark op).texts = B → Or σ (((pn (ρ.upd t X) z q r p').upd z [ptrA q, .lit (.int .i64 p'.n), byteA p'.look.char, .lit (.bool p'.look.attr), byteA p'.look.fa, byteA p'.look.high, byteA p'.look.color, byteA p'.look.set, .lit (.bool B)]).upd b10 [.lit (.int .i64 (k + 1 : Nat))]) q r z b9 b10 s (k + 1) (p'.mark op) := fun B hB => by
        have hn := hO.next ht X (hpo.mark op) hz h10 ⟨y1, f9.2.2.1, f9.2.2.2, w2⟩ ⟨w3, f10.2.2.1, f10.2.2.2⟩
        have e1 : (pn (ρ.upd t X) z q r p').upd z (penO q (p'.mark op)) = pn (ρ.upd t X) z q r (p'.mark op) := by
          rw [pn_pen hP2 (p'.mark op) rfl, pn_pn _ _ hT.scr.ne hT.zq hT.zr]
        have e2 : penO q (p'.mark op) = [ptrA q, .lit (.int .i64 p'.n), byteA p'.look.char, .lit (.bool p'.look.attr), byteA p'.look.fa, byteA p'.look.high, byteA p'.look.color, byteA p'.look.set, .lit (.bool B)] := by rw [← hB]; rfl
        rw [← e2, e1]; exact hn
      have hw1 : IntKind.i64.wrap ((k : Int) + 1) = ((k + 1 : Nat) : Int) := wrap_i64 (by omega) (by omega)
      rw [hX]
      simp [k9, hO.i9]
      rw [← hX] at st
      have hX0 : X[0]? = some (.lit (.int .i64 op.kind)) := by rw [← hX]; rfl
      have hX7 : mkAV true (List.take 7 X) = some (.agg X) := by rw [← hX]; rfl
      have hXl : 7 ≤ X.length := by rw [← hX]; simp
      have hXd : X.map AV.drop1 = X := by rw [← hX]; simp
      have hXd2 : X.map (AV.drop1 ∘ AV.drop1) = X := by rw [← List.map_map, hXd, hXd]
      simp [hX7, hXl, hXd]
      refine callK.of (hdo _ hT) ?_
      rintro v σ3 ⟨rfl, rfl⟩
      have st' : pn (ρ.upd t X) z q r p' t = some X := by rw [pn_at t2 t5 t6]; simp
      by_cases e0 : e = 0
      · subst e0
        rw [if_neg (by simp)] at hRk
        by_cases kk0 : op.kind = 0
        · have hf := hfinal true (by simp [Pen.mark, kk0])
          simp [s9, s10, st', hX0, kk0, sz, w3]
          rw [hw1]
          refine ⟨_, Store.sub_refl _, _, hf, by omega, hRk, ?_, ?_, ?_⟩
          · simp [w10, z6, s6]
          · simp [w8, z4, s7]
          · simp [w6, z2, s8]
        · have kk0' : ¬ (op.kind : Int) = 0 := by omega
          by_cases kk8 : op.kind = 8
          · have hf := hfinal true (by simp [Pen.mark, kk8])
            simp [s9, s10, st', hX0, kk8, sz, w3]
            rw [hw1]
            refine ⟨_, Store.sub_refl _, _, hf, by omega, hRk, ?_, ?_, ?_⟩
            · simp [w10, z6, s6]
            · simp [w8, z4, s7]
            · simp [w6, z2, s8]
          · have kk8' : ((op.kind : Int) == 8) = false := by simp; omega
            have hf := hfinal false (by simp [Pen.mark, kk0, kk8])
            simp [s9, s10, st', hX0, kk0, kk8', sz, w3]
            rw [hw1]
            refine ⟨_, Store.sub_refl _, _, hf, by omega, hRk, ?_, ?_, ?_⟩
            · simp [w10, z6, s6]
            · simp [w8, z4, s7]
            · simp [w6, z2, s8]
      · rw [if_pos e0] at hRk
        have e0' : ¬ (e : Int) = 0 := by omega
        have hRe : R = (p', k, e) := by rw [← hRk]; simp [endE, e0]
        subst hRe
        simp [s9, s10, e0, sz, s6, s7]
        refine ⟨?_, ?_⟩
        all_goals
          have hfr : Store.sub (putS spO σ q r p'.s) ((((pn (ρ.upd t X) z q r p').upd b6 [.lit (.int .i64 p'.n)]).upd b7 [.lit (.int .i64 k)]).upd b8 [.lit (.int .i64 e)]) := fun o => by
            by_cases c8 : o = b8
            · subst c8; left; rw [putS_at f8.2.2.1 f8.2.2.2]; exact h8
            by_cases c7 : o = b7
            · subst c7; left; rw [putS_at f7.2.2.1 f7.2.2.2]; exact h7
            by_cases c6 : o = b6
            · subst c6; left; rw [putS_at f6.2.2.1 f6.2.2.2]; exact h6
            simp only [supd_apply, if_neg c8, if_neg c7, if_neg c6]; exact hsub2 o
          simp [s7, s8, a1, a3, a5, w9]
          exact ⟨_, Store.sub_refl _, hfr, by simp [a2, a6], by simp [a4], by simp⟩
    · obtain ⟨he, hg⟩ := parX_get_bad hlt hk
      rw [hg, badX]
      have hz : opA {} = .agg [.lit (.int .i64 0), .lit (.int .i64 0), .lit (.int .u8 0), .lit (.bool false), .lit (.int .u8 0), .list false 2 [], .list false 1 []] := rfl
      rw [hz]
      have he' : ¬ ((allF l).2 : Int) = 0 := by omega
      have hko : k = (allF l).1.length := by omega
      subst hko
      rw [List.drop_length] at hRk
      have hRe : R = (p, (allF l).1.length, (allF l).2) := by rw [← hRk]; simp [runOps, endE]
      subst hRe
      simp [he]
      intro t ht
      have k9 : ¬ b9 = t := by rintro rfl; rw [hO.i9] at ht; cases ht
      have k10 : ¬ b10 = t := by rintro rfl; rw [hO.i10] at ht; cases ht
      have k6 : ¬ b6 = t := by rintro rfl; rw [i6] at ht; cases ht
      have k7 : ¬ b7 = t := by rintro rfl; rw [i7] at ht; cases ht
      have k8 : ¬ b8 = t := by rintro rfl; rw [i8] at ht; cases ht
      have kz := (hPf t ht).1
      simp [k9, k10, hO.i9, hO.i10, kz, hpn, k6, k7, i6, i7]
      refine ⟨?_, ?_⟩
      all_goals
        have hfr : ∀ Z, Store.sub (putS spO σ q r p.s) ((((ρ.upd t Z).upd b6 [.lit (.int .i64 p.n)]).upd b7 [.lit (.int .i64 (allF l).1.length)]).upd b8 [.lit (.int .i64 (allF l).2)]) := fun Z o => by
          by_cases c8 : o = b8
          · subst c8; left; rw [putS_at f8.2.2.1 f8.2.2.2]; exact h8
          by_cases c7 : o = b7
          · subst c7; left; rw [putS_at f7.2.2.1 f7.2.2.2]; exact h7
          by_cases c6 : o = b6
          · subst c6; left; rw [putS_at f6.2.2.1 f6.2.2.2]; exact h6
          simp only [supd_apply, if_neg c8, if_neg c7, if_neg c6]
          by_cases ct : o = t
          · subst ct
            have := hO.sub o
            rw [if_pos rfl]
            rcases this with this | this
            · exact .inl this
            · left; rw [this, ht]
          · rw [if_neg ct]; exact hO.sub o
        simp [i7, i8, k7, k8, a1, a3, a5, w9]
        exact ⟨_, Store.sub_refl _, hfr _, by simp [a2, a6], by simp [a4], by simp⟩
  · rintro ρ E2 σ2 hs2 ⟨p, hO, hkl, hRk, i6, i7, i8⟩
    have hl2 := parX_length l
    have he0 : (allF l).2 = 0 := by
      by_cases he : (allF l).2 = 0
      · exact he
      · rw [if_neg he] at hl2; omega
    rw [if_pos he0] at hl2
    rw [hl2, Nat.add_zero, List.drop_length] at hRk
    have hRe : R = (p, (allF l).1.length, 0) := by rw [← hRk, he0]; simp [runOps, endE]
    subst hRe
    have j6 := sub_at i6 hs2
    have j7 := sub_at i7 hs2
    have j8 := sub_at i8 hs2
    have j9 := sub_at hO.i9 hs2
    have j10 := sub_at hO.i10 hs2
    have jz := sub_at hO.pen.pen hs2
    rw [hl2, Nat.add_zero] at j10
    unfold penO at jz
    have hfr : Store.sub (putS spO σ q r p.s) (((σ2.upd b6 [.lit (.int .i64 p.n)]).upd b7 [.lit (.int .i64 (allF l).1.length)]).upd b8 [.lit (.int .i64 0)]) := fun o => by
      by_cases c8 : o = b8
      · subst c8; left; rw [putS_at f8.2.2.1 f8.2.2.2]; exact h8
      by_cases c7 : o = b7
      · subst c7; left; rw [putS_at f7.2.2.1 f7.2.2.2]; exact h7
      by_cases c6 : o = b6
      · subst c6; left; rw [putS_at f6.2.2.1 f6.2.2.2]; exact h6
      simp only [supd_apply, if_neg c8, if_neg c7, if_neg c6]
      exact Store.sub_trans hO.sub hs2 o
    simp [j6, j7, j8, j9, j10, jz, a1, a2, a3, a4, a5, a6, w9]
    exact hfr
  · rintro c ρ E2 σ2 hs2 ⟨rfl, hsub, i6, i7, i8⟩
    have j6 := sub_at i6 hs2
    have j7 := sub_at i7 hs2
    have j8 := sub_at i8 hs2
    simp [j6, j7, j8]
    exact Store.sub_trans hsub hs2
end Go.Proofs.YtnlggjbcdienfaaGreatDoor
/-
  The iterators over a screen that their rounds change, attributes staying where they are.
-/
namespace Go.Proofs.YtnlggjbcdienfaaGreatDoor
open Go Go.AL Go.Sp

/-- The screen of each round. -/
def NeedF (b q p : Nat) (S : Nat → Sp) (k : Nat) (τ : Store) : Prop := τ b = some [ptrA q] ∧ Prg τ q p (S k)
theorem needF_mono {b q p : Nat} {S : Nat → Sp} {k : Nat} {τ τ' : Store} (h : NeedF b q p S k τ) (hs : Store.sub τ τ') : NeedF b q p S k τ' :=
  ⟨sub_at h.1 hs, prg_mono h.2 hs⟩
/-- Screens of one size, attributes at the same places. -/
structure Fam (S : Nat → Sp) : Prop where
  good : ∀ k, (S k).good
  n : ∀ k, (S k).n = (S 0).n
  attr : ∀ k i, attrAt (S k).cells i = attrAt (S 0).cells i
theorem Fam.attrs {S : Nat → Sp} (h : Fam S) (k : Nat) : (S k).attrs = (S 0).attrs := by
  rw [attrs_eq _ (h.good k), attrs_eq _ (h.good 0), h.n k]
  congr 1
  funext i; exact h.attr k i
set_option maxRecDepth 8000 in
theorem all_iterF (b q p : Nat) (S : Nat → Sp) (N : Nat) (hN : ∀ k, (S k).n = N) (σ : Store) : IterG Tryz.prog 79 [ptrA b] σ N (NeedF b q p S) fun k _ => [.lit (.int .i64 (k : Nat)), cellA ((S k).at k)] := by
  refine ⟨fun k τ τ' h hs => ⟨needF_mono h hs, rfl⟩, fun X l I J hneed hy τ E h0 hs => ?_⟩
  obtain ⟨hb, hP⟩ := needF_mono (hneed 0 τ E (Nat.zero_le _) h0) hs
  have hsz := size_calls hP
  have hcl := scells_calls (S 0)
  rw [hN] at hcl
  have hn := (S 0).n_le
  rw [hN] at hn
  refine ACallsY.of_awp follows (st := st79) (plans := pl79) (n := 18) Tryz.func79 rfl (by kernel_rfl) (by kernel_rfl) (by kernel_rfl) ?_
  simp [hb]
  refine callK.of hsz ?_
  rintro v σ' ⟨rfl, rfl⟩
  simp
  refine callK.of (hcl _) ?_
  rintro v σ' ⟨rfl, rfl⟩
  simp
  refine codeYK.loop follows (st := st79) (plans := pl79) (S := Nat × Store) (fun x => x.1 ≤ N)
    (fun x => [(0, .func (.yield l) [] []), (1, ptrA b), (6, .lit (.int .i64 N)), (7, .lit (.int .i64 x.1))]) (fun x => x.2) (fun x E => I x.1 x.2 E) (fun x => N - x.1) (0, τ) (by kernel_rfl) (by simp) (by simp) hs h0 ?_
  rintro ⟨k, τ1⟩ E1 hk hI
  dsimp only at hk hI ⊢
  obtain ⟨hb1, hP1⟩ := hneed k τ1 E1 hk hI
  by_cases hlt : k < N
  · have hat := at_calls hP1 (k : Int)
    have hw : IntKind.i64.wrap ((k : Int) + 1) = ((k + 1 : Nat) : Int) := wrap_i64 (by omega) (by omega)
    have hyk := hy k hlt τ1 E1 hI
    simp only [cellA_eq] at hat hyk
    simp [hlt, hb1]
    refine callK.of hat ?_
    rintro v σ' ⟨rfl, rfl⟩
    simp
    refine yieldK.of (by simp) hyk (Store.sub_refl _) ?_
    intro b2 τ' E' hR hap
    cases b2
    · simp
      exact ⟨⟨_, AV.le_refl _⟩, _, Store.sub_over _ _ _, τ', Store.sub_refl _, .inr (by simpa using hR)⟩
    · simp
      refine ⟨k + 1, by omega, by omega, by rw [hw]; exact AV.le_refl _, τ', Store.sub_over _ _ _, by simpa using hR⟩
  · obtain rfl : k = N := by omega
    simp
    exact ⟨⟨_, AV.le_refl _⟩, _, Store.sub_refl _, τ1, Store.sub_refl _, .inl hI⟩
set_option maxRecDepth 8000 in
theorem attrs_iterF (b q p : Nat) (S : Nat → Sp) (hF : Fam S) (σ : Store) : IterG Tryz.prog 134 [ptrA b] σ (S 0).attrs.length (NeedF b q p S) fun k _ => [.lit (.int .i64 ((S 0).attrs[k]?.getD 0 : Nat))] := by
  refine ⟨fun k τ τ' h hs => ⟨needF_mono h hs, rfl⟩, fun X l I J hneed hy τ E h0 hs => ?_⟩
  have hN0 := hneed 0 τ E (Nat.zero_le _) h0
  obtain ⟨hb, hP⟩ := needF_mono hN0 hs
  have hg := hF.good 0
  have hae := attrs_eq (S 0) hg
  have hc0 := cntP_zero (isAt (S 0)) (List.range (S 0).n)
  have hcN := cntP_all (isAt (S 0)) (List.range (S 0).n)
  rw [List.length_range, ← hae] at hcN
  refine ACallsY.of_awp follows (st := st134) (plans := pl134) (n := 17) Tryz.func134 rfl (by kernel_rfl) (by kernel_rfl) (by kernel_rfl) ?_
  simp [hb]
  intro y hyn
  have hby : ¬ b = y := by rintro rfl; rw [hb] at hyn; cases hyn
  simp [hby]
  refine callK.of (all_calls2 q _) ?_
  rintro v σ' ⟨b2, hb2, rfl, rfl⟩
  simp only [supd_apply, ite_none] at hb2
  obtain ⟨e1, hb2⟩ := hb2
  have tn : ∀ o, σ o = none → τ o = none := fun o ho => by
    rcases hs o with h | h
    · exact h
    · rw [h, ho]
  simp
  have hB0 : Beside τ ((τ.upd b2 [ptrA q]).upd y [.func (.yield l) [] []]) b2 y (ptrA q) (.func (.yield l) [] []) := ⟨tn _ hb2, tn _ hyn, e1, rfl⟩
  refine codeYK.rangeG follows (st := st134) (plans := pl134) (all_iterF b2 q p (fun k => S (cntP (isAt (S 0)) (List.range (S 0).n) k)) (S 0).n (fun k => hF.n _) _) (by simp) (by simp) (by simp) (by kernel_rfl) (by kernel_rfl) (by kernel_rfl)
    (fun k ρ E => ∃ τ, I (cntP (isAt (S 0)) (List.range (S 0).n) k) τ E ∧ Beside τ ρ b2 y (ptrA q) (.func (.yield l) [] [])) (fun c ρ E => c = .ret ∧ ∃ τ, J τ E ∧ Store.sub τ ρ)
    _ ⟨τ, by rw [hc0]; exact h0, hB0⟩ ?_ ?_ ?_ ?_ ?_
  · intro o
    simp only [supd_apply]
    by_cases h1 : o = y
    · subst h1; right; simp [Ne.symm e1]
    · by_cases h2 : o = b2
      · subst h2; right; simp [h1]
      · simp only [if_neg h1, if_neg h2]; exact hs o
  · rintro k ρ E hk ⟨τ1, hI, hB⟩
    have hle : cntP (isAt (S 0)) (List.range (S 0).n) k ≤ (S 0).attrs.length := by
      rw [hae]; exact (List.Sublist.filter _ (List.take_sublist _ _)).length_le
    have := hneed _ τ1 E hle hI
    refine ⟨?_, prg_mono this.2 hB.sub⟩
    rw [hB.eq]; simp [e1]
  · rintro k hk ρ E ⟨τ1, hI, hB⟩
    have hkr : k < (List.range (S 0).n).length := by simpa using hk
    have hgk : (List.range (S 0).n)[k] = k := by simp
    have hρy : ρ y = some [.func (.yield l) [] []] := by rw [hB.eq]; simp
    have hcs := cntP_yes (P := isAt (S 0)) hkr
    have hcn := cntP_no (P := isAt (S 0)) hkr
    generalize hj : cntP (isAt (S 0)) (List.range (S 0).n) k = j at *
    have hat : ((S j).at (k : Int)).attr = isAt (S 0) k := by
      rw [attrAt_at (by rw [hF.n]; exact hk), hF.attr]; rfl
    generalize (S j).at (k : Int) = d at *
    by_cases ha : isAt (S 0) k = true
    · obtain ⟨c1, c2, c3⟩ := hcs (by rw [hgk]; exact ha)
      rw [← hae] at c2 c3
      rw [hgk] at c3
      have hyk := hy _ c2 τ1 E hI
      rw [c3] at hyk
      rw [← c1] at hyk
      have hca : d.attr = true := by rw [hat]; exact ha
      simp +contextual [cellA, cellC, hca]
      intro c hc
      have hyc : ¬ y = c := by rintro rfl; rw [hρy] at hc; cases hc
      simp [hρy, hyc]
      have hcur : Store.sub ρ (ρ.upd c [byteA d.char, .lit (.bool true), byteA d.fa, byteA d.high, byteA d.color, byteA d.set]) := Store.sub_upd hc (Store.sub_refl _)
      refine yieldK.of (args' := [.lit (.int .i64 (k : Nat))]) (by simp) hyk (Store.sub_trans hB.sub hcur) ?_
      intro b3 τ' E' hR hap
      cases b3
      · simp
        exact ⟨_, Store.sub_refl _, τ', by simpa using hR, Store.sub_over _ _ _⟩
      · simp
        obtain ⟨ρ', h1, h2⟩ := hB.next hcur hap
        exact ⟨ρ', h1, τ', by simpa using hR, h2⟩
    · have ha' : isAt (S 0) k = false := by simpa using ha
      have c1 := hcn (by rw [hgk]; exact ha')
      have hca : d.attr = false := by rw [hat]; exact ha'
      simp +contextual [cellA, cellC, hca]
      intro c hc
      exact ⟨ρ, Store.sub_upd hc (Store.sub_refl _), τ1, by rw [c1]; exact hI, hB⟩
  · rintro ρ E2 σ2 hs2 ⟨τ1, hI, hB⟩
    rw [hcN] at hI
    simp
    exact ⟨⟨_, AV.le_refl _⟩, _, Store.sub_refl _, τ1, Store.sub_trans hB.sub hs2, .inl hI⟩
  · rintro c ρ E2 σ2 hs2 ⟨rfl, τ1, hJ, hsub⟩
    simp
    exact ⟨⟨_, AV.le_refl _⟩, _, Store.sub_refl _, τ1, Store.sub_trans hsub hs2, .inr hJ⟩
def atFldF (S : Nat → Sp) (k : Nat) : Nat × Fld := ((S 0).attrs[k]?.getD 0, fld (((S k).cells[(S 0).attrs[k]?.getD 0]?.getD .zero).fa))
set_option maxRecDepth 8000 in
theorem fields_iterF (b q p : Nat) (S : Nat → Sp) (hF : Fam S) (σ : Store) : IterG Tryz.prog 125 [ptrA b] σ (S 0).attrs.length (NeedF b q p S) fun k _ => [.lit (.int .i64 ((atFldF S k).1 : Nat)), fldA (atFldF S k).2] := by
  refine ⟨fun k τ τ' h hs => ⟨needF_mono h hs, rfl⟩, fun X l I J hneed hy τ E h0 hs => ?_⟩
  have hN0 := hneed 0 τ E (Nat.zero_le _) h0
  obtain ⟨hb, hP⟩ := needF_mono hN0 hs
  have hg := hF.good 0
  refine ACallsY.of_awp follows (st := st125) (plans := pl106t) (n := 16) Tryz.func125 rfl (by kernel_rfl) (by kernel_rfl) (by kernel_rfl) ?_
  simp [hb]
  intro y hyn
  have hby : ¬ b = y := by rintro rfl; rw [hb] at hyn; cases hyn
  simp [hby]
  refine callK.of (attrs_calls2 q _) ?_
  rintro v σ' ⟨b2, hb2, rfl, rfl⟩
  simp only [supd_apply, ite_none] at hb2
  obtain ⟨e1, hb2⟩ := hb2
  have tn : ∀ o, σ o = none → τ o = none := fun o ho => by
    rcases hs o with h | h
    · exact h
    · rw [h, ho]
  simp
  have hB0 : Beside τ ((τ.upd b2 [ptrA q]).upd y [.func (.yield l) [] []]) b2 y (ptrA q) (.func (.yield l) [] []) := ⟨tn _ hb2, tn _ hyn, e1, rfl⟩
  refine codeYK.rangeG follows (st := st125) (plans := pl106t) (attrs_iterF b2 q p S hF _) (by simp) (by simp) (by simp) (by kernel_rfl) (by kernel_rfl) (by kernel_rfl)
    (fun k ρ E => ∃ τ, I k τ E ∧ Beside τ ρ b2 y (ptrA q) (.func (.yield l) [] [])) (fun c ρ E => c = .ret ∧ ∃ τ, J τ E ∧ Store.sub τ ρ)
    _ ⟨τ, h0, hB0⟩ ?_ ?_ ?_ ?_ ?_
  · intro o
    simp only [supd_apply]
    by_cases h1 : o = y
    · subst h1; right; simp [Ne.symm e1]
    · by_cases h2 : o = b2
      · subst h2; right; simp [h1]
      · simp only [if_neg h1, if_neg h2]; exact hs o
  · rintro k ρ E hk ⟨τ1, hI, hB⟩
    have := hneed _ τ1 E hk hI
    refine ⟨?_, prg_mono this.2 hB.sub⟩
    rw [hB.eq]; simp [e1]
  · rintro k hk ρ E ⟨τ1, hI, hB⟩
    have hyk := hy _ hk τ1 E hI
    have hNe := hneed _ τ1 E (Nat.le_of_lt hk) hI
    have hPr := prg_mono hNe.2 hB.sub
    have hρb := sub_at hNe.1 hB.sub
    have hρy : ρ y = some [.func (.yield l) [] []] := by rw [hB.eq]; simp
    have hm : (S 0).attrs[k]?.getD 0 ∈ (S 0).attrs := by
      rw [List.getElem?_eq_getElem hk]; exact List.getElem_mem hk
    obtain ⟨m1, m2⟩ := mem_attrs hm
    rw [hg.len] at m1
    have hat := at_calls hPr (((S 0).attrs[k]?.getD 0 : Nat) : Int)
    have hae := at_of (hF.good k) (i := (S 0).attrs[k]?.getD 0) (by rw [hF.n]; exact m1)
    have hof := of_calls (((S k).at (((S 0).attrs[k]?.getD 0 : Nat) : Int)).fa)
    have hF2 : (atFldF S k).2 = fld (((S k).at (((S 0).attrs[k]?.getD 0 : Nat) : Int)).fa) := by rw [hae]; rfl
    have hF1 : (atFldF S k).1 = (S 0).attrs[k]?.getD 0 := rfl
    rw [hF2, hF1] at hyk
    generalize (S 0).attrs[k]?.getD 0 = a at *
    generalize (S k).at (a : Int) = c at *
    simp only [cellA_eq] at hat
    have hfa : ∀ f : Fld, fldA f = .agg [.lit (.bool f.prot), .lit (.bool f.num), .lit (.int .i64 f.disp), .lit (.bool f.mod)] := fun _ => rfl
    simp only [hfa] at hof hyk
    simp +contextual [pl106t, hρy, hρb]
    repeat' (with_reducible apply And.intro)
    all_goals
      refine callK.of hat ?_
      rintro v σ' ⟨rfl, rfl⟩
      simp [hρy]
      repeat' (with_reducible apply And.intro)
    all_goals
    all_goals
      refine callK.of (hof _) ?_
      rintro v σ' ⟨rfl, rfl⟩
      simp [hρy]
    all_goals
      refine yieldK.of (by simp) hyk hB.sub ?_
      intro b3 τ' E' hR hap
      cases b3
      · simp
        exact ⟨_, Store.sub_refl _, τ', by simpa using hR, Store.sub_over _ _ _⟩
      · simp
        obtain ⟨ρ', h1, h2⟩ := hB.next (Store.sub_refl _) hap
        exact ⟨ρ', h1, τ', by simpa using hR, h2⟩
  · rintro ρ E2 σ2 hs2 ⟨τ1, hI, hB⟩
    simp
    exact ⟨⟨_, AV.le_refl _⟩, _, Store.sub_refl _, τ1, Store.sub_trans hB.sub hs2, .inl hI⟩
  · rintro c ρ E2 σ2 hs2 ⟨rfl, τ1, hJ, hsub⟩
    simp
    exact ⟨⟨_, AV.le_refl _⟩, _, Store.sub_refl _, τ1, Store.sub_trans hsub hs2, .inr hJ⟩
/-- What the iterator over a field's places finds. -/
def NeedPF (b c q p : Nat) (S : Nat → Sp) (a : Nat) (k : Nat) (τ : Store) : Prop := τ b = some [ptrA q] ∧ τ c = some [.lit (.int .i64 a)] ∧ Prg τ q p (S k)
theorem needPF_mono {b c q p a : Nat} {S : Nat → Sp} {k : Nat} {τ τ' : Store} (h : NeedPF b c q p S a k τ) (hs : Store.sub τ τ') : NeedPF b c q p S a k τ' :=
  ⟨sub_at h.1 hs, sub_at h.2.1 hs, prg_mono h.2.2 hs⟩
set_option maxRecDepth 8000 in
theorem places_iterF (b c q p : Nat) (S : Nat → Sp) (hF : Fam S) (a : Nat) (ha : a < (S 0).n) (hat : attrAt (S 0).cells a = true) (σ : Store) : IterG Tryz.prog 127 [ptrA b, ptrA c] σ (Sp.len (S 0).cells a) (NeedPF b c q p S a) fun k _ => [.lit (.int .i64 ((a + k + 1) % (S 0).n : Nat))] := by
  refine ⟨fun k τ τ' h hs => ⟨needPF_mono h hs, rfl⟩, fun X l I J hneed hy τ E h0 hs => ?_⟩
  have hN0 := hneed 0 τ E (Nat.zero_le _) h0
  obtain ⟨hb, hc, hP⟩ := needPF_mono hN0 hs
  have hg := hF.good 0
  have hln := hg.len
  have hn := (S 0).n_le
  have hnp := (S 0).n_pos
  have tn : ∀ o, σ o = none → τ o = none := fun o ho => by
    rcases hs o with h | h
    · exact h
    · rw [h, ho]
  have hsz := size_calls hP
  have hw1 := swrap_calls (S 0) (a : Int)
  rw [wrap_of_lt ha] at hw1
  have hca : ((S 0).at (a : Int)).attr = true := by rw [at_of hg ha]; exact hat
  have hat1 := fun τ (hτ : Prg τ q p (S 0)) => at_calls hτ (a : Int)
  simp only [cellA_eq, hca] at hat1
  have hw2 := swrap_calls (S 0) ((a : Int) + 1)
  have e2 : wrap (S 0).n ((a : Int) + 1) = (a + 0 + 1) % (S 0).n := by
    rw [show ((a : Int) + 1) = ((a + 1 : Nat) : Int) by omega, wrap_mod hnp]
  rw [e2] at hw2
  have hi1 : IntKind.i64.wrap ((a : Int) + 1) = (a : Int) + 1 := wrap_i64 (by omega) (by omega)
  refine ACallsY.of_awp follows (st := st127) (plans := pl127) (n := 33) Tryz.func127 rfl (by kernel_rfl) (by kernel_rfl) (by kernel_rfl) ?_
  simp [hb]
  refine callK.of hsz ?_
  rintro v σ' ⟨rfl, rfl⟩
  simp
  intro z hz
  have hcz : ¬ c = z := by rintro rfl; rw [hc] at hz; cases hz
  have hbz : ¬ b = z := by rintro rfl; rw [hb] at hz; cases hz
  simp [hc, hcz]
  refine callK.of (hw1 _) ?_
  rintro v σ' ⟨rfl, rfl⟩
  have hqc : ¬ q = c := by
    rintro rfl; have := hP.obj; rw [hc] at this; simp [spO] at this
  have hpc : ¬ p = c := by
    rintro rfl
    have h1 := hP.row; rw [hc] at h1
    have h2 := congrArg (fun o => (o.getD []).length) h1
    simp only [Option.getD_some, cellsO_length, List.length_cons, List.length_nil] at h2; omega
  obtain ⟨m1, m2, m3, m4⟩ := hP.fresh hz
  have hbc : ¬ b = c := by
    rintro rfl; rw [hb] at hc; simp at hc
  simp [hc, hcz, hb, hbz, hbc]
  refine callK.of (hat1 _ ((hP.new hz _).upd ⟨hqc, hpc⟩ _)) ?_
  rintro v σ' ⟨rfl, rfl⟩
  simp [Ne.symm hcz, hi1]
  refine callK.of (hw2 _) ?_
  rintro v σ' ⟨rfl, rfl⟩
  simp
  have hlen := Sp.len_lt (l := (S 0).cells) (a := a) (by omega)
  refine codeYK.loop follows (st := st127) (plans := pl127) (S := Nat × Store) (fun x => x.1 ≤ Sp.len (S 0).cells a ∧ x.2 z = none)
    (fun x => [(0, .func (.yield l) [] []), (1, ptrA b), (2, ptrA c), (4, ptrA z), (5, .lit (.int .i64 ((a + x.1 + 1) % (S 0).n : Nat)))]) (fun x => x.2.upd z [.lit (.int .i64 (S 0).rows), .lit (.int .i64 (S 0).cols)]) (fun x E => I x.1 x.2 E) (fun x => Sp.len (S 0).cells a - x.1) (0, τ) (by kernel_rfl) ⟨Nat.zero_le _, tn _ hz⟩ (by simp) ?_ h0 ?_
  · intro o
    dsimp only
    simp only [supd_apply]
    by_cases h1 : o = z
    · subst h1; right; simp [Ne.symm hcz]
    · by_cases h2 : o = c
      · subst h2
        rcases hs o with h | h
        · left; simp [h1, h]
        · right; simp [h1, h, hc]
      · simp only [if_neg h1, if_neg h2]; exact hs o
  rintro ⟨k, τ1⟩ E1 ⟨hk, hz1⟩ hI
  dsimp only at hk hz1 hI ⊢
  have hNk := hneed k τ1 E1 hk hI
  have hsub : Store.sub τ1 (τ1.upd z [.lit (.int .i64 (S 0).rows), .lit (.int .i64 (S 0).cols)]) := Store.sub_upd hz1 (Store.sub_refl _)
  have hPk := prg_mono hNk.2.2 hsub
  have hbk := sub_at hNk.1 hsub
  have hml : (a + k + 1) % (S 0).n < (S 0).n := Nat.mod_lt _ hnp
  have hatk := at_calls hPk (((a + k + 1) % (S 0).n : Nat) : Int)
  have hae : ((S k).at (((a + k + 1) % (S 0).n : Nat) : Int)).attr = attrAt (S 0).cells ((a + k + 1) % (S 0).n) := by rw [attrAt_at (by rw [hF.n k]; exact hml), hF.attr]
  by_cases hlt : k < Sp.len (S 0).cells a
  · have hfree := Sp.len_free (l := (S 0).cells) (a := a) (j := k + 1) (by omega) (by omega)
    rw [show a + (k + 1) = a + k + 1 by omega, hln] at hfree
    have hcf : ((S k).at (((a + k + 1) % (S 0).n : Nat) : Int)).attr = false := by rw [hae]; exact hfree
    have hyk := hy k hlt τ1 E1 hI
    have hwk := swrap_calls (S 0) ((((a + k + 1) % (S 0).n : Nat) : Int) + 1)
    have e3 : wrap (S 0).n ((((a + k + 1) % (S 0).n : Nat) : Int) + 1) = (a + (k + 1) + 1) % (S 0).n := by
      rw [show ((((a + k + 1) % (S 0).n : Nat) : Int) + 1) = (((a + k + 1) % (S 0).n + 1 : Nat) : Int) by omega, wrap_mod hnp, Nat.mod_add_mod, show a + (k + 1) + 1 = a + k + 1 + 1 by omega]
    rw [e3] at hwk
    have hik : IntKind.i64.wrap ((((a + k + 1) % (S 0).n : Nat) : Int) + 1) = (((a + k + 1) % (S 0).n : Nat) : Int) + 1 := wrap_i64 (by omega) (by omega)
    generalize (a + k + 1) % (S 0).n = m at *
    simp only [cellA_eq, hcf] at hatk
    have hbk' : τ1 b = some [ptrA q] := hNk.1
    simp [hbk', hbz]
    refine callK.of hatk ?_
    rintro v σ' ⟨rfl, rfl⟩
    simp
    refine yieldK.of (args' := [.lit (.int .i64 (m : Nat))]) (by simp) hyk hsub ?_
    intro b3 τ' E' hR hap
    have hz2 : τ' z = none := hap z hz1 (by simp)
    have hov : Store.over τ' τ1 (τ1.upd z [.lit (.int .i64 (S 0).rows), .lit (.int .i64 (S 0).cols)]) z = some [.lit (.int .i64 (S 0).rows), .lit (.int .i64 (S 0).cols)] := by
      rw [Store.over_apart hap hz1 (by simp)]; simp
    cases b3
    · simp
      exact ⟨⟨_, AV.le_refl _⟩, _, Store.sub_refl _, τ', Store.sub_over _ _ _, .inr (by simpa using hR)⟩
    · simp [hov, hik]
      refine callK.of (hwk _) ?_
      rintro v σ' ⟨rfl, rfl⟩
      simp
      refine ⟨k + 1, τ', ⟨by omega, hz2⟩, by omega, AV.le_refl _, fun o => ?_, by simpa using hR⟩
      by_cases h1 : o = z
      · subst h1; right; rw [hov]; simp
      · simp only [supd_apply, if_neg h1]; exact Store.sub_over _ _ _ o
  · obtain rfl : k = Sp.len (S 0).cells a := by omega
    have hstop := Sp.len_stop hat (by omega)
    rw [hln] at hstop
    have hcf : ((S (Sp.len (S 0).cells a)).at (((a + Sp.len (S 0).cells a + 1) % (S 0).n : Nat) : Int)).attr = true := by rw [hae]; exact hstop
    generalize (a + Sp.len (S 0).cells a + 1) % (S 0).n = m at *
    simp only [cellA_eq, hcf] at hatk
    have hbk' : τ1 b = some [ptrA q] := hNk.1
    simp [hbk', hbz]
    refine callK.of hatk ?_
    rintro v σ' ⟨rfl, rfl⟩
    simp
    exact ⟨⟨_, AV.le_refl _⟩, _, Store.sub_refl _, τ1, hsub, .inl hI⟩
end Go.Proofs.YtnlggjbcdienfaaGreatDoor
