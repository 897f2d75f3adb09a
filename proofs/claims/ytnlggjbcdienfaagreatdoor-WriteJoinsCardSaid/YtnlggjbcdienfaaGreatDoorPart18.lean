/-
  What is done to the places of a span.
-/
import Derived.Test.YtnlggjbcdienfaaGreatDoorPart17
namespace Go.Proofs.YtnlggjbcdienfaaGreatDoor
open Go Go.AL Go.Sp

def rangeTo (s : Sp) (f t k : Nat) : Sp := rangeS s ((spanL s.n f t).take k)
theorem spanL_length (N f t : Nat) : (spanL N f t).length = spanLen N f t := by simp [spanL]
theorem spanL_get (N f t k : Nat) (h : k < (spanL N f t).length) : (spanL N f t)[k] = (f + k) % N := by simp [spanL]
theorem rangeTo_succ (s : Sp) (f t k : Nat) (h : k < spanLen s.n f t) : rangeTo s f t (k + 1) = if openS (rangeTo s f t k) ((f + k) % s.n) = true then (rangeTo s f t k).put ((f + k) % s.n : Nat) 0 else rangeTo s f t k := by
  have hk : k < (spanL s.n f t).length := by rw [spanL_length]; exact h
  unfold rangeTo rangeS
  rw [List.take_succ_eq_append_getElem hk, List.foldl_append, List.foldl_cons, List.foldl_nil, spanL_get]
theorem rangeTo_all (s : Sp) (f t : Nat) : rangeTo s f t (spanLen s.n f t) = rangeS s (spanL s.n f t) := by
  unfold rangeTo; rw [← spanL_length, List.take_length]
theorem rangeTo_same {s : Sp} (h : s.good) (f t k : Nat) : SameN s (rangeTo s f t k) := (SameN.refl h).rangeS _
theorem putS_put {f : Sp → Nat → List AV} {σ : Store} {q p : Nat} (hne : q ≠ p) (s s2 : Sp) : putS f (putS f σ q p s) q p s2 = putS f σ q p s2 := putS_twice s s2 hne
/-- The screen is such within a store that knows more. -/
structure Lv (σ ρ : Store) (q r : Nat) (s : Sp) : Prop where
  prg : Prg ρ q r s
  sub : Store.sub (putS spO σ q r s) ρ
theorem putS_at {f : Sp → Nat → List AV} {σ : Store} {q r o : Nat} {s : Sp} (h1 : ¬ o = q) (h2 : ¬ o = r) : putS f σ q r s o = σ o := by simp [putS, h1, h2]
theorem Lv.put {σ ρ : Store} {q r : Nat} {s : Sp} (h : Lv σ ρ q r s) {s2 : Sp} (hg : s2.good) : Lv σ (putS spO ρ q r s2) q r s2 := by
  refine ⟨Scr.of_put h.prg.ne hg, fun o => ?_⟩
  by_cases h1 : o = q
  · subst h1; right; simp [putS]
  · by_cases h2 : o = r
    · subst h2; right; simp [putS]
    · rw [putS_at h1 h2, putS_at h1 h2]
      have := h.sub o
      rwa [putS_at h1 h2] at this
theorem Lv.new {σ ρ : Store} {q r : Nat} {s : Sp} (h : Lv σ ρ q r s) {b : Nat} (hb : ρ b = none) (X : List AV) : Lv σ (ρ.upd b X) q r s :=
  ⟨h.prg.new hb X, Store.sub_trans h.sub (Store.sub_upd hb (Store.sub_refl _))⟩
theorem Lv.refl {σ : Store} {q r : Nat} {s : Sp} (h : Prg σ q r s) : Lv σ σ q r s := ⟨h, by rw [h.put_self]; exact Store.sub_refl _⟩
theorem Lv.mono {σ ρ ρ' : Store} {q r : Nat} {s : Sp} (h : Lv σ ρ q r s) (hs : Store.sub ρ ρ') : Lv σ ρ' q r s := ⟨prg_mono h.prg hs, Store.sub_trans h.sub hs⟩
theorem NeedB.put {b1 b2 b3 : Nat} {s : Sp} {f t : Nat} {τ : Store} (h : NeedB b1 b2 b3 s f t τ) {q r : Nat} (g1 : ¬ b1 = q ∧ ¬ b1 = r) (g2 : ¬ b2 = q ∧ ¬ b2 = r) (g3 : ¬ b3 = q ∧ ¬ b3 = r) (s2 : Sp) : NeedB b1 b2 b3 s f t (putS spO τ q r s2) :=
  ⟨by rw [putS_at g1.1 g1.2]; exact h.1, by rw [putS_at g2.1 g2.2]; exact h.2.1, by rw [putS_at g3.1 g3.2]; exact h.2.2⟩
set_option maxRecDepth 8000 in
theorem range_calls {q r : Nat} {s : Sp} {σ : Store} (h : Prg σ q r s) {f t : Nat} (hf : f < s.n) (ht : t < s.n) : ACalls Tryz.prog 112 [ptrA q, .lit (.int .i64 f), .lit (.int .i64 t)] σ fun v σ' => v = .tuple [] ∧ σ' = putS spO σ q r (rangeS s (spanL s.n f t)) := by
  have hsz := fun τ (hτ : Prg τ q r s) => size_calls hτ
  have hsp := fun τ => span_calls2 s f t τ
  have hsame := rangeTo_same h.good f t
  have hall := rangeTo_all s f t
  have hz0 : rangeTo s f t 0 = s := rfl
  rw [← hall]
  refine ACalls.of_awpY follows (st := st112) (plans := pl112) (n := 19) Tryz.func112 rfl (by kernel_rfl) (by kernel_rfl) (by kernel_rfl) ?_
  simp
  intro b hb
  have hb0 := h.fresh hb
  refine callK.of (hsz _ (h.new hb _)) ?_
  rintro v σ' ⟨rfl, rfl⟩
  simp
  refine callK.of (hsp _) ?_
  rintro v σ' ⟨b1, b2, b3, rfl, f1, f2, f3, n1, n2, n3, rfl⟩
  simp only [supd_apply, ite_none] at f1 f2 f3
  have g1 := h.fresh f1.2
  have g2 := h.fresh f2.2
  have g3 := h.fresh f3.2
  simp
  refine codeYK.rangeG follows (st := st112) (plans := pl112) (span_iter b1 b2 b3 s hf ht _) (by simp) (by simp) (by simp) (by kernel_rfl) (by kernel_rfl) (by kernel_rfl)
    (fun k ρ E => Lv σ ρ q r (rangeTo s f t k) ∧ ρ b = some [ptrA q] ∧ NeedB b1 b2 b3 s f t ρ) (fun c ρ E => False)
    _ ⟨?_, ?_, ?_⟩ (Store.sub_refl _) ?_ ?_ ?_ ?_
  · rw [hz0]
    have l1 := (Lv.refl h).new hb [ptrA q]
    have l2 := l1.new (b := b1) (by simp [f1]) [.lit (.int .i64 s.rows), .lit (.int .i64 s.cols)]
    have l3 := l2.new (b := b2) (by simp [f2, Ne.symm n1]) [.lit (.int .i64 f)]
    exact l3.new (b := b3) (by simp [f3, Ne.symm n2, Ne.symm n3]) [.lit (.int .i64 t)]
  · simp [Ne.symm f1.1, Ne.symm f2.1, Ne.symm f3.1]
  · exact ⟨by simp [n1, n2], by simp [n3], by simp⟩
  · rintro k ρ E hk ⟨_, _, hN⟩
    exact hN
  · rintro k hk ρ E ⟨hL, hρb, hN⟩
    have hm := Nat.mod_lt (f + k) s.n_pos
    have hsk := hsame k
    have hsucc := rangeTo_succ s f t k hk
    generalize (f + k) % s.n = m at *
    generalize rangeTo s f t k = sk at *
    have hop := open_calls hL.prg (n := m) (by rw [hsk.n]; exact hm)
    have hpu := pput_calls hL.prg (m : Int) 0
    by_cases ho : openS sk m = true
    · rw [if_pos ho] at hsucc
      rw [ho] at hop
      simp [hρb]
      refine callK.of hop ?_
      rintro v σ2 ⟨rfl, rfl⟩
      simp [hρb]
      refine callK.of hpu ?_
      rintro v σ3 ⟨rfl, rfl⟩
      simp
      rw [hsucc]
      exact ⟨_, Store.sub_refl _, hL.put (hsk.1.put _ _), by rw [putS_at hb0.2.2.1 hb0.2.2.2]; exact hρb, hN.put ⟨g1.2.2.1, g1.2.2.2⟩ ⟨g2.2.2.1, g2.2.2.2⟩ ⟨g3.2.2.1, g3.2.2.2⟩ _⟩
    · rw [if_neg ho] at hsucc
      rw [show openS sk m = false by simpa using ho] at hop
      simp [hρb]
      refine callK.of hop ?_
      rintro v σ2 ⟨rfl, rfl⟩
      simp
      rw [hsucc]
      exact ⟨_, Store.sub_refl _, hL, hρb, hN⟩
  · rintro ρ E2 σ2 hs2 ⟨hL, _, _⟩
    simp
    exact (hL.mono hs2).sub
  · rintro c ρ E2 σ2 hs2 hF
    exact hF.elim
def repeatTo (s : Sp) (f t : Nat) (c : Cell) (k : Nat) : Sp := repeatS s ((spanL s.n f t).take k) c
theorem repeatTo_succ (s : Sp) (f t : Nat) (c : Cell) (k : Nat) (h : k < spanLen s.n f t) : repeatTo s f t c (k + 1) = (repeatTo s f t c k).set ((f + k) % s.n : Nat) c := by
  have hk : k < (spanL s.n f t).length := by rw [spanL_length]; exact h
  unfold repeatTo repeatS
  rw [List.take_succ_eq_append_getElem hk, List.foldl_append, List.foldl_cons, List.foldl_nil, spanL_get]
theorem repeatTo_all (s : Sp) (f t : Nat) (c : Cell) : repeatTo s f t c (spanLen s.n f t) = repeatS s (spanL s.n f t) c := by
  unfold repeatTo; rw [← spanL_length, List.take_length]
theorem repeatTo_same {s : Sp} (h : s.good) (f t : Nat) (c : Cell) (k : Nat) : SameN s (repeatTo s f t c k) := (SameN.refl h).repeatS _ _
set_option maxRecDepth 8000 in
theorem repeat_calls {q r : Nat} {s : Sp} {σ : Store} (h : Prg σ q r s) {f t : Nat} (hf : f < s.n) (ht : t < s.n) (c : Cell) : ACalls Tryz.prog 113 [ptrA q, .lit (.int .i64 f), .lit (.int .i64 t), cellA c] σ fun v σ' => (∃ n : Int, v = .lit (.int .i64 n)) ∧ σ' = putS spO σ q r (repeatS s (spanL s.n f t) c) := by
  have hsz := fun τ (hτ : Prg τ q r s) => size_calls hτ
  have hsp := fun τ => span_calls2 s f t τ
  have hsame := repeatTo_same h.good f t c
  have hall := repeatTo_all s f t c
  have hz0 : repeatTo s f t c 0 = s := rfl
  have hnl := s.n_le
  have hsl := spanLen_pos (f := f) (t := t) s.n_pos
  rw [← hall, cellA_eq]
  refine ACalls.of_awpY follows (st := st113) (plans := pl113) (n := 24) Tryz.func113 rfl (by kernel_rfl) (by kernel_rfl) (by kernel_rfl) ?_
  simp +contextual [ite_free]
  intro b hb b7 a1 a2 hb7 b9 a3 a4 a5 a6 hb9
  have hb0 := h.fresh hb
  have hb70 := h.fresh hb7
  have hb90 := h.fresh hb9
  generalize hX : [byteA c.char, AV.lit (.bool c.attr), byteA c.fa, byteA c.high, byteA c.color, byteA c.set] = X at *
  have hL0 : Lv σ (((σ.upd b [ptrA q]).upd b7 X).upd b9 [.lit (.int .i64 0)]) q r s := (((Lv.refl h).new hb _).new (by simp [a1, hb7]) _).new (by simp [a3, a5, hb9]) _
  refine callK.of (hsz _ hL0.prg) ?_
  rintro v σ' ⟨rfl, rfl⟩
  simp
  refine callK.of (hsp _) ?_
  rintro v σ' ⟨b1, b2, b3, rfl, f1, f2, f3, n1, n2, n3, rfl⟩
  simp only [supd_apply, ite_none] at f1 f2 f3
  have g1 := h.fresh f1.2.2.2
  have g2 := h.fresh f2.2.2.2
  have g3 := h.fresh f3.2.2.2
  simp
  refine codeYK.rangeG follows (st := st113) (plans := pl113) (span_iter b1 b2 b3 s hf ht _) (by simp) (by simp) (by simp) (by kernel_rfl) (by kernel_rfl) (by kernel_rfl)
    (fun k ρ E => Lv σ ρ q r (repeatTo s f t c k) ∧ ρ b = some [ptrA q] ∧ ρ b7 = some X ∧ ρ b9 = some [.lit (.int .i64 k)] ∧ NeedB b1 b2 b3 s f t ρ) (fun c ρ E => False)
    _ ⟨?_, ?_, ?_, ?_, ?_⟩ (Store.sub_refl _) ?_ ?_ ?_ ?_
  · rw [hz0]
    have l2 := hL0.new (b := b1) (by simp [f1]) [.lit (.int .i64 s.rows), .lit (.int .i64 s.cols)]
    have l3 := l2.new (b := b2) (by simp [f2, Ne.symm n1]) [.lit (.int .i64 f)]
    exact l3.new (b := b3) (by simp [f3, Ne.symm n2, Ne.symm n3]) [.lit (.int .i64 t)]
  · simp [Ne.symm f1.2.2.1, Ne.symm f2.2.2.1, Ne.symm f3.2.2.1, a2, a6]
  · simp [Ne.symm f1.2.1, Ne.symm f2.2.1, Ne.symm f3.2.1, a4]
  · simp [Ne.symm f1.1, Ne.symm f2.1, Ne.symm f3.1]
  · exact ⟨by simp [n1, n2], by simp [n3], by simp⟩
  · rintro k ρ E hk ⟨_, _, _, _, hN⟩
    exact hN
  · rintro k hk ρ E ⟨hL, hρb, hρ7, hρ9, hN⟩
    have hm := Nat.mod_lt (f + k) s.n_pos
    have hsk := hsame k
    have hsucc := repeatTo_succ s f t c k hk
    have hw : IntKind.i64.wrap ((k : Int) + 1) = ((k + 1 : Nat) : Int) := wrap_i64 (by omega) (by omega)
    generalize (f + k) % s.n = m at *
    generalize repeatTo s f t c k = sk at *
    have hse := set_calls hL.prg (m : Int) c
    rw [cellA_eq] at hse
    have hX' := hX
    rw [← hX] at hρ7
    simp [hρb, hρ7]
    refine callK.of hse ?_
    rintro v σ3 ⟨rfl, rfl⟩
    have k9 : (putS spO ρ q r (sk.set (m : Int) c)) b9 = some [.lit (.int .i64 k)] := by rw [putS_at hb90.2.2.1 hb90.2.2.2]; exact hρ9
    simp [k9, hw]
    rw [hsucc]
    have l1 := hL.put (hsk.1.set (m : Int) c)
    refine ⟨_, Store.sub_refl _, ⟨l1.prg.upd ⟨Ne.symm hb90.2.2.1, Ne.symm hb90.2.2.2⟩ _, ?_⟩, ?_, ?_, by simp, ?_⟩
    · intro o
      by_cases ho : o = b9
      · subst ho; left; rw [putS_at hb90.2.2.1 hb90.2.2.2]; exact hb9
      · simp only [supd_apply, if_neg ho]; exact l1.sub o
    · simp [putS_at hb0.2.2.1 hb0.2.2.2, hρb]
      exact a6
    · simp [putS_at hb70.2.2.1 hb70.2.2.2, hρ7, hX]
      exact fun e => absurd e a4
    · have hN2 := hN.put ⟨g1.2.2.1, g1.2.2.2⟩ ⟨g2.2.2.1, g2.2.2.2⟩ ⟨g3.2.2.1, g3.2.2.2⟩ (sk.set (m : Int) c)
      exact ⟨by simp [f1.1, hN2.1], by simp [f2.1, hN2.2.1], by simp [f3.1, hN2.2.2]⟩
  · rintro ρ E2 σ2 hs2 ⟨hL, _, _, h9, _⟩
    have h9' := sub_at h9 hs2
    simp [h9']
    exact ⟨_, AV.le_refl _, (hL.mono hs2).sub, _, rfl⟩
  · rintro c ρ E2 σ2 hs2 hF
    exact hF.elim
end Go.Proofs.YtnlggjbcdienfaaGreatDoor
/-
  A piece is done.
-/
namespace Go.Proofs.YtnlggjbcdienfaaGreatDoor
open Go Go.AL Go.Sp

theorem pn_at {σ : Store} {z q r o : Nat} {p : Pen} (h1 : ¬ o = z) (h2 : ¬ o = q) (h3 : ¬ o = r) : pn σ z q r p o = σ o := by simp [pn, putS, h1, h2, h3]
theorem span_eq (p : Pen) (o : Op) : p.span o = if (p.s.n : Int) ≤ o.addr then (p, 9)
  else ({ p with s := if o.kind = 18 then rangeS p.s (spanL p.s.n p.n o.addr.toNat) else repeatS p.s (spanL p.s.n p.n o.addr.toNat) (lookW p.look o.code o.graph), n := o.addr.toNat }, 0) := rfl
set_option maxRecDepth 8000 in
theorem pspan_calls {σ : Store} {z q r : Nat} {p : Pen} (h : Pn σ z q r p) (hl : p.n < p.s.n) (o : Op) (ha : 0 ≤ o.addr) : ACalls Tryz.prog 73 [ptrA z, opA o] σ fun v σ' => v = .lit (.int .i64 ((p.span o).2 : Nat)) ∧ σ' = pn σ z q r (p.span o).1 := by
  have hp := h.pen
  have hto := fun τ (hτ : Pn τ z q r p) => to_calls hτ o.addr ha
  have hoc : opA o = .agg [.lit (.int .i64 o.kind), .lit (.int .i64 o.addr), byteA o.code, .lit (.bool o.graph), byteA o.fa, .list false 2 (pairsA o.pairs), .list false 1 (bytesA o.text)] := rfl
  rw [hoc, span_eq]
  unfold Pen.to at hto
  by_cases hlt : (p.s.n : Int) ≤ o.addr
  · simp only [if_pos hlt] at hto ⊢
    rw [h.self]
    unfold penO at hp
    have hzb := h.ne
    refine ACalls.of_awp follows (st := st73) (plans := pl73) (n := 43) Tryz.func73 rfl (by kernel_rfl) (by kernel_rfl) (by kernel_rfl) ?_
    simp +contextual [hp, hzb]
    intro b hb
    refine callK.of (hto _ (h.new hb _)) ?_
    rintro v σ' ⟨rfl, h2⟩
    rw [(h.new hb _).self] at h2
    subst h2
    simp
    exact Store.sub_upd hb (Store.sub_refl _)
  · simp only [if_neg hlt] at hto ⊢
    obtain ⟨t, ht⟩ : ∃ t : Nat, o.addr = t := ⟨o.addr.toNat, by omega⟩
    rw [ht] at hto hlt ⊢
    simp only [Int.toNat_natCast] at hto ⊢
    have htn : t < p.s.n := by omega
    have hPt : ∀ τ, Pn τ z q r p → Pn (pn τ z q r { p with n := t }) z q r { p with n := t } := fun τ hτ => hτ.to _ hτ.scr.good
    have hzb := h.ne
    have hfr := fun b (hb : σ b = none) => h.fresh hb
    by_cases h18 : o.kind = 18
    · have hrg := fun τ (hτ : Prg τ q r p.s) => range_calls hτ hl htn
      simp only [h18, if_true]
      unfold penO at hp
      refine ACalls.of_awp follows (st := st73) (plans := pl73) (n := 43) Tryz.func73 rfl (by kernel_rfl) (by kernel_rfl) (by kernel_rfl) ?_
      simp +contextual [hp, hzb]
      intro b hb
      have hb0 := hfr b hb
      generalize hX : [AV.lit (.int .i64 18), AV.lit (.int .i64 (t : Int)), byteA o.code, AV.lit (.bool o.graph), byteA o.fa, AV.list false 2 (pairsA o.pairs), AV.list false 1 (bytesA o.text)] = X at *
      have hT := h.new hb X
      refine callK.of (hto _ hT) ?_
      rintro v σ2 ⟨rfl, h2⟩
      have hP2 : Pn σ2 z q r { p with n := t } := h2 ▸ hPt _ hT
      have hb2 : σ2 b = some X := by rw [h2, pn_at hb0.2.1 hb0.2.2.2.2.1 hb0.2.2.2.2.2]; simp
      have hp2 := hP2.pen
      unfold penO at hp2
      have hfin : ∀ s', Store.sub (pn σ z q r { p with s := s', n := t }) (putS spO σ2 q r s') := fun s' => by
        rw [pn_scr hP2, h2, pn_pn _ _ h.scr.ne h.zq h.zr]
        exact pn_sub (Store.sub_upd hb (Store.sub_refl _)) _ _ _ _
      rw [← hX] at hb2
      simp [hb2, hp2]
      refine callK.of (hrg _ hP2.scr) ?_
      rintro v σ3 ⟨rfl, rfl⟩
      simp
      exact hfin _
    · have hrg := fun τ (hτ : Prg τ q r p.s) => repeat_calls hτ hl htn (lookW p.look o.code o.graph)
      have hce := fun τ (hτ : Pn τ z q r { p with n := t }) => cell_calls hτ o.code o.graph
      have hk' : ¬ (o.kind : Int) = 18 := by omega
      simp only [h18, if_false]
      unfold penO at hp
      refine ACalls.of_awp follows (st := st73) (plans := pl73) (n := 43) Tryz.func73 rfl (by kernel_rfl) (by kernel_rfl) (by kernel_rfl) ?_
      simp +contextual [hp, hzb]
      intro b hb
      have hb0 := hfr b hb
      generalize hX : [AV.lit (.int .i64 (o.kind : Int)), AV.lit (.int .i64 (t : Int)), byteA o.code, AV.lit (.bool o.graph), byteA o.fa, AV.list false 2 (pairsA o.pairs), AV.list false 1 (bytesA o.text)] = X at *
      have hT := h.new hb X
      refine callK.of (hto _ hT) ?_
      rintro v σ2 ⟨rfl, h2⟩
      have hP2 : Pn σ2 z q r { p with n := t } := h2 ▸ hPt _ hT
      have hb2 : σ2 b = some X := by rw [h2, pn_at hb0.2.1 hb0.2.2.2.2.1 hb0.2.2.2.2.2]; simp
      have hp2 := hP2.pen
      unfold penO at hp2
      have hfin : ∀ s', Store.sub (pn σ z q r { p with s := s', n := t }) (putS spO σ2 q r s') := fun s' => by
        rw [pn_scr hP2, h2, pn_pn _ _ h.scr.ne h.zq h.zr]
        exact pn_sub (Store.sub_upd hb (Store.sub_refl _)) _ _ _ _
      rw [← hX] at hb2
      simp [hb2, hp2, hk']
      repeat' (with_reducible apply And.intro)
      all_goals
        refine callK.of (hce _ hP2) ?_
        rintro v σ3 ⟨rfl, rfl⟩
        simp [hp2, hb2]
        refine callK.of (hrg _ hP2.scr) ?_
        rintro v σ3 ⟨⟨n, rfl⟩, rfl⟩
        simp
        exact hfin _
end Go.Proofs.YtnlggjbcdienfaaGreatDoor
/-
  To the next field.
-/
namespace Go.Proofs.YtnlggjbcdienfaaGreatDoor
open Go Go.AL Go.Sp

theorem attrAt_put {s : Sp} (h : s.good) (k : Int) (b : UInt8) (i : Nat) : attrAt (s.put k b).cells i = attrAt s.cells i := by
  by_cases hc : (s.at k).attr = true
  · unfold Sp.put; rw [if_pos hc]
  · have hc' : (s.at k).attr = false := by simpa using hc
    obtain ⟨h1, _⟩ := put_cells h k b hc'
    rw [h1]
    have hlt := wrap_lt s.n_pos k
    have hlt' : wrap s.n k < s.cells.length := by rw [h.len]; exact hlt
    unfold attrAt
    rw [List.getElem?_set]
    split
    · rename_i hi
      subst hi
      have e : s.cells[wrap s.n k] = s.at k := by simp [Sp.at, hlt']
      simp [hlt', e, hc']
    · rfl
def nullTo (s : Sp) (n j : Nat) : Sp := nullS s ((List.range j).map fun i => n + i)
theorem nullTo_succ (s : Sp) (n j : Nat) : nullTo s n (j + 1) = (nullTo s n j).put ((n + j : Nat) : Int) 0 := by
  unfold nullTo nullS
  rw [List.range_succ, List.map_append, List.foldl_append]; rfl
theorem nullTo_same {s : Sp} (h : s.good) (n j : Nat) : SameN s (nullTo s n j) := (SameN.refl h).nullS _
theorem nullTo_attr {s : Sp} (h : s.good) (n i : Nat) : ∀ j, attrAt (nullTo s n j).cells i = attrAt s.cells i
  | 0 => rfl
  | j + 1 => by rw [nullTo_succ, attrAt_put (nullTo_same h n j).1]; exact nullTo_attr h n i j
theorem nullsL_eq {s : Sp} {n j : Nat} (hj : j ≤ s.n - n) (hf : ∀ k, k < j → attrAt s.cells (n + k) = false) (hs : j = s.n - n ∨ attrAt s.cells (n + j) = true) : nullsL s n = (List.range j).map fun i => n + i := by
  unfold nullsL
  have hl : ((List.range (s.n - n)).map fun i => n + i).length = s.n - n := by simp
  have := takeWhile_cut (p := fun k => !attrAt s.cells k) (L := (List.range (s.n - n)).map fun i => n + i) (k := j) (by rw [hl]; exact hj) (fun i x hi hx => by
    have hin : i < s.n - n := by omega
    simp [hin] at hx; subst hx; simp [hf i hi]) (fun x hx => by
    rcases hs with hs | hs
    · subst hs; simp at hx
    · have hin : j < s.n - n := by
        have := (List.getElem?_eq_some_iff.1 hx).1; rw [hl] at this; exact this
      simp [hin] at hx; subst hx; simp [hs])
  rw [this, ← List.map_take, List.take_range, Nat.min_eq_left hj]
theorem pn_lv {σ ρ : Store} {z q r : Nat} {p : Pen} (_h : Pn σ z q r p) (hs : Store.sub σ ρ) (s' : Sp) (n' : Nat) : Store.sub (pn σ z q r { p with s := s', n := n' }) (pn ρ z q r { p with s := s', n := n' }) := pn_sub hs _ _ _ _
set_option maxRecDepth 8000 in
set_option maxHeartbeats 1000000 in
theorem tab_calls {σ : Store} {z q r : Nat} {p : Pen} (h : Pn σ z q r p) (hl : p.n < p.s.n) : ACalls Tryz.prog 76 [ptrA z] σ fun v σ' => v = .tuple [] ∧ σ' = pn σ z q r p.tab := by
  have hp := h.pen
  have hsz := fun τ (hτ : Prg τ q r p.s) => size_calls hτ
  have hcl := fun τ => scells_calls p.s τ
  have hzb := h.ne
  have hnl := p.s.n_le
  have hgood := h.scr.good
  -- behind the nulls
  have hfin : ∀ (s' : Sp), Store.sub σ σ → SameN p.s s' → (p.texts = true → s' = nullS p.s (nullsL p.s p.n)) → (p.texts = false → s' = p.s) → p.tab = { p with s := s', n := tabN s' p.n } := fun s' _ _ h1 h2 => by
    unfold Pen.tab
    cases ht : p.texts
    · simp [h2 ht]
    · simp [h1 ht]
  unfold penO at hp
  refine ACalls.of_awp follows (st := st76) (plans := pl76) (n := 59) Tryz.func76 rfl (by kernel_rfl) (by kernel_rfl) (by kernel_rfl) ?_
  simp +contextual [hp]
  refine callK.of (hsz _ h.scr) ?_
  rintro v σ' ⟨rfl, rfl⟩
  simp
  intro b hb
  have hb0 := h.fresh hb
  generalize hX : [AV.lit (.int .i64 (p.s.rows : Int)), AV.lit (.int .i64 (p.s.cols : Int))] = X at *
  rw [← hX] at hcl
  -- what follows the nulls
  have hend : ∀ (s' : Sp) (σ2 : Store), SameN p.s s' → σ2 = pn (σ'.upd b X) z q r { p with s := s' } → p.tab = { p with s := s', n := tabN s' p.n } →
      Pn σ2 z q r { p with s := s' } ∧ (nextS s' p.n > p.n → Store.sub (pn σ' z q r p.tab) (σ2.upd z (penO q { p with s := s', n := (nextS s' p.n).toNat }))) ∧ (¬ nextS s' p.n > p.n → Store.sub (pn σ' z q r p.tab) (σ2.upd z (penO q { p with s := s', n := 0 }))) := fun s' σ2 hs' h2 ht => by
    have hP2 : Pn σ2 z q r { p with s := s' } := h2 ▸ (h.new hb X).to _ hs'.1
    have hpen : ∀ n', σ2.upd z (penO q { p with s := s', n := n' }) = pn (σ'.upd b X) z q r { p with s := s', n := n' } := fun n' => by
      rw [pn_pen hP2 { p with s := s', n := n' } rfl, h2, pn_pn _ _ h.scr.ne h.zq h.zr]
    refine ⟨hP2, fun hn => ?_, fun hn => ?_⟩
    · rw [hpen, ht, tabN, if_pos hn]
      exact pn_sub (Store.sub_upd hb (Store.sub_refl _)) _ _ _ _
    · rw [hpen, ht, tabN, if_neg hn]
      exact pn_sub (Store.sub_upd hb (Store.sub_refl _)) _ _ _ _
  cases ht : p.texts
  · have hT := h.new hb X
    have htab := hfin p.s (Store.sub_refl _) (SameN.refl hgood) (by simp [ht]) (fun _ => rfl)
    obtain ⟨hP2, e1, e2⟩ := hend p.s (σ'.upd b X) (SameN.refl hgood) hT.self.symm htab
    have hnx := fun τ (hτ : Prg τ q r p.s) => fnext_calls hτ hl
    have hnlt := nextS_lt p.s p.n
    have hpe : ∀ n', penO q { p with s := p.s, n := n' } = [ptrA q, .lit (.int .i64 n'), byteA p.look.char, .lit (.bool p.look.attr), byteA p.look.fa, byteA p.look.high, byteA p.look.color, byteA p.look.set, .lit (.bool p.texts)] := fun _ => rfl
    rw [hpe] at e1 e2
    rw [ht] at e1 e2 hp
    generalize p.tab = pt at *
    simp [hp, hb0]
    refine callK.of (hnx _ hP2.scr) ?_
    rintro v σ3 ⟨rfl, rfl⟩
    by_cases hn : (p.n : Int) < nextS p.s p.n
    · have hnn : (((nextS p.s p.n).toNat : Nat) : Int) = nextS p.s p.n := by omega
      rw [hnn] at e1
      simp [hp, hb0, hn]
      exact e1 hn
    · simp [hp, hb0, hn]
      exact e2 hn
  · simp [hp, hb0, ht]
    refine codeK.scope follows (st := st76) (plans := pl76) (by kernel_rfl) ?_
    simp [hp, hb0, ht]
    refine codeK.loop follows (st := st76) (plans := pl76) (X := Nat) (fun j => j ≤ p.s.n - p.n ∧ ∀ k, k < j → attrAt p.s.cells (p.n + k) = false)
      (fun j => [(0, ptrA z), (2, ptrA b), (3, .lit (.int .i64 (p.n + j : Nat)))]) (fun j => pn (σ'.upd b X) z q r { p with s := nullTo p.s p.n j }) (fun j => p.s.n - j) 0 (by kernel_rfl) (by simp) (by simp) (by
        have hz0 : nullTo p.s p.n 0 = p.s := rfl
        rw [hz0, (h.new hb X).self]; exact Store.sub_refl _) fun j hj => ?_
    obtain ⟨hj, hk⟩ := hj
    have hsj := nullTo_same hgood p.n j
    have hP2 : Pn (pn (σ'.upd b X) z q r { p with s := nullTo p.s p.n j }) z q r { p with s := nullTo p.s p.n j } := (h.new hb X).to _ hsj.1
    have hp2 := hP2.pen
    unfold penO at hp2
    have hb2 : pn (σ'.upd b X) z q r { p with s := nullTo p.s p.n j } b = some X := by rw [pn_at hb0.2.1 hb0.2.2.2.2.1 hb0.2.2.2.2.2]; simp
    have hb2 : pn (σ'.upd b X) z q r { p with s := nullTo p.s p.n j } b = some [AV.lit (.int .i64 (p.s.rows : Int)), AV.lit (.int .i64 (p.s.cols : Int))] := hb2.trans (by rw [hX])
    have hpe : ∀ s' n', penO q { p with s := s', n := n' } = [ptrA q, .lit (.int .i64 n'), byteA p.look.char, .lit (.bool p.look.attr), byteA p.look.fa, byteA p.look.high, byteA p.look.color, byteA p.look.set, .lit (.bool p.texts)] := fun _ _ => rfl
    have htab : (j = p.s.n - p.n ∨ attrAt p.s.cells (p.n + j) = true) → p.tab = { p with s := nullTo p.s p.n j, n := tabN (nullTo p.s p.n j) p.n } := fun hs => hfin _ (Store.sub_refl _) hsj (fun _ => by rw [nullsL_eq hj hk hs]; rfl) (fun h => by rw [ht] at h; cases h)
    by_cases hlt : p.n + j < p.s.n
    · have hat := at_calls hP2.scr ((p.n + j : Nat) : Int)
      have hpu := pput_calls hP2.scr ((p.n + j : Nat) : Int) 0
      have hw : IntKind.i64.wrap (((p.n + j : Nat) : Int) + 1) = ((p.n + (j + 1) : Nat) : Int) := by rw [wrap_i64 (by omega) (by omega)]; omega
      have hae : ((nullTo p.s p.n j).at ((p.n + j : Nat) : Int)).attr = attrAt p.s.cells (p.n + j) := by rw [attrAt_at (by rw [hsj.n]; exact hlt), nullTo_attr hgood]
      simp only [cellA_eq, hae] at hat
      have hlt' : ((p.n + j : Nat) : Int) < p.s.n := by omega
      have hstep := pn_scr hP2 ((nullTo p.s p.n j).put ((p.n + j : Nat) : Int) 0)
      rw [pn_pn _ _ h.scr.ne h.zq h.zr, ← nullTo_succ] at hstep
      rw [← nullTo_succ] at hpu
      have hnext : attrAt p.s.cells (p.n + j) = false → ∀ k, k < j + 1 → attrAt p.s.cells (p.n + k) = false := fun h0 k hk' => by
        by_cases e : k = j
        · subst e; exact h0
        · exact hk k (by omega)
      generalize hkk : p.n + j = kk at *
      by_cases ha : attrAt p.s.cells kk = true
      · have hstop : j = p.s.n - p.n ∨ attrAt p.s.cells kk = true := .inr ha
        rw [ha] at hat
        simp [hb2]
        refine callK.of (hcl _) ?_
        rintro v σ3 ⟨rfl, rfl⟩
        simp [hp2, hlt']
        refine callK.of hat ?_
        rintro v σ3 ⟨rfl, rfl⟩
        simp [hp2]
        obtain ⟨hP3, e1, e2⟩ := hend (nullTo p.s p.n j) _ hsj rfl (htab hstop)
        have hnx := fnext_calls hP3.scr (n := p.n) (by show p.n < (nullTo p.s p.n j).n; rw [hsj.n]; exact hl)
        have hnlt := nextS_lt (nullTo p.s p.n j) p.n
        rw [hpe] at e1 e2
        generalize p.tab = pt at *
        generalize nullTo p.s p.n j = sj at *
        refine callK.of hnx ?_
        rintro v σ3 ⟨rfl, rfl⟩
        by_cases hn : (p.n : Int) < nextS sj p.n
        · have hnn : (((nextS sj p.n).toNat : Nat) : Int) = nextS sj p.n := by omega
          rw [hnn] at e1
          simp [hp2, hn]
          exact e1 hn
        · simp [hp2, hn]
          exact e2 hn
      · have ha' : attrAt p.s.cells kk = false := by simpa using ha
        rw [ha'] at hat
        simp [hb2]
        refine callK.of (hcl _) ?_
        rintro v σ3 ⟨rfl, rfl⟩
        simp [hp2, hlt']
        refine callK.of hat ?_
        rintro v σ3 ⟨rfl, rfl⟩
        simp [hp2]
        refine callK.of hpu ?_
        rintro v σ3 ⟨rfl, rfl⟩
        simp
        exact ⟨j + 1, ⟨by omega, hnext ha'⟩, by omega, by rw [hw]; exact AV.le_refl _, by rw [hstep]; exact Store.sub_refl _⟩
    · have hstop : j = p.s.n - p.n ∨ attrAt p.s.cells (p.n + j) = true := .inl (by omega)
      have hlt' : ¬ ((p.n + j : Nat) : Int) < p.s.n := by omega
      generalize hkk : p.n + j = kk at *
      simp [hb2]
      refine callK.of (hcl _) ?_
      rintro v σ3 ⟨rfl, rfl⟩
      simp [hp2, hlt']
      obtain ⟨hP3, e1, e2⟩ := hend (nullTo p.s p.n j) _ hsj rfl (htab hstop)
      have hnx := fnext_calls hP3.scr (n := p.n) (by show p.n < (nullTo p.s p.n j).n; rw [hsj.n]; exact hl)
      have hnlt := nextS_lt (nullTo p.s p.n j) p.n
      rw [hpe] at e1 e2
      generalize p.tab = pt at *
      generalize nullTo p.s p.n j = sj at *
      refine callK.of hnx ?_
      rintro v σ3 ⟨rfl, rfl⟩
      by_cases hn : (p.n : Int) < nextS sj p.n
      · have hnn : (((nextS sj p.n).toNat : Nat) : Int) = nextS sj p.n := by omega
        rw [hnn] at e1
        simp [hp2, hn]
        exact e1 hn
      · simp [hp2, hn]
        exact e2 hn
end Go.Proofs.YtnlggjbcdienfaaGreatDoor
