/-
  All orders, as the document reads them: one behind the other.
-/
import Derived.Test.YtnlggjbcdienfaaGreatDoorPart24
import Derived.Test.YtnlggjbcdienfaaGreatDoorRows
import Derived.Lay
import Derived.LaidMore
namespace Go.Proofs.YtnlggjbcdienfaaGreatDoor
open Go Go.AL Go.Sp

theorem rnext_calls (o : Bool) (l : List UInt8) (hne : l ≠ []) (hl : l.length ≤ 1000000000) (σ : Store) : ACalls Tryz.prog 33 [.list o 1 (bytesA l)] σ (NextR l σ) := by
  rcases l with _ | ⟨c, tl⟩
  · exact absurd rfl hne
  have htl : tl.length ≤ 1000000000 := by simp at hl; omega
  by_cases hc : isOrd c = true
  · rcases isOrd_cases hc with rfl | rfl | rfl | rfl | rfl | rfl | rfl | rfl | rfl | rfl
    · exact rnext_5 o tl σ
    · exact rnext_8 o tl σ
    · exact rnext_17 o tl σ
    · exact rnext_18 o tl σ
    · exact rnext_19 o tl σ
    · exact rnext_29 o tl σ
    · exact rnext_40 o tl σ
    · exact rnext_41 o tl htl σ
    · exact rnext_44 o tl htl σ
    · exact rnext_60 o tl σ
  · exact rnext_text o c tl (by simpa using hc) htl σ
/-- All that the document says: if there is no error the kinds are the program's. -/
def RallR (l : List UInt8) (σ : Store) (v : AV) (σ' : Store) : Prop := ∃ (os : List Op) (k e : Nat), v = .tuple [.list true 7 (opsA os), .lit (.int .i64 k), .lit (.int .i64 e)] ∧ σ' = σ ∧ os.length ≤ l.length ∧
  (e = 0 → (allF l).2 = 0 ∧ (allF l).1.map (·.kind) = os.map (·.kind))
set_option maxRecDepth 8000 in
set_option maxHeartbeats 1000000 in
theorem rall_calls (o : Bool) (l : List UInt8) (hl : l.length ≤ 1000000000) (σ : Store) : ACalls Tryz.prog 9 [.list o 1 (bytesA l)] σ (RallR l σ) := by
  refine ACalls.of_awp follows (st := st9) (plans := pl9) (n := 36) Tryz.func9 rfl (by kernel_rfl) (by kernel_rfl) (by kernel_rfl) ?_
  simp
  refine codeK.loop follows (st := st9) (plans := pl9) (X := Nat × List Op) (fun x => x.1 ≤ l.length ∧ (allF l).2 = (allF (l.drop x.1)).2 ∧ (allF l).1.map (·.kind) = x.2.map (·.kind) ++ (allF (l.drop x.1)).1.map (·.kind) ∧ x.2.length ≤ x.1)
    (fun x => [(0, .list o 1 (bytesA l)), (5, .list true 7 (opsA x.2)), (6, .lit (.int .i64 x.1))]) (fun _ => σ) (fun x => l.length - x.1) (0, []) (by kernel_rfl) (by simp) (by simp [opsA]) (Store.sub_refl _) ?_
  rintro ⟨i, os⟩ ⟨hi, hE, hO, hos⟩
  dsimp only at hi hE hO hos ⊢
  by_cases hlt : i < l.length
  · have hdl : (l.drop i).length = l.length - i := by simp
    have hdne : l.drop i ≠ [] := fun e => by rw [e] at hdl; simp at hdl; omega
    have hnx := fun τ => rnext_calls false (l.drop i) hdne (by omega) τ
    have hbt : ((bytesA l).take l.length).drop i = bytesA (l.drop i) := by rw [htake]; simp [bytesA]
    have hlt' : (i : Int) < l.length := by omega
    have hcons : ∃ c tl, l.drop i = c :: tl := by
      cases hd : l.drop i with
      | nil => exact absurd hd hdne
      | cons c tl => exact ⟨c, tl, rfl⟩
    obtain ⟨c, tl, hcd⟩ := hcons
    simp [hlt, hlt', hbt, hi]
    refine callK.of (hnx _) ?_
    rintro v σ' ⟨op, n, e, rfl, rfl, hn, hee⟩
    have hw : IntKind.i64.wrap ((i : Int) + (n : Int)) = ((i + n : Nat) : Int) := by rw [wrap_i64 (by omega) (by omega)]; omega
    have hstep : e = 0 → 0 < n ∧ (allF l).2 = (allF (l.drop (i + n))).2 ∧ (allF l).1.map (·.kind) = (os ++ [op]).map (·.kind) ++ (allF (l.drop (i + n))).1.map (·.kind) := fun he => by
      obtain ⟨e1, e2, e3⟩ := hee he
      have hlen := opF_len hdne
      rw [e3, List.length_drop, hdl] at hlen
      rw [hcd] at e1 e2 e3 hE hO
      rw [allF_cons, if_pos e1] at hE hO
      rw [e3, ← hcd, List.drop_drop] at hE hO
      refine ⟨by omega, hE, ?_⟩
      rw [hO, List.map_append, List.append_assoc, List.map_cons, List.map_cons, List.map_nil, hcd, ← e2]; rfl
    have hlast : RallR l σ' (.tuple [.list true 7 (opsA os), .lit (.int .i64 i), .lit (.int .i64 e)]) σ' ∨ e = 0 := by
      by_cases he : e = 0
      · exact .inr he
      · exact .inl ⟨os, i, e, rfl, rfl, by omega, fun h => absurd h he⟩
    have happ := opsA_append os [op]
    obtain ⟨kind, addr, code, graph, fa, pairs, text⟩ := op
    simp only [opsA, opA, opC, List.map_cons, List.map_nil] at happ
    simp [opA, opC]
    intro r hr
    by_cases he : e = 0
    · obtain ⟨h1, h2, h3⟩ := hstep he
      simp [he]
      refine ⟨by omega, by omega, i + n, os ++ [⟨kind, addr, code, graph, fa, pairs, text⟩], ⟨by omega, h2, h3, by simp; omega⟩, by omega, ⟨?_, ?_⟩, ?_⟩
      · rw [opsA_append]; exact AV.le_refl _
      · rw [hw]; exact AV.le_refl _
      · exact sub_upd_self _ _ _ hr
    · simp [he]
      exact ⟨_, AV.le_refl _, _, sub_upd_self _ _ _ hr, hlast.resolve_right he⟩
  · obtain rfl : i = l.length := by omega
    simp
    refine ⟨_, AV.le_refl _, _, Store.sub_refl _, os, l.length, 0, rfl, rfl, hos, fun _ => ?_⟩
    rw [List.drop_length] at hE hO
    exact ⟨hE, by rw [hO]; simp [allF_nil]⟩
end Go.Proofs.YtnlggjbcdienfaaGreatDoor
/-
  A screen's copy.
-/
namespace Go.Proofs.YtnlggjbcdienfaaGreatDoor
open Go Go.AL Go.Sp

theorem cellsO_plain (l : List Cell) : ∀ c ∈ cellsO l, c.plain1 = true := by
  intro c hc
  unfold cellsO at hc
  rw [List.mem_flatMap] at hc
  obtain ⟨d, _, hc⟩ := hc
  simp [cellC] at hc
  rcases hc with rfl | rfl | rfl | rfl | rfl | rfl <;> rfl
set_option maxRecDepth 8000 in
theorem sclone_calls {p : Nat} {s : Sp} {σ : Store} (hr : σ p = some (cellsO s.cells)) (hg : s.good) : ACalls Tryz.prog 32 [rowC p s.n] σ fun v σ' => ∃ p2, v = rowC p2 s.n ∧ σ p2 = none ∧ σ' = σ.upd p2 (cellsO s.cells) := by
  have hpl := cellsO_plain s.cells
  have hn := s.n_pos
  have hle := s.n_le
  have hlen : (cellsO s.cells).length = s.n * 6 := by rw [cellsO_length, hg.len]
  have htk : (cellsO s.cells).take (s.n * 6) = cellsO s.cells := by rw [← hlen, List.take_length]
  generalize s.n = n at *
  generalize cellsO s.cells = L at *
  refine ACalls.of_awp follows (st := st32) (plans := pl32) (n := 8) Tryz.func32 rfl (by kernel_rfl) (by kernel_rfl) (by kernel_rfl) ?_
  simp [rowC, hr]
  intro r hr0
  have hpr : ¬ p = r := by rintro rfl; rw [hr] at hr0; cases hr0
  simp [hpr, hr, hlen, htk]
  refine ⟨hn, by omega, by omega, hpl, fun p2 h1 => ?_⟩
  rw [ite_none] at h1
  obtain ⟨h1, h2⟩ := h1
  refine ⟨_, AV.le_refl _, _, ?_, p2, rfl, h2, rfl⟩
  (intro q; simp only [Store.upd, Store.del]; (repeat' split) <;> first | exact Or.inr rfl | exact Or.inl rfl | (exfalso; omega) | (left; subst_vars; assumption) | simp_all)
set_option maxRecDepth 8000 in
theorem scopy_calls {q p : Nat} {s : Sp} {σ : Store} (h : Prg σ q p s) : ACalls Tryz.prog 7 [ptrA q] σ fun v σ' => ∃ q2 p2, v = ptrA q2 ∧ σ q2 = none ∧ σ p2 = none ∧ q2 ≠ p2 ∧ σ' = putS spO σ q2 p2 s := by
  have ho := h.obj
  have hcl := fun τ hτ => sclone_calls (p := p) (s := s) (σ := τ) hτ h.good
  unfold spO at ho
  unfold rowC at hcl ho
  refine ACalls.of_awp follows (st := st7) (plans := pl7) (n := 15) Tryz.func7 rfl (by kernel_rfl) (by kernel_rfl) (by kernel_rfl) ?_
  simp [ho]
  intro q2 hq2
  have hf := h.fresh hq2
  refine callK.of (hcl _ (by simp [hf.2.1, h.row])) ?_
  rintro v σ' ⟨p2, rfl, hp2, rfl⟩
  simp only [supd_apply, ite_none] at hp2
  obtain ⟨n1, hp2⟩ := hp2
  simp [n1, Ne.symm n1]
  refine ⟨_, AV.le_refl _, _, ?_, q2, rfl, hq2, p2, hp2, Ne.symm n1, rfl⟩
  unfold putS spO rowC
  (intro q; simp only [Store.upd, Store.del]; (repeat' split) <;> first | exact Or.inr rfl | exact Or.inl rfl | (exfalso; omega) | (left; subst_vars; assumption) | simp_all)
end Go.Proofs.YtnlggjbcdienfaaGreatDoor
/-
  WriteAgain: what was on the screen does not count.
-/
namespace Go.Proofs.YtnlggjbcdienfaaGreatDoor
open Go Go.AL Go.Sp

theorem begin_model {s t : Sp} (h : s.model = t.model) {k : Nat} (hk : ¬ k = 1) (c : UInt8) : beginS s k c = beginS t k c := by
  rw [begin_e s k c hk, begin_e t k c hk]; unfold Sp.clear; rw [h]
theorem pen_model {s t : Sp} (h : s.model = t.model) {k : Nat} (hk : ¬ k = 1) (l : List UInt8) : penF s k l = penF t k l := by
  unfold penF; rw [begin_model h hk]
theorem cmd_245 : cmdF 245 = (2, true) := by decide
theorem cmd_126 : cmdF 126 = (3, true) := by decide
def cmdB (alt : Bool) : UInt8 := if alt = true then 126 else 245
def cmdK (alt : Bool) : Nat := if alt = true then 3 else 2
theorem cmd_b (alt : Bool) : cmdF (cmdB alt) = (cmdK alt, true) := by cases alt <;> decide
theorem run_erase (s : Sp) (alt : Bool) (l : List UInt8) : runS s (cmdB alt :: l) = ⟨(penF s (cmdK alt) l).1.s, resF s (cmdK alt) l, [], (penF s (cmdK alt) l).2.2⟩ := by
  show (if (cmdF (cmdB alt)).2 = true then ranCmd s (cmdF (cmdB alt)).1 l else (⟨s, ⟨0, false, false, false, 0⟩, [], 11⟩ : Ran)) = _
  rw [cmd_b]
  show ranCmd s (cmdK alt) l = _
  unfold ranCmd
  rw [if_pos (by cases alt <;> simp [cmdK])]
theorem run_model {s t : Sp} (h : s.model = t.model) (alt : Bool) (l : List UInt8) : runS s (cmdB alt :: l) = runS t (cmdB alt :: l) := by
  have hk : ¬ cmdK alt = 1 := by cases alt <;> simp [cmdK]
  rw [run_erase, run_erase, pen_model h hk]
  unfold resF
  rw [pen_model h hk]
theorem run_alt {s : Sp} (h : s.good) (alt : Bool) (l : List UInt8) : (runS s (cmdB alt :: l)).s.alt = alt := by
  have hk : ¬ cmdK alt = 1 := by cases alt <;> simp [cmdK]
  rw [run_erase]
  have := (PenOk.ordN l.tail.length l.tail 0 (p := pen0 (beginS s (cmdK alt) (ctlOf l)) (wrap (beginS s (cmdK alt) (ctlOf l)).n (beginS s (cmdK alt) (ctlOf l)).cursor)) ⟨SameN.refl (begin_good h (cmdK alt) (ctlOf l)), pen0_lt _ _⟩).same.2.2
  refine this.trans ?_
  rw [begin_e s _ _ hk]
  cases alt <;> rfl
theorem lays_model (m : UInt8) (l : List Sp.Act) : (Sp.lays m l).model = 2 + m.toNat % 4 := foldl_model _ _
theorem both_sub {σ : Store} {q p x y : Nat} {s t : Sp} (h : Four σ q p x y) : Store.sub σ (both σ q p x y s t) := by
  intro o
  by_cases h1 : o = q
  · left; rw [h1]; exact h.q0
  by_cases h2 : o = p
  · left; rw [h2]; exact h.p0
  by_cases h3 : o = x
  · left; rw [h3]; exact h.x0
  by_cases h4 : o = y
  · left; rw [h4]; exact h.y0
  right; simp [both, putS, h1, h2, h3, h4]
theorem sub_put {σ ρ : Store} {q r : Nat} {s : Sp} (h : Store.sub σ ρ) (hq : σ q = none) (hr : σ r = none) : Store.sub σ (putS spO ρ q r s) := fun o => by
  by_cases h1 : o = q
  · left; rw [h1]; exact hq
  · by_cases h2 : o = r
    · left; rw [h2]; exact hr
    · rw [putS_at h1 h2]; exact h o
theorem sub_none {σ ρ : Store} {o : Nat} (h : Store.sub σ ρ) (ho : ρ o = none) : σ o = none := by
  rcases h o with e | e
  · exact e
  · rw [e]; exact ho
theorem prg_other {σ : Store} {q r q1 r1 : Nat} {s t : Sp} (h : Prg σ q r s) (h1 : ¬ q = q1) (h2 : ¬ q = r1) (h3 : ¬ r = q1) (h4 : ¬ r = r1) : Prg (putS spO σ q1 r1 t) q r s :=
  ⟨(putS_at h1 h2).trans h.obj, (putS_at h3 h4).trans h.row, h.ne, h.good⟩
end Go.Proofs.YtnlggjbcdienfaaGreatDoor
/-
  WriteJoins: orders that begin with an address do alone what they do behind others.
-/
namespace Go.Proofs.YtnlggjbcdienfaaGreatDoor
open Go Go.AL Go.Sp

theorem runOps_cons (o : Op) (os : List Op) (p : Pen) (k : Nat) : runOps (o :: os) p k = if (p.do o).2 ≠ 0 then ((p.do o).1, k, (p.do o).2) else runOps os ((p.do o).1.mark o) (k + 1) := rfl
theorem runOps_le : ∀ (os : List Op) (p : Pen) (k : Nat), (runOps os p k).2.1 ≤ k + os.length
  | [], _, _ => Nat.le_refl _
  | o :: os, p, k => by
    rw [runOps_cons]
    split
    · simp
    · have := runOps_le os ((p.do o).1.mark o) (k + 1)
      simp; omega
theorem ordS_le (l : List UInt8) (p : Pen) (k : Nat) : (ordS l p k).2.1 ≤ k + l.length := by
  have h1 := runOps_le (allF l).1 p k
  have h2 := allF_count l
  rw [ordS_run]
  unfold endE
  split
  · omega
  · simp only; omega
theorem ordS_ok {s : Sp} (h : s.good) (l : List UInt8) {m : Nat} (hm : m < s.n) : PenOk s (ordS l (pen0 s m) 0).1 := PenOk.ordN _ _ _ ⟨SameN.refl h, hm⟩
set_option maxRecDepth 8000 in
set_option maxHeartbeats 2000000 in
theorem writeJoins_law (m : UInt8) (a1 : List Sp.Act) (l1 l2 : List UInt8) (n : Int) (h1 : a1.length ≤ 9223372036854775807) (h3 : ∀ a ∈ a1, a.text.length ≤ 9223372036854775807) (σ : Store) :
    ACalls Tryz.prog 3 [byteA m, .list false 11 (actsA a1), .list false 1 (bytesA l1), .list false 1 (bytesA l2), .lit (.int .i64 n)] σ fun v σ' => v = .lit (.bool true) ∧ σ' = σ := by
  have haw := fun τ => awake_calls τ
  have hl1 := fun τ => lay_calls m a1 h1 h3 τ
  have g1 := lays_good m a1
  generalize Sp.lays m a1 = s at *
  have hc1 := fun τ => cut_calls false l1 200 τ (by omega)
  have hc2 := fun τ => cut_calls false l2 200 τ (by omega)
  have hk1 : (l1.take 200).length ≤ 200 := by simp; omega
  have hk2 : (l2.take 200).length ≤ 200 := by simp; omega
  generalize l1.take 200 = k1 at *
  generalize l2.take 200 = k2 at *
  have hra := fun τ => rall_calls false k1 (by omega) τ
  have hcp := fun τ => copy_calls false k1 τ (by omega)
  have hsc := fun τ (q p : Nat) (h : Prg τ q p s) => scopy_calls h
  refine ACalls.of_awp follows (st := st3) (plans := pl3) (n := 130) Tryz.func3 rfl (by kernel_rfl) (by kernel_rfl) (by kernel_rfl) ?_
  simp
  refine callK.of (haw _) ?_
  rintro v σ0 ⟨rfl, rfl⟩
  simp
  refine callK.of (hl1 _) ?_
  rintro v σ' ⟨q, p, x, y, rfl, f1, rfl⟩
  have hP1 := both_prg (t := s) f1 g1
  have hs1 := both_sub (s := s) (t := s) f1
  generalize both _ q p x y s s = ρ at *
  simp
  refine callK.of (hsc _ q p hP1) ?_
  rintro v σ' ⟨q2, p2, rfl, hq2, hp2, hqp2, rfl⟩
  have d1 := hP1.fresh hq2
  have d2 := hP1.fresh hp2
  have hP2 : Prg (putS spO ρ q2 p2 s) q2 p2 s := Scr.of_put hqp2 g1
  have hP1 := prg_other (t := s) hP1 d1.1 d2.1 d1.2.1 d2.2.1
  have q0 := f1.q0
  have p0 := f1.p0
  have q20 := sub_none hs1 hq2
  have p20 := sub_none hs1 hp2
  have hsa := sub_put (s := s) hs1 q20 p20
  generalize putS spO ρ q2 p2 s = ρ1 at *
  simp
  refine callK.of (hc1 _) ?_
  rintro v ρ2 ⟨rfl, rfl⟩
  simp
  refine callK.of (hc2 _) ?_
  rintro v ρ2 ⟨rfl, rfl⟩
  simp
  refine callK.of (hra _) ?_
  rintro v ρ2 ⟨os, kk, e, rfl, rfl, hosl, hee⟩
  simp
  refine codeK.loop follows (st := st3) (plans := pl3) (X := Nat) (fun i => i ≤ os.length ∧ ∀ j (hj : j < os.length), j < i → ¬ os[j].kind = 40)
    (fun i => [(2, .list false 1 (bytesA k1)), (3, .list false 1 (bytesA k2)), (4, .lit (.int .i64 n)), (11, ptrA q), (13, ptrA q2), (16, .lit (.int .i64 e)), (48, .list false 7 (opsA os)), (49, .lit (.int .i64 os.length)), (50, .lit (.int .i64 i))])
    (fun _ => ρ2) (fun i => os.length - i) 0 (by kernel_rfl) (by simp) (by simp) (Store.sub_refl _) fun i hi => ?_
  obtain ⟨hi, hk⟩ := hi
  by_cases hlt : i < os.length
  · have hw : IntKind.i64.wrap ((i : Int) + 1) = ((i + 1 : Nat) : Int) := wrap_i64 (by omega) (by omega)
    have hg := opsA_get os i hlt
    have hnx : ¬ os[i].kind = 40 → ∀ j (hj : j < os.length), j < i + 1 → ¬ os[j].kind = 40 := fun h j hj hji => by
      by_cases e : j = i
      · subst e; exact h
      · exact hk j hj (by omega)
    have hlt' : (i : Int) < os.length := by omega
    generalize os[i] = op at *
    obtain ⟨kind, addr, code, graph, fa, pairs, text⟩ := op
    simp only [opA, opC] at hg hnx
    simp [hlt, hlt', hg]
    intro r hr
    by_cases h40 : kind = 40
    · simp [h40]
      exact Store.sub_trans hsa (Store.sub_upd hr (Store.sub_refl _))
    · have h40' : ¬ (kind : Int) = 40 := by omega
      simp [h40']
      exact ⟨i + 1, ⟨by omega, hnx h40⟩, by omega, by rw [hw]; exact AV.le_refl _, Store.sub_upd hr (Store.sub_refl _)⟩
  obtain rfl : i = os.length := by omega
  simp
  by_cases he : e = 0
  case neg =>
    simp [he]
    exact hsa
  obtain ⟨hE, hK⟩ := hee he
  have hno : ∀ o ∈ (allF k1).1, ¬ o.kind = 40 := fun o ho h => by
    have hm : (40 : Nat) ∈ os.map (·.kind) := by rw [← hK, List.mem_map]; exact ⟨o, ho, h⟩
    obtain ⟨o', ho', h'⟩ := List.mem_map.1 hm
    obtain ⟨j, hj, rfl⟩ := List.getElem_of_mem ho'
    exact hk j hj hj h'
  simp [he]
  refine ⟨by omega, by omega, ?_⟩
  have hadr : bytesA k1 ++ (.lit (.int .u8 17) :: .lit (.int .u8 64) :: .lit (.int .u8 64) :: bytesA k2) = bytesA (k1 ++ adr k2) := by rw [bytesA_append]; rfl
  have hadr2 : .lit (.int .u8 17) :: .lit (.int .u8 64) :: .lit (.int .u8 64) :: bytesA k2 = bytesA (adr k2) := rfl
  have hla : (adr k2).length ≤ 203 := by simp [adr]; omega
  have hm0 := wrap_lt s.n_pos n
  have hor1 := fun τ (hτ : Prg τ q p s) => orders_calls hτ true (k1 ++ adr k2) (by simp; omega) n
  have hor2 := fun τ (hτ : Prg τ q2 p2 s) => orders_calls hτ false k1 (by omega) n
  have hok1 := ordS_ok g1 (k1 ++ adr k2) hm0
  have hok2 := ordS_ok g1 k1 hm0
  have hj := joined k2 hE hno s (wrap s.n n) (Sp.n_pos _)
  have hcB := ordS_le k1 (pen0 s (wrap s.n n)) 0
  generalize ordS (k1 ++ adr k2) (pen0 s (wrap s.n n)) 0 = A at *
  generalize ordS k1 (pen0 s (wrap s.n n)) 0 = B at *
  obtain ⟨pb, cb, eb⟩ := B
  dsimp only at hor2 hok2 hj hcB
  have hwB : wrap pb.s.n (pb.n : Int) = pb.n := wrap_of_lt (by rw [hok2.same.n]; exact hok2.lt)
  have hor3 := fun τ (hτ : Prg τ q2 p2 pb.s) => orders_calls hτ false (adr k2) (by omega) (pb.n : Int)
  rw [hwB] at hor3
  have hok3 := ordS_ok hok2.same.1 (adr k2) (show pb.n < pb.s.n by rw [hok2.same.n]; exact hok2.lt)
  have hcC := ordS_le (adr k2) (pen0 pb.s pb.n) 0
  generalize ordS (adr k2) (pen0 pb.s pb.n) 0 = C at *
  obtain ⟨pc, cc, ec⟩ := C
  dsimp only at hor3 hok3 hj hcC
  refine callK.of (hcp _) ?_
  rintro v ρ3 ⟨rfl, rfl⟩
  simp [hadr]
  refine ⟨by omega, by omega, ?_⟩
  refine callK.of (hor1 _ hP1) ?_
  rintro v ρ4 ⟨rfl, rfl⟩
  have hP2 := prg_other (t := A.1.s) hP2 d1.2.2.1 d1.2.2.2 d2.2.2.1 d2.2.2.2
  have hP1 : Prg (putS spO ρ3 q p A.1.s) q p A.1.s := Scr.of_put hP1.ne hok1.same.1
  have hsa := sub_put (s := A.1.s) hsa q0 p0
  generalize putS spO ρ3 q p A.1.s = ρ4 at *
  simp
  refine callK.of (hor2 _ hP2) ?_
  rintro v ρ5 ⟨rfl, rfl⟩
  have hP1 := prg_other (t := pb.s) hP1 d1.1 d2.1 d1.2.1 d2.2.1
  have hP2 : Prg (putS spO ρ4 q2 p2 pb.s) q2 p2 pb.s := Scr.of_put hP2.ne hok2.same.1
  have hsa := sub_put (s := pb.s) hsa q20 p20
  generalize putS spO ρ4 q2 p2 pb.s = ρ5 at *
  by_cases heb : eb = 0
  · rw [if_neg (by simp [heb])] at hj
    subst hj
    simp [heb, hadr2]
    refine callK.of (hor3 _ hP2) ?_
    rintro v ρ6 ⟨rfl, rfl⟩
    have hP1 := prg_other (t := pc.s) hP1 d1.1 d2.1 d1.2.1 d2.2.1
    have hP2 : Prg (putS spO ρ5 q2 p2 pc.s) q2 p2 pc.s := Scr.of_put hP2.ne hok3.same.1
    have hsa := sub_put (s := pc.s) hsa q20 p20
    generalize putS spO ρ5 q2 p2 pc.s = ρ6 at *
    have hw : IntKind.i64.wrap ((cb : Int) + (cc : Int)) = (cb : Int) + (cc : Int) := wrap_i64 (by omega) (by omega)
    simp [hw]
    refine callK.of (ssame_calls hP1 hP2) ?_
    rintro v ρ7 ⟨rfl, rfl⟩
    simp
    exact hsa
  · rw [if_pos (by simpa using heb)] at hj
    subst hj
    simp [heb]
    refine callK.of (ssame_calls hP1 hP2) ?_
    rintro v ρ7 ⟨rfl, rfl⟩
    simp
    exact hsa
theorem writeJoins_said (m : UInt8) (a1 : List Sp.Act) (l1 l2 : List UInt8) (n : Int) (h1 : a1.length ≤ maxLen ∧ ∀ a ∈ a1, a.text.length ≤ maxLen) (σ : Store) :
    ACalls Tryz.prog 3 [byteA m, .list false 11 (actsA a1), .list false 1 (bytesA l1), .list false 1 (bytesA l2), .lit (.int .i64 n)] σ fun v _ => v = .lit (.bool true) :=
  (writeJoins_law m a1 l1 l2 n (Nat.le_trans h1.1 (by decide)) (fun a ha => Nat.le_trans (h1.2 a ha) (by decide)) σ).mono fun _ _ h => h.1
end Go.Proofs.YtnlggjbcdienfaaGreatDoor
/-
  Arguments opened.
-/
namespace Go.Proofs.YtnlggjbcdienfaaGreatDoor
open Go Go.AL Go.Sp
theorem open_bytes : Opens Tryz.prog 23 (fun l : List UInt8 => [.list false 1 (bytesA l)]) (fun l => l.length ≤ maxLen) :=
  (Opens.slice Tryz.underlying23 (sz := 1) (by kernel_rfl) (by omega) (Opens.u8 Tryz.underlying5) byteA (fun _ => rfl) (fun _ => rfl)).by id fun _ h => ⟨h.1, rfl⟩
theorem open_cell : Opens Tryz.prog 62 (fun c : Cell => cellC c) (fun _ => True) :=
  (Opens.struct (total := 6) Tryz.underlying62 (by kernel_rfl)
    (.cons (k := 1) rfl (by kernel_rfl) (by omega) (Opens.u8 Tryz.underlying5) (.cons (k := 1) rfl (by kernel_rfl) (by omega) (Opens.bool Tryz.underlying4) (.cons (k := 1) rfl (by kernel_rfl) (by omega) (Opens.u8 Tryz.underlying5)
      (.cons (k := 1) rfl (by kernel_rfl) (by omega) (Opens.u8 Tryz.underlying5) (.cons (k := 1) rfl (by kernel_rfl) (by omega) (Opens.u8 Tryz.underlying5) (.cons (k := 1) rfl (by kernel_rfl) (by omega) (Opens.u8 Tryz.underlying5) .nil))))))).by
    (fun x => ⟨x.1, x.2.1, x.2.2.1, x.2.2.2.1, x.2.2.2.2.1, x.2.2.2.2.2.1⟩) fun _ _ => ⟨trivial, rfl⟩
theorem open_act : Opens Tryz.prog 71 (fun a : Sp.Act => actC a) (fun a => a.text.length ≤ maxLen) :=
  (Opens.struct (total := 11) Tryz.underlying71 (by kernel_rfl)
    (.cons (k := 1) rfl (by kernel_rfl) (by omega) (Opens.u8 Tryz.underlying5) (.cons (k := 1) rfl (by kernel_rfl) (by omega) (Opens.i64 Tryz.underlying3) (.cons (k := 1) rfl (by kernel_rfl) (by omega) (Opens.bool Tryz.underlying4)
      (.cons (k := 1) rfl (by kernel_rfl) (by omega) (Opens.u8 Tryz.underlying5) (.cons (k := 6) rfl (by kernel_rfl) (by omega) open_cell (.cons (k := 1) rfl (by kernel_rfl) (by omega) open_bytes .nil))))))).by
    (fun x => ⟨x.1, x.2.1, x.2.2.1, x.2.2.2.1, x.2.2.2.2.1, x.2.2.2.2.2.1⟩) fun _ h => ⟨h.2.2.2.2.2.1, rfl⟩
theorem open_acts : Opens Tryz.prog 22 (fun l : List Sp.Act => [.list false 11 (actsA l)]) (fun l => l.length ≤ maxLen ∧ ∀ a ∈ l, a.text.length ≤ maxLen) :=
  Opens.slice Tryz.underlying22 (by kernel_rfl) (by omega) open_act actA (fun _ => rfl) (fun _ => rfl)
end Go.Proofs.YtnlggjbcdienfaaGreatDoor
/-
  What the table of the commands reads as.
-/
namespace Go.Proofs.YtnlggjbcdienfaaGreatDoor
open Go Go.AL Go.ChangeShapes Go.WideShapes Go.ChangeAt Go.RowKit Go.Lib

def laid1 : List (String × DataW Unit) := [("vitrine/write.names", Rows.laid_vitrine_write_names)]
def nameV (x : List UInt8 × UInt8 × UInt8) : List Value := [.string ⟨x.1.toArray⟩, .int .u8 x.2.1.toNat, .int .u8 x.2.2.toNat]
def nameD (x : List UInt8 × UInt8 × UInt8) : DataW Unit := .agg [.lit (.string x.1), .lit (.int .u8 x.2.1.toNat), .lit (.int .u8 x.2.2.toNat)]
theorem laid_names : (Rows.laid_vitrine_write_names : DataW Unit) = .agg (cmdNames.map nameD) := rfl
theorem rows_flat : ∀ (N : List (List UInt8 × UInt8 × UInt8)) (L : List Value), L.length = N.length * 3 → (∀ (r : Nat) x, N[r]? = some x → (L.drop (r * 3)).take 3 = nameV x) → L = N.flatMap nameV
  | [], L, hl, _ => by simpa using hl
  | x :: N, L, hl, h => by
    have h0 := h 0 x rfl
    have hr := rows_flat N (L.drop 3) (by simp only [List.length_drop]; simp at hl; omega) fun r y hy => by
      have := h (r + 1) y hy
      rw [List.drop_drop, ← this, show 3 + r * 3 = (r + 1) * 3 by omega]
    rw [List.flatMap_cons, ← hr, ← h0]
    simp
theorem row80 {W : World} {base : Nat} {sp : Nat → Bool} {held : Bool} {fuel : Nat} {l : List Value} {x : List UInt8 × UInt8 × UInt8} {p : List MemPlace}
    (h : DataW.trod (fun _ => ()) Tryz.prog W base sp held fuel 169 l = some (nameD x, p)) : l = nameV x := by
  obtain ⟨xs, n, _, ex, hl, hn, hf⟩ := DataW.trod_struct Tryz.underlying169 h
  have c80 : Tryz.prog.cellsOf 169 = 3 := by kernel_rfl
  have c9 : Tryz.prog.cellsOf 9 = 1 := by kernel_rfl
  have c5 : Tryz.prog.cellsOf 5 = 1 := by kernel_rfl
  rw [c80] at hl
  have hn3 : xs.length = 3 := hn
  obtain ⟨y0, y1, y2, rfl⟩ : ∃ y0 y1 y2, xs = [y0, y1, y2] := by
    rcases xs with _ | ⟨a, _ | ⟨b, _ | ⟨c, _ | ⟨d, r⟩⟩⟩⟩ <;> simp at hn3
    exact ⟨a, b, c, rfl⟩
  obtain ⟨v0, v1, v2, rfl⟩ : ∃ y0 y1 y2, l = [y0, y1, y2] := by
    rcases l with _ | ⟨a, _ | ⟨b, _ | ⟨c, _ | ⟨d, r⟩⟩⟩⟩ <;> simp at hl
    exact ⟨a, b, c, rfl⟩
  have f0 := hf 0 _ rfl
  have f1 := hf 1 _ rfl
  have f2 := hf 2 _ rfl
  obtain ⟨s, g0, d0, _⟩ := DataW.trod_string Tryz.underlying9 (f0.trans rfl)
  obtain ⟨a, g1, d1, _⟩ := DataW.trod_int Tryz.underlying5 (f1.trans rfl)
  obtain ⟨b, g2, d2, _⟩ := DataW.trod_int Tryz.underlying5 (f2.trans rfl)
  have q0 : List.take (Tryz.prog.cellsOf 9) [v0, v1, v2] = [.string s] := g0
  have q1 : List.take (Tryz.prog.cellsOf 5) [v1, v2] = [.int .u8 a] := g1
  have q2 : List.take (Tryz.prog.cellsOf 5) [v2] = [.int .u8 b] := g2
  rw [c9] at q0
  rw [c5] at q1 q2
  obtain rfl : v0 = .string s := (List.cons.inj q0).1
  obtain rfl : v1 = .int .u8 a := (List.cons.inj q1).1
  obtain rfl : v2 = .int .u8 b := (List.cons.inj q2).1
  subst d0 d1 d2
  have e := DataW.agg.inj (Prod.mk.inj ex).1
  simp only [List.map_cons, List.map_nil, List.cons.injEq, DataW.lit.injEq, Lit.string.injEq, Lit.int.injEq, true_and, and_true] at e
  obtain ⟨e0, e1, e2⟩ := e
  unfold nameV
  rw [e0, e1, e2]
theorem laid_vr {W : World} (h : laidMetH Tryz.prog laid1 W) : ∀ g cs, GL.tab g = some cs → VR (allFrz W) (.fptr cs) (.pointer (some ⟨g, 0, none⟩)) := by
  rw [MakeChecks.laidMetH_plain _ _ _ (by kernel_rfl)] at h
  obtain ⟨ps, ⟨g, t, cs, fuel, p, q, hg, ht, hv, hd, _, _⟩, _, _⟩ := h
  obtain rfl := Option.some.inj ((show Tryz.prog.globalNamed "vitrine/write.names" = some 0 by kernel_rfl).symm.trans hg)
  obtain rfl := Option.some.inj ((show (Tryz.prog.globals[0]?).map (·.type) = some 170 by kernel_rfl).symm.trans ht)
  obtain ⟨xs, m, _, ex, hc, hl, hel⟩ := DataW.trod_array Tryz.underlying170 hd
  have c80 : Tryz.prog.cellsOf 169 = 3 := by kernel_rfl
  have c81 : Tryz.prog.cellsOf 170 = 27 := by kernel_rfl
  rw [c81] at hc
  have e3 : xs.map (·.1) = cmdNames.map nameD := (DataW.agg.inj ((Prod.mk.inj ex).1.symm.trans laid_names)).symm ▸ rfl
  have hcs : cs.toList = cmdNames.flatMap nameV := by
    refine rows_flat cmdNames cs.toList hc fun r x hx => ?_
    have hr9 : r < 9 := (List.getElem?_eq_some_iff.1 hx).1
    have he := hel r hr9
    rw [c80] at he
    have e4 : (xs.map (·.1))[r]? = (cmdNames.map nameD)[r]? := by rw [e3]
    rw [List.getElem?_map, List.getElem?_map, hx] at e4
    cases hxr : xs[r]? with
    | none => rw [hxr] at e4; cases e4
    | some y =>
      rw [hxr] at e4 he
      obtain ⟨d, p⟩ := y
      simp only [Option.map_some, Option.some.injEq] at e4
      subst e4
      exact row80 he
  intro g cs2 hg2
  have : g = 0 ∧ cs2 = cmdsO := by
    have hg3 : (if g = 0 then some cmdsO else none) = some cs2 := hg2
    split at hg3
    · exact ⟨‹_›, (Option.some.inj hg3).symm⟩
    · cases hg3
  obtain ⟨rfl, rfl⟩ := this
  have hlit : cmdsO = (cmdNames.flatMap nameV).map .lit := rfl
  refine .fptr _ _ _ (cmdNames.flatMap nameV) rfl (fun i u hu => ⟨?_, ?_⟩) fun i c u hc hu => ?_
  · rw [Nat.zero_add]
    refine cell_back ?_
    rw [World.var?_cell hg hv i, ← Array.getElem?_toList, hcs]; exact hu
  · have : (cmdNames.flatMap nameV).all Value.oneCell' = true := by decide
    exact List.all_eq_true.1 this u (List.mem_of_getElem? hu)
  · rw [hlit, List.getElem?_map, hu] at hc
    obtain rfl := Option.some.inj hc
    exact .lit _
end Go.Proofs.YtnlggjbcdienfaaGreatDoor
/-
  WriteJoins: for every input the law returns true, and the arguments read as they did.
-/
namespace Go.Proofs.YtnlggjbcdienfaaGreatDoor
open Go Go.AL Go.ChangeShapes Go.WideShapes Go.ChangeAt Go.RowKit Go.Lib

theorem own_writeJoins : ownKnob Tryz.prog.godebug = none := by kernel_rfl
theorem laid_writeJoins : laidOutB Tryz.prog = true := by kernel_rfl
theorem rec22_writeJoins : Tryz.prog.readableRec 22 = true := by kernel_rfl
theorem row22_writeJoins : (22 : TypeId) < Tryz.prog.types.size := of_decide_eq_true (by kernel_rfl)
theorem rec23_writeJoins : Tryz.prog.readableRec 23 = true := by kernel_rfl
theorem row23_writeJoins : (23 : TypeId) < Tryz.prog.types.size := of_decide_eq_true (by kernel_rfl)
theorem rec3_writeJoins : Tryz.prog.readableRec 3 = true := by kernel_rfl
theorem row3_writeJoins : (3 : TypeId) < Tryz.prog.types.size := of_decide_eq_true (by kernel_rfl)
theorem rec5_writeJoins : Tryz.prog.readableRec 5 = true := by kernel_rfl
theorem row5_writeJoins : (5 : TypeId) < Tryz.prog.types.size := of_decide_eq_true (by kernel_rfl)

set_option maxRecDepth 100000 in
theorem writeJoins_lifted (os : Os) (started : os.Started) (H : Type) (enc : TypeId × Value → H) :
    ReturnsInHanded {} Tryz.checked os 3 .any (fun w args => (Rows.writeJoinsSpec.pre enc Tryz.prog Tryz.f3 [] false w args ∧ laidMetH Tryz.prog laid1 w) ∧ sizedMet enc Tryz.prog Tryz.f3 (OpenSpec.ofChange Rows.writeJoinsSpec) false w args) (Rows.writeJoinsSpec.post enc Tryz.prog Tryz.f3 false true false false) := by
  refine returnsInHanded_of_change_and (C := Tryz.checked) (X := fun w _ => laidMetH Tryz.prog laid1 w) (fun _ _ _ hh h => h.of_heap hh) own_writeJoins started (by kernel_rfl) Tryz.func3
    (ChangeSpec.witness_shaped (enc := enc) (C := Tryz.checked) (os := os) (X := fun w _ => laidMetH Tryz.prog laid1 w) false (World.laidAll Tryz.prog os laid1) #[.int .u8 0, .slice none 0 0, .slice none 0 0, .slice none 0 0, .int .i64 0] 8 (World.laidAll_os _ _ _)
      (World.shaped_of_ZipB (by kernel_rfl) (by kernel_rfl)) (by kernel_rfl) (by kernel_rfl) (by kernel_rfl)
      (by rw [MakeChecks.laidMetH_plain _ _ _ (by kernel_rfl)]; exact laidMet_laidAll _ (by kernel_rfl) (by kernel_rfl))) ?_
  intro W base args ds gs before hval0 hW _ _ hL _
  have hval : ∀ (j : Nat) t v, Tryz.f3.params[j]? = some t → args[j]? = some v → Value.okWide Tryz.prog W .any base t v := hval0
  have hW' := hW
  obtain ⟨p, q, hA0, hV, rfl, hfz, hnd⟩ := hW
  have hA : DataW.TrodAll enc Tryz.prog W 0 (fun _ => true) true Tryz.f3.params.toList args.toList ds p := hA0
  rw [Tryz.params3] at hA hval
  obtain ⟨v0, v1, v2, v3, v4, d0, d1, d2, d3, d4, p0, p1, p2, p3, p4, rfl, rfl, rfl, h0, h1, h2, h3, h4⟩ := trodAll_five hA
  obtain ⟨rfl, rfl⟩ := trodVars_none hV
  obtain ⟨_, hv0⟩ := okWide_int Tryz.underlying5 (hval 0 5 v0 rfl rfl)
  obtain ⟨a0, m0, w0⟩ := (Opens.u8 Tryz.underlying5).arg _ (fun _ => rfl) (by rw [hv0]; rfl) h0
  obtain ⟨_, _, _, hv1⟩ := okWide_slice Tryz.underlying22 (hval 1 22 v1 rfl rfl)
  obtain ⟨a1, m1, w1⟩ := (open_acts).arg _ (fun _ => rfl) (by rw [hv1]; rfl) h1
  obtain ⟨_, _, _, hv2⟩ := okWide_slice Tryz.underlying23 (hval 2 23 v2 rfl rfl)
  obtain ⟨a2, m2, w2⟩ := (open_bytes).arg _ (fun _ => rfl) (by rw [hv2]; rfl) h2
  obtain ⟨_, _, _, hv3⟩ := okWide_slice Tryz.underlying23 (hval 3 23 v3 rfl rfl)
  obtain ⟨a3, m3, w3⟩ := (open_bytes).arg _ (fun _ => rfl) (by rw [hv3]; rfl) h3
  obtain ⟨_, hv4⟩ := okWide_int Tryz.underlying3 (hval 4 3 v4 rfl rfl)
  obtain ⟨a4, m4, w4⟩ := (Opens.i64 Tryz.underlying3).arg _ (fun _ => rfl) (by rw [hv4]; rfl) h4
  clear hA0 hval0
  simp only [List.append_nil] at hW'
  have hlt : ∀ x ∈ p0 ++ p1 ++ p2 ++ p3 ++ p4, x.block < W.heap.size := fun x hx => hW'.lt x hx
  refine (law_calls (writeJoins_said a0 a1 a2 a3 a4 m1 _) W #[v0, v1, v2, v3, v4] rfl (fun i c u hc hu => ?_) (laid_vr hL)).mono fun e W' ⟨he, hb⟩ => ?_
  · match i with
    | 0 => simp at hc hu; subst hc hu; exact ⟨w0, rfl⟩
    | 1 => simp at hc hu; subst hc hu; exact ⟨w1, rfl⟩
    | 2 => simp at hc hu; subst hc hu; exact ⟨w2, rfl⟩
    | 3 => simp at hc hu; subst hc hu; exact ⟨w3, rfl⟩
    | 4 => simp at hc hu; subst hc hu; exact ⟨w4, rfl⟩
    | n + 5 => simp at hc
  subst he
  refine ⟨_, rfl, [d0, d1, d2, d3, d4], [], p0 ++ p1 ++ p2 ++ p3 ++ p4, [], p0 ++ (p1 ++ (p2 ++ (p3 ++ p4))), [], hW', ?_, ?_, rfl, hb.frame _, fun h => (by cases h)⟩
  · exact trodAll_mk1 (shut_bool Tryz.underlying4 true)
  · refine trodAll_mk5 (Below.trod laid_writeJoins rec5_writeJoins row5_writeJoins h0 hb fun x hx => hlt x (by simp [hx])) (Below.trod laid_writeJoins rec22_writeJoins row22_writeJoins h1 hb fun x hx => hlt x (by simp [hx])) (Below.trod laid_writeJoins rec23_writeJoins row23_writeJoins h2 hb fun x hx => hlt x (by simp [hx])) (Below.trod laid_writeJoins rec23_writeJoins row23_writeJoins h3 hb fun x hx => hlt x (by simp [hx])) (Below.trod laid_writeJoins rec3_writeJoins row3_writeJoins h4 hb fun x hx => hlt x (by simp [hx]))

theorem writeJoins_holds : Rows.WriteJoinsSaid :=
  OpenClaim.holds_of_wide 3 Tryz.f3 rfl rfl rfl rfl rfl rfl rfl ⟨rfl, rfl, rfl, rfl, rfl⟩ rfl rfl rfl rfl rfl (by kernel_rfl) Tryz.func3 (by kernel_rfl)
    (of_decide_eq_true (by kernel_rfl)) (by unfold Func.isWrapper; first | (rw [if_pos (by decide +kernel)]; kernel_rfl) | (rw [if_neg (by decide +kernel)]; exact ⟨rfl, rfl⟩))
    (fun os started H enc _ => writeJoins_lifted os started H enc)
end Go.Proofs.YtnlggjbcdienfaaGreatDoor
