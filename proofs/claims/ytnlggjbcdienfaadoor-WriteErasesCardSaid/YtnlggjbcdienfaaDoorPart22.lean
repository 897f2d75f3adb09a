/-
  WriteAgain: what was on the screen does not count.
-/
import Derived.Test.YtnlggjbcdienfaaDoorPart21
namespace Go.Proofs.YtnlggjbcdienfaaDoor
open Go Go.AL Go.Sp

theorem begin_model {s t : Sp} (h : s.model = t.model) {k : Nat} (hk : ¬ k = 1) (c : UInt8) : beginS s k c = beginS t k c := by
  rw [begin_e s k c hk, begin_e t k c hk]; unfold Sp.clear; rw [h]
theorem pen_model {s t : Sp} (h : s.model = t.model) {k : Nat} (hk : ¬ k = 1) (l : List UInt8) : penF s k l = penF t k l := by
  unfold penF; rw [begin_model h hk]
theorem cmd_245 : cmdF 245 = (2, true) := by decide
theorem cmd_126 : cmdF 126 = (3, true) := by decide
def cmdB (alt : Bool) : UInt8 := if alt = true then 126 else 245
def cmdK (alt : Bool) : Nat := if alt = true then 3 else 2
theorem cmd_b (alt : Bool) : cmdF (cmdB alt) = (cmdK alt, true) := by cases alt <;> decide
theorem run_erase (s : Sp) (alt : Bool) (l : List UInt8) : runS s (cmdB alt :: l) = ⟨(penF s (cmdK alt) l).1.s, resF s (cmdK alt) l, [], (penF s (cmdK alt) l).2.2⟩ := by
  show (if (cmdF (cmdB alt)).2 = true then ranCmd s (cmdF (cmdB alt)).1 l else (⟨s, ⟨0, false, false, false, 0⟩, [], 11⟩ : Ran)) = _
  rw [cmd_b]
  show ranCmd s (cmdK alt) l = _
  unfold ranCmd
  rw [if_pos (by cases alt <;> simp [cmdK])]
theorem run_model {s t : Sp} (h : s.model = t.model) (alt : Bool) (l : List UInt8) : runS s (cmdB alt :: l) = runS t (cmdB alt :: l) := by
  have hk : ¬ cmdK alt = 1 := by cases alt <;> simp [cmdK]
  rw [run_erase, run_erase, pen_model h hk]
  unfold resF
  rw [pen_model h hk]
theorem run_alt {s : Sp} (h : s.good) (alt : Bool) (l : List UInt8) : (runS s (cmdB alt :: l)).s.alt = alt := by
  have hk : ¬ cmdK alt = 1 := by cases alt <;> simp [cmdK]
  rw [run_erase]
  have := (PenOk.ordN l.tail.length l.tail 0 (p := pen0 (beginS s (cmdK alt) (ctlOf l)) (wrap (beginS s (cmdK alt) (ctlOf l)).n (beginS s (cmdK alt) (ctlOf l)).cursor)) ⟨SameN.refl (begin_good h (cmdK alt) (ctlOf l)), pen0_lt _ _⟩).same.2.2
  refine this.trans ?_
  rw [begin_e s _ _ hk]
  cases alt <;> rfl
theorem lays_model (m : UInt8) (l : List Sp.Act) : (Sp.lays m l).model = 2 + m.toNat % 4 := foldl_model _ _
theorem both_sub {σ : Store} {q p x y : Nat} {s t : Sp} (h : Four σ q p x y) : Store.sub σ (both σ q p x y s t) := by
  intro o
  by_cases h1 : o = q
  · left; rw [h1]; exact h.q0
  by_cases h2 : o = p
  · left; rw [h2]; exact h.p0
  by_cases h3 : o = x
  · left; rw [h3]; exact h.x0
  by_cases h4 : o = y
  · left; rw [h4]; exact h.y0
  right; simp [both, putS, h1, h2, h3, h4]
theorem sub_put {σ ρ : Store} {q r : Nat} {s : Sp} (h : Store.sub σ ρ) (hq : σ q = none) (hr : σ r = none) : Store.sub σ (putS spO ρ q r s) := fun o => by
  by_cases h1 : o = q
  · left; rw [h1]; exact hq
  · by_cases h2 : o = r
    · left; rw [h2]; exact hr
    · rw [putS_at h1 h2]; exact h o
theorem sub_none {σ ρ : Store} {o : Nat} (h : Store.sub σ ρ) (ho : ρ o = none) : σ o = none := by
  rcases h o with e | e
  · exact e
  · rw [e]; exact ho
theorem prg_other {σ : Store} {q r q1 r1 : Nat} {s t : Sp} (h : Prg σ q r s) (h1 : ¬ q = q1) (h2 : ¬ q = r1) (h3 : ¬ r = q1) (h4 : ¬ r = r1) : Prg (putS spO σ q1 r1 t) q r s :=
  ⟨(putS_at h1 h2).trans h.obj, (putS_at h3 h4).trans h.row, h.ne, h.good⟩
set_option maxRecDepth 8000 in
set_option maxHeartbeats 1000000 in
theorem writeAgain_law (m : UInt8) (a1 a2 : List Sp.Act) (l : List UInt8) (alt : Bool) (h1 : a1.length ≤ 9223372036854775807) (h2 : a2.length ≤ 9223372036854775807) (h3 : ∀ a ∈ a1, a.text.length ≤ 9223372036854775807) (h4 : ∀ a ∈ a2, a.text.length ≤ 9223372036854775807) (σ : Store) :
    ACalls Tryd.prog 5 [byteA m, .list false 11 (actsA a1), .list false 11 (actsA a2), .list false 1 (bytesA l), .lit (.bool alt)] σ fun v σ' => v = .lit (.bool true) ∧ σ' = σ := by
  have haw := fun τ => awake_calls τ
  have hl1 := fun τ => lay_calls m a1 h1 h3 τ
  have hl2 := fun τ => lay_calls m a2 h2 h4 τ
  have g1 := lays_good m a1
  have g2 := lays_good m a2
  have hmm : (Sp.lays m a1).model = (Sp.lays m a2).model := by rw [lays_model, lays_model]
  generalize Sp.lays m a1 = s1 at *
  generalize Sp.lays m a2 = s2 at *
  have hcut := fun τ => cut_calls false l 400 τ (by omega)
  have hl400 : (l.take 400).length ≤ 400 := by simp; omega
  generalize l.take 400 = k at *
  have hr1 := fun τ (q p : Nat) (h : Prg τ q p s1) => run_calls h false (cmdB alt :: k) (by simp; omega)
  have hr2 := fun τ (q p : Nat) (h : Prg τ q p s2) => run_calls h false (cmdB alt :: k) (by simp; omega)
  have hrm := run_model hmm alt k
  have hra := run_alt g1 alt k
  rw [← hrm] at hr2
  have hg1 := run_good g1 (cmdB alt :: k)
  generalize hR : runS s1 (cmdB alt :: k) = R at *
  clear hR
  cases alt
  all_goals
    refine ACalls.of_awp follows (st := st5) (plans := pl5) (n := 71) Tryd.func5 rfl (by kernel_rfl) (by kernel_rfl) (by kernel_rfl) ?_
    simp
    refine callK.of (haw _) ?_
    rintro v σ0 ⟨rfl, rfl⟩
    simp
    refine callK.of (hl1 _) ?_
    rintro v σ' ⟨q, p, x, y, rfl, f1, rfl⟩
    have hP1 := both_prg (t := s1) f1 g1
    have hs1 := both_sub (s := s1) (t := s1) f1
    generalize both _ q p x y s1 s1 = ρ at *
    simp
    refine callK.of (hl2 _) ?_
    rintro v σ' ⟨q2, p2, x2, y2, rfl, f2, rfl⟩
    have hP2 := both_prg (t := s2) f2 g2
    have hs2 := both_sub (s := s2) (t := s2) f2
    have hP12 := prg_mono hP1 hs2
    have d1 := hP1.fresh f2.q0
    have d2 := hP1.fresh f2.p0
    generalize both ρ q2 p2 x2 y2 s2 s2 = ρ2 at *
    simp
    refine callK.of (hcut _) ?_
    rintro v ρ4 ⟨rfl, rfl⟩
    have q0 := f1.q0
    have p0 := f1.p0
    have hsa := Store.sub_trans hs1 hs2
    have q20 := sub_none hs1 f2.q0
    have p20 := sub_none hs1 f2.p0
    simp
    refine ⟨by omega, by omega, ?_⟩
    refine callK.of (hr1 _ q p hP12) ?_
    rintro v σ3 ⟨rfl, r1, hr1', rfl⟩
    have er1 : (¬ q = r1) ∧ (¬ q2 = r1) ∧ (¬ p2 = r1) ∧ σ0 r1 = none := by
      rcases hr1' with e | e
      · rw [e]; exact ⟨hP12.ne, d1.2.2.2, d2.2.2.2, p0⟩
      · have z := hP2.fresh e
        exact ⟨(hP12.fresh e).1, z.1, z.2.1, sub_none hsa e⟩
    have hP1 := Scr.of_put (f := spO) (σ := ρ4) er1.1 hg1
    have hP2 := prg_other (t := R.s) hP2 d1.2.2.1 er1.2.1 d2.2.2.1 er1.2.2.1
    have hsa := sub_put (s := R.s) hsa q0 er1.2.2.2
    generalize putS spO ρ4 q r1 R.s = ρ3 at *
    simp [ranA, resC]
    intro b hb
    have e1 := hP1.fresh hb
    have e2 := hP2.fresh hb
    refine callK.of (hr2 _ q2 p2 (hP2.new hb _)) ?_
    rintro v σ5 ⟨rfl, r2, hr2', rfl⟩
    have er2 : (¬ q2 = r2) ∧ (¬ q = r2) ∧ (¬ r1 = r2) ∧ (¬ b = r2) ∧ σ0 r2 = none := by
      rcases hr2' with e | e
      · rw [e]; exact ⟨hP2.ne, d2.1, Ne.symm er1.2.2.1, e2.2.2.2, p20⟩
      · simp only [supd_apply, ite_none] at e
        have z := hP2.fresh e.2
        have z1 := hP1.fresh e.2
        exact ⟨z.1, z1.1, z1.2.1, Ne.symm e.1, sub_none hsa e.2⟩
    have hP1 := prg_other (q1 := q2) (r1 := r2) (t := R.s) (hP1.new hb (resC R.x (.list false 1 (bytesA R.fields)))) d1.1 er2.2.1 (Ne.symm er1.2.1) er2.2.2.1
    have hP2 := Scr.of_put (f := spO) (σ := ρ3.upd b (resC R.x (.list false 1 (bytesA R.fields)))) er2.1 hg1
    have hsa := sub_put (s := R.s) (Store.sub_trans hsa (Store.sub_upd hb (Store.sub_refl _) (cs := resC R.x (.list false 1 (bytesA R.fields))))) q20 er2.2.2.2.2
    have hbv : putS spO (ρ3.upd b (resC R.x (.list false 1 (bytesA R.fields)))) q2 r2 R.s b = some (resC R.x (.list false 1 (bytesA R.fields))) := by rw [putS_at e2.2.2.1 er2.2.2.2.1]; simp
    unfold resC at hP1 hP2 hsa hbv
    generalize putS spO (ρ3.upd b _) q2 r2 R.s = ρ5 at *
    simp +contextual [ranA, resC, hbv]
    intro c hc
    have hsm := fun τ => rsame_calls R.x R.fields τ
    unfold resC at hsm
    refine callK.of (hsm _) ?_
    rintro v ρ6 ⟨rfl, rfl⟩
    simp
    refine callK.of (ssame_calls (hP1.new hc _) (hP2.new hc _)) ?_
    rintro v ρ6 ⟨rfl, rfl⟩
    simp
    refine callK.of (alt_calls (hP1.new hc _)) ?_
    rintro v ρ6 ⟨rfl, rfl⟩
    simp [hra]
    exact Store.sub_trans hsa (Store.sub_upd hc (Store.sub_refl _))
theorem writeAgain_said (m : UInt8) (a1 a2 : List Sp.Act) (l : List UInt8) (alt : Bool) (h1 : a1.length ≤ maxLen ∧ ∀ a ∈ a1, a.text.length ≤ maxLen) (h2 : a2.length ≤ maxLen ∧ ∀ a ∈ a2, a.text.length ≤ maxLen) (σ : Store) :
    ACalls Tryd.prog 5 [byteA m, .list false 11 (actsA a1), .list false 11 (actsA a2), .list false 1 (bytesA l), .lit (.bool alt)] σ fun v _ => v = .lit (.bool true) :=
  (writeAgain_law m a1 a2 l alt (Nat.le_trans h1.1 (by decide)) (Nat.le_trans h2.1 (by decide)) (fun a ha => Nat.le_trans (h1.2 a ha) (by decide)) (fun a ha => Nat.le_trans (h2.2 a ha) (by decide)) σ).mono fun _ _ h => h.1
end Go.Proofs.YtnlggjbcdienfaaDoor
/-
  What is left when all that is not protected goes: cell by cell.
-/
namespace Go.Proofs.YtnlggjbcdienfaaDoor
open Go Go.AL Go.Sp

theorem least (P : Nat → Bool) : ∀ N : Nat, (∃ j, j < N ∧ P j = true) → ∃ j, j < N ∧ P j = true ∧ ∀ i, i < j → P i = false
  | 0, ⟨j, h, _⟩ => by omega
  | N + 1, ⟨j, h, hp⟩ => by
    by_cases hb : ∃ j, j < N ∧ P j = true
    · obtain ⟨k, h1, h2, h3⟩ := least P N hb
      exact ⟨k, by omega, h2, h3⟩
    · refine ⟨j, h, hp, fun i hi => ?_⟩
      cases hpi : P i with
      | false => rfl
      | true => exact absurd ⟨i, by omega, hpi⟩ hb
/-- Each place is in the field of its attribute. -/
theorem start_mem {s : Sp} (h : s.good) (hc : ¬ s.count = 0) {i : Nat} (hi : i < s.n) : ∃ a, a < s.n ∧ attrAt s.cells a = true ∧ startS s.cells i = (a : Nat) ∧ (i = a ∨ i ∈ Sp.places s.cells a) := by
  have hl := h.len
  have hpos := s.n_pos
  obtain ⟨b, hb, hbt⟩ := count_some (by omega : 0 < s.count)
  obtain ⟨j, hj, hat, hfree⟩ := least (fun j => attrAt s.cells ((i + s.n - j) % s.n)) s.n ⟨(i + s.n - b) % s.n, Nat.mod_lt _ hpos, by
    have : (i + s.n - (i + s.n - b) % s.n) % s.n = b := by
      rcases Nat.lt_or_ge i b with hlt | hge
      · rw [Nat.mod_eq_of_lt (by omega : i + s.n - b < s.n), show i + s.n - (i + s.n - b) = b by omega, Nat.mod_eq_of_lt (by omega)]
      · rw [show i + s.n - b = (i - b) + s.n by omega, Nat.add_mod_right, Nat.mod_eq_of_lt (by omega : i - b < s.n), show i + s.n - (i - b) = b + s.n by omega, Nat.add_mod_right, Nat.mod_eq_of_lt (by omega)]
    rw [this]; exact hbt⟩
  have hst := back_start h hi hj hfree hat
  have han : (i + s.n - j) % s.n < s.n := Nat.mod_lt _ hpos
  have hia : ((i + s.n - j) % s.n + j) % s.n = i := by
    rw [Nat.mod_add_mod, show i + s.n - j + j = i + s.n from by omega, Nat.add_mod_right, Nat.mod_eq_of_lt hi]
  generalize hA : (i + s.n - j) % s.n = a at *
  refine ⟨a, han, hat, hst, ?_⟩
  by_cases hj0 : j = 0
  · left; subst hj0; rw [Nat.add_zero, Nat.mod_eq_of_lt han] at hia; exact hia.symm
  · right
    have hstop := len_stop hat (by omega : a < s.cells.length)
    have hle : j ≤ Sp.len s.cells a := by
      generalize Sp.len s.cells a = L at *
      rcases Nat.lt_or_ge L j with hlt | hge
      · exfalso
        have e : (a + L + 1) % s.n = (i + s.n - (j - L - 1)) % s.n := by
          rw [← hA, Nat.add_assoc, Nat.mod_add_mod]; congr 1; omega
        rw [hl, e, hfree _ (by omega)] at hstop
        cases hstop
      · exact hge
    unfold Sp.places
    rw [List.mem_map]
    exact ⟨j - 1, by rw [List.mem_range]; omega, by rw [hl, show a + (j - 1) + 1 = a + j by omega]; exact hia⟩
theorem places_start {s : Sp} (h : s.good) {i a : Nat} (hat : attrAt s.cells a = true) (ha : a < s.n) (hm : i ∈ Sp.places s.cells a) : startS s.cells i = (a : Nat) ∧ attrAt s.cells i = false ∧ i < s.n := by
  have hl := h.len
  unfold Sp.places at hm
  rw [List.mem_map] at hm
  obtain ⟨k, hk, rfl⟩ := hm
  rw [List.mem_range] at hk
  have hlt := len_lt (l := s.cells) (a := a) (by omega)
  refine ⟨startS_in hat (by omega) (i := k + 1) (by omega) fun j h1 h2 => len_free h1 (by omega), len_free (j := k + 1) (by omega) (by omega), ?_⟩
  rw [hl]; exact Nat.mod_lt _ s.n_pos
/-! ### One step, cell by cell -/
def cellAt (s : Sp) (i : Nat) : Cell := s.cells[i]?.getD .zero
theorem cellAt_attr (s : Sp) (i : Nat) : attrAt s.cells i = (cellAt s i).attr := rfl
theorem cellAt_fit {s : Sp} (h : s.good) (i : Nat) : Sp.fit (cellAt s i) = cellAt s i := by
  unfold cellAt
  cases hx : s.cells[i]? with
  | none => rfl
  | some c => exact h.fit c (List.mem_of_getElem? hx)
theorem cellAt_at {s : Sp} {k : Nat} (hk : k < s.n) : s.at (k : Int) = cellAt s k := by
  unfold Sp.at cellAt
  rw [show wrap s.n (k : Int) = k from wrap_of_lt hk]
theorem cellAt_set {s : Sp} (h : s.good) {k : Nat} (hk : k < s.n) (c : Cell) (i : Nat) : cellAt (s.set (k : Int) c) i = if i = k then Sp.fit c else cellAt s i := by
  have hw : wrap s.n (k : Int) = k := wrap_of_lt hk
  have hl := h.len
  unfold cellAt Sp.set Sp.put1
  rw [hw]
  simp only
  rw [List.getElem?_set]
  by_cases e : k = i
  · subst e; simp [show k < s.cells.length by omega]
  · rw [if_neg e, if_neg (fun x => e x.symm)]
def nulled (c : Cell) : Cell := if c.attr = true then c else { c with char := 0 }
theorem cellAt_put {s : Sp} (h : s.good) {k : Nat} (hk : k < s.n) (i : Nat) : cellAt (s.put (k : Int) 0) i = if i = k then nulled (cellAt s i) else cellAt s i := by
  have hf := cellAt_fit h k
  unfold Sp.put
  rw [cellAt_at hk]
  unfold nulled
  by_cases ha : (cellAt s k).attr = true
  · rw [if_pos ha]
    by_cases e : i = k
    · rw [if_pos e, e, if_pos ha]
    · rw [if_neg e]
  · rw [if_neg ha, cellAt_set h hk]
    by_cases e : i = k
    · rw [if_pos e, if_pos e, e, if_neg ha]
      unfold Sp.fit at hf ⊢
      rw [if_neg ha] at hf
      simp only
      rw [if_neg ha]
      have : (cellAt s k).fa = 0 := by rw [← hf]
      rw [this]
    · rw [if_neg e, if_neg e]
theorem cellAt_null {s : Sp} (h : s.good) : ∀ (l : List Nat), (∀ k ∈ l, k < s.n) → ∀ i, cellAt (nullS s l) i = if i ∈ l then nulled (cellAt s i) else cellAt s i := by
  intro l
  induction l generalizing s with
  | nil => intro _ i; simp [nullS]
  | cons k l ih =>
    intro hl i
    have hk := hl k (by simp)
    have hg := h.put (k : Int) 0
    have hn : (s.put (k : Int) 0).n = s.n := n_put s k 0
    have := ih hg (fun x hx => by rw [hn]; exact hl x (by simp [hx])) i
    have e : nullS s (k :: l) = nullS (s.put (k : Int) 0) l := rfl
    rw [e, this, cellAt_put h hk]
    have nn : ∀ c, nulled (nulled c) = nulled c := fun c => by unfold nulled; split <;> simp_all
    by_cases h1 : i = k
    · by_cases h2 : i ∈ l <;> simp [h1, nn]
    · by_cases h2 : i ∈ l <;> simp [h1, h2]
theorem clr_fit {c : Cell} (h : Sp.fit c = c) (ha : c.attr = true) : Sp.fit (clr c) = clr c := by
  unfold Sp.fit at h ⊢
  rw [if_pos ha] at h
  have hc : (clr c).attr = true := ha
  rw [if_pos hc]
  have h1 : c.char = 0 := by rw [← h]
  have h2 : Sp.six c.fa = c.fa := congrArg Cell.fa h
  have h3 : Sp.six (c.fa &&& 0xfe) = c.fa &&& 0xfe := by
    conv => rhs; rw [← h2]
    generalize c.fa = b
    revert b; apply all_bytes; decide +kernel
  unfold clr
  simp only
  rw [h3, h1]
theorem cellAt_unmod {s : Sp} (h : s.good) {a : Nat} (ha : a < s.n) (hat : attrAt s.cells a = true) (i : Nat) : cellAt (unmod1 s a) i = if i = a then clr (cellAt s i) else cellAt s i := by
  unfold unmod1
  rw [cellAt_at ha, cellAt_set h ha]
  by_cases e : i = a
  · rw [if_pos e, if_pos e, e, clr_fit (cellAt_fit h a) hat]
  · rw [if_neg e, if_neg e]
/-! ### All of it -/
theorem run_congr {l k : List Cell} (hl : k.length = l.length) (h : ∀ i, attrAt k i = attrAt l i) (a : Nat) : ∀ m, Sp.run k a m = Sp.run l a m
  | 0 => rfl
  | m + 1 => by rw [Sp.run, Sp.run, run_congr hl h a m, hl, h]
theorem places_congr {l k : List Cell} (hl : k.length = l.length) (h : ∀ i, attrAt k i = attrAt l i) (a : Nat) : Sp.places k a = Sp.places l a := by
  unfold Sp.places Sp.len; rw [hl, run_congr hl h]
/-- What is to be there. -/
def openP (s : Sp) (i : Nat) : Bool := decide (startS s.cells i < 0) || !(fld (cellAt s (startS s.cells i).toNat).fa).prot
def eraseX (s : Sp) (i : Nat) : Cell := if openP s i = true then (if (cellAt s i).attr = true then clr (cellAt s i) else { cellAt s i with char := 0 }) else cellAt s i
theorem keep_len {s t : Sp} (h : KeepA s t) (hs : s.good) : t.cells.length = s.cells.length := by rw [h.same.1.len, hs.len, h.same.n]
theorem unprot1_cells {s t : Sp} (hs : s.good) (hk : KeepA s t) {a : Nat} (ha : a < s.n) (hat : attrAt s.cells a = true) (i : Nat) :
    cellAt (unprot1 t a) i = if (fld (cellAt t a).fa).prot = true then cellAt t i else if i = a then clr (cellAt t i) else if i ∈ Sp.places s.cells a then nulled (cellAt t i) else cellAt t i := by
  have hpl := places_congr (keep_len hk hs) hk.attr a
  have hn := hk.same.n
  unfold unprot1
  have hf : (fldAt t a) = fld (cellAt t a).fa := rfl
  rw [hf, hpl]
  by_cases hp : (fld (cellAt t a).fa).prot = true
  · rw [if_pos hp, if_pos hp]
  · rw [if_neg hp, if_neg hp]
    have hk2 := keep_null hk.same.1 (Sp.places s.cells a)
    have ha2 : attrAt (nullS t (Sp.places s.cells a)).cells a = true := by rw [hk2.attr, hk.attr]; exact hat
    rw [cellAt_unmod hk2.same.1 (by rw [hk2.same.n, hn]; exact ha) ha2]
    have hnl := cellAt_null hk.same.1 (Sp.places s.cells a) (fun k hm => by rw [hn]; exact (places_start hs hat ha hm).2.2) i
    rw [hnl]
    by_cases e : i = a
    · have : i ∉ Sp.places s.cells a := fun hm => by
        have := (places_start hs hat ha hm).2.1
        rw [e, hat] at this; cases this
      rw [if_pos e, if_pos e, if_neg this]
    · rw [if_neg e, if_neg e]
/-- After so many fields. -/
theorem unprotTo_cells {s : Sp} (hs : s.good) (hc : ¬ s.count = 0) : ∀ k, k ≤ s.attrs.length → ∀ i, i < s.n → cellAt (unprotTo s k) i = if (startS s.cells i).toNat ∈ s.attrs.take k then eraseX s i else cellAt s i := by
  intro k
  induction k with
  | zero => intro _ i _; simp [unprotTo]
  | succ k ih =>
    intro hk i hi
    have hlt : k < s.attrs.length := by omega
    have ih := ih (by omega)
    have hnd : s.attrs.Nodup := List.Nodup.sublist List.filter_sublist List.nodup_range
    rw [unprotTo_succ s k hlt, List.take_succ_eq_append_getElem hlt]
    obtain ⟨m1, m2⟩ := attr_mem hs _ (List.getElem_mem hlt)
    have hnot : s.attrs[k] ∉ s.attrs.take k := fun hm => by
      obtain ⟨j, hj, he⟩ := List.getElem_of_mem hm
      simp only [List.length_take] at hj
      rw [List.getElem_take] at he
      have := (List.getElem_inj hnd).mp he
      omega
    rw [unprot1_cells hs (keep_unprotTo hs k) m1 m2]
    generalize s.attrs[k] = a at *
    have hsa : startS s.cells a = (a : Nat) := startS_attr m2
    have hta : cellAt (unprotTo s k) a = cellAt s a := by
      rw [ih a m1, hsa, if_neg (by simpa using hnot)]
    rw [hta]
    obtain ⟨b, hb, hbt, hst, hmem⟩ := start_mem hs hc hi
    have hst2 : (startS s.cells i).toNat = b := by rw [hst]; rfl
    rw [ih i hi, hst2]
    have hin : b ∈ s.attrs.take k ++ [a] ↔ (b ∈ s.attrs.take k ∨ b = a) := by simp
    by_cases hba : b = a
    · subst hba
      rw [if_neg hnot, if_pos (hin.mpr (.inr rfl))]
      have hop : openP s i = !(fld (cellAt s b).fa).prot := by
        unfold openP; rw [hst]; simp [show ¬ ((b : Nat) : Int) < 0 by omega]
      unfold eraseX
      rw [hop]
      by_cases hp : (fld (cellAt s b).fa).prot = true
      · simp [hp]
      · have hp' : (fld (cellAt s b).fa).prot = false := by simpa using hp
        simp only [hp', Bool.false_eq_true, if_false, Bool.not_false, if_true]
        rcases hmem with e | e
        · have hca : (cellAt s i).attr = true := by rw [e]; exact hbt
          rw [if_pos e, if_pos hca]
        · have hna := (places_start hs hbt hb e).2.1
          have hne : ¬ i = b := fun x => by rw [x, hbt] at hna; cases hna
          have hca : ¬ (cellAt s i).attr = true := by rw [← cellAt_attr, hna]; simp
          rw [if_neg hne, if_pos e, if_neg hca]
          unfold nulled; rw [if_neg hca]
    · have hia : ¬ i = a := fun e => by
        rw [e, hsa] at hst
        exact hba (by omega)
      have hip : i ∉ Sp.places s.cells a := fun hm => by
        have := (places_start hs m2 m1 hm).1
        rw [hst] at this
        exact hba (by omega)
      have h2 : (b ∈ s.attrs.take k ++ [a]) ↔ b ∈ s.attrs.take k := by rw [hin]; simp [hba]
      rw [if_neg hia, if_neg hip]
      simp only [ite_self, h2]
theorem cellAt_place (s : Sp) (k : Int) (i : Nat) : cellAt (s.place k) i = cellAt s i := rfl
theorem unprot_cells {s : Sp} (hs : s.good) {i : Nat} (hi : i < s.n) : cellAt (unprotS s) i = eraseX s i := by
  by_cases hc : s.count = 0
  · unfold unprotS
    rw [if_pos hc, cellAt_place, cellAt_null hs _ (fun k hk => by simpa using hk), if_pos (by simpa using hi)]
    have hst := startS_none hc i
    have hop : openP s i = true := by unfold openP; rw [hst]; simp
    have hca : ¬ (cellAt s i).attr = true := fun ha => by
      have := startS_attr (l := s.cells) (n := i) ha
      rw [hst] at this; omega
    unfold eraseX nulled
    rw [if_pos hop, if_neg hca, if_neg hca]
  · unfold unprotS
    rw [if_neg hc, cellAt_place]
    have := unprotTo_cells hs hc s.attrs.length (Nat.le_refl _) i hi
    unfold unprotTo at this
    rw [List.take_length] at this
    obtain ⟨b, hb, hbt, hst, _⟩ := start_mem hs hc hi
    rw [this, if_pos]
    rw [hst]
    exact List.mem_filter.2 ⟨by rw [List.mem_range, hs.len]; exact hb, hbt⟩
end Go.Proofs.YtnlggjbcdienfaaDoor
/-
  The document's fields: where attributes are, where fields start, which places they have.
-/
namespace Go.Proofs.YtnlggjbcdienfaaDoor
open Go Go.AL Go.Sp

def natsA (l : List Nat) : List AV := l.map fun n => .lit (.int .i64 (n : Nat))
@[simp] theorem natsA_length (l : List Nat) : (natsA l).length = l.length := by simp [natsA]
theorem natsA_append (l k : List Nat) : natsA (l ++ k) = natsA l ++ natsA k := by simp [natsA]
theorem natsA_at (l : List Nat) (i : Nat) (h : i < l.length) : (natsA l)[i]'(by simpa using h) = .lit (.int .i64 (l[i] : Nat)) := by simp [natsA]
def attrsTo (s : Sp) (m : Nat) : List Nat := (List.range m).filter (isAt s)
theorem attrsTo_succ (s : Sp) (m : Nat) : attrsTo s (m + 1) = attrsTo s m ++ (if isAt s m = true then [m] else []) := by
  unfold attrsTo
  rw [List.range_succ, List.filter_append, List.filter_cons, List.filter_nil]
theorem attrsTo_length (s : Sp) (m : Nat) : (attrsTo s m).length ≤ m := by
  unfold attrsTo; have := List.length_filter_le (isAt s) (List.range m); simpa using this
theorem attrsTo_all {s : Sp} (h : s.good) : attrsTo s s.n = s.attrs := (attrs_eq s h).symm

set_option maxRecDepth 8000 in
theorem attrs_calls {x y : Nat} {s : Sp} {σ : Store} (h : Ref σ x y s) : ACalls Tryd.prog 34 [ptrA x] σ fun v σ' => v = .list false 1 (natsA s.attrs) ∧ σ' = σ := by
  have ho := h.obj
  have hr := h.row
  have hg := h.good
  have hln := hg.len
  have hn := s.n_le
  unfold rfO at ho
  refine ACalls.of_awp follows (st := st34) (plans := pl34) (n := 24) Tryd.func34 rfl (by kernel_rfl) (by kernel_rfl) (by kernel_rfl) ?_
  simp [ho, rowC]
  refine codeK.loop follows (st := st34) (plans := pl34) (X := Nat) (fun i => i ≤ s.n)
    (fun i => [(3, .list true 1 (natsA (attrsTo s i))), (9, rowC y s.n), (10, .lit (.int .i64 s.n)), (11, .lit (.int .i64 i))])
    (fun _ => σ) (fun i => s.n - i) 0 (by kernel_rfl) (by simp) (by simp [rowC, attrsTo, natsA]) (Store.sub_refl _) fun i hi => ?_
  by_cases hlt : i < s.n
  · have hw : IntKind.i64.wrap ((i : Int) + 1) = ((i + 1 : Nat) : Int) := wrap_i64 (by omega) (by omega)
    have hic : i < s.cells.length := by omega
    have hgi := cellsO_get hic
    have hcx : cellC s.cells[i] = [byteA s.cells[i].char, .lit (.bool s.cells[i].attr), byteA s.cells[i].fa, byteA s.cells[i].high, byteA s.cells[i].color, byteA s.cells[i].set] := rfl
    rw [hcx] at hgi
    have hle : i * 6 + 6 ≤ (cellsO s.cells).length := by rw [cellsO_length]; omega
    have hat : isAt s i = s.cells[i].attr := by simp [isAt, hic]
    have hsu := attrsTo_succ s i
    have hal := attrsTo_length s i
    rw [hat] at hsu
    generalize s.cells[i] = c at *
    by_cases hca : c.attr = true
    · rw [if_pos hca] at hsu
      have e1 : natsA (attrsTo s (i + 1)) = natsA (attrsTo s i) ++ [.lit (.int .i64 (i : Nat))] := by rw [hsu, natsA_append]; rfl
      simp +contextual [rowC, hlt, hr, hle, hgi, hca]
      intro b hb
      refine ⟨by omega, by omega, i + 1, by omega, by omega, by rw [e1]; exact AV.le_refl _, by rw [hw]; exact AV.le_refl _⟩
    · rw [if_neg hca, List.append_nil] at hsu
      have hcf : c.attr = false := by simpa using hca
      simp +contextual [rowC, hlt, hr, hle, hgi, hcf]
      intro b hb
      refine ⟨i + 1, by omega, by omega, by rw [hsu]; exact AV.le_refl _, by rw [hw]; exact AV.le_refl _⟩
  · obtain rfl : i = s.n := by omega
    rw [attrsTo_all hg]
    simp

theorem lastA_attrs (s : Sp) : ∀ m : Nat, lastA s.cells (-1) m = match (attrsTo s m).getLast? with | some a => (a : Int) | none => -1
  | 0 => rfl
  | m + 1 => by
    rw [attrsTo_succ, lastA]
    by_cases h : isAt s m = true
    · have h' : attrAt s.cells m = true := h
      rw [if_pos h, if_pos h', List.getLast?_append]; rfl
    · have h' : ¬ attrAt s.cells m = true := h
      rw [if_neg h, if_neg h', List.append_nil]; exact lastA_attrs s m
def intsA (l : List Int) : List AV := l.map fun n => .lit (.int .i64 n)
@[simp] theorem intsA_length (l : List Int) : (intsA l).length = l.length := by simp [intsA]
theorem intsA_at (l : List Int) (i : Nat) (h : i < l.length) : (intsA l)[i]'(by simpa using h) = .lit (.int .i64 l[i]) := by simp [intsA]
/-- What Starts has written when it has come to m. -/
def startsTo (s : Sp) (m : Nat) : List Int := (List.range m).map (fun i => startS s.cells i) ++ List.replicate (s.n - m) 0
theorem startsTo_length (s : Sp) {m : Nat} (h : m ≤ s.n) : (startsTo s m).length = s.n := by simp [startsTo]; omega
theorem startsTo_succ (s : Sp) {m : Nat} (h : m < s.n) : startsTo s (m + 1) = (startsTo s m).set m (startS s.cells m) := by
  unfold startsTo
  rw [List.range_succ, List.map_append, List.set_append_right (h := by simp), show s.n - m = (s.n - (m + 1)) + 1 by omega, List.replicate_succ]
  simp
def starts (s : Sp) : List Int := (List.range s.n).map fun i => startS s.cells i
theorem startsTo_all (s : Sp) : startsTo s s.n = starts s := by simp [startsTo, starts]
theorem startsTo_zero (s : Sp) : startsTo s 0 = List.replicate s.n 0 := by simp [startsTo]
theorem intsA_set (l : List Int) (i : Nat) (n : Int) : (intsA l).set i (.lit (.int .i64 n)) = intsA (l.set i n) := by simp [intsA, List.map_set]
/-- Before m is reached, the last attribute. -/
def lastTo (s : Sp) (m : Nat) : Int := lastA s.cells (lastA s.cells (-1) s.cells.length) m
theorem lastTo_succ (s : Sp) (m : Nat) : lastTo s (m + 1) = if isAt s m = true then (m : Int) else lastTo s m := rfl
theorem startS_eq (s : Sp) (m : Nat) : startS s.cells m = lastTo s (m + 1) := rfl

theorem natsA_last {l : List Nat} {a : Nat} (h : l.getLast? = some a) : (natsA l)[l.length - 1]? = some (.lit (.int .i64 a)) := by
  rw [List.getLast?_eq_getElem?] at h
  simp [natsA, h]
theorem attrs_length (s : Sp) : s.attrs.length ≤ s.cells.length := by
  have h2 : s.attrs.length ≤ (List.range s.cells.length).length := by unfold Sp.attrs; exact List.length_filter_le _ _
  simpa using h2
theorem sub_over {σ : Store} {p b : Nat} {X Y Z : List AV} (hb : σ b = none) (hn : ¬ b = p) : Store.sub (σ.upd p X) (((σ.upd p Y).upd b Z).upd p X) := by
  intro o
  simp only [supd_apply]
  by_cases h1 : o = p
  · right; simp [h1]
  · by_cases h2 : o = b
    · left; simp [h2, hb, hn]
    · right; simp [h1, h2]

set_option maxRecDepth 8000 in
theorem starts_calls {x y : Nat} {s : Sp} {σ : Store} (h : Ref σ x y s) : ACalls Tryd.prog 9 [ptrA x] σ fun v σ' => ∃ p, σ p = none ∧ v = rowC p s.n ∧ σ' = σ.upd p (intsA (starts s)) := by
  have ho := h.obj
  have hr := h.row
  have hg := h.good
  have hln := hg.len
  have hn := s.n_le
  have hat := attrs_calls h
  have hlast : lastTo s 0 = match s.attrs.getLast? with | some a => (a : Int) | none => -1 := by
    rw [← attrsTo_all hg]; rw [← hln]; exact lastA_attrs s s.cells.length
  have hal := attrs_length s
  unfold rfO at ho
  have hi1 : (s.n : Int) ≤ 9223372036854775807 := by omega
  have hi2 : 8 * (s.n : Int) ≤ 281474976710656 := by omega
  have hz0 : List.replicate s.n (.lit (.int .i64 0)) = intsA (startsTo s 0) := by rw [startsTo_zero]; simp [intsA]
  refine ACalls.of_awp follows (st := st9) (plans := pl9) (n := 44) Tryd.func9 rfl (by kernel_rfl) (by kernel_rfl) (by kernel_rfl) ?_
  simp
  refine callK.of hat ?_
  rintro v σ' ⟨rfl, rfl⟩
  generalize s.attrs = L at *
  have hxy := h.ne
  cases hL : L.getLast?
  case' none =>
    rw [hL] at hlast
    have hl0 : L.length = 0 := by rw [List.getLast?_eq_none_iff] at hL; simp [hL]
    dsimp only at hlast
    simp [ho, rowC, hi1, hi2, hl0, hz0]
    intro p hp
    obtain ⟨f1, f2, f3, f4⟩ := h.fresh hp
    simp [f1]
  case' some a =>
    rw [hL] at hlast
    dsimp only at hlast
    have hget := natsA_last hL
    have hl0 : 0 < L.length := by
      rcases L with _ | ⟨b, L⟩
      · cases hL
      · simp
    have hw0 : IntKind.i64.wrap ((L.length : Int) - 1) = ((L.length - 1 : Nat) : Int) := by rw [wrap_i64 (by omega) (by omega)]; omega
    have hl1 : L.length - 1 < L.length := by omega
    have hw1 : (0 : Int) ≤ ((L.length - 1 : Nat) : Int) := by omega
    simp [ho, rowC, hi1, hi2, hl0, hz0, hw0, hget, hw1]
    intro p hp
    obtain ⟨f1, f2, f3, f4⟩ := h.fresh hp
    simp [f1]
  all_goals
    refine codeK.loop follows (st := st9) (plans := pl9) (X := Nat) (fun i => i ≤ s.n)
      (fun i => [(4, rowC p s.n), (5, .lit (.int .i64 (lastTo s i))), (28, rowC y s.n), (29, .lit (.int .i64 s.n)), (30, .lit (.int .i64 i))])
      (fun i => σ'.upd p (intsA (startsTo s i))) (fun i => s.n - i) 0 (by kernel_rfl) (by simp) (by simp [rowC, hlast]) (Store.sub_refl _) fun i hi => ?_
    by_cases hlt : i < s.n
    · have hw : IntKind.i64.wrap ((i : Int) + 1) = ((i + 1 : Nat) : Int) := wrap_i64 (by omega) (by omega)
      have hic : i < s.cells.length := by omega
      have hgi := cellsO_get hic
      have hcx : cellC s.cells[i] = [byteA s.cells[i].char, .lit (.bool s.cells[i].attr), byteA s.cells[i].fa, byteA s.cells[i].high, byteA s.cells[i].color, byteA s.cells[i].set] := rfl
      rw [hcx] at hgi
      have hle : i * 6 + 6 ≤ (cellsO s.cells).length := by rw [cellsO_length]; omega
      have hia : isAt s i = s.cells[i].attr := by simp [isAt, hic]
      have hla := lastTo_succ s i
      have hst := startsTo_succ s hlt
      have hsl := startsTo_length s hi
      rw [startS_eq] at hst
      rw [hia] at hla
      generalize s.cells[i] = c at *
      by_cases hca : c.attr = true
      · rw [if_pos hca] at hla
        rw [hla] at hst
        simp +contextual [rowC, hlt, hr, hle, hgi, ite_free, hca, f2]
        intro b n1 n2 hb
        refine ⟨by omega, i + 1, by omega, by omega, ⟨by rw [hla]; exact AV.le_refl _, by rw [hw]; exact AV.le_refl _⟩, ?_⟩
        rw [hst, ← intsA_set]
        exact sub_over hb n1
      · rw [if_neg hca] at hla
        have hcf : c.attr = false := by simpa using hca
        rw [hla] at hst
        simp +contextual [rowC, hlt, hr, hle, hgi, ite_free, hcf, f2]
        intro b n1 n2 hb
        refine ⟨by omega, i + 1, by omega, by omega, ⟨by rw [hla]; exact AV.le_refl _, by rw [hw]; exact AV.le_refl _⟩, ?_⟩
        rw [hst, ← intsA_set]
        exact sub_over hb n1
    · obtain rfl : i = s.n := by omega
      rw [startsTo_all]
      simp [rowC]
      exact ⟨_, AV.le_refl _, _, Store.sub_refl _, p, hp, rfl, rfl⟩

set_option maxRecDepth 8000 in
theorem rfield_calls {x y : Nat} {s : Sp} {σ : Store} (h : Ref σ x y s) (a : Nat) (ha : a < s.n) : ACalls Tryd.prog 11 [ptrA x, .lit (.int .i64 a)] σ fun v σ' => v = fldA (fld (s.cells[a]?.getD .zero).fa) ∧ σ' = σ := by
  have ho := h.obj
  have hr := h.row
  have hln := h.good.len
  unfold rfO at ho
  have hac : a < s.cells.length := by omega
  have h2 : (cellsO s.cells)[a * 6 + 2]? = some (byteA s.cells[a].fa) := cellsO_get1 hac (by omega)
  have hle : a * 6 + 6 ≤ (cellsO s.cells).length := by rw [cellsO_length]; omega
  rw [show s.cells[a]?.getD .zero = s.cells[a] by simp [hac]]
  generalize s.cells[a] = c at *
  have hof := rof_calls c.fa
  have hfa : ∀ f : Fld, fldA f = .agg [.lit (.bool f.prot), .lit (.bool f.num), .lit (.int .i64 f.disp), .lit (.bool f.mod)] := fun _ => rfl
  rw [hfa] at hof ⊢
  refine ACalls.of_awp follows (st := st11) (plans := pl11) (n := 14) Tryd.func11 rfl (by kernel_rfl) (by kernel_rfl) (by kernel_rfl) ?_
  simp
  intro b hb
  obtain ⟨f1, f2, f3, f4⟩ := h.fresh hb
  simp [ho, rowC, ha, hr, h2, f1, f2]
  refine callK.of (hof _) ?_
  rintro v σ' ⟨rfl, rfl⟩
  simp
  (intro q; simp only [Store.upd, Store.del]; (repeat' split) <;> first | exact Or.inr rfl | exact Or.inl rfl | (exfalso; omega) | (left; subst_vars; assumption) | simp_all)
/-- The places of a field's cells, from the first on. -/
theorem places_take_succ {s : Sp} {a k : Nat} (h : k < Sp.len s.cells a) : (Sp.places s.cells a).take (k + 1) = (Sp.places s.cells a).take k ++ [(a + k + 1) % s.cells.length] := by
  have hl : k < (Sp.places s.cells a).length := by rw [places_length']; exact h
  rw [List.take_succ_eq_append_getElem hl, places_get' _ _ _ hl]
theorem starts_at {s : Sp} {m : Nat} (h : m < s.n) : (intsA (starts s))[m]? = some (.lit (.int .i64 (startS s.cells m))) := by
  simp [intsA, starts, h]

end Go.Proofs.YtnlggjbcdienfaaDoor
