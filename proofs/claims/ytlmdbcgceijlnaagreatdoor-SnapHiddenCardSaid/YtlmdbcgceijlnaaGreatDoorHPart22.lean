/-
  The lines told one by one; the rows that aren't the same.
-/
import Derived.Test.YtlmdbcgceijlnaaGreatDoorHPart21
set_option linter.unusedSimpArgs false
set_option linter.unusedVariables false
namespace Go.Proofs.YtlmdbcgceijlnaaGreatDoor
open Go Go.AL Go.Sp
variable {σ Y Z τ : Store} {q p q2 p2 b x y : Nat} {s t : Sp} {n : Int} {pv : AV}

theorem forget_calls {P : Program} {f : FuncId} {args : List AV} {σ τ : Store} {R : AV → Store → Prop} (h : ACalls P f args τ R) (hs : Store.sub τ σ) : ACalls P f args σ R :=
  fun D G w cargs h1 h2 h3 h4 => h D G w cargs h1 h2 (h3.forget hs) h4
theorem PS.ne (h : PS Y q p n pv τ) {z : Nat} {C : List AV} (hz : Y z = some C) : ∀ b : Nat, pv = pgP b → ¬ z = b := by
  intro b e
  cases h with
  | nil h => cases e
  | page b' x h1 h2 h3 h4 h5 =>
    cases e
    rintro rfl
    rw [h4] at hz; cases hz
theorem sub_upd2 {σ τ : Store} (h : Store.sub σ τ) (b : Nat) (C : List AV) : Store.sub (σ.upd b C) (τ.upd b C) := fun o => by
  unfold Store.upd
  split
  · exact .inr rfl
  · exact h o
/-- The lines' iterator: the page's signs may be built on the way. -/
structure PreN (q p c1 c2 : Nat) (s : Sp) (n : Int) (pv : AV) (_k : Nat) (Y τ : Store) : Prop where
  prg : Prg Y q p s
  c1 : Y c1 = some [ptrA q]
  c2 : Y c2 = some [pv]
  ps : ∃ τ0, PS Y q p n pv τ0 ∧ Store.sub τ0 τ
def StepN (q p : Nat) (n : Int) (pv : AV) (_k : Nat) (Y _τ τ' : Store) : Prop := ∃ τ0, PS Y q p n pv τ0 ∧ Store.sub τ0 τ'
def argN (n : Int) (s : Sp) (k : Nat) : List AV := [.lit (.int .i64 k), .lit (.string (toB (lineAt n s k)))]
set_option maxHeartbeats 1000000 in
set_option maxRecDepth 8000 in
theorem lines_iter (a : Option Addr) (c1 c2 : Nat) (s : Sp) (n : Int) (σ : Store) :
    IterL Tryz.prog (Γ := Store) 106 [ptrA c1, ptrA c2] σ s.rows (PreN q p c1 c2 s n (.lit (.pointer a))) (StepN q p n (.lit (.pointer a))) (argN n s) := by
  refine ⟨fun k g τ1 τ _ h hs => ⟨⟨h.prg, h.c1, h.c2, ?_⟩, fun τ' h' => ⟨τ', Store.sub_refl _, h'⟩⟩, ?_⟩
  · obtain ⟨τ0, h1, h2⟩ := h.ps
    exact ⟨τ0, h1, Store.sub_trans h2 hs⟩
  · intro X l M I J hpre hstep hyield Y0 τ E hM hsub
    obtain ⟨hP, q1, q2, τ0, hPS, hs0⟩ := hpre 0 Y0 τ E (Nat.zero_le _) hM
    have hs1 := Store.sub_trans hs0 hsub
    have e1 := sub_at q1 (Store.sub_trans hPS.sub hs1)
    have e2 := sub_at q2 (Store.sub_trans hPS.sub hs1)
    have hdim : Dim s.rows s.cols := dim_of s.model s.alt
    have hr2 := hdim.r2
    have hll := linesL_length n s
    have hsl : (strsA (linesL n s)).length = s.rows := by simp [strsA, hll]
    have hat : ∀ k, k < s.rows → (strsA (linesL n s))[k]? = some (.lit (.string (toB (lineAt n s k)))) := fun k hk => by
      rw [strsA_at _ _ (by omega)]
      simp [linesL, hk]
    refine ACallsY.of_awp follows (st := st106) (plans := pl106) (n := 21) Tryz.func106 rfl (by kernel_rfl) (by kernel_rfl) (by kernel_rfl) ?_
    simp [e1, e2]
    refine callK.of (forget_calls (lines_calls hP hPS) hs1) ?_
    rintro v τ1 ⟨rfl, hPS1⟩
    generalize strsA (linesL n s) = SL at *
    simp [hsl]
    refine codeYK.loop follows (st := st106) (plans := pl106) (S := Nat × Store × Store) (fun x => x.1 ≤ s.rows)
      (fun x => [(0, .func (.yield l) [] []), (8, .list false 1 SL), (9, .lit (.int .i64 s.rows)), (10, .lit (.int .i64 x.1))]) (fun x => x.2.2)
      (fun x E => I x.1 x.2.1 x.2.2 E) (fun x => s.rows - x.1) (0, Y0, τ1) (by kernel_rfl) (by simp) (by simp) (Store.sub_refl _) (hstep 0 Y0 τ τ1 E (Nat.zero_le _) hM ⟨τ1, hPS1, Store.sub_refl _⟩) ?_
    rintro ⟨k, Yk, τk⟩ Ek hk hI
    dsimp only at hk hI ⊢
    by_cases hlt : k < s.rows
    · have hy := hyield k Yk hlt τk Ek hI
      unfold argN at hy
      have hatk := hat k hlt
      have hg : ∀ h : k < SL.length, SL[k]'h = .lit (.string (toB (lineAt n s k))) := fun h => by rw [List.getElem?_eq_getElem h] at hatk; exact Option.some.inj hatk
      have hw : IntKind.i64.wrap ((k : Int) + 1) = ((k + 1 : Nat) : Int) := wrap_i64 (by omega) (by omega)
      generalize lineAt n s k = LA at *
      simp [hlt, hsl, hatk, hg]
      refine yieldK.of (by simp) hy (Store.sub_refl _) ?_
      intro bb τ' E' hR hap
      cases bb
      · simp
        exact ⟨⟨_, AV.le_refl _⟩, _, Store.sub_over _ _ _, τ', Store.sub_refl _, .inr (by simpa using hR)⟩
      · obtain ⟨g', hR⟩ := (by simpa using hR : ∃ g', M (k + 1) g' τ' E')
        obtain ⟨hP', r1, r2, τ0', hPS', hs0'⟩ := hpre (k + 1) g' τ' E' (by omega) hR
        simp [hw]
        exact ⟨k + 1, by omega, by omega, AV.le_refl _, g', τ', Store.sub_over _ _ _, hstep (k + 1) g' τ' τ' E' (by omega) hR ⟨τ0', hPS', hs0'⟩⟩
    · obtain rfl : k = s.rows := by omega
      simp
      exact ⟨⟨_, AV.le_refl _⟩, _, Store.sub_refl _, τk, Store.sub_refl _, .inl ⟨Yk, hI⟩⟩
set_option maxRecDepth 8000 in
theorem mkLines_calls (a : Option Addr) (q : Nat) (σ : Store) : ACalls Tryz.prog 60 [ptrA q, .lit (.pointer a)] σ fun v σ' => ∃ c1 c2 : Nat, σ c1 = none ∧ σ c2 = none ∧ ¬ c1 = c2 ∧ v = .func (.func 106) [] [ptrA c1, ptrA c2] ∧ σ' = (σ.upd c1 [ptrA q]).upd c2 [.lit (.pointer a)] := by
  refine ACalls.of_awp follows (st := st60) (plans := pl60) (n := 6) Tryz.func60 rfl (by kernel_rfl) (by kernel_rfl) (by kernel_rfl) ?_
  simp
  intro c1 h1
  simp +contextual [ite_free]
  intro c2 n1 n2 h2
  exact ⟨_, AV.le_refl _, _, Store.sub_refl _, c1, h1, c2, h2, n2, rfl, rfl⟩

/-! ### Rows -/
def rwA (r : Nat × List UInt8) : AV := .agg [.lit (.int .i64 r.1), .lit (.string (toB r.2))]
def rwsA (l : List (Nat × List UInt8)) : List AV := l.map rwA
/-- Is a row told? -/
def tells (n : Int) (s t : Sp) (i : Nat) : Bool := decide (¬ (s.rows = t.rows ∧ s.cols = t.cols) ∨ ¬ lineAt n s i = lineAt n t i)
def diffTo (n : Int) (s t : Sp) (k : Nat) : List (Nat × List UInt8) := ((List.range k).filter (tells n s t)).map fun i => (i, lineAt n t i)
theorem diffTo_succ (n : Int) (s t : Sp) (k : Nat) : diffTo n s t (k + 1) = diffTo n s t k ++ if tells n s t k = true then [(k, lineAt n t k)] else [] := by
  unfold diffTo
  rw [List.range_succ, List.filter_append, List.map_append]
  congr 1
  by_cases h : tells n s t k = true <;> simp [h]
theorem diffTo_len (n : Int) (s t : Sp) (k : Nat) : (diffTo n s t k).length ≤ k := by
  unfold diffTo
  rw [List.length_map]
  exact Nat.le_trans (List.length_filter_le _ _) (by simp)
theorem Scr.more {f : Sp → Nat → List AV} (h : Scr f Y q p s) (hs : Store.sub Y τ) : Scr f τ q p s := ⟨sub_at h.obj hs, sub_at h.row hs, h.ne, h.good⟩
set_option maxHeartbeats 2000000 in
set_option maxRecDepth 8000 in
theorem diff_calls (hA : Prg Y q p s) (hB : Prg Y q2 p2 t) (h : PS Y q p n pv τ) : ACalls Tryz.prog 16 [ptrA q, ptrA q2, pv] τ fun v σ' => v = .list false 2 (rwsA (diffTo n s t t.rows)) ∧ PS Y q p n pv σ' := by
  obtain ⟨a, ha⟩ := h.ptr
  rw [ha] at h ⊢
  clear ha
  have hdt : Dim t.rows t.cols := dim_of t.model t.alt
  have hds : Dim s.rows s.cols := dim_of s.model s.alt
  have hr2 := hdt.r2
  refine ACalls.of_awpY follows (st := st16) (plans := pl16) (n := 39) Tryz.func16 rfl (by kernel_rfl) (by kernel_rfl) (by kernel_rfl) ?_
  simp
  intro b3 h3
  obtain ⟨y3, g3⟩ := h.new h3 [ptrA q]
  simp +contextual [ite_free]
  intro b4 n4 m4 h4
  obtain ⟨y4, g4⟩ := g3.new (z := b4) (by simp [n4, m4, h4]) [ptrA q2]
  have hA1 := hA.new y3 [ptrA q]
  have hA2 := hA1.new y4 [ptrA q2]
  have hB1 := hB.new y3 [ptrA q]
  have hB2 := hB1.new y4 [ptrA q2]
  have yb3 : ((Y.upd b3 [ptrA q]).upd b4 [ptrA q2]) b3 = some [ptrA q] := by simp [n4, m4]
  have yb4 : ((Y.upd b3 [ptrA q]).upd b4 [ptrA q2]) b4 = some [ptrA q2] := by simp
  refine callK.of (lines_calls hA2 g4) ?_
  rintro v τ1 ⟨rfl, g5⟩
  clear g3 g4
  generalize hY2 : (Y.upd b3 [ptrA q]).upd b4 [ptrA q2] = Y2 at *
  have e3 := sub_at yb3 g5.sub
  have e4 := sub_at yb4 g5.sub
  simp
  intro b7 h7
  obtain ⟨y7, g7⟩ := g5.new h7 [.list false 1 (strsA (linesL n s))]
  have n73 : ¬ b7 = b3 := fun e => by subst e; rw [e3] at h7; cases h7
  have n74 : ¬ b7 = b4 := fun e => by subst e; rw [e4] at h7; cases h7
  simp +contextual [ite_free]
  intro b8 n8 m8 h8
  obtain ⟨y8, g8⟩ := g7.new (z := b8) (by simp [n8, m8, h8]) [.list true 2 []]
  have n83 : ¬ b8 = b3 := fun e => by subst e; rw [e3] at h8; cases h8
  have n84 : ¬ b8 = b4 := fun e => by subst e; rw [e4] at h8; cases h8
  have sw : ∀ {i j : Nat}, ¬ i = j → ¬ j = i := fun h e => h e.symm
  simp [e4, sw n84, sw n74]
  refine callK.of (mkLines_calls a q2 _) ?_
  rintro v τ2 ⟨c1, c2, f1, f2, n12, rfl, rfl⟩
  simp only [supd_apply, Int.natCast_inj, ite_none] at f1 f2
  obtain ⟨k18, k17, k1⟩ := f1
  obtain ⟨k28, k27, k2⟩ := f2
  have yd7 : Y2 b7 = none := y7
  have yd8 : Y2 b8 = none := by simpa [n8, m8] using y8
  have yc1 : Y2 c1 = none := by
    rcases g5.sub c1 with h | h
    · exact h
    · rw [h]; exact k1
  have yc2 : Y2 c2 = none := by
    rcases g5.sub c2 with h | h
    · exact h
    · rw [h]; exact k2
  let Yf : Nat → Store := fun k => (((Y2.upd b7 [.list false 1 (strsA (linesL n s))]).upd b8 [.list true 2 (rwsA (diffTo n s t k))]).upd c1 [ptrA q2]).upd c2 [.lit (.pointer a)]
  have hYf : ∀ k, Yf k = (((Y2.upd b7 [.list false 1 (strsA (linesL n s))]).upd b8 [.list true 2 (rwsA (diffTo n s t k))]).upd c1 [ptrA q2]).upd c2 [.lit (.pointer a)] := fun _ => rfl
  have g9 := (g8.new (z := c1) (by simp [k18, k17, k1]) [ptrA q2]).2
  have g10 := (g9.new (z := c2) (by simp [k28, k27, k2, sw n12]) [.lit (.pointer a)]).2
  have hg0 : diffTo n s t 0 = [] := rfl
  have hBf : ∀ k, Prg (Yf k) q2 p2 t := fun k => (((hB2.new yd7 _).new (by simp [n8, m8, yd8]) _).new (by simp [k18, k17, yc1]) _).new (by simp [k28, k27, yc2, sw n12]) _
  have hAf : ∀ k, Prg (Yf k) q p s := fun k => (((hA2.new yd7 _).new (by simp [n8, m8, yd8]) _).new (by simp [k18, k17, yc1]) _).new (by simp [k28, k27, yc2, sw n12]) _
  clear_value Yf
  simp
  refine codeYK.rangeL follows (st := st16) (plans := pl16) (lines_iter (q := q2) (p := p2) a c1 c2 t n _) (by simp) (by simp) (fun k h => rfl) (by kernel_rfl) (by kernel_rfl) (by kernel_rfl)
    (fun k g ρ E => g = Yf k ∧ ∃ τ0, PS g q2 p2 n (.lit (.pointer a)) τ0 ∧ Store.sub τ0 ρ) (fun k g ρ E => g = Yf k ∧ ∃ τ0, PS g q2 p2 n (.lit (.pointer a)) τ0 ∧ Store.sub τ0 ρ) (fun c ρ E => False)
    (Yf 0) _ ⟨rfl, _, (hYf 0 ▸ g10 : PS (Yf 0) q p n _ _).change (hBf 0), Store.sub_refl _⟩ (Store.sub_refl _) ?_ ?_ ?_ ?_ ?_
  · rintro k g ρ E hk ⟨rfl, τ0, h1, h2⟩
    exact ⟨hBf k, by rw [hYf]; simp [n12, sw n12], by rw [hYf]; simp, τ0, h1, h2⟩
  · rintro k g ρ ρ' E hk ⟨rfl, _⟩ ⟨τ0, h1, h2⟩
    exact ⟨rfl, τ0, h1, h2⟩
  · rintro k g hk ρ E ⟨rfl, τ0, h1, h2⟩
    have hs := Store.sub_trans h1.sub h2
    have q13 : ¬ b3 = c1 := fun e => by subst e; rw [yb3] at yc1; cases yc1
    have q23 : ¬ b3 = c2 := fun e => by subst e; rw [yb3] at yc2; cases yc2
    have q14 : ¬ b4 = c1 := fun e => by subst e; rw [yb4] at yc1; cases yc1
    have q24 : ¬ b4 = c2 := fun e => by subst e; rw [yb4] at yc2; cases yc2
    have x3 : ρ b3 = some [ptrA q] := sub_at (by rw [hYf]; simp [q13, q23, sw n83, sw n73, yb3]) hs
    have x4 : ρ b4 = some [ptrA q2] := sub_at (by rw [hYf]; simp [q14, q24, sw n84, sw n74, yb4]) hs
    have x7 : ρ b7 = some [.list false 1 (strsA (linesL n s))] := sub_at (by rw [hYf]; simp [sw k17, sw k27, sw m8, sw n8, n8, m8]) hs
    have y8' : Yf k b8 = some [.list true 2 (rwsA (diffTo n s t k))] := by rw [hYf]; simp [sw k18, sw k28]
    have x8 : ρ b8 = some [.list true 2 (rwsA (diffTo n s t k))] := sub_at y8' hs
    have hPa : Prg ρ q p s := (hAf k).more hs
    have hPb : Prg ρ q2 p2 t := (hBf k).more hs
    have hnext : ∀ C, C = rwsA (diffTo n s t (k + 1)) → PS (Yf (k + 1)) q2 p2 n (.lit (.pointer a)) (τ0.upd b8 [.list true 2 C]) := fun C e => by
      have h3 := h1.upd (z := b8) (C := [.list true 2 C]) (h1.ne y8')
      have e2 : (Yf k).upd b8 [.list true 2 C] = Yf (k + 1) := by
        rw [hYf, hYf, e, supd_swap _ k28, supd_swap _ k18, supd_supd]
      rw [e2] at h3
      exact h3
    have hsame : diffTo n s t (k + 1) = diffTo n s t k ++ (if false = true then [(k, lineAt n t k)] else []) → Yf k = Yf (k + 1) := fun e => by rw [hYf, hYf, e]; simp
    have hdl := diffTo_len n s t k
    have hds := diffTo_succ n s t k
    have hsl : (strsA (linesL n s)).length = s.rows := by simp [strsA, linesL_length]
    have hla : k < s.rows → (strsA (linesL n s))[k]? = some (.lit (.string (toB (lineAt n s k)))) := fun h => by
      rw [strsA_at _ _ (by rw [linesL_length]; exact h)]
      simp [linesL, h]
    have hrl : (rwsA (diffTo n s t k)).length = (diffTo n s t k).length := by simp [rwsA]
    generalize strsA (linesL n s) = SL at *
    have sa := fun (_ : Unit) => size_calls hPa
    have sb := fun (_ : Unit) => size_calls hPb
    have hw8 : ∀ C, Store.sub (τ0.upd b8 C) (ρ.upd b8 C) := fun C => sub_upd2 h2 b8 C
    clear g5 g7 g8 g9 g10 hA1 hA2 hB1 hB2
    simp only [argN]
    by_cases hd : s.rows = t.rows ∧ s.cols = t.cols
    · obtain ⟨d1, d2⟩ := hd
      have hks : k < s.rows := by omega
      have hlk := hla hks
      rw [d1, d2] at sa
      by_cases he : lineAt n s k = lineAt n t k
      · have ht : tells n s t k = false := by simp [tells, d1, d2, he]
        rw [ht] at hds
        rw [he] at hlk
        generalize lineAt n t k = LT at *
        have hg : ∀ h : k < SL.length, SL[k]'h = .lit (.string (toB LT)) := fun h => by rw [List.getElem?_eq_getElem h] at hlk; exact Option.some.inj hlk
        simp [x3, x4]
        repeat' apply And.intro
        all_goals
          refine callK.eq (sa ()) ?_
          simp [x4]
          refine callK.eq (sb ()) ?_
          simp [x7, hsl, hks, hlk, hg]
        all_goals exact ⟨ρ, Store.sub_refl _, τ0, hsame hds ▸ h1, h2⟩
      · have ht : tells n s t k = true := by simp [tells, he]
        rw [ht] at hds
        generalize lineAt n t k = LT at *
        generalize lineAt n s k = LS at *
        have hg : ∀ h : k < SL.length, SL[k]'h = .lit (.string (toB LS)) := fun h => by rw [List.getElem?_eq_getElem h] at hlk; exact Option.some.inj hlk
        have hne : ¬ (toB LT).toList = (toB LS).toList := fun e => he (by simpa [ByteArray.toList_eq, toB] using e.symm)
        have hne' : ¬ (toB LS).toList = (toB LT).toList := fun e => hne e.symm
        simp [x3, x4]
        repeat' apply And.intro
        all_goals
          refine callK.eq (sa ()) ?_
          simp [x4]
          refine callK.eq (sb ()) ?_
          simp [x7, x8, hsl, hks, hlk, hg, hne, hne', hrl]
        all_goals exact ⟨by omega, by omega, _, Store.sub_refl _, _, hnext _ (by rw [hds]; simp [rwsA, rwA]), hw8 _⟩
    · have ht : tells n s t k = true := by simp [tells, hd]
      rw [ht] at hds
      generalize lineAt n t k = LT at *
      have hd1 : ¬ ((s.rows : Int) = t.rows ∧ (s.cols : Int) = t.cols) := fun h => hd (by omega)
      have hd2 : (s.rows : Int) = t.rows → ¬ (s.cols : Int) = t.cols := fun h h' => hd1 ⟨h, h'⟩
      have hd3 : (¬ (s.rows : Int) = t.rows ∨ ¬ (s.cols : Int) = t.cols) := by omega
      simp [x3, x4]
      repeat' apply And.intro
      all_goals
        refine callK.eq (sa ()) ?_
        simp [x4]
        refine callK.eq (sb ()) ?_
        simp [x8, hd1, hd2, hd3, hrl]
      all_goals exact ⟨by omega, by omega, _, Store.sub_refl _, _, hnext _ (by rw [hds]; simp [rwsA, rwA]), hw8 _⟩
  · rintro g ρ E σ' hs' ⟨rfl, τ0, h1, h2⟩
    have hs := Store.sub_trans (Store.sub_trans h1.sub h2) hs'
    have y8' : Yf t.rows b8 = some [.list true 2 (rwsA (diffTo n s t t.rows))] := by rw [hYf]; simp [sw k18, sw k28]
    have x8 := sub_at y8' hs
    have h3 := h1.change (hAf t.rows)
    rw [hYf] at h3
    obtain ⟨τ3, h4, s4⟩ := h3.drop (by simp [k28, k27, yc2, sw n12])
    obtain ⟨τ5, h5, s5⟩ := h4.drop (by simp [k18, k17, yc1])
    obtain ⟨τ6, h6, s6⟩ := h5.drop (by simp [n8, m8, yd8])
    obtain ⟨τ7, h7', s7⟩ := h6.drop yd7
    subst hY2
    obtain ⟨τ8, h8', s8⟩ := h7'.drop y4
    obtain ⟨τ9, h9, s9⟩ := h8'.drop y3
    simp [x8]
    exact ⟨_, AV.le_refl _, τ9, Store.sub_trans s9 (Store.sub_trans s8 (Store.sub_trans s7 (Store.sub_trans s6 (Store.sub_trans s5 (Store.sub_trans s4 (Store.sub_trans h2 hs')))))), rfl, h9⟩
  · rintro c ρ E σ' _ h
    exact h.elim
end Go.Proofs.YtlmdbcgceijlnaaGreatDoor
/-
  The sign of any place, by a page or by none.
-/
namespace Go.Proofs.YtlmdbcgceijlnaaGreatDoor
open Go Go.AL Go.Sp
variable {σ Y Z τ : Store} {q p b x y : Nat} {s : Sp} {n : Int} {pv : AV}

set_option maxRecDepth 8000 in
theorem startI_calls {q r : Nat} {s : Sp} {σ : Store} (h : Prg σ q r s) (k : Int) {n : Nat} (hk : wrap s.n k = n) (hn : n < s.n) : ACalls Tryz.prog 109 [ptrA q, .lit (.int .i64 k)] σ fun v σ' => v = .lit (.int .i64 (startS s.cells n)) ∧ σ' = σ := by
  have hf := fun τ (hτ : Prg τ q r s) => formatted_calls hτ
  have hsz := fun τ (hτ : Prg τ q r s) => size_calls hτ
  have hnl := s.n_le
  refine ACalls.of_awp follows (st := st109) (plans := pl109) (n := 24) Tryz.func109 rfl (by kernel_rfl) (by kernel_rfl) (by kernel_rfl) ?_
  by_cases hc : s.count = 0
  · have hs := startS_none hc n
    rw [hs]
    simp
    refine callK.of (hf _ h) ?_
    rintro v σ' ⟨rfl, rfl⟩
    simp [hc]
  · have hc' : 0 < s.count := by omega
    obtain ⟨a, ha, hat⟩ := count_some hc'
    have hw := fun τ => swrap_calls s k τ
    rw [hk] at hw
    simp
    refine callK.of (hf _ h) ?_
    rintro v σ' ⟨rfl, rfl⟩
    simp [hc']
    refine callK.of (hsz _ h) ?_
    rintro v σ' ⟨rfl, rfl⟩
    simp
    intro b hb
    have hbq := h.fresh hb
    refine callK.of (hw _) ?_
    rintro v σ2 ⟨rfl, rfl⟩
    simp
    have hbk := @back_start s h.good n
    have hgood := h.good
    have hpos := s.n_pos
    -- as many steps back as there are places, at most
    have hstop : ∀ j, j < s.n → (∀ i, i < j → attrAt s.cells ((n + s.n - i) % s.n) = false) → attrAt s.cells ((n + s.n - j) % s.n) = false → j + 1 < s.n := fun j hj hfree hthis => by
      rcases Nat.lt_or_ge (j + 1) s.n with h1 | h1
      · exact h1
      · exfalso
        rw [h.good.len] at ha
        have e : (n + s.n - (n + s.n - a) % s.n) % s.n = a := by
          rcases Nat.lt_or_ge n a with h2 | h2
          · rw [Nat.mod_eq_of_lt (by omega : n + s.n - a < s.n), show n + s.n - (n + s.n - a) = a from by omega, Nat.mod_eq_of_lt ha]
          · rw [show n + s.n - a = (n - a) + s.n from by omega, Nat.add_mod_right, Nat.mod_eq_of_lt (by omega : n - a < s.n), show n + s.n - (n - a) = a + s.n from by omega, Nat.add_mod_right, Nat.mod_eq_of_lt ha]
        have hm := Nat.mod_lt (n + s.n - a) hpos
        rcases Nat.lt_or_ge ((n + s.n - a) % s.n) j with h3 | h3
        · have := hfree _ h3; rw [e, hat] at this; cases this
        · have : (n + s.n - a) % s.n = j := by omega
          rw [this] at e; rw [e, hat] at hthis; cases hthis
    refine codeK.loop follows (st := st109) (plans := pl109) (X := Nat) (fun j => j < s.n ∧ ∀ i, i < j → attrAt s.cells ((n + s.n - i) % s.n) = false)
      (fun j => [(0, ptrA q), (1, .lit (.int .i64 ((n + s.n - j) % s.n : Nat))), (5, ptrA b)]) (fun _ => σ'.upd b [.lit (.int .i64 s.rows), .lit (.int .i64 s.cols)]) (fun j => s.n - j) 0 (by kernel_rfl) ⟨hpos, fun i hi => by omega⟩ (by simp [Nat.mod_eq_of_lt hn]) (by first | exact Store.sub_refl _ | (intro q; simp only [Store.upd, Store.del]; (repeat' split) <;> first | exact Or.inr rfl | exact Or.inl rfl | (exfalso; omega) | (left; subst_vars; assumption) | simp_all)) fun j hj => ?_
    obtain ⟨hj, hfree⟩ := hj
    have hbk2 := hbk hn hj hfree
    have hstop2 := hstop j hj hfree
    have hm := Nat.mod_lt (n + s.n - j) hpos
    have hnext : ((n + s.n - j) % s.n + s.n - 1) % s.n = (n + s.n - (j + 1)) % s.n := by
      rcases Nat.lt_or_ge (n + s.n - j) s.n with h1 | h1
      · rw [Nat.mod_eq_of_lt h1, show n + s.n - j + s.n - 1 = (n + s.n - (j + 1)) + s.n from by omega, Nat.add_mod_right]
      · rw [show n + s.n - j = (n - j) + s.n from by omega, Nat.add_mod_right, Nat.mod_eq_of_lt (by omega : n - j < s.n), show n + s.n - (j + 1) = n - j + s.n - 1 from by omega]
    have hfree2 : attrAt s.cells ((n + s.n - j) % s.n) = false → ∀ i, i < j + 1 → attrAt s.cells ((n + s.n - i) % s.n) = false := fun h0 i hi => by
      by_cases e : i = j
      · subst e; exact h0
      · exact hfree i (by omega)
    have hnI : (((n + s.n - j) % s.n + s.n - 1 : Nat) : Int) % (s.n : Int) = ((n + s.n - (j + 1) : Nat) : Int) % (s.n : Int) := by
      have := congrArg (fun x : Nat => (x : Int)) hnext
      simpa using this
    have hat2 := attrAt_at hm
    have hwp := wrap_pred hpos hm
    generalize (n + s.n - j) % s.n = m at *
    have hsw := fun τ => swrap_calls s ((m : Int) - 1) τ
    rw [hwp] at hsw
    have hatc := fun τ (hτ : Prg τ q r s) => at_calls hτ (m : Int)
    simp only [cellA_eq, hat2] at hatc
    have hi : IntKind.i64.wrap ((m : Int) - 1) = (m : Int) - 1 := wrap_i64 (by omega) (by omega)
    simp
    refine callK.of (hatc _ (h.new hb _)) ?_
    rintro v σ3 ⟨rfl, rfl⟩
    by_cases h0 : attrAt s.cells m = true
    · rw [hbk2 h0]
      simp [h0]
      (intro q; simp only [Store.upd, Store.del]; (repeat' split) <;> first | exact Or.inr rfl | exact Or.inl rfl | (exfalso; omega) | (left; subst_vars; assumption) | simp_all)
    · have h0' : attrAt s.cells m = false := by simpa using h0
      simp [h0', hi]
      refine callK.of (hsw _) ?_
      rintro v σ3 ⟨rfl, rfl⟩
      simp
      exact ⟨j + 1, ⟨hstop2 h0', hfree2 h0'⟩, by omega, by rw [hnI]; exact AV.le_refl _⟩
set_option maxRecDepth 8000 in
theorem fofI_calls {q r : Nat} {s : Sp} {σ : Store} (h : Prg σ q r s) (k : Int) {n : Nat} (hk : wrap s.n k = n) (hn : n < s.n) : ACalls Tryz.prog 65 [ptrA q, .lit (.int .i64 k)] σ fun v σ' => v = .tuple [if 0 ≤ startS s.cells n then fldA (fldAt s (startS s.cells n).toNat) else .agg [.lit (.bool false), .lit (.bool false), .lit (.int .i64 0), .lit (.bool false)], .lit (.bool (decide (0 ≤ startS s.cells n)))] ∧ σ' = σ := by
  have hst := fun τ (hτ : Prg τ q r s) => startI_calls hτ k hk hn
  have hfa : ∀ f : Fld, fldA f = .agg [.lit (.bool f.prot), .lit (.bool f.num), .lit (.int .i64 f.disp), .lit (.bool f.mod)] := fun _ => rfl
  refine ACalls.of_awp follows (st := st65) (plans := pl65) (n := 18) Tryz.func65 rfl (by kernel_rfl) (by kernel_rfl) (by kernel_rfl) ?_
  by_cases hc : s.count = 0
  · rw [startS_none hc n] at hst ⊢
    simp
    intro b hb
    refine callK.of (hst _ (h.new hb _)) ?_
    rintro v σ' ⟨rfl, rfl⟩
    simp
    exact sub_upd_self _ _ _ hb
  · obtain ⟨h1, h2⟩ := startS_at h.good hn hc
    obtain ⟨a, ha⟩ : ∃ a : Nat, startS s.cells n = a := ⟨_, (Int.toNat_of_nonneg h1).symm⟩
    rw [ha] at hst h2 ⊢
    simp only [Int.toNat_natCast] at h2 ⊢
    rw [if_pos (by omega)]
    have hat := fun τ (hτ : Prg τ q r s) => at_calls hτ (a : Int)
    have hae := at_of h.good h2
    have hfe : fldAt s a = fld (s.at (a : Int)).fa := by unfold fldAt; rw [hae]
    have hof := fun τ => of_calls (s.at (a : Int)).fa τ
    rw [hfe]
    simp only [cellA_eq] at hat
    rw [hfa] at hof ⊢
    have ha1 : ¬ (a : Int) = -1 := by omega
    have ha0 : (0 : Int) ≤ a := by omega
    simp
    intro b hb
    refine callK.of (hst _ (h.new hb _)) ?_
    rintro v σ' ⟨rfl, rfl⟩
    simp [ha1]
    refine callK.of (hat _ (h.new hb _)) ?_
    rintro v σ' ⟨rfl, rfl⟩
    simp
    refine callK.of (hof _) ?_
    rintro v σ' ⟨rfl, rfl⟩
    simp
    (intro q; simp only [Store.upd, Store.del]; (repeat' split) <;> first | exact Or.inr rfl | exact Or.inl rfl | (exfalso; omega) | (left; subst_vars; assumption) | simp_all)
theorem fofFI_calls {s : Sp} {r : Nat} (h : Prg σ q r s) (k : Int) {n : Nat} (hk : wrap s.n k = n) (hn : n < s.n) : ACalls Tryz.prog 65 [ptrA q, .lit (.int .i64 k)] σ fun v σ' => v = .tuple [.agg [.lit (.bool (fofF s n).prot), .lit (.bool (fofF s n).num), .lit (.int .i64 (fofF s n).disp), .lit (.bool (fofF s n).mod)], .lit (.bool (okF s n))] ∧ σ' = σ := by
  have := fofI_calls h k hk hn
  unfold fofF okF
  by_cases h0 : 0 ≤ startS s.cells n
  · simp only [if_pos h0] at this ⊢; exact this
  · simp only [if_neg h0] at this ⊢; exact this
set_option maxRecDepth 8000 in
theorem csign_nil (c : UInt8) (σ : Store) : ACalls Tryz.prog 152 [.lit (.pointer none), byteA c] σ fun v σ' => v = .lit (.int .i32 ((sgF 37 c.toNat : Nat) : Int)) ∧ σ' = σ := by
  have hpg := page_new 37 page37
  refine ACalls.of_awp follows (st := st152) (plans := pl152) (n := 14) Tryz.func152 rfl (by kernel_rfl) (by kernel_rfl) (by kernel_rfl) ?_
  simp
  refine callK.of (hpg _) ?_
  rintro v τ ⟨b, hb, rfl, rfl⟩
  simp
  refine callK.of (sign_calls b 37 page37 none c σ) ?_
  rintro v τ ⟨rfl, q, nx, rfl⟩
  simp
  exact pgS_over hb 37 (fun g e => by rcases nx with h | ⟨g', h6, h7⟩ <;> simp_all)
set_option maxRecDepth 8000 in
theorem shown_nil (c : UInt8) (σ : Store) : ACalls Tryz.prog 112 [.lit (.pointer none), byteA c] σ fun v σ' => v = .lit (.int .i32 ((shownN 37 c : Nat) : Int)) ∧ σ' = σ := by
  have hs := csign_nil c σ
  have hd := fun τ => data_calls c τ
  have hh := fun τ => hid_calls (sgF 37 c.toNat) τ
  unfold shownN
  refine ACalls.of_awp follows (st := st112) (plans := pl112) (n := 22) Tryz.func112 rfl (by kernel_rfl) (by kernel_rfl) (by kernel_rfl) ?_
  by_cases c1 : c = 28
  · subst c1; simp [byteA]
  by_cases c2 : c = 30
  · subst c2; simp [byteA]
  by_cases c3 : c = 63
  · subst c3; simp [byteA]
  have k1 : ¬ (c.toNat : Int) = 28 := fun h => c1 (UInt8.toNat_inj.1 (by show c.toNat = 28; omega))
  have k2 : ¬ (c.toNat : Int) = 30 := fun h => c2 (UInt8.toNat_inj.1 (by show c.toNat = 30; omega))
  have k3 : ¬ (c.toNat : Int) = 63 := fun h => c3 (UInt8.toNat_inj.1 (by show c.toNat = 63; omega))
  unfold byteA at *
  simp [k1, k2, k3, c1, c2, c3]
  refine callK.eq (hd _) ?_
  generalize sgF 37 c.toNat = s at *
  generalize hidB s = hb at *
  generalize dataB c = db at *
  cases db
  · simp
  · simp
    refine callK.eq hs ?_
    simp
    refine callK.eq (hh _) ?_
    cases hb
    · simp
    · simp
set_option maxRecDepth 8000 in
theorem sgn_nil (hP : Prg Y q p s) (k : Int) (hid : Bool) : ACalls Tryz.prog 66 [ptrA q, .lit (.pointer none), .lit (.int .i64 k), .lit (.bool hid)] Y fun v σ' => v = .lit (.int .i32 (signN 37 (s.at k) hid : Nat)) ∧ σ' = Y := by
  have hat := at_calls hP k
  have hes := fun τ => escape_calls (s.at k).char τ
  have hsh := fun τ => shown_nil (s.at k).char τ
  unfold signN
  generalize s.at k = c at *
  rw [cellA_eq] at hat
  refine ACalls.of_awp follows (st := st66) (plans := pl66) (n := 41) Tryz.func66 rfl (by kernel_rfl) (by kernel_rfl) (by kernel_rfl) ?_
  simp
  refine callK.eq hat ?_
  have hend : ∀ (z : Nat) C, Y z = none → Store.sub Y (Y.upd z C) := fun z C hz => sub_upd_self _ _ _ hz
  by_cases ha : c.attr = true
  · simp [ha]
    intro z hz
    exact hend z _ hz
  have ha' : c.attr = false := by simpa using ha
  cases hid
  case true =>
    simp [ha']
    intro z hz
    exact hend z _ hz
  by_cases hs : c.set = 0xf1
  · have hs' : (c.set.toNat : Int) = 241 := by rw [hs]; rfl
    simp [ha', hs', hs, byteA]
    intro z hz
    refine callK.eq (hes _) ?_
    cases he : escF c.char with
    | none => simp; exact hend z _ hz
    | some w => simp; exact hend z _ hz
  · have hs' : ¬ (c.set.toNat : Int) = 241 := fun h => hs (UInt8.toNat_inj.1 (by show c.set.toNat = 241; omega))
    unfold byteA at *
    simp [ha', hs', hs]
    intro z hz
    refine callK.eq (hsh _) ?_
    simp
    exact hend z _ hz
theorem psgn_calls (hP : Prg Y q p s) (h : PS Y q p n pv τ) (k : Int) (hid : Bool) : ACalls Tryz.prog 66 [ptrA q, pv, .lit (.int .i64 k), .lit (.bool hid)] τ fun v σ' => v = .lit (.int .i32 (signN n (s.at k) hid : Nat)) ∧ PS Y q p n pv σ' := by
  cases h with
  | nil h =>
    subst h
    refine ACalls.mono (sgn_nil hP k hid) ?_
    rintro v τ ⟨rfl, rfl⟩
    exact ⟨rfl, .nil rfl⟩
  | page b x h1 h2 h3 h4 h5 =>
    refine ACalls.mono (sgn_calls hP h2 h3 h1 x k hid) ?_
    rintro v τ ⟨rfl, x', nx, rfl⟩
    refine ⟨rfl, .page b x' h1 h2 h3 h4 fun g e => ?_⟩
    rcases nx with h | ⟨g', h6, h7⟩
    · exact h5 g (by rw [← h]; exact e)
    · rw [h6] at e; cases e; exact h7
set_option maxRecDepth 8000 in
theorem signI_calls (hP : Prg Y q p s) (h : PS Y q p n pv τ) (k : Int) : ACalls Tryz.prog 21 [ptrA q, pv, .lit (.int .i64 k)] τ fun v σ' => v = .lit (.int .i32 (signAt n s (wrap s.n k) : Nat)) ∧ PS Y q p n pv σ' := by
  obtain ⟨a, ha⟩ := h.ptr
  rw [ha] at h ⊢
  clear ha
  have hw : wrap s.n k < s.n := wrap_lt s.n_pos k
  have hat : s.at k = s.cells[wrap s.n k]?.getD .zero := rfl
  have hf := fun τ (hτ : Prg τ q p s) => fofFI_calls hτ k rfl hw
  have hh := fun τ => hidden_calls (fofF s (wrap s.n k)).prot (fofF s (wrap s.n k)).num (fofF s (wrap s.n k)).disp (fofF s (wrap s.n k)).mod τ
  have hsa : signAt n s (wrap s.n k) = signN n (s.at k) (decide ((fofF s (wrap s.n k)).disp = 3)) := by unfold signAt hidAt; rw [hat]
  rw [hsa]
  generalize fofF s (wrap s.n k) = F at *
  obtain ⟨f1, f2, f3, f4⟩ := F
  dsimp only at hf hh
  refine ACalls.of_awp follows (st := st21) (plans := pl21) (n := 21) Tryz.func21 rfl (by kernel_rfl) (by kernel_rfl) (by kernel_rfl) ?_
  simp
  refine callK.eq (hf _ (h.prg hP)) ?_
  simp
  intro z hz
  obtain ⟨yz, g1⟩ := h.new hz [.lit (.bool f1), .lit (.bool f2), .lit (.int .i64 f3), .lit (.bool f4)]
  refine callK.eq (hh _) ?_
  simp
  refine callK.of (psgn_calls (hP.new yz _) g1 k _) ?_
  rintro v τ1 ⟨rfl, g2⟩
  obtain ⟨τ0, g3, s3⟩ := g2.drop yz
  simp
  exact ⟨_, AV.le_refl _, τ0, s3, rfl, g3⟩
end Go.Proofs.YtlmdbcgceijlnaaGreatDoor
/-
  A row's line; the first lines; two lists of texts.
-/
namespace Go.Proofs.YtlmdbcgceijlnaaGreatDoor
open Go Go.AL Go.Sp
variable {σ Y Z τ : Store} {q p b x y : Nat} {s : Sp} {n : Int} {pv : AV}

set_option maxRecDepth 8000 in
theorem strEq_calls (l : List (List UInt8)) (hl : l.length ≤ 1000000) (σ : Store) : ACalls Tryz.prog 17 [.list false 1 (strsA l), .list false 1 (strsA l)] σ fun v σ' => v = .lit (.bool true) ∧ σ' = σ := by
  refine ACalls.of_awp follows (st := st17) (plans := pl17) (n := 26) Tryz.func17 rfl (by kernel_rfl) (by kernel_rfl) (by kernel_rfl) ?_
  have hrl : (strsA l).length = l.length := by simp [strsA]
  have hat : ∀ k (h : k < (strsA l).length), (strsA l)[k]'h = .lit (.string (toB (l.getD k []))) := fun k h => by
    simp [strsA, List.getD_eq_getElem?_getD, show k < l.length by omega]
  generalize strsA l = R at *
  simp [hrl]
  refine codeK.loop follows (st := st17) (plans := pl17) (X := Nat) (fun k => k ≤ l.length)
    (fun k => [(0, .list false 1 R), (1, .list false 1 R), (11, .list false 1 R), (12, .lit (.int .i64 l.length)), (13, .lit (.int .i64 k))]) (fun _ => σ) (fun k => l.length - k) 0 (by kernel_rfl) (by simp) (by simp) (Store.sub_refl _) fun k hk => ?_
  by_cases hlt : k < l.length
  · have hw : IntKind.i64.wrap ((k : Int) + 1) = ((k + 1 : Nat) : Int) := wrap_i64 (by omega) (by omega)
    have hR : R[k]? = some (R[k]'(by omega)) := List.getElem?_eq_getElem _
    rw [hat] at hR
    have hg : ∀ h : k < R.length, R[k]'h = _ := fun h => hat k h
    generalize l.getD k [] = r at *
    simp [hlt, hrl, hR, hg, hw]
    exact ⟨k + 1, by omega, by omega, AV.le_refl _⟩
  · obtain rfl : k = l.length := by omega
    simp
end Go.Proofs.YtlmdbcgceijlnaaGreatDoor
/-
  All lines as one text.
-/
namespace Go.Proofs.YtlmdbcgceijlnaaGreatDoor
open Go Go.AL Go.Sp
variable {σ Y Z τ : Store} {q p b x y z : Nat} {s : Sp} {n : Int} {pv : AV} {l : List UInt8} {X : Bst}

theorem put_put (σ : Store) {a c : Nat} (h : ¬ a = c) (A C : List AV) : (σ.put a A).put c C = (σ.put c C).put a A := by
  funext o
  unfold Store.put
  by_cases h1 : o = mkey c
  · subst h1
    have : ¬ mkey c = mkey a := by simp; exact fun e => h e.symm
    simp [this]
  · simp [h1]
theorem bldS_upd (z : Nat) (X : Bst) (σ : Store) (a : Nat) (A : List AV) : bldS z X (σ.upd a A) = (bldS z X σ).upd a A := by
  cases X <;> simp [bldS]
theorem bldS_key {g : Nat} (h : (bldS z X Y) (mkey g) = none) : ¬ g = z ∧ (∀ r m cap cur, X = .row r m cap cur → ¬ g = r) ∧ Y (mkey g) = none := by
  cases X with
  | nil p =>
    simp only [bldS, put_mkey] at h
    split at h
    · cases h
    · rename_i h1; exact ⟨h1, fun _ _ _ _ e => (by cases e), h⟩
  | row r m cap cur =>
    simp only [bldS, put_mkey] at h
    split at h
    · cases h
    · rename_i h1
      split at h
      · cases h
      · rename_i h2
        exact ⟨h1, fun _ _ _ _ e => by cases e; exact h2, h⟩
theorem bldS_put {g : Nat} (h1 : ¬ g = z) (h2 : ∀ r m cap cur, X = .row r m cap cur → ¬ g = r) (C : List AV) : (bldS z X Y).put g C = bldS z X (Y.put g C) := by
  cases X with
  | nil p => simp only [bldS]; rw [put_put _ (fun e => h1 e.symm)]
  | row r m cap cur => simp only [bldS]; rw [put_put _ (fun e => h1 e.symm), put_put _ (fun e => h2 _ _ _ _ rfl e.symm)]
theorem pgS_bld {b : Nat} {xx : Option Nat} (h : ∀ g, xx = some g → (bldS z X Y) (mkey g) = none) : pgS b n xx (bldS z X Y) = bldS z X (pgS b n xx Y) := by
  cases xx with
  | none => simp only [pgS, bldS_upd]
  | some g =>
    obtain ⟨h1, h2, _⟩ := bldS_key (h g rfl)
    simp only [pgS]
    rw [← bldS_upd, bldS_put h1 h2]
theorem PS.bld (h : PS Y q p n pv τ) (hO : BldOk z l τ X) : PS (bldS z X Y) q p n pv (bldS z X τ) := by
  cases h with
  | nil h => exact .nil h
  | page b xx h1 h2 h3 h4 h5 =>
    have h6 : ∀ g, xx = some g → (bldS z X Y) (mkey g) = none := fun g e => by
      subst e
      have h7 := h5 g rfl
      have k : (pgS b n (some g) Y) (mkey g) = some (mapA (codesN n 256)) := by simp [pgS]
      cases X with
      | nil p =>
        have hz := hO.2.2
        have n1 : ¬ g = z := fun e => by subst e; rw [k] at hz; cases hz
        simp only [bldS, put_mkey, if_neg n1, h7]
      | row r m cap cur =>
        obtain ⟨_, _, _, _, _, _, hz, hr, _⟩ := hO
        have n1 : ¬ g = z := fun e => by subst e; rw [k] at hz; cases hz
        have n2 : ¬ g = r := fun e => by subst e; rw [k] at hr; cases hr
        simp only [bldS, put_mkey, if_neg n1, if_neg n2, h7]
    rw [← pgS_bld h6]
    exact .page b xx h1 h2 h3 (by rw [bldS_nat]; exact h4) h6
theorem PS.unbld (h : PS (bldS z X Y) q p n pv τ) (hO : BldOk z l Y X) : ∃ τ0, τ = bldS z X τ0 ∧ PS Y q p n pv τ0 ∧ BldOk z l τ0 X := by
  cases h with
  | nil h => exact ⟨_, rfl, .nil h, hO⟩
  | page b xx h1 h2 h3 h4 h5 =>
    rw [bldS_nat] at h4
    refine ⟨_, pgS_bld h5, .page b xx h1 h2 h3 h4 (fun g e => (bldS_key (h5 g e)).2.2), ?_⟩
    have key : ∀ k : Nat, (∀ g, xx = some g → ¬ k = g) → Y (mkey k) = none → (pgS b n xx Y) (mkey k) = none := fun k hk hy => by
      cases xx with
      | none => simpa [pgS] using hy
      | some g => simp [pgS, hk g rfl, hy]
    cases X with
    | nil p => exact ⟨hO.1, hO.2.1, key _ (fun g e e' => (bldS_key (h5 g e)).1 e'.symm) hO.2.2⟩
    | row r m cap cur =>
      obtain ⟨a1, a2, a3, a4, a5, a6, a7, a8, a9⟩ := hO
      exact ⟨a1, a2, a3, a4, a5, a6, key _ (fun g e e' => (bldS_key (h5 g e)).1 e'.symm) a7, key _ (fun g e e' => (bldS_key (h5 g e)).2.1 _ _ _ _ rfl e'.symm) a8, a9⟩
theorem BldOk.less (h : BldOk z l τ X) (hs : Store.sub Y τ) : BldOk z l Y X := by
  have k : ∀ o : Int, τ o = none → Y o = none := fun o e => by
    rcases hs o with h | h
    · exact h
    · rw [h]; exact e
  cases X with
  | nil p => exact ⟨h.1, h.2.1, k _ h.2.2⟩
  | row r m cap cur =>
    obtain ⟨a1, a2, a3, a4, a5, a6, a7, a8, a9⟩ := h
    exact ⟨a1, a2, a3, a4, a5, a6, k _ a7, k _ a8, a9⟩
theorem Scr.bld {f : Sp → Nat → List AV} (h : Scr f Y q p s) (z : Nat) (X : Bst) : Scr f (bldS z X Y) q p s := ⟨by rw [bldS_nat]; exact h.obj, by rw [bldS_nat]; exact h.row, h.ne, h.good⟩
end Go.Proofs.YtlmdbcgceijlnaaGreatDoor
