/-
  The lines told one by one; the rows that aren't the same.
-/
import Derived.Test.YtlmdbcgceijlnaaGreatDoorDPart20
import Derived.Test.YtlmdbcgceijlnaaGreatDoorRows
set_option linter.unusedSimpArgs false
set_option linter.unusedVariables false
namespace Go.Proofs.YtlmdbcgceijlnaaGreatDoor
open Go Go.AL Go.Sp
variable {σ Y Z τ : Store} {q p q2 p2 b x y : Nat} {s t : Sp} {n : Int} {pv : AV}

theorem forget_calls {P : Program} {f : FuncId} {args : List AV} {σ τ : Store} {R : AV → Store → Prop} (h : ACalls P f args τ R) (hs : Store.sub τ σ) : ACalls P f args σ R :=
  fun D G w cargs h1 h2 h3 h4 => h D G w cargs h1 h2 (h3.forget hs) h4
theorem PS.ne (h : PS Y q p n pv τ) {z : Nat} {C : List AV} (hz : Y z = some C) : ∀ b : Nat, pv = pgP b → ¬ z = b := by
  intro b e
  cases h with
  | nil h => cases e
  | page b' x h1 h2 h3 h4 h5 =>
    cases e
    rintro rfl
    rw [h4] at hz; cases hz
theorem sub_upd2 {σ τ : Store} (h : Store.sub σ τ) (b : Nat) (C : List AV) : Store.sub (σ.upd b C) (τ.upd b C) := fun o => by
  unfold Store.upd
  split
  · exact .inr rfl
  · exact h o
/-- The lines' iterator: the page's signs may be built on the way. -/
structure PreN (q p c1 c2 : Nat) (s : Sp) (n : Int) (pv : AV) (_k : Nat) (Y τ : Store) : Prop where
  prg : Prg Y q p s
  c1 : Y c1 = some [ptrA q]
  c2 : Y c2 = some [pv]
  ps : ∃ τ0, PS Y q p n pv τ0 ∧ Store.sub τ0 τ
def StepN (q p : Nat) (n : Int) (pv : AV) (_k : Nat) (Y _τ τ' : Store) : Prop := ∃ τ0, PS Y q p n pv τ0 ∧ Store.sub τ0 τ'
def argN (n : Int) (s : Sp) (k : Nat) : List AV := [.lit (.int .i64 k), .lit (.string (toB (lineAt n s k)))]
set_option maxHeartbeats 1000000 in
set_option maxRecDepth 8000 in
theorem lines_iter (a : Option Addr) (c1 c2 : Nat) (s : Sp) (n : Int) (σ : Store) :
    IterL Tryz.prog (Γ := Store) 106 [ptrA c1, ptrA c2] σ s.rows (PreN q p c1 c2 s n (.lit (.pointer a))) (StepN q p n (.lit (.pointer a))) (argN n s) := by
  refine ⟨fun k g τ1 τ _ h hs => ⟨⟨h.prg, h.c1, h.c2, ?_⟩, fun τ' h' => ⟨τ', Store.sub_refl _, h'⟩⟩, ?_⟩
  · obtain ⟨τ0, h1, h2⟩ := h.ps
    exact ⟨τ0, h1, Store.sub_trans h2 hs⟩
  · intro X l M I J hpre hstep hyield Y0 τ E hM hsub
    obtain ⟨hP, q1, q2, τ0, hPS, hs0⟩ := hpre 0 Y0 τ E (Nat.zero_le _) hM
    have hs1 := Store.sub_trans hs0 hsub
    have e1 := sub_at q1 (Store.sub_trans hPS.sub hs1)
    have e2 := sub_at q2 (Store.sub_trans hPS.sub hs1)
    have hdim : Dim s.rows s.cols := dim_of s.model s.alt
    have hr2 := hdim.r2
    have hll := linesL_length n s
    have hsl : (strsA (linesL n s)).length = s.rows := by simp [strsA, hll]
    have hat : ∀ k, k < s.rows → (strsA (linesL n s))[k]? = some (.lit (.string (toB (lineAt n s k)))) := fun k hk => by
      rw [strsA_at _ _ (by omega)]
      simp [linesL, hk]
    refine ACallsY.of_awp follows (st := st106) (plans := pl106) (n := 21) Tryz.func106 rfl (by kernel_rfl) (by kernel_rfl) (by kernel_rfl) ?_
    simp [e1, e2]
    refine callK.of (forget_calls (lines_calls hP hPS) hs1) ?_
    rintro v τ1 ⟨rfl, hPS1⟩
    generalize strsA (linesL n s) = SL at *
    simp [hsl]
    refine codeYK.loop follows (st := st106) (plans := pl106) (S := Nat × Store × Store) (fun x => x.1 ≤ s.rows)
      (fun x => [(0, .func (.yield l) [] []), (8, .list false 1 SL), (9, .lit (.int .i64 s.rows)), (10, .lit (.int .i64 x.1))]) (fun x => x.2.2)
      (fun x E => I x.1 x.2.1 x.2.2 E) (fun x => s.rows - x.1) (0, Y0, τ1) (by kernel_rfl) (by simp) (by simp) (Store.sub_refl _) (hstep 0 Y0 τ τ1 E (Nat.zero_le _) hM ⟨τ1, hPS1, Store.sub_refl _⟩) ?_
    rintro ⟨k, Yk, τk⟩ Ek hk hI
    dsimp only at hk hI ⊢
    by_cases hlt : k < s.rows
    · have hy := hyield k Yk hlt τk Ek hI
      unfold argN at hy
      have hatk := hat k hlt
      have hg : ∀ h : k < SL.length, SL[k]'h = .lit (.string (toB (lineAt n s k))) := fun h => by rw [List.getElem?_eq_getElem h] at hatk; exact Option.some.inj hatk
      have hw : IntKind.i64.wrap ((k : Int) + 1) = ((k + 1 : Nat) : Int) := wrap_i64 (by omega) (by omega)
      generalize lineAt n s k = LA at *
      simp [hlt, hsl, hatk, hg]
      refine yieldK.of (by simp) hy (Store.sub_refl _) ?_
      intro bb τ' E' hR hap
      cases bb
      · simp
        exact ⟨⟨_, AV.le_refl _⟩, _, Store.sub_over _ _ _, τ', Store.sub_refl _, .inr (by simpa using hR)⟩
      · obtain ⟨g', hR⟩ := (by simpa using hR : ∃ g', M (k + 1) g' τ' E')
        obtain ⟨hP', r1, r2, τ0', hPS', hs0'⟩ := hpre (k + 1) g' τ' E' (by omega) hR
        simp [hw]
        exact ⟨k + 1, by omega, by omega, AV.le_refl _, g', τ', Store.sub_over _ _ _, hstep (k + 1) g' τ' τ' E' (by omega) hR ⟨τ0', hPS', hs0'⟩⟩
    · obtain rfl : k = s.rows := by omega
      simp
      exact ⟨⟨_, AV.le_refl _⟩, _, Store.sub_refl _, τk, Store.sub_refl _, .inl ⟨Yk, hI⟩⟩
set_option maxRecDepth 8000 in
theorem mkLines_calls (a : Option Addr) (q : Nat) (σ : Store) : ACalls Tryz.prog 60 [ptrA q, .lit (.pointer a)] σ fun v σ' => ∃ c1 c2 : Nat, σ c1 = none ∧ σ c2 = none ∧ ¬ c1 = c2 ∧ v = .func (.func 106) [] [ptrA c1, ptrA c2] ∧ σ' = (σ.upd c1 [ptrA q]).upd c2 [.lit (.pointer a)] := by
  refine ACalls.of_awp follows (st := st60) (plans := pl60) (n := 6) Tryz.func60 rfl (by kernel_rfl) (by kernel_rfl) (by kernel_rfl) ?_
  simp
  intro c1 h1
  simp +contextual [ite_free]
  intro c2 n1 n2 h2
  exact ⟨_, AV.le_refl _, _, Store.sub_refl _, c1, h1, c2, h2, n2, rfl, rfl⟩

/-! ### Rows -/
def rwA (r : Nat × List UInt8) : AV := .agg [.lit (.int .i64 r.1), .lit (.string (toB r.2))]
def rwsA (l : List (Nat × List UInt8)) : List AV := l.map rwA
/-- Is a row told? -/
def tells (n : Int) (s t : Sp) (i : Nat) : Bool := decide (¬ (s.rows = t.rows ∧ s.cols = t.cols) ∨ ¬ lineAt n s i = lineAt n t i)
def diffTo (n : Int) (s t : Sp) (k : Nat) : List (Nat × List UInt8) := ((List.range k).filter (tells n s t)).map fun i => (i, lineAt n t i)
theorem diffTo_succ (n : Int) (s t : Sp) (k : Nat) : diffTo n s t (k + 1) = diffTo n s t k ++ if tells n s t k = true then [(k, lineAt n t k)] else [] := by
  unfold diffTo
  rw [List.range_succ, List.filter_append, List.map_append]
  congr 1
  by_cases h : tells n s t k = true <;> simp [h]
theorem diffTo_self (n : Int) (s : Sp) (k : Nat) : diffTo n s s k = [] := by
  unfold diffTo
  have h : ∀ i, tells n s s i = false := fun i => by simp [tells]
  simp [h]
theorem diffTo_len (n : Int) (s t : Sp) (k : Nat) : (diffTo n s t k).length ≤ k := by
  unfold diffTo
  rw [List.length_map]
  exact Nat.le_trans (List.length_filter_le _ _) (by simp)
set_option maxRecDepth 8000 in
theorem rowsEq_calls (l : List (Nat × List UInt8)) (hl : l.length ≤ 1000000) (σ : Store) : ACalls Tryz.prog 15 [.list false 2 (rwsA l), .list false 2 (rwsA l)] σ fun v σ' => v = .lit (.bool true) ∧ σ' = σ := by
  refine ACalls.of_awp follows (st := st15) (plans := pl15) (n := 26) Tryz.func15 rfl (by kernel_rfl) (by kernel_rfl) (by kernel_rfl) ?_
  have hrl : (rwsA l).length = l.length := by simp [rwsA]
  have hat : ∀ k (h : k < (rwsA l).length), (rwsA l)[k]'h = .agg [.lit (.int .i64 (l.getD k (0, [])).1), .lit (.string (toB (l.getD k (0, [])).2))] := fun k h => by
    simp [rwsA, rwA, List.getD_eq_getElem?_getD, show k < l.length by omega]
  generalize rwsA l = R at *
  simp [hrl]
  refine codeK.loop follows (st := st15) (plans := pl15) (X := Nat) (fun k => k ≤ l.length)
    (fun k => [(0, .list false 2 R), (1, .list false 2 R), (12, .lit (.int .i64 l.length)), (13, .lit (.int .i64 k))]) (fun _ => σ) (fun k => l.length - k) 0 (by kernel_rfl) (by simp) (by simp) (Store.sub_refl _) fun k hk => ?_
  by_cases hlt : k < l.length
  · have hw : IntKind.i64.wrap ((k : Int) + 1) = ((k + 1 : Nat) : Int) := wrap_i64 (by omega) (by omega)
    have hR : R[k]? = some (R[k]'(by omega)) := List.getElem?_eq_getElem _
    rw [hat] at hR
    have hg : ∀ h : k < R.length, R[k]'h = _ := fun h => hat k h
    generalize l.getD k (0, []) = r at *
    obtain ⟨r1, r2⟩ := r
    simp [hlt, hrl, hR, hg, hw]
    exact ⟨k + 1, by omega, by omega, AV.le_refl _⟩
  · obtain rfl : k = l.length := by omega
    simp
theorem Scr.more {f : Sp → Nat → List AV} (h : Scr f Y q p s) (hs : Store.sub Y τ) : Scr f τ q p s := ⟨sub_at h.obj hs, sub_at h.row hs, h.ne, h.good⟩
set_option maxHeartbeats 2000000 in
set_option maxRecDepth 8000 in
theorem diff_calls (hA : Prg Y q p s) (hB : Prg Y q2 p2 t) (h : PS Y q p n pv τ) : ACalls Tryz.prog 16 [ptrA q, ptrA q2, pv] τ fun v σ' => v = .list false 2 (rwsA (diffTo n s t t.rows)) ∧ PS Y q p n pv σ' := by
  obtain ⟨a, ha⟩ := h.ptr
  rw [ha] at h ⊢
  clear ha
  have hdt : Dim t.rows t.cols := dim_of t.model t.alt
  have hds : Dim s.rows s.cols := dim_of s.model s.alt
  have hr2 := hdt.r2
  refine ACalls.of_awpY follows (st := st16) (plans := pl16) (n := 39) Tryz.func16 rfl (by kernel_rfl) (by kernel_rfl) (by kernel_rfl) ?_
  simp
  intro b3 h3
  obtain ⟨y3, g3⟩ := h.new h3 [ptrA q]
  simp +contextual [ite_free]
  intro b4 n4 m4 h4
  obtain ⟨y4, g4⟩ := g3.new (z := b4) (by simp [n4, m4, h4]) [ptrA q2]
  have hA1 := hA.new y3 [ptrA q]
  have hA2 := hA1.new y4 [ptrA q2]
  have hB1 := hB.new y3 [ptrA q]
  have hB2 := hB1.new y4 [ptrA q2]
  have yb3 : ((Y.upd b3 [ptrA q]).upd b4 [ptrA q2]) b3 = some [ptrA q] := by simp [n4, m4]
  have yb4 : ((Y.upd b3 [ptrA q]).upd b4 [ptrA q2]) b4 = some [ptrA q2] := by simp
  refine callK.of (lines_calls hA2 g4) ?_
  rintro v τ1 ⟨rfl, g5⟩
  clear g3 g4
  generalize hY2 : (Y.upd b3 [ptrA q]).upd b4 [ptrA q2] = Y2 at *
  have e3 := sub_at yb3 g5.sub
  have e4 := sub_at yb4 g5.sub
  simp
  intro b7 h7
  obtain ⟨y7, g7⟩ := g5.new h7 [.list false 1 (strsA (linesL n s))]
  have n73 : ¬ b7 = b3 := fun e => by subst e; rw [e3] at h7; cases h7
  have n74 : ¬ b7 = b4 := fun e => by subst e; rw [e4] at h7; cases h7
  simp +contextual [ite_free]
  intro b8 n8 m8 h8
  obtain ⟨y8, g8⟩ := g7.new (z := b8) (by simp [n8, m8, h8]) [.list true 2 []]
  have n83 : ¬ b8 = b3 := fun e => by subst e; rw [e3] at h8; cases h8
  have n84 : ¬ b8 = b4 := fun e => by subst e; rw [e4] at h8; cases h8
  have sw : ∀ {i j : Nat}, ¬ i = j → ¬ j = i := fun h e => h e.symm
  simp [e4, sw n84, sw n74]
  refine callK.of (mkLines_calls a q2 _) ?_
  rintro v τ2 ⟨c1, c2, f1, f2, n12, rfl, rfl⟩
  simp only [supd_apply, Int.natCast_inj, ite_none] at f1 f2
  obtain ⟨k18, k17, k1⟩ := f1
  obtain ⟨k28, k27, k2⟩ := f2
  have yd7 : Y2 b7 = none := y7
  have yd8 : Y2 b8 = none := by simpa [n8, m8] using y8
  have yc1 : Y2 c1 = none := by
    rcases g5.sub c1 with h | h
    · exact h
    · rw [h]; exact k1
  have yc2 : Y2 c2 = none := by
    rcases g5.sub c2 with h | h
    · exact h
    · rw [h]; exact k2
  let Yf : Nat → Store := fun k => (((Y2.upd b7 [.list false 1 (strsA (linesL n s))]).upd b8 [.list true 2 (rwsA (diffTo n s t k))]).upd c1 [ptrA q2]).upd c2 [.lit (.pointer a)]
  have hYf : ∀ k, Yf k = (((Y2.upd b7 [.list false 1 (strsA (linesL n s))]).upd b8 [.list true 2 (rwsA (diffTo n s t k))]).upd c1 [ptrA q2]).upd c2 [.lit (.pointer a)] := fun _ => rfl
  have g9 := (g8.new (z := c1) (by simp [k18, k17, k1]) [ptrA q2]).2
  have g10 := (g9.new (z := c2) (by simp [k28, k27, k2, sw n12]) [.lit (.pointer a)]).2
  have hg0 : diffTo n s t 0 = [] := rfl
  have hBf : ∀ k, Prg (Yf k) q2 p2 t := fun k => (((hB2.new yd7 _).new (by simp [n8, m8, yd8]) _).new (by simp [k18, k17, yc1]) _).new (by simp [k28, k27, yc2, sw n12]) _
  have hAf : ∀ k, Prg (Yf k) q p s := fun k => (((hA2.new yd7 _).new (by simp [n8, m8, yd8]) _).new (by simp [k18, k17, yc1]) _).new (by simp [k28, k27, yc2, sw n12]) _
  clear_value Yf
  simp
  refine codeYK.rangeL follows (st := st16) (plans := pl16) (lines_iter (q := q2) (p := p2) a c1 c2 t n _) (by simp) (by simp) (fun k h => rfl) (by kernel_rfl) (by kernel_rfl) (by kernel_rfl)
    (fun k g ρ E => g = Yf k ∧ ∃ τ0, PS g q2 p2 n (.lit (.pointer a)) τ0 ∧ Store.sub τ0 ρ) (fun k g ρ E => g = Yf k ∧ ∃ τ0, PS g q2 p2 n (.lit (.pointer a)) τ0 ∧ Store.sub τ0 ρ) (fun c ρ E => False)
    (Yf 0) _ ⟨rfl, _, (hYf 0 ▸ g10 : PS (Yf 0) q p n _ _).change (hBf 0), Store.sub_refl _⟩ (Store.sub_refl _) ?_ ?_ ?_ ?_ ?_
  · rintro k g ρ E hk ⟨rfl, τ0, h1, h2⟩
    exact ⟨hBf k, by rw [hYf]; simp [n12, sw n12], by rw [hYf]; simp, τ0, h1, h2⟩
  · rintro k g ρ ρ' E hk ⟨rfl, _⟩ ⟨τ0, h1, h2⟩
    exact ⟨rfl, τ0, h1, h2⟩
  · rintro k g hk ρ E ⟨rfl, τ0, h1, h2⟩
    have hs := Store.sub_trans h1.sub h2
    have q13 : ¬ b3 = c1 := fun e => by subst e; rw [yb3] at yc1; cases yc1
    have q23 : ¬ b3 = c2 := fun e => by subst e; rw [yb3] at yc2; cases yc2
    have q14 : ¬ b4 = c1 := fun e => by subst e; rw [yb4] at yc1; cases yc1
    have q24 : ¬ b4 = c2 := fun e => by subst e; rw [yb4] at yc2; cases yc2
    have x3 : ρ b3 = some [ptrA q] := sub_at (by rw [hYf]; simp [q13, q23, sw n83, sw n73, yb3]) hs
    have x4 : ρ b4 = some [ptrA q2] := sub_at (by rw [hYf]; simp [q14, q24, sw n84, sw n74, yb4]) hs
    have x7 : ρ b7 = some [.list false 1 (strsA (linesL n s))] := sub_at (by rw [hYf]; simp [sw k17, sw k27, sw m8, sw n8, n8, m8]) hs
    have y8' : Yf k b8 = some [.list true 2 (rwsA (diffTo n s t k))] := by rw [hYf]; simp [sw k18, sw k28]
    have x8 : ρ b8 = some [.list true 2 (rwsA (diffTo n s t k))] := sub_at y8' hs
    have hPa : Prg ρ q p s := (hAf k).more hs
    have hPb : Prg ρ q2 p2 t := (hBf k).more hs
    have hnext : ∀ C, C = rwsA (diffTo n s t (k + 1)) → PS (Yf (k + 1)) q2 p2 n (.lit (.pointer a)) (τ0.upd b8 [.list true 2 C]) := fun C e => by
      have h3 := h1.upd (z := b8) (C := [.list true 2 C]) (h1.ne y8')
      have e2 : (Yf k).upd b8 [.list true 2 C] = Yf (k + 1) := by
        rw [hYf, hYf, e, supd_swap _ k28, supd_swap _ k18, supd_supd]
      rw [e2] at h3
      exact h3
    have hsame : diffTo n s t (k + 1) = diffTo n s t k ++ (if false = true then [(k, lineAt n t k)] else []) → Yf k = Yf (k + 1) := fun e => by rw [hYf, hYf, e]; simp
    have hdl := diffTo_len n s t k
    have hds := diffTo_succ n s t k
    have hsl : (strsA (linesL n s)).length = s.rows := by simp [strsA, linesL_length]
    have hla : k < s.rows → (strsA (linesL n s))[k]? = some (.lit (.string (toB (lineAt n s k)))) := fun h => by
      rw [strsA_at _ _ (by rw [linesL_length]; exact h)]
      simp [linesL, h]
    have hrl : (rwsA (diffTo n s t k)).length = (diffTo n s t k).length := by simp [rwsA]
    generalize strsA (linesL n s) = SL at *
    have sa := fun (_ : Unit) => size_calls hPa
    have sb := fun (_ : Unit) => size_calls hPb
    have hw8 : ∀ C, Store.sub (τ0.upd b8 C) (ρ.upd b8 C) := fun C => sub_upd2 h2 b8 C
    clear g5 g7 g8 g9 g10 hA1 hA2 hB1 hB2
    simp only [argN]
    by_cases hd : s.rows = t.rows ∧ s.cols = t.cols
    · obtain ⟨d1, d2⟩ := hd
      have hks : k < s.rows := by omega
      have hlk := hla hks
      rw [d1, d2] at sa
      by_cases he : lineAt n s k = lineAt n t k
      · have ht : tells n s t k = false := by simp [tells, d1, d2, he]
        rw [ht] at hds
        rw [he] at hlk
        generalize lineAt n t k = LT at *
        have hg : ∀ h : k < SL.length, SL[k]'h = .lit (.string (toB LT)) := fun h => by rw [List.getElem?_eq_getElem h] at hlk; exact Option.some.inj hlk
        simp [x3, x4]
        repeat' apply And.intro
        all_goals
          refine callK.eq (sa ()) ?_
          simp [x4]
          refine callK.eq (sb ()) ?_
          simp [x7, hsl, hks, hlk, hg]
        all_goals exact ⟨ρ, Store.sub_refl _, τ0, hsame hds ▸ h1, h2⟩
      · have ht : tells n s t k = true := by simp [tells, he]
        rw [ht] at hds
        generalize lineAt n t k = LT at *
        generalize lineAt n s k = LS at *
        have hg : ∀ h : k < SL.length, SL[k]'h = .lit (.string (toB LS)) := fun h => by rw [List.getElem?_eq_getElem h] at hlk; exact Option.some.inj hlk
        have hne : ¬ (toB LT).toList = (toB LS).toList := fun e => he (by simpa [ByteArray.toList_eq, toB] using e.symm)
        have hne' : ¬ (toB LS).toList = (toB LT).toList := fun e => hne e.symm
        simp [x3, x4]
        repeat' apply And.intro
        all_goals
          refine callK.eq (sa ()) ?_
          simp [x4]
          refine callK.eq (sb ()) ?_
          simp [x7, x8, hsl, hks, hlk, hg, hne, hne', hrl]
        all_goals exact ⟨by omega, by omega, _, Store.sub_refl _, _, hnext _ (by rw [hds]; simp [rwsA, rwA]), hw8 _⟩
    · have ht : tells n s t k = true := by simp [tells, hd]
      rw [ht] at hds
      generalize lineAt n t k = LT at *
      have hd1 : ¬ ((s.rows : Int) = t.rows ∧ (s.cols : Int) = t.cols) := fun h => hd (by omega)
      have hd2 : (s.rows : Int) = t.rows → ¬ (s.cols : Int) = t.cols := fun h h' => hd1 ⟨h, h'⟩
      have hd3 : (¬ (s.rows : Int) = t.rows ∨ ¬ (s.cols : Int) = t.cols) := by omega
      simp [x3, x4]
      repeat' apply And.intro
      all_goals
        refine callK.eq (sa ()) ?_
        simp [x4]
        refine callK.eq (sb ()) ?_
        simp [x8, hd1, hd2, hd3, hrl]
      all_goals exact ⟨by omega, by omega, _, Store.sub_refl _, _, hnext _ (by rw [hds]; simp [rwsA, rwA]), hw8 _⟩
  · rintro g ρ E σ' hs' ⟨rfl, τ0, h1, h2⟩
    have hs := Store.sub_trans (Store.sub_trans h1.sub h2) hs'
    have y8' : Yf t.rows b8 = some [.list true 2 (rwsA (diffTo n s t t.rows))] := by rw [hYf]; simp [sw k18, sw k28]
    have x8 := sub_at y8' hs
    have h3 := h1.change (hAf t.rows)
    rw [hYf] at h3
    obtain ⟨τ3, h4, s4⟩ := h3.drop (by simp [k28, k27, yc2, sw n12])
    obtain ⟨τ5, h5, s5⟩ := h4.drop (by simp [k18, k17, yc1])
    obtain ⟨τ6, h6, s6⟩ := h5.drop (by simp [n8, m8, yd8])
    obtain ⟨τ7, h7', s7⟩ := h6.drop yd7
    subst hY2
    obtain ⟨τ8, h8', s8⟩ := h7'.drop y4
    obtain ⟨τ9, h9, s9⟩ := h8'.drop y3
    simp [x8]
    exact ⟨_, AV.le_refl _, τ9, Store.sub_trans s9 (Store.sub_trans s8 (Store.sub_trans s7 (Store.sub_trans s6 (Store.sub_trans s5 (Store.sub_trans s4 (Store.sub_trans h2 hs')))))), rfl, h9⟩
  · rintro c ρ E σ' _ h
    exact h.elim
end Go.Proofs.YtlmdbcgceijlnaaGreatDoor
/-
  SnapDiffs.
-/
namespace Go.Proofs.YtlmdbcgceijlnaaGreatDoor
open Go Go.AL Go.Sp
variable {σ Y Z τ : Store} {q p q2 p2 b x y : Nat} {s t : Sp} {n : Int} {pv : AV}

theorem Four.less {q p x y : Nat} (h : Four τ q p x y) (hs : Store.sub Y τ) : Four Y q p x y := by
  have k : ∀ {z : Nat}, τ z = none → Y z = none := fun {z} hz => by
    rcases hs z with h | h
    · exact h
    · rw [h]; exact hz
  obtain ⟨f1, f2, f3, f4, f5, f6, f7, f8, f9, f10⟩ := h
  exact ⟨k f1, k f2, k f3, k f4, f5, f6, f7, f8, f9, f10⟩
theorem both_sub {q p x y : Nat} (h4 : Four Y q p x y) (s t : Sp) : Store.sub Y (both Y q p x y s t) := by
  obtain ⟨f1, f2, f3, f4, f5, f6, f7, f8, f9, f10⟩ := h4
  simp only [both, putS]
  (intro q; simp only [Store.upd, Store.del]; (repeat' split) <;> first | exact Or.inr rfl | exact Or.inl rfl | (exfalso; omega) | (left; subst_vars; assumption) | simp_all)
theorem lineAt_upTo (n : Int) {s : Sp} (h : s.good) (k : Nat) : lineAt n (upTo s s.n) k = lineAt n s k := by
  unfold lineAt
  rw [signsL_upTo n h]
  rfl
theorem diffTo_upTo (n : Int) {s t : Sp} (hs : s.good) (ht : t.good) (k : Nat) : diffTo n (upTo s s.n) (upTo t t.n) k = diffTo n s t k := by
  unfold diffTo
  have e : tells n (upTo s s.n) (upTo t t.n) = tells n s t := by
    funext i
    unfold tells
    rw [lineAt_upTo n hs, lineAt_upTo n ht]
    rfl
  rw [e]
  congr 1
  funext i
  rw [lineAt_upTo n ht]
set_option maxHeartbeats 2000000 in
set_option maxRecDepth 8000 in
theorem snapDiffs_law (m u : UInt8) (l1 l2 : List Sp.Act) (hl : l1.length ≤ 9223372036854775807) (ht : ∀ a ∈ l1, a.text.length ≤ 9223372036854775807) (hl2 : l2.length ≤ 9223372036854775807) (ht2 : ∀ a ∈ l2, a.text.length ≤ 9223372036854775807) (σ : Store) :
    ACalls Tryz.prog 4 [byteA m, byteA u, .list false 11 (actsA l1), .list false 11 (actsA l2)] σ fun v _ => v = .lit (.bool true) := by
  have hm : 2 ≤ 2 + m.toNat % 4 ∧ 2 + m.toNat % 4 ≤ 5 := by omega
  have hg1 : (Sp.lays m l1).good := Sp.foldl_good _ (Sp.new_good hm)
  have hg2 : (Sp.lays m l2).good := Sp.foldl_good _ (Sp.new_good hm)
  have haw := fun τ => sawake_calls τ
  have hlay := fun τ => slayP_calls m u l1 hl ht τ
  have hlay2 := fun τ => slayQ_calls m u l2 hl2 ht2 τ
  generalize Sp.lays m l1 = S at *
  generalize Sp.lays m l2 = T at *
  refine ACalls.of_awp follows (st := st4) (plans := pl4) (n := 96) Tryz.func4 rfl (by kernel_rfl) (by kernel_rfl) (by kernel_rfl) ?_
  unfold byteA at *
  simp
  refine callK.eq (haw _) ?_
  simp
  refine callK.of (hlay _) ?_
  rintro v τ ⟨hL, -⟩
  unfold LayP at hL
  obtain ⟨q, p, x, y, n, pv, w, hv, hn, hPS, hP, hR, hs⟩ := hL
  subst hv
  obtain ⟨a, ha⟩ := hPS.ptr
  rw [ha] at hPS ⊢
  simp
  refine callK.of (hlay2 _) ?_
  rintro v τ2 ⟨q2, p2, x2, y2, a2, n2, rfl, h4, rfl⟩
  simp
  have h4' := h4.less hPS.sub
  have hsub := both_sub h4' (upTo T T.n) T
  have hP1 := hP.more hsub
  have hR1 := hR.more hsub
  have hP2 := both_prg (t := T) h4' (upTo_good hg2 (Nat.le_refl _))
  have hR2 := both_ref (s := upTo T T.n) h4' hg2
  have hPS1 := hPS.both h4 (s := upTo T T.n) (t := T)
  clear hP hR hPS h4 h4' hsub haw hlay hlay2
  generalize both w q2 p2 x2 y2 (upTo T T.n) T = W at *
  generalize both τ q2 p2 x2 y2 (upTo T T.n) T = τ1 at *
  have r1 := hPS1.ref hR1
  have r2 := hPS1.ref hR2
  refine callK.eq (rlines_calls r1 hn) ?_
  simp
  refine callK.eq (rlines_calls r2 hn) ?_
  simp
  have hd1 := diffTo_upTo n hg1 hg2
  have hdd : ∀ τ', PS W q p n (.lit (.pointer a)) τ' → ACalls Tryz.prog 16 [ptrA q, ptrA q2, .lit (.pointer a)] τ' fun v σ' => v = .list false 2 (rwsA (diffTo n S T T.rows)) ∧ PS W q p n (.lit (.pointer a)) σ' := fun τ' h => by
    have := diff_calls hP1 hP2 h
    rw [hd1] at this
    exact this
  have hds : ∀ τ', PS W q p n (.lit (.pointer a)) τ' → ACalls Tryz.prog 16 [ptrA q, ptrA q, .lit (.pointer a)] τ' fun v σ' => v = .list false 2 [] ∧ PS W q p n (.lit (.pointer a)) σ' := fun τ' h => by
    have := diff_calls hP1 hP1 h
    rw [diffTo_self] at this
    exact this
  have hdim : Dim T.rows T.cols := dim_of T.model T.alt
  have hr2 := hdim.r2
  have hdl := fun k => diffTo_len n S T k
  have hdss := fun k => diffTo_succ n S T k
  have hre := fun τ' => rowsEq_calls (diffTo n S T T.rows) (by have := hdl T.rows; omega) τ'
  have hs1 : (strsA (linesL n S)).length = S.rows := by simp [strsA, linesL_length]
  have hs2 : (strsA (linesL n T)).length = T.rows := by simp [strsA, linesL_length]
  have ho1 := r1.obj
  have ho2 := r2.obj
  unfold rfO at ho1 ho2
  have hla : ∀ (Q : Sp) k, k < Q.rows → (strsA (linesL n Q))[k]? = some (.lit (.string (toB (lineAt n Q k)))) := fun Q k h => by
    rw [strsA_at _ _ (by rw [linesL_length]; exact h)]
    simp [linesL, h]
  have hl1 := hla S
  have hl2 := hla T
  clear hla
  generalize strsA (linesL n S) = SL at *
  generalize strsA (linesL n T) = TL at *
  refine codeK.loop follows (st := st4) (plans := pl4) (X := Nat) (fun k => k ≤ T.rows)
    (fun k => [(9, ptrA q), (10, ptrA x), (11, .lit (.pointer a)), (13, ptrA q2), (14, ptrA x2), (17, .list false 1 SL), (18, .list false 1 TL), (19, .list true 2 (rwsA (diffTo n S T k))), (47, .list false 1 TL), (48, .lit (.int .i64 T.rows)), (49, .lit (.int .i64 k))]) (fun _ => τ1) (fun k => T.rows - k) 0 (by kernel_rfl) (by simp) (by simp [hs2, rwsA, diffTo]) (Store.sub_refl _) fun k hk => ?_
  by_cases hlt : k < T.rows
  · have hw : IntKind.i64.wrap ((k : Int) + 1) = ((k + 1 : Nat) : Int) := wrap_i64 (by omega) (by omega)
    have hdk := hdss k
    have hlk := hdl k
    have hT := hl2 k hlt
    have hgT : ∀ h : k < TL.length, TL[k]'h = .lit (.string (toB (lineAt n T k))) := fun h => by rw [List.getElem?_eq_getElem h] at hT; exact Option.some.inj hT
    have hrl : (rwsA (diffTo n S T k)).length = (diffTo n S T k).length := by simp [rwsA]
    by_cases hd : S.rows = T.rows ∧ S.cols = T.cols
    · obtain ⟨d1, d2⟩ := hd
      have hS := hl1 k (by omega)
      have hgS : ∀ h : k < SL.length, SL[k]'h = .lit (.string (toB (lineAt n S k))) := fun h => by rw [List.getElem?_eq_getElem h] at hS; exact Option.some.inj hS
      rw [d1, d2] at ho1
      rw [d1] at hs1
      by_cases he : lineAt n S k = lineAt n T k
      · have ht : tells n S T k = false := by simp [tells, d1, d2, he]
        rw [ht] at hdk
        rw [he] at hS hgS
        generalize lineAt n T k = LT at *
        simp [hlt, ho1, ho2, hs1, hs2, hS, hT, hgS, hgT, hw]
        exact ⟨k + 1, by omega, by omega, by rw [hdk]; simp only [Bool.false_eq_true, if_false, List.append_nil]; exact AV.le_refl _, AV.le_refl _⟩
      · have ht : tells n S T k = true := by simp [tells, he]
        rw [ht] at hdk
        generalize lineAt n T k = LT at *
        generalize lineAt n S k = LS at *
        have hne : ¬ (toB LT).toList = (toB LS).toList := fun e => he (by simpa [ByteArray.toList_eq, toB] using e.symm)
        have hne' : ¬ (toB LS).toList = (toB LT).toList := fun e => hne e.symm
        simp [hlt, ho1, ho2, hs1, hs2, hS, hT, hgS, hgT, hw, hne, hne', hrl]
        exact ⟨by omega, by omega, k + 1, by omega, by omega, by rw [hdk]; simp only [if_true, rwsA, List.map_append, List.map_cons, List.map_nil, rwA]; exact AV.le_refl _, AV.le_refl _⟩
    · have ht : tells n S T k = true := by simp [tells, hd]
      rw [ht] at hdk
      generalize lineAt n T k = LT at *
      have hd1 : ¬ ((S.rows : Int) = T.rows ∧ (S.cols : Int) = T.cols) := fun h => hd (by omega)
      have hd2 : (S.rows : Int) = T.rows → ¬ (S.cols : Int) = T.cols := fun h h' => hd1 ⟨h, h'⟩
      have hd3 : (¬ (S.rows : Int) = T.rows ∨ ¬ (S.cols : Int) = T.cols) := by omega
      simp [hlt, ho1, ho2, hs2, hT, hgT, hw, hrl, hd1, hd2, hd3]
      exact ⟨by omega, by omega, k + 1, by omega, by omega, by rw [hdk]; simp only [if_true, rwsA, List.map_append, List.map_cons, List.map_nil, rwA]; exact AV.le_refl _, AV.le_refl _⟩
  · obtain rfl : k = T.rows := by omega
    simp
    refine callK.of (hdd _ hPS1) ?_
    rintro v τ3 ⟨rfl, hPS3⟩
    simp
    refine callK.eq (hre _) ?_
    simp
    refine callK.of (hds _ hPS3) ?_
    rintro v τ4 ⟨rfl, hPS4⟩
    simp
    exact ⟨_, Store.sub_refl _⟩
end Go.Proofs.YtlmdbcgceijlnaaGreatDoor
/-
  SnapDiffs: for every input the law returns true, and the arguments read as they did.
-/
namespace Go.Proofs.YtlmdbcgceijlnaaGreatDoor
open Go Go.AL Go.ChangeShapes Go.WideShapes Go.ChangeAt Go.RowKit Go.Lib

theorem own_snapDiffs : ownKnob Tryz.prog.godebug = none := by kernel_rfl
theorem laid_snapDiffs : laidOutB Tryz.prog = true := by kernel_rfl
theorem rec22_snapDiffs : Tryz.prog.readableRec 22 = true := by kernel_rfl
theorem row22_snapDiffs : (22 : TypeId) < Tryz.prog.types.size := of_decide_eq_true (by kernel_rfl)
theorem rec5_snapDiffs : Tryz.prog.readableRec 5 = true := by kernel_rfl
theorem row5_snapDiffs : (5 : TypeId) < Tryz.prog.types.size := of_decide_eq_true (by kernel_rfl)

set_option maxRecDepth 100000 in
theorem snapDiffs_lifted (os : Os) (started : os.Started) (H : Type) (enc : TypeId × Value → H) :
    ReturnsInHanded {} Tryz.checked os 4 .any (fun w args => (Rows.snapDiffsSpec.pre enc Tryz.prog Tryz.f4 [] false w args ∧ laidMetH Tryz.prog laid2 w) ∧ sizedMet enc Tryz.prog Tryz.f4 (OpenSpec.ofChange Rows.snapDiffsSpec) false w args) (Rows.snapDiffsSpec.post enc Tryz.prog Tryz.f4 false true false false) := by
  refine returnsInHanded_of_change_and (C := Tryz.checked) (X := fun w _ => laidMetH Tryz.prog laid2 w) (fun _ _ _ hh h => h.of_heap hh) own_snapDiffs started (by kernel_rfl) Tryz.func4
    (ChangeSpec.witness_shaped (enc := enc) (C := Tryz.checked) (os := os) (X := fun w _ => laidMetH Tryz.prog laid2 w) false (World.laidAll Tryz.prog os laid2) #[.int .u8 0, .int .u8 0, .slice none 0 0, .slice none 0 0] 8 (World.laidAll_os _ _ _)
      (World.shaped_of_ZipB (by kernel_rfl) (by kernel_rfl)) (by kernel_rfl) (by kernel_rfl) (by kernel_rfl)
      (by rw [MakeChecks.laidMetH_plain _ _ _ (by kernel_rfl)]; exact laidMet_laidAll _ (by kernel_rfl) (by kernel_rfl))) ?_
  intro W base args ds gs before hval0 hW _ _ hL _
  have hval : ∀ (j : Nat) t v, Tryz.f4.params[j]? = some t → args[j]? = some v → Value.okWide Tryz.prog W .any base t v := hval0
  have hW' := hW
  obtain ⟨p, q, hA0, hV, rfl, hfz, hnd⟩ := hW
  have hA : DataW.TrodAll enc Tryz.prog W 0 (fun _ => true) true Tryz.f4.params.toList args.toList ds p := hA0
  rw [Tryz.params4] at hA hval
  obtain ⟨v0, v1, v2, v3, d0, d1, d2, d3, p0, p1, p2, p3, rfl, rfl, rfl, h0, h1, h2, h3⟩ := trodAll_four hA
  obtain ⟨rfl, rfl⟩ := trodVars_none hV
  obtain ⟨_, hv0⟩ := okWide_int Tryz.underlying5 (hval 0 5 v0 rfl rfl)
  obtain ⟨a0, m0, w0⟩ := (Opens.u8 Tryz.underlying5).arg _ (fun _ => rfl) (by rw [hv0]; rfl) h0
  obtain ⟨_, hv1⟩ := okWide_int Tryz.underlying5 (hval 1 5 v1 rfl rfl)
  obtain ⟨a1, m1, w1⟩ := (Opens.u8 Tryz.underlying5).arg _ (fun _ => rfl) (by rw [hv1]; rfl) h1
  obtain ⟨_, _, _, hv2⟩ := okWide_slice Tryz.underlying22 (hval 2 22 v2 rfl rfl)
  obtain ⟨a2, m2, w2⟩ := (open_acts).arg _ (fun _ => rfl) (by rw [hv2]; rfl) h2
  obtain ⟨_, _, _, hv3⟩ := okWide_slice Tryz.underlying22 (hval 3 22 v3 rfl rfl)
  obtain ⟨a3, m3, w3⟩ := (open_acts).arg _ (fun _ => rfl) (by rw [hv3]; rfl) h3
  clear hA0 hval0
  simp only [List.append_nil] at hW'
  have hlt : ∀ x ∈ p0 ++ p1 ++ p2 ++ p3, x.block < W.heap.size := fun x hx => hW'.lt x hx
  refine (law_calls (snapDiffs_law a0 a1 a2 a3 m2.1 m2.2 m3.1 m3.2 _) W #[v0, v1, v2, v3] rfl (fun i c u hc hu => ?_) (laid_none W)).mono fun e W' ⟨he, hb⟩ => ?_
  · match i with
    | 0 => simp at hc hu; subst hc hu; exact ⟨w0, rfl⟩
    | 1 => simp at hc hu; subst hc hu; exact ⟨w1, rfl⟩
    | 2 => simp at hc hu; subst hc hu; exact ⟨w2, rfl⟩
    | 3 => simp at hc hu; subst hc hu; exact ⟨w3, rfl⟩
    | n + 4 => simp at hc
  subst he
  refine ⟨_, rfl, [d0, d1, d2, d3], [], p0 ++ p1 ++ p2 ++ p3, [], p0 ++ (p1 ++ (p2 ++ p3)), [], hW', ?_, ?_, rfl, hb.frame _, fun h => (by cases h)⟩
  · exact trodAll_mk1 (shut_bool Tryz.underlying4 true)
  · refine trodAll_mk4 (Below.trod laid_snapDiffs rec5_snapDiffs row5_snapDiffs h0 hb fun x hx => hlt x (by simp [hx])) (Below.trod laid_snapDiffs rec5_snapDiffs row5_snapDiffs h1 hb fun x hx => hlt x (by simp [hx])) (Below.trod laid_snapDiffs rec22_snapDiffs row22_snapDiffs h2 hb fun x hx => hlt x (by simp [hx])) (Below.trod laid_snapDiffs rec22_snapDiffs row22_snapDiffs h3 hb fun x hx => hlt x (by simp [hx]))

theorem snapDiffs_holds : Rows.SnapDiffsSaid :=
  OpenClaim.holds_of_wide 4 Tryz.f4 rfl rfl rfl rfl rfl rfl rfl ⟨rfl, rfl, rfl, rfl, rfl⟩ rfl rfl rfl rfl rfl (by kernel_rfl) Tryz.func4 (by kernel_rfl)
    (of_decide_eq_true (by kernel_rfl)) (by unfold Func.isWrapper; first | (rw [if_pos (by decide +kernel)]; kernel_rfl) | (rw [if_neg (by decide +kernel)]; exact ⟨rfl, rfl⟩))
    (fun os started H enc _ => snapDiffs_lifted os started H enc)
end Go.Proofs.YtlmdbcgceijlnaaGreatDoor
