/-
  KeysSafe: the walk.
-/
import Derived.Test.YtlmdbcgceijlnaaGreatPart23
namespace Go.Proofs.YtlmdbcgceijlnaaGreat
open Go Go.AL Go.Sp
variable {σ : Store} {k q r b : Nat} {n : Int} {B : Bd}

theorem smodel_calls {q p : Nat} {s : Sp} {σ : Store} (h : Prg σ q p s) : ACalls Tryz.prog 27 [ptrA q] σ fun v σ' => v = .lit (.int .i64 s.model) ∧ σ' = σ := by
  have ho := h.obj
  unfold spO at ho
  refine ACalls.of_awp follows (st := st27) (plans := pl27) (n := 9) Tryz.func27 rfl (by kernel_rfl) (by kernel_rfl) (by kernel_rfl) ?_
  simp [ho]
/-- The document's screen, with the cells of another one up to one. -/
def cop (N : Sp) (l : List Cell) (i : Nat) : List Cell := l.take i ++ N.cells.drop i
theorem cop_zero (N : Sp) (l : List Cell) : cop N l 0 = N.cells := by simp [cop]
theorem cop_all {N : Sp} {l : List Cell} (h : l.length = N.cells.length) : cop N l l.length = l := by unfold cop; rw [List.take_length, List.drop_eq_nil_of_le (by omega), List.append_nil]
theorem cop_len {N : Sp} {l : List Cell} (h : l.length = N.cells.length) {i : Nat} (hi : i ≤ l.length) : (cop N l i).length = l.length := by unfold cop; simp; omega
theorem cop_succ {N : Sp} {l : List Cell} (h : l.length = N.cells.length) {i : Nat} (hi : i < l.length) : (cop N l i).set i l[i] = cop N l (i + 1) := by
  unfold cop
  rw [List.set_append_right (h := by simp; omega), List.take_succ_eq_append_getElem hi]
  have e : i - (l.take i).length = 0 := by simp; omega
  rw [e, List.drop_eq_getElem_cons (show i < N.cells.length by omega), List.set_cons_zero]
  simp only [List.append_assoc, List.cons_append, List.nil_append]
/-- Clear, where it is locked, changes nothing. -/
theorem press_clear {K : Key} (hk : K.kind = 22) (h : ¬ (pressB n B K).1.aid = 0x6d) : (pressB n B K).1 = B := by
  unfold pressB at h ⊢
  rw [if_neg (by omega), if_neg (by omega)] at h ⊢
  by_cases hl : B.lock = 0
  · exfalso
    apply h
    have ha : aidN K = some 109 := by unfold aidN; rw [if_neg (by omega), if_pos hk]
    rw [if_neg (by simp [hl]), if_neg (by omega), ha]
    rfl
  · rw [if_pos hl]
theorem press_safe2 (hg : B.s.good) (K : Key) (h : K.kind = 22 → ¬ (pressB n B K).1.aid = 0x6d) : Safe B.s (K.kind = 15) (pressB n B K).1.s := by
  by_cases hk : K.kind = 22
  · rw [press_clear hk (h hk)]; exact Safe.refl hg _
  · exact press_safe hg K hk
theorem and1_cases (b : UInt8) : b &&& 1 = 0 ∨ b &&& 1 = 1 := all_bytes (p := fun b => b &&& 1 = 0 ∨ b &&& 1 = 1) (by decide +kernel) b
theorem and1_of {b x : UInt8} (h : b &&& 1 = x) : pureBin .and (.int .u8 (b.toNat : Int)) (.int .u8 1) = some (.int .u8 (x.toNat : Int)) := by rw [← h]; exact and_u8 b 1
theorem or1_of {b x : UInt8} (h : b ||| 1 = x) : pureBin .or (.int .u8 (b.toNat : Int)) (.int .u8 1) = some (.int .u8 (x.toNat : Int)) := by rw [← h]; exact or_u8 b 1
theorem mk1_eq {c d : Cell} (h : mk1 d = mk1 c) : d.char = c.char ∧ d.attr = c.attr ∧ d.fa ||| 1 = c.fa ||| 1 ∧ d.high = c.high ∧ d.color = c.color ∧ d.set = c.set := by
  unfold mk1 at h
  simp only [Cell.mk.injEq] at h
  exact ⟨h.1, h.2.1, h.2.2.1, h.2.2.2.1, h.2.2.2.2.1, h.2.2.2.2.2⟩
set_option maxHeartbeats 4000000 in
set_option maxRecDepth 8000 in
theorem keysSafe_law (m u : UInt8) (l : List Sp.Act) (ks : List Key) (K : Key) (hl : l.length ≤ 9223372036854775807) (ht : ∀ a ∈ l, a.text.length ≤ 9223372036854775807) (hks : ks.length ≤ 9223372036854775807) (σ : Store) :
    ACalls Tryz.prog 6 [byteA m, byteA u, .list false 11 (actsA l), .list false 3 (keysA ks), keyA K] σ fun v _ => v = .lit (.bool true) := by
  have haw := fun τ => awake_calls τ
  have hlay := fun τ => lay_calls m u l hl ht τ
  refine ACalls.of_awp follows (st := st6) (plans := pl6) (n := 180) Tryz.func6 rfl (by kernel_rfl) (by kernel_rfl) (by kernel_rfl) ?_
  generalize pageN u = pn at *
  generalize Sp.lays m l = S0 at *
  simp [keyA, keyC]
  intro z hz
  refine callK.of (haw _) ?_
  rintro v τ ⟨rfl, rfl⟩
  simp
  refine callK.of (hlay _) ?_
  rintro v τ ⟨k, q, p, b, c, base, rfl, hsub, n1, n2, n3, hK, rfl⟩
  have hbz : base z = some (keyC K) := by
    rcases hsub z with e | e
    · simp at e
    · rw [← e]; simp [keyC]
  have z1 : ¬ z = k := fun e => by subst e; rw [n1] at hbz; cases hbz
  have z2 : ¬ z = q := fun e => by subst e; rw [n2] at hbz; cases hbz
  have z3 : ¬ z = b := fun e => by subst e; rw [n3] at hbz; cases hbz
  generalize newB S0 = B0 at *
  simp
  refine codeK.cut (fun e A σ' => e = .exit 0 ∧ ∃ (r : Nat) (x : Option Nat) (B : Bd), KOk base k q r b pn B ∧ LeL A [(9, ptrA z), (11, ptrA k), (12, ptrA q)] ∧ Store.sub (kS base k q r b pn x B) σ') ?_ ?_
  · refine codeK.loop follows (st := st6) (plans := pl6) (X := Nat × Nat × Option Nat × Bd) (fun y => y.1 ≤ ks.length ∧ KOk base k q y.2.1 b pn y.2.2.2)
      (fun y => [(9, ptrA z), (11, ptrA k), (12, ptrA q), (36, .list false 3 (keysA ks)), (37, .lit (.int .i64 ks.length)), (38, .lit (.int .i64 y.1))])
      (fun y => kS base k q y.2.1 b pn y.2.2.1 y.2.2.2) (fun y => ks.length - y.1) (0, p, none, B0) (by kernel_rfl) ⟨by simp, hK⟩ (by simp [keysA_len]) (Store.sub_refl _) fun y hy => ?_
    clear hK
    obtain ⟨i, r, x, B⟩ := y
    obtain ⟨hi, hK⟩ := hy
    dsimp only at hi hK ⊢
    by_cases hlt : i < ks.length
    · have ha := keysA_at ks i hlt
      have hw1 : IntKind.i64.wrap ((i : Int) + 1) = ((i + 1 : Nat) : Int) := wrap_i64 (by omega) (by omega)
      generalize ks[i] = K2 at ha
      by_cases h10 : i < 10
      · have h10' : (i : Int) < 10 := by omega
        simp +contextual [hlt, ha, keyA, keyC, h10']
        intro z' hz'
        have f := kS_free hK hz'
        have hK5 := f.ok hK (keyC K2)
        have hpr := press_calls hK5 x K2
        have hbk2 := f.backs (n := pn) (keyC K2)
        simp only [keyA, keyC] at hK5 hpr hbk2
        simp only [kS_new f]
        generalize base.upd z' [.lit (.int .i64 K2.kind), .lit (.int .i32 K2.sign), .lit (.int .i64 K2.num)] = base3 at *
        generalize pressB pn B K2 = P at *
        refine callK.of hpr ?_
        rintro v τ ⟨rfl, r2, x2, hK6, nx6, rfl⟩
        obtain ⟨hK7, hsb⟩ := hbk2 r2 x2 P.1 hK6
        simp
        exact ⟨i + 1, r2, x2, P.1, ⟨by omega, hK7⟩, by omega, by rw [hw1]; exact AV.le_refl _, hsb⟩
      · have h10' : ¬ (i : Int) < 10 := by omega
        simp +contextual [hlt, ha, keyA, keyC, h10']
        intro z' hz'
        exact ⟨i + 1, r, x, B, ⟨by omega, hK⟩, by omega, by rw [hw1]; exact AV.le_refl _, sub_upd_self _ _ _ hz'⟩
    · obtain rfl : i = ks.length := by omega
      simp [hlt]
      exact ⟨r, x, B, hK, Store.sub_refl _⟩
  clear hK
  rintro e A' σ2 ⟨rfl, r, x, B, hK, hA, hσp⟩
  refine View.leL hA (View.sub hσp (View.here ?_))
  clear hA hσp
  simp
  refine callK.of (kcopy_calls hK x) ?_
  rintro v τ ⟨q2, p2, rfl, f1, f2, hne, hK2, ho, rfl⟩
  have hbz2 : putS spO base q2 p2 B.s z = some (keyC K) := by
    have e1 : ¬ z = q2 := fun e => by subst e; rw [f1.free] at hbz; cases hbz
    have e2 : ¬ z = p2 := fun e => by subst e; rw [f2.free] at hbz; cases hbz
    simp [putS, e1, e2, hbz]
  generalize putS spO base q2 p2 B.s = base2 at *
  simp
  refine callK.of (cursor_calls (kS_prg hK2 x)) ?_
  rintro v τ ⟨rfl, rfl⟩
  have hz0 := kS_base hK2 x hbz2 z1 z2 z3
  have hpr := press_calls hK2 x K
  have hsf := press_safe2 (n := pn) hK2.good K
  simp only [keyA, keyC] at hpr hz0
  generalize pressB pn B K = P at *
  simp [hz0]
  refine callK.of hpr ?_
  rintro v τ ⟨rfl, r3, x3, hK3, nx3, rfl⟩
  have hz3 := kS_base hK3 x3 hbz2 z1 z2 z3
  have hQ := kS_prg hK3 x3
  have hW := ho.at hK3 x3
  have hai := baid_calls hK3 x3
  have hmo := smodel_calls hQ
  have hgB := hK2.good
  simp only [keyC, byteA] at hz3 hai
  clear hpr hz0 hbz hbz2 ho hK hK2 hK3 nx3
  generalize kS base2 k q r3 b pn x3 P.1 = ρ at *
  have hcase : (K.kind = 22 ∧ P.1.aid = 0x6d) ∨ (K.kind = 22 ∧ ¬ P.1.aid = 0x6d) ∨ ¬ K.kind = 22 := by
    by_cases h22 : K.kind = 22
    · by_cases ha : P.1.aid = 0x6d
      · exact .inl ⟨h22, ha⟩
      · exact .inr (.inl ⟨h22, ha⟩)
    · exact .inr (.inr h22)
  rcases hcase with ⟨h22, ha⟩ | ⟨h22, ha⟩ | h22
  · rw [ha] at hai
    simp [hz3, h22]
    refine callK.of hai ?_
    rintro v τ ⟨rfl, rfl⟩
    simp
    exact ⟨_, Store.sub_refl _⟩
  case' inr.inl =>
    have hS := hsf fun _ => ha
    have a1 : ¬ P.1.aid.toNat = 109 := fun e => ha (UInt8.toNat_inj.1 e)
    have a2 : ¬ (P.1.aid.toNat : Int) = 109 := by omega
    simp [hz3, h22]
    refine callK.of hai ?_
    rintro v τ ⟨rfl, eτ⟩
    rw [eτ]
    clear eτ τ
    simp [a1, a2]
  case' inr.inr =>
    have hS := hsf fun h => absurd h h22
    simp [hz3, h22]
  all_goals
    clear hsf hai
    generalize P.1.s = S at *
    refine callK.of hmo ?_
    rintro v τ ⟨rfl, eτ⟩
    rw [eτ]
    clear eτ τ hmo
    have hmod := hQ.good.model
    simp
    refine callK.of (rnew_calls hmod _) ?_
    rintro v τ ⟨x1, y1, rfl, hx1, hy1, hxy, eτ⟩
    rw [eτ]
    clear eτ τ
    have hQ1 : Prg (putS rfO ρ x1 y1 (Sp.new S.model)) q r3 S := (hQ.new hx1 _).upd ⟨(hQ.fresh hy1).1, (hQ.fresh hy1).2.1⟩ _
    have hW1 : Prg (putS rfO ρ x1 y1 (Sp.new S.model)) q2 p2 B.s := (hW.new hx1 _).upd ⟨(hW.fresh hy1).1, (hW.fresh hy1).2.1⟩ _
    have zx : ¬ z = x1 := fun e => by subst e; rw [hx1] at hz3; cases hz3
    have zy : ¬ z = y1 := fun e => by subst e; rw [hy1] at hz3; cases hz3
    have hNg : (Sp.new S.model).good := Sp.new_good hmod
    have hal := alt_calls hW1
    simp
    refine callK.of hal ?_
    rintro v τ ⟨rfl, eτ⟩
    rw [eτ]
    clear eτ τ hal
    have hSm : S.model = B.s.model ∧ S.alt = B.s.alt := hS.keep.same.2
    have hX1 : Ref (putS rfO ρ x1 y1 (Sp.new S.model)) x1 y1 (Sp.new S.model) := Scr.of_put hxy hNg
    have hz4 : putS rfO ρ x1 y1 (Sp.new S.model) z = some [.lit (.int .i64 K.kind), .lit (.int .i32 K.sign), .lit (.int .i64 K.num)] := by simp [putS, zx, zy, hz3]
    have hNc : (Sp.new S.model).cursor = 0 ∧ (Sp.new S.model).model = S.model ∧ (Sp.new S.model).alt = false := ⟨rfl, rfl, rfl⟩
    have fq := hQ.fresh hx1
    have fw := hW.fresh hx1
    have hfy1 : (¬ q = y1 ∧ ¬ r3 = y1) ∧ (¬ q2 = y1 ∧ ¬ p2 = y1) ∧ ¬ z = y1 := ⟨⟨(hQ.fresh hy1).1, (hQ.fresh hy1).2.1⟩, ⟨(hW.fresh hy1).1, (hW.fresh hy1).2.1⟩, zy⟩
    clear hQ hW hz3 hx1 hy1
    generalize putS rfO ρ x1 y1 (Sp.new S.model) = T at *
    generalize hNN : Sp.new S.model = N at *
    by_cases halt : B.s.alt = true
    case' pos =>
      have hob := hX1.obj
      unfold rfO at hob
      simp [halt]
      refine callK.of (rclear_calls true hNg.model hob) ?_
      rintro v τ ⟨rfl, y2, hy2, eτ⟩
      rw [eτ]
      clear eτ τ hob
      have hxy2 : x1 ≠ y2 := fun e => (hX1.fresh hy2).1 e
      have hX : Ref (putS rfO T x1 y2 (N.clear true)) x1 y2 (N.clear true) := Scr.of_put hxy2 (Sp.clear_good hNg.model true)
      have q1 : Prg (putS rfO T x1 y2 (N.clear true)) q r3 S := (hQ1.upd ⟨fq.1, fq.2.1⟩ _).upd ⟨(hQ1.fresh hy2).1, (hQ1.fresh hy2).2.1⟩ _
      have w1 : Prg (putS rfO T x1 y2 (N.clear true)) q2 p2 B.s := (hW1.upd ⟨fw.1, fw.2.1⟩ _).upd ⟨(hW1.fresh hy2).1, (hW1.fresh hy2).2.1⟩ _
      have zy2 : ¬ z = y2 := fun e => by subst e; rw [hy2] at hz4; cases hz4
      have hz5 : putS rfO T x1 y2 (N.clear true) z = some [.lit (.int .i64 K.kind), .lit (.int .i32 K.sign), .lit (.int .i64 K.num)] := by simp [putS, zx, zy2, hz4]
      have hNm : (N.clear true).model = B.s.model ∧ (N.clear true).alt = B.s.alt ∧ (N.clear true).cursor = 0 := ⟨by rw [← hSm.1]; exact hNc.2.1, by rw [halt]; rfl, rfl⟩
      have hfy : (¬ q = y2 ∧ ¬ r3 = y2) ∧ (¬ q2 = y2 ∧ ¬ p2 = y2) ∧ ¬ z = y2 := ⟨⟨(hQ1.fresh hy2).1, (hQ1.fresh hy2).2.1⟩, ⟨(hW1.fresh hy2).1, (hW1.fresh hy2).2.1⟩, zy2⟩
      clear hX1 hQ1 hW1 hz4 hy2 hNg hNc hNN
      generalize putS rfO T x1 y2 (N.clear true) = T2 at *
      generalize N.clear true = N2 at *
    case' neg =>
      simp [halt]
      have halt' : B.s.alt = false := by simpa using halt
      have hX := hX1
      have q1 := hQ1
      have w1 := hW1
      have hz5 := hz4
      have hNm : N.model = B.s.model ∧ N.alt = B.s.alt ∧ N.cursor = 0 := ⟨by rw [← hSm.1]; exact hNc.2.1, by rw [halt']; exact hNc.2.2, hNc.1⟩
      have hfy := hfy1
      clear hX1 hQ1 hW1 hz4 hNg hNc hNN
      generalize T = T2 at *
      generalize N = N2 at *
      generalize y1 = y2 at *
    all_goals
      clear fq fw
      have hob := hX.obj
      have hro := hX.row
      have hNg := hX.good
      have hNn : N2.n = B.s.n := by unfold Sp.n Sp.rows Sp.cols; rw [hNm.1, hNm.2.1]
      have hlen : B.s.cells.length = N2.cells.length := by rw [hNg.len, hNn, hgB.len]
      have hxy3 := hX.ne
      have hbl := hgB.len
      have hbn := B.s.n_le
      unfold rfO at hob
      simp [hob, rowC]
      have hxy4 : ¬ y2 = x1 := fun e => hxy3 e.symm
      have hob2 : ∀ X, T2.upd y2 X x1 = some [.lit (.int .i64 N2.model), .lit (.bool N2.alt), .lit (.int .i64 N2.rows), .lit (.int .i64 N2.cols), .row y2 N2.n, .lit (.int .i64 N2.cursor)] := fun X => by simp [hxy3, hob, rowC]
      have hw2 : ∀ X, Prg (T2.upd y2 X) q2 p2 B.s := fun X => w1.upd hfy.2.1 X
      have hq2 : ∀ X, Prg (T2.upd y2 X) q r3 S := fun X => q1.upd hfy.1 X
      have hzz : ∀ X, T2.upd y2 X z = some [.lit (.int .i64 K.kind), .lit (.int .i32 K.sign), .lit (.int .i64 K.num)] := fun X => by simp [hfy.2.2, hz5]
      refine codeK.cut (fun e A σ' => e = .exit 2 ∧ LeL A [(9, ptrA z), (12, ptrA q), (16, ptrA q2), (17, .lit (.int .i64 B.s.cursor)), (18, ptrA x1)] ∧ Store.sub (T2.upd y2 (cellsO B.s.cells)) σ') ?_ ?_
      · refine codeK.loop follows (st := st6) (plans := pl6) (X := Nat) (fun i => i ≤ B.s.n)
          (fun i => [(9, ptrA z), (12, ptrA q), (16, ptrA q2), (17, .lit (.int .i64 B.s.cursor)), (18, ptrA x1), (75, .lit (.int .i64 B.s.n)), (76, .lit (.int .i64 i))])
          (fun i => T2.upd y2 (cellsO (cop N2 B.s.cells i))) (fun i => B.s.n - i) 0 (by kernel_rfl) (by simp) (by simp [hNn]) (by rw [cop_zero, upd_back hro]; exact Store.sub_refl _) fun i hi => ?_
        by_cases hlt : i < B.s.n
        · have hw1 : IntKind.i64.wrap ((i : Int) + 1) = ((i + 1 : Nat) : Int) := wrap_i64 (by omega) (by omega)
          have hic : i < B.s.cells.length := by omega
          have hat := at_calls (hw2 (cellsO (cop N2 B.s.cells i))) (i : Nat)
          rw [cellA_eq, cellAt_at hlt] at hat
          have hsr := cellsO_set (l := cop N2 B.s.cells i) (i := i) (by rw [cop_len hlen (by omega)]; exact hic) (cellAt B.s i)
          have hce : cellAt B.s i = B.s.cells[i] := by unfold cellAt; rw [List.getElem?_eq_getElem hic]; rfl
          rw [show (cop N2 B.s.cells i).set i (cellAt B.s i) = cop N2 B.s.cells (i + 1) from by rw [hce]; exact cop_succ hlen hic] at hsr
          have hiN : i < N2.n := by omega
          have hol := hob2 (cellsO (cop N2 B.s.cells i))
          have hcl6 := cellsO_length (cop N2 B.s.cells i)
          rw [cop_len hlen (by omega)] at hcl6
          have hcx : cellC (cellAt B.s i) = [byteA (cellAt B.s i).char, .lit (.bool (cellAt B.s i).attr), byteA (cellAt B.s i).fa, byteA (cellAt B.s i).high, byteA (cellAt B.s i).color, byteA (cellAt B.s i).set] := rfl
          rw [hcx] at hsr
          have hle6 : i * 6 + 6 ≤ (cellsO (cop N2 B.s.cells i)).length := by omega
          generalize cellAt B.s i = c at *
          simp [hlt, hol, hiN]
          with_reducible apply And.intro
          all_goals
            refine callK.of hat ?_
            rintro v τ ⟨rfl, eτ⟩
            rw [eτ]
            simp [hol, hiN, hle6, hsr]
            exact ⟨i + 1, by omega, by omega, by rw [hw1]; exact AV.le_refl _, Store.sub_refl _⟩
        · obtain rfl : i = B.s.n := by omega
          simp
          rw [← hbl, cop_all hlen]
          exact Store.sub_refl _
      rintro e A' σ2 ⟨rfl, hA, hσp⟩
      refine View.leL hA (View.sub hσp (View.here ?_))
      clear hA hσp
      have hW0 : ({ model := B.s.model, alt := B.s.alt, cells := B.s.cells, cursor := 0 } : Sp).good := ⟨hgB.model, hgB.len, Sp.n_pos _, hgB.fit⟩
      have hX3 : Ref (T2.upd y2 (cellsO B.s.cells)) x1 y2 { model := B.s.model, alt := B.s.alt, cells := B.s.cells, cursor := 0 } := by
        refine ⟨?_, by simp, hxy3, hW0⟩
        rw [hob2]
        simp [rfO, Sp.rows, Sp.cols, Sp.n, hNm.1, hNm.2.1, hNm.2.2, rowC]
      have hW3 := hw2 (cellsO B.s.cells)
      have hQ3 := hq2 (cellsO B.s.cells)
      have hz3 := hzz (cellsO B.s.cells)
      clear hw2 hq2 hzz hob2 hob hro
      generalize T2.upd y2 (cellsO B.s.cells) = T3 at *
      have hst := starts_calls hX3
      simp
      refine callK.of hst ?_
      rintro v τ ⟨p3, hp3, rfl, eτ⟩
      rw [eτ]
      clear eτ τ hst
      have zp : ¬ z = p3 := fun e => by subst e; rw [hp3] at hz3; cases hz3
      have hX4 := hX3.new hp3 (intsA (starts { model := B.s.model, alt := B.s.alt, cells := B.s.cells, cursor := 0 }))
      have hQ4 := hQ3.new hp3 (intsA (starts { model := B.s.model, alt := B.s.alt, cells := B.s.cells, cursor := 0 }))
      have hW4 := hW3.new hp3 (intsA (starts { model := B.s.model, alt := B.s.alt, cells := B.s.cells, cursor := 0 }))
      have hz4 : T3.upd p3 (intsA (starts { model := B.s.model, alt := B.s.alt, cells := B.s.cells, cursor := 0 })) z = some [.lit (.int .i64 K.kind), .lit (.int .i32 K.sign), .lit (.int .i64 K.num)] := by simp [zp, hz3]
      have hs4 : T3.upd p3 (intsA (starts { model := B.s.model, alt := B.s.alt, cells := B.s.cells, cursor := 0 })) p3 = some (intsA (starts { model := B.s.model, alt := B.s.alt, cells := B.s.cells, cursor := 0 })) := by simp
      have hsat : ∀ j, j < B.s.n → (intsA (starts { model := B.s.model, alt := B.s.alt, cells := B.s.cells, cursor := 0 }))[j]? = some (.lit (.int .i64 (startS B.s.cells j))) := fun j hj => starts_at (s := { model := B.s.model, alt := B.s.alt, cells := B.s.cells, cursor := 0 }) hj
      have hWc : ({ model := B.s.model, alt := B.s.alt, cells := B.s.cells, cursor := 0 } : Sp).cells = B.s.cells := rfl
      have hwn : ({ model := B.s.model, alt := B.s.alt, cells := B.s.cells, cursor := 0 } : Sp).n = B.s.n := rfl
      clear hX3 hQ3 hW3 hz3 hp3
      generalize T3.upd p3 (intsA (starts { model := B.s.model, alt := B.s.alt, cells := B.s.cells, cursor := 0 })) = T4 at *
      generalize intsA (starts { model := B.s.model, alt := B.s.alt, cells := B.s.cells, cursor := 0 }) = SA at *
      have hob := hX4.obj
      have hro := hX4.row
      have hrf := fun τ (h : Ref τ x1 y2 { model := B.s.model, alt := B.s.alt, cells := B.s.cells, cursor := 0 }) a ha => rfield_calls h a ha
      unfold rfO at hob
      dsimp only at hro
      have hSn : S.n = B.s.n := hS.keep.same.n
      have hcn := hgB.cursor
      generalize ({ model := B.s.model, alt := B.s.alt, cells := B.s.cells, cursor := 0 } : Sp) = W at *
      simp [hob, rowC, hwn]
      refine codeK.loop follows (st := st6) (plans := pl6) (X := Nat) (fun i => i ≤ B.s.n)
        (fun i => [(9, ptrA z), (12, ptrA q), (16, ptrA q2), (17, .lit (.int .i64 B.s.cursor)), (18, ptrA x1), (20, rowC p3 B.s.n), (94, rowC y2 B.s.n), (95, .lit (.int .i64 B.s.n)), (96, .lit (.int .i64 i))])
        (fun _ => T4) (fun i => B.s.n - i) 0 (by kernel_rfl) (by simp) (by simp [rowC]) (Store.sub_refl _) fun i hi => ?_
      by_cases hlt : i < B.s.n
      · have hw1 : IntKind.i64.wrap ((i : Int) + 1) = ((i + 1 : Nat) : Int) := wrap_i64 (by omega) (by omega)
        have hic : i < B.s.cells.length := by omega
        have hgj := cellsO_get hic
        have hce : B.s.cells[i] = cellAt B.s i := by unfold cellAt; rw [List.getElem?_eq_getElem hic]; rfl
        have hcx : cellC (cellAt B.s i) = [byteA (cellAt B.s i).char, .lit (.bool (cellAt B.s i).attr), byteA (cellAt B.s i).fa, byteA (cellAt B.s i).high, byteA (cellAt B.s i).color, byteA (cellAt B.s i).set] := rfl
        rw [hce, hcx] at hgj
        have hcl6 := cellsO_length B.s.cells
        have hle6 : i * 6 + 6 ≤ (cellsO B.s.cells).length := by omega
        have hat := fun τ (h : Prg τ q r3 S) => at_calls h (i : Nat)
        rw [cellAt_at (by omega : i < S.n), cellA_eq] at hat
        have hsi := hsat i hlt
        have hsc := hsat B.s.cursor hcn
        cases hA : (cellAt B.s i).attr
        · have ho := hS.safe i hlt hA
          have hat0 : attrAt B.s.cells i = false := hA
          rw [hA] at hgj
          rcases (by omega : startS B.s.cells i < 0 ∨ 0 ≤ startS B.s.cells i) with hneg | hpos
          · have hneg' : ¬ (0 : Int) ≤ startS B.s.cells i := by omega
            simp only [byteA] at hgj hat
            generalize cellAt B.s i = c at *
            generalize cellAt S i = d at *
            generalize startS B.s.cells i = si at *
            simp +contextual [hlt, hro, hle6, hgj, rowC]
            intro b1 hb1
            have pb1 : ¬ p3 = b1 := fun e => by subst e; rw [hb1] at hs4; cases hs4
            have hQ5 := hQ4.new hb1 [.lit (.int .u8 (c.char.toNat : Int)), .lit (.bool false), .lit (.int .u8 (c.fa.toNat : Int)), .lit (.int .u8 (c.high.toNat : Int)), .lit (.int .u8 (c.color.toNat : Int)), .lit (.int .u8 (c.set.toNat : Int))]
            refine callK.of (hat _ hQ5) ?_
            rintro v τ ⟨rfl, eτ⟩
            rw [eτ]
            clear eτ τ
            simp +contextual [ite_free]
            intro b2 e1 e2 hb2
            have pb2 : ¬ p3 = b2 := fun e => by subst e; rw [hb2] at hs4; cases hs4
            simp [pb1, pb2, hs4, hsi, e1, e2, hlt, hneg, hneg']
            exact ⟨i + 1, by omega, by omega, by rw [hw1]; exact AV.le_refl _, by (intro q; simp only [Store.upd, Store.del]; (repeat' split) <;> first | exact Or.inr rfl | exact Or.inl rfl | (exfalso; omega) | (left; subst_vars; assumption) | simp_all)⟩
          · obtain ⟨a, ha, hal, hat2⟩ := start_attr hgB hlt (by omega)
            rw [ha] at hsi
            have hri := fun τ (h : Ref τ x1 y2 W) => hrf τ h a (by omega)
            rw [hWc, show B.s.cells[a]?.getD .zero = cellAt B.s a from rfl] at hri
            have hopen : openS B.s i = !(fld (cellAt B.s a).fa).prot := by
              unfold openS
              rw [hat0, ha]
              simp [fldAt, cellAt]
            generalize hff : fld (cellAt B.s a).fa = ff at *
            obtain ⟨pr, nu, di, mo⟩ := ff
            dsimp only at hopen
            cases pr
            · simp only [byteA] at hgj hat
              generalize cellAt B.s i = c at *
              generalize cellAt S i = d at *
              simp +contextual [hlt, hro, hle6, hgj, rowC]
              intro b1 hb1
              have pb1 : ¬ p3 = b1 := fun e => by subst e; rw [hb1] at hs4; cases hs4
              have hQ5 := hQ4.new hb1 [.lit (.int .u8 (c.char.toNat : Int)), .lit (.bool false), .lit (.int .u8 (c.fa.toNat : Int)), .lit (.int .u8 (c.high.toNat : Int)), .lit (.int .u8 (c.color.toNat : Int)), .lit (.int .u8 (c.set.toNat : Int))]
              have hX5 := hX4.new hb1 [.lit (.int .u8 (c.char.toNat : Int)), .lit (.bool false), .lit (.int .u8 (c.fa.toNat : Int)), .lit (.int .u8 (c.high.toNat : Int)), .lit (.int .u8 (c.color.toNat : Int)), .lit (.int .u8 (c.set.toNat : Int))]
              refine callK.of (hat _ hQ5) ?_
              rintro v τ ⟨rfl, eτ⟩
              rw [eτ]
              clear eτ τ
              simp +contextual [ite_free]
              intro b2 e1 e2 hb2
              have pb2 : ¬ p3 = b2 := fun e => by subst e; rw [hb2] at hs4; cases hs4
              have hb2' : (T4.upd b1 [.lit (.int .u8 (c.char.toNat : Int)), .lit (.bool false), .lit (.int .u8 (c.fa.toNat : Int)), .lit (.int .u8 (c.high.toNat : Int)), .lit (.int .u8 (c.color.toNat : Int)), .lit (.int .u8 (c.set.toNat : Int))]) b2 = none := by simp [e1, hb2]
              have hr5 := hri _ (hX5.new hb2' [.lit (.int .u8 (d.char.toNat : Int)), .lit (.bool d.attr), .lit (.int .u8 (d.fa.toNat : Int)), .lit (.int .u8 (d.high.toNat : Int)), .lit (.int .u8 (d.color.toNat : Int)), .lit (.int .u8 (d.set.toNat : Int))])
              simp [pb1, pb2, hs4, hsi, e1, e2, hlt]
              refine callK.of hr5 ?_
              rintro v τ ⟨rfl, eτ⟩
              rw [eτ]
              clear eτ τ
              simp [fldA, e1, e2]
              exact ⟨i + 1, by omega, by omega, by rw [hw1]; exact AV.le_refl _, by (intro q; simp only [Store.upd, Store.del]; (repeat' split) <;> first | exact Or.inr rfl | exact Or.inl rfl | (exfalso; omega) | (left; subst_vars; assumption) | simp_all)⟩
            · rw [ho hopen] at hat
              rw [hA] at hat
              simp only [byteA] at hgj hat
              generalize cellAt B.s i = c at *
              simp +contextual [hlt, hro, hle6, hgj, rowC]
              intro b1 hb1
              have pb1 : ¬ p3 = b1 := fun e => by subst e; rw [hb1] at hs4; cases hs4
              have hQ5 := hQ4.new hb1 [.lit (.int .u8 (c.char.toNat : Int)), .lit (.bool false), .lit (.int .u8 (c.fa.toNat : Int)), .lit (.int .u8 (c.high.toNat : Int)), .lit (.int .u8 (c.color.toNat : Int)), .lit (.int .u8 (c.set.toNat : Int))]
              have hX5 := hX4.new hb1 [.lit (.int .u8 (c.char.toNat : Int)), .lit (.bool false), .lit (.int .u8 (c.fa.toNat : Int)), .lit (.int .u8 (c.high.toNat : Int)), .lit (.int .u8 (c.color.toNat : Int)), .lit (.int .u8 (c.set.toNat : Int))]
              refine callK.of (hat _ hQ5) ?_
              rintro v τ ⟨rfl, eτ⟩
              rw [eτ]
              clear eτ τ
              simp +contextual [ite_free]
              intro b2 e1 e2 hb2
              have pb2 : ¬ p3 = b2 := fun e => by subst e; rw [hb2] at hs4; cases hs4
              have hb2' : (T4.upd b1 [.lit (.int .u8 (c.char.toNat : Int)), .lit (.bool false), .lit (.int .u8 (c.fa.toNat : Int)), .lit (.int .u8 (c.high.toNat : Int)), .lit (.int .u8 (c.color.toNat : Int)), .lit (.int .u8 (c.set.toNat : Int))]) b2 = none := by simp [e1, hb2]
              have hr5 := hri _ (hX5.new hb2' [.lit (.int .u8 (c.char.toNat : Int)), .lit (.bool false), .lit (.int .u8 (c.fa.toNat : Int)), .lit (.int .u8 (c.high.toNat : Int)), .lit (.int .u8 (c.color.toNat : Int)), .lit (.int .u8 (c.set.toNat : Int))])
              simp [pb1, pb2, hs4, hsi, e1, e2, hlt]
              refine callK.of hr5 ?_
              rintro v τ ⟨rfl, eτ⟩
              rw [eτ]
              clear eτ τ
              simp [fldA, e1, e2]
              exact ⟨i + 1, by omega, by omega, by rw [hw1]; exact AV.le_refl _, by (intro q; simp only [Store.upd, Store.del]; (repeat' split) <;> first | exact Or.inr rfl | exact Or.inl rfl | (exfalso; omega) | (left; subst_vars; assumption) | simp_all)⟩
        · have hm := hS.attr i hlt hA
          have hgr := hS.grew i hlt hA
          have hfe : bit1 (cellAt B.s i) = true → bit1 (cellAt S i) = false → (K.kind = 15) ∧ (fld (cellAt B.s i).fa).prot = false := hS.fell i hlt hA
          have hri := fun τ (h : Ref τ x1 y2 W) => hrf τ h i (by omega)
          rw [hWc, show B.s.cells[i]?.getD .zero = cellAt B.s i from rfl] at hri
          unfold bit1 at hgr hfe
          obtain ⟨m1, m2, h3, m4, m5, m6⟩ := mk1_eq hm
          rw [m1, m2, m4, m5, m6] at hat
          rw [hA] at hgj hat
          simp only [byteA] at hgj hat
          generalize (cellAt S i).fa = g at *
          generalize (cellAt B.s i).fa = f at *
          generalize (cellAt B.s i).char = ch at *
          generalize (cellAt B.s i).high = hh at *
          generalize (cellAt B.s i).color = co at *
          generalize (cellAt B.s i).set = se at *
          have hof := or1_of (rfl : f ||| 1 = f ||| 1)
          have hog := or1_of h3
          generalize f ||| 1 = w at *
          simp +contextual [hlt, hro, hle6, hgj, rowC]
          intro b1 hb1
          obtain ⟨x1b, y2b, _⟩ := hX4.fresh hb1
          have zb1 : ¬ z = b1 := fun e => by subst e; rw [hb1] at hz4; cases hz4
          have pb1 : ¬ p3 = b1 := fun e => by subst e; rw [hb1] at hs4; cases hs4
          have hQ5 := hQ4.new hb1 [.lit (.int .u8 (ch.toNat : Int)), .lit (.bool true), .lit (.int .u8 (f.toNat : Int)), .lit (.int .u8 (hh.toNat : Int)), .lit (.int .u8 (co.toNat : Int)), .lit (.int .u8 (se.toNat : Int))]
          refine callK.of (hat _ hQ5) ?_
          rintro v τ ⟨rfl, eτ⟩
          rw [eτ]
          clear eτ τ
          have hX5 := hX4.new hb1 [.lit (.int .u8 (ch.toNat : Int)), .lit (.bool true), .lit (.int .u8 (f.toNat : Int)), .lit (.int .u8 (hh.toNat : Int)), .lit (.int .u8 (co.toNat : Int)), .lit (.int .u8 (se.toNat : Int))]
          rcases and1_cases f with hf | hf <;> rcases and1_cases g with hg | hg
          · have haf := and1_of hf
            have hag := and1_of hg
            simp +contextual [ite_free, -e_pureBin_8, -e_pureBin_9, hof, hog, haf, hag]
            intro b2 e1 e2 hb2
            exact ⟨i + 1, by omega, by omega, by rw [hw1]; exact AV.le_refl _, by (intro q; simp only [Store.upd, Store.del]; (repeat' split) <;> first | exact Or.inr rfl | exact Or.inl rfl | (exfalso; omega) | (left; subst_vars; assumption) | simp_all)⟩
          · have haf := and1_of hf
            have hag := and1_of hg
            have hst := hgr (by rw [hf]; rfl) (by rw [hg]; rfl)
            rw [hst] at hsc
            simp +contextual [ite_free, -e_pureBin_8, -e_pureBin_9, hof, hog, haf, hag, hcn]
            intro b2 e1 e2 hb2
            have pb2 : ¬ p3 = b2 := fun e => by subst e; rw [hb2] at hs4; cases hs4
            simp [-e_pureBin_8, -e_pureBin_9, pb1, pb2, hs4, hsc, e1, e2, hof, hog]
            exact ⟨i + 1, by omega, by omega, by rw [hw1]; exact AV.le_refl _, by (intro q; simp only [Store.upd, Store.del]; (repeat' split) <;> first | exact Or.inr rfl | exact Or.inl rfl | (exfalso; omega) | (left; subst_vars; assumption) | simp_all)⟩
          · have haf := and1_of hf
            have hag := and1_of hg
            obtain ⟨k15, hpr⟩ := hfe (by rw [hf]; rfl) (by rw [hg]; rfl)
            simp +contextual [ite_free, -e_pureBin_8, -e_pureBin_9, hof, hog, haf, hag]
            intro b2 e1 e2 hb2
            have zb2 : ¬ z = b2 := fun e => by subst e; rw [hb2] at hz4; cases hz4
            have hb2' : (T4.upd b1 [.lit (.int .u8 (ch.toNat : Int)), .lit (.bool true), .lit (.int .u8 (f.toNat : Int)), .lit (.int .u8 (hh.toNat : Int)), .lit (.int .u8 (co.toNat : Int)), .lit (.int .u8 (se.toNat : Int))]) b2 = none := by simp [e1, hb2]
            have hr5 := hri _ (hX5.new hb2' [.lit (.int .u8 (ch.toNat : Int)), .lit (.bool true), .lit (.int .u8 (g.toNat : Int)), .lit (.int .u8 (hh.toNat : Int)), .lit (.int .u8 (co.toNat : Int)), .lit (.int .u8 (se.toNat : Int))])
            simp [-e_pureBin_8, -e_pureBin_9, zb1, zb2, hz4, k15, e1, e2]
            refine callK.of hr5 ?_
            rintro v τ ⟨rfl, eτ⟩
            rw [eτ]
            clear eτ τ
            simp [-e_pureBin_8, -e_pureBin_9, fldA, hpr, e1, e2, hof, hog]
            exact ⟨i + 1, by omega, by omega, by rw [hw1]; exact AV.le_refl _, by (intro q; simp only [Store.upd, Store.del]; (repeat' split) <;> first | exact Or.inr rfl | exact Or.inl rfl | (exfalso; omega) | (left; subst_vars; assumption) | simp_all)⟩
          · have haf := and1_of hf
            have hag := and1_of hg
            simp +contextual [ite_free, -e_pureBin_8, -e_pureBin_9, hof, hog, haf, hag]
            intro b2 e1 e2 hb2
            exact ⟨i + 1, by omega, by omega, by rw [hw1]; exact AV.le_refl _, by (intro q; simp only [Store.upd, Store.del]; (repeat' split) <;> first | exact Or.inr rfl | exact Or.inl rfl | (exfalso; omega) | (left; subst_vars; assumption) | simp_all)⟩
      · obtain rfl : i = B.s.n := by omega
        have hqa := alt_calls hQ4
        have hwa := alt_calls hW4
        rw [hSm.2] at hqa
        simp
        refine callK.of hqa ?_
        rintro v τ ⟨rfl, eτ⟩
        rw [eτ]
        clear eτ τ
        simp
        refine callK.of hwa ?_
        rintro v τ ⟨rfl, eτ⟩
        rw [eτ]
        clear eτ τ
        simp
        exact ⟨_, Store.sub_refl _⟩
end Go.Proofs.YtlmdbcgceijlnaaGreat
/-
  Arguments opened.
-/
namespace Go.Proofs.YtlmdbcgceijlnaaGreat
open Go Go.AL Go.Sp
theorem open_bytes : Opens Tryz.prog 22 (fun l : List UInt8 => [.list false 1 (bytesA l)]) (fun l => l.length ≤ maxLen) :=
  (Opens.slice Tryz.underlying22 (sz := 1) (by kernel_rfl) (by omega) (Opens.u8 Tryz.underlying5) byteA (fun _ => rfl) (fun _ => rfl)).by id fun _ h => ⟨h.1, rfl⟩
theorem open_cell : Opens Tryz.prog 26 (fun c : Cell => cellC c) (fun _ => True) :=
  (Opens.struct (total := 6) Tryz.underlying26 (by kernel_rfl)
    (.cons (k := 1) rfl (by kernel_rfl) (by omega) (Opens.u8 Tryz.underlying5) (.cons (k := 1) rfl (by kernel_rfl) (by omega) (Opens.bool Tryz.underlying4) (.cons (k := 1) rfl (by kernel_rfl) (by omega) (Opens.u8 Tryz.underlying5)
      (.cons (k := 1) rfl (by kernel_rfl) (by omega) (Opens.u8 Tryz.underlying5) (.cons (k := 1) rfl (by kernel_rfl) (by omega) (Opens.u8 Tryz.underlying5) (.cons (k := 1) rfl (by kernel_rfl) (by omega) (Opens.u8 Tryz.underlying5) .nil))))))).by
    (fun x => ⟨x.1, x.2.1, x.2.2.1, x.2.2.2.1, x.2.2.2.2.1, x.2.2.2.2.2.1⟩) fun _ _ => ⟨trivial, rfl⟩
theorem open_act : Opens Tryz.prog 28 (fun a : Sp.Act => actC a) (fun a => a.text.length ≤ maxLen) :=
  (Opens.struct (total := 11) Tryz.underlying28 (by kernel_rfl)
    (.cons (k := 1) rfl (by kernel_rfl) (by omega) (Opens.u8 Tryz.underlying5) (.cons (k := 1) rfl (by kernel_rfl) (by omega) (Opens.i64 Tryz.underlying3) (.cons (k := 1) rfl (by kernel_rfl) (by omega) (Opens.bool Tryz.underlying4)
      (.cons (k := 1) rfl (by kernel_rfl) (by omega) (Opens.u8 Tryz.underlying5) (.cons (k := 6) rfl (by kernel_rfl) (by omega) open_cell (.cons (k := 1) rfl (by kernel_rfl) (by omega) open_bytes .nil))))))).by
    (fun x => ⟨x.1, x.2.1, x.2.2.1, x.2.2.2.1, x.2.2.2.2.1, x.2.2.2.2.2.1⟩) fun _ h => ⟨h.2.2.2.2.2.1, rfl⟩
theorem open_acts : Opens Tryz.prog 29 (fun l : List Sp.Act => [.list false 11 (actsA l)]) (fun l => l.length ≤ maxLen ∧ ∀ a ∈ l, a.text.length ≤ maxLen) :=
  Opens.slice Tryz.underlying29 (by kernel_rfl) (by omega) open_act actA (fun _ => rfl) (fun _ => rfl)
theorem open_key : Opens Tryz.prog 46 (fun K : Key => keyC K) (fun _ => True) :=
  (Opens.struct (total := 3) Tryz.underlying46 (by kernel_rfl)
    (.cons (k := 1) rfl (by kernel_rfl) (by omega) (Opens.i64 Tryz.underlying3) (.cons (k := 1) rfl (by kernel_rfl) (by omega) (Opens.int (k := .i32) Tryz.underlying21) (.cons (k := 1) rfl (by kernel_rfl) (by omega) (Opens.i64 Tryz.underlying3) .nil)))).by
    (fun x => ⟨x.1, x.2.1, x.2.2.1⟩) fun _ _ => ⟨trivial, rfl⟩
theorem open_keys : Opens Tryz.prog 23 (fun l : List Key => [.list false 3 (keysA l)]) (fun l => l.length ≤ maxLen) :=
  (Opens.slice Tryz.underlying23 (by kernel_rfl) (by omega) open_key keyA (fun _ => rfl) (fun _ => rfl)).by id fun _ h => ⟨h.1, rfl⟩
end Go.Proofs.YtlmdbcgceijlnaaGreat
