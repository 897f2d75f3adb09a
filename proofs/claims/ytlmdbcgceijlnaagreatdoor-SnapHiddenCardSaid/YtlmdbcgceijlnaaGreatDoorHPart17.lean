/-
  Keys that move, keys that change the screen.
-/
import Derived.Test.YtlmdbcgceijlnaaGreatDoorHPart16
set_option linter.unusedSimpArgs false
set_option linter.unusedVariables false
namespace Go.Proofs.YtlmdbcgceijlnaaGreatDoor
open Go Go.AL Go.Sp
variable {σ : Store} {k q r b : Nat} {n : Int} {B : Bd}

def movK (s : Sp) (kind : Int) : Sp × Bool :=
  if kind = 5 then (tabS s, true) else if kind = 6 then (btabS s, true) else if kind = 7 then (newlineS s, true) else if kind = 8 then (homeS s, true)
  else if kind = 9 then (moveS s (-1) 0, true) else if kind = 10 then (moveS s 1 0, true) else if kind = 11 then (moveS s 0 (-1), true) else if kind = 12 then (moveS s 0 1, true) else (s, false)
structure Key where
  kind : Int
  sign : Int
  num : Int
def keyC (K : Key) : List AV := [.lit (.int .i64 K.kind), .lit (.int .i32 K.sign), .lit (.int .i64 K.num)]
def keyA (K : Key) : AV := .agg (keyC K)
def enteredB (n : Int) (B : Bd) (K : Key) : Bd × Int :=
  if K.kind = 1 then charB n B K.sign
  else if K.kind = 2 then (if 0 ≤ K.num ∧ K.num ≤ 255 ∧ dataB (UInt8.ofNat K.num.toNat) = true then enterB n B (UInt8.ofNat K.num.toNat) else (B, 1))
  else if K.kind = 3 then enterB n B 28
  else if K.kind = 4 then enterB n B 30
  else if K.kind = 13 then (if openS B.s B.s.cursor = true then ({ B with s := delS B.s B.s.cursor }, 0) else ({ B with lock := 2 }, 13))
  else if K.kind = 14 then (if openS B.s B.s.cursor = true then ({ B with s := endS B.s B.s.cursor }, 0) else ({ B with lock := 2 }, 13))
  else if K.kind = 15 then ({ B with s := unprotS B.s }, 0)
  else if K.kind = 16 then ({ B with ins := !B.ins }, 0)
  else (B, 0)
end Go.Proofs.YtlmdbcgceijlnaaGreatDoor
/-
  The keys that send; a key is pressed.
-/
namespace Go.Proofs.YtlmdbcgceijlnaaGreatDoor
open Go Go.AL Go.Sp
variable {σ : Store} {k q r b : Nat} {n : Int} {B : Bd}

def pfT : List Nat := [241, 242, 243, 244, 245, 246, 247, 248, 249, 122, 123, 124, 193, 194, 195, 196, 197, 198, 199, 200, 201, 74, 75, 76]
def paT : List Nat := [108, 110, 107]
def aidN (K : Key) : Option Nat :=
  if K.kind = 19 then some 125 else if K.kind = 22 then some 109
  else if K.kind = 20 ∧ 1 ≤ K.num ∧ K.num ≤ 24 then pfT[(K.num - 1).toNat]?
  else if K.kind = 21 ∧ 1 ≤ K.num ∧ K.num ≤ 3 then paT[(K.num - 1).toNat]? else none
theorem w0 : IntKind.i64.wrap 0 = 0 := by decide
theorem w1 : IntKind.i64.wrap 1 = 1 := by decide
theorem w2 : IntKind.i64.wrap 2 = 2 := by decide
theorem w3 : IntKind.i64.wrap 3 = 3 := by decide
theorem w4 : IntKind.i64.wrap 4 = 4 := by decide
end Go.Proofs.YtlmdbcgceijlnaaGreatDoor
/-
  A key is pressed.
-/
namespace Go.Proofs.YtlmdbcgceijlnaaGreatDoor
open Go Go.AL Go.Sp
variable {σ : Store} {k q r b : Nat} {n : Int} {B : Bd}

def pressB (n : Int) (B : Bd) (K : Key) : Bd × Bool × Int :=
  if K.kind < 1 ∨ 22 < K.kind then (B, false, 1)
  else if K.kind = 17 then (resetB B, false, 0)
  else if ¬ B.lock = 0 then (B, false, 8)
  else if K.kind = 18 then chooseB n B
  else if (aidN K).isSome = true then
    ({ s := if K.kind = 22 then B.s.clear false else B.s, lock := 1, ins := false, aid := UInt8.ofNat ((aidN K).getD 0) }, true, 0)
  else if K.kind = 20 ∨ K.kind = 21 then (B, false, 1)
  else if (movK B.s K.kind).2 = true then ({ B with s := (movK B.s K.kind).1 }, false, 0)
  else ((enteredB n B K).1, false, (enteredB n B K).2)
theorem pgS_sub {σ τ : Store} (h : Store.sub σ τ) (b : Nat) (n : Int) (x : Option Nat) : Store.sub (pgS b n x σ) (pgS b n x τ) := by
  have h1 : ∀ Y, Store.sub (σ.upd b Y) (τ.upd b Y) := fun Y => by
    refine Store.sub2 (fun o => ?_) (fun i => by simpa using h (mkey i))
    simp only [supd_apply]
    by_cases e : o = b
    · right; simp [e]
    · simp only [if_neg e]; exact h o
  cases x with
  | none => exact h1 _
  | some q =>
    unfold pgS
    dsimp only
    refine Store.sub2 (fun o => by simpa using h1 (pgA (.built n q)) o) (fun i => ?_)
    by_cases e : i = q
    · right; simp [e]
    · have := h1 (pgA (.built n q)) (mkey i)
      simpa [e] using this
end Go.Proofs.YtlmdbcgceijlnaaGreatDoor
/-
  A key is pressed: the walk.
-/
namespace Go.Proofs.YtlmdbcgceijlnaaGreatDoor
open Go Go.AL Go.Sp
variable {σ : Store} {k q r b : Nat} {n : Int} {B : Bd}

theorem KOk.row (h : KOk σ k q r b n B) {p : Nat} (f : Free σ k q r b p) {B2 : Bd} (hg : B2.s.good) : KOk σ k q p b n B2 :=
  ⟨h.kq, fun e => f.k e.symm, h.kb, fun e => f.q e.symm, h.qb, fun e => f.b e, f.free, h.page, hg⟩
end Go.Proofs.YtlmdbcgceijlnaaGreatDoor
/-
  Answers, screens and bytes that are the same.
-/
namespace Go.Proofs.YtlmdbcgceijlnaaGreatDoor
open Go Go.AL Go.Sp

end Go.Proofs.YtlmdbcgceijlnaaGreatDoor
/-
  A screen's copy.
-/
namespace Go.Proofs.YtlmdbcgceijlnaaGreatDoor
open Go Go.AL Go.Sp

theorem cellsO_plain (l : List Cell) : ∀ c ∈ cellsO l, c.plain1 = true := by
  intro c hc
  unfold cellsO at hc
  rw [List.mem_flatMap] at hc
  obtain ⟨d, _, hc⟩ := hc
  simp [cellC] at hc
  rcases hc with rfl | rfl | rfl | rfl | rfl | rfl <;> rfl
set_option maxRecDepth 8000 in
theorem sclone_calls {p : Nat} {s : Sp} {σ : Store} (hr : σ p = some (cellsO s.cells)) (hg : s.good) : ACalls Tryz.prog 97 [rowC p s.n] σ fun v σ' => ∃ p2 : Nat, v = rowC p2 s.n ∧ σ p2 = none ∧ σ' = σ.upd p2 (cellsO s.cells) := by
  have hpl := cellsO_plain s.cells
  have hn := s.n_pos
  have hle := s.n_le
  have hlen : (cellsO s.cells).length = s.n * 6 := by rw [cellsO_length, hg.len]
  have htk : (cellsO s.cells).take (s.n * 6) = cellsO s.cells := by rw [← hlen, List.take_length]
  generalize s.n = n at *
  generalize cellsO s.cells = L at *
  refine ACalls.of_awp follows (st := st97) (plans := pl97) (n := 8) Tryz.func97 rfl (by kernel_rfl) (by kernel_rfl) (by kernel_rfl) ?_
  simp [rowC, hr]
  intro r hr0
  have hpr : ¬ p = r := by rintro rfl; rw [hr] at hr0; cases hr0
  simp [hpr, hlen, htk]
  refine ⟨hn, by omega, by omega, hpl, fun p2 h1 => ?_⟩
  rw [ite_none] at h1
  obtain ⟨h1, h2⟩ := h1
  refine ⟨_, AV.le_refl _, _, ?_, p2, rfl, h2, rfl⟩
  (intro q; simp only [Store.upd, Store.del]; (repeat' split) <;> first | exact Or.inr rfl | exact Or.inl rfl | (exfalso; omega) | (left; subst_vars; assumption) | simp_all)
set_option maxRecDepth 8000 in
theorem scopy_calls {q p : Nat} {s : Sp} {σ : Store} (h : Prg σ q p s) : ACalls Tryz.prog 48 [ptrA q] σ fun v σ' => ∃ (q2 p2 : Nat), v = ptrA q2 ∧ σ q2 = none ∧ σ p2 = none ∧ q2 ≠ p2 ∧ σ' = putS spO σ q2 p2 s := by
  have ho := h.obj
  have hcl := fun τ hτ => sclone_calls (p := p) (s := s) (σ := τ) hτ h.good
  unfold spO at ho
  unfold rowC at hcl ho
  refine ACalls.of_awp follows (st := st48) (plans := pl48) (n := 15) Tryz.func48 rfl (by kernel_rfl) (by kernel_rfl) (by kernel_rfl) ?_
  simp [ho]
  intro q2 hq2
  have hf := h.fresh hq2
  refine callK.of (hcl _ (by simp [hf.2.1, h.row])) ?_
  rintro v σ' ⟨p2, rfl, hp2, rfl⟩
  simp only [supd_apply, ite_none] at hp2
  obtain ⟨n1, hp2⟩ := hp2
  simp [Ne.symm n1]
  refine ⟨_, AV.le_refl _, _, ?_, q2, rfl, hq2, p2, hp2, Ne.symm n1, rfl⟩
  unfold putS spO rowC
  (intro q; simp only [Store.upd, Store.del]; (repeat' split) <;> first | exact Or.inr rfl | exact Or.inl rfl | (exfalso; omega) | (left; subst_vars; assumption) | simp_all)
end Go.Proofs.YtlmdbcgceijlnaaGreatDoor
/-
  A screen is laid, a board stands on it.
-/
namespace Go.Proofs.YtlmdbcgceijlnaaGreatDoor
open Go Go.AL Go.Sp

def pagesL : List Nat := [37, 273, 297, 500, 1047, 1140]
def pageN (u : UInt8) : Int := ((pagesL[u.toNat % 6]?.getD 0 : Nat) : Int)
def newB (s : Sp) : Bd := { s := s, lock := 0, ins := false, aid := 0x60 }
def LayK (σ : Store) (n : Int) (s : Sp) (v : AV) (σ' : Store) : Prop := ∃ (k q p b c : Nat) (base : Store), v = .tuple [ptrA k, ptrA q, ptrA c] ∧ Store.sub σ base ∧ base k = none ∧ base q = none ∧ base b = none ∧ KOk base k q p b n (newB s) ∧ σ' = kS base k q p b n none (newB s)
/-- The document's keyboard, in a store. -/
def rbdO (x : Nat) (n lock : Int) (ins : Bool) (aid : UInt8) : List AV := [ptrA x, .lit (.int .i64 n), .lit (.int .i64 lock), .lit (.bool ins), byteA aid]
/-- The same, and the document's keyboard on its screen. -/
def LayD (σ : Store) (n : Int) (s : Sp) (v : AV) (σ' : Store) : Prop := ∃ (k q p b c : Nat) (base : Store), v = .tuple [ptrA k, ptrA q, ptrA c] ∧ Store.sub σ base ∧ base k = none ∧ base q = none ∧ base b = none ∧ KOk base k q p b n (newB s) ∧ σ' = kS base k q p b n none (newB s) ∧
  ∃ (x y : Nat), base c = some (rbdO x n 0 false 0x60) ∧ Ref base x y s ∧ σ c = none
end Go.Proofs.YtlmdbcgceijlnaaGreatDoor
/-
  A screen is laid for the screen's text, and a page.
-/
namespace Go.Proofs.YtlmdbcgceijlnaaGreatDoor
open Go Go.AL Go.Sp

def page7 (u : UInt8) : Int := ((pagesL[u.toNat % 7]?.getD 37 : Nat) : Int)
theorem page7_ok (u : UInt8) : isPage (page7 u) := all_bytes (p := fun u => isPage (page7 u)) (by decide +kernel) u
theorem pages7_calls (σ : Store) : ACalls Tryz.prog 54 [] σ fun v σ' => v = .list true 1 (natsA pagesL) ∧ σ' = σ := by
  refine ACalls.of_awp follows (st := st54) (plans := pl54) (n := 2) Tryz.func54 rfl (by kernel_rfl) (by kernel_rfl) (by kernel_rfl) ?_
  simp [natsA, natA, pagesL]
/-- A screen as it lies (its cursor at 0), the document's, and a page or none. -/
def SLay (σ : Store) (u : UInt8) (s : Sp) (v : AV) (σ' : Store) : Prop := ∃ (q p x y : Nat),
  Four σ q p x y ∧ ((u.toNat % 7 = 6 ∧ v = .tuple [ptrA q, ptrA x, .lit (.pointer none), .lit (.int .i64 37)] ∧ σ' = both σ q p x y (upTo s s.n) s) ∨
    (¬ u.toNat % 7 = 6 ∧ ∃ b : Nat, both σ q p x y (upTo s s.n) s b = none ∧ v = .tuple [ptrA q, ptrA x, pgP b, .lit (.int .i64 (page7 u))] ∧ σ' = pgS b (page7 u) none (both σ q p x y (upTo s s.n) s)))
set_option maxHeartbeats 2000000 in
set_option maxRecDepth 8000 in
theorem slay_calls (m u : UInt8) (l : List Sp.Act) (hl : l.length ≤ 9223372036854775807) (ht : ∀ a ∈ l, a.text.length ≤ 9223372036854775807) (σ : Store) : ACalls Tryz.prog 10 [byteA m, byteA u, .list false 11 (actsA l)] σ (SLay σ u (Sp.lays m l)) := by
  have hm : 2 ≤ 2 + m.toNat % 4 ∧ 2 + m.toNat % 4 ≤ 5 := by omega
  have hmw : IntKind.i64.wrap (2 + IntKind.i64.wrap ((m.toNat : Int).tmod 4)) = ((2 + m.toNat % 4 : Nat) : Int) := by
    have e : (m.toNat : Int).tmod 4 = ((m.toNat % 4 : Nat) : Int) := rfl
    rw [e, wrap_i64 (n := ((m.toNat % 4 : Nat) : Int)) (by omega) (by omega), wrap_i64 (by omega) (by omega)]; simp
  have hstep := lays_step m l
  have hS : Sp.lays m l = ((l.take 30).take l.length).foldl Sp.act (Sp.new (2 + m.toNat % 4)) := by
    rw [List.take_of_length_le (show (l.take 30).length ≤ l.length by simp; omega)]; rfl
  have hn1 := new_calls hm
  have hn2 := rnew_calls hm
  have hgood := fun k => Sp.foldl_good ((l.take 30).take k) (Sp.new_good hm)
  have hmod : (Sp.lays m l).model = 2 + m.toNat % 4 := (foldl_model _ _).trans rfl
  have hng := Sp.new_good hm
  refine ACalls.of_awp follows (st := st10) (plans := pl10) (n := 90) Tryz.func10 rfl (by kernel_rfl) (by kernel_rfl) (by kernel_rfl) ?_
  generalize hN : Sp.new (2 + m.toNat % 4) = N0 at *
  simp [byteA, hmw]
  refine callK.of (hn1 _) ?_
  rintro v σ' ⟨q, p, rfl, hq1, hp1, hqp, rfl⟩
  simp
  refine callK.of (hn2 _) ?_
  rintro v σ' ⟨x, y0, rfl, hx, hy, hxy, rfl⟩
  simp
  have hx' : σ x = none ∧ x ≠ q ∧ x ≠ p := by
    simp only [putS, supd_apply, ite_none] at hx; exact ⟨hx.2.2, hx.2.1, hx.1⟩
  have hy' : σ y0 = none ∧ y0 ≠ q ∧ y0 ≠ p := by
    simp only [putS, supd_apply, ite_none] at hy; exact ⟨hy.2.2, hy.2.1, hy.1⟩
  refine codeK.cut (fun e A σ' => e = .exit 0 ∧ ∃ y, Four σ q p x y ∧ LeL A [(1, byteA u), (11, ptrA q), (13, ptrA x)] ∧ Store.sub (both σ q p x y N0 (Sp.lays m l)) σ') ?_ ?_
  · refine codeK.loop follows (st := st10) (plans := pl10) (X := Nat × Nat) (fun k => k.1 ≤ l.length ∧ Four σ q p x k.2)
      (fun k => [(1, byteA u), (11, ptrA q), (13, ptrA x), (31, .list false 11 (actsA l)), (32, .lit (.int .i64 l.length)), (33, .lit (.int .i64 k.1))])
      (fun k => both σ q p x k.2 N0 (((l.take 30).take k.1).foldl Sp.act N0)) (fun k => l.length - k.1) (0, y0) (by kernel_rfl) ⟨by simp, ⟨hq1, hp1, hx'.1, hy'.1, hqp, Ne.symm hx'.2.1, Ne.symm hy'.2.1, Ne.symm hx'.2.2, Ne.symm hy'.2.2, hxy⟩⟩ (by simp [byteA]) ?_ fun k hk => ?_
    · simp only [List.take_zero, List.foldl_nil]
      have h1 := hx'.2; have h2 := hy'.2
      simp only [both, putS]
      (intro q; simp only [Store.upd, Store.del]; (repeat' split) <;> first | exact Or.inr rfl | exact Or.inl rfl | (exfalso; omega) | (left; subst_vars; assumption) | simp_all)
    · obtain ⟨i, y⟩ := k
      obtain ⟨hi, h4⟩ := hk
      dsimp only at hi h4 ⊢
      by_cases hlt : i < l.length
      · have hw : IntKind.i64.wrap ((i : Int) + 1) = ((i + 1 : Nat) : Int) := wrap_i64 (by omega) (by omega)
        have ha := actsA_at l i hlt
        have hst := hstep i hlt
        have htx := ht l[i] (List.getElem_mem hlt)
        have hg := hgood i
        have hg2 := hgood (i + 1)
        by_cases h30 : i < 30
        · have h30i : (i : Int) < 30 := by omega
          rw [hst h30] at hg2
          have hst2 := hst h30
          generalize ((l.take 30).take i).foldl Sp.act N0 = t at *
          generalize l[i] = a at *
          have hdo := fun τ (hτ : Ref τ x y t) => rdo_calls hτ a htx
          have hac : actA a = .agg [byteA a.what, .lit (.int .i64 a.n), .lit (.bool a.on), byteA a.code, byteA a.c.char, .lit (.bool a.c.attr), byteA a.c.fa, byteA a.c.high, byteA a.c.color, byteA a.c.set, .list false 1 (bytesA a.text)] := rfl
          rw [hac] at hdo ha
          have hR := both_ref (s := N0) h4 hg
          simp +contextual [hlt, h30i, ha]
          intro b hb
          obtain ⟨m1, m2, m3, m4⟩ := hR.fresh hb
          refine callK.of (hdo _ (hR.new hb _)) ?_
          rintro v σ' ⟨rfl, y', hy2, rfl⟩
          have hb2 : σ b = none ∧ ¬ b = q ∧ ¬ b = p := by
            simp only [both, putS, supd_apply, ite_none] at hb; exact ⟨hb.2.2.2.2, hb.2.1, hb.1⟩
          have hy3 : ¬ y' = b ∧ ¬ y' = x ∧ ¬ y' = p ∧ ¬ y' = q ∧ σ y' = none := by
            rcases hy2 with rfl | hy2
            · exact ⟨m2, Ne.symm h4.xy, Ne.symm h4.py, Ne.symm h4.qy, h4.y0⟩
            · simp only [both, putS, supd_apply, ite_none] at hy2
              exact ⟨hy2.1, hy2.2.2.2.2.1, hy2.2.1, hy2.2.2.1, hy2.2.2.2.2.2⟩
          obtain ⟨y1, y2, y3, y4, y5⟩ := hy3
          obtain ⟨b1, b2, b3⟩ := hb2
          simp
          refine ⟨i + 1, y', ⟨by omega, ⟨h4.q0, h4.p0, h4.x0, y5, h4.qp, h4.qx, Ne.symm y4, h4.px, Ne.symm y3, Ne.symm y2⟩⟩, by omega, by rw [hw]; exact AV.le_refl _, ?_⟩
          rw [hst2]
          obtain ⟨_, _, _, _, f1, f2, f3, f4, f5, f6⟩ := h4
          simp only [both, putS]
          (intro q; simp only [Store.upd, Store.del]; (repeat' split) <;> first | exact Or.inr rfl | exact Or.inl rfl | (exfalso; omega) | (left; subst_vars; assumption) | simp_all)
        · have h30i : ¬ (i : Int) < 30 := by omega
          have hl30 : (l.take 30).length ≤ 30 := by simp; omega
          have hsame : (l.take 30).take (i + 1) = (l.take 30).take i :=
            (List.take_of_length_le (show (l.take 30).length ≤ i + 1 by omega)).trans (List.take_of_length_le (show (l.take 30).length ≤ i by omega)).symm
          have hac : ∀ a, actA a = .agg [byteA a.what, .lit (.int .i64 a.n), .lit (.bool a.on), byteA a.code, byteA a.c.char, .lit (.bool a.c.attr), byteA a.c.fa, byteA a.c.high, byteA a.c.color, byteA a.c.set, .list false 1 (bytesA a.text)] := fun _ => rfl
          rw [hac] at ha
          simp +contextual [hlt, h30i, ha]
          intro b hb
          refine ⟨i + 1, y, ⟨by omega, h4⟩, by omega, by rw [hw]; exact AV.le_refl _, ?_⟩
          rw [hsame]
          exact sub_upd_self _ _ _ hb
      · obtain rfl : i = l.length := by omega
        rw [← hS]
        simp
        exact ⟨y, h4, Store.sub_refl _⟩
  · rintro e A' σ2 ⟨rfl, y, h4, hA, hσ⟩
    refine View.leL hA (View.sub hσ (View.here ?_))
    clear hA hσ hstep
    have hg := hgood l.length
    rw [← hS] at hg
    clear hS hgood
    generalize hSS : Sp.lays m l = S at *
    have hRo := fun p' (h4 : Four σ q p' x y) t => (both_ref (s := t) h4 hg).obj
    have hRr := fun p' (h4 : Four σ q p' x y) t => (both_ref (s := t) h4 hg).row
    unfold rfO at hRo
    have hcl := fun τ (hτ : Prg τ q p N0) => clear_calls (σ := τ) true hτ.good.model hτ.obj
    have hN0 : N0 = Sp.clear ⟨2 + m.toNat % 4, false, [], 0⟩ false := hN.symm
    have hN1 : N0.clear true = Sp.clear ⟨2 + m.toNat % 4, false, [], 0⟩ true := by rw [hN0]; rfl
    have hz := upTo_zero S
    rw [hmod] at hz
    have hen : ∀ (j : Nat) (hj : j < S.cells.length), ((cellsO S.cells).drop (j * 6)).take 6 = cellC S.cells[j] := fun j hj => cellsO_get hj
    have hcl6 := cellsO_length S.cells
    have hSl := hg.len
    have hSn := S.n_le
    have hmain : ∀ p', Four σ q p' x y → True := fun _ _ => trivial
    by_cases halt : S.alt = true
    · rw [halt] at hz
      rw [← hN1] at hz
      simp [hRo p h4, halt]
      refine callK.of (hcl _ (both_prg h4 hng)) ?_
      rintro v σ' ⟨rfl, p', hp', rfl⟩
      have h4' : Four σ q p' x y := by
        simp only [both, putS, supd_apply, ite_none] at hp'
        obtain ⟨f1, f2, f3, f4, f5, f6, f7, f8, f9, f10⟩ := h4
        exact ⟨f1, hp'.2.2.2.2, f3, f4, Ne.symm hp'.2.1, f6, f7, hp'.2.2.2.1, hp'.2.2.1, f10⟩
      rw [← hz]
      have hsub : Store.sub (both σ q p' x y (upTo S 0) S) (putS spO (both σ q p x y N0 S) q p' (upTo S 0)) := by
        have h10 := h4'
        obtain ⟨f1, f2, f3, f4, f5, f6, f7, f8, f9, f10⟩ := h4
        obtain ⟨g1, g2, g3, g4, g5, g6, g7, g8, g9, g10⟩ := h4'
        simp only [both, putS]
        (intro q; simp only [Store.upd, Store.del]; (repeat' split) <;> first | exact Or.inr rfl | exact Or.inl rfl | (exfalso; omega) | (left; subst_vars; assumption) | simp_all)
      have e1 : putS spO (both σ q p x y N0 S) q p' (upTo S 0) x = some (rfO S y) := by
        obtain ⟨f1, f2, f3, f4, f5, f6, f7, f8, f9, f10⟩ := h4
        obtain ⟨g1, g2, g3, g4, g5, g6, g7, g8, g9, g10⟩ := h4'
        simp [both, putS, Ne.symm f6, Ne.symm f8, Ne.symm g8, f10]
      unfold rfO at e1
      simp [e1, rowC]
      clear e1
      refine codeK.loop follows (st := st10) (plans := pl10) (X := Nat) (fun j => j ≤ S.n)
        (fun j => [(1, byteA u), (11, ptrA q), (13, ptrA x), (53, rowC y S.n), (54, .lit (.int .i64 S.n)), (55, .lit (.int .i64 j))])
        (fun j => both σ q p' x y (upTo S j) S) (fun j => S.n - j) 0 (by kernel_rfl) (by simp) (by simp [rowC]) hsub fun j hj => ?_
      by_cases hlt : j < S.n
      · have hw : IntKind.i64.wrap ((j : Int) + 1) = ((j + 1 : Nat) : Int) := wrap_i64 (by omega) (by omega)
        have hjc : j < S.cells.length := by omega
        have hnx := upTo_next hg hlt hjc
        have hsm := upTo_same hg hlt hjc
        have hgj := hen j hjc
        have hP := both_prg (t := S) h4' (upTo_good hg hj)
        have hst := fun τ (hτ : Prg τ q p' (upTo S j)) => set_calls hτ (j : Int) S.cells[j]
        rw [← hnx] at hst
        have hz0 := eqLits_zero S.cells[j]
        have hcx : cellC S.cells[j] = [byteA S.cells[j].char, .lit (.bool S.cells[j].attr), byteA S.cells[j].fa, byteA S.cells[j].high, byteA S.cells[j].color, byteA S.cells[j].set] := rfl
        rw [hcx] at hgj
        rw [cellA_eq] at hst
        have hrow := hRr p' h4' (upTo S j)
        generalize S.cells[j] = c at *
        have hle : j * 6 + 6 ≤ (cellsO S.cells).length := by omega
        by_cases hc : c = .zero
        · have hsm := hsm hc
          have hz1 := hz0.trans (congrArg some (decide_eq_true hc))
          clear hc
          simp +contextual [-e_eqLits_2, rowC, hlt, hrow, hle, hgj, hz1]
          intro b hb
          refine ⟨j + 1, by omega, by omega, by rw [hw]; exact AV.le_refl _, ?_⟩
          rw [hsm]
          exact sub_upd_self _ _ _ hb
        · have hz1 := hz0.trans (congrArg some (decide_eq_false hc))
          simp +contextual [-e_eqLits_2, rowC, hlt, hrow, hle, hgj, hz1]
          intro b hb
          refine callK.of (hst _ (hP.new hb _)) ?_
          rintro v σ' ⟨rfl, rfl⟩
          obtain ⟨m1, m2, m3, m4⟩ := hP.fresh hb
          simp
          refine ⟨j + 1, by omega, by omega, by rw [hw]; exact AV.le_refl _, ?_⟩
          simp only [both, putS] at hb ⊢
          simp only [supd_apply, ite_none] at hb
          obtain ⟨b1, b2, b3, b4, b5⟩ := hb
          clear hrow hst hP hnx hsm hgj hcx hz0
          (intro q; simp only [Store.upd, Store.del]; (repeat' split) <;> first | exact Or.inr rfl | exact Or.inl rfl | (exfalso; omega) | (left; subst_vars; assumption) | simp_all)
      · obtain rfl : j = S.n := by omega
        have h7 : (u.toNat : Int).tmod 7 = ((u.toNat % 7 : Nat) : Int) := rfl
        have hw7 : IntKind.u8.wrap ((u.toNat % 7 : Nat) : Int) = ((u.toNat % 7 : Nat) : Int) := wrap_u8 (by omega) (by omega)
        by_cases h6 : u.toNat % 7 = 6
        · have hw6 : (u.toNat : Int).tmod 7 = 6 := by rw [h7, h6]; rfl
          simp [byteA]
          rw [if_pos hw6]
          exact ⟨_, AV.le_refl _, _, Store.sub_refl _, q, p', x, y, h4', .inl ⟨h6, rfl, rfl⟩⟩
        · have hi7 : u.toNat % 7 < pagesL.length := by have : pagesL.length = 6 := rfl; omega
          have hpv : ((pagesL[u.toNat % 7] : Nat) : Int) = page7 u := by unfold page7; rw [List.getElem?_eq_getElem hi7]; rfl
          have hok := page7_ok u
          have hw6 : ¬ (u.toNat : Int).tmod 7 = 6 := by rw [h7]; omega
          have hfin : ∀ b : Nat, both σ q p' x y (upTo S S.n) S b = none → SLay σ u S (.tuple [ptrA q, ptrA x, pgP b, .lit (.int .i64 (page7 u))]) (pgS b (page7 u) none (both σ q p' x y (upTo S S.n) S)) := fun b hb => ⟨q, p', x, y, h4', .inr ⟨h6, b, hb, rfl, rfl⟩⟩
          simp [byteA]
          rw [if_neg hw6]
          refine callK.eq (pages7_calls _) ?_
          clear hw7 hw6
          generalize u.toNat % 7 = j7 at *
          generalize hL7 : pagesL = L7 at *
          have h60 : ¬ (j7 : Int) < 0 := by omega
          generalize both σ q p' x y (upTo S S.n) S = BB at *
          generalize page7 u = nn at *
          simp [h7, hi7, hpv, h60]
          refine callK.of (page_new nn hok _) ?_
          rintro v σ' ⟨b0, hb0, rfl, rfl⟩
          simp
          have hpc := fun τ => pages7_calls τ
          rw [hL7] at hpc
          repeat' apply And.intro
          all_goals
            refine callK.eq (hpc _) ?_
            simp [h7, hi7, hpv, h60]
            first | exact ⟨_, AV.le_refl _, _, Store.sub_refl _, hfin b0 hb0⟩ | trace_state
    · have halt' : S.alt = false := by simpa using halt
      rw [halt'] at hz
      rw [← hN0] at hz
      rw [← hz]
      have h4' := h4
      have hsub := Store.sub_refl (both σ q p x y (upTo S 0) S)
      obtain ⟨p', hpp⟩ : ∃ p', p' = p := ⟨_, rfl⟩
      have e1 := hRo p h4 (upTo S 0)
      rw [halt'] at e1
      simp [e1]
      rw [← hpp] at h4' hsub e1 ⊢
      simp [rowC]
      clear e1
      refine codeK.loop follows (st := st10) (plans := pl10) (X := Nat) (fun j => j ≤ S.n)
        (fun j => [(1, byteA u), (11, ptrA q), (13, ptrA x), (53, rowC y S.n), (54, .lit (.int .i64 S.n)), (55, .lit (.int .i64 j))])
        (fun j => both σ q p' x y (upTo S j) S) (fun j => S.n - j) 0 (by kernel_rfl) (by simp) (by simp [rowC]) hsub fun j hj => ?_
      by_cases hlt : j < S.n
      · have hw : IntKind.i64.wrap ((j : Int) + 1) = ((j + 1 : Nat) : Int) := wrap_i64 (by omega) (by omega)
        have hjc : j < S.cells.length := by omega
        have hnx := upTo_next hg hlt hjc
        have hsm := upTo_same hg hlt hjc
        have hgj := hen j hjc
        have hP := both_prg (t := S) h4' (upTo_good hg hj)
        have hst := fun τ (hτ : Prg τ q p' (upTo S j)) => set_calls hτ (j : Int) S.cells[j]
        rw [← hnx] at hst
        have hz0 := eqLits_zero S.cells[j]
        have hcx : cellC S.cells[j] = [byteA S.cells[j].char, .lit (.bool S.cells[j].attr), byteA S.cells[j].fa, byteA S.cells[j].high, byteA S.cells[j].color, byteA S.cells[j].set] := rfl
        rw [hcx] at hgj
        rw [cellA_eq] at hst
        have hrow := hRr p' h4' (upTo S j)
        generalize S.cells[j] = c at *
        have hle : j * 6 + 6 ≤ (cellsO S.cells).length := by omega
        by_cases hc : c = .zero
        · have hsm := hsm hc
          have hz1 := hz0.trans (congrArg some (decide_eq_true hc))
          clear hc
          simp +contextual [-e_eqLits_2, rowC, hlt, hrow, hle, hgj, hz1]
          intro b hb
          refine ⟨j + 1, by omega, by omega, by rw [hw]; exact AV.le_refl _, ?_⟩
          rw [hsm]
          exact sub_upd_self _ _ _ hb
        · have hz1 := hz0.trans (congrArg some (decide_eq_false hc))
          simp +contextual [-e_eqLits_2, rowC, hlt, hrow, hle, hgj, hz1]
          intro b hb
          refine callK.of (hst _ (hP.new hb _)) ?_
          rintro v σ' ⟨rfl, rfl⟩
          obtain ⟨m1, m2, m3, m4⟩ := hP.fresh hb
          simp
          refine ⟨j + 1, by omega, by omega, by rw [hw]; exact AV.le_refl _, ?_⟩
          simp only [both, putS] at hb ⊢
          simp only [supd_apply, ite_none] at hb
          obtain ⟨b1, b2, b3, b4, b5⟩ := hb
          clear hrow hst hP hnx hsm hgj hcx hz0
          (intro q; simp only [Store.upd, Store.del]; (repeat' split) <;> first | exact Or.inr rfl | exact Or.inl rfl | (exfalso; omega) | (left; subst_vars; assumption) | simp_all)
      · obtain rfl : j = S.n := by omega
        have h7 : (u.toNat : Int).tmod 7 = ((u.toNat % 7 : Nat) : Int) := rfl
        have hw7 : IntKind.u8.wrap ((u.toNat % 7 : Nat) : Int) = ((u.toNat % 7 : Nat) : Int) := wrap_u8 (by omega) (by omega)
        by_cases h6 : u.toNat % 7 = 6
        · have hw6 : (u.toNat : Int).tmod 7 = 6 := by rw [h7, h6]; rfl
          simp [byteA]
          rw [if_pos hw6]
          exact ⟨_, AV.le_refl _, _, Store.sub_refl _, q, p', x, y, h4', .inl ⟨h6, rfl, rfl⟩⟩
        · have hi7 : u.toNat % 7 < pagesL.length := by have : pagesL.length = 6 := rfl; omega
          have hpv : ((pagesL[u.toNat % 7] : Nat) : Int) = page7 u := by unfold page7; rw [List.getElem?_eq_getElem hi7]; rfl
          have hok := page7_ok u
          have hw6 : ¬ (u.toNat : Int).tmod 7 = 6 := by rw [h7]; omega
          have hfin : ∀ b : Nat, both σ q p' x y (upTo S S.n) S b = none → SLay σ u S (.tuple [ptrA q, ptrA x, pgP b, .lit (.int .i64 (page7 u))]) (pgS b (page7 u) none (both σ q p' x y (upTo S S.n) S)) := fun b hb => ⟨q, p', x, y, h4', .inr ⟨h6, b, hb, rfl, rfl⟩⟩
          simp [byteA]
          rw [if_neg hw6]
          refine callK.eq (pages7_calls _) ?_
          clear hw7 hw6
          generalize u.toNat % 7 = j7 at *
          generalize hL7 : pagesL = L7 at *
          have h60 : ¬ (j7 : Int) < 0 := by omega
          generalize both σ q p' x y (upTo S S.n) S = BB at *
          generalize page7 u = nn at *
          simp [h7, hi7, hpv, h60]
          refine callK.of (page_new nn hok _) ?_
          rintro v σ' ⟨b0, hb0, rfl, rfl⟩
          simp
          have hpc := fun τ => pages7_calls τ
          rw [hL7] at hpc
          repeat' apply And.intro
          all_goals
            refine callK.eq (hpc _) ?_
            simp [h7, hi7, hpv, h60]
            first | exact ⟨_, AV.le_refl _, _, Store.sub_refl _, hfin b0 hb0⟩ | trace_state
end Go.Proofs.YtlmdbcgceijlnaaGreatDoor
/-
  The document's fields: where attributes are, where fields start, which places they have.
-/
namespace Go.Proofs.YtlmdbcgceijlnaaGreatDoor
open Go Go.AL Go.Sp

@[simp] theorem natsA_length (l : List Nat) : (natsA l).length = l.length := by simp [natsA, natA]
theorem le_row (p n : Nat) : AV.le (.lit (.slice (some ⟨p, 0, none⟩) n n)) (.row p n) := by
  intro F v h
  cases h
  exact ⟨.row p n n (Nat.le_refl _), fun G D r h => OwnAt.of_plain rfl⟩
def attrsTo (s : Sp) (m : Nat) : List Nat := (List.range m).filter (isAt s)
theorem attrsTo_succ (s : Sp) (m : Nat) : attrsTo s (m + 1) = attrsTo s m ++ (if isAt s m = true then [m] else []) := by
  unfold attrsTo
  rw [List.range_succ, List.filter_append, List.filter_cons, List.filter_nil]
theorem attrsTo_length (s : Sp) (m : Nat) : (attrsTo s m).length ≤ m := by
  unfold attrsTo; have := List.length_filter_le (isAt s) (List.range m); simpa using this
theorem attrsTo_all {s : Sp} (h : s.good) : attrsTo s s.n = s.attrs := (attrs_eq s h).symm

set_option maxRecDepth 8000 in
theorem attrs_calls {x y : Nat} {s : Sp} {σ : Store} (h : Ref σ x y s) : ACalls Tryz.prog 79 [ptrA x] σ fun v σ' => v = .list false 1 (natsA s.attrs) ∧ σ' = σ := by
  have ho := h.obj
  have hr := h.row
  have hg := h.good
  have hln := hg.len
  have hn := s.n_le
  unfold rfO at ho
  refine ACalls.of_awp follows (st := st79) (plans := pl79) (n := 24) Tryz.func79 rfl (by kernel_rfl) (by kernel_rfl) (by kernel_rfl) ?_
  simp [ho, rowC]
  refine codeK.loop follows (st := st79) (plans := pl79) (X := Nat) (fun i => i ≤ s.n)
    (fun i => [(3, .list true 1 (natsA (attrsTo s i))), (9, rowC y s.n), (10, .lit (.int .i64 s.n)), (11, .lit (.int .i64 i))])
    (fun _ => σ) (fun i => s.n - i) 0 (by kernel_rfl) (by simp) (by simp [rowC, attrsTo, natsA]) (Store.sub_refl _) fun i hi => ?_
  by_cases hlt : i < s.n
  · have hw : IntKind.i64.wrap ((i : Int) + 1) = ((i + 1 : Nat) : Int) := wrap_i64 (by omega) (by omega)
    have hic : i < s.cells.length := by omega
    have hgi := cellsO_get hic
    have hcx : cellC s.cells[i] = [byteA s.cells[i].char, .lit (.bool s.cells[i].attr), byteA s.cells[i].fa, byteA s.cells[i].high, byteA s.cells[i].color, byteA s.cells[i].set] := rfl
    rw [hcx] at hgi
    have hle : i * 6 + 6 ≤ (cellsO s.cells).length := by rw [cellsO_length]; omega
    have hat : isAt s i = s.cells[i].attr := by simp [isAt, hic]
    have hsu := attrsTo_succ s i
    have hal := attrsTo_length s i
    rw [hat] at hsu
    generalize s.cells[i] = c at *
    by_cases hca : c.attr = true
    · rw [if_pos hca] at hsu
      have e1 : natsA (attrsTo s (i + 1)) = natsA (attrsTo s i) ++ [.lit (.int .i64 (i : Nat))] := by rw [hsu, natsA_append]; rfl
      simp +contextual [rowC, hlt, hr, hle, hgi, hca]
      intro b hb
      refine ⟨by omega, by omega, i + 1, by omega, by omega, by rw [e1]; exact AV.le_refl _, by rw [hw]; exact AV.le_refl _⟩
    · rw [if_neg hca, List.append_nil] at hsu
      have hcf : c.attr = false := by simpa using hca
      simp +contextual [rowC, hlt, hr, hle, hgi, hcf]
      intro b hb
      refine ⟨i + 1, by omega, by omega, by rw [hsu]; exact AV.le_refl _, by rw [hw]; exact AV.le_refl _⟩
  · obtain rfl : i = s.n := by omega
    rw [attrsTo_all hg]
    simp

theorem lastA_attrs (s : Sp) : ∀ m : Nat, lastA s.cells (-1) m = match (attrsTo s m).getLast? with | some a => (a : Int) | none => -1
  | 0 => rfl
  | m + 1 => by
    rw [attrsTo_succ, lastA]
    by_cases h : isAt s m = true
    · have h' : attrAt s.cells m = true := h
      rw [if_pos h, if_pos h', List.getLast?_append]; rfl
    · have h' : ¬ attrAt s.cells m = true := h
      rw [if_neg h, if_neg h', List.append_nil]; exact lastA_attrs s m
def intsA (l : List Int) : List AV := l.map fun n => .lit (.int .i64 n)
@[simp] theorem intsA_length (l : List Int) : (intsA l).length = l.length := by simp [intsA]
/-- What Starts has written when it has come to m. -/
def startsTo (s : Sp) (m : Nat) : List Int := (List.range m).map (fun i => startS s.cells i) ++ List.replicate (s.n - m) 0
theorem startsTo_length (s : Sp) {m : Nat} (h : m ≤ s.n) : (startsTo s m).length = s.n := by simp [startsTo]; omega
theorem startsTo_succ (s : Sp) {m : Nat} (h : m < s.n) : startsTo s (m + 1) = (startsTo s m).set m (startS s.cells m) := by
  unfold startsTo
  rw [List.range_succ, List.map_append, List.set_append_right (h := by simp), show s.n - m = (s.n - (m + 1)) + 1 by omega, List.replicate_succ]
  simp
def starts (s : Sp) : List Int := (List.range s.n).map fun i => startS s.cells i
theorem startsTo_all (s : Sp) : startsTo s s.n = starts s := by simp [startsTo, starts]
theorem startsTo_zero (s : Sp) : startsTo s 0 = List.replicate s.n 0 := by simp [startsTo]
theorem intsA_set (l : List Int) (i : Nat) (n : Int) : (intsA l).set i (.lit (.int .i64 n)) = intsA (l.set i n) := by simp [intsA, List.map_set]
/-- Before m is reached, the last attribute. -/
def lastTo (s : Sp) (m : Nat) : Int := lastA s.cells (lastA s.cells (-1) s.cells.length) m
theorem lastTo_succ (s : Sp) (m : Nat) : lastTo s (m + 1) = if isAt s m = true then (m : Int) else lastTo s m := rfl
theorem startS_eq (s : Sp) (m : Nat) : startS s.cells m = lastTo s (m + 1) := rfl

theorem natsA_last {l : List Nat} {a : Nat} (h : l.getLast? = some a) : (natsA l)[l.length - 1]? = some (.lit (.int .i64 a)) := by
  rw [List.getLast?_eq_getElem?] at h
  simp [natsA, natA, h]
theorem attrs_length (s : Sp) : s.attrs.length ≤ s.cells.length := by
  have h2 : s.attrs.length ≤ (List.range s.cells.length).length := by unfold Sp.attrs; exact List.length_filter_le _ _
  simpa using h2
theorem sub_over {σ : Store} {p b : Nat} {X Y Z : List AV} (hb : σ b = none) (hn : ¬ b = p) : Store.sub (σ.upd p X) (((σ.upd p Y).upd b Z).upd p X) := by
  refine Store.sub2 (fun o => ?_) (fun i => by simp)
  simp only [supd_apply]
  by_cases h1 : o = p
  · right; simp [h1]
  · by_cases h2 : o = b
    · left; simp [h2, hb, hn]
    · right; simp [h1, h2]

set_option maxRecDepth 8000 in
theorem starts_calls {x y : Nat} {s : Sp} {σ : Store} (h : Ref σ x y s) : ACalls Tryz.prog 68 [ptrA x] σ fun v σ' => ∃ p : Nat, σ p = none ∧ v = rowC p s.n ∧ σ' = σ.upd p (intsA (starts s)) := by
  have ho := h.obj
  have hr := h.row
  have hg := h.good
  have hln := hg.len
  have hn := s.n_le
  have hat := attrs_calls h
  have hlast : lastTo s 0 = match s.attrs.getLast? with | some a => (a : Int) | none => -1 := by
    rw [← attrsTo_all hg]; rw [← hln]; exact lastA_attrs s s.cells.length
  have hal := attrs_length s
  unfold rfO at ho
  have hi1 : (s.n : Int) ≤ 9223372036854775807 := by omega
  have hi2 : 8 * (s.n : Int) ≤ 281474976710656 := by omega
  have hz0 : List.replicate s.n (.lit (.int .i64 0)) = intsA (startsTo s 0) := by rw [startsTo_zero]; simp [intsA]
  refine ACalls.of_awp follows (st := st68) (plans := pl68) (n := 44) Tryz.func68 rfl (by kernel_rfl) (by kernel_rfl) (by kernel_rfl) ?_
  simp
  refine callK.of hat ?_
  rintro v σ' ⟨rfl, rfl⟩
  generalize s.attrs = L at *
  have hxy := h.ne
  cases hL : L.getLast?
  case' none =>
    rw [hL] at hlast
    have hl0 : L.length = 0 := by rw [List.getLast?_eq_none_iff] at hL; simp [hL]
    dsimp only at hlast
    simp [ho, rowC, hi1, hi2, hl0, hz0]
    intro p hp
    obtain ⟨f1, f2, f3, f4⟩ := h.fresh hp
    simp [f1]
  case' some a =>
    rw [hL] at hlast
    dsimp only at hlast
    have hget := natsA_last hL
    have hl0 : 0 < L.length := by
      rcases L with _ | ⟨b, L⟩
      · cases hL
      · simp
    have hw0 : IntKind.i64.wrap ((L.length : Int) - 1) = ((L.length - 1 : Nat) : Int) := by rw [wrap_i64 (by omega) (by omega)]; omega
    have hl1 : L.length - 1 < L.length := by omega
    have hw1 : (0 : Int) ≤ ((L.length - 1 : Nat) : Int) := by omega
    simp [ho, rowC, hi1, hi2, hl0, hz0, hw0, hget, hw1]
    intro p hp
    obtain ⟨f1, f2, f3, f4⟩ := h.fresh hp
    simp [f1]
  all_goals
    refine codeK.loop follows (st := st68) (plans := pl68) (X := Nat) (fun i => i ≤ s.n)
      (fun i => [(4, rowC p s.n), (5, .lit (.int .i64 (lastTo s i))), (28, rowC y s.n), (29, .lit (.int .i64 s.n)), (30, .lit (.int .i64 i))])
      (fun i => σ'.upd p (intsA (startsTo s i))) (fun i => s.n - i) 0 (by kernel_rfl) (by simp) (by simp [rowC, hlast, le_row]) (Store.sub_refl _) fun i hi => ?_
    by_cases hlt : i < s.n
    · have hw : IntKind.i64.wrap ((i : Int) + 1) = ((i + 1 : Nat) : Int) := wrap_i64 (by omega) (by omega)
      have hic : i < s.cells.length := by omega
      have hgi := cellsO_get hic
      have hcx : cellC s.cells[i] = [byteA s.cells[i].char, .lit (.bool s.cells[i].attr), byteA s.cells[i].fa, byteA s.cells[i].high, byteA s.cells[i].color, byteA s.cells[i].set] := rfl
      rw [hcx] at hgi
      have hle : i * 6 + 6 ≤ (cellsO s.cells).length := by rw [cellsO_length]; omega
      have hia : isAt s i = s.cells[i].attr := by simp [isAt, hic]
      have hla := lastTo_succ s i
      have hst := startsTo_succ s hlt
      have hsl := startsTo_length s hi
      rw [startS_eq] at hst
      rw [hia] at hla
      generalize s.cells[i] = c at *
      by_cases hca : c.attr = true
      · rw [if_pos hca] at hla
        rw [hla] at hst
        simp +contextual [rowC, hlt, hr, hle, hgi, ite_free, hca, f2]
        intro b n1 n2 hb
        refine ⟨by omega, i + 1, by omega, by omega, ⟨by rw [hla]; exact AV.le_refl _, by rw [hw]; exact AV.le_refl _⟩, ?_⟩
        rw [hst, ← intsA_set]
        exact sub_over hb n1
      · rw [if_neg hca] at hla
        have hcf : c.attr = false := by simpa using hca
        rw [hla] at hst
        simp +contextual [rowC, hlt, hr, hle, hgi, ite_free, hcf, f2]
        intro b n1 n2 hb
        refine ⟨by omega, i + 1, by omega, by omega, ⟨by rw [hla]; exact AV.le_refl _, by rw [hw]; exact AV.le_refl _⟩, ?_⟩
        rw [hst, ← intsA_set]
        exact sub_over hb n1
    · obtain rfl : i = s.n := by omega
      rw [startsTo_all]
      simp [rowC]
      exact ⟨_, AV.le_refl _, _, Store.sub_refl _, p, hp, rfl, rfl⟩

set_option maxRecDepth 8000 in
theorem rfield_calls {x y : Nat} {s : Sp} {σ : Store} (h : Ref σ x y s) (a : Nat) (ha : a < s.n) : ACalls Tryz.prog 46 [ptrA x, .lit (.int .i64 a)] σ fun v σ' => v = fldA (fld (s.cells[a]?.getD .zero).fa) ∧ σ' = σ := by
  have ho := h.obj
  have hr := h.row
  have hln := h.good.len
  unfold rfO at ho
  have hac : a < s.cells.length := by omega
  have h2 : (cellsO s.cells)[a * 6 + 2]? = some (byteA s.cells[a].fa) := cellsO_get1 hac (by omega)
  have hle : a * 6 + 6 ≤ (cellsO s.cells).length := by rw [cellsO_length]; omega
  rw [show s.cells[a]?.getD .zero = s.cells[a] by simp [hac]]
  generalize s.cells[a] = c at *
  have hof := rof_calls c.fa
  have hfa : ∀ f : Fld, fldA f = .agg [.lit (.bool f.prot), .lit (.bool f.num), .lit (.int .i64 f.disp), .lit (.bool f.mod)] := fun _ => rfl
  rw [hfa] at hof ⊢
  refine ACalls.of_awp follows (st := st46) (plans := pl46) (n := 14) Tryz.func46 rfl (by kernel_rfl) (by kernel_rfl) (by kernel_rfl) ?_
  simp
  intro b hb
  obtain ⟨f1, f2, f3, f4⟩ := h.fresh hb
  simp [ho, rowC, ha, hr, h2, f1, f2]
  refine callK.of (hof _) ?_
  rintro v σ' ⟨rfl, rfl⟩
  simp
  (intro q; simp only [Store.upd, Store.del]; (repeat' split) <;> first | exact Or.inr rfl | exact Or.inl rfl | (exfalso; omega) | (left; subst_vars; assumption) | simp_all)
/-- The places of a field's cells, from the first on. -/
theorem places_take_succ {s : Sp} {a k : Nat} (h : k < Sp.len s.cells a) : (Sp.places s.cells a).take (k + 1) = (Sp.places s.cells a).take k ++ [(a + k + 1) % s.cells.length] := by
  have hl : k < (Sp.places s.cells a).length := by rw [places_length']; exact h
  rw [List.take_succ_eq_append_getElem hl, places_get' _ _ _ hl]
theorem starts_at {s : Sp} {m : Nat} (h : m < s.n) : (intsA (starts s))[m]? = some (.lit (.int .i64 (startS s.cells m))) := by
  simp [intsA, starts, h]

end Go.Proofs.YtlmdbcgceijlnaaGreatDoor
