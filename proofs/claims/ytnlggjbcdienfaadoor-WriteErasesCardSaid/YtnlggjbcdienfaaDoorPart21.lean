/-
  What a host writes.
-/
import Derived.Test.YtnlggjbcdienfaaDoorPart20
namespace Go.Proofs.YtnlggjbcdienfaaDoor
open Go Go.AL Go.Sp

/-- What is answered to a write. -/
structure Res where
  cmd : Nat
  restore : Bool
  alarm : Bool
  reset : Bool
  pieces : Nat
/-- The screen on which the orders begin. -/
def beginS (s : Sp) (cmd : Nat) (ctl : UInt8) : Sp := if cmd = 1 then (if ctl &&& 1 = 0 then s else unmodS s) else s.clear (decide (cmd = 3))
def ctlOf (l : List UInt8) : UInt8 := l.headD 0
def penF (s : Sp) (cmd : Nat) (l : List UInt8) : Pen × Nat × Nat := ordS l.tail (pen0 (beginS s cmd (ctlOf l)) (wrap (beginS s cmd (ctlOf l)).n (beginS s cmd (ctlOf l)).cursor)) 0
def resF (s : Sp) (cmd : Nat) (l : List UInt8) : Res :=
  let e := decide ((penF s cmd l).2.2 = 0)
  ⟨cmd, e && !(ctlOf l &&& 2 == 0), e && !(ctlOf l &&& 4 == 0), e && !(ctlOf l &&& 64 == 0), (penF s cmd l).2.1⟩
def resC (x : Res) (f : AV) : List AV := [.lit (.int .i64 x.cmd), .lit (.bool x.restore), .lit (.bool x.alarm), .lit (.bool x.reset), .lit (.int .i64 x.pieces), f]
theorem three {P A B C : Prop} (h : A ∨ B ∨ C) (a : A → P) (b : B → P) (c : C → P) : P := h.elim a fun h => h.elim b c
theorem begin_w (s : Sp) (c : UInt8) (h : c &&& 1 = 0) : beginS s 1 c = s := by simp [beginS, h]
theorem begin_u (s : Sp) (c : UInt8) (h : ¬ c &&& 1 = 0) : beginS s 1 c = unmodS s := by simp [beginS, h]
theorem begin_e (s : Sp) (k : Nat) (c : UInt8) (h : ¬ k = 1) : beginS s k c = s.clear (decide (k = 3)) := by simp [beginS, h]
theorem unmodS_same {s : Sp} (h : s.good) : SameN s (unmodS s) := by
  rw [← unmodTo_all s]; exact (keep_unmodTo h _).same
theorem pen0_lt (s : Sp) (k : Int) : (pen0 s (wrap s.n k)).n < s.n := wrap_lt s.n_pos k
theorem bit_ne (c m : UInt8) : (((c &&& m).toNat : Int) != 0) = !(c &&& m == 0) := by
  have : ((c &&& m).toNat : Int) = 0 ↔ c &&& m = 0 := ⟨fun h => UInt8.toNat_inj.mp (by have z : (0 : UInt8).toNat = 0 := rfl; omega), fun h => by rw [h]; rfl⟩
  by_cases h : c &&& m = 0
  · simp [h]
  · have h2 : ¬ ((c &&& m).toNat : Int) = 0 := fun e => h (this.mp e)
    rw [bne_iff_ne.mpr h2]; simp [h]
theorem clear_lv {σ ρ : Store} {q p : Nat} {s : Sp} (h : Store.sub σ ρ) (hq : ¬ q = p) (hs : s.good) : Lv σ (putS spO ρ q p s) q p s := by
  refine ⟨Scr.of_put hq hs, fun o => ?_⟩
  by_cases h1 : o = q
  · subst h1; right; simp [putS]
  · by_cases h2 : o = p
    · subst h2; right; simp [putS]
    · rw [putS_at h1 h2, putS_at h1 h2]; exact h o
set_option maxRecDepth 8000 in
set_option maxHeartbeats 1000000 in
theorem written_calls {q r : Nat} {s : Sp} {σ : Store} (h : Prg σ q r s) (cmd : Nat) (o : Bool) (l : List UInt8) (hl : l.length ≤ 1000000000) :
    ACalls Tryd.prog 31 [ptrA q, .agg [.lit (.int .i64 cmd), .lit (.bool false), .lit (.bool false), .lit (.bool false), .lit (.int .i64 0), .list false 1 []], .list o 1 (bytesA l)] σ fun v σ' =>
      v = .tuple [.agg (resC (resF s cmd l) (.list false 1 [])), .lit (.int .i64 (penF s cmd l).2.2)] ∧ ∃ r', (r' = r ∨ σ r' = none) ∧ σ' = putS spO σ q r' (penF s cmd l).1.s := by
  refine three (A := cmd = 1 ∧ ctlOf l &&& 1 = 0) (B := cmd = 1 ∧ ¬ ctlOf l &&& 1 = 0) (C := ¬ cmd = 1) (by by_cases a : cmd = 1 <;> by_cases b : ctlOf l &&& 1 = 0 <;> simp [a, b]) ?wn ?wu ?er
  case' wn =>
    rintro ⟨rfl, hb⟩
    have hbeg := begin_w s _ hb
    have hw0 : IntKind.u8.wrap 0 = 0 := rfl
    have hs1 : SameN s s := SameN.refl h.good
    rcases l with _ | ⟨c, tl⟩
    all_goals
      refine ACalls.of_awp follows (st := st31) (plans := pl31) (n := 59) Tryd.func31 rfl (by kernel_rfl) (by kernel_rfl) (by kernel_rfl) ?_
    case' cons =>
      have hcc : bytesA (c :: tl) = byteA c :: bytesA tl := rfl
      have htk : (bytesA tl).take tl.length = bytesA tl := by rw [← bytesA_length tl, List.take_length]
      have ha1 : pureBin .and (.int .u8 (c.toNat : Int)) (.int .u8 1) = some (.int .u8 ((c &&& 1).toNat : Int)) := and_u8 c 1
      have hb' : c &&& 1 = 0 := hb
      simp +contextual [ite_free, hcc, htk, byteA_lit, ha1, hb', -e_pureBin_8]
    case' nil => simp +contextual [ite_free, hw0]
    all_goals
      intro p hp p1 n1 n2 hp1
      have f1 := h.fresh hp
      have f2 := h.fresh hp1
      have d1 : ¬ p = q ∧ ¬ p = r := f1.2.2
      have d2 : ¬ p1 = q ∧ ¬ p1 = r := f2.2.2
      have hL : Lv σ ((σ.upd p [.lit (.int .i64 1), .lit (.bool false), .lit (.bool false), .lit (.bool false), .lit (.int .i64 0), .list false 1 []]).upd p1 [.lit (.int .i64 0), .lit (.bool false), .lit (.bool false), .lit (.bool false), .lit (.int .i64 0), .list true 1 []]) q r s := ((Lv.refl h).new hp _).new (by simp [n1, hp1]) _
      have hρp : ((σ.upd p [.lit (.int .i64 1), .lit (.bool false), .lit (.bool false), .lit (.bool false), .lit (.int .i64 0), .list false 1 []]).upd p1 [.lit (.int .i64 0), .lit (.bool false), .lit (.bool false), .lit (.bool false), .lit (.int .i64 0), .list true 1 []]) p = some [.lit (.int .i64 1), .lit (.bool false), .lit (.bool false), .lit (.bool false), .lit (.int .i64 0), .list false 1 []] := by simp [n2]
      have hρ1 : ((σ.upd p [.lit (.int .i64 1), .lit (.bool false), .lit (.bool false), .lit (.bool false), .lit (.int .i64 0), .list false 1 []]).upd p1 [.lit (.int .i64 0), .lit (.bool false), .lit (.bool false), .lit (.bool false), .lit (.int .i64 0), .list true 1 []]) p1 = some [.lit (.int .i64 0), .lit (.bool false), .lit (.bool false), .lit (.bool false), .lit (.int .i64 0), .list true 1 []] := by simp
      generalize hX : ((σ.upd p _).upd p1 _) = ρ at *
      clear hX
    case' cons =>
      obtain ⟨r', s1, hL, hs1, hbeg, hr', d1, d2⟩ : ∃ r' s1, Lv σ ρ q r' s1 ∧ s1.good ∧ beginS s 1 (ctlOf (c :: tl)) = s1 ∧ (r' = r ∨ σ r' = none) ∧ (¬ p = q ∧ ¬ p = r') ∧ (¬ p1 = q ∧ ¬ p1 = r') := ⟨_, _, hL, hs1.1, hbeg, .inl rfl, d1, d2⟩
    case' nil =>
      obtain ⟨r', s1, hL, hs1, hbeg, hr', d1, d2⟩ : ∃ r' s1, Lv σ ρ q r' s1 ∧ s1.good ∧ beginS s 1 (ctlOf []) = s1 ∧ (r' = r ∨ σ r' = none) ∧ (¬ p = q ∧ ¬ p = r') ∧ (¬ p1 = q ∧ ¬ p1 = r') := ⟨_, _, hL, hs1.1, hbeg, .inl rfl, d1, d2⟩
  case' wu =>
    rintro ⟨rfl, hb⟩
    have hbeg := begin_u s _ hb
    have hs1 : SameN s (unmodS s) := unmodS_same h.good
    rcases l with _ | ⟨c, tl⟩
    all_goals
      refine ACalls.of_awp follows (st := st31) (plans := pl31) (n := 59) Tryd.func31 rfl (by kernel_rfl) (by kernel_rfl) (by kernel_rfl) ?_
    case' cons =>
      have hcc : bytesA (c :: tl) = byteA c :: bytesA tl := rfl
      have htk : (bytesA tl).take tl.length = bytesA tl := by rw [← bytesA_length tl, List.take_length]
      have ha1 : pureBin .and (.int .u8 (c.toNat : Int)) (.int .u8 1) = some (.int .u8 ((c &&& 1).toNat : Int)) := and_u8 c 1
      have hb' : ¬ c &&& 1 = 0 := hb
      have hb2 : ¬ ((c &&& 1).toNat = 0) := fun e => hb' (UInt8.toNat_inj.mp (by have z : (0 : UInt8).toNat = 0 := rfl; omega))
      simp +contextual [ite_free, hcc, htk, byteA_lit, ha1, hb2, -e_pureBin_8, -UInt8.toNat_and]
    case' nil => exact absurd rfl hb
    case' cons =>
      intro p hp p1 n1 n2 hp1
      have f1 := h.fresh hp
      have f2 := h.fresh hp1
      have d1 : ¬ p = q ∧ ¬ p = r := f1.2.2
      have d2 : ¬ p1 = q ∧ ¬ p1 = r := f2.2.2
      have hL : Lv σ ((σ.upd p [.lit (.int .i64 1), .lit (.bool false), .lit (.bool false), .lit (.bool false), .lit (.int .i64 0), .list false 1 []]).upd p1 [.lit (.int .i64 0), .lit (.bool false), .lit (.bool false), .lit (.bool false), .lit (.int .i64 0), .list true 1 []]) q r s := ((Lv.refl h).new hp _).new (by simp [n1, hp1]) _
      have hρp : ((σ.upd p [.lit (.int .i64 1), .lit (.bool false), .lit (.bool false), .lit (.bool false), .lit (.int .i64 0), .list false 1 []]).upd p1 [.lit (.int .i64 0), .lit (.bool false), .lit (.bool false), .lit (.bool false), .lit (.int .i64 0), .list true 1 []]) p = some [.lit (.int .i64 1), .lit (.bool false), .lit (.bool false), .lit (.bool false), .lit (.int .i64 0), .list false 1 []] := by simp [n2]
      have hρ1 : ((σ.upd p [.lit (.int .i64 1), .lit (.bool false), .lit (.bool false), .lit (.bool false), .lit (.int .i64 0), .list false 1 []]).upd p1 [.lit (.int .i64 0), .lit (.bool false), .lit (.bool false), .lit (.bool false), .lit (.int .i64 0), .list true 1 []]) p1 = some [.lit (.int .i64 0), .lit (.bool false), .lit (.bool false), .lit (.bool false), .lit (.int .i64 0), .list true 1 []] := by simp
      generalize hX : ((σ.upd p _).upd p1 _) = ρ at *
      clear hX
      refine callK.of (unmodify_calls hL.prg) ?_
      rintro v σ' ⟨rfl, rfl⟩
      simp
      replace hL := hL.put hs1.1
      replace hρp := (putS_at (f := spO) (σ := ρ) (s := unmodS s) d1.1 d1.2).trans hρp
      replace hρ1 := (putS_at (f := spO) (σ := ρ) (s := unmodS s) d2.1 d2.2).trans hρ1
      generalize putS spO ρ q r (unmodS s) = ρ1 at *
      obtain ⟨r', s1, hL, hs1, hbeg, hr', d1, d2⟩ : ∃ r' s1, Lv σ ρ1 q r' s1 ∧ s1.good ∧ beginS s 1 (ctlOf (c :: tl)) = s1 ∧ (r' = r ∨ σ r' = none) ∧ (¬ p = q ∧ ¬ p = r') ∧ (¬ p1 = q ∧ ¬ p1 = r') := ⟨_, _, hL, hs1.1, hbeg, .inl rfl, d1, d2⟩
  case' er =>
    intro hc
    have hbeg := begin_e s cmd (ctlOf l) hc
    have hs1 : (s.clear (decide (cmd = 3))).good := Sp.clear_good h.good.model _
    have hci : ¬ ((cmd : Int) = 1) := by omega
    have hc3 : ((cmd : Int) = 3) ↔ cmd = 3 := by omega
    rcases l with _ | ⟨c, tl⟩
    all_goals
      refine ACalls.of_awp follows (st := st31) (plans := pl31) (n := 59) Tryd.func31 rfl (by kernel_rfl) (by kernel_rfl) (by kernel_rfl) ?_
    case' cons =>
      have hcc : bytesA (c :: tl) = byteA c :: bytesA tl := rfl
      have htk : (bytesA tl).take tl.length = bytesA tl := by rw [← bytesA_length tl, List.take_length]
      simp +contextual [ite_free, hcc, htk, byteA_lit, hci]
    case' nil => simp +contextual [ite_free, hci]
    all_goals
      intro p hp p1 n1 n2 hp1
      have f1 := h.fresh hp
      have f2 := h.fresh hp1
      have d1 : ¬ p = q ∧ ¬ p = r := f1.2.2
      have d2 : ¬ p1 = q ∧ ¬ p1 = r := f2.2.2
      have hL : Lv σ ((σ.upd p [.lit (.int .i64 cmd), .lit (.bool false), .lit (.bool false), .lit (.bool false), .lit (.int .i64 0), .list false 1 []]).upd p1 [.lit (.int .i64 0), .lit (.bool false), .lit (.bool false), .lit (.bool false), .lit (.int .i64 0), .list true 1 []]) q r s := ((Lv.refl h).new hp _).new (by simp [n1, hp1]) _
      have hρp : ((σ.upd p [.lit (.int .i64 cmd), .lit (.bool false), .lit (.bool false), .lit (.bool false), .lit (.int .i64 0), .list false 1 []]).upd p1 [.lit (.int .i64 0), .lit (.bool false), .lit (.bool false), .lit (.bool false), .lit (.int .i64 0), .list true 1 []]) p = some [.lit (.int .i64 cmd), .lit (.bool false), .lit (.bool false), .lit (.bool false), .lit (.int .i64 0), .list false 1 []] := by simp [n2]
      have hρ1 : ((σ.upd p [.lit (.int .i64 cmd), .lit (.bool false), .lit (.bool false), .lit (.bool false), .lit (.int .i64 0), .list false 1 []]).upd p1 [.lit (.int .i64 0), .lit (.bool false), .lit (.bool false), .lit (.bool false), .lit (.int .i64 0), .list true 1 []]) p1 = some [.lit (.int .i64 0), .lit (.bool false), .lit (.bool false), .lit (.bool false), .lit (.int .i64 0), .list true 1 []] := by simp
      generalize hX : ((σ.upd p _).upd p1 _) = ρ at *
      clear hX
      have hsub : Store.sub σ ρ := by have := hL.sub; rwa [h.put_self] at this
      have ho := hL.prg.obj
      unfold spO at ho
      have hbq : ((cmd : Int) == 3) = decide (cmd = 3) := by rw [Bool.eq_iff_iff]; simp; omega
      rw [hbq]
      refine callK.of (clear_calls (decide (cmd = 3)) h.good.model ho) ?_
      rintro v σ' ⟨rfl, pp, hpp, rfl⟩
      have gpp := hL.prg.fresh hpp
      have k1 : ¬ p = pp := by rintro rfl; rw [hρp] at hpp; cases hpp
      have k2 : ¬ p1 = pp := by rintro rfl; rw [hρ1] at hpp; cases hpp
      have hrpp : σ pp = none := by
        rcases hsub pp with a | a
        · exact a
        · rw [a]; exact hpp
      replace hL := clear_lv hsub gpp.1 hs1
      replace hρp := (putS_at (f := spO) (σ := ρ) (s := s.clear (decide (cmd = 3))) d1.1 k1).trans hρp
      replace hρ1 := (putS_at (f := spO) (σ := ρ) (s := s.clear (decide (cmd = 3))) d2.1 k2).trans hρ1
      clear ho hsub
      simp
      generalize putS spO ρ q pp (s.clear (decide (cmd = 3))) = ρ2 at *
    case' cons =>
      obtain ⟨r', s1, hL, hs1, hbeg, hr', d1, d2⟩ : ∃ r' s1, Lv σ ρ2 q r' s1 ∧ s1.good ∧ beginS s cmd (ctlOf (c :: tl)) = s1 ∧ (r' = r ∨ σ r' = none) ∧ (¬ p = q ∧ ¬ p = r') ∧ (¬ p1 = q ∧ ¬ p1 = r') := ⟨_, _, hL, hs1, hbeg, .inr hrpp, ⟨d1.1, k1⟩, ⟨d2.1, k2⟩⟩
    case' nil =>
      obtain ⟨r', s1, hL, hs1, hbeg, hr', d1, d2⟩ : ∃ r' s1, Lv σ ρ2 q r' s1 ∧ s1.good ∧ beginS s cmd (ctlOf []) = s1 ∧ (r' = r ∨ σ r' = none) ∧ (¬ p = q ∧ ¬ p = r') ∧ (¬ p1 = q ∧ ¬ p1 = r') := ⟨_, _, hL, hs1, hbeg, .inr hrpp, ⟨d1.1, k1⟩, ⟨d2.1, k2⟩⟩
  case' wu => skip
  case' er.cons =>
    have hpf : penF s cmd (c :: tl) = ordS tl (pen0 s1 (wrap s1.n s1.cursor)) 0 := by unfold penF; rw [hbeg]; rfl
    have hor := fun τ (hτ : Prg τ q r' s1) => orders_calls hτ false tl (by simp at hl; omega) s1.cursor
    have ha2 : pureBin .and (.int .u8 (c.toNat : Int)) (.int .u8 2) = some (.int .u8 ((c &&& 2).toNat : Int)) := and_u8 c 2
    have ha4 : pureBin .and (.int .u8 (c.toNat : Int)) (.int .u8 4) = some (.int .u8 ((c &&& 4).toNat : Int)) := and_u8 c 4
    have ha64 : pureBin .and (.int .u8 (c.toNat : Int)) (.int .u8 64) = some (.int .u8 ((c &&& 64).toNat : Int)) := and_u8 c 64
    have hbq := bit_ne c
    generalize hx : ordS tl (pen0 s1 (wrap s1.n s1.cursor)) 0 = x at *
  case' wn.cons =>
    have hpf : penF s 1 (c :: tl) = ordS tl (pen0 s1 (wrap s1.n s1.cursor)) 0 := by unfold penF; rw [hbeg]; rfl
    have hor := fun τ (hτ : Prg τ q r' s1) => orders_calls hτ false tl (by simp at hl; omega) s1.cursor
    have ha2 : pureBin .and (.int .u8 (c.toNat : Int)) (.int .u8 2) = some (.int .u8 ((c &&& 2).toNat : Int)) := and_u8 c 2
    have ha4 : pureBin .and (.int .u8 (c.toNat : Int)) (.int .u8 4) = some (.int .u8 ((c &&& 4).toNat : Int)) := and_u8 c 4
    have ha64 : pureBin .and (.int .u8 (c.toNat : Int)) (.int .u8 64) = some (.int .u8 ((c &&& 64).toNat : Int)) := and_u8 c 64
    have hbq := bit_ne c
    generalize hx : ordS tl (pen0 s1 (wrap s1.n s1.cursor)) 0 = x at *
  case' wu =>
    have hpf : penF s 1 (c :: tl) = ordS tl (pen0 s1 (wrap s1.n s1.cursor)) 0 := by unfold penF; rw [hbeg]; rfl
    have hor := fun τ (hτ : Prg τ q r' s1) => orders_calls hτ false tl (by simp at hl; omega) s1.cursor
    have ha2 : pureBin .and (.int .u8 (c.toNat : Int)) (.int .u8 2) = some (.int .u8 ((c &&& 2).toNat : Int)) := and_u8 c 2
    have ha4 : pureBin .and (.int .u8 (c.toNat : Int)) (.int .u8 4) = some (.int .u8 ((c &&& 4).toNat : Int)) := and_u8 c 4
    have ha64 : pureBin .and (.int .u8 (c.toNat : Int)) (.int .u8 64) = some (.int .u8 ((c &&& 64).toNat : Int)) := and_u8 c 64
    have hbq := bit_ne c
    generalize hx : ordS tl (pen0 s1 (wrap s1.n s1.cursor)) 0 = x at *
  case' er.nil =>
    have hpf : penF s cmd [] = ordS [] (pen0 s1 (wrap s1.n s1.cursor)) 0 := by unfold penF; rw [hbeg]; rfl
    have hor := fun τ (hτ : Prg τ q r' s1) => orders_calls hτ false [] (by simp) s1.cursor
    have ha2 : pureBin .and (.int .u8 0) (.int .u8 2) = some (.int .u8 0) := rfl
    have ha4 : pureBin .and (.int .u8 0) (.int .u8 4) = some (.int .u8 0) := rfl
    have ha64 : pureBin .and (.int .u8 0) (.int .u8 64) = some (.int .u8 0) := rfl
    have hbq := bit_ne 0
    generalize hx : ordS [] (pen0 s1 (wrap s1.n s1.cursor)) 0 = x at *
  case' wn.nil =>
    have hpf : penF s 1 [] = ordS [] (pen0 s1 (wrap s1.n s1.cursor)) 0 := by unfold penF; rw [hbeg]; rfl
    have hor := fun τ (hτ : Prg τ q r' s1) => orders_calls hτ false [] (by simp) s1.cursor
    have ha2 : pureBin .and (.int .u8 0) (.int .u8 2) = some (.int .u8 0) := rfl
    have ha4 : pureBin .and (.int .u8 0) (.int .u8 4) = some (.int .u8 0) := rfl
    have ha64 : pureBin .and (.int .u8 0) (.int .u8 64) = some (.int .u8 0) := rfl
    have hbq := bit_ne 0
    generalize hx : ordS [] (pen0 s1 (wrap s1.n s1.cursor)) 0 = x at *
  all_goals
    have hxg : x.1.s.good := by rw [← hx]; exact (PenOk.ordN _ _ _ ⟨SameN.refl hs1, pen0_lt s1 s1.cursor⟩).same.1
    clear hx
    obtain ⟨pen, k, e⟩ := x
    refine callK.of (cursor_calls hL.prg) ?_
    rintro v σ' ⟨rfl, rfl⟩
    simp
    refine callK.of (hor _ hL.prg) ?_
    rintro v σ' ⟨rfl, rfl⟩
    replace hL := hL.put hxg
    replace hρp := (putS_at (f := spO) (σ := _) (s := pen.s) d1.1 d1.2).trans hρp
    replace hρ1 := (putS_at (f := spO) (σ := _) (s := pen.s) d2.1 d2.2).trans hρ1
    have hL2 := hL.sub
    rw [hpf]
    simp only at hL hρp hρ1 hL2
    by_cases he : e = 0
    · simp [he, hρp, hρ1, n1, ha2, ha4, ha64, hbq, hpf, resF, resC, ctlOf, -e_pureBin_8, -UInt8.toNat_and]
      refine ⟨_, AV.le_refl _, putS spO σ q r' pen.s, fun o => ?_, rfl, ?_⟩
      · by_cases o1 : o = p1
        · left; rw [o1, putS_at d2.1 d2.2]; exact hp1
        · by_cases o2 : o = p
          · left; rw [o2, putS_at d1.1 d1.2]; exact hp
          · have := hL2 o
            simpa [o1, o2] using this
      · rcases hr' with e1 | e1
        · left; rw [e1]
        · right; exact ⟨r', e1, rfl⟩
    · simp [he, hρp, hρ1, n1, hpf, resF, resC, ctlOf]
      refine ⟨_, AV.le_refl _, putS spO σ q r' pen.s, fun o => ?_, rfl, ?_⟩
      · by_cases o1 : o = p1
        · left; rw [o1, putS_at d2.1 d2.2]; exact hp1
        · by_cases o2 : o = p
          · left; rw [o2, putS_at d1.1 d1.2]; exact hp
          · have := hL2 o
            simpa [o1, o2] using this
      · rcases hr' with e1 | e1
        · left; rw [e1]
        · right; exact ⟨r', e1, rfl⟩
end Go.Proofs.YtnlggjbcdienfaaDoor
/-
  What a host writes, with its command.
-/
namespace Go.Proofs.YtnlggjbcdienfaaDoor
open Go Go.AL Go.Sp

/-- What comes of a command and its bytes. -/
structure Ran where
  s : Sp
  x : Res
  fields : List UInt8
  err : Nat
def ranCmd (s : Sp) (k : Nat) (l : List UInt8) : Ran :=
  if k = 1 ∨ k = 2 ∨ k = 3 then ⟨(penF s k l).1.s, resF s k l, [], (penF s k l).2.2⟩
  else if k = 4 then ⟨unprotS s, ⟨4, true, false, false, 0⟩, [], 0⟩
  else if k = 8 then ⟨s, ⟨8, false, false, false, 0⟩, l, 0⟩
  else ⟨s, ⟨k, false, false, false, 0⟩, [], 0⟩
def runS (s : Sp) : List UInt8 → Ran
  | [] => ⟨s, ⟨0, false, false, false, 0⟩, [], 0⟩
  | c :: l => if (cmdF c).2 = true then ranCmd s (cmdF c).1 l else ⟨s, ⟨0, false, false, false, 0⟩, [], 11⟩
def ranA (x : Ran) : AV := .tuple [.agg (resC x.x (.list false 1 (bytesA x.fields))), .lit (.int .i64 x.err)]
def RanR (σ : Store) (q r : Nat) (x : Ran) (v : AV) (σ' : Store) : Prop := v = ranA x ∧ ∃ r', (r' = r ∨ σ r' = none) ∧ σ' = putS spO σ q r' x.s
theorem ranR_same {σ : Store} {q r : Nat} {s : Sp} (h : Prg σ q r s) {x : Ran} (hx : x.s = s) : RanR σ q r x (ranA x) σ := ⟨rfl, r, .inl rfl, by rw [hx, h.put_self]⟩
theorem ranR_goal {σ σ' : Store} {q r : Nat} {x : Ran} {v : AV} {r' : Nat} (hv : v.le (ranA x)) (hr : r' = r ∨ σ r' = none) (hs : Store.sub (putS spO σ q r' x.s) σ') : ∃ v', v.le v' ∧ ∃ y, Store.sub y σ' ∧ RanR σ q r x v' y :=
  ⟨_, hv, _, hs, rfl, r', hr, rfl⟩
theorem run_sub {σ : Store} {q r' p p1 : Nat} {s : Sp} (hp : σ p = none) (hp1 : σ p1 = none) (_n : ¬ p1 = p) (d1 : ¬ p = q) (d2 : ¬ p1 = q) (d3 : ¬ p = r') (d4 : ¬ p1 = r') (X Y : List AV) {Z : List AV} :
    Store.sub (putS spO σ q r' s) ((putS spO ((σ.upd p X).upd p1 Y) q r' s).upd p Z) := fun o => by
  by_cases o1 : o = p1
  · left; rw [o1, putS_at d2 d4]; exact hp1
  · by_cases o2 : o = p
    · left; rw [o2, putS_at d1 d3]; exact hp
    · right; simp [putS, o1, o2]
theorem run_sub2 {σ : Store} {q r' p p1 : Nat} {s : Sp} (hp : σ p = none) (hp1 : σ p1 = none) (_n : ¬ p1 = p) (d1 : ¬ p = q) (d2 : ¬ p1 = q) (d3 : ¬ p = r') (d4 : ¬ p1 = r') (X Y : List AV) {Z W : List AV} :
    Store.sub (putS spO σ q r' s) (((putS spO ((σ.upd p X).upd p1 Y) q r' s).upd p1 W).upd p Z) := fun o => by
  by_cases o1 : o = p1
  · left; rw [o1, putS_at d2 d4]; exact hp1
  · by_cases o2 : o = p
    · left; rw [o2, putS_at d1 d3]; exact hp
    · right; simp [putS, o1, o2]
set_option maxRecDepth 8000 in
set_option maxHeartbeats 1000000 in
theorem run_calls {q r : Nat} {s : Sp} {σ : Store} (h : Prg σ q r s) (o : Bool) (l : List UInt8) (hl : l.length ≤ 1000000000) :
    ACalls Tryd.prog 8 [ptrA q, .list o 1 (bytesA l)] σ (RanR σ q r (runS s l)) := by
  rcases l with _ | ⟨c, l⟩
  · refine ACalls.of_awp follows (st := st8) (plans := pl8) (n := 54) Tryd.func8 rfl (by kernel_rfl) (by kernel_rfl) (by kernel_rfl) ?_
    simp
    intro p hp
    refine ranR_goal (r' := r) (AV.le_refl _) (.inl rfl) ?_
    show Store.sub (putS spO σ q r s) _
    rw [h.put_self]
    exact Store.sub_upd hp (Store.sub_refl _)
  have hcc : bytesA (c :: l) = byteA c :: bytesA l := rfl
  have hcm := fun τ => command_calls c τ
  have hru : runS s (c :: l) = if (cmdF c).2 = true then ranCmd s (cmdF c).1 l else ⟨s, ⟨0, false, false, false, 0⟩, [], 11⟩ := rfl
  generalize cmdF c = x at *
  obtain ⟨k, b⟩ := x
  simp only at hcm hru
  rw [hru]
  have hl1 : ¬ ((l.length : Int) + 1 = 0) := by omega
  simp only [List.length_cons] at hl
  cases b
  · refine ACalls.of_awp follows (st := st8) (plans := pl8) (n := 54) Tryd.func8 rfl (by kernel_rfl) (by kernel_rfl) (by kernel_rfl) ?_
    simp [hcc, hl1]
    intro p hp
    refine callK.of (hcm _) ?_
    rintro v σ' ⟨rfl, rfl⟩
    simp
    refine ranR_goal (r' := r) (AV.le_refl _) (.inl rfl) ?_
    show Store.sub (putS spO σ q r s) _
    rw [h.put_self]
    (intro q; simp only [Store.upd, Store.del]; (repeat' split) <;> first | exact Or.inr rfl | exact Or.inl rfl | (exfalso; omega) | (left; subst_vars; assumption) | simp_all)
  rw [if_pos rfl]
  unfold ranCmd
  refine ACalls.of_awp follows (st := st8) (plans := pl8) (n := 54) Tryd.func8 rfl (by kernel_rfl) (by kernel_rfl) (by kernel_rfl) ?_
  simp [hcc, hl1]
  intro p hp
  refine callK.of (hcm _) ?_
  rintro v σ' ⟨rfl, rfl⟩
  have htk : (bytesA l).take l.length = bytesA l := by rw [← bytesA_length l, List.take_length]
  have f1 := h.fresh hp
  by_cases h1 : k = 1 ∨ k = 2 ∨ k = 3
  · rw [if_pos h1]
    have hwr := fun τ (hτ : Prg τ q r s) => written_calls hτ k false l (by omega)
    generalize hS : (penF s k l).1.s = S at *
    generalize hX : resF s k l = X at *
    generalize hE : (penF s k l).2.2 = E at *
    clear hS hX hE
    rcases h1 with rfl | rfl | rfl
    all_goals
      simp +contextual [ite_free, htk]
      intro p1 n1 n2 hp1
      have f2 := h.fresh hp1
      refine callK.of (hwr _ ((h.new hp _).new (by simp [n1, hp1]) _)) ?_
      rintro v σ' ⟨rfl, r', hr', rfl⟩
      have g : (r' = r ∨ σ r' = none) ∧ ¬ p = r' ∧ ¬ p1 = r' := by
        rcases hr' with e | e
        · rw [e]; exact ⟨.inl rfl, f1.2.2.2, f2.2.2.2⟩
        · simp only [supd_apply, ite_none] at e
          exact ⟨.inr e.2.2, fun a => e.2.1 a.symm, fun a => e.1 a.symm⟩
      simp [resC, putS_at f1.2.2.1 g.2.1, n2]
      refine ranR_goal (r' := r') (AV.le_refl _) g.1 (run_sub hp hp1 n1 f1.2.2.1 f2.2.2.1 g.2.1 g.2.2 _ _)
  · rw [if_neg h1]
    have e1 : ¬ k = 1 := fun e => h1 (.inl e)
    have e2 : ¬ k = 2 := fun e => h1 (.inr (.inl e))
    have e3 : ¬ k = 3 := fun e => h1 (.inr (.inr e))
    have i1 : ¬ (k : Int) = 1 := by omega
    have i2 : ¬ (k : Int) = 2 := by omega
    have i3 : ¬ (k : Int) = 3 := by omega
    by_cases e4 : k = 4
    · subst e4
      simp +contextual [ite_free]
      intro p1 n1 n2 hp1
      have f2 := h.fresh hp1
      refine callK.of (unprotected_calls ((h.new hp _).new (by simp [n1, hp1]) _)) ?_
      rintro v σ' ⟨rfl, rfl⟩
      simp [putS_at f1.2.2.1 f1.2.2.2, putS_at f2.2.2.1 f2.2.2.2, n2]
      refine ranR_goal (r' := r) (AV.le_refl _) (.inl rfl) (run_sub2 hp hp1 n1 f1.2.2.1 f2.2.2.1 f1.2.2.2 f2.2.2.2 _ _)
    have i4 : ¬ (k : Int) = 4 := by omega
    by_cases e8 : k = 8
    · subst e8
      simp +contextual [ite_free, htk]
      intro p1 n1 n2 hp1
      have f2 := h.fresh hp1
      refine callK.of (clone_calls false l _ (by omega)) ?_
      rintro v σ' ⟨rfl, rfl⟩
      simp [n2]
      refine ranR_goal (r' := r) (AV.le_refl _) (.inl rfl) ?_
      show Store.sub (putS spO σ q r s) _
      rw [h.put_self]
      (intro q; simp only [Store.upd, Store.del]; (repeat' split) <;> first | exact Or.inr rfl | exact Or.inl rfl | (exfalso; omega) | (left; subst_vars; assumption) | simp_all)
    have i8 : ¬ (k : Int) = 8 := by omega
    simp +contextual [ite_free, i1, i2, i3, i4, i8, e4, e8]
    intro p1 n1 n2 hp1
    refine ranR_goal (r' := r) (AV.le_refl _) (.inl rfl) ?_
    show Store.sub (putS spO σ q r s) _
    rw [h.put_self]
    (intro q; simp only [Store.upd, Store.del]; (repeat' split) <;> first | exact Or.inr rfl | exact Or.inl rfl | (exfalso; omega) | (left; subst_vars; assumption) | simp_all)
end Go.Proofs.YtnlggjbcdienfaaDoor
/-
  The program writes at all.
-/
namespace Go.Proofs.YtnlggjbcdienfaaDoor
open Go Go.AL Go.Sp

theorem begin_good {s : Sp} (h : s.good) (k : Nat) (c : UInt8) : (beginS s k c).good := by
  unfold beginS
  split
  · split
    · exact h
    · exact (unmodS_same h).1
  · exact Sp.clear_good h.model _
theorem penF_good {s : Sp} (h : s.good) (k : Nat) (l : List UInt8) : (penF s k l).1.s.good :=
  (PenOk.ordN _ _ _ ⟨SameN.refl (begin_good h k (ctlOf l)), pen0_lt _ _⟩).same.1
theorem unprot_good {s : Sp} (h : s.good) : (unprotS s).good := by
  unfold unprotS
  split
  · exact (keep_null h _).same.1.place _
  · have := (keep_unprotTo h s.attrs.length).same.1
    unfold unprotTo at this
    rw [List.take_length] at this
    exact this.place _
theorem run_good {s : Sp} (h : s.good) (l : List UInt8) : (runS s l).s.good := by
  rcases l with _ | ⟨c, l⟩
  · exact h
  · show (if (cmdF c).2 = true then ranCmd s (cmdF c).1 l else (⟨s, ⟨0, false, false, false, 0⟩, [], 11⟩ : Ran)).s.good
    split
    · unfold ranCmd
      split
      · exact penF_good h _ _
      · split
        · exact unprot_good h
        · split <;> exact h
    · exact h
/-- Where the screen lies then. -/
theorem RanR.at {σ σ' : Store} {q r : Nat} {s : Sp} {l : List UInt8} {v : AV} (h : Prg σ q r s) (hr : RanR σ q r (runS s l) v σ') :
    v = ranA (runS s l) ∧ ∃ r', (r' = r ∨ σ r' = none) ∧ σ' = putS spO σ q r' (runS s l).s ∧ Prg σ' q r' (runS s l).s := by
  obtain ⟨hv, r', h1, rfl⟩ := hr
  refine ⟨hv, r', h1, rfl, Scr.of_put ?_ (run_good h.good l)⟩
  rcases h1 with e | e
  · rw [e]; exact h.ne
  · exact (h.fresh e).1
def exW : List UInt8 := [245, 195, 17, 64, 64, 29, 96, 193]
def exR : Ran := runS (Sp.new 2) exW
theorem ex_run : exR.err = 0 ∧ exR.x.cmd = 2 ∧ exR.x.restore = true ∧ exR.x.alarm = false ∧ exR.x.reset = true ∧ exR.x.pieces = 3 ∧ exR.fields = [] ∧
    (exR.s.at 0).attr = true ∧ (exR.s.at 0).fa = 32 ∧ (exR.s.at 1).char = 193 := by decide +kernel
set_option maxRecDepth 8000 in
theorem awake_calls (σ : Store) : ACalls Tryd.prog 6 [] σ fun v σ' => v = .lit (.bool true) ∧ σ' = σ := by
  have hnw := fun τ => new_calls (m := 2) ⟨by omega, by omega⟩ τ
  obtain ⟨x1, x2, x3, x4, x5, x6, x7, x8, x9, x10⟩ := ex_run
  have hgd := new_good (m := 2) ⟨by omega, by omega⟩
  have hrun := fun τ (q p : Nat) (h : Prg τ q p (Sp.new 2)) => run_calls h false exW (by decide)
  refine ACalls.of_awp follows (st := st6) (plans := pl6) (n := 57) Tryd.func6 rfl (by kernel_rfl) (by kernel_rfl) (by kernel_rfl) ?_
  simp
  refine callK.of (hnw _) ?_
  rintro v σ' ⟨q, p, rfl, hq, hp, hne, rfl⟩
  have hP : Prg (putS spO σ q p (Sp.new 2)) q p (Sp.new 2) := Scr.of_put hne hgd
  have hra : ranA (runS (Sp.new 2) exW) = .tuple [.agg [.lit (.int .i64 2), .lit (.bool true), .lit (.bool false), .lit (.bool true), .lit (.int .i64 3), .list false 1 []], .lit (.int .i64 0)] := by
    show ranA exR = _
    simp only [ranA, resC, x1, x2, x3, x4, x5, x6, x7]
    rfl
  simp
  refine callK.le (args' := [ptrA q, .list false 1 (bytesA exW)]) ⟨AV.le_refl _, AV.le_list _ _ _, trivial⟩ (hrun _ q p hP) ?_
  rintro v σ' hr
  obtain ⟨rfl, r', hr', hσ, hP2⟩ := RanR.at hP hr
  rw [hra]
  have hsub : Store.sub σ σ' := by
    intro o
    by_cases o1 : o = q
    · left; rw [o1]; exact hq
    by_cases o2 : o = r'
    · left
      rw [o2]
      rcases hr' with e | e
      · rw [e]; exact hp
      · by_cases o3 : r' = p
        · rw [o3]; exact hp
        · rwa [putS_at (by rw [← o2]; exact o1) o3] at e
    · by_cases o3 : o = p
      · left; rw [o3]; exact hp
      · right; rw [hσ, putS_at o1 o2, putS_at o1 o3]
  clear hσ hr'
  change Prg σ' q r' exR.s at hP2
  generalize exR.s = t at *
  have ha0 := fun τ (hτ : Prg τ q r' t) => at_calls hτ 0
  have ha1 := fun τ (hτ : Prg τ q r' t) => at_calls hτ 1
  rw [cellA_eq, x8] at ha0
  rw [cellA_eq] at ha1
  have y9 := byteA_lit (t.at 0).fa
  have y10 := byteA_lit (t.at 1).char
  rw [x9] at y9
  rw [x10] at y10
  rw [x9, y9] at ha0
  rw [x10, y10] at ha1
  simp
  intro b hb
  refine callK.of (ha0 _ (hP2.new hb _)) ?_
  rintro v σ2 ⟨rfl, rfl⟩
  simp
  refine callK.of (ha0 _ (hP2.new hb _)) ?_
  rintro v σ2 ⟨rfl, rfl⟩
  simp
  refine callK.of (ha1 _ (hP2.new hb _)) ?_
  rintro v σ2 ⟨rfl, rfl⟩
  simp
  exact Store.sub_trans hsub (Store.sub_upd hb (Store.sub_refl _))
end Go.Proofs.YtnlggjbcdienfaaDoor
/-
  Answers, screens and bytes that are the same.
-/
namespace Go.Proofs.YtnlggjbcdienfaaDoor
open Go Go.AL Go.Sp

theorem copy_calls (o : Bool) (l : List UInt8) (σ : Store) (hl : l.length ≤ 140737488355328) :
    ACalls Tryd.prog 38 [.list o 1 (bytesA l)] σ fun v σ' => v = .list true 1 (bytesA l) ∧ σ' = σ := by
  refine ACalls.of_awp follows (st := st38) (plans := pl38) (n := 6) Tryd.func38 rfl (by kernel_rfl) (by kernel_rfl) (by kernel_rfl) ?_
  simp
  omega
set_option maxRecDepth 8000 in
theorem cut_calls (o : Bool) (l : List UInt8) (n : Nat) (σ : Store) (hn : n ≤ 100000000) :
    ACalls Tryd.prog 14 [.list o 1 (bytesA l), .lit (.int .i64 n)] σ fun v σ' => v = .list true 1 (bytesA (l.take n)) ∧ σ' = σ := by
  refine ACalls.of_awp follows (st := st14) (plans := pl14) (n := 14) Tryd.func14 rfl (by kernel_rfl) (by kernel_rfl) (by kernel_rfl) ?_
  by_cases h : n < l.length
  · simp [h, show n ≤ l.length by omega, bytesA_take]
    refine callK.of (copy_calls false (l.take n) σ (by simp; omega)) ?_
    rintro v σ' ⟨rfl, rfl⟩
    simp
  · simp [h]
    refine callK.of (copy_calls false l σ (by omega)) ?_
    rintro v σ' ⟨rfl, rfl⟩
    simp [List.take_of_length_le (show l.length ≤ n by omega)]
set_option maxRecDepth 8000 in
theorem rsame_calls (x : Res) (f : List UInt8) (σ : Store) :
    ACalls Tryd.prog 22 [.agg (resC x (.list false 1 (bytesA f))), .agg (resC x (.list false 1 (bytesA f)))] σ fun v σ' => v = .lit (.bool true) ∧ σ' = σ := by
  have hs := fun τ => same_calls false false f f τ
  refine ACalls.of_awp follows (st := st22) (plans := pl22) (n := 45) Tryd.func22 rfl (by kernel_rfl) (by kernel_rfl) (by kernel_rfl) ?_
  simp +contextual [resC, ite_free]
  intro p hp p1 n1 n2 hp1
  refine callK.of (hs _) ?_
  rintro v σ' ⟨rfl, rfl⟩
  simp
  (intro q; simp only [Store.upd, Store.del]; (repeat' split) <;> first | exact Or.inr rfl | exact Or.inl rfl | (exfalso; omega) | (left; subst_vars; assumption) | simp_all)
theorem alt_calls {q p : Nat} {s : Sp} {σ : Store} (h : Prg σ q p s) : ACalls Tryd.prog 24 [ptrA q] σ fun v σ' => v = .lit (.bool s.alt) ∧ σ' = σ := by
  have ho := h.obj
  unfold spO at ho
  refine ACalls.of_awp follows (st := st24) (plans := pl24) (n := 11) Tryd.func24 rfl (by kernel_rfl) (by kernel_rfl) (by kernel_rfl) ?_
  simp [ho]
set_option maxRecDepth 8000 in
theorem equal_calls {q p q2 p2 : Nat} {s : Sp} {σ : Store} (h : Prg σ q p s) (h2 : Prg σ q2 p2 s) : ACalls Tryd.prog 44 [rowC p s.n, rowC p2 s.n] σ fun v σ' => v = .lit (.bool true) ∧ σ' = σ := by
  have hr := h.row
  have hr2 := h2.row
  have hln := h.good.len
  have hnl := s.n_le
  refine ACalls.of_awp follows (st := st44) (plans := pl44) (n := 26) Tryd.func44 rfl (by kernel_rfl) (by kernel_rfl) (by kernel_rfl) ?_
  simp [rowC]
  refine codeK.loop follows (st := st44) (plans := pl44) (X := Nat) (fun k => k ≤ s.n)
    (fun k => [(0, rowC p s.n), (1, rowC p2 s.n), (12, .lit (.int .i64 s.n)), (13, .lit (.int .i64 k))]) (fun _ => σ) (fun k => s.n - k) 0 (by kernel_rfl) (by simp) (by simp [rowC]) (Store.sub_refl _) fun k hk => ?_
  by_cases hlt : k < s.n
  · have hw : IntKind.i64.wrap ((k : Int) + 1) = ((k + 1 : Nat) : Int) := wrap_i64 (by omega) (by omega)
    have hic : k < s.cells.length := by omega
    have hgi := cellsO_get hic
    have hle : k * 6 + 6 ≤ (cellsO s.cells).length := by rw [cellsO_length]; omega
    generalize s.cells[k] = c at *
    have hcx : cellC c = [.lit (.int .u8 c.char.toNat), .lit (.bool c.attr), .lit (.int .u8 c.fa.toNat), .lit (.int .u8 c.high.toNat), .lit (.int .u8 c.color.toNat), .lit (.int .u8 c.set.toNat)] := rfl
    rw [hcx] at hgi
    simp [hlt, rowC, hr, hr2, hle, hgi, hw]
    exact ⟨k + 1, by omega, by omega, AV.le_refl _⟩
  · obtain rfl : k = s.n := by omega
    simp
set_option maxRecDepth 8000 in
theorem ssame_calls {q p q2 p2 : Nat} {s : Sp} {σ : Store} (h : Prg σ q p s) (h2 : Prg σ q2 p2 s) : ACalls Tryd.prog 23 [ptrA q, ptrA q2] σ fun v σ' => v = .lit (.bool true) ∧ σ' = σ := by
  have ho := h.obj
  have ho2 := h2.obj
  have heq := equal_calls h h2
  unfold spO at ho ho2
  unfold rowC at heq
  refine ACalls.of_awp follows (st := st23) (plans := pl23) (n := 56) Tryd.func23 rfl (by kernel_rfl) (by kernel_rfl) (by kernel_rfl) ?_
  simp [ho, ho2, rowC]
  refine callK.of heq ?_
  rintro v σ' ⟨rfl, rfl⟩
  simp
end Go.Proofs.YtnlggjbcdienfaaDoor
