/-
  KeysNumeric: the walk.
-/
import Derived.Test.YtlmdbcgceijlnaaGreatPart23
namespace Go.Proofs.YtlmdbcgceijlnaaGreat
open Go Go.AL Go.Sp
variable {σ : Store} {k q r b : Nat} {n : Int} {B : Bd}

theorem numr_reset (h : Numr n B.s) : Numr n (resetB B).s := h
structure NuSt where
  i : Nat
  r : Nat
  x : Option Nat
  B : Bd
set_option maxHeartbeats 4000000 in
set_option maxRecDepth 8000 in
theorem keysNumeric_law (m u : UInt8) (cs : List UInt8) (ks : List Key) (hcs : cs.length ≤ 9223372036854775807) (hks : ks.length ≤ 9223372036854775807) (σ : Store) :
    ACalls Tryz.prog 3 [byteA m, byteA u, .list false 1 (bytesA cs), .list false 3 (keysA ks)] σ fun v _ => v = .lit (.bool true) := by
  have haw := fun τ => awake_calls τ
  have hlay := fun τ => layD_calls m u nmActs (by decide) (by decide) τ
  have hpg := pageN_ok u
  have hN0 := numr_lays (pageN u) m
  refine ACalls.of_awp follows (st := st3) (plans := pl3) (n := 104) Tryz.func3 rfl (by kernel_rfl) (by kernel_rfl) (by kernel_rfl) ?_
  generalize pageN u = pn at *
  generalize Sp.lays m nmActs = S0 at *
  simp
  refine callK.of (haw _) ?_
  rintro v τ ⟨rfl, rfl⟩
  simp
  refine callK.le (args' := [byteA m, byteA u, .list false 11 (actsA nmActs)]) ?_ (hlay _) ?_
  · simp [AllLe, nmActs, actsA, actA, actC, cellC, byteA, bytesA, Cell.zero]
  rintro v τ ⟨k, q, p, b, c, base0, rfl, _, n1, n2, n3, hK0, rfl, xr, yr, hc, _⟩
  have c1 : ¬ c = k := fun e => by subst e; rw [n1] at hc; cases hc
  have c2 : ¬ c = q := fun e => by subst e; rw [n2] at hc; cases hc
  have c3 : ¬ c = b := fun e => by subst e; rw [n3] at hc; cases hc
  have hcc := kS_base hK0 none hc c1 c2 c3
  unfold rbdO at hcc
  have hNB : Numr pn (newB S0).s := hN0
  generalize newB S0 = B0 at *
  simp [hcc]
  refine callK.of (page_new pn hpg _) ?_
  rintro v τ ⟨b2, hb2, rfl, rfl⟩
  have f0 := kS_free hK0 hb2
  have e1 : ∀ B x, pgS b2 pn none (kS base0 k q p b pn x B) = kS (base0.upd b2 (pgA (.new pn))) k q p b pn x B := fun B x => kS_new f0 x B _
  rw [e1]
  have hK1 := f0.ok hK0 (pgA (.new pn))
  have hmk : ∀ g : Nat, (base0.upd b2 (pgA (.new pn))) (mkey g) = base0 (mkey g) := fun g => by simp
  have hfb : ∀ r x B, KOk (base0.upd b2 (pgA (.new pn))) k q r b pn B → KOk base0 k q r b pn B ∧ kS (base0.upd b2 (pgA (.new pn))) k q r b pn x B = pgS b2 pn none (kS base0 k q r b pn x B) := fun r x B h =>
    ⟨(f0.back h).2, (kS_new (f0.back h).1 x B _).symm⟩
  have hbk : ¬ b2 = k := f0.k
  have hbq : ¬ b2 = q := f0.q
  have hbb : ∀ r B, KOk (base0.upd b2 (pgA (.new pn))) k q r b pn B → ¬ b2 = r := fun r B h => (f0.back h).1.r
  generalize base0.upd b2 (pgA (.new pn)) = base1 at *
  simp
  refine codeK.cut (fun e A σ' => e = .exit 0 ∧ ∃ (r : Nat) (x : Option Nat) (B : Bd), (KOk base1 k q r b pn B ∧ NxP base1 none x ∧ Numr pn B.s) ∧ LeL A [(3, .list false 3 (keysA ks)), (10, ptrA k), (11, ptrA q), (13, pgP b2)] ∧ Store.sub (kS base1 k q r b pn x B) σ') ?_ ?_
  · refine codeK.loop follows (st := st3) (plans := pl3) (X := NuSt) (fun y => y.i ≤ cs.length ∧ KOk base1 k q y.r b pn y.B ∧ NxP base1 none y.x ∧ Numr pn y.B.s)
      (fun y => [(3, .list false 3 (keysA ks)), (10, ptrA k), (11, ptrA q), (13, pgP b2), (43, .list false 1 (bytesA cs)), (44, .lit (.int .i64 cs.length)), (45, .lit (.int .i64 y.i))])
      (fun y => kS base1 k q y.r b pn y.x y.B) (fun y => cs.length - y.i) ⟨0, p, none, B0⟩ (by kernel_rfl) ⟨by simp, hK1, .inl rfl, hNB⟩ (by simp) (Store.sub_refl _) fun y hy => ?_
    clear hK1 hK0 hNB
    obtain ⟨i, r, x, B⟩ := y
    obtain ⟨hi, hK, nx, hN⟩ := hy
    dsimp only at hi hK nx hN ⊢
    by_cases hlt : i < cs.length
    · have ha := bytesA_at cs i hlt
      have hw1 : IntKind.i64.wrap ((i : Int) + 1) = ((i + 1 : Nat) : Int) := wrap_i64 (by omega) (by omega)
      generalize cs[i] = cb at ha
      have hcb := cb.toNat_lt
      have hwc : IntKind.i64.wrap (cb.toNat : Int) = (cb.toNat : Int) := wrap_i64 (by omega) (by omega)
      by_cases h12 : i < 12
      · have h12' : (i : Int) < 12 := by omega
        have hpr := press_calls hK x ⟨2, 0, (cb.toNat : Int)⟩
        have hN2 := press_numr hN ⟨2, 0, (cb.toNat : Int)⟩ (by simp)
        generalize pressB pn B ⟨2, 0, (cb.toNat : Int)⟩ = P at *
        simp only [keyA, keyC] at hpr
        simp [hlt, ha, h12', byteA, hwc]
        refine callK.of hpr ?_
        rintro v τ ⟨rfl, r2, x2, hK2, nx2, rfl⟩
        have hpr2 := press_calls hK2 x2 ⟨17, 0, 0⟩
        rw [pressB_reset] at hpr2
        simp only [keyA, keyC] at hpr2
        simp
        refine callK.of hpr2 ?_
        rintro v τ ⟨rfl, r3, x3, hK3, nx3, rfl⟩
        simp
        exact ⟨⟨i + 1, r3, x3, resetB P.1⟩, ⟨by show i + 1 ≤ _; omega, hK3, (nx.trans nx2).trans nx3, numr_reset hN2⟩, by show _ - (i + 1) < _ - i; omega, by simp [hw1], Store.sub_refl _⟩
      · have h12' : ¬ (i : Int) < 12 := by omega
        simp [hlt, ha, h12', byteA]
        exact ⟨⟨i + 1, r, x, B⟩, ⟨by show i + 1 ≤ _; omega, hK, nx, hN⟩, by show _ - (i + 1) < _ - i; omega, by simp [hw1], Store.sub_refl _⟩
    · obtain rfl : i = cs.length := by omega
      simp [hlt]
      exact ⟨r, x, B, ⟨hK, nx, hN⟩, Store.sub_refl _⟩
  rintro e A' σ2 ⟨rfl, r1, x1, B1, ⟨hK1', nx1, hN1⟩, hA, hσp⟩
  refine View.leL hA (View.sub hσp (View.here ?_))
  clear hA hσp hK1 hK0 hNB
  simp
  refine codeK.cut (fun e A σ' => e = .exit 2 ∧ ∃ (r : Nat) (x : Option Nat) (B : Bd), (KOk base1 k q r b pn B ∧ NxP base1 none x ∧ Numr pn B.s) ∧ LeL A [(11, ptrA q), (13, pgP b2)] ∧ Store.sub (kS base1 k q r b pn x B) σ') ?_ ?_
  · refine codeK.loop follows (st := st3) (plans := pl3) (X := NuSt) (fun y => y.i ≤ ks.length ∧ KOk base1 k q y.r b pn y.B ∧ NxP base1 none y.x ∧ Numr pn y.B.s)
      (fun y => [(10, ptrA k), (11, ptrA q), (13, pgP b2), (61, .list false 3 (keysA ks)), (62, .lit (.int .i64 ks.length)), (63, .lit (.int .i64 y.i))])
      (fun y => kS base1 k q y.r b pn y.x y.B) (fun y => ks.length - y.i) ⟨0, r1, x1, B1⟩ (by kernel_rfl) ⟨by simp, hK1', nx1, hN1⟩ (by simp [keysA_len]) (Store.sub_refl _) fun y hy => ?_
    clear hK1' nx1 hN1
    obtain ⟨i, r, x, B⟩ := y
    obtain ⟨hi, hK, nx, hN⟩ := hy
    dsimp only at hi hK nx hN ⊢
    by_cases hlt : i < ks.length
    · have ha := keysA_at ks i hlt
      have hw1 : IntKind.i64.wrap ((i : Int) + 1) = ((i + 1 : Nat) : Int) := wrap_i64 (by omega) (by omega)
      generalize ks[i] = K2 at ha
      by_cases h20 : i < 20
      · have h20' : (i : Int) < 20 := by omega
        by_cases h22 : K2.kind = 22
        · simp +contextual [hlt, ha, keyA, keyC, h20', h22]
          intro z hz
          have f := kS_free hK hz
          exact ⟨⟨i + 1, r, x, B⟩, ⟨by show i + 1 ≤ _; omega, hK, nx, hN⟩, by show _ - (i + 1) < _ - i; omega, by simp [hw1], sub_upd_self _ _ _ hz⟩
        · have h22' : ¬ (22 : Int) = K2.kind := fun e => h22 e.symm
          have hN2 := press_numr hN K2 h22
          simp +contextual [hlt, ha, keyA, keyC, h20', h22, h22']
          intro z hz
          have f := kS_free hK hz
          have hK5 := f.ok hK (keyC K2)
          have hpr := press_calls hK5 x K2
          have hbk2 := f.backs (n := pn) (keyC K2)
          have hmk2 : ∀ g : Nat, (base1.upd z (keyC K2)) (mkey g) = base1 (mkey g) := fun g => by simp
          simp only [keyA, keyC] at hK5 hpr hmk2 hbk2
          simp only [kS_new f]
          generalize base1.upd z [.lit (.int .i64 K2.kind), .lit (.int .i32 K2.sign), .lit (.int .i64 K2.num)] = base3 at *
          generalize pressB pn B K2 = P at *
          refine callK.of hpr ?_
          rintro v τ ⟨rfl, r2, x2, hK6, nx6, rfl⟩
          obtain ⟨hK7, hsb⟩ := hbk2 r2 x2 P.1 hK6
          have nx7 : NxP base1 none x2 := nx.trans (nx6.of fun g => hmk2 g)
          simp
          exact ⟨⟨i + 1, r2, x2, P.1⟩, ⟨by show i + 1 ≤ _; omega, hK7, nx7, hN2⟩, by show _ - (i + 1) < _ - i; omega, by simp [hw1], hsb⟩
      · have h20' : ¬ (i : Int) < 20 := by omega
        simp +contextual [hlt, ha, keyA, keyC, h20']
        intro z hz
        exact ⟨⟨i + 1, r, x, B⟩, ⟨by show i + 1 ≤ _; omega, hK, nx, hN⟩, by show _ - (i + 1) < _ - i; omega, by simp [hw1], sub_upd_self _ _ _ hz⟩
    · obtain rfl : i = ks.length := by omega
      simp [hlt]
      exact ⟨r, x, B, ⟨hK, nx, hN⟩, Store.sub_refl _⟩
  rintro e A' σ2 ⟨rfl, r, x, B, ⟨hK, nx, hN⟩, hA, hσp⟩
  refine View.leL hA (View.sub hσp (View.here ?_))
  clear hA hσp hK1' nx1 hN1
  obtain ⟨hKb, he⟩ := hfb r x B hK
  have hbr := hbb r B hK
  rw [he]
  have hP : ∀ y, Prg (pgS b2 pn y (kS base0 k q r b pn x B)) q r B.s := fun y => by
    have h := kS_prg hKb x
    exact ⟨by rw [pgS_other (fun e => hbq e.symm)]; exact h.obj, by rw [pgS_other (fun e => hbr e.symm)]; exact h.row, h.ne, h.good⟩
  have hatc := fun y j => at_calls (hP y) j
  simp only [cellA_eq, byteA] at hatc
  have hnum := fun τ y c => numeric_calls b2 pn hpg y c τ
  simp only [byteA] at hnum
  generalize kS base0 k q r b pn x B = ρ at *
  clear hfb hbb hK hKb he hlay haw
  simp
  refine codeK.cut (fun e A σ' => e = .exit 4 ∧ ∃ (y : Option Nat), LeL A [(11, ptrA q)] ∧ Store.sub (pgS b2 pn y ρ) σ') ?_ ?_
  · refine codeK.loop follows (st := st3) (plans := pl3) (X := Nat × Option Nat) (fun y => 1 ≤ y.1 ∧ y.1 ≤ 30)
      (fun y => [(11, ptrA q), (13, pgP b2), (19, .lit (.int .i64 y.1))])
      (fun y => pgS b2 pn y.2 ρ) (fun y => 30 - y.1) (1, none) (by kernel_rfl) ⟨by simp, by simp⟩ (by simp) (Store.sub_refl _) fun y hy => ?_
    obtain ⟨i, y⟩ := y
    obtain ⟨hi1, hi⟩ := hy
    dsimp only at hi1 hi ⊢
    by_cases hlt : i < 30
    · have hlt' : (i : Int) < 30 := by omega
      have hw1 : IntKind.i64.wrap ((i : Int) + 1) = ((i + 1 : Nat) : Int) := wrap_i64 (by omega) (by omega)
      have hch := hN.char i hi1 hlt
      have hca : B.s.at (i : Nat) = cellAt B.s i := cellAt_at (by have := n_big B.s; omega)
      have hat := hatc y (i : Nat)
      rw [hca] at hat
      simp [hlt']
      refine callK.of hat ?_
      rintro v τ ⟨rfl, rfl⟩
      generalize cellAt B.s i = cl at *
      by_cases h0 : cl.char = 0
      · simp +contextual [h0]
        intro z hz
        exact ⟨i + 1, ⟨by omega, by omega⟩, by omega, by rw [hw1]; exact AV.le_refl _, y, sub_upd_self _ _ _ hz⟩
      · have h0' : ¬ (cl.char.toNat : Int) = 0 := fun e => h0 (UInt8.toNat_inj.1 (by show cl.char.toNat = 0; omega))
        have hnb : numB pn cl.char = true := hch.resolve_left h0
        have h0n : ¬ cl.char.toNat = 0 := by omega
        simp +contextual [h0', h0n]
        intro z hz
        have hzb : ¬ z = b2 := fun e => by subst e; rw [pgS_cell] at hz; cases hz
        have hz' : ρ z = none := by rw [pgS_other hzb] at hz; exact hz
        rw [pgS_upd hzb]
        refine callK.of (hnum _ y cl.char) ?_
        rintro v τ ⟨rfl, y', _, rfl⟩
        rw [hnb]
        simp [h0', h0n]
        exact ⟨i + 1, ⟨by omega, by omega⟩, by omega, by rw [hw1]; exact AV.le_refl _, y', pgS_sub (Store.sub_upd hz' (Store.sub_refl _)) _ _ _⟩
    · obtain rfl : i = 30 := by omega
      simp
      exact ⟨y, Store.sub_refl _⟩
  rintro e A' σ2 ⟨rfl, y, hA, hσp⟩
  refine View.leL hA (View.sub hσp (View.here ?_))
  clear hA hσp
  have hb := n_big B.s
  have a0 : (B.s.at (0 : Nat)).attr = true := by rw [at_attr (by omega)]; exact (hN.attr 0 (by omega)).2 (.inl rfl)
  have a30 : (B.s.at (30 : Nat)).attr = true := by rw [at_attr (by omega)]; exact (hN.attr 30 (by omega)).2 (.inr rfl)
  have h0 := hatc y (0 : Nat)
  have h30 := hatc y (30 : Nat)
  rw [a0] at h0
  rw [a30] at h30
  simp
  refine callK.of h0 ?_
  rintro v τ ⟨rfl, rfl⟩
  simp
  refine callK.of h30 ?_
  rintro v τ ⟨rfl, rfl⟩
  simp
  exact ⟨_, Store.sub_refl _⟩
end Go.Proofs.YtlmdbcgceijlnaaGreat
/-
  Arguments opened.
-/
namespace Go.Proofs.YtlmdbcgceijlnaaGreat
open Go Go.AL Go.Sp
theorem open_bytes : Opens Tryz.prog 22 (fun l : List UInt8 => [.list false 1 (bytesA l)]) (fun l => l.length ≤ maxLen) :=
  (Opens.slice Tryz.underlying22 (sz := 1) (by kernel_rfl) (by omega) (Opens.u8 Tryz.underlying5) byteA (fun _ => rfl) (fun _ => rfl)).by id fun _ h => ⟨h.1, rfl⟩
theorem open_key : Opens Tryz.prog 46 (fun K : Key => keyC K) (fun _ => True) :=
  (Opens.struct (total := 3) Tryz.underlying46 (by kernel_rfl)
    (.cons (k := 1) rfl (by kernel_rfl) (by omega) (Opens.i64 Tryz.underlying3) (.cons (k := 1) rfl (by kernel_rfl) (by omega) (Opens.int (k := .i32) Tryz.underlying21) (.cons (k := 1) rfl (by kernel_rfl) (by omega) (Opens.i64 Tryz.underlying3) .nil)))).by
    (fun x => ⟨x.1, x.2.1, x.2.2.1⟩) fun _ _ => ⟨trivial, rfl⟩
theorem open_keys : Opens Tryz.prog 23 (fun l : List Key => [.list false 3 (keysA l)]) (fun l => l.length ≤ maxLen) :=
  (Opens.slice Tryz.underlying23 (by kernel_rfl) (by omega) open_key keyA (fun _ => rfl) (fun _ => rfl)).by id fun _ h => ⟨h.1, rfl⟩
end Go.Proofs.YtlmdbcgceijlnaaGreat
