/-
  KeysLocked: the walk.
-/
import Derived.Test.YtlmdbcgceijlnaaGreatPart22
namespace Go.Proofs.YtlmdbcgceijlnaaGreat
open Go Go.AL Go.Sp
variable {σ : Store} {k q r b : Nat} {n : Int} {B : Bd}

def keysA (ks : List Key) : List AV := ks.map keyA
theorem keysA_at (ks : List Key) (i : Nat) (h : i < ks.length) : (keysA ks)[i]? = some (keyA ks[i]) := by simp [keysA, h]
theorem keysA_len (ks : List Key) : (keysA ks).length = ks.length := by simp [keysA]
/-- What lies apart is as it is in the base. -/
theorem kS_base {z : Nat} {X : List AV} (h : KOk σ k q r b n B) (x : Option Nat) (hz : σ z = some X) (h1 : ¬ z = k) (h2 : ¬ z = q) (h3 : ¬ z = b) : (kS σ k q r b n x B) z = some X := by
  have h4 : ¬ z = r := fun e => by subst e; rw [h.none] at hz; cases hz
  unfold kS
  rw [pgS_other h3]
  simp [putS, h1, h2, h4, hz]
/-- Another screen, in the base. -/
structure Oth (σ : Store) (k q b q2 p2 : Nat) (s : Sp) : Prop where
  prg : Prg σ q2 p2 s
  q2k : ¬ q2 = k
  q2q : ¬ q2 = q
  q2b : ¬ q2 = b
  p2k : ¬ p2 = k
  p2q : ¬ p2 = q
  p2b : ¬ p2 = b
theorem Oth.at {q2 p2 : Nat} {s : Sp} (o : Oth σ k q b q2 p2 s) (h : KOk σ k q r b n B) (x : Option Nat) : Prg (kS σ k q r b n x B) q2 p2 s :=
  ⟨kS_base h x o.prg.obj o.q2k o.q2q o.q2b, kS_base h x o.prg.row o.p2k o.p2q o.p2b, o.prg.ne, o.prg.good⟩
/-- A screen with a board is copied. -/
theorem kcopy_calls (h : KOk σ k q r b n B) (x : Option Nat) : ACalls Tryz.prog 23 [ptrA q] (kS σ k q r b n x B) fun v σ' => ∃ (q2 p2 : Nat), v = ptrA q2 ∧ Free σ k q r b q2 ∧ Free σ k q r b p2 ∧ q2 ≠ p2 ∧
    KOk (putS spO σ q2 p2 B.s) k q r b n B ∧ Oth (putS spO σ q2 p2 B.s) k q b q2 p2 B.s ∧ σ' = kS (putS spO σ q2 p2 B.s) k q r b n x B := by
  refine ACalls.mono (scopy_calls (kS_prg h x)) ?_
  rintro v τ ⟨q2, p2, rfl, h1, h2, hne, rfl⟩
  have f1 := kS_free h h1
  have f2 := kS_free h h2
  obtain ⟨e1, e2⟩ := kS_copy h x f1 f2 hne B.s
  refine ⟨q2, p2, rfl, f1, f2, hne, e2, ⟨⟨?_, ?_, hne, h.good⟩, f1.k, f1.q, f1.b, f2.k, f2.q, f2.b⟩, e1⟩
  · simp [putS, hne]
  · simp [putS]

theorem Free.back {z r2 : Nat} {X : List AV} (f : Free σ k q r b z) (h : KOk (σ.upd z X) k q r2 b n B) : Free σ k q r2 b z ∧ KOk σ k q r2 b n B :=
  have hr : ¬ z = r2 := by rintro rfl; have := h.none; simp at this
  ⟨⟨f.k, f.q, hr, f.b, f.free⟩, { h with none := by have := h.none; simpa [Ne.symm hr] using this }⟩
theorem Free.backs {z : Nat} (f : Free σ k q r b z) (X : List AV) (r2 : Nat) (x : Option Nat) (B : Bd) (h : KOk (σ.upd z X) k q r2 b n B) : KOk σ k q r2 b n B ∧ Store.sub (kS σ k q r2 b n x B) (kS (σ.upd z X) k q r2 b n x B) :=
  ⟨(f.back h).2, (f.back h).1.drop x B X⟩
structure LcSt where
  i : Nat
  r : Nat
  x : Option Nat
set_option maxHeartbeats 4000000 in
set_option maxRecDepth 8000 in
theorem keysLocked_law (m u : UInt8) (l : List Sp.Act) (K : Key) (ks : List Key) (hl : l.length ≤ 9223372036854775807) (ht : ∀ a ∈ l, a.text.length ≤ 9223372036854775807) (hks : ks.length ≤ 9223372036854775807) (σ : Store) :
    ACalls Tryz.prog 8 [byteA m, byteA u, .list false 11 (actsA l), keyA K, .list false 3 (keysA ks)] σ fun v _ => v = .lit (.bool true) := by
  have haw := fun τ => awake_calls τ
  have hlay := fun τ => lay_calls m u l hl ht τ
  refine ACalls.of_awp follows (st := st8) (plans := pl8) (n := 109) Tryz.func8 rfl (by kernel_rfl) (by kernel_rfl) (by kernel_rfl) ?_
  generalize pageN u = pn at *
  generalize Sp.lays m l = S0 at *
  simp [keyA, keyC]
  intro z hz
  refine callK.of (haw _) ?_
  rintro v τ ⟨rfl, rfl⟩
  simp
  refine callK.of (hlay _) ?_
  rintro v τ ⟨k, q, p, b, c, base, rfl, hsub, n1, n2, n3, hK, rfl⟩
  have hbz : base z = some (keyC K) := by
    rcases hsub z with e | e
    · simp at e
    · rw [← e]; simp [keyC]
  have z1 : ¬ z = k := fun e => by subst e; rw [n1] at hbz; cases hbz
  have z2 : ¬ z = q := fun e => by subst e; rw [n2] at hbz; cases hbz
  have z3 : ¬ z = b := fun e => by subst e; rw [n3] at hbz; cases hbz
  have hz0 := kS_base hK none hbz z1 z2 z3
  simp only [keyC] at hz0
  have hpr := press_calls hK none K
  simp only [keyA, keyC] at hpr
  generalize newB S0 = B0 at *
  generalize hP1 : pressB pn B0 K = P1 at *
  simp [hz0]
  refine callK.of hpr ?_
  rintro v τ ⟨rfl, r1, x1, hK1, nx1, rfl⟩
  obtain ⟨B1, s1, e1⟩ := P1
  dsimp only at hK1 ⊢
  have hlo := lock_calls hK1 x1
  have hw := wait_calls hK1 x1
  simp
  refine callK.of hlo ?_
  rintro v τ ⟨rfl, rfl⟩
  by_cases h0 : B1.lock = 0
  case' pos =>
    simp [h0]
    refine callK.of hw ?_
    rintro v τ ⟨rfl, rfl⟩
    have hK2 : KOk base k q r1 b pn { B1 with lock := 1 } := { hK1 with good := hK1.good }
    have hlk : ¬ ({ B1 with lock := 1 } : Bd).lock = 0 := by simp
    generalize ({ B1 with lock := 1 } : Bd) = B2 at *
    simp
  case' neg =>
    have h0' : ¬ (0 : Int) = B1.lock := fun e => h0 e.symm
    simp [h0]
    have hK2 := hK1
    have hlk := h0
    clear hpr hlo hw hK1 h0 h0'
    generalize B1 = B2 at *
  all_goals
    have hcp := kcopy_calls hK2 x1
    refine callK.of hcp ?_
    rintro v τ ⟨q2, p2, rfl, f1, f2, hne, hK3, ho, rfl⟩
    have hs2 : Store.sub base (putS spO base q2 p2 B2.s) := by
      unfold putS
      refine Store.sub_trans (Store.sub_upd f1.free (Store.sub_refl _)) (Store.sub_upd ?_ (Store.sub_refl _))
      simp [Ne.symm hne, f2.free]
    have m1 : putS spO base q2 p2 B2.s k = none := by simp [putS, Ne.symm f1.k, Ne.symm f2.k, n1]
    have m2 : putS spO base q2 p2 B2.s q = none := by simp [putS, Ne.symm f1.q, Ne.symm f2.q, n2]
    have m3 : putS spO base q2 p2 B2.s b = none := by simp [putS, Ne.symm f1.b, Ne.symm f2.b, n3]
    have nx2 : NxP (putS spO base q2 p2 B2.s) none x1 := nx1.of fun g => by simp [putS]
    generalize putS spO base q2 p2 B2.s = base2 at *
    simp
    refine callK.of (lock_calls hK3 x1) ?_
    rintro v τ ⟨rfl, rfl⟩
    simp
    refine callK.of (baid_calls hK3 x1) ?_
    rintro v τ ⟨rfl, rfl⟩
    simp
    refine codeK.cut (fun e A σ' => e = .exit 0 ∧ ∃ (r : Nat) (x : Option Nat), (KOk base2 k q r b pn B2 ∧ NxP base2 none x) ∧ LeL A [(11, ptrA k), (12, ptrA q), (14, ptrA q2), (15, .lit (.int .i64 B2.lock))] ∧ Store.sub (kS base2 k q r b pn x B2) σ') ?_ ?_
    · refine codeK.loop follows (st := st8) (plans := pl8) (X := LcSt) (fun y => y.i ≤ ks.length ∧ KOk base2 k q y.r b pn B2 ∧ NxP base2 none y.x)
        (fun y => [(11, ptrA k), (12, ptrA q), (14, ptrA q2), (15, .lit (.int .i64 B2.lock)), (16, .lit (.int .u8 (B2.aid.toNat : Int))), (45, .list false 3 (keysA ks)), (46, .lit (.int .i64 ks.length)), (47, .lit (.int .i64 y.i))])
        (fun y => kS base2 k q y.r b pn y.x B2) (fun y => ks.length - y.i) ⟨0, r1, x1⟩ (by kernel_rfl) ⟨by simp, hK3, nx2⟩ (by simp [keysA_len, byteA]) (Store.sub_refl _) fun y hy => ?_
      clear hK3 nx2 nx1 hcp
      try clear hlo hw
      obtain ⟨i, r, x⟩ := y
      obtain ⟨hi, hK4, nx⟩ := hy
      dsimp only at hi hK4 nx ⊢
      by_cases hlt : i < ks.length
      · have ha := keysA_at ks i hlt
        have hw1 : IntKind.i64.wrap ((i : Int) + 1) = ((i + 1 : Nat) : Int) := wrap_i64 (by omega) (by omega)
        generalize ks[i] = K2 at ha
        by_cases h20 : i < 20
        · have h20' : ¬ (20 : Int) ≤ i := by omega
          by_cases h17 : K2.kind = 17
          · simp +contextual [hlt, ha, keyA, keyC, h20', h17]
            intro z hz
            have f := kS_free hK4 hz
            exact ⟨⟨i + 1, r, x⟩, ⟨by show i + 1 ≤ _; omega, hK4, nx⟩, by show _ - (i + 1) < _ - i; omega, by simp [hw1], sub_upd_self _ _ _ hz⟩
          · have h17' : ¬ (17 : Int) = K2.kind := fun e => h17 e.symm
            simp +contextual [hlt, ha, keyA, keyC, h20', h17]
            intro z hz
            have f := kS_free hK4 hz
            have hdr := f.drop x B2 (n := pn) (keyC K2)
            have hz1 := kS_other (n := pn) f x B2 (keyC K2)
            have hK5 := f.ok hK4 (keyC K2)
            have hpr := press_calls hK5 x K2
            rw [pressB_locked hlk h17] at hpr
            have hbk := f.backs (n := pn) (keyC K2)
            have hmk : ∀ g : Nat, (base2.upd z (keyC K2)) (mkey g) = base2 (mkey g) := fun g => by simp
            simp only [keyA, keyC] at hdr hz1 hK5 hpr hmk hbk
            simp only [kS_new f]
            generalize base2.upd z [.lit (.int .i64 K2.kind), .lit (.int .i32 K2.sign), .lit (.int .i64 K2.num)] = base3 at *
            refine callK.of hpr ?_
            rintro v τ ⟨rfl, r2, x2, hK6, nx6, rfl⟩
            have hlo := lock_calls hK6 x2
            have hai := baid_calls hK6 x2
            simp only [byteA] at hai
            have hE : (if K2.kind < 1 ∨ 22 < K2.kind then (1 : Int) else 8) = 1 ∨ (if K2.kind < 1 ∨ 22 < K2.kind then (1 : Int) else 8) = 8 := by split; exact .inl rfl; exact .inr rfl
            generalize (if K2.kind < 1 ∨ 22 < K2.kind then (1 : Int) else 8) = ee at *
            obtain ⟨hK7, hsb⟩ := hbk r2 x2 B2 hK6
            have nx7 : NxP base2 none x2 := nx.trans (nx6.of fun g => hmk g)
            have hself : ((B2.aid.toNat : Int) != (B2.aid.toNat : Int)) = false := by simp
            rcases hE with rfl | rfl
            all_goals
              simp
              refine callK.of hlo ?_
              rintro v τ ⟨rfl, rfl⟩
              simp
              refine callK.of hai ?_
              rintro v τ ⟨rfl, rfl⟩
              simp
              exact ⟨⟨i + 1, r2, x2⟩, ⟨by show i + 1 ≤ _; omega, hK7, nx7⟩, by show _ - (i + 1) < _ - i; omega, by simp [hw1], hsb⟩
        · have h20' : (20 : Int) ≤ i := by omega
          simp +contextual [hlt, ha, keyA, keyC, h20']
          intro z hz
          exact ⟨r, x, ⟨hK4, nx⟩, sub_upd_self _ _ _ hz⟩
      · obtain rfl : i = ks.length := by omega
        simp
        exact ⟨r, x, ⟨hK4, nx⟩, Store.sub_refl _⟩
    · rintro e A' σ2 ⟨rfl, r, x, ⟨hK4, nx⟩, hA, hσp⟩
      refine View.leL hA (View.sub hσp (View.here ?_))
      clear hA hσp hK3 nx2 nx1 hcp
      try clear hlo hw
      simp
      refine callK.of (ssame_calls (kS_prg hK4 x) (ho.at hK4 x)) ?_
      rintro v τ ⟨rfl, rfl⟩
      simp
      have hpr := press_calls hK4 x ⟨17, 0, 0⟩
      rw [pressB_reset] at hpr
      simp only [keyA, keyC] at hpr
      refine callK.of hpr ?_
      rintro v τ ⟨rfl, r2, x2, hK6, nx6, rfl⟩
      simp
      have hlr := lock_calls hK6 x2
      have hsa := ssame_calls (kS_prg hK6 x2) (ho.at hK6 x2)
      have hlv : (resetB B2).lock = if B2.lock = 1 then 1 else 0 := rfl
      rw [hlv] at hlr
      refine callK.of hsa ?_
      rintro v τ ⟨rfl, rfl⟩
      by_cases h1 : B2.lock = 1
      · rw [if_pos h1] at hlr
        simp [h1]
        refine callK.of hlr ?_
        rintro v τ ⟨rfl, rfl⟩
        simp [h1]
        exact ⟨_, Store.sub_refl _⟩
      · have h1' : ¬ (1 : Int) = B2.lock := fun e => h1 e.symm
        have h1b : (B2.lock == 1) = false := by simpa using h1
        rw [if_neg h1] at hlr
        simp [h1b]
        refine callK.of hlr ?_
        rintro v τ ⟨rfl, rfl⟩
        simp [h1b]
        refine callK.of hlr ?_
        rintro v τ ⟨rfl, rfl⟩
        simp
        exact ⟨_, Store.sub_refl _⟩
end Go.Proofs.YtlmdbcgceijlnaaGreat
/-
  Arguments opened.
-/
namespace Go.Proofs.YtlmdbcgceijlnaaGreat
open Go Go.AL Go.Sp
theorem open_bytes : Opens Tryz.prog 22 (fun l : List UInt8 => [.list false 1 (bytesA l)]) (fun l => l.length ≤ maxLen) :=
  (Opens.slice Tryz.underlying22 (sz := 1) (by kernel_rfl) (by omega) (Opens.u8 Tryz.underlying5) byteA (fun _ => rfl) (fun _ => rfl)).by id fun _ h => ⟨h.1, rfl⟩
theorem open_cell : Opens Tryz.prog 26 (fun c : Cell => cellC c) (fun _ => True) :=
  (Opens.struct (total := 6) Tryz.underlying26 (by kernel_rfl)
    (.cons (k := 1) rfl (by kernel_rfl) (by omega) (Opens.u8 Tryz.underlying5) (.cons (k := 1) rfl (by kernel_rfl) (by omega) (Opens.bool Tryz.underlying4) (.cons (k := 1) rfl (by kernel_rfl) (by omega) (Opens.u8 Tryz.underlying5)
      (.cons (k := 1) rfl (by kernel_rfl) (by omega) (Opens.u8 Tryz.underlying5) (.cons (k := 1) rfl (by kernel_rfl) (by omega) (Opens.u8 Tryz.underlying5) (.cons (k := 1) rfl (by kernel_rfl) (by omega) (Opens.u8 Tryz.underlying5) .nil))))))).by
    (fun x => ⟨x.1, x.2.1, x.2.2.1, x.2.2.2.1, x.2.2.2.2.1, x.2.2.2.2.2.1⟩) fun _ _ => ⟨trivial, rfl⟩
theorem open_act : Opens Tryz.prog 28 (fun a : Sp.Act => actC a) (fun a => a.text.length ≤ maxLen) :=
  (Opens.struct (total := 11) Tryz.underlying28 (by kernel_rfl)
    (.cons (k := 1) rfl (by kernel_rfl) (by omega) (Opens.u8 Tryz.underlying5) (.cons (k := 1) rfl (by kernel_rfl) (by omega) (Opens.i64 Tryz.underlying3) (.cons (k := 1) rfl (by kernel_rfl) (by omega) (Opens.bool Tryz.underlying4)
      (.cons (k := 1) rfl (by kernel_rfl) (by omega) (Opens.u8 Tryz.underlying5) (.cons (k := 6) rfl (by kernel_rfl) (by omega) open_cell (.cons (k := 1) rfl (by kernel_rfl) (by omega) open_bytes .nil))))))).by
    (fun x => ⟨x.1, x.2.1, x.2.2.1, x.2.2.2.1, x.2.2.2.2.1, x.2.2.2.2.2.1⟩) fun _ h => ⟨h.2.2.2.2.2.1, rfl⟩
theorem open_acts : Opens Tryz.prog 29 (fun l : List Sp.Act => [.list false 11 (actsA l)]) (fun l => l.length ≤ maxLen ∧ ∀ a ∈ l, a.text.length ≤ maxLen) :=
  Opens.slice Tryz.underlying29 (by kernel_rfl) (by omega) open_act actA (fun _ => rfl) (fun _ => rfl)
theorem open_key : Opens Tryz.prog 46 (fun K : Key => keyC K) (fun _ => True) :=
  (Opens.struct (total := 3) Tryz.underlying46 (by kernel_rfl)
    (.cons (k := 1) rfl (by kernel_rfl) (by omega) (Opens.i64 Tryz.underlying3) (.cons (k := 1) rfl (by kernel_rfl) (by omega) (Opens.int (k := .i32) Tryz.underlying21) (.cons (k := 1) rfl (by kernel_rfl) (by omega) (Opens.i64 Tryz.underlying3) .nil)))).by
    (fun x => ⟨x.1, x.2.1, x.2.2.1⟩) fun _ _ => ⟨trivial, rfl⟩
theorem open_keys : Opens Tryz.prog 23 (fun l : List Key => [.list false 3 (keysA l)]) (fun l => l.length ≤ maxLen) :=
  (Opens.slice Tryz.underlying23 (by kernel_rfl) (by omega) open_key keyA (fun _ => rfl) (fun _ => rfl)).by id fun _ h => ⟨h.1, rfl⟩
end Go.Proofs.YtlmdbcgceijlnaaGreat
