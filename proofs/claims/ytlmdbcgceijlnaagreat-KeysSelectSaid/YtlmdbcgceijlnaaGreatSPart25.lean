/-
  KeysSelect: the walk.
-/
import Derived.Test.YtlmdbcgceijlnaaGreatSPart24
set_option linter.unusedSimpArgs false
set_option linter.unusedVariables false
namespace Go.Proofs.YtlmdbcgceijlnaaGreat
open Go Go.AL Go.Sp
variable {σ : Store} {k q r b c x y : Nat} {n : Int} {B D : Bd}

theorem apt_of (hK : KOk σ k q r b n B) (hd : DOk σ c x y n D) (n1 : σ k = none) (n2 : σ q = none) (n3 : σ b = none) : Apt k q r b c x y := by
  have key : ∀ (o z : Nat) X, σ o = some X → σ z = none → ¬ o = z := fun o z X h1 h2 e => by subst e; rw [h1] at h2; cases h2
  exact ⟨⟨key _ _ _ hd.obj n1, key _ _ _ hd.obj n2, key _ _ _ hd.obj hK.none, key _ _ _ hd.obj n3⟩,
    ⟨key _ _ _ hd.ref.obj n1, key _ _ _ hd.ref.obj n2, key _ _ _ hd.ref.obj hK.none, key _ _ _ hd.ref.obj n3⟩,
    ⟨key _ _ _ hd.ref.row n1, key _ _ _ hd.ref.row n2, key _ _ _ hd.ref.row hK.none, key _ _ _ hd.ref.row n3⟩⟩
theorem dbS_none (hd : DOk σ c x y n D) {o : Nat} (ho : σ o = none) (D2 : Bd) : dbS σ c x y n D2 o = none := by
  have key : ∀ (z : Nat) X, σ z = some X → ¬ o = z := fun z X h1 e => by subst e; rw [ho] at h1; cases h1
  simp [dbS, putS, key _ _ hd.obj, key _ _ hd.ref.obj, key _ _ hd.ref.row, ho]
set_option maxHeartbeats 1000000 in
set_option maxRecDepth 8000 in
theorem rpress18_calls (h : DOk σ c x y n D) (hn : isPage n) (hl : D.lock = 0) : ACalls Tryz.prog 21 [ptrA c, .agg [.lit (.int .i64 18), .lit (.int .i32 0), .lit (.int .i64 0)]] σ fun v σ' => v = .tuple [.lit (.bool (chooseB n D).2.1), .lit (.int .i64 (chooseB n D).2.2)] ∧ σ' = dbS σ c x y n (chooseB n D).1 := by
  have ho := h.obj
  rw [hl] at ho
  unfold rbdO at ho
  refine ACalls.of_awp follows (st := st21) (plans := pl21) (n := 181) Tryz.func21 rfl (by kernel_rfl) (by kernel_rfl) (by kernel_rfl) ?_
  simp
  intro z hz
  have zc : ¬ c = z := fun e => by subst e; rw [ho] at hz; cases hz
  have zc' : ¬ z = c := fun e => zc e.symm
  have f := h.ref.fresh hz
  have h7 : DOk (σ.upd z [.lit (.int .i64 18), .lit (.int .i32 0), .lit (.int .i64 0)]) c x y n D := ⟨by simp [zc, h.obj], h.ref.new hz _, h.cx, h.cy⟩
  have hch := rchoose_calls h7 hn
  simp [zc, zc', ho]
  refine callK.of hch ?_
  rintro v τ ⟨rfl, rfl⟩
  simp
  have e : dbS (σ.upd z [.lit (.int .i64 18), .lit (.int .i32 0), .lit (.int .i64 0)]) c x y n (chooseB n D).1 = (dbS σ c x y n (chooseB n D).1).upd z [.lit (.int .i64 18), .lit (.int .i32 0), .lit (.int .i64 0)] := by
    unfold dbS
    rw [putS_upd _ _ f.2.2.1 f.2.2.2, supd_swap _ zc]
  rw [e]
  refine Store.sub_upd ?_ (Store.sub_refl _)
  simp [dbS, putS, zc', f.2.2.1, f.2.2.2, hz]
theorem sbits_calls (d : Nat) (hd : d < 4) (p : Bool) (σ : Store) : ACalls Tryz.prog 18 [.agg [.lit (.bool p), .lit (.bool false), .lit (.int .i64 d), .lit (.bool false)]] σ fun v σ' => v = .tuple [byteA (UInt8.ofNat (4 * d + if p = true then 32 else 0)), .lit (.int .i64 0)] ∧ σ' = σ := by
  have h := rbits_calls (UInt8.ofNat (4 * d + if p = true then 32 else 0)) σ
  have key : fld (UInt8.ofNat (4 * d + if p = true then 32 else 0)) = ⟨p, false, d, false⟩ ∧ Sp.six (UInt8.ofNat (4 * d + if p = true then 32 else 0)) = UInt8.ofNat (4 * d + if p = true then 32 else 0) := by
    rcases (by omega : d = 0 ∨ d = 1 ∨ d = 2 ∨ d = 3) with rfl | rfl | rfl | rfl <;> cases p <;> decide
  rw [key.1, key.2] at h
  exact h
theorem code_pos {sg : Int} (h : 0 ≤ codeZ n sg) : codeZ n sg = ((codeU n sg).toNat : Int) := by
  unfold codeZ at h ⊢
  unfold codeU
  cases hx : codeIx n sg with
  | none => rw [hx] at h; simp at h
  | some j =>
    have hj := (codeIx_lt hx).1
    have hn : (UInt8.ofNat j).toNat = j := by simp; omega
    simp only [Option.getD_some]
    rw [hn]
set_option maxHeartbeats 4000000 in
set_option maxRecDepth 8000 in
theorem keysSelect_law (u disp : UInt8) (first : Int) (pr : Bool) (σ : Store) :
    ACalls Tryz.prog 5 [byteA u, byteA disp, .lit (.int .i32 first), .lit (.bool pr)] σ fun v _ => v = .lit (.bool true) := by
  have haw := fun τ => awake_calls τ
  have hdm : disp.toNat % 4 < 4 := Nat.mod_lt _ (by omega)
  have hdw : IntKind.i64.wrap ((disp.toNat : Int).tmod 4) = ((disp.toNat % 4 : Nat) : Int) := by
    have e : (disp.toNat : Int).tmod 4 = ((disp.toNat % 4 : Nat) : Int) := rfl
    rw [e, wrap_i64 (by omega) (by omega)]
  have hbits := fun τ => sbits_calls (disp.toNat % 4) hdm pr τ
  generalize disp.toNat % 4 = dm at *
  generalize UInt8.ofNat (4 * dm + if pr = true then 32 else 0) = fb at *
  have hlay := fun τ => layD_calls 0 u (slActs fb) (by simp [slActs]) (by simp [slActs]) τ
  have hpg := pageN_ok u
  have hS0 := slc_lays fb
  refine ACalls.of_awp follows (st := st5) (plans := pl5) (n := 127) Tryz.func5 rfl (by kernel_rfl) (by kernel_rfl) (by kernel_rfl) ?_
  generalize pageN u = pn at *
  generalize Sp.lays 0 (slActs fb) = S0 at *
  simp only [byteA] at hbits
  simp [byteA]
  refine callK.of (haw _) ?_
  rintro v τ ⟨rfl, eτ⟩
  rw [eτ]
  clear eτ τ
  simp [hdw]
  intro z hz
  refine callK.of (hbits _) ?_
  rintro v τ ⟨rfl, eτ⟩
  rw [eτ]
  clear eτ τ
  simp
  refine callK.le (args' := [byteA 0, byteA u, .list false 11 (actsA (slActs fb))]) ?_ (hlay _) ?_
  · simp [AllLe, slActs, actsA, actA, actC, cellC, byteA, bytesA, Cell.zero]
  rintro v τ ⟨k, q, p, b, c, base, rfl, _, n1, n2, n3, hK0, rfl, xr, yr, hc, hR, _⟩
  have hd0 : DOk base c xr yr pn (newB S0) := by
    refine ⟨hc, hR, fun e => ?_, fun e => ?_⟩
    · subst e
      have := hR.obj
      rw [hc] at this
      unfold rbdO rfO at this
      simp at this
    · subst e
      have := hR.row
      rw [hc] at this
      have h5 := congrArg (fun o : Option (List AV) => (o.getD []).length) this
      simp [rbdO, cellsO_length] at h5
      have hl := hR.good.len
      have := n_big S0
      omega
  have hSB : Slc (newB S0).s := hS0
  have hlB : (newB S0).lock = 0 := rfl
  generalize newB S0 = B0 at *
  have hap0 := apt_of hK0 hd0 n1 n2 n3
  have hob0 := (hd0.inK hap0 none B0).obj
  unfold rbdO at hob0
  have hrc := fun τ sg => rcode_calls pn hpg sg τ
  simp [hob0]
  refine callK.of (hrc _ first) ?_
  rintro v τ ⟨rfl, eτ⟩
  rw [eτ]
  clear eτ τ
  obtain ⟨z63, _⟩ := code63 hpg
  by_cases hc0 : 0 ≤ codeZ pn first
  case' pos =>
    have hcv := code_pos hc0
    have hbl := (codeU pn first).toNat_lt
    have hwu : IntKind.u8.wrap (codeZ pn first) = ((codeU pn first).toNat : Int) := by rw [hcv]; exact wrap_u8 (by omega) (by omega)
    have hpp := pput_calls (kS_prg hK0 none) 1 (codeU pn first)
    rw [kS_put hK0] at hpp
    simp only [byteA] at hpp
    have hK1' : KOk base k q p b pn { B0 with s := B0.s.put 1 (codeU pn first) } := { hK0 with good := hSB.good.put _ _ }
    have hob1 := (hd0.inK hap0 none { B0 with s := B0.s.put 1 (codeU pn first) }).obj
    unfold rbdO at hob1
    have hrp := rput_calls (hd0.inK hap0 none { B0 with s := B0.s.put 1 (codeU pn first) }).ref 1 (codeU pn first)
    rw [dbS_scr (hd0.inK hap0 none _), dbS_inK hap0] at hrp
    simp only [byteA] at hrp
    simp [hc0, hwu]
    refine callK.of hpp ?_
    rintro v τ ⟨rfl, eτ⟩
    rw [eτ]
    clear eτ τ
    simp [hob1, hwu]
    refine callK.of hrp ?_
    rintro v τ ⟨rfl, eτ⟩
    rw [eτ]
    clear eτ τ
    obtain ⟨hS1, hch1⟩ := slc_put hSB (codeU pn first)
    have hfirst : first = 63 → (cellAt (B0.s.put 1 (codeU pn first)) 1).char = codeU pn 63 := fun e => by rw [← e]; exact hch1
    have hK1 := hK1'.inD hap0 { B0 with s := B0.s.put 1 (codeU pn first) }
    have hd1 := hd0.up (D2 := { B0 with s := B0.s.put 1 (codeU pn first) }) (hSB.good.put _ _)
    have m1 := dbS_none hd0 n1 { B0 with s := B0.s.put 1 (codeU pn first) }
    have m2 := dbS_none hd0 n2 { B0 with s := B0.s.put 1 (codeU pn first) }
    have m3 := dbS_none hd0 n3 { B0 with s := B0.s.put 1 (codeU pn first) }
    have hS1 : Slc ({ B0 with s := B0.s.put 1 (codeU pn first) } : Bd).s := hS1
    have hl1 : ({ B0 with s := B0.s.put 1 (codeU pn first) } : Bd).lock = 0 := hlB
    have hfirst : first = 63 → (cellAt ({ B0 with s := B0.s.put 1 (codeU pn first) } : Bd).s 1).char = codeU pn 63 := hfirst
    clear hpp hrp hob1 hK1' hch1
    generalize dbS base c xr yr pn { B0 with s := B0.s.put 1 (codeU pn first) } = base1 at *
    generalize ({ B0 with s := B0.s.put 1 (codeU pn first) } : Bd) = B1 at *
    simp
  case' neg =>
    have hfirst : first = 63 → (cellAt B0.s 1).char = codeU pn 63 := fun e => by rw [e] at hc0; omega
    have hK1 := hK0
    have hd1 := hd0
    have m1 := n1
    have m2 := n2
    have m3 := n3
    have hS1 := hSB
    have hl1 := hlB
    simp [hc0]
    generalize base = base1 at *
    generalize B0 = B1 at *
  all_goals
    clear hob0
    have hpr := press_calls hK1 none ⟨18, 0, 0⟩
    rw [press_choose hl1] at hpr
    simp only [keyA, keyC] at hpr
    refine callK.of hpr ?_
    rintro v τ ⟨rfl, r2, x2, hK2, nx2, eτ⟩
    rw [eτ]
    clear eτ τ hpr
    have hap1 := apt_of hK2 hd1 m1 m2 m3
    have hdp := rpress18_calls (hd1.inK hap1 x2 (chooseB pn B1).1) hpg hl1
    rw [dbS_inK hap1] at hdp
    have hg2 : (chooseB pn B1).1.s.good := hK2.good
    have hsb := fun h1 h2 h3 => select_back hpg hS1 hl1 h1 h2 h3
    have hd2 := hd1.up (D2 := (chooseB pn B1).1) hg2
    have hK2' := hK2.inD hap1 (chooseB pn B1).1
    have p1 := dbS_none hd1 m1 (chooseB pn B1).1
    have p2 := dbS_none hd1 m2 (chooseB pn B1).1
    have p3 := dbS_none hd1 m3 (chooseB pn B1).1
    generalize chooseB pn B1 = P at *
    generalize dbS base1 c xr yr pn P.1 = base2 at *
    simp
    refine callK.of hdp ?_
    rintro v τ ⟨rfl, eτ⟩
    rw [eτ]
    clear eτ τ hdp
    have hsm := same_calls hK2' x2 (hd2.inK hap1 x2 P.1)
    simp
    refine callK.of hsm ?_
    rintro v τ ⟨rfl, eτ⟩
    rw [eτ]
    clear eτ τ hsm
    by_cases h2 : P.2.2 = 0
    · cases h1 : P.2.1
      · by_cases hf : first = 63
        · obtain ⟨s1, s2, s3, s4, s5⟩ := hsb (hfirst hf) h2 h1
          have hpr := press_calls hK2' x2 ⟨18, 0, 0⟩
          rw [press_choose s2] at hpr
          simp only [keyA, keyC] at hpr
          generalize hPP : chooseB pn P.1 = P2 at *
          simp [h1, h2, hf]
          refine callK.of hpr ?_
          rintro v τ ⟨rfl, r3, x3, hK3, nx3, eτ⟩
          rw [eτ]
          clear eτ τ hpr
          have hap3 := apt_of hK3 hd2 p1 p2 p3
          have hob3 := (hd2.inK hap3 x3 P2.1).obj
          unfold rbdO at hob3
          have hat1 := at_calls (kS_prg hK3 x3) ((1 : Nat) : Int)
          have hat0 := at_calls (kS_prg hK3 x3) ((0 : Nat) : Int)
          rw [cellA_eq, s4] at hat1
          rw [cellA_eq] at hat0
          simp only [byteA] at hat1 hat0
          have hand := and_u8 (P2.1.s.at ((0 : Nat) : Int)).fa 1
          rw [s5] at hand
          have hul := (codeU pn 63).toNat_lt
          have hw63 : IntKind.i64.wrap ((codeU pn 63).toNat : Int) = ((codeU pn 63).toNat : Int) := wrap_i64 (by omega) (by omega)
          generalize (P2.1.s.at ((0 : Nat) : Int)).fa = ff at *
          simp [hob3]
          refine callK.of (hrc _ 63) ?_
          rintro v τ ⟨rfl, eτ⟩
          rw [eτ]
          clear eτ τ
          rw [z63]
          simp [s3]
          refine callK.of hat1 ?_
          rintro v τ ⟨rfl, eτ⟩
          rw [eτ]
          clear eτ τ
          simp [s3, hw63]
          refine callK.of hat0 ?_
          rintro v τ ⟨rfl, eτ⟩
          rw [eτ]
          clear eτ τ
          have hand' : pureBin .and (.int .u8 (ff.toNat : Int)) (.int .u8 1) = some (.int .u8 1) := hand
          simp [-e_pureBin_8, -e_pureBin_9, hand']
          exact ⟨_, Store.sub_refl _⟩
        · have hf' : ¬ (63 : Int) = first := fun e => hf e.symm
          simp [h1, h2, hf, hf']
          exact ⟨_, Store.sub_refl _⟩
      · simp [h1, h2]
        exact ⟨_, Store.sub_refl _⟩
    · have h2' : ¬ (0 : Int) = P.2.2 := fun e => h2 e.symm
      simp [h2, h2']
      exact ⟨_, Store.sub_refl _⟩
end Go.Proofs.YtlmdbcgceijlnaaGreat
/-
  Arguments opened.
-/
namespace Go.Proofs.YtlmdbcgceijlnaaGreat
open Go Go.AL Go.Sp
end Go.Proofs.YtlmdbcgceijlnaaGreat
