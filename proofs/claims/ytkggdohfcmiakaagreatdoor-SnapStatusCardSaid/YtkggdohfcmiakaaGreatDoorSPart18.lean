/-
  The program's signs of all places, by no page.
-/
import Derived.Test.YtkggdohfcmiakaaGreatDoorSPart17
set_option linter.unusedSimpArgs false
set_option linter.unusedVariables false
namespace Go.Proofs.YtkggdohfcmiakaaGreatDoor
open Go Go.AL Go.Sp
variable {σ Y Z : Store} {q p b x y : Nat} {s : Sp} {n : Int}

theorem pgS_over {Z : Store} {b : Nat} (h0 : Z b = none) (n : Int) {x : Option Nat} (hx : ∀ g, x = some g → Z (mkey g) = none) : Store.sub Z (pgS b n x Z) := by
  refine Store.sub2 (fun o => ?_) (fun i => ?_)
  · by_cases e : o = b
    · subst e; left; exact h0
    · right; rw [pgS_other e]
  · cases x with
    | none => right; simp [pgS]
    | some g =>
      by_cases e : i = g
      · subst e; left; exact hx _ rfl
      · right; simp [pgS, e]
set_option maxHeartbeats 2000000 in
set_option maxRecDepth 8000 in
theorem signs_nil (hP : Prg Y q p s) : ACalls Tryz.prog 40 [ptrA q, .lit (.pointer none)] Y fun v σ' => ∃ (w : Nat), Y w = none ∧ v = .lit (.slice (some ⟨w, 0, none⟩) s.n s.n) ∧ σ' = Y.upd w (r32A (signsL 37 s)) := by
  have hg := hP.good
  have hln := hg.len
  have hsn := s.n_le
  have hi1 : (s.n : Int) ≤ 9223372036854775807 := by omega
  have hi2 : 4 * (s.n : Int) ≤ 281474976710656 := by omega
  obtain ⟨n, hn37⟩ : ∃ n : Int, n = 37 := ⟨_, rfl⟩
  have hn : isPage n := by rw [hn37]; decide
  have hpg := page_new n hn
  rw [← hn37]
  have hpg : ∀ τ, ACalls Tryz.prog 5 [.lit (.int .i64 37)] τ fun v σ' => ∃ b : Nat, τ b = none ∧ v = .tuple [pgP b, .lit (.int .i64 0)] ∧ σ' = pgS b n none τ := fun τ => by have h := hpg τ; rwa [show (AV.lit (.int .i64 n)) = .lit (.int .i64 37) by rw [hn37]] at h
  have hz0 : List.replicate s.n (.lit (.int .i32 0)) = r32A (fillTo (signAt n s) s.n 0) := by rw [fillTo_zero]; simp [r32A]
  refine ACalls.of_awpY follows (st := st40) (plans := pl40) (n := 55) Tryz.func40 rfl (by kernel_rfl) (by kernel_rfl) (by kernel_rfl) ?_
  simp
  intro z2 y2
  simp +contextual [ite_free]
  intro z3 n32 n23 y3
  have hP1 : Prg ((Y.upd z2 [ptrA q]).upd z3 [.lit (.pointer none)]) q p s := (hP.new y2 _).new (r := z3) (by simp [n32, y3]) _
  refine callK.eq (size_calls hP1) ?_
  simp [n23, n32]
  intro z5 hz5
  simp only [ite_none] at hz5
  obtain ⟨n53, n52, y5⟩ := hz5
  have n35 : ¬ z3 = z5 := fun e => n53 e.symm
  have n25 : ¬ z2 = z5 := fun e => n52 e.symm
  simp [n35]
  refine callK.of (hpg _) ?_
  rintro v τ ⟨b, hb, rfl, rfl⟩
  have hP2 := (hP1.new (r := z5) (by simp [n53, n52, y5]) [.lit (.int .i64 s.rows), .lit (.int .i64 s.cols)])
  obtain ⟨b2, _⟩ := ne_at (show (((Y.upd z2 [ptrA q]).upd z3 [.lit (.pointer none)]).upd z5 [.lit (.int .i64 s.rows), .lit (.int .i64 s.cols)]) z2 = some [ptrA q] by simp [n25, n23]) hb
  obtain ⟨b3, _⟩ := ne_at (show (((Y.upd z2 [ptrA q]).upd z3 [.lit (.pointer none)]).upd z5 [.lit (.int .i64 s.rows), .lit (.int .i64 s.cols)]) z3 = some [.lit (.pointer none)] by simp [n35]) hb
  obtain ⟨b5, _⟩ := ne_at (show (((Y.upd z2 [ptrA q]).upd z3 [.lit (.pointer none)]).upd z5 [.lit (.int .i64 s.rows), .lit (.int .i64 s.cols)]) z5 = some [.lit (.int .i64 s.rows), .lit (.int .i64 s.cols)] by simp) hb
  obtain ⟨hq, _⟩ := ne_at hP2.obj hb
  obtain ⟨hp, _⟩ := ne_at hP2.row hb
  have hYb : Y b = none := by simp only [supd_apply, Int.natCast_inj, ite_none] at hb; exact hb.2.2.2
  have hP2 := hP2.upd (r := z3) ⟨(ne_at (hP.new y2 [ptrA q]).obj (show (Y.upd z2 [ptrA q]) z3 = none by simp [n32, y3])).1, (ne_at (hP.new y2 [ptrA q]).row (show (Y.upd z2 [ptrA q]) z3 = none by simp [n32, y3])).1⟩ [pgP b]
  simp [pgS_other b3, n35]
  rw [pgS_upd b3]
  have hs2 : Store.sub Y ((((Y.upd z2 [ptrA q]).upd z3 [.lit (.pointer none)]).upd z5 [.lit (.int .i64 s.rows), .lit (.int .i64 s.cols)]).upd z3 [pgP b]) := Store.sub_upd y3 (Store.sub_upd y5 (Store.sub_upd y3 (Store.sub_upd y2 (Store.sub_refl _))))
  have a2 : ((((Y.upd z2 [ptrA q]).upd z3 [.lit (.pointer none)]).upd z5 [.lit (.int .i64 s.rows), .lit (.int .i64 s.cols)]).upd z3 [pgP b]) z2 = some [ptrA q] := by simp [n25, n23]
  have a3 : ((((Y.upd z2 [ptrA q]).upd z3 [.lit (.pointer none)]).upd z5 [.lit (.int .i64 s.rows), .lit (.int .i64 s.cols)]).upd z3 [pgP b]) z3 = some [pgP b] := by simp
  have a5 : ((((Y.upd z2 [ptrA q]).upd z3 [.lit (.pointer none)]).upd z5 [.lit (.int .i64 s.rows), .lit (.int .i64 s.cols)]).upd z3 [pgP b]) z5 = some [.lit (.int .i64 s.rows), .lit (.int .i64 s.cols)] := by simp [n53]
  have hm2 : ∀ g : Nat, ((((Y.upd z2 [ptrA q]).upd z3 [.lit (.pointer none)]).upd z5 [.lit (.int .i64 s.rows), .lit (.int .i64 s.cols)]).upd z3 [pgP b]) (mkey g) = Y (mkey g) := fun g => by simp
  generalize ((((Y.upd z2 [ptrA q]).upd z3 [.lit (.pointer none)]).upd z5 [.lit (.int .i64 s.rows), .lit (.int .i64 s.cols)]).upd z3 [pgP b]) = Z2 at *
  simp [n53, pgS_other b5, a5]
  refine callK.eq (scells_calls s _) ?_
  simp [hi1, hi2, hz0]
  intro w hw
  obtain ⟨bw, w0⟩ := pgS_fresh hw
  obtain ⟨nw2, nw2'⟩ := ne_at a2 w0
  obtain ⟨nw3, nw3'⟩ := ne_at a3 w0
  obtain ⟨nw5, nw5'⟩ := ne_at a5 w0
  obtain ⟨nwq, _⟩ := ne_at hP2.obj w0
  obtain ⟨nwp, _⟩ := ne_at hP2.row w0
  have yw : Y w = none := sub_none hs2 w0
  simp +contextual [ite_free]
  intro z6 n6w nw6 hz6
  obtain ⟨b6, y6⟩ := pgS_fresh hz6
  obtain ⟨n26, n62⟩ := ne_at a2 y6
  obtain ⟨n36, n63⟩ := ne_at a3 y6
  obtain ⟨n56, n65⟩ := ne_at a5 y6
  obtain ⟨nq6, _⟩ := ne_at hP2.obj y6
  obtain ⟨np6, _⟩ := ne_at hP2.row y6
  have y6' : Y z6 = none := sub_none hs2 y6
  simp [n26, nw2, pgS_other b2, a2, hz0]
  rw [pgS_upd bw, pgS_upd b6]
  have hP3 : Prg ((Z2.upd w (r32A (fillTo (signAt n s) s.n 0))).upd z6 [.lit (.slice (some ⟨w, 0, none⟩) s.n s.n)]) q p s := (hP2.new w0 _).new (r := z6) (by simp [n6w, y6]) _
  have hs3 : Store.sub (Y.upd w (r32A (fillTo (signAt n s) s.n 0))) ((Z2.upd w (r32A (fillTo (signAt n s) s.n 0))).upd z6 [.lit (.slice (some ⟨w, 0, none⟩) s.n s.n)]) := by
    refine Store.sub_upd (by simp [n6w, y6']) (Store.sub2 (fun o => ?_) (fun i => by have := hs2 (mkey i); simpa using this))
    by_cases e : o = w
    · subst e; right; simp
    · rcases hs2 o with h | h
      · left; simp [e, h]
      · right; simp [e, h]
  have a2' : ((Z2.upd w (r32A (fillTo (signAt n s) s.n 0))).upd z6 [.lit (.slice (some ⟨w, 0, none⟩) s.n s.n)]) z2 = some [ptrA q] := by simp [n26, nw2, a2]
  have a3' : ((Z2.upd w (r32A (fillTo (signAt n s) s.n 0))).upd z6 [.lit (.slice (some ⟨w, 0, none⟩) s.n s.n)]) z3 = some [pgP b] := by simp [n36, nw3, a3]
  have aw' : ((Z2.upd w (r32A (fillTo (signAt n s) s.n 0))).upd z6 [.lit (.slice (some ⟨w, 0, none⟩) s.n s.n)]) w = some (r32A (fillTo (signAt n s) s.n 0)) := by simp [nw6]
  have a6' : ((Z2.upd w (r32A (fillTo (signAt n s) s.n 0))).upd z6 [.lit (.slice (some ⟨w, 0, none⟩) s.n s.n)]) z6 = some [.lit (.slice (some ⟨w, 0, none⟩) s.n s.n)] := by simp
  have hm3 : ∀ g : Nat, ((Z2.upd w (r32A (fillTo (signAt n s) s.n 0))).upd z6 [.lit (.slice (some ⟨w, 0, none⟩) s.n s.n)]) (mkey g) = Y (mkey g) := fun g => by simp [hm2]
  generalize ((Z2.upd w (r32A (fillTo (signAt n s) s.n 0))).upd z6 [.lit (.slice (some ⟨w, 0, none⟩) s.n s.n)]) = Z3 at *
  have hn0 := s.n_pos
  refine callK.eq (fofF_calls (pgS_prg hP3 hq hp n none) hn0) ?_
  simp
  intro z7 hz7
  obtain ⟨b7, y7⟩ := pgS_fresh hz7
  obtain ⟨n27, n72⟩ := ne_at a2' y7
  rw [pgS_upd b7]
  refine callK.eq (hidden_calls _ _ _ _ _) ?_
  simp
  intro z9 hz9
  obtain ⟨b9, y9⟩ := pgS_fresh hz9
  rw [pgS_upd b9]
  simp only [supd_apply, Int.natCast_inj, ite_none] at y9
  obtain ⟨n97, y9⟩ := y9
  have n79 : ¬ z7 = z9 := fun e => n97 e.symm
  obtain ⟨n29, n92⟩ := ne_at a2' y9
  obtain ⟨n39, n93⟩ := ne_at a3' y9
  obtain ⟨n69, n96⟩ := ne_at a6' y9
  obtain ⟨nw9, n9w⟩ := ne_at aw' y9
  obtain ⟨nq9, _⟩ := ne_at hP3.obj y9
  obtain ⟨np9, _⟩ := ne_at hP3.row y9
  obtain ⟨n37, n73⟩ := ne_at a3' y7
  obtain ⟨n67, n76⟩ := ne_at a6' y7
  obtain ⟨nw7, n7w⟩ := ne_at aw' y7
  have y9' : Y z9 = none := by
    have := sub_none hs3 y9
    simpa [n9w] using this
  have y7' : Y z7 = none := by
    have := sub_none hs3 y7
    simpa [n7w] using this
  simp [n29, n27, pgS_other b2, a2']
  refine callK.of (all_calls2 q _) ?_
  rintro v τ ⟨zf, hzf, rfl, rfl⟩
  obtain ⟨bf, yf⟩ := pgS_fresh hzf
  rw [pgS_upd bf]
  simp only [supd_apply, Int.natCast_inj, ite_none] at yf
  obtain ⟨nf9, nf7, yf⟩ := yf
  obtain ⟨n2f, nf2⟩ := ne_at a2' yf
  obtain ⟨n3f, nf3⟩ := ne_at a3' yf
  obtain ⟨n6f, nf6⟩ := ne_at a6' yf
  obtain ⟨nwf, nfw⟩ := ne_at aw' yf
  have n9f : ¬ z9 = zf := fun e => nf9 e.symm
  have n7f : ¬ z7 = zf := fun e => nf7 e.symm
  have yf' : Y zf = none := by
    have := sub_none hs3 yf
    simpa [nfw] using this
  simp
  refine codeYK.rangeG follows (st := st40) (plans := pl40) (all_iter zf q p s _) (by simp) (by simp) (by simp) (by kernel_rfl) (by kernel_rfl) (by kernel_rfl)
    (fun k ρ E => ∃ x' Z, NxP Y none x' ∧ ρ = pgS b n x' Z ∧ SgL Y Z q p b w z2 z3 z6 z9 zf n s k) (fun c ρ E => False)
    _ ⟨none, _, .inl rfl, rfl, ?_⟩ (Store.sub_refl _) ?_ ?_ ?_ ?_
  · have hQ := ((hP3.new y7 [.lit (.bool (fofF s 0).prot), .lit (.bool (fofF s 0).num), .lit (.int .i64 (fofF s 0).disp), .lit (.bool (fofF s 0).mod)]).new (r := z9) (by simp [n97, y9]) [.lit (.bool (decide ((fofF s 0).disp = 3)))]).new (r := zf) (by simp [nf9, nf7, yf]) [ptrA q]
    refine ⟨by simp [n2f, n29, n27, a2'], by simp [n3f, n39, n37, a3'], by simp [n6f, n69, n67, a6'], by simp [n9f, hidTo, hidAt], by simp, by simp [nwf, nw9, nw7, aw'], hQ, ?_, fun g => by simp [hm3]⟩
    refine Store.sub_upd (by simp [nfw, yf']) (Store.sub_upd (by simp [n9w, y9']) (Store.sub_upd (by simp [n7w, y7']) hs3))
  · rintro k ρ E hk ⟨x', Z, nx, rfl, hL⟩
    exact ⟨by rw [pgS_other bf]; exact hL.cf, pgS_prg hL.prg hq hp n x'⟩
  · rintro k hk ρ E ⟨x', Z, nx, rfl, hL⟩
    obtain ⟨l2, l3, l6, l9, lf, lw, lP, ls, lm⟩ := hL
    have hat : s.at (k : Int) = s.cells[k]?.getD .zero := at_of hg hk
    have hia : isAt s k = (s.at (k : Int)).attr := by rw [hat]; unfold isAt; have hkc : k < s.cells.length := by omega
                                                      simp [hkc]
    have hsg : signAt n s k = signN n (s.at (k : Int)) (hidAt s k) := by rw [hat]; rfl
    have hfs := fillTo_succ (signAt n s) hk
    rw [hsg] at hfs
    have hfl := fillTo_length (signAt n s) s.n (Nat.le_of_lt hk)
    have hho : hidTo s (k + 1) = hidAt s k := rfl
    have hsgn := fun (Z' : Store) (hP' : Prg Z' q p s) (x'' : Option Nat) (h : Bool) => sgn_calls hP' hq hp hn x'' (k : Int) h
    have hfof := fun (Z' : Store) (hP' : Prg Z' q p s) (x'' : Option Nat) => fofF_calls (pgS_prg hP' hq hp n x'') hk
    have hRl : (r32A (fillTo (signAt n s) s.n k)).length = s.n := by rw [r32A_length, hfl]
    have hRn : r32A (fillTo (signAt n s) s.n (k + 1)) = (r32A (fillTo (signAt n s) s.n k)).set k (.lit (.int .i32 (signN n (s.at (k : Int)) (hidAt s k) : Nat))) := by rw [hfs, r32A_set]
    generalize hRR : r32A (fillTo (signAt n s) s.n k) = RR at *
    have hcx : cellA (s.at (k : Int)) = .agg [byteA (s.at (k : Int)).char, .lit (.bool (s.at (k : Int)).attr), byteA (s.at (k : Int)).fa, byteA (s.at (k : Int)).high, byteA (s.at (k : Int)).color, byteA (s.at (k : Int)).set] := rfl
    rw [hcx]
    generalize hcc : s.at (k : Int) = c at *
    by_cases hca : c.attr = true
    · rw [hca]
      simp
      intro zc hzc
      obtain ⟨bc, yc⟩ := pgS_fresh hzc
      obtain ⟨m2, m2'⟩ := ne_at l2 yc
      obtain ⟨m3, m3'⟩ := ne_at l3 yc
      obtain ⟨m6, m6'⟩ := ne_at l6 yc
      obtain ⟨m9, m9'⟩ := ne_at l9 yc
      obtain ⟨mf, mf'⟩ := ne_at lf yc
      obtain ⟨mw, mw'⟩ := ne_at lw yc
      have ycY : Y zc = none := by
        have := sub_none ls yc
        simpa [mw'] using this
      rw [pgS_upd bc]
      have hP2 := lP.new yc [byteA c.char, .lit (.bool true), byteA c.fa, byteA c.high, byteA c.color, byteA c.set]
      simp [m2, pgS_other b2, l2]
      refine callK.eq (hfof _ hP2 x') ?_
      simp
      intro zt hzt
      obtain ⟨bt, yt⟩ := pgS_fresh hzt
      rw [pgS_upd bt]
      simp only [supd_apply, Int.natCast_inj, ite_none] at yt
      obtain ⟨ntc, yt⟩ := yt
      obtain ⟨t2, t2'⟩ := ne_at l2 yt
      obtain ⟨t3, t3'⟩ := ne_at l3 yt
      obtain ⟨t6, t6'⟩ := ne_at l6 yt
      obtain ⟨t9, t9'⟩ := ne_at l9 yt
      obtain ⟨tf, tf'⟩ := ne_at lf yt
      obtain ⟨tw, tw'⟩ := ne_at lw yt
      have ytY : Y zt = none := by
        have := sub_none ls yt
        simpa [tw'] using this
      refine callK.eq (hidden_calls _ _ _ _ _) ?_
      simp [m9, t9, pgS_other b9, l9]
      rw [pgS_upd b9]
      have hhk : decide ((fofF s k).disp = 3) = hidAt s k := rfl
      rw [hhk]
      have hP3 := (hP2.new (r := zt) (by simp [ntc, yt]) [.lit (.bool (fofF s k).prot), .lit (.bool (fofF s k).num), .lit (.int .i64 (fofF s k).disp), .lit (.bool (fofF s k).mod)]).upd (r := z9) ⟨nq9, np9⟩ [.lit (.bool (hidAt s k))]
      have hs := hsgn _ hP3 x' (hidAt s k)
      have hnew : SgL Y ((((Z.upd zc [byteA c.char, .lit (.bool true), byteA c.fa, byteA c.high, byteA c.color, byteA c.set]).upd zt [.lit (.bool (fofF s k).prot), .lit (.bool (fofF s k).num), .lit (.int .i64 (fofF s k).disp), .lit (.bool (fofF s k).mod)]).upd z9 [.lit (.bool (hidAt s k))]).upd w (r32A (fillTo (signAt n s) s.n (k + 1)))) q p b w z2 z3 z6 z9 zf n s (k + 1) := by
        refine ⟨by simp [nw2', nw2, n29, t2, m2, l2], by simp [nw3', nw3, n39, t3, m3, l3], by simp [n6w, nw6, n69, t6, m6, l6], ?_, by simp [nfw, nf9, tf, mf, lf], by simp, hP3.upd ⟨nwq, nwp⟩ _, sub_reset (Store.sub_upd (by simp [n9w, y9']) (Store.sub_upd (by simp [tw', ytY]) (Store.sub_upd (by simp [mw', ycY]) ls))), fun g => by simp [lm]⟩
        rw [hho]; simp [n9w]
      simp [m2, m3, m6, t2, t3, t6, n29, n39, n69, pgS_other b2, pgS_other b3, pgS_other b6, pgS_other b9, l2, l3, l6]
      constructor
      all_goals
        refine callK.of hs ?_
        rintro v τ ⟨rfl, x'', nx2, rfl⟩
        have hfin : Store.sub (pgS b n x'' ((((Z.upd zc [byteA c.char, .lit (.bool true), byteA c.fa, byteA c.high, byteA c.color, byteA c.set]).upd zt [.lit (.bool (fofF s k).prot), .lit (.bool (fofF s k).num), .lit (.int .i64 (fofF s k).disp), .lit (.bool (fofF s k).mod)]).upd z9 [.lit (.bool (hidAt s k))]).upd w (r32A (fillTo (signAt n s) s.n (k + 1))))) ((pgS b n x'' (((Z.upd zc [byteA c.char, .lit (.bool true), byteA c.fa, byteA c.high, byteA c.color, byteA c.set]).upd zt [.lit (.bool (fofF s k).prot), .lit (.bool (fofF s k).num), .lit (.int .i64 (fofF s k).disp), .lit (.bool (fofF s k).mod)]).upd z9 [.lit (.bool (hidAt s k))])).upd w (RR.set k (.lit (.int .i32 (signN n c (hidAt s k) : Nat))))) := by
          rw [pgS_upd bw, hRn]; exact Store.sub_refl _
        simp [m6, mw, t6, tw, n69, nw9, pgS_other b6, pgS_other bw, l6, lw, hRl, hk]
        exact ⟨by omega, _, hfin, x'', nx.trans (nx2.of (fun g => by simp [lm])), _, rfl, hnew⟩
    · have hca' : c.attr = false := by simpa using hca
      rw [hca']
      simp
      intro zc hzc
      obtain ⟨bc, yc⟩ := pgS_fresh hzc
      obtain ⟨m2, m2'⟩ := ne_at l2 yc
      obtain ⟨m3, m3'⟩ := ne_at l3 yc
      obtain ⟨m6, m6'⟩ := ne_at l6 yc
      obtain ⟨m9, m9'⟩ := ne_at l9 yc
      obtain ⟨mf, mf'⟩ := ne_at lf yc
      obtain ⟨mw, mw'⟩ := ne_at lw yc
      have ycY : Y zc = none := by
        have := sub_none ls yc
        simpa [mw'] using this
      rw [pgS_upd bc]
      have hP2 := lP.new yc [byteA c.char, .lit (.bool false), byteA c.fa, byteA c.high, byteA c.color, byteA c.set]
      have hs := hsgn _ hP2 x' (hidTo s k)
      have hh := hid_same (s := s) (k := k) (by rw [hia, hca'])
      rw [← hh] at hs l9
      have hnew : SgL Y (((Z.upd zc [byteA c.char, .lit (.bool false), byteA c.fa, byteA c.high, byteA c.color, byteA c.set])).upd w (r32A (fillTo (signAt n s) s.n (k + 1)))) q p b w z2 z3 z6 z9 zf n s (k + 1) := by
        refine ⟨by simp [nw2', nw2, m2, l2], by simp [nw3', nw3, m3, l3], by simp [n6w, nw6, m6, l6], ?_, by simp [nfw, mf, lf], by simp, ?_, sub_reset (Store.sub_upd (by simp [mw', ycY]) ls), fun g => by simp [lm]⟩
        · rw [hho]; simp [n9w, m9, l9]
        · exact hP2.upd ⟨nwq, nwp⟩ _
      simp [m2, m3, m6, m9, pgS_other b2, pgS_other b3, pgS_other b6, pgS_other b9, l2, l3, l6, l9]
      constructor
      all_goals
        refine callK.of hs ?_
        rintro v τ ⟨rfl, x'', nx2, rfl⟩
        have hfin : Store.sub (pgS b n x'' ((Z.upd zc [byteA c.char, .lit (.bool false), byteA c.fa, byteA c.high, byteA c.color, byteA c.set]).upd w (r32A (fillTo (signAt n s) s.n (k + 1))))) ((pgS b n x'' (Z.upd zc [byteA c.char, .lit (.bool false), byteA c.fa, byteA c.high, byteA c.color, byteA c.set])).upd w (RR.set k (.lit (.int .i32 (signN n c (hidAt s k) : Nat))))) := by
          rw [pgS_upd bw, hRn]; exact Store.sub_refl _
        simp [m6, mw, pgS_other b6, pgS_other bw, l6, lw, hRl, hk]
        exact ⟨by omega, _, hfin, x'', nx.trans (nx2.of (fun g => by simp [lm])), _, rfl, hnew⟩
  · rintro ρ E σ' hs ⟨x', Z, nx, rfl, hL⟩
    obtain ⟨l2, l3, l6, l9, lf, lw, lP, ls, lm⟩ := hL
    have e6 : σ' z6 = some [.lit (.slice (some ⟨w, 0, none⟩) s.n s.n)] := sub_at (by rw [pgS_other b6]; exact l6) hs
    rw [fillTo_all] at ls
    simp [e6]
    refine ⟨_, AV.le_refl _, Y.upd w (r32A (signsL n s)), Store.sub_trans (pgS_over (b := b) (x := x') (by simp [Ne.symm bw, hYb]) n ?_) (Store.sub_trans (pgS_sub ls b n x') hs), w, yw, rfl, rfl⟩
    intro g hg
    rcases nx with h | ⟨g', h1, h2⟩
    · rw [h] at hg; cases hg
    · rw [h1] at hg; cases hg; simpa using h2
  · rintro c ρ E σ' _ h
    exact h.elim
end Go.Proofs.YtkggdohfcmiakaaGreatDoor
/-
  A text is found: the document's.
-/
namespace Go.Proofs.YtkggdohfcmiakaaGreatDoor
open Go Go.AL Go.Sp
variable {σ Y Z : Store} {q p b x y : Nat} {s : Sp} {n : Int}

/-- The first i signs of w stand from n on, round the end. -/
def okTo (l w : List Nat) (n i : Nat) : Bool := (List.range i).all fun j => decide (l.getD ((n + j) % l.length) 0 = w.getD j 0)
def findZ (l w : List Nat) : Int := if l.length < w.length then -1 else match (List.range l.length).find? (fun n => okTo l w n w.length) with | some n => (n : Int) | none => -1
theorem okTo_succ (l w : List Nat) (n i : Nat) : okTo l w n (i + 1) = (okTo l w n i && decide (l.getD ((n + i) % l.length) 0 = w.getD i 0)) := by
  unfold okTo; rw [List.range_succ, List.all_append]; simp
theorem findZ_hit {l w : List Nat} {n : Nat} (h1 : w.length ≤ l.length) (hn : n < l.length) (hb : ∀ j, j < n → okTo l w j w.length = false) (h : okTo l w n w.length = true) : findZ l w = (n : Int) := by
  unfold findZ
  have e : (List.range l.length).find? (fun n => okTo l w n w.length) = some n := List.find?_eq_some_iff_getElem.2 ⟨h, n, by simpa using hn, by simp, fun j hj => by simpa using hb j hj⟩
  rw [if_neg (by omega), e]
theorem findZ_none {l w : List Nat} (h1 : w.length ≤ l.length) (hb : ∀ j, j < l.length → okTo l w j w.length = false) : findZ l w = -1 := by
  unfold findZ
  have e : (List.range l.length).find? (fun n => okTo l w n w.length) = none := List.find?_eq_none.2 fun j hj => by simpa using hb j (by simpa using hj)
  rw [if_neg (by omega), e]
theorem r32A_at (l : List Nat) (i : Nat) (h : i < l.length) : (r32A l)[i]? = some (.lit (.int .i32 (l.getD i 0 : Nat))) := by simp [r32A, h]
theorem r32A_get (l : List Nat) (i : Nat) (h : i < l.length) (q : i < (r32A l).length) : (r32A l)[i]'q = .lit (.int .i32 (l.getD i 0 : Nat)) := by simp [r32A, h]
end Go.Proofs.YtkggdohfcmiakaaGreatDoor
/-
  A text is found: the program's; by a page or by none.
-/
namespace Go.Proofs.YtkggdohfcmiakaaGreatDoor
open Go Go.AL Go.Sp
variable {σ Y Z τ : Store} {q p b x y : Nat} {s : Sp} {n : Int} {pv : AV}

@[simp] def st12r : List Nat := [24, 52, 1000018]
/-- A page (number n) or none over a store with a screen. -/
inductive PS (Y : Store) (q p : Nat) (n : Int) : AV → Store → Prop
  | nil : n = 37 → PS Y q p n (.lit (.pointer none)) Y
  | page (b : Nat) (x : Option Nat) : isPage n → ¬ q = b → ¬ p = b → Y b = none → (∀ g, x = some g → Y (mkey g) = none) → PS Y q p n (pgP b) (pgS b n x Y)
theorem PS.prg (h : PS Y q p n pv τ) (hP : Prg Y q p s) : Prg τ q p s := by
  cases h with
  | nil => exact hP
  | page b x h1 h2 h3 h4 h5 => exact pgS_prg hP h2 h3 n x
theorem PS.new (h : PS Y q p n pv τ) {z : Nat} (hz : τ z = none) (C : List AV) : Y z = none ∧ PS (Y.upd z C) q p n pv (τ.upd z C) := by
  cases h with
  | nil h => exact ⟨hz, .nil h⟩
  | page b x h1 h2 h3 h4 h5 =>
    obtain ⟨bz, yz⟩ := pgS_fresh hz
    rw [pgS_upd bz]
    exact ⟨yz, .page b x h1 h2 h3 (by simp [Ne.symm bz, h4]) (fun g e => by simpa using h5 g e)⟩
theorem PS.drop {z : Nat} {C : List AV} (h : PS (Y.upd z C) q p n pv τ) (hz : Y z = none) : ∃ τ', PS Y q p n pv τ' ∧ Store.sub τ' τ := by
  cases h with
  | nil h => exact ⟨_, .nil h, sub_upd_self _ _ _ hz⟩
  | page b x h1 h2 h3 h4 h5 =>
    simp only [supd_apply, ite_none] at h4
    exact ⟨_, .page b x h1 h2 h3 h4.2 (fun g e => by simpa using h5 g e), pgS_sub (sub_upd_self _ _ _ hz) b n x⟩
theorem PS.sub (h : PS Y q p n pv τ) : Store.sub Y τ := by
  cases h with
  | nil => exact Store.sub_refl _
  | page b x h1 h2 h3 h4 h5 => exact pgS_over h4 n h5
theorem PS.ptr (h : PS Y q p n pv τ) : ∃ a, pv = .lit (.pointer a) := by
  cases h with
  | nil => exact ⟨_, rfl⟩
  | page b x h1 h2 h3 h4 h5 => exact ⟨_, rfl⟩
theorem psg_calls (hP : Prg Y q p s) (h : PS Y q p n pv τ) : ACalls Tryz.prog 40 [ptrA q, pv] τ fun v σ' => v = .list true 1 (r32A (signsL n s)) ∧ PS Y q p n pv σ' := by
  cases h with
  | nil h =>
    subst h
    refine ACalls.shift (signs_nil hP) ?_
    rintro v τ ⟨w, y0, rfl, rfl⟩
    have hsn := s.n_le
    exact r32_shift (signsL_length 37 s) (by omega) (by simp) ⟨rfl, by rw [del_upd_new y0]; exact .nil rfl⟩
  | page b x h1 h2 h3 h4 h5 =>
    refine ACalls.mono (psigns_calls hP h2 h3 h1 x) ?_
    rintro v τ ⟨rfl, x', nx, rfl⟩
    refine ⟨rfl, .page b x' h1 h2 h3 h4 fun g e => ?_⟩
    rcases nx with h | ⟨g', h6, h7⟩
    · exact h5 g (by rw [← h]; exact e)
    · rw [h6] at e; cases e; exact h7
theorem okTo_false {l w : List Nat} {n i m : Nat} (him : i < m) (h : okTo l w n (i + 1) = false) : okTo l w n m = false := by
  induction m with
  | zero => omega
  | succ m ih =>
    by_cases e : i = m
    · subst e; exact h
    · rw [okTo_succ, ih (by omega)]; rfl
set_option maxHeartbeats 1000000 in
set_option maxRecDepth 8000 in
theorem pfind_calls (hP : Prg Y q p s) (h : PS Y q p n pv τ) (t : ByteArray) (ht : t.size ≤ 1000000) : ACalls Tryz.prog 14 [ptrA q, pv, .lit (.string t)] τ fun v σ' => v = .lit (.int .i64 (findZ (signsL n s) (runesL t))) ∧ PS Y q p n pv σ' := by
  obtain ⟨a, ha⟩ := h.ptr
  rw [ha] at h ⊢
  clear ha
  have hsn := s.n_le
  have hl := signsL_length n s
  have hsg := psg_calls hP h
  have hsz := fun τ' (h' : PS Y q p n (.lit (.pointer a)) τ') => size_calls (h'.prg hP)
  have hcl := scells_calls s
  have hrl := runesAt_len t t.size 0
  have hrV : runesV t = r32A (runesL t) := rfl
  have hfh := fun k => findZ_hit (l := signsL n s) (w := runesL t) (n := k)
  have hfn := findZ_none (l := signsL n s) (w := runesL t)
  have hf1 : (signsL n s).length < (runesL t).length → findZ (signsL n s) (runesL t) = -1 := fun h => by unfold findZ; rw [if_pos h]
  have hrl' : (runesL t).length ≤ t.size := hrl
  refine ACalls.of_awp follows (st := st12r) (plans := pl14) (n := 54) Tryz.func14 rfl (by kernel_rfl) (by kernel_rfl) (by kernel_rfl) ?_
  generalize findZ (signsL n s) (runesL t) = FZ at *
  generalize runesL t = W at *
  generalize signsL n s = L at *
  simp
  refine codeK.scope follows (st := st12r) (plans := pl14) (by kernel_rfl) ?_
  simp
  refine callK.of hsg ?_
  rintro v τ1 ⟨rfl, h1⟩
  by_cases hLW : L.length < W.length
  · simp [hLW, hrV]
    exact ⟨by omega, _, AV.le_refl _, _, Store.sub_refl _, by rw [hf1 hLW], h1⟩
  · have hWL : W.length ≤ L.length := by omega
    simp [hLW, hrV, hWL]
    refine ⟨by omega, by omega, by omega, ?_⟩
    refine callK.eq (hsz _ h1) ?_
    simp
    refine callK.eq (hcl _) ?_
    have hM : r32A L ++ List.take W.length (r32A L) = r32A (L ++ L.take W.length) := by simp [r32A, List.map_take]
    have hMl : (L ++ L.take W.length).length = L.length + W.length := by simp; omega
    have hMg : ∀ k i, k < L.length → i < W.length → (L ++ L.take W.length).getD (k + i) 0 = L.getD ((k + i) % L.length) 0 := fun k i hk hi => by
      simp only [List.getD_eq_getElem?_getD]
      by_cases h : k + i < L.length
      · rw [List.getElem?_append_left h, Nat.mod_eq_of_lt h]
      · rw [List.getElem?_append_right (by omega), List.getElem?_take_of_lt (by omega), Nat.mod_eq_sub_mod (by omega), Nat.mod_eq_of_lt (by omega)]
    simp [hM]
    generalize L ++ L.take W.length = M at *
    refine codeK.loop follows (st := st12r) (plans := pl14) (X := Nat) (fun k => k ≤ L.length ∧ ∀ j, j < k → okTo L W j W.length = false)
      (fun k => [(7, .list false 1 (r32A M)), (8, .list false 1 (r32A W)), (32, .lit (.int .i64 s.n)), (33, .lit (.int .i64 k))])
      (fun k => τ1) (fun k => L.length - k) 0 (by kernel_rfl) (by simp) (by simp) (Store.sub_refl _) fun k hk => ?_
    obtain ⟨hk1, hk2⟩ := hk
    by_cases hkl : k < L.length
    · have hkn : k < s.n := by omega
      have hwk1 : IntKind.i64.wrap ((k : Int) + 1) = ((k + 1 : Nat) : Int) := wrap_i64 (by omega) (by omega)
      simp [hkn]
      refine codeK.loop follows (st := st12r) (plans := pl14) (X := Nat) (fun i => i ≤ W.length ∧ okTo L W k i = true)
        (fun i => [(7, .list false 1 (r32A M)), (8, .list false 1 (r32A W)), (9, .lit (.int .i64 k)), (32, .lit (.int .i64 s.n)), (33, .lit (.int .i64 k)), (36, .list false 1 (r32A W)), (37, .lit (.int .i64 W.length)), (38, .lit (.int .i64 i))])
        (fun i => τ1) (fun i => W.length - i) 0 (by kernel_rfl) (by simp [okTo]) (by simp) (Store.sub_refl _) fun i hi => ?_
      obtain ⟨hi1, hi2⟩ := hi
      by_cases hil : i < W.length
      · have hwi : IntKind.i64.wrap ((i : Int) + 1) = ((i + 1 : Nat) : Int) := wrap_i64 (by omega) (by omega)
        have hwk : IntKind.i64.wrap ((k : Int) + (i : Int)) = (k : Int) + i := wrap_i64 (by omega) (by omega)
        have h0 : (0 : Int) ≤ (k : Int) + i := by omega
        have hto : ((k : Int) + (i : Int)).toNat = k + i := by omega
        have hmi : k + i < M.length := by omega
        have g1 := r32A_get W i hil
        have g2 := r32A_at M _ hmi
        have hok := okTo_succ L W k i
        rw [hi2, ← hMg k i hkl hil] at hok
        have hofN : ((k : Int) + (i : Int)) = ((k + i : Nat) : Int) := by omega
        generalize M.getD (k + i) 0 = lv at *
        generalize W.getD i 0 = wv at *
        by_cases hE : lv = wv
        · simp [hE] at hok
          simp [hil, g1, hwk, h0, hto, g2, hE, hwi]
          exact ⟨i + 1, ⟨by omega, hok⟩, by omega, by simp⟩
        · have hE' : ¬ (lv : Int) = (wv : Int) := by omega
          simp [hE] at hok
          simp [hil, g1, hwk, h0, hto, g2, hE, hE']
          refine ⟨k + 1, ⟨by omega, fun j hj => ?_⟩, by omega, by rw [hwk1]; exact AV.le_refl _⟩
          rcases Nat.lt_or_ge j k with h | h
          · exact hk2 j h
          · rw [show j = k by omega]; exact okTo_false hil hok
      · obtain rfl : i = W.length := by omega
        rw [hfh k (by omega) hkl hk2 hi2]
        simp
        exact ⟨_, AV.le_refl _, _, Store.sub_refl _, rfl, h1⟩
    · obtain rfl : k = L.length := by omega
      rw [hfn (by omega) hk2]
      simp [hl]
      exact ⟨_, AV.le_refl _, _, Store.sub_refl _, rfl, h1⟩
end Go.Proofs.YtkggdohfcmiakaaGreatDoor
/-
  Blanks at the end; a list cut into rows.
-/
namespace Go.Proofs.YtkggdohfcmiakaaGreatDoor
open Go Go.AL Go.Sp
variable {σ Y Z τ : Store} {q p b x y : Nat} {s : Sp} {n : Int} {pv : AV}

/-- How much of the first m bytes stays when the blanks at the end go. -/
def trimN (l : List UInt8) : Nat → Nat
  | 0 => 0
  | m + 1 => if l.getD m 0 = 32 then trimN l m else m + 1
def trimB (l : List UInt8) : List UInt8 := l.take (trimN l l.length)
theorem toB_at (l : List UInt8) (i : Nat) (h : i < (toB l).size) : (toB l).data[i]'h = l.getD i 0 := by
  have h2 : i < l.length := by rw [← toB_size]; exact h
  simp [toB, h2]
theorem aSlice_str0 {P : Program} {t : TypeId} (ht : tElem P t = none) (hs : tStr P t = true) (L : List UInt8) (b : Nat) (zb : Int) (hb : zb = b) (hbl : b ≤ L.length) :
    aSlice P t (.lit (.string (toB L))) none (some (.lit (.int .i64 zb))) none = some (.lit (.string (toB (L.take b)))) := by
  subst hb
  have hsz := toB_size L
  have h1 : (0 : Int) ≤ (b : Int) := by omega
  have h2 : b ≤ (toB L).size := by omega
  have := toB_extract L 0 b (by omega)
  simp at this
  simp [aSlice, ht, hs, bndA, h1, h2, this]
set_option maxRecDepth 8000 in
theorem trb_calls (l : List UInt8) (hl : l.length ≤ 1000000000) (σ : Store) : ACalls Tryz.prog 87 [.lit (.string (toB l)), .lit (.int .u8 32)] σ fun v σ' => v = .lit (.string (toB (trimB l))) ∧ σ' = σ := by
  refine ACalls.of_awp follows (st := st87) (plans := pl87) (n := 23) Tryz.func87 rfl (by kernel_rfl) (by kernel_rfl) (by kernel_rfl) ?_
  simp
  refine codeK.loop follows (st := st87) (plans := pl87) (X := Nat) (fun m => m ≤ l.length ∧ trimN l m = trimN l l.length)
    (fun m => [(0, .lit (.string (toB (l.take m)))), (1, .lit (.int .u8 32))]) (fun _ => σ) (fun m => m) l.length (by kernel_rfl) (by simp) (by simp) (Store.sub_refl _) fun m hm => ?_
  obtain ⟨hm1, hm2⟩ := hm
  cases m with
  | zero =>
    have e : trimB l = [] := by unfold trimB; rw [← hm2]; rfl
    rw [e]
    simp [toB_size]
  | succ m =>
    have hsz : (toB (l.take (m + 1))).size = m + 1 := by rw [toB_size]; simp; omega
    have hw : IntKind.i64.wrap ((m : Int) + 1 - 1) = (m : Int) := by rw [wrap_i64 (by omega) (by omega)]; omega
    have hw' : IntKind.i64.wrap (m : Int) = (m : Int) := wrap_i64 (by omega) (by omega)
    have hg : ∀ h, (toB (l.take (m + 1))).data[m]'h = l.getD m 0 := fun h => by rw [toB_at]; simp [List.getD_eq_getElem?_getD]
    have hsl := aSlice_str0 (P := Tryz.prog) (t := 9) (by simp) (by simp) (l.take (m + 1)) m (m : Int) rfl (by simp; omega)
    have htk : (l.take (m + 1)).take m = l.take m := by rw [List.take_take]; congr 1; omega
    rw [htk] at hsl
    have htr : trimN l (m + 1) = if l.getD m 0 = 32 then trimN l m else m + 1 := rfl
    generalize hS : toB (l.take (m + 1)) = S at *
    generalize l.getD m 0 = bb at *
    by_cases hb : bb = 32
    · subst hb
      simp [-e_aSlice_1, -e_aSlice_2, hsz, hw, hw', hg, hsl]
      exact ⟨m, ⟨by omega, by rw [← hm2, htr, if_pos rfl]⟩, by omega, AV.le_refl _⟩
    · have hb' : ¬ (bb.toNat : Int) = 32 := fun h => hb (UInt8.toNat_inj.1 (by show bb.toNat = 32; omega))
      simp [-e_aSlice_1, -e_aSlice_2, hsz, hw, hw', hg, hsl, hb']
      have e : trimB l = l.take (m + 1) := by unfold trimB; rw [← hm2, htr, if_neg hb]
      rw [e, hS]
      exact AV.le_refl _
set_option maxRecDepth 8000 in
theorem tr_calls (l : List UInt8) (hl : l.length ≤ 1000000000) (σ : Store) : ACalls Tryz.prog 67 [.lit (.string (toB l)), .lit (.string ⟨#[32]⟩)] σ fun v σ' => v = .lit (.string (toB (trimB l))) ∧ σ' = σ := by
  have hb := trb_calls l hl σ
  refine ACalls.of_awp follows (st := st67) (plans := pl67) (n := 37) Tryz.func67 rfl (by kernel_rfl) (by kernel_rfl) (by kernel_rfl) ?_
  by_cases h0 : toB l = ⟨#[]⟩
  · have hl0 : l = [] := by
      have := congrArg ByteArray.size h0
      rw [toB_size] at this
      exact List.eq_nil_of_length_eq_zero this
    subst hl0
    simp [h0, trimB, trimN]
  · have h0' : ¬ (toB l).toList = [] := fun h => by
      rw [ByteArray.toList_eq] at h
      exact h0 (ByteArray.ext (Array.ext' (by simpa using h)))
    have hs1 : (⟨#[32]⟩ : ByteArray).size = 1 := rfl
    simp [h0', hs1]
    refine callK.eq hb ?_
    simp
theorem runesOf_r32A (l : List Nat) : runesOf (r32A l) = some (l.map fun n : Nat => (n : Int)) := by
  unfold runesOf r32A
  induction l with
  | nil => rfl
  | cons a l ih => rw [List.map_cons, List.mapM_cons, ih]; rfl
def lineB (l : List Nat) : List UInt8 := trimB (runesBytes (l.map fun n : Nat => (n : Int))).data.toList
set_option maxRecDepth 8000 in
theorem trimmed_calls (l : List Nat) (hl : l.length ≤ 100000) (σ : Store) : ACalls Tryz.prog 37 [.list false 1 (r32A l)] σ fun v σ' => v = .lit (.string (toB (lineB l))) ∧ σ' = σ := by
  refine ACalls.of_awp follows (st := st37) (plans := pl37) (n := 6) Tryz.func37 rfl (by kernel_rfl) (by kernel_rfl) (by kernel_rfl) ?_
  simp [runesOf_r32A]
  have e : runesBytes (l.map fun n : Nat => (n : Int)) = toB (runesBytes (l.map fun n : Nat => (n : Int))).data.toList := by simp [toB]
  have hlen : (runesBytes (l.map fun n : Nat => (n : Int))).data.toList.length ≤ 1000000000 := by
    have h1 := foldl_size_le (l.map fun n : Nat => (n : Int)) ByteArray.empty
    have h2 : (runesBytes (l.map fun n : Nat => (n : Int))).size ≤ 0 + 4 * (l.map fun n : Nat => (n : Int)).length := h1
    rw [List.length_map] at h2
    have h3 : (runesBytes (l.map fun n : Nat => (n : Int))).data.toList.length = (runesBytes (l.map fun n : Nat => (n : Int))).size := by
      generalize runesBytes (l.map fun n : Nat => (n : Int)) = S
      exact Array.length_toList
    omega
  have h := tr_calls _ hlen σ
  rw [← e] at h
  refine callK.eq h ?_
  unfold lineB
  simp
/-- The k-th row of c signs. -/
def chunkL (l : List Nat) (c k : Nat) : List Nat := (l.drop (k * c)).take c
def NeedC (b1 b2 : Nat) (l : List Nat) (c : Nat) (_k : Nat) (τ : Store) : Prop := τ b1 = some [.list false 1 (r32A l)] ∧ τ b2 = some [.lit (.int .i64 c)]
set_option maxRecDepth 8000 in
theorem chunk_calls (l : List Nat) (c : Nat) (hc : 0 < c) (σ : Store) : ACalls Tryz.prog 58 [.list false 1 (r32A l), .lit (.int .i64 c)] σ fun v σ' => ∃ b1 b2 : Nat, σ b1 = none ∧ σ b2 = none ∧ ¬ b1 = b2 ∧ v = .func (.func 84) [] [ptrA b1, ptrA b2] ∧ σ' = (σ.upd b1 [.list false 1 (r32A l)]).upd b2 [.lit (.int .i64 c)] := by
  have hc' : ¬ (c : Int) < 1 := by omega
  refine ACalls.of_awp follows (st := st58) (plans := pl58) (n := 9) Tryz.func58 rfl (by kernel_rfl) (by kernel_rfl) (by kernel_rfl) ?_
  simp
  intro b1 h1
  simp +contextual [ite_free, hc']
  intro b2 n1 n2 h2
  exact ⟨_, AV.le_refl _, _, Store.sub_refl _, b1, h1, b2, h2, n2, rfl, rfl⟩
set_option maxRecDepth 8000 in
theorem chunk_iter (b1 b2 : Nat) (l : List Nat) (c N : Nat) (hc : 0 < c) (hN : l.length = N * c) (hl : l.length ≤ 100000) (σ : Store) : IterG Tryz.prog 84 [ptrA b1, ptrA b2] σ N (NeedC b1 b2 l c) fun k _ => [.list false 1 (r32A (chunkL l c k))] := by
  refine ⟨fun k τ τ' h hs => ⟨⟨sub_at h.1 hs, sub_at h.2 hs⟩, rfl⟩, fun X ly I J hneed hy τ E h0 hs => ?_⟩
  obtain ⟨q1, q2⟩ := hneed 0 τ E (Nat.zero_le _) h0
  have q1 := sub_at q1 hs
  have q2 := sub_at q2 hs
  refine ACallsY.of_awp follows (st := st84) (plans := pl84) (n := 31) Tryz.func84 rfl (by kernel_rfl) (by kernel_rfl) (by kernel_rfl) ?_
  simp
  refine codeYK.loop follows (st := st84) (plans := pl84) (S := Nat × Store) (fun x => x.1 ≤ N)
    (fun x => [(0, .func (.yield ly) [] []), (1, ptrA b1), (2, ptrA b2), (4, .lit (.int .i64 (x.1 * c : Nat)))]) (fun x => x.2) (fun x E => I x.1 x.2 E) (fun x => N - x.1) (0, τ) (by kernel_rfl) (by simp) (by simp) hs h0 ?_
  rintro ⟨k, τ1⟩ E1 hk hI
  dsimp only at hk hI ⊢
  obtain ⟨p1, p2⟩ := hneed k τ1 E1 hk hI
  by_cases hlt : k < N
  · have hyk := hy k hlt τ1 E1 hI
    have hkc : k * c + c ≤ l.length := by rw [hN, ← Nat.succ_mul]; exact Nat.mul_le_mul_right _ hlt
    have hlt' : k * c < l.length := by omega
    have hk1 : (k + 1) * c = k * c + c := Nat.succ_mul k c
    have hw : IntKind.i64.wrap (((k * c : Nat) : Int) + (c : Int)) = ((k * c : Nat) : Int) + c := wrap_i64 (by omega) (by omega)
    have hD : List.drop (k * c) (List.take (k * c + c) (r32A l)) = r32A (chunkL l c k) := by
      unfold chunkL r32A
      rw [List.drop_take, Nat.add_sub_cancel_left, List.map_take, List.map_drop]
    generalize chunkL l c k = CH at *
    generalize hkk : k * c = m at *
    have hle : m ≤ l.length := by omega
    have hT : List.take l.length (r32A l) = r32A l := List.take_of_length_le (by simp)
    have hmin : ¬ l.length - m < c := by omega
    have g0 : (0 : Int) ≤ (m : Int) + c := by omega
    have hto : ((m : Int) + (c : Int)).toNat = m + c := by omega
    have hmc : m + c ≤ l.length := by omega
    simp [p1, p2, hlt', hle, hT, hmin, hw, g0, hto, hmc, hD]
    refine yieldK.of (by simp) hyk (Store.sub_refl _) ?_
    intro bb τ' E' hR hap
    cases bb
    · simp
      exact ⟨⟨_, AV.le_refl _⟩, _, Store.sub_over _ _ _, τ', Store.sub_refl _, .inr (by simpa using hR)⟩
    · have p2' : NeedC b1 b2 l c (k + 1) τ' := hneed (k + 1) τ' E' (by omega) (by simpa using hR)
      have hb2 : τ'.over τ1 τ1 b2 = some [.lit (.int .i64 c)] := sub_at p2'.2 (Store.sub_over _ _ _)
      simp [hb2, hw]
      refine ⟨k + 1, by omega, by omega, by rw [show ((k + 1 : Nat) : Int) * (c : Int) = (m : Int) + c by rw [← Int.natCast_mul, hk1]; omega]; exact AV.le_refl _, τ', Store.sub_over _ _ _, by simpa using hR⟩
  · obtain rfl : k = N := by omega
    simp [p1, p2, hN]
    exact ⟨⟨_, AV.le_refl _⟩, _, Store.sub_refl _, τ1, Store.sub_refl _, .inl hI⟩
end Go.Proofs.YtkggdohfcmiakaaGreatDoor
