/-
  The sign of any place, by a page or by none.
-/
import Derived.Test.YtlmdbcgceijlnaaGreatDoorLPart20
import Derived.Lib.Builder
import Derived.Lib.AppendStr
import Derived.Lib.UnsafeStr
import Derived.Lib.Walk
import Derived.Laws.Externs
import Derived.OwnWalk
set_option linter.unusedSimpArgs false
set_option linter.unusedVariables false
namespace Go.Proofs.YtlmdbcgceijlnaaGreatDoor
open Go Go.AL Go.Sp
variable {σ Y Z τ : Store} {q p b x y : Nat} {s : Sp} {n : Int} {pv : AV}

set_option maxRecDepth 8000 in
theorem startI_calls {q r : Nat} {s : Sp} {σ : Store} (h : Prg σ q r s) (k : Int) {n : Nat} (hk : wrap s.n k = n) (hn : n < s.n) : ACalls Tryz.prog 109 [ptrA q, .lit (.int .i64 k)] σ fun v σ' => v = .lit (.int .i64 (startS s.cells n)) ∧ σ' = σ := by
  have hf := fun τ (hτ : Prg τ q r s) => formatted_calls hτ
  have hsz := fun τ (hτ : Prg τ q r s) => size_calls hτ
  have hnl := s.n_le
  refine ACalls.of_awp follows (st := st109) (plans := pl109) (n := 24) Tryz.func109 rfl (by kernel_rfl) (by kernel_rfl) (by kernel_rfl) ?_
  by_cases hc : s.count = 0
  · have hs := startS_none hc n
    rw [hs]
    simp
    refine callK.of (hf _ h) ?_
    rintro v σ' ⟨rfl, rfl⟩
    simp [hc]
  · have hc' : 0 < s.count := by omega
    obtain ⟨a, ha, hat⟩ := count_some hc'
    have hw := fun τ => swrap_calls s k τ
    rw [hk] at hw
    simp
    refine callK.of (hf _ h) ?_
    rintro v σ' ⟨rfl, rfl⟩
    simp [hc']
    refine callK.of (hsz _ h) ?_
    rintro v σ' ⟨rfl, rfl⟩
    simp
    intro b hb
    have hbq := h.fresh hb
    refine callK.of (hw _) ?_
    rintro v σ2 ⟨rfl, rfl⟩
    simp
    have hbk := @back_start s h.good n
    have hgood := h.good
    have hpos := s.n_pos
    -- as many steps back as there are places, at most
    have hstop : ∀ j, j < s.n → (∀ i, i < j → attrAt s.cells ((n + s.n - i) % s.n) = false) → attrAt s.cells ((n + s.n - j) % s.n) = false → j + 1 < s.n := fun j hj hfree hthis => by
      rcases Nat.lt_or_ge (j + 1) s.n with h1 | h1
      · exact h1
      · exfalso
        rw [h.good.len] at ha
        have e : (n + s.n - (n + s.n - a) % s.n) % s.n = a := by
          rcases Nat.lt_or_ge n a with h2 | h2
          · rw [Nat.mod_eq_of_lt (by omega : n + s.n - a < s.n), show n + s.n - (n + s.n - a) = a from by omega, Nat.mod_eq_of_lt ha]
          · rw [show n + s.n - a = (n - a) + s.n from by omega, Nat.add_mod_right, Nat.mod_eq_of_lt (by omega : n - a < s.n), show n + s.n - (n - a) = a + s.n from by omega, Nat.add_mod_right, Nat.mod_eq_of_lt ha]
        have hm := Nat.mod_lt (n + s.n - a) hpos
        rcases Nat.lt_or_ge ((n + s.n - a) % s.n) j with h3 | h3
        · have := hfree _ h3; rw [e, hat] at this; cases this
        · have : (n + s.n - a) % s.n = j := by omega
          rw [this] at e; rw [e, hat] at hthis; cases hthis
    refine codeK.loop follows (st := st109) (plans := pl109) (X := Nat) (fun j => j < s.n ∧ ∀ i, i < j → attrAt s.cells ((n + s.n - i) % s.n) = false)
      (fun j => [(0, ptrA q), (1, .lit (.int .i64 ((n + s.n - j) % s.n : Nat))), (5, ptrA b)]) (fun _ => σ'.upd b [.lit (.int .i64 s.rows), .lit (.int .i64 s.cols)]) (fun j => s.n - j) 0 (by kernel_rfl) ⟨hpos, fun i hi => by omega⟩ (by simp [Nat.mod_eq_of_lt hn]) (by first | exact Store.sub_refl _ | (intro q; simp only [Store.upd, Store.del]; (repeat' split) <;> first | exact Or.inr rfl | exact Or.inl rfl | (exfalso; omega) | (left; subst_vars; assumption) | simp_all)) fun j hj => ?_
    obtain ⟨hj, hfree⟩ := hj
    have hbk2 := hbk hn hj hfree
    have hstop2 := hstop j hj hfree
    have hm := Nat.mod_lt (n + s.n - j) hpos
    have hnext : ((n + s.n - j) % s.n + s.n - 1) % s.n = (n + s.n - (j + 1)) % s.n := by
      rcases Nat.lt_or_ge (n + s.n - j) s.n with h1 | h1
      · rw [Nat.mod_eq_of_lt h1, show n + s.n - j + s.n - 1 = (n + s.n - (j + 1)) + s.n from by omega, Nat.add_mod_right]
      · rw [show n + s.n - j = (n - j) + s.n from by omega, Nat.add_mod_right, Nat.mod_eq_of_lt (by omega : n - j < s.n), show n + s.n - (j + 1) = n - j + s.n - 1 from by omega]
    have hfree2 : attrAt s.cells ((n + s.n - j) % s.n) = false → ∀ i, i < j + 1 → attrAt s.cells ((n + s.n - i) % s.n) = false := fun h0 i hi => by
      by_cases e : i = j
      · subst e; exact h0
      · exact hfree i (by omega)
    have hnI : (((n + s.n - j) % s.n + s.n - 1 : Nat) : Int) % (s.n : Int) = ((n + s.n - (j + 1) : Nat) : Int) % (s.n : Int) := by
      have := congrArg (fun x : Nat => (x : Int)) hnext
      simpa using this
    have hat2 := attrAt_at hm
    have hwp := wrap_pred hpos hm
    generalize (n + s.n - j) % s.n = m at *
    have hsw := fun τ => swrap_calls s ((m : Int) - 1) τ
    rw [hwp] at hsw
    have hatc := fun τ (hτ : Prg τ q r s) => at_calls hτ (m : Int)
    simp only [cellA_eq, hat2] at hatc
    have hi : IntKind.i64.wrap ((m : Int) - 1) = (m : Int) - 1 := wrap_i64 (by omega) (by omega)
    simp
    refine callK.of (hatc _ (h.new hb _)) ?_
    rintro v σ3 ⟨rfl, rfl⟩
    by_cases h0 : attrAt s.cells m = true
    · rw [hbk2 h0]
      simp [h0]
      (intro q; simp only [Store.upd, Store.del]; (repeat' split) <;> first | exact Or.inr rfl | exact Or.inl rfl | (exfalso; omega) | (left; subst_vars; assumption) | simp_all)
    · have h0' : attrAt s.cells m = false := by simpa using h0
      simp [h0', hi]
      refine callK.of (hsw _) ?_
      rintro v σ3 ⟨rfl, rfl⟩
      simp
      exact ⟨j + 1, ⟨hstop2 h0', hfree2 h0'⟩, by omega, by rw [hnI]; exact AV.le_refl _⟩
set_option maxRecDepth 8000 in
theorem fofI_calls {q r : Nat} {s : Sp} {σ : Store} (h : Prg σ q r s) (k : Int) {n : Nat} (hk : wrap s.n k = n) (hn : n < s.n) : ACalls Tryz.prog 65 [ptrA q, .lit (.int .i64 k)] σ fun v σ' => v = .tuple [if 0 ≤ startS s.cells n then fldA (fldAt s (startS s.cells n).toNat) else .agg [.lit (.bool false), .lit (.bool false), .lit (.int .i64 0), .lit (.bool false)], .lit (.bool (decide (0 ≤ startS s.cells n)))] ∧ σ' = σ := by
  have hst := fun τ (hτ : Prg τ q r s) => startI_calls hτ k hk hn
  have hfa : ∀ f : Fld, fldA f = .agg [.lit (.bool f.prot), .lit (.bool f.num), .lit (.int .i64 f.disp), .lit (.bool f.mod)] := fun _ => rfl
  refine ACalls.of_awp follows (st := st65) (plans := pl65) (n := 18) Tryz.func65 rfl (by kernel_rfl) (by kernel_rfl) (by kernel_rfl) ?_
  by_cases hc : s.count = 0
  · rw [startS_none hc n] at hst ⊢
    simp
    intro b hb
    refine callK.of (hst _ (h.new hb _)) ?_
    rintro v σ' ⟨rfl, rfl⟩
    simp
    exact sub_upd_self _ _ _ hb
  · obtain ⟨h1, h2⟩ := startS_at h.good hn hc
    obtain ⟨a, ha⟩ : ∃ a : Nat, startS s.cells n = a := ⟨_, (Int.toNat_of_nonneg h1).symm⟩
    rw [ha] at hst h2 ⊢
    simp only [Int.toNat_natCast] at h2 ⊢
    rw [if_pos (by omega)]
    have hat := fun τ (hτ : Prg τ q r s) => at_calls hτ (a : Int)
    have hae := at_of h.good h2
    have hfe : fldAt s a = fld (s.at (a : Int)).fa := by unfold fldAt; rw [hae]
    have hof := fun τ => of_calls (s.at (a : Int)).fa τ
    rw [hfe]
    simp only [cellA_eq] at hat
    rw [hfa] at hof ⊢
    have ha1 : ¬ (a : Int) = -1 := by omega
    have ha0 : (0 : Int) ≤ a := by omega
    simp
    intro b hb
    refine callK.of (hst _ (h.new hb _)) ?_
    rintro v σ' ⟨rfl, rfl⟩
    simp [ha1]
    refine callK.of (hat _ (h.new hb _)) ?_
    rintro v σ' ⟨rfl, rfl⟩
    simp
    refine callK.of (hof _) ?_
    rintro v σ' ⟨rfl, rfl⟩
    simp
    (intro q; simp only [Store.upd, Store.del]; (repeat' split) <;> first | exact Or.inr rfl | exact Or.inl rfl | (exfalso; omega) | (left; subst_vars; assumption) | simp_all)
theorem fofFI_calls {s : Sp} {r : Nat} (h : Prg σ q r s) (k : Int) {n : Nat} (hk : wrap s.n k = n) (hn : n < s.n) : ACalls Tryz.prog 65 [ptrA q, .lit (.int .i64 k)] σ fun v σ' => v = .tuple [.agg [.lit (.bool (fofF s n).prot), .lit (.bool (fofF s n).num), .lit (.int .i64 (fofF s n).disp), .lit (.bool (fofF s n).mod)], .lit (.bool (okF s n))] ∧ σ' = σ := by
  have := fofI_calls h k hk hn
  unfold fofF okF
  by_cases h0 : 0 ≤ startS s.cells n
  · simp only [if_pos h0] at this ⊢; exact this
  · simp only [if_neg h0] at this ⊢; exact this
set_option maxRecDepth 8000 in
theorem csign_nil (c : UInt8) (σ : Store) : ACalls Tryz.prog 152 [.lit (.pointer none), byteA c] σ fun v σ' => v = .lit (.int .i32 ((sgF 37 c.toNat : Nat) : Int)) ∧ σ' = σ := by
  have hpg := page_new 37 page37
  refine ACalls.of_awp follows (st := st152) (plans := pl152) (n := 14) Tryz.func152 rfl (by kernel_rfl) (by kernel_rfl) (by kernel_rfl) ?_
  simp
  refine callK.of (hpg _) ?_
  rintro v τ ⟨b, hb, rfl, rfl⟩
  simp
  refine callK.of (sign_calls b 37 page37 none c σ) ?_
  rintro v τ ⟨rfl, q, nx, rfl⟩
  simp
  exact pgS_over hb 37 (fun g e => by rcases nx with h | ⟨g', h6, h7⟩ <;> simp_all)
set_option maxRecDepth 8000 in
theorem shown_nil (c : UInt8) (σ : Store) : ACalls Tryz.prog 112 [.lit (.pointer none), byteA c] σ fun v σ' => v = .lit (.int .i32 ((shownN 37 c : Nat) : Int)) ∧ σ' = σ := by
  have hs := csign_nil c σ
  have hd := fun τ => data_calls c τ
  have hh := fun τ => hid_calls (sgF 37 c.toNat) τ
  unfold shownN
  refine ACalls.of_awp follows (st := st112) (plans := pl112) (n := 22) Tryz.func112 rfl (by kernel_rfl) (by kernel_rfl) (by kernel_rfl) ?_
  by_cases c1 : c = 28
  · subst c1; simp [byteA]
  by_cases c2 : c = 30
  · subst c2; simp [byteA]
  by_cases c3 : c = 63
  · subst c3; simp [byteA]
  have k1 : ¬ (c.toNat : Int) = 28 := fun h => c1 (UInt8.toNat_inj.1 (by show c.toNat = 28; omega))
  have k2 : ¬ (c.toNat : Int) = 30 := fun h => c2 (UInt8.toNat_inj.1 (by show c.toNat = 30; omega))
  have k3 : ¬ (c.toNat : Int) = 63 := fun h => c3 (UInt8.toNat_inj.1 (by show c.toNat = 63; omega))
  unfold byteA at *
  simp [k1, k2, k3, c1, c2, c3]
  refine callK.eq (hd _) ?_
  generalize sgF 37 c.toNat = s at *
  generalize hidB s = hb at *
  generalize dataB c = db at *
  cases db
  · simp
  · simp
    refine callK.eq hs ?_
    simp
    refine callK.eq (hh _) ?_
    cases hb
    · simp
    · simp
set_option maxRecDepth 8000 in
theorem sgn_nil (hP : Prg Y q p s) (k : Int) (hid : Bool) : ACalls Tryz.prog 66 [ptrA q, .lit (.pointer none), .lit (.int .i64 k), .lit (.bool hid)] Y fun v σ' => v = .lit (.int .i32 (signN 37 (s.at k) hid : Nat)) ∧ σ' = Y := by
  have hat := at_calls hP k
  have hes := fun τ => escape_calls (s.at k).char τ
  have hsh := fun τ => shown_nil (s.at k).char τ
  unfold signN
  generalize s.at k = c at *
  rw [cellA_eq] at hat
  refine ACalls.of_awp follows (st := st66) (plans := pl66) (n := 41) Tryz.func66 rfl (by kernel_rfl) (by kernel_rfl) (by kernel_rfl) ?_
  simp
  refine callK.eq hat ?_
  have hend : ∀ (z : Nat) C, Y z = none → Store.sub Y (Y.upd z C) := fun z C hz => sub_upd_self _ _ _ hz
  by_cases ha : c.attr = true
  · simp [ha]
    intro z hz
    exact hend z _ hz
  have ha' : c.attr = false := by simpa using ha
  cases hid
  case true =>
    simp [ha']
    intro z hz
    exact hend z _ hz
  by_cases hs : c.set = 0xf1
  · have hs' : (c.set.toNat : Int) = 241 := by rw [hs]; rfl
    simp [ha', hs', hs, byteA]
    intro z hz
    refine callK.eq (hes _) ?_
    cases he : escF c.char with
    | none => simp; exact hend z _ hz
    | some w => simp; exact hend z _ hz
  · have hs' : ¬ (c.set.toNat : Int) = 241 := fun h => hs (UInt8.toNat_inj.1 (by show c.set.toNat = 241; omega))
    unfold byteA at *
    simp [ha', hs', hs]
    intro z hz
    refine callK.eq (hsh _) ?_
    simp
    exact hend z _ hz
theorem psgn_calls (hP : Prg Y q p s) (h : PS Y q p n pv τ) (k : Int) (hid : Bool) : ACalls Tryz.prog 66 [ptrA q, pv, .lit (.int .i64 k), .lit (.bool hid)] τ fun v σ' => v = .lit (.int .i32 (signN n (s.at k) hid : Nat)) ∧ PS Y q p n pv σ' := by
  cases h with
  | nil h =>
    subst h
    refine ACalls.mono (sgn_nil hP k hid) ?_
    rintro v τ ⟨rfl, rfl⟩
    exact ⟨rfl, .nil rfl⟩
  | page b x h1 h2 h3 h4 h5 =>
    refine ACalls.mono (sgn_calls hP h2 h3 h1 x k hid) ?_
    rintro v τ ⟨rfl, x', nx, rfl⟩
    refine ⟨rfl, .page b x' h1 h2 h3 h4 fun g e => ?_⟩
    rcases nx with h | ⟨g', h6, h7⟩
    · exact h5 g (by rw [← h]; exact e)
    · rw [h6] at e; cases e; exact h7
set_option maxRecDepth 8000 in
theorem signI_calls (hP : Prg Y q p s) (h : PS Y q p n pv τ) (k : Int) : ACalls Tryz.prog 21 [ptrA q, pv, .lit (.int .i64 k)] τ fun v σ' => v = .lit (.int .i32 (signAt n s (wrap s.n k) : Nat)) ∧ PS Y q p n pv σ' := by
  obtain ⟨a, ha⟩ := h.ptr
  rw [ha] at h ⊢
  clear ha
  have hw : wrap s.n k < s.n := wrap_lt s.n_pos k
  have hat : s.at k = s.cells[wrap s.n k]?.getD .zero := rfl
  have hf := fun τ (hτ : Prg τ q p s) => fofFI_calls hτ k rfl hw
  have hh := fun τ => hidden_calls (fofF s (wrap s.n k)).prot (fofF s (wrap s.n k)).num (fofF s (wrap s.n k)).disp (fofF s (wrap s.n k)).mod τ
  have hsa : signAt n s (wrap s.n k) = signN n (s.at k) (decide ((fofF s (wrap s.n k)).disp = 3)) := by unfold signAt hidAt; rw [hat]
  rw [hsa]
  generalize fofF s (wrap s.n k) = F at *
  obtain ⟨f1, f2, f3, f4⟩ := F
  dsimp only at hf hh
  refine ACalls.of_awp follows (st := st21) (plans := pl21) (n := 21) Tryz.func21 rfl (by kernel_rfl) (by kernel_rfl) (by kernel_rfl) ?_
  simp
  refine callK.eq (hf _ (h.prg hP)) ?_
  simp
  intro z hz
  obtain ⟨yz, g1⟩ := h.new hz [.lit (.bool f1), .lit (.bool f2), .lit (.int .i64 f3), .lit (.bool f4)]
  refine callK.eq (hh _) ?_
  simp
  refine callK.of (psgn_calls (hP.new yz _) g1 k _) ?_
  rintro v τ1 ⟨rfl, g2⟩
  obtain ⟨τ0, g3, s3⟩ := g2.drop yz
  simp
  exact ⟨_, AV.le_refl _, τ0, s3, rfl, g3⟩
end Go.Proofs.YtlmdbcgceijlnaaGreatDoor
/-
  A row's line; the first lines; two lists of texts.
-/
namespace Go.Proofs.YtlmdbcgceijlnaaGreatDoor
open Go Go.AL Go.Sp
variable {σ Y Z τ : Store} {q p b x y : Nat} {s : Sp} {n : Int} {pv : AV}

set_option maxHeartbeats 1000000 in
set_option maxRecDepth 8000 in
theorem lineI_calls (hP : Prg Y q p s) (h : PS Y q p n pv τ) (row : Int) : ACalls Tryz.prog 20 [ptrA q, pv, .lit (.int .i64 row)] τ fun v σ' => v = .lit (.string (toB (lineAt n s (wrap s.rows row)))) ∧ PS Y q p n pv σ' := by
  obtain ⟨a, ha⟩ := h.ptr
  rw [ha] at h ⊢
  clear ha
  have hdim : Dim s.rows s.cols := dim_of s.model s.alt
  have hr1 := hdim.r1
  have hll := linesL_length n s
  have hR : wrap s.rows row < s.rows := wrap_lt (by omega) row
  have hl0 : (strsA (linesL n s))[wrap s.rows row]? = some (.lit (.string (toB (lineAt n s (wrap s.rows row))))) := by
    rw [strsA_at _ _ (by omega)]
    simp [linesL, hR]
  have hr0 : ¬ s.rows = 0 := by omega
  refine ACalls.of_awp follows (st := st20) (plans := pl20) (n := 25) Tryz.func20 rfl (by kernel_rfl) (by kernel_rfl) (by kernel_rfl) ?_
  simp
  refine callK.eq (size_calls (h.prg hP)) ?_
  simp
  intro z hz
  have hfr := h.fresh hz
  obtain ⟨yz, h1⟩ := h.new hz [.lit (.int .i64 s.rows), .lit (.int .i64 s.cols)]
  have hP1 := hP.new yz [.lit (.int .i64 s.rows), .lit (.int .i64 s.cols)]
  refine callK.of (lines_calls hP1 h1) ?_
  rintro v τ1 ⟨rfl, h2⟩
  obtain ⟨τ0, h0, z0, rfl⟩ := h2.split yz hfr
  have hsl : (strsA (linesL n s)).length = s.rows := by simp [strsA, hll]
  generalize strsA (linesL n s) = SL at *
  have had := fun τ' => addrAt_calls hdim row 0 τ'
  have hro := fun τ' => row_of_calls hdim ((wrap s.rows row * s.cols : Nat) : Int) τ'
  have hc0 : 0 < s.cols := by have := hdim.c1; omega
  have hlt : wrap s.rows row * s.cols < s.rows * s.cols := Nat.mul_lt_mul_of_pos_right hR hc0
  have ha0 : addrAt s.rows s.cols row 0 = wrap s.rows row * s.cols := by simp [addrAt, wrap]
  have hw0 : wrap (s.rows * s.cols) ((wrap s.rows row * s.cols : Nat) : Int) / s.cols = wrap s.rows row := by rw [wrap_of_lt hlt, Nat.mul_div_cancel _ hc0]
  rw [ha0] at had
  rw [hw0] at hro
  clear ha0 hw0 hlt
  generalize wrap s.rows row * s.cols = RC at *
  generalize wrap s.rows row = R at *
  have hg : ∀ q : R < SL.length, SL[R]'q = .lit (.string (toB (lineAt n s R))) := fun q => by rw [List.getElem?_eq_getElem q] at hl0; exact Option.some.inj hl0
  simp [hsl, hr0]
  repeat' apply And.intro
  all_goals
    refine callK.eq (had _) ?_
    simp
    refine callK.eq (hro _) ?_
    simp [hl0, hsl, hr0, hg, hR]
    exact ⟨_, AV.le_refl _, τ0, sub_upd_self _ _ _ z0, rfl, h0⟩
theorem PS.non0 (h : PS Y q p n pv τ) {z : Nat} (hb : ∀ b : Nat, pv = pgP b → ¬ z = b) (hz : Y z = Option.none) : τ z = Option.none := by
  cases h with
  | nil h => exact hz
  | page b x h1 h2 h3 h4 h5 => rw [pgS_other (hb b rfl)]; exact hz
set_option maxRecDepth 8000 in
theorem strEq_calls (l : List (List UInt8)) (hl : l.length ≤ 1000000) (σ : Store) : ACalls Tryz.prog 17 [.list false 1 (strsA l), .list false 1 (strsA l)] σ fun v σ' => v = .lit (.bool true) ∧ σ' = σ := by
  refine ACalls.of_awp follows (st := st17) (plans := pl17) (n := 26) Tryz.func17 rfl (by kernel_rfl) (by kernel_rfl) (by kernel_rfl) ?_
  have hrl : (strsA l).length = l.length := by simp [strsA]
  have hat : ∀ k (h : k < (strsA l).length), (strsA l)[k]'h = .lit (.string (toB (l.getD k []))) := fun k h => by
    simp [strsA, List.getD_eq_getElem?_getD, show k < l.length by omega]
  generalize strsA l = R at *
  simp [hrl]
  refine codeK.loop follows (st := st17) (plans := pl17) (X := Nat) (fun k => k ≤ l.length)
    (fun k => [(0, .list false 1 R), (1, .list false 1 R), (11, .list false 1 R), (12, .lit (.int .i64 l.length)), (13, .lit (.int .i64 k))]) (fun _ => σ) (fun k => l.length - k) 0 (by kernel_rfl) (by simp) (by simp) (Store.sub_refl _) fun k hk => ?_
  by_cases hlt : k < l.length
  · have hw : IntKind.i64.wrap ((k : Int) + 1) = ((k + 1 : Nat) : Int) := wrap_i64 (by omega) (by omega)
    have hR : R[k]? = some (R[k]'(by omega)) := List.getElem?_eq_getElem _
    rw [hat] at hR
    have hg : ∀ h : k < R.length, R[k]'h = _ := fun h => hat k h
    generalize l.getD k [] = r at *
    simp [hlt, hrl, hR, hg, hw]
    exact ⟨k + 1, by omega, by omega, AV.le_refl _⟩
  · obtain rfl : k = l.length := by omega
    simp
set_option maxHeartbeats 2000000 in
set_option maxRecDepth 8000 in
theorem lwl_calls (hP : Prg Y q p s) (h : PS Y q p n pv τ) (m : Nat) (hm : 1 ≤ m) (hm2 : m ≤ 100000) : ACalls Tryz.prog 18 [ptrA q, pv, .lit (.int .i64 m)] τ fun v σ' => v = .list false 1 (strsA ((linesL n s).take m)) ∧ PS Y q p n pv σ' := by
  obtain ⟨a, ha⟩ := h.ptr
  rw [ha] at h ⊢
  clear ha
  have hdt : Dim s.rows s.cols := dim_of s.model s.alt
  have hr2 := hdt.r2
  have hll := linesL_length n s
  have sw : ∀ {i j : Nat}, ¬ i = j → ¬ j = i := fun h e => h e.symm
  refine ACalls.of_awpY follows (st := st18) (plans := pl18) (n := 28) Tryz.func18 rfl (by kernel_rfl) (by kernel_rfl) (by kernel_rfl) ?_
  simp
  intro b5 h5
  obtain ⟨y5, g5⟩ := h.new h5 [.lit (.int .i64 m)]
  simp +contextual [ite_free]
  intro b6 n6 m6 h6
  obtain ⟨y6, g6⟩ := g5.new (z := b6) (by simp [n6, m6, h6]) [.list true 1 []]
  intro b7 n76 n67 n75 n57 h7
  obtain ⟨y7, g7⟩ := g6.new (z := b7) (by simp [n76, n75, n67, n57, h7]) [.list true 1 []]
  refine callK.of (mkLines_calls a q _) ?_
  rintro v τ2 ⟨c1, c2, f1, f2, n12, rfl, rfl⟩
  simp only [supd_apply, Int.natCast_inj, ite_none] at f1 f2
  obtain ⟨k17, k16, k15, k1⟩ := f1
  obtain ⟨k27, k26, k25, k2⟩ := f2
  have yd6 : Y b6 = none := by simpa [n6, m6] using y6
  have yd7 : Y b7 = none := by simpa [n76, n75, n67, n57] using y7
  have less : ∀ {z : Nat}, τ z = none → Y z = none := fun {z} e => by
    rcases h.sub z with e' | e'
    · exact e'
    · rw [e']; exact e
  have yc1 := less k1
  have yc2 := less k2
  let Yf : List AV → Store := fun L => ((((Y.upd b5 [.lit (.int .i64 m)]).upd b6 [.list true 1 []]).upd b7 [.list true 1 L]).upd c1 [ptrA q]).upd c2 [.lit (.pointer a)]
  have hYf : ∀ L, Yf L = ((((Y.upd b5 [.lit (.int .i64 m)]).upd b6 [.list true 1 []]).upd b7 [.list true 1 L]).upd c1 [ptrA q]).upd c2 [.lit (.pointer a)] := fun _ => rfl
  have g9 := (g7.new (z := c1) (by simp [k17, k16, k15, k1]) [ptrA q]).2
  have g10 := (g9.new (z := c2) (by simp [k27, k26, k25, k2, sw n12]) [.lit (.pointer a)]).2
  have hBf : ∀ L, Prg (Yf L) q p s := fun L => ((((hP.new y5 _).new (by simp [n6, yd6]) _).new (by simp [n76, n75, yd7]) _).new (by simp [k17, k16, k15, yc1]) _).new (by simp [k27, k26, k25, yc2, sw n12]) _
  have hdrop : ∀ L τ0, PS (Yf L) q p n (.lit (.pointer a)) τ0 → ∃ τ', PS Y q p n (.lit (.pointer a)) τ' ∧ Store.sub τ' τ0 := fun L τ0 h3 => by
    rw [hYf] at h3
    obtain ⟨τ3, h4, s4⟩ := h3.drop (by simp [k27, k26, k25, yc2, sw n12])
    obtain ⟨τ5, h5, s5⟩ := h4.drop (by simp [k17, k16, k15, yc1])
    obtain ⟨τ6, h6, s6⟩ := h5.drop (by simp [n76, n75, yd7])
    obtain ⟨τ7, h7', s7⟩ := h6.drop (by simp [n6, yd6])
    obtain ⟨τ8, h8', s8⟩ := h7'.drop y5
    exact ⟨τ8, h8', Store.sub_trans s8 (Store.sub_trans s7 (Store.sub_trans s6 (Store.sub_trans s5 s4)))⟩
  clear_value Yf
  simp
  refine codeYK.rangeL follows (st := st18) (plans := pl18) (lines_iter (q := q) (p := p) a c1 c2 s n _) (by simp) (by simp) (fun k h => rfl) (by kernel_rfl) (by kernel_rfl) (by kernel_rfl)
    (fun k g ρ E => k < m ∧ g = Yf (strsA ((linesL n s).take k)) ∧ ∃ τ0, PS g q p n (.lit (.pointer a)) τ0 ∧ Store.sub τ0 ρ) (fun k g ρ E => k < m ∧ g = Yf (strsA ((linesL n s).take k)) ∧ ∃ τ0, PS g q p n (.lit (.pointer a)) τ0 ∧ Store.sub τ0 ρ)
    (fun c ρ E => c = .exit 0 ∧ ∃ τ0, PS (Yf (strsA ((linesL n s).take m))) q p n (.lit (.pointer a)) τ0 ∧ Store.sub τ0 ρ)
    (Yf (strsA ((linesL n s).take 0))) _ ⟨by omega, rfl, _, (hYf _ ▸ (by simpa [strsA] using g10) : PS (Yf (strsA ((linesL n s).take 0))) q p n _ _), Store.sub_refl _⟩ (Store.sub_refl _) ?_ ?_ ?_ ?_ ?_
  · rintro k g ρ E hk ⟨_, rfl, τ0, h1, h2⟩
    exact ⟨hBf _, by rw [hYf]; simp [n12, sw n12], by rw [hYf]; simp, τ0, h1, h2⟩
  · rintro k g ρ ρ' E hk ⟨h0, rfl, _⟩ ⟨τ0, h1, h2⟩
    exact ⟨h0, rfl, τ0, h1, h2⟩
  · rintro k g hk ρ E ⟨hkm, rfl, τ0, h1, h2⟩
    have hs := Store.sub_trans h1.sub h2
    have y5' : Yf (strsA ((linesL n s).take k)) b5 = some [.lit (.int .i64 m)] := by rw [hYf]; simp [sw k15, sw k25, n57, m6, sw n6]
    have y7' : Yf (strsA ((linesL n s).take k)) b7 = some [.list true 1 (strsA ((linesL n s).take k))] := by rw [hYf]; simp [sw k17, sw k27]
    have x5 := sub_at y5' hs
    have x7 := sub_at y7' hs
    have hnext : ∀ C, C = strsA ((linesL n s).take (k + 1)) → PS (Yf (strsA ((linesL n s).take (k + 1)))) q p n (.lit (.pointer a)) (τ0.upd b7 [.list true 1 C]) := fun C e => by
      have h3 := h1.upd (z := b7) (C := [.list true 1 C]) (h1.ne y7')
      have e2 : (Yf (strsA ((linesL n s).take k))).upd b7 [.list true 1 C] = Yf (strsA ((linesL n s).take (k + 1))) := by
        rw [hYf, hYf, e, supd_swap _ k27, supd_swap _ k17, supd_supd]
      rw [e2] at h3
      exact h3
    have hw7 : ∀ C, Store.sub (τ0.upd b7 C) (ρ.upd b7 C) := fun C => sub_upd2 h2 b7 C
    have htk : strsA ((linesL n s).take (k + 1)) = strsA ((linesL n s).take k) ++ [.lit (.string (toB (lineAt n s k)))] := by
      have hlk : (linesL n s)[k]'(by omega) = lineAt n s k := by simp [linesL]
      rw [List.take_succ_eq_append_getElem (by omega), hlk]
      simp [strsA]
    have hlen : (strsA ((linesL n s).take k)).length = k := by simp [strsA]; omega
    simp only [argN]
    rw [htk] at hnext
    generalize lineAt n s k = LA at *
    generalize strsA ((linesL n s).take k) = SL at *
    clear g5 g6 g7 g9 g10
    have hk1 : ((k : Int) + 1 = m) = (k + 1 = m) := by rw [eq_iff_iff]; omega
    by_cases hkm1 : k + 1 = m
    · subst hkm1
      simp [x5, x7, hlen, n57]
      refine ⟨by omega, by omega, _, Store.sub_refl _, _, ?_, hw7 _⟩
      rw [htk]
      exact hnext _ rfl
    · simp [x5, x7, hlen, hk1, hkm1, n57]
      refine ⟨by omega, by omega, _, Store.sub_refl _, by omega, _, ?_, hw7 _⟩
      rw [htk]
      exact hnext _ rfl
  · rintro g ρ E σ' hs' ⟨hkm, rfl, τ0, h1, h2⟩
    have hs := Store.sub_trans (Store.sub_trans h1.sub h2) hs'
    have e : (linesL n s).take s.rows = (linesL n s).take m := by rw [List.take_of_length_le (by omega), List.take_of_length_le (by omega)]
    rw [e] at h1 hs
    have x7 := sub_at (show Yf (strsA ((linesL n s).take m)) b7 = some [.list true 1 (strsA ((linesL n s).take m))] by rw [hYf]; simp [sw k17, sw k27]) hs
    have hy6 := (show Yf (strsA ((linesL n s).take m)) b6 = some [.list true 1 []] by rw [hYf]; simp [sw k16, sw k26, n67])
    have x6 := sub_at hy6 hs
    obtain ⟨τ9, h9, s9⟩ := hdrop _ _ h1
    simp [x7, x6]
    exact ⟨_, AV.le_refl _, τ9, Store.sub_upd (h9.non0 (h1.ne hy6) yd6) (Store.sub_trans s9 (Store.sub_trans h2 hs')), rfl, h9⟩
  · rintro c ρ E σ' hs' ⟨rfl, τ0, h1, h2⟩
    have hs := Store.sub_trans (Store.sub_trans h1.sub h2) hs'
    have x7 := sub_at (show Yf (strsA ((linesL n s).take m)) b7 = some [.list true 1 (strsA ((linesL n s).take m))] by rw [hYf]; simp [sw k17, sw k27]) hs
    have hy6 := (show Yf (strsA ((linesL n s).take m)) b6 = some [.list true 1 []] by rw [hYf]; simp [sw k16, sw k26, n67])
    have x6 := sub_at hy6 hs
    obtain ⟨τ9, h9, s9⟩ := hdrop _ _ h1
    simp [x7, x6, jumpQ]
    exact ⟨_, AV.le_refl _, τ9, Store.sub_upd (h9.non0 (h1.ne hy6) yd6) (Store.sub_trans s9 (Store.sub_trans h2 hs')), rfl, h9⟩
end Go.Proofs.YtlmdbcgceijlnaaGreatDoor
/-
  strings.Builder, step by step (turned from the kit's worked proofs): copyCheck, WriteString, String.
-/
namespace Go.Proofs.YtlmdbcgceijlnaaGreatDoor
open Go Go.AL Go.RowKit

theorem run_append_str {P : Program} (w : World) (t u ty e : TypeId) (i : TypeInfo) (ht : P.underlying t = some (.slice e)) (hu : P.underlying u = some .string) (hi : P.info? e = some i) (hz : i.zero = some (.int .u8 0))
    (hsize : i.size = 1) (hby : i.bytes = 1) (v : Value) (n : Nat) (xs : List Value) (hown : w.ownsRow 0 e 1 v n xs) (s : ByteArray) (hbytes : n + s.size ≤ 140737488355328) :
    ∃ v' w', (Builtin.append_ #[t, u] ty #[v, .string s]).run P w = .ok v' w' ∧ w'.ownsRow 0 e 1 v' (n + s.size) (xs ++ Lib.strCells s) ∧ w.grownBy w' v.ownBlock ∧
      (v'.ownBlock = v.ownBlock ∨ v'.ownBlock = some w.heap.size) := by
  obtain ⟨v', w', hr, h1, h2, h3⟩ := Lib.run_append_own_string (P := P) w 0 t u ty e i ht hu hi hz hsize hby v n xs hown s (by unfold maxLen; omega) hbytes (Nat.zero_le _)
  refine ⟨v', w', hr, h1, h2, ?_⟩
  rcases hown.2 with ⟨rfl, rfl⟩ | ⟨g, cap, cur, rfl, hbg, hg, hnc, hcm, hcs, htake⟩
  · by_cases hm : s.size = 0
    · have := h3.2 ⟨rfl, hm⟩
      subst this
      exact .inl rfl
    · have hr' := run_append_nil_string (P := P) w t u ty e i (.int .u8 0) ht hu hi hz s (by omega) (by omega) (by rw [hby]; omega)
      rw [hr] at hr'
      injection hr' with e1 e2
      subst e1
      exact .inr rfl
  · by_cases hroom : n + s.size ≤ cap
    · have hcs' : cur.size = cap := by simpa using hcs
      have hr' := Lib.run_append_room_string (P := P) w t u ty e i ht hu hi hsize g n cap cur hg s hroom (by omega)
      rw [hr] at hr'
      injection hr' with e1 e2
      subst e1
      exact .inl rfl
    · have hxl : xs.length = n := by simpa using hown.1
      have holds : ∀ j u, xs[j]? = some u → w.cell? ((⟨g, 0, none⟩ : Addr).add j) = some u := hown.cells (g := g) rfl
      have hr' := Lib.run_append_grow_string (P := P) w t u ty e i (.int .u8 0) ht hu hi hz ⟨g, 0, none⟩ n cap xs (by rw [hsize]; simpa using hxl) holds s (by omega) (by omega) (by rw [hby]; exact growslice_fits (by omega) (by omega))
      rw [hr] at hr'
      injection hr' with e1 e2
      subst e1
      exact .inr rfl
theorem wpList_append_str {P : Program} (w : World) {ops : Array Oper} {rest : List Oper} {o : Oper} {a : Act} {Q : Exit → Act → World → Prop} (hgd : o.guard = none) (sl x : Operand) (t u : TypeId)
    (ho : o.op = .call { callee := .builtin .append, args := #[sl, x], argTypes := #[t, u] })
    (e : TypeId) (i : TypeInfo) (ht : P.underlying t = some (.slice e)) (hu : P.underlying u = some .string) (hi : P.info? e = some i) (hz : i.zero = some (.int .u8 0))
    (hsize : i.size = 1) (hby : i.bytes = 1)
    (v : Value) (n : Nat) (xs : List Value) (hs : a.eval sl = v) (hown : w.ownsRow 0 e 1 v n xs) (s : ByteArray) (hx : a.eval x = .string s)
    (hbytes : n + s.size ≤ 140737488355328)
    (h : ∀ v' w', w'.ownsRow 0 e 1 v' (n + s.size) (xs ++ Lib.strCells s) → w.grownBy w' v.ownBlock → (v'.ownBlock = v.ownBlock ∨ v'.ownBlock = some w.heap.size) → wpList P ops Q rest (a.put o.dst v') w') : wpList P ops Q (o :: rest) a w := by
  refine wpList_plain hgd fun K hK => ?_
  obtain ⟨v', w', hr, h2, h3, h4⟩ := run_append_str (P := P) w t u o.type e i ht hu hi hz hsize hby v n xs hown s hbytes
  unfold Oper.wp execOp
  simp only [ho, resolve, invoke, builtin, Sem.run_bind, Sem.run_pure, Result.andThen_ok, List.map_toArray, List.map_cons, List.map_nil, hs, hx, hr]
  exact hK _ _ (h v' w' h2 h3 h4)

theorem oInfoB : ∃ j, Tryz.prog.info? 109 = some j ∧ j.size = 2 := Option.map_eq_some_iff.1 (by kernel_rfl : (Tryz.prog.info? 109).map (·.size) = some 2)
theorem oInfo5 : ∃ j, Tryz.prog.info? 5 = some j ∧ j.zero = some (.int .u8 0) ∧ j.size = 1 ∧ j.bytes = 1 := by
  obtain ⟨j, h1, h2⟩ := Option.map_eq_some_iff.1 (by kernel_rfl : (Tryz.prog.info? 5).map (fun i => (i.zero, i.size, i.bytes)) = some (some (.int .u8 0), 1, 1))
  simp only [Prod.mk.injEq] at h2
  exact ⟨j, h1, h2.1, h2.2.1, h2.2.2⟩
set_option maxHeartbeats 1000000 in
set_option maxRecDepth 100000 in
theorem oCopyUsed (b : Nat) (w : World) (h0 : w.cell? ⟨b, 0, none⟩ = some (.pointer (some ⟨b, 0, none⟩))) :
    Calls Tryz.prog 107 #[.pointer (some ⟨b, 0, none⟩)] w fun e w' => e = .returned (.tuple #[]) ∧ w' = w := by
  obtain ⟨j, hj, _⟩ := oInfoB
  go_enter Tryz.func107, Tryz.ntmps107
  go_wp2
  rw [Lib.run_neq_ptr_same w _ Tryz.underlying107 hj]
  go_wp2
  go_end0
  exact ⟨rfl, rfl⟩
set_option maxHeartbeats 1000000 in
set_option maxRecDepth 100000 in
theorem oCopyFresh (b : Nat) (w : World) (h0 : w.cell? ⟨b, 0, none⟩ = some (.pointer none)) (hsh : w.shape? b = some (109, 2)) (hfz : w.frozen? ⟨b, 0, none⟩ = false) :
    Calls Tryz.prog 107 #[.pointer (some ⟨b, 0, none⟩)] w fun e w' => e = .returned (.tuple #[]) ∧ w' = w.setCell ⟨b, 0, none⟩ (.pointer (some ⟨b, 0, none⟩)) := by
  obtain ⟨j, hj, hjs⟩ := oInfoB
  go_enter Tryz.func107, Tryz.ntmps107
  go_wp2
  rw [Lib.run_to_unsafe w ⟨b, 0, none⟩ Tryz.underlying107 Tryz.underlying218 hj (by rw [hjs]; decide) hsh (Nat.zero_lt_succ 1)]
  simp only [Result.andThen]
  rw [Oper.upon_value]
  go_wp2
  rw [run_callFunc_extern Tryz.func149 (by kernel_rfl) (by kernel_rfl) (by kernel_rfl) (e := Extern.AbiNoEscape.same) (by kernel_rfl)]
  rw [Lib.run_noEscape]
  simp only [Result.andThen]
  rw [Oper.upon_value]
  go_wp2
  rw [Lib.run_from_unsafe w ⟨b, 0, none⟩ Tryz.underlying218 Tryz.underlying107 hj hsh (by kernel_rfl)]
  simp only [Result.andThen]
  rw [Oper.upon_value]
  go_wp2
  go_end0
  exact ⟨rfl, rfl⟩
/-- A builder in a block of its own, with its bytes' row. -/
structure BldW (w : World) (b : Nat) (p v : Value) (bs : List Value) : Prop where
  blk : w.heap[b]? = some (.cells #[p, v] 109 (0, 0))
  own : w.ownsRow 0 5 1 v bs.length bs
  ne : v.ownBlock ≠ some b
theorem BldW.cell0 {w : World} {b : Nat} {p v : Value} {bs : List Value} (h : BldW w b p v bs) : w.cell? ⟨b, 0, none⟩ = some p := by rw [Lib.cell_of_heap h.blk]; rfl
theorem BldW.cell1 {w : World} {b : Nat} {p v : Value} {bs : List Value} (h : BldW w b p v bs) : w.cell? ⟨b, 1, none⟩ = some v := by rw [Lib.cell_of_heap h.blk]; rfl
theorem BldW.lt {w : World} {b : Nat} {p v : Value} {bs : List Value} (h : BldW w b p v bs) : b < w.heap.size := (Array.getElem?_eq_some_iff.1 h.blk).1
theorem BldW.used {w : World} {b : Nat} {p v : Value} {bs : List Value} (h : BldW w b p v bs) (q : Value) : BldW (w.setCell ⟨b, 0, none⟩ q) b q v bs := by
  refine ⟨?_, ?_, h.ne⟩
  · simp [World.setCell, Array.getElem?_modify, h.blk]
  · exact h.own.kept (row := some b) ⟨rfl, rfl, rfl, by simp [World.setCell], fun k _ hk => Below.heap_setCell _ _ _ _ (fun e => hk (by simp [e]))⟩ (.inr h.ne)
/-- Only the builder's own two blocks turn, and new ones. -/
structure OnlyW (b : Nat) (v : Value) (w w' : World) : Prop where
  os : w'.os = w.os
  tape : w'.tape = w.tape
  output : w'.output = w.output
  size : w.heap.size ≤ w'.heap.size
  block : ∀ k, k < w.heap.size → k ≠ b → some k ≠ v.ownBlock → w'.heap[k]? = w.heap[k]?
set_option maxHeartbeats 2000000 in
set_option maxRecDepth 100000 in
theorem oWriteUsed (b : Nat) (v : Value) (bs : List Value) (s : ByteArray) (w : World) (h : BldW w b (.pointer (some ⟨b, 0, none⟩)) v bs) (hlen : bs.length + s.size ≤ 140737488355328)
    (w0 : World) (p : Value) (hcc : Calls Tryz.prog 107 #[.pointer (some ⟨b, 0, none⟩)] w0 fun e w' => e = .returned (.tuple #[]) ∧ w' = w) (h0 : OnlyW b v w0 w) (hsz : w0.heap.size = w.heap.size) :
    Calls Tryz.prog 61 #[.pointer (some ⟨b, 0, none⟩), .string s] w0 fun e w' => e = .returned (.tuple #[.int .i64 s.size, .nilIface]) ∧ ∃ v', BldW w' b (.pointer (some ⟨b, 0, none⟩)) v' (bs ++ Lib.strCells s) ∧
      OnlyW b v w0 w' ∧ (v'.ownBlock = v.ownBlock ∨ v'.ownBlock = some w0.heap.size) := by
  obtain ⟨i0, hi, hz0, hz1, hz2⟩ := oInfo5
  go_enter Tryz.func61, Tryz.ntmps61
  go_wp2_with (go_at_call 107; refine hcc.mono ?_)
  rintro e w1 ⟨rfl, rfl⟩
  have c0 := h.cell0
  have c1 := h.cell1
  go_wp2_with (at_builtin; refine wpList_append_str _ rfl _ _ 91 9 rfl 5 i0 Tryz.underlying91 Tryz.underlying9 hi hz0 hz1 hz2 _ _ _ rfl h.own s rfl hlen ?_)
  intro v' w2 hown' hgrow hblk
  have hb2 : w2.heap[b]? = some (.cells #[.pointer (some ⟨b, 0, none⟩), v] 109 (0, 0)) := by
    rw [hgrow.block b h.lt (fun e => h.ne e.symm)]
    exact h.blk
  have d0 : w2.cell? ⟨b, 0, none⟩ = some (.pointer (some ⟨b, 0, none⟩)) := by rw [Lib.cell_of_heap hb2]; rfl
  have d1 : w2.cell? ⟨b, 1, none⟩ = some v := by rw [Lib.cell_of_heap hb2]; rfl
  have f1 : w2.frozen? ⟨b, 1, none⟩ = false := Lib.frozen_of_heap hb2 1
  obtain ⟨ao, n', cap, rfl⟩ : ∃ ao n' cap, v' = .slice ao n' cap := by
    rcases hown'.2 with ⟨hv, _⟩ | ⟨g, cap, cur, hv, _⟩
    · exact ⟨_, _, _, hv⟩
    · exact ⟨_, _, _, hv⟩
  go_wp2
  go_ret2
  have hne' : (Value.slice ao n' cap).ownBlock ≠ some b := by
    rcases hblk with e | e
    · rw [e]; exact h.ne
    · rw [e]; have := h.lt; simp; omega
  refine ⟨rfl, _, ⟨?_, ?_, hne'⟩, ⟨hgrow.os.trans h0.os, hgrow.tape.trans h0.tape, hgrow.output.trans h0.output, by have := hgrow.size; simp [World.setCell]; omega, fun k hk hkb hkv => ?_⟩, by rw [hsz]; exact hblk⟩
  · simp [World.setCell, Array.getElem?_modify, hb2]
  · rw [List.length_append, Lib.strCells_length]
    exact hown'.kept (row := some b) ⟨rfl, rfl, rfl, by simp [World.setCell], fun k _ hk => Below.heap_setCell _ _ _ _ (fun e => hk (by simp [e]))⟩ (.inr hne')
  · rw [Below.heap_setCell _ _ _ _ hkb, hgrow.block k (by omega) hkv]
    exact h0.block k hk hkb hkv
end Go.Proofs.YtlmdbcgceijlnaaGreatDoor
/-
  strings.Builder as abstract states: its two blocks known just so.
-/
namespace Go.Proofs.YtlmdbcgceijlnaaGreatDoor
open Go Go.AL Go.RowKit

theorem freeze_only (b : Nat) (p : Value) {g : Nat} (n cap : Nat) (w : World) : OnlyW b (.slice (some ⟨g, 0, none⟩) n cap) w (w.drew.freeze ⟨g, 0, none⟩ n) := by
  unfold World.freeze
  split
  · exact ⟨rfl, rfl, rfl, Nat.le_refl _, fun _ _ _ _ => rfl⟩
  · refine ⟨rfl, rfl, rfl, by simp, fun k hk hkb hkv => ?_⟩
    have hkg : ¬ g = k := fun e => hkv (by simp [Value.ownBlock, e])
    simp [Array.getElem?_modify, hkg]
    rfl
set_option maxHeartbeats 2000000 in
set_option maxRecDepth 100000 in
theorem oString (b : Nat) (p v : Value) (l : List UInt8) (w : World) (h : BldW w b p v (Lib.byteCells l)) (h0 : l ≠ []) :
    Calls Tryz.prog 62 #[.pointer (some ⟨b, 0, none⟩)] w fun e w' => e = .returned (.string ⟨l.toArray⟩) ∧ OnlyW b v w w' := by
  have hl0 : l.length ≠ 0 := by simpa using h0
  have hbk := h.blk
  have hown := h.own
  rw [Lib.byteCells_length] at hown
  obtain ⟨g, cap, cur, rfl, hbg, hg, hnc, hcm, hcs, htake⟩ : ∃ g cap cur, v = .slice (some ⟨g, 0, none⟩) l.length cap ∧ 0 ≤ g ∧ w.heap[g]? = some (.cells cur 5 (0, 0)) ∧ l.length ≤ cap ∧ cap ≤ maxLen ∧ cur.size = cap * 1 ∧ cur.toList.take (l.length * 1) = Lib.byteCells l := by
    rcases hown.2 with ⟨_, hz⟩ | ⟨g, cap, cur, hv, r⟩
    · exact absurd hz hl0
    · exact ⟨g, cap, cur, hv, r⟩
  have c1 : w.drew.cell? ⟨b, 1, none⟩ = some (.slice (some ⟨g, 0, none⟩) l.length cap) := by
    have : w.drew.heap[b]? = some (.cells #[p, .slice (some ⟨g, 0, none⟩) l.length cap] 109 (0, 0)) := hbk
    rw [Lib.cell_of_heap this]; rfl
  have hSD : (Builtin.unsafeSliceData_ #[91] 187 #[.slice (some ⟨g, 0, none⟩) l.length cap]).run Tryz.prog w.drew = .ok (.pointer (some ⟨g, 0, none⟩)) w.drew :=
    Lib.run_unsafeSliceData_row _ _ _ _ _ _ (by omega)
  have hUS : (Builtin.unsafeString_ #[187, 3] 9 #[.pointer (some ⟨g, 0, none⟩), .int .i64 l.length]).run Tryz.prog w.drew = .ok (.string ⟨l.toArray⟩) (w.drew.freeze ⟨g, 0, none⟩ l.length) := by
    refine Lib.run_unsafeString_row w.drew 187 3 9 5 Tryz.underlying187 (by kernel_rfl) g cur.size (by have hg' : w.drew.heap[g]? = some (.cells cur 5 (0, 0)) := hg; simp [World.shape?, hg']) l h0 (by omega) (by unfold maxLen at hcm; omega) ?_
    intro j x hx
    have := hown.cells (g := g) rfl j (.int .u8 x.toNat) (by simp [Lib.byteCells, hx])
    exact this
  go_enter Tryz.func62, Tryz.ntmps62
  go_wp2
  go_region
  all_goals
    go_wp2
    go_ret
    exact ⟨rfl, freeze_only b p l.length cap w⟩
end Go.Proofs.YtlmdbcgceijlnaaGreatDoor
