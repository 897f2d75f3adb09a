/-
  The lines of a screen.
-/
import Derived.Test.YtlmdbcgceijlnaaGreatDoorHPart19
import Derived.Test.YtlmdbcgceijlnaaGreatDoorRows
import Derived.Lay
import Derived.LaidMore
import Derived.Lib.LaidTab
import Derived.Shelf.Strings.OnBuilder
import Derived.Shelf.Strconv.Itoa3
import Derived.Test.YtlmdbcgceijlnaaGreatDoorProg
import Derived.Lib.Builder
import Derived.Lib.AppendStr
import Derived.Lib.UnsafeStr
import Derived.Lib.Walk
import Derived.Laws.Externs
import Derived.OwnWalk
set_option linter.unusedSimpArgs false
set_option linter.unusedVariables false
namespace Go.Proofs.YtlmdbcgceijlnaaGreatDoor
open Go Go.AL Go.Sp
variable {σ Y Z τ : Store} {q p b x y : Nat} {s : Sp} {n : Int} {pv : AV}

theorem PS.fresh (h : PS Y q p n pv τ) {z : Nat} (hz : τ z = none) : ∀ b : Nat, pv = pgP b → ¬ z = b := by
  intro b e
  cases h with
  | nil => cases e
  | page b' x h1 h2 h3 h4 h5 =>
    cases e
    exact (pgS_fresh hz).1
theorem PS.split {z : Nat} {C : List AV} (h : PS (Y.upd z C) q p n pv τ) (hz : Y z = none) (hb : ∀ b : Nat, pv = pgP b → ¬ z = b) : ∃ τ0, PS Y q p n pv τ0 ∧ τ0 z = none ∧ τ = τ0.upd z C := by
  cases h with
  | nil h => exact ⟨_, .nil h, hz, rfl⟩
  | page b x h1 h2 h3 h4 h5 =>
    simp only [supd_apply, ite_none] at h4
    exact ⟨_, .page b x h1 h2 h3 h4.2 (fun g e => by simpa using h5 g e), by rw [pgS_other (hb b rfl)]; exact hz, (pgS_upd (hb b rfl) _ _ _ _).symm⟩
def strsA (l : List (List UInt8)) : List AV := l.map fun x => .lit (.string (toB x))
def lineAt (n : Int) (s : Sp) (k : Nat) : List UInt8 := lineB (chunkL (signsL n s) s.cols k)
def linesL (n : Int) (s : Sp) : List (List UInt8) := (List.range s.rows).map (lineAt n s)
theorem strsA_succ (f : Nat → List UInt8) (k : Nat) : strsA ((List.range (k + 1)).map f) = strsA ((List.range k).map f) ++ [.lit (.string (toB (f k)))] := by
  simp [strsA, List.range_succ]
set_option maxHeartbeats 1000000 in
set_option maxRecDepth 8000 in
theorem lines_calls (hP : Prg Y q p s) (h : PS Y q p n pv τ) : ACalls Tryz.prog 59 [ptrA q, pv] τ fun v σ' => v = .list false 1 (strsA (linesL n s)) ∧ PS Y q p n pv σ' := by
  obtain ⟨a, ha⟩ := h.ptr
  rw [ha] at h ⊢
  clear ha
  have hsn := s.n_le
  have hl := signsL_length n s
  have hdim : Dim s.rows s.cols := dim_of s.model s.alt
  have hnn : s.n = s.rows * s.cols := rfl
  have hc0 : 0 < s.cols := by have := hdim.c1; omega
  refine ACalls.of_awpY follows (st := st59) (plans := pl59) (n := 25) Tryz.func59 rfl (by kernel_rfl) (by kernel_rfl) (by kernel_rfl) ?_
  simp
  intro z hz
  have hfr := h.fresh hz
  obtain ⟨yz, h1⟩ := h.new hz [.list true 1 []]
  have hP1 := hP.new yz [.list true 1 []]
  refine callK.eq (size_calls (h1.prg hP1)) ?_
  have hc1 : (0 : Int) < (s.cols : Int) := by omega
  simp [hc0]
  refine callK.of (psg_calls hP1 h1) ?_
  rintro v τ1 ⟨rfl, h2⟩
  obtain ⟨τ0, h0, z0, rfl⟩ := h2.split yz hfr
  simp
  refine callK.le (args' := [.list false 1 (r32A (signsL n s)), .lit (.int .i64 s.cols)]) (by simp [AllLe]) (chunk_calls (signsL n s) s.cols hc0 _) ?_
  rintro v τ2 ⟨b1, b2, hb1, hb2, n12, rfl, rfl⟩
  simp only [supd_apply, Int.natCast_inj, ite_none] at hb1 hb2
  simp
  refine codeYK.rangeG follows (st := st59) (plans := pl59) (chunk_iter b1 b2 (signsL n s) s.cols s.rows hc0 (by rw [hl, hnn]) (by rw [hl]; omega) _) (by simp) (by simp) (by simp) (by kernel_rfl) (by kernel_rfl) (by kernel_rfl)
    (fun k ρ E => ρ = ((τ0.upd z [.list true 1 (strsA ((List.range k).map (lineAt n s)))]).upd b1 [.list false 1 (r32A (signsL n s))]).upd b2 [.lit (.int .i64 s.cols)]) (fun c ρ E => False)
    _ (by simp [strsA]) (Store.sub_refl _) ?_ ?_ ?_ ?_
  · rintro k ρ E hk rfl
    exact ⟨by simp [n12], by simp⟩
  · rintro k hk ρ E rfl
    obtain ⟨m1, w1⟩ := hb1
    obtain ⟨m2, w2⟩ := hb2
    have m1' : ¬ z = b1 := fun e => m1 e.symm
    have m2' : ¬ z = b2 := fun e => m2 e.symm
    have hcl : (chunkL (signsL n s) s.cols k).length ≤ 100000 := by unfold chunkL; simp; omega
    have htr := fun τ' => trimmed_calls (chunkL (signsL n s) s.cols k) hcl τ'
    have hss := strsA_succ (lineAt n s) k
    have hla : lineB (chunkL (signsL n s) s.cols k) = lineAt n s k := rfl
    rw [hla] at htr
    have hsl : (strsA ((List.range k).map (lineAt n s))).length = k := by simp [strsA]
    have hdr := hdim.r2
    generalize chunkL (signsL n s) s.cols k = CH at *
    generalize lineAt n s k = LA at *
    generalize hSS : strsA ((List.range k).map (lineAt n s)) = SS at *
    rw [hss]
    simp [m1, m2, m1', m2']
    repeat' apply And.intro
    all_goals
      refine callK.eq (htr _) ?_
      simp [m1, m2, m1', m2', hsl]
      refine ⟨by omega, by omega, Store.sub2 (fun o => .inr ?_) (fun i => by simp)⟩
      simp only [supd_apply]
      by_cases e : o = z
      · subst e; simp [m1', m2']
      · simp [e]
  · rintro ρ E σ' hs rfl
    obtain ⟨m1, w1⟩ := hb1
    obtain ⟨m2, w2⟩ := hb2
    have m1' : ¬ z = b1 := fun e => m1 e.symm
    have m2' : ¬ z = b2 := fun e => m2 e.symm
    have e : σ' z = some [.list true 1 (strsA (linesL n s))] := sub_at (by simp [m1', m2']; rfl) hs
    have hs0 : Store.sub τ0 σ' := Store.sub_trans (Store.sub_upd (by simp [m2, w2]) (Store.sub_upd (by simp [m1, w1]) (Store.sub_upd z0 (Store.sub_refl _)))) hs
    simp [e]
    exact ⟨_, AV.le_refl _, τ0, hs0, rfl, h0⟩
  · rintro c ρ E σ' _ h
    exact h.elim
theorem linesL_length (n : Int) (s : Sp) : (linesL n s).length = s.rows := by simp [linesL]
theorem strsA_at (l : List (List UInt8)) (i : Nat) (h : i < l.length) : (strsA l)[i]? = some (.lit (.string (toB (l.getD i [])))) := by simp [strsA, h]
set_option maxHeartbeats 1000000 in
set_option maxRecDepth 8000 in
theorem line0_calls (hP : Prg Y q p s) (h : PS Y q p n pv τ) : ACalls Tryz.prog 20 [ptrA q, pv, .lit (.int .i64 0)] τ fun v σ' => v = .lit (.string (toB (lineAt n s 0))) ∧ PS Y q p n pv σ' := by
  obtain ⟨a, ha⟩ := h.ptr
  rw [ha] at h ⊢
  clear ha
  have hdim : Dim s.rows s.cols := dim_of s.model s.alt
  have hr1 := hdim.r1
  have hll := linesL_length n s
  have hl0 : (strsA (linesL n s))[0]? = some (.lit (.string (toB (lineAt n s 0)))) := by
    rw [strsA_at _ _ (by omega)]
    simp [linesL, show 0 < s.rows by omega]
  have hr0 : ¬ s.rows = 0 := by omega
  refine ACalls.of_awp follows (st := st20) (plans := pl20) (n := 25) Tryz.func20 rfl (by kernel_rfl) (by kernel_rfl) (by kernel_rfl) ?_
  simp
  refine callK.eq (size_calls (h.prg hP)) ?_
  simp
  intro z hz
  have hfr := h.fresh hz
  obtain ⟨yz, h1⟩ := h.new hz [.lit (.int .i64 s.rows), .lit (.int .i64 s.cols)]
  have hP1 := hP.new yz [.lit (.int .i64 s.rows), .lit (.int .i64 s.cols)]
  refine callK.of (lines_calls hP1 h1) ?_
  rintro v τ1 ⟨rfl, h2⟩
  obtain ⟨τ0, h0, z0, rfl⟩ := h2.split yz hfr
  have hsl : (strsA (linesL n s)).length = s.rows := by simp [strsA, hll]
  generalize strsA (linesL n s) = SL at *
  have had := fun τ' => addrAt_calls hdim 0 0 τ'
  have hro := fun τ' => row_of_calls hdim 0 τ'
  have ha0 : addrAt s.rows s.cols 0 0 = 0 := by simp [addrAt, wrap]
  have hw0 : wrap (s.rows * s.cols) 0 / s.cols = 0 := by simp [wrap]
  rw [ha0] at had
  rw [hw0] at hro
  have hg : ∀ q : 0 < SL.length, SL[0]'q = .lit (.string (toB (lineAt n s 0))) := fun q => by rw [List.getElem?_eq_getElem q] at hl0; exact Option.some.inj hl0
  simp [hsl, hr0]
  repeat' apply And.intro
  all_goals
    refine callK.eq (had _) ?_
    simp
    refine callK.eq (hro _) ?_
    simp [hl0, hsl, hr0, hg, hr1]
    exact ⟨_, AV.le_refl _, τ0, sub_upd_self _ _ _ z0, rfl, h0⟩
end Go.Proofs.YtlmdbcgceijlnaaGreatDoor
/-
  The example that the screen's text is asked for; what is laid, by a page or by none.
-/
namespace Go.Proofs.YtlmdbcgceijlnaaGreatDoor
open Go Go.AL Go.Sp
variable {σ Y Z τ : Store} {q p b x y : Nat} {s : Sp} {n : Int} {pv : AV}

def sawL : List Sp.Act := [{ what := 3, n := 0, on := false, code := 0, c := .zero, text := [] }, { what := 5, n := 1, on := false, code := 0, c := .zero, text := [193, 194, 0, 195] }]
def sawS : Sp := Sp.lays 0 sawL
set_option maxRecDepth 100000 in
theorem saw_ex : lineAt 37 (upTo sawS sawS.n) 0 = [32, 65, 66, 32, 67] ∧ findZ (signsL 37 (upTo sawS sawS.n)) (runesL ⟨#[65, 66]⟩) = 1 := by
  decide +kernel
/-- A screen, the document's, a page or none. -/
def LayP (σ : Store) (s : Sp) (v : AV) (σ' : Store) : Prop := ∃ (q p x y : Nat) (n : Int) (pv : AV) (w : Store), v = .tuple [ptrA q, ptrA x, pv, .lit (.int .i64 n)] ∧ isPage n ∧ PS w q p n pv σ' ∧ Prg w q p (upTo s s.n) ∧ Ref w x y s ∧ Store.sub σ w
theorem page37 : isPage 37 := by decide
theorem slayP_calls (m u : UInt8) (l : List Sp.Act) (hl : l.length ≤ 9223372036854775807) (ht : ∀ a ∈ l, a.text.length ≤ 9223372036854775807) (σ : Store) : ACalls Tryz.prog 10 [byteA m, byteA u, .list false 11 (actsA l)] σ fun v σ' => LayP σ (Sp.lays m l) v σ' ∧ ∀ q x pv n, v = .tuple [ptrA q, ptrA x, pv, .lit (.int .i64 n)] → u = 0 → n = 37 := by
  have hm : 2 ≤ 2 + m.toNat % 4 ∧ 2 + m.toNat % 4 ≤ 5 := by omega
  have hg : (Sp.lays m l).good := Sp.foldl_good _ (Sp.new_good hm)
  refine ACalls.mono (slay_calls m u l hl ht σ) ?_
  rintro v τ ⟨q, p, x, y, h4, h⟩
  have hP := both_prg (t := Sp.lays m l) h4 (upTo_good hg (Nat.le_refl _))
  have hR := both_ref (s := upTo (Sp.lays m l) (Sp.lays m l).n) h4 hg
  have hs : Store.sub σ (both σ q p x y (upTo (Sp.lays m l) (Sp.lays m l).n) (Sp.lays m l)) := by
    obtain ⟨f1, f2, f3, f4, f5, f6, f7, f8, f9, f10⟩ := h4
    simp only [both, putS]
    (intro q; simp only [Store.upd, Store.del]; (repeat' split) <;> first | exact Or.inr rfl | exact Or.inl rfl | (exfalso; omega) | (left; subst_vars; assumption) | simp_all)
  rcases h with ⟨h6, rfl, rfl⟩ | ⟨h6, b, hb, rfl, rfl⟩
  · refine ⟨⟨q, p, x, y, 37, _, _, rfl, page37, .nil rfl, hP, hR, hs⟩, fun q x pv n e _ => ?_⟩
    cases e; rfl
  · refine ⟨⟨q, p, x, y, page7 u, _, _, rfl, page7_ok u, .page b none (page7_ok u) (ne_at hP.obj hb).1 (ne_at hP.row hb).1 hb (fun g e => by cases e), hP, hR, hs⟩, fun q x pv n e hu => ?_⟩
    cases e; subst hu; rfl
set_option maxRecDepth 8000 in
theorem sawake_calls (σ : Store) : ACalls Tryz.prog 9 [] σ fun v σ' => v = .lit (.bool true) ∧ σ' = σ := by
  have hl := slayP_calls 0 0 sawL (by simp [sawL]) (by simp [sawL]) σ
  have hlays : Sp.lays 0 sawL = sawS := rfl
  obtain ⟨e1, e2⟩ := saw_ex
  rw [hlays] at hl
  generalize sawS = S0 at *
  clear hlays
  refine ACalls.of_awp follows (st := st9) (plans := pl9) (n := 25) Tryz.func9 rfl (by kernel_rfl) (by kernel_rfl) (by kernel_rfl) ?_
  simp
  refine callK.le (args' := [byteA 0, byteA 0, .list false 11 (actsA sawL)]) ?_ hl ?_
  · simp [AllLe, sawL, actsA, actA, actC, cellC, byteA, bytesA, Cell.zero]
  rintro v τ ⟨hL, hn37⟩
  unfold LayP at hL
  obtain ⟨q, p, x, y, n, pv, w, hv, hn, hPS, hP, hR, hs⟩ := hL
  have hn' := hn37 q x pv n hv rfl
  clear hn37
  subst hv
  subst hn'
  obtain ⟨a, ha⟩ := hPS.ptr
  rw [ha] at hPS ⊢
  simp
  refine callK.of (line0_calls hP hPS) ?_
  rintro v τ1 ⟨rfl, hPS1⟩
  rw [e1]
  have htl : (toB [32, 65, 66, 32, 67]).toList = [32, 65, 66, 32, 67] := by rw [ByteArray.toList_eq]; rfl
  have hf := pfind_calls hP hPS1 ⟨#[65, 66]⟩ (by decide)
  rw [e2] at hf
  simp [htl]
  refine callK.of hf ?_
  rintro v τ2 ⟨rfl, hPS2⟩
  simp [htl]
  exact Store.sub_trans hs hPS2.sub
def cutT (t : ByteArray) : ByteArray := if 30 < t.size then toB (t.data.toList.take 30) else t
end Go.Proofs.YtlmdbcgceijlnaaGreatDoor
/-
  SnapFinds.
-/
namespace Go.Proofs.YtlmdbcgceijlnaaGreatDoor
open Go Go.AL Go.Sp
variable {σ Y Z τ : Store} {q p b x y : Nat} {s : Sp} {n : Int} {pv : AV}

theorem upTo_cells {s : Sp} (h : s.good) : (upTo s s.n).cells = s.cells := by
  have hl := h.len
  simp [upTo, List.take_of_length_le (show s.cells.length ≤ s.n by omega)]
theorem signsL_upTo (n : Int) {s : Sp} (h : s.good) : signsL n (upTo s s.n) = signsL n s := by
  have hc := upTo_cells h
  have hn : (upTo s s.n).n = s.n := rfl
  unfold signsL
  rw [hn]
  congr 1
  funext i
  unfold signAt hidAt fofF fldAt
  rw [hc]
end Go.Proofs.YtlmdbcgceijlnaaGreatDoor
/-
  Arguments opened; what is laid: for the screen's text.
-/
namespace Go.Proofs.YtlmdbcgceijlnaaGreatDoor
open Go Go.AL Go.Sp
def laid2 : List (String × DataW Unit) := [("unicode/utf8.acceptRanges", Rows.laid_unicode_utf8_acceptRanges), ("unicode/utf8.first", Rows.laid_unicode_utf8_first)]
theorem open_bytes : Opens Tryz.prog 91 (fun l : List UInt8 => [.list false 1 (bytesA l)]) (fun l => l.length ≤ maxLen) :=
  (Opens.slice Tryz.underlying91 (sz := 1) (by kernel_rfl) (by omega) (Opens.u8 Tryz.underlying5) byteA (fun _ => rfl) (fun _ => rfl)).by id fun _ h => ⟨h.1, rfl⟩
theorem open_cell : Opens Tryz.prog 86 (fun c : Cell => cellC c) (fun _ => True) :=
  (Opens.struct (total := 6) Tryz.underlying86 (by kernel_rfl)
    (.cons (k := 1) rfl (by kernel_rfl) (by omega) (Opens.u8 Tryz.underlying5) (.cons (k := 1) rfl (by kernel_rfl) (by omega) (Opens.bool Tryz.underlying4) (.cons (k := 1) rfl (by kernel_rfl) (by omega) (Opens.u8 Tryz.underlying5)
      (.cons (k := 1) rfl (by kernel_rfl) (by omega) (Opens.u8 Tryz.underlying5) (.cons (k := 1) rfl (by kernel_rfl) (by omega) (Opens.u8 Tryz.underlying5) (.cons (k := 1) rfl (by kernel_rfl) (by omega) (Opens.u8 Tryz.underlying5) .nil))))))).by
    (fun x => ⟨x.1, x.2.1, x.2.2.1, x.2.2.2.1, x.2.2.2.2.1, x.2.2.2.2.2.1⟩) fun _ _ => ⟨trivial, rfl⟩
theorem open_act : Opens Tryz.prog 93 (fun a : Sp.Act => actC a) (fun a => a.text.length ≤ maxLen) :=
  (Opens.struct (total := 11) Tryz.underlying93 (by kernel_rfl)
    (.cons (k := 1) rfl (by kernel_rfl) (by omega) (Opens.u8 Tryz.underlying5) (.cons (k := 1) rfl (by kernel_rfl) (by omega) (Opens.i64 Tryz.underlying3) (.cons (k := 1) rfl (by kernel_rfl) (by omega) (Opens.bool Tryz.underlying4)
      (.cons (k := 1) rfl (by kernel_rfl) (by omega) (Opens.u8 Tryz.underlying5) (.cons (k := 6) rfl (by kernel_rfl) (by omega) open_cell (.cons (k := 1) rfl (by kernel_rfl) (by omega) open_bytes .nil))))))).by
    (fun x => ⟨x.1, x.2.1, x.2.2.1, x.2.2.2.1, x.2.2.2.2.1, x.2.2.2.2.2.1⟩) fun _ h => ⟨h.2.2.2.2.2.1, rfl⟩
theorem open_acts : Opens Tryz.prog 22 (fun l : List Sp.Act => [.list false 11 (actsA l)]) (fun l => l.length ≤ maxLen ∧ ∀ a ∈ l, a.text.length ≤ maxLen) :=
  Opens.slice Tryz.underlying22 (by kernel_rfl) (by omega) open_act actA (fun _ => rfl) (fun _ => rfl)
end Go.Proofs.YtlmdbcgceijlnaaGreatDoor
/-
  What is laid for the texts with numbers: the table of the powers of ten is a known block.
-/
namespace Go.Proofs.YtlmdbcgceijlnaaGreatDoor
open Go Go.AL Go.Sp
def laid5 : List (String × DataW Unit) := [("math/bits.deBruijn32tab", Rows.laid_math_bits_deBruijn32tab), ("math/bits.deBruijn64tab", Rows.laid_math_bits_deBruijn64tab), ("internal/strconv.uint64pow10", Rows.laid_internal_strconv_uint64pow10), ("unicode/utf8.acceptRanges", Rows.laid_unicode_utf8_acceptRanges), ("unicode/utf8.first", Rows.laid_unicode_utf8_first)]
theorem laid_pow10 : (Rows.laid_internal_strconv_uint64pow10 : DataW Unit) = Lib.tabData .u64 Lib.pow10Tab := by rfl
theorem vars5 {W : World} (h : laidMetH Tryz.prog laid5 W) : ∀ g cs, GL.vars g = some cs → ∃ T fz, W.heap[g]? = some (.cells cs T fz) := by
  rw [MakeChecks.laidMetH_plain _ _ _ (by kernel_rfl)] at h
  obtain ⟨ps, ⟨_, _, _, _, _, _, _, _, _, _, h1, _⟩, _, _⟩ := h
  obtain ⟨_, _, _, _, _, _, _, _, _, _, h2, _⟩ := h1
  obtain ⟨g, t, cs, fuel, p, q, hg, ht, hv, hd, _, _⟩ := h2
  have hg0 : Tryz.prog.globalNamed "internal/strconv.uint64pow10" = some 0 := by kernel_rfl
  obtain rfl := Option.some.inj (hg0.symm.trans hg)
  obtain rfl := Option.some.inj ((show (Tryz.prog.globals[0]?).map (·.type) = some 261 by kernel_rfl).symm.trans ht)
  rw [laid_pow10] at hd
  have hcs := Lib.cells_of_tab Tryz.underlying261 Tryz.underlying243 (by kernel_rfl) (by kernel_rfl) hd
  have hcs2 : cs = pow10A := by
    rw [show cs = cs.toList.toArray by simp, hcs]; rfl
  rw [hcs2] at hv
  clear hd hcs
  intro g' cs' hg'
  have h3 : g' = 0 ∧ cs' = pow10A := by
    have h4 : (if g' = 0 then some pow10A else none) = some cs' := hg'
    split at h4
    · exact ⟨‹_›, (Option.some.inj h4).symm⟩
    · cases h4
  obtain ⟨rfl, rfl⟩ := h3
  unfold World.var? at hv
  rw [hg0] at hv
  simp only [Option.bind_some] at hv
  cases e : W.heap[0]? with
  | none => rw [e] at hv; cases hv
  | some o =>
    rw [e] at hv
    cases o with
    | cells c t z => simp only [Option.some.injEq] at hv; subst hv; exact ⟨t, z, rfl⟩
    | _ => cases hv
end Go.Proofs.YtlmdbcgceijlnaaGreatDoor
/-
  The library's Join and Itoa at this translation: the tables of numbers, and that the bodies are those (printed by the kit's tool).
-/
namespace Go.Proofs.YtlmdbcgceijlnaaGreatDoor
open Go.Shelf
def lays156_ren : Go.Shelf.Ren := ⟨fun | 156 => 77 | 165 => 121 | 166 => 61 | 169 => 62 | 240 => 107 | 241 => 158 | 276 => 149 | 277 => 183 | n => n, fun | 31 => 33 | 9 => 9 | 3 => 3 | 4 => 4 | 0 => 0 | 20 => 20 | 72 => 109 | 76 => 112 | 70 => 107 | 37 => 91 | 75 => 111 | 127 => 187 | 164 => 218 | 5 => 5 | 80 => 114 | n => n, fun | n => n⟩
theorem lays156 : Go.Proofs.Lays.n156 Tryz.prog lays156_ren := {
  mixed := by kernel_rfl
  f156 := Tryz.func77.trans (congrArg some (by kernel_rfl))
  f165 := Tryz.func121.trans (congrArg some (by kernel_rfl))
  f166 := Tryz.func61.trans (congrArg some (by kernel_rfl))
  f169 := Tryz.func62.trans (congrArg some (by kernel_rfl))
  f240 := Tryz.func107.trans (congrArg some (by kernel_rfl))
  f241 := Tryz.func158.trans (congrArg some (by kernel_rfl))
  f276 := Tryz.func149.trans (congrArg some (by kernel_rfl))
  f277 := Tryz.func183.trans (congrArg some (by kernel_rfl))
  t0 := Tryz.underlying0
  a0 := Tryz.isAgg0
  z0 := Tryz.sizeOf0
  v0 := Tryz.zeroValue0
  t3 := Tryz.underlying3
  a3 := Tryz.isAgg3
  z3 := Tryz.sizeOf3
  v3 := Tryz.zeroValue3
  t4 := Tryz.underlying4
  a4 := Tryz.isAgg4
  z4 := Tryz.sizeOf4
  v4 := Tryz.zeroValue4
  t9 := Tryz.underlying9
  a9 := Tryz.isAgg9
  z9 := Tryz.sizeOf9
  v9 := Tryz.zeroValue9
  t20 := Tryz.underlying20
  a20 := Tryz.isAgg20
  z20 := Tryz.sizeOf20
  v20 := Tryz.zeroValue20
  t31 := Tryz.underlying33
  a31 := Tryz.isAgg33
  z31 := Tryz.sizeOf33
  v31 := Tryz.zeroValue33
  t37 := Tryz.underlying91
  a37 := Tryz.isAgg91
  z37 := Tryz.sizeOf91
  v37 := Tryz.zeroValue91
  t70 := Tryz.underlying107
  a70 := Tryz.isAgg107
  z70 := Tryz.sizeOf107
  v70 := Tryz.zeroValue107
  t72 := Tryz.underlying109
  a72 := Tryz.isAgg109
  z72 := Tryz.sizeOf109
  v72 := Tryz.zeroValue109
  t75 := Tryz.underlying111
  a75 := Tryz.isAgg111
  z75 := Tryz.sizeOf111
  v75 := Tryz.zeroValue111
  t76 := Tryz.underlying112
  a76 := Tryz.isAgg112
  z76 := Tryz.sizeOf112
  v76 := Tryz.zeroValue112
  t127 := Tryz.underlying187
  a127 := Tryz.isAgg187
  z127 := Tryz.sizeOf187
  v127 := Tryz.zeroValue187
  t164 := Tryz.underlying218
  a164 := Tryz.isAgg218
  z164 := Tryz.sizeOf218
  v164 := Tryz.zeroValue218 }
def lays171_ren : Go.Shelf.Ren := ⟨fun | 171 => 73 | 243 => 119 | 246 => 157 | 283 => 179 | 284 => 180 | 285 => 181 | 286 => 182 | 129 => 199 | 317 => 198 | 318 => 200 | 319 => 201 | 320 => 202 | 337 => 211 | 338 => 212 | n => n, fun | 3 => 3 | 9 => 9 | 2 => 2 | 4 => 4 | 171 => 242 | 0 => 0 | 53 => 243 | 37 => 91 | 5 => 5 | 173 => 246 | 212 => 261 | 51 => 155 | 20 => 20 | 213 => 262 | 46 => 200 | 232 => 271 | 233 => 272 | n => n, fun | 17 => 0 | 18 => 2 | 19 => 3 | n => n⟩
theorem lays171 : Go.Proofs.LaysM.n171 Tryz.prog lays171_ren := {
  mixed := by kernel_rfl
  f129 := Tryz.func199.trans (congrArg some (by kernel_rfl))
  f171 := Tryz.func73.trans (congrArg some (by kernel_rfl))
  f243 := Tryz.func119.trans (congrArg some (by kernel_rfl))
  f246 := Tryz.func157.trans (congrArg some (by kernel_rfl))
  f283 := Tryz.func179.trans (congrArg some (by kernel_rfl))
  f284 := Tryz.func180.trans (congrArg some (by kernel_rfl))
  f285 := Tryz.func181.trans (congrArg some (by kernel_rfl))
  f286 := Tryz.func182.trans (congrArg some (by kernel_rfl))
  f317 := Tryz.func198.trans (congrArg some (by kernel_rfl))
  f318 := Tryz.func200.trans (congrArg some (by kernel_rfl))
  f319 := Tryz.func201.trans (congrArg some (by kernel_rfl))
  f320 := Tryz.func202.trans (congrArg some (by kernel_rfl))
  f337 := Tryz.func211.trans (congrArg some (by kernel_rfl))
  f338 := Tryz.func212.trans (congrArg some (by kernel_rfl))
  t0 := Tryz.underlying0
  a0 := Tryz.isAgg0
  z0 := Tryz.sizeOf0
  v0 := Tryz.zeroValue0
  t2 := Tryz.underlying2
  a2 := Tryz.isAgg2
  z2 := Tryz.sizeOf2
  v2 := Tryz.zeroValue2
  t3 := Tryz.underlying3
  a3 := Tryz.isAgg3
  z3 := Tryz.sizeOf3
  v3 := Tryz.zeroValue3
  t4 := Tryz.underlying4
  a4 := Tryz.isAgg4
  z4 := Tryz.sizeOf4
  v4 := Tryz.zeroValue4
  t5 := Tryz.underlying5
  a5 := Tryz.isAgg5
  z5 := Tryz.sizeOf5
  v5 := Tryz.zeroValue5
  t9 := Tryz.underlying9
  a9 := Tryz.isAgg9
  z9 := Tryz.sizeOf9
  v9 := Tryz.zeroValue9
  t20 := Tryz.underlying20
  a20 := Tryz.isAgg20
  z20 := Tryz.sizeOf20
  v20 := Tryz.zeroValue20
  t37 := Tryz.underlying91
  a37 := Tryz.isAgg91
  z37 := Tryz.sizeOf91
  v37 := Tryz.zeroValue91
  t46 := Tryz.underlying200
  a46 := Tryz.isAgg200
  z46 := Tryz.sizeOf200
  v46 := Tryz.zeroValue200
  t51 := Tryz.underlying155
  a51 := Tryz.isAgg155
  z51 := Tryz.sizeOf155
  v51 := Tryz.zeroValue155
  t53 := Tryz.underlying243
  a53 := Tryz.isAgg243
  z53 := Tryz.sizeOf243
  v53 := Tryz.zeroValue243
  t171 := Tryz.underlying242
  a171 := Tryz.isAgg242
  z171 := Tryz.sizeOf242
  v171 := Tryz.zeroValue242
  t173 := Tryz.underlying246
  a173 := Tryz.isAgg246
  z173 := Tryz.sizeOf246
  v173 := Tryz.zeroValue246
  t212 := Tryz.underlying261
  a212 := Tryz.isAgg261
  z212 := Tryz.sizeOf261
  v212 := Tryz.zeroValue261
  t213 := Tryz.underlying262
  a213 := Tryz.isAgg262
  z213 := Tryz.sizeOf262
  t232 := Tryz.underlying271
  a232 := Tryz.isAgg271
  z232 := Tryz.sizeOf271
  v232 := Tryz.zeroValue271
  t233 := Tryz.underlying272
  a233 := Tryz.isAgg272
  z233 := Tryz.sizeOf272
  v233 := Tryz.zeroValue272
  g17 := by kernel_rfl
  g18 := by kernel_rfl
  g19 := by kernel_rfl
  i0 := by kernel_rfl
  i2 := by kernel_rfl
  i3 := by kernel_rfl
  i4 := by kernel_rfl
  i5 := by kernel_rfl
  i9 := by kernel_rfl
  i20 := by kernel_rfl
  i37 := by kernel_rfl
  i46 := by kernel_rfl
  i51 := by kernel_rfl
  i53 := by kernel_rfl
  i171 := by kernel_rfl
  i173 := by kernel_rfl
  i212 := by kernel_rfl
  i232 := by kernel_rfl
  i233 := by kernel_rfl
  m17 := by kernel_rfl
  m18 := by kernel_rfl
  m19 := by kernel_rfl }
theorem extra156 : Go.Proofs.Builder.Extra Tryz.prog lays156_ren := {
  sizeBuilder := by kernel_rfl
  liesBuilder := by kernel_rfl
  t5 := Tryz.underlying5
  a5 := Tryz.isAgg5
  z5 := Tryz.sizeOf5
  v5 := Tryz.zeroValue5
  infoByte := by kernel_rfl
  cellsByte := by kernel_rfl
  sizeByte := by kernel_rfl
  neB5 := by decide }
theorem itoa_run (n : Int) (h0 : -9223372036854775808 ≤ n) (h1 : n ≤ 9223372036854775807) (w : World) (htab : Lib.TabIs Tryz.prog w "internal/strconv.uint64pow10" .u64 Lib.pow10Tab) :
    Calls Tryz.prog 73 #[.int .i64 n] w fun e w' => e = .returned (.string ⟨(Lib.itoa n).toArray⟩) ∧ ∃ k os, w' = Go.Sort.grow (w.drewN k) os := Any.strconv_Itoa lays171 n h0 h1 w htab
theorem join_none_run (a : Option Addr) (c : Nat) (sep : ByteArray) (w : World) : Calls Tryz.prog 77 #[.slice a 0 c, .string sep] w fun e w' => e = .returned (.string ⟨#[]⟩) ∧ w' = w := Any.strings_Join_none lays156 extra156 a c sep w
theorem join_run (bk o c : Nat) (xs : List ByteArray) (sep : ByteArray) (w : World) (hcells : ∀ (j : Nat) x, xs[j]? = some x → w.cell? ⟨bk, o + j, none⟩ = some (.string x))
    (hbk : bk < w.heap.size) (hN : xs.length ≤ 140737488355328) (hcap : xs.length ≤ c) (hlen : (Lib.join (xs.map (·.data.toList)) sep.data.toList).length ≤ 140737488355328) :
    Calls Tryz.prog 77 #[.slice (some ⟨bk, o, none⟩) xs.length c, .string sep] w fun e w' => e = .returned (.string ⟨(Lib.join (xs.map (·.data.toList)) sep.data.toList).toArray⟩) ∧ RowKit.Below w.heap.size w w' := Any.strings_Join lays156 extra156 bk o c xs sep w hcells hbk hN hcap hlen
end Go.Proofs.YtlmdbcgceijlnaaGreatDoor
/-
  strings.Builder, step by step (turned from the kit's worked proofs): copyCheck, WriteString, String.
-/
namespace Go.Proofs.YtlmdbcgceijlnaaGreatDoor
open Go Go.AL Go.RowKit

theorem run_append_str {P : Program} (w : World) (t u ty e : TypeId) (i : TypeInfo) (ht : P.underlying t = some (.slice e)) (hu : P.underlying u = some .string) (hi : P.info? e = some i) (hz : i.zero = some (.int .u8 0))
    (hsize : i.size = 1) (hby : i.bytes = 1) (v : Value) (n : Nat) (xs : List Value) (hown : w.ownsRow 0 e 1 v n xs) (s : ByteArray) (hbytes : n + s.size ≤ 140737488355328) :
    ∃ v' w', (Builtin.append_ #[t, u] ty #[v, .string s]).run P w = .ok v' w' ∧ w'.ownsRow 0 e 1 v' (n + s.size) (xs ++ Lib.strCells s) ∧ w.grownBy w' v.ownBlock ∧
      (v'.ownBlock = v.ownBlock ∨ v'.ownBlock = some w.heap.size) := by
  obtain ⟨v', w', hr, h1, h2, h3⟩ := Lib.run_append_own_string (P := P) w 0 t u ty e i ht hu hi hz hsize hby v n xs hown s (by unfold maxLen; omega) hbytes (Nat.zero_le _)
  refine ⟨v', w', hr, h1, h2, ?_⟩
  rcases hown.2 with ⟨rfl, rfl⟩ | ⟨g, cap, cur, rfl, hbg, hg, hnc, hcm, hcs, htake⟩
  · by_cases hm : s.size = 0
    · have := h3.2 ⟨rfl, hm⟩
      subst this
      exact .inl rfl
    · have hr' := run_append_nil_string (P := P) w t u ty e i (.int .u8 0) ht hu hi hz s (by omega) (by omega) (by rw [hby]; omega)
      rw [hr] at hr'
      injection hr' with e1 e2
      subst e1
      exact .inr rfl
  · by_cases hroom : n + s.size ≤ cap
    · have hcs' : cur.size = cap := by simpa using hcs
      have hr' := Lib.run_append_room_string (P := P) w t u ty e i ht hu hi hsize g n cap cur hg s hroom (by omega)
      rw [hr] at hr'
      injection hr' with e1 e2
      subst e1
      exact .inl rfl
    · have hxl : xs.length = n := by simpa using hown.1
      have holds : ∀ j u, xs[j]? = some u → w.cell? ((⟨g, 0, none⟩ : Addr).add j) = some u := hown.cells (g := g) rfl
      have hr' := Lib.run_append_grow_string (P := P) w t u ty e i (.int .u8 0) ht hu hi hz ⟨g, 0, none⟩ n cap xs (by rw [hsize]; simpa using hxl) holds s (by omega) (by omega) (by rw [hby]; exact growslice_fits (by omega) (by omega))
      rw [hr] at hr'
      injection hr' with e1 e2
      subst e1
      exact .inr rfl
theorem wpList_append_str {P : Program} (w : World) {ops : Array Oper} {rest : List Oper} {o : Oper} {a : Act} {Q : Exit → Act → World → Prop} (hgd : o.guard = none) (sl x : Operand) (t u : TypeId)
    (ho : o.op = .call { callee := .builtin .append, args := #[sl, x], argTypes := #[t, u] })
    (e : TypeId) (i : TypeInfo) (ht : P.underlying t = some (.slice e)) (hu : P.underlying u = some .string) (hi : P.info? e = some i) (hz : i.zero = some (.int .u8 0))
    (hsize : i.size = 1) (hby : i.bytes = 1)
    (v : Value) (n : Nat) (xs : List Value) (hs : a.eval sl = v) (hown : w.ownsRow 0 e 1 v n xs) (s : ByteArray) (hx : a.eval x = .string s)
    (hbytes : n + s.size ≤ 140737488355328)
    (h : ∀ v' w', w'.ownsRow 0 e 1 v' (n + s.size) (xs ++ Lib.strCells s) → w.grownBy w' v.ownBlock → (v'.ownBlock = v.ownBlock ∨ v'.ownBlock = some w.heap.size) → wpList P ops Q rest (a.put o.dst v') w') : wpList P ops Q (o :: rest) a w := by
  refine wpList_plain hgd fun K hK => ?_
  obtain ⟨v', w', hr, h2, h3, h4⟩ := run_append_str (P := P) w t u o.type e i ht hu hi hz hsize hby v n xs hown s hbytes
  unfold Oper.wp execOp
  simp only [ho, resolve, invoke, builtin, Sem.run_bind, Sem.run_pure, Result.andThen_ok, List.map_toArray, List.map_cons, List.map_nil, hs, hx, hr]
  exact hK _ _ (h v' w' h2 h3 h4)

theorem oInfoB : ∃ j, Tryz.prog.info? 109 = some j ∧ j.size = 2 := Option.map_eq_some_iff.1 (by kernel_rfl : (Tryz.prog.info? 109).map (·.size) = some 2)
theorem oInfo5 : ∃ j, Tryz.prog.info? 5 = some j ∧ j.zero = some (.int .u8 0) ∧ j.size = 1 ∧ j.bytes = 1 := by
  obtain ⟨j, h1, h2⟩ := Option.map_eq_some_iff.1 (by kernel_rfl : (Tryz.prog.info? 5).map (fun i => (i.zero, i.size, i.bytes)) = some (some (.int .u8 0), 1, 1))
  simp only [Prod.mk.injEq] at h2
  exact ⟨j, h1, h2.1, h2.2.1, h2.2.2⟩
set_option maxHeartbeats 1000000 in
set_option maxRecDepth 100000 in
theorem oCopyUsed (b : Nat) (w : World) (h0 : w.cell? ⟨b, 0, none⟩ = some (.pointer (some ⟨b, 0, none⟩))) :
    Calls Tryz.prog 107 #[.pointer (some ⟨b, 0, none⟩)] w fun e w' => e = .returned (.tuple #[]) ∧ w' = w := by
  obtain ⟨j, hj, _⟩ := oInfoB
  go_enter Tryz.func107, Tryz.ntmps107
  go_wp2
  rw [Lib.run_neq_ptr_same w _ Tryz.underlying107 hj]
  go_wp2
  go_end0
  exact ⟨rfl, rfl⟩
set_option maxHeartbeats 1000000 in
set_option maxRecDepth 100000 in
theorem oCopyFresh (b : Nat) (w : World) (h0 : w.cell? ⟨b, 0, none⟩ = some (.pointer none)) (hsh : w.shape? b = some (109, 2)) (hfz : w.frozen? ⟨b, 0, none⟩ = false) :
    Calls Tryz.prog 107 #[.pointer (some ⟨b, 0, none⟩)] w fun e w' => e = .returned (.tuple #[]) ∧ w' = w.setCell ⟨b, 0, none⟩ (.pointer (some ⟨b, 0, none⟩)) := by
  obtain ⟨j, hj, hjs⟩ := oInfoB
  go_enter Tryz.func107, Tryz.ntmps107
  go_wp2
  rw [Lib.run_to_unsafe w ⟨b, 0, none⟩ Tryz.underlying107 Tryz.underlying218 hj (by rw [hjs]; decide) hsh (Nat.zero_lt_succ 1)]
  simp only [Result.andThen]
  rw [Oper.upon_value]
  go_wp2
  rw [run_callFunc_extern Tryz.func149 (by kernel_rfl) (by kernel_rfl) (by kernel_rfl) (e := Extern.AbiNoEscape.same) (by kernel_rfl)]
  rw [Lib.run_noEscape]
  simp only [Result.andThen]
  rw [Oper.upon_value]
  go_wp2
  rw [Lib.run_from_unsafe w ⟨b, 0, none⟩ Tryz.underlying218 Tryz.underlying107 hj hsh (by kernel_rfl)]
  simp only [Result.andThen]
  rw [Oper.upon_value]
  go_wp2
  go_end0
  exact ⟨rfl, rfl⟩
/-- A builder in a block of its own, with its bytes' row. -/
structure BldW (w : World) (b : Nat) (p v : Value) (bs : List Value) : Prop where
  blk : w.heap[b]? = some (.cells #[p, v] 109 (0, 0))
  own : w.ownsRow 0 5 1 v bs.length bs
  ne : v.ownBlock ≠ some b
theorem BldW.cell0 {w : World} {b : Nat} {p v : Value} {bs : List Value} (h : BldW w b p v bs) : w.cell? ⟨b, 0, none⟩ = some p := by rw [Lib.cell_of_heap h.blk]; rfl
theorem BldW.cell1 {w : World} {b : Nat} {p v : Value} {bs : List Value} (h : BldW w b p v bs) : w.cell? ⟨b, 1, none⟩ = some v := by rw [Lib.cell_of_heap h.blk]; rfl
theorem BldW.lt {w : World} {b : Nat} {p v : Value} {bs : List Value} (h : BldW w b p v bs) : b < w.heap.size := (Array.getElem?_eq_some_iff.1 h.blk).1
theorem BldW.used {w : World} {b : Nat} {p v : Value} {bs : List Value} (h : BldW w b p v bs) (q : Value) : BldW (w.setCell ⟨b, 0, none⟩ q) b q v bs := by
  refine ⟨?_, ?_, h.ne⟩
  · simp [World.setCell, Array.getElem?_modify, h.blk]
  · exact h.own.kept (row := some b) ⟨rfl, rfl, rfl, by simp [World.setCell], fun k _ hk => Below.heap_setCell _ _ _ _ (fun e => hk (by simp [e]))⟩ (.inr h.ne)
/-- Only the builder's own two blocks turn, and new ones. -/
structure OnlyW (b : Nat) (v : Value) (w w' : World) : Prop where
  os : w'.os = w.os
  tape : w'.tape = w.tape
  output : w'.output = w.output
  size : w.heap.size ≤ w'.heap.size
  block : ∀ k, k < w.heap.size → k ≠ b → some k ≠ v.ownBlock → w'.heap[k]? = w.heap[k]?
set_option maxHeartbeats 2000000 in
set_option maxRecDepth 100000 in
theorem oWriteUsed (b : Nat) (v : Value) (bs : List Value) (s : ByteArray) (w : World) (h : BldW w b (.pointer (some ⟨b, 0, none⟩)) v bs) (hlen : bs.length + s.size ≤ 140737488355328)
    (w0 : World) (p : Value) (hcc : Calls Tryz.prog 107 #[.pointer (some ⟨b, 0, none⟩)] w0 fun e w' => e = .returned (.tuple #[]) ∧ w' = w) (h0 : OnlyW b v w0 w) (hsz : w0.heap.size = w.heap.size) :
    Calls Tryz.prog 61 #[.pointer (some ⟨b, 0, none⟩), .string s] w0 fun e w' => e = .returned (.tuple #[.int .i64 s.size, .nilIface]) ∧ ∃ v', BldW w' b (.pointer (some ⟨b, 0, none⟩)) v' (bs ++ Lib.strCells s) ∧
      OnlyW b v w0 w' ∧ (v'.ownBlock = v.ownBlock ∨ v'.ownBlock = some w0.heap.size) := by
  obtain ⟨i0, hi, hz0, hz1, hz2⟩ := oInfo5
  go_enter Tryz.func61, Tryz.ntmps61
  go_wp2_with (go_at_call 107; refine hcc.mono ?_)
  rintro e w1 ⟨rfl, rfl⟩
  have c0 := h.cell0
  have c1 := h.cell1
  go_wp2_with (at_builtin; refine wpList_append_str _ rfl _ _ 91 9 rfl 5 i0 Tryz.underlying91 Tryz.underlying9 hi hz0 hz1 hz2 _ _ _ rfl h.own s rfl hlen ?_)
  intro v' w2 hown' hgrow hblk
  have hb2 : w2.heap[b]? = some (.cells #[.pointer (some ⟨b, 0, none⟩), v] 109 (0, 0)) := by
    rw [hgrow.block b h.lt (fun e => h.ne e.symm)]
    exact h.blk
  have d0 : w2.cell? ⟨b, 0, none⟩ = some (.pointer (some ⟨b, 0, none⟩)) := by rw [Lib.cell_of_heap hb2]; rfl
  have d1 : w2.cell? ⟨b, 1, none⟩ = some v := by rw [Lib.cell_of_heap hb2]; rfl
  have f1 : w2.frozen? ⟨b, 1, none⟩ = false := Lib.frozen_of_heap hb2 1
  obtain ⟨ao, n', cap, rfl⟩ : ∃ ao n' cap, v' = .slice ao n' cap := by
    rcases hown'.2 with ⟨hv, _⟩ | ⟨g, cap, cur, hv, _⟩
    · exact ⟨_, _, _, hv⟩
    · exact ⟨_, _, _, hv⟩
  go_wp2
  go_ret2
  have hne' : (Value.slice ao n' cap).ownBlock ≠ some b := by
    rcases hblk with e | e
    · rw [e]; exact h.ne
    · rw [e]; have := h.lt; simp; omega
  refine ⟨rfl, _, ⟨?_, ?_, hne'⟩, ⟨hgrow.os.trans h0.os, hgrow.tape.trans h0.tape, hgrow.output.trans h0.output, by have := hgrow.size; simp [World.setCell]; omega, fun k hk hkb hkv => ?_⟩, by rw [hsz]; exact hblk⟩
  · simp [World.setCell, Array.getElem?_modify, hb2]
  · rw [List.length_append, Lib.strCells_length]
    exact hown'.kept (row := some b) ⟨rfl, rfl, rfl, by simp [World.setCell], fun k _ hk => Below.heap_setCell _ _ _ _ (fun e => hk (by simp [e]))⟩ (.inr hne')
  · rw [Below.heap_setCell _ _ _ _ hkb, hgrow.block k (by omega) hkv]
    exact h0.block k hk hkb hkv
end Go.Proofs.YtlmdbcgceijlnaaGreatDoor
/-
  strings.Builder as abstract states: its two blocks known just so.
-/
namespace Go.Proofs.YtlmdbcgceijlnaaGreatDoor
open Go Go.AL Go.RowKit

theorem freeze_only (b : Nat) (p : Value) {g : Nat} (n cap : Nat) (w : World) : OnlyW b (.slice (some ⟨g, 0, none⟩) n cap) w (w.drew.freeze ⟨g, 0, none⟩ n) := by
  unfold World.freeze
  split
  · exact ⟨rfl, rfl, rfl, Nat.le_refl _, fun _ _ _ _ => rfl⟩
  · refine ⟨rfl, rfl, rfl, by simp, fun k hk hkb hkv => ?_⟩
    have hkg : ¬ g = k := fun e => hkv (by simp [Value.ownBlock, e])
    simp [Array.getElem?_modify, hkg]
    rfl
set_option maxHeartbeats 2000000 in
set_option maxRecDepth 100000 in
theorem oString (b : Nat) (p v : Value) (l : List UInt8) (w : World) (h : BldW w b p v (Lib.byteCells l)) (h0 : l ≠ []) :
    Calls Tryz.prog 62 #[.pointer (some ⟨b, 0, none⟩)] w fun e w' => e = .returned (.string ⟨l.toArray⟩) ∧ OnlyW b v w w' := by
  have hl0 : l.length ≠ 0 := by simpa using h0
  have hbk := h.blk
  have hown := h.own
  rw [Lib.byteCells_length] at hown
  obtain ⟨g, cap, cur, rfl, hbg, hg, hnc, hcm, hcs, htake⟩ : ∃ g cap cur, v = .slice (some ⟨g, 0, none⟩) l.length cap ∧ 0 ≤ g ∧ w.heap[g]? = some (.cells cur 5 (0, 0)) ∧ l.length ≤ cap ∧ cap ≤ maxLen ∧ cur.size = cap * 1 ∧ cur.toList.take (l.length * 1) = Lib.byteCells l := by
    rcases hown.2 with ⟨_, hz⟩ | ⟨g, cap, cur, hv, r⟩
    · exact absurd hz hl0
    · exact ⟨g, cap, cur, hv, r⟩
  have c1 : w.drew.cell? ⟨b, 1, none⟩ = some (.slice (some ⟨g, 0, none⟩) l.length cap) := by
    have : w.drew.heap[b]? = some (.cells #[p, .slice (some ⟨g, 0, none⟩) l.length cap] 109 (0, 0)) := hbk
    rw [Lib.cell_of_heap this]; rfl
  have hSD : (Builtin.unsafeSliceData_ #[91] 187 #[.slice (some ⟨g, 0, none⟩) l.length cap]).run Tryz.prog w.drew = .ok (.pointer (some ⟨g, 0, none⟩)) w.drew :=
    Lib.run_unsafeSliceData_row _ _ _ _ _ _ (by omega)
  have hUS : (Builtin.unsafeString_ #[187, 3] 9 #[.pointer (some ⟨g, 0, none⟩), .int .i64 l.length]).run Tryz.prog w.drew = .ok (.string ⟨l.toArray⟩) (w.drew.freeze ⟨g, 0, none⟩ l.length) := by
    refine Lib.run_unsafeString_row w.drew 187 3 9 5 Tryz.underlying187 (by kernel_rfl) g cur.size (by have hg' : w.drew.heap[g]? = some (.cells cur 5 (0, 0)) := hg; simp [World.shape?, hg']) l h0 (by omega) (by unfold maxLen at hcm; omega) ?_
    intro j x hx
    have := hown.cells (g := g) rfl j (.int .u8 x.toNat) (by simp [Lib.byteCells, hx])
    exact this
  go_enter Tryz.func62, Tryz.ntmps62
  go_wp2
  go_region
  all_goals
    go_wp2
    go_ret
    exact ⟨rfl, freeze_only b p l.length cap w⟩
end Go.Proofs.YtlmdbcgceijlnaaGreatDoor
