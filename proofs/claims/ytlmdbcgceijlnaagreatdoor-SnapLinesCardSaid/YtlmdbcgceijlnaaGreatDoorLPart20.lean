/-
  The lines of a screen.
-/
import Derived.Test.YtlmdbcgceijlnaaGreatDoorLPart19
import Derived.Test.YtlmdbcgceijlnaaGreatDoorRows
import Derived.Lay
import Derived.LaidMore
set_option linter.unusedSimpArgs false
set_option linter.unusedVariables false
namespace Go.Proofs.YtlmdbcgceijlnaaGreatDoor
open Go Go.AL Go.Sp
variable {σ Y Z τ : Store} {q p b x y : Nat} {s : Sp} {n : Int} {pv : AV}

theorem PS.fresh (h : PS Y q p n pv τ) {z : Nat} (hz : τ z = none) : ∀ b : Nat, pv = pgP b → ¬ z = b := by
  intro b e
  cases h with
  | nil => cases e
  | page b' x h1 h2 h3 h4 h5 =>
    cases e
    exact (pgS_fresh hz).1
theorem PS.split {z : Nat} {C : List AV} (h : PS (Y.upd z C) q p n pv τ) (hz : Y z = none) (hb : ∀ b : Nat, pv = pgP b → ¬ z = b) : ∃ τ0, PS Y q p n pv τ0 ∧ τ0 z = none ∧ τ = τ0.upd z C := by
  cases h with
  | nil h => exact ⟨_, .nil h, hz, rfl⟩
  | page b x h1 h2 h3 h4 h5 =>
    simp only [supd_apply, ite_none] at h4
    exact ⟨_, .page b x h1 h2 h3 h4.2 (fun g e => by simpa using h5 g e), by rw [pgS_other (hb b rfl)]; exact hz, (pgS_upd (hb b rfl) _ _ _ _).symm⟩
def strsA (l : List (List UInt8)) : List AV := l.map fun x => .lit (.string (toB x))
def lineAt (n : Int) (s : Sp) (k : Nat) : List UInt8 := lineB (chunkL (signsL n s) s.cols k)
def linesL (n : Int) (s : Sp) : List (List UInt8) := (List.range s.rows).map (lineAt n s)
theorem strsA_succ (f : Nat → List UInt8) (k : Nat) : strsA ((List.range (k + 1)).map f) = strsA ((List.range k).map f) ++ [.lit (.string (toB (f k)))] := by
  simp [strsA, List.range_succ]
set_option maxHeartbeats 1000000 in
set_option maxRecDepth 8000 in
theorem lines_calls (hP : Prg Y q p s) (h : PS Y q p n pv τ) : ACalls Tryz.prog 59 [ptrA q, pv] τ fun v σ' => v = .list false 1 (strsA (linesL n s)) ∧ PS Y q p n pv σ' := by
  obtain ⟨a, ha⟩ := h.ptr
  rw [ha] at h ⊢
  clear ha
  have hsn := s.n_le
  have hl := signsL_length n s
  have hdim : Dim s.rows s.cols := dim_of s.model s.alt
  have hnn : s.n = s.rows * s.cols := rfl
  have hc0 : 0 < s.cols := by have := hdim.c1; omega
  refine ACalls.of_awpY follows (st := st59) (plans := pl59) (n := 25) Tryz.func59 rfl (by kernel_rfl) (by kernel_rfl) (by kernel_rfl) ?_
  simp
  intro z hz
  have hfr := h.fresh hz
  obtain ⟨yz, h1⟩ := h.new hz [.list true 1 []]
  have hP1 := hP.new yz [.list true 1 []]
  refine callK.eq (size_calls (h1.prg hP1)) ?_
  have hc1 : (0 : Int) < (s.cols : Int) := by omega
  simp [hc0]
  refine callK.of (psg_calls hP1 h1) ?_
  rintro v τ1 ⟨rfl, h2⟩
  obtain ⟨τ0, h0, z0, rfl⟩ := h2.split yz hfr
  simp
  refine callK.le (args' := [.list false 1 (r32A (signsL n s)), .lit (.int .i64 s.cols)]) (by simp [AllLe]) (chunk_calls (signsL n s) s.cols hc0 _) ?_
  rintro v τ2 ⟨b1, b2, hb1, hb2, n12, rfl, rfl⟩
  simp only [supd_apply, Int.natCast_inj, ite_none] at hb1 hb2
  simp
  refine codeYK.rangeG follows (st := st59) (plans := pl59) (chunk_iter b1 b2 (signsL n s) s.cols s.rows hc0 (by rw [hl, hnn]) (by rw [hl]; omega) _) (by simp) (by simp) (by simp) (by kernel_rfl) (by kernel_rfl) (by kernel_rfl)
    (fun k ρ E => ρ = ((τ0.upd z [.list true 1 (strsA ((List.range k).map (lineAt n s)))]).upd b1 [.list false 1 (r32A (signsL n s))]).upd b2 [.lit (.int .i64 s.cols)]) (fun c ρ E => False)
    _ (by simp [strsA]) (Store.sub_refl _) ?_ ?_ ?_ ?_
  · rintro k ρ E hk rfl
    exact ⟨by simp [n12], by simp⟩
  · rintro k hk ρ E rfl
    obtain ⟨m1, w1⟩ := hb1
    obtain ⟨m2, w2⟩ := hb2
    have m1' : ¬ z = b1 := fun e => m1 e.symm
    have m2' : ¬ z = b2 := fun e => m2 e.symm
    have hcl : (chunkL (signsL n s) s.cols k).length ≤ 100000 := by unfold chunkL; simp; omega
    have htr := fun τ' => trimmed_calls (chunkL (signsL n s) s.cols k) hcl τ'
    have hss := strsA_succ (lineAt n s) k
    have hla : lineB (chunkL (signsL n s) s.cols k) = lineAt n s k := rfl
    rw [hla] at htr
    have hsl : (strsA ((List.range k).map (lineAt n s))).length = k := by simp [strsA]
    have hdr := hdim.r2
    generalize chunkL (signsL n s) s.cols k = CH at *
    generalize lineAt n s k = LA at *
    generalize hSS : strsA ((List.range k).map (lineAt n s)) = SS at *
    rw [hss]
    simp [m1, m2, m1', m2']
    repeat' apply And.intro
    all_goals
      refine callK.eq (htr _) ?_
      simp [m1, m2, m1', m2', hsl]
      refine ⟨by omega, by omega, Store.sub2 (fun o => .inr ?_) (fun i => by simp)⟩
      simp only [supd_apply]
      by_cases e : o = z
      · subst e; simp [m1', m2']
      · simp [e]
  · rintro ρ E σ' hs rfl
    obtain ⟨m1, w1⟩ := hb1
    obtain ⟨m2, w2⟩ := hb2
    have m1' : ¬ z = b1 := fun e => m1 e.symm
    have m2' : ¬ z = b2 := fun e => m2 e.symm
    have e : σ' z = some [.list true 1 (strsA (linesL n s))] := sub_at (by simp [m1', m2']; rfl) hs
    have hs0 : Store.sub τ0 σ' := Store.sub_trans (Store.sub_upd (by simp [m2, w2]) (Store.sub_upd (by simp [m1, w1]) (Store.sub_upd z0 (Store.sub_refl _)))) hs
    simp [e]
    exact ⟨_, AV.le_refl _, τ0, hs0, rfl, h0⟩
  · rintro c ρ E σ' _ h
    exact h.elim
theorem linesL_length (n : Int) (s : Sp) : (linesL n s).length = s.rows := by simp [linesL]
theorem strsA_at (l : List (List UInt8)) (i : Nat) (h : i < l.length) : (strsA l)[i]? = some (.lit (.string (toB (l.getD i [])))) := by simp [strsA, h]
set_option maxHeartbeats 1000000 in
set_option maxRecDepth 8000 in
theorem line0_calls (hP : Prg Y q p s) (h : PS Y q p n pv τ) : ACalls Tryz.prog 20 [ptrA q, pv, .lit (.int .i64 0)] τ fun v σ' => v = .lit (.string (toB (lineAt n s 0))) ∧ PS Y q p n pv σ' := by
  obtain ⟨a, ha⟩ := h.ptr
  rw [ha] at h ⊢
  clear ha
  have hdim : Dim s.rows s.cols := dim_of s.model s.alt
  have hr1 := hdim.r1
  have hll := linesL_length n s
  have hl0 : (strsA (linesL n s))[0]? = some (.lit (.string (toB (lineAt n s 0)))) := by
    rw [strsA_at _ _ (by omega)]
    simp [linesL, show 0 < s.rows by omega]
  have hr0 : ¬ s.rows = 0 := by omega
  refine ACalls.of_awp follows (st := st20) (plans := pl20) (n := 25) Tryz.func20 rfl (by kernel_rfl) (by kernel_rfl) (by kernel_rfl) ?_
  simp
  refine callK.eq (size_calls (h.prg hP)) ?_
  simp
  intro z hz
  have hfr := h.fresh hz
  obtain ⟨yz, h1⟩ := h.new hz [.lit (.int .i64 s.rows), .lit (.int .i64 s.cols)]
  have hP1 := hP.new yz [.lit (.int .i64 s.rows), .lit (.int .i64 s.cols)]
  refine callK.of (lines_calls hP1 h1) ?_
  rintro v τ1 ⟨rfl, h2⟩
  obtain ⟨τ0, h0, z0, rfl⟩ := h2.split yz hfr
  have hsl : (strsA (linesL n s)).length = s.rows := by simp [strsA, hll]
  generalize strsA (linesL n s) = SL at *
  have had := fun τ' => addrAt_calls hdim 0 0 τ'
  have hro := fun τ' => row_of_calls hdim 0 τ'
  have ha0 : addrAt s.rows s.cols 0 0 = 0 := by simp [addrAt, wrap]
  have hw0 : wrap (s.rows * s.cols) 0 / s.cols = 0 := by simp [wrap]
  rw [ha0] at had
  rw [hw0] at hro
  have hg : ∀ q : 0 < SL.length, SL[0]'q = .lit (.string (toB (lineAt n s 0))) := fun q => by rw [List.getElem?_eq_getElem q] at hl0; exact Option.some.inj hl0
  simp [hsl, hr0]
  repeat' apply And.intro
  all_goals
    refine callK.eq (had _) ?_
    simp
    refine callK.eq (hro _) ?_
    simp [hl0, hsl, hr0, hg, hr1]
    exact ⟨_, AV.le_refl _, τ0, sub_upd_self _ _ _ z0, rfl, h0⟩
end Go.Proofs.YtlmdbcgceijlnaaGreatDoor
/-
  The example that the screen's text is asked for; what is laid, by a page or by none.
-/
namespace Go.Proofs.YtlmdbcgceijlnaaGreatDoor
open Go Go.AL Go.Sp
variable {σ Y Z τ : Store} {q p b x y : Nat} {s : Sp} {n : Int} {pv : AV}

def sawL : List Sp.Act := [{ what := 3, n := 0, on := false, code := 0, c := .zero, text := [] }, { what := 5, n := 1, on := false, code := 0, c := .zero, text := [193, 194, 0, 195] }]
def sawS : Sp := Sp.lays 0 sawL
set_option maxRecDepth 100000 in
theorem saw_ex : lineAt 37 (upTo sawS sawS.n) 0 = [32, 65, 66, 32, 67] ∧ findZ (signsL 37 (upTo sawS sawS.n)) (runesL ⟨#[65, 66]⟩) = 1 := by
  decide +kernel
/-- A screen, the document's, a page or none. -/
def LayP (σ : Store) (s : Sp) (v : AV) (σ' : Store) : Prop := ∃ (q p x y : Nat) (n : Int) (pv : AV) (w : Store), v = .tuple [ptrA q, ptrA x, pv, .lit (.int .i64 n)] ∧ isPage n ∧ PS w q p n pv σ' ∧ Prg w q p (upTo s s.n) ∧ Ref w x y s ∧ Store.sub σ w
theorem page37 : isPage 37 := by decide
theorem slayP_calls (m u : UInt8) (l : List Sp.Act) (hl : l.length ≤ 9223372036854775807) (ht : ∀ a ∈ l, a.text.length ≤ 9223372036854775807) (σ : Store) : ACalls Tryz.prog 10 [byteA m, byteA u, .list false 11 (actsA l)] σ fun v σ' => LayP σ (Sp.lays m l) v σ' ∧ ∀ q x pv n, v = .tuple [ptrA q, ptrA x, pv, .lit (.int .i64 n)] → u = 0 → n = 37 := by
  have hm : 2 ≤ 2 + m.toNat % 4 ∧ 2 + m.toNat % 4 ≤ 5 := by omega
  have hg : (Sp.lays m l).good := Sp.foldl_good _ (Sp.new_good hm)
  refine ACalls.mono (slay_calls m u l hl ht σ) ?_
  rintro v τ ⟨q, p, x, y, h4, h⟩
  have hP := both_prg (t := Sp.lays m l) h4 (upTo_good hg (Nat.le_refl _))
  have hR := both_ref (s := upTo (Sp.lays m l) (Sp.lays m l).n) h4 hg
  have hs : Store.sub σ (both σ q p x y (upTo (Sp.lays m l) (Sp.lays m l).n) (Sp.lays m l)) := by
    obtain ⟨f1, f2, f3, f4, f5, f6, f7, f8, f9, f10⟩ := h4
    simp only [both, putS]
    (intro q; simp only [Store.upd, Store.del]; (repeat' split) <;> first | exact Or.inr rfl | exact Or.inl rfl | (exfalso; omega) | (left; subst_vars; assumption) | simp_all)
  rcases h with ⟨h6, rfl, rfl⟩ | ⟨h6, b, hb, rfl, rfl⟩
  · refine ⟨⟨q, p, x, y, 37, _, _, rfl, page37, .nil rfl, hP, hR, hs⟩, fun q x pv n e _ => ?_⟩
    cases e; rfl
  · refine ⟨⟨q, p, x, y, page7 u, _, _, rfl, page7_ok u, .page b none (page7_ok u) (ne_at hP.obj hb).1 (ne_at hP.row hb).1 hb (fun g e => by cases e), hP, hR, hs⟩, fun q x pv n e hu => ?_⟩
    cases e; subst hu; rfl
set_option maxRecDepth 8000 in
theorem sawake_calls (σ : Store) : ACalls Tryz.prog 9 [] σ fun v σ' => v = .lit (.bool true) ∧ σ' = σ := by
  have hl := slayP_calls 0 0 sawL (by simp [sawL]) (by simp [sawL]) σ
  have hlays : Sp.lays 0 sawL = sawS := rfl
  obtain ⟨e1, e2⟩ := saw_ex
  rw [hlays] at hl
  generalize sawS = S0 at *
  clear hlays
  refine ACalls.of_awp follows (st := st9) (plans := pl9) (n := 25) Tryz.func9 rfl (by kernel_rfl) (by kernel_rfl) (by kernel_rfl) ?_
  simp
  refine callK.le (args' := [byteA 0, byteA 0, .list false 11 (actsA sawL)]) ?_ hl ?_
  · simp [AllLe, sawL, actsA, actA, actC, cellC, byteA, bytesA, Cell.zero]
  rintro v τ ⟨hL, hn37⟩
  unfold LayP at hL
  obtain ⟨q, p, x, y, n, pv, w, hv, hn, hPS, hP, hR, hs⟩ := hL
  have hn' := hn37 q x pv n hv rfl
  clear hn37
  subst hv
  subst hn'
  obtain ⟨a, ha⟩ := hPS.ptr
  rw [ha] at hPS ⊢
  simp
  refine callK.of (line0_calls hP hPS) ?_
  rintro v τ1 ⟨rfl, hPS1⟩
  rw [e1]
  have htl : (toB [32, 65, 66, 32, 67]).toList = [32, 65, 66, 32, 67] := by rw [ByteArray.toList_eq]; rfl
  have hf := pfind_calls hP hPS1 ⟨#[65, 66]⟩ (by decide)
  rw [e2] at hf
  simp [htl]
  refine callK.of hf ?_
  rintro v τ2 ⟨rfl, hPS2⟩
  simp [htl]
  exact Store.sub_trans hs hPS2.sub
def cutT (t : ByteArray) : ByteArray := if 30 < t.size then toB (t.data.toList.take 30) else t
end Go.Proofs.YtlmdbcgceijlnaaGreatDoor
/-
  SnapFinds.
-/
namespace Go.Proofs.YtlmdbcgceijlnaaGreatDoor
open Go Go.AL Go.Sp
variable {σ Y Z τ : Store} {q p b x y : Nat} {s : Sp} {n : Int} {pv : AV}

theorem upTo_cells {s : Sp} (h : s.good) : (upTo s s.n).cells = s.cells := by
  have hl := h.len
  simp [upTo, List.take_of_length_le (show s.cells.length ≤ s.n by omega)]
theorem signsL_upTo (n : Int) {s : Sp} (h : s.good) : signsL n (upTo s s.n) = signsL n s := by
  have hc := upTo_cells h
  have hn : (upTo s s.n).n = s.n := rfl
  unfold signsL
  rw [hn]
  congr 1
  funext i
  unfold signAt hidAt fofF fldAt
  rw [hc]
end Go.Proofs.YtlmdbcgceijlnaaGreatDoor
/-
  Arguments opened; what is laid: for the screen's text.
-/
namespace Go.Proofs.YtlmdbcgceijlnaaGreatDoor
open Go Go.AL Go.Sp
def laid2 : List (String × DataW Unit) := [("unicode/utf8.acceptRanges", Rows.laid_unicode_utf8_acceptRanges), ("unicode/utf8.first", Rows.laid_unicode_utf8_first)]
theorem open_bytes : Opens Tryz.prog 91 (fun l : List UInt8 => [.list false 1 (bytesA l)]) (fun l => l.length ≤ maxLen) :=
  (Opens.slice Tryz.underlying91 (sz := 1) (by kernel_rfl) (by omega) (Opens.u8 Tryz.underlying5) byteA (fun _ => rfl) (fun _ => rfl)).by id fun _ h => ⟨h.1, rfl⟩
theorem open_cell : Opens Tryz.prog 86 (fun c : Cell => cellC c) (fun _ => True) :=
  (Opens.struct (total := 6) Tryz.underlying86 (by kernel_rfl)
    (.cons (k := 1) rfl (by kernel_rfl) (by omega) (Opens.u8 Tryz.underlying5) (.cons (k := 1) rfl (by kernel_rfl) (by omega) (Opens.bool Tryz.underlying4) (.cons (k := 1) rfl (by kernel_rfl) (by omega) (Opens.u8 Tryz.underlying5)
      (.cons (k := 1) rfl (by kernel_rfl) (by omega) (Opens.u8 Tryz.underlying5) (.cons (k := 1) rfl (by kernel_rfl) (by omega) (Opens.u8 Tryz.underlying5) (.cons (k := 1) rfl (by kernel_rfl) (by omega) (Opens.u8 Tryz.underlying5) .nil))))))).by
    (fun x => ⟨x.1, x.2.1, x.2.2.1, x.2.2.2.1, x.2.2.2.2.1, x.2.2.2.2.2.1⟩) fun _ _ => ⟨trivial, rfl⟩
theorem open_act : Opens Tryz.prog 93 (fun a : Sp.Act => actC a) (fun a => a.text.length ≤ maxLen) :=
  (Opens.struct (total := 11) Tryz.underlying93 (by kernel_rfl)
    (.cons (k := 1) rfl (by kernel_rfl) (by omega) (Opens.u8 Tryz.underlying5) (.cons (k := 1) rfl (by kernel_rfl) (by omega) (Opens.i64 Tryz.underlying3) (.cons (k := 1) rfl (by kernel_rfl) (by omega) (Opens.bool Tryz.underlying4)
      (.cons (k := 1) rfl (by kernel_rfl) (by omega) (Opens.u8 Tryz.underlying5) (.cons (k := 6) rfl (by kernel_rfl) (by omega) open_cell (.cons (k := 1) rfl (by kernel_rfl) (by omega) open_bytes .nil))))))).by
    (fun x => ⟨x.1, x.2.1, x.2.2.1, x.2.2.2.1, x.2.2.2.2.1, x.2.2.2.2.2.1⟩) fun _ h => ⟨h.2.2.2.2.2.1, rfl⟩
theorem open_acts : Opens Tryz.prog 22 (fun l : List Sp.Act => [.list false 11 (actsA l)]) (fun l => l.length ≤ maxLen ∧ ∀ a ∈ l, a.text.length ≤ maxLen) :=
  Opens.slice Tryz.underlying22 (by kernel_rfl) (by omega) open_act actA (fun _ => rfl) (fun _ => rfl)
end Go.Proofs.YtlmdbcgceijlnaaGreatDoor
/-
  Blanks cut off signs, or off their bytes: the same.
-/
namespace Go.Proofs.YtlmdbcgceijlnaaGreatDoor
open Go Go.AL Go.Sp

theorem trimN_app (x y : List UInt8) : ∀ m, m ≤ x.length → trimN (x ++ y) m = trimN x m
  | 0, _ => rfl
  | m + 1, h => by
    have e : (x ++ y).getD m 0 = x.getD m 0 := by
      rw [List.getD_eq_getElem?_getD, List.getD_eq_getElem?_getD, List.getElem?_append_left (by omega)]
    rw [trimN, trimN, e, trimN_app x y m (by omega)]
theorem trimN_le (l : List UInt8) : ∀ m, trimN l m ≤ m
  | 0 => Nat.le_refl _
  | m + 1 => by
    rw [trimN]
    split
    · have := trimN_le l m; omega
    · omega
theorem trimB_blank (x : List UInt8) : trimB (x ++ [32]) = trimB x := by
  unfold trimB
  have e : (x ++ [32]).length = x.length + 1 := by simp
  have h := trimN_le x x.length
  rw [e, trimN, if_pos (by simp), trimN_app x [32] _ (Nat.le_refl _), List.take_append_of_le_length h]
theorem trimB_keep (x : List UInt8) (c : UInt8) (hc : ¬ c = 32) : trimB (x ++ [c]) = x ++ [c] := by
  unfold trimB
  have e : (x ++ [c]).length = x.length + 1 := by simp
  rw [e, trimN, if_neg (by simpa using hc), List.take_of_length_le (by simp)]
/-- How many of the first m signs stay. -/
def trimR (l : List Nat) : Nat → Nat
  | 0 => 0
  | m + 1 => if l.getD m 0 = 32 then trimR l m else m + 1
def bytesTo (l : List Nat) (m : Nat) : List UInt8 := (runesBytes ((l.take m).map fun n : Nat => (n : Int))).data.toList
set_option maxRecDepth 100000 in
theorem enc_last (r : Nat) (hr : ¬ r = 32) : ∃ i c, (Utf8.encode (r : Int)).data.toList = i ++ [c] ∧ ¬ c = 32 := by
  have big : ∀ k : Nat, k < 64 → ¬ UInt8.ofNat (0x80 + k) = 32 := by decide
  have hm : ∀ k : Nat, ¬ UInt8.ofNat (0x80 + k % 64) = 32 := fun k => big _ (Nat.mod_lt _ (by omega))
  unfold Utf8.encode
  dsimp only
  generalize hc : (if Utf8.valid (r : Int) = true then (r : Int).toNat else Utf8.runeError) = c
  have hc32 : ¬ c = 32 := by
    rw [← hc]
    split
    · simpa using hr
    · show ¬ 65533 = 32; omega
  split
  · next h =>
    refine ⟨[], UInt8.ofNat c, by simp, fun e => hc32 ?_⟩
    have := congrArg UInt8.toNat e
    simp at this
    omega
  · split
    · exact ⟨[UInt8.ofNat (0xC0 + c / 64)], UInt8.ofNat (0x80 + c % 64), by simp, hm _⟩
    · split
      · exact ⟨[UInt8.ofNat (0xE0 + c / 4096), UInt8.ofNat (0x80 + c / 64 % 64)], UInt8.ofNat (0x80 + c % 64), by simp, hm _⟩
      · exact ⟨[UInt8.ofNat (0xF0 + c / 262144), UInt8.ofNat (0x80 + c / 4096 % 64), UInt8.ofNat (0x80 + c / 64 % 64)], UInt8.ofNat (0x80 + c % 64), by simp, hm _⟩
theorem bytesTo_succ (l : List Nat) (m : Nat) (h : m < l.length) : bytesTo l (m + 1) = bytesTo l m ++ (Utf8.encode ((l.getD m 0 : Nat) : Int)).data.toList := by
  unfold bytesTo
  have e : l.take (m + 1) = l.take m ++ [l.getD m 0] := by
    rw [List.take_succ_eq_append_getElem h]; simp [h]
  rw [e, List.map_append]
  unfold runesBytes
  rw [List.foldl_append]
  simp
theorem trim_eq (l : List Nat) : ∀ m, m ≤ l.length → trimB (bytesTo l m) = bytesTo l (trimR l m)
  | 0, _ => by simp [bytesTo, runesBytes, trimB, trimR]
  | m + 1, h => by
    rw [bytesTo_succ l m (by omega), trimR]
    by_cases e : l.getD m 0 = 32
    · rw [if_pos e, e]
      have h32 : (Utf8.encode ((32 : Nat) : Int)).data.toList = [32] := by decide
      rw [h32, trimB_blank, trim_eq l m (by omega)]
    · rw [if_neg e]
      obtain ⟨i, c, h1, h2⟩ := enc_last _ e
      rw [h1, ← List.append_assoc, trimB_keep _ _ h2, List.append_assoc, ← h1, ← bytesTo_succ l m (by omega)]
theorem lineB_eq (l : List Nat) : lineB l = bytesTo l (trimR l l.length) := by
  have := trim_eq l l.length (Nat.le_refl _)
  rw [← this]
  unfold lineB bytesTo
  rw [List.take_length]
end Go.Proofs.YtlmdbcgceijlnaaGreatDoor
/-
  The document's lines.
-/
namespace Go.Proofs.YtlmdbcgceijlnaaGreatDoor
open Go Go.AL Go.Sp
variable {σ Y Z τ : Store} {q p b x y : Nat} {s : Sp} {n : Int} {pv : AV}

set_option maxRecDepth 8000 in
theorem rtrim_calls (l : List Nat) (hl : l.length ≤ 100000) (σ : Store) : ACalls Tryz.prog 58 [.list false 1 (r32A l)] σ fun v σ' => v = .lit (.string (toB (lineB l))) ∧ σ' = σ := by
  rw [lineB_eq]
  refine ACalls.of_awp follows (st := st58) (plans := pl58) (n := 22) Tryz.func58 rfl (by kernel_rfl) (by kernel_rfl) (by kernel_rfl) ?_
  simp
  refine codeK.loop follows (st := st58) (plans := pl58) (X := Nat) (fun m => m ≤ l.length ∧ trimR l m = trimR l l.length)
    (fun m => [(0, .list false 1 (r32A (l.take m)))]) (fun _ => σ) (fun m => m) l.length (by kernel_rfl) (by simp) (by simp) (Store.sub_refl _) fun m hm => ?_
  obtain ⟨hm1, hm2⟩ := hm
  have hbt : ∀ m, toB (bytesTo l m) = runesBytes ((l.take m).map fun n : Nat => (n : Int)) := fun m => by unfold bytesTo; simp [toB]
  cases m with
  | zero =>
    rw [← hm2]
    simp [runesOf_r32A, hbt, trimR]
  | succ m =>
    have hln : (r32A (l.take (m + 1))).length = m + 1 := by simp; omega
    have hw : IntKind.i64.wrap ((m : Int) + 1 - 1) = (m : Int) := by rw [wrap_i64 (by omega) (by omega)]; omega
    have hw' : IntKind.i64.wrap (m : Int) = (m : Int) := wrap_i64 (by omega) (by omega)
    have hg : (r32A (l.take (m + 1)))[m]? = some (.lit (.int .i32 (l.getD m 0 : Nat))) := by
      rw [r32A_at _ _ (by simp; omega)]; simp [List.getD_eq_getElem?_getD]
    have hgo : ∀ h : m < (r32A (l.take (m + 1))).length, (r32A (l.take (m + 1)))[m]'h = .lit (.int .i32 (l.getD m 0 : Nat)) := fun h => by rw [List.getElem?_eq_getElem h] at hg; exact Option.some.inj hg
    have htk : List.take m (r32A (l.take (m + 1))) = r32A (l.take m) := by
      unfold r32A; rw [← List.map_take, List.take_take]; congr 2; omega
    have htr : trimR l (m + 1) = if l.getD m 0 = 32 then trimR l m else m + 1 := rfl
    have hru := runesOf_r32A (l.take (m + 1))
    generalize hRR : r32A (l.take (m + 1)) = RR at *
    generalize l.getD m 0 = bb at *
    by_cases hb : bb = 32
    · subst hb
      simp [hln, hw, hw', hg, hgo, htk]
      exact ⟨m, ⟨by omega, by rw [← hm2, htr, if_pos rfl]⟩, by omega, AV.le_refl _⟩
    · have hb' : ¬ (bb : Int) = 32 := by omega
      simp [hln, hw, hw', hg, hgo, hb, hb', hru]
      rw [← hm2, htr, if_neg hb, hbt, List.map_take]
      exact AV.le_refl _
set_option maxRecDepth 8000 in
theorem rlines_calls (h : Ref σ x y s) (hn : isPage n) : ACalls Tryz.prog 14 [ptrA x, .lit (.int .i64 n)] σ fun v σ' => v = .list true 1 (strsA (linesL n s)) ∧ σ' = σ := by
  have ho := h.obj
  unfold rfO at ho
  have hsn := s.n_le
  have hl := signsL_length n s
  have hdim : Dim s.rows s.cols := dim_of s.model s.alt
  have hnn : s.n = s.rows * s.cols := rfl
  have hsg := rsignsL_calls h hn
  have hlt : ∀ k, k < s.rows → (chunkL (signsL n s) s.cols k).length ≤ 100000 := fun k _ => by unfold chunkL; simp; omega
  have htr := fun k hk τ => rtrim_calls (chunkL (signsL n s) s.cols k) (hlt k hk) τ
  have hla : ∀ k, lineB (chunkL (signsL n s) s.cols k) = lineAt n s k := fun _ => rfl
  have hD : ∀ k, k < s.rows → List.drop (k * s.cols) (List.take (k * s.cols + s.cols) (r32A (signsL n s))) = r32A (chunkL (signsL n s) s.cols k) := fun k _ => by
    unfold chunkL r32A
    rw [List.drop_take, Nat.add_sub_cancel_left, List.map_take, List.map_drop]
  have hll : linesL n s = (List.range s.rows).map (lineAt n s) := rfl
  have hss := strsA_succ (lineAt n s)
  have hr2 := hdim.r2
  have hc1 := hdim.c1
  simp only [hla] at htr
  refine ACalls.of_awp follows (st := st14) (plans := pl14) (n := 37) Tryz.func14 rfl (by kernel_rfl) (by kernel_rfl) (by kernel_rfl) ?_
  simp
  refine callK.eq hsg ?_
  rw [hll]
  generalize signsL n s = L at *
  generalize lineAt n s = LA at *
  simp
  refine codeK.loop follows (st := st14) (plans := pl14) (X := Nat) (fun k => k ≤ s.rows)
    (fun k => [(0, ptrA x), (5, .list false 1 (r32A L)), (6, .list true 1 (strsA ((List.range k).map LA))), (7, .lit (.int .i64 (k * s.cols : Nat)))]) (fun _ => σ) (fun k => s.rows - k) 0 (by kernel_rfl) (by simp) (by simp [strsA]) (Store.sub_refl _) fun k hk => ?_
  by_cases hkr : k < s.rows
  · have hk1 : (k + 1) * s.cols = k * s.cols + s.cols := Nat.succ_mul k s.cols
    have hkc : k * s.cols + s.cols ≤ s.n := by rw [hnn, ← hk1]; exact Nat.mul_le_mul_right _ hkr
    have hw : IntKind.i64.wrap (((k * s.cols : Nat) : Int) + (s.cols : Int)) = ((k * s.cols : Nat) : Int) + s.cols := wrap_i64 (by omega) (by omega)
    have hDk := hD k hkr
    have htk := fun τ => htr k hkr τ
    have hssk := hss k
    have hsl : (strsA ((List.range k).map LA)).length = k := by simp [strsA]
    generalize hSS : strsA ((List.range k).map LA) = SS at *
    generalize chunkL L s.cols k = CH at *
    generalize hm : k * s.cols = m at *
    have hmL : m < L.length := by omega
    have hmn : m < s.n := by omega
    have g0 : (0 : Int) ≤ (m : Int) + s.cols := by omega
    have hto : ((m : Int) + (s.cols : Int)).toNat = m + s.cols := by omega
    have hb : m + s.cols ≤ L.length := by omega
    have hle : m ≤ m + s.cols := by omega
    simp [hmL, hmn, hl, ho, hw, g0, hto, hkc, hDk]
    refine callK.eq (htk _) ?_
    simp [ho, hw, hsl]
    refine ⟨by omega, by omega, k + 1, by omega, by omega, ⟨by rw [hssk]; exact AV.le_refl _, ?_⟩⟩
    rw [show ((k + 1 : Nat) : Int) * (s.cols : Int) = (m : Int) + s.cols by rw [← Int.natCast_mul, hk1]; omega]
    exact AV.le_refl _
  · obtain rfl : k = s.rows := by omega
    simp [hl, hnn]
end Go.Proofs.YtlmdbcgceijlnaaGreatDoor
/-
  Two screens in one store.
-/
namespace Go.Proofs.YtlmdbcgceijlnaaGreatDoor
open Go Go.AL Go.Sp
variable {σ Y Z τ : Store} {q p q2 p2 b x y : Nat} {s : Sp} {n : Int} {pv : AV}

theorem PS.change (h : PS Y q p n pv τ) (hP : Prg Y q2 p2 s) : PS Y q2 p2 n pv τ := by
  cases h with
  | nil h => exact .nil h
  | page b x h1 h2 h3 h4 h5 => exact .page b x h1 (ne_at hP.obj h4).1 (ne_at hP.row h4).1 h4 h5
theorem PS.upd (h : PS Y q p n pv τ) {z : Nat} {C : List AV} (hb : ∀ b : Nat, pv = pgP b → ¬ z = b) : PS (Y.upd z C) q p n pv (τ.upd z C) := by
  cases h with
  | nil h => exact .nil h
  | page b x h1 h2 h3 h4 h5 =>
    have hz := hb b rfl
    rw [pgS_upd hz]
    exact .page b x h1 h2 h3 (by simp [Ne.symm hz, h4]) (fun g e => by simpa using h5 g e)
theorem PS.both (h : PS Y q p n pv τ) {q2 p2 x y : Nat} {s t : Sp} (h4 : Four τ q2 p2 x y) : PS (both Y q2 p2 x y s t) q p n pv (both τ q2 p2 x y s t) := by
  unfold YtlmdbcgceijlnaaGreatDoor.both putS
  exact (((h.upd (h.fresh h4.x0)).upd (h.fresh h4.y0)).upd (h.fresh h4.q0)).upd (h.fresh h4.p0)
end Go.Proofs.YtlmdbcgceijlnaaGreatDoor
/-
  The lines told one by one; the rows that aren't the same.
-/
namespace Go.Proofs.YtlmdbcgceijlnaaGreatDoor
open Go Go.AL Go.Sp
variable {σ Y Z τ : Store} {q p q2 p2 b x y : Nat} {s t : Sp} {n : Int} {pv : AV}

theorem forget_calls {P : Program} {f : FuncId} {args : List AV} {σ τ : Store} {R : AV → Store → Prop} (h : ACalls P f args τ R) (hs : Store.sub τ σ) : ACalls P f args σ R :=
  fun D G w cargs h1 h2 h3 h4 => h D G w cargs h1 h2 (h3.forget hs) h4
theorem PS.ne (h : PS Y q p n pv τ) {z : Nat} {C : List AV} (hz : Y z = some C) : ∀ b : Nat, pv = pgP b → ¬ z = b := by
  intro b e
  cases h with
  | nil h => cases e
  | page b' x h1 h2 h3 h4 h5 =>
    cases e
    rintro rfl
    rw [h4] at hz; cases hz
theorem sub_upd2 {σ τ : Store} (h : Store.sub σ τ) (b : Nat) (C : List AV) : Store.sub (σ.upd b C) (τ.upd b C) := fun o => by
  unfold Store.upd
  split
  · exact .inr rfl
  · exact h o
/-- The lines' iterator: the page's signs may be built on the way. -/
structure PreN (q p c1 c2 : Nat) (s : Sp) (n : Int) (pv : AV) (_k : Nat) (Y τ : Store) : Prop where
  prg : Prg Y q p s
  c1 : Y c1 = some [ptrA q]
  c2 : Y c2 = some [pv]
  ps : ∃ τ0, PS Y q p n pv τ0 ∧ Store.sub τ0 τ
def StepN (q p : Nat) (n : Int) (pv : AV) (_k : Nat) (Y _τ τ' : Store) : Prop := ∃ τ0, PS Y q p n pv τ0 ∧ Store.sub τ0 τ'
def argN (n : Int) (s : Sp) (k : Nat) : List AV := [.lit (.int .i64 k), .lit (.string (toB (lineAt n s k)))]
set_option maxHeartbeats 1000000 in
set_option maxRecDepth 8000 in
theorem lines_iter (a : Option Addr) (c1 c2 : Nat) (s : Sp) (n : Int) (σ : Store) :
    IterL Tryz.prog (Γ := Store) 106 [ptrA c1, ptrA c2] σ s.rows (PreN q p c1 c2 s n (.lit (.pointer a))) (StepN q p n (.lit (.pointer a))) (argN n s) := by
  refine ⟨fun k g τ1 τ _ h hs => ⟨⟨h.prg, h.c1, h.c2, ?_⟩, fun τ' h' => ⟨τ', Store.sub_refl _, h'⟩⟩, ?_⟩
  · obtain ⟨τ0, h1, h2⟩ := h.ps
    exact ⟨τ0, h1, Store.sub_trans h2 hs⟩
  · intro X l M I J hpre hstep hyield Y0 τ E hM hsub
    obtain ⟨hP, q1, q2, τ0, hPS, hs0⟩ := hpre 0 Y0 τ E (Nat.zero_le _) hM
    have hs1 := Store.sub_trans hs0 hsub
    have e1 := sub_at q1 (Store.sub_trans hPS.sub hs1)
    have e2 := sub_at q2 (Store.sub_trans hPS.sub hs1)
    have hdim : Dim s.rows s.cols := dim_of s.model s.alt
    have hr2 := hdim.r2
    have hll := linesL_length n s
    have hsl : (strsA (linesL n s)).length = s.rows := by simp [strsA, hll]
    have hat : ∀ k, k < s.rows → (strsA (linesL n s))[k]? = some (.lit (.string (toB (lineAt n s k)))) := fun k hk => by
      rw [strsA_at _ _ (by omega)]
      simp [linesL, hk]
    refine ACallsY.of_awp follows (st := st106) (plans := pl106) (n := 21) Tryz.func106 rfl (by kernel_rfl) (by kernel_rfl) (by kernel_rfl) ?_
    simp [e1, e2]
    refine callK.of (forget_calls (lines_calls hP hPS) hs1) ?_
    rintro v τ1 ⟨rfl, hPS1⟩
    generalize strsA (linesL n s) = SL at *
    simp [hsl]
    refine codeYK.loop follows (st := st106) (plans := pl106) (S := Nat × Store × Store) (fun x => x.1 ≤ s.rows)
      (fun x => [(0, .func (.yield l) [] []), (8, .list false 1 SL), (9, .lit (.int .i64 s.rows)), (10, .lit (.int .i64 x.1))]) (fun x => x.2.2)
      (fun x E => I x.1 x.2.1 x.2.2 E) (fun x => s.rows - x.1) (0, Y0, τ1) (by kernel_rfl) (by simp) (by simp) (Store.sub_refl _) (hstep 0 Y0 τ τ1 E (Nat.zero_le _) hM ⟨τ1, hPS1, Store.sub_refl _⟩) ?_
    rintro ⟨k, Yk, τk⟩ Ek hk hI
    dsimp only at hk hI ⊢
    by_cases hlt : k < s.rows
    · have hy := hyield k Yk hlt τk Ek hI
      unfold argN at hy
      have hatk := hat k hlt
      have hg : ∀ h : k < SL.length, SL[k]'h = .lit (.string (toB (lineAt n s k))) := fun h => by rw [List.getElem?_eq_getElem h] at hatk; exact Option.some.inj hatk
      have hw : IntKind.i64.wrap ((k : Int) + 1) = ((k + 1 : Nat) : Int) := wrap_i64 (by omega) (by omega)
      generalize lineAt n s k = LA at *
      simp [hlt, hsl, hatk, hg]
      refine yieldK.of (by simp) hy (Store.sub_refl _) ?_
      intro bb τ' E' hR hap
      cases bb
      · simp
        exact ⟨⟨_, AV.le_refl _⟩, _, Store.sub_over _ _ _, τ', Store.sub_refl _, .inr (by simpa using hR)⟩
      · obtain ⟨g', hR⟩ := (by simpa using hR : ∃ g', M (k + 1) g' τ' E')
        obtain ⟨hP', r1, r2, τ0', hPS', hs0'⟩ := hpre (k + 1) g' τ' E' (by omega) hR
        simp [hw]
        exact ⟨k + 1, by omega, by omega, AV.le_refl _, g', τ', Store.sub_over _ _ _, hstep (k + 1) g' τ' τ' E' (by omega) hR ⟨τ0', hPS', hs0'⟩⟩
    · obtain rfl : k = s.rows := by omega
      simp
      exact ⟨⟨_, AV.le_refl _⟩, _, Store.sub_refl _, τk, Store.sub_refl _, .inl ⟨Yk, hI⟩⟩
set_option maxRecDepth 8000 in
theorem mkLines_calls (a : Option Addr) (q : Nat) (σ : Store) : ACalls Tryz.prog 60 [ptrA q, .lit (.pointer a)] σ fun v σ' => ∃ c1 c2 : Nat, σ c1 = none ∧ σ c2 = none ∧ ¬ c1 = c2 ∧ v = .func (.func 106) [] [ptrA c1, ptrA c2] ∧ σ' = (σ.upd c1 [ptrA q]).upd c2 [.lit (.pointer a)] := by
  refine ACalls.of_awp follows (st := st60) (plans := pl60) (n := 6) Tryz.func60 rfl (by kernel_rfl) (by kernel_rfl) (by kernel_rfl) ?_
  simp
  intro c1 h1
  simp +contextual [ite_free]
  intro c2 n1 n2 h2
  exact ⟨_, AV.le_refl _, _, Store.sub_refl _, c1, h1, c2, h2, n2, rfl, rfl⟩

/-! ### Rows -/
def rwA (r : Nat × List UInt8) : AV := .agg [.lit (.int .i64 r.1), .lit (.string (toB r.2))]
def rwsA (l : List (Nat × List UInt8)) : List AV := l.map rwA
/-- Is a row told? -/
def tells (n : Int) (s t : Sp) (i : Nat) : Bool := decide (¬ (s.rows = t.rows ∧ s.cols = t.cols) ∨ ¬ lineAt n s i = lineAt n t i)
def diffTo (n : Int) (s t : Sp) (k : Nat) : List (Nat × List UInt8) := ((List.range k).filter (tells n s t)).map fun i => (i, lineAt n t i)
theorem Scr.more {f : Sp → Nat → List AV} (h : Scr f Y q p s) (hs : Store.sub Y τ) : Scr f τ q p s := ⟨sub_at h.obj hs, sub_at h.row hs, h.ne, h.good⟩
end Go.Proofs.YtlmdbcgceijlnaaGreatDoor
