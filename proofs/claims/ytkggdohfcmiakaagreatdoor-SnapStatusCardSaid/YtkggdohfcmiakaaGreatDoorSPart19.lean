/-
  The lines of a screen.
-/
import Derived.Test.YtkggdohfcmiakaaGreatDoorSPart18
import Derived.Shelf.Strings.OnBuilder
import Derived.Shelf.Strconv.Itoa3
import Derived.Test.YtkggdohfcmiakaaGreatDoorProg
set_option linter.unusedSimpArgs false
set_option linter.unusedVariables false
namespace Go.Proofs.YtkggdohfcmiakaaGreatDoor
open Go Go.AL Go.Sp
variable {σ Y Z τ : Store} {q p b x y : Nat} {s : Sp} {n : Int} {pv : AV}

theorem PS.fresh (h : PS Y q p n pv τ) {z : Nat} (hz : τ z = none) : ∀ b : Nat, pv = pgP b → ¬ z = b := by
  intro b e
  cases h with
  | nil => cases e
  | page b' x h1 h2 h3 h4 h5 =>
    cases e
    exact (pgS_fresh hz).1
theorem PS.split {z : Nat} {C : List AV} (h : PS (Y.upd z C) q p n pv τ) (hz : Y z = none) (hb : ∀ b : Nat, pv = pgP b → ¬ z = b) : ∃ τ0, PS Y q p n pv τ0 ∧ τ0 z = none ∧ τ = τ0.upd z C := by
  cases h with
  | nil h => exact ⟨_, .nil h, hz, rfl⟩
  | page b x h1 h2 h3 h4 h5 =>
    simp only [supd_apply, ite_none] at h4
    exact ⟨_, .page b x h1 h2 h3 h4.2 (fun g e => by simpa using h5 g e), by rw [pgS_other (hb b rfl)]; exact hz, (pgS_upd (hb b rfl) _ _ _ _).symm⟩
def strsA (l : List (List UInt8)) : List AV := l.map fun x => .lit (.string (toB x))
def lineAt (n : Int) (s : Sp) (k : Nat) : List UInt8 := lineB (chunkL (signsL n s) s.cols k)
def linesL (n : Int) (s : Sp) : List (List UInt8) := (List.range s.rows).map (lineAt n s)
theorem strsA_succ (f : Nat → List UInt8) (k : Nat) : strsA ((List.range (k + 1)).map f) = strsA ((List.range k).map f) ++ [.lit (.string (toB (f k)))] := by
  simp [strsA, List.range_succ]
set_option maxHeartbeats 1000000 in
set_option maxRecDepth 8000 in
theorem lines_calls (hP : Prg Y q p s) (h : PS Y q p n pv τ) : ACalls Tryz.prog 27 [ptrA q, pv] τ fun v σ' => v = .list false 1 (strsA (linesL n s)) ∧ PS Y q p n pv σ' := by
  obtain ⟨a, ha⟩ := h.ptr
  rw [ha] at h ⊢
  clear ha
  have hsn := s.n_le
  have hl := signsL_length n s
  have hdim : Dim s.rows s.cols := dim_of s.model s.alt
  have hnn : s.n = s.rows * s.cols := rfl
  have hc0 : 0 < s.cols := by have := hdim.c1; omega
  refine ACalls.of_awpY follows (st := st27) (plans := pl27) (n := 25) Tryz.func27 rfl (by kernel_rfl) (by kernel_rfl) (by kernel_rfl) ?_
  simp
  intro z hz
  have hfr := h.fresh hz
  obtain ⟨yz, h1⟩ := h.new hz [.list true 1 []]
  have hP1 := hP.new yz [.list true 1 []]
  refine callK.eq (size_calls (h1.prg hP1)) ?_
  have hc1 : (0 : Int) < (s.cols : Int) := by omega
  simp [hc0]
  refine callK.of (psg_calls hP1 h1) ?_
  rintro v τ1 ⟨rfl, h2⟩
  obtain ⟨τ0, h0, z0, rfl⟩ := h2.split yz hfr
  simp
  refine callK.le (args' := [.list false 1 (r32A (signsL n s)), .lit (.int .i64 s.cols)]) (by simp [AllLe]) (chunk_calls (signsL n s) s.cols hc0 _) ?_
  rintro v τ2 ⟨b1, b2, hb1, hb2, n12, rfl, rfl⟩
  simp only [supd_apply, Int.natCast_inj, ite_none] at hb1 hb2
  simp
  refine codeYK.rangeG follows (st := st27) (plans := pl27) (chunk_iter b1 b2 (signsL n s) s.cols s.rows hc0 (by rw [hl, hnn]) (by rw [hl]; omega) _) (by simp) (by simp) (by simp) (by kernel_rfl) (by kernel_rfl) (by kernel_rfl)
    (fun k ρ E => ρ = ((τ0.upd z [.list true 1 (strsA ((List.range k).map (lineAt n s)))]).upd b1 [.list false 1 (r32A (signsL n s))]).upd b2 [.lit (.int .i64 s.cols)]) (fun c ρ E => False)
    _ (by simp [strsA]) (Store.sub_refl _) ?_ ?_ ?_ ?_
  · rintro k ρ E hk rfl
    exact ⟨by simp [n12], by simp⟩
  · rintro k hk ρ E rfl
    obtain ⟨m1, w1⟩ := hb1
    obtain ⟨m2, w2⟩ := hb2
    have m1' : ¬ z = b1 := fun e => m1 e.symm
    have m2' : ¬ z = b2 := fun e => m2 e.symm
    have hcl : (chunkL (signsL n s) s.cols k).length ≤ 100000 := by unfold chunkL; simp; omega
    have htr := fun τ' => trimmed_calls (chunkL (signsL n s) s.cols k) hcl τ'
    have hss := strsA_succ (lineAt n s) k
    have hla : lineB (chunkL (signsL n s) s.cols k) = lineAt n s k := rfl
    rw [hla] at htr
    have hsl : (strsA ((List.range k).map (lineAt n s))).length = k := by simp [strsA]
    have hdr := hdim.r2
    generalize chunkL (signsL n s) s.cols k = CH at *
    generalize lineAt n s k = LA at *
    generalize hSS : strsA ((List.range k).map (lineAt n s)) = SS at *
    rw [hss]
    simp [m1, m2, m1', m2']
    repeat' apply And.intro
    all_goals
      refine callK.eq (htr _) ?_
      simp [m1, m2, m1', m2', hsl]
      refine ⟨by omega, by omega, Store.sub2 (fun o => .inr ?_) (fun i => by simp)⟩
      simp only [supd_apply]
      by_cases e : o = z
      · subst e; simp [m1', m2']
      · simp [e]
  · rintro ρ E σ' hs rfl
    obtain ⟨m1, w1⟩ := hb1
    obtain ⟨m2, w2⟩ := hb2
    have m1' : ¬ z = b1 := fun e => m1 e.symm
    have m2' : ¬ z = b2 := fun e => m2 e.symm
    have e : σ' z = some [.list true 1 (strsA (linesL n s))] := sub_at (by simp [m1', m2']; rfl) hs
    have hs0 : Store.sub τ0 σ' := Store.sub_trans (Store.sub_upd (by simp [m2, w2]) (Store.sub_upd (by simp [m1, w1]) (Store.sub_upd z0 (Store.sub_refl _)))) hs
    simp [e]
    exact ⟨_, AV.le_refl _, τ0, hs0, rfl, h0⟩
  · rintro c ρ E σ' _ h
    exact h.elim
theorem linesL_length (n : Int) (s : Sp) : (linesL n s).length = s.rows := by simp [linesL]
theorem strsA_at (l : List (List UInt8)) (i : Nat) (h : i < l.length) : (strsA l)[i]? = some (.lit (.string (toB (l.getD i [])))) := by simp [strsA, h]
set_option maxHeartbeats 1000000 in
set_option maxRecDepth 8000 in
theorem line0_calls (hP : Prg Y q p s) (h : PS Y q p n pv τ) : ACalls Tryz.prog 9 [ptrA q, pv, .lit (.int .i64 0)] τ fun v σ' => v = .lit (.string (toB (lineAt n s 0))) ∧ PS Y q p n pv σ' := by
  obtain ⟨a, ha⟩ := h.ptr
  rw [ha] at h ⊢
  clear ha
  have hdim : Dim s.rows s.cols := dim_of s.model s.alt
  have hr1 := hdim.r1
  have hll := linesL_length n s
  have hl0 : (strsA (linesL n s))[0]? = some (.lit (.string (toB (lineAt n s 0)))) := by
    rw [strsA_at _ _ (by omega)]
    simp [linesL, show 0 < s.rows by omega]
  have hr0 : ¬ s.rows = 0 := by omega
  refine ACalls.of_awp follows (st := st9) (plans := pl9) (n := 25) Tryz.func9 rfl (by kernel_rfl) (by kernel_rfl) (by kernel_rfl) ?_
  simp
  refine callK.eq (size_calls (h.prg hP)) ?_
  simp
  intro z hz
  have hfr := h.fresh hz
  obtain ⟨yz, h1⟩ := h.new hz [.lit (.int .i64 s.rows), .lit (.int .i64 s.cols)]
  have hP1 := hP.new yz [.lit (.int .i64 s.rows), .lit (.int .i64 s.cols)]
  refine callK.of (lines_calls hP1 h1) ?_
  rintro v τ1 ⟨rfl, h2⟩
  obtain ⟨τ0, h0, z0, rfl⟩ := h2.split yz hfr
  have hsl : (strsA (linesL n s)).length = s.rows := by simp [strsA, hll]
  generalize strsA (linesL n s) = SL at *
  have had := fun τ' => addrAt_calls hdim 0 0 τ'
  have hro := fun τ' => row_of_calls hdim 0 τ'
  have ha0 : addrAt s.rows s.cols 0 0 = 0 := by simp [addrAt, wrap]
  have hw0 : wrap (s.rows * s.cols) 0 / s.cols = 0 := by simp [wrap]
  rw [ha0] at had
  rw [hw0] at hro
  have hg : ∀ q : 0 < SL.length, SL[0]'q = .lit (.string (toB (lineAt n s 0))) := fun q => by rw [List.getElem?_eq_getElem q] at hl0; exact Option.some.inj hl0
  simp [hsl, hr0]
  repeat' apply And.intro
  all_goals
    refine callK.eq (had _) ?_
    simp
    refine callK.eq (hro _) ?_
    simp [hl0, hsl, hr0, hg, hr1]
    exact ⟨_, AV.le_refl _, τ0, sub_upd_self _ _ _ z0, rfl, h0⟩
end Go.Proofs.YtkggdohfcmiakaaGreatDoor
/-
  The example that the screen's text is asked for; what is laid, by a page or by none.
-/
namespace Go.Proofs.YtkggdohfcmiakaaGreatDoor
open Go Go.AL Go.Sp
variable {σ Y Z τ : Store} {q p b x y : Nat} {s : Sp} {n : Int} {pv : AV}

def sawL : List Sp.Act := [{ what := 3, n := 0, on := false, code := 0, c := .zero, text := [] }, { what := 5, n := 1, on := false, code := 0, c := .zero, text := [193, 194, 0, 195] }]
def sawS : Sp := Sp.lays 0 sawL
set_option maxRecDepth 100000 in
theorem saw_ex : lineAt 37 (upTo sawS sawS.n) 0 = [32, 65, 66, 32, 67] ∧ findZ (signsL 37 (upTo sawS sawS.n)) (runesL ⟨#[65, 66]⟩) = 1 := by
  decide +kernel
/-- A screen, the document's, a page or none. -/
def LayP (σ : Store) (s : Sp) (v : AV) (σ' : Store) : Prop := ∃ (q p x y : Nat) (n : Int) (pv : AV) (w : Store), v = .tuple [ptrA q, ptrA x, pv, .lit (.int .i64 n)] ∧ isPage n ∧ PS w q p n pv σ' ∧ Prg w q p (upTo s s.n) ∧ Ref w x y s ∧ Store.sub σ w
theorem page37 : isPage 37 := by decide
theorem slayP_calls (m u : UInt8) (l : List Sp.Act) (hl : l.length ≤ 9223372036854775807) (ht : ∀ a ∈ l, a.text.length ≤ 9223372036854775807) (σ : Store) : ACalls Tryz.prog 16 [byteA m, byteA u, .list false 11 (actsA l)] σ fun v σ' => LayP σ (Sp.lays m l) v σ' ∧ ∀ q x pv n, v = .tuple [ptrA q, ptrA x, pv, .lit (.int .i64 n)] → u = 0 → n = 37 := by
  have hm : 2 ≤ 2 + m.toNat % 4 ∧ 2 + m.toNat % 4 ≤ 5 := by omega
  have hg : (Sp.lays m l).good := Sp.foldl_good _ (Sp.new_good hm)
  refine ACalls.mono (slay_calls m u l hl ht σ) ?_
  rintro v τ ⟨q, p, x, y, h4, h⟩
  have hP := both_prg (t := Sp.lays m l) h4 (upTo_good hg (Nat.le_refl _))
  have hR := both_ref (s := upTo (Sp.lays m l) (Sp.lays m l).n) h4 hg
  have hs : Store.sub σ (both σ q p x y (upTo (Sp.lays m l) (Sp.lays m l).n) (Sp.lays m l)) := by
    obtain ⟨f1, f2, f3, f4, f5, f6, f7, f8, f9, f10⟩ := h4
    simp only [both, putS]
    (intro q; simp only [Store.upd, Store.del]; (repeat' split) <;> first | exact Or.inr rfl | exact Or.inl rfl | (exfalso; omega) | (left; subst_vars; assumption) | simp_all)
  rcases h with ⟨h6, rfl, rfl⟩ | ⟨h6, b, hb, rfl, rfl⟩
  · refine ⟨⟨q, p, x, y, 37, _, _, rfl, page37, .nil rfl, hP, hR, hs⟩, fun q x pv n e _ => ?_⟩
    cases e; rfl
  · refine ⟨⟨q, p, x, y, page7 u, _, _, rfl, page7_ok u, .page b none (page7_ok u) (ne_at hP.obj hb).1 (ne_at hP.row hb).1 hb (fun g e => by cases e), hP, hR, hs⟩, fun q x pv n e hu => ?_⟩
    cases e; subst hu; rfl
set_option maxRecDepth 8000 in
theorem sawake_calls (σ : Store) : ACalls Tryz.prog 4 [] σ fun v σ' => v = .lit (.bool true) ∧ σ' = σ := by
  have hl := slayP_calls 0 0 sawL (by simp [sawL]) (by simp [sawL]) σ
  have hlays : Sp.lays 0 sawL = sawS := rfl
  obtain ⟨e1, e2⟩ := saw_ex
  rw [hlays] at hl
  generalize sawS = S0 at *
  clear hlays
  refine ACalls.of_awp follows (st := st4) (plans := pl4) (n := 25) Tryz.func4 rfl (by kernel_rfl) (by kernel_rfl) (by kernel_rfl) ?_
  simp
  refine callK.le (args' := [byteA 0, byteA 0, .list false 11 (actsA sawL)]) ?_ hl ?_
  · simp [AllLe, sawL, actsA, actA, actC, cellC, byteA, bytesA, Cell.zero]
  rintro v τ ⟨hL, hn37⟩
  unfold LayP at hL
  obtain ⟨q, p, x, y, n, pv, w, hv, hn, hPS, hP, hR, hs⟩ := hL
  have hn' := hn37 q x pv n hv rfl
  clear hn37
  subst hv
  subst hn'
  obtain ⟨a, ha⟩ := hPS.ptr
  rw [ha] at hPS ⊢
  simp
  refine callK.of (line0_calls hP hPS) ?_
  rintro v τ1 ⟨rfl, hPS1⟩
  rw [e1]
  have htl : (toB [32, 65, 66, 32, 67]).toList = [32, 65, 66, 32, 67] := by rw [ByteArray.toList_eq]; rfl
  have hf := pfind_calls hP hPS1 ⟨#[65, 66]⟩ (by decide)
  rw [e2] at hf
  simp [htl]
  refine callK.of hf ?_
  rintro v τ2 ⟨rfl, hPS2⟩
  simp [htl]
  exact Store.sub_trans hs hPS2.sub
def cutT (t : ByteArray) : ByteArray := if 30 < t.size then toB (t.data.toList.take 30) else t
end Go.Proofs.YtkggdohfcmiakaaGreatDoor
/-
  SnapFinds.
-/
namespace Go.Proofs.YtkggdohfcmiakaaGreatDoor
open Go Go.AL Go.Sp
variable {σ Y Z τ : Store} {q p b x y : Nat} {s : Sp} {n : Int} {pv : AV}

end Go.Proofs.YtkggdohfcmiakaaGreatDoor
/-
  strings.Builder as abstract states: contracts.
-/
namespace Go.Proofs.YtkggdohfcmiakaaGreatDoor
open Go Go.AL Go.RowKit

/-- A builder's state: without a row (what lies in its first cell), or with one. -/
inductive Bst where
  | nil (p : Value)
  | row (g n cap : Nat) (cur : Array Value)
def Bst.v : Bst → Value
  | .nil _ => .slice none 0 0
  | .row g n cap _ => .slice (some ⟨g, 0, none⟩) n cap
def Bst.p (z : Nat) : Bst → Value
  | .nil p => p
  | .row .. => .pointer (some ⟨z, 0, none⟩)
def bldS (z : Nat) : Bst → Store → Store
  | .nil p, σ => σ.put z (rawA 90 #[p, .slice none 0 0])
  | .row g n cap cur, σ => (σ.put g (rawA 5 cur)).put z (rawA 90 #[.pointer (some ⟨z, 0, none⟩), .slice (some ⟨g, 0, none⟩) n cap])
def BldOk (z : Nat) (l : List UInt8) (σ : Store) : Bst → Prop
  | .nil p => l = [] ∧ (p = .pointer none ∨ p = .pointer (some ⟨z, 0, none⟩)) ∧ σ (mkey z) = none
  | .row g n cap cur => l ≠ [] ∧ n = l.length ∧ n ≤ cap ∧ cap ≤ maxLen ∧ cur.size = cap ∧ cur.toList.take n = Lib.byteCells l ∧ σ (mkey z) = none ∧ σ (mkey g) = none ∧ ¬ g = z
theorem BldOk.key {z : Nat} {l : List UInt8} {σ : Store} {x : Bst} (h : BldOk z l σ x) : σ (mkey z) = none := by
  cases x with
  | nil p => exact h.2.2
  | row g n cap cur => exact h.2.2.2.2.2.2.1
theorem bldS_sub {z : Nat} {l : List UInt8} {σ : Store} {x : Bst} (h : BldOk z l σ x) : Store.sub σ (bldS z x σ) := by
  cases x with
  | nil p => exact sub_put_self _ _ _ h.2.2
  | row g n cap cur =>
    obtain ⟨_, _, _, _, _, _, h2, h4, h5⟩ := h
    exact Store.sub_trans (sub_put_self _ _ _ h4) (sub_put_self _ _ _ (by rw [put_mkey, if_neg (fun e => h5 e.symm)]; exact h2))
theorem bldW_get {D : Nat → Prop} {G : Ghost} {w : World} {z : Nat} {l : List UInt8} {σ : Store} {x : Bst} (hO : BldOk z l σ x) (hW : WR D G (bldS z x σ) w) :
    BldW w z (x.p z) x.v (Lib.byteCells l) ∧ (x.p z = .pointer none ∨ x.p z = .pointer (some ⟨z, 0, none⟩)) ∧ WR D G σ w ∧ ∀ k, (k = z ∨ some k = x.v.ownBlock) → D k ∧ Idle G σ k ∧ σ (mkey k) = none ∧ GL.vars k = none := by
  have hW0 := hW.forget (bldS_sub hO)
  cases x with
  | nil p =>
    obtain ⟨rfl, hp, h2⟩ := hO
    obtain ⟨d, i, hh⟩ := hW.raw (k := z) (T := 90) (cur := #[p, .slice none 0 0]) (by simp [bldS])
    refine ⟨⟨hh, World.ownsRow_nil _ _ _ _, by simp [Bst.v, Value.ownBlock]⟩, hp, hW0, ?_⟩
    rintro k (rfl | hk)
    · exact ⟨d, i.put, h2, hW.vars_key (k := k) (cs := rawA 90 #[p, .slice none 0 0]) (by simp [bldS])⟩
    · simp [Bst.v, Value.ownBlock] at hk
  | row g n cap cur =>
    obtain ⟨h0, rfl, hn, hc, hs, ht, h2, h4, h5⟩ := hO
    obtain ⟨d, i, hh⟩ := hW.raw (k := z) (T := 90) (cur := #[.pointer (some ⟨z, 0, none⟩), .slice (some ⟨g, 0, none⟩) l.length cap]) (by simp [bldS])
    obtain ⟨d', i', hh'⟩ := hW.raw (k := g) (T := 5) (cur := cur) (by simp [bldS, h5])
    refine ⟨⟨hh, ?_, ?_⟩, .inr rfl, hW0, ?_⟩
    · rw [Lib.byteCells_length]
      exact ⟨by rw [Lib.byteCells_length, Nat.mul_one], .inr ⟨g, cap, cur, rfl, Nat.zero_le _, hh', hn, hc, by omega, by rw [Nat.mul_one]; exact ht⟩⟩
    · simp [Bst.v, Value.ownBlock, h5]
    · rintro k (rfl | hk)
      · exact ⟨d, i.put.put, h2, hW.vars_key (k := k) (cs := rawA 90 #[.pointer (some ⟨k, 0, none⟩), .slice (some ⟨g, 0, none⟩) l.length cap]) (by simp [bldS])⟩
      · simp [Bst.v, Value.ownBlock] at hk
        subst hk
        exact ⟨d', i'.put.put, h4, hW.vars_key (k := k) (cs := rawA 5 cur) (by simp [bldS, h5])⟩
theorem only_WR {D : Nat → Prop} {G : Ghost} {w w' : World} {z : Nat} {v : Value} {σ : Store} (hW : WR D G σ w) (hB : ∀ k, (k = z ∨ some k = v.ownBlock) → D k ∧ Idle G σ k ∧ σ (mkey k) = none ∧ GL.vars k = none) (hD : ∀ k, w.heap.size ≤ k → D k) (h : OnlyW z v w w') : WR D G σ w' ∧ Ext D G w G w' := by
  refine ⟨hW.turn (fun k => k = z ∨ some k = v.ownBlock) (fun k hk => ⟨(hB k hk).2.1, (hB k hk).2.2.1⟩) (fun k hk => (hB k hk).2.2.2) fun k hk hn => h.block k hk (fun e => hn (.inl e)) (fun e => hn (.inr e)), ⟨h.os, h.tape, h.output, h.size, fun _ _ _ h => h, fun k hk => ⟨?_, rfl, rfl⟩⟩⟩
  rcases Nat.lt_or_ge k w.heap.size with hlt | hge
  · exact h.block k hlt (fun e => hk (hB k (.inl e)).1) (fun e => hk (hB k (.inr e)).1)
  · exact absurd (hD k hge) hk
theorem args1 {cargs : Array Value} (h : 1 = cargs.size) : ∃ c0, cargs = #[c0] := ⟨cargs[0], by
  apply Array.ext
  · simp [← h]
  · intro i h1 h2
    match i with
    | 0 => rfl
    | _ + 1 => simp at h2⟩
end Go.Proofs.YtkggdohfcmiakaaGreatDoor
/-
  A builder into which nothing was written.
-/
namespace Go.Proofs.YtkggdohfcmiakaaGreatDoor
open Go Go.AL Go.RowKit
set_option maxHeartbeats 2000000 in
set_option maxRecDepth 100000 in
theorem oString0 (b : Nat) (p : Value) (w : World) (h : BldW w b p (.slice none 0 0) []) :
    Calls Tryz.prog 32 #[.pointer (some ⟨b, 0, none⟩)] w fun e w' => e = .returned (.string ⟨#[]⟩) ∧ OnlyW b (.slice none 0 0) w w' := by
  have hbk := h.blk
  have c1 : w.drew.cell? ⟨b, 1, none⟩ = some (.slice none 0 0) := by
    have : w.drew.heap[b]? = some (.cells #[p, .slice none 0 0] 90 (0, 0)) := hbk
    rw [Lib.cell_of_heap this]; rfl
  have hSD : (Builtin.unsafeSliceData_ #[48] 142 #[.slice none 0 0]).run Tryz.prog w.drew = .ok (.pointer none) w.drew := Lib.run_unsafeSliceData_nil _ _ _ _ _
  have hUS : (Builtin.unsafeString_ #[142, 3] 9 #[.pointer none, .int .i64 0]).run Tryz.prog w.drew = .ok (.string .empty) w.drew := Lib.run_unsafeString_none _ _ _ _ _
  go_enter Tryz.func32, Tryz.ntmps32
  go_wp2
  go_region
  all_goals
    go_wp2
    go_ret
    exact ⟨rfl, ⟨rfl, rfl, rfl, Nat.le_refl _, fun _ _ _ _ => rfl⟩⟩
theorem bstr0_calls (z : Nat) (p : Value) (σ : Store) (hO : BldOk z [] σ (.nil p)) : ACalls Tryz.prog 32 [ptrA z] (bldS z (.nil p) σ) fun v σ' => v = .lit (.string ⟨#[]⟩) ∧ σ' = σ := by
  intro D G w cargs hl' hargs hW hfresh
  obtain ⟨c0, rfl⟩ := args1 (by simpa using hl')
  have h0 := (hargs 0 _ c0 rfl rfl).1.lit_eq rfl
  subst h0
  obtain ⟨hb, hp, hW0, hB⟩ := bldW_get hO hW
  refine (oString0 z _ w hb).mono ?_
  rintro e w' ⟨rfl, q⟩
  obtain ⟨r1, r2⟩ := only_WR hW0 hB hfresh q
  exact ⟨_, _, G, _, rfl, ⟨rfl, rfl⟩, .lit _, OwnAt.of_plain rfl, r1, r2⟩
end Go.Proofs.YtkggdohfcmiakaaGreatDoor
/-
  Of no screen there is nothing.
-/
namespace Go.Proofs.YtkggdohfcmiakaaGreatDoor
open Go Go.AL Go.Sp
variable {σ Y Z τ : Store} {q p q2 p2 b x y : Nat} {s t : Sp} {n : Int} {a : Option Addr}

abbrev nilP : AV := .lit (.pointer none)
set_option maxRecDepth 8000 in
theorem size0_calls (σ : Store) : ACalls Tryz.prog 26 [nilP] σ fun v σ' => v = .agg [.lit (.int .i64 0), .lit (.int .i64 0)] ∧ σ' = σ := by
  refine ACalls.of_awp follows (st := st26) (plans := pl26) (n := 10) Tryz.func26 rfl (by kernel_rfl) (by kernel_rfl) (by kernel_rfl) ?_
  simp
  intro z hz
  (intro q; simp only [Store.upd, Store.del]; (repeat' split) <;> first | exact Or.inr rfl | exact Or.inl rfl | (exfalso; omega) | (left; subst_vars; assumption) | simp_all)
set_option maxRecDepth 8000 in
theorem at0_calls (k : Int) (σ : Store) : ACalls Tryz.prog 55 [nilP, .lit (.int .i64 k)] σ fun v σ' => v = cellA .zero ∧ σ' = σ := by
  refine ACalls.of_awp follows (st := st55) (plans := pl55) (n := 20) Tryz.func55 rfl (by kernel_rfl) (by kernel_rfl) (by kernel_rfl) ?_
  simp
  intro z hz
  exact ⟨AV.le_refl _, by (intro q; simp only [Store.upd, Store.del]; (repeat' split) <;> first | exact Or.inr rfl | exact Or.inl rfl | (exfalso; omega) | (left; subst_vars; assumption) | simp_all)⟩
set_option maxRecDepth 8000 in
theorem valid0_calls (σ : Store) : ACalls Tryz.prog 59 [.agg [.lit (.int .i64 0), .lit (.int .i64 0)]] σ fun v σ' => v = .lit (.bool false) ∧ σ' = σ := by
  refine ACalls.of_awp follows (st := st59) (plans := pl59) (n := 29) Tryz.func59 rfl (by kernel_rfl) (by kernel_rfl) (by kernel_rfl) ?_
  simp
  intro z hz
  (intro q; simp only [Store.upd, Store.del]; (repeat' split) <;> first | exact Or.inr rfl | exact Or.inl rfl | (exfalso; omega) | (left; subst_vars; assumption) | simp_all)
set_option maxRecDepth 8000 in
theorem cells0_calls (σ : Store) : ACalls Tryz.prog 41 [.agg [.lit (.int .i64 0), .lit (.int .i64 0)]] σ fun v σ' => v = .lit (.int .i64 0) ∧ σ' = σ := by
  refine ACalls.of_awp follows (st := st41) (plans := pl41) (n := 11) Tryz.func41 rfl (by kernel_rfl) (by kernel_rfl) (by kernel_rfl) ?_
  simp
  intro z hz
  refine callK.eq (valid0_calls _) ?_
  simp
  (intro q; simp only [Store.upd, Store.del]; (repeat' split) <;> first | exact Or.inr rfl | exact Or.inl rfl | (exfalso; omega) | (left; subst_vars; assumption) | simp_all)
set_option maxRecDepth 8000 in
theorem form0_calls (σ : Store) : ACalls Tryz.prog 79 [nilP] σ fun v σ' => v = .lit (.bool false) ∧ σ' = σ := by
  refine ACalls.of_awp follows (st := st79) (plans := pl79) (n := 12) Tryz.func79 rfl (by kernel_rfl) (by kernel_rfl) (by kernel_rfl) ?_
  simp
set_option maxRecDepth 8000 in
theorem start0_calls (k : Int) (σ : Store) : ACalls Tryz.prog 53 [nilP, .lit (.int .i64 k)] σ fun v σ' => v = .lit (.int .i64 (-1)) ∧ σ' = σ := by
  refine ACalls.of_awp follows (st := st53) (plans := pl53) (n := 24) Tryz.func53 rfl (by kernel_rfl) (by kernel_rfl) (by kernel_rfl) ?_
  simp
  refine callK.eq (form0_calls _) ?_
  simp
set_option maxRecDepth 8000 in
theorem of0_calls (k : Int) (σ : Store) : ACalls Tryz.prog 23 [nilP, .lit (.int .i64 k)] σ fun v σ' => v = .tuple [.agg [.lit (.bool false), .lit (.bool false), .lit (.int .i64 0), .lit (.bool false)], .lit (.bool false)] ∧ σ' = σ := by
  refine ACalls.of_awp follows (st := st23) (plans := pl23) (n := 18) Tryz.func23 rfl (by kernel_rfl) (by kernel_rfl) (by kernel_rfl) ?_
  simp
  intro z hz
  refine callK.eq (start0_calls _ _) ?_
  simp
  (intro q; simp only [Store.upd, Store.del]; (repeat' split) <;> first | exact Or.inr rfl | exact Or.inl rfl | (exfalso; omega) | (left; subst_vars; assumption) | simp_all)
set_option maxRecDepth 8000 in
theorem sgn0_calls (k : Int) (σ : Store) : ACalls Tryz.prog 24 [nilP, .lit (.pointer a), .lit (.int .i64 k), .lit (.bool false)] σ fun v σ' => v = .lit (.int .i32 32) ∧ σ' = σ := by
  refine ACalls.of_awp follows (st := st24) (plans := pl24) (n := 41) Tryz.func24 rfl (by kernel_rfl) (by kernel_rfl) (by kernel_rfl) ?_
  have hc := fun τ => at0_calls k τ
  simp only [cellA, cellC] at hc
  simp
  refine callK.eq (hc _) ?_
  simp
  intro z hz
  (intro q; simp only [Store.upd, Store.del]; (repeat' split) <;> first | exact Or.inr rfl | exact Or.inl rfl | (exfalso; omega) | (left; subst_vars; assumption) | simp_all)
set_option maxRecDepth 8000 in
theorem sign0_calls (k : Int) (σ : Store) : ACalls Tryz.prog 8 [nilP, .lit (.pointer a), .lit (.int .i64 k)] σ fun v σ' => v = .lit (.int .i32 32) ∧ σ' = σ := by
  refine ACalls.of_awp follows (st := st8) (plans := pl8) (n := 21) Tryz.func8 rfl (by kernel_rfl) (by kernel_rfl) (by kernel_rfl) ?_
  simp
  refine callK.eq (of0_calls _ _) ?_
  simp
  intro z hz
  refine callK.eq (hidden_calls false false 0 false _) ?_
  simp
  refine callK.eq (sgn0_calls _ _) ?_
  simp
  (intro q; simp only [Store.upd, Store.del]; (repeat' split) <;> first | exact Or.inr rfl | exact Or.inl rfl | (exfalso; omega) | (left; subst_vars; assumption) | simp_all)
set_option maxRecDepth 8000 in
theorem lines0_calls (σ : Store) : ACalls Tryz.prog 27 [nilP, .lit (.pointer a)] σ fun v σ' => v = .list false 1 [] ∧ σ' = σ := by
  refine ACalls.of_awpY follows (st := st27) (plans := pl27) (n := 25) Tryz.func27 rfl (by kernel_rfl) (by kernel_rfl) (by kernel_rfl) ?_
  simp
  intro z hz
  refine callK.eq (size0_calls _) ?_
  simp
  (intro q; simp only [Store.upd, Store.del]; (repeat' split) <;> first | exact Or.inr rfl | exact Or.inl rfl | (exfalso; omega) | (left; subst_vars; assumption) | simp_all)
set_option maxRecDepth 8000 in
theorem lineN_calls (k : Int) (σ : Store) : ACalls Tryz.prog 9 [nilP, .lit (.pointer a), .lit (.int .i64 k)] σ fun v σ' => v = .lit (.string ⟨#[]⟩) ∧ σ' = σ := by
  refine ACalls.of_awp follows (st := st9) (plans := pl9) (n := 25) Tryz.func9 rfl (by kernel_rfl) (by kernel_rfl) (by kernel_rfl) ?_
  simp
  refine callK.eq (size0_calls _) ?_
  simp
  intro z hz
  refine callK.eq (lines0_calls _) ?_
  simp
  (intro q; simp only [Store.upd, Store.del]; (repeat' split) <;> first | exact Or.inr rfl | exact Or.inl rfl | (exfalso; omega) | (left; subst_vars; assumption) | simp_all)
/-! ### The iterators -/
def Need0 (b : Nat) (_k : Nat) (τ : Store) : Prop := τ b = some [nilP]
theorem need0_mono {b k : Nat} {τ τ' : Store} (h : Need0 b k τ) (hs : Store.sub τ τ') : Need0 b k τ' := sub_at h hs
set_option maxRecDepth 8000 in
theorem all_iter0 (b : Nat) (σ : Store) : IterG Tryz.prog 68 [ptrA b] σ 0 (Need0 b) fun _ _ => [nilP, nilP] := by
  refine ⟨fun k τ τ' h hs => ⟨need0_mono h hs, rfl⟩, fun X l I J hneed hy τ E h0 hs => ?_⟩
  have hb := need0_mono (hneed 0 τ E (Nat.zero_le _) h0) hs
  unfold Need0 at hb
  refine ACallsY.of_awp follows (st := st68) (plans := pl68) (n := 18) Tryz.func68 rfl (by kernel_rfl) (by kernel_rfl) (by kernel_rfl) ?_
  simp [hb]
  refine callK.eq (size0_calls _) ?_
  simp
  refine callK.eq (cells0_calls _) ?_
  simp
  refine codeYK.loop follows (st := st68) (plans := pl68) (S := Unit) (fun _ => True)
    (fun _ => [(6, .lit (.int .i64 0)), (7, .lit (.int .i64 0))]) (fun _ => τ) (fun _ E => I 0 τ E) (fun _ => 0) () (by kernel_rfl) trivial (by simp) hs h0 ?_
  rintro ⟨⟩ E1 - hI
  simp
  exact ⟨⟨_, AV.le_refl _⟩, τ, Store.sub_refl _, τ, Store.sub_refl _, .inl hI⟩
theorem all0_calls2 (σ : Store) : ACalls Tryz.prog 38 [nilP] σ fun v σ' => ∃ b : Nat, σ b = none ∧ v = .func (.func 68) [] [ptrA b] ∧ σ' = σ.upd b [nilP] := by
  refine ACalls.of_awp follows (st := st38) (plans := pl38) (n := 4) Tryz.func38 rfl (by kernel_rfl) (by kernel_rfl) (by kernel_rfl) ?_
  simp
  exact fun b hb => ⟨_, AV.le_refl _, _, Store.sub_refl _, b, hb, rfl, rfl⟩
theorem attrs0_calls2 (σ : Store) : ACalls Tryz.prog 65 [nilP] σ fun v σ' => ∃ b : Nat, σ b = none ∧ v = .func (.func 86) [] [ptrA b] ∧ σ' = σ.upd b [nilP] := by
  refine ACalls.of_awp follows (st := st65) (plans := pl65) (n := 4) Tryz.func65 rfl (by kernel_rfl) (by kernel_rfl) (by kernel_rfl) ?_
  simp
  exact fun b hb => ⟨_, AV.le_refl _, _, Store.sub_refl _, b, hb, rfl, rfl⟩
theorem fields0_calls2 (σ : Store) : ACalls Tryz.prog 33 [nilP] σ fun v σ' => ∃ b : Nat, σ b = none ∧ v = .func (.func 64) [] [ptrA b] ∧ σ' = σ.upd b [nilP] := by
  refine ACalls.of_awp follows (st := st33) (plans := pl33) (n := 4) Tryz.func33 rfl (by kernel_rfl) (by kernel_rfl) (by kernel_rfl) ?_
  simp
  exact fun b hb => ⟨_, AV.le_refl _, _, Store.sub_refl _, b, hb, rfl, rfl⟩
set_option maxRecDepth 8000 in
theorem attrs_iter0 (b : Nat) (σ : Store) : IterG Tryz.prog 86 [ptrA b] σ 0 (Need0 b) fun _ _ => [nilP] := by
  refine ⟨fun k τ τ' h hs => ⟨need0_mono h hs, rfl⟩, fun X l I J hneed hy τ E h0 hs => ?_⟩
  have hb := need0_mono (hneed 0 τ E (Nat.zero_le _) h0) hs
  unfold Need0 at hb
  refine ACallsY.of_awp follows (st := st86) (plans := pl86) (n := 17) Tryz.func86 rfl (by kernel_rfl) (by kernel_rfl) (by kernel_rfl) ?_
  simp [hb]
  intro y hyn
  have hby : ¬ b = y := by rintro rfl; rw [hb] at hyn; cases hyn
  simp [hby]
  refine callK.of (all0_calls2 _) ?_
  rintro v σ' ⟨b2, hb2, rfl, rfl⟩
  simp only [supd_apply, ite_none] at hb2
  obtain ⟨e1, hb2⟩ := hb2
  simp
  refine codeYK.rangeG follows (st := st86) (plans := pl86) (all_iter0 b2 _) (by simp) (by simp) (by simp) (by kernel_rfl) (by kernel_rfl) (by kernel_rfl)
    (fun k ρ E => I 0 τ E ∧ Store.sub τ ρ ∧ ρ b2 = some [nilP]) (fun c ρ E => False) _ ⟨h0, by first | exact Store.sub_upd (sub_none hs hyn) (Store.sub_upd (sub_none hs hb2) hs) | exact Store.sub_upd (sub_none hs hb2) (Store.sub_upd (sub_none hs hyn) hs), by simp [e1, Ne.symm e1]⟩ (Store.sub_refl _) ?_ ?_ ?_ ?_
  · rintro k ρ E hk ⟨_, _, h⟩; exact h
  · rintro k hk; omega
  · rintro ρ E σ' hs' ⟨h1, h2, _⟩
    simp
    exact ⟨⟨_, AV.le_refl _⟩, τ, Store.sub_trans h2 hs', τ, Store.sub_refl _, .inl h1⟩
  · rintro c ρ E σ' _ h; exact h.elim
set_option maxRecDepth 8000 in
theorem fields_iter0 (b : Nat) (σ : Store) : IterG Tryz.prog 64 [ptrA b] σ 0 (Need0 b) fun _ _ => [nilP, nilP] := by
  refine ⟨fun k τ τ' h hs => ⟨need0_mono h hs, rfl⟩, fun X l I J hneed hy τ E h0 hs => ?_⟩
  have hb := need0_mono (hneed 0 τ E (Nat.zero_le _) h0) hs
  unfold Need0 at hb
  refine ACallsY.of_awp follows (st := st64) (plans := pl106t) (n := 16) Tryz.func64 rfl (by kernel_rfl) (by kernel_rfl) (by kernel_rfl) ?_
  simp [hb]
  intro y hyn
  have hby : ¬ b = y := by rintro rfl; rw [hb] at hyn; cases hyn
  simp [hby]
  refine callK.of (attrs0_calls2 _) ?_
  rintro v σ' ⟨b2, hb2, rfl, rfl⟩
  simp only [supd_apply, ite_none] at hb2
  obtain ⟨e1, hb2⟩ := hb2
  simp
  refine codeYK.rangeG follows (st := st64) (plans := pl106t) (attrs_iter0 b2 _) (by simp) (by simp) (by simp) (by kernel_rfl) (by kernel_rfl) (by kernel_rfl)
    (fun k ρ E => I 0 τ E ∧ Store.sub τ ρ ∧ ρ b2 = some [nilP]) (fun c ρ E => False) _ ⟨h0, by first | exact Store.sub_upd (sub_none hs hyn) (Store.sub_upd (sub_none hs hb2) hs) | exact Store.sub_upd (sub_none hs hb2) (Store.sub_upd (sub_none hs hyn) hs), by simp [e1, Ne.symm e1]⟩ (Store.sub_refl _) ?_ ?_ ?_ ?_
  · rintro k ρ E hk ⟨_, _, h⟩; exact h
  · rintro k hk; omega
  · rintro ρ E σ' hs' ⟨h1, h2, _⟩
    simp
    exact ⟨⟨_, AV.le_refl _⟩, τ, Store.sub_trans h2 hs', τ, Store.sub_refl _, .inl h1⟩
  · rintro c ρ E σ' _ h; exact h.elim
def Need1 (c1 c2 : Nat) (a : Option Addr) (_k : Nat) (τ : Store) : Prop := τ c1 = some [nilP] ∧ τ c2 = some [.lit (.pointer a)]
theorem need1_mono {c1 c2 k : Nat} {τ τ' : Store} (h : Need1 c1 c2 a k τ) (hs : Store.sub τ τ') : Need1 c1 c2 a k τ' := ⟨sub_at h.1 hs, sub_at h.2 hs⟩
set_option maxRecDepth 8000 in
theorem lines_iter0 (a : Option Addr) (c1 c2 : Nat) (σ : Store) : IterG Tryz.prog 62 [ptrA c1, ptrA c2] σ 0 (Need1 c1 c2 a) fun _ _ => [nilP, nilP] := by
  refine ⟨fun k τ τ' h hs => ⟨need1_mono h hs, rfl⟩, fun X l I J hneed hy τ E h0 hs => ?_⟩
  obtain ⟨e1, e2⟩ := need1_mono (hneed 0 τ E (Nat.zero_le _) h0) hs
  refine ACallsY.of_awp follows (st := st62) (plans := pl62) (n := 21) Tryz.func62 rfl (by kernel_rfl) (by kernel_rfl) (by kernel_rfl) ?_
  simp [e1, e2]
  refine callK.eq (lines0_calls _) ?_
  simp
  refine codeYK.loop follows (st := st62) (plans := pl62) (S := Unit) (fun _ => True)
    (fun _ => [(9, .lit (.int .i64 0)), (10, .lit (.int .i64 0))]) (fun _ => τ) (fun _ E => I 0 τ E) (fun _ => 0) () (by kernel_rfl) trivial (by simp) hs h0 ?_
  rintro ⟨⟩ E1 - hI
  simp
  exact ⟨⟨_, AV.le_refl _⟩, τ, Store.sub_refl _, τ, Store.sub_refl _, .inl hI⟩
theorem mkLines0_calls (a : Option Addr) (σ : Store) : ACalls Tryz.prog 30 [nilP, .lit (.pointer a)] σ fun v σ' => ∃ c1 c2 : Nat, σ c1 = none ∧ σ c2 = none ∧ ¬ c1 = c2 ∧ v = .func (.func 62) [] [ptrA c1, ptrA c2] ∧ σ' = (σ.upd c1 [nilP]).upd c2 [.lit (.pointer a)] := by
  refine ACalls.of_awp follows (st := st30) (plans := pl30) (n := 6) Tryz.func30 rfl (by kernel_rfl) (by kernel_rfl) (by kernel_rfl) ?_
  simp +contextual [ite_free]
  exact fun b hb c h1 h2 hc => ⟨_, AV.le_refl _, _, Store.sub_refl _, b, hb, c, hc, h2, rfl, rfl⟩
end Go.Proofs.YtkggdohfcmiakaaGreatDoor
/-
  The library's Join and Itoa at this translation: the tables of numbers, and that the bodies are those (printed by the kit's tool).
-/
namespace Go.Proofs.YtkggdohfcmiakaaGreatDoor
open Go.Shelf
def lays156_ren : Go.Shelf.Ren := ⟨fun | 156 => 18 | 165 => 48 | 166 => 31 | 169 => 32 | 240 => 63 | 241 => 76 | 276 => 85 | 277 => 95 | n => n, fun | 31 => 33 | 9 => 9 | 3 => 3 | 4 => 4 | 0 => 0 | 20 => 20 | 72 => 90 | 76 => 93 | 70 => 88 | 37 => 48 | 75 => 92 | 127 => 142 | 164 => 164 | 5 => 5 | 80 => 95 | n => n, fun | n => n⟩
theorem lays156 : Go.Proofs.Lays.n156 Tryz.prog lays156_ren := {
  mixed := by kernel_rfl
  f156 := Tryz.func18.trans (congrArg some (by kernel_rfl))
  f165 := Tryz.func48.trans (congrArg some (by kernel_rfl))
  f166 := Tryz.func31.trans (congrArg some (by kernel_rfl))
  f169 := Tryz.func32.trans (congrArg some (by kernel_rfl))
  f240 := Tryz.func63.trans (congrArg some (by kernel_rfl))
  f241 := Tryz.func76.trans (congrArg some (by kernel_rfl))
  f276 := Tryz.func85.trans (congrArg some (by kernel_rfl))
  f277 := Tryz.func95.trans (congrArg some (by kernel_rfl))
  t0 := Tryz.underlying0
  a0 := Tryz.isAgg0
  z0 := Tryz.sizeOf0
  v0 := Tryz.zeroValue0
  t3 := Tryz.underlying3
  a3 := Tryz.isAgg3
  z3 := Tryz.sizeOf3
  v3 := Tryz.zeroValue3
  t4 := Tryz.underlying4
  a4 := Tryz.isAgg4
  z4 := Tryz.sizeOf4
  v4 := Tryz.zeroValue4
  t9 := Tryz.underlying9
  a9 := Tryz.isAgg9
  z9 := Tryz.sizeOf9
  v9 := Tryz.zeroValue9
  t20 := Tryz.underlying20
  a20 := Tryz.isAgg20
  z20 := Tryz.sizeOf20
  v20 := Tryz.zeroValue20
  t31 := Tryz.underlying33
  a31 := Tryz.isAgg33
  z31 := Tryz.sizeOf33
  v31 := Tryz.zeroValue33
  t37 := Tryz.underlying48
  a37 := Tryz.isAgg48
  z37 := Tryz.sizeOf48
  v37 := Tryz.zeroValue48
  t70 := Tryz.underlying88
  a70 := Tryz.isAgg88
  z70 := Tryz.sizeOf88
  v70 := Tryz.zeroValue88
  t72 := Tryz.underlying90
  a72 := Tryz.isAgg90
  z72 := Tryz.sizeOf90
  v72 := Tryz.zeroValue90
  t75 := Tryz.underlying92
  a75 := Tryz.isAgg92
  z75 := Tryz.sizeOf92
  v75 := Tryz.zeroValue92
  t76 := Tryz.underlying93
  a76 := Tryz.isAgg93
  z76 := Tryz.sizeOf93
  v76 := Tryz.zeroValue93
  t127 := Tryz.underlying142
  a127 := Tryz.isAgg142
  z127 := Tryz.sizeOf142
  v127 := Tryz.zeroValue142
  t164 := Tryz.underlying164
  a164 := Tryz.isAgg164
  z164 := Tryz.sizeOf164
  v164 := Tryz.zeroValue164 }
def lays171_ren : Go.Shelf.Ren := ⟨fun | 171 => 20 | 243 => 50 | 246 => 77 | 283 => 96 | 284 => 97 | 285 => 98 | 286 => 99 | 129 => 108 | 317 => 107 | 318 => 109 | 319 => 110 | 320 => 111 | 337 => 118 | 338 => 119 | n => n, fun | 3 => 3 | 9 => 9 | 2 => 2 | 4 => 4 | 171 => 179 | 0 => 0 | 53 => 180 | 37 => 48 | 5 => 5 | 173 => 183 | 212 => 192 | 51 => 58 | 20 => 20 | 213 => 193 | 46 => 148 | 232 => 204 | 233 => 205 | n => n, fun | 17 => 2 | 18 => 3 | 19 => 4 | n => n⟩
theorem lays171 : Go.Proofs.LaysM.n171 Tryz.prog lays171_ren := {
  mixed := by kernel_rfl
  f129 := Tryz.func108.trans (congrArg some (by kernel_rfl))
  f171 := Tryz.func20.trans (congrArg some (by kernel_rfl))
  f243 := Tryz.func50.trans (congrArg some (by kernel_rfl))
  f246 := Tryz.func77.trans (congrArg some (by kernel_rfl))
  f283 := Tryz.func96.trans (congrArg some (by kernel_rfl))
  f284 := Tryz.func97.trans (congrArg some (by kernel_rfl))
  f285 := Tryz.func98.trans (congrArg some (by kernel_rfl))
  f286 := Tryz.func99.trans (congrArg some (by kernel_rfl))
  f317 := Tryz.func107.trans (congrArg some (by kernel_rfl))
  f318 := Tryz.func109.trans (congrArg some (by kernel_rfl))
  f319 := Tryz.func110.trans (congrArg some (by kernel_rfl))
  f320 := Tryz.func111.trans (congrArg some (by kernel_rfl))
  f337 := Tryz.func118.trans (congrArg some (by kernel_rfl))
  f338 := Tryz.func119.trans (congrArg some (by kernel_rfl))
  t0 := Tryz.underlying0
  a0 := Tryz.isAgg0
  z0 := Tryz.sizeOf0
  v0 := Tryz.zeroValue0
  t2 := Tryz.underlying2
  a2 := Tryz.isAgg2
  z2 := Tryz.sizeOf2
  v2 := Tryz.zeroValue2
  t3 := Tryz.underlying3
  a3 := Tryz.isAgg3
  z3 := Tryz.sizeOf3
  v3 := Tryz.zeroValue3
  t4 := Tryz.underlying4
  a4 := Tryz.isAgg4
  z4 := Tryz.sizeOf4
  v4 := Tryz.zeroValue4
  t5 := Tryz.underlying5
  a5 := Tryz.isAgg5
  z5 := Tryz.sizeOf5
  v5 := Tryz.zeroValue5
  t9 := Tryz.underlying9
  a9 := Tryz.isAgg9
  z9 := Tryz.sizeOf9
  v9 := Tryz.zeroValue9
  t20 := Tryz.underlying20
  a20 := Tryz.isAgg20
  z20 := Tryz.sizeOf20
  v20 := Tryz.zeroValue20
  t37 := Tryz.underlying48
  a37 := Tryz.isAgg48
  z37 := Tryz.sizeOf48
  v37 := Tryz.zeroValue48
  t46 := Tryz.underlying148
  a46 := Tryz.isAgg148
  z46 := Tryz.sizeOf148
  v46 := Tryz.zeroValue148
  t51 := Tryz.underlying58
  a51 := Tryz.isAgg58
  z51 := Tryz.sizeOf58
  v51 := Tryz.zeroValue58
  t53 := Tryz.underlying180
  a53 := Tryz.isAgg180
  z53 := Tryz.sizeOf180
  v53 := Tryz.zeroValue180
  t171 := Tryz.underlying179
  a171 := Tryz.isAgg179
  z171 := Tryz.sizeOf179
  v171 := Tryz.zeroValue179
  t173 := Tryz.underlying183
  a173 := Tryz.isAgg183
  z173 := Tryz.sizeOf183
  v173 := Tryz.zeroValue183
  t212 := Tryz.underlying192
  a212 := Tryz.isAgg192
  z212 := Tryz.sizeOf192
  v212 := Tryz.zeroValue192
  t213 := Tryz.underlying193
  a213 := Tryz.isAgg193
  z213 := Tryz.sizeOf193
  t232 := Tryz.underlying204
  a232 := Tryz.isAgg204
  z232 := Tryz.sizeOf204
  v232 := Tryz.zeroValue204
  t233 := Tryz.underlying205
  a233 := Tryz.isAgg205
  z233 := Tryz.sizeOf205
  v233 := Tryz.zeroValue205
  g17 := by kernel_rfl
  g18 := by kernel_rfl
  g19 := by kernel_rfl
  i0 := by kernel_rfl
  i2 := by kernel_rfl
  i3 := by kernel_rfl
  i4 := by kernel_rfl
  i5 := by kernel_rfl
  i9 := by kernel_rfl
  i20 := by kernel_rfl
  i37 := by kernel_rfl
  i46 := by kernel_rfl
  i51 := by kernel_rfl
  i53 := by kernel_rfl
  i171 := by kernel_rfl
  i173 := by kernel_rfl
  i212 := by kernel_rfl
  i232 := by kernel_rfl
  i233 := by kernel_rfl
  m17 := by kernel_rfl
  m18 := by kernel_rfl
  m19 := by kernel_rfl }
theorem extra156 : Go.Proofs.Builder.Extra Tryz.prog lays156_ren := {
  sizeBuilder := by kernel_rfl
  liesBuilder := by kernel_rfl
  t5 := Tryz.underlying5
  a5 := Tryz.isAgg5
  z5 := Tryz.sizeOf5
  v5 := Tryz.zeroValue5
  infoByte := by kernel_rfl
  cellsByte := by kernel_rfl
  sizeByte := by kernel_rfl
  neB5 := by decide }
theorem itoa_run (n : Int) (h0 : -9223372036854775808 ≤ n) (h1 : n ≤ 9223372036854775807) (w : World) (htab : Lib.TabIs Tryz.prog w "internal/strconv.uint64pow10" .u64 Lib.pow10Tab) :
    Calls Tryz.prog 20 #[.int .i64 n] w fun e w' => e = .returned (.string ⟨(Lib.itoa n).toArray⟩) ∧ ∃ k os, w' = Go.Sort.grow (w.drewN k) os := Any.strconv_Itoa lays171 n h0 h1 w htab
theorem join_none_run (a : Option Addr) (c : Nat) (sep : ByteArray) (w : World) : Calls Tryz.prog 18 #[.slice a 0 c, .string sep] w fun e w' => e = .returned (.string ⟨#[]⟩) ∧ w' = w := Any.strings_Join_none lays156 extra156 a c sep w
theorem join_run (bk o c : Nat) (xs : List ByteArray) (sep : ByteArray) (w : World) (hcells : ∀ (j : Nat) x, xs[j]? = some x → w.cell? ⟨bk, o + j, none⟩ = some (.string x))
    (hbk : bk < w.heap.size) (hN : xs.length ≤ 140737488355328) (hcap : xs.length ≤ c) (hlen : (Lib.join (xs.map (·.data.toList)) sep.data.toList).length ≤ 140737488355328) :
    Calls Tryz.prog 18 #[.slice (some ⟨bk, o, none⟩) xs.length c, .string sep] w fun e w' => e = .returned (.string ⟨(Lib.join (xs.map (·.data.toList)) sep.data.toList).toArray⟩) ∧ RowKit.Below w.heap.size w w' := Any.strings_Join lays156 extra156 bk o c xs sep w hcells hbk hN hcap hlen
end Go.Proofs.YtkggdohfcmiakaaGreatDoor
