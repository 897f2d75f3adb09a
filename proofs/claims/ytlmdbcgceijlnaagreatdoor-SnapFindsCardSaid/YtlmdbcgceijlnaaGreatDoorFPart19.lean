/-
  Blanks at the end; a list cut into rows.
-/
import Derived.Test.YtlmdbcgceijlnaaGreatDoorFPart18
import Derived.Test.YtlmdbcgceijlnaaGreatDoorRows
import Derived.Lay
import Derived.LaidMore
set_option linter.unusedSimpArgs false
set_option linter.unusedVariables false
namespace Go.Proofs.YtlmdbcgceijlnaaGreatDoor
open Go Go.AL Go.Sp
variable {σ Y Z τ : Store} {q p b x y : Nat} {s : Sp} {n : Int} {pv : AV}

/-- How much of the first m bytes stays when the blanks at the end go. -/
def trimN (l : List UInt8) : Nat → Nat
  | 0 => 0
  | m + 1 => if l.getD m 0 = 32 then trimN l m else m + 1
def trimB (l : List UInt8) : List UInt8 := l.take (trimN l l.length)
theorem toB_at (l : List UInt8) (i : Nat) (h : i < (toB l).size) : (toB l).data[i]'h = l.getD i 0 := by
  have h2 : i < l.length := by rw [← toB_size]; exact h
  simp [toB, h2]
theorem aSlice_str0 {P : Program} {t : TypeId} (ht : tElem P t = none) (hs : tStr P t = true) (L : List UInt8) (b : Nat) (zb : Int) (hb : zb = b) (hbl : b ≤ L.length) :
    aSlice P t (.lit (.string (toB L))) none (some (.lit (.int .i64 zb))) none = some (.lit (.string (toB (L.take b)))) := by
  subst hb
  have hsz := toB_size L
  have h1 : (0 : Int) ≤ (b : Int) := by omega
  have h2 : b ≤ (toB L).size := by omega
  have := toB_extract L 0 b (by omega)
  simp at this
  simp [aSlice, ht, hs, bndA, h1, h2, this]
set_option maxRecDepth 8000 in
theorem trb_calls (l : List UInt8) (hl : l.length ≤ 1000000000) (σ : Store) : ACalls Tryz.prog 159 [.lit (.string (toB l)), .lit (.int .u8 32)] σ fun v σ' => v = .lit (.string (toB (trimB l))) ∧ σ' = σ := by
  refine ACalls.of_awp follows (st := st159) (plans := pl159) (n := 23) Tryz.func159 rfl (by kernel_rfl) (by kernel_rfl) (by kernel_rfl) ?_
  simp
  refine codeK.loop follows (st := st159) (plans := pl159) (X := Nat) (fun m => m ≤ l.length ∧ trimN l m = trimN l l.length)
    (fun m => [(0, .lit (.string (toB (l.take m)))), (1, .lit (.int .u8 32))]) (fun _ => σ) (fun m => m) l.length (by kernel_rfl) (by simp) (by simp) (Store.sub_refl _) fun m hm => ?_
  obtain ⟨hm1, hm2⟩ := hm
  cases m with
  | zero =>
    have e : trimB l = [] := by unfold trimB; rw [← hm2]; rfl
    rw [e]
    simp [toB_size]
  | succ m =>
    have hsz : (toB (l.take (m + 1))).size = m + 1 := by rw [toB_size]; simp; omega
    have hw : IntKind.i64.wrap ((m : Int) + 1 - 1) = (m : Int) := by rw [wrap_i64 (by omega) (by omega)]; omega
    have hw' : IntKind.i64.wrap (m : Int) = (m : Int) := wrap_i64 (by omega) (by omega)
    have hg : ∀ h, (toB (l.take (m + 1))).data[m]'h = l.getD m 0 := fun h => by rw [toB_at]; simp [List.getD_eq_getElem?_getD]
    have hsl := aSlice_str0 (P := Tryz.prog) (t := 9) (by simp) (by simp) (l.take (m + 1)) m (m : Int) rfl (by simp; omega)
    have htk : (l.take (m + 1)).take m = l.take m := by rw [List.take_take]; congr 1; omega
    rw [htk] at hsl
    have htr : trimN l (m + 1) = if l.getD m 0 = 32 then trimN l m else m + 1 := rfl
    generalize hS : toB (l.take (m + 1)) = S at *
    generalize l.getD m 0 = bb at *
    by_cases hb : bb = 32
    · subst hb
      simp [-e_aSlice_1, -e_aSlice_2, hsz, hw, hw', hg, hsl]
      exact ⟨m, ⟨by omega, by rw [← hm2, htr, if_pos rfl]⟩, by omega, AV.le_refl _⟩
    · have hb' : ¬ (bb.toNat : Int) = 32 := fun h => hb (UInt8.toNat_inj.1 (by show bb.toNat = 32; omega))
      simp [-e_aSlice_1, -e_aSlice_2, hsz, hw, hw', hg, hsl, hb']
      have e : trimB l = l.take (m + 1) := by unfold trimB; rw [← hm2, htr, if_neg hb]
      rw [e, hS]
      exact AV.le_refl _
set_option maxRecDepth 8000 in
theorem tr_calls (l : List UInt8) (hl : l.length ≤ 1000000000) (σ : Store) : ACalls Tryz.prog 122 [.lit (.string (toB l)), .lit (.string ⟨#[32]⟩)] σ fun v σ' => v = .lit (.string (toB (trimB l))) ∧ σ' = σ := by
  have hb := trb_calls l hl σ
  refine ACalls.of_awp follows (st := st122) (plans := pl122) (n := 37) Tryz.func122 rfl (by kernel_rfl) (by kernel_rfl) (by kernel_rfl) ?_
  by_cases h0 : toB l = ⟨#[]⟩
  · have hl0 : l = [] := by
      have := congrArg ByteArray.size h0
      rw [toB_size] at this
      exact List.eq_nil_of_length_eq_zero this
    subst hl0
    simp [h0, trimB, trimN]
  · have h0' : ¬ (toB l).toList = [] := fun h => by
      rw [ByteArray.toList_eq] at h
      exact h0 (ByteArray.ext (Array.ext' (by simpa using h)))
    have hs1 : (⟨#[32]⟩ : ByteArray).size = 1 := rfl
    simp [h0', hs1]
    refine callK.eq hb ?_
    simp
theorem runesOf_r32A (l : List Nat) : runesOf (r32A l) = some (l.map fun n : Nat => (n : Int)) := by
  unfold runesOf r32A
  induction l with
  | nil => rfl
  | cons a l ih => rw [List.map_cons, List.mapM_cons, ih]; rfl
def lineB (l : List Nat) : List UInt8 := trimB (runesBytes (l.map fun n : Nat => (n : Int))).data.toList
set_option maxRecDepth 8000 in
theorem trimmed_calls (l : List Nat) (hl : l.length ≤ 100000) (σ : Store) : ACalls Tryz.prog 78 [.list false 1 (r32A l)] σ fun v σ' => v = .lit (.string (toB (lineB l))) ∧ σ' = σ := by
  refine ACalls.of_awp follows (st := st78) (plans := pl78) (n := 6) Tryz.func78 rfl (by kernel_rfl) (by kernel_rfl) (by kernel_rfl) ?_
  simp [runesOf_r32A]
  have e : runesBytes (l.map fun n : Nat => (n : Int)) = toB (runesBytes (l.map fun n : Nat => (n : Int))).data.toList := by simp [toB]
  have hlen : (runesBytes (l.map fun n : Nat => (n : Int))).data.toList.length ≤ 1000000000 := by
    have h1 := foldl_size_le (l.map fun n : Nat => (n : Int)) ByteArray.empty
    have h2 : (runesBytes (l.map fun n : Nat => (n : Int))).size ≤ 0 + 4 * (l.map fun n : Nat => (n : Int)).length := h1
    rw [List.length_map] at h2
    have h3 : (runesBytes (l.map fun n : Nat => (n : Int))).data.toList.length = (runesBytes (l.map fun n : Nat => (n : Int))).size := by
      generalize runesBytes (l.map fun n : Nat => (n : Int)) = S
      exact Array.length_toList
    omega
  have h := tr_calls _ hlen σ
  rw [← e] at h
  refine callK.eq h ?_
  unfold lineB
  simp
/-- The k-th row of c signs. -/
def chunkL (l : List Nat) (c k : Nat) : List Nat := (l.drop (k * c)).take c
def NeedC (b1 b2 : Nat) (l : List Nat) (c : Nat) (_k : Nat) (τ : Store) : Prop := τ b1 = some [.list false 1 (r32A l)] ∧ τ b2 = some [.lit (.int .i64 c)]
set_option maxRecDepth 8000 in
theorem chunk_calls (l : List Nat) (c : Nat) (hc : 0 < c) (σ : Store) : ACalls Tryz.prog 105 [.list false 1 (r32A l), .lit (.int .i64 c)] σ fun v σ' => ∃ b1 b2 : Nat, σ b1 = none ∧ σ b2 = none ∧ ¬ b1 = b2 ∧ v = .func (.func 148) [] [ptrA b1, ptrA b2] ∧ σ' = (σ.upd b1 [.list false 1 (r32A l)]).upd b2 [.lit (.int .i64 c)] := by
  have hc' : ¬ (c : Int) < 1 := by omega
  refine ACalls.of_awp follows (st := st105) (plans := pl105) (n := 9) Tryz.func105 rfl (by kernel_rfl) (by kernel_rfl) (by kernel_rfl) ?_
  simp
  intro b1 h1
  simp +contextual [ite_free, hc']
  intro b2 n1 n2 h2
  exact ⟨_, AV.le_refl _, _, Store.sub_refl _, b1, h1, b2, h2, n2, rfl, rfl⟩
set_option maxRecDepth 8000 in
theorem chunk_iter (b1 b2 : Nat) (l : List Nat) (c N : Nat) (hc : 0 < c) (hN : l.length = N * c) (hl : l.length ≤ 100000) (σ : Store) : IterG Tryz.prog 148 [ptrA b1, ptrA b2] σ N (NeedC b1 b2 l c) fun k _ => [.list false 1 (r32A (chunkL l c k))] := by
  refine ⟨fun k τ τ' h hs => ⟨⟨sub_at h.1 hs, sub_at h.2 hs⟩, rfl⟩, fun X ly I J hneed hy τ E h0 hs => ?_⟩
  obtain ⟨q1, q2⟩ := hneed 0 τ E (Nat.zero_le _) h0
  have q1 := sub_at q1 hs
  have q2 := sub_at q2 hs
  refine ACallsY.of_awp follows (st := st148) (plans := pl148) (n := 31) Tryz.func148 rfl (by kernel_rfl) (by kernel_rfl) (by kernel_rfl) ?_
  simp
  refine codeYK.loop follows (st := st148) (plans := pl148) (S := Nat × Store) (fun x => x.1 ≤ N)
    (fun x => [(0, .func (.yield ly) [] []), (1, ptrA b1), (2, ptrA b2), (4, .lit (.int .i64 (x.1 * c : Nat)))]) (fun x => x.2) (fun x E => I x.1 x.2 E) (fun x => N - x.1) (0, τ) (by kernel_rfl) (by simp) (by simp) hs h0 ?_
  rintro ⟨k, τ1⟩ E1 hk hI
  dsimp only at hk hI ⊢
  obtain ⟨p1, p2⟩ := hneed k τ1 E1 hk hI
  by_cases hlt : k < N
  · have hyk := hy k hlt τ1 E1 hI
    have hkc : k * c + c ≤ l.length := by rw [hN, ← Nat.succ_mul]; exact Nat.mul_le_mul_right _ hlt
    have hlt' : k * c < l.length := by omega
    have hk1 : (k + 1) * c = k * c + c := Nat.succ_mul k c
    have hw : IntKind.i64.wrap (((k * c : Nat) : Int) + (c : Int)) = ((k * c : Nat) : Int) + c := wrap_i64 (by omega) (by omega)
    have hD : List.drop (k * c) (List.take (k * c + c) (r32A l)) = r32A (chunkL l c k) := by
      unfold chunkL r32A
      rw [List.drop_take, Nat.add_sub_cancel_left, List.map_take, List.map_drop]
    generalize chunkL l c k = CH at *
    generalize hkk : k * c = m at *
    have hle : m ≤ l.length := by omega
    have hT : List.take l.length (r32A l) = r32A l := List.take_of_length_le (by simp)
    have hmin : ¬ l.length - m < c := by omega
    have g0 : (0 : Int) ≤ (m : Int) + c := by omega
    have hto : ((m : Int) + (c : Int)).toNat = m + c := by omega
    have hmc : m + c ≤ l.length := by omega
    simp [p1, p2, hlt', hle, hT, hmin, hw, g0, hto, hmc, hD]
    refine yieldK.of (by simp) hyk (Store.sub_refl _) ?_
    intro bb τ' E' hR hap
    cases bb
    · simp
      exact ⟨⟨_, AV.le_refl _⟩, _, Store.sub_over _ _ _, τ', Store.sub_refl _, .inr (by simpa using hR)⟩
    · have p2' : NeedC b1 b2 l c (k + 1) τ' := hneed (k + 1) τ' E' (by omega) (by simpa using hR)
      have hb2 : τ'.over τ1 τ1 b2 = some [.lit (.int .i64 c)] := sub_at p2'.2 (Store.sub_over _ _ _)
      simp [hb2, hw]
      refine ⟨k + 1, by omega, by omega, by rw [show ((k + 1 : Nat) : Int) * (c : Int) = (m : Int) + c by rw [← Int.natCast_mul, hk1]; omega]; exact AV.le_refl _, τ', Store.sub_over _ _ _, by simpa using hR⟩
  · obtain rfl : k = N := by omega
    simp [p1, p2, hN]
    exact ⟨⟨_, AV.le_refl _⟩, _, Store.sub_refl _, τ1, Store.sub_refl _, .inl hI⟩
end Go.Proofs.YtlmdbcgceijlnaaGreatDoor
/-
  The lines of a screen.
-/
namespace Go.Proofs.YtlmdbcgceijlnaaGreatDoor
open Go Go.AL Go.Sp
variable {σ Y Z τ : Store} {q p b x y : Nat} {s : Sp} {n : Int} {pv : AV}

theorem PS.fresh (h : PS Y q p n pv τ) {z : Nat} (hz : τ z = none) : ∀ b : Nat, pv = pgP b → ¬ z = b := by
  intro b e
  cases h with
  | nil => cases e
  | page b' x h1 h2 h3 h4 h5 =>
    cases e
    exact (pgS_fresh hz).1
theorem PS.split {z : Nat} {C : List AV} (h : PS (Y.upd z C) q p n pv τ) (hz : Y z = none) (hb : ∀ b : Nat, pv = pgP b → ¬ z = b) : ∃ τ0, PS Y q p n pv τ0 ∧ τ0 z = none ∧ τ = τ0.upd z C := by
  cases h with
  | nil h => exact ⟨_, .nil h, hz, rfl⟩
  | page b x h1 h2 h3 h4 h5 =>
    simp only [supd_apply, ite_none] at h4
    exact ⟨_, .page b x h1 h2 h3 h4.2 (fun g e => by simpa using h5 g e), by rw [pgS_other (hb b rfl)]; exact hz, (pgS_upd (hb b rfl) _ _ _ _).symm⟩
def strsA (l : List (List UInt8)) : List AV := l.map fun x => .lit (.string (toB x))
def lineAt (n : Int) (s : Sp) (k : Nat) : List UInt8 := lineB (chunkL (signsL n s) s.cols k)
def linesL (n : Int) (s : Sp) : List (List UInt8) := (List.range s.rows).map (lineAt n s)
theorem strsA_succ (f : Nat → List UInt8) (k : Nat) : strsA ((List.range (k + 1)).map f) = strsA ((List.range k).map f) ++ [.lit (.string (toB (f k)))] := by
  simp [strsA, List.range_succ]
set_option maxHeartbeats 1000000 in
set_option maxRecDepth 8000 in
theorem lines_calls (hP : Prg Y q p s) (h : PS Y q p n pv τ) : ACalls Tryz.prog 59 [ptrA q, pv] τ fun v σ' => v = .list false 1 (strsA (linesL n s)) ∧ PS Y q p n pv σ' := by
  obtain ⟨a, ha⟩ := h.ptr
  rw [ha] at h ⊢
  clear ha
  have hsn := s.n_le
  have hl := signsL_length n s
  have hdim : Dim s.rows s.cols := dim_of s.model s.alt
  have hnn : s.n = s.rows * s.cols := rfl
  have hc0 : 0 < s.cols := by have := hdim.c1; omega
  refine ACalls.of_awpY follows (st := st59) (plans := pl59) (n := 25) Tryz.func59 rfl (by kernel_rfl) (by kernel_rfl) (by kernel_rfl) ?_
  simp
  intro z hz
  have hfr := h.fresh hz
  obtain ⟨yz, h1⟩ := h.new hz [.list true 1 []]
  have hP1 := hP.new yz [.list true 1 []]
  refine callK.eq (size_calls (h1.prg hP1)) ?_
  have hc1 : (0 : Int) < (s.cols : Int) := by omega
  simp [hc0]
  refine callK.of (psg_calls hP1 h1) ?_
  rintro v τ1 ⟨rfl, h2⟩
  obtain ⟨τ0, h0, z0, rfl⟩ := h2.split yz hfr
  simp
  refine callK.le (args' := [.list false 1 (r32A (signsL n s)), .lit (.int .i64 s.cols)]) (by simp [AllLe]) (chunk_calls (signsL n s) s.cols hc0 _) ?_
  rintro v τ2 ⟨b1, b2, hb1, hb2, n12, rfl, rfl⟩
  simp only [supd_apply, Int.natCast_inj, ite_none] at hb1 hb2
  simp
  refine codeYK.rangeG follows (st := st59) (plans := pl59) (chunk_iter b1 b2 (signsL n s) s.cols s.rows hc0 (by rw [hl, hnn]) (by rw [hl]; omega) _) (by simp) (by simp) (by simp) (by kernel_rfl) (by kernel_rfl) (by kernel_rfl)
    (fun k ρ E => ρ = ((τ0.upd z [.list true 1 (strsA ((List.range k).map (lineAt n s)))]).upd b1 [.list false 1 (r32A (signsL n s))]).upd b2 [.lit (.int .i64 s.cols)]) (fun c ρ E => False)
    _ (by simp [strsA]) (Store.sub_refl _) ?_ ?_ ?_ ?_
  · rintro k ρ E hk rfl
    exact ⟨by simp [n12], by simp⟩
  · rintro k hk ρ E rfl
    obtain ⟨m1, w1⟩ := hb1
    obtain ⟨m2, w2⟩ := hb2
    have m1' : ¬ z = b1 := fun e => m1 e.symm
    have m2' : ¬ z = b2 := fun e => m2 e.symm
    have hcl : (chunkL (signsL n s) s.cols k).length ≤ 100000 := by unfold chunkL; simp; omega
    have htr := fun τ' => trimmed_calls (chunkL (signsL n s) s.cols k) hcl τ'
    have hss := strsA_succ (lineAt n s) k
    have hla : lineB (chunkL (signsL n s) s.cols k) = lineAt n s k := rfl
    rw [hla] at htr
    have hsl : (strsA ((List.range k).map (lineAt n s))).length = k := by simp [strsA]
    have hdr := hdim.r2
    generalize chunkL (signsL n s) s.cols k = CH at *
    generalize lineAt n s k = LA at *
    generalize hSS : strsA ((List.range k).map (lineAt n s)) = SS at *
    rw [hss]
    simp [m1, m2, m1', m2']
    repeat' apply And.intro
    all_goals
      refine callK.eq (htr _) ?_
      simp [m1, m2, m1', m2', hsl]
      refine ⟨by omega, by omega, Store.sub2 (fun o => .inr ?_) (fun i => by simp)⟩
      simp only [supd_apply]
      by_cases e : o = z
      · subst e; simp [m1', m2']
      · simp [e]
  · rintro ρ E σ' hs rfl
    obtain ⟨m1, w1⟩ := hb1
    obtain ⟨m2, w2⟩ := hb2
    have m1' : ¬ z = b1 := fun e => m1 e.symm
    have m2' : ¬ z = b2 := fun e => m2 e.symm
    have e : σ' z = some [.list true 1 (strsA (linesL n s))] := sub_at (by simp [m1', m2']; rfl) hs
    have hs0 : Store.sub τ0 σ' := Store.sub_trans (Store.sub_upd (by simp [m2, w2]) (Store.sub_upd (by simp [m1, w1]) (Store.sub_upd z0 (Store.sub_refl _)))) hs
    simp [e]
    exact ⟨_, AV.le_refl _, τ0, hs0, rfl, h0⟩
  · rintro c ρ E σ' _ h
    exact h.elim
theorem linesL_length (n : Int) (s : Sp) : (linesL n s).length = s.rows := by simp [linesL]
theorem strsA_at (l : List (List UInt8)) (i : Nat) (h : i < l.length) : (strsA l)[i]? = some (.lit (.string (toB (l.getD i [])))) := by simp [strsA, h]
set_option maxHeartbeats 1000000 in
set_option maxRecDepth 8000 in
theorem line0_calls (hP : Prg Y q p s) (h : PS Y q p n pv τ) : ACalls Tryz.prog 20 [ptrA q, pv, .lit (.int .i64 0)] τ fun v σ' => v = .lit (.string (toB (lineAt n s 0))) ∧ PS Y q p n pv σ' := by
  obtain ⟨a, ha⟩ := h.ptr
  rw [ha] at h ⊢
  clear ha
  have hdim : Dim s.rows s.cols := dim_of s.model s.alt
  have hr1 := hdim.r1
  have hll := linesL_length n s
  have hl0 : (strsA (linesL n s))[0]? = some (.lit (.string (toB (lineAt n s 0)))) := by
    rw [strsA_at _ _ (by omega)]
    simp [linesL, show 0 < s.rows by omega]
  have hr0 : ¬ s.rows = 0 := by omega
  refine ACalls.of_awp follows (st := st20) (plans := pl20) (n := 25) Tryz.func20 rfl (by kernel_rfl) (by kernel_rfl) (by kernel_rfl) ?_
  simp
  refine callK.eq (size_calls (h.prg hP)) ?_
  simp
  intro z hz
  have hfr := h.fresh hz
  obtain ⟨yz, h1⟩ := h.new hz [.lit (.int .i64 s.rows), .lit (.int .i64 s.cols)]
  have hP1 := hP.new yz [.lit (.int .i64 s.rows), .lit (.int .i64 s.cols)]
  refine callK.of (lines_calls hP1 h1) ?_
  rintro v τ1 ⟨rfl, h2⟩
  obtain ⟨τ0, h0, z0, rfl⟩ := h2.split yz hfr
  have hsl : (strsA (linesL n s)).length = s.rows := by simp [strsA, hll]
  generalize strsA (linesL n s) = SL at *
  have had := fun τ' => addrAt_calls hdim 0 0 τ'
  have hro := fun τ' => row_of_calls hdim 0 τ'
  have ha0 : addrAt s.rows s.cols 0 0 = 0 := by simp [addrAt, wrap]
  have hw0 : wrap (s.rows * s.cols) 0 / s.cols = 0 := by simp [wrap]
  rw [ha0] at had
  rw [hw0] at hro
  have hg : ∀ q : 0 < SL.length, SL[0]'q = .lit (.string (toB (lineAt n s 0))) := fun q => by rw [List.getElem?_eq_getElem q] at hl0; exact Option.some.inj hl0
  simp [hsl, hr0]
  repeat' apply And.intro
  all_goals
    refine callK.eq (had _) ?_
    simp
    refine callK.eq (hro _) ?_
    simp [hl0, hsl, hr0, hg, hr1]
    exact ⟨_, AV.le_refl _, τ0, sub_upd_self _ _ _ z0, rfl, h0⟩
end Go.Proofs.YtlmdbcgceijlnaaGreatDoor
/-
  The example that the screen's text is asked for; what is laid, by a page or by none.
-/
namespace Go.Proofs.YtlmdbcgceijlnaaGreatDoor
open Go Go.AL Go.Sp
variable {σ Y Z τ : Store} {q p b x y : Nat} {s : Sp} {n : Int} {pv : AV}

def sawL : List Sp.Act := [{ what := 3, n := 0, on := false, code := 0, c := .zero, text := [] }, { what := 5, n := 1, on := false, code := 0, c := .zero, text := [193, 194, 0, 195] }]
def sawS : Sp := Sp.lays 0 sawL
set_option maxRecDepth 100000 in
theorem saw_ex : lineAt 37 (upTo sawS sawS.n) 0 = [32, 65, 66, 32, 67] ∧ findZ (signsL 37 (upTo sawS sawS.n)) (runesL ⟨#[65, 66]⟩) = 1 := by
  decide +kernel
/-- A screen, the document's, a page or none. -/
def LayP (σ : Store) (s : Sp) (v : AV) (σ' : Store) : Prop := ∃ (q p x y : Nat) (n : Int) (pv : AV) (w : Store), v = .tuple [ptrA q, ptrA x, pv, .lit (.int .i64 n)] ∧ isPage n ∧ PS w q p n pv σ' ∧ Prg w q p (upTo s s.n) ∧ Ref w x y s ∧ Store.sub σ w
theorem page37 : isPage 37 := by decide
theorem slayP_calls (m u : UInt8) (l : List Sp.Act) (hl : l.length ≤ 9223372036854775807) (ht : ∀ a ∈ l, a.text.length ≤ 9223372036854775807) (σ : Store) : ACalls Tryz.prog 10 [byteA m, byteA u, .list false 11 (actsA l)] σ fun v σ' => LayP σ (Sp.lays m l) v σ' ∧ ∀ q x pv n, v = .tuple [ptrA q, ptrA x, pv, .lit (.int .i64 n)] → u = 0 → n = 37 := by
  have hm : 2 ≤ 2 + m.toNat % 4 ∧ 2 + m.toNat % 4 ≤ 5 := by omega
  have hg : (Sp.lays m l).good := Sp.foldl_good _ (Sp.new_good hm)
  refine ACalls.mono (slay_calls m u l hl ht σ) ?_
  rintro v τ ⟨q, p, x, y, h4, h⟩
  have hP := both_prg (t := Sp.lays m l) h4 (upTo_good hg (Nat.le_refl _))
  have hR := both_ref (s := upTo (Sp.lays m l) (Sp.lays m l).n) h4 hg
  have hs : Store.sub σ (both σ q p x y (upTo (Sp.lays m l) (Sp.lays m l).n) (Sp.lays m l)) := by
    obtain ⟨f1, f2, f3, f4, f5, f6, f7, f8, f9, f10⟩ := h4
    simp only [both, putS]
    (intro q; simp only [Store.upd, Store.del]; (repeat' split) <;> first | exact Or.inr rfl | exact Or.inl rfl | (exfalso; omega) | (left; subst_vars; assumption) | simp_all)
  rcases h with ⟨h6, rfl, rfl⟩ | ⟨h6, b, hb, rfl, rfl⟩
  · refine ⟨⟨q, p, x, y, 37, _, _, rfl, page37, .nil rfl, hP, hR, hs⟩, fun q x pv n e _ => ?_⟩
    cases e; rfl
  · refine ⟨⟨q, p, x, y, page7 u, _, _, rfl, page7_ok u, .page b none (page7_ok u) (ne_at hP.obj hb).1 (ne_at hP.row hb).1 hb (fun g e => by cases e), hP, hR, hs⟩, fun q x pv n e hu => ?_⟩
    cases e; subst hu; rfl
set_option maxRecDepth 8000 in
theorem sawake_calls (σ : Store) : ACalls Tryz.prog 9 [] σ fun v σ' => v = .lit (.bool true) ∧ σ' = σ := by
  have hl := slayP_calls 0 0 sawL (by simp [sawL]) (by simp [sawL]) σ
  have hlays : Sp.lays 0 sawL = sawS := rfl
  obtain ⟨e1, e2⟩ := saw_ex
  rw [hlays] at hl
  generalize sawS = S0 at *
  clear hlays
  refine ACalls.of_awp follows (st := st9) (plans := pl9) (n := 25) Tryz.func9 rfl (by kernel_rfl) (by kernel_rfl) (by kernel_rfl) ?_
  simp
  refine callK.le (args' := [byteA 0, byteA 0, .list false 11 (actsA sawL)]) ?_ hl ?_
  · simp [AllLe, sawL, actsA, actA, actC, cellC, byteA, bytesA, Cell.zero]
  rintro v τ ⟨hL, hn37⟩
  unfold LayP at hL
  obtain ⟨q, p, x, y, n, pv, w, hv, hn, hPS, hP, hR, hs⟩ := hL
  have hn' := hn37 q x pv n hv rfl
  clear hn37
  subst hv
  subst hn'
  obtain ⟨a, ha⟩ := hPS.ptr
  rw [ha] at hPS ⊢
  simp
  refine callK.of (line0_calls hP hPS) ?_
  rintro v τ1 ⟨rfl, hPS1⟩
  rw [e1]
  have htl : (toB [32, 65, 66, 32, 67]).toList = [32, 65, 66, 32, 67] := by rw [ByteArray.toList_eq]; rfl
  have hf := pfind_calls hP hPS1 ⟨#[65, 66]⟩ (by decide)
  rw [e2] at hf
  simp [htl]
  refine callK.of hf ?_
  rintro v τ2 ⟨rfl, hPS2⟩
  simp [htl]
  exact Store.sub_trans hs hPS2.sub
def cutT (t : ByteArray) : ByteArray := if 30 < t.size then toB (t.data.toList.take 30) else t
theorem cutT_size (t : ByteArray) : (cutT t).size ≤ 30 := by
  unfold cutT
  split
  · rw [toB_size]; simp; omega
  · omega
set_option maxRecDepth 8000 in
theorem cut_calls (t : ByteArray) (σ : Store) : ACalls Tryz.prog 11 [.lit (.string t), .lit (.int .i64 30)] σ fun v σ' => v = .lit (.string (cutT t)) ∧ σ' = σ := by
  have hsz : t.data.toList.length = t.size := Array.length_toList
  have ht : t = toB t.data.toList := by simp [toB]
  unfold cutT
  refine ACalls.of_awp follows (st := st11) (plans := pl11) (n := 13) Tryz.func11 rfl (by kernel_rfl) (by kernel_rfl) (by kernel_rfl) ?_
  by_cases h : 30 < t.size
  · have hsl := aSlice_str0 (P := Tryz.prog) (t := 9) (by simp) (by simp) t.data.toList 30 30 rfl (by omega)
    rw [← ht] at hsl
    have h' : (30 : Int) < (t.size : Int) := by omega
    simp [-e_aSlice_1, -e_aSlice_2, h, h', hsl]
  · have h' : ¬ (30 : Int) < (t.size : Int) := by omega
    simp [h, h']
end Go.Proofs.YtlmdbcgceijlnaaGreatDoor
/-
  SnapFinds.
-/
namespace Go.Proofs.YtlmdbcgceijlnaaGreatDoor
open Go Go.AL Go.Sp
variable {σ Y Z τ : Store} {q p b x y : Nat} {s : Sp} {n : Int} {pv : AV}

theorem upTo_cells {s : Sp} (h : s.good) : (upTo s s.n).cells = s.cells := by
  have hl := h.len
  simp [upTo, List.take_of_length_le (show s.cells.length ≤ s.n by omega)]
theorem signsL_upTo (n : Int) {s : Sp} (h : s.good) : signsL n (upTo s s.n) = signsL n s := by
  have hc := upTo_cells h
  have hn : (upTo s s.n).n = s.n := rfl
  unfold signsL
  rw [hn]
  congr 1
  funext i
  unfold signAt hidAt fofF fldAt
  rw [hc]
set_option maxHeartbeats 1000000 in
set_option maxRecDepth 8000 in
theorem snapFinds_law (m u : UInt8) (l : List Sp.Act) (t : ByteArray) (hl : l.length ≤ 9223372036854775807) (ht : ∀ a ∈ l, a.text.length ≤ 9223372036854775807) (σ : Store) :
    ACalls Tryz.prog 3 [byteA m, byteA u, .list false 11 (actsA l), .lit (.string t)] σ fun v _ => v = .lit (.bool true) := by
  have hm : 2 ≤ 2 + m.toNat % 4 ∧ 2 + m.toNat % 4 ≤ 5 := by omega
  have hg : (Sp.lays m l).good := Sp.foldl_good _ (Sp.new_good hm)
  have haw := fun τ => sawake_calls τ
  have hlay := fun τ => slayP_calls m u l hl ht τ
  have hct := fun τ => cut_calls t τ
  have hcs := cutT_size t
  generalize Sp.lays m l = S at *
  generalize cutT t = T at *
  refine ACalls.of_awp follows (st := st3) (plans := pl3) (n := 35) Tryz.func3 rfl (by kernel_rfl) (by kernel_rfl) (by kernel_rfl) ?_
  unfold byteA at *
  simp
  refine callK.eq (haw _) ?_
  simp
  refine callK.of (hlay _) ?_
  rintro v τ ⟨hL, -⟩
  unfold LayP at hL
  obtain ⟨q, p, x, y, n, pv, w, hv, hn, hPS, hP, hR, hs⟩ := hL
  subst hv
  obtain ⟨a, ha⟩ := hPS.ptr
  rw [ha] at hPS ⊢
  simp
  refine callK.eq (hct _) ?_
  simp
  refine callK.of (pfind_calls hP hPS T (by omega)) ?_
  rintro v τ1 ⟨rfl, hPS1⟩
  rw [signsL_upTo n hg]
  simp
  refine callK.eq (rfind_calls (hPS1.ref hR) hn T (by omega)) ?_
  simp
  exact ⟨_, Store.sub_refl _⟩
end Go.Proofs.YtlmdbcgceijlnaaGreatDoor
/-
  Arguments opened; what is laid: for the screen's text.
-/
namespace Go.Proofs.YtlmdbcgceijlnaaGreatDoor
open Go Go.AL Go.Sp
def laid2 : List (String × DataW Unit) := [("unicode/utf8.acceptRanges", Rows.laid_unicode_utf8_acceptRanges), ("unicode/utf8.first", Rows.laid_unicode_utf8_first)]
theorem open_bytes : Opens Tryz.prog 91 (fun l : List UInt8 => [.list false 1 (bytesA l)]) (fun l => l.length ≤ maxLen) :=
  (Opens.slice Tryz.underlying91 (sz := 1) (by kernel_rfl) (by omega) (Opens.u8 Tryz.underlying5) byteA (fun _ => rfl) (fun _ => rfl)).by id fun _ h => ⟨h.1, rfl⟩
theorem open_cell : Opens Tryz.prog 86 (fun c : Cell => cellC c) (fun _ => True) :=
  (Opens.struct (total := 6) Tryz.underlying86 (by kernel_rfl)
    (.cons (k := 1) rfl (by kernel_rfl) (by omega) (Opens.u8 Tryz.underlying5) (.cons (k := 1) rfl (by kernel_rfl) (by omega) (Opens.bool Tryz.underlying4) (.cons (k := 1) rfl (by kernel_rfl) (by omega) (Opens.u8 Tryz.underlying5)
      (.cons (k := 1) rfl (by kernel_rfl) (by omega) (Opens.u8 Tryz.underlying5) (.cons (k := 1) rfl (by kernel_rfl) (by omega) (Opens.u8 Tryz.underlying5) (.cons (k := 1) rfl (by kernel_rfl) (by omega) (Opens.u8 Tryz.underlying5) .nil))))))).by
    (fun x => ⟨x.1, x.2.1, x.2.2.1, x.2.2.2.1, x.2.2.2.2.1, x.2.2.2.2.2.1⟩) fun _ _ => ⟨trivial, rfl⟩
theorem open_act : Opens Tryz.prog 93 (fun a : Sp.Act => actC a) (fun a => a.text.length ≤ maxLen) :=
  (Opens.struct (total := 11) Tryz.underlying93 (by kernel_rfl)
    (.cons (k := 1) rfl (by kernel_rfl) (by omega) (Opens.u8 Tryz.underlying5) (.cons (k := 1) rfl (by kernel_rfl) (by omega) (Opens.i64 Tryz.underlying3) (.cons (k := 1) rfl (by kernel_rfl) (by omega) (Opens.bool Tryz.underlying4)
      (.cons (k := 1) rfl (by kernel_rfl) (by omega) (Opens.u8 Tryz.underlying5) (.cons (k := 6) rfl (by kernel_rfl) (by omega) open_cell (.cons (k := 1) rfl (by kernel_rfl) (by omega) open_bytes .nil))))))).by
    (fun x => ⟨x.1, x.2.1, x.2.2.1, x.2.2.2.1, x.2.2.2.2.1, x.2.2.2.2.2.1⟩) fun _ h => ⟨h.2.2.2.2.2.1, rfl⟩
theorem open_acts : Opens Tryz.prog 22 (fun l : List Sp.Act => [.list false 11 (actsA l)]) (fun l => l.length ≤ maxLen ∧ ∀ a ∈ l, a.text.length ≤ maxLen) :=
  Opens.slice Tryz.underlying22 (by kernel_rfl) (by omega) open_act actA (fun _ => rfl) (fun _ => rfl)
end Go.Proofs.YtlmdbcgceijlnaaGreatDoor
/-
  SnapFinds: for every input the law returns true, and the arguments read as they did.
-/
namespace Go.Proofs.YtlmdbcgceijlnaaGreatDoor
open Go Go.AL Go.ChangeShapes Go.WideShapes Go.ChangeAt Go.RowKit Go.Lib

theorem own_snapFinds : ownKnob Tryz.prog.godebug = none := by kernel_rfl
theorem laid_snapFinds : laidOutB Tryz.prog = true := by kernel_rfl
theorem rec22_snapFinds : Tryz.prog.readableRec 22 = true := by kernel_rfl
theorem row22_snapFinds : (22 : TypeId) < Tryz.prog.types.size := of_decide_eq_true (by kernel_rfl)
theorem rec5_snapFinds : Tryz.prog.readableRec 5 = true := by kernel_rfl
theorem row5_snapFinds : (5 : TypeId) < Tryz.prog.types.size := of_decide_eq_true (by kernel_rfl)
theorem rec9_snapFinds : Tryz.prog.readableRec 9 = true := by kernel_rfl
theorem row9_snapFinds : (9 : TypeId) < Tryz.prog.types.size := of_decide_eq_true (by kernel_rfl)

set_option maxRecDepth 100000 in
theorem snapFinds_lifted (os : Os) (started : os.Started) (H : Type) (enc : TypeId × Value → H) :
    ReturnsInHanded {} Tryz.checked os 3 .any (fun w args => (Rows.snapFindsSpec.pre enc Tryz.prog Tryz.f3 [] false w args ∧ laidMetH Tryz.prog laid2 w) ∧ sizedMet enc Tryz.prog Tryz.f3 (OpenSpec.ofChange Rows.snapFindsSpec) false w args) (Rows.snapFindsSpec.post enc Tryz.prog Tryz.f3 false true false false) := by
  refine returnsInHanded_of_change_and (C := Tryz.checked) (X := fun w _ => laidMetH Tryz.prog laid2 w) (fun _ _ _ hh h => h.of_heap hh) own_snapFinds started (by kernel_rfl) Tryz.func3
    (ChangeSpec.witness_shaped (enc := enc) (C := Tryz.checked) (os := os) (X := fun w _ => laidMetH Tryz.prog laid2 w) false (World.laidAll Tryz.prog os laid2) #[.int .u8 0, .int .u8 0, .slice none 0 0, .string ⟨#[]⟩] 8 (World.laidAll_os _ _ _)
      (World.shaped_of_ZipB (by kernel_rfl) (by kernel_rfl)) (by kernel_rfl) (by kernel_rfl) (by kernel_rfl)
      (by rw [MakeChecks.laidMetH_plain _ _ _ (by kernel_rfl)]; exact laidMet_laidAll _ (by kernel_rfl) (by kernel_rfl))) ?_
  intro W base args ds gs before hval0 hW _ _ hL _
  have hval : ∀ (j : Nat) t v, Tryz.f3.params[j]? = some t → args[j]? = some v → Value.okWide Tryz.prog W .any base t v := hval0
  have hW' := hW
  obtain ⟨p, q, hA0, hV, rfl, hfz, hnd⟩ := hW
  have hA : DataW.TrodAll enc Tryz.prog W 0 (fun _ => true) true Tryz.f3.params.toList args.toList ds p := hA0
  rw [Tryz.params3] at hA hval
  obtain ⟨v0, v1, v2, v3, d0, d1, d2, d3, p0, p1, p2, p3, rfl, rfl, rfl, h0, h1, h2, h3⟩ := trodAll_four hA
  obtain ⟨rfl, rfl⟩ := trodVars_none hV
  obtain ⟨_, hv0⟩ := okWide_int Tryz.underlying5 (hval 0 5 v0 rfl rfl)
  obtain ⟨a0, m0, w0⟩ := (Opens.u8 Tryz.underlying5).arg _ (fun _ => rfl) (by rw [hv0]; rfl) h0
  obtain ⟨_, hv1⟩ := okWide_int Tryz.underlying5 (hval 1 5 v1 rfl rfl)
  obtain ⟨a1, m1, w1⟩ := (Opens.u8 Tryz.underlying5).arg _ (fun _ => rfl) (by rw [hv1]; rfl) h1
  obtain ⟨_, _, _, hv2⟩ := okWide_slice Tryz.underlying22 (hval 2 22 v2 rfl rfl)
  obtain ⟨a2, m2, w2⟩ := (open_acts).arg _ (fun _ => rfl) (by rw [hv2]; rfl) h2
  obtain ⟨_, hv3⟩ := okWide_string Tryz.underlying9 (hval 3 9 v3 rfl rfl)
  obtain ⟨a3, m3, w3⟩ := (Opens.string Tryz.underlying9).arg _ (fun _ => rfl) (by rw [hv3]; rfl) h3
  clear hA0 hval0
  simp only [List.append_nil] at hW'
  have hlt : ∀ x ∈ p0 ++ p1 ++ p2 ++ p3, x.block < W.heap.size := fun x hx => hW'.lt x hx
  refine (law_calls (snapFinds_law a0 a1 a2 a3 m2.1 m2.2 _) W #[v0, v1, v2, v3] rfl (fun i c u hc hu => ?_) (laid_none W)).mono fun e W' ⟨he, hb⟩ => ?_
  · match i with
    | 0 => simp at hc hu; subst hc hu; exact ⟨w0, rfl⟩
    | 1 => simp at hc hu; subst hc hu; exact ⟨w1, rfl⟩
    | 2 => simp at hc hu; subst hc hu; exact ⟨w2, rfl⟩
    | 3 => simp at hc hu; subst hc hu; exact ⟨w3, rfl⟩
    | n + 4 => simp at hc
  subst he
  refine ⟨_, rfl, [d0, d1, d2, d3], [], p0 ++ p1 ++ p2 ++ p3, [], p0 ++ (p1 ++ (p2 ++ p3)), [], hW', ?_, ?_, rfl, hb.frame _, fun h => (by cases h)⟩
  · exact trodAll_mk1 (shut_bool Tryz.underlying4 true)
  · refine trodAll_mk4 (Below.trod laid_snapFinds rec5_snapFinds row5_snapFinds h0 hb fun x hx => hlt x (by simp [hx])) (Below.trod laid_snapFinds rec5_snapFinds row5_snapFinds h1 hb fun x hx => hlt x (by simp [hx])) (Below.trod laid_snapFinds rec22_snapFinds row22_snapFinds h2 hb fun x hx => hlt x (by simp [hx])) (Below.trod laid_snapFinds rec9_snapFinds row9_snapFinds h3 hb fun x hx => hlt x (by simp [hx]))

theorem snapFinds_holds : Rows.SnapFindsSaid :=
  OpenClaim.holds_of_wide 3 Tryz.f3 rfl rfl rfl rfl rfl rfl rfl ⟨rfl, rfl, rfl, rfl, rfl⟩ rfl rfl rfl rfl rfl (by kernel_rfl) Tryz.func3 (by kernel_rfl)
    (of_decide_eq_true (by kernel_rfl)) (by unfold Func.isWrapper; first | (rw [if_pos (by decide +kernel)]; kernel_rfl) | (rw [if_neg (by decide +kernel)]; exact ⟨rfl, rfl⟩))
    (fun os started H enc _ => snapFinds_lifted os started H enc)
end Go.Proofs.YtlmdbcgceijlnaaGreatDoor
