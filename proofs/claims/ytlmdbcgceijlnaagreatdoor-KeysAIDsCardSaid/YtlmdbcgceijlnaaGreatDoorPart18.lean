/-
  The places of a row.
-/
import Derived.Test.YtlmdbcgceijlnaaGreatDoorPart17
set_option linter.unusedSimpArgs false
set_option linter.unusedVariables false
namespace Go.Proofs.YtlmdbcgceijlnaaGreatDoor
open Go Go.AL Go.Sp

/-- The first number under M with p, or M. -/
def toP (p : Nat → Bool) : Nat → Nat
  | 0 => 0
  | M + 1 => if toP p M < M then toP p M else if p M = true then M else M + 1
theorem toP_le (p : Nat → Bool) : ∀ M, toP p M ≤ M
  | 0 => Nat.le_refl _
  | M + 1 => by
    have := toP_le p M
    unfold toP
    split
    · omega
    · split <;> omega
theorem toP_free (p : Nat → Bool) : ∀ M i, i < toP p M → p i = false
  | 0, i, h => by simp [toP] at h
  | M + 1, i, h => by
    have hle := toP_le p M
    unfold toP at h
    split at h
    · exact toP_free p M i h
    · split at h
      · exact toP_free p M i (by omega)
      · rename_i h1 h2
        by_cases e : i = M
        · subst e; simpa using h2
        · exact toP_free p M i (by omega)
theorem toP_stop (p : Nat → Bool) : ∀ M, toP p M < M → p (toP p M) = true
  | 0, h => by omega
  | M + 1, h => by
    unfold toP at h ⊢
    split at h
    · rename_i h1
      rw [if_pos h1]
      exact toP_stop p M h1
    · rename_i h1
      rw [if_neg h1]
      split at h
      · rename_i h2; rw [if_pos h2]; exact h2
      · omega
def rowN (s : Sp) (n : Nat) : Nat := toP (fun i => attrAt s.cells (n + i)) (s.cols - n % s.cols)
def rowL (s : Sp) (n : Nat) : List Nat := (List.range (rowN s n)).map (n + ·)
theorem rowL_len (s : Sp) (n : Nat) : (rowL s n).length = rowN s n := by simp [rowL]
theorem row_end {s : Sp} {n : Nat} (hn : n < s.n) : n + (s.cols - n % s.cols) ≤ s.n := by
  have hd : Dim s.rows s.cols := dim_of s.model s.alt
  have hc := hd.c1
  have h1 := Nat.div_add_mod n s.cols
  have h2 : n / s.cols < s.rows := Nat.div_lt_of_lt_mul (by rw [Nat.mul_comm]; exact hn)
  have h3 : s.cols * (n / s.cols + 1) ≤ s.cols * s.rows := Nat.mul_le_mul_left _ h2
  have h4 := Nat.mod_lt n hc
  rw [Nat.mul_succ] at h3
  unfold Sp.n
  rw [Nat.mul_comm s.rows]
  omega
theorem rowN_le {s : Sp} {n : Nat} (hn : n < s.n) : n + rowN s n ≤ s.n := by
  have h1 := toP_le (fun i => attrAt s.cells (n + i)) (s.cols - n % s.cols)
  have h2 := row_end hn
  unfold rowN
  omega
theorem rows_calls2 (q : Nat) (a : Int) (σ : Store) : ACalls Tryz.prog 174 [ptrA q, .lit (.int .i64 a)] σ fun v σ' => ∃ (b c : Nat), σ b = none ∧ σ c = none ∧ b ≠ c ∧ v = .func (.func 194) [] [ptrA b, ptrA c] ∧ σ' = (σ.upd b [ptrA q]).upd c [.lit (.int .i64 a)] := by
  refine ACalls.of_awp follows (st := st174) (plans := pl174) (n := 6) Tryz.func174 rfl (by kernel_rfl) (by kernel_rfl) (by kernel_rfl) ?_
  simp +contextual [ite_free]
  exact fun b hb c h1 h2 hc => ⟨_, AV.le_refl _, _, Store.sub_refl _, b, hb, c, hc, h2, rfl, rfl⟩
set_option maxRecDepth 8000 in
theorem row_iter (b c q p : Nat) (s : Sp) (n : Nat) (hn : n < s.n) (σ : Store) : IterG Tryz.prog 194 [ptrA b, ptrA c] σ (rowN s n) (NeedP b c q p s n) fun k _ => [.lit (.int .i64 ((n + k : Nat) : Int))] := by
  refine ⟨fun k τ τ' h hs => ⟨needP_mono h hs, rfl⟩, fun X l I J hneed hy τ E h0 hs => ?_⟩
  have hN0 := hneed 0 τ E (Nat.zero_le _) h0
  obtain ⟨hb, hc, hP⟩ := needP_mono hN0 hs
  have hg := hP.good
  have hln := hg.len
  have hnl := s.n_le
  have hnp := s.n_pos
  have hd : Dim s.rows s.cols := dim_of s.model s.alt
  have tn : ∀ o : Nat, σ o = none → τ o = none := fun o ho => by
    rcases hs o with h | h
    · exact h
    · rw [h, ho]
  have hsz := size_calls hP
  have hw1 := swrap_calls s (n : Int)
  rw [wrap_of_lt hn] at hw1
  have hco := col_of_calls hd (n : Int)
  rw [wrap_of_lt (show n < s.rows * s.cols from hn)] at hco
  unfold dimA at hco
  have hml := Nat.mod_lt n hd.c1
  have hre := row_end hn
  have hNe := rowN_le hn
  have hle : rowN s n ≤ s.cols - n % s.cols := toP_le _ _
  have hfree : ∀ i, i < rowN s n → attrAt s.cells (n + i) = false := fun i hi => toP_free _ _ i hi
  have hstop : rowN s n < s.cols - n % s.cols → attrAt s.cells (n + rowN s n) = true := fun h => toP_stop (fun i => attrAt s.cells (n + i)) _ h
  have hi1 : IntKind.i64.wrap ((s.cols : Int) - ((n % s.cols : Nat) : Int)) = ((s.cols - n % s.cols : Nat) : Int) := by rw [← Int.natCast_sub (by omega)]; exact small_i64 (by have := hd.c2; omega)
  have hcl := hd.c2
  generalize n % s.cols = w at *
  generalize hM : s.cols - w = M at *
  generalize rowN s n = N at *
  refine ACallsY.of_awp follows (st := st194) (plans := pl194) (n := 36) Tryz.func194 rfl (by kernel_rfl) (by kernel_rfl) (by kernel_rfl) ?_
  simp [hb]
  refine callK.of hsz ?_
  rintro v σ' ⟨rfl, rfl⟩
  simp
  intro z hz
  have hcz : ¬ c = z := by rintro rfl; rw [hc] at hz; cases hz
  have hbz : ¬ b = z := by rintro rfl; rw [hb] at hz; cases hz
  simp [hc, hcz]
  refine callK.of (hw1 _) ?_
  rintro v σ' ⟨rfl, rfl⟩
  simp
  repeat' first
    | with_reducible apply And.intro
    | (refine callK.of (hco _) ?_; rintro v σ1 ⟨rfl, rfl⟩; simp [hi1])
  all_goals
    refine codeYK.loop follows (st := st194) (plans := pl194) (S := Nat × Store) (fun x => x.1 ≤ N ∧ x.2 z = none)
      (fun x => [(0, .func (.yield l) [] []), (1, ptrA b), (2, ptrA c), (4, ptrA z), (5, .lit (.int .i64 n)), (17, .lit (.int .i64 M)), (18, .lit (.int .i64 x.1))]) (fun x => x.2.upd z [.lit (.int .i64 s.rows), .lit (.int .i64 s.cols)]) (fun x E => I x.1 x.2 E) (fun x => N - x.1) (0, τ) (by kernel_rfl) ⟨Nat.zero_le _, tn _ hz⟩ (by simp) ?_ h0 ?_
    · refine Store.sub2 (fun o => ?_) (fun i => by simpa using hs (mkey i))
      dsimp only
      simp only [supd_apply]
      by_cases h1 : o = z
      · subst h1; right; simp
      · simp only [if_neg h1]; exact hs o
    rintro ⟨k, τ1⟩ E1 ⟨hk, hz1⟩ hI
    dsimp only at hk hz1 hI ⊢
    have hNk := hneed k τ1 E1 hk hI
    have hsub : Store.sub τ1 (τ1.upd z [.lit (.int .i64 s.rows), .lit (.int .i64 s.cols)]) := Store.sub_upd hz1 (Store.sub_refl _)
    have hPk := prg_mono hNk.2.2 hsub
    have hbk := sub_at hNk.1 hsub
    have hatk := at_calls hPk ((n + k : Nat) : Int)
    have hbk' : τ1 b = some [ptrA q] := hNk.1
    have hik : IntKind.i64.wrap ((n : Int) + (k : Int)) = ((n + k : Nat) : Int) := by rw [← Int.natCast_add]; exact small_i64 (by omega)
    have hw : IntKind.i64.wrap ((k : Int) + 1) = ((k + 1 : Nat) : Int) := wrap_i64 (by omega) (by omega)
    by_cases hlt : k < N
    · have hkM : k < M := by omega
      have hae := at_of hg (show n + k < s.n by omega)
      have hf := hfree k hlt
      have hcf : (s.at ((n + k : Nat) : Int)).attr = false := by rw [hae]; exact hf
      have hyk := hy k hlt τ1 E1 hI
      simp only [cellA_eq, hcf] at hatk
      generalize hnk : n + k = m at *
      simp [hbk', hbz, hkM, hik]
      refine callK.of hatk ?_
      rintro v σ' ⟨rfl, rfl⟩
      simp [hik]
      refine yieldK.of (args' := [.lit (.int .i64 (m : Nat))]) (by simp) hyk hsub ?_
      intro b3 τ' E' hR hap
      have hz2 : τ' z = none := hap z hz1 (by simp)
      have hov : Store.over τ' τ1 (τ1.upd z [.lit (.int .i64 s.rows), .lit (.int .i64 s.cols)]) z = some [.lit (.int .i64 s.rows), .lit (.int .i64 s.cols)] := by
        rw [Store.over_apart hap hz1 (by simp)]; simp
      cases b3
      · simp
        exact ⟨⟨_, AV.le_refl _⟩, _, Store.sub_refl _, τ', Store.sub_over _ _ _, .inr (by simpa using hR)⟩
      · simp [hw]
        refine ⟨k + 1, τ', ⟨by omega, hz2⟩, by omega, by simp, Store.sub2 (fun o => ?_) (fun i => by simpa using Store.sub_over _ _ _ (mkey i)), by simpa using hR⟩
        by_cases h1 : o = z
        · subst h1; right; rw [hov]; simp
        · simp only [supd_apply, if_neg h1]; exact Store.sub_over _ _ _ o
    · obtain rfl : k = N := by omega
      by_cases hkM : k < M
      · have hae := at_of hg (show n + k < s.n by omega)
        have hf := hstop hkM
        have hcf : (s.at ((n + k : Nat) : Int)).attr = true := by rw [hae]; exact hf
        simp only [cellA_eq, hcf] at hatk
        generalize hnk : n + k = m at *
        simp [hbk', hbz, hkM, hik]
        refine callK.of hatk ?_
        rintro v σ' ⟨rfl, rfl⟩
        simp
        exact ⟨⟨_, AV.le_refl _⟩, _, Store.sub_refl _, τ1, hsub, .inl hI⟩
      · simp [hkM]
        exact ⟨⟨_, AV.le_refl _⟩, _, Store.sub_refl _, τ1, hsub, .inl hI⟩
set_option maxRecDepth 8000 in
theorem crow_calls {q r : Nat} {s : Sp} {σ : Store} {b c n : Nat} (hn : n < s.n) (hb : σ b = some [ptrA q]) (hc : σ c = some [.lit (.int .i64 n)]) (h : Prg σ q r s) : ACalls Tryz.prog 173 [.func (.func 194) [] [ptrA b, ptrA c]] σ fun v σ' => v = .list false 1 (natsA (rowL s n)) ∧ σ' = σ := by
  have hl := rowL_len s n
  have hN := rowN_le hn
  have hnl := s.n_le
  refine collectG (L := rowL s n) (Need := NeedP b c q r s n) (by omega) σ rfl (fun τ => ?_) (fun k τ hs => needP_mono (k := k) ⟨hb, hc, h⟩ hs) (by kernel_rfl)
  rw [hl]
  refine IterG.congr (row_iter b c q r s n hn τ) _ fun k τ hk => ?_
  simp [rowL, hk]
end Go.Proofs.YtlmdbcgceijlnaaGreatDoor
/-
  A character goes out of its row; room for one more.
-/
namespace Go.Proofs.YtlmdbcgceijlnaaGreatDoor
open Go Go.AL Go.Sp

def delTo (s : Sp) (L : List Nat) : Nat → Sp
  | 0 => s
  | k + 1 => (delTo s L k).put (L[k]?.getD 0 : Nat) (if k + 1 < L.length then ((delTo s L k).at (L[k + 1]?.getD 0 : Nat)).char else 0)
theorem delTo_same {s : Sp} (h : s.good) (L : List Nat) : ∀ k, SameN s (delTo s L k)
  | 0 => .refl h
  | k + 1 => (delTo_same h L k).put _ _
def delS (s : Sp) (n : Nat) : Sp := if openS s n = true then modS (delTo s (rowL s n) (rowL s n).length) n else s
set_option maxRecDepth 8000 in
theorem delete_calls {q r : Nat} {s : Sp} {σ : Store} (h : Prg σ q r s) {n : Nat} (hn : n < s.n) : ACalls Tryz.prog 143 [ptrA q, .lit (.int .i64 n)] σ fun v σ' => v = .lit (.bool (openS s n)) ∧ σ' = putS spO σ q r (delS s n) := by
  have hop := open_calls h hn
  unfold delS
  cases ho : openS s n
  · rw [if_neg (by simp), h.put_self]
    rw [ho] at hop
    refine ACalls.of_awp follows (st := st143) (plans := pl143) (n := 45) Tryz.func143 rfl (by kernel_rfl) (by kernel_rfl) (by kernel_rfl) ?_
    simp
    refine callK.of hop ?_
    rintro v σ' ⟨rfl, rfl⟩
    simp
  · rw [if_pos rfl]
    rw [ho] at hop
    have hcr := fun τ (b c : Nat) (h1 : τ b = some [ptrA q]) (h2 : τ c = some [.lit (.int .i64 n)]) (h3 : Prg τ q r s) => crow_calls hn h1 h2 h3
    have hlen : (rowL s n).length ≤ 1000000 := by
      have hnl := s.n_le
      have := rowN_le hn
      rw [rowL_len]; omega
    generalize rowL s n = L at *
    have hsame := delTo_same h.good L
    have hz : delTo s L 0 = s := rfl
    have hsucc : ∀ k (hk : k < L.length), delTo s L (k + 1) = (delTo s L k).put (L[k] : Nat) (if k + 1 < L.length then ((delTo s L k).at (L[k + 1]?.getD 0 : Nat)).char else 0) := fun k hk => by
      have : L[k]?.getD 0 = L[k] := by rw [List.getElem?_eq_getElem hk]; rfl
      rw [← this]; rfl
    have hmo := fun τ (hτ : Prg τ q r (delTo s L L.length)) => modify_calls hτ (n := n) (by rw [(hsame L.length).n]; exact hn)
    have hne := h.ne
    refine ACalls.of_awp follows (st := st143) (plans := pl143) (n := 45) Tryz.func143 rfl (by kernel_rfl) (by kernel_rfl) (by kernel_rfl) ?_
    simp
    refine callK.of hop ?_
    rintro v σ' ⟨rfl, rfl⟩
    simp
    refine callK.of (rows_calls2 q (n : Int) _) ?_
    rintro v σ2 ⟨b, c, h1, h2, e1, rfl, rfl⟩
    simp
    have e2 := h.fresh h1
    have e3 := h.fresh h2
    refine callK.of (hcr _ b c ?_ ?_ ?_) ?_
    · simp [e1]
    · simp
    · exact (h.new h1 _).upd ⟨e3.1, e3.2.1⟩ _
    rintro v σ2 ⟨rfl, rfl⟩
    simp
    refine codeK.loop follows (st := st143) (plans := pl143) (X := Nat) (fun k => k ≤ L.length)
      (fun k => [(0, ptrA q), (1, .lit (.int .i64 n)), (5, .list false 1 (natsA L)), (17, .list false 1 (natsA L)), (18, .lit (.int .i64 L.length)), (19, .lit (.int .i64 k))]) (fun k => putS spO σ' q r (delTo s L k)) (fun k => L.length - k) 0 (by kernel_rfl) (by simp) (by simp) (by rw [hz, h.put_self]; (intro q; simp only [Store.upd, Store.del]; (repeat' split) <;> first | exact Or.inr rfl | exact Or.inl rfl | (exfalso; omega) | (left; subst_vars; assumption) | simp_all)) fun k hk => ?_
    have hP : Prg (putS spO σ' q r (delTo s L k)) q r (delTo s L k) := Scr.of_put hne (hsame k).1
    by_cases hlt : k < L.length
    · have hw : IntKind.i64.wrap ((k : Int) + 1) = ((k + 1 : Nat) : Int) := wrap_i64 (by omega) (by omega)
      have hpu := fun i (b : UInt8) => pput_calls hP i b
      simp only [putS_put hne, byteA] at hpu
      have hatc := fun i => at_calls hP i
      simp only [cellA_eq, byteA] at hatc
      have hs1 := hsucc k hlt
      by_cases hk1 : k + 1 < L.length
      · have hk1' : (k : Int) + 1 < (L.length : Int) := by omega
        have h0k : 0 ≤ (k : Int) + 1 := by omega
        have hg1 : L[k + 1]?.getD 0 = L[k + 1] := by rw [List.getElem?_eq_getElem hk1]; rfl
        rw [if_pos hk1, hg1] at hs1
        simp [hlt, hw, hk1', hk1, h0k]
        refine callK.of (hatc _) ?_
        rintro v σ3 ⟨rfl, rfl⟩
        simp
        refine callK.of (hpu _ _) ?_
        rintro v σ3 ⟨rfl, rfl⟩
        simp [hw]
        exact ⟨k + 1, by omega, by omega, by simp, by rw [hs1]; exact Store.sub_refl _⟩
      · have hk1' : ¬ (k : Int) + 1 < (L.length : Int) := by omega
        rw [if_neg hk1] at hs1
        simp [hlt, hw, hk1']
        refine callK.of (hpu _ 0) ?_
        rintro v σ3 ⟨rfl, rfl⟩
        simp [hw]
        exact ⟨k + 1, by omega, by omega, by simp, by rw [hs1]; exact Store.sub_refl _⟩
    · obtain rfl : k = L.length := by omega
      simp
      refine callK.of (hmo _ hP) ?_
      rintro v σ3 ⟨rfl, rfl⟩
      rw [putS_put hne]
      simp
end Go.Proofs.YtlmdbcgceijlnaaGreatDoor
/-
  Room for one more character.
-/
namespace Go.Proofs.YtlmdbcgceijlnaaGreatDoor
open Go Go.AL Go.Sp

def nulAt (s : Sp) (n : Nat) : Bool := (s.at (n : Int)).char == 0
set_option maxRecDepth 8000 in
theorem ins0_calls {q r : Nat} {s : Sp} {σ : Store} {b : Nat} (h : Prg σ q r s) (hb : σ b = some [ptrA q]) (n : Nat) : ACalls Tryz.prog 191 [.lit (.int .i64 n), ptrA b] σ fun v σ' => v = .lit (.bool (nulAt s n)) ∧ σ' = σ := by
  have hat := at_calls h (n : Int)
  unfold nulAt
  generalize s.at (n : Int) = c at *
  have hd : ((c.char.toNat : Int) == 0) = (c.char == 0) := by
    by_cases e : c.char = 0
    · rw [e]; rfl
    · have h1 : ¬ (c.char.toNat : Int) = 0 := fun h => e (UInt8.toNat_inj.1 (by simpa using h))
      rw [beq_eq_false_iff_ne.2 h1, beq_eq_false_iff_ne.2 e]
  rw [← hd]
  simp only [cellA_eq, byteA] at hat
  refine ACalls.of_awp follows (st := st191) (plans := pl191) (n := 9) Tryz.func191 rfl (by kernel_rfl) (by kernel_rfl) (by kernel_rfl) ?_
  simp [hb]
  refine callK.of hat ?_
  rintro v σ' ⟨rfl, rfl⟩
  simp
def nulN (s : Sp) (L : List Nat) : Nat := toP (fun i => nulAt s (L[i]?.getD 0)) L.length
set_option maxRecDepth 8000 in
theorem indexf_calls {q r : Nat} {s : Sp} {σ : Store} {b : Nat} (h : Prg σ q r s) (hb : σ b = some [ptrA q]) (L : List Nat) (hN : L.length ≤ 1000000) : ACalls Tryz.prog 190 [.list false 1 (natsA L), .func (.func 191) [] [ptrA b]] σ fun v σ' => v = .lit (.int .i64 (if nulN s L < L.length then (nulN s L : Int) else -1)) ∧ σ' = σ := by
  have h0 := fun n => ins0_calls h hb n
  have hfree : ∀ i, i < nulN s L → nulAt s (L[i]?.getD 0) = false := fun i hi => toP_free _ _ i hi
  have hstop : nulN s L < L.length → nulAt s (L[nulN s L]?.getD 0) = true := fun h => toP_stop (fun i => nulAt s (L[i]?.getD 0)) _ h
  have hle : nulN s L ≤ L.length := toP_le _ _
  generalize nulN s L = e at *
  refine ACalls.of_awp follows (st := st190) (plans := pl190) (n := 19) Tryz.func190 rfl (by kernel_rfl) (by kernel_rfl) (by kernel_rfl) ?_
  simp
  refine codeK.loop follows (st := st190) (plans := pl190) (X := Nat) (fun i => i ≤ e)
    (fun i => [(0, .list false 1 (natsA L)), (1, .func (.func 191) [] [ptrA b]), (6, .list false 1 (natsA L)), (7, .lit (.int .i64 L.length)), (8, .lit (.int .i64 i))]) (fun _ => σ) (fun i => L.length - i) 0 (by kernel_rfl) (by simp) (by simp [ptrA]) (Store.sub_refl _) fun i hi => ?_
  by_cases hlt : i < L.length
  · have hw : IntKind.i64.wrap ((i : Int) + 1) = ((i + 1 : Nat) : Int) := wrap_i64 (by omega) (by omega)
    have hg : L[i]?.getD 0 = L[i] := by rw [List.getElem?_eq_getElem hlt]; rfl
    simp [hlt]
    refine callK.of (h0 _) ?_
    rintro v σ' ⟨rfl, rfl⟩
    by_cases he : i = e
    · subst he
      have := hstop hlt
      rw [hg] at this
      simp [this, hlt]
    · have := hfree i (by omega)
      rw [hg] at this
      simp [this, hw]
      exact ⟨i + 1, by omega, by omega, by simp⟩
  · have he : ¬ e < L.length := by omega
    simp [hlt, he]
def insTo (s : Sp) (L : List Nat) (e : Nat) : Nat → Sp
  | 0 => s
  | k + 1 => (insTo s L e k).put (L[e - k]?.getD 0 : Nat) ((insTo s L e k).at (L[e - k - 1]?.getD 0 : Nat)).char
theorem insTo_same {s : Sp} (h : s.good) (L : List Nat) (e : Nat) : ∀ k, SameN s (insTo s L e k)
  | 0 => .refl h
  | k + 1 => (insTo_same h L e k).put _ _
def insS (s : Sp) (n : Nat) (c : UInt8) : Sp × Bool :=
  if openS s n = true ∧ nulN s (roundL s n) < (roundL s n).length then
    (modS ((insTo s (roundL s n) (nulN s (roundL s n)) (nulN s (roundL s n))).put ((roundL s n)[0]?.getD 0 : Nat) c) n, true)
  else (s, false)
set_option maxHeartbeats 1000000 in
set_option maxRecDepth 8000 in
theorem insert_calls {q r : Nat} {s : Sp} {σ : Store} (h : Prg σ q r s) {n : Nat} (hn : n < s.n) (c : UInt8) : ACalls Tryz.prog 171 [ptrA q, .lit (.int .i64 n), byteA c] σ fun v σ' => v = .lit (.bool (insS s n c).2) ∧ σ' = putS spO σ q r (insS s n c).1 := by
  have hop := fun τ (hτ : Prg τ q r s) => open_calls hτ hn
  unfold insS
  cases ho : openS s n
  · rw [if_neg (by simp), h.put_self]
    rw [ho] at hop
    refine ACalls.of_awp follows (st := st171) (plans := pl171) (n := 50) Tryz.func171 rfl (by kernel_rfl) (by kernel_rfl) (by kernel_rfl) ?_
    simp [byteA]
    intro b hb
    refine callK.of (hop _ (h.new hb _)) ?_
    rintro v σ' ⟨rfl, rfl⟩
    simp
    exact sub_upd_self _ _ _ hb
  · rw [ho] at hop
    have hro := fun τ (hτ : Prg τ q r s) => round_calls hτ hn (open_attr ho)
    have hlen : (roundL s n).length ≤ 1000000 := by
      have hnl := s.n_le
      unfold roundL restL
      split
      · rw [spanL_len]; have := (spanLen_pos (N := s.n) (f := n) (t := n) s.n_pos).2; omega
      · rw [List.length_drop, places_length']
        have := run_le s.cells (startS s.cells n).toNat (s.cells.length - 1)
        unfold Sp.len
        rw [h.good.len] at *
        omega
    generalize roundL s n = L at *
    have hif := fun τ (b : Nat) (hτ : Prg τ q r s) (hb : τ b = some [ptrA q]) => indexf_calls hτ hb L hlen
    generalize nulN s L = e at *
    by_cases he : e < L.length
    · rw [if_pos ⟨rfl, he⟩]
      simp only [if_pos he] at hif
      have hsame := insTo_same h.good L e
      have hz : insTo s L e 0 = s := rfl
      have hsucc : ∀ k, insTo s L e (k + 1) = (insTo s L e k).put (L[e - k]?.getD 0 : Nat) ((insTo s L e k).at (L[e - k - 1]?.getD 0 : Nat)).char := fun k => rfl
      have hL0 : 0 < L.length := by omega
      have hg0 : L[0]?.getD 0 = L[0] := by rw [List.getElem?_eq_getElem hL0]; rfl
      rw [hg0]
      have hlast := (hsame e).put (L[0] : Nat) c
      generalize ht2 : (insTo s L e e).put (L[0] : Nat) c = t2 at *
      have hmo := fun τ (hτ : Prg τ q r t2) => modify_calls hτ (n := n) (by rw [hlast.n]; exact hn)
      have hne := h.ne
      refine ACalls.of_awp follows (st := st171) (plans := pl171) (n := 50) Tryz.func171 rfl (by kernel_rfl) (by kernel_rfl) (by kernel_rfl) ?_
      simp [byteA]
      intro b hb
      have hb0 := h.fresh hb
      refine callK.of (hop _ (h.new hb _)) ?_
      rintro v σ' ⟨rfl, rfl⟩
      simp
      refine callK.of (hro _ (h.new hb _)) ?_
      rintro v σ' ⟨rfl, rfl⟩
      simp
      refine callK.of (hif _ b (h.new hb _) (by simp)) ?_
      rintro v σ' ⟨rfl, rfl⟩
      have hneg : ¬ (e : Int) < 0 := by omega
      have hbv : ∀ t, putS spO (σ.upd b [ptrA q]) q r t b = some [ptrA q] := fun t => by rw [putS_at hb0.2.2.1 hb0.2.2.2]; simp
      simp [hneg]
      refine codeK.loop follows (st := st171) (plans := pl171) (X := Nat) (fun k => k ≤ e)
        (fun k => [(1, .lit (.int .i64 n)), (2, byteA c), (3, ptrA b), (7, .list false 1 (natsA L)), (9, .lit (.int .i64 ((e - k : Nat) : Int)))]) (fun k => putS spO (σ.upd b [ptrA q]) q r (insTo s L e k)) (fun k => e - k) 0 (by kernel_rfl) (by simp) (by simp [byteA]) (by rw [hz, (h.new hb _).put_self]; exact Store.sub_refl _) fun k hk => ?_
      have hP : Prg (putS spO (σ.upd b [ptrA q]) q r (insTo s L e k)) q r (insTo s L e k) := Scr.of_put hne (hsame k).1
      have hpu := fun i (b : UInt8) => pput_calls hP i b
      simp only [putS_put hne, byteA] at hpu
      have hbk := hbv (insTo s L e k)
      by_cases hlt : k < e
      · obtain ⟨j, hj⟩ : ∃ j, e - k = j + 1 := ⟨e - k - 1, by omega⟩
        have hj1 : j + 1 < L.length := by omega
        have hj0 : j < L.length := by omega
        have hs1 := hsucc k
        have hgj : L[j + 1]?.getD 0 = L[j + 1] := by rw [List.getElem?_eq_getElem hj1]; rfl
        have hgj0 : L[j]?.getD 0 = L[j] := by rw [List.getElem?_eq_getElem hj0]; rfl
        rw [hj, Nat.add_sub_cancel, hgj, hgj0] at hs1
        have hek : e - (k + 1) = j := by omega
        have hatc := fun i => at_calls hP i
        simp only [cellA_eq, byteA] at hatc
        have hwj : IntKind.i64.wrap (j : Int) = j := small_i64 (by omega)
        have h0j : 0 ≤ (j : Int) + 1 := by omega
        have hpj : 0 < (j : Int) + 1 := by omega
        rw [hj]
        simp [byteA, hpj, hbk, hwj, h0j, hj1, hj0]
        repeat' first
          | with_reducible apply And.intro
          | (refine callK.of (hatc _) ?_; rintro v σ1 ⟨rfl, rfl⟩; simp [hbk])
          | (refine callK.of (hpu _ _) ?_; rintro v σ1 ⟨rfl, rfl⟩; simp [hwj])
        all_goals exact ⟨k + 1, by omega, by omega, by simp [hek], by rw [hs1]; exact Store.sub_refl _⟩
      · obtain rfl : k = e := by omega
        have hpu0 := hpu (L[0] : Nat) c
        rw [ht2] at hpu0
        have hP2 : Prg (putS spO (σ.upd b [ptrA q]) q r t2) q r t2 := Scr.of_put hne hlast.1
        have hb2 := hbv t2
        simp [byteA, hbk, hL0]
        refine callK.of hpu0 ?_
        rintro v σ1 ⟨rfl, rfl⟩
        simp [hb2]
        refine callK.of (hmo _ hP2) ?_
        rintro v σ1 ⟨rfl, rfl⟩
        rw [putS_put hne, putS_upd _ _ hb0.2.2.1 hb0.2.2.2]
        simp
        exact sub_upd_self _ _ _ (by rw [putS_at hb0.2.2.1 hb0.2.2.2]; exact hb)
    · rw [if_neg (by simp [he]), h.put_self]
      simp only [if_neg he] at hif
      refine ACalls.of_awp follows (st := st171) (plans := pl171) (n := 50) Tryz.func171 rfl (by kernel_rfl) (by kernel_rfl) (by kernel_rfl) ?_
      simp [byteA]
      intro b hb
      refine callK.of (hop _ (h.new hb _)) ?_
      rintro v σ' ⟨rfl, rfl⟩
      simp
      refine callK.of (hro _ (h.new hb _)) ?_
      rintro v σ' ⟨rfl, rfl⟩
      simp
      refine callK.of (hif _ b (h.new hb _) (by simp)) ?_
      rintro v σ' ⟨rfl, rfl⟩
      simp
      exact sub_upd_self _ _ _ hb
end Go.Proofs.YtlmdbcgceijlnaaGreatDoor
/-
  The keyboard: its state in a store; its small functions.
-/
namespace Go.Proofs.YtlmdbcgceijlnaaGreatDoor
open Go Go.AL Go.Sp

def skipF (f : Fld) : Bool := f.prot && f.num
theorem skipF_calls (f : Fld) (σ : Store) : ACalls Tryz.prog 192 [fldA f] σ fun v σ' => v = .lit (.bool (skipF f)) ∧ σ' = σ := skip_calls f σ
def afterS (s : Sp) : Sp :=
  if ((moveS s 0 1).at ((moveS s 0 1).cursor : Nat)).attr = false then moveS s 0 1
  else if skipF (fld ((moveS s 0 1).at ((moveS s 0 1).cursor : Nat)).fa) = true then tabS (moveS s 0 1) else moveS (moveS s 0 1) 0 1
theorem moveS_good {s : Sp} (h : s.good) (a b : Int) : (moveS s a b).good := h.place _
set_option maxRecDepth 8000 in
theorem after_calls {q r : Nat} {s : Sp} {σ : Store} (h : Prg σ q r s) : ACalls Tryz.prog 172 [ptrA q] σ fun v σ' => v = .tuple [] ∧ σ' = putS spO σ q r (afterS s) := by
  have hm := cmove_calls h 0 1
  have hne := h.ne
  have hP : Prg (putS spO σ q r (moveS s 0 1)) q r (moveS s 0 1) := Scr.of_put hne (moveS_good h.good 0 1)
  unfold afterS
  generalize moveS s 0 1 = t at *
  have hcu := cursor_calls hP
  have hat := at_calls hP (t.cursor : Int)
  have htab := fun τ (hτ : Prg τ q r t) => tab_calls hτ
  have hmo := fun τ (hτ : Prg τ q r t) => cmove_calls hτ 0 1
  have hof := fun (c : UInt8) τ => of_calls c τ
  have hsk := fun (f : Fld) τ => skipF_calls f τ
  have hfa : ∀ f : Fld, fldA f = .agg [.lit (.bool f.prot), .lit (.bool f.num), .lit (.int .i64 f.disp), .lit (.bool f.mod)] := fun _ => rfl
  generalize hc : t.at (t.cursor : Int) = c at *
  simp only [cellA_eq] at hat
  have hupd : ∀ (b : Nat) X (t2 : Sp), (putS spO σ q r t) b = none → Store.sub (putS spO σ q r t2) (putS spO ((putS spO σ q r t).upd b X) q r t2) := fun b X t2 hb => by
    have hf := hP.fresh hb
    rw [putS_upd _ _ hf.2.2.1 hf.2.2.2, putS_put hne]
    exact sub_upd_self _ _ _ (by rw [putS_at hf.2.2.1 hf.2.2.2] at hb ⊢; exact hb)
  refine ACalls.of_awp follows (st := st172) (plans := pl172) (n := 22) Tryz.func172 rfl (by kernel_rfl) (by kernel_rfl) (by kernel_rfl) ?_
  simp
  refine callK.of hm ?_
  rintro v σ' ⟨rfl, rfl⟩
  simp
  refine callK.of hcu ?_
  rintro v σ' ⟨rfl, rfl⟩
  simp
  refine callK.of hat ?_
  rintro v σ' ⟨rfl, rfl⟩
  simp [byteA] at hof ⊢
  intro b hb
  cases ha : c.attr
  · simp
    exact sub_upd_self _ _ _ hb
  · simp
    refine callK.of (hof c.fa _) ?_
    rintro v σ' ⟨rfl, rfl⟩
    generalize fld c.fa = f at *
    simp only [hfa] at hsk ⊢
    simp
    refine callK.of (hsk f _) ?_
    rintro v σ' ⟨rfl, rfl⟩
    generalize skipF f = z at *
    cases z
    · simp
      refine callK.of (hmo _ (hP.new hb _)) ?_
      rintro v σ' ⟨rfl, rfl⟩
      simp
      exact hupd b _ _ hb
    · simp
      refine callK.of (htab _ (hP.new hb _)) ?_
      rintro v σ' ⟨rfl, rfl⟩
      simp
      exact hupd b _ _ hb
structure Bd where
  s : Sp
  lock : Int
  ins : Bool
  aid : UInt8
def bdO (q pb : Nat) (B : Bd) : List AV := [ptrA q, ptrA pb, .lit (.int .i64 B.lock), .lit (.bool B.ins), byteA B.aid]
/-- A board at k on a screen at q with its row at r and a page of number n at b. -/
def kS (σ : Store) (k q r b : Nat) (n : Int) (x : Option Nat) (B : Bd) : Store := pgS b n x ((putS spO σ q r B.s).upd k (bdO q b B))
structure KOk (σ : Store) (k q r b : Nat) (n : Int) (B : Bd) : Prop where
  kq : ¬ k = q
  kr : ¬ k = r
  kb : ¬ k = b
  qr : ¬ q = r
  qb : ¬ q = b
  rb : ¬ r = b
  none : σ r = none
  page : isPage n
  good : B.s.good
variable {σ : Store} {k q r b : Nat} {n : Int} {B : Bd}
theorem kS_k (h : KOk σ k q r b n B) (x : Option Nat) : (kS σ k q r b n x B) k = some (bdO q b B) := by
  unfold kS; rw [pgS_other h.kb]; simp
theorem kS_k' (h : KOk σ k q r b n B) (x : Option Nat) : (kS σ k q r b n x B) k = some [ptrA q, ptrA b, .lit (.int .i64 B.lock), .lit (.bool B.ins), byteA B.aid] := kS_k h x
theorem kS_q (h : KOk σ k q r b n B) (x : Option Nat) : (kS σ k q r b n x B) q = some (spO B.s r) := by
  unfold kS; rw [pgS_other h.qb]; simp [putS, Ne.symm h.kq, h.qr]
theorem kS_r (h : KOk σ k q r b n B) (x : Option Nat) : (kS σ k q r b n x B) r = some (cellsO B.s.cells) := by
  unfold kS; rw [pgS_other h.rb]; simp [putS]
  intro e; exact absurd e.symm h.kr
theorem kS_prg (h : KOk σ k q r b n B) (x : Option Nat) : Prg (kS σ k q r b n x B) q r B.s := ⟨kS_q h x, kS_r h x, h.qr, h.good⟩
theorem kS_put (h : KOk σ k q r b n B) (x : Option Nat) (s : Sp) : putS spO (kS σ k q r b n x B) q r s = kS σ k q r b n x { B with s := s } := by
  unfold kS putS bdO
  rw [pgS_upd h.qb, pgS_upd h.rb]
  congr 1
  refine Store.ext2 (fun o => ?_) (fun i => by simp)
  simp only [supd_apply]
  by_cases h1 : o = r
  · subst h1; simp [Ne.symm h.kr]
  · by_cases h2 : o = q
    · subst h2; simp [h1, Ne.symm h.kq]
    · simp [h1, h2]
theorem kS_bd (h : KOk σ k q r b n B) (x : Option Nat) (lock : Int) (ins : Bool) (aid : UInt8) : (kS σ k q r b n x B).upd k [ptrA q, ptrA b, .lit (.int .i64 lock), .lit (.bool ins), byteA aid] = kS σ k q r b n x { B with lock := lock, ins := ins, aid := aid } := by
  unfold kS bdO
  rw [pgS_upd h.kb]
  congr 1
  refine Store.ext2 (fun o => ?_) (fun i => by simp)
  simp only [supd_apply]
  by_cases h1 : o = k <;> simp [h1]
theorem KOk.s (h : KOk σ k q r b n B) {B2 : Bd} (hs : B2.s.good) : KOk σ k q r b n B2 := { h with good := hs }
end Go.Proofs.YtlmdbcgceijlnaaGreatDoor
/-
  The keyboard's small functions.
-/
namespace Go.Proofs.YtlmdbcgceijlnaaGreatDoor
open Go Go.AL Go.Sp
variable {σ : Store} {k q r b : Nat} {n : Int} {B : Bd}

def refE (lock : Int) : Int := if lock = 3 then 14 else if lock = 4 then 7 else 13
set_option maxRecDepth 4000 in
theorem refuse_calls (h : KOk σ k q r b n B) (x : Option Nat) (lock : Int) (hl : lock = 2 ∨ lock = 3 ∨ lock = 4) : ACalls Tryz.prog 130 [ptrA k, .lit (.int .i64 lock)] (kS σ k q r b n x B) fun v σ' => v = .lit (.int .i64 (refE lock)) ∧ σ' = kS σ k q r b n x { B with lock := lock } := by
  have hk := kS_k' h x
  have hb := fun l => kS_bd h x l B.ins B.aid
  simp only [byteA] at hb hk
  generalize kS σ k q r b n x B = ρ at *
  refine ACalls.of_awp follows (st := st130) (plans := pl130) (n := 14) Tryz.func130 rfl (by kernel_rfl) (by kernel_rfl) (by kernel_rfl) ?_
  rcases hl with rfl | rfl | rfl <;> simp [hk, hb, refE]
set_option maxRecDepth 4000 in
theorem done_calls (h : KOk σ k q r b n B) (x : Option Nat) (ok : Bool) : ACalls Tryz.prog 142 [ptrA k, .lit (.bool ok)] (kS σ k q r b n x B) fun v σ' => v = .lit (.int .i64 (if ok = true then 0 else 13)) ∧ σ' = kS σ k q r b n x (if ok = true then B else { B with lock := 2 }) := by
  have hr := refuse_calls h x 2 (.inl rfl)
  refine ACalls.of_awp follows (st := st142) (plans := pl142) (n := 9) Tryz.func142 rfl (by kernel_rfl) (by kernel_rfl) (by kernel_rfl) ?_
  cases ok
  · simp
    refine callK.of hr ?_
    rintro v σ' ⟨rfl, rfl⟩
    simp [refE]
  · simp
set_option maxRecDepth 4000 in
theorem send_calls (h : KOk σ k q r b n B) (x : Option Nat) (aid : UInt8) : ACalls Tryz.prog 89 [ptrA k, byteA aid] (kS σ k q r b n x B) fun v σ' => v = .tuple [] ∧ σ' = kS σ k q r b n x { B with lock := 1, ins := false, aid := aid } := by
  have hk := kS_k' h x
  have hb := fun l => kS_bd h x l false aid
  simp only [byteA] at hb hk
  generalize kS σ k q r b n x B = ρ at *
  refine ACalls.of_awp follows (st := st89) (plans := pl89) (n := 14) Tryz.func89 rfl (by kernel_rfl) (by kernel_rfl) (by kernel_rfl) ?_
  simp [byteA, hk, hb]
def resetB (B : Bd) : Bd := { B with lock := if B.lock = 1 then 1 else 0, ins := false }
set_option maxRecDepth 4000 in
theorem reset_calls (h : KOk σ k q r b n B) (x : Option Nat) : ACalls Tryz.prog 87 [ptrA k] (kS σ k q r b n x B) fun v σ' => v = .tuple [] ∧ σ' = kS σ k q r b n x (resetB B) := by
  have hk := kS_k' h x
  have hb := fun l => kS_bd h x l false B.aid
  unfold resetB
  simp only [byteA] at hb hk
  refine ACalls.of_awp follows (st := st87) (plans := pl87) (n := 13) Tryz.func87 rfl (by kernel_rfl) (by kernel_rfl) (by kernel_rfl) ?_
  by_cases hl : B.lock = 1
  · rw [hl] at hk
    rw [if_pos hl]
    generalize kS σ k q r b n x B = ρ at *
    simp [hk, hb]
  · have hl2 : ¬ (1 : Int) = B.lock := fun e => hl e.symm
    rw [if_neg hl]
    generalize kS σ k q r b n x B = ρ at *
    simp [hk, hb, hl]
theorem lock_calls (h : KOk σ k q r b n B) (x : Option Nat) : ACalls Tryz.prog 42 [ptrA k] (kS σ k q r b n x B) fun v σ' => v = .lit (.int .i64 B.lock) ∧ σ' = kS σ k q r b n x B := by
  have hk := kS_k' h x
  simp only [byteA] at hk
  refine ACalls.of_awp follows (st := st42) (plans := pl42) (n := 9) Tryz.func42 rfl (by kernel_rfl) (by kernel_rfl) (by kernel_rfl) ?_
  generalize kS σ k q r b n x B = ρ at *
  simp [hk]
theorem baid_calls (h : KOk σ k q r b n B) (x : Option Nat) : ACalls Tryz.prog 44 [ptrA k] (kS σ k q r b n x B) fun v σ' => v = byteA B.aid ∧ σ' = kS σ k q r b n x B := by
  have hk := kS_k' h x
  refine ACalls.of_awp follows (st := st44) (plans := pl44) (n := 9) Tryz.func44 rfl (by kernel_rfl) (by kernel_rfl) (by kernel_rfl) ?_
  generalize kS σ k q r b n x B = ρ at *
  simp [hk]
theorem NxP.base {σ : Store} {q r k : Nat} {s : Sp} {X : List AV} {x y : Option Nat} (h : NxP ((putS spO σ q r s).upd k X) x y) : NxP σ x y := by
  rcases h with h | ⟨g, h1, h2⟩
  · exact .inl h
  · exact .inr ⟨g, h1, by simpa [putS] using h2⟩
theorem NxP.of {σ σ1 : Store} {x y : Option Nat} (h : NxP σ1 x y) (hm : ∀ g : Nat, σ1 (mkey g) = σ (mkey g)) : NxP σ x y := by
  rcases h with h | ⟨g, h1, h2⟩
  · exact .inl h
  · exact .inr ⟨g, h1, by rw [← hm]; exact h2⟩
/-- A place that is free in a store with a board is free of all. -/
structure Free (σ : Store) (k q r b z : Nat) : Prop where
  k : ¬ z = k
  q : ¬ z = q
  r : ¬ z = r
  b : ¬ z = b
  free : σ z = none
theorem kS_free {z : Nat} (h : KOk σ k q r b n B) {x : Option Nat} (hz : (kS σ k q r b n x B) z = none) : Free σ k q r b z := by
  have h1 : ¬ z = k := by rintro rfl; rw [kS_k h x] at hz; cases hz
  have h2 : ¬ z = q := by rintro rfl; rw [kS_q h x] at hz; cases hz
  have h3 : ¬ z = r := by rintro rfl; rw [kS_r h x] at hz; cases hz
  have h4 : ¬ z = b := by rintro rfl; unfold kS at hz; rw [pgS_cell] at hz; cases hz
  refine ⟨h1, h2, h3, h4, ?_⟩
  unfold kS at hz
  rw [pgS_other h4] at hz
  simpa [putS, h1, h2, h3] using hz
theorem Free.at {z : Nat} (f : Free σ k q r b z) (x : Option Nat) (B : Bd) : (kS σ k q r b n x B) z = none := by
  unfold kS
  rw [pgS_other f.b]
  simp [putS, f.k, f.q, f.r, f.free]
theorem kS_new {z : Nat} (f : Free σ k q r b z) (x : Option Nat) (B : Bd) (X : List AV) : (kS σ k q r b n x B).upd z X = kS (σ.upd z X) k q r b n x B := by
  unfold kS putS
  rw [pgS_upd f.b]
  congr 1
  refine Store.ext2 (fun o => ?_) (fun i => by simp)
  simp only [supd_apply]
  by_cases h1 : o = z
  · subst h1; simp [f.k, f.q, f.r]
  · simp [h1]
theorem Free.ok {z : Nat} (f : Free σ k q r b z) (h : KOk σ k q r b n B) (X : List AV) : KOk (σ.upd z X) k q r b n B := { h with none := by have := f.r; simp [Ne.symm this, h.none] }
theorem Free.drop {z : Nat} (f : Free σ k q r b z) (x : Option Nat) (B : Bd) (X : List AV) : Store.sub (kS σ k q r b n x B) (kS (σ.upd z X) k q r b n x B) := by
  rw [← kS_new f]
  exact Store.sub_upd (f.at x B) (Store.sub_refl _)
end Go.Proofs.YtlmdbcgceijlnaaGreatDoor
