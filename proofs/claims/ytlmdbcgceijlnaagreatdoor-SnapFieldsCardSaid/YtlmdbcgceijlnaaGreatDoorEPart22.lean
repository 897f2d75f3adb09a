/-
  All lines as one text: the program's.
-/
import Derived.Test.YtlmdbcgceijlnaaGreatDoorEPart21
set_option linter.unusedSimpArgs false
set_option linter.unusedVariables false
namespace Go.Proofs.YtlmdbcgceijlnaaGreatDoor
open Go Go.AL Go.Sp
variable {σ Y Z τ : Store} {q p b x y z : Nat} {s : Sp} {n : Int} {pv : AV} {l : List UInt8} {X : Bst}

theorem lineB_len (l : List Nat) : (lineB l).length ≤ 4 * l.length := by
  have h0 := trimN_le (runesBytes (l.map fun n : Nat => (n : Int))).data.toList (runesBytes (l.map fun n : Nat => (n : Int))).data.toList.length
  have h1 := foldl_size_le (l.map fun n : Nat => (n : Int)) ByteArray.empty
  have h2 : (runesBytes (l.map fun n : Nat => (n : Int))).size ≤ 0 + 4 * (l.map fun n : Nat => (n : Int)).length := h1
  rw [List.length_map] at h2
  have h3 : (runesBytes (l.map fun n : Nat => (n : Int))).data.toList.length = (runesBytes (l.map fun n : Nat => (n : Int))).size := by
    generalize runesBytes (l.map fun n : Nat => (n : Int)) = S
    exact Array.length_toList
  unfold lineB trimB
  rw [List.length_take]
  omega
def textTo (n : Int) (s : Sp) (k : Nat) : List UInt8 := ((List.range k).map fun i => lineAt n s i ++ [10]).flatten
@[simp] def st19r : List Nat := [2000005]
theorem toB_data (l : List UInt8) : (toB l).data.toList = l := by simp [toB]
theorem toB_app (l m : List UInt8) : toB l ++ toB m = toB (l ++ m) := by
  apply ByteArray.ext
  simp [toB]
end Go.Proofs.YtlmdbcgceijlnaaGreatDoor
/-
  A field told as a line; decimal numbers; two digits: what is told.
-/
namespace Go.Proofs.YtlmdbcgceijlnaaGreatDoor
open Go Go.AL Go.Sp
variable {σ Y Z τ : Store} {q p b x y : Nat} {s : Sp} {n : Int} {pv : AV}

theorem itoa_nat (n : Nat) : Lib.itoa (n : Int) = Lib.decDigits n := by
  unfold Lib.itoa
  rw [if_neg (by omega)]
  simp
theorem dec_small {n : Nat} (h : n < 10) : Lib.decDigits n = decL n := by
  rw [Lib.decDigits, dif_pos h]
  unfold decL
  rw [if_pos h]
theorem dec_big {n : Nat} (h : ¬ n < 10) : Lib.decDigits n = Lib.decDigits (n / 10) ++ Lib.decDigits (n % 10) := by
  rw [Lib.decDigits, dif_neg h]
  congr 1
  rw [Lib.decDigits, dif_pos (Nat.mod_lt _ (by omega))]
theorem dec_len {n : Nat} (h : n < 10000) : (Lib.decDigits n).length ≤ 4 := by
  have h1 : ∀ n, n < 10 → (Lib.decDigits n).length = 1 := fun n h => by rw [Lib.decDigits, dif_pos h]; rfl
  have step : ∀ (k n : Nat), (n / 10 < 10 ^ k → (Lib.decDigits (n / 10)).length ≤ k) → n < 10 ^ (k + 1) → 1 ≤ k → (Lib.decDigits n).length ≤ k + 1 := fun k n ih hn hk => by
    by_cases h : n < 10
    · rw [h1 n h]; omega
    · rw [dec_big h, List.length_append, h1 _ (Nat.mod_lt _ (by omega))]
      have := ih (by rw [Nat.pow_succ] at hn; omega)
      omega
  have p1 : ∀ n, n < 10 ^ 1 → (Lib.decDigits n).length ≤ 1 := fun n h => by rw [h1 n (by simpa using h)]; omega
  have p2 : ∀ n, n < 10 ^ 2 → (Lib.decDigits n).length ≤ 2 := fun n h => step 1 n (fun h => p1 _ h) h (by omega)
  have p3 : ∀ n, n < 10 ^ 3 → (Lib.decDigits n).length ≤ 3 := fun n h => step 2 n (fun h => p2 _ h) h (by omega)
  exact step 3 n (fun h => p3 _ h) (by simpa using h) (by omega)
set_option maxRecDepth 8000 in
theorem rdecA_calls : ∀ (f n : Nat), n < 10 ^ f → n < 10000 → ∀ (σ : Store), ACalls Tryz.prog 80 [.lit (.int .i64 n)] σ fun v σ' => v = .lit (.string (toB (Lib.decDigits n))) ∧ σ' = σ
  | 0, n, h, _, σ => by
    obtain rfl : n = 0 := by simpa using h
    rw [dec_small (by omega)]
    exact rdec10_calls (n := 0) (by omega) σ
  | f + 1, n, h, hb, σ => by
    by_cases h10 : n < 10
    · rw [dec_small h10]
      exact rdec10_calls h10 σ
    have q1 : n / 10 < 10 ^ f := by rw [Nat.pow_succ] at h; omega
    have i1 := rdecA_calls f (n / 10) q1 (by omega) σ
    have i2 := rdec10_calls (n := n % 10) (Nat.mod_lt _ (by omega)) σ
    rw [← dec_small (Nat.mod_lt _ (by omega))] at i2
    have g1 : (n : Int).tdiv 10 = ((n / 10 : Nat) : Int) := rfl
    have g2 : (n : Int).tmod 10 = ((n % 10 : Nat) : Int) := rfl
    have h10' : ¬ (n : Int) < 10 := by omega
    have h0 : ¬ (n : Int) < 0 := by omega
    have l1 := dec_len (n := n / 10) (by omega)
    have l2 := dec_len (n := n % 10) (by omega)
    rw [dec_big h10]
    have w1 : IntKind.i64.wrap ((n : Int).tdiv 10) = ((n / 10 : Nat) : Int) := by rw [g1]; exact wrap_i64 (by omega) (by omega)
    have w2 : IntKind.i64.wrap ((n / 10 : Nat) : Int) = ((n / 10 : Nat) : Int) := wrap_i64 (by omega) (by omega)
    have w3 : IntKind.i64.wrap ((n % 10 : Nat) : Int) = ((n % 10 : Nat) : Int) := wrap_i64 (by omega) (by omega)
    generalize Lib.decDigits (n / 10) = d1 at *
    generalize Lib.decDigits (n % 10) = d2 at *
    generalize n / 10 = a at *
    generalize n % 10 = b at *
    have hz1 : (toB d1).size = d1.length := toB_size _
    have hz2 : (toB d2).size = d2.length := toB_size _
    have hno : ¬ (9223372036854775807 : Int) < (d1.length : Int) + (d2.length : Int) := by omega
    have hap := toB_app d1 d2
    refine ACalls.of_awp follows (st := st80) (plans := pl80) (n := 21) Tryz.func80 rfl (by kernel_rfl) (by kernel_rfl) (by kernel_rfl) ?_
    simp [h10, h10', h0, g1, g2, w1, w2, w3]
    refine callK.eq i1 ?_
    simp [h10, h10', h0, g1, g2, w1, w2, w3]
    refine callK.eq i2 ?_
    simp [hz1, hz2, hno, hap]

/-! ### A field -/
theorem sign_place {s : Sp} (h : s.good) {a k : Nat} (ha : a < s.n) (hat : attrAt s.cells a = true) (hk : k < Sp.len s.cells a) (n : Int) : signN n (s.at (((a + k + 1) % s.n : Nat) : Int)) (decide ((fldAt s a).disp = 3)) = signAt n s ((a + k + 1) % s.n) := by
  have hln := h.len
  have hac : a < s.cells.length := by omega
  have hl := Sp.len_lt hac
  have hsp := (Sp.startS_places hat hac (i := k + 1) (by omega) (by omega) (by omega)).2 (by omega)
  rw [hln, ← Nat.add_assoc] at hsp
  have hm : (a + k + 1) % s.n < s.n := Nat.mod_lt _ s.n_pos
  unfold signAt hidAt fofF
  rw [hsp, if_pos (by omega), at_of h hm]
  rfl
def fldTxt (n : Int) (s : Sp) (a : Nat) : List UInt8 := lineB ((Sp.places s.cells a).map (signAt n s))
def fldParts (n : Int) (s : Sp) (a : Nat) : List (List UInt8) :=
  [Lib.decDigits (a / s.cols), Lib.decDigits (a % s.cols), [if (fldAt s a).prot = true then 80 else 85], [if (fldAt s a).num = true then 78 else 65], Lib.decDigits (fldAt s a).disp, [if (fldAt s a).mod = true then 77 else 45], fldTxt n s a]
def fldL (n : Int) (s : Sp) (a : Nat) : List UInt8 := Lib.join (fldParts n s a) [32]
def fieldsL (n : Int) (s : Sp) : List (List UInt8) := s.attrs.map (fldL n s)
theorem fldL_eq (n : Int) (s : Sp) (a : Nat) : fldL n s a = Lib.decDigits (a / s.cols) ++ [32] ++ Lib.decDigits (a % s.cols) ++ [32, if (fldAt s a).prot = true then 80 else 85] ++ [32, if (fldAt s a).num = true then 78 else 65, 32] ++ Lib.decDigits (fldAt s a).disp ++
    [32, if (fldAt s a).mod = true then 77 else 45, 32] ++ fldTxt n s a := by
  unfold fldL fldParts Lib.join
  simp [List.intercalate, List.intersperse]
theorem disp_le (s : Sp) (a : Nat) : (fldAt s a).disp ≤ 3 := by
  unfold fldAt
  exact all_bytes (p := fun b => (fld b).disp ≤ 3) (by decide +kernel) _
theorem fldTxt_len (n : Int) {s : Sp} (h : s.good) {a : Nat} (ha : a < s.n) : (fldTxt n s a).length ≤ 400000 := by
  have h1 := lineB_len ((Sp.places s.cells a).map (signAt n s))
  have h2 := Sp.len_lt (show a < s.cells.length by rw [h.len]; exact ha)
  have h3 := s.n_le
  rw [List.length_map, places_length'] at h1
  have h4 := h.len
  unfold fldTxt
  omega
end Go.Proofs.YtlmdbcgceijlnaaGreatDoor
/-
  The document's lines of the fields.
-/
namespace Go.Proofs.YtlmdbcgceijlnaaGreatDoor
open Go Go.AL Go.Sp
variable {σ Y Z τ : Store} {q p b x y : Nat} {s : Sp} {n : Int} {pv : AV}

theorem bt1 (a : UInt8) : (⟨#[a]⟩ : ByteArray) = toB [a] := by rfl
theorem bt2 (a b : UInt8) : (⟨#[a, b]⟩ : ByteArray) = toB [a, b] := by rfl
theorem bt3 (a b c : UInt8) : (⟨#[a, b, c]⟩ : ByteArray) = toB [a, b, c] := by rfl
theorem fieldsL_len (n : Int) (s : Sp) (k : Nat) (h : k ≤ s.attrs.length) : (strsA ((fieldsL n s).take k)).length = k := by
  simp [strsA, fieldsL]; omega
theorem fieldsL_succ (n : Int) (s : Sp) (k : Nat) (h : k < s.attrs.length) : strsA ((fieldsL n s).take (k + 1)) = strsA ((fieldsL n s).take k) ++ [.lit (.string (toB (fldL n s s.attrs[k])))] := by
  have hl : k < (fieldsL n s).length := by simpa [fieldsL] using h
  rw [List.take_succ_eq_append_getElem hl]
  simp [strsA, fieldsL]
theorem signs_at (n : Int) (s : Sp) {m : Nat} (h : m < s.n) : (r32A (signsL n s))[m]? = some (.lit (.int .i32 (signAt n s m : Nat))) := by
  simp [r32A, signsL, h]
set_option maxHeartbeats 4000000 in
set_option maxRecDepth 8000 in
theorem rfields_calls (h : Ref σ x y s) (hn : isPage n) : ACalls Tryz.prog 25 [ptrA x, .lit (.int .i64 n)] σ fun v σ' => v = .list true 1 (strsA (fieldsL n s)) ∧ σ' = σ := by
  have ho := h.obj
  unfold rfO at ho
  have hsn := s.n_le
  have hl := signsL_length n s
  have hdim : Dim s.rows s.cols := dim_of s.model s.alt
  have hnn : s.n = s.rows * s.cols := rfl
  have hsg := rsignsL_calls h hn
  have hat := attrs_calls h
  have hc1 := hdim.c1
  have hal : s.attrs.length ≤ s.n := by
    have : s.attrs.length ≤ s.cells.length := by simpa [Sp.attrs] using List.length_filter_le _ (List.range s.cells.length)
    rw [← h.good.len]; exact this
  refine ACalls.of_awp follows (st := st25) (plans := pl25) (n := 93) Tryz.func25 rfl (by kernel_rfl) (by kernel_rfl) (by kernel_rfl) ?_
  simp
  refine callK.eq hsg ?_
  simp
  refine callK.eq hat ?_
  simp
  refine codeK.loop follows (st := st25) (plans := pl25) (X := Nat) (fun k => k ≤ s.attrs.length)
    (fun k => [(0, ptrA x), (5, .list false 1 (r32A (signsL n s))), (6, .list true 1 (strsA ((fieldsL n s).take k))), (18, .list false 1 (natsA s.attrs)), (19, .lit (.int .i64 (s.attrs.length : Nat))), (20, .lit (.int .i64 (k : Nat)))]) (fun _ => σ) (fun k => s.attrs.length - k) 0 (by kernel_rfl) (by simp) (by simp [strsA]) (Store.sub_refl _) fun k hk => ?_
  by_cases hkr : k < s.attrs.length
  · have hm := Sp.mem_attrs (List.getElem_mem hkr)
    have hS := fieldsL_succ n s k hkr
    have hSl := fieldsL_len n s k hk
    have hw : IntKind.i64.wrap ((k : Int) + 1) = ((k + 1 : Nat) : Int) := by rw [wrap_i64 (by omega) (by omega)]; rfl
    obtain ⟨a, hak⟩ : ∃ a, s.attrs[k] = a := ⟨_, rfl⟩
    rw [hak] at hm hS
    obtain ⟨hac, hatt⟩ := hm
    have ha : a < s.n := by rw [← h.good.len]; exact hac
    have hfd := fun τ (hτ : Ref τ x y s) => rfield_calls hτ a ha
    have hpl := fun τ (hτ : Ref τ x y s) => rplaces_calls hτ a ha hatt
    have hdisp := disp_le s a
    have hq1 : a / s.cols < 10000 := by have := Nat.div_le_self a s.cols; omega
    have hq2 : a % s.cols < 10000 := by have := Nat.mod_le a s.cols; omega
    have i1 := fun τ => rdecA_calls 4 (a / s.cols) (by omega) (by omega) τ
    have i2 := fun τ => rdecA_calls 4 (a % s.cols) (by omega) (by omega) τ
    have i3 := fun τ => rdecA_calls 4 (fldAt s a).disp (by omega) (by omega) τ
    have hcl : s.cols ≤ 132 := hdim.c2
    have hFt := fldTxt_len n h.good ha
    have hFe := fldL_eq n s a
    have hfa : fldA (fld (s.cells[a]?.getD .zero).fa) = .agg [.lit (.bool (fldAt s a).prot), .lit (.bool (fldAt s a).num), .lit (.int .i64 (fldAt s a).disp), .lit (.bool (fldAt s a).mod)] := rfl
    simp only [hfa] at hfd
    have l1 := dec_len hq1
    have l2 := dec_len hq2
    have l3 := dec_len (n := (fldAt s a).disp) (by omega)
    have t1 : (a : Int).tdiv (s.cols : Int) = ((a / s.cols : Nat) : Int) := rfl
    have t2 : (a : Int).tmod (s.cols : Int) = ((a % s.cols : Nat) : Int) := rfl
    generalize Lib.decDigits (a / s.cols) = d1 at *
    generalize Lib.decDigits (a % s.cols) = d2 at *
    generalize Lib.decDigits (fldAt s a).disp = d3 at *
    generalize a / s.cols = n1 at *
    generalize a % s.cols = n2 at *
    generalize fldAt s a = F at *
    obtain ⟨fp, fu, fd, fm⟩ := F
    simp only at *
    have o2 : ¬ (9223372036854775807 : Int) < (d1.length : Int) + 1 + d2.length := by omega
    obtain ⟨P, hP⟩ : ∃ P : UInt8, P = if fp = true then 80 else 85 := ⟨_, rfl⟩
    obtain ⟨N, hN⟩ : ∃ P : UInt8, P = if fu = true then 78 else 65 := ⟨_, rfl⟩
    obtain ⟨M, hM⟩ : ∃ P : UInt8, P = if fm = true then 77 else 45 := ⟨_, rfl⟩
    obtain ⟨T, hT⟩ : ∃ T, T = d1 ++ 32 :: (d2 ++ 32 :: P :: 32 :: N :: 32 :: (d3 ++ [32, M, 32])) := ⟨_, rfl⟩
    have hFT : fldL n s a = T ++ fldTxt n s a := by rw [hFe, hT, hP, hN, hM]; simp
    have hTl : T.length ≤ 100 := by rw [hT]; simp; omega
    clear hFe
    have u2 : ¬ (9223372036854775807 : Int) < (d1.length : Int) + (d2.length + 2 + 1) + 3 := by omega
    have u3 : ¬ (9223372036854775807 : Int) < (d1.length : Int) + (d2.length + 5 + 1) + d3.length := by omega
    have u4 : ¬ (9223372036854775807 : Int) < (d1.length : Int) + (d2.length + (d3.length + 1 + 1 + 1 + 1 + 1) + 1) + 3 := by omega
    have hpn := places_length' s.cells a
    have hll : Sp.len s.cells a < s.n := by rw [← h.good.len]; exact Sp.len_lt hac
    have hpg : ∀ j (hj : j < (Sp.places s.cells a).length), (Sp.places s.cells a)[j] < s.n := fun j hj => by
      rw [places_get' _ _ _ hj, h.good.len]; exact Nat.mod_lt _ s.n_pos
    have hFx : fldTxt n s a = lineB ((Sp.places s.cells a).map (signAt n s)) := rfl
    have htr := fun σ => rtrim_calls ((Sp.places s.cells a).map (signAt n s)) (by rw [List.length_map, hpn]; omega) σ
    rw [← hFx] at htr
    have hsa := fun m (hm : m < s.n) => signs_at n s hm
    have hslen : (r32A (signsL n s)).length = s.n := by simp [hl]
    generalize fldTxt n s a = FT at *
    generalize r32A (signsL n s) = RS at *
    generalize signAt n s = SA at *
    generalize Sp.places s.cells a = PL at *
    have u1 : ¬ (9223372036854775807 : Int) < (d1.length : Int) + (d2.length + 1) + 2 := by omega
    cases fp <;> cases fu <;> cases fm
    all_goals
      simp [hkr, hak]
      refine callK.eq (hfd _ h) ?_
      simp
      intro z hz
      obtain ⟨f1, f2, f3, f4⟩ := h.fresh hz
      have w1 : IntKind.i64.wrap ((n1 : Nat) : Int) = (n1 : Int) := wrap_i64 (by omega) (by omega)
      have w2 : IntKind.i64.wrap ((n2 : Nat) : Int) = (n2 : Int) := wrap_i64 (by omega) (by omega)
      have hR : ∀ C, Ref (σ.upd z C) x y s := fun C => h.new hz C
      have z1 : (toB d1).size = d1.length := toB_size _
      have o1 : ¬ (9223372036854775807 : Int) < (d1.length : Int) + 1 := by omega
      have hc0 : ¬ s.cols = 0 := by omega
      simp [ho, f1, f2, rowC, t1, t2, w1, w2, hc0]
      repeat' with_reducible apply And.intro
      all_goals
        refine callK.eq (i1 _) ?_
        simp [ho, f1, f2, rowC, t1, t2, w1, w2, hc0, bt1, toB_app, toB_size, o1]
        refine callK.eq (i2 _) ?_
        simp [ho, f1, f2, rowC, t1, t2, w1, w2, hc0, bt1, bt2, bt3, toB_app, toB_size, o1, o2, u1, u2]
        refine callK.eq (i3 _) ?_
        simp [ho, f1, f2, rowC, hc0, bt1, bt2, bt3, toB_app, toB_size, u3, u4]
        refine callK.eq (hpl _ (hR _)) ?_
        simp at hP hN hM
        subst hP hN hM
        rw [hFT] at hS
        have u5 : ¬ (9223372036854775807 : Int) < (T.length : Int) + FT.length := by omega
        simp
        refine codeK.loop follows (st := st25) (plans := pl25) (X := Nat) (fun j => j ≤ PL.length)
          (fun j => [(0, ptrA x), (5, .list false 1 RS), (6, .list true 1 (strsA ((fieldsL n s).take k))), (10, .lit (.string (toB T))), (11, .list true 1 (r32A ((PL.map SA).take j))), (18, .list false 1 (natsA s.attrs)), (19, .lit (.int .i64 (s.attrs.length : Nat))), (20, .lit (.int .i64 (k : Nat))),
            (70, .list false 1 (natsA PL)), (71, .lit (.int .i64 (PL.length : Nat))), (72, .lit (.int .i64 (j : Nat)))]) (fun _ => σ) (fun j => PL.length - j) 0 (by kernel_rfl) (by simp) (by simp [r32A, hT]) (Store.sub_upd hz (Store.sub_refl _)) fun j hj => ?_
        by_cases hjl : j < PL.length
        · have hpj := hpg j hjl
          have hsj := hsa _ hpj
          have hjn : (((PL.map SA).take (j + 1))) = ((PL.map SA).take j) ++ [SA PL[j]] := by
            rw [List.take_succ_eq_append_getElem (by simpa using hjl)]; simp
          have hjr : r32A ((PL.map SA).take (j + 1)) = r32A ((PL.map SA).take j) ++ [.lit (.int .i32 (SA PL[j] : Nat))] := by rw [hjn]; simp [r32A]
          have hwj : IntKind.i64.wrap ((j : Int) + 1) = ((j + 1 : Nat) : Int) := by rw [wrap_i64 (by omega) (by omega)]; rfl
          have hlj : (r32A ((PL.map SA).take j)).length = j := by simp; omega
          generalize r32A ((PL.map SA).take j) = LJ at *
          have hgj : ∀ q : PL[j] < RS.length, RS[PL[j]]'q = .lit (.int .i32 (SA PL[j] : Nat)) := fun q => by rw [List.getElem?_eq_getElem q] at hsj; exact Option.some.inj hsj
          simp [hjl, hpj, hslen, hsj, hgj, hlj]
          refine ⟨by omega, by omega, j + 1, by omega, by omega, by rw [hjr]; exact AV.le_refl _, ?_⟩
          rw [hwj]
          exact AV.le_refl _
        · obtain rfl : j = PL.length := by omega
          have hall : (PL.map SA).take PL.length = PL.map SA := List.take_of_length_le (by simp)
          simp [hall]
          refine callK.eq (htr _) ?_
          simp [toB_app, toB_size, u5, hSl]
          refine ⟨by omega, by omega, k + 1, by omega, by omega, by rw [hS]; exact AV.le_refl _, ?_⟩
          rw [hw]
          exact AV.le_refl _
  · obtain rfl : k = s.attrs.length := by omega
    have : (fieldsL n s).take s.attrs.length = fieldsL n s := List.take_of_length_le (by simp [fieldsL])
    simp [this]
end Go.Proofs.YtlmdbcgceijlnaaGreatDoor
/-
  The program's lines of the fields.
-/
namespace Go.Proofs.YtlmdbcgceijlnaaGreatDoor
open Go Go.AL Go.Sp
variable {σ Y Z τ : Store} {q p b x y : Nat} {s : Sp} {n : Int} {pv : AV}

@[simp] def st24x : List Nat := [43, 52, 53, 5000002, 5000003, 5000006, 5000008, 4000012, 4000014, 4000018, 4000022, 4000024, 4000027, 4000030, 4000033, 4000036, 4000039, 4000044, 4000045, 4000047]
@[simp] def pl24x : List (Nat × Plan) := [(6, Plan.seq [0, 1, 4, 5, 8, 9, 11, 12, 14, 15, 17, 18, 2, 3, 6, 7, 10, 13, 16, 19, 20, 21] (.done)), (10, Plan.seq [1, 2, 3, 4] (.alt (Plan.seq [0, 5, 6, 7, 8, 9] (.done)) (Plan.seq [5] (.alt (Plan.seq [0, 6, 7, 8, 9] (.done)) (Plan.seq [6] (.alt (Plan.seq [0, 7, 8, 9] (.done)) (Plan.seq [7, 0, 8, 9] (.done)))))))), (11, .alt (.alt (Plan.seq [0, 2] (.alt (Plan.seq [1, 3, 4, 5, 6, 7, 8, 9] (.done)) (Plan.seq [3] (.alt (Plan.seq [1, 4, 5, 6, 7, 8, 9] (.done)) (Plan.seq [4, 1, 5, 6, 7, 8, 9] (.done)))))) (Plan.seq [1] (.alt (Plan.seq [0, 2, 3, 4, 5, 6, 7, 8, 9] (.done)) (Plan.seq [2] (.alt (Plan.seq [0, 3, 4, 5, 6, 7, 8, 9] (.done)) (Plan.seq [3] (.alt (Plan.seq [0, 4, 5, 6, 7, 8, 9] (.done)) (Plan.seq [4] (.alt (Plan.seq [0, 5, 6, 7, 8, 9] (.done)) (Plan.seq [5] (.alt (Plan.seq [0, 6, 7, 8, 9] (.done)) (Plan.seq [6] (.alt (Plan.seq [0, 7, 8, 9] (.done)) (Plan.seq [7, 0, 8, 9] (.done))))))))))))))) (Plan.seq [2] (.alt (.alt (Plan.seq [0] (.alt (Plan.seq [1, 3, 4, 5, 6, 7, 8, 9] (.done)) (Plan.seq [3] (.alt (Plan.seq [1, 4, 5, 6, 7, 8, 9] (.done)) (Plan.seq [4, 1, 5, 6, 7, 8, 9] (.done)))))) (Plan.seq [1] (.alt (Plan.seq [0, 3, 4, 5, 6, 7, 8, 9] (.done)) (Plan.seq [3] (.alt (Plan.seq [0, 4, 5, 6, 7, 8, 9] (.done)) (Plan.seq [4] (.alt (Plan.seq [0, 5, 6, 7, 8, 9] (.done)) (Plan.seq [5] (.alt (Plan.seq [0, 6, 7, 8, 9] (.done)) (Plan.seq [6] (.alt (Plan.seq [0, 7, 8, 9] (.done)) (Plan.seq [7, 0, 8, 9] (.done))))))))))))) (Plan.seq [3] (.alt (.alt (Plan.seq [0] (.alt (Plan.seq [1, 4, 5, 6, 7, 8, 9] (.done)) (Plan.seq [4, 1, 5, 6, 7, 8, 9] (.done)))) (Plan.seq [1] (.alt (Plan.seq [0, 4, 5, 6, 7, 8, 9] (.done)) (Plan.seq [4] (.alt (Plan.seq [0, 5, 6, 7, 8, 9] (.done)) (Plan.seq [5] (.alt (Plan.seq [0, 6, 7, 8, 9] (.done)) (Plan.seq [6] (.alt (Plan.seq [0, 7, 8, 9] (.done)) (Plan.seq [7, 0, 8, 9] (.done))))))))))) (Plan.seq [4] (.alt (Plan.seq [0, 1, 5, 6, 7, 8, 9] (.done)) (Plan.seq [1] (.alt (Plan.seq [0, 5, 6, 7, 8, 9] (.done)) (Plan.seq [5] (.alt (Plan.seq [0, 6, 7, 8, 9] (.done)) (Plan.seq [6] (.alt (Plan.seq [0, 7, 8, 9] (.done)) (Plan.seq [7, 0, 8, 9] (.done)))))))))))))))]
theorem letter_calls (c : Bool) (a b : UInt8) (σ : Store) : ACalls Tryz.prog 75 [.lit (.bool c), .lit (.string ⟨#[a]⟩), .lit (.string ⟨#[b]⟩)] σ fun v σ' => v = .lit (.string (toB [if c = true then a else b])) ∧ σ' = σ := by
  refine ACalls.of_awp follows (st := st75) (plans := pl75) (n := 10) Tryz.func75 rfl (by kernel_rfl) (by kernel_rfl) (by kernel_rfl) ?_
  cases c <;> simp [bt1]
theorem itoaN_calls (n : Nat) (h : n ≤ 1000000) (σ : Store) : ACalls Tryz.prog 73 [.lit (.int .i64 n)] σ fun v σ' => v = .lit (.string (toB (Lib.decDigits n))) ∧ σ' = σ := by
  have := itoaZ_calls (n : Int) (by omega) (by omega) σ
  rw [itoa_nat] at this
  exact this
theorem fldParts_eq (n : Int) (s : Sp) (a : Nat) : strsA (fldParts n s a) = [.lit (.string (toB (Lib.decDigits (a / s.cols)))), .lit (.string (toB (Lib.decDigits (a % s.cols)))), .lit (.string (toB [if (fldAt s a).prot = true then 80 else 85])), .lit (.string (toB [if (fldAt s a).num = true then 78 else 65])),
    .lit (.string (toB (Lib.decDigits (fldAt s a).disp))), .lit (.string (toB [if (fldAt s a).mod = true then 77 else 45])), .lit (.string (toB (fldTxt n s a)))] := rfl
set_option maxHeartbeats 4000000 in
set_option maxRecDepth 8000 in
theorem pfields_calls (hP : Prg Y q p s) (h : PS Y q p n pv τ) : ACalls Tryz.prog 24 [ptrA q, pv] τ fun v σ' => v = .list false 1 (strsA (fieldsL n s)) ∧ PS Y q p n pv σ' := by
  obtain ⟨a, ha⟩ := h.ptr
  rw [ha] at h ⊢
  clear ha
  have hdim : Dim s.rows s.cols := dim_of s.model s.alt
  refine ACalls.of_awpY follows (st := st24x) (plans := pl24x) (n := 62) Tryz.func24 rfl (by kernel_rfl) (by kernel_rfl) (by kernel_rfl) ?_
  simp
  intro z5 h5
  obtain ⟨y5, g5⟩ := h.new h5 [.list true 1 []]
  have hP5 : Prg (Y.upd z5 [.list true 1 []]) q p s := hP.new y5 _
  have hsz := size_calls (g5.prg hP5)
  refine callK.eq hsz ?_
  simp
  intro z6 h6
  rw [del_upd_new (by simpa using h6)]
  clear hsz
  refine callK.of (fields_calls2 q _) ?_
  rintro v τ2 ⟨b, hb, rfl, rfl⟩
  obtain ⟨yb, g6⟩ := g5.new hb [ptrA q]
  have sw : ∀ {i j : Nat}, ¬ i = j → ¬ j = i := fun h e => h e.symm
  have nb5 : ¬ b = z5 := fun e => by subst e; simp at hb
  have yb0 : Y b = none := by simpa [nb5] using yb
  let Yf : Nat → Store := fun k => (Y.upd z5 [.list true 1 (strsA ((fieldsL n s).take k))]).upd b [ptrA q]
  have hYf : ∀ k, Yf k = (Y.upd z5 [.list true 1 (strsA ((fieldsL n s).take k))]).upd b [ptrA q] := fun _ => rfl
  have hPf : ∀ k, Prg (Yf k) q p s := fun k => (hP.new y5 _).new (by simp [nb5, yb0]) _
  have hf5 : ∀ k, Yf k z5 = some [.list true 1 (strsA ((fieldsL n s).take k))] := fun k => by rw [hYf]; simp [sw nb5]
  have hfb : ∀ k, Yf k b = some [ptrA q] := fun k => by rw [hYf]; simp
  have hfu : ∀ k, (Yf k).upd z5 [.list true 1 (strsA ((fieldsL n s).take (k + 1)))] = Yf (k + 1) := fun k => by
    rw [hYf, hYf, supd_swap _ nb5, supd_supd]
  have g60 : PS (Yf 0) q p n (.lit (.pointer a)) ((τ.upd z5 [.list true 1 []]).upd b [ptrA q]) := g6
  have hback : ∀ k τ0, PS (Yf k) q p n (.lit (.pointer a)) τ0 → ∃ τ', PS Y q p n (.lit (.pointer a)) τ' ∧ Store.sub τ' τ0 := fun k τ0 h0 => by
    rw [hYf] at h0
    obtain ⟨τ3, h4, s4⟩ := h0.drop (by simp [nb5, yb0])
    obtain ⟨τ5, h5, s5⟩ := h4.drop y5
    exact ⟨τ5, h5, Store.sub_trans s5 s4⟩
  clear_value Yf
  simp
  refine codeYK.rangeG follows (st := st24x) (plans := pl24x) (fields_iter b q p s _) (by simp) (by simp) (fun k τ h => rfl) (by kernel_rfl) (by kernel_rfl) (by kernel_rfl)
    (fun k ρ E => ∃ τ0, PS (Yf k) q p n (.lit (.pointer a)) τ0 ∧ Store.sub τ0 ρ) (fun c ρ E => False) _ ⟨_, g60, Store.sub_refl _⟩ (Store.sub_refl _) ?_ ?_ ?_ ?_
  · rintro k ρ E hk ⟨τ0, h1, h2⟩
    have hs := Store.sub_trans h1.sub h2
    exact ⟨sub_at (hfb k) hs, (hPf k).more hs⟩
  · rintro k hk ρ E ⟨τ0, h1, h2⟩
    have hs := Store.sub_trans h1.sub h2
    have x5 := sub_at (hf5 k) hs
    have hPr : Prg ρ q p s := (hPf k).more hs
    have hg := hP.good
    have hm := Sp.mem_attrs (List.getElem_mem hk)
    have hS := fieldsL_succ n s k hk
    have hSl := fieldsL_len n s k (by omega)
    have hat : atFld s k = (s.attrs[k], fldAt s s.attrs[k]) := by unfold atFld fldAt; simp [hk]
    rw [hat]
    have hrc := fun τ => row_of_calls hdim (s.attrs[k] : Nat) τ
    have hcc := fun τ => col_of_calls hdim (s.attrs[k] : Nat) τ
    generalize s.attrs[k] = at0 at *
    obtain ⟨hac, hatt⟩ := hm
    have ha : at0 < s.n := by rw [← hg.len]; exact hac
    have hwr : wrap (s.rows * s.cols) (at0 : Nat) = at0 := wrap_of_lt (show at0 < s.n from ha)
    rw [hwr] at hrc hcc
    have hfa : fldA (fldAt s at0) = .agg [.lit (.bool (fldAt s at0).prot), .lit (.bool (fldAt s at0).num), .lit (.int .i64 (fldAt s at0).disp), .lit (.bool (fldAt s at0).mod)] := rfl
    have hdisp := disp_le s at0
    have hsn := s.n_le
    have q1 : at0 / s.cols ≤ at0 := Nat.div_le_self _ _
    have q2 : at0 % s.cols ≤ at0 := Nat.mod_le _ _
    have hal : s.attrs.length ≤ s.n := by
      have : s.attrs.length ≤ s.cells.length := by simpa [Sp.attrs] using List.length_filter_le _ (List.range s.cells.length)
      rw [← hg.len]; exact this
    have hpn := places_length' s.cells at0
    have hll : Sp.len s.cells at0 < s.n := by rw [← hg.len]; exact Sp.len_lt hac
    have hpe := fldParts_eq n s at0
    have hfl : fldL n s at0 = Lib.join (fldParts n s at0) [32] := rfl
    have hFt := fldTxt_len n hg ha
    have hjl : (Lib.join (fldParts n s at0) [32]).length ≤ 1000000 := by
      have l1 := dec_len (n := at0 / s.cols) (by omega)
      have l2 := dec_len (n := at0 % s.cols) (by omega)
      have l3 := dec_len (n := (fldAt s at0).disp) (by omega)
      rw [← hfl, fldL_eq]
      simp only [List.length_append, List.length_cons, List.length_nil]
      omega
    have hjoin := fun τ => join_calls true (fldParts n s at0) [32] (by simp [fldParts]) (by omega) τ
    rw [← hfl] at hjoin
    have htr := fun τ => trimmed_calls ((Sp.places s.cells at0).map (signAt n s)) (by rw [List.length_map, hpn]; omega) τ
    have hFx : lineB ((Sp.places s.cells at0).map (signAt n s)) = fldTxt n s at0 := rfl
    rw [hFx] at htr
    have i1 := fun τ => itoaN_calls (at0 / s.cols) (by omega) τ
    have i2 := fun τ => itoaN_calls (at0 % s.cols) (by omega) τ
    have i3 := fun τ => itoaN_calls (fldAt s at0).disp (by omega) τ
    have hsp := fun j hj => sign_place hg ha hatt (k := j) hj n
    have hpt := fun j (hj : j < Sp.len s.cells at0) => places_take_succ hj
    rw [hpe] at hjoin
    clear hFx hfl hpe hjl hFt
    have hf5k := hf5 k
    generalize Lib.decDigits (at0 / s.cols) = d1 at *
    generalize Lib.decDigits (at0 % s.cols) = d2 at *
    generalize Lib.decDigits (fldAt s at0).disp = d3 at *
    generalize at0 / s.cols = n1 at *
    generalize at0 % s.cols = n2 at *
    generalize fldTxt n s at0 = FT at *
    generalize fldL n s at0 = FL at *
    generalize fldAt s at0 = F at *
    generalize strsA ((fieldsL n s).take k) = SK at *
    simp only [hfa]
    simp
    intro z8 h8
    rw [del_upd_new h8]
    clear h8
    refine callK.eq (hrc _) ?_
    simp
    refine callK.eq (i1 _) ?_
    simp
    refine callK.eq (hcc _) ?_
    simp
    refine callK.eq (i2 _) ?_
    simp
    refine callK.eq (letter_calls _ _ _ _) ?_
    simp
    refine callK.eq (letter_calls _ _ _ _) ?_
    simp
    refine callK.eq (i3 _) ?_
    simp
    refine callK.eq (letter_calls _ _ _ _) ?_
    simp
    intro z10 h10
    obtain ⟨y10, g10⟩ := h1.new (sub_none h2 h10) [.list true 1 []]
    have k2 := sub_upd2 h2 z10 [.list true 1 []]
    have hP10 := (hPf k).new y10 [.list true 1 []]
    have n105 : ¬ z10 = z5 := fun e => by subst e; rw [x5] at h10; cases h10
    refine callK.of (places_calls2 q _ _) ?_
    rintro v ρ2 ⟨b2, c2, hb2, hc2, nbc, rfl, rfl⟩
    obtain ⟨yb2, g11⟩ := g10.new (sub_none k2 hb2) [ptrA q]
    have k3 := sub_upd2 k2 b2 [ptrA q]
    have hc2' : ((τ0.upd z10 [.list true 1 []]).upd b2 [ptrA q]) c2 = none := by
      have := sub_none k2 hc2
      simp [sw nbc]; simpa using this
    obtain ⟨yc2, g12⟩ := g11.new hc2' [.lit (.int .i64 (at0 : Nat))]
    have k4 := sub_upd2 k3 c2 [.lit (.int .i64 (at0 : Nat))]
    have nb10 : ¬ b2 = z10 := fun e => by subst e; simp at hb2
    have nc10 : ¬ c2 = z10 := fun e => by subst e; simp at hc2
    have yb2' : Yf k b2 = none := by simpa [nb10] using yb2
    have yc2' : Yf k c2 = none := by simpa [nc10, sw nbc] using yc2
    let Yg : Nat → Store := fun j => (((Yf k).upd z10 [.list true 1 (r32A (((Sp.places s.cells at0).map (signAt n s)).take j))]).upd b2 [ptrA q]).upd c2 [.lit (.int .i64 (at0 : Nat))]
    have hYg : ∀ j, Yg j = (((Yf k).upd z10 [.list true 1 (r32A (((Sp.places s.cells at0).map (signAt n s)).take j))]).upd b2 [ptrA q]).upd c2 [.lit (.int .i64 (at0 : Nat))] := fun _ => rfl
    have hPg : ∀ j, Prg (Yg j) q p s := fun j => (((hPf k).new y10 _).new (by simp [nb10, yb2']) _).new (by simp [nc10, sw nbc, yc2']) _
    have hg10 : ∀ j, Yg j z10 = some [.list true 1 (r32A (((Sp.places s.cells at0).map (signAt n s)).take j))] := fun j => by rw [hYg]; simp [sw nb10, sw nc10]
    have hgb : ∀ j, Yg j b2 = some [ptrA q] := fun j => by rw [hYg]; simp [nbc]
    have hgc : ∀ j, Yg j c2 = some [.lit (.int .i64 (at0 : Nat))] := fun j => by rw [hYg]; simp
    have hg5 : ∀ j, Yg j z5 = some [.list true 1 SK] := fun j => by
      have n1 : ¬ z5 = b2 := fun e => by subst e; rw [hf5 k] at yb2'; cases yb2'
      have n2 : ¬ z5 = c2 := fun e => by subst e; rw [hf5 k] at yc2'; cases yc2'
      rw [hYg]; simp [n1, n2, sw n105, hf5k]
    have hgu : ∀ j C, (Yg j).upd z10 [.list true 1 C] = (((Yf k).upd z10 [.list true 1 C]).upd b2 [ptrA q]).upd c2 [.lit (.int .i64 (at0 : Nat))] := fun j C => by
      rw [hYg, supd_swap _ nc10, supd_swap _ nb10, supd_supd]
    have g120 : PS (Yg 0) q p n (.lit (.pointer a)) (((τ0.upd z10 [.list true 1 []]).upd b2 [ptrA q]).upd c2 [.lit (.int .i64 (at0 : Nat))]) := g12
    have hbackg : ∀ j τ0, PS (Yg j) q p n (.lit (.pointer a)) τ0 → ∃ τ', PS (Yf k) q p n (.lit (.pointer a)) τ' ∧ Store.sub τ' τ0 := fun j τ0 h0 => by
      rw [hYg] at h0
      obtain ⟨τ3, h4, s4⟩ := h0.drop (by simp [nc10, sw nbc, yc2'])
      obtain ⟨τ5, h5, s5⟩ := h4.drop (by simp [nb10, yb2'])
      obtain ⟨τ6, h6, s6⟩ := h5.drop y10
      exact ⟨τ6, h6, Store.sub_trans s6 (Store.sub_trans s5 s4)⟩
    have nqp : ¬ q = z10 ∧ ¬ p = z10 := by
      obtain ⟨r1, r2, _, _⟩ := (hPf k).fresh y10
      exact ⟨r1, r2⟩
    clear_value Yg
    clear g10 g11 g12
    simp
    refine codeYK.rangeG follows (st := st24x) (plans := pl24x) (places_iter b2 c2 q p s at0 ha hatt _) (by simp) (by simp) (fun k τ h => rfl) (by kernel_rfl) (by kernel_rfl) (by kernel_rfl)
      (fun j ρ E => ∃ τ0, PS (Yg j) q p n (.lit (.pointer a)) τ0 ∧ Store.sub τ0 ρ) (fun c ρ E => False) _ ⟨_, g120, k4⟩ (Store.sub_refl _) ?_ ?_ ?_ ?_
    · rintro j ρ3 E3 hj ⟨τ1, h3, h4⟩
      have hs3 := Store.sub_trans h3.sub h4
      exact ⟨sub_at (hgb j) hs3, sub_at (hgc j) hs3, (hPg j).more hs3⟩
    · rintro j hj ρ3 E3 ⟨τ1, h3, h4⟩
      have hs3 := Store.sub_trans h3.sub h4
      have x10 := sub_at (hg10 j) hs3
      have e1 := hsp j hj
      have hg10j := hg10 j
      have hjn : r32A (((Sp.places s.cells at0).map (signAt n s)).take (j + 1)) = r32A (((Sp.places s.cells at0).map (signAt n s)).take j) ++ [.lit (.int .i32 (signAt n s ((at0 + j + 1) % s.n) : Nat))] := by
        have := hpt j hj
        rw [hg.len] at this
        rw [← List.map_take, ← List.map_take, this, List.map_append]
        simp [r32A]
      have hgn := hgu j (r32A (((Sp.places s.cells at0).map (signAt n s)).take (j + 1)))
      rw [← hYg] at hgn
      have hlj : (r32A (((Sp.places s.cells at0).map (signAt n s)).take j)).length = j := by simp; omega
      have hnx := fun C (h : PS (Yg j) q p n (.lit (.pointer a)) τ1) => h.upd (z := z10) (C := C) (h.ne (hg10 j))
      rw [hjn] at hgn
      generalize r32A (((Sp.places s.cells at0).map (signAt n s)).take j) = LJ at *
      have hPgl : Prg ((Yg j).upd z10 [.list false 1 LJ]) q p s := (hPg j).upd nqp _
      have hsg := psgn_calls (hPg j) h3 (((at0 + j + 1) % s.n : Nat) : Int) (decide (F.disp = 3))
      have hsl := psgn_calls hPgl (hnx [.list false 1 LJ] h3) (((at0 + j + 1) % s.n : Nat) : Int) (decide (F.disp = 3))
      rw [e1] at hsg hsl
      generalize signAt n s ((at0 + j + 1) % s.n) = sg at *
      generalize (at0 + j + 1) % s.n = m at *
      simp [x10]
      repeat' with_reducible apply And.intro
      all_goals
        refine callK.eq (hidden_calls _ _ _ _ _) ?_
        simp [x10]
        repeat' with_reducible apply And.intro
        all_goals
          first
            | refine callK.of (forget_calls hsg h4) ?_
              rintro v τ6 ⟨rfl, h6⟩
              have x6 := sub_at hg10j h6.sub
              have h7 := h6.upd (z := z10) (C := [.list true 1 (LJ ++ [.lit (.int .i32 (sg : Nat))])]) (h6.ne hg10j)
              rw [hgn] at h7
              simp [x6, hlj]
            | refine callK.of (forget_calls hsl (sub_upd2 h4 _ _)) ?_
              rintro v τ6 ⟨rfl, h6⟩
              have x6 : τ6 z10 = some [.list false 1 LJ] := sub_at (by simp) h6.sub
              have h7 := h6.upd (z := z10) (C := [.list true 1 (LJ ++ [.lit (.int .i32 (sg : Nat))])]) (h6.ne (by simp; rfl))
              rw [supd_supd, hgn] at h7
              simp [x6, hlj]
          exact ⟨by omega, by omega, _, Store.sub_refl _, _, h7, Store.sub_refl _⟩
    · rintro ρ3 E3 σ' hs' ⟨τ1, h3, h4⟩
      have hs3 := Store.sub_trans (Store.sub_trans h3.sub h4) hs'
      have x10 := sub_at (hg10 _) hs3
      have x5' := sub_at (hg5 (Sp.len s.cells at0)) hs3
      have hall : ((Sp.places s.cells at0).map (signAt n s)).take (Sp.len s.cells at0) = (Sp.places s.cells at0).map (signAt n s) := List.take_of_length_le (by rw [List.length_map, hpn]; exact Nat.le_refl _)
      rw [hall] at x10
      have n510 : ¬ z5 = z10 := fun e => n105 e.symm
      obtain ⟨τ6, h6, s6⟩ := hbackg _ _ h3
      have h7 := h6.upd (z := z5) (C := [.list true 1 (SK ++ [.lit (.string (toB FL))])]) (h6.ne hf5k)
      have hfk := hfu k
      rw [hS] at hfk
      rw [hfk] at h7
      have s7 := sub_upd2 (Store.sub_trans s6 (Store.sub_trans h4 hs')) z5 [.list true 1 (SK ++ [.lit (.string (toB FL))])]
      have hsp1 : (⟨#[32]⟩ : ByteArray) = toB [32] := bt1 32
      simp [x10, x5', n105, n510]
      repeat' first
        | with_reducible apply And.intro
        | (refine callK.eq (htr _) ?_
           simp [x10, x5', n105, n510, hsp1])
        | (refine callK.eq (hjoin _) ?_
           simp [x10, x5', n105, n510, hSl])
      all_goals first | exact ⟨_, Store.sub_refl _, _, h7, s7⟩ | omega
    · rintro c ρ3 E3 σ' _ h
      exact h.elim
  · rintro ρ E σ' hs' ⟨τ0, h1, h2⟩
    have hs := Store.sub_trans (Store.sub_trans h1.sub h2) hs'
    have x5 := sub_at (hf5 _) hs
    obtain ⟨τ9, h9, s9⟩ := hback _ _ h1
    have : (fieldsL n s).take s.attrs.length = fieldsL n s := List.take_of_length_le (by simp [fieldsL])
    rw [this] at x5
    simp [x5]
    exact ⟨_, AV.le_refl _, τ9, Store.sub_trans s9 (Store.sub_trans h2 hs'), rfl, h9⟩
  · rintro c ρ E σ' _ h
    exact h.elim
end Go.Proofs.YtlmdbcgceijlnaaGreatDoor
