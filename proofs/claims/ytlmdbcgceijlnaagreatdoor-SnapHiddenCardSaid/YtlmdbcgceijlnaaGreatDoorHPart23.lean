/-
  All lines as one text: the program's.
-/
import Derived.Test.YtlmdbcgceijlnaaGreatDoorHPart22
set_option linter.unusedSimpArgs false
set_option linter.unusedVariables false
namespace Go.Proofs.YtlmdbcgceijlnaaGreatDoor
open Go Go.AL Go.Sp
variable {σ Y Z τ : Store} {q p b x y z : Nat} {s : Sp} {n : Int} {pv : AV} {l : List UInt8} {X : Bst}

theorem lineB_len (l : List Nat) : (lineB l).length ≤ 4 * l.length := by
  have h0 := trimN_le (runesBytes (l.map fun n : Nat => (n : Int))).data.toList (runesBytes (l.map fun n : Nat => (n : Int))).data.toList.length
  have h1 := foldl_size_le (l.map fun n : Nat => (n : Int)) ByteArray.empty
  have h2 : (runesBytes (l.map fun n : Nat => (n : Int))).size ≤ 0 + 4 * (l.map fun n : Nat => (n : Int)).length := h1
  rw [List.length_map] at h2
  have h3 : (runesBytes (l.map fun n : Nat => (n : Int))).data.toList.length = (runesBytes (l.map fun n : Nat => (n : Int))).size := by
    generalize runesBytes (l.map fun n : Nat => (n : Int)) = S
    exact Array.length_toList
  unfold lineB trimB
  rw [List.length_take]
  omega
theorem lineAt_len (n : Int) (s : Sp) (k : Nat) : (lineAt n s k).length ≤ 1000 := by
  have hdim : Dim s.rows s.cols := dim_of s.model s.alt
  have hc2 := hdim.c2
  have := lineB_len (chunkL (signsL n s) s.cols k)
  have h2 : (chunkL (signsL n s) s.cols k).length ≤ s.cols := by unfold chunkL; rw [List.length_take]; omega
  unfold lineAt
  omega
def textTo (n : Int) (s : Sp) (k : Nat) : List UInt8 := ((List.range k).map fun i => lineAt n s i ++ [10]).flatten
theorem textTo_succ (n : Int) (s : Sp) (k : Nat) : textTo n s (k + 1) = textTo n s k ++ (lineAt n s k ++ [10]) := by
  unfold textTo
  rw [List.range_succ, List.map_append, List.flatten_append]
  simp
theorem textTo_len (n : Int) (s : Sp) (k : Nat) : (textTo n s k).length ≤ 1001 * k := by
  induction k with
  | zero => simp [textTo]
  | succ k ih =>
    rw [textTo_succ]
    have := lineAt_len n s k
    simp only [List.length_append, List.length_cons, List.length_nil]
    omega
@[simp] def st19r : List Nat := [2000005]
theorem toB_data (l : List UInt8) : (toB l).data.toList = l := by simp [toB]
theorem toB_app (l m : List UInt8) : toB l ++ toB m = toB (l ++ m) := by
  apply ByteArray.ext
  simp [toB]
set_option maxHeartbeats 2000000 in
set_option maxRecDepth 8000 in
theorem text_calls (hP : Prg Y q p s) (h : PS Y q p n pv τ) : ACalls Tryz.prog 19 [ptrA q, pv] τ fun v σ' => v = .lit (.string (toB (textTo n s s.rows))) ∧ PS Y q p n pv σ' := by
  obtain ⟨a, ha⟩ := h.ptr
  rw [ha] at h ⊢
  clear ha
  have hdim : Dim s.rows s.cols := dim_of s.model s.alt
  have hr1 := hdim.r1
  have hr2 := hdim.r2
  refine ACalls.of_awpY follows (st := st19r) (plans := pl19) (n := 17) Tryz.func19 rfl (by kernel_rfl) (by kernel_rfl) (by kernel_rfl) ?_
  simp
  intro z hz hzk
  have e0 : τ.put z (rawA 109 (Value.agg #[.pointer none, .slice none 0 0]).cells) = bldS z (.nil (.pointer none)) τ := rfl
  rw [e0]
  clear e0
  simp
  refine callK.of (mkLines_calls a q _) ?_
  rintro v τ2 ⟨c1, c2, f1, f2, n12, rfl, rfl⟩
  rw [bldS_nat] at f1 f2
  have sw : ∀ {i j : Nat}, ¬ i = j → ¬ j = i := fun h e => h e.symm
  have less : ∀ {z : Nat}, τ z = none → Y z = none := fun {z} e => by
    rcases h.sub z with e' | e'
    · exact e'
    · rw [e']; exact e
  have yc1 := less f1
  have yc2 := less f2
  rw [← bldS_upd, ← bldS_upd]
  obtain ⟨_, g1⟩ := h.new f1 [ptrA q]
  obtain ⟨_, g2⟩ := g1.new (z := c2) (by simp [f2, n12, sw n12]) [.lit (.pointer a)]
  have hO0 : BldOk z [] ((τ.upd c1 [ptrA q]).upd c2 [.lit (.pointer a)]) (.nil (.pointer none)) := ⟨rfl, .inl rfl, by simpa using hzk⟩
  have hBf : Prg ((Y.upd c1 [ptrA q]).upd c2 [.lit (.pointer a)]) q p s := (hP.new yc1 _).new (by simp [yc2, n12, sw n12]) _
  have yd1 : ((Y.upd c1 [ptrA q]).upd c2 [.lit (.pointer a)]) c1 = some [ptrA q] := by simp [n12, sw n12]
  have yd2 : ((Y.upd c1 [ptrA q]).upd c2 [.lit (.pointer a)]) c2 = some [.lit (.pointer a)] := by simp
  have hdrop : ∀ τ0, PS ((Y.upd c1 [ptrA q]).upd c2 [.lit (.pointer a)]) q p n (.lit (.pointer a)) τ0 → ∃ τ', PS Y q p n (.lit (.pointer a)) τ' ∧ Store.sub τ' τ0 := fun τ0 h3 => by
    obtain ⟨τ3, h4, s4⟩ := h3.drop (by simp [yc2, n12, sw n12])
    obtain ⟨τ5, h5, s5⟩ := h4.drop yc1
    exact ⟨τ5, h5, Store.sub_trans s5 s4⟩
  generalize (Y.upd c1 [ptrA q]).upd c2 [.lit (.pointer a)] = Yc at *
  generalize (τ.upd c1 [ptrA q]).upd c2 [.lit (.pointer a)] = τc at *
  clear g1
  simp
  refine codeYK.rangeL follows (st := st19r) (plans := pl19) (lines_iter (q := q) (p := p) a c1 c2 s n _) (by simp) (by simp) (fun k h => rfl) (by kernel_rfl) (by kernel_rfl) (by kernel_rfl)
    (fun k g ρ E => ∃ X, BldOk z (textTo n s k) Yc X ∧ g = bldS z X Yc ∧ ∃ τ0, PS g q p n (.lit (.pointer a)) τ0 ∧ Store.sub τ0 ρ) (fun k g ρ E => ∃ X, BldOk z (textTo n s k) Yc X ∧ g = bldS z X Yc ∧ ∃ τ0, PS g q p n (.lit (.pointer a)) τ0 ∧ Store.sub τ0 ρ)
    (fun c ρ E => False) (bldS z (.nil (.pointer none)) Yc) _ ⟨_, hO0.less g2.sub, rfl, _, g2.bld hO0, Store.sub_refl _⟩ (Store.sub_refl _) ?_ ?_ ?_ ?_ ?_
  · rintro k g ρ E hk ⟨X, hO, rfl, τ0, h1, h2⟩
    exact ⟨hBf.bld z X, by rw [bldS_nat]; exact yd1, by rw [bldS_nat]; exact yd2, τ0, h1, h2⟩
  · rintro k g ρ ρ' E hk ⟨X, hO, rfl, _⟩ ⟨τ0, h1, h2⟩
    exact ⟨X, hO, rfl, τ0, h1, h2⟩
  · rintro k g hk ρ E ⟨X, hO, rfl, τ0, h1, h2⟩
    obtain ⟨τ1, rfl, h3, hO1⟩ := h1.unbld hO
    have hlk := lineAt_len n s k
    have htl := textTo_len n s k
    have hts := textTo_succ n s k
    simp only [argN]
    generalize lineAt n s k = LA at *
    have hsz : (toB LA).size = LA.length := toB_size LA
    have hw := wstr_calls z X (textTo n s k) (toB (LA ++ [10])) τ1 hO1 (by rw [toB_size]; simp; omega) (by rw [toB_data]; simp)
    rw [toB_data, ← hts] at hw
    have he : toB LA ++ ⟨#[10]⟩ = toB (LA ++ [10]) := toB_app LA [10]
    have hs10 : (⟨#[10]⟩ : ByteArray).size = 1 := rfl
    have hno : ¬ (9223372036854775807 : Int) < (LA.length : Int) + 1 := by omega
    simp [hsz, he, hs10, hno]
    refine callK.of (forget_calls hw h2) ?_
    rintro v ρ' ⟨rfl, X', hO', rfl⟩
    simp
    exact ⟨_, Store.sub_refl _, _, X', hO'.less h3.sub, rfl, _, h3.bld hO', Store.sub_refl _⟩
  · rintro g ρ E σ' hs' ⟨X, hO, rfl, τ0, h1, h2⟩
    obtain ⟨τ1, rfl, h3, hO1⟩ := h1.unbld hO
    have hne : textTo n s s.rows ≠ [] := by
      obtain ⟨r, hr⟩ : ∃ r, s.rows = r + 1 := ⟨s.rows - 1, by omega⟩
      rw [hr, textTo_succ]
      simp
    obtain ⟨τ9, h9, s9⟩ := hdrop _ h3
    simp
    refine callK.eq (forget_calls (bstr_calls z X _ τ1 hO1 hne) (Store.sub_trans h2 hs')) ?_
    simp
    exact ⟨_, AV.le_refl _, τ9, s9, rfl, h9⟩
  · rintro c ρ E σ' _ h
    exact h.elim
end Go.Proofs.YtlmdbcgceijlnaaGreatDoor
/-
  A field told as a line; decimal numbers; two digits: what is told.
-/
namespace Go.Proofs.YtlmdbcgceijlnaaGreatDoor
open Go Go.AL Go.Sp
variable {σ Y Z τ : Store} {q p b x y : Nat} {s : Sp} {n : Int} {pv : AV}

theorem itoa_nat (n : Nat) : Lib.itoa (n : Int) = Lib.decDigits n := by
  unfold Lib.itoa
  rw [if_neg (by omega)]
  simp
theorem dec_big {n : Nat} (h : ¬ n < 10) : Lib.decDigits n = Lib.decDigits (n / 10) ++ Lib.decDigits (n % 10) := by
  rw [Lib.decDigits, dif_neg h]
  congr 1
  rw [Lib.decDigits, dif_pos (Nat.mod_lt _ (by omega))]
theorem dec_len {n : Nat} (h : n < 10000) : (Lib.decDigits n).length ≤ 4 := by
  have h1 : ∀ n, n < 10 → (Lib.decDigits n).length = 1 := fun n h => by rw [Lib.decDigits, dif_pos h]; rfl
  have step : ∀ (k n : Nat), (n / 10 < 10 ^ k → (Lib.decDigits (n / 10)).length ≤ k) → n < 10 ^ (k + 1) → 1 ≤ k → (Lib.decDigits n).length ≤ k + 1 := fun k n ih hn hk => by
    by_cases h : n < 10
    · rw [h1 n h]; omega
    · rw [dec_big h, List.length_append, h1 _ (Nat.mod_lt _ (by omega))]
      have := ih (by rw [Nat.pow_succ] at hn; omega)
      omega
  have p1 : ∀ n, n < 10 ^ 1 → (Lib.decDigits n).length ≤ 1 := fun n h => by rw [h1 n (by simpa using h)]; omega
  have p2 : ∀ n, n < 10 ^ 2 → (Lib.decDigits n).length ≤ 2 := fun n h => step 1 n (fun h => p1 _ h) h (by omega)
  have p3 : ∀ n, n < 10 ^ 3 → (Lib.decDigits n).length ≤ 3 := fun n h => step 2 n (fun h => p2 _ h) h (by omega)
  exact step 3 n (fun h => p3 _ h) (by simpa using h) (by omega)
/-! ### A field -/
theorem sign_place {s : Sp} (h : s.good) {a k : Nat} (ha : a < s.n) (hat : attrAt s.cells a = true) (hk : k < Sp.len s.cells a) (n : Int) : signN n (s.at (((a + k + 1) % s.n : Nat) : Int)) (decide ((fldAt s a).disp = 3)) = signAt n s ((a + k + 1) % s.n) := by
  have hln := h.len
  have hac : a < s.cells.length := by omega
  have hl := Sp.len_lt hac
  have hsp := (Sp.startS_places hat hac (i := k + 1) (by omega) (by omega) (by omega)).2 (by omega)
  rw [hln, ← Nat.add_assoc] at hsp
  have hm : (a + k + 1) % s.n < s.n := Nat.mod_lt _ s.n_pos
  unfold signAt hidAt fofF
  rw [hsp, if_pos (by omega), at_of h hm]
  rfl
def fldTxt (n : Int) (s : Sp) (a : Nat) : List UInt8 := lineB ((Sp.places s.cells a).map (signAt n s))
def fldParts (n : Int) (s : Sp) (a : Nat) : List (List UInt8) :=
  [Lib.decDigits (a / s.cols), Lib.decDigits (a % s.cols), [if (fldAt s a).prot = true then 80 else 85], [if (fldAt s a).num = true then 78 else 65], Lib.decDigits (fldAt s a).disp, [if (fldAt s a).mod = true then 77 else 45], fldTxt n s a]
def fldL (n : Int) (s : Sp) (a : Nat) : List UInt8 := Lib.join (fldParts n s a) [32]
def fieldsL (n : Int) (s : Sp) : List (List UInt8) := s.attrs.map (fldL n s)
theorem fldL_eq (n : Int) (s : Sp) (a : Nat) : fldL n s a = Lib.decDigits (a / s.cols) ++ [32] ++ Lib.decDigits (a % s.cols) ++ [32, if (fldAt s a).prot = true then 80 else 85] ++ [32, if (fldAt s a).num = true then 78 else 65, 32] ++ Lib.decDigits (fldAt s a).disp ++
    [32, if (fldAt s a).mod = true then 77 else 45, 32] ++ fldTxt n s a := by
  unfold fldL fldParts Lib.join
  simp [List.intercalate, List.intersperse]
theorem disp_le (s : Sp) (a : Nat) : (fldAt s a).disp ≤ 3 := by
  unfold fldAt
  exact all_bytes (p := fun b => (fld b).disp ≤ 3) (by decide +kernel) _
theorem fldTxt_len (n : Int) {s : Sp} (h : s.good) {a : Nat} (ha : a < s.n) : (fldTxt n s a).length ≤ 400000 := by
  have h1 := lineB_len ((Sp.places s.cells a).map (signAt n s))
  have h2 := Sp.len_lt (show a < s.cells.length by rw [h.len]; exact ha)
  have h3 := s.n_le
  rw [List.length_map, places_length'] at h1
  have h4 := h.len
  unfold fldTxt
  omega
end Go.Proofs.YtlmdbcgceijlnaaGreatDoor
/-
  The document's lines of the fields.
-/
namespace Go.Proofs.YtlmdbcgceijlnaaGreatDoor
open Go Go.AL Go.Sp
variable {σ Y Z τ : Store} {q p b x y : Nat} {s : Sp} {n : Int} {pv : AV}

theorem bt1 (a : UInt8) : (⟨#[a]⟩ : ByteArray) = toB [a] := by rfl
theorem fieldsL_len (n : Int) (s : Sp) (k : Nat) (h : k ≤ s.attrs.length) : (strsA ((fieldsL n s).take k)).length = k := by
  simp [strsA, fieldsL]; omega
theorem fieldsL_succ (n : Int) (s : Sp) (k : Nat) (h : k < s.attrs.length) : strsA ((fieldsL n s).take (k + 1)) = strsA ((fieldsL n s).take k) ++ [.lit (.string (toB (fldL n s s.attrs[k])))] := by
  have hl : k < (fieldsL n s).length := by simpa [fieldsL] using h
  rw [List.take_succ_eq_append_getElem hl]
  simp [strsA, fieldsL]
end Go.Proofs.YtlmdbcgceijlnaaGreatDoor
/-
  The program's lines of the fields.
-/
namespace Go.Proofs.YtlmdbcgceijlnaaGreatDoor
open Go Go.AL Go.Sp
variable {σ Y Z τ : Store} {q p b x y : Nat} {s : Sp} {n : Int} {pv : AV}

@[simp] def st24x : List Nat := [43, 52, 53, 5000002, 5000003, 5000006, 5000008, 4000012, 4000014, 4000018, 4000022, 4000024, 4000027, 4000030, 4000033, 4000036, 4000039, 4000044, 4000045, 4000047]
@[simp] def pl24x : List (Nat × Plan) := [(6, Plan.seq [0, 1, 4, 5, 8, 9, 11, 12, 14, 15, 17, 18, 2, 3, 6, 7, 10, 13, 16, 19, 20, 21] (.done)), (10, Plan.seq [1, 2, 3, 4] (.alt (Plan.seq [0, 5, 6, 7, 8, 9] (.done)) (Plan.seq [5] (.alt (Plan.seq [0, 6, 7, 8, 9] (.done)) (Plan.seq [6] (.alt (Plan.seq [0, 7, 8, 9] (.done)) (Plan.seq [7, 0, 8, 9] (.done)))))))), (11, .alt (.alt (Plan.seq [0, 2] (.alt (Plan.seq [1, 3, 4, 5, 6, 7, 8, 9] (.done)) (Plan.seq [3] (.alt (Plan.seq [1, 4, 5, 6, 7, 8, 9] (.done)) (Plan.seq [4, 1, 5, 6, 7, 8, 9] (.done)))))) (Plan.seq [1] (.alt (Plan.seq [0, 2, 3, 4, 5, 6, 7, 8, 9] (.done)) (Plan.seq [2] (.alt (Plan.seq [0, 3, 4, 5, 6, 7, 8, 9] (.done)) (Plan.seq [3] (.alt (Plan.seq [0, 4, 5, 6, 7, 8, 9] (.done)) (Plan.seq [4] (.alt (Plan.seq [0, 5, 6, 7, 8, 9] (.done)) (Plan.seq [5] (.alt (Plan.seq [0, 6, 7, 8, 9] (.done)) (Plan.seq [6] (.alt (Plan.seq [0, 7, 8, 9] (.done)) (Plan.seq [7, 0, 8, 9] (.done))))))))))))))) (Plan.seq [2] (.alt (.alt (Plan.seq [0] (.alt (Plan.seq [1, 3, 4, 5, 6, 7, 8, 9] (.done)) (Plan.seq [3] (.alt (Plan.seq [1, 4, 5, 6, 7, 8, 9] (.done)) (Plan.seq [4, 1, 5, 6, 7, 8, 9] (.done)))))) (Plan.seq [1] (.alt (Plan.seq [0, 3, 4, 5, 6, 7, 8, 9] (.done)) (Plan.seq [3] (.alt (Plan.seq [0, 4, 5, 6, 7, 8, 9] (.done)) (Plan.seq [4] (.alt (Plan.seq [0, 5, 6, 7, 8, 9] (.done)) (Plan.seq [5] (.alt (Plan.seq [0, 6, 7, 8, 9] (.done)) (Plan.seq [6] (.alt (Plan.seq [0, 7, 8, 9] (.done)) (Plan.seq [7, 0, 8, 9] (.done))))))))))))) (Plan.seq [3] (.alt (.alt (Plan.seq [0] (.alt (Plan.seq [1, 4, 5, 6, 7, 8, 9] (.done)) (Plan.seq [4, 1, 5, 6, 7, 8, 9] (.done)))) (Plan.seq [1] (.alt (Plan.seq [0, 4, 5, 6, 7, 8, 9] (.done)) (Plan.seq [4] (.alt (Plan.seq [0, 5, 6, 7, 8, 9] (.done)) (Plan.seq [5] (.alt (Plan.seq [0, 6, 7, 8, 9] (.done)) (Plan.seq [6] (.alt (Plan.seq [0, 7, 8, 9] (.done)) (Plan.seq [7, 0, 8, 9] (.done))))))))))) (Plan.seq [4] (.alt (Plan.seq [0, 1, 5, 6, 7, 8, 9] (.done)) (Plan.seq [1] (.alt (Plan.seq [0, 5, 6, 7, 8, 9] (.done)) (Plan.seq [5] (.alt (Plan.seq [0, 6, 7, 8, 9] (.done)) (Plan.seq [6] (.alt (Plan.seq [0, 7, 8, 9] (.done)) (Plan.seq [7, 0, 8, 9] (.done)))))))))))))))]
theorem letter_calls (c : Bool) (a b : UInt8) (σ : Store) : ACalls Tryz.prog 75 [.lit (.bool c), .lit (.string ⟨#[a]⟩), .lit (.string ⟨#[b]⟩)] σ fun v σ' => v = .lit (.string (toB [if c = true then a else b])) ∧ σ' = σ := by
  refine ACalls.of_awp follows (st := st75) (plans := pl75) (n := 10) Tryz.func75 rfl (by kernel_rfl) (by kernel_rfl) (by kernel_rfl) ?_
  cases c <;> simp [bt1]
theorem itoaN_calls (n : Nat) (h : n ≤ 1000000) (σ : Store) : ACalls Tryz.prog 73 [.lit (.int .i64 n)] σ fun v σ' => v = .lit (.string (toB (Lib.decDigits n))) ∧ σ' = σ := by
  have := itoaZ_calls (n : Int) (by omega) (by omega) σ
  rw [itoa_nat] at this
  exact this
theorem fldParts_eq (n : Int) (s : Sp) (a : Nat) : strsA (fldParts n s a) = [.lit (.string (toB (Lib.decDigits (a / s.cols)))), .lit (.string (toB (Lib.decDigits (a % s.cols)))), .lit (.string (toB [if (fldAt s a).prot = true then 80 else 85])), .lit (.string (toB [if (fldAt s a).num = true then 78 else 65])),
    .lit (.string (toB (Lib.decDigits (fldAt s a).disp))), .lit (.string (toB [if (fldAt s a).mod = true then 77 else 45])), .lit (.string (toB (fldTxt n s a)))] := rfl
set_option maxHeartbeats 4000000 in
set_option maxRecDepth 8000 in
theorem pfields_calls (hP : Prg Y q p s) (h : PS Y q p n pv τ) : ACalls Tryz.prog 24 [ptrA q, pv] τ fun v σ' => v = .list false 1 (strsA (fieldsL n s)) ∧ PS Y q p n pv σ' := by
  obtain ⟨a, ha⟩ := h.ptr
  rw [ha] at h ⊢
  clear ha
  have hdim : Dim s.rows s.cols := dim_of s.model s.alt
  refine ACalls.of_awpY follows (st := st24x) (plans := pl24x) (n := 62) Tryz.func24 rfl (by kernel_rfl) (by kernel_rfl) (by kernel_rfl) ?_
  simp
  intro z5 h5
  obtain ⟨y5, g5⟩ := h.new h5 [.list true 1 []]
  have hP5 : Prg (Y.upd z5 [.list true 1 []]) q p s := hP.new y5 _
  have hsz := size_calls (g5.prg hP5)
  refine callK.eq hsz ?_
  simp
  intro z6 h6
  rw [del_upd_new (by simpa using h6)]
  clear hsz
  refine callK.of (fields_calls2 q _) ?_
  rintro v τ2 ⟨b, hb, rfl, rfl⟩
  obtain ⟨yb, g6⟩ := g5.new hb [ptrA q]
  have sw : ∀ {i j : Nat}, ¬ i = j → ¬ j = i := fun h e => h e.symm
  have nb5 : ¬ b = z5 := fun e => by subst e; simp at hb
  have yb0 : Y b = none := by simpa [nb5] using yb
  let Yf : Nat → Store := fun k => (Y.upd z5 [.list true 1 (strsA ((fieldsL n s).take k))]).upd b [ptrA q]
  have hYf : ∀ k, Yf k = (Y.upd z5 [.list true 1 (strsA ((fieldsL n s).take k))]).upd b [ptrA q] := fun _ => rfl
  have hPf : ∀ k, Prg (Yf k) q p s := fun k => (hP.new y5 _).new (by simp [nb5, yb0]) _
  have hf5 : ∀ k, Yf k z5 = some [.list true 1 (strsA ((fieldsL n s).take k))] := fun k => by rw [hYf]; simp [sw nb5]
  have hfb : ∀ k, Yf k b = some [ptrA q] := fun k => by rw [hYf]; simp
  have hfu : ∀ k, (Yf k).upd z5 [.list true 1 (strsA ((fieldsL n s).take (k + 1)))] = Yf (k + 1) := fun k => by
    rw [hYf, hYf, supd_swap _ nb5, supd_supd]
  have g60 : PS (Yf 0) q p n (.lit (.pointer a)) ((τ.upd z5 [.list true 1 []]).upd b [ptrA q]) := g6
  have hback : ∀ k τ0, PS (Yf k) q p n (.lit (.pointer a)) τ0 → ∃ τ', PS Y q p n (.lit (.pointer a)) τ' ∧ Store.sub τ' τ0 := fun k τ0 h0 => by
    rw [hYf] at h0
    obtain ⟨τ3, h4, s4⟩ := h0.drop (by simp [nb5, yb0])
    obtain ⟨τ5, h5, s5⟩ := h4.drop y5
    exact ⟨τ5, h5, Store.sub_trans s5 s4⟩
  clear_value Yf
  simp
  refine codeYK.rangeG follows (st := st24x) (plans := pl24x) (fields_iter b q p s _) (by simp) (by simp) (fun k τ h => rfl) (by kernel_rfl) (by kernel_rfl) (by kernel_rfl)
    (fun k ρ E => ∃ τ0, PS (Yf k) q p n (.lit (.pointer a)) τ0 ∧ Store.sub τ0 ρ) (fun c ρ E => False) _ ⟨_, g60, Store.sub_refl _⟩ (Store.sub_refl _) ?_ ?_ ?_ ?_
  · rintro k ρ E hk ⟨τ0, h1, h2⟩
    have hs := Store.sub_trans h1.sub h2
    exact ⟨sub_at (hfb k) hs, (hPf k).more hs⟩
  · rintro k hk ρ E ⟨τ0, h1, h2⟩
    have hs := Store.sub_trans h1.sub h2
    have x5 := sub_at (hf5 k) hs
    have hPr : Prg ρ q p s := (hPf k).more hs
    have hg := hP.good
    have hm := Sp.mem_attrs (List.getElem_mem hk)
    have hS := fieldsL_succ n s k hk
    have hSl := fieldsL_len n s k (by omega)
    have hat : atFld s k = (s.attrs[k], fldAt s s.attrs[k]) := by unfold atFld fldAt; simp [hk]
    rw [hat]
    have hrc := fun τ => row_of_calls hdim (s.attrs[k] : Nat) τ
    have hcc := fun τ => col_of_calls hdim (s.attrs[k] : Nat) τ
    generalize s.attrs[k] = at0 at *
    obtain ⟨hac, hatt⟩ := hm
    have ha : at0 < s.n := by rw [← hg.len]; exact hac
    have hwr : wrap (s.rows * s.cols) (at0 : Nat) = at0 := wrap_of_lt (show at0 < s.n from ha)
    rw [hwr] at hrc hcc
    have hfa : fldA (fldAt s at0) = .agg [.lit (.bool (fldAt s at0).prot), .lit (.bool (fldAt s at0).num), .lit (.int .i64 (fldAt s at0).disp), .lit (.bool (fldAt s at0).mod)] := rfl
    have hdisp := disp_le s at0
    have hsn := s.n_le
    have q1 : at0 / s.cols ≤ at0 := Nat.div_le_self _ _
    have q2 : at0 % s.cols ≤ at0 := Nat.mod_le _ _
    have hal : s.attrs.length ≤ s.n := by
      have : s.attrs.length ≤ s.cells.length := by simpa [Sp.attrs] using List.length_filter_le _ (List.range s.cells.length)
      rw [← hg.len]; exact this
    have hpn := places_length' s.cells at0
    have hll : Sp.len s.cells at0 < s.n := by rw [← hg.len]; exact Sp.len_lt hac
    have hpe := fldParts_eq n s at0
    have hfl : fldL n s at0 = Lib.join (fldParts n s at0) [32] := rfl
    have hFt := fldTxt_len n hg ha
    have hjl : (Lib.join (fldParts n s at0) [32]).length ≤ 1000000 := by
      have l1 := dec_len (n := at0 / s.cols) (by omega)
      have l2 := dec_len (n := at0 % s.cols) (by omega)
      have l3 := dec_len (n := (fldAt s at0).disp) (by omega)
      rw [← hfl, fldL_eq]
      simp only [List.length_append, List.length_cons, List.length_nil]
      omega
    have hjoin := fun τ => join_calls true (fldParts n s at0) [32] (by simp [fldParts]) (by omega) τ
    rw [← hfl] at hjoin
    have htr := fun τ => trimmed_calls ((Sp.places s.cells at0).map (signAt n s)) (by rw [List.length_map, hpn]; omega) τ
    have hFx : lineB ((Sp.places s.cells at0).map (signAt n s)) = fldTxt n s at0 := rfl
    rw [hFx] at htr
    have i1 := fun τ => itoaN_calls (at0 / s.cols) (by omega) τ
    have i2 := fun τ => itoaN_calls (at0 % s.cols) (by omega) τ
    have i3 := fun τ => itoaN_calls (fldAt s at0).disp (by omega) τ
    have hsp := fun j hj => sign_place hg ha hatt (k := j) hj n
    have hpt := fun j (hj : j < Sp.len s.cells at0) => places_take_succ hj
    rw [hpe] at hjoin
    clear hFx hfl hpe hjl hFt
    have hf5k := hf5 k
    generalize Lib.decDigits (at0 / s.cols) = d1 at *
    generalize Lib.decDigits (at0 % s.cols) = d2 at *
    generalize Lib.decDigits (fldAt s at0).disp = d3 at *
    generalize at0 / s.cols = n1 at *
    generalize at0 % s.cols = n2 at *
    generalize fldTxt n s at0 = FT at *
    generalize fldL n s at0 = FL at *
    generalize fldAt s at0 = F at *
    generalize strsA ((fieldsL n s).take k) = SK at *
    simp only [hfa]
    simp
    intro z8 h8
    rw [del_upd_new h8]
    clear h8
    refine callK.eq (hrc _) ?_
    simp
    refine callK.eq (i1 _) ?_
    simp
    refine callK.eq (hcc _) ?_
    simp
    refine callK.eq (i2 _) ?_
    simp
    refine callK.eq (letter_calls _ _ _ _) ?_
    simp
    refine callK.eq (letter_calls _ _ _ _) ?_
    simp
    refine callK.eq (i3 _) ?_
    simp
    refine callK.eq (letter_calls _ _ _ _) ?_
    simp
    intro z10 h10
    obtain ⟨y10, g10⟩ := h1.new (sub_none h2 h10) [.list true 1 []]
    have k2 := sub_upd2 h2 z10 [.list true 1 []]
    have hP10 := (hPf k).new y10 [.list true 1 []]
    have n105 : ¬ z10 = z5 := fun e => by subst e; rw [x5] at h10; cases h10
    refine callK.of (places_calls2 q _ _) ?_
    rintro v ρ2 ⟨b2, c2, hb2, hc2, nbc, rfl, rfl⟩
    obtain ⟨yb2, g11⟩ := g10.new (sub_none k2 hb2) [ptrA q]
    have k3 := sub_upd2 k2 b2 [ptrA q]
    have hc2' : ((τ0.upd z10 [.list true 1 []]).upd b2 [ptrA q]) c2 = none := by
      have := sub_none k2 hc2
      simp [sw nbc]; simpa using this
    obtain ⟨yc2, g12⟩ := g11.new hc2' [.lit (.int .i64 (at0 : Nat))]
    have k4 := sub_upd2 k3 c2 [.lit (.int .i64 (at0 : Nat))]
    have nb10 : ¬ b2 = z10 := fun e => by subst e; simp at hb2
    have nc10 : ¬ c2 = z10 := fun e => by subst e; simp at hc2
    have yb2' : Yf k b2 = none := by simpa [nb10] using yb2
    have yc2' : Yf k c2 = none := by simpa [nc10, sw nbc] using yc2
    let Yg : Nat → Store := fun j => (((Yf k).upd z10 [.list true 1 (r32A (((Sp.places s.cells at0).map (signAt n s)).take j))]).upd b2 [ptrA q]).upd c2 [.lit (.int .i64 (at0 : Nat))]
    have hYg : ∀ j, Yg j = (((Yf k).upd z10 [.list true 1 (r32A (((Sp.places s.cells at0).map (signAt n s)).take j))]).upd b2 [ptrA q]).upd c2 [.lit (.int .i64 (at0 : Nat))] := fun _ => rfl
    have hPg : ∀ j, Prg (Yg j) q p s := fun j => (((hPf k).new y10 _).new (by simp [nb10, yb2']) _).new (by simp [nc10, sw nbc, yc2']) _
    have hg10 : ∀ j, Yg j z10 = some [.list true 1 (r32A (((Sp.places s.cells at0).map (signAt n s)).take j))] := fun j => by rw [hYg]; simp [sw nb10, sw nc10]
    have hgb : ∀ j, Yg j b2 = some [ptrA q] := fun j => by rw [hYg]; simp [nbc]
    have hgc : ∀ j, Yg j c2 = some [.lit (.int .i64 (at0 : Nat))] := fun j => by rw [hYg]; simp
    have hg5 : ∀ j, Yg j z5 = some [.list true 1 SK] := fun j => by
      have n1 : ¬ z5 = b2 := fun e => by subst e; rw [hf5 k] at yb2'; cases yb2'
      have n2 : ¬ z5 = c2 := fun e => by subst e; rw [hf5 k] at yc2'; cases yc2'
      rw [hYg]; simp [n1, n2, sw n105, hf5k]
    have hgu : ∀ j C, (Yg j).upd z10 [.list true 1 C] = (((Yf k).upd z10 [.list true 1 C]).upd b2 [ptrA q]).upd c2 [.lit (.int .i64 (at0 : Nat))] := fun j C => by
      rw [hYg, supd_swap _ nc10, supd_swap _ nb10, supd_supd]
    have g120 : PS (Yg 0) q p n (.lit (.pointer a)) (((τ0.upd z10 [.list true 1 []]).upd b2 [ptrA q]).upd c2 [.lit (.int .i64 (at0 : Nat))]) := g12
    have hbackg : ∀ j τ0, PS (Yg j) q p n (.lit (.pointer a)) τ0 → ∃ τ', PS (Yf k) q p n (.lit (.pointer a)) τ' ∧ Store.sub τ' τ0 := fun j τ0 h0 => by
      rw [hYg] at h0
      obtain ⟨τ3, h4, s4⟩ := h0.drop (by simp [nc10, sw nbc, yc2'])
      obtain ⟨τ5, h5, s5⟩ := h4.drop (by simp [nb10, yb2'])
      obtain ⟨τ6, h6, s6⟩ := h5.drop y10
      exact ⟨τ6, h6, Store.sub_trans s6 (Store.sub_trans s5 s4)⟩
    have nqp : ¬ q = z10 ∧ ¬ p = z10 := by
      obtain ⟨r1, r2, _, _⟩ := (hPf k).fresh y10
      exact ⟨r1, r2⟩
    clear_value Yg
    clear g10 g11 g12
    simp
    refine codeYK.rangeG follows (st := st24x) (plans := pl24x) (places_iter b2 c2 q p s at0 ha hatt _) (by simp) (by simp) (fun k τ h => rfl) (by kernel_rfl) (by kernel_rfl) (by kernel_rfl)
      (fun j ρ E => ∃ τ0, PS (Yg j) q p n (.lit (.pointer a)) τ0 ∧ Store.sub τ0 ρ) (fun c ρ E => False) _ ⟨_, g120, k4⟩ (Store.sub_refl _) ?_ ?_ ?_ ?_
    · rintro j ρ3 E3 hj ⟨τ1, h3, h4⟩
      have hs3 := Store.sub_trans h3.sub h4
      exact ⟨sub_at (hgb j) hs3, sub_at (hgc j) hs3, (hPg j).more hs3⟩
    · rintro j hj ρ3 E3 ⟨τ1, h3, h4⟩
      have hs3 := Store.sub_trans h3.sub h4
      have x10 := sub_at (hg10 j) hs3
      have e1 := hsp j hj
      have hg10j := hg10 j
      have hjn : r32A (((Sp.places s.cells at0).map (signAt n s)).take (j + 1)) = r32A (((Sp.places s.cells at0).map (signAt n s)).take j) ++ [.lit (.int .i32 (signAt n s ((at0 + j + 1) % s.n) : Nat))] := by
        have := hpt j hj
        rw [hg.len] at this
        rw [← List.map_take, ← List.map_take, this, List.map_append]
        simp [r32A]
      have hgn := hgu j (r32A (((Sp.places s.cells at0).map (signAt n s)).take (j + 1)))
      rw [← hYg] at hgn
      have hlj : (r32A (((Sp.places s.cells at0).map (signAt n s)).take j)).length = j := by simp; omega
      have hnx := fun C (h : PS (Yg j) q p n (.lit (.pointer a)) τ1) => h.upd (z := z10) (C := C) (h.ne (hg10 j))
      rw [hjn] at hgn
      generalize r32A (((Sp.places s.cells at0).map (signAt n s)).take j) = LJ at *
      have hPgl : Prg ((Yg j).upd z10 [.list false 1 LJ]) q p s := (hPg j).upd nqp _
      have hsg := psgn_calls (hPg j) h3 (((at0 + j + 1) % s.n : Nat) : Int) (decide (F.disp = 3))
      have hsl := psgn_calls hPgl (hnx [.list false 1 LJ] h3) (((at0 + j + 1) % s.n : Nat) : Int) (decide (F.disp = 3))
      rw [e1] at hsg hsl
      generalize signAt n s ((at0 + j + 1) % s.n) = sg at *
      generalize (at0 + j + 1) % s.n = m at *
      simp [x10]
      repeat' with_reducible apply And.intro
      all_goals
        refine callK.eq (hidden_calls _ _ _ _ _) ?_
        simp [x10]
        repeat' with_reducible apply And.intro
        all_goals
          first
            | refine callK.of (forget_calls hsg h4) ?_
              rintro v τ6 ⟨rfl, h6⟩
              have x6 := sub_at hg10j h6.sub
              have h7 := h6.upd (z := z10) (C := [.list true 1 (LJ ++ [.lit (.int .i32 (sg : Nat))])]) (h6.ne hg10j)
              rw [hgn] at h7
              simp [x6, hlj]
            | refine callK.of (forget_calls hsl (sub_upd2 h4 _ _)) ?_
              rintro v τ6 ⟨rfl, h6⟩
              have x6 : τ6 z10 = some [.list false 1 LJ] := sub_at (by simp) h6.sub
              have h7 := h6.upd (z := z10) (C := [.list true 1 (LJ ++ [.lit (.int .i32 (sg : Nat))])]) (h6.ne (by simp; rfl))
              rw [supd_supd, hgn] at h7
              simp [x6, hlj]
          exact ⟨by omega, by omega, _, Store.sub_refl _, _, h7, Store.sub_refl _⟩
    · rintro ρ3 E3 σ' hs' ⟨τ1, h3, h4⟩
      have hs3 := Store.sub_trans (Store.sub_trans h3.sub h4) hs'
      have x10 := sub_at (hg10 _) hs3
      have x5' := sub_at (hg5 (Sp.len s.cells at0)) hs3
      have hall : ((Sp.places s.cells at0).map (signAt n s)).take (Sp.len s.cells at0) = (Sp.places s.cells at0).map (signAt n s) := List.take_of_length_le (by rw [List.length_map, hpn]; exact Nat.le_refl _)
      rw [hall] at x10
      have n510 : ¬ z5 = z10 := fun e => n105 e.symm
      obtain ⟨τ6, h6, s6⟩ := hbackg _ _ h3
      have h7 := h6.upd (z := z5) (C := [.list true 1 (SK ++ [.lit (.string (toB FL))])]) (h6.ne hf5k)
      have hfk := hfu k
      rw [hS] at hfk
      rw [hfk] at h7
      have s7 := sub_upd2 (Store.sub_trans s6 (Store.sub_trans h4 hs')) z5 [.list true 1 (SK ++ [.lit (.string (toB FL))])]
      have hsp1 : (⟨#[32]⟩ : ByteArray) = toB [32] := bt1 32
      simp [x10, x5', n105, n510]
      repeat' first
        | with_reducible apply And.intro
        | (refine callK.eq (htr _) ?_
           simp [x10, x5', n105, n510, hsp1])
        | (refine callK.eq (hjoin _) ?_
           simp [x10, x5', n105, n510, hSl])
      all_goals first | exact ⟨_, Store.sub_refl _, _, h7, s7⟩ | omega
    · rintro c ρ3 E3 σ' _ h
      exact h.elim
  · rintro ρ E σ' hs' ⟨τ0, h1, h2⟩
    have hs := Store.sub_trans (Store.sub_trans h1.sub h2) hs'
    have x5 := sub_at (hf5 _) hs
    obtain ⟨τ9, h9, s9⟩ := hback _ _ h1
    have : (fieldsL n s).take s.attrs.length = fieldsL n s := List.take_of_length_le (by simp [fieldsL])
    rw [this] at x5
    simp [x5]
    exact ⟨_, AV.le_refl _, τ9, Store.sub_trans s9 (Store.sub_trans h2 hs'), rfl, h9⟩
  · rintro c ρ E σ' _ h
    exact h.elim
end Go.Proofs.YtlmdbcgceijlnaaGreatDoor
/-
  Two digits of a byte: the program's and the document's.
-/
namespace Go.Proofs.YtlmdbcgceijlnaaGreatDoor
open Go Go.AL Go.Sp
variable {σ Y Z τ : Store} {q p b x y : Nat} {s : Sp} {n : Int} {pv : AV}

def hexL : List UInt8 := [48, 49, 50, 51, 52, 53, 54, 55, 56, 57, 97, 98, 99, 100, 101, 102]
def hexB (c : UInt8) : List UInt8 := [hexL.getD (c.toNat / 16) 0, hexL.getD (c.toNat % 16) 0]
end Go.Proofs.YtlmdbcgceijlnaaGreatDoor
/-
  The codes of all cells: the program's and the document's.
-/
namespace Go.Proofs.YtlmdbcgceijlnaaGreatDoor
open Go Go.AL Go.Sp
variable {σ Y Z τ : Store} {q p b x y : Nat} {s : Sp} {n : Int} {pv : AV}

def codeC (c : Cell) : List UInt8 := if c.attr = true then 32 :: (hexB c.fa ++ [32]) else hexB c.char
def codesTo (s : Sp) (k : Nat) : List UInt8 := ((List.range k).map fun i => codeC (s.cells[i]?.getD .zero)).flatten
@[simp] def st26r : List Nat := [2000003, 5000005]
end Go.Proofs.YtlmdbcgceijlnaaGreatDoor
/-
  SnapDiffs.
-/
namespace Go.Proofs.YtlmdbcgceijlnaaGreatDoor
open Go Go.AL Go.Sp
variable {σ Y Z τ : Store} {q p q2 p2 b x y : Nat} {s t : Sp} {n : Int} {pv : AV}

theorem Four.less {q p x y : Nat} (h : Four τ q p x y) (hs : Store.sub Y τ) : Four Y q p x y := by
  have k : ∀ {z : Nat}, τ z = none → Y z = none := fun {z} hz => by
    rcases hs z with h | h
    · exact h
    · rw [h]; exact hz
  obtain ⟨f1, f2, f3, f4, f5, f6, f7, f8, f9, f10⟩ := h
  exact ⟨k f1, k f2, k f3, k f4, f5, f6, f7, f8, f9, f10⟩
theorem lineAt_upTo (n : Int) {s : Sp} (h : s.good) (k : Nat) : lineAt n (upTo s s.n) k = lineAt n s k := by
  unfold lineAt
  rw [signsL_upTo n h]
  rfl
end Go.Proofs.YtlmdbcgceijlnaaGreatDoor
/-
  SnapLines.
-/
namespace Go.Proofs.YtlmdbcgceijlnaaGreatDoor
open Go Go.AL Go.Sp
variable {σ Y Z τ : Store} {q p q2 p2 b x y : Nat} {s t : Sp} {n : Int} {pv : AV}

theorem textTo_upTo (n : Int) {s : Sp} (h : s.good) (k : Nat) : textTo n (upTo s s.n) k = textTo n s k := by
  unfold textTo
  congr 2
  funext i
  rw [lineAt_upTo n h]
end Go.Proofs.YtlmdbcgceijlnaaGreatDoor
/-
  SnapFields.
-/
namespace Go.Proofs.YtlmdbcgceijlnaaGreatDoor
open Go Go.AL Go.Sp
variable {σ Y Z τ : Store} {q p q2 p2 b x y : Nat} {s t : Sp} {n : Int} {pv : AV}

end Go.Proofs.YtlmdbcgceijlnaaGreatDoor
/-
  Screens that differ in a hidden field alone are shown alike.
-/
namespace Go.Proofs.YtlmdbcgceijlnaaGreatDoor
open Go Go.AL Go.Sp
variable {σ Y Z τ : Store} {q p q2 p2 b x y : Nat} {s t : Sp} {n : Int} {pv : AV}

def cellN (l : List Cell) (i : Nat) : Cell := l[i]?.getD .zero
/-- The same fields. -/
structure Tw (l m : List Cell) : Prop where
  len : m.length = l.length
  attr : ∀ i, (cellN m i).attr = (cellN l i).attr
  fa : ∀ i, (cellN m i).fa = (cellN l i).fa
theorem Tw.at {l m : List Cell} (h : Tw l m) : attrAt m = attrAt l := funext fun i => h.attr i
theorem Tw.last {l m : List Cell} (h : Tw l m) (z : Int) : ∀ k, lastA m z k = lastA l z k
  | 0 => rfl
  | k + 1 => by rw [lastA, lastA, h.at, h.last z k]
theorem Tw.start {l m : List Cell} (h : Tw l m) (k : Nat) : startS m k = startS l k := by
  unfold startS
  rw [h.len, h.last, h.last]
theorem Tw.run {l m : List Cell} (h : Tw l m) (a : Nat) : ∀ k, Sp.run m a k = Sp.run l a k
  | 0 => rfl
  | k + 1 => by rw [Sp.run, Sp.run, h.run a k, h.at, h.len]
theorem Tw.places {l m : List Cell} (h : Tw l m) (a : Nat) : Sp.places m a = Sp.places l a := by
  unfold Sp.places Sp.len
  rw [h.len, h.run]
theorem Tw.fld {s t : Sp} (h : Tw s.cells t.cells) (a : Nat) : fldAt t a = fldAt s a := by
  unfold fldAt
  have := h.fa a
  unfold cellN at this
  rw [this]
theorem Tw.attrs {s t : Sp} (h : Tw s.cells t.cells) : t.attrs = s.attrs := by
  unfold Sp.attrs
  rw [h.len]
  congr 1
  funext i
  have := h.attr i
  unfold cellN at this
  rw [this]
theorem Tw.hid {s t : Sp} (h : Tw s.cells t.cells) (k : Nat) : hidAt t k = hidAt s k := by
  unfold hidAt fofF
  rw [h.start, h.fld]
theorem Tw.sign {s t : Sp} (h : Tw s.cells t.cells) (hh : ∀ i, cellN t.cells i = cellN s.cells i ∨ hidAt s i = true) (n : Int) : signAt n t = signAt n s := funext fun k => by
  unfold signAt
  rw [h.hid]
  rcases hh k with e | e
  · unfold cellN at e; rw [e]
  · rw [e]; unfold signN; simp
theorem lineAt_eq {s t : Sp} {n : Int} (h : signAt n t = signAt n s) (hr : t.rows = s.rows) (hc : t.cols = s.cols) : lineAt n t = lineAt n s := funext fun k => by
  have hn : t.n = s.n := by unfold Sp.n; rw [hr, hc]
  unfold lineAt signsL
  rw [h, hn, hc]
theorem textTo_eq {s t : Sp} {n : Int} (h : signAt n t = signAt n s) (hr : t.rows = s.rows) (hc : t.cols = s.cols) (k : Nat) : textTo n t k = textTo n s k := by
  unfold textTo
  rw [lineAt_eq h hr hc]
theorem fieldsL_eq {s t : Sp} {n : Int} (hT : Tw s.cells t.cells) (h : signAt n t = signAt n s) (hc : t.cols = s.cols) : fieldsL n t = fieldsL n s := by
  unfold fieldsL
  rw [hT.attrs]
  congr 1
  funext a
  unfold fldL fldParts fldTxt
  rw [h, hc, hT.fld, hT.places]
theorem diffTo_eq {s t : Sp} {n : Int} (h : signAt n t = signAt n s) (hr : t.rows = s.rows) (hc : t.cols = s.cols) (k : Nat) : diffTo n s t k = [] := by
  unfold diffTo tells
  rw [lineAt_eq h hr hc, hr, hc]
  simp
/-- A code is put into a hidden field. -/
theorem hide_put {s : Sp} (h : s.good) (k : Int) (c : UInt8) (h1 : 0 ≤ startS s.cells (wrap s.n k)) (h2 : (fldAt s (startS s.cells (wrap s.n k)).toNat).disp = 3) (h3 : attrAt s.cells (wrap s.n k) = false) :
    hidAt s (wrap s.n k) = true ∧ Tw s.cells (s.put k c).cells ∧ (∀ i, cellN (s.put k c).cells i = cellN s.cells i ∨ hidAt s i = true) ∧ (s.put k c).rows = s.rows ∧ (s.put k c).cols = s.cols := by
  have hd : hidAt s (wrap s.n k) = true := by
    unfold hidAt fofF
    rw [if_pos h1, h2]; rfl
  have hlt := wrap_lt s.n_pos k
  have hlt' : wrap s.n k < s.cells.length := by rw [h.len]; exact hlt
  have ha : (s.at k).attr = false := h3
  obtain ⟨e1, -⟩ := put_cells h k c ha
  have hmod := s.model_put k c
  have hcell : ∀ i, cellN (s.put k c).cells i = if wrap s.n k = i then { s.at k with char := c } else cellN s.cells i := fun i => by
    unfold cellN
    rw [e1, List.getElem?_set]
    split
    · rename_i e; simp [hlt', ← e]
    · rfl
  have hself : ∀ i, wrap s.n k = i → cellN s.cells i = s.at k := fun i e => by subst e; rfl
  refine ⟨hd, ⟨by rw [e1]; simp, fun i => ?_, fun i => ?_⟩, fun i => ?_, ?_, ?_⟩
  · rw [hcell]; split
    · rename_i e; rw [hself i e]
    · rfl
  · rw [hcell]; split
    · rename_i e; rw [hself i e]
    · rfl
  · rw [hcell]; split
    · rename_i e; exact .inr (e ▸ hd)
    · exact .inl rfl
  · unfold Sp.rows; rw [hmod.1, hmod.2]
  · unfold Sp.cols; rw [hmod.1, hmod.2]
set_option maxRecDepth 8000 in
theorem rstartI_calls {s : Sp} (h : Ref σ x y s) (k : Int) : ACalls Tryz.prog 45 [ptrA x, .lit (.int .i64 k)] σ fun v σ' => v = .lit (.int .i64 (startS s.cells (wrap s.n k))) ∧ σ' = σ := by
  have hst := starts_calls h
  have hwr := fun τ (hτ : Ref τ x y s) => rswrap_calls hτ k
  have hi : wrap s.n k < s.n := wrap_lt s.n_pos k
  have hat := starts_at (s := s) hi
  generalize wrap s.n k = i at *
  refine ACalls.of_awp follows (st := st45) (plans := pl45) (n := 12) Tryz.func45 rfl (by kernel_rfl) (by kernel_rfl) (by kernel_rfl) ?_
  simp
  refine callK.of hst ?_
  rintro v τ ⟨p, hp, rfl, rfl⟩
  simp
  refine callK.eq (hwr _ (h.new hp _)) ?_
  simp [rowC, hi, hat]
  exact Store.sub_upd hp (Store.sub_refl _)
set_option maxRecDepth 8000 in
theorem rtext_calls (h : Ref σ x y s) (hn : isPage n) : ACalls Tryz.prog 47 [ptrA x, .lit (.int .i64 n)] σ fun v σ' => v = .lit (.string (toB (textTo n s s.rows))) ∧ σ' = σ := by
  have hdim : Dim s.rows s.cols := dim_of s.model s.alt
  have hr1 := hdim.r1
  have hr2 := hdim.r2
  have hs1 : (strsA (linesL n s)).length = s.rows := by simp [strsA, linesL_length]
  have hl1 : ∀ k, k < s.rows → (strsA (linesL n s))[k]? = some (.lit (.string (toB (lineAt n s k)))) := fun k h => by
    rw [strsA_at _ _ (by rw [linesL_length]; exact h)]
    simp [linesL, h]
  refine ACalls.of_awp follows (st := st47) (plans := pl47) (n := 22) Tryz.func47 rfl (by kernel_rfl) (by kernel_rfl) (by kernel_rfl) ?_
  simp
  refine callK.eq (rlines_calls h hn) ?_
  simp
  refine codeK.loop follows (st := st47) (plans := pl47) (X := Nat) (fun k => k ≤ s.rows)
    (fun j => [(5, .lit (.string (toB (textTo n s j)))), (10, .list false 1 (strsA (linesL n s))), (11, .lit (.int .i64 s.rows)), (12, .lit (.int .i64 j))]) (fun _ => σ) (fun k => s.rows - k) 0 (by kernel_rfl) (by simp) (by simp [hs1, textTo, toB]) (Store.sub_refl _) fun j hj => ?_
  by_cases hlt : j < s.rows
  · have hw : IntKind.i64.wrap ((j : Int) + 1) = ((j + 1 : Nat) : Int) := wrap_i64 (by omega) (by omega)
    have hj1 := hl1 j hlt
    have hgj : ∀ h : j < (strsA (linesL n s)).length, (strsA (linesL n s))[j]'h = .lit (.string (toB (lineAt n s j))) := fun h => by rw [List.getElem?_eq_getElem h] at hj1; exact Option.some.inj hj1
    have hlk := lineAt_len n s j
    have htl := textTo_len n s j
    have hts := textTo_succ n s j
    generalize lineAt n s j = LA at *
    generalize strsA (linesL n s) = SL at *
    have he : toB LA ++ ⟨#[10]⟩ = toB (LA ++ [10]) := toB_app LA [10]
    have he2 : toB (textTo n s j) ++ toB (LA ++ [10]) = toB (textTo n s (j + 1)) := by rw [toB_app, hts]
    have hs10 : (⟨#[10]⟩ : ByteArray).size = 1 := rfl
    have hz1 : (toB LA).size = LA.length := toB_size _
    have hz2 : (toB (textTo n s j)).size = (textTo n s j).length := toB_size _
    have hz3 : (toB (LA ++ [10])).size = LA.length + 1 := by rw [toB_size]; simp
    have hno : ¬ (9223372036854775807 : Int) < (LA.length : Int) + 1 := by omega
    have hno2 : ¬ (9223372036854775807 : Int) < ((textTo n s j).length : Int) + ((LA.length : Int) + 1) := by omega
    simp [hlt, hs1, hj1, hgj, hw, he, he2, hs10, hz1, hz2, hz3, hno, hno2]
    exact ⟨j + 1, by omega, by omega, AV.le_refl _, AV.le_refl _⟩
  · obtain rfl : j = s.rows := by omega
    simp
end Go.Proofs.YtlmdbcgceijlnaaGreatDoor
