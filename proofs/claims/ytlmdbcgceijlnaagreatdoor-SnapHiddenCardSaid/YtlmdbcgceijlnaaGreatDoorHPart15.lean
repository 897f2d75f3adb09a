/-
  Where a field starts; whether one may write there; the next field.
-/
import Derived.Test.YtlmdbcgceijlnaaGreatDoorHPart14
set_option linter.unusedSimpArgs false
set_option linter.unusedVariables false
namespace Go.Proofs.YtlmdbcgceijlnaaGreatDoor
open Go Go.AL Go.Sp

theorem attrAt_at {s : Sp} {n : Nat} (hn : n < s.n) : (s.at (n : Int)).attr = attrAt s.cells n := by
  unfold Sp.at attrAt; rw [wrap_of_lt hn]
theorem count_some {s : Sp} (h : 0 < s.count) : ∃ a, a < s.cells.length ∧ attrAt s.cells a = true := by
  unfold Sp.count at h
  rw [List.countP_pos_iff] at h
  obtain ⟨c, hm, hc⟩ := h
  obtain ⟨i, hi, rfl⟩ := List.getElem_of_mem hm
  exact ⟨i, hi, by unfold attrAt; rw [List.getElem?_eq_getElem hi]; exact hc⟩
theorem startS_none {s : Sp} (h : s.count = 0) (n : Nat) : startS s.cells n = -1 := by
  have hno : ∀ i, attrAt s.cells i = false := fun i => by
    cases ha : attrAt s.cells i with
    | false => rfl
    | true =>
      exfalso
      unfold attrAt at ha
      cases hi : s.cells[i]? with
      | none => rw [hi] at ha; exact absurd ha (by decide)
      | some c =>
        rw [hi] at ha
        have : 0 < s.cells.countP (·.attr) := List.countP_pos_iff.2 ⟨c, List.mem_of_getElem? hi, ha⟩
        unfold Sp.count at h; omega
  unfold startS
  rw [lastA_none fun i _ => hno i, lastA_none fun i _ => hno i]
/-- From a place back to an attribute. -/
theorem back_start {s : Sp} (h : s.good) {n j : Nat} (hn : n < s.n) (hj : j < s.n) (hfree : ∀ i, i < j → attrAt s.cells ((n + s.n - i) % s.n) = false) (hat : attrAt s.cells ((n + s.n - j) % s.n) = true) : startS s.cells n = ((n + s.n - j) % s.n : Nat) := by
  have hl := h.len
  have hpos := s.n_pos
  have ha : (n + s.n - j) % s.n < s.cells.length := by rw [hl]; exact Nat.mod_lt _ hpos
  have key := startS_in hat ha (i := j) (by omega) (fun k h1 h2 => by
    have := hfree (j - k) (by omega)
    rw [hl]
    have e : ((n + s.n - j) % s.n + k) % s.n = (n + s.n - (j - k)) % s.n := by
      rw [Nat.mod_add_mod]; congr 1; omega
    rw [e]; exact this)
  have e2 : ((n + s.n - j) % s.n + j) % s.cells.length = n := by
    rw [hl, Nat.mod_add_mod, show n + s.n - j + j = n + s.n from by omega, Nat.add_mod_right, Nat.mod_eq_of_lt hn]
  rw [e2] at key
  exact key
theorem wrap_pred {N m : Nat} (hN : 0 < N) (hm : m < N) : wrap N ((m : Int) - 1) = (m + N - 1) % N := by
  unfold wrap
  have e : ((m : Int) - 1) % (N : Int) = ((m + N - 1 : Nat) : Int) % (N : Int) := by
    rw [show ((m + N - 1 : Nat) : Int) = ((m : Int) - 1) + N from by omega, Int.add_emod_right]
  rw [e, ← Int.natCast_emod]; rfl
set_option maxRecDepth 8000 in
theorem start_calls {q r : Nat} {s : Sp} {σ : Store} (h : Prg σ q r s) {n : Nat} (hn : n < s.n) : ACalls Tryz.prog 109 [ptrA q, .lit (.int .i64 n)] σ fun v σ' => v = .lit (.int .i64 (startS s.cells n)) ∧ σ' = σ := by
  have hf := fun τ (hτ : Prg τ q r s) => formatted_calls hτ
  have hsz := fun τ (hτ : Prg τ q r s) => size_calls hτ
  have hnl := s.n_le
  refine ACalls.of_awp follows (st := st109) (plans := pl109) (n := 24) Tryz.func109 rfl (by kernel_rfl) (by kernel_rfl) (by kernel_rfl) ?_
  by_cases hc : s.count = 0
  · have hs := startS_none hc n
    rw [hs]
    simp
    refine callK.of (hf _ h) ?_
    rintro v σ' ⟨rfl, rfl⟩
    simp [hc]
  · have hc' : 0 < s.count := by omega
    obtain ⟨a, ha, hat⟩ := count_some hc'
    have hw := fun τ => swrap_calls s (n : Int) τ
    rw [wrap_of_lt hn] at hw
    simp
    refine callK.of (hf _ h) ?_
    rintro v σ' ⟨rfl, rfl⟩
    simp [hc']
    refine callK.of (hsz _ h) ?_
    rintro v σ' ⟨rfl, rfl⟩
    simp
    intro b hb
    have hbq := h.fresh hb
    refine callK.of (hw _) ?_
    rintro v σ2 ⟨rfl, rfl⟩
    simp
    have hbk := @back_start s h.good n
    have hgood := h.good
    have hpos := s.n_pos
    -- as many steps back as there are places, at most
    have hstop : ∀ j, j < s.n → (∀ i, i < j → attrAt s.cells ((n + s.n - i) % s.n) = false) → attrAt s.cells ((n + s.n - j) % s.n) = false → j + 1 < s.n := fun j hj hfree hthis => by
      rcases Nat.lt_or_ge (j + 1) s.n with h1 | h1
      · exact h1
      · exfalso
        rw [h.good.len] at ha
        have e : (n + s.n - (n + s.n - a) % s.n) % s.n = a := by
          rcases Nat.lt_or_ge n a with h2 | h2
          · rw [Nat.mod_eq_of_lt (by omega : n + s.n - a < s.n), show n + s.n - (n + s.n - a) = a from by omega, Nat.mod_eq_of_lt ha]
          · rw [show n + s.n - a = (n - a) + s.n from by omega, Nat.add_mod_right, Nat.mod_eq_of_lt (by omega : n - a < s.n), show n + s.n - (n - a) = a + s.n from by omega, Nat.add_mod_right, Nat.mod_eq_of_lt ha]
        have hm := Nat.mod_lt (n + s.n - a) hpos
        rcases Nat.lt_or_ge ((n + s.n - a) % s.n) j with h3 | h3
        · have := hfree _ h3; rw [e, hat] at this; cases this
        · have : (n + s.n - a) % s.n = j := by omega
          rw [this] at e; rw [e, hat] at hthis; cases hthis
    refine codeK.loop follows (st := st109) (plans := pl109) (X := Nat) (fun j => j < s.n ∧ ∀ i, i < j → attrAt s.cells ((n + s.n - i) % s.n) = false)
      (fun j => [(0, ptrA q), (1, .lit (.int .i64 ((n + s.n - j) % s.n : Nat))), (5, ptrA b)]) (fun _ => σ'.upd b [.lit (.int .i64 s.rows), .lit (.int .i64 s.cols)]) (fun j => s.n - j) 0 (by kernel_rfl) ⟨hpos, fun i hi => by omega⟩ (by simp [Nat.mod_eq_of_lt hn]) (by first | exact Store.sub_refl _ | (intro q; simp only [Store.upd, Store.del]; (repeat' split) <;> first | exact Or.inr rfl | exact Or.inl rfl | (exfalso; omega) | (left; subst_vars; assumption) | simp_all)) fun j hj => ?_
    obtain ⟨hj, hfree⟩ := hj
    have hbk2 := hbk hn hj hfree
    have hstop2 := hstop j hj hfree
    have hm := Nat.mod_lt (n + s.n - j) hpos
    have hnext : ((n + s.n - j) % s.n + s.n - 1) % s.n = (n + s.n - (j + 1)) % s.n := by
      rcases Nat.lt_or_ge (n + s.n - j) s.n with h1 | h1
      · rw [Nat.mod_eq_of_lt h1, show n + s.n - j + s.n - 1 = (n + s.n - (j + 1)) + s.n from by omega, Nat.add_mod_right]
      · rw [show n + s.n - j = (n - j) + s.n from by omega, Nat.add_mod_right, Nat.mod_eq_of_lt (by omega : n - j < s.n), show n + s.n - (j + 1) = n - j + s.n - 1 from by omega]
    have hfree2 : attrAt s.cells ((n + s.n - j) % s.n) = false → ∀ i, i < j + 1 → attrAt s.cells ((n + s.n - i) % s.n) = false := fun h0 i hi => by
      by_cases e : i = j
      · subst e; exact h0
      · exact hfree i (by omega)
    have hnI : (((n + s.n - j) % s.n + s.n - 1 : Nat) : Int) % (s.n : Int) = ((n + s.n - (j + 1) : Nat) : Int) % (s.n : Int) := by
      have := congrArg (fun x : Nat => (x : Int)) hnext
      simpa using this
    have hat2 := attrAt_at hm
    have hwp := wrap_pred hpos hm
    generalize (n + s.n - j) % s.n = m at *
    have hsw := fun τ => swrap_calls s ((m : Int) - 1) τ
    rw [hwp] at hsw
    have hatc := fun τ (hτ : Prg τ q r s) => at_calls hτ (m : Int)
    simp only [cellA_eq, hat2] at hatc
    have hi : IntKind.i64.wrap ((m : Int) - 1) = (m : Int) - 1 := wrap_i64 (by omega) (by omega)
    simp
    refine callK.of (hatc _ (h.new hb _)) ?_
    rintro v σ3 ⟨rfl, rfl⟩
    by_cases h0 : attrAt s.cells m = true
    · rw [hbk2 h0]
      simp [h0]
      (intro q; simp only [Store.upd, Store.del]; (repeat' split) <;> first | exact Or.inr rfl | exact Or.inl rfl | (exfalso; omega) | (left; subst_vars; assumption) | simp_all)
    · have h0' : attrAt s.cells m = false := by simpa using h0
      simp [h0', hi]
      refine callK.of (hsw _) ?_
      rintro v σ3 ⟨rfl, rfl⟩
      simp
      exact ⟨j + 1, ⟨hstop2 h0', hfree2 h0'⟩, by omega, by rw [hnI]; exact AV.le_refl _⟩
theorem startS_at {s : Sp} (h : s.good) {n : Nat} (hn : n < s.n) (hc : ¬ s.count = 0) : 0 ≤ startS s.cells n ∧ (startS s.cells n).toNat < s.n := by
  have key : ∀ (l : List Cell) (i : Int) (m : Nat), lastA l i m = i ∨ ∃ a, a < m ∧ lastA l i m = (a : Nat) ∧ attrAt l a = true := by
    intro l i m
    induction m with
    | zero => exact .inl rfl
    | succ m ih =>
      have e : lastA l i (m + 1) = if attrAt l m = true then (m : Int) else lastA l i m := rfl
      rw [e]
      split
      · rename_i ha; exact .inr ⟨m, by omega, rfl, ha⟩
      · rcases ih with ih | ⟨a, h1, h2, h3⟩
        · exact .inl ih
        · exact .inr ⟨a, by omega, h2, h3⟩
  obtain ⟨b, hb, hbt⟩ := count_some (by omega : 0 < s.count)
  have hl := h.len
  have h2 : ∃ a, a < s.cells.length ∧ lastA s.cells (-1) s.cells.length = (a : Nat) := by
    rcases key s.cells (-1) s.cells.length with h1 | ⟨a, h1, h2, _⟩
    · exfalso
      have : ∀ m, m ≤ s.cells.length → b < m → lastA s.cells (-1) m ≠ -1 := by
        intro m hm hbm
        induction m with
        | zero => omega
        | succ m ih =>
          have e : lastA s.cells (-1) (m + 1) = if attrAt s.cells m = true then (m : Int) else lastA s.cells (-1) m := rfl
          rw [e]
          split
          · omega
          · rename_i hm'
            exact ih (by omega) (by
              rcases Nat.lt_or_ge b m with h | h
              · exact h
              · exfalso; obtain rfl : b = m := by omega
                exact hm' hbt)
      exact this _ (Nat.le_refl _) hb h1
    · exact ⟨a, h1, h2⟩
  obtain ⟨a, ha, he⟩ := h2
  unfold startS
  rw [he]
  rcases key s.cells (a : Int) (n + 1) with h1 | ⟨c, h1, h2, _⟩
  · rw [h1]; omega
  · rw [h2]; omega
set_option maxRecDepth 8000 in
theorem fof_calls {q r : Nat} {s : Sp} {σ : Store} (h : Prg σ q r s) {n : Nat} (hn : n < s.n) : ACalls Tryz.prog 65 [ptrA q, .lit (.int .i64 n)] σ fun v σ' => v = .tuple [if 0 ≤ startS s.cells n then fldA (fldAt s (startS s.cells n).toNat) else .agg [.lit (.bool false), .lit (.bool false), .lit (.int .i64 0), .lit (.bool false)], .lit (.bool (decide (0 ≤ startS s.cells n)))] ∧ σ' = σ := by
  have hst := fun τ (hτ : Prg τ q r s) => start_calls hτ hn
  have hfa : ∀ f : Fld, fldA f = .agg [.lit (.bool f.prot), .lit (.bool f.num), .lit (.int .i64 f.disp), .lit (.bool f.mod)] := fun _ => rfl
  refine ACalls.of_awp follows (st := st65) (plans := pl65) (n := 18) Tryz.func65 rfl (by kernel_rfl) (by kernel_rfl) (by kernel_rfl) ?_
  by_cases hc : s.count = 0
  · rw [startS_none hc n] at hst ⊢
    simp
    intro b hb
    refine callK.of (hst _ (h.new hb _)) ?_
    rintro v σ' ⟨rfl, rfl⟩
    simp
    exact sub_upd_self _ _ _ hb
  · obtain ⟨h1, h2⟩ := startS_at h.good hn hc
    obtain ⟨a, ha⟩ : ∃ a : Nat, startS s.cells n = a := ⟨_, (Int.toNat_of_nonneg h1).symm⟩
    rw [ha] at hst h2 ⊢
    simp only [Int.toNat_natCast] at h2 ⊢
    rw [if_pos (by omega)]
    have hat := fun τ (hτ : Prg τ q r s) => at_calls hτ (a : Int)
    have hae := at_of h.good h2
    have hfe : fldAt s a = fld (s.at (a : Int)).fa := by unfold fldAt; rw [hae]
    have hof := fun τ => of_calls (s.at (a : Int)).fa τ
    rw [hfe]
    simp only [cellA_eq] at hat
    rw [hfa] at hof ⊢
    have ha1 : ¬ (a : Int) = -1 := by omega
    have ha0 : (0 : Int) ≤ a := by omega
    simp
    intro b hb
    refine callK.of (hst _ (h.new hb _)) ?_
    rintro v σ' ⟨rfl, rfl⟩
    simp [ha1]
    refine callK.of (hat _ (h.new hb _)) ?_
    rintro v σ' ⟨rfl, rfl⟩
    simp
    refine callK.of (hof _) ?_
    rintro v σ' ⟨rfl, rfl⟩
    simp
    (intro q; simp only [Store.upd, Store.del]; (repeat' split) <;> first | exact Or.inr rfl | exact Or.inl rfl | (exfalso; omega) | (left; subst_vars; assumption) | simp_all)
end Go.Proofs.YtlmdbcgceijlnaaGreatDoor
/-
  What codes may be used for, by a page; small things of attributes.
-/
namespace Go.Proofs.YtlmdbcgceijlnaaGreatDoor
open Go Go.AL Go.Sp

set_option maxRecDepth 8000 in
theorem csign_calls (b : Nat) (n : Int) (hn : isPage n) (x : Option Nat) (c : UInt8) (σ : Store) : ACalls Tryz.prog 152 [ptrA b, byteA c] (pgS b n x σ) fun v σ' => v = .lit (.int .i32 ((sgF n c.toNat : Nat) : Int)) ∧ ∃ q, NxP σ x (some q) ∧ σ' = pgS b n (some q) σ := by
  refine ACalls.of_awp follows (st := st152) (plans := pl152) (n := 14) Tryz.func152 rfl (by kernel_rfl) (by kernel_rfl) (by kernel_rfl) ?_
  simp
  refine callK.of (sign_calls b n hn x c σ) ?_
  rintro v σ1 ⟨rfl, q, nx, rfl⟩
  simp
  exact ⟨_, AV.le_refl _, _, Store.sub_refl _, rfl, q, nx, rfl⟩
def dataB (c : UInt8) : Bool := decide (64 ≤ c.toNat) && decide (c.toNat < 255)
set_option maxRecDepth 8000 in
theorem data_calls (c : UInt8) (σ : Store) : ACalls Tryz.prog 140 [byteA c] σ fun v σ' => v = .lit (.bool (dataB c)) ∧ σ' = σ := by
  refine ACalls.of_awp follows (st := st140) (plans := pl140) (n := 9) Tryz.func140 rfl (by kernel_rfl) (by kernel_rfl) (by kernel_rfl) ?_
  unfold dataB
  by_cases h : 64 ≤ c.toNat
  · have h' : (64 : Int) ≤ c.toNat := by omega
    simp [byteA, h, h']
    by_cases h2 : c.toNat < 255
    · have h2' : (c.toNat : Int) < 255 := by omega
      simp [h2, h2']
    · have h2' : ¬ (c.toNat : Int) < 255 := by omega
      simp [h2, h2']
  · have h' : ¬ (64 : Int) ≤ c.toNat := by omega
    simp [byteA, h, h']
/-- Digits, a period, a minus. -/
def numSign (s : Nat) : Bool := (decide (48 ≤ s) && decide (s ≤ 57)) || s == 46 || s == 45
def numB (n : Int) (c : UInt8) : Bool := c == 28 || (dataB c && numSign (sgF n c.toNat))
/-- Of a field's first character. -/
def desigN (n : Int) (c : UInt8) : Nat := if c = 0 then 3 else if sgF n c.toNat = 63 then 1 else if sgF n c.toNat = 62 then 2 else if sgF n c.toNat = 32 then 3 else if sgF n c.toNat = 38 then 4 else 0
def detB (f : Fld) : Bool := f.disp == 1 || f.disp == 2
end Go.Proofs.YtlmdbcgceijlnaaGreatDoor
/-
  The document's signs and codes.
-/
namespace Go.Proofs.YtlmdbcgceijlnaaGreatDoor
open Go Go.AL

def digN (b : UInt8) : Nat := if 97 ≤ b.toNat then (b - 97).toNat + 10 else (b - 48).toNat
def numTo (s : ByteArray) : Nat → Nat
  | 0 => 0
  | k + 1 => 16 * numTo s k + digN (s.data[k]?.getD 0)
theorem digN_le (b : UInt8) : digN b ≤ 265 := all_bytes (p := fun b => digN b ≤ 265) (by decide +kernel) b
theorem numTo_le (s : ByteArray) (k : Nat) (h : k ≤ 4) : numTo s k ≤ 1200000 := by
  have hd := fun j : Nat => digN_le (s.data[j]?.getD 0)
  have h1 : numTo s 1 ≤ 265 := by have := hd 0; simp only [numTo]; omega
  have h2 : numTo s 2 ≤ 4505 := by have := hd 1; rw [numTo]; omega
  have h3 : numTo s 3 ≤ 72345 := by have := hd 2; rw [numTo]; omega
  have h4 : numTo s 4 ≤ 1157785 := by have := hd 3; rw [numTo]; omega
  rcases (by omega : k = 0 ∨ k = 1 ∨ k = 2 ∨ k = 3 ∨ k = 4) with rfl | rfl | rfl | rfl | rfl
  · simp [numTo]
  all_goals omega
theorem sub48 (b : UInt8) : IntKind.u8.wrap ((b.toNat : Int) - 48) = ((b - 48).toNat : Int) := all_bytes (p := fun b => IntKind.u8.wrap ((b.toNat : Int) - 48) = ((b - 48).toNat : Int)) (by decide +kernel) b
theorem sub97 (b : UInt8) : IntKind.u8.wrap ((b.toNat : Int) - 97) = ((b - 97).toNat : Int) := all_bytes (p := fun b => IntKind.u8.wrap ((b.toNat : Int) - 97) = ((b - 97).toNat : Int)) (by decide +kernel) b
set_option maxRecDepth 8000 in
theorem num_calls (s : ByteArray) (hs : s.size ≤ 4) (σ : Store) : ACalls Tryz.prog 114 [.lit (.string s)] σ fun v σ' => v = .lit (.int .i64 (numTo s s.size : Nat)) ∧ σ' = σ := by
  refine ACalls.of_awp follows (st := st114) (plans := pl114) (n := 32) Tryz.func114 rfl (by kernel_rfl) (by kernel_rfl) (by kernel_rfl) ?_
  simp
  refine codeK.loop follows (st := st114) (plans := pl114) (X := Nat) (fun k => k ≤ s.size)
    (fun k => [(0, .lit (.string s)), (3, .lit (.int .i64 (numTo s k : Nat))), (4, .lit (.int .i64 k))]) (fun _ => σ) (fun k => s.size - k) 0 (by kernel_rfl) (by simp) (by simp [numTo]) (Store.sub_refl _) fun k hk => ?_
  by_cases hlt : k < s.size
  · have hle := numTo_le s k (by omega)
    have hle2 := numTo_le s (k + 1) (by omega)
    have hk1 : IntKind.i64.wrap ((k : Int) + 1) = ((k + 1 : Nat) : Int) := wrap_i64 (by omega) (by omega)
    have hdl : k < s.data.size := hlt
    have hs2 : numTo s (k + 1) = 16 * numTo s k + digN s.data[k] := by rw [numTo, Array.getElem?_eq_getElem hdl]; rfl
    have hm : IntKind.i64.wrap (16 * (numTo s k : Int)) = ((16 * numTo s k : Nat) : Int) := wrap_i64 (by omega) (by omega)
    have hlt2 := (s.data[k]).toNat_lt
    simp [hlt]
    generalize s.data[k] = b at *
    have d1 := sub48 b
    have d2 := sub97 b
    have l1 := (b - 48).toNat_lt
    have l2 := (b - 97).toNat_lt
    unfold digN at hs2
    split
    · next h97 =>
      rw [if_pos (by omega)] at hs2
      have hw : IntKind.i64.wrap (IntKind.i64.wrap (16 * (numTo s k : Int)) + IntKind.i64.wrap (IntKind.i64.wrap (IntKind.u8.wrap ((b.toNat : Int) - 97)) + 10)) = (numTo s (k + 1) : Nat) := by
        rw [hm, d2, wrap_i64 (n := ((b - 97).toNat : Int)) (by omega) (by omega), wrap_i64 (n := ((b - 97).toNat : Int) + 10) (by omega) (by omega), wrap_i64 (by omega) (by omega), hs2]
        omega
      exact ⟨k + 1, by omega, by omega, by rw [hw]; exact AV.le_refl _, by rw [hk1]; exact AV.le_refl _⟩
    · next h97 =>
      rw [if_neg (by omega)] at hs2
      have hw : IntKind.i64.wrap (IntKind.i64.wrap (16 * (numTo s k : Int)) + IntKind.i64.wrap (IntKind.u8.wrap ((b.toNat : Int) - 48))) = (numTo s (k + 1) : Nat) := by
        rw [hm, d1, wrap_i64 (n := ((b - 48).toNat : Int)) (by omega) (by omega), wrap_i64 (by omega) (by omega), hs2]
        omega
      exact ⟨k + 1, by omega, by omega, by rw [hw]; exact AV.le_refl _, by rw [hk1]; exact AV.le_refl _⟩
  · obtain rfl : k = s.size := by omega
    simp [hlt]
end Go.Proofs.YtlmdbcgceijlnaaGreatDoor
/-
  The document's signs, as its strings say.
-/
namespace Go.Proofs.YtlmdbcgceijlnaaGreatDoor
open Go Go.AL

def rbase0 : List UInt8 := [48, 48, 48, 48, 48, 48, 48, 49, 48, 48, 48, 50, 48, 48, 48, 51, 48, 48, 57, 99, 48, 48, 48, 57, 48, 48, 56, 54, 48, 48, 55, 102, 48, 48, 57, 55, 48, 48, 56, 100, 48, 48, 56, 101, 48, 48, 48, 98, 48, 48, 48, 99, 48, 48, 48, 100, 48, 48, 48, 101, 48, 48, 48, 102]
def rbase1 : List UInt8 := [48, 48, 49, 48, 48, 48, 49, 49, 48, 48, 49, 50, 48, 48, 49, 51, 48, 48, 57, 100, 48, 48, 56, 53, 48, 48, 48, 56, 48, 48, 56, 55, 48, 48, 49, 56, 48, 48, 49, 57, 48, 48, 57, 50, 48, 48, 56, 102, 48, 48, 49, 99, 48, 48, 49, 100, 48, 48, 49, 101, 48, 48, 49, 102]
def rbase2 : List UInt8 := [48, 48, 56, 48, 48, 48, 56, 49, 48, 48, 56, 50, 48, 48, 56, 51, 48, 48, 56, 52, 48, 48, 48, 97, 48, 48, 49, 55, 48, 48, 49, 98, 48, 48, 56, 56, 48, 48, 56, 57, 48, 48, 56, 97, 48, 48, 56, 98, 48, 48, 56, 99, 48, 48, 48, 53, 48, 48, 48, 54, 48, 48, 48, 55]
def rbase3 : List UInt8 := [48, 48, 57, 48, 48, 48, 57, 49, 48, 48, 49, 54, 48, 48, 57, 51, 48, 48, 57, 52, 48, 48, 57, 53, 48, 48, 57, 54, 48, 48, 48, 52, 48, 48, 57, 56, 48, 48, 57, 57, 48, 48, 57, 97, 48, 48, 57, 98, 48, 48, 49, 52, 48, 48, 49, 53, 48, 48, 57, 101, 48, 48, 49, 97]
def rbase4 : List UInt8 := [48, 48, 50, 48, 48, 48, 97, 48, 48, 48, 101, 50, 48, 48, 101, 52, 48, 48, 101, 48, 48, 48, 101, 49, 48, 48, 101, 51, 48, 48, 101, 53, 48, 48, 101, 55, 48, 48, 102, 49, 48, 48, 97, 50, 48, 48, 50, 101, 48, 48, 51, 99, 48, 48, 50, 56, 48, 48, 50, 98, 48, 48, 55, 99]
def rbase5 : List UInt8 := [48, 48, 50, 54, 48, 48, 101, 57, 48, 48, 101, 97, 48, 48, 101, 98, 48, 48, 101, 56, 48, 48, 101, 100, 48, 48, 101, 101, 48, 48, 101, 102, 48, 48, 101, 99, 48, 48, 100, 102, 48, 48, 50, 49, 48, 48, 50, 52, 48, 48, 50, 97, 48, 48, 50, 57, 48, 48, 51, 98, 48, 48, 97, 99]
def rbase6 : List UInt8 := [48, 48, 50, 100, 48, 48, 50, 102, 48, 48, 99, 50, 48, 48, 99, 52, 48, 48, 99, 48, 48, 48, 99, 49, 48, 48, 99, 51, 48, 48, 99, 53, 48, 48, 99, 55, 48, 48, 100, 49, 48, 48, 97, 54, 48, 48, 50, 99, 48, 48, 50, 53, 48, 48, 53, 102, 48, 48, 51, 101, 48, 48, 51, 102]
def rbase7 : List UInt8 := [48, 48, 102, 56, 48, 48, 99, 57, 48, 48, 99, 97, 48, 48, 99, 98, 48, 48, 99, 56, 48, 48, 99, 100, 48, 48, 99, 101, 48, 48, 99, 102, 48, 48, 99, 99, 48, 48, 54, 48, 48, 48, 51, 97, 48, 48, 50, 51, 48, 48, 52, 48, 48, 48, 50, 55, 48, 48, 51, 100, 48, 48, 50, 50]
def rbase8 : List UInt8 := [48, 48, 100, 56, 48, 48, 54, 49, 48, 48, 54, 50, 48, 48, 54, 51, 48, 48, 54, 52, 48, 48, 54, 53, 48, 48, 54, 54, 48, 48, 54, 55, 48, 48, 54, 56, 48, 48, 54, 57, 48, 48, 97, 98, 48, 48, 98, 98, 48, 48, 102, 48, 48, 48, 102, 100, 48, 48, 102, 101, 48, 48, 98, 49]
def rbase9 : List UInt8 := [48, 48, 98, 48, 48, 48, 54, 97, 48, 48, 54, 98, 48, 48, 54, 99, 48, 48, 54, 100, 48, 48, 54, 101, 48, 48, 54, 102, 48, 48, 55, 48, 48, 48, 55, 49, 48, 48, 55, 50, 48, 48, 97, 97, 48, 48, 98, 97, 48, 48, 101, 54, 48, 48, 98, 56, 48, 48, 99, 54, 48, 48, 97, 52]
def rbase10 : List UInt8 := [48, 48, 98, 53, 48, 48, 55, 101, 48, 48, 55, 51, 48, 48, 55, 52, 48, 48, 55, 53, 48, 48, 55, 54, 48, 48, 55, 55, 48, 48, 55, 56, 48, 48, 55, 57, 48, 48, 55, 97, 48, 48, 97, 49, 48, 48, 98, 102, 48, 48, 100, 48, 48, 48, 100, 100, 48, 48, 100, 101, 48, 48, 97, 101]
def rbase11 : List UInt8 := [48, 48, 53, 101, 48, 48, 97, 51, 48, 48, 97, 53, 48, 48, 98, 55, 48, 48, 97, 57, 48, 48, 97, 55, 48, 48, 98, 54, 48, 48, 98, 99, 48, 48, 98, 100, 48, 48, 98, 101, 48, 48, 53, 98, 48, 48, 53, 100, 48, 48, 97, 102, 48, 48, 97, 56, 48, 48, 98, 52, 48, 48, 100, 55]
def rbase12 : List UInt8 := [48, 48, 55, 98, 48, 48, 52, 49, 48, 48, 52, 50, 48, 48, 52, 51, 48, 48, 52, 52, 48, 48, 52, 53, 48, 48, 52, 54, 48, 48, 52, 55, 48, 48, 52, 56, 48, 48, 52, 57, 48, 48, 97, 100, 48, 48, 102, 52, 48, 48, 102, 54, 48, 48, 102, 50, 48, 48, 102, 51, 48, 48, 102, 53]
def rbase13 : List UInt8 := [48, 48, 55, 100, 48, 48, 52, 97, 48, 48, 52, 98, 48, 48, 52, 99, 48, 48, 52, 100, 48, 48, 52, 101, 48, 48, 52, 102, 48, 48, 53, 48, 48, 48, 53, 49, 48, 48, 53, 50, 48, 48, 98, 57, 48, 48, 102, 98, 48, 48, 102, 99, 48, 48, 102, 57, 48, 48, 102, 97, 48, 48, 102, 102]
def rbase14 : List UInt8 := [48, 48, 53, 99, 48, 48, 102, 55, 48, 48, 53, 51, 48, 48, 53, 52, 48, 48, 53, 53, 48, 48, 53, 54, 48, 48, 53, 55, 48, 48, 53, 56, 48, 48, 53, 57, 48, 48, 53, 97, 48, 48, 98, 50, 48, 48, 100, 52, 48, 48, 100, 54, 48, 48, 100, 50, 48, 48, 100, 51, 48, 48, 100, 53]
def rbase15 : List UInt8 := [48, 48, 51, 48, 48, 48, 51, 49, 48, 48, 51, 50, 48, 48, 51, 51, 48, 48, 51, 52, 48, 48, 51, 53, 48, 48, 51, 54, 48, 48, 51, 55, 48, 48, 51, 56, 48, 48, 51, 57, 48, 48, 98, 51, 48, 48, 100, 98, 48, 48, 100, 99, 48, 48, 100, 57, 48, 48, 100, 97, 48, 48, 57, 102]
def rbaseL : List UInt8 := rbase0 ++ rbase1 ++ rbase2 ++ rbase3 ++ rbase4 ++ rbase5 ++ rbase6 ++ rbase7 ++ rbase8 ++ rbase9 ++ rbase10 ++ rbase11 ++ rbase12 ++ rbase13 ++ rbase14 ++ rbase15
def rothL37 : List UInt8 := []
def rothL273 : List UInt8 := [52, 51, 48, 48, 55, 98, 52, 97, 48, 48, 99, 52, 52, 102, 48, 48, 50, 49, 53, 57, 48, 48, 55, 101, 53, 97, 48, 48, 100, 99, 53, 102, 48, 48, 53, 101, 54, 51, 48, 48, 53, 98, 54, 97, 48, 48, 102, 54, 55, 99, 48, 48, 97, 55, 97, 49, 48, 48, 100, 102, 98, 48, 48, 48, 97, 50, 98, 53, 48, 48, 52, 48, 98, 97, 48, 48, 97, 99, 98, 98, 48, 48, 55, 99, 99, 48, 48, 48, 101, 52, 99, 99, 48, 48, 97, 54, 100, 48, 48, 48, 102, 99, 100, 99, 48, 48, 55, 100, 101, 48, 48, 48, 100, 54, 101, 99, 48, 48, 53, 99, 102, 99, 48, 48, 53, 100]
def rothL297 : List UInt8 := [52, 52, 48, 48, 52, 48, 52, 56, 48, 48, 53, 99, 52, 97, 48, 48, 98, 48, 52, 102, 48, 48, 50, 49, 53, 49, 48, 48, 55, 98, 53, 52, 48, 48, 55, 100, 53, 97, 48, 48, 97, 55, 53, 102, 48, 48, 53, 101, 54, 97, 48, 48, 102, 57, 55, 57, 48, 48, 98, 53, 55, 98, 48, 48, 97, 51, 55, 99, 48, 48, 101, 48, 57, 48, 48, 48, 53, 98, 97, 48, 48, 48, 54, 48, 97, 49, 48, 48, 97, 56, 98, 48, 48, 48, 97, 50, 98, 49, 48, 48, 50, 51, 98, 53, 48, 48, 53, 100, 98, 97, 48, 48, 97, 99, 98, 98, 48, 48, 55, 99, 98, 100, 48, 48, 55, 101, 99, 48, 48, 48, 101, 57, 100, 48, 48, 48, 101, 56, 100, 100, 48, 48, 97, 54, 101, 48, 48, 48, 101, 55]
def rothL500 : List UInt8 := [52, 97, 48, 48, 53, 98, 52, 102, 48, 48, 50, 49, 53, 97, 48, 48, 53, 100, 53, 102, 48, 48, 53, 101, 98, 48, 48, 48, 97, 50, 98, 97, 48, 48, 97, 99, 98, 98, 48, 48, 55, 99]
def rothL1047 : List UInt8 := [53, 102, 48, 48, 53, 101, 97, 100, 48, 48, 53, 98, 98, 48, 48, 48, 97, 99, 98, 97, 48, 48, 100, 100, 98, 98, 48, 48, 97, 56, 98, 100, 48, 48, 53, 100]
def rothL1140 : List UInt8 := [57, 102, 50, 48, 97, 99]
def rothL (n : Int) : List UInt8 := if n = 37 then rothL37 else if n = 273 then rothL273 else if n = 297 then rothL297 else if n = 500 then rothL500 else if n = 1047 then rothL1047 else if n = 1140 then rothL1140 else rothL37
def toB (L : List UInt8) : ByteArray := ⟨L.toArray⟩
theorem toB_size (L : List UInt8) : (toB L).size = L.length := by simp [toB, ByteArray.size]
set_option maxRecDepth 8000 in
theorem roth_calls (n : Int) (hn : isPage n) (σ : Store) : ACalls Tryz.prog 154 [.lit (.int .i64 n)] σ fun v σ' => v = .tuple [.lit (.string (toB (rothL n))), .lit (.bool true)] ∧ σ' = σ := by
  refine ACalls.of_awp follows (st := st154) (plans := pl154) (n := 17) Tryz.func154 rfl (by kernel_rfl) (by kernel_rfl) (by kernel_rfl) ?_
  have key : ∀ a b : ByteArray, a = b → AV.le (.tuple [.lit (.string a), .lit (.bool true)]) (.tuple [.lit (.string b), .lit (.bool true)]) := by
    rintro a _ rfl; exact AV.le_refl _
  obtain ⟨S, hS⟩ : ∃ S, S = toB (rothL n) := ⟨_, rfl⟩
  rw [← hS]
  rcases hn with rfl | rfl | rfl | rfl | rfl | rfl <;> (simp; exact key _ _ (Eq.trans (by kernel_rfl) hS.symm))
def numL (L : List UInt8) : Nat := L.foldl (fun a b => 16 * a + digN b) 0
def numS (s : ByteArray) : Nat := numTo s s.size
theorem numTo_list (s : ByteArray) : ∀ k, k ≤ s.size → numTo s k = numL (s.data.toList.take k)
  | 0, _ => rfl
  | k + 1, h => by
    have hk : k < s.data.toList.length := by rw [Array.length_toList]; exact h
    rw [numTo, numTo_list s k (by omega), List.take_succ_eq_append_getElem hk]
    unfold numL
    rw [List.foldl_append]
    have : s.data[k]?.getD 0 = s.data.toList[k] := by
      rw [Array.getElem?_eq_getElem (by simpa using hk)]; rfl
    rw [this]; rfl
theorem numS_part (L : List UInt8) (i m : Nat) (h : i + m ≤ L.length) : ((toB L).extract i (i + m)).size = m ∧ numS ((toB L).extract i (i + m)) = numL ((L.drop i).take m) := by
  have hd : ((toB L).extract i (i + m)).data.toList = (L.drop i).take m := by
    simp [toB, ByteArray.data_extract]
  have hs : ((toB L).extract i (i + m)).size = m := by
    have : ((toB L).extract i (i + m)).data.toList.length = m := by rw [hd]; simp; omega
    rw [Array.length_toList] at this; exact this
  refine ⟨hs, ?_⟩
  unfold numS
  rw [numTo_list _ _ (Nat.le_refl _), hd, hs, List.take_take]
  simp
def hex4 : List UInt8 → List Nat
  | a :: b :: c :: d :: r => numL [a, b, c, d] :: hex4 r
  | _ => []
theorem hex_base : hex4 rbaseL = baseL := by decide +kernel
theorem hex4_at : ∀ (c : Nat) (L : List UInt8), 4 * c + 4 ≤ L.length → (hex4 L)[c]? = some (numL ((L.drop (4 * c)).take 4))
  | 0, a :: b :: c :: d :: r, _ => rfl
  | i + 1, a :: b :: c :: d :: r, h => by
    have := hex4_at i r (by simp at h; omega)
    rw [hex4, List.getElem?_cons_succ, this, show 4 * (i + 1) = 4 * i + 4 from by omega]
    rfl
  | _, [], h => by simp at h
  | _, [_], h => by simp at h
  | _, [_, _], h => by simp at h
  | _, [_, _, _], h => by simp at h
def hex6 : List UInt8 → List (Nat × Nat)
  | a :: b :: c :: d :: e :: f :: r => (numL [a, b], numL [c, d, e, f]) :: hex6 r
  | _ => []
theorem hex_oth {n : Int} (hn : isPage n) : hex6 (rothL n) = othersF n ∧ (rothL n).length = 6 * (othersF n).length ∧ (othersF n).length ≤ 50 := by
  rcases hn with rfl | rfl | rfl | rfl | rfl | rfl <;> decide +kernel
theorem hex6_at : ∀ (c : Nat) (L : List UInt8), 6 * c + 6 ≤ L.length → (hex6 L)[c]? = some (numL ((L.drop (6 * c)).take 2), numL ((L.drop (6 * c + 2)).take 4))
  | 0, a :: b :: c :: d :: e :: f :: r, _ => rfl
  | i + 1, a :: b :: c :: d :: e :: f :: r, h => by
    have := hex6_at i r (by simp at h; omega)
    rw [hex6, List.getElem?_cons_succ, this, show 6 * (i + 1) = 6 * i + 6 from by omega, show 6 * i + 6 + 2 = 6 * i + 2 + 6 from by omega]
    rfl
  | _, [], h => by simp at h
  | _, [_], h => by simp at h
  | _, [_, _], h => by simp at h
  | _, [_, _, _], h => by simp at h
  | _, [_, _, _, _], h => by simp at h
  | _, [_, _, _, _, _], h => by simp at h
/-- The sign of a code. -/
def rsign (n : Int) (c : Nat) : Nat := (((othersF n).find? (fun o => o.1 == c)).map (·.2)).getD (baseL.getD c 0)
theorem rsign_all {n : Int} (hn : isPage n) : (List.range 256).map (rsign n) = signsF n := by
  rcases hn with rfl | rfl | rfl | rfl | rfl | rfl <;> decide +kernel
theorem rsign_eq {n : Int} (hn : isPage n) {c : Nat} (hc : c < 256) : rsign n c = sgF n c := by
  have := congrArg (fun l => l.getD c 0) (rsign_all hn)
  simp only [List.getD_eq_getElem?_getD, List.getElem?_map, List.getElem?_range hc] at this
  unfold sgF
  rw [List.getD_eq_getElem?_getD, ← this]
  rfl
end Go.Proofs.YtlmdbcgceijlnaaGreatDoor
/-
  The document's sign of a code, and the code of a sign.
-/
namespace Go.Proofs.YtlmdbcgceijlnaaGreatDoor
open Go Go.AL

theorem numS_le {s : ByteArray} (h : s.size ≤ 4) : numS s ≤ 1200000 := numTo_le s _ h
theorem mk_base (a : Array UInt8) (h : a = rbaseL.toArray) : ByteArray.mk a = toB rbaseL := by rw [h]; rfl
theorem wrap32 {x : Int} (h0 : 0 ≤ x) (h1 : x ≤ 2147483647) : IntKind.i32.wrap x = x := by
  unfold IntKind.wrap
  simp [IntKind.bits, IntKind.signed]
  omega
theorem nums_calls (s : ByteArray) (hs : s.size ≤ 4) (σ : Store) : ACalls Tryz.prog 114 [.lit (.string s)] σ fun v σ' => v = .lit (.int .i64 (numS s : Nat)) ∧ σ' = σ := num_calls s hs σ
set_option maxRecDepth 8000 in
theorem rsign_calls (n : Int) (hn : isPage n) (b : UInt8) (σ : Store) : ACalls Tryz.prog 113 [.lit (.int .i64 n), byteA b] σ fun v σ' => v = .lit (.int .i32 (sgF n b.toNat : Nat)) ∧ σ' = σ := by
  have hro := fun τ => roth_calls n hn τ
  obtain ⟨ho1, ho2, ho3⟩ := hex_oth hn
  have hb := b.toNat_lt
  have hrs := rsign_eq hn hb
  unfold rsign at hrs
  have hnum := fun τ s h => nums_calls s h τ
  have hat := fun c h => hex6_at c (rothL n) h
  have hpt := fun i m h => numS_part (rothL n) i m h
  rw [ho1] at hat
  have hsz := toB_size (rothL n)
  refine ACalls.of_awp follows (st := st113) (plans := pl113) (n := 46) Tryz.func113 rfl (by kernel_rfl) (by kernel_rfl) (by kernel_rfl) ?_
  generalize rothL n = L at *
  generalize othersF n = O at *
  simp [byteA]
  refine callK.of (hro _) ?_
  rintro v τ ⟨rfl, rfl⟩
  simp
  refine codeK.loop follows (st := st113) (plans := pl113) (X := Nat) (fun j => j ≤ O.length ∧ (((O.drop j).find? (fun o => o.1 == b.toNat)).map (·.2)).getD (baseL.getD b.toNat 0) = sgF n b.toNat)
    (fun j => [(1, byteA b), (5, .lit (.string (toB L))), (7, .lit (.int .i64 (6 * j : Nat)))]) (fun _ => τ) (fun j => O.length - j) 0 (by kernel_rfl) ⟨by simp, hrs⟩ (by simp [byteA]) (Store.sub_refl _) fun j hj => ?_
  obtain ⟨hjl, hres⟩ := hj
  by_cases hlt : j < O.length
  · have h6 : 6 * j + 6 ≤ L.length := by omega
    have ha := hat j h6
    obtain ⟨p1, p2⟩ := hpt (6 * j) 2 (by omega)
    obtain ⟨q1, q2⟩ := hpt (6 * j + 2) 4 (by omega)
    have hnx : (((O.drop (j + 1)).find? (fun o => o.1 == b.toNat)).map (·.2)).getD (baseL.getD b.toNat 0) = if O[j].1 = b.toNat then (((O.drop (j + 1)).find? (fun o => o.1 == b.toNat)).map (·.2)).getD (baseL.getD b.toNat 0) else sgF n b.toNat := by
      split
      · rfl
      · next hne =>
        rw [List.drop_eq_getElem_cons hlt, List.find?_cons_of_neg (by simpa using hne)] at hres
        exact hres
    have hhit : O[j].1 = b.toNat → O[j].2 = sgF n b.toNat := fun he => by
      rw [List.drop_eq_getElem_cons hlt, List.find?_cons_of_pos (by simpa using he)] at hres
      exact hres
    rw [List.getElem?_eq_getElem hlt] at ha
    have ha := Option.some.inj ha
    have k1 : numS ((toB L).extract (6 * j) (6 * j + 2)) = O[j].1 := by rw [p2, ha]
    have k2 : numS ((toB L).extract (6 * j + 2) (6 * j + 6)) = O[j].2 := by
      have e : 6 * j + 6 = 6 * j + 2 + 4 := by omega
      rw [e, q2, ha]
    have q1' : ((toB L).extract (6 * j + 2) (6 * j + 6)).size = 4 := by
      have e : 6 * j + 6 = 6 * j + 2 + 4 := by omega
      rw [e, q1]
    have hn1 := hnum τ _ (by rw [p1]; omega : ((toB L).extract (6 * j) (6 * j + 2)).size ≤ 4)
    have hn2 := hnum τ _ (by rw [q1']; omega : ((toB L).extract (6 * j + 2) (6 * j + 6)).size ≤ 4)
    have hle2 := numS_le (by rw [q1']; omega : ((toB L).extract (6 * j + 2) (6 * j + 6)).size ≤ 4)
    rw [k1] at hn1
    rw [k2] at hn2 hle2
    have h6j : 6 * (j + 1) = 6 * j + 6 := by omega
    generalize hi : 6 * j = i at hn1 hn2 hle2 h6 h6j ⊢
    have hlt' : i < (toB L).size := by omega
    have hltI : (i : Int) < ((toB L).size : Int) := by omega
    have s2 : i + 2 ≤ (toB L).size := by omega
    have s6 : i + 6 ≤ (toB L).size := by omega
    have t2 : ((i : Int) + 2).toNat = i + 2 := by omega
    have t6 : ((i : Int) + 6).toNat = i + 6 := by omega
    have g2 : (0 : Int) ≤ (i : Int) + 2 := by omega
    have g6 : (0 : Int) ≤ (i : Int) + 6 := by omega
    have l6 : i + 2 ≤ i + 6 := by omega
    have hw2 : IntKind.i64.wrap ((i : Int) + 2) = (i : Int) + 2 := wrap_i64 (by omega) (by omega)
    have hw6 : IntKind.i64.wrap ((i : Int) + 6) = (i : Int) + 6 := wrap_i64 (by omega) (by omega)
    have hwb : IntKind.i64.wrap (b.toNat : Int) = (b.toNat : Int) := wrap_i64 (by omega) (by omega)
    simp [hlt', hltI, hw2, hw6, byteA, s2, s6, t2, t6, g2, g6, l6]
    refine callK.of hn1 ?_
    rintro v τ ⟨rfl, rfl⟩
    generalize hO1 : O[j].1 = o1 at *
    by_cases he : o1 = b.toNat
    · have hv := hhit he
      simp [he, hlt', hltI, hw2, hw6, byteA, s2, s6, t2, t6, g2, g6, l6, hwb]
      refine callK.of hn2 ?_
      rintro v τ ⟨rfl, rfl⟩
      have hwi : IntKind.i32.wrap (O[j].2 : Int) = (sgF n b.toNat : Nat) := by rw [wrap32 (by omega) (by omega), hv]
      simp [hwi]
    · have he' : ¬ (o1 : Int) = (b.toNat : Int) := by omega
      rw [if_neg he] at hnx
      simp [he, he', hwb, hw6]
      refine ⟨j + 1, ⟨by omega, hnx⟩, by omega, ?_⟩
      rw [show (6 * ((j + 1 : Nat) : Int)) = (i : Int) + 6 from by omega]
      exact AV.le_refl _
  · have hb4 : 4 * b.toNat + 4 ≤ rbaseL.length := by
      have : rbaseL.length = 1024 := by decide +kernel
      omega
    obtain ⟨p1, p2⟩ := numS_part rbaseL (4 * b.toNat) 4 hb4
    have h4 := hex4_at b.toNat rbaseL hb4
    rw [hex_base] at h4
    rw [List.drop_eq_nil_of_le (by omega)] at hres
    have hv : baseL.getD b.toNat 0 = sgF n b.toNat := hres
    rw [List.getD_eq_getElem?_getD, h4] at hv
    have hv : numS ((toB rbaseL).extract (4 * b.toNat) (4 * b.toNat + 4)) = sgF n b.toNat := by rw [p2]; exact hv
    have hnl : ¬ (6 * (j : Int)) < ((toB L).size : Int) := by omega
    have hn1 := hnum τ _ (by rw [p1]; omega : ((toB rbaseL).extract (4 * b.toNat) (4 * b.toNat + 4)).size ≤ 4)
    have hle := numS_le (by rw [p1]; omega : ((toB rbaseL).extract (4 * b.toNat) (4 * b.toNat + 4)).size ≤ 4)
    rw [hv] at hn1 hle
    have hwb : IntKind.i64.wrap (b.toNat : Int) = (b.toNat : Int) := wrap_i64 (by omega) (by omega)
    have hw4 : IntKind.i64.wrap (4 * (b.toNat : Int)) = 4 * (b.toNat : Int) := wrap_i64 (by omega) (by omega)
    have hw8 : IntKind.i64.wrap (4 * (b.toNat : Int) + 4) = 4 * (b.toNat : Int) + 4 := wrap_i64 (by omega) (by omega)
    simp [hnl, byteA, hwb, hw4, hw8]
    rw [mk_base]
    rotate_left
    · kernel_rfl
    have hsB := toB_size rbaseL
    have g0 : (0 : Int) ≤ 4 * (b.toNat : Int) := by omega
    have g4 : (0 : Int) ≤ 4 * (b.toNat : Int) + 4 := by omega
    have t0 : (4 * (b.toNat : Int)).toNat = 4 * b.toNat := by omega
    have t4 : (4 * (b.toNat : Int) + 4).toNat = 4 * b.toNat + 4 := by omega
    have l4 : 4 * b.toNat ≤ 4 * b.toNat + 4 ∧ 4 * b.toNat + 4 ≤ (toB rbaseL).size := by omega
    rw [if_pos g0, if_pos g4, t0, t4]
    dsimp only
    rw [if_pos l4]
    have hwi : IntKind.i32.wrap ((sgF n b.toNat : Nat) : Int) = (sgF n b.toNat : Nat) := wrap32 (by omega) (by omega)
    simp
    refine callK.of hn1 ?_
    rintro v τ ⟨rfl, rfl⟩
    simp [hwi]
/-- A sign's code, or none. -/
def codeZ (n s : Int) : Int := match codeIx n s with | some j => (j : Nat) | none => -1
end Go.Proofs.YtlmdbcgceijlnaaGreatDoor
/-
  Of each function: which temporaries take a right to append with the value; the plans of the regions that draw their order. Written by a program of mine.
-/
namespace Go.Proofs.YtlmdbcgceijlnaaGreatDoor
open Go Go.AL
/- internal/strconv.Itoa -/
@[simp] def st119 : List Nat := []
@[simp] def pl119 : List (Nat × Plan) := []
/- internal/strconv.FormatInt -/
@[simp] def st157 : List Nat := [53]
@[simp] def pl157 : List (Nat × Plan) := []
/- internal/strconv.small -/
@[simp] def st179 : List Nat := []
@[simp] def pl179 : List (Nat × Plan) := []
end Go.Proofs.YtlmdbcgceijlnaaGreatDoor
/-
  The names of the keys that send; the short ones.
-/
namespace Go.Proofs.YtlmdbcgceijlnaaGreatDoor
open Go Go.AL Go.Sp
variable {σ : Store}

@[simp] theorem callable119 : callable Tryz.prog 119 = true := nr (by kernel_rfl)
@[simp] theorem callable157 : callable Tryz.prog 157 = true := nr (by kernel_rfl)
@[simp] theorem callable179 : callable Tryz.prog 179 = true := nr (by kernel_rfl)
theorem toB_extract (L : List UInt8) (i j : Nat) (h : i ≤ j) : (toB L).extract i j = toB ((L.drop i).take (j - i)) := by
  apply ByteArray.ext
  apply Array.ext'
  simp [toB, ByteArray.data_extract]
/-- A part of a known text. -/
theorem aSlice_str {P : Program} {t : TypeId} (ht : tElem P t = none) (hs : tStr P t = true) (L : List UInt8) (a b : Nat) (za zb : Int) (ha : za = a) (hb : zb = b) (hab : a ≤ b) (hbl : b ≤ L.length) :
    aSlice P t (.lit (.string (toB L))) (some (.lit (.int .i64 za))) (some (.lit (.int .i64 zb))) none = some (.lit (.string (toB ((L.drop a).take (b - a))))) := by
  subst ha hb
  have hsz := toB_size L
  have h0 : (0 : Int) ≤ (a : Int) := by omega
  have h1 : (0 : Int) ≤ (b : Int) := by omega
  have h2 : b ≤ (toB L).size := by omega
  simp [aSlice, ht, hs, bndA, h0, h1, hab, h2, toB_extract L a b hab]
def digsL : List UInt8 := [48, 49, 50, 51, 52, 53, 54, 55, 56, 57]
def decL (n : Nat) : List UInt8 := if n < 10 then [UInt8.ofNat (48 + n)] else [UInt8.ofNat (48 + n / 10), UInt8.ofNat (48 + n % 10)]
def smallsL : List UInt8 := (List.range 100).flatMap fun n => [UInt8.ofNat (48 + n / 10), UInt8.ofNat (48 + n % 10)]
def digits36 : List UInt8 := [48, 49, 50, 51, 52, 53, 54, 55, 56, 57, 97, 98, 99, 100, 101, 102, 103, 104, 105, 106, 107, 108, 109, 110, 111, 112, 113, 114, 115, 116, 117, 118, 119, 120, 121, 122]
/-- Where a byte stands in a list, from 1 on; 0: nowhere. -/
def plcN (L : List UInt8) (b : UInt8) : Nat := if L.idxOf b < L.length then L.idxOf b + 1 else 0
end Go.Proofs.YtlmdbcgceijlnaaGreatDoor
