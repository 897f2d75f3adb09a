/-
  The document's sizes, places, models; its six bits.
-/
import Derived.Test.YtlmdbcgceijlnaaGreatDoorPart10
set_option linter.unusedSimpArgs false
set_option linter.unusedVariables false
namespace Go.Proofs.YtlmdbcgceijlnaaGreatDoor
open Go Go.AL Go.Sp

theorem tmod_abs (n : Int) (m : Nat) (h : 0 < m) : -(m : Int) < n.tmod m ∧ n.tmod m < m := by
  have h1 : (n.tmod m).natAbs = n.natAbs % m := by rw [Int.natAbs_tmod]; simp
  have h2 := Nat.mod_lt n.natAbs h
  omega
set_option maxRecDepth 4000 in
theorem rmod_calls (n : Int) (m : Nat) (h : 0 < m) (hm : m ≤ 1000000) (σ : Store) : ACalls Tryz.prog 115 [.lit (.int .i64 n), .lit (.int .i64 m)] σ fun v σ' => v = .lit (.int .i64 (wrap m n)) ∧ σ' = σ := by
  have ht := tmod_abs n m h
  have h0 : ¬ m = 0 := by omega
  have h1 : ¬ (m : Int) < 1 := by omega
  have hs : IntKind.i64.wrap (n.tmod m + (m : Int)) = n.tmod m + m := wrap_i64 (by omega) (by omega)
  have he : (n.tmod m + (m : Int)).tmod m = (wrap m n : Int) := by
    have h2 := tmod_wrap n m h
    have h3 := wrap_lt h n
    rw [Int.tmod_eq_emod_of_nonneg (by omega)]
    split at h2
    · rw [h2, show ((wrap m n : Int) - m + m) = (wrap m n : Int) by omega]
      exact Int.emod_eq_of_lt (by omega) (by omega)
    · rw [h2, show ((wrap m n : Int) - 0 + m) = (wrap m n : Int) + m by omega, Int.add_emod_right]
      exact Int.emod_eq_of_lt (by omega) (by omega)
  refine ACalls.of_awp follows (st := st115) (plans := pl115) (n := 14) Tryz.func115 rfl (by kernel_rfl) (by kernel_rfl) (by kernel_rfl) ?_
  simp [h0, h1, hs, he]
set_option maxRecDepth 4000 in
theorem rvalid_calls {r c : Nat} (h : Dim r c) (σ : Store) : ACalls Tryz.prog 155 [dimA r c] σ fun v σ' => v = .lit (.bool true) ∧ σ' = σ := by
  have hm := mul_wrap h
  obtain ⟨h1, h2, h3, h4, h5, h6⟩ := h
  have k1 : (1 : Int) ≤ r := by omega
  have k2 : (r : Int) ≤ 43 := by omega
  have k3 : (1 : Int) ≤ c := by omega
  have k4 : (c : Int) ≤ 132 := by omega
  have k5 : (((r * c : Nat) : Int)) ≤ 3564 := by omega
  generalize r * c = m at *
  refine ACalls.of_awp follows (st := st155) (plans := pl155) (n := 29) Tryz.func155 rfl (by kernel_rfl) (by kernel_rfl) (by kernel_rfl) ?_
  simp +contextual [dimA, k1, k2, k3, k4, k5, hm]
set_option maxRecDepth 4000 in
theorem rcells_calls {r c : Nat} (h : Dim r c) (σ : Store) : ACalls Tryz.prog 116 [dimA r c] σ fun v σ' => v = .lit (.int .i64 ((r * c : Nat) : Int)) ∧ σ' = σ := by
  have hm := mul_wrap h
  have hv := rvalid_calls h
  unfold dimA at hv
  generalize r * c = m at *
  refine ACalls.of_awp follows (st := st116) (plans := pl116) (n := 11) Tryz.func116 rfl (by kernel_rfl) (by kernel_rfl) (by kernel_rfl) ?_
  simp [dimA]
  intro p hp
  refine callK.of (hv _) ?_
  rintro v σ' ⟨rfl, rfl⟩
  simp [hm, hp]
set_option maxRecDepth 4000 in
theorem rwrap_calls {r c : Nat} (h : Dim r c) (n : Int) (σ : Store) : ACalls Tryz.prog 71 [dimA r c, .lit (.int .i64 n)] σ fun v σ' => v = .lit (.int .i64 (wrap (r * c) n)) ∧ σ' = σ := by
  have hc := rcells_calls h
  have hr := rmod_calls n (r * c) h.p (by have := h.m; omega)
  unfold dimA at hc
  generalize r * c = m at *
  refine ACalls.of_awp follows (st := st71) (plans := pl71) (n := 9) Tryz.func71 rfl (by kernel_rfl) (by kernel_rfl) (by kernel_rfl) ?_
  simp [dimA]
  intro p hp
  refine callK.of (hc _) ?_
  rintro v σ' ⟨rfl, rfl⟩
  simp
  refine callK.of (hr _) ?_
  rintro v σ' ⟨rfl, rfl⟩
  simp [hp]

@[simp] theorem wr3 : IntKind.i64.wrap 3 = 3 := by decide
/-! ### Models -/
theorem model_cases {m : Nat} (h : 2 ≤ m ∧ m ≤ 5) : m = 2 ∨ m = 3 ∨ m = 4 ∨ m = 5 := by omega
def dimM (m : Nat) : AV := dimA (dims m true).1 (dims m true).2
set_option maxRecDepth 4000 in
theorem model_calls {m : Nat} (h : 2 ≤ m ∧ m ≤ 5) (σ : Store) : ACalls Tryz.prog 93 [.lit (.int .i64 m)] σ fun v σ' => v = .tuple [dimM m, .lit (.int .i64 0)] ∧ σ' = σ := by
  refine ACalls.of_awp follows (st := st93) (plans := pl93) (n := 18) Tryz.func93 rfl (by kernel_rfl) (by kernel_rfl) (by kernel_rfl) ?_
  rcases model_cases h with rfl | rfl | rfl | rfl <;>
    (simp +contextual [dimM, dimA, dims])
set_option maxRecDepth 4000 in
theorem rmodel_calls {m : Nat} (h : 2 ≤ m ∧ m ≤ 5) (σ : Store) : ACalls Tryz.prog 99 [.lit (.int .i64 m)] σ fun v σ' => v = .tuple [dimM m, .lit (.bool true)] ∧ σ' = σ := by
  refine ACalls.of_awp follows (st := st99) (plans := pl99) (n := 20) Tryz.func99 rfl (by kernel_rfl) (by kernel_rfl) (by kernel_rfl) ?_
  rcases model_cases h with rfl | rfl | rfl | rfl <;>
    (simp +contextual [dimM, dimA, dims]; try decide)
end Go.Proofs.YtlmdbcgceijlnaaGreatDoor
/-
  Field attributes' bits: the program's and the document's.
-/
namespace Go.Proofs.YtlmdbcgceijlnaaGreatDoor
open Go Go.AL Go.Sp

structure Fld where
  prot : Bool
  num : Bool
  disp : Nat
  mod : Bool
  deriving DecidableEq
def fld (b : UInt8) : Fld := ⟨b &&& 0x20 != 0, b &&& 0x10 != 0, (b.toNat / 4) % 4, b &&& 1 == 1⟩
def fldA (f : Fld) : AV := .agg [.lit (.bool f.prot), .lit (.bool f.num), .lit (.int .i64 f.disp), .lit (.bool f.mod)]
def bitsN (f : Fld) : Nat := 4 * f.disp + (if f.prot = true then 32 else 0) + (if f.num = true then 16 else 0) + (if f.mod = true then 1 else 0)
theorem bits_fld (b : UInt8) : UInt8.ofNat (bitsN (fld b)) = Sp.six b ∧ bitsN (fld b) < 64 := all_bytes (p := fun b => UInt8.ofNat (bitsN (fld b)) = Sp.six b ∧ bitsN (fld b) < 64) (by decide +kernel) b
theorem fld_ref (b : UInt8) : decide (32 ≤ b.toNat % 64) = (fld b).prot ∧ decide (b.toNat % 64 / 16 % 2 = 1) = (fld b).num ∧ b.toNat % 64 / 4 % 4 = (fld b).disp ∧ decide (b.toNat % 64 % 2 = 1) = (fld b).mod :=
  all_bytes (p := fun b => decide (32 ≤ b.toNat % 64) = (fld b).prot ∧ decide (b.toNat % 64 / 16 % 2 = 1) = (fld b).num ∧ b.toNat % 64 / 4 % 4 = (fld b).disp ∧ decide (b.toNat % 64 % 2 = 1) = (fld b).mod) (by decide +kernel) b
theorem fld_disp (b : UInt8) : (fld b).disp ≤ 3 := by unfold fld; simp only; omega

set_option maxRecDepth 4000 in
theorem rof_calls (b : UInt8) (σ : Store) : ACalls Tryz.prog 96 [byteA b] σ fun v σ' => v = fldA (fld b) ∧ σ' = σ := by
  obtain ⟨h1, h2, h3, h4⟩ := fld_ref b
  rw [fldA, ← h1, ← h2, ← h3, ← h4]
  have hb := byte_lt b
  refine ACalls.of_awp follows (st := st96) (plans := pl96) (n := 20) Tryz.func96 rfl (by kernel_rfl) (by kernel_rfl) (by kernel_rfl) ?_
  simp [byteA]
  intro p hp
  have e1 : (b.toNat : Int).tmod 64 = ((b.toNat % 64 : Nat) : Int) := rfl
  have hw : IntKind.i64.wrap (b.toNat : Int) = (b.toNat : Int) := wrap_i64 (by omega) (by omega)
  rw [hw, e1]
  have hk : b.toNat % 64 < 64 := Nat.mod_lt _ (by omega)
  obtain ⟨k, hkk⟩ : ∃ k, b.toNat % 64 = k := ⟨_, rfl⟩
  rw [hkk] at hk ⊢
  have e2 : (k : Int).tdiv 16 = ((k / 16 : Nat) : Int) := rfl
  have e3 : (k : Int).tdiv 4 = ((k / 4 : Nat) : Int) := rfl
  have e4 : (k : Int).tmod 2 = ((k % 2 : Nat) : Int) := rfl
  have w2 : IntKind.i64.wrap ((k / 16 : Nat) : Int) = ((k / 16 : Nat) : Int) := wrap_i64 (by omega) (by omega)
  have w3 : IntKind.i64.wrap ((k / 4 : Nat) : Int) = ((k / 4 : Nat) : Int) := wrap_i64 (by omega) (by omega)
  have e5 : ((k / 16 : Nat) : Int).tmod 2 = ((k / 16 % 2 : Nat) : Int) := rfl
  have e6 : ((k / 4 : Nat) : Int).tmod 4 = ((k / 4 % 4 : Nat) : Int) := rfl
  simp only [e2, e3, w2, w3, e5, e6]
  try rw [e4]
  have q : ∀ n : Nat, ((n : Int) == 1) = decide (n = 1) := fun n => by
    rw [Bool.eq_iff_iff]; simp; omega
  have q2 : decide ((32 : Int) ≤ k) = decide (32 ≤ k) := by
    rw [Bool.eq_iff_iff]; simp; omega
  try simp only [q, q2]
  have e7 : ((b.toNat : Int).tmod 2 == 1) = decide (b.toNat % 2 = 1) := q (b.toNat % 2)
  have e8 : ((k / 4 % 4 : Nat) : Int) = (b.toNat : Int) % 64 / 4 % 4 := by omega
  rw [e7, e8]
  exact ⟨by simp, by (intro q; simp only [Store.upd, Store.del]; (repeat' split) <;> first | exact Or.inr rfl | exact Or.inl rfl | (exfalso; omega) | (left; subst_vars; assumption) | simp_all)⟩

set_option maxRecDepth 4000 in
set_option maxHeartbeats 1000000 in
theorem rbits_calls (b : UInt8) (σ : Store) : ACalls Tryz.prog 197 [fldA (fld b)] σ fun v σ' => v = .tuple [byteA (Sp.six b), .lit (.int .i64 0)] ∧ σ' = σ := by
  obtain ⟨h1, h2⟩ := bits_fld b
  have hd := fld_disp b
  rw [← h1]
  generalize fld b = f at *
  obtain ⟨p, n, d, m⟩ := f
  simp only at hd
  have hd4 : d = 0 ∨ d = 1 ∨ d = 2 ∨ d = 3 := by omega
  refine ACalls.of_awp follows (st := st197) (plans := pl197) (n := 30) Tryz.func197 rfl (by kernel_rfl) (by kernel_rfl) (by kernel_rfl) ?_
  clear h1 h2
  rcases hd4 with rfl | rfl | rfl | rfl <;> cases p <;> cases n <;> cases m <;>
    (simp +contextual [fldA, bitsN, byteA, tInt]
     exact fun _ _ => le_of_eq rfl)
set_option maxRecDepth 4000 in
theorem rsix_calls (b : UInt8) (σ : Store) : ACalls Tryz.prog 177 [byteA b] σ fun v σ' => v = byteA (Sp.six b) ∧ σ' = σ := by
  have h1 := rof_calls b
  have h2 := rbits_calls b
  generalize Sp.six b = s at *
  generalize fld b = f at *
  have e : byteA b = .lit (.int .u8 b.toNat) := rfl
  rw [e] at h1 ⊢
  have e2 : byteA s = .lit (.int .u8 s.toNat) := rfl
  rw [e2] at h2 ⊢
  refine ACalls.of_awp follows (st := st177) (plans := pl177) (n := 12) Tryz.func177 rfl (by kernel_rfl) (by kernel_rfl) (by kernel_rfl) ?_
  simp
  refine callK.of (h1 _) ?_
  rintro v σ' ⟨rfl, rfl⟩
  simp [fldA]
  refine callK.of (h2 _) ?_
  rintro v σ' ⟨rfl, rfl⟩
  simp
end Go.Proofs.YtlmdbcgceijlnaaGreatDoor
/-
  The document's signs and codes.
-/
namespace Go.Proofs.YtlmdbcgceijlnaaGreatDoor
open Go Go.AL

def digN (b : UInt8) : Nat := if 97 ≤ b.toNat then (b - 97).toNat + 10 else (b - 48).toNat
def numTo (s : ByteArray) : Nat → Nat
  | 0 => 0
  | k + 1 => 16 * numTo s k + digN (s.data[k]?.getD 0)
theorem digN_le (b : UInt8) : digN b ≤ 265 := all_bytes (p := fun b => digN b ≤ 265) (by decide +kernel) b
theorem numTo_le (s : ByteArray) (k : Nat) (h : k ≤ 4) : numTo s k ≤ 1200000 := by
  have hd := fun j : Nat => digN_le (s.data[j]?.getD 0)
  have h1 : numTo s 1 ≤ 265 := by have := hd 0; simp only [numTo]; omega
  have h2 : numTo s 2 ≤ 4505 := by have := hd 1; rw [numTo]; omega
  have h3 : numTo s 3 ≤ 72345 := by have := hd 2; rw [numTo]; omega
  have h4 : numTo s 4 ≤ 1157785 := by have := hd 3; rw [numTo]; omega
  rcases (by omega : k = 0 ∨ k = 1 ∨ k = 2 ∨ k = 3 ∨ k = 4) with rfl | rfl | rfl | rfl | rfl
  · simp [numTo]
  all_goals omega
theorem sub48 (b : UInt8) : IntKind.u8.wrap ((b.toNat : Int) - 48) = ((b - 48).toNat : Int) := all_bytes (p := fun b => IntKind.u8.wrap ((b.toNat : Int) - 48) = ((b - 48).toNat : Int)) (by decide +kernel) b
theorem sub97 (b : UInt8) : IntKind.u8.wrap ((b.toNat : Int) - 97) = ((b - 97).toNat : Int) := all_bytes (p := fun b => IntKind.u8.wrap ((b.toNat : Int) - 97) = ((b - 97).toNat : Int)) (by decide +kernel) b
set_option maxRecDepth 8000 in
theorem num_calls (s : ByteArray) (hs : s.size ≤ 4) (σ : Store) : ACalls Tryz.prog 114 [.lit (.string s)] σ fun v σ' => v = .lit (.int .i64 (numTo s s.size : Nat)) ∧ σ' = σ := by
  refine ACalls.of_awp follows (st := st114) (plans := pl114) (n := 32) Tryz.func114 rfl (by kernel_rfl) (by kernel_rfl) (by kernel_rfl) ?_
  simp
  refine codeK.loop follows (st := st114) (plans := pl114) (X := Nat) (fun k => k ≤ s.size)
    (fun k => [(0, .lit (.string s)), (3, .lit (.int .i64 (numTo s k : Nat))), (4, .lit (.int .i64 k))]) (fun _ => σ) (fun k => s.size - k) 0 (by kernel_rfl) (by simp) (by simp [numTo]) (Store.sub_refl _) fun k hk => ?_
  by_cases hlt : k < s.size
  · have hle := numTo_le s k (by omega)
    have hle2 := numTo_le s (k + 1) (by omega)
    have hk1 : IntKind.i64.wrap ((k : Int) + 1) = ((k + 1 : Nat) : Int) := wrap_i64 (by omega) (by omega)
    have hdl : k < s.data.size := hlt
    have hs2 : numTo s (k + 1) = 16 * numTo s k + digN s.data[k] := by rw [numTo, Array.getElem?_eq_getElem hdl]; rfl
    have hm : IntKind.i64.wrap (16 * (numTo s k : Int)) = ((16 * numTo s k : Nat) : Int) := wrap_i64 (by omega) (by omega)
    have hlt2 := (s.data[k]).toNat_lt
    simp [hlt]
    generalize s.data[k] = b at *
    have d1 := sub48 b
    have d2 := sub97 b
    have l1 := (b - 48).toNat_lt
    have l2 := (b - 97).toNat_lt
    unfold digN at hs2
    split
    · next h97 =>
      rw [if_pos (by omega)] at hs2
      have hw : IntKind.i64.wrap (IntKind.i64.wrap (16 * (numTo s k : Int)) + IntKind.i64.wrap (IntKind.i64.wrap (IntKind.u8.wrap ((b.toNat : Int) - 97)) + 10)) = (numTo s (k + 1) : Nat) := by
        rw [hm, d2, wrap_i64 (n := ((b - 97).toNat : Int)) (by omega) (by omega), wrap_i64 (n := ((b - 97).toNat : Int) + 10) (by omega) (by omega), wrap_i64 (by omega) (by omega), hs2]
        omega
      exact ⟨k + 1, by omega, by omega, by rw [hw]; exact AV.le_refl _, by rw [hk1]; exact AV.le_refl _⟩
    · next h97 =>
      rw [if_neg (by omega)] at hs2
      have hw : IntKind.i64.wrap (IntKind.i64.wrap (16 * (numTo s k : Int)) + IntKind.i64.wrap (IntKind.u8.wrap ((b.toNat : Int) - 48))) = (numTo s (k + 1) : Nat) := by
        rw [hm, d1, wrap_i64 (n := ((b - 48).toNat : Int)) (by omega) (by omega), wrap_i64 (by omega) (by omega), hs2]
        omega
      exact ⟨k + 1, by omega, by omega, by rw [hw]; exact AV.le_refl _, by rw [hk1]; exact AV.le_refl _⟩
  · obtain rfl : k = s.size := by omega
    simp [hlt]
end Go.Proofs.YtlmdbcgceijlnaaGreatDoor
/-
  The document's signs, as its strings say.
-/
namespace Go.Proofs.YtlmdbcgceijlnaaGreatDoor
open Go Go.AL

def rbase0 : List UInt8 := [48, 48, 48, 48, 48, 48, 48, 49, 48, 48, 48, 50, 48, 48, 48, 51, 48, 48, 57, 99, 48, 48, 48, 57, 48, 48, 56, 54, 48, 48, 55, 102, 48, 48, 57, 55, 48, 48, 56, 100, 48, 48, 56, 101, 48, 48, 48, 98, 48, 48, 48, 99, 48, 48, 48, 100, 48, 48, 48, 101, 48, 48, 48, 102]
def rbase1 : List UInt8 := [48, 48, 49, 48, 48, 48, 49, 49, 48, 48, 49, 50, 48, 48, 49, 51, 48, 48, 57, 100, 48, 48, 56, 53, 48, 48, 48, 56, 48, 48, 56, 55, 48, 48, 49, 56, 48, 48, 49, 57, 48, 48, 57, 50, 48, 48, 56, 102, 48, 48, 49, 99, 48, 48, 49, 100, 48, 48, 49, 101, 48, 48, 49, 102]
def rbase2 : List UInt8 := [48, 48, 56, 48, 48, 48, 56, 49, 48, 48, 56, 50, 48, 48, 56, 51, 48, 48, 56, 52, 48, 48, 48, 97, 48, 48, 49, 55, 48, 48, 49, 98, 48, 48, 56, 56, 48, 48, 56, 57, 48, 48, 56, 97, 48, 48, 56, 98, 48, 48, 56, 99, 48, 48, 48, 53, 48, 48, 48, 54, 48, 48, 48, 55]
def rbase3 : List UInt8 := [48, 48, 57, 48, 48, 48, 57, 49, 48, 48, 49, 54, 48, 48, 57, 51, 48, 48, 57, 52, 48, 48, 57, 53, 48, 48, 57, 54, 48, 48, 48, 52, 48, 48, 57, 56, 48, 48, 57, 57, 48, 48, 57, 97, 48, 48, 57, 98, 48, 48, 49, 52, 48, 48, 49, 53, 48, 48, 57, 101, 48, 48, 49, 97]
def rbase4 : List UInt8 := [48, 48, 50, 48, 48, 48, 97, 48, 48, 48, 101, 50, 48, 48, 101, 52, 48, 48, 101, 48, 48, 48, 101, 49, 48, 48, 101, 51, 48, 48, 101, 53, 48, 48, 101, 55, 48, 48, 102, 49, 48, 48, 97, 50, 48, 48, 50, 101, 48, 48, 51, 99, 48, 48, 50, 56, 48, 48, 50, 98, 48, 48, 55, 99]
def rbase5 : List UInt8 := [48, 48, 50, 54, 48, 48, 101, 57, 48, 48, 101, 97, 48, 48, 101, 98, 48, 48, 101, 56, 48, 48, 101, 100, 48, 48, 101, 101, 48, 48, 101, 102, 48, 48, 101, 99, 48, 48, 100, 102, 48, 48, 50, 49, 48, 48, 50, 52, 48, 48, 50, 97, 48, 48, 50, 57, 48, 48, 51, 98, 48, 48, 97, 99]
def rbase6 : List UInt8 := [48, 48, 50, 100, 48, 48, 50, 102, 48, 48, 99, 50, 48, 48, 99, 52, 48, 48, 99, 48, 48, 48, 99, 49, 48, 48, 99, 51, 48, 48, 99, 53, 48, 48, 99, 55, 48, 48, 100, 49, 48, 48, 97, 54, 48, 48, 50, 99, 48, 48, 50, 53, 48, 48, 53, 102, 48, 48, 51, 101, 48, 48, 51, 102]
def rbase7 : List UInt8 := [48, 48, 102, 56, 48, 48, 99, 57, 48, 48, 99, 97, 48, 48, 99, 98, 48, 48, 99, 56, 48, 48, 99, 100, 48, 48, 99, 101, 48, 48, 99, 102, 48, 48, 99, 99, 48, 48, 54, 48, 48, 48, 51, 97, 48, 48, 50, 51, 48, 48, 52, 48, 48, 48, 50, 55, 48, 48, 51, 100, 48, 48, 50, 50]
def rbase8 : List UInt8 := [48, 48, 100, 56, 48, 48, 54, 49, 48, 48, 54, 50, 48, 48, 54, 51, 48, 48, 54, 52, 48, 48, 54, 53, 48, 48, 54, 54, 48, 48, 54, 55, 48, 48, 54, 56, 48, 48, 54, 57, 48, 48, 97, 98, 48, 48, 98, 98, 48, 48, 102, 48, 48, 48, 102, 100, 48, 48, 102, 101, 48, 48, 98, 49]
def rbase9 : List UInt8 := [48, 48, 98, 48, 48, 48, 54, 97, 48, 48, 54, 98, 48, 48, 54, 99, 48, 48, 54, 100, 48, 48, 54, 101, 48, 48, 54, 102, 48, 48, 55, 48, 48, 48, 55, 49, 48, 48, 55, 50, 48, 48, 97, 97, 48, 48, 98, 97, 48, 48, 101, 54, 48, 48, 98, 56, 48, 48, 99, 54, 48, 48, 97, 52]
def rbase10 : List UInt8 := [48, 48, 98, 53, 48, 48, 55, 101, 48, 48, 55, 51, 48, 48, 55, 52, 48, 48, 55, 53, 48, 48, 55, 54, 48, 48, 55, 55, 48, 48, 55, 56, 48, 48, 55, 57, 48, 48, 55, 97, 48, 48, 97, 49, 48, 48, 98, 102, 48, 48, 100, 48, 48, 48, 100, 100, 48, 48, 100, 101, 48, 48, 97, 101]
def rbase11 : List UInt8 := [48, 48, 53, 101, 48, 48, 97, 51, 48, 48, 97, 53, 48, 48, 98, 55, 48, 48, 97, 57, 48, 48, 97, 55, 48, 48, 98, 54, 48, 48, 98, 99, 48, 48, 98, 100, 48, 48, 98, 101, 48, 48, 53, 98, 48, 48, 53, 100, 48, 48, 97, 102, 48, 48, 97, 56, 48, 48, 98, 52, 48, 48, 100, 55]
def rbase12 : List UInt8 := [48, 48, 55, 98, 48, 48, 52, 49, 48, 48, 52, 50, 48, 48, 52, 51, 48, 48, 52, 52, 48, 48, 52, 53, 48, 48, 52, 54, 48, 48, 52, 55, 48, 48, 52, 56, 48, 48, 52, 57, 48, 48, 97, 100, 48, 48, 102, 52, 48, 48, 102, 54, 48, 48, 102, 50, 48, 48, 102, 51, 48, 48, 102, 53]
def rbase13 : List UInt8 := [48, 48, 55, 100, 48, 48, 52, 97, 48, 48, 52, 98, 48, 48, 52, 99, 48, 48, 52, 100, 48, 48, 52, 101, 48, 48, 52, 102, 48, 48, 53, 48, 48, 48, 53, 49, 48, 48, 53, 50, 48, 48, 98, 57, 48, 48, 102, 98, 48, 48, 102, 99, 48, 48, 102, 57, 48, 48, 102, 97, 48, 48, 102, 102]
def rbase14 : List UInt8 := [48, 48, 53, 99, 48, 48, 102, 55, 48, 48, 53, 51, 48, 48, 53, 52, 48, 48, 53, 53, 48, 48, 53, 54, 48, 48, 53, 55, 48, 48, 53, 56, 48, 48, 53, 57, 48, 48, 53, 97, 48, 48, 98, 50, 48, 48, 100, 52, 48, 48, 100, 54, 48, 48, 100, 50, 48, 48, 100, 51, 48, 48, 100, 53]
def rbase15 : List UInt8 := [48, 48, 51, 48, 48, 48, 51, 49, 48, 48, 51, 50, 48, 48, 51, 51, 48, 48, 51, 52, 48, 48, 51, 53, 48, 48, 51, 54, 48, 48, 51, 55, 48, 48, 51, 56, 48, 48, 51, 57, 48, 48, 98, 51, 48, 48, 100, 98, 48, 48, 100, 99, 48, 48, 100, 57, 48, 48, 100, 97, 48, 48, 57, 102]
def rbaseL : List UInt8 := rbase0 ++ rbase1 ++ rbase2 ++ rbase3 ++ rbase4 ++ rbase5 ++ rbase6 ++ rbase7 ++ rbase8 ++ rbase9 ++ rbase10 ++ rbase11 ++ rbase12 ++ rbase13 ++ rbase14 ++ rbase15
def rothL37 : List UInt8 := []
def rothL273 : List UInt8 := [52, 51, 48, 48, 55, 98, 52, 97, 48, 48, 99, 52, 52, 102, 48, 48, 50, 49, 53, 57, 48, 48, 55, 101, 53, 97, 48, 48, 100, 99, 53, 102, 48, 48, 53, 101, 54, 51, 48, 48, 53, 98, 54, 97, 48, 48, 102, 54, 55, 99, 48, 48, 97, 55, 97, 49, 48, 48, 100, 102, 98, 48, 48, 48, 97, 50, 98, 53, 48, 48, 52, 48, 98, 97, 48, 48, 97, 99, 98, 98, 48, 48, 55, 99, 99, 48, 48, 48, 101, 52, 99, 99, 48, 48, 97, 54, 100, 48, 48, 48, 102, 99, 100, 99, 48, 48, 55, 100, 101, 48, 48, 48, 100, 54, 101, 99, 48, 48, 53, 99, 102, 99, 48, 48, 53, 100]
def rothL297 : List UInt8 := [52, 52, 48, 48, 52, 48, 52, 56, 48, 48, 53, 99, 52, 97, 48, 48, 98, 48, 52, 102, 48, 48, 50, 49, 53, 49, 48, 48, 55, 98, 53, 52, 48, 48, 55, 100, 53, 97, 48, 48, 97, 55, 53, 102, 48, 48, 53, 101, 54, 97, 48, 48, 102, 57, 55, 57, 48, 48, 98, 53, 55, 98, 48, 48, 97, 51, 55, 99, 48, 48, 101, 48, 57, 48, 48, 48, 53, 98, 97, 48, 48, 48, 54, 48, 97, 49, 48, 48, 97, 56, 98, 48, 48, 48, 97, 50, 98, 49, 48, 48, 50, 51, 98, 53, 48, 48, 53, 100, 98, 97, 48, 48, 97, 99, 98, 98, 48, 48, 55, 99, 98, 100, 48, 48, 55, 101, 99, 48, 48, 48, 101, 57, 100, 48, 48, 48, 101, 56, 100, 100, 48, 48, 97, 54, 101, 48, 48, 48, 101, 55]
def rothL500 : List UInt8 := [52, 97, 48, 48, 53, 98, 52, 102, 48, 48, 50, 49, 53, 97, 48, 48, 53, 100, 53, 102, 48, 48, 53, 101, 98, 48, 48, 48, 97, 50, 98, 97, 48, 48, 97, 99, 98, 98, 48, 48, 55, 99]
def rothL1047 : List UInt8 := [53, 102, 48, 48, 53, 101, 97, 100, 48, 48, 53, 98, 98, 48, 48, 48, 97, 99, 98, 97, 48, 48, 100, 100, 98, 98, 48, 48, 97, 56, 98, 100, 48, 48, 53, 100]
def rothL1140 : List UInt8 := [57, 102, 50, 48, 97, 99]
def rothL (n : Int) : List UInt8 := if n = 37 then rothL37 else if n = 273 then rothL273 else if n = 297 then rothL297 else if n = 500 then rothL500 else if n = 1047 then rothL1047 else if n = 1140 then rothL1140 else rothL37
def toB (L : List UInt8) : ByteArray := ⟨L.toArray⟩
theorem toB_size (L : List UInt8) : (toB L).size = L.length := by simp [toB, ByteArray.size]
def numL (L : List UInt8) : Nat := L.foldl (fun a b => 16 * a + digN b) 0
def numS (s : ByteArray) : Nat := numTo s s.size
theorem numTo_list (s : ByteArray) : ∀ k, k ≤ s.size → numTo s k = numL (s.data.toList.take k)
  | 0, _ => rfl
  | k + 1, h => by
    have hk : k < s.data.toList.length := by rw [Array.length_toList]; exact h
    rw [numTo, numTo_list s k (by omega), List.take_succ_eq_append_getElem hk]
    unfold numL
    rw [List.foldl_append]
    have : s.data[k]?.getD 0 = s.data.toList[k] := by
      rw [Array.getElem?_eq_getElem (by simpa using hk)]; rfl
    rw [this]; rfl
theorem numS_part (L : List UInt8) (i m : Nat) (h : i + m ≤ L.length) : ((toB L).extract i (i + m)).size = m ∧ numS ((toB L).extract i (i + m)) = numL ((L.drop i).take m) := by
  have hd : ((toB L).extract i (i + m)).data.toList = (L.drop i).take m := by
    simp [toB, ByteArray.data_extract]
  have hs : ((toB L).extract i (i + m)).size = m := by
    have : ((toB L).extract i (i + m)).data.toList.length = m := by rw [hd]; simp; omega
    rw [Array.length_toList] at this; exact this
  refine ⟨hs, ?_⟩
  unfold numS
  rw [numTo_list _ _ (Nat.le_refl _), hd, hs, List.take_take]
  simp
def hex4 : List UInt8 → List Nat
  | a :: b :: c :: d :: r => numL [a, b, c, d] :: hex4 r
  | _ => []
def hex6 : List UInt8 → List (Nat × Nat)
  | a :: b :: c :: d :: e :: f :: r => (numL [a, b], numL [c, d, e, f]) :: hex6 r
  | _ => []
/-- The sign of a code. -/
def rsign (n : Int) (c : Nat) : Nat := (((othersF n).find? (fun o => o.1 == c)).map (·.2)).getD (baseL.getD c 0)
end Go.Proofs.YtlmdbcgceijlnaaGreatDoor
/-
  The document's sign of a code, and the code of a sign.
-/
namespace Go.Proofs.YtlmdbcgceijlnaaGreatDoor
open Go Go.AL

theorem nums_calls (s : ByteArray) (hs : s.size ≤ 4) (σ : Store) : ACalls Tryz.prog 114 [.lit (.string s)] σ fun v σ' => v = .lit (.int .i64 (numS s : Nat)) ∧ σ' = σ := num_calls s hs σ
/-- A sign's code, or none. -/
def codeZ (n s : Int) : Int := match codeIx n s with | some j => (j : Nat) | none => -1
end Go.Proofs.YtlmdbcgceijlnaaGreatDoor
/-
  Of each function: which temporaries take a right to append with the value; the plans of the regions that draw their order. Written by a program of mine.
-/
namespace Go.Proofs.YtlmdbcgceijlnaaGreatDoor
open Go Go.AL
/- internal/strconv.Itoa -/
@[simp] def st119 : List Nat := []
@[simp] def pl119 : List (Nat × Plan) := []
/- internal/strconv.FormatInt -/
@[simp] def st157 : List Nat := [53]
@[simp] def pl157 : List (Nat × Plan) := []
/- internal/strconv.small -/
@[simp] def st179 : List Nat := []
@[simp] def pl179 : List (Nat × Plan) := []
end Go.Proofs.YtlmdbcgceijlnaaGreatDoor
/-
  The names of the keys that send; the short ones.
-/
namespace Go.Proofs.YtlmdbcgceijlnaaGreatDoor
open Go Go.AL Go.Sp
variable {σ : Store}

@[simp] theorem callable119 : callable Tryz.prog 119 = true := nr (by kernel_rfl)
@[simp] theorem callable157 : callable Tryz.prog 157 = true := nr (by kernel_rfl)
@[simp] theorem callable179 : callable Tryz.prog 179 = true := nr (by kernel_rfl)
theorem toB_append (a b : List UInt8) : toB a ++ toB b = toB (a ++ b) := by
  apply ByteArray.ext
  simp [toB]
theorem toB_extract (L : List UInt8) (i j : Nat) (h : i ≤ j) : (toB L).extract i j = toB ((L.drop i).take (j - i)) := by
  apply ByteArray.ext
  apply Array.ext'
  simp [toB, ByteArray.data_extract]
/-- A part of a known text. -/
theorem aSlice_str {P : Program} {t : TypeId} (ht : tElem P t = none) (hs : tStr P t = true) (L : List UInt8) (a b : Nat) (za zb : Int) (ha : za = a) (hb : zb = b) (hab : a ≤ b) (hbl : b ≤ L.length) :
    aSlice P t (.lit (.string (toB L))) (some (.lit (.int .i64 za))) (some (.lit (.int .i64 zb))) none = some (.lit (.string (toB ((L.drop a).take (b - a))))) := by
  subst ha hb
  have hsz := toB_size L
  have h0 : (0 : Int) ≤ (a : Int) := by omega
  have h1 : (0 : Int) ≤ (b : Int) := by omega
  have h2 : b ≤ (toB L).size := by omega
  simp [aSlice, ht, hs, bndA, h0, h1, hab, h2, toB_extract L a b hab]
def digsL : List UInt8 := [48, 49, 50, 51, 52, 53, 54, 55, 56, 57]
def decL (n : Nat) : List UInt8 := if n < 10 then [UInt8.ofNat (48 + n)] else [UInt8.ofNat (48 + n / 10), UInt8.ofNat (48 + n % 10)]
theorem decL_len (n : Nat) : (decL n).length ≤ 2 := by unfold decL; split <;> simp
theorem dec_room (a b : Nat) : ¬ (9223372036854775807 : Int) < ((toB (decL a)).size : Int) + ((toB (decL b)).size : Int) := by
  have h1 := decL_len a
  have h2 := decL_len b
  rw [toB_size, toB_size]; omega
theorem digs_at : ∀ i : Fin 10, (digsL.drop i.val).take 1 = decL i.val := by decide +kernel
set_option maxRecDepth 8000 in
theorem rdec10_calls {n : Nat} (hn : n < 10) (σ : Store) : ACalls Tryz.prog 80 [.lit (.int .i64 n)] σ fun v σ' => v = .lit (.string (toB (decL n))) ∧ σ' = σ := by
  have hd := digs_at ⟨n, hn⟩
  dsimp only at hd
  have hw : IntKind.i64.wrap ((n : Int) + 1) = (n : Int) + 1 := wrap_i64 (by omega) (by omega)
  have hsl := aSlice_str (P := Tryz.prog) (t := 9) (by simp) (by simp) digsL n (n + 1) (n : Int) ((n : Int) + 1) rfl (by omega) (by omega) (by show n + 1 ≤ 10; omega)
  rw [show n + 1 - n = 1 from by omega, hd] at hsl
  have hc : (⟨#[48, 49, 50, 51, 52, 53, 54, 55, 56, 57]⟩ : ByteArray) = toB digsL := rfl
  have h10 : (n : Int) < 10 := by omega
  have h0 : ¬ (n : Int) < 0 := by omega
  refine ACalls.of_awp follows (st := st80) (plans := pl80) (n := 21) Tryz.func80 rfl (by kernel_rfl) (by kernel_rfl) (by kernel_rfl) ?_
  simp [-e_aSlice_1, -e_aSlice_2, hc, hw, hsl, hn, h10, h0]
set_option maxRecDepth 8000 in
theorem rdec_calls {n : Nat} (hn : n < 100) (σ : Store) : ACalls Tryz.prog 80 [.lit (.int .i64 n)] σ fun v σ' => v = .lit (.string (toB (decL n))) ∧ σ' = σ := by
  by_cases h10 : n < 10
  · exact rdec10_calls h10 σ
  have h1 := rdec10_calls (n := n / 10) (by omega) σ
  have h2 := rdec10_calls (n := n % 10) (by omega) σ
  have e1 : decL n = decL (n / 10) ++ decL (n % 10) := by
    unfold decL
    rw [if_neg h10, if_pos (by omega), if_pos (by omega)]; rfl
  have g1 : (n : Int).tdiv 10 = ((n / 10 : Nat) : Int) := rfl
  have g2 : (n : Int).tmod 10 = ((n % 10 : Nat) : Int) := rfl
  have h10' : ¬ (n : Int) < 10 := by omega
  have h0 : ¬ (n : Int) < 0 := by omega
  have b1 : n / 10 < 10 := by omega
  have b2 : n % 10 < 10 := by omega
  rw [e1]
  generalize n / 10 = a at *
  generalize n % 10 = b at *
  have q1 : IntKind.i64.wrap ((n : Int).tdiv 10) = (a : Int) := by rw [g1]; exact wrap_i64 (by omega) (by omega)
  have q1' : IntKind.i64.wrap ((n : Int) / 10) = (a : Int) := by
    have : (n : Int) / 10 = (a : Int) := g1
    rw [this]; exact wrap_i64 (by omega) (by omega)
  have q2 : IntKind.i64.wrap ((n : Int).tmod 10) = (b : Int) := by rw [g2]; exact wrap_i64 (by omega) (by omega)
  have q2' : IntKind.i64.wrap (b : Int) = (b : Int) := wrap_i64 (by omega) (by omega)
  refine ACalls.of_awp follows (st := st80) (plans := pl80) (n := 21) Tryz.func80 rfl (by kernel_rfl) (by kernel_rfl) (by kernel_rfl) ?_
  simp [h10, h10', h0, q1, q1']
  refine callK.eq h1 ?_
  simp [q2, q2', g2]
  refine callK.eq h2 ?_
  simp [toB_append, dec_room]
def smallsL : List UInt8 := (List.range 100).flatMap fun n => [UInt8.ofNat (48 + n / 10), UInt8.ofNat (48 + n % 10)]
def digits36 : List UInt8 := [48, 49, 50, 51, 52, 53, 54, 55, 56, 57, 97, 98, 99, 100, 101, 102, 103, 104, 105, 106, 107, 108, 109, 110, 111, 112, 113, 114, 115, 116, 117, 118, 119, 120, 121, 122]
theorem smalls_len : smallsL.length = 200 := by decide +kernel
theorem smalls_at : ∀ i : Fin 100, 10 ≤ i.val → (smallsL.drop (2 * i.val)).take 2 = decL i.val := by decide +kernel
theorem digs36_at : ∀ i : Fin 10, (digits36.drop i.val).take 1 = decL i.val := by decide +kernel
theorem mk_toB (L : List UInt8) (a : Array UInt8) (h : a = L.toArray) : ByteArray.mk a = toB L := by rw [h]; rfl
set_option maxRecDepth 8000 in
theorem small_calls {n : Nat} (hn : n < 100) (σ : Store) : ACalls Tryz.prog 179 [.lit (.int .i64 n)] σ fun v σ' => v = .lit (.string (toB (decL n))) ∧ σ' = σ := by
  refine ACalls.of_awp follows (st := st179) (plans := pl179) (n := 15) Tryz.func179 rfl (by kernel_rfl) (by kernel_rfl) (by kernel_rfl) ?_
  by_cases h10 : n < 10
  · have hd := digs36_at ⟨n, h10⟩
    dsimp only at hd
    have hw : IntKind.i64.wrap ((n : Int) + 1) = (n : Int) + 1 := wrap_i64 (by omega) (by omega)
    have hsl := aSlice_str (P := Tryz.prog) (t := 9) (by simp) (by simp) digits36 n (n + 1) (n : Int) ((n : Int) + 1) rfl (by omega) (by omega) (by show n + 1 ≤ 36; omega)
    rw [show n + 1 - n = 1 from by omega, hd] at hsl
    have hc : (⟨#[48, 49, 50, 51, 52, 53, 54, 55, 56, 57, 97, 98, 99, 100, 101, 102, 103, 104, 105, 106, 107, 108, 109, 110, 111, 112, 113, 114, 115, 116, 117, 118, 119, 120, 121, 122]⟩ : ByteArray) = toB digits36 := rfl
    have h10' : (n : Int) < 10 := by omega
    simp [-e_aSlice_1, -e_aSlice_2, hc, hw, hsl, h10, h10']
  · have hd := smalls_at ⟨n, hn⟩ (by show 10 ≤ n; omega)
    dsimp only at hd
    have hw1 : IntKind.i64.wrap ((n : Int) * 2) = (n : Int) * 2 := wrap_i64 (by omega) (by omega)
    have hw2 : IntKind.i64.wrap ((n : Int) * 2 + 2) = (n : Int) * 2 + 2 := wrap_i64 (by omega) (by omega)
    have hsl := aSlice_str (P := Tryz.prog) (t := 9) (by simp) (by simp) smallsL (2 * n) (2 * n + 2) ((n : Int) * 2) ((n : Int) * 2 + 2) (by omega) (by omega) (by omega) (by rw [smalls_len]; omega)
    rw [show 2 * n + 2 - 2 * n = 2 from by omega, hd] at hsl
    have h10' : ¬ (n : Int) < 10 := by omega
    simp [-e_aSlice_1, -e_aSlice_2, hw1, hw2, h10, h10']
    rw [mk_toB smallsL]
    rotate_left
    · kernel_rfl
    rw [hsl]
    simp
set_option maxRecDepth 8000 in
theorem fmtint_calls {n : Nat} (hn : n < 100) (σ : Store) : ACalls Tryz.prog 157 [.lit (.int .i64 n), .lit (.int .i64 10)] σ fun v σ' => v = .lit (.string (toB (decL n))) ∧ σ' = σ := by
  have h := small_calls hn σ
  have h0 : (0 : Int) ≤ (n : Int) := by omega
  have h1 : (n : Int) < 100 := by omega
  refine ACalls.of_awp follows (st := st157) (plans := pl157) (n := 54) Tryz.func157 rfl (by kernel_rfl) (by kernel_rfl) (by kernel_rfl) ?_
  simp [h0, h1, hn]
  refine callK.eq h ?_
  simp
set_option maxRecDepth 8000 in
theorem itoa2_calls {n : Nat} (hn : n < 100) (σ : Store) : ACalls Tryz.prog 119 [.lit (.int .i64 n)] σ fun v σ' => v = .lit (.string (toB (decL n))) ∧ σ' = σ := by
  have h := fmtint_calls hn σ
  refine ACalls.of_awp follows (st := st119) (plans := pl119) (n := 5) Tryz.func119 rfl (by kernel_rfl) (by kernel_rfl) (by kernel_rfl) ?_
  simp
  refine callK.eq h ?_
  simp
set_option maxRecDepth 8000 in
theorem itoa_calls {n : Nat} (hn : n < 100) (σ : Store) : ACalls Tryz.prog 73 [.lit (.int .i64 n)] σ fun v σ' => v = .lit (.string (toB (decL n))) ∧ σ' = σ := by
  have h := itoa2_calls hn σ
  refine ACalls.of_awp follows (st := st73) (plans := pl73) (n := 5) Tryz.func73 rfl (by kernel_rfl) (by kernel_rfl) (by kernel_rfl) ?_
  simp
  refine callK.eq h ?_
  simp
/-- Where a byte stands in a list, from 1 on; 0: nowhere. -/
def plcN (L : List UInt8) (b : UInt8) : Nat := if L.idxOf b < L.length then L.idxOf b + 1 else 0
set_option maxRecDepth 8000 in
theorem keyplc_calls' (L : List UInt8) (hL : L.length ≤ 1000000) (b : UInt8) (s : ByteArray) (hsz : s.size = L.length) (hb : ∀ i (h1 : i < s.size) (hi : i < L.length), s[i] = L[i]) (σ : Store) : ACalls Tryz.prog 95 [.lit (.string s), byteA b] σ fun v σ' => v = .lit (.int .i64 (plcN L b : Nat)) ∧ σ' = σ := by
  unfold plcN
  refine ACalls.of_awp follows (st := st95) (plans := pl95) (n := 19) Tryz.func95 rfl (by kernel_rfl) (by kernel_rfl) (by kernel_rfl) ?_
  simp [byteA]
  refine codeK.loop follows (st := st95) (plans := pl95) (X := Nat) (fun i => i ≤ L.length ∧ i ≤ L.idxOf b)
    (fun i => [(0, .lit (.string s)), (1, byteA b), (7, .lit (.int .i64 L.length)), (8, .lit (.int .i64 i))]) (fun _ => σ) (fun i => L.length - i) 0 (by kernel_rfl) (by simp) (by simp [byteA, hsz]) (Store.sub_refl _) fun i hi => ?_
  obtain ⟨hi1, hi2⟩ := hi
  by_cases hlt : i < L.length
  · have hw1 : IntKind.i64.wrap ((i : Int) + 1) = (i : Int) + 1 := wrap_i64 (by omega) (by omega)
    have hlt2 : i < s.size := by omega
    have hbi := hb i hlt2 hlt
    by_cases he : L[i] = b
    · have hix : L.idxOf b = i := by
        have : L.idxOf b ≤ i := by
          rcases Nat.lt_or_ge i (L.idxOf b) with h | h
          · exact absurd he (List.not_of_lt_findIdx (p := (· == b)) h |> fun h2 => by simpa using h2)
          · exact h
        omega
      rw [hix, if_pos hlt]
      have he2 : s[i] = b := hbi.trans he
      have he5 : (s.data[i].toNat : Int) = b.toNat := by rw [← ByteArray.getElem_eq_getElem_data, he2]
      simp [byteA, hlt, hlt2, he5, hw1]
    · have he2 : ¬ s[i] = b := fun h => he (hbi.symm.trans h)
      have he3 : ¬ (s[i].toNat : Int) = (b.toNat : Int) := fun h => he2 (UInt8.toNat_inj.1 (by omega))
      have he4 : ¬ s[i].toNat = b.toNat := fun h => he2 (UInt8.toNat_inj.1 h)
      have hne : ¬ i = L.idxOf b := fun h => by
        have h2 : L.idxOf b < L.length := by omega
        have := List.getElem_idxOf h2
        exact he (by simpa [← h] using this)
      have he5 : ¬ (s.data[i].toNat : Int) = b.toNat := by rw [← ByteArray.getElem_eq_getElem_data]; exact he3
      have he6 : ¬ s.data[i].toNat = b.toNat := by rw [← ByteArray.getElem_eq_getElem_data]; exact he4
      simp [byteA, hlt, hlt2, he5, he6, hw1]
      exact ⟨i + 1, by omega, by omega, by simp⟩
  · have hge : ¬ L.idxOf b < L.length := by omega
    rw [if_neg hge]
    obtain rfl : i = L.length := by omega
    simp
theorem keyplc_calls (L : List UInt8) (hL : L.length ≤ 1000000) (b : UInt8) (σ : Store) : ACalls Tryz.prog 95 [.lit (.string (toB L)), byteA b] σ fun v σ' => v = .lit (.int .i64 (plcN L b : Nat)) ∧ σ' = σ :=
  keyplc_calls' L hL b (toB L) (toB_size L) (fun i h1 hi => by simp [toB, ByteArray.getElem_eq_getElem_data]) σ
end Go.Proofs.YtlmdbcgceijlnaaGreatDoor
