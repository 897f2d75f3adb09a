/-
  Commands by byte and by name, the program's and the document's.
-/
import Derived.Test.YtnlggjbcdienfaaDoorNPart21
import Derived.Test.YtnlggjbcdienfaaDoorRows
import Derived.Lay
import Derived.LaidMore
namespace Go.Proofs.YtnlggjbcdienfaaDoor
open Go Go.AL Go.Sp

def tabC : Array UInt8 := #[48, 51, 48, 49, 48, 53, 48, 100, 48, 102, 48, 50, 48, 54, 48, 101, 49, 49, 48, 51, 102, 49, 102, 53, 55, 101, 54, 102, 102, 50, 102, 54, 54, 101, 102, 51]
def tc (i : Nat) : UInt8 := tabC[i]?.getD 0
def refC (k : Nat) : Nat := 16 * dig (tc (2 * k)) + dig (tc (2 * k + 1))
theorem tabc_ext (r : Fin 18) : (ByteArray.mk tabC).extract (r.val * 2) (r.val * 2 + 2) = ⟨#[tc (2 * r.val), tc (2 * r.val + 1)]⟩ := by
  revert r; decide +kernel
theorem tabc_dig (r : Fin 18) : 48 ≤ (tc (2 * r.val)).toNat ∧ 48 ≤ (tc (2 * r.val + 1)).toNat := by
  revert r; decide +kernel
theorem tabc_size : (ByteArray.mk tabC).size = 36 := by decide +kernel
def refCmd (b : UInt8) : Int := match (List.range 18).find? (fun k => refC k == b.toNat) with
  | some k => (k % 9 : Nat)
  | none => -1
theorem ref_cmd (b : UInt8) : refCmd b = if (cmdF b).2 = true then ((cmdF b).1 : Int) else -1 := by
  revert b; apply all_bytes; decide +kernel
theorem refCmd_hit {b : UInt8} {k : Nat} (hk : k < 18) (h : ∀ i, i < k → ¬ refC i = b.toNat) (hh : refC k = b.toNat) : refCmd b = (k % 9 : Nat) := by
  have : (List.range 18).find? (fun k => refC k == b.toNat) = some k := by
    rw [List.find?_range_eq_some]
    exact ⟨by simp [hh], by simpa using hk, fun j hj => by simpa using h j hj⟩
  unfold refCmd; rw [this]
theorem refCmd_none {b : UInt8} (h : ∀ i, i < 18 → ¬ refC i = b.toNat) : refCmd b = -1 := by
  have : (List.range 18).find? (fun k => refC k == b.toNat) = none := by
    rw [List.find?_range_eq_none]
    exact fun j hj => by simpa using h j hj
  unfold refCmd; rw [this]
set_option maxRecDepth 8000 in
theorem rcommand_calls (b : UInt8) (σ : Store) : ACalls Tryd.prog 13 [byteA b] σ fun v σ' => v = .lit (.int .i64 (refCmd b)) ∧ σ' = σ := by
  refine ACalls.of_awp follows (st := st13) (plans := pl13) (n := 20) Tryd.func13 rfl (by kernel_rfl) (by kernel_rfl) (by kernel_rfl) ?_
  simp
  refine codeK.loop follows (st := st13) (plans := pl13) (X := Nat) (fun k => k ≤ 18 ∧ ∀ i, i < k → ¬ refC i = b.toNat)
    (fun k => [(0, byteA b), (3, .lit (.int .i64 k))]) (fun _ => σ) (fun k => 18 - k) 0 (by kernel_rfl) (by simp) (by simp) (Store.sub_refl _) fun k hk => ?_
  obtain ⟨hk18, hk⟩ := hk
  have hbl := byteA_lit b
  by_cases hlt : k < 18
  · have hw : IntKind.i64.wrap ((k : Int) + 1) = ((k + 1 : Nat) : Int) := wrap_i64 (by omega) (by omega)
    have hlt' : (k : Int) < 18 := by omega
    have hw2 : IntKind.i64.wrap (2 * (k : Int)) = ((k * 2 : Nat) : Int) := by rw [wrap_i64 (by omega) (by omega)]; omega
    have hw3 : IntKind.i64.wrap ((k : Int) * 2 + 2) = (k : Int) * 2 + 2 := wrap_i64 (by omega) (by omega)
    have n1 : (0 : Int) ≤ (k : Int) * 2 := by omega
    have n2 : (0 : Int) ≤ (k : Int) * 2 + 2 := by omega
    have n3 : ((k : Int) * 2).toNat = k * 2 := by omega
    have n4 : ((k : Int) * 2 + 2).toNat = k * 2 + 2 := by omega
    have n5 : k * 2 ≤ k * 2 + 2 ∧ k * 2 + 2 ≤ 36 := by omega
    have hw9 : IntKind.i64.wrap ((k : Int).tmod 9) = ((k % 9 : Nat) : Int) := by
      have e : (k : Int).tmod 9 = ((k % 9 : Nat) : Int) := rfl
      rw [e, wrap_i64 (by omega) (by omega)]
    have hx := tabc_ext ⟨k, hlt⟩
    have hdg := tabc_dig ⟨k, hlt⟩
    have hnum := fun τ => num_calls (tc (2 * k)) (tc (2 * k + 1)) hdg.1 hdg.2 τ
    have hsz := tabc_size
    have hrc : 16 * dig (tc (2 * k)) + dig (tc (2 * k + 1)) = refC k := rfl
    rw [hrc] at hnum
    simp only at hx
    generalize (⟨#[tc (2 * k), tc (2 * k + 1)]⟩ : ByteArray) = s2 at *
    unfold tabC at hx hsz
    by_cases hh : refC k = b.toNat
    · have hh2 : ((refC k : Nat) : Int) = (b.toNat : Int) := by omega
      rw [refCmd_hit hlt hk hh]
      simp [hlt', hw2, hw3, n1, n2, n3, n4, n5, hx, hsz]
      refine callK.of (hnum _) ?_
      rintro v σ2 ⟨rfl, rfl⟩
      have hw8 : (k : Int).tmod 9 = (k : Int) % 9 := Int.tmod_eq_emod_of_nonneg (by omega)
      simp [hh, hbl, hw8, wrapB]
    · have hh2 : ¬ ((refC k : Nat) : Int) = (b.toNat : Int) := by omega
      simp [hlt', hw2, hw3, n1, n2, n3, n4, n5, hx, hsz]
      refine callK.of (hnum _) ?_
      rintro v σ2 ⟨rfl, rfl⟩
      simp [hh2, hbl, hw, wrapB]
      refine ⟨k + 1, ⟨by omega, fun i hi => ?_⟩, by omega, AV.le_refl _⟩
      by_cases hik : i = k
      · rw [hik]; exact hh
      · exact hk i (by omega)
  · obtain rfl : k = 18 := by omega
    rw [refCmd_none hk]
    simp
/-! ### By name -/
def nmN (x : List UInt8 × UInt8 × UInt8) : AV := .lit (.string ⟨x.1.toArray⟩)
set_option maxRecDepth 8000 in
theorem of_in (k : Nat) (hk : k < 9) (σ : Store) : ACalls Tryd.prog 42 [.lit (.int .i64 k)] σ fun v σ' => v = .tuple [.agg (cmdC (cmdX k)), .lit (.bool true)] ∧ σ' = σ := by
  have hd := cmd_drop k hk
  have hlt' : (k : Int) < 9 := by omega
  have hle : ¬ ((9 : Int) ≤ k) := by omega
  have hl3 : 3 ≤ cmdsO.length - k * 3 := by have : cmdsO.length = 27 := rfl; omega
  have hn0 : ¬ (k : Int) < 0 := by omega
  generalize cmdX k = x at *
  refine ACalls.of_awp follows (st := st42) (plans := pl42) (n := 14) Tryd.func42 rfl (by kernel_rfl) (by kernel_rfl) (by kernel_rfl) ?_
  unfold cmdC at *
  simp [hd, hlt', hle, hl3, hn0]
  intro p hp
  exact Store.sub_upd hp (Store.sub_refl _)
set_option maxRecDepth 8000 in
theorem of_out (k : Int) (hk : k < 0 ∨ 9 ≤ k) (σ : Store) : ACalls Tryd.prog 42 [.lit (.int .i64 k)] σ fun v σ' => v = .tuple [.agg (cmdC ([], 0, 0)), .lit (.bool false)] ∧ σ' = σ := by
  refine ACalls.of_awp follows (st := st42) (plans := pl42) (n := 14) Tryd.func42 rfl (by kernel_rfl) (by kernel_rfl) (by kernel_rfl) ?_
  rcases hk with h | h
  · simp [h, cmdC]
    exact fun p hp => ⟨AV.le_refl _, Store.sub_upd hp (Store.sub_refl _)⟩
  · have h2 : ¬ k < 0 := by omega
    simp [h, h2, cmdC]
    exact fun p hp => ⟨AV.le_refl _, Store.sub_upd hp (Store.sub_refl _)⟩
set_option maxRecDepth 8000 in
theorem name_in (k : Nat) (hk : k < 9) (σ : Store) : ACalls Tryd.prog 18 [.lit (.int .i64 k)] σ fun v σ' => v = nmN (cmdX k) ∧ σ' = σ := by
  have ho := fun τ => of_in k hk τ
  generalize cmdX k = x at *
  refine ACalls.of_awp follows (st := st18) (plans := pl18) (n := 12) Tryd.func18 rfl (by kernel_rfl) (by kernel_rfl) (by kernel_rfl) ?_
  simp
  refine callK.of (ho _) ?_
  rintro v σ' ⟨rfl, rfl⟩
  simp [cmdC, nmN]
  exact fun p hp => Store.sub_upd hp (Store.sub_refl _)
set_option maxRecDepth 8000 in
theorem name_out (k : Int) (hk : k < 0 ∨ 9 ≤ k) (σ : Store) : ACalls Tryd.prog 18 [.lit (.int .i64 k)] σ fun v σ' => v = .lit (.string ByteArray.empty) ∧ σ' = σ := by
  have ho := fun τ => of_out k hk τ
  refine ACalls.of_awp follows (st := st18) (plans := pl18) (n := 12) Tryd.func18 rfl (by kernel_rfl) (by kernel_rfl) (by kernel_rfl) ?_
  simp
  refine callK.of (ho _) ?_
  rintro v σ' ⟨rfl, rfl⟩
  simp [cmdC]
  exact fun p hp => ⟨AV.le_refl _, Store.sub_upd hp (Store.sub_refl _)⟩
set_option maxRecDepth 8000 in
theorem byte_in (k : Nat) (hk : k < 9) (σ : Store) : ACalls Tryd.prog 16 [.lit (.int .i64 k)] σ fun v σ' => v = byteA (cmdX k).2.2 ∧ σ' = σ := by
  have ho := fun τ => of_in k hk τ
  generalize cmdX k = x at *
  rw [byteA_lit]
  refine ACalls.of_awp follows (st := st16) (plans := pl16) (n := 12) Tryd.func16 rfl (by kernel_rfl) (by kernel_rfl) (by kernel_rfl) ?_
  simp
  refine callK.of (ho _) ?_
  rintro v σ' ⟨rfl, rfl⟩
  simp [cmdC]
  exact fun p hp => Store.sub_upd hp (Store.sub_refl _)
set_option maxRecDepth 8000 in
theorem byte_out (k : Int) (hk : k < 0 ∨ 9 ≤ k) (σ : Store) : ACalls Tryd.prog 16 [.lit (.int .i64 k)] σ fun v σ' => v = .lit (.int .u8 0) ∧ σ' = σ := by
  have ho := fun τ => of_out k hk τ
  refine ACalls.of_awp follows (st := st16) (plans := pl16) (n := 12) Tryd.func16 rfl (by kernel_rfl) (by kernel_rfl) (by kernel_rfl) ?_
  simp
  refine callK.of (ho _) ?_
  rintro v σ' ⟨rfl, rfl⟩
  simp [cmdC]
  exact fun p hp => Store.sub_upd hp (Store.sub_refl _)
theorem refC_byte : ∀ k, k < 9 → refC (9 + k) = (cmdX k).2.2.toNat := by decide +kernel
set_option maxRecDepth 8000 in
theorem rbyte_in (k : Nat) (hk : k < 9) (σ : Store) : ACalls Tryd.prog 17 [.lit (.int .i64 k)] σ fun v σ' => v = byteA (cmdX k).2.2 ∧ σ' = σ := by
  have hx := tabc_ext ⟨9 + k, by omega⟩
  have hdg := tabc_dig ⟨9 + k, by omega⟩
  have hnum := fun τ => num_calls (tc (2 * (9 + k))) (tc (2 * (9 + k) + 1)) hdg.1 hdg.2 τ
  have hsz := tabc_size
  have hrc : 16 * dig (tc (2 * (9 + k))) + dig (tc (2 * (9 + k) + 1)) = refC (9 + k) := rfl
  have hrb := refC_byte k hk
  rw [hrc] at hnum
  rw [hrb] at hnum
  simp only at hx
  have hle : ¬ ((8 : Int) < k) := by omega
  have hn0 : ¬ (k : Int) < 0 := by omega
  have w1 : IntKind.i64.wrap (18 + IntKind.i64.wrap (2 * (k : Int))) = (k : Int) * 2 + 18 := by rw [wrap_i64 (n := 2 * (k : Int)) (by omega) (by omega), wrap_i64 (by omega) (by omega)]; omega
  have w2 : IntKind.i64.wrap (20 + IntKind.i64.wrap (2 * (k : Int))) = (k : Int) * 2 + 20 := by rw [wrap_i64 (n := 2 * (k : Int)) (by omega) (by omega), wrap_i64 (by omega) (by omega)]; omega
  have n1 : (0 : Int) ≤ (k : Int) * 2 + 18 := by omega
  have n2 : (0 : Int) ≤ (k : Int) * 2 + 20 := by omega
  have n3 : ((k : Int) * 2 + 18).toNat = (9 + k) * 2 := by omega
  have n4 : ((k : Int) * 2 + 20).toNat = (9 + k) * 2 + 2 := by omega
  have n5 : (9 + k) * 2 ≤ (9 + k) * 2 + 2 ∧ (9 + k) * 2 + 2 ≤ 36 := by omega
  unfold tabC at hx hsz
  generalize (⟨#[tc (2 * (9 + k)), tc (2 * (9 + k) + 1)]⟩ : ByteArray) = s2 at *
  generalize (cmdX k).2.2 = b at *
  have hbl := byteA_lit b
  have hwb : IntKind.u8.wrap (b.toNat : Int) = (b.toNat : Int) := wrap_u8 (by omega) (by have := b.toNat_lt; omega)
  refine ACalls.of_awp follows (st := st17) (plans := pl17) (n := 18) Tryd.func17 rfl (by kernel_rfl) (by kernel_rfl) (by kernel_rfl) ?_
  simp [hle, hn0, w1, w2, n1, n2, n3, n4, n5, hx, hsz]
  refine callK.of (hnum _) ?_
  rintro v σ2 ⟨rfl, rfl⟩
  simp [hbl, hwb]
theorem rbyte_out (k : Int) (hk : k < 0 ∨ 9 ≤ k) (σ : Store) : ACalls Tryd.prog 17 [.lit (.int .i64 k)] σ fun v σ' => v = .lit (.int .u8 0) ∧ σ' = σ := by
  refine ACalls.of_awp follows (st := st17) (plans := pl17) (n := 18) Tryd.func17 rfl (by kernel_rfl) (by kernel_rfl) (by kernel_rfl) ?_
  rcases hk with h | h
  · simp [h]
  · have h2 : ¬ k < 0 := by omega
    have h3 : (8 : Int) < k := by omega
    simp [h2, h3]
theorem rname_out (k : Int) (hk : k < 0 ∨ 9 ≤ k) (σ : Store) : ACalls Tryd.prog 19 [.lit (.int .i64 k)] σ fun v σ' => v = .lit (.string ByteArray.empty) ∧ σ' = σ := by
  refine ACalls.of_awp follows (st := st19) (plans := pl19) (n := 13) Tryd.func19 rfl (by kernel_rfl) (by kernel_rfl) (by kernel_rfl) ?_
  rcases hk with h | h
  · simp [h]
    exact AV.le_refl _
  · have h2 : ¬ k < 0 := by omega
    have h3 : (8 : Int) < k := by omega
    simp [h2, h3]
    exact AV.le_refl _
set_option maxRecDepth 8000 in
theorem rname_in (k : Nat) (hk : k < 9) (σ : Store) : ACalls Tryd.prog 19 [.lit (.int .i64 k)] σ fun v σ' => v = nmN (cmdX k) ∧ σ' = σ := by
  have : k = 0 ∨ k = 1 ∨ k = 2 ∨ k = 3 ∨ k = 4 ∨ k = 5 ∨ k = 6 ∨ k = 7 ∨ k = 8 := by omega
  rcases this with rfl | rfl | rfl | rfl | rfl | rfl | rfl | rfl | rfl
  all_goals
    refine ACalls.of_awp follows (st := st19) (plans := pl19) (n := 13) Tryd.func19 rfl (by kernel_rfl) (by kernel_rfl) (by kernel_rfl) ?_
    simp
    exact AV.le_refl _
/-! ### Without a screen -/
set_option maxRecDepth 8000 in
theorem run_nil (o : Bool) (l : List UInt8) (σ : Store) : ACalls Tryd.prog 8 [.lit (.pointer none), .list o 1 (bytesA l)] σ fun v σ' =>
    v = .tuple [.agg (resC ⟨0, false, false, false, 0⟩ (.list false 1 [])), .lit (.int .i64 5)] ∧ σ' = σ := by
  refine ACalls.of_awp follows (st := st8) (plans := pl8) (n := 54) Tryd.func8 rfl (by kernel_rfl) (by kernel_rfl) (by kernel_rfl) ?_
  simp [resC]
  exact fun p hp => Store.sub_upd hp (Store.sub_refl _)
set_option maxRecDepth 8000 in
theorem orders_nil (o : Bool) (l : List UInt8) (n : Int) (σ : Store) : ACalls Tryd.prog 15 [.lit (.pointer none), .list o 1 (bytesA l), .lit (.int .i64 n)] σ fun v σ' =>
    v = .tuple [.lit (.int .i64 0), .lit (.int .i64 0), .lit (.int .i64 5)] ∧ σ' = σ := by
  refine ACalls.of_awpY follows (st := st15) (plans := pl15) (n := 57) Tryd.func15 rfl (by kernel_rfl) (by kernel_rfl) (by kernel_rfl) ?_
  simp +contextual [ite_free]
  intros
  (intro q; simp only [Store.upd, Store.del]; (repeat' split) <;> first | exact Or.inr rfl | exact Or.inl rfl | (exfalso; omega) | (left; subst_vars; assumption) | simp_all)
end Go.Proofs.YtnlggjbcdienfaaDoor
/-
  WriteNames: commands by byte and by name; nothing without a screen.
-/
namespace Go.Proofs.YtnlggjbcdienfaaDoor
open Go Go.AL Go.Sp

theorem cmdF_false (b : UInt8) : (cmdF b).2 = false → (cmdF b).1 = 0 := by revert b; apply all_bytes; decide +kernel
/-- One byte for both. -/
theorem bytes_same (c : Int) : ∃ z : Int, (∀ τ, ACalls Tryd.prog 16 [.lit (.int .i64 c)] τ fun v σ' => v = .lit (.int .u8 z) ∧ σ' = τ) ∧ ∀ τ, ACalls Tryd.prog 17 [.lit (.int .i64 c)] τ fun v σ' => v = .lit (.int .u8 z) ∧ σ' = τ := by
  by_cases h : c < 0 ∨ 9 ≤ c
  · exact ⟨0, fun τ => byte_out c h τ, fun τ => rbyte_out c h τ⟩
  · obtain ⟨k, rfl⟩ : ∃ k : Nat, c = k := ⟨c.toNat, by omega⟩
    exact ⟨((cmdX k).2.2.toNat : Int), fun τ => byte_in k (by omega) τ, fun τ => rbyte_in k (by omega) τ⟩
/-- One name for both. -/
theorem names_same (c : Int) : ∃ z : ByteArray, (∀ τ, ACalls Tryd.prog 18 [.lit (.int .i64 c)] τ fun v σ' => v = .lit (.string z) ∧ σ' = τ) ∧ ∀ τ, ACalls Tryd.prog 19 [.lit (.int .i64 c)] τ fun v σ' => v = .lit (.string z) ∧ σ' = τ := by
  by_cases h : c < 0 ∨ 9 ≤ c
  · exact ⟨_, fun τ => name_out c h τ, fun τ => rname_out c h τ⟩
  · obtain ⟨k, rfl⟩ : ∃ k : Nat, c = k := ⟨c.toNat, by omega⟩
    exact ⟨⟨(cmdX k).1.toArray⟩, fun τ => name_in k (by omega) τ, fun τ => rname_in k (by omega) τ⟩
theorem reads_calls (c : Int) (b : Bool) (hb : b = (decide (5 ≤ c) && decide (c ≤ 7))) (σ : Store) : ACalls Tryd.prog 20 [.lit (.int .i64 c)] σ fun v σ' => v = .lit (.bool b) ∧ σ' = σ := by
  subst hb
  refine ACalls.of_awp follows (st := st20) (plans := pl20) (n := 9) Tryd.func20 rfl (by kernel_rfl) (by kernel_rfl) (by kernel_rfl) ?_
  by_cases h1 : 5 ≤ c <;> by_cases h2 : c ≤ 7 <;> simp [h1, h2]
theorem erases_calls (c : Int) (b : Bool) (hb : b = (decide (2 ≤ c) && decide (c ≤ 4))) (σ : Store) : ACalls Tryd.prog 21 [.lit (.int .i64 c)] σ fun v σ' => v = .lit (.bool b) ∧ σ' = σ := by
  subst hb
  refine ACalls.of_awp follows (st := st21) (plans := pl21) (n := 9) Tryd.func21 rfl (by kernel_rfl) (by kernel_rfl) (by kernel_rfl) ?_
  by_cases h1 : 2 ≤ c <;> by_cases h2 : c ≤ 4 <;> simp [h1, h2]
theorem four_ways (c : Int) : (¬ 5 ≤ c ∧ ¬ 2 ≤ c ∧ c ≤ 7 ∧ c ≤ 4) ∨ (¬ 5 ≤ c ∧ 2 ≤ c ∧ c ≤ 7 ∧ c ≤ 4) ∨ (5 ≤ c ∧ 2 ≤ c ∧ c ≤ 7 ∧ ¬ c ≤ 4) ∨ (5 ≤ c ∧ 2 ≤ c ∧ ¬ c ≤ 7 ∧ ¬ c ≤ 4) := by omega
set_option maxRecDepth 8000 in
set_option maxHeartbeats 1000000 in
theorem writeNames_law (b : UInt8) (c : Int) (l : List UInt8) (σ : Store) :
    ACalls Tryd.prog 4 [byteA b, .lit (.int .i64 c), .list false 1 (bytesA l)] σ fun v σ' => v = .lit (.bool true) ∧ σ' = σ := by
  have haw := fun τ => awake_calls τ
  have hcm := fun τ => command_calls b τ
  have hrc := fun τ => rcommand_calls b τ
  have href := ref_cmd b
  have hcf := cmdF_false b
  generalize refCmd b = rc at *
  generalize cmdF b = x at *
  obtain ⟨n, ok⟩ := x
  have hcut := fun τ => cut_calls false l 20 τ (by omega)
  generalize l.take 20 = k at *
  obtain ⟨z, hb1, hb2⟩ := bytes_same c
  obtain ⟨y, hn1, hn2⟩ := names_same c
  have hrn := fun o τ => run_nil o k τ
  have hon := fun o τ => orders_nil o k c τ
  simp only [resC] at hrn
  refine ACalls.of_awp follows (st := st4) (plans := pl4) (n := 106) Tryd.func4 rfl (by kernel_rfl) (by kernel_rfl) (by kernel_rfl) ?_
  simp
  refine callK.of (haw _) ?_
  rintro v σ0 ⟨rfl, rfl⟩
  simp
  refine callK.of (hcm _) ?_
  rintro v σ' ⟨rfl, rfl⟩
  simp
  refine callK.of (hrc _) ?_
  rintro v σ' ⟨rfl, rfl⟩
  simp
  refine callK.of (hcut _) ?_
  rintro v σ' ⟨rfl, rfl⟩
  simp
  refine callK.of (hrn _ _) ?_
  rintro v σ' ⟨rfl, rfl⟩
  simp
  intro p hp
  refine callK.of (hcut _) ?_
  rintro v σ2 ⟨rfl, rfl⟩
  simp
  refine callK.of (hon _ _) ?_
  rintro v σ2 ⟨rfl, rfl⟩
  have hok : (ok = true ∧ rc = (n : Int)) ∨ (ok = false ∧ n = 0 ∧ rc = -1) := by
    cases ok
    · exact .inr ⟨rfl, hcf rfl, by simpa using href⟩
    · exact .inl ⟨rfl, by simpa using href⟩
  clear hcf href
  have hw := four_ways c
  have hr := fun τ => reads_calls c _ rfl τ
  have he := fun τ => erases_calls c _ rfl τ
  rcases hok with ⟨rfl, rfl⟩ | ⟨rfl, rfl, rfl⟩
  all_goals
    rcases hw with ⟨h5, h2, h7, h4⟩ | ⟨h5, h2, h7, h4⟩ | ⟨h5, h2, h7, h4⟩ | ⟨h5, h2, h7, h4⟩
  all_goals
    simp [h5, h2, h7, h4]
    refine callK.of (hb1 _) ?_
    rintro v σ2 ⟨rfl, rfl⟩
    simp
    refine callK.of (hb2 _) ?_
    rintro v σ2 ⟨rfl, rfl⟩
    simp
    refine callK.of (hn1 _) ?_
    rintro v σ2 ⟨rfl, rfl⟩
    simp
    refine callK.of (hn2 _) ?_
    rintro v σ2 ⟨rfl, rfl⟩
    simp
    refine callK.of (hr _) ?_
    rintro v σ2 ⟨rfl, rfl⟩
    simp [h5, h7]
    refine callK.of (he _) ?_
    rintro v σ2 ⟨rfl, rfl⟩
    simp [h2, h4]
    exact Store.sub_upd hp (Store.sub_refl _)
theorem writeNames_said (b : UInt8) (c : Int) (l : List UInt8) (σ : Store) :
    ACalls Tryd.prog 4 [byteA b, .lit (.int .i64 c), .list false 1 (bytesA l)] σ fun v _ => v = .lit (.bool true) := (writeNames_law b c l σ).mono fun _ _ h => h.1
end Go.Proofs.YtnlggjbcdienfaaDoor
/-
  Arguments opened.
-/
namespace Go.Proofs.YtnlggjbcdienfaaDoor
open Go Go.AL Go.Sp
theorem open_bytes : Opens Tryd.prog 28 (fun l : List UInt8 => [.list false 1 (bytesA l)]) (fun l => l.length ≤ maxLen) :=
  (Opens.slice Tryd.underlying28 (sz := 1) (by kernel_rfl) (by omega) (Opens.u8 Tryd.underlying5) byteA (fun _ => rfl) (fun _ => rfl)).by id fun _ h => ⟨h.1, rfl⟩
theorem open_cell : Opens Tryd.prog 42 (fun c : Cell => cellC c) (fun _ => True) :=
  (Opens.struct (total := 6) Tryd.underlying42 (by kernel_rfl)
    (.cons (k := 1) rfl (by kernel_rfl) (by omega) (Opens.u8 Tryd.underlying5) (.cons (k := 1) rfl (by kernel_rfl) (by omega) (Opens.bool Tryd.underlying4) (.cons (k := 1) rfl (by kernel_rfl) (by omega) (Opens.u8 Tryd.underlying5)
      (.cons (k := 1) rfl (by kernel_rfl) (by omega) (Opens.u8 Tryd.underlying5) (.cons (k := 1) rfl (by kernel_rfl) (by omega) (Opens.u8 Tryd.underlying5) (.cons (k := 1) rfl (by kernel_rfl) (by omega) (Opens.u8 Tryd.underlying5) .nil))))))).by
    (fun x => ⟨x.1, x.2.1, x.2.2.1, x.2.2.2.1, x.2.2.2.2.1, x.2.2.2.2.2.1⟩) fun _ _ => ⟨trivial, rfl⟩
theorem open_act : Opens Tryd.prog 66 (fun a : Sp.Act => actC a) (fun a => a.text.length ≤ maxLen) :=
  (Opens.struct (total := 11) Tryd.underlying66 (by kernel_rfl)
    (.cons (k := 1) rfl (by kernel_rfl) (by omega) (Opens.u8 Tryd.underlying5) (.cons (k := 1) rfl (by kernel_rfl) (by omega) (Opens.i64 Tryd.underlying3) (.cons (k := 1) rfl (by kernel_rfl) (by omega) (Opens.bool Tryd.underlying4)
      (.cons (k := 1) rfl (by kernel_rfl) (by omega) (Opens.u8 Tryd.underlying5) (.cons (k := 6) rfl (by kernel_rfl) (by omega) open_cell (.cons (k := 1) rfl (by kernel_rfl) (by omega) open_bytes .nil))))))).by
    (fun x => ⟨x.1, x.2.1, x.2.2.1, x.2.2.2.1, x.2.2.2.2.1, x.2.2.2.2.2.1⟩) fun _ h => ⟨h.2.2.2.2.2.1, rfl⟩
theorem open_acts : Opens Tryd.prog 22 (fun l : List Sp.Act => [.list false 11 (actsA l)]) (fun l => l.length ≤ maxLen ∧ ∀ a ∈ l, a.text.length ≤ maxLen) :=
  Opens.slice Tryd.underlying22 (by kernel_rfl) (by omega) open_act actA (fun _ => rfl) (fun _ => rfl)
end Go.Proofs.YtnlggjbcdienfaaDoor
/-
  What the table of the commands reads as.
-/
namespace Go.Proofs.YtnlggjbcdienfaaDoor
open Go Go.AL Go.ChangeShapes Go.WideShapes Go.ChangeAt Go.RowKit Go.Lib

def laid1 : List (String × DataW Unit) := [("vitrine/write.names", Rows.laid_vitrine_write_names)]
def nameV (x : List UInt8 × UInt8 × UInt8) : List Value := [.string ⟨x.1.toArray⟩, .int .u8 x.2.1.toNat, .int .u8 x.2.2.toNat]
def nameD (x : List UInt8 × UInt8 × UInt8) : DataW Unit := .agg [.lit (.string x.1), .lit (.int .u8 x.2.1.toNat), .lit (.int .u8 x.2.2.toNat)]
theorem laid_names : (Rows.laid_vitrine_write_names : DataW Unit) = .agg (cmdNames.map nameD) := rfl
theorem rows_flat : ∀ (N : List (List UInt8 × UInt8 × UInt8)) (L : List Value), L.length = N.length * 3 → (∀ (r : Nat) x, N[r]? = some x → (L.drop (r * 3)).take 3 = nameV x) → L = N.flatMap nameV
  | [], L, hl, _ => by simpa using hl
  | x :: N, L, hl, h => by
    have h0 := h 0 x rfl
    have hr := rows_flat N (L.drop 3) (by simp only [List.length_drop]; simp at hl; omega) fun r y hy => by
      have := h (r + 1) y hy
      rw [List.drop_drop, ← this, show 3 + r * 3 = (r + 1) * 3 by omega]
    rw [List.flatMap_cons, ← hr, ← h0]
    simp
theorem row80 {W : World} {base : Nat} {sp : Nat → Bool} {held : Bool} {fuel : Nat} {l : List Value} {x : List UInt8 × UInt8 × UInt8} {p : List MemPlace}
    (h : DataW.trod (fun _ => ()) Tryd.prog W base sp held fuel 80 l = some (nameD x, p)) : l = nameV x := by
  obtain ⟨xs, n, _, ex, hl, hn, hf⟩ := DataW.trod_struct Tryd.underlying80 h
  have c80 : Tryd.prog.cellsOf 80 = 3 := by kernel_rfl
  have c9 : Tryd.prog.cellsOf 9 = 1 := by kernel_rfl
  have c5 : Tryd.prog.cellsOf 5 = 1 := by kernel_rfl
  rw [c80] at hl
  have hn3 : xs.length = 3 := hn
  obtain ⟨y0, y1, y2, rfl⟩ : ∃ y0 y1 y2, xs = [y0, y1, y2] := by
    rcases xs with _ | ⟨a, _ | ⟨b, _ | ⟨c, _ | ⟨d, r⟩⟩⟩⟩ <;> simp at hn3
    exact ⟨a, b, c, rfl⟩
  obtain ⟨v0, v1, v2, rfl⟩ : ∃ y0 y1 y2, l = [y0, y1, y2] := by
    rcases l with _ | ⟨a, _ | ⟨b, _ | ⟨c, _ | ⟨d, r⟩⟩⟩⟩ <;> simp at hl
    exact ⟨a, b, c, rfl⟩
  have f0 := hf 0 _ rfl
  have f1 := hf 1 _ rfl
  have f2 := hf 2 _ rfl
  obtain ⟨s, g0, d0, _⟩ := DataW.trod_string Tryd.underlying9 (f0.trans rfl)
  obtain ⟨a, g1, d1, _⟩ := DataW.trod_int Tryd.underlying5 (f1.trans rfl)
  obtain ⟨b, g2, d2, _⟩ := DataW.trod_int Tryd.underlying5 (f2.trans rfl)
  have q0 : List.take (Tryd.prog.cellsOf 9) [v0, v1, v2] = [.string s] := g0
  have q1 : List.take (Tryd.prog.cellsOf 5) [v1, v2] = [.int .u8 a] := g1
  have q2 : List.take (Tryd.prog.cellsOf 5) [v2] = [.int .u8 b] := g2
  rw [c9] at q0
  rw [c5] at q1 q2
  obtain rfl : v0 = .string s := (List.cons.inj q0).1
  obtain rfl : v1 = .int .u8 a := (List.cons.inj q1).1
  obtain rfl : v2 = .int .u8 b := (List.cons.inj q2).1
  subst d0 d1 d2
  have e := DataW.agg.inj (Prod.mk.inj ex).1
  simp only [List.map_cons, List.map_nil, List.cons.injEq, DataW.lit.injEq, Lit.string.injEq, Lit.int.injEq, true_and, and_true] at e
  obtain ⟨e0, e1, e2⟩ := e
  unfold nameV
  rw [e0, e1, e2]
theorem laid_vr {W : World} (h : laidMetH Tryd.prog laid1 W) : ∀ g cs, GL.tab g = some cs → VR (allFrz W) (.fptr cs) (.pointer (some ⟨g, 0, none⟩)) := by
  rw [MakeChecks.laidMetH_plain _ _ _ (by kernel_rfl)] at h
  obtain ⟨ps, ⟨g, t, cs, fuel, p, q, hg, ht, hv, hd, _, _⟩, _, _⟩ := h
  obtain rfl := Option.some.inj ((show Tryd.prog.globalNamed "vitrine/write.names" = some 0 by kernel_rfl).symm.trans hg)
  obtain rfl := Option.some.inj ((show (Tryd.prog.globals[0]?).map (·.type) = some 81 by kernel_rfl).symm.trans ht)
  obtain ⟨xs, m, _, ex, hc, hl, hel⟩ := DataW.trod_array Tryd.underlying81 hd
  have c80 : Tryd.prog.cellsOf 80 = 3 := by kernel_rfl
  have c81 : Tryd.prog.cellsOf 81 = 27 := by kernel_rfl
  rw [c81] at hc
  have e3 : xs.map (·.1) = cmdNames.map nameD := (DataW.agg.inj ((Prod.mk.inj ex).1.symm.trans laid_names)).symm ▸ rfl
  have hcs : cs.toList = cmdNames.flatMap nameV := by
    refine rows_flat cmdNames cs.toList hc fun r x hx => ?_
    have hr9 : r < 9 := (List.getElem?_eq_some_iff.1 hx).1
    have he := hel r hr9
    rw [c80] at he
    have e4 : (xs.map (·.1))[r]? = (cmdNames.map nameD)[r]? := by rw [e3]
    rw [List.getElem?_map, List.getElem?_map, hx] at e4
    cases hxr : xs[r]? with
    | none => rw [hxr] at e4; cases e4
    | some y =>
      rw [hxr] at e4 he
      obtain ⟨d, p⟩ := y
      simp only [Option.map_some, Option.some.injEq] at e4
      subst e4
      exact row80 he
  intro g cs2 hg2
  have : g = 0 ∧ cs2 = cmdsO := by
    have hg3 : (if g = 0 then some cmdsO else none) = some cs2 := hg2
    split at hg3
    · exact ⟨‹_›, (Option.some.inj hg3).symm⟩
    · cases hg3
  obtain ⟨rfl, rfl⟩ := this
  have hlit : cmdsO = (cmdNames.flatMap nameV).map .lit := rfl
  refine .fptr _ _ _ (cmdNames.flatMap nameV) rfl (fun i u hu => ⟨?_, ?_⟩) fun i c u hc hu => ?_
  · rw [Nat.zero_add]
    refine cell_back ?_
    rw [World.var?_cell hg hv i, ← Array.getElem?_toList, hcs]; exact hu
  · have : (cmdNames.flatMap nameV).all Value.oneCell' = true := by decide
    exact List.all_eq_true.1 this u (List.mem_of_getElem? hu)
  · rw [hlit, List.getElem?_map, hu] at hc
    obtain rfl := Option.some.inj hc
    exact .lit _
end Go.Proofs.YtnlggjbcdienfaaDoor
/-
  WriteNames: for every input the law returns true, and the arguments read as they did.
-/
namespace Go.Proofs.YtnlggjbcdienfaaDoor
open Go Go.AL Go.ChangeShapes Go.WideShapes Go.ChangeAt Go.RowKit Go.Lib

theorem own_writeNames : ownKnob Tryd.prog.godebug = none := by kernel_rfl
theorem laid_writeNames : laidOutB Tryd.prog = true := by kernel_rfl
theorem rec28_writeNames : Tryd.prog.readableRec 28 = true := by kernel_rfl
theorem row28_writeNames : (28 : TypeId) < Tryd.prog.types.size := of_decide_eq_true (by kernel_rfl)
theorem rec3_writeNames : Tryd.prog.readableRec 3 = true := by kernel_rfl
theorem row3_writeNames : (3 : TypeId) < Tryd.prog.types.size := of_decide_eq_true (by kernel_rfl)
theorem rec5_writeNames : Tryd.prog.readableRec 5 = true := by kernel_rfl
theorem row5_writeNames : (5 : TypeId) < Tryd.prog.types.size := of_decide_eq_true (by kernel_rfl)

set_option maxRecDepth 100000 in
theorem writeNames_lifted (os : Os) (started : os.Started) (H : Type) (enc : TypeId × Value → H) :
    ReturnsInHanded {} Tryd.checked os 4 .any (fun w args => (Rows.writeNamesSpec.pre enc Tryd.prog Tryd.f4 [] false w args ∧ laidMetH Tryd.prog laid1 w) ∧ sizedMet enc Tryd.prog Tryd.f4 (OpenSpec.ofChange Rows.writeNamesSpec) false w args) (Rows.writeNamesSpec.post enc Tryd.prog Tryd.f4 false true false false) := by
  refine returnsInHanded_of_change_and (C := Tryd.checked) (X := fun w _ => laidMetH Tryd.prog laid1 w) (fun _ _ _ hh h => h.of_heap hh) own_writeNames started (by kernel_rfl) Tryd.func4
    (ChangeSpec.witness_shaped (enc := enc) (C := Tryd.checked) (os := os) (X := fun w _ => laidMetH Tryd.prog laid1 w) false (World.laidAll Tryd.prog os laid1) #[.int .u8 0, .int .i64 0, .slice none 0 0] 8 (World.laidAll_os _ _ _)
      (World.shaped_of_ZipB (by kernel_rfl) (by kernel_rfl)) (by kernel_rfl) (by kernel_rfl) (by kernel_rfl)
      (by rw [MakeChecks.laidMetH_plain _ _ _ (by kernel_rfl)]; exact laidMet_laidAll _ (by kernel_rfl) (by kernel_rfl))) ?_
  intro W base args ds gs before hval0 hW _ _ hL _
  have hval : ∀ (j : Nat) t v, Tryd.f4.params[j]? = some t → args[j]? = some v → Value.okWide Tryd.prog W .any base t v := hval0
  have hW' := hW
  obtain ⟨p, q, hA0, hV, rfl, hfz, hnd⟩ := hW
  have hA : DataW.TrodAll enc Tryd.prog W 0 (fun _ => true) true Tryd.f4.params.toList args.toList ds p := hA0
  rw [Tryd.params4] at hA hval
  obtain ⟨v0, v1, v2, d0, d1, d2, p0, p1, p2, rfl, rfl, rfl, h0, h1, h2⟩ := trodAll_three hA
  obtain ⟨rfl, rfl⟩ := trodVars_none hV
  obtain ⟨_, hv0⟩ := okWide_int Tryd.underlying5 (hval 0 5 v0 rfl rfl)
  obtain ⟨a0, m0, w0⟩ := (Opens.u8 Tryd.underlying5).arg _ (fun _ => rfl) (by rw [hv0]; rfl) h0
  obtain ⟨_, hv1⟩ := okWide_int Tryd.underlying3 (hval 1 3 v1 rfl rfl)
  obtain ⟨a1, m1, w1⟩ := (Opens.i64 Tryd.underlying3).arg _ (fun _ => rfl) (by rw [hv1]; rfl) h1
  obtain ⟨_, _, _, hv2⟩ := okWide_slice Tryd.underlying28 (hval 2 28 v2 rfl rfl)
  obtain ⟨a2, m2, w2⟩ := (open_bytes).arg _ (fun _ => rfl) (by rw [hv2]; rfl) h2
  clear hA0 hval0
  simp only [List.append_nil] at hW'
  have hlt : ∀ x ∈ p0 ++ p1 ++ p2, x.block < W.heap.size := fun x hx => hW'.lt x hx
  refine (law_calls (writeNames_said a0 a1 a2 _) W #[v0, v1, v2] rfl (fun i c u hc hu => ?_) (laid_vr hL)).mono fun e W' ⟨he, hb⟩ => ?_
  · match i with
    | 0 => simp at hc hu; subst hc hu; exact ⟨w0, rfl⟩
    | 1 => simp at hc hu; subst hc hu; exact ⟨w1, rfl⟩
    | 2 => simp at hc hu; subst hc hu; exact ⟨w2, rfl⟩
    | n + 3 => simp at hc
  subst he
  refine ⟨_, rfl, [d0, d1, d2], [], p0 ++ p1 ++ p2, [], p0 ++ (p1 ++ p2), [], hW', ?_, ?_, rfl, hb.frame _, fun h => (by cases h)⟩
  · exact trodAll_mk1 (shut_bool Tryd.underlying4 true)
  · refine trodAll_mk3 (Below.trod laid_writeNames rec5_writeNames row5_writeNames h0 hb fun x hx => hlt x (by simp [hx])) (Below.trod laid_writeNames rec3_writeNames row3_writeNames h1 hb fun x hx => hlt x (by simp [hx])) (Below.trod laid_writeNames rec28_writeNames row28_writeNames h2 hb fun x hx => hlt x (by simp [hx]))

theorem writeNames_holds : Rows.WriteNamesSaid :=
  OpenClaim.holds_of_wide 4 Tryd.f4 rfl rfl rfl rfl rfl rfl rfl ⟨rfl, rfl, rfl, rfl, rfl⟩ rfl rfl rfl rfl rfl (by kernel_rfl) Tryd.func4 (by kernel_rfl)
    (of_decide_eq_true (by kernel_rfl)) (by unfold Func.isWrapper; first | (rw [if_pos (by decide +kernel)]; kernel_rfl) | (rw [if_neg (by decide +kernel)]; exact ⟨rfl, rfl⟩))
    (fun os started H enc _ => writeNames_lifted os started H enc)
end Go.Proofs.YtnlggjbcdienfaaDoor
