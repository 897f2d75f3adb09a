/-
  A state as words: the program's and the document's.
-/
import Derived.Test.YtkggdohfcmiakaaGreatDoorSPart20
set_option linter.unusedSimpArgs false
set_option linter.unusedVariables false
namespace Go.Proofs.YtkggdohfcmiakaaGreatDoor
open Go Go.AL Go.Sp

@[simp] def st6x : List Nat := [21, 24, 5000001, 4000006, 4000010, 4000014, 4000020, 4000026, 4000029]
@[simp] def pl6x : List (Nat × Plan) := [(7, Plan.seq [1, 2, 4, 5] (.alt (Plan.seq [0, 3, 6, 7, 8, 9, 10] (.done)) (Plan.seq [3] (.alt (Plan.seq [0, 6, 7, 8, 9, 10] (.done)) (Plan.seq [6] (.alt (Plan.seq [0, 7, 8, 9, 10] (.done)) (Plan.seq [7, 0, 8, 9, 10] (.done))))))))]
def stA (md pg : Int) (alt : Bool) (cur lock : Int) (ins : Bool) (aid : UInt8) (mode : Int) : List AV :=
  [.lit (.int .i64 md), .lit (.int .i64 pg), .lit (.bool alt), .lit (.int .i64 cur), .lit (.int .i64 lock), .lit (.bool ins), .lit (.int .u8 aid.toNat), .lit (.int .i64 mode)]
def wordL (lock : Int) : List UInt8 := if 0 ≤ lock ∧ lock < 5 then lockN.getD lock.toNat [] else [63]
def statP (lock : Int) (ins : Bool) (aid : UInt8) (cur : Int) : List (List UInt8) := wordL lock :: ((if ins = true then [[105, 110, 115]] else []) ++ [nameL aid, Lib.itoa cur])
def statL (lock : Int) (ins : Bool) (aid : UInt8) (cur : Int) : List UInt8 := Lib.join (statP lock ins aid cur) [32]
theorem wordL_cases (lock : Int) : (lock = 0 ∨ lock = 1 ∨ lock = 2 ∨ lock = 3 ∨ lock = 4) ∨ ¬ (0 ≤ lock ∧ lock < 5) := by omega
theorem wordL_len (lock : Int) : (wordL lock).length ≤ 9 := by
  rcases wordL_cases lock with h | h
  · rcases h with rfl | rfl | rfl | rfl | rfl <;> decide
  · unfold wordL; rw [if_neg h]; decide
theorem statL_eq (lock : Int) (ins : Bool) (aid : UInt8) (cur : Int) : statL lock ins aid cur = wordL lock ++ (if ins = true then [32, 105, 110, 115] else []) ++ [32] ++ nameL aid ++ [32] ++ Lib.itoa cur := by
  unfold statL statP Lib.join
  cases ins <;> simp [List.intercalate, List.intersperse]
theorem nameL_len2 : ∀ i : Fin 256, (nameL (UInt8.ofNat i.val)).length ≤ 10 := by decide +kernel
theorem nameL_len (a : UInt8) : (nameL a).length ≤ 10 := all_bytes (p := fun a => (nameL a).length ≤ 10) nameL_len2 a
set_option maxHeartbeats 2000000 in
set_option maxRecDepth 8000 in
theorem rstatus_calls (lock : Int) (ins : Bool) (aid : UInt8) (cur : Int) (h0 : -9223372036854775808 ≤ cur) (h1 : cur ≤ 9223372036854775807) (σ : Store) :
    ACalls Tryz.prog 7 [.lit (.int .i64 lock), .lit (.bool ins), .lit (.int .u8 aid.toNat), .lit (.int .i64 cur)] σ fun v σ' => v = .lit (.string (toB (statL lock ins aid cur))) ∧ σ' = σ := by
  have hn := fun τ => rname_calls aid τ
  have hd := fun τ => rdecZ_calls cur h0 h1 τ
  have e : byteA aid = .lit (.int .u8 aid.toNat) := rfl
  rw [e] at hn
  have l1 := wordL_len lock
  have l2 := nameL_len aid
  have l3 := itoa_len cur h0 h1
  rw [statL_eq]
  generalize nameL aid = NM at *
  generalize Lib.itoa cur = IT at *
  rcases wordL_cases lock with h | h
  · rcases h with rfl | rfl | rfl | rfl | rfl
    · have hk : (⟨#[102, 114, 101, 101]⟩ : ByteArray) = toB (wordL 0) := rfl
      have k1 : (0 : Int) ≤ 0 := by omega
      have k2 : (0 : Int) ≤ 4 := by omega
      generalize wordL 0 = W at *
      have u0 : ¬ (9223372036854775807 : Int) < (W.length : Int) + 1 := by omega
      have u1 : ¬ (9223372036854775807 : Int) < (W.length : Int) + 4 := by omega
      have u2 : ¬ (9223372036854775807 : Int) < (W.length : Int) + 4 + 1 := by omega
      have u3 : ¬ (9223372036854775807 : Int) < (W.length : Int) + 1 + NM.length := by omega
      have u4 : ¬ (9223372036854775807 : Int) < (W.length : Int) + 5 + NM.length := by omega
      have u5 : ¬ (9223372036854775807 : Int) < (W.length : Int) + (NM.length + 1) + 1 := by omega
      have u6 : ¬ (9223372036854775807 : Int) < (W.length : Int) + (NM.length + 1 + 1 + 1 + 1 + 1) + 1 := by omega
      have u7 : ¬ (9223372036854775807 : Int) < (W.length : Int) + (NM.length + 1 + 1) + IT.length := by omega
      have u8 : ¬ (9223372036854775807 : Int) < (W.length : Int) + (NM.length + 2) + IT.length := by omega
      have u9 : ¬ (9223372036854775807 : Int) < (W.length : Int) + (NM.length + 1 + 1 + 1 + 1 + 1 + 1) + IT.length := by omega
      have u10 : ¬ (9223372036854775807 : Int) < (W.length : Int) + (NM.length + 6) + IT.length := by omega
      have u11 : ¬ (9223372036854775807 : Int) < (W.length : Int) + (NM.length + 2 + 1 + 1 + 1 + 1) + IT.length := by omega
      have c4 : (⟨#[32, 105, 110, 115]⟩ : ByteArray) = toB [32, 105, 110, 115] := rfl
      refine ACalls.of_awp follows (st := st7) (plans := pl7) (n := 32) Tryz.func7 rfl (by kernel_rfl) (by kernel_rfl) (by kernel_rfl) ?_
      cases ins
      all_goals
        simp [hk, k1, k2, bt1, c4, toB_app, toB_size, u0, u1, u2]
        refine callK.eq (hn _) ?_
        simp [hk, bt1, c4, toB_app, toB_size, u3, u4, u5, u6]
        refine callK.eq (hd _) ?_
        simp [hk, bt1, c4, toB_app, toB_size, u7, u8, u9, u10, u11]
    · have hk : (⟨#[119, 97, 105, 116]⟩ : ByteArray) = toB (wordL 1) := rfl
      have k1 : (0 : Int) ≤ 1 := by omega
      have k2 : (1 : Int) ≤ 4 := by omega
      generalize wordL 1 = W at *
      have u0 : ¬ (9223372036854775807 : Int) < (W.length : Int) + 1 := by omega
      have u1 : ¬ (9223372036854775807 : Int) < (W.length : Int) + 4 := by omega
      have u2 : ¬ (9223372036854775807 : Int) < (W.length : Int) + 4 + 1 := by omega
      have u3 : ¬ (9223372036854775807 : Int) < (W.length : Int) + 1 + NM.length := by omega
      have u4 : ¬ (9223372036854775807 : Int) < (W.length : Int) + 5 + NM.length := by omega
      have u5 : ¬ (9223372036854775807 : Int) < (W.length : Int) + (NM.length + 1) + 1 := by omega
      have u6 : ¬ (9223372036854775807 : Int) < (W.length : Int) + (NM.length + 1 + 1 + 1 + 1 + 1) + 1 := by omega
      have u7 : ¬ (9223372036854775807 : Int) < (W.length : Int) + (NM.length + 1 + 1) + IT.length := by omega
      have u8 : ¬ (9223372036854775807 : Int) < (W.length : Int) + (NM.length + 2) + IT.length := by omega
      have u9 : ¬ (9223372036854775807 : Int) < (W.length : Int) + (NM.length + 1 + 1 + 1 + 1 + 1 + 1) + IT.length := by omega
      have u10 : ¬ (9223372036854775807 : Int) < (W.length : Int) + (NM.length + 6) + IT.length := by omega
      have u11 : ¬ (9223372036854775807 : Int) < (W.length : Int) + (NM.length + 2 + 1 + 1 + 1 + 1) + IT.length := by omega
      have c4 : (⟨#[32, 105, 110, 115]⟩ : ByteArray) = toB [32, 105, 110, 115] := rfl
      refine ACalls.of_awp follows (st := st7) (plans := pl7) (n := 32) Tryz.func7 rfl (by kernel_rfl) (by kernel_rfl) (by kernel_rfl) ?_
      cases ins
      all_goals
        simp [hk, k1, k2, bt1, c4, toB_app, toB_size, u0, u1, u2]
        refine callK.eq (hn _) ?_
        simp [hk, bt1, c4, toB_app, toB_size, u3, u4, u5, u6]
        refine callK.eq (hd _) ?_
        simp [hk, bt1, c4, toB_app, toB_size, u7, u8, u9, u10, u11]
    · have hk : (⟨#[112, 114, 111, 116, 101, 99, 116, 101, 100]⟩ : ByteArray) = toB (wordL 2) := rfl
      have k1 : (0 : Int) ≤ 2 := by omega
      have k2 : (2 : Int) ≤ 4 := by omega
      generalize wordL 2 = W at *
      have u0 : ¬ (9223372036854775807 : Int) < (W.length : Int) + 1 := by omega
      have u1 : ¬ (9223372036854775807 : Int) < (W.length : Int) + 4 := by omega
      have u2 : ¬ (9223372036854775807 : Int) < (W.length : Int) + 4 + 1 := by omega
      have u3 : ¬ (9223372036854775807 : Int) < (W.length : Int) + 1 + NM.length := by omega
      have u4 : ¬ (9223372036854775807 : Int) < (W.length : Int) + 5 + NM.length := by omega
      have u5 : ¬ (9223372036854775807 : Int) < (W.length : Int) + (NM.length + 1) + 1 := by omega
      have u6 : ¬ (9223372036854775807 : Int) < (W.length : Int) + (NM.length + 1 + 1 + 1 + 1 + 1) + 1 := by omega
      have u7 : ¬ (9223372036854775807 : Int) < (W.length : Int) + (NM.length + 1 + 1) + IT.length := by omega
      have u8 : ¬ (9223372036854775807 : Int) < (W.length : Int) + (NM.length + 2) + IT.length := by omega
      have u9 : ¬ (9223372036854775807 : Int) < (W.length : Int) + (NM.length + 1 + 1 + 1 + 1 + 1 + 1) + IT.length := by omega
      have u10 : ¬ (9223372036854775807 : Int) < (W.length : Int) + (NM.length + 6) + IT.length := by omega
      have u11 : ¬ (9223372036854775807 : Int) < (W.length : Int) + (NM.length + 2 + 1 + 1 + 1 + 1) + IT.length := by omega
      have c4 : (⟨#[32, 105, 110, 115]⟩ : ByteArray) = toB [32, 105, 110, 115] := rfl
      refine ACalls.of_awp follows (st := st7) (plans := pl7) (n := 32) Tryz.func7 rfl (by kernel_rfl) (by kernel_rfl) (by kernel_rfl) ?_
      cases ins
      all_goals
        simp [hk, k1, k2, bt1, c4, toB_app, toB_size, u0, u1, u2]
        refine callK.eq (hn _) ?_
        simp [hk, bt1, c4, toB_app, toB_size, u3, u4, u5, u6]
        refine callK.eq (hd _) ?_
        simp [hk, bt1, c4, toB_app, toB_size, u7, u8, u9, u10, u11]
    · have hk : (⟨#[110, 117, 109, 101, 114, 105, 99]⟩ : ByteArray) = toB (wordL 3) := rfl
      have k1 : (0 : Int) ≤ 3 := by omega
      have k2 : (3 : Int) ≤ 4 := by omega
      generalize wordL 3 = W at *
      have u0 : ¬ (9223372036854775807 : Int) < (W.length : Int) + 1 := by omega
      have u1 : ¬ (9223372036854775807 : Int) < (W.length : Int) + 4 := by omega
      have u2 : ¬ (9223372036854775807 : Int) < (W.length : Int) + 4 + 1 := by omega
      have u3 : ¬ (9223372036854775807 : Int) < (W.length : Int) + 1 + NM.length := by omega
      have u4 : ¬ (9223372036854775807 : Int) < (W.length : Int) + 5 + NM.length := by omega
      have u5 : ¬ (9223372036854775807 : Int) < (W.length : Int) + (NM.length + 1) + 1 := by omega
      have u6 : ¬ (9223372036854775807 : Int) < (W.length : Int) + (NM.length + 1 + 1 + 1 + 1 + 1) + 1 := by omega
      have u7 : ¬ (9223372036854775807 : Int) < (W.length : Int) + (NM.length + 1 + 1) + IT.length := by omega
      have u8 : ¬ (9223372036854775807 : Int) < (W.length : Int) + (NM.length + 2) + IT.length := by omega
      have u9 : ¬ (9223372036854775807 : Int) < (W.length : Int) + (NM.length + 1 + 1 + 1 + 1 + 1 + 1) + IT.length := by omega
      have u10 : ¬ (9223372036854775807 : Int) < (W.length : Int) + (NM.length + 6) + IT.length := by omega
      have u11 : ¬ (9223372036854775807 : Int) < (W.length : Int) + (NM.length + 2 + 1 + 1 + 1 + 1) + IT.length := by omega
      have c4 : (⟨#[32, 105, 110, 115]⟩ : ByteArray) = toB [32, 105, 110, 115] := rfl
      refine ACalls.of_awp follows (st := st7) (plans := pl7) (n := 32) Tryz.func7 rfl (by kernel_rfl) (by kernel_rfl) (by kernel_rfl) ?_
      cases ins
      all_goals
        simp [hk, k1, k2, bt1, c4, toB_app, toB_size, u0, u1, u2]
        refine callK.eq (hn _) ?_
        simp [hk, bt1, c4, toB_app, toB_size, u3, u4, u5, u6]
        refine callK.eq (hd _) ?_
        simp [hk, bt1, c4, toB_app, toB_size, u7, u8, u9, u10, u11]
    · have hk : (⟨#[111, 118, 101, 114, 102, 108, 111, 119]⟩ : ByteArray) = toB (wordL 4) := rfl
      have k1 : (0 : Int) ≤ 4 := by omega
      have k2 : (4 : Int) ≤ 4 := by omega
      generalize wordL 4 = W at *
      have u0 : ¬ (9223372036854775807 : Int) < (W.length : Int) + 1 := by omega
      have u1 : ¬ (9223372036854775807 : Int) < (W.length : Int) + 4 := by omega
      have u2 : ¬ (9223372036854775807 : Int) < (W.length : Int) + 4 + 1 := by omega
      have u3 : ¬ (9223372036854775807 : Int) < (W.length : Int) + 1 + NM.length := by omega
      have u4 : ¬ (9223372036854775807 : Int) < (W.length : Int) + 5 + NM.length := by omega
      have u5 : ¬ (9223372036854775807 : Int) < (W.length : Int) + (NM.length + 1) + 1 := by omega
      have u6 : ¬ (9223372036854775807 : Int) < (W.length : Int) + (NM.length + 1 + 1 + 1 + 1 + 1) + 1 := by omega
      have u7 : ¬ (9223372036854775807 : Int) < (W.length : Int) + (NM.length + 1 + 1) + IT.length := by omega
      have u8 : ¬ (9223372036854775807 : Int) < (W.length : Int) + (NM.length + 2) + IT.length := by omega
      have u9 : ¬ (9223372036854775807 : Int) < (W.length : Int) + (NM.length + 1 + 1 + 1 + 1 + 1 + 1) + IT.length := by omega
      have u10 : ¬ (9223372036854775807 : Int) < (W.length : Int) + (NM.length + 6) + IT.length := by omega
      have u11 : ¬ (9223372036854775807 : Int) < (W.length : Int) + (NM.length + 2 + 1 + 1 + 1 + 1) + IT.length := by omega
      have c4 : (⟨#[32, 105, 110, 115]⟩ : ByteArray) = toB [32, 105, 110, 115] := rfl
      refine ACalls.of_awp follows (st := st7) (plans := pl7) (n := 32) Tryz.func7 rfl (by kernel_rfl) (by kernel_rfl) (by kernel_rfl) ?_
      cases ins
      all_goals
        simp [hk, k1, k2, bt1, c4, toB_app, toB_size, u0, u1, u2]
        refine callK.eq (hn _) ?_
        simp [hk, bt1, c4, toB_app, toB_size, u3, u4, u5, u6]
        refine callK.eq (hd _) ?_
        simp [hk, bt1, c4, toB_app, toB_size, u7, u8, u9, u10, u11]
  · have hk : (⟨#[63]⟩ : ByteArray) = toB (wordL lock) := by unfold wordL; rw [if_neg h]; rfl
    have k1 : 0 ≤ lock → ¬ lock ≤ 4 := by omega
    have k2 : ¬ (0 ≤ lock ∧ lock ≤ 4) := by omega
    generalize wordL lock = W at *
    by_cases k3 : 0 ≤ lock
    · have k4 : ¬ lock ≤ 4 := k1 k3
      have u0 : ¬ (9223372036854775807 : Int) < (W.length : Int) + 1 := by omega
      have u1 : ¬ (9223372036854775807 : Int) < (W.length : Int) + 4 := by omega
      have u2 : ¬ (9223372036854775807 : Int) < (W.length : Int) + 4 + 1 := by omega
      have u3 : ¬ (9223372036854775807 : Int) < (W.length : Int) + 1 + NM.length := by omega
      have u4 : ¬ (9223372036854775807 : Int) < (W.length : Int) + 5 + NM.length := by omega
      have u5 : ¬ (9223372036854775807 : Int) < (W.length : Int) + (NM.length + 1) + 1 := by omega
      have u6 : ¬ (9223372036854775807 : Int) < (W.length : Int) + (NM.length + 1 + 1 + 1 + 1 + 1) + 1 := by omega
      have u7 : ¬ (9223372036854775807 : Int) < (W.length : Int) + (NM.length + 1 + 1) + IT.length := by omega
      have u8 : ¬ (9223372036854775807 : Int) < (W.length : Int) + (NM.length + 2) + IT.length := by omega
      have u9 : ¬ (9223372036854775807 : Int) < (W.length : Int) + (NM.length + 1 + 1 + 1 + 1 + 1 + 1) + IT.length := by omega
      have u10 : ¬ (9223372036854775807 : Int) < (W.length : Int) + (NM.length + 6) + IT.length := by omega
      have u11 : ¬ (9223372036854775807 : Int) < (W.length : Int) + (NM.length + 2 + 1 + 1 + 1 + 1) + IT.length := by omega
      have c4 : (⟨#[32, 105, 110, 115]⟩ : ByteArray) = toB [32, 105, 110, 115] := rfl
      refine ACalls.of_awp follows (st := st7) (plans := pl7) (n := 32) Tryz.func7 rfl (by kernel_rfl) (by kernel_rfl) (by kernel_rfl) ?_
      cases ins
      all_goals
        simp [hk, k3, k4, bt1, c4, toB_app, toB_size, u0, u1, u2]
        refine callK.eq (hn _) ?_
        simp [hk, bt1, c4, toB_app, toB_size, u3, u4, u5, u6]
        refine callK.eq (hd _) ?_
        simp [hk, bt1, c4, toB_app, toB_size, u7, u8, u9, u10, u11]
    · have u0 : ¬ (9223372036854775807 : Int) < (W.length : Int) + 1 := by omega
      have u1 : ¬ (9223372036854775807 : Int) < (W.length : Int) + 4 := by omega
      have u2 : ¬ (9223372036854775807 : Int) < (W.length : Int) + 4 + 1 := by omega
      have u3 : ¬ (9223372036854775807 : Int) < (W.length : Int) + 1 + NM.length := by omega
      have u4 : ¬ (9223372036854775807 : Int) < (W.length : Int) + 5 + NM.length := by omega
      have u5 : ¬ (9223372036854775807 : Int) < (W.length : Int) + (NM.length + 1) + 1 := by omega
      have u6 : ¬ (9223372036854775807 : Int) < (W.length : Int) + (NM.length + 1 + 1 + 1 + 1 + 1) + 1 := by omega
      have u7 : ¬ (9223372036854775807 : Int) < (W.length : Int) + (NM.length + 1 + 1) + IT.length := by omega
      have u8 : ¬ (9223372036854775807 : Int) < (W.length : Int) + (NM.length + 2) + IT.length := by omega
      have u9 : ¬ (9223372036854775807 : Int) < (W.length : Int) + (NM.length + 1 + 1 + 1 + 1 + 1 + 1) + IT.length := by omega
      have u10 : ¬ (9223372036854775807 : Int) < (W.length : Int) + (NM.length + 6) + IT.length := by omega
      have u11 : ¬ (9223372036854775807 : Int) < (W.length : Int) + (NM.length + 2 + 1 + 1 + 1 + 1) + IT.length := by omega
      have c4 : (⟨#[32, 105, 110, 115]⟩ : ByteArray) = toB [32, 105, 110, 115] := rfl
      refine ACalls.of_awp follows (st := st7) (plans := pl7) (n := 32) Tryz.func7 rfl (by kernel_rfl) (by kernel_rfl) (by kernel_rfl) ?_
      cases ins
      all_goals
        simp [hk, k3, bt1, c4, toB_app, toB_size, u0, u1, u2]
        refine callK.eq (hn _) ?_
        simp [hk, bt1, c4, toB_app, toB_size, u3, u4, u5, u6]
        refine callK.eq (hd _) ?_
        simp [hk, bt1, c4, toB_app, toB_size, u7, u8, u9, u10, u11]
set_option maxHeartbeats 4000000 in
set_option maxRecDepth 8000 in
theorem status_calls (md pg : Int) (alt : Bool) (cur lock : Int) (ins : Bool) (aid : UInt8) (mode : Int) (h0 : -9223372036854775808 ≤ cur) (h1 : cur ≤ 9223372036854775807) (σ : Store) :
    ACalls Tryz.prog 6 [.agg (stA md pg alt cur lock ins aid mode)] σ fun v σ' => v = .lit (.string (toB (statL lock ins aid cur))) ∧ σ' = σ := by
  have hn := fun τ => name_calls aid τ
  have hd := fun τ => itoaZ_calls cur h0 h1 τ
  have e : byteA aid = .lit (.int .u8 aid.toNat) := rfl
  rw [e] at hn
  have l1 := wordL_len lock
  have l2 := nameL_len aid
  have l3 := itoa_len cur h0 h1
  have hlen : (statL lock ins aid cur).length ≤ 100 := by
    rw [statL_eq]
    cases ins <;> simp <;> omega
  have hj := fun τ => join_calls true (statP lock ins aid cur) [32] (by unfold statP; cases ins <;> simp) (by unfold statL at hlen; omega) τ
  have hs : statL lock ins aid cur = Lib.join (statP lock ins aid cur) [32] := rfl
  rw [← hs] at hj
  clear hs hlen l1 l2 l3
  have hp : strsA (statP lock ins aid cur) = .lit (.string (toB (wordL lock))) :: ((if ins = true then [.lit (.string (toB [105, 110, 115]))] else []) ++ [.lit (.string (toB (nameL aid))), .lit (.string (toB (Lib.itoa cur)))]) := by
    unfold statP strsA
    cases ins <;> simp
  rw [hp] at hj
  clear hp
  generalize statL lock ins aid cur = ST at *
  generalize nameL aid = NM at *
  generalize Lib.itoa cur = IT at *
  rcases wordL_cases lock with h | h
  · rcases h with rfl | rfl | rfl | rfl | rfl
    · have hk : (⟨#[102, 114, 101, 101]⟩ : ByteArray) = toB (wordL 0) := rfl
      have k1 : (0 : Int) ≤ 0 := by omega
      have k2 : (0 : Int) < 5 := by omega
      generalize wordL 0 = W at *
      refine ACalls.of_awp follows (st := st6x) (plans := pl6x) (n := 34) Tryz.func6 rfl (by kernel_rfl) (by kernel_rfl) (by kernel_rfl) ?_
      unfold stA
      cases ins
      all_goals
        simp only [↓reduceIte, Bool.false_eq_true, List.nil_append, List.cons_append] at hj
        simp [hk, k1, k2, locksO, lockN]
        repeat' with_reducible apply And.intro
        all_goals
          refine callK.eq (hn _) ?_
          simp [hk, k1, k2]
          repeat' with_reducible apply And.intro
          all_goals
            refine callK.eq (hd _) ?_
            simp [hk, k1, k2, bt1]
            repeat' with_reducible apply And.intro
            all_goals
              refine callK.eq (hj _) ?_
              simp
    · have hk : (⟨#[119, 97, 105, 116]⟩ : ByteArray) = toB (wordL 1) := rfl
      have k1 : (0 : Int) ≤ 1 := by omega
      have k2 : (1 : Int) < 5 := by omega
      generalize wordL 1 = W at *
      refine ACalls.of_awp follows (st := st6x) (plans := pl6x) (n := 34) Tryz.func6 rfl (by kernel_rfl) (by kernel_rfl) (by kernel_rfl) ?_
      unfold stA
      cases ins
      all_goals
        simp only [↓reduceIte, Bool.false_eq_true, List.nil_append, List.cons_append] at hj
        simp [hk, k1, k2, locksO, lockN]
        repeat' with_reducible apply And.intro
        all_goals
          refine callK.eq (hn _) ?_
          simp [hk, k1, k2]
          repeat' with_reducible apply And.intro
          all_goals
            refine callK.eq (hd _) ?_
            simp [hk, k1, k2, bt1]
            repeat' with_reducible apply And.intro
            all_goals
              refine callK.eq (hj _) ?_
              simp
    · have hk : (⟨#[112, 114, 111, 116, 101, 99, 116, 101, 100]⟩ : ByteArray) = toB (wordL 2) := rfl
      have k1 : (0 : Int) ≤ 2 := by omega
      have k2 : (2 : Int) < 5 := by omega
      generalize wordL 2 = W at *
      refine ACalls.of_awp follows (st := st6x) (plans := pl6x) (n := 34) Tryz.func6 rfl (by kernel_rfl) (by kernel_rfl) (by kernel_rfl) ?_
      unfold stA
      cases ins
      all_goals
        simp only [↓reduceIte, Bool.false_eq_true, List.nil_append, List.cons_append] at hj
        simp [hk, k1, k2, locksO, lockN]
        repeat' with_reducible apply And.intro
        all_goals
          refine callK.eq (hn _) ?_
          simp [hk, k1, k2]
          repeat' with_reducible apply And.intro
          all_goals
            refine callK.eq (hd _) ?_
            simp [hk, k1, k2, bt1]
            repeat' with_reducible apply And.intro
            all_goals
              refine callK.eq (hj _) ?_
              simp
    · have hk : (⟨#[110, 117, 109, 101, 114, 105, 99]⟩ : ByteArray) = toB (wordL 3) := rfl
      have k1 : (0 : Int) ≤ 3 := by omega
      have k2 : (3 : Int) < 5 := by omega
      generalize wordL 3 = W at *
      refine ACalls.of_awp follows (st := st6x) (plans := pl6x) (n := 34) Tryz.func6 rfl (by kernel_rfl) (by kernel_rfl) (by kernel_rfl) ?_
      unfold stA
      cases ins
      all_goals
        simp only [↓reduceIte, Bool.false_eq_true, List.nil_append, List.cons_append] at hj
        simp [hk, k1, k2, locksO, lockN]
        repeat' with_reducible apply And.intro
        all_goals
          refine callK.eq (hn _) ?_
          simp [hk, k1, k2]
          repeat' with_reducible apply And.intro
          all_goals
            refine callK.eq (hd _) ?_
            simp [hk, k1, k2, bt1]
            repeat' with_reducible apply And.intro
            all_goals
              refine callK.eq (hj _) ?_
              simp
    · have hk : (⟨#[111, 118, 101, 114, 102, 108, 111, 119]⟩ : ByteArray) = toB (wordL 4) := rfl
      have k1 : (0 : Int) ≤ 4 := by omega
      have k2 : (4 : Int) < 5 := by omega
      generalize wordL 4 = W at *
      refine ACalls.of_awp follows (st := st6x) (plans := pl6x) (n := 34) Tryz.func6 rfl (by kernel_rfl) (by kernel_rfl) (by kernel_rfl) ?_
      unfold stA
      cases ins
      all_goals
        simp only [↓reduceIte, Bool.false_eq_true, List.nil_append, List.cons_append] at hj
        simp [hk, k1, k2, locksO, lockN]
        repeat' with_reducible apply And.intro
        all_goals
          refine callK.eq (hn _) ?_
          simp [hk, k1, k2]
          repeat' with_reducible apply And.intro
          all_goals
            refine callK.eq (hd _) ?_
            simp [hk, k1, k2, bt1]
            repeat' with_reducible apply And.intro
            all_goals
              refine callK.eq (hj _) ?_
              simp
  · have hk : (⟨#[63]⟩ : ByteArray) = toB (wordL lock) := by unfold wordL; rw [if_neg h]; rfl
    generalize wordL lock = W at *
    by_cases k3 : 0 ≤ lock
    · have k4 : ¬ lock < 5 := by omega
      refine ACalls.of_awp follows (st := st6x) (plans := pl6x) (n := 34) Tryz.func6 rfl (by kernel_rfl) (by kernel_rfl) (by kernel_rfl) ?_
      unfold stA
      cases ins
      all_goals
        simp only [↓reduceIte, Bool.false_eq_true, List.nil_append, List.cons_append] at hj
        simp [hk, k3, k4, locksO, lockN]
        repeat' with_reducible apply And.intro
        all_goals
          refine callK.eq (hn _) ?_
          simp [hk, k3, k4]
          repeat' with_reducible apply And.intro
          all_goals
            refine callK.eq (hd _) ?_
            simp [hk, k3, k4, bt1]
            repeat' with_reducible apply And.intro
            all_goals
              refine callK.eq (hj _) ?_
              simp
    · refine ACalls.of_awp follows (st := st6x) (plans := pl6x) (n := 34) Tryz.func6 rfl (by kernel_rfl) (by kernel_rfl) (by kernel_rfl) ?_
      unfold stA
      cases ins
      all_goals
        simp only [↓reduceIte, Bool.false_eq_true, List.nil_append, List.cons_append] at hj
        simp [hk, k3, locksO, lockN]
        repeat' with_reducible apply And.intro
        all_goals
          refine callK.eq (hn _) ?_
          simp [hk, k3]
          repeat' with_reducible apply And.intro
          all_goals
            refine callK.eq (hd _) ?_
            simp [hk, k3, bt1]
            repeat' with_reducible apply And.intro
            all_goals
              refine callK.eq (hj _) ?_
              simp
end Go.Proofs.YtkggdohfcmiakaaGreatDoor
/-
  Of no screen there is nothing: texts, fields, codes, places, rows.
-/
namespace Go.Proofs.YtkggdohfcmiakaaGreatDoor
open Go Go.AL Go.Sp
variable {σ Y Z τ : Store} {q p q2 p2 b x y : Nat} {s t : Sp} {n : Int} {a : Option Addr}

theorem bldS_nat (z : Nat) (x : Bst) (σ : Store) (o : Nat) : (bldS z x σ) o = σ o := by
  cases x <;> simp [bldS]
theorem forget_calls {P : Program} {f : FuncId} {args : List AV} {σ τ : Store} {R : AV → Store → Prop} (h : ACalls P f args τ R) (hs : Store.sub τ σ) : ACalls P f args σ R :=
  fun D G w cargs h1 h2 h3 h4 => h D G w cargs h1 h2 (h3.forget hs) h4
set_option maxRecDepth 8000 in
theorem text0_calls (σ : Store) : ACalls Tryz.prog 11 [nilP, .lit (.pointer a)] σ fun v σ' => v = .lit (.string ⟨#[]⟩) ∧ σ' = σ := by
  refine ACalls.of_awpY follows (st := st11) (plans := pl11) (n := 17) Tryz.func11 rfl (by kernel_rfl) (by kernel_rfl) (by kernel_rfl) ?_
  simp
  intro z hz hzk
  have e0 : σ.put z (rawA 90 (Value.agg #[.pointer none, .slice none 0 0]).cells) = bldS z (.nil (.pointer none)) σ := rfl
  rw [e0]
  clear e0
  simp
  refine callK.of (mkLines0_calls a _) ?_
  rintro v τ2 ⟨c1, c2, f1, f2, n12, rfl, rfl⟩
  rw [bldS_nat] at f1 f2
  have hO : BldOk z [] σ (.nil (.pointer none)) := ⟨rfl, .inl rfl, by simpa using hzk⟩
  simp
  refine codeYK.rangeG follows (st := st11) (plans := pl11) (lines_iter0 a c1 c2 _) (by simp) (by simp) (fun k τ h => rfl) (by kernel_rfl) (by kernel_rfl) (by kernel_rfl)
    (fun k ρ E => Store.sub (((bldS z (.nil (.pointer none)) σ).upd c1 [nilP]).upd c2 [.lit (.pointer a)]) ρ) (fun c ρ E => False) _ (Store.sub_refl _) (Store.sub_refl _) ?_ ?_ ?_ ?_
  · rintro k ρ E hk h
    exact ⟨sub_at (by simp [n12]) h, sub_at (by simp) h⟩
  · rintro k hk; omega
  · rintro ρ E σ' hs' h
    have hs2 : Store.sub (bldS z (.nil (.pointer none)) σ) σ' := Store.sub_trans (Store.sub_upd (by simp [bldS_nat, f2, Ne.symm n12]) (Store.sub_upd (by simp [bldS_nat, f1]) (Store.sub_refl _))) (Store.sub_trans h hs')
    simp
    refine callK.eq (forget_calls (bstr0_calls z _ σ hO) hs2) ?_
    simp
  · rintro c ρ E σ' _ h; exact h.elim
set_option maxRecDepth 8000 in
theorem codes0_calls (σ : Store) : ACalls Tryz.prog 13 [nilP] σ fun v σ' => v = .lit (.string ⟨#[]⟩) ∧ σ' = σ := by
  refine ACalls.of_awpY follows (st := st13) (plans := pl13) (n := 23) Tryz.func13 rfl (by kernel_rfl) (by kernel_rfl) (by kernel_rfl) ?_
  simp
  intro z hz hzk
  have e0 : σ.put z (rawA 90 (Value.agg #[.pointer none, .slice none 0 0]).cells) = bldS z (.nil (.pointer none)) σ := rfl
  rw [e0]
  clear e0
  simp
  refine callK.of (all0_calls2 _) ?_
  rintro v τ2 ⟨b, hb, rfl, rfl⟩
  rw [bldS_nat] at hb
  have hO : BldOk z [] σ (.nil (.pointer none)) := ⟨rfl, .inl rfl, by simpa using hzk⟩
  simp
  refine codeYK.rangeG follows (st := st13) (plans := pl13) (all_iter0 b _) (by simp) (by simp) (fun k τ h => rfl) (by kernel_rfl) (by kernel_rfl) (by kernel_rfl)
    (fun k ρ E => Store.sub ((bldS z (.nil (.pointer none)) σ).upd b [nilP]) ρ) (fun c ρ E => False) _ (Store.sub_refl _) (Store.sub_refl _) ?_ ?_ ?_ ?_
  · rintro k ρ E hk h
    exact sub_at (by simp) h
  · rintro k hk; omega
  · rintro ρ E σ' hs' h
    have hs2 : Store.sub (bldS z (.nil (.pointer none)) σ) σ' := Store.sub_trans (Store.sub_upd (by simp [bldS_nat, hb]) (Store.sub_refl _)) (Store.sub_trans h hs')
    simp
    refine callK.eq (forget_calls (bstr0_calls z _ σ hO) hs2) ?_
    simp
  · rintro c ρ E σ' _ h; exact h.elim
set_option maxRecDepth 8000 in
theorem pfields0_calls (σ : Store) : ACalls Tryz.prog 12 [nilP, .lit (.pointer a)] σ fun v σ' => v = .list false 1 [] ∧ σ' = σ := by
  refine ACalls.of_awpY follows (st := st12) (plans := pl12) (n := 62) Tryz.func12 rfl (by kernel_rfl) (by kernel_rfl) (by kernel_rfl) ?_
  simp
  intro z5 h5
  refine callK.eq (size0_calls _) ?_
  simp
  intro z6 h6
  rw [del_upd_new (by simpa using h6)]
  refine callK.of (fields0_calls2 _) ?_
  rintro v τ2 ⟨b, hb, rfl, rfl⟩
  have nb5 : ¬ b = z5 := fun e => by subst e; simp at hb
  have hb0 : σ b = none := by simpa [nb5] using hb
  simp
  refine codeYK.rangeG follows (st := st12) (plans := pl12) (fields_iter0 b _) (by simp) (by simp) (fun k τ h => rfl) (by kernel_rfl) (by kernel_rfl) (by kernel_rfl)
    (fun k ρ E => Store.sub ((σ.upd z5 [.list true 1 []]).upd b [nilP]) ρ) (fun c ρ E => False) _ (Store.sub_refl _) (Store.sub_refl _) ?_ ?_ ?_ ?_
  · rintro k ρ E hk h
    exact sub_at (by simp) h
  · rintro k hk; omega
  · rintro ρ E σ' hs' h
    have hs1 := Store.sub_trans h hs'
    have x5 : σ' z5 = some [.list true 1 []] := sub_at (by simp [Ne.symm nb5]) hs1
    simp [x5]
    exact Store.sub_trans (Store.sub_upd hb0 (Store.sub_upd h5 (Store.sub_refl _))) hs1
  · rintro c ρ E σ' _ h; exact h.elim
set_option maxRecDepth 8000 in
theorem wlines0_calls (k : Int) (σ : Store) : ACalls Tryz.prog 10 [nilP, .lit (.pointer a), .lit (.int .i64 k)] σ fun v σ' => v = .list false 1 [] ∧ σ' = σ := by
  refine ACalls.of_awpY follows (st := st10) (plans := pl10) (n := 28) Tryz.func10 rfl (by kernel_rfl) (by kernel_rfl) (by kernel_rfl) ?_
  simp +contextual [ite_free]
  intro z5 h5 z6 n65 n56 h6 z7 n75 n57 n76 n67 h7
  refine callK.of (mkLines0_calls a _) ?_
  rintro v τ2 ⟨c1, c2, f1, f2, n12, rfl, rfl⟩
  simp only [supd_apply, Int.natCast_inj, ite_none] at f1 f2
  obtain ⟨m17, m16, m15, f1⟩ := f1
  obtain ⟨m27, m26, m25, f2⟩ := f2
  have hsub : Store.sub σ (((((σ.upd z5 [.lit (.int .i64 k)]).upd z6 [.list true 1 []]).upd z7 [.list true 1 []]).upd c1 [nilP]).upd c2 [.lit (.pointer a)]) :=
    Store.sub_upd f2 (Store.sub_upd f1 (Store.sub_upd h7 (Store.sub_upd h6 (Store.sub_upd h5 (Store.sub_refl _)))))
  have y7 : (((((σ.upd z5 [.lit (.int .i64 k)]).upd z6 [.list true 1 []]).upd z7 [.list true 1 []]).upd c1 [nilP]).upd c2 [.lit (.pointer a)]) z7 = some [.list true 1 []] := by simp [Ne.symm m17, Ne.symm m27]
  have y6 : (((((σ.upd z5 [.lit (.int .i64 k)]).upd z6 [.list true 1 []]).upd z7 [.list true 1 []]).upd c1 [nilP]).upd c2 [.lit (.pointer a)]) z6 = some [.list true 1 []] := by simp [Ne.symm m16, Ne.symm m26, n67]
  have y1 : (((((σ.upd z5 [.lit (.int .i64 k)]).upd z6 [.list true 1 []]).upd z7 [.list true 1 []]).upd c1 [nilP]).upd c2 [.lit (.pointer a)]) c1 = some [nilP] := by simp [n12]
  have y2 : (((((σ.upd z5 [.lit (.int .i64 k)]).upd z6 [.list true 1 []]).upd z7 [.list true 1 []]).upd c1 [nilP]).upd c2 [.lit (.pointer a)]) c2 = some [.lit (.pointer a)] := by simp
  generalize (((((σ.upd z5 [.lit (.int .i64 k)]).upd z6 [.list true 1 []]).upd z7 [.list true 1 []]).upd c1 [nilP]).upd c2 [.lit (.pointer a)]) = Y at *
  simp
  refine codeYK.rangeG follows (st := st10) (plans := pl10) (lines_iter0 a c1 c2 _) (by simp) (by simp) (fun k τ h => rfl) (by kernel_rfl) (by kernel_rfl) (by kernel_rfl)
    (fun k ρ E => Store.sub Y ρ) (fun c ρ E => False) _ (Store.sub_refl _) (Store.sub_refl _) ?_ ?_ ?_ ?_
  · rintro k ρ E hk h
    exact ⟨sub_at y1 h, sub_at y2 h⟩
  · rintro k hk; omega
  · rintro ρ E σ' hs' h
    have hs1 := Store.sub_trans h hs'
    have x7 := sub_at y7 hs1
    have x6 := sub_at y6 hs1
    simp [x7, x6]
    exact Store.sub_upd h6 (Store.sub_trans hsub hs1)
  · rintro c ρ E σ' _ h; exact h.elim
set_option maxRecDepth 8000 in
theorem find0_calls (t : ByteArray) (σ : Store) : ACalls Tryz.prog 14 [nilP, .lit (.pointer a), .lit (.string t)] σ fun v σ' => v = .lit (.int .i64 (-1)) ∧ σ' = σ := by
  refine ACalls.of_awp follows (st := st14) (plans := pl14) (n := 54) Tryz.func14 rfl (by kernel_rfl) (by kernel_rfl) (by kernel_rfl) ?_
  simp
  refine codeK.scope follows (st := st14) (plans := pl14) (by kernel_rfl) ?_
  simp
set_option maxRecDepth 8000 in
theorem diff0_calls (σ : Store) : ACalls Tryz.prog 15 [nilP, nilP, .lit (.pointer a)] σ fun v σ' => v = .list false 2 [] ∧ σ' = σ := by
  refine ACalls.of_awpY follows (st := st15) (plans := pl15) (n := 39) Tryz.func15 rfl (by kernel_rfl) (by kernel_rfl) (by kernel_rfl) ?_
  simp +contextual [ite_free]
  intro z3 h3 z4 n43 n34 h4
  refine callK.eq (lines0_calls _) ?_
  simp +contextual [ite_free]
  intro z7 a1 a2 a3 a4 h7 z8 b1 b2 b3 b4 b5 b6 h8
  refine callK.of (mkLines0_calls a _) ?_
  rintro v τ2 ⟨c1, c2, f1, f2, n12, rfl, rfl⟩
  simp only [supd_apply, Int.natCast_inj, ite_none] at f1 f2
  obtain ⟨m18, m17, m14, m13, f1⟩ := f1
  obtain ⟨m28, m27, m24, m23, f2⟩ := f2
  have hsub : Store.sub σ ((((((σ.upd z3 [nilP]).upd z4 [nilP]).upd z7 [.list false 1 []]).upd z8 [.list true 2 []]).upd c1 [nilP]).upd c2 [.lit (.pointer a)]) :=
    Store.sub_upd f2 (Store.sub_upd f1 (Store.sub_upd h8 (Store.sub_upd h7 (Store.sub_upd h4 (Store.sub_upd h3 (Store.sub_refl _))))))
  have y8 : ((((((σ.upd z3 [nilP]).upd z4 [nilP]).upd z7 [.list false 1 []]).upd z8 [.list true 2 []]).upd c1 [nilP]).upd c2 [.lit (.pointer a)]) z8 = some [.list true 2 []] := by simp [Ne.symm m18, Ne.symm m28]
  have y1 : ((((((σ.upd z3 [nilP]).upd z4 [nilP]).upd z7 [.list false 1 []]).upd z8 [.list true 2 []]).upd c1 [nilP]).upd c2 [.lit (.pointer a)]) c1 = some [nilP] := by simp [n12]
  have y2 : ((((((σ.upd z3 [nilP]).upd z4 [nilP]).upd z7 [.list false 1 []]).upd z8 [.list true 2 []]).upd c1 [nilP]).upd c2 [.lit (.pointer a)]) c2 = some [.lit (.pointer a)] := by simp
  generalize ((((((σ.upd z3 [nilP]).upd z4 [nilP]).upd z7 [.list false 1 []]).upd z8 [.list true 2 []]).upd c1 [nilP]).upd c2 [.lit (.pointer a)]) = Y at *
  simp
  refine codeYK.rangeG follows (st := st15) (plans := pl15) (lines_iter0 a c1 c2 _) (by simp) (by simp) (fun k τ h => rfl) (by kernel_rfl) (by kernel_rfl) (by kernel_rfl)
    (fun k ρ E => Store.sub Y ρ) (fun c ρ E => False) _ (Store.sub_refl _) (Store.sub_refl _) ?_ ?_ ?_ ?_
  · rintro k ρ E hk h
    exact ⟨sub_at y1 h, sub_at y2 h⟩
  · rintro k hk; omega
  · rintro ρ E σ' hs' h
    have hs1 := Store.sub_trans h hs'
    have x8 := sub_at y8 hs1
    simp [x8]
    exact Store.sub_trans hsub hs1
  · rintro c ρ E σ' _ h; exact h.elim
end Go.Proofs.YtkggdohfcmiakaaGreatDoor
/-
  SnapStatus.
-/
namespace Go.Proofs.YtkggdohfcmiakaaGreatDoor
open Go Go.AL Go.Sp

@[simp] def st3x : List Nat := [5000002, 4000013, 4000016, 4000018, 4000020, 4000022]
@[simp] def pl3x : List (Nat × Plan) := [(4, Plan.seq [0, 2, 3, 4, 5, 6, 7, 8, 9, 1, 10, 11, 12, 13, 14, 15, 16, 17, 18, 19, 20, 21, 22, 23, 24, 25, 26, 27, 28, 29, 30, 31, 32, 33, 34, 35, 36, 37, 38, 39, 40, 41, 42, 43, 44, 45, 46, 47, 48, 49, 50, 51, 52, 53, 54, 55, 56] (.done))]
set_option maxHeartbeats 4000000 in
set_option maxRecDepth 8000 in
theorem snapStatus_law (md pg : Int) (alt : Bool) (cur lock : Int) (ins : Bool) (aid : UInt8) (mode k : Int) (h0 : -9223372036854775808 ≤ cur) (h1 : cur ≤ 9223372036854775807) (σ : Store) :
    ACalls Tryz.prog 3 [.agg (stA md pg alt cur lock ins aid mode), .lit (.int .i64 k)] σ fun v _ => v = .lit (.bool true) := by
  have haw := fun τ => sawake_calls τ
  have hpn := fun τ => page_new 37 (by decide) τ
  have hs := fun τ => status_calls md pg alt cur lock ins aid mode h0 h1 τ
  have hr := fun τ => rstatus_calls lock ins aid cur h0 h1 τ
  unfold stA at *
  refine ACalls.of_awp follows (st := st3x) (plans := pl3x) (n := 69) Tryz.func3 rfl (by kernel_rfl) (by kernel_rfl) (by kernel_rfl) ?_
  simp
  refine callK.eq (haw _) ?_
  simp
  refine callK.of (hpn _) ?_
  rintro v τ ⟨b, hb, rfl, e⟩
  clear e
  simp
  refine callK.eq (hs _) ?_
  simp
  refine callK.eq (hr _) ?_
  simp
  refine callK.eq (sign0_calls k _) ?_
  simp
  refine callK.eq (lineN_calls k _) ?_
  simp
  refine callK.eq (wlines0_calls 9 _) ?_
  simp
  refine callK.eq (text0_calls _) ?_
  simp
  refine callK.eq (pfields0_calls _) ?_
  simp
  refine callK.eq (codes0_calls _) ?_
  simp
  refine callK.eq (find0_calls _ _) ?_
  simp
  refine callK.eq (diff0_calls _) ?_
  simp
  exact ⟨_, Store.sub_refl _⟩
end Go.Proofs.YtkggdohfcmiakaaGreatDoor
