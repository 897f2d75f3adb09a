/-
  The names of the keys that send: the program's, the document's; nothing of no keyboard.
-/
import Derived.Test.YtlmdbcgceijlnaaGreatDoorPart22
import Derived.Test.YtlmdbcgceijlnaaGreatDoorRows
import Derived.Lay
import Derived.LaidMore
set_option linter.unusedSimpArgs false
set_option linter.unusedVariables false
namespace Go.Proofs.YtlmdbcgceijlnaaGreatDoor
open Go Go.AL Go.Sp
variable {σ : Store}

def pfB : List UInt8 := [241, 242, 243, 244, 245, 246, 247, 248, 249, 122, 123, 124, 193, 194, 195, 196, 197, 198, 199, 200, 201, 74, 75, 76]
def paB : List UInt8 := [108, 110, 107]
def tailL (a : UInt8) : List UInt8 :=
  if a = 125 then [69, 110, 116, 101, 114] else if a = 109 then [67, 108, 101, 97, 114] else if a = 126 then [83, 101, 108, 101, 99, 116] else if a = 96 then [78, 111, 110, 101] else []
def nameL (a : UInt8) : List UInt8 :=
  if a = 125 ∨ a = 109 ∨ a = 126 ∨ a = 96 then tailL a else if 0 < plcN pfB a then [80, 70] ++ decL (plcN pfB a) else if 0 < plcN paB a then [80, 65] ++ decL (plcN paB a) else []
def shortB (a : UInt8) : Bool := a = 109 ∨ a = 108 ∨ a = 110 ∨ a = 107
theorem u8_all {p : UInt8 → Prop} (h : ∀ i : Fin 256, p (UInt8.ofNat i.val)) (a : UInt8) : p a := by
  have := h ⟨a.toNat, a.toNat_lt⟩
  simpa using this
theorem plc_pf : ∀ i : Fin 256, plcN pfB (UInt8.ofNat i.val) ≤ 24 := by decide +kernel
theorem plc_pa : ∀ i : Fin 256, plcN paB (UInt8.ofNat i.val) ≤ 3 := by decide +kernel
theorem name_at : ∀ i : Fin 27, nameL (UInt8.ofNat (aidT.getD i.val 0)) = if i.val < 24 then [80, 70] ++ decL (i.val + 1) else [80, 65] ++ decL (i.val - 23) := by decide +kernel
theorem name_out : ∀ i : Fin 256, (∀ j : Fin 27, aidT.getD j.val 0 ≠ i.val) → nameL (UInt8.ofNat i.val) = tailL (UInt8.ofNat i.val) := by decide +kernel
theorem short_eq : ∀ i : Fin 256, (decide ((UInt8.ofNat i.val) = 109) || decide (0 < plcN paB (UInt8.ofNat i.val))) = shortB (UInt8.ofNat i.val) := by decide +kernel
theorem pf_room (L : List UInt8) (hL : L.length ≤ 10) (n : Nat) : ¬ (9223372036854775807 : Int) < ((toB L).size : Int) + ((toB (decL n)).size : Int) := by
  have h2 := decL_len n
  rw [toB_size, toB_size]; omega
theorem place_pf (a : UInt8) (σ : Store) : ACalls Tryz.prog 95 [.lit (.string ⟨#[241, 242, 243, 244, 245, 246, 247, 248, 249, 122, 123, 124, 193, 194, 195, 196, 197, 198, 199, 200, 201, 74, 75, 76]⟩), byteA a] σ fun v σ' => v = .lit (.int .i64 (plcN pfB a : Nat)) ∧ σ' = σ :=
  keyplc_calls pfB (by decide) a σ
theorem place_pa (a : UInt8) (σ : Store) : ACalls Tryz.prog 95 [.lit (.string ⟨#[108, 110, 107]⟩), byteA a] σ fun v σ' => v = .lit (.int .i64 (plcN paB a : Nat)) ∧ σ' = σ :=
  keyplc_calls paB (by decide) a σ
theorem toB_mk (L : List UInt8) : ByteArray.mk L.toArray = toB L := rfl
set_option maxRecDepth 8000 in
theorem name_calls (a : UInt8) (σ : Store) : ACalls Tryz.prog 38 [byteA a] σ fun v σ' => v = .lit (.string (toB (nameL a))) ∧ σ' = σ := by
  have hp := place_pf a σ
  have hq := place_pa a σ
  have l1 := u8_all (p := fun a => plcN pfB a ≤ 24) plc_pf a
  have l2 := u8_all (p := fun a => plcN paB a ≤ 3) plc_pa a
  have i1 := itoa_calls (n := plcN pfB a) (by omega) σ
  have i2 := itoa_calls (n := plcN paB a) (by omega) σ
  have r1 := pf_room [80, 70] (by decide) (plcN pfB a)
  have r2 := pf_room [80, 65] (by decide) (plcN paB a)
  have e : ∀ (m : Nat), (a.toNat : Int) = m ↔ a.toNat = m := fun m => by omega
  unfold nameL tailL
  refine ACalls.of_awp follows (st := st38) (plans := pl38) (n := 28) Tryz.func38 rfl (by kernel_rfl) (by kernel_rfl) (by kernel_rfl) ?_
  by_cases c1 : a = 125
  · subst c1; simp [byteA]; exact AV.le_refl _
  by_cases c2 : a = 109
  · subst c2; simp [byteA]; exact AV.le_refl _
  by_cases c3 : a = 126
  · subst c3; simp [byteA]; exact AV.le_refl _
  by_cases c4 : a = 96
  · subst c4; simp [byteA]; exact AV.le_refl _
  have k1 : ¬ (a.toNat : Int) = 125 := fun h => c1 (UInt8.toNat_inj.1 (by show a.toNat = 125; omega))
  have k2 : ¬ (a.toNat : Int) = 109 := fun h => c2 (UInt8.toNat_inj.1 (by show a.toNat = 109; omega))
  have k3 : ¬ (a.toNat : Int) = 126 := fun h => c3 (UInt8.toNat_inj.1 (by show a.toNat = 126; omega))
  have k4 : ¬ (a.toNat : Int) = 96 := fun h => c4 (UInt8.toNat_inj.1 (by show a.toNat = 96; omega))
  rw [if_neg (by simp [c1, c2, c3, c4])]
  unfold byteA at *
  simp [k1, k2, k3, k4]
  refine callK.eq hp ?_
  generalize plcN pfB a = x at *
  generalize plcN paB a = y at *
  rw [← toB_mk] at r1 r2
  by_cases hx : 0 < x
  · simp [hx]
    refine callK.eq i1 ?_
    simp [r1]
    rw [show (⟨#[80, 70]⟩ : ByteArray) ++ toB (decL x) = toB (80 :: 70 :: decL x) from toB_append [80, 70] _]
    exact AV.le_refl _
  · simp [hx]
    refine callK.eq hq ?_
    by_cases hy : 0 < y
    · simp [hy]
      refine callK.eq i2 ?_
      simp [r2]
      rw [show (⟨#[80, 65]⟩ : ByteArray) ++ toB (decL y) = toB (80 :: 65 :: decL y) from toB_append [80, 65] _]
      exact AV.le_refl _
    · simp [hy]
      exact AV.le_refl _
set_option maxRecDepth 8000 in
theorem rname_calls (a : UInt8) (σ : Store) : ACalls Tryz.prog 39 [byteA a] σ fun v σ' => v = .lit (.string (toB (nameL a))) ∧ σ' = σ := by
  have h27 := fun τ i hi => rat27_calls i hi τ
  have hd := fun i hi τ => rdec_calls (n := i) hi τ
  have hout : (∀ j : Fin 27, aidT.getD j.val 0 ≠ a.toNat) → nameL a = tailL a := by
    have := name_out ⟨a.toNat, a.toNat_lt⟩
    simpa using this
  have hat : ∀ i, i < 27 → (aidT.getD i 0) = a.toNat → nameL a = if i < 24 then [80, 70] ++ decL (i + 1) else [80, 65] ++ decL (i - 23) := fun i hi e => by
    have := name_at ⟨i, hi⟩
    dsimp only at this
    rw [e] at this
    simpa using this
  refine ACalls.of_awp follows (st := st39) (plans := pl39) (n := 37) Tryz.func39 rfl (by kernel_rfl) (by kernel_rfl) (by kernel_rfl) ?_
  simp [byteA]
  refine codeK.loop follows (st := st39) (plans := pl39) (X := Nat) (fun i => i ≤ 27 ∧ ∀ j, j < i → aidT.getD j 0 ≠ a.toNat)
    (fun i => [(0, byteA a), (3, .lit (.int .i64 i))]) (fun _ => σ) (fun i => 27 - i) 0 (by kernel_rfl) (by simp) (by simp [byteA]) (Store.sub_refl _) fun i hi => ?_
  obtain ⟨hi1, hi2⟩ := hi
  by_cases hlt : i < 27
  · have hw1 : IntKind.i64.wrap ((i : Int) + 1) = (i : Int) + 1 := wrap_i64 (by omega) (by omega)
    have hw2 : IntKind.i64.wrap ((i : Int) - 23) = (i : Int) - 23 := wrap_i64 (by omega) (by omega)
    have hc := h27 σ i hlt
    have hA := hat i hlt
    have hlt' : (i : Int) < 27 := by omega
    have hnx : aidT.getD i 0 ≠ a.toNat → ∀ j, j < i + 1 → aidT.getD j 0 ≠ a.toNat := fun h j hj => by
      rcases Nat.lt_or_ge j i with h1 | h1
      · exact hi2 j h1
      · rw [show j = i from by omega]; exact h
    generalize hT : aidT.getD i 0 = w at *
    simp [byteA, hlt, hlt']
    refine callK.eq hc ?_
    by_cases he : w = a.toNat
    · have hA' := hA he
      by_cases h24 : i < 24
      · have h24' : (i : Int) < 24 := by omega
        rw [if_pos h24] at hA'
        have hdc := hd (i + 1) (by omega) σ
        have r1 := pf_room [80, 70] (by decide) (i + 1)
        rw [← toB_mk] at r1
        rw [show ((i + 1 : Nat) : Int) = (i : Int) + 1 from by omega] at hdc
        rw [hA']
        simp [he, h24, h24', hw1]
        refine callK.eq hdc ?_
        simp [r1]
        rw [show (⟨#[80, 70]⟩ : ByteArray) ++ toB (decL (i + 1)) = toB (80 :: 70 :: decL (i + 1)) from toB_append [80, 70] _]
        exact AV.le_refl _
      · have h24' : ¬ (i : Int) < 24 := by omega
        rw [if_neg h24] at hA'
        have hdc := hd (i - 23) (by omega) σ
        have r1 := pf_room [80, 65] (by decide) (i - 23)
        rw [← toB_mk] at r1
        rw [show ((i - 23 : Nat) : Int) = (i : Int) - 23 from by omega] at hdc
        rw [hA']
        simp [he, h24, h24']
        refine callK.eq (h27 σ i hlt) ?_
        rw [hT]
        simp [he, hw2]
        refine callK.eq hdc ?_
        simp [r1]
        rw [show (⟨#[80, 65]⟩ : ByteArray) ++ toB (decL (i - 23)) = toB (80 :: 65 :: decL (i - 23)) from toB_append [80, 65] _]
        exact AV.le_refl _
    · have he' : ¬ (w : Int) = (a.toNat : Int) := by omega
      simp [he, he']
      refine callK.eq (h27 σ i hlt) ?_
      rw [hT]
      simp [he, he', hw1]
      exact ⟨i + 1, ⟨by omega, hnx he⟩, by omega, by simp⟩
  · obtain rfl : i = 27 := by omega
    rw [hout fun j => hi2 j.val j.isLt]
    unfold tailL
    simp [byteA]
    by_cases c1 : a = 125
    · subst c1; simp; exact AV.le_refl _
    by_cases c2 : a = 109
    · subst c2; simp; exact AV.le_refl _
    by_cases c3 : a = 126
    · subst c3; simp; exact AV.le_refl _
    by_cases c4 : a = 96
    · subst c4; simp; exact AV.le_refl _
    have k1 : ¬ (a.toNat : Int) = 125 := fun h => c1 (UInt8.toNat_inj.1 (by show a.toNat = 125; omega))
    have k2 : ¬ (a.toNat : Int) = 109 := fun h => c2 (UInt8.toNat_inj.1 (by show a.toNat = 109; omega))
    have k3 : ¬ (a.toNat : Int) = 126 := fun h => c3 (UInt8.toNat_inj.1 (by show a.toNat = 126; omega))
    have k4 : ¬ (a.toNat : Int) = 96 := fun h => c4 (UInt8.toNat_inj.1 (by show a.toNat = 96; omega))
    simp [k1, k2, k3, k4, c1, c2, c3, c4]
    exact AV.le_refl _
set_option maxRecDepth 8000 in
theorem short_calls (a : UInt8) (σ : Store) : ACalls Tryz.prog 40 [byteA a] σ fun v σ' => v = .lit (.bool (shortB a)) ∧ σ' = σ := by
  have hq := place_pa a σ
  have hs := u8_all (p := fun a => (decide (a = 109) || decide (0 < plcN paB a)) = shortB a) short_eq a
  rw [← hs]
  refine ACalls.of_awp follows (st := st40) (plans := pl40) (n := 10) Tryz.func40 rfl (by kernel_rfl) (by kernel_rfl) (by kernel_rfl) ?_
  by_cases c2 : a = 109
  · subst c2; simp [byteA]
  have k2 : ¬ (a.toNat : Int) = 109 := fun h => c2 (UInt8.toNat_inj.1 (by show a.toNat = 109; omega))
  unfold byteA at *
  simp [k2, c2]
  refine callK.eq hq ?_
  generalize plcN paB a = y at *
  simp [k2]
set_option maxRecDepth 8000 in
theorem rshort_calls (a : UInt8) (σ : Store) : ACalls Tryz.prog 41 [byteA a] σ fun v σ' => v = .lit (.bool (shortB a)) ∧ σ' = σ := by
  unfold shortB
  have k : ∀ m : UInt8, (a.toNat : Int) = m.toNat ↔ a = m := fun m => ⟨fun h => UInt8.toNat_inj.1 (by omega), fun h => by rw [h]⟩
  have k1 : (a.toNat : Int) = 108 ↔ a = 108 := k 108
  have k2 : (a.toNat : Int) = 110 ↔ a = 110 := k 110
  have k3 : (a.toNat : Int) = 107 ↔ a = 107 := k 107
  have k4 : (a.toNat : Int) = 109 ↔ a = 109 := k 109
  refine ACalls.of_awp follows (st := st41) (plans := pl41) (n := 17) Tryz.func41 rfl (by kernel_rfl) (by kernel_rfl) (by kernel_rfl) ?_
  by_cases c1 : a = 108
  · subst c1; simp [byteA]
  by_cases c2 : a = 110
  · subst c2; simp [byteA]
  by_cases c3 : a = 107
  · subst c3; simp [byteA]
  by_cases c4 : a = 109
  · subst c4; simp [byteA]
  have k5 : ((a.toNat : Int) == 109) = false := beq_eq_false_iff_ne.2 fun h => c4 (k4.1 h)
  simp [byteA, k1, k2, k3, k5, c1, c2, c3, c4]
end Go.Proofs.YtlmdbcgceijlnaaGreatDoor
/-
  Nothing of no keyboard; KeysAIDs.
-/
namespace Go.Proofs.YtlmdbcgceijlnaaGreatDoor
open Go Go.AL Go.Sp
variable {σ : Store}

def nilP : AV := .lit (.pointer none)
set_option maxRecDepth 8000 in
theorem press_nil (K : Key) (σ : Store) : ACalls Tryz.prog 30 [nilP, keyA K] σ fun v σ' => v = .tuple [.lit (.bool false), .lit (.int .i64 5)] ∧ σ' = σ := by
  have ha := fun τ => aid_calls K τ
  refine ACalls.of_awp follows (st := st30) (plans := pl30) (n := 75) Tryz.func30 rfl (by kernel_rfl) (by kernel_rfl) (by kernel_rfl) ?_
  generalize (aidN K).getD 0 = x at *
  generalize (aidN K).isSome = y at *
  unfold keyA keyC at *
  simp [nilP]
  intro z hz
  have hzs := fun X => sub_upd_self σ z X hz
  refine callK.eq (ha _) ?_
  simp
  exact hzs _
set_option maxRecDepth 8000 in
theorem type_nil (s : ByteArray) (σ : Store) : ACalls Tryz.prog 31 [nilP, .lit (.string s)] σ fun v σ' => v = .tuple [.lit (.int .i64 0), .lit (.int .i64 5)] ∧ σ' = σ := by
  refine ACalls.of_awp follows (st := st31) (plans := pl31) (n := 32) Tryz.func31 rfl (by kernel_rfl) (by kernel_rfl) (by kernel_rfl) ?_
  simp [nilP]
set_option maxRecDepth 8000 in
theorem restore_nil (σ : Store) : ACalls Tryz.prog 32 [nilP] σ fun v σ' => v = .tuple [] ∧ σ' = σ := by
  refine ACalls.of_awp follows (st := st32) (plans := pl32) (n := 10) Tryz.func32 rfl (by kernel_rfl) (by kernel_rfl) (by kernel_rfl) ?_
  simp [nilP]
set_option maxRecDepth 8000 in
theorem wait_nil (σ : Store) : ACalls Tryz.prog 33 [nilP] σ fun v σ' => v = .tuple [] ∧ σ' = σ := by
  refine ACalls.of_awp follows (st := st33) (plans := pl33) (n := 7) Tryz.func33 rfl (by kernel_rfl) (by kernel_rfl) (by kernel_rfl) ?_
  simp [nilP]
set_option maxRecDepth 8000 in
theorem lock_nil (σ : Store) : ACalls Tryz.prog 42 [nilP] σ fun v σ' => v = .lit (.int .i64 1) ∧ σ' = σ := by
  refine ACalls.of_awp follows (st := st42) (plans := pl42) (n := 9) Tryz.func42 rfl (by kernel_rfl) (by kernel_rfl) (by kernel_rfl) ?_
  simp [nilP]
set_option maxRecDepth 8000 in
theorem ins_nil (σ : Store) : ACalls Tryz.prog 43 [nilP] σ fun v σ' => v = .lit (.bool false) ∧ σ' = σ := by
  refine ACalls.of_awp follows (st := st43) (plans := pl43) (n := 11) Tryz.func43 rfl (by kernel_rfl) (by kernel_rfl) (by kernel_rfl) ?_
  simp [nilP]
set_option maxRecDepth 8000 in
theorem baid_nil (σ : Store) : ACalls Tryz.prog 44 [nilP] σ fun v σ' => v = .lit (.int .u8 0) ∧ σ' = σ := by
  refine ACalls.of_awp follows (st := st44) (plans := pl44) (n := 9) Tryz.func44 rfl (by kernel_rfl) (by kernel_rfl) (by kernel_rfl) ?_
  simp [nilP]
set_option maxRecDepth 8000 in
theorem knew_nil1 (b : AV) (σ : Store) : ACalls Tryz.prog 35 [nilP, b] σ fun v σ' => v = .tuple [nilP, .lit (.int .i64 5)] ∧ σ' = σ := by
  refine ACalls.of_awp follows (st := st35) (plans := pl35) (n := 16) Tryz.func35 rfl (by kernel_rfl) (by kernel_rfl) (by kernel_rfl) ?_
  simp [nilP]
set_option maxRecDepth 8000 in
theorem knew_nil2 (q : Nat) (σ : Store) : ACalls Tryz.prog 35 [ptrA q, nilP] σ fun v σ' => v = .tuple [nilP, .lit (.int .i64 5)] ∧ σ' = σ := by
  refine ACalls.of_awp follows (st := st35) (plans := pl35) (n := 16) Tryz.func35 rfl (by kernel_rfl) (by kernel_rfl) (by kernel_rfl) ?_
  simp [nilP]
theorem aid_some (K : Key) : (aidN K).isSome = decide (((aidN K).getD 0 : Nat) ≠ 0) := by
  have h1 : ∀ i : Fin 24, ∃ m, pfT[i.val]? = some m ∧ m ≠ 0 := by decide
  have h2 : ∀ i : Fin 3, ∃ m, paT[i.val]? = some m ∧ m ≠ 0 := by decide
  unfold aidN
  split
  · rfl
  split
  · rfl
  split
  · next h =>
    obtain ⟨m, e, hm⟩ := h1 ⟨(K.num - 1).toNat, by omega⟩
    dsimp only at e
    rw [e]; simp [hm]
  split
  · next h =>
    obtain ⟨m, e, hm⟩ := h2 ⟨(K.num - 1).toNat, by omega⟩
    dsimp only at e
    rw [e]; simp [hm]
  · rfl
set_option maxHeartbeats 2000000 in
set_option maxRecDepth 8000 in
theorem keysAIDs_law (K : Key) (a : UInt8) (σ : Store) : ACalls Tryz.prog 7 [keyA K, byteA a] σ fun v _ => v = .lit (.bool true) := by
  have haw := fun τ => awake_calls τ
  have hai := fun τ => aid_calls K τ
  have hra := fun τ => raid_calls K τ
  have hpn := fun τ => press_nil K τ
  have hn1 := fun τ => name_calls a τ
  have hn2 := fun τ => rname_calls a τ
  have hs1 := fun τ => short_calls a τ
  have hs2 := fun τ => rshort_calls a τ
  have he := aid_some K
  have hpg := fun τ => page_new 37 (by decide) τ
  have hnw := fun τ => new_calls (m := 2) (by decide) τ
  refine ACalls.of_awp follows (st := st7) (plans := pl7) (n := 119) Tryz.func7 rfl (by kernel_rfl) (by kernel_rfl) (by kernel_rfl) ?_
  generalize (aidN K).getD 0 = x at *
  generalize (aidN K).isSome = y at *
  generalize nameL a = nm at *
  generalize shortB a = sh at *
  unfold keyA keyC byteA at *
  simp
  intro z hz
  refine callK.eq (haw _) ?_
  simp
  refine callK.eq (hai _) ?_
  simp
  refine callK.eq (hpn _) ?_
  simp
  refine callK.eq (type_nil _ _) ?_
  simp
  refine callK.eq (restore_nil _) ?_
  simp
  refine callK.eq (wait_nil _) ?_
  simp
  refine callK.of (hpg _) ?_
  rintro v τ ⟨b, hb0, rfl, rfl⟩
  simp
  refine callK.eq (knew_nil1 _ _) ?_
  simp
  refine callK.of (hnw _) ?_
  rintro v τ ⟨q, p, rfl, hq, hp, hqp, rfl⟩
  simp
  refine callK.eq (knew_nil2 _ _) ?_
  simp
  have kb : ¬ z = b := fun e => by subst e; simp at hb0
  have hpz : ∀ o : Nat, o = b ∨ ¬ o = b → (pgS b 37 none (σ.upd z [.lit (.int .i64 K.kind), .lit (.int .i32 K.sign), .lit (.int .i64 K.num)])) z = some [.lit (.int .i64 K.kind), .lit (.int .i32 K.sign), .lit (.int .i64 K.num)] := fun _ _ => by
    rw [pgS_other kb]; simp
  have hpz := hpz 0 (Classical.em _)
  have kq : ¬ z = q := fun e => by subst e; rw [hpz] at hq; cases hq
  have kp : ¬ z = p := fun e => by subst e; rw [hpz] at hp; cases hp
  have hzc : putS spO (pgS b 37 none (σ.upd z [.lit (.int .i64 K.kind), .lit (.int .i32 K.sign), .lit (.int .i64 K.num)])) q p (Sp.new 2) z = some [.lit (.int .i64 K.kind), .lit (.int .i32 K.sign), .lit (.int .i64 K.num)] := by
    simp [putS, kq, kp, hpz]
  rw [hzc]
  generalize putS spO (pgS b 37 none (σ.upd z [.lit (.int .i64 K.kind), .lit (.int .i32 K.sign), .lit (.int .i64 K.num)])) q p (Sp.new 2) = S at *
  simp
  refine callK.eq (hra _) ?_
  by_cases hx0 : x = 0
  all_goals
    simp [he, hx0]
    refine callK.eq (hn1 _) ?_
    simp [hx0]
    refine callK.eq (hn2 _) ?_
    simp [hx0]
    refine callK.eq (hs1 _) ?_
    simp [hx0]
    refine callK.eq (hs2 _) ?_
    simp [hx0]
    refine callK.eq (lock_nil _) ?_
    simp [hx0]
    refine callK.eq (ins_nil _) ?_
    simp [hx0]
    refine callK.eq (baid_nil _) ?_
    simp [hx0]
    exact ⟨_, Store.sub_refl _⟩
end Go.Proofs.YtlmdbcgceijlnaaGreatDoor
/-
  Arguments opened; what is laid.
-/
namespace Go.Proofs.YtlmdbcgceijlnaaGreatDoor
open Go Go.AL Go.Sp
def laid3 : List (String × DataW Unit) := [("math/bits.deBruijn32tab", Rows.laid_math_bits_deBruijn32tab), ("math/bits.deBruijn64tab", Rows.laid_math_bits_deBruijn64tab), ("internal/strconv.uint64pow10", Rows.laid_internal_strconv_uint64pow10)]
theorem open_key : Opens Tryz.prog 60 (fun K : Key => keyC K) (fun _ => True) :=
  (Opens.struct (total := 3) Tryz.underlying60 (by kernel_rfl)
    (.cons (k := 1) rfl (by kernel_rfl) (by omega) (Opens.i64 Tryz.underlying3) (.cons (k := 1) rfl (by kernel_rfl) (by omega) (Opens.int (k := .i32) Tryz.underlying21) (.cons (k := 1) rfl (by kernel_rfl) (by omega) (Opens.i64 Tryz.underlying3) .nil)))).by
    (fun x => ⟨x.1, x.2.1, x.2.2.1⟩) fun _ _ => ⟨trivial, rfl⟩
end Go.Proofs.YtlmdbcgceijlnaaGreatDoor
/-
  KeysAIDs: for every input the law returns true, and the arguments read as they did.
-/
namespace Go.Proofs.YtlmdbcgceijlnaaGreatDoor
open Go Go.AL Go.ChangeShapes Go.WideShapes Go.ChangeAt Go.RowKit Go.Lib

theorem own_keysAIDs : ownKnob Tryz.prog.godebug = none := by kernel_rfl
theorem laid_keysAIDs : laidOutB Tryz.prog = true := by kernel_rfl
theorem rec5_keysAIDs : Tryz.prog.readableRec 5 = true := by kernel_rfl
theorem row5_keysAIDs : (5 : TypeId) < Tryz.prog.types.size := of_decide_eq_true (by kernel_rfl)
theorem rec60_keysAIDs : Tryz.prog.readableRec 60 = true := by kernel_rfl
theorem row60_keysAIDs : (60 : TypeId) < Tryz.prog.types.size := of_decide_eq_true (by kernel_rfl)

set_option maxRecDepth 100000 in
theorem keysAIDs_lifted (os : Os) (started : os.Started) (H : Type) (enc : TypeId × Value → H) :
    ReturnsInHanded {} Tryz.checked os 7 .any (fun w args => (Rows.keysAIDsSpec.pre enc Tryz.prog Tryz.f7 [] false w args ∧ laidMetH Tryz.prog laid3 w) ∧ sizedMet enc Tryz.prog Tryz.f7 (OpenSpec.ofChange Rows.keysAIDsSpec) false w args) (Rows.keysAIDsSpec.post enc Tryz.prog Tryz.f7 false true false false) := by
  refine returnsInHanded_of_change_and (C := Tryz.checked) (X := fun w _ => laidMetH Tryz.prog laid3 w) (fun _ _ _ hh h => h.of_heap hh) own_keysAIDs started (by kernel_rfl) Tryz.func7
    (ChangeSpec.witness_shaped (enc := enc) (C := Tryz.checked) (os := os) (X := fun w _ => laidMetH Tryz.prog laid3 w) false (World.laidAll Tryz.prog os laid3) #[.agg #[.int .i64 0, .int .i32 0, .int .i64 0], .int .u8 0] 8 (World.laidAll_os _ _ _)
      (World.shaped_of_ZipB (by kernel_rfl) (by kernel_rfl)) (by kernel_rfl) (by kernel_rfl) (by kernel_rfl)
      (by rw [MakeChecks.laidMetH_plain _ _ _ (by kernel_rfl)]; exact laidMet_laidAll _ (by kernel_rfl) (by kernel_rfl))) ?_
  intro W base args ds gs before hval0 hW _ _ hL _
  have hval : ∀ (j : Nat) t v, Tryz.f7.params[j]? = some t → args[j]? = some v → Value.okWide Tryz.prog W .any base t v := hval0
  have hW' := hW
  obtain ⟨p, q, hA0, hV, rfl, hfz, hnd⟩ := hW
  have hA : DataW.TrodAll enc Tryz.prog W 0 (fun _ => true) true Tryz.f7.params.toList args.toList ds p := hA0
  rw [Tryz.params7] at hA hval
  obtain ⟨v0, v1, d0, d1, p0, p1, rfl, rfl, rfl, h0, h1⟩ := trodAll_two hA
  obtain ⟨rfl, rfl⟩ := trodVars_none hV
  obtain ⟨_, hv0, _⟩ := okWide_struct Tryz.underlying60 (hval 0 60 v0 rfl rfl)
  obtain ⟨a0, m0, w0⟩ := (open_key).args hv0 h0
  obtain ⟨_, hv1⟩ := okWide_int Tryz.underlying5 (hval 1 5 v1 rfl rfl)
  obtain ⟨a1, m1, w1⟩ := (Opens.u8 Tryz.underlying5).arg _ (fun _ => rfl) (by rw [hv1]; rfl) h1
  clear hA0 hval0
  simp only [List.append_nil] at hW'
  have hlt : ∀ x ∈ p0 ++ p1, x.block < W.heap.size := fun x hx => hW'.lt x hx
  refine (law_calls (keysAIDs_law a0 a1 _) W #[v0, v1] rfl (fun i c u hc hu => ?_) (laid_none W)).mono fun e W' ⟨he, hb⟩ => ?_
  · match i with
    | 0 => simp at hc hu; subst hc hu; exact ⟨w0, rfl⟩
    | 1 => simp at hc hu; subst hc hu; exact ⟨w1, rfl⟩
    | n + 2 => simp at hc
  subst he
  refine ⟨_, rfl, [d0, d1], [], p0 ++ p1, [], p0 ++ p1, [], hW', ?_, ?_, rfl, hb.frame _, fun h => (by cases h)⟩
  · exact trodAll_mk1 (shut_bool Tryz.underlying4 true)
  · refine trodAll_mk2 (Below.trod laid_keysAIDs rec60_keysAIDs row60_keysAIDs h0 hb fun x hx => hlt x (by simp [hx])) (Below.trod laid_keysAIDs rec5_keysAIDs row5_keysAIDs h1 hb fun x hx => hlt x (by simp [hx]))

theorem keysAIDs_holds : Rows.KeysAIDsSaid :=
  OpenClaim.holds_of_wide 7 Tryz.f7 rfl rfl rfl rfl rfl rfl rfl ⟨rfl, rfl, rfl, rfl, rfl⟩ rfl rfl rfl rfl rfl (by kernel_rfl) Tryz.func7 (by kernel_rfl)
    (of_decide_eq_true (by kernel_rfl)) (by unfold Func.isWrapper; first | (rw [if_pos (by decide +kernel)]; kernel_rfl) | (rw [if_neg (by decide +kernel)]; exact ⟨rfl, rfl⟩))
    (fun os started H enc _ => keysAIDs_lifted os started H enc)
end Go.Proofs.YtlmdbcgceijlnaaGreatDoor
