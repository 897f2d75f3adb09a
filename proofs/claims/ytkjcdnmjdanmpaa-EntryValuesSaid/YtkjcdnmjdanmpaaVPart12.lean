/-
  strings.Builder as abstract states: its two blocks known just so.
-/
import Derived.Test.YtkjcdnmjdanmpaaVPart11
set_option linter.unusedSimpArgs false
set_option linter.unusedVariables false
namespace Go.Proofs.Ytkjcdnmjdanmpaa
open Go Go.AL Go.RowKit

theorem freeze_only (b : Nat) (p : Value) {g : Nat} (n cap : Nat) (w : World) : OnlyW b (.slice (some ⟨g, 0, none⟩) n cap) w (w.drew.freeze ⟨g, 0, none⟩ n) := by
  unfold World.freeze
  split
  · exact ⟨rfl, rfl, rfl, Nat.le_refl _, fun _ _ _ _ => rfl⟩
  · refine ⟨rfl, rfl, rfl, by simp, fun k hk hkb hkv => ?_⟩
    have hkg : ¬ g = k := fun e => hkv (by simp [Value.ownBlock, e])
    simp [Array.getElem?_modify, hkg]
    rfl
set_option maxHeartbeats 2000000 in
set_option maxRecDepth 100000 in
theorem oString (b : Nat) (p v : Value) (l : List UInt8) (w : World) (h : BldW w b p v (Lib.byteCells l)) (h0 : l ≠ []) :
    Calls Try.prog 23 #[.pointer (some ⟨b, 0, none⟩)] w fun e w' => e = .returned (.string ⟨l.toArray⟩) ∧ OnlyW b v w w' := by
  have hl0 : l.length ≠ 0 := by simpa using h0
  have hbk := h.blk
  have hown := h.own
  rw [Lib.byteCells_length] at hown
  obtain ⟨g, cap, cur, rfl, hbg, hg, hnc, hcm, hcs, htake⟩ : ∃ g cap cur, v = .slice (some ⟨g, 0, none⟩) l.length cap ∧ 0 ≤ g ∧ w.heap[g]? = some (.cells cur 5 (0, 0)) ∧ l.length ≤ cap ∧ cap ≤ maxLen ∧ cur.size = cap * 1 ∧ cur.toList.take (l.length * 1) = Lib.byteCells l := by
    rcases hown.2 with ⟨_, hz⟩ | ⟨g, cap, cur, hv, r⟩
    · exact absurd hz hl0
    · exact ⟨g, cap, cur, hv, r⟩
  have c1 : w.drew.cell? ⟨b, 1, none⟩ = some (.slice (some ⟨g, 0, none⟩) l.length cap) := by
    have : w.drew.heap[b]? = some (.cells #[p, .slice (some ⟨g, 0, none⟩) l.length cap] 91 (0, 0)) := hbk
    rw [Lib.cell_of_heap this]; rfl
  have hSD : (Builtin.unsafeSliceData_ #[27] 108 #[.slice (some ⟨g, 0, none⟩) l.length cap]).run Try.prog w.drew = .ok (.pointer (some ⟨g, 0, none⟩)) w.drew :=
    Lib.run_unsafeSliceData_row _ _ _ _ _ _ (by omega)
  have hUS : (Builtin.unsafeString_ #[108, 3] 9 #[.pointer (some ⟨g, 0, none⟩), .int .i64 l.length]).run Try.prog w.drew = .ok (.string ⟨l.toArray⟩) (w.drew.freeze ⟨g, 0, none⟩ l.length) := by
    refine Lib.run_unsafeString_row w.drew 108 3 9 5 Try.underlying108 (by kernel_rfl) g cur.size (by have hg' : w.drew.heap[g]? = some (.cells cur 5 (0, 0)) := hg; simp [World.shape?, hg']) l h0 (by omega) (by unfold maxLen at hcm; omega) ?_
    intro j x hx
    have := hown.cells (g := g) rfl j (.int .u8 x.toNat) (by simp [Lib.byteCells, hx])
    exact this
  go_enter Try.func23, Try.ntmps23
  go_wp2
  go_region
  all_goals
    go_wp2
    go_ret
    exact ⟨rfl, freeze_only b p l.length cap w⟩
set_option maxHeartbeats 2000000 in
set_option maxRecDepth 100000 in
theorem oString0 (b : Nat) (p : Value) (w : World) (h : BldW w b p (.slice none 0 0) []) :
    Calls Try.prog 23 #[.pointer (some ⟨b, 0, none⟩)] w fun e w' => e = .returned (.string ⟨#[]⟩) ∧ OnlyW b (.slice none 0 0) w w' := by
  have hbk := h.blk
  have c1 : w.drew.cell? ⟨b, 1, none⟩ = some (.slice none 0 0) := by
    have : w.drew.heap[b]? = some (.cells #[p, .slice none 0 0] 91 (0, 0)) := hbk
    rw [Lib.cell_of_heap this]; rfl
  have hSD : (Builtin.unsafeSliceData_ #[27] 108 #[.slice none 0 0]).run Try.prog w.drew = .ok (.pointer none) w.drew := Lib.run_unsafeSliceData_nil _ _ _ _ _
  have hUS : (Builtin.unsafeString_ #[108, 3] 9 #[.pointer none, .int .i64 0]).run Try.prog w.drew = .ok (.string .empty) w.drew := Lib.run_unsafeString_none _ _ _ _ _
  go_enter Try.func23, Try.ntmps23
  go_wp2
  go_region
  all_goals
    go_wp2
    go_ret
    exact ⟨rfl, ⟨rfl, rfl, rfl, Nat.le_refl _, fun _ _ _ _ => rfl⟩⟩
end Go.Proofs.Ytkjcdnmjdanmpaa
/-
  A report's bytes: the program's and the document's.
-/
namespace Go.Proofs.Ytkjcdnmjdanmpaa
open Go Go.AL

@[simp] theorem byteA_share (b : UInt8) : (byteA b).share = byteA b := nr rfl
@[simp] theorem byteA_drop1 (b : UInt8) : (byteA b).drop1 = byteA b := nr rfl
@[simp] theorem byteA_keep1 (b : UInt8) : (byteA b).keep1 = byteA b := nr rfl
@[simp] theorem byteA_cells (b : UInt8) : (byteA b).cells = [byteA b] := nr rfl
@[simp] theorem byteA_one (b : UInt8) : (byteA b).one = true := nr rfl
@[simp] theorem byteA_solid (b : UInt8) : (byteA b).solid = true := nr rfl
@[simp] theorem byteA_conv (P : Program) (t : TypeId) (b : UInt8) : conv P t (byteA b) = byteA b := nr rfl

def sbaOp (n : Int) : Op := { kind := 17, addr := n }
def txtOp (l : List UInt8) : Op := { text := l }
def opsE (alone : Bool) (e : En) : List Op := (if alone = true then [] else [sbaOp e.addr]) ++ (if e.text = [] then [] else [txtOp e.text])
def entB (alone : Bool) (e : En) : List UInt8 × Nat := seqB opB (opsE alone e)
def aloneL : List En → Bool
  | [e] => decide (e.addr = 0) && decide (0 < e.text.length)
  | _ => false
def repB (r : Rp) : List UInt8 × Nat :=
  if r.short = true then ([r.aid], 0) else if okAddr r.cursor then
    (if (seqB (entB (aloneL r.es)) r.es).2 ≠ 0 then ([], (seqB (entB (aloneL r.es)) r.es).2) else (r.aid :: encM r.cursor.toNat ++ (seqB (entB (aloneL r.es)) r.es).1, 0)) else ([], 9)

def sumE (a : Bool) (l : List En) (i : Nat) : List UInt8 := (l.take i).flatMap fun e => (entB a e).1
theorem aloneL_cases (es : List En) : (¬ es.length = 1 ∧ aloneL es = false) ∨ ∃ e, es = [e] ∧ ((¬ e.addr = 0 ∧ aloneL es = false) ∨ (e.addr = 0 ∧ e.text.length = 0 ∧ aloneL es = false) ∨ (e.addr = 0 ∧ 0 < e.text.length ∧ aloneL es = true)) := by
  rcases es with _ | ⟨e, _ | ⟨f, l⟩⟩
  · exact .inl ⟨by simp, rfl⟩
  · refine .inr ⟨e, rfl, ?_⟩
    by_cases h1 : e.addr = 0
    · by_cases h2 : 0 < e.text.length
      · exact .inr (.inr ⟨h1, h2, by simp [aloneL, h1, h2]⟩)
      · exact .inr (.inl ⟨h1, by omega, by simp [aloneL, h2]⟩)
    · exact .inl ⟨h1, by simp [aloneL, h1]⟩
  · exact .inl ⟨by simp, rfl⟩

/-- All characters up to one that is no order's. -/
theorem entB_false (e : En) : entB false e = if okAddr e.addr then (if hasOrd e.text = true then ([], 10) else (17 :: encM e.addr.toNat ++ e.text, 0)) else ([], 9) := by
  have h17 : opB (sbaOp e.addr) = if okAddr e.addr then (17 :: encM e.addr.toNat, 0) else ([], 9) := rfl
  have ht : opB (txtOp e.text) = if e.text = [] ∨ hasOrd e.text = true then ([], 10) else (e.text, 0) := rfl
  have hn : hasOrd [] = false := rfl
  by_cases h1 : okAddr e.addr
  · rw [if_pos h1] at h17 ⊢
    by_cases h2 : e.text = []
    · simp [entB, opsE, h2, seqB, h17, hn]
    · by_cases h3 : hasOrd e.text = true
      · rw [if_pos (.inr h3)] at ht
        simp [entB, opsE, h2, seqB, h17, ht, h3]
      · rw [if_neg (by simp [h2, h3])] at ht
        simp [entB, opsE, h2, seqB, h17, ht, h3]
  · rw [if_neg h1] at h17 ⊢
    simp [entB, opsE, seqB, h17]
theorem entB_true (e : En) (h : 0 < e.text.length) : entB true e = if hasOrd e.text = true then ([], 10) else (e.text, 0) := by
  have h2 : e.text ≠ [] := List.length_pos_iff.1 h
  have ht : opB (txtOp e.text) = if e.text = [] ∨ hasOrd e.text = true then ([], 10) else (e.text, 0) := rfl
  by_cases h3 : hasOrd e.text = true
  · rw [if_pos (.inr h3)] at ht
    simp [entB, opsE, h2, seqB, ht, h3]
  · rw [if_neg (by simp [h2, h3])] at ht
    simp [entB, opsE, h2, seqB, ht, h3]
end Go.Proofs.Ytkjcdnmjdanmpaa
/-
  A report's bytes, as the document has them.
-/
namespace Go.Proofs.Ytkjcdnmjdanmpaa
open Go Go.AL

/-- A report that may be written: not too long. -/
def small (r : Rp) : Prop := r.es.length ≤ 1000 ∧ ∀ e ∈ r.es, e.text.length ≤ 1000
def rpO (o : Bool) (r : Rp) : AV := .agg [byteA r.aid, .lit (.bool r.short), .lit (.int .i64 r.cursor), .list o 2 (ensA r.es)]
def outA (x : List UInt8 × Nat) : AV := .tuple [.list true 1 (bytesA x.1), .lit (.int .i64 x.2)]
end Go.Proofs.Ytkjcdnmjdanmpaa
/-
  The scanner of orders.
-/
namespace Go.Proofs.Ytkjcdnmjdanmpaa
open Go Go.AL
abbrev ptrA (o : Nat) : AV := .lit (.pointer (some ⟨o, 0, none⟩))
/-- What is left, and the first error. -/
def scA (o : Bool) (l : List UInt8) (e : Nat) : List AV := [.list o 1 (bytesA l), .lit (.int .i64 e)]
def failE (e c : Nat) : Nat := if e = 0 then c else e

set_option maxRecDepth 8000 in
theorem fail_calls (b : Nat) (o : Bool) (l : List UInt8) (e c : Nat) (σ : Store) (hb : σ b = some (scA o l e)) :
    ACalls Try.prog 44 [ptrA b, .lit (.int .i64 c)] σ fun v σ' => v = .tuple [] ∧ σ' = σ.upd b (scA o l (failE e c)) := by
  refine ACalls.of_awp follows (st := st44) (plans := pl44) (n := 13) Try.func44 rfl (by kernel_rfl) (by kernel_rfl) (by kernel_rfl) ?_
  unfold scA at hb
  by_cases h : e = 0
  · subst h
    simp [hb]
    exact sub_eq (by simp [scA, failE])
  · have h' : ¬ (e : Int) = 0 := by omega
    simp [hb, h]
    rw [failE, if_neg h]
    rw [upd_back (by rw [hb]; rfl)]; exact Store.sub_refl _

set_option maxRecDepth 8000 in
theorem take_ok (b : Nat) (o : Bool) (l : List UInt8) (e n : Nat) (σ : Store) (hb : σ b = some (scA o l e)) (hn : n ≤ l.length) (hl : l.length ≤ 1000000000) :
    ACalls Try.prog 32 [ptrA b, .lit (.int .i64 n)] σ fun v σ' => v = .list false 1 (bytesA (l.take n)) ∧ σ' = σ.upd b (scA false (l.drop n) e) := by
  refine ACalls.of_awp follows (st := st32) (plans := pl32) (n := 37) Try.func32 rfl (by kernel_rfl) (by kernel_rfl) (by kernel_rfl) ?_
  unfold scA at hb
  have h : ¬ (l.length : Int) < (n : Int) := by omega
  simp [hb, h, hn, bytesA_take, bytesA_drop]
  exact sub_eq rfl
set_option maxRecDepth 8000 in
theorem take_short1 (b : Nat) (o : Bool) (e : Nat) (σ : Store) (hb : σ b = some (scA o [] e)) :
    ACalls Try.prog 32 [ptrA b, .lit (.int .i64 1)] σ fun v σ' => v = .list false 1 (bytesA [0]) ∧ σ' = σ.upd b (scA true [] (failE e 2)) := by
  have hf := fail_calls b o [] e 2 σ hb
  refine ACalls.of_awp follows (st := st32) (plans := pl32) (n := 37) Try.func32 rfl (by kernel_rfl) (by kernel_rfl) (by kernel_rfl) ?_
  unfold scA at hb
  simp [hb, bytesA_nil]
  refine callK.of hf ?_
  rintro v σ' ⟨rfl, rfl⟩
  simp [scA, bytesA, byteA]
set_option maxRecDepth 8000 in
theorem take_short2 (b : Nat) (o : Bool) (l : List UInt8) (e : Nat) (σ : Store) (hb : σ b = some (scA o l e)) (hl : l.length < 2) :
    ACalls Try.prog 32 [ptrA b, .lit (.int .i64 2)] σ fun v σ' => v = .list false 1 (bytesA [0, 0]) ∧ σ' = σ.upd b (scA true [] (failE e 2)) := by
  have hf := fail_calls b o l e 2 σ hb
  have h : (l.length : Int) < 2 := by omega
  refine ACalls.of_awp follows (st := st32) (plans := pl32) (n := 37) Try.func32 rfl (by kernel_rfl) (by kernel_rfl) (by kernel_rfl) ?_
  unfold scA at hb
  simp [hb, h]
  refine callK.of hf ?_
  rintro v σ' ⟨rfl, rfl⟩
  simp [scA, bytesA, byteA]

set_option maxRecDepth 8000 in
set_option maxHeartbeats 1000000 in
theorem check_calls (t x : UInt8) (σ : Store) : ACalls Try.prog 45 [.agg [byteA t, byteA x]] σ fun v σ' => (∃ e : Nat, v = .lit (.int .i64 e)) ∧ σ' = σ := by
  refine ACalls.of_awp follows (st := st45) (plans := pl45) (n := 61) Try.func45 rfl (by kernel_rfl) (by kernel_rfl) (by kernel_rfl) ?_
  by_cases h1 : t.toNat = 0
  · simp [byteA, h1]
    (intro p hp; (repeat' split) <;> first | exact ⟨_, AV.le_refl _, sub_upd_self _ _ _ hp, 0, rfl⟩ | exact ⟨_, AV.le_refl _, sub_upd_self _ _ _ hp, 10, rfl⟩)
  by_cases h2 : (t.toNat : Int) = 192
  · simp [byteA, h2]
    (intro p hp; first | exact ⟨_, AV.le_refl _, sub_upd_self _ _ _ hp, 0, rfl⟩ | exact ⟨_, AV.le_refl _, sub_upd_self _ _ _ hp, 10, rfl⟩)
  by_cases h3 : (t.toNat : Int) = 65
  · have _ := h3
    by_cases x0 : x.toNat = 0
    · simp [byteA, h3, x0]
      (intro p hp; first | exact ⟨_, AV.le_refl _, sub_upd_self _ _ _ hp, 0, rfl⟩ | exact ⟨_, AV.le_refl _, sub_upd_self _ _ _ hp, 10, rfl⟩)
    by_cases x1 : (x.toNat : Int) = 240
    · simp [byteA, h3, x1]
      (intro p hp; first | exact ⟨_, AV.le_refl _, sub_upd_self _ _ _ hp, 0, rfl⟩ | exact ⟨_, AV.le_refl _, sub_upd_self _ _ _ hp, 10, rfl⟩)
    by_cases x2 : (x.toNat : Int) = 241
    · simp [byteA, h3, x2]
      (intro p hp; first | exact ⟨_, AV.le_refl _, sub_upd_self _ _ _ hp, 0, rfl⟩ | exact ⟨_, AV.le_refl _, sub_upd_self _ _ _ hp, 10, rfl⟩)
    by_cases x3 : (x.toNat : Int) = 242
    · simp [byteA, h3, x3]
      (intro p hp; first | exact ⟨_, AV.le_refl _, sub_upd_self _ _ _ hp, 0, rfl⟩ | exact ⟨_, AV.le_refl _, sub_upd_self _ _ _ hp, 10, rfl⟩)
    by_cases x4 : (x.toNat : Int) = 244
    · simp [byteA, h3, x4]
      (intro p hp; first | exact ⟨_, AV.le_refl _, sub_upd_self _ _ _ hp, 0, rfl⟩ | exact ⟨_, AV.le_refl _, sub_upd_self _ _ _ hp, 10, rfl⟩)
    by_cases x5 : (x.toNat : Int) = 248
    · simp [byteA, h3, x5]
      (intro p hp; first | exact ⟨_, AV.le_refl _, sub_upd_self _ _ _ hp, 0, rfl⟩ | exact ⟨_, AV.le_refl _, sub_upd_self _ _ _ hp, 10, rfl⟩)
    simp [byteA, h3, x0, x1, x2, x3, x4, x5]
    (intro p hp; first | exact ⟨_, AV.le_refl _, sub_upd_self _ _ _ hp, 0, rfl⟩ | exact ⟨_, AV.le_refl _, sub_upd_self _ _ _ hp, 10, rfl⟩)
  by_cases h4 : (t.toNat : Int) = 66
  · have _ := h4
    by_cases x0 : x.toNat = 0
    · simp [byteA, h4, x0]
      (intro p hp; first | exact ⟨_, AV.le_refl _, sub_upd_self _ _ _ hp, 0, rfl⟩ | exact ⟨_, AV.le_refl _, sub_upd_self _ _ _ hp, 10, rfl⟩)
    by_cases x1 : (x.toNat : Int) < 241
    · have y1 : ¬ (241 : Int) ≤ x.toNat := by omega
      simp [byteA, h4, x0, y1]
      (intro p hp; first | exact ⟨_, AV.le_refl _, sub_upd_self _ _ _ hp, 0, rfl⟩ | exact ⟨_, AV.le_refl _, sub_upd_self _ _ _ hp, 10, rfl⟩)
    by_cases x2 : 247 < (x.toNat : Int)
    · have y1 : (241 : Int) ≤ x.toNat := by omega
      have y2 : ¬ (x.toNat : Int) ≤ 247 := by omega
      simp [byteA, h4, x0, y1, y2]
      (intro p hp; first | exact ⟨_, AV.le_refl _, sub_upd_self _ _ _ hp, 0, rfl⟩ | exact ⟨_, AV.le_refl _, sub_upd_self _ _ _ hp, 10, rfl⟩)
    have y1 : (241 : Int) ≤ x.toNat := by omega
    have y2 : (x.toNat : Int) ≤ 247 := by omega
    simp [byteA, h4, x0, y1, y2]
    (intro p hp; first | exact ⟨_, AV.le_refl _, sub_upd_self _ _ _ hp, 0, rfl⟩ | exact ⟨_, AV.le_refl _, sub_upd_self _ _ _ hp, 10, rfl⟩)
  by_cases h5 : (t.toNat : Int) = 67
  · have _ := h5
    by_cases x0 : x.toNat = 0
    · simp [byteA, h5, x0]
      (intro p hp; first | exact ⟨_, AV.le_refl _, sub_upd_self _ _ _ hp, 0, rfl⟩ | exact ⟨_, AV.le_refl _, sub_upd_self _ _ _ hp, 10, rfl⟩)
    by_cases x1 : (x.toNat : Int) = 241
    · simp [byteA, h5, x1]
      (intro p hp; first | exact ⟨_, AV.le_refl _, sub_upd_self _ _ _ hp, 0, rfl⟩ | exact ⟨_, AV.le_refl _, sub_upd_self _ _ _ hp, 10, rfl⟩)
    simp [byteA, h5, x0, x1]
    (intro p hp; first | exact ⟨_, AV.le_refl _, sub_upd_self _ _ _ hp, 0, rfl⟩ | exact ⟨_, AV.le_refl _, sub_upd_self _ _ _ hp, 10, rfl⟩)
  simp [byteA, h1, h2, h3, h4, h5]
  (intro p hp; first | exact ⟨_, AV.le_refl _, sub_upd_self _ _ _ hp, 0, rfl⟩ | exact ⟨_, AV.le_refl _, sub_upd_self _ _ _ hp, 10, rfl⟩)
end Go.Proofs.Ytkjcdnmjdanmpaa
/-
  Pointers: as Scan has them.
-/
namespace Go.Proofs.Ytkjcdnmjdanmpaa
end Go.Proofs.Ytkjcdnmjdanmpaa
/-
  The document's signs and codes.
-/
namespace Go.Proofs.Ytkjcdnmjdanmpaa
open Go Go.AL

def digN (b : UInt8) : Nat := if 97 ≤ b.toNat then (b - 97).toNat + 10 else (b - 48).toNat
def numTo (s : ByteArray) : Nat → Nat
  | 0 => 0
  | k + 1 => 16 * numTo s k + digN (s.data[k]?.getD 0)
theorem digN_le (b : UInt8) : digN b ≤ 265 := all_bytes (p := fun b => digN b ≤ 265) (by decide +kernel) b
theorem numTo_le (s : ByteArray) (k : Nat) (h : k ≤ 4) : numTo s k ≤ 1200000 := by
  have hd := fun j : Nat => digN_le (s.data[j]?.getD 0)
  have h1 : numTo s 1 ≤ 265 := by have := hd 0; simp only [numTo]; omega
  have h2 : numTo s 2 ≤ 4505 := by have := hd 1; rw [numTo]; omega
  have h3 : numTo s 3 ≤ 72345 := by have := hd 2; rw [numTo]; omega
  have h4 : numTo s 4 ≤ 1157785 := by have := hd 3; rw [numTo]; omega
  rcases (by omega : k = 0 ∨ k = 1 ∨ k = 2 ∨ k = 3 ∨ k = 4) with rfl | rfl | rfl | rfl | rfl
  · simp [numTo]
  all_goals omega
theorem sub48 (b : UInt8) : IntKind.u8.wrap ((b.toNat : Int) - 48) = ((b - 48).toNat : Int) := all_bytes (p := fun b => IntKind.u8.wrap ((b.toNat : Int) - 48) = ((b - 48).toNat : Int)) (by decide +kernel) b
theorem sub97 (b : UInt8) : IntKind.u8.wrap ((b.toNat : Int) - 97) = ((b - 97).toNat : Int) := all_bytes (p := fun b => IntKind.u8.wrap ((b.toNat : Int) - 97) = ((b - 97).toNat : Int)) (by decide +kernel) b
set_option maxRecDepth 8000 in
theorem num_calls (s : ByteArray) (hs : s.size ≤ 4) (σ : Store) : ACalls Try.prog 16 [.lit (.string s)] σ fun v σ' => v = .lit (.int .i64 (numTo s s.size : Nat)) ∧ σ' = σ := by
  refine ACalls.of_awp follows (st := st16) (plans := pl16) (n := 32) Try.func16 rfl (by kernel_rfl) (by kernel_rfl) (by kernel_rfl) ?_
  simp
  refine codeK.loop follows (st := st16) (plans := pl16) (X := Nat) (fun k => k ≤ s.size)
    (fun k => [(0, .lit (.string s)), (3, .lit (.int .i64 (numTo s k : Nat))), (4, .lit (.int .i64 k))]) (fun _ => σ) (fun k => s.size - k) 0 (by kernel_rfl) (by simp) (by simp [numTo]) (Store.sub_refl _) fun k hk => ?_
  by_cases hlt : k < s.size
  · have hle := numTo_le s k (by omega)
    have hle2 := numTo_le s (k + 1) (by omega)
    have hk1 : IntKind.i64.wrap ((k : Int) + 1) = ((k + 1 : Nat) : Int) := wrap_i64 (by omega) (by omega)
    have hdl : k < s.data.size := hlt
    have hs2 : numTo s (k + 1) = 16 * numTo s k + digN s.data[k] := by rw [numTo, Array.getElem?_eq_getElem hdl]; rfl
    have hm : IntKind.i64.wrap (16 * (numTo s k : Int)) = ((16 * numTo s k : Nat) : Int) := wrap_i64 (by omega) (by omega)
    have hlt2 := (s.data[k]).toNat_lt
    simp [hlt]
    generalize s.data[k] = b at *
    have d1 := sub48 b
    have d2 := sub97 b
    have l1 := (b - 48).toNat_lt
    have l2 := (b - 97).toNat_lt
    unfold digN at hs2
    split
    · next h97 =>
      rw [if_pos (by omega)] at hs2
      have hw : IntKind.i64.wrap (IntKind.i64.wrap (16 * (numTo s k : Int)) + IntKind.i64.wrap (IntKind.i64.wrap (IntKind.u8.wrap ((b.toNat : Int) - 97)) + 10)) = (numTo s (k + 1) : Nat) := by
        rw [hm, d2, wrap_i64 (n := ((b - 97).toNat : Int)) (by omega) (by omega), wrap_i64 (n := ((b - 97).toNat : Int) + 10) (by omega) (by omega), wrap_i64 (by omega) (by omega), hs2]
        omega
      exact ⟨k + 1, by omega, by omega, by rw [hw]; exact AV.le_refl _, by rw [hk1]; exact AV.le_refl _⟩
    · next h97 =>
      rw [if_neg (by omega)] at hs2
      have hw : IntKind.i64.wrap (IntKind.i64.wrap (16 * (numTo s k : Int)) + IntKind.i64.wrap (IntKind.u8.wrap ((b.toNat : Int) - 48))) = (numTo s (k + 1) : Nat) := by
        rw [hm, d1, wrap_i64 (n := ((b - 48).toNat : Int)) (by omega) (by omega), wrap_i64 (by omega) (by omega), hs2]
        omega
      exact ⟨k + 1, by omega, by omega, by rw [hw]; exact AV.le_refl _, by rw [hk1]; exact AV.le_refl _⟩
  · obtain rfl : k = s.size := by omega
    simp [hlt]
end Go.Proofs.Ytkjcdnmjdanmpaa
/-
  The document's signs, as its strings say.
-/
namespace Go.Proofs.Ytkjcdnmjdanmpaa
open Go Go.AL

def rbase0 : List UInt8 := [48, 48, 48, 48, 48, 48, 48, 49, 48, 48, 48, 50, 48, 48, 48, 51, 48, 48, 57, 99, 48, 48, 48, 57, 48, 48, 56, 54, 48, 48, 55, 102, 48, 48, 57, 55, 48, 48, 56, 100, 48, 48, 56, 101, 48, 48, 48, 98, 48, 48, 48, 99, 48, 48, 48, 100, 48, 48, 48, 101, 48, 48, 48, 102]
def rbase1 : List UInt8 := [48, 48, 49, 48, 48, 48, 49, 49, 48, 48, 49, 50, 48, 48, 49, 51, 48, 48, 57, 100, 48, 48, 56, 53, 48, 48, 48, 56, 48, 48, 56, 55, 48, 48, 49, 56, 48, 48, 49, 57, 48, 48, 57, 50, 48, 48, 56, 102, 48, 48, 49, 99, 48, 48, 49, 100, 48, 48, 49, 101, 48, 48, 49, 102]
def rbase2 : List UInt8 := [48, 48, 56, 48, 48, 48, 56, 49, 48, 48, 56, 50, 48, 48, 56, 51, 48, 48, 56, 52, 48, 48, 48, 97, 48, 48, 49, 55, 48, 48, 49, 98, 48, 48, 56, 56, 48, 48, 56, 57, 48, 48, 56, 97, 48, 48, 56, 98, 48, 48, 56, 99, 48, 48, 48, 53, 48, 48, 48, 54, 48, 48, 48, 55]
def rbase3 : List UInt8 := [48, 48, 57, 48, 48, 48, 57, 49, 48, 48, 49, 54, 48, 48, 57, 51, 48, 48, 57, 52, 48, 48, 57, 53, 48, 48, 57, 54, 48, 48, 48, 52, 48, 48, 57, 56, 48, 48, 57, 57, 48, 48, 57, 97, 48, 48, 57, 98, 48, 48, 49, 52, 48, 48, 49, 53, 48, 48, 57, 101, 48, 48, 49, 97]
def rbase4 : List UInt8 := [48, 48, 50, 48, 48, 48, 97, 48, 48, 48, 101, 50, 48, 48, 101, 52, 48, 48, 101, 48, 48, 48, 101, 49, 48, 48, 101, 51, 48, 48, 101, 53, 48, 48, 101, 55, 48, 48, 102, 49, 48, 48, 97, 50, 48, 48, 50, 101, 48, 48, 51, 99, 48, 48, 50, 56, 48, 48, 50, 98, 48, 48, 55, 99]
def rbase5 : List UInt8 := [48, 48, 50, 54, 48, 48, 101, 57, 48, 48, 101, 97, 48, 48, 101, 98, 48, 48, 101, 56, 48, 48, 101, 100, 48, 48, 101, 101, 48, 48, 101, 102, 48, 48, 101, 99, 48, 48, 100, 102, 48, 48, 50, 49, 48, 48, 50, 52, 48, 48, 50, 97, 48, 48, 50, 57, 48, 48, 51, 98, 48, 48, 97, 99]
def rbase6 : List UInt8 := [48, 48, 50, 100, 48, 48, 50, 102, 48, 48, 99, 50, 48, 48, 99, 52, 48, 48, 99, 48, 48, 48, 99, 49, 48, 48, 99, 51, 48, 48, 99, 53, 48, 48, 99, 55, 48, 48, 100, 49, 48, 48, 97, 54, 48, 48, 50, 99, 48, 48, 50, 53, 48, 48, 53, 102, 48, 48, 51, 101, 48, 48, 51, 102]
def rbase7 : List UInt8 := [48, 48, 102, 56, 48, 48, 99, 57, 48, 48, 99, 97, 48, 48, 99, 98, 48, 48, 99, 56, 48, 48, 99, 100, 48, 48, 99, 101, 48, 48, 99, 102, 48, 48, 99, 99, 48, 48, 54, 48, 48, 48, 51, 97, 48, 48, 50, 51, 48, 48, 52, 48, 48, 48, 50, 55, 48, 48, 51, 100, 48, 48, 50, 50]
def rbase8 : List UInt8 := [48, 48, 100, 56, 48, 48, 54, 49, 48, 48, 54, 50, 48, 48, 54, 51, 48, 48, 54, 52, 48, 48, 54, 53, 48, 48, 54, 54, 48, 48, 54, 55, 48, 48, 54, 56, 48, 48, 54, 57, 48, 48, 97, 98, 48, 48, 98, 98, 48, 48, 102, 48, 48, 48, 102, 100, 48, 48, 102, 101, 48, 48, 98, 49]
def rbase9 : List UInt8 := [48, 48, 98, 48, 48, 48, 54, 97, 48, 48, 54, 98, 48, 48, 54, 99, 48, 48, 54, 100, 48, 48, 54, 101, 48, 48, 54, 102, 48, 48, 55, 48, 48, 48, 55, 49, 48, 48, 55, 50, 48, 48, 97, 97, 48, 48, 98, 97, 48, 48, 101, 54, 48, 48, 98, 56, 48, 48, 99, 54, 48, 48, 97, 52]
def rbase10 : List UInt8 := [48, 48, 98, 53, 48, 48, 55, 101, 48, 48, 55, 51, 48, 48, 55, 52, 48, 48, 55, 53, 48, 48, 55, 54, 48, 48, 55, 55, 48, 48, 55, 56, 48, 48, 55, 57, 48, 48, 55, 97, 48, 48, 97, 49, 48, 48, 98, 102, 48, 48, 100, 48, 48, 48, 100, 100, 48, 48, 100, 101, 48, 48, 97, 101]
def rbase11 : List UInt8 := [48, 48, 53, 101, 48, 48, 97, 51, 48, 48, 97, 53, 48, 48, 98, 55, 48, 48, 97, 57, 48, 48, 97, 55, 48, 48, 98, 54, 48, 48, 98, 99, 48, 48, 98, 100, 48, 48, 98, 101, 48, 48, 53, 98, 48, 48, 53, 100, 48, 48, 97, 102, 48, 48, 97, 56, 48, 48, 98, 52, 48, 48, 100, 55]
def rbase12 : List UInt8 := [48, 48, 55, 98, 48, 48, 52, 49, 48, 48, 52, 50, 48, 48, 52, 51, 48, 48, 52, 52, 48, 48, 52, 53, 48, 48, 52, 54, 48, 48, 52, 55, 48, 48, 52, 56, 48, 48, 52, 57, 48, 48, 97, 100, 48, 48, 102, 52, 48, 48, 102, 54, 48, 48, 102, 50, 48, 48, 102, 51, 48, 48, 102, 53]
def rbase13 : List UInt8 := [48, 48, 55, 100, 48, 48, 52, 97, 48, 48, 52, 98, 48, 48, 52, 99, 48, 48, 52, 100, 48, 48, 52, 101, 48, 48, 52, 102, 48, 48, 53, 48, 48, 48, 53, 49, 48, 48, 53, 50, 48, 48, 98, 57, 48, 48, 102, 98, 48, 48, 102, 99, 48, 48, 102, 57, 48, 48, 102, 97, 48, 48, 102, 102]
def rbase14 : List UInt8 := [48, 48, 53, 99, 48, 48, 102, 55, 48, 48, 53, 51, 48, 48, 53, 52, 48, 48, 53, 53, 48, 48, 53, 54, 48, 48, 53, 55, 48, 48, 53, 56, 48, 48, 53, 57, 48, 48, 53, 97, 48, 48, 98, 50, 48, 48, 100, 52, 48, 48, 100, 54, 48, 48, 100, 50, 48, 48, 100, 51, 48, 48, 100, 53]
def rbase15 : List UInt8 := [48, 48, 51, 48, 48, 48, 51, 49, 48, 48, 51, 50, 48, 48, 51, 51, 48, 48, 51, 52, 48, 48, 51, 53, 48, 48, 51, 54, 48, 48, 51, 55, 48, 48, 51, 56, 48, 48, 51, 57, 48, 48, 98, 51, 48, 48, 100, 98, 48, 48, 100, 99, 48, 48, 100, 57, 48, 48, 100, 97, 48, 48, 57, 102]
def rbaseL : List UInt8 := rbase0 ++ rbase1 ++ rbase2 ++ rbase3 ++ rbase4 ++ rbase5 ++ rbase6 ++ rbase7 ++ rbase8 ++ rbase9 ++ rbase10 ++ rbase11 ++ rbase12 ++ rbase13 ++ rbase14 ++ rbase15
def rothL37 : List UInt8 := []
def rothL273 : List UInt8 := [52, 51, 48, 48, 55, 98, 52, 97, 48, 48, 99, 52, 52, 102, 48, 48, 50, 49, 53, 57, 48, 48, 55, 101, 53, 97, 48, 48, 100, 99, 53, 102, 48, 48, 53, 101, 54, 51, 48, 48, 53, 98, 54, 97, 48, 48, 102, 54, 55, 99, 48, 48, 97, 55, 97, 49, 48, 48, 100, 102, 98, 48, 48, 48, 97, 50, 98, 53, 48, 48, 52, 48, 98, 97, 48, 48, 97, 99, 98, 98, 48, 48, 55, 99, 99, 48, 48, 48, 101, 52, 99, 99, 48, 48, 97, 54, 100, 48, 48, 48, 102, 99, 100, 99, 48, 48, 55, 100, 101, 48, 48, 48, 100, 54, 101, 99, 48, 48, 53, 99, 102, 99, 48, 48, 53, 100]
def rothL297 : List UInt8 := [52, 52, 48, 48, 52, 48, 52, 56, 48, 48, 53, 99, 52, 97, 48, 48, 98, 48, 52, 102, 48, 48, 50, 49, 53, 49, 48, 48, 55, 98, 53, 52, 48, 48, 55, 100, 53, 97, 48, 48, 97, 55, 53, 102, 48, 48, 53, 101, 54, 97, 48, 48, 102, 57, 55, 57, 48, 48, 98, 53, 55, 98, 48, 48, 97, 51, 55, 99, 48, 48, 101, 48, 57, 48, 48, 48, 53, 98, 97, 48, 48, 48, 54, 48, 97, 49, 48, 48, 97, 56, 98, 48, 48, 48, 97, 50, 98, 49, 48, 48, 50, 51, 98, 53, 48, 48, 53, 100, 98, 97, 48, 48, 97, 99, 98, 98, 48, 48, 55, 99, 98, 100, 48, 48, 55, 101, 99, 48, 48, 48, 101, 57, 100, 48, 48, 48, 101, 56, 100, 100, 48, 48, 97, 54, 101, 48, 48, 48, 101, 55]
def rothL500 : List UInt8 := [52, 97, 48, 48, 53, 98, 52, 102, 48, 48, 50, 49, 53, 97, 48, 48, 53, 100, 53, 102, 48, 48, 53, 101, 98, 48, 48, 48, 97, 50, 98, 97, 48, 48, 97, 99, 98, 98, 48, 48, 55, 99]
def rothL1047 : List UInt8 := [53, 102, 48, 48, 53, 101, 97, 100, 48, 48, 53, 98, 98, 48, 48, 48, 97, 99, 98, 97, 48, 48, 100, 100, 98, 98, 48, 48, 97, 56, 98, 100, 48, 48, 53, 100]
def rothL1140 : List UInt8 := [57, 102, 50, 48, 97, 99]
def rothL (n : Int) : List UInt8 := if n = 37 then rothL37 else if n = 273 then rothL273 else if n = 297 then rothL297 else if n = 500 then rothL500 else if n = 1047 then rothL1047 else if n = 1140 then rothL1140 else rothL37
def toB (L : List UInt8) : ByteArray := ⟨L.toArray⟩
theorem toB_size (L : List UInt8) : (toB L).size = L.length := by simp [toB, ByteArray.size]
set_option maxRecDepth 8000 in
theorem roth_calls (n : Int) (hn : isPage n) (σ : Store) : ACalls Try.prog 15 [.lit (.int .i64 n)] σ fun v σ' => v = .tuple [.lit (.string (toB (rothL n))), .lit (.bool true)] ∧ σ' = σ := by
  refine ACalls.of_awp follows (st := st15) (plans := pl15) (n := 17) Try.func15 rfl (by kernel_rfl) (by kernel_rfl) (by kernel_rfl) ?_
  have key : ∀ a b : ByteArray, a = b → AV.le (.tuple [.lit (.string a), .lit (.bool true)]) (.tuple [.lit (.string b), .lit (.bool true)]) := by
    rintro a _ rfl; exact AV.le_refl _
  obtain ⟨S, hS⟩ : ∃ S, S = toB (rothL n) := ⟨_, rfl⟩
  rw [← hS]
  rcases hn with rfl | rfl | rfl | rfl | rfl | rfl <;> (simp; exact key _ _ (Eq.trans (by kernel_rfl) hS.symm))
def numL (L : List UInt8) : Nat := L.foldl (fun a b => 16 * a + digN b) 0
def numS (s : ByteArray) : Nat := numTo s s.size
theorem numTo_list (s : ByteArray) : ∀ k, k ≤ s.size → numTo s k = numL (s.data.toList.take k)
  | 0, _ => rfl
  | k + 1, h => by
    have hk : k < s.data.toList.length := by rw [Array.length_toList]; exact h
    rw [numTo, numTo_list s k (by omega), List.take_succ_eq_append_getElem hk]
    unfold numL
    rw [List.foldl_append]
    have : s.data[k]?.getD 0 = s.data.toList[k] := by
      rw [Array.getElem?_eq_getElem (by simpa using hk)]; rfl
    rw [this]; rfl
theorem numS_part (L : List UInt8) (i m : Nat) (h : i + m ≤ L.length) : ((toB L).extract i (i + m)).size = m ∧ numS ((toB L).extract i (i + m)) = numL ((L.drop i).take m) := by
  have hd : ((toB L).extract i (i + m)).data.toList = (L.drop i).take m := by
    simp [toB, ByteArray.data_extract]
  have hs : ((toB L).extract i (i + m)).size = m := by
    have : ((toB L).extract i (i + m)).data.toList.length = m := by rw [hd]; simp; omega
    rw [Array.length_toList] at this; exact this
  refine ⟨hs, ?_⟩
  unfold numS
  rw [numTo_list _ _ (Nat.le_refl _), hd, hs, List.take_take]
  simp
def hex4 : List UInt8 → List Nat
  | a :: b :: c :: d :: r => numL [a, b, c, d] :: hex4 r
  | _ => []
theorem hex_base : hex4 rbaseL = baseL := by decide +kernel
theorem hex4_at : ∀ (c : Nat) (L : List UInt8), 4 * c + 4 ≤ L.length → (hex4 L)[c]? = some (numL ((L.drop (4 * c)).take 4))
  | 0, a :: b :: c :: d :: r, _ => rfl
  | i + 1, a :: b :: c :: d :: r, h => by
    have := hex4_at i r (by simp at h; omega)
    rw [hex4, List.getElem?_cons_succ, this, show 4 * (i + 1) = 4 * i + 4 from by omega]
    rfl
  | _, [], h => by simp at h
  | _, [_], h => by simp at h
  | _, [_, _], h => by simp at h
  | _, [_, _, _], h => by simp at h
def hex6 : List UInt8 → List (Nat × Nat)
  | a :: b :: c :: d :: e :: f :: r => (numL [a, b], numL [c, d, e, f]) :: hex6 r
  | _ => []
theorem hex_oth {n : Int} (hn : isPage n) : hex6 (rothL n) = othersF n ∧ (rothL n).length = 6 * (othersF n).length ∧ (othersF n).length ≤ 50 := by
  rcases hn with rfl | rfl | rfl | rfl | rfl | rfl <;> decide +kernel
theorem hex6_at : ∀ (c : Nat) (L : List UInt8), 6 * c + 6 ≤ L.length → (hex6 L)[c]? = some (numL ((L.drop (6 * c)).take 2), numL ((L.drop (6 * c + 2)).take 4))
  | 0, a :: b :: c :: d :: e :: f :: r, _ => rfl
  | i + 1, a :: b :: c :: d :: e :: f :: r, h => by
    have := hex6_at i r (by simp at h; omega)
    rw [hex6, List.getElem?_cons_succ, this, show 6 * (i + 1) = 6 * i + 6 from by omega, show 6 * i + 6 + 2 = 6 * i + 2 + 6 from by omega]
    rfl
  | _, [], h => by simp at h
  | _, [_], h => by simp at h
  | _, [_, _], h => by simp at h
  | _, [_, _, _], h => by simp at h
  | _, [_, _, _, _], h => by simp at h
  | _, [_, _, _, _, _], h => by simp at h
/-- The sign of a code. -/
def rsign (n : Int) (c : Nat) : Nat := (((othersF n).find? (fun o => o.1 == c)).map (·.2)).getD (baseL.getD c 0)
theorem rsign_all {n : Int} (hn : isPage n) : (List.range 256).map (rsign n) = signsF n := by
  rcases hn with rfl | rfl | rfl | rfl | rfl | rfl <;> decide +kernel
theorem rsign_eq {n : Int} (hn : isPage n) {c : Nat} (hc : c < 256) : rsign n c = sgF n c := by
  have := congrArg (fun l => l.getD c 0) (rsign_all hn)
  simp only [List.getD_eq_getElem?_getD, List.getElem?_map, List.getElem?_range hc] at this
  unfold sgF
  rw [List.getD_eq_getElem?_getD, ← this]
  rfl
end Go.Proofs.Ytkjcdnmjdanmpaa
