/-
  One order, out of the scanner.
-/
import Derived.Test.YtkbokmokklbahaaPart8
namespace Go.Proofs.Ytkbokmokklbahaa
open Go Go.AL

def wfOp (l l' : List UInt8) (op : Op) : Prop := (op.kind = 0 → op.text ≠ [] ∧ hasOrd op.text = false) ∧ (op.kind = 8 → isOrd op.code = false) ∧ op.text.length + l'.length ≤ l.length
/-- One order was read: what is left, and the error. -/
structure Step (l : List UInt8) (op : Op) (l' : List UInt8) (e : Nat) : Prop where
  len : l'.length < l.length
  wf : e = 0 → wfOp l l' op
  text : ∀ c tl, l = c :: tl → isOrd c = false → op = txtOp (untilO l) ∧ l' = fromO l ∧ e = 0
  sba : ∀ x y tl, l = 17 :: x :: y :: tl → op = sbaOp (decM x y).1 ∧ l' = tl ∧ e = (decM x y).2
def OpR (b : Nat) (l : List UInt8) (σ : Store) (v : AV) (σ' : Store) : Prop := ∃ op o' l' e, v = opA op ∧ σ' = σ.upd b (scA o' l' e) ∧ Step l op l' e

theorem step_text (c : UInt8) (tl : List UInt8) (h : isOrd c = false) : Step (c :: tl) (txtOp (untilO (c :: tl))) (fromO (c :: tl)) 0 := by
  have hu : untilO (c :: tl) = c :: untilO tl := by simp [untilO, h]
  have hf : fromO (c :: tl) = fromO tl := by simp [fromO, h]
  have hl : (fromO tl).length ≤ tl.length := (List.dropWhile_sublist _).length_le
  refine ⟨by rw [hf]; simp; omega, fun _ => ⟨fun _ => ⟨by simp [txtOp, hu], ?_⟩, fun hk => absurd hk (by simp [txtOp]), ?_⟩, fun c' tl' he ho => ⟨rfl, rfl, rfl⟩, fun x y tl' he => ?_⟩
  · simp only [txtOp]
    rw [hasOrd, List.any_eq_false]
    intro x hx
    have := List.all_takeWhile (p := fun c => !isOrd c) (l := c :: tl)
    rw [List.all_eq_true] at this
    have := this x hx
    simpa using this
  · simp only [txtOp]
    have := congrArg List.length (List.takeWhile_append_dropWhile (p := fun c => !isOrd c) (l := c :: tl))
    rw [List.length_append] at this
    exact Nat.le_of_eq this
  · obtain ⟨rfl, _⟩ := List.cons.inj he
    exact absurd h (by decide)

set_option maxRecDepth 4000 in
theorem op_text (b : Nat) (o : Bool) (c : UInt8) (tl : List UInt8) (σ : Store) (hb : σ b = some (scA o (c :: tl) 0)) (hl : (c :: tl).length ≤ 1000000) (hc : isOrd c = false) : ACalls Try.prog 27 [ptrA b] σ (OpR b (c :: tl) σ) := by
  have his := is_calls c
  have htx := text_calls b o (c :: tl) 0
  rw [hc] at his
  have hb' := hb
  have g0 : (bytesA (c :: tl))[0]? = some (byteA c) := rfl
  have gl0 : 0 < (bytesA (c :: tl)).length := by simp
  have e0 := (List.getElem_eq_iff gl0).2 g0
  unfold scA at hb
  have hst := step_text c tl hc
  generalize c :: tl = l at *
  refine ACalls.of_awp follows (st := st27) (plans := pl27) (n := 79) Try.func27 rfl (by kernel_rfl) (by kernel_rfl) (by kernel_rfl) ?_
  simp
  intro q hq
  have hqb : b ≠ q := fun h => by subst h; rw [hb] at hq; cases hq
  simp at gl0
  simp [hb, hqb, Ne.symm hqb, gl0, e0]
  refine callK.of (his _) ?_
  rintro v σ' ⟨rfl, rfl⟩
  simp
  refine callK.of (htx _ (by simp [hqb, hb']) hl) ?_
  rintro v σ' ⟨rfl, rfl⟩
  simp [hqb, Ne.symm hqb]
  refine ⟨opA (txtOp (untilO l)), ?_, σ.upd b (scA false (fromO l) 0), ?_, _, _, _, _, rfl, rfl, hst⟩
  · simp [opA, opC, txtOp, byteA, pairsA]
  · (intro q; simp only [Store.upd, Store.del]; (repeat' split) <;> simp_all)

theorem step_other {c : UInt8} {tl : List UInt8} {op : Op} {l' : List UInt8} {e : Nat} (hc : isOrd c = true) (h17 : c.toNat ≠ 17) (hl : l'.length ≤ tl.length) (hk : e = 0 → op.kind ≠ 0 ∧ (op.kind = 8 → isOrd op.code = false) ∧ op.text = []) : Step (c :: tl) op l' e := by
  refine ⟨by simp; omega, fun h => ?_, fun c' tl' he ho => ?_, fun x y tl' he => ?_⟩
  · obtain ⟨h1, h2, h3⟩ := hk h
    exact ⟨fun h => absurd h h1, h2, by rw [h3]; simp; omega⟩
  · obtain ⟨rfl, _⟩ := List.cons.inj he
    rw [hc] at ho; cases ho
  · obtain ⟨rfl, _⟩ := List.cons.inj he
    exact absurd rfl h17

/-- An address was taken. -/
def AddrR (b : Nat) (l : List UInt8) (σ : Store) (v : AV) (σ' : Store) : Prop :=
  ∃ (n : Int) (o' : Bool) (l' : List UInt8) (e : Nat), v = .lit (.int .i64 n) ∧ σ' = σ.upd b (scA o' l' e) ∧ l'.length ≤ l.length ∧ (∀ x y tl, l = x :: y :: tl → n = (decM x y).1 ∧ l' = tl ∧ e = (decM x y).2)
theorem addr_calls (b : Nat) (o : Bool) (l : List UInt8) (σ : Store) (hb : σ b = some (scA o l 0)) (hl : l.length ≤ 1000000) : ACalls Try.prog 40 [ptrA b] σ (AddrR b l σ) := by
  by_cases hl2 : l.length < 2
  · refine (addr_short b o l σ hb hl2).mono ?_
    rintro v σ' ⟨rfl, rfl⟩
    exact ⟨0, _, _, _, rfl, rfl, by simp, fun x y tl h => by subst h; simp at hl2; omega⟩
  · obtain ⟨x, y, tl, rfl⟩ : ∃ x y tl, l = x :: y :: tl := by
      rcases l with _ | ⟨x, _ | ⟨y, tl⟩⟩
      · simp at hl2
      · simp at hl2
      · exact ⟨x, y, tl, rfl⟩
    refine (addr_two b o x y tl σ hb (by simp at hl; omega)).mono ?_
    rintro v σ' ⟨rfl, rfl⟩
    exact ⟨_, _, _, _, rfl, rfl, by simp; omega, fun x' y' tl' h => by cases h; exact ⟨rfl, rfl, rfl⟩⟩
theorem step_sba {tl l' : List UInt8} {n : Int} {e : Nat} (h1 : l'.length ≤ tl.length) (h2 : ∀ x y t, tl = x :: y :: t → n = (decM x y).1 ∧ l' = t ∧ e = (decM x y).2) : Step (17 :: tl) { kind := 17, addr := n } l' e := by
  refine ⟨by simp; omega, fun _ => ⟨fun h => absurd h (by simp), fun h => absurd h (by simp), by simp; omega⟩, fun c t he ho => ?_, fun x y t he => ?_⟩
  · obtain ⟨rfl, _⟩ := List.cons.inj he
    exact absurd ho (by decide)
  · obtain ⟨_, he⟩ := List.cons.inj he
    obtain ⟨rfl, rfl, rfl⟩ := h2 x y t he
    exact ⟨rfl, rfl, rfl⟩
set_option maxRecDepth 4000 in
theorem op_5 (b : Nat) (o : Bool) (tl : List UInt8) (σ : Store) (hb : σ b = some (scA o (5 :: tl) 0)) (hl : (5 :: tl : List UInt8).length ≤ 1000000) : ACalls Try.prog 27 [ptrA b] σ (OpR b (5 :: tl) σ) := by
  have ho : isOrd 5 = true := by decide
  have his := is_calls 5
  have htk := take_ok b o (5 :: tl) 0 1
  have e1 : bytesA ((5 :: tl : List UInt8).take 1) = [.lit (.int .u8 5)] := rfl
  have e2 : (5 :: tl : List UInt8).drop 1 = tl := rfl
  have e3 : byteA 5 = .lit (.int .u8 5) := rfl
  have hw : IntKind.i64.wrap 5 = 5 := by decide
  rw [e1, e2] at htk
  rw [ho, e3] at his
  have hb' := hb
  have g0 : (bytesA (5 :: tl))[0]? = some (.lit (.int .u8 5)) := rfl
  have gl0 : 0 < (bytesA (5 :: tl)).length := by simp
  have e0 := (List.getElem_eq_iff gl0).2 g0
  unfold scA at hb
  have hlen : 1 ≤ (5 :: tl : List UInt8).length := by simp
  have htl : tl.length ≤ 1000000 := by simp at hl; omega
  have hst : Step (5 :: tl) { kind := 5 } tl 0 := step_other ho (by decide) (Nat.le_refl _) fun _ => ⟨by simp, fun h => absurd h (by simp), rfl⟩
  generalize hL : (5 :: tl : List UInt8) = l at *
  refine ACalls.of_awp follows (st := st27) (plans := pl27) (n := 79) Try.func27 rfl (by kernel_rfl) (by kernel_rfl) (by kernel_rfl) ?_
  simp
  intro q hq
  have hqb : b ≠ q := fun h => by subst h; rw [hb] at hq; cases hq
  simp at gl0
  simp [hb, hqb, Ne.symm hqb, gl0, e0]
  refine callK.of (his _) ?_
  rintro v σ' ⟨rfl, rfl⟩
  simp
  refine callK.of (htk _ (by simp [hqb, hb']) hlen (by omega)) ?_
  rintro v σ' ⟨rfl, rfl⟩
  simp [hqb, Ne.symm hqb, hw]
  intro r hr
  simp only [ite_none] at hr
  obtain ⟨hrb, hrq, hr0⟩ := hr
  simp [hqb, Ne.symm hqb, hrb, Ne.symm hrb, hrq, Ne.symm hrq]
  refine ⟨opA { kind := 5 }, ?_, σ.upd b (scA false tl 0), ?_, _, _, _, _, rfl, rfl, hst⟩
  · simp [opA, opC, byteA, pairsA, bytesA_nil]
  · (intro q; simp only [Store.upd, Store.del]; (repeat' split) <;> simp_all)
set_option maxRecDepth 4000 in
theorem op_19 (b : Nat) (o : Bool) (tl : List UInt8) (σ : Store) (hb : σ b = some (scA o (19 :: tl) 0)) (hl : (19 :: tl : List UInt8).length ≤ 1000000) : ACalls Try.prog 27 [ptrA b] σ (OpR b (19 :: tl) σ) := by
  have ho : isOrd 19 = true := by decide
  have his := is_calls 19
  have htk := take_ok b o (19 :: tl) 0 1
  have e1 : bytesA ((19 :: tl : List UInt8).take 1) = [.lit (.int .u8 19)] := rfl
  have e2 : (19 :: tl : List UInt8).drop 1 = tl := rfl
  have e3 : byteA 19 = .lit (.int .u8 19) := rfl
  have hw : IntKind.i64.wrap 19 = 19 := by decide
  rw [e1, e2] at htk
  rw [ho, e3] at his
  have hb' := hb
  have g0 : (bytesA (19 :: tl))[0]? = some (.lit (.int .u8 19)) := rfl
  have gl0 : 0 < (bytesA (19 :: tl)).length := by simp
  have e0 := (List.getElem_eq_iff gl0).2 g0
  unfold scA at hb
  have hlen : 1 ≤ (19 :: tl : List UInt8).length := by simp
  have htl : tl.length ≤ 1000000 := by simp at hl; omega
  have hst : Step (19 :: tl) { kind := 19 } tl 0 := step_other ho (by decide) (Nat.le_refl _) fun _ => ⟨by simp, fun h => absurd h (by simp), rfl⟩
  generalize hL : (19 :: tl : List UInt8) = l at *
  refine ACalls.of_awp follows (st := st27) (plans := pl27) (n := 79) Try.func27 rfl (by kernel_rfl) (by kernel_rfl) (by kernel_rfl) ?_
  simp
  intro q hq
  have hqb : b ≠ q := fun h => by subst h; rw [hb] at hq; cases hq
  simp at gl0
  simp [hb, hqb, Ne.symm hqb, gl0, e0]
  refine callK.of (his _) ?_
  rintro v σ' ⟨rfl, rfl⟩
  simp
  refine callK.of (htk _ (by simp [hqb, hb']) hlen (by omega)) ?_
  rintro v σ' ⟨rfl, rfl⟩
  simp [hqb, Ne.symm hqb, hw]
  intro r hr
  simp only [ite_none] at hr
  obtain ⟨hrb, hrq, hr0⟩ := hr
  simp [hqb, Ne.symm hqb, hrb, Ne.symm hrb, hrq, Ne.symm hrq]
  refine ⟨opA { kind := 19 }, ?_, σ.upd b (scA false tl 0), ?_, _, _, _, _, rfl, rfl, hst⟩
  · simp [opA, opC, byteA, pairsA, bytesA_nil]
  · (intro q; simp only [Store.upd, Store.del]; (repeat' split) <;> simp_all)
set_option maxRecDepth 4000 in
theorem op_8 (b : Nat) (o : Bool) (tl : List UInt8) (σ : Store) (hb : σ b = some (scA o (8 :: tl) 0)) (hl : (8 :: tl : List UInt8).length ≤ 1000000) : ACalls Try.prog 27 [ptrA b] σ (OpR b (8 :: tl) σ) := by
  have ho : isOrd 8 = true := by decide
  have his := is_calls 8
  have htk := take_ok b o (8 :: tl) 0 1
  have e1 : bytesA ((8 :: tl : List UInt8).take 1) = [.lit (.int .u8 8)] := rfl
  have e2 : (8 :: tl : List UInt8).drop 1 = tl := rfl
  have e3 : byteA 8 = .lit (.int .u8 8) := rfl
  have hw : IntKind.i64.wrap 8 = 8 := by decide
  rw [e1, e2] at htk
  rw [ho, e3] at his
  have hb' := hb
  have g0 : (bytesA (8 :: tl))[0]? = some (.lit (.int .u8 8)) := rfl
  have gl0 : 0 < (bytesA (8 :: tl)).length := by simp
  have e0 := (List.getElem_eq_iff gl0).2 g0
  unfold scA at hb
  have hlen : 1 ≤ (8 :: tl : List UInt8).length := by simp
  have htl : tl.length ≤ 1000000 := by simp at hl; omega
  have hch := char_calls b false tl 0
  generalize hL : (8 :: tl : List UInt8) = l at *
  refine ACalls.of_awp follows (st := st27) (plans := pl27) (n := 79) Try.func27 rfl (by kernel_rfl) (by kernel_rfl) (by kernel_rfl) ?_
  simp
  intro q hq
  have hqb : b ≠ q := fun h => by subst h; rw [hb] at hq; cases hq
  simp at gl0
  simp [hb, hqb, Ne.symm hqb, gl0, e0]
  refine callK.of (his _) ?_
  rintro v σ' ⟨rfl, rfl⟩
  simp
  refine callK.of (htk _ (by simp [hqb, hb']) hlen (by omega)) ?_
  rintro v σ' ⟨rfl, rfl⟩
  simp [hqb, Ne.symm hqb, hw]
  intro r hr
  simp only [ite_none] at hr
  obtain ⟨hrb, hrq, hr0⟩ := hr
  refine callK.of (hch _ (by simp [hqb, Ne.symm hqb, hrb, Ne.symm hrb]) htl) ?_
  rintro v σ' ⟨c, o', l', e, rfl, rfl, h1, h2, h3⟩
  simp [hqb, Ne.symm hqb, hrb, Ne.symm hrb, hrq, Ne.symm hrq]
  refine ⟨opA { kind := 8, code := c }, ?_, σ.upd b (scA o' l' e), ?_, _, _, _, _, rfl, rfl, ?_⟩
  · simp [opA, opC, byteA, pairsA, bytesA_nil]
  · (intro q; simp only [Store.upd, Store.del]; (repeat' split) <;> simp_all)
  · rw [← hL]
    exact step_other ho (by decide) h1 fun h => ⟨by simp, fun _ => h3 h, rfl⟩
set_option maxRecDepth 4000 in
theorem op_40 (b : Nat) (o : Bool) (tl : List UInt8) (σ : Store) (hb : σ b = some (scA o (40 :: tl) 0)) (hl : (40 :: tl : List UInt8).length ≤ 1000000) : ACalls Try.prog 27 [ptrA b] σ (OpR b (40 :: tl) σ) := by
  have ho : isOrd 40 = true := by decide
  have his := is_calls 40
  have htk := take_ok b o (40 :: tl) 0 1
  have e1 : bytesA ((40 :: tl : List UInt8).take 1) = [.lit (.int .u8 40)] := rfl
  have e2 : (40 :: tl : List UInt8).drop 1 = tl := rfl
  have e3 : byteA 40 = .lit (.int .u8 40) := rfl
  have hw : IntKind.i64.wrap 40 = 40 := by decide
  rw [e1, e2] at htk
  rw [ho, e3] at his
  have hb' := hb
  have g0 : (bytesA (40 :: tl))[0]? = some (.lit (.int .u8 40)) := rfl
  have gl0 : 0 < (bytesA (40 :: tl)).length := by simp
  have e0 := (List.getElem_eq_iff gl0).2 g0
  unfold scA at hb
  have hlen : 1 ≤ (40 :: tl : List UInt8).length := by simp
  have htl : tl.length ≤ 1000000 := by simp at hl; omega
  have hch := pair_calls b false tl 0
  generalize hL : (40 :: tl : List UInt8) = l at *
  refine ACalls.of_awp follows (st := st27) (plans := pl27) (n := 79) Try.func27 rfl (by kernel_rfl) (by kernel_rfl) (by kernel_rfl) ?_
  simp
  intro q hq
  have hqb : b ≠ q := fun h => by subst h; rw [hb] at hq; cases hq
  simp at gl0
  simp [hb, hqb, Ne.symm hqb, gl0, e0]
  refine callK.of (his _) ?_
  rintro v σ' ⟨rfl, rfl⟩
  simp
  refine callK.of (htk _ (by simp [hqb, hb']) hlen (by omega)) ?_
  rintro v σ' ⟨rfl, rfl⟩
  simp [hqb, Ne.symm hqb, hw]
  intro r hr
  simp only [ite_none] at hr
  obtain ⟨hrb, hrq, hr0⟩ := hr
  refine callK.of (hch _ (by simp [hqb, Ne.symm hqb, hrb, Ne.symm hrb]) htl) ?_
  rintro v σ' ⟨ow, ps, o', l', e, rfl, rfl, h1, h2⟩
  simp [hqb, Ne.symm hqb, hrb, Ne.symm hrb, hrq, Ne.symm hrq]
  refine ⟨opA { kind := 40, pairs := ps }, ?_, σ.upd b (scA o' l' e), ?_, _, _, _, _, rfl, rfl, ?_⟩
  · simp [opA, opC, byteA, pairsA, bytesA_nil]
  · (intro q; simp only [Store.upd, Store.del]; (repeat' split) <;> simp_all)
  · rw [← hL]
    exact step_other ho (by decide) h1 fun h => ⟨by simp, fun h => absurd h (by simp), rfl⟩
set_option maxRecDepth 4000 in
theorem op_41 (b : Nat) (o : Bool) (tl : List UInt8) (σ : Store) (hb : σ b = some (scA o (41 :: tl) 0)) (hl : (41 :: tl : List UInt8).length ≤ 1000000) : ACalls Try.prog 27 [ptrA b] σ (OpR b (41 :: tl) σ) := by
  have ho : isOrd 41 = true := by decide
  have his := is_calls 41
  have htk := take_ok b o (41 :: tl) 0 1
  have e1 : bytesA ((41 :: tl : List UInt8).take 1) = [.lit (.int .u8 41)] := rfl
  have e2 : (41 :: tl : List UInt8).drop 1 = tl := rfl
  have e3 : byteA 41 = .lit (.int .u8 41) := rfl
  have hw : IntKind.i64.wrap 41 = 41 := by decide
  rw [e1, e2] at htk
  rw [ho, e3] at his
  have hb' := hb
  have g0 : (bytesA (41 :: tl))[0]? = some (.lit (.int .u8 41)) := rfl
  have gl0 : 0 < (bytesA (41 :: tl)).length := by simp
  have e0 := (List.getElem_eq_iff gl0).2 g0
  unfold scA at hb
  have hlen : 1 ≤ (41 :: tl : List UInt8).length := by simp
  have htl : tl.length ≤ 1000000 := by simp at hl; omega
  have hch := pairs_calls b false tl 0
  generalize hL : (41 :: tl : List UInt8) = l at *
  refine ACalls.of_awp follows (st := st27) (plans := pl27) (n := 79) Try.func27 rfl (by kernel_rfl) (by kernel_rfl) (by kernel_rfl) ?_
  simp
  intro q hq
  have hqb : b ≠ q := fun h => by subst h; rw [hb] at hq; cases hq
  simp at gl0
  simp [hb, hqb, Ne.symm hqb, gl0, e0]
  refine callK.of (his _) ?_
  rintro v σ' ⟨rfl, rfl⟩
  simp
  refine callK.of (htk _ (by simp [hqb, hb']) hlen (by omega)) ?_
  rintro v σ' ⟨rfl, rfl⟩
  simp [hqb, Ne.symm hqb, hw]
  intro r hr
  simp only [ite_none] at hr
  obtain ⟨hrb, hrq, hr0⟩ := hr
  refine callK.of (hch _ (by simp [hqb, Ne.symm hqb, hrb, Ne.symm hrb]) htl) ?_
  rintro v σ' ⟨ow, ps, o', l', e, rfl, rfl, h1, h2⟩
  simp [hqb, Ne.symm hqb, hrb, Ne.symm hrb, hrq, Ne.symm hrq]
  refine ⟨opA { kind := 41, pairs := ps }, ?_, σ.upd b (scA o' l' e), ?_, _, _, _, _, rfl, rfl, ?_⟩
  · simp [opA, opC, byteA, pairsA, bytesA_nil]
  · (intro q; simp only [Store.upd, Store.del]; (repeat' split) <;> simp_all)
  · rw [← hL]
    exact step_other ho (by decide) h1 fun h => ⟨by simp, fun h => absurd h (by simp), rfl⟩
set_option maxRecDepth 4000 in
theorem op_44 (b : Nat) (o : Bool) (tl : List UInt8) (σ : Store) (hb : σ b = some (scA o (44 :: tl) 0)) (hl : (44 :: tl : List UInt8).length ≤ 1000000) : ACalls Try.prog 27 [ptrA b] σ (OpR b (44 :: tl) σ) := by
  have ho : isOrd 44 = true := by decide
  have his := is_calls 44
  have htk := take_ok b o (44 :: tl) 0 1
  have e1 : bytesA ((44 :: tl : List UInt8).take 1) = [.lit (.int .u8 44)] := rfl
  have e2 : (44 :: tl : List UInt8).drop 1 = tl := rfl
  have e3 : byteA 44 = .lit (.int .u8 44) := rfl
  have hw : IntKind.i64.wrap 44 = 44 := by decide
  rw [e1, e2] at htk
  rw [ho, e3] at his
  have hb' := hb
  have g0 : (bytesA (44 :: tl))[0]? = some (.lit (.int .u8 44)) := rfl
  have gl0 : 0 < (bytesA (44 :: tl)).length := by simp
  have e0 := (List.getElem_eq_iff gl0).2 g0
  unfold scA at hb
  have hlen : 1 ≤ (44 :: tl : List UInt8).length := by simp
  have htl : tl.length ≤ 1000000 := by simp at hl; omega
  have hch := pairs_calls b false tl 0
  generalize hL : (44 :: tl : List UInt8) = l at *
  refine ACalls.of_awp follows (st := st27) (plans := pl27) (n := 79) Try.func27 rfl (by kernel_rfl) (by kernel_rfl) (by kernel_rfl) ?_
  simp
  intro q hq
  have hqb : b ≠ q := fun h => by subst h; rw [hb] at hq; cases hq
  simp at gl0
  simp [hb, hqb, Ne.symm hqb, gl0, e0]
  refine callK.of (his _) ?_
  rintro v σ' ⟨rfl, rfl⟩
  simp
  refine callK.of (htk _ (by simp [hqb, hb']) hlen (by omega)) ?_
  rintro v σ' ⟨rfl, rfl⟩
  simp [hqb, Ne.symm hqb, hw]
  intro r hr
  simp only [ite_none] at hr
  obtain ⟨hrb, hrq, hr0⟩ := hr
  refine callK.of (hch _ (by simp [hqb, Ne.symm hqb, hrb, Ne.symm hrb]) htl) ?_
  rintro v σ' ⟨ow, ps, o', l', e, rfl, rfl, h1, h2⟩
  simp [hqb, Ne.symm hqb, hrb, Ne.symm hrb, hrq, Ne.symm hrq]
  refine ⟨opA { kind := 44, pairs := ps }, ?_, σ.upd b (scA o' l' e), ?_, _, _, _, _, rfl, rfl, ?_⟩
  · simp [opA, opC, byteA, pairsA, bytesA_nil]
  · (intro q; simp only [Store.upd, Store.del]; (repeat' split) <;> simp_all)
  · rw [← hL]
    exact step_other ho (by decide) h1 fun h => ⟨by simp, fun h => absurd h (by simp), rfl⟩
set_option maxRecDepth 4000 in
theorem op_29 (b : Nat) (o : Bool) (tl : List UInt8) (σ : Store) (hb : σ b = some (scA o (29 :: tl) 0)) (hl : (29 :: tl : List UInt8).length ≤ 1000000) : ACalls Try.prog 27 [ptrA b] σ (OpR b (29 :: tl) σ) := by
  have ho : isOrd 29 = true := by decide
  have his := is_calls 29
  have htk := take_ok b o (29 :: tl) 0 1
  have e1 : bytesA ((29 :: tl : List UInt8).take 1) = [.lit (.int .u8 29)] := rfl
  have e2 : (29 :: tl : List UInt8).drop 1 = tl := rfl
  have e3 : byteA 29 = .lit (.int .u8 29) := rfl
  have hw : IntKind.i64.wrap 29 = 29 := by decide
  rw [e1, e2] at htk
  rw [ho, e3] at his
  have hb' := hb
  have g0 : (bytesA (29 :: tl))[0]? = some (.lit (.int .u8 29)) := rfl
  have gl0 : 0 < (bytesA (29 :: tl)).length := by simp
  have e0 := (List.getElem_eq_iff gl0).2 g0
  unfold scA at hb
  have hlen : 1 ≤ (29 :: tl : List UInt8).length := by simp
  have htl : tl.length ≤ 1000000 := by simp at hl; omega
  have ht1 := take_short1 b false 0
  have ht2 := fun (x : UInt8) (t : List UInt8) => take_ok b false (x :: t) 0 1
  generalize hL : (29 :: tl : List UInt8) = l at *
  refine ACalls.of_awp follows (st := st27) (plans := pl27) (n := 79) Try.func27 rfl (by kernel_rfl) (by kernel_rfl) (by kernel_rfl) ?_
  simp
  intro q hq
  have hqb : b ≠ q := fun h => by subst h; rw [hb] at hq; cases hq
  simp at gl0
  simp [hb, hqb, Ne.symm hqb, gl0, e0]
  refine callK.of (his _) ?_
  rintro v σ' ⟨rfl, rfl⟩
  simp
  refine callK.of (htk _ (by simp [hqb, hb']) hlen (by omega)) ?_
  rintro v σ' ⟨rfl, rfl⟩
  simp [hqb, Ne.symm hqb, hw]
  intro r hr
  simp only [ite_none] at hr
  obtain ⟨hrb, hrq, hr0⟩ := hr
  rcases tl with _ | ⟨x, t⟩
  · refine callK.of (ht1 _ (by simp [hqb, Ne.symm hqb, hrb, Ne.symm hrb])) ?_
    rintro v σ' ⟨rfl, rfl⟩
    have f1 : bytesA [0] = [byteA 0] := rfl
    simp [hqb, Ne.symm hqb, hrb, Ne.symm hrb, hrq, Ne.symm hrq, f1]
    refine ⟨opA { kind := 29, fa := 0 }, ?_, σ.upd b (scA true [] (failE 0 2)), ?_, _, _, _, _, rfl, rfl, ?_⟩
    · simp [opA, opC, byteA, pairsA, bytesA_nil]
    · (intro q; simp only [Store.upd, Store.del]; (repeat' split) <;> simp_all)
    · rw [← hL]
      exact step_other ho (by decide) (by simp) fun h => absurd h (by simp [failE])
  · refine callK.of (ht2 x t _ (by simp [hqb, Ne.symm hqb, hrb, Ne.symm hrb]) (by simp) (by simp at htl ⊢; omega)) ?_
    rintro v σ' ⟨rfl, rfl⟩
    have f1 : bytesA ((x :: t).take 1) = [byteA x] := rfl
    have f2 : (x :: t).drop 1 = t := rfl
    rw [f1, f2]
    simp [hqb, Ne.symm hqb, hrb, Ne.symm hrb, hrq, Ne.symm hrq]
    refine ⟨opA { kind := 29, fa := x }, ?_, σ.upd b (scA false t 0), ?_, _, _, _, _, rfl, rfl, ?_⟩
    · simp [opA, opC, byteA, pairsA, bytesA_nil]
    · (intro q; simp only [Store.upd, Store.del]; (repeat' split) <;> simp_all)
    · rw [← hL]
      exact step_other ho (by decide) (by simp) fun h => ⟨by simp, fun h => absurd h (by simp), rfl⟩
set_option maxRecDepth 4000 in
theorem op_17 (b : Nat) (o : Bool) (tl : List UInt8) (σ : Store) (hb : σ b = some (scA o (17 :: tl) 0)) (hl : (17 :: tl : List UInt8).length ≤ 1000000) : ACalls Try.prog 27 [ptrA b] σ (OpR b (17 :: tl) σ) := by
  have ho : isOrd 17 = true := by decide
  have his := is_calls 17
  have htk := take_ok b o (17 :: tl) 0 1
  have e1 : bytesA ((17 :: tl : List UInt8).take 1) = [.lit (.int .u8 17)] := rfl
  have e2 : (17 :: tl : List UInt8).drop 1 = tl := rfl
  have e3 : byteA 17 = .lit (.int .u8 17) := rfl
  have hw : IntKind.i64.wrap 17 = 17 := by decide
  rw [e1, e2] at htk
  rw [ho, e3] at his
  have hb' := hb
  have g0 : (bytesA (17 :: tl))[0]? = some (.lit (.int .u8 17)) := rfl
  have gl0 : 0 < (bytesA (17 :: tl)).length := by simp
  have e0 := (List.getElem_eq_iff gl0).2 g0
  unfold scA at hb
  have hlen : 1 ≤ (17 :: tl : List UInt8).length := by simp
  have htl : tl.length ≤ 1000000 := by simp at hl; omega
  have had := addr_calls b false tl
  generalize hL : (17 :: tl : List UInt8) = l at *
  refine ACalls.of_awp follows (st := st27) (plans := pl27) (n := 79) Try.func27 rfl (by kernel_rfl) (by kernel_rfl) (by kernel_rfl) ?_
  simp
  intro q hq
  have hqb : b ≠ q := fun h => by subst h; rw [hb] at hq; cases hq
  simp at gl0
  simp [hb, hqb, Ne.symm hqb, gl0, e0]
  refine callK.of (his _) ?_
  rintro v σ' ⟨rfl, rfl⟩
  simp
  refine callK.of (htk _ (by simp [hqb, hb']) hlen (by omega)) ?_
  rintro v σ' ⟨rfl, rfl⟩
  simp [hqb, Ne.symm hqb, hw]
  intro r hr
  simp only [ite_none] at hr
  obtain ⟨hrb, hrq, hr0⟩ := hr
  refine callK.of (had _ (by simp [hqb, Ne.symm hqb, hrb, Ne.symm hrb]) htl) ?_
  rintro v σ' ⟨n, o', l', e, rfl, rfl, h1, h2⟩
  simp [hqb, Ne.symm hqb, hrb, Ne.symm hrb, hrq, Ne.symm hrq]
  refine ⟨opA { kind := 17, addr := n }, ?_, σ.upd b (scA o' l' e), ?_, _, _, _, _, rfl, rfl, ?_⟩
  · simp [opA, opC, byteA, pairsA, bytesA_nil]
  · (intro q; simp only [Store.upd, Store.del]; (repeat' split) <;> simp_all)
  · rw [← hL]
    exact step_sba h1 h2
set_option maxRecDepth 4000 in
theorem op_18 (b : Nat) (o : Bool) (tl : List UInt8) (σ : Store) (hb : σ b = some (scA o (18 :: tl) 0)) (hl : (18 :: tl : List UInt8).length ≤ 1000000) : ACalls Try.prog 27 [ptrA b] σ (OpR b (18 :: tl) σ) := by
  have ho : isOrd 18 = true := by decide
  have his := is_calls 18
  have htk := take_ok b o (18 :: tl) 0 1
  have e1 : bytesA ((18 :: tl : List UInt8).take 1) = [.lit (.int .u8 18)] := rfl
  have e2 : (18 :: tl : List UInt8).drop 1 = tl := rfl
  have e3 : byteA 18 = .lit (.int .u8 18) := rfl
  have hw : IntKind.i64.wrap 18 = 18 := by decide
  rw [e1, e2] at htk
  rw [ho, e3] at his
  have hb' := hb
  have g0 : (bytesA (18 :: tl))[0]? = some (.lit (.int .u8 18)) := rfl
  have gl0 : 0 < (bytesA (18 :: tl)).length := by simp
  have e0 := (List.getElem_eq_iff gl0).2 g0
  unfold scA at hb
  have hlen : 1 ≤ (18 :: tl : List UInt8).length := by simp
  have htl : tl.length ≤ 1000000 := by simp at hl; omega
  have had := addr_calls b false tl
  generalize hL : (18 :: tl : List UInt8) = l at *
  refine ACalls.of_awp follows (st := st27) (plans := pl27) (n := 79) Try.func27 rfl (by kernel_rfl) (by kernel_rfl) (by kernel_rfl) ?_
  simp
  intro q hq
  have hqb : b ≠ q := fun h => by subst h; rw [hb] at hq; cases hq
  simp at gl0
  simp [hb, hqb, Ne.symm hqb, gl0, e0]
  refine callK.of (his _) ?_
  rintro v σ' ⟨rfl, rfl⟩
  simp
  refine callK.of (htk _ (by simp [hqb, hb']) hlen (by omega)) ?_
  rintro v σ' ⟨rfl, rfl⟩
  simp [hqb, Ne.symm hqb, hw]
  intro r hr
  simp only [ite_none] at hr
  obtain ⟨hrb, hrq, hr0⟩ := hr
  refine callK.of (had _ (by simp [hqb, Ne.symm hqb, hrb, Ne.symm hrb]) htl) ?_
  rintro v σ' ⟨n, o', l', e, rfl, rfl, h1, h2⟩
  simp [hqb, Ne.symm hqb, hrb, Ne.symm hrb, hrq, Ne.symm hrq]
  refine ⟨opA { kind := 18, addr := n }, ?_, σ.upd b (scA o' l' e), ?_, _, _, _, _, rfl, rfl, ?_⟩
  · simp [opA, opC, byteA, pairsA, bytesA_nil]
  · (intro q; simp only [Store.upd, Store.del]; (repeat' split) <;> simp_all)
  · rw [← hL]
    exact step_other ho (by decide) h1 fun h => ⟨by simp, fun h => absurd h (by simp), rfl⟩
set_option maxRecDepth 4000 in
theorem op_60 (b : Nat) (o : Bool) (tl : List UInt8) (σ : Store) (hb : σ b = some (scA o (60 :: tl) 0)) (hl : (60 :: tl : List UInt8).length ≤ 1000000) : ACalls Try.prog 27 [ptrA b] σ (OpR b (60 :: tl) σ) := by
  have ho : isOrd 60 = true := by decide
  have his := is_calls 60
  have htk := take_ok b o (60 :: tl) 0 1
  have e1 : bytesA ((60 :: tl : List UInt8).take 1) = [.lit (.int .u8 60)] := rfl
  have e2 : (60 :: tl : List UInt8).drop 1 = tl := rfl
  have e3 : byteA 60 = .lit (.int .u8 60) := rfl
  have hw : IntKind.i64.wrap 60 = 60 := by decide
  rw [e1, e2] at htk
  rw [ho, e3] at his
  have hb' := hb
  have g0 : (bytesA (60 :: tl))[0]? = some (.lit (.int .u8 60)) := rfl
  have gl0 : 0 < (bytesA (60 :: tl)).length := by simp
  have e0 := (List.getElem_eq_iff gl0).2 g0
  unfold scA at hb
  have hlen : 1 ≤ (60 :: tl : List UInt8).length := by simp
  have htl : tl.length ≤ 1000000 := by simp at hl; omega
  have had := addr_calls b false tl
  have htk8 := fun (o' : Bool) (x : UInt8) (t : List UInt8) (e : Nat) => take_ok b o' (x :: t) e 1
  have hch := fun (o' : Bool) (t : List UInt8) (e : Nat) => char_calls b o' t e
  generalize hL : (60 :: tl : List UInt8) = l at *
  refine ACalls.of_awp follows (st := st27) (plans := pl27) (n := 79) Try.func27 rfl (by kernel_rfl) (by kernel_rfl) (by kernel_rfl) ?_
  simp
  intro q hq
  have hqb : b ≠ q := fun h => by subst h; rw [hb] at hq; cases hq
  simp at gl0
  simp [hb, hqb, Ne.symm hqb, gl0, e0]
  refine callK.of (his _) ?_
  rintro v σ' ⟨rfl, rfl⟩
  simp
  refine callK.of (htk _ (by simp [hqb, hb']) hlen (by omega)) ?_
  rintro v σ' ⟨rfl, rfl⟩
  simp [hqb, Ne.symm hqb, hw]
  intro r hr
  simp only [ite_none] at hr
  obtain ⟨hrb, hrq, hr0⟩ := hr
  refine callK.of (had _ (by simp [hqb, Ne.symm hqb, hrb, Ne.symm hrb]) htl) ?_
  rintro v σ' ⟨n, o', l', e, rfl, rfl, h1, h2⟩
  rcases l' with _ | ⟨x, t⟩
  · have hsc : scA o' [] e = [.list o' 1 [], .lit (.int .i64 e)] := rfl
    rw [hsc]
    simp [hqb, Ne.symm hqb, hrb, Ne.symm hrb, hrq, Ne.symm hrq]
    · refine callK.of (hch o' [] e _ (by simp [hqb, Ne.symm hqb, hrb, Ne.symm hrb]; rfl) (by simp)) ?_
      rintro v σ' ⟨c, o2, l2, e2, rfl, rfl, k1, k2, k3⟩
      simp [hqb, Ne.symm hqb, hrb, Ne.symm hrb, hrq, Ne.symm hrq]
      refine ⟨opA { kind := 60, addr := n, code := c }, ?_, σ.upd b (scA o2 l2 e2), ?_, _, _, _, _, rfl, rfl, ?_⟩
      · simp [opA, opC, byteA, pairsA, bytesA_nil]
      · (intro q; simp only [Store.upd, Store.del]; (repeat' split) <;> simp_all)
      · rw [← hL]
        exact step_other ho (by decide) (by simp only [List.length_cons, List.length_nil] at h1 k1 ⊢; omega) fun h => ⟨by simp, fun h => absurd h (by simp), rfl⟩
  · have hsc : scA o' (x :: t) e = [.list o' 1 (byteA x :: bytesA t), .lit (.int .i64 e)] := rfl
    have hbt : (bytesA t).length = t.length := by simp
    by_cases hx : (x.toNat : Int) = 8
    · rw [hsc]
      simp [hqb, Ne.symm hqb, hrb, Ne.symm hrb, hrq, Ne.symm hrq, byteA, hx]
      have h8 := htk8 o' x t e
      have f1 : bytesA ((x :: t).take 1) = [byteA x] := rfl
      have f2 : (x :: t).drop 1 = t := rfl
      rw [f1, f2] at h8
      refine callK.of (h8 _ (by simp [hqb, Ne.symm hqb, hrb, Ne.symm hrb, hsc, byteA, hx]) (by simp) (by simp at h1 ⊢; omega)) ?_
      rintro v σ' ⟨rfl, rfl⟩
      simp [hqb, Ne.symm hqb, hrb, Ne.symm hrb, hrq, Ne.symm hrq]
      refine callK.of (hch false t e _ (by simp [hqb, Ne.symm hqb, hrb, Ne.symm hrb]) (by simp at h1 ⊢; omega)) ?_
      rintro v σ' ⟨c, o2, l2, e2, rfl, rfl, k1, k2, k3⟩
      simp [hqb, Ne.symm hqb, hrb, Ne.symm hrb, hrq, Ne.symm hrq]
      refine ⟨opA { kind := 60, addr := n, code := c, graph := true }, ?_, σ.upd b (scA o2 l2 e2), ?_, _, _, _, _, rfl, rfl, ?_⟩
      · simp [opA, opC, byteA, pairsA, bytesA_nil]
      · (intro q; simp only [Store.upd, Store.del]; (repeat' split) <;> simp_all)
      · rw [← hL]
        exact step_other ho (by decide) (by simp only [List.length_cons, List.length_nil] at h1 k1 ⊢; omega) fun h => ⟨by simp, fun h => absurd h (by simp), rfl⟩
    · rw [hsc]
      simp [hqb, Ne.symm hqb, hrb, Ne.symm hrb, hrq, Ne.symm hrq, byteA, hx]
      refine callK.of (hch o' (x :: t) e _ (by simp [hqb, Ne.symm hqb, hrb, Ne.symm hrb, hsc, byteA]) (by simp at h1 ⊢; omega)) ?_
      rintro v σ' ⟨c, o2, l2, e2, rfl, rfl, k1, k2, k3⟩
      simp [hqb, Ne.symm hqb, hrb, Ne.symm hrb, hrq, Ne.symm hrq]
      refine ⟨opA { kind := 60, addr := n, code := c }, ?_, σ.upd b (scA o2 l2 e2), ?_, _, _, _, _, rfl, rfl, ?_⟩
      · simp [opA, opC, byteA, pairsA, bytesA_nil]
      · (intro q; simp only [Store.upd, Store.del]; (repeat' split) <;> simp_all)
      · rw [← hL]
        exact step_other ho (by decide) (by simp only [List.length_cons, List.length_nil] at h1 k1 ⊢; omega) fun h => ⟨by simp, fun h => absurd h (by simp), rfl⟩
theorem isOrd_cases {c : UInt8} (h : isOrd c = true) : c = 5 ∨ c = 8 ∨ c = 17 ∨ c = 18 ∨ c = 19 ∨ c = 29 ∨ c = 40 ∨ c = 41 ∨ c = 44 ∨ c = 60 :=
  all_bytes (p := fun c => isOrd c = true → c = 5 ∨ c = 8 ∨ c = 17 ∨ c = 18 ∨ c = 19 ∨ c = 29 ∨ c = 40 ∨ c = 41 ∨ c = 44 ∨ c = 60) (by decide +kernel) c h
theorem op_calls (b : Nat) (o : Bool) (l : List UInt8) (σ : Store) (hb : σ b = some (scA o l 0)) (hl : l.length ≤ 1000000) (hne : l ≠ []) : ACalls Try.prog 27 [ptrA b] σ (OpR b l σ) := by
  rcases l with _ | ⟨c, tl⟩
  · exact absurd rfl hne
  · by_cases hc : isOrd c = true
    · rcases isOrd_cases hc with rfl | rfl | rfl | rfl | rfl | rfl | rfl | rfl | rfl | rfl
      · exact op_5 b o tl σ hb hl
      · exact op_8 b o tl σ hb hl
      · exact op_17 b o tl σ hb hl
      · exact op_18 b o tl σ hb hl
      · exact op_19 b o tl σ hb hl
      · exact op_29 b o tl σ hb hl
      · exact op_40 b o tl σ hb hl
      · exact op_41 b o tl σ hb hl
      · exact op_44 b o tl σ hb hl
      · exact op_60 b o tl σ hb hl
    · exact op_text b o c tl σ hb hl (by simpa using hc)
end Go.Proofs.Ytkbokmokklbahaa
/-
  All orders of bytes.
-/
namespace Go.Proofs.Ytkbokmokklbahaa
open Go Go.AL

inductive AllS : List UInt8 → List Op → Nat → Prop
  | nil : AllS [] [] 0
  | ok {l l' o os e} : Step l o l' 0 → AllS l' os e → AllS l (o :: os) e
  | bad {l l' o e} : Step l o l' e → e ≠ 0 → AllS l [] e
inductive Pre (p : List UInt8) : List Op → List UInt8 → Prop
  | refl : Pre p [] p
  | snoc {out l o l'} : Pre p out l → Step l o l' 0 → Pre p (out ++ [o]) l'
theorem Pre.all {p l : List UInt8} {out os : List Op} {e : Nat} (h : Pre p out l) (k : AllS l os e) : AllS p (out ++ os) e := by
  induction h generalizing os with
  | refl => exact k
  | snoc h1 h2 ih => rw [List.append_assoc]; exact ih (.ok h2 k)
theorem Pre.len {p l : List UInt8} {out : List Op} (h : Pre p out l) : out.length + l.length ≤ p.length := by
  induction h with
  | refl => simp
  | snoc h1 h2 ih => have := h2.len; simp; omega
def AllR (p : List UInt8) (σ : Store) (v : AV) (σ' : Store) : Prop := ∃ ow os n e, v = .tuple [.list ow 7 (opsA os), .lit (.int .i64 n), .lit (.int .i64 (e : Nat))] ∧ σ' = σ ∧ AllS p os e ∧ os.length ≤ p.length

set_option maxRecDepth 4000 in
theorem all_calls (o : Bool) (p : List UInt8) (σ : Store) (hp : p.length ≤ 100000) : ACalls Try.prog 20 [.list o 1 (bytesA p)] σ (AllR p σ) := by
  refine ACalls.of_awp follows (st := st20) (plans := pl20) (n := 46) Try.func20 rfl (by kernel_rfl) (by kernel_rfl) (by kernel_rfl) ?_
  simp
  intro q hq
  refine codeK.loop follows (st := st20) (plans := pl20) (X := List Op × List UInt8 × Bool) (fun x => Pre p x.1 x.2.1)
    (fun x => [(0, .list false 1 (bytesA p)), (5, .list true 7 (opsA x.1)), (6, ptrA q)]) (fun x => σ.upd q (scA x.2.2 x.2.1 0)) (fun x => x.2.1.length) ([], p, false) (by kernel_rfl) .refl (by simp [opsA]) (by simp [scA]) fun x hx => ?_
  obtain ⟨out, l, ow⟩ := x
  dsimp only at hx ⊢
  have hlen := hx.len
  have hsc : ∀ ow l e, scA ow l e = [.list ow 1 (bytesA l), .lit (.int .i64 e)] := fun _ _ _ => rfl
  by_cases hl : l = []
  · subst hl
    rw [hsc]
    simp [bytesA_nil]
    exact ⟨_, AV.le_refl _, σ, sub_upd_self _ _ _ hq, true, out, _, 0, rfl, rfl, by simpa using hx.all .nil, by simp at hlen; omega⟩
  · have hop := op_calls q ow l
    have hpos : 0 < l.length := List.length_pos_iff.2 hl
    have hw : True := trivial
    have h1 := hsc ow l 0
    simp [-Bool.exists_bool, h1, hpos]
    refine callK.of (hop _ (by simp [hsc]) (by omega) hl) ?_
    rintro v σ' ⟨op, o', l', e, rfl, rfl, hst⟩
    have h2 := hsc o' l' e
    by_cases h0 : e = 0
    · subst h0
      simp [-Bool.exists_bool, h2, opA, opC]
      intro r hr
      simp only [ite_none] at hr
      obtain ⟨hrq, hr0⟩ := hr
      have hqr := Ne.symm hrq
      simp [-Bool.exists_bool, hrq, hqr]
      refine ⟨by omega, by omega, out ++ [op], l', .snoc hx hst, hst.len, ?_, o', ?_⟩
      · rw [opsA_append]; exact AV.le_refl _
      · rw [h2]
        (intro q; simp only [Store.upd, Store.del]; (repeat' split) <;> simp_all)
    · have h0' : ¬ (e : Int) = 0 := by omega
      simp [-Bool.exists_bool, h2, opA, opC, h0, h0']
      intro r hr
      simp only [ite_none] at hr
      obtain ⟨hrq, hr0⟩ := hr
      have hqr := Ne.symm hrq
      simp [-Bool.exists_bool, hrq, hqr, h0, h0']
      refine ⟨_, AV.le_refl _, σ, ?_, true, out, _, e, rfl, rfl, by simpa using hx.all (.bad hst h0), by omega⟩
      (intro q; simp only [Store.upd, Store.del]; (repeat' split) <;> simp_all)
end Go.Proofs.Ytkbokmokklbahaa
/-
  A report's head.
-/
namespace Go.Proofs.Ytkbokmokklbahaa
open Go Go.AL

@[simp] theorem azeroR35 : azeroB Try.prog true 35 = some [.lit (.int .u8 0), .lit (.bool false), .lit (.int .i64 0), .lit (.slice none 0 0)] := nr (by kernel_rfl)

/-- A report whose entries are none yet. -/
def hdA (aid : UInt8) (short : Bool) (n : Nat) : AV := .agg [byteA aid, .lit (.bool short), .lit (.int .i64 n), .lit (.slice none 0 0)]
def beginA (p : List UInt8) : AV := match p with
  | [a] => .tuple [hdA a true 0, .list true 1 [], .lit (.int .i64 0)]
  | a :: x :: y :: rest => if (decM x y).2 ≠ 0 then .tuple [hdA 0 false 0, .list true 1 [], .lit (.int .i64 (decM x y).2)] else .tuple [hdA a false (decM x y).1, .list false 1 (bytesA rest), .lit (.int .i64 0)]
  | _ => .tuple [hdA 0 false 0, .list true 1 [], .lit (.int .i64 2)]

set_option maxRecDepth 4000 in
theorem begin_0 (o : Bool) (σ : Store) : ACalls Try.prog 19 [.list o 1 []] σ fun v σ' => v = .tuple [hdA 0 false 0, .list true 1 [], .lit (.int .i64 2)] ∧ σ' = σ := by
  refine ACalls.of_awp follows (st := st19) (plans := pl19) (n := 36) Try.func19 rfl (by kernel_rfl) (by kernel_rfl) (by kernel_rfl) ?_
  simp [hdA, byteA]
  exact fun p hp => sub_upd_self _ _ _ hp
set_option maxRecDepth 4000 in
theorem begin_1 (o : Bool) (a : UInt8) (σ : Store) : ACalls Try.prog 19 [.list o 1 [byteA a]] σ fun v σ' => v = .tuple [hdA a true 0, .list true 1 [], .lit (.int .i64 0)] ∧ σ' = σ := by
  refine ACalls.of_awp follows (st := st19) (plans := pl19) (n := 36) Try.func19 rfl (by kernel_rfl) (by kernel_rfl) (by kernel_rfl) ?_
  simp [hdA, pty, tPart]
  exact fun p hp => sub_upd_self _ _ _ hp
set_option maxRecDepth 4000 in
theorem begin_2 (o : Bool) (a b : UInt8) (σ : Store) : ACalls Try.prog 19 [.list o 1 [byteA a, byteA b]] σ fun v σ' => v = .tuple [hdA 0 false 0, .list true 1 [], .lit (.int .i64 2)] ∧ σ' = σ := by
  refine ACalls.of_awp follows (st := st19) (plans := pl19) (n := 36) Try.func19 rfl (by kernel_rfl) (by kernel_rfl) (by kernel_rfl) ?_
  simp [hdA, byteA]
  exact fun p hp => sub_upd_self _ _ _ hp
set_option maxRecDepth 4000 in
theorem begin_3 (o : Bool) (a x y : UInt8) (rest : List UInt8) (hl : rest.length ≤ 1000000) (σ : Store) : ACalls Try.prog 19 [.list o 1 (bytesA (a :: x :: y :: rest))] σ fun v σ' => v = beginA (a :: x :: y :: rest) ∧ σ' = σ := by
  have hd := dec_calls_two false x y rest
  have g0 : (bytesA (a :: x :: y :: rest))[0]? = some (byteA a) := rfl
  have gl0 : 0 < (bytesA (a :: x :: y :: rest)).length := by simp
  have e0 := (List.getElem_eq_iff gl0).2 g0
  have hlen : (bytesA (a :: x :: y :: rest)).length = rest.length + 3 := by simp
  have hdr : (bytesA (a :: x :: y :: rest)).drop 1 = bytesA (x :: y :: rest) := rfl
  have hdr3 : (bytesA (a :: x :: y :: rest)).drop 3 = bytesA rest := rfl
  show ACalls Try.prog 19 [.list o 1 (bytesA (a :: x :: y :: rest))] σ fun v σ' => v = (if (decM x y).2 ≠ 0 then .tuple [hdA 0 false 0, .list true 1 [], .lit (.int .i64 (decM x y).2)] else .tuple [hdA a false (decM x y).1, .list false 1 (bytesA rest), .lit (.int .i64 0)]) ∧ σ' = σ
  generalize bytesA (a :: x :: y :: rest) = L at *
  obtain ⟨n, e, hne⟩ : ∃ n e, decM x y = (n, e) := ⟨_, _, rfl⟩
  rw [hne] at hd ⊢
  have n0 : ¬ L = [] := fun h => by rw [h] at hlen; simp at hlen
  have n1 : ¬ (L.length : Int) = 1 := by omega
  have n2 : ¬ (L.length : Int) = 2 := by omega
  have k0 : 0 < L.length := by omega
  have k1 : 1 ≤ L.length := by omega
  have k3 : 3 ≤ L.length := by omega
  by_cases he : e = 0
  · subst he
    refine ACalls.of_awp follows (st := st19) (plans := pl19) (n := 36) Try.func19 rfl (by kernel_rfl) (by kernel_rfl) (by kernel_rfl) ?_
    simp [n0, n1, n2, k0, k1, k3, hdr]
    intro p hp
    refine callK.of (hd _) ?_
    rintro v σ' ⟨rfl, rfl⟩
    simp [n0, n1, n2, k0, k1, k3, hdr3, e0, hdA, pty, tPart]
    (intro q; simp only [Store.upd, Store.del]; (repeat' split) <;> simp_all)
  · have he' : ¬ (e : Int) = 0 := by omega
    refine ACalls.of_awp follows (st := st19) (plans := pl19) (n := 36) Try.func19 rfl (by kernel_rfl) (by kernel_rfl) (by kernel_rfl) ?_
    simp [n0, n1, n2, k0, k1, k3, hdr]
    intro p hp
    refine callK.of (hd _) ?_
    rintro v σ' ⟨rfl, rfl⟩
    simp [he, he', hdA, byteA]
    (intro q; simp only [Store.upd, Store.del]; (repeat' split) <;> simp_all)
theorem begin_calls (o : Bool) (p : List UInt8) (hl : p.length ≤ 1000000) (σ : Store) : ACalls Try.prog 19 [.list o 1 (bytesA p)] σ fun v σ' => v = beginA p ∧ σ' = σ := by
  rcases p with _ | ⟨a, _ | ⟨x, _ | ⟨y, rest⟩⟩⟩
  · exact begin_0 o σ
  · exact begin_1 o a σ
  · exact begin_2 o a x σ
  · exact begin_3 o a x y rest (by simp at hl; omega) σ
end Go.Proofs.Ytkbokmokklbahaa
/-
  A report's entries as a row that is an object; characters of the last one.
-/
namespace Go.Proofs.Ytkbokmokklbahaa
open Go Go.AL

/-- An entry whose text may be appended to. -/
def enO (e : En) : AV := .agg [.lit (.int .i64 e.addr), .list true 1 (bytesA e.text)]
def esO (l : List En) : List AV := l.flatMap fun e => (enO e).cells
theorem esO_length (l : List En) : (esO l).length = l.length * 2 := by
  induction l with
  | nil => rfl
  | cons e l ih => simp only [esO, List.flatMap_cons, List.length_append, List.length_cons] at *; rw [ih]; simp [enO, AV.cells]; omega
theorem esO_append (l k : List En) : esO (l ++ k) = esO l ++ esO k := by simp [esO]
theorem esO_one (e : En) : esO [e] = [.lit (.int .i64 e.addr), .list true 1 (bytesA e.text)] := by simp [esO, enO]
theorem mid_get {X Y : List AV} (j : Nat) : (X ++ Y)[X.length + j]? = Y[j]? := by
  rw [List.getElem?_append_right (by omega)]; congr 1; omega
theorem last_get (init : List En) (last : En) (rest : List AV) : (esO (init ++ [last]) ++ rest)[init.length * 2 + 1]? = some (.list true 1 (bytesA last.text)) := by
  rw [esO_append, esO_one, List.append_assoc]
  have h1 := mid_get (X := esO init) (Y := [AV.lit (.int .i64 last.addr), .list true 1 (bytesA last.text)] ++ rest) 1
  rw [esO_length] at h1
  exact h1
theorem last_set (init : List En) (last : En) (rest : List AV) (d : List UInt8) : (esO (init ++ [last]) ++ rest).set (init.length * 2 + 1) (.list true 1 (bytesA d)) = esO (init ++ [{ last with text := d }]) ++ rest := by
  rw [esO_append, esO_append, esO_one, esO_one, List.append_assoc, List.append_assoc, List.set_append_right _ _ (by rw [esO_length]; omega), esO_length]
  congr 1
  rw [show init.length * 2 + 1 - init.length * 2 = 1 by omega]
  rfl
theorem take_esO (l : List En) (rest : List AV) : (esO l ++ rest).take (l.length * 2) = esO l := by
  rw [← esO_length, List.take_left]

theorem sub_of_eq {σ τ : Store} (h : σ = τ) : Store.sub σ τ := h ▸ Store.sub_refl _
def rowN (p cap n : Nat) : AV := .lit (.slice (some ⟨p, 0, none⟩) n cap)

set_option maxRecDepth 4000 in
theorem add_nil (q : Nat) (A B C : AV) (o : Bool) (t : List UInt8) (ht : t.length ≤ 1000000) (σ : Store) (hq : σ q = some [A, B, C, .lit (.slice none 0 0)]) :
    ACalls Try.prog 21 [ptrA q, .list o 1 (bytesA t)] σ fun v σ' => ∃ p, v = .tuple [] ∧ σ p = none ∧ σ' = (σ.upd p (esO [⟨0, t⟩])).upd q [A, B, C, rowN p 1 1] := by
  refine ACalls.of_awp follows (st := st21) (plans := pl21) (n := 36) Try.func21 rfl (by kernel_rfl) (by kernel_rfl) (by kernel_rfl) ?_
  simp [hq]
  intro p hp
  have hpq : q ≠ p := fun h => by subst h; rw [hq] at hp; cases hp
  have hw : IntKind.i64.wrap 0 = 0 := by decide
  simp [hq, hpq, Ne.symm hpq, hw]
  refine ⟨by omega, by omega, _, AV.le_refl _, _, ?_, rfl, p, hp, rfl⟩
  refine sub_of_eq ?_
  funext k
  simp only [Store.upd, esO_one, rowN]
  by_cases h1 : k = p
  · subst h1; simp [Ne.symm hpq]
  · by_cases h2 : k = q
    · subst h2; simp [hpq]
    · simp [h1, h2]

set_option maxRecDepth 4000 in
theorem add_more (q p cap : Nat) (A B C : AV) (o : Bool) (init : List En) (last : En) (rest : List AV) (t : List UInt8) (ht : last.text.length + t.length ≤ 1000000) (hil : init.length ≤ 1000000) (hcap : init.length + 1 ≤ cap) (hcm : cap ≤ 9223372036854775807) (hlen : (esO (init ++ [last]) ++ rest).length = cap * 2)
    (σ : Store) (hpq : p ≠ q) (hq : σ q = some [A, B, C, rowN p cap (init.length + 1)]) (hp : σ p = some (esO (init ++ [last]) ++ rest)) :
    ACalls Try.prog 21 [ptrA q, .list o 1 (bytesA t)] σ fun v σ' => v = .tuple [] ∧ σ' = σ.upd p (esO (init ++ [{ last with text := last.text ++ t }]) ++ rest) := by
  have hn1 : IntKind.i64.wrap (((init.length + 1 : Nat) : Int) - 1) = (init.length : Int) := by
    rw [wrap_i64 (by omega) (by omega)]; omega
  have hn2 : IntKind.i64.wrap ((init.length : Int) + 1 - 1) = (init.length : Int) := by
    rw [wrap_i64 (by omega) (by omega)]; omega
  have hw : IntKind.i64.wrap ((init.length : Int)) = (init.length : Int) := by
    rw [wrap_i64 (by omega) (by omega)]
  have g1 := last_get init last rest
  have hs := last_set init last rest (last.text ++ t)
  have hlb : init.length * 2 + 1 < (esO (init ++ [last]) ++ rest).length := (List.getElem?_eq_some_iff.1 g1).1
  have h0 : ¬ ((init.length : Int) + 1 = 0) := by omega
  have hlt : (init.length : Int) < (init.length : Int) + 1 := by omega
  rw [bytesA_append] at hs
  unfold rowN at hq
  generalize esO (init ++ [last]) ++ rest = L at *
  generalize esO (init ++ [{ last with text := last.text ++ t }]) ++ rest = M at *
  refine ACalls.of_awp follows (st := st21) (plans := pl21) (n := 36) Try.func21 rfl (by kernel_rfl) (by kernel_rfl) (by kernel_rfl) ?_
  simp [hq, hp, hpq, Ne.symm hpq, hn1, hn2, hw, h0, hlt, g1]
  exact ⟨by omega, by omega, by omega, sub_eq hs.symm⟩
end Go.Proofs.Ytkbokmokklbahaa
/-
  A report of bytes.
-/
namespace Go.Proofs.Ytkbokmokklbahaa
open Go Go.AL

def addE (es : List En) (t : List UInt8) : List En := match es.getLast? with
  | none => [⟨0, t⟩]
  | some last => es.dropLast ++ [{ last with text := last.text ++ t }]
def entS (es : List En) (o : Op) : Option (List En) :=
  if o.kind = 17 then some (es ++ [⟨o.addr, []⟩]) else if o.kind = 0 then some (addE es o.text) else if o.kind = 8 then some (addE es [o.code]) else if o.kind = 40 then some es else none
def entsS (os : List Op) : Option (List En) := os.foldlM entS []
theorem addE_nil (t : List UInt8) : addE [] t = [⟨0, t⟩] := rfl
theorem addE_more (init : List En) (last : En) (t : List UInt8) : addE (init ++ [last]) t = init ++ [{ last with text := last.text ++ t }] := by
  simp [addE]
theorem entsS_take {os : List Op} {i : Nat} (h : i < os.length) {es : List En} (he : entsS (os.take i) = some es) : entsS (os.take (i + 1)) = entS es os[i] := by
  rw [entsS, List.take_succ_eq_append_getElem h, List.foldlM_append]
  rw [entsS] at he
  simp [he]
theorem entsS_none {os : List Op} {i : Nat} (h : entsS (os.take i) = none) : entsS os = none := by
  rw [entsS, ← List.take_append_drop i os, List.foldlM_append]
  rw [entsS] at h
  simp [h]

/-- How much text an order brings. -/
def grow (o : Op) : Nat := if o.kind = 0 then o.text.length else 1
def textIn (l : List En) : Nat := (l.map fun e => e.text.length).sum
theorem textIn_append (l k : List En) : textIn (l ++ k) = textIn l + textIn k := by simp [textIn]
theorem entS_size {es es' : List En} {o : Op} (h : entS es o = some es') : textIn es' ≤ textIn es + grow o ∧ es'.length ≤ es.length + 1 := by
  have hadd : ∀ t, textIn (addE es t) ≤ textIn es + t.length ∧ (addE es t).length ≤ es.length + 1 := fun t => by
    rcases List.eq_nil_or_concat es with rfl | ⟨init, last, rfl⟩
    · simp [addE, textIn]
    · rw [List.concat_eq_append, addE_more, textIn_append, textIn_append]
      simp [textIn]; omega
  unfold entS at h
  unfold grow
  split at h
  · simp at h; subst h; rw [textIn_append]; simp [textIn]
  · split at h
    · rename_i hk; simp at h; subst h; rw [if_pos hk]; exact hadd _
    · split at h
      · simp at h; subst h
        rw [if_neg (by assumption)]; exact hadd _
      · split at h
        · simp at h; subst h; omega
        · cases h
def growS (os : List Op) : Nat := (os.map grow).sum
theorem entsS_size {os : List Op} {es es' : List En} (h : os.foldlM entS es = some es') : textIn es' ≤ textIn es + growS os ∧ es'.length ≤ es.length + os.length := by
  induction os generalizing es with
  | nil => simp at h; subst h; simp [growS]
  | cons o os ih =>
    rw [List.foldlM_cons] at h
    cases ho : entS es o with
    | none => simp [ho] at h
    | some es1 =>
      simp [ho] at h
      have h1 := entS_size ho
      have h2 := ih h
      simp only [growS, List.map_cons, List.sum_cons, List.length_cons] at *
      omega
theorem grow_take (os : List Op) (i : Nat) : growS (os.take i) ≤ growS os := by
  have : os = os.take i ++ os.drop i := (List.take_append_drop i os).symm
  have h : growS os = growS (os.take i) + growS (os.drop i) := by
    have h2 : ∀ a b : List Op, growS (a ++ b) = growS a + growS b := fun a b => by simp [growS]
    rw [← h2, ← this]
  omega
theorem grow_le {os : List Op} {i : Nat} (h : i < os.length) : growS (os.take i) + grow os[i] ≤ growS os := by
  have h1 := grow_take os (i + 1)
  have h2 : ∀ a b : List Op, growS (a ++ b) = growS a + growS b := fun a b => by simp [growS]
  rw [List.take_succ_eq_append_getElem h, h2] at h1
  exact h1
theorem Step.grow {l l' : List UInt8} {o : Op} (h : Step l o l' 0) : grow o + l'.length ≤ l.length := by
  have h1 := h.len
  have h2 := (h.wf rfl).2.2
  unfold Ytkbokmokklbahaa.grow
  split <;> omega
theorem AllS.grow {l : List UInt8} {os : List Op} (h : AllS l os 0) : growS os ≤ l.length := by
  generalize he : 0 = e at h
  induction h with
  | nil => simp [growS]
  | ok h1 h2 ih => have := h1.grow; have := ih he; simp only [growS, List.map_cons, List.sum_cons] at *; omega
  | bad h1 h2 => exact absurd he.symm h2

def rowT (p cap : Nat) (es : List En) : AV := if es = [] then .lit (.slice none 0 0) else rowN p cap es.length
def objS (τ : Store) (q : Nat) (A B C : AV) (p cap : Nat) (es : List En) (rest : List AV) : Store := if es = [] then τ.upd q [A, B, C, .lit (.slice none 0 0)] else (τ.upd q [A, B, C, rowN p cap es.length]).upd p (esO es ++ rest)

/-- What is left to say behind the head. -/
def TailS (aid : UInt8) (short : Bool) (n : Nat) (rest : List UInt8) (r : Rp) (e : Nat) : Prop :=
  ∃ os e2, AllS rest os e2 ∧ os.length ≤ rest.length ∧ if e2 ≠ 0 then e = e2 else match entsS os with
    | some es => r = ⟨aid, short, n, es⟩ ∧ e = 0
    | none => e = 4
def PaR (S : Rp → Nat → Prop) (σ : Store) (v : AV) (σ' : Store) : Prop := ∃ ow r e, v = .tuple [rpO ow r, .lit (.int .i64 (e : Nat))] ∧ σ' = σ ∧ S r e
/-- The same, the entries being an object yet. -/
def PaO (aid : UInt8) (short : Bool) (n : Nat) (rest : List UInt8) (σ : Store) (v : AV) (σ' : Store) : Prop :=
  PaR (TailS aid short n rest) σ v σ' ∨ ∃ p cap es rest', v = .tuple [.agg [byteA aid, .lit (.bool short), .lit (.int .i64 (n : Nat)), rowT p cap es], .lit (.int .i64 0)] ∧ TailS aid short n rest ⟨aid, short, n, es⟩ 0 ∧
    (es = [] → σ' = σ) ∧ (es ≠ [] → σ p = none ∧ (esO es ++ rest').length = cap * 2 ∧ cap ≤ maxLen ∧ σ' = σ.upd p (esO es ++ rest'))

set_option maxRecDepth 4000 in
set_option maxHeartbeats 4000000 in
theorem parse_tail (o ob : Bool) (p : List UInt8) (aid : UInt8) (short : Bool) (n : Nat) (rest : List UInt8) (hl : rest.length ≤ 100000) (σ : Store)
    (hb : ∀ σ, ACalls Try.prog 19 [.list false 1 (bytesA p)] σ fun v σ' => v = .tuple [hdA aid short n, .list ob 1 (bytesA rest), .lit (.int .i64 0)] ∧ σ' = σ) :
    ACalls Try.prog 11 [.list o 1 (bytesA p)] σ (PaO aid short n rest σ) := by
  have hh : hdA aid short n = .agg [byteA aid, .lit (.bool short), .lit (.int .i64 n), .lit (.slice none 0 0)] := rfl
  refine ACalls.of_awp follows (st := st11) (plans := pl11) (n := 65) Try.func11 rfl (by kernel_rfl) (by kernel_rfl) (by kernel_rfl) ?_
  simp
  intro r0 hr0
  refine callK.of (hb _) ?_
  rintro v σ' ⟨rfl, rfl⟩
  simp [-Bool.exists_bool, hh]
  intro q hq
  simp only [ite_none] at hq
  obtain ⟨hqr, hq⟩ := hq
  have hrq := Ne.symm hqr
  refine callK.of (all_calls false rest _ hl) ?_
  rintro v σ' ⟨ow, os, m, e2, rfl, rfl, hall, hol⟩
  by_cases h2 : e2 = 0
  · subst h2
    have hos : os.length ≤ 100000 := by omega
    have hgr := hall.grow
    simp [-Bool.exists_bool, hqr, hrq]
    refine codeK.loop follows (st := st11) (plans := pl11) (X := Nat × Nat × Nat × List En × List AV) (fun x => x.1 ≤ os.length ∧ entsS (os.take x.1) = some x.2.2.2.1 ∧
        (x.2.2.2.1 ≠ [] → σ x.2.1 = none ∧ x.2.1 ≠ r0 ∧ x.2.1 ≠ q ∧ (esO x.2.2.2.1 ++ x.2.2.2.2).length = x.2.2.1 * 2 ∧ x.2.2.1 ≤ maxLen))
      (fun x => [(2, ptrA r0), (4, ptrA q), (31, .list false 7 (opsA os)), (32, .lit (.int .i64 os.length)), (33, .lit (.int .i64 x.1))])
      (fun x => objS (σ.upd r0 [.lit (.int .u8 0), .lit (.bool false), .lit (.int .i64 0), .list true 2 []]) q (byteA aid) (.lit (.bool short)) (.lit (.int .i64 n)) x.2.1 x.2.2.1 x.2.2.2.1 x.2.2.2.2)
      (fun x => os.length - x.1) (0, 0, 0, [], []) (by kernel_rfl) (by simp [entsS]) (by simp) (by simp [objS]) fun x hx => ?_
    obtain ⟨i, pp, cap, es, rr⟩ := x
    obtain ⟨hi, hes, hrow⟩ := hx
    dsimp only at hi hes hrow ⊢
    by_cases hlt : i < os.length
    · have hsz := entsS_size (by simpa [entsS] using hes)
      have hg := grow_le hlt
      have hg2 := opsA_get os i hlt
      have hnx := entsS_take hlt hes
      have hw : IntKind.i64.wrap ((i : Int) + 1) = ((i + 1 : Nat) : Int) := wrap_i64 (by omega) (by omega)
      have hnone := fun h => entsS_none (os := os) (i := i + 1) h
      obtain ⟨op, hop⟩ : ∃ op, os[i] = op := ⟨_, rfl⟩
      rw [hop] at hg hg2 hnx
      have hopc : opA op = .agg (opC op) := rfl
      by_cases hne : es = []
      · subst hne
        have hfr : ∀ c : Nat, (if c = q then some [byteA aid, AV.lit (.bool short), AV.lit (.int .i64 (n : Int)), AV.lit (.slice none 0 0)] else if c = r0 then some [AV.lit (.int .u8 0), AV.lit (.bool false), AV.lit (.int .i64 0), AV.list true 2 []] else σ c) = none → c ≠ q ∧ q ≠ c ∧ c ≠ r0 ∧ r0 ≠ c ∧ σ c = none := fun c hc => by
          simp only [ite_none] at hc; exact ⟨hc.1, Ne.symm hc.1, hc.2.1, Ne.symm hc.2.1, hc.2.2⟩
        have hfin : ∀ {es' : List En} {p1 cap1 : Nat} {rr1 : List AV} {τ : Store}, entS [] op = some es' → (es' ≠ [] → σ p1 = none ∧ ¬p1 = r0 ∧ ¬p1 = q ∧ (esO es').length + rr1.length = cap1 * 2 ∧ cap1 ≤ 9223372036854775807) →
            Store.sub (objS (σ.upd r0 [.lit (.int .u8 0), .lit (.bool false), .lit (.int .i64 0), .list true 2 []]) q (byteA aid) (.lit (.bool short)) (.lit (.int .i64 n)) p1 cap1 es' rr1) τ →
            ∃ a a_1 a_2 a_3 b, (a ≤ os.length ∧ entsS (os.take a) = some a_3 ∧ (¬a_3 = [] → σ a_1 = none ∧ ¬a_1 = r0 ∧ ¬a_1 = q ∧ (esO a_3).length + b.length = a_2 * 2 ∧ a_2 ≤ 9223372036854775807)) ∧ os.length - a < os.length - i ∧
              (AV.lit (.int .i64 (IntKind.i64.wrap ((i : Int) + 1)))).le (.lit (.int .i64 (a : Nat))) ∧ Store.sub (objS (σ.upd r0 [.lit (.int .u8 0), .lit (.bool false), .lit (.int .i64 0), .list true 2 []]) q (byteA aid) (.lit (.bool short)) (.lit (.int .i64 n)) a_1 a_2 a_3 b) τ := fun h1 h2 h3 =>
          ⟨i + 1, _, _, _, _, ⟨by omega, by rw [hnx]; exact h1, h2⟩, by omega, by rw [hw]; exact AV.le_refl _, h3⟩
        simp only [objS] at hfin
        by_cases k17 : op.kind = 17
        · have hes' : entS [] op = some [⟨op.addr, []⟩] := by simp [entS, k17]
          simp [hlt, hg2, hopc, opC, objS, k17, hqr, hrq]
          intro c hc
          obtain ⟨c1, c2, c3, c4, c5⟩ := hfr c hc
          simp [hqr, hrq, c1, c2, c3, c4, rowOf, srcOf]
          intro b hb p1 cap1 hp1 h1 h3
          simp only [ite_none] at hb hp1
          obtain ⟨b1, b2, b3, b4⟩ := hb
          obtain ⟨p0, p1', p2, p3, p4⟩ := hp1
          simp [hqr, hrq, c1, c2, c3, c4, b1, b2, b3, p0, p1', p2, p3, Ne.symm b1, Ne.symm b2, Ne.symm b3, Ne.symm p0, Ne.symm p1', Ne.symm p2, Ne.symm p3]
          refine hfin (p1 := p1) (cap1 := cap1) (rr1 := List.replicate ((cap1 - 1) * 2) .top) hes' (fun _ => ⟨p4, p3, p2, by simp [esO_one]; omega, h3⟩) ?_
          rw [if_neg (by simp)]
          simp [esO_one, rowN]
          (intro q; simp only [Store.upd, Store.del]; (repeat' split) <;> first | exact Or.inr rfl | exact Or.inl rfl | (exfalso; omega) | (left; subst_vars; assumption) | simp_all)
        · by_cases k0 : op.kind = 0
          · have hes' : entS [] op = some [⟨0, op.text⟩] := by simp [entS, k0, addE]
            have htl : op.text.length ≤ 1000000 := by simp only [grow, k0, if_true] at hg; omega
            simp [hlt, hg2, hopc, opC, objS, k0, hqr, hrq]
            intro c hc
            obtain ⟨c1, c2, c3, c4, c5⟩ := hfr c hc
            refine callK.of (add_nil q (byteA aid) (.lit (.bool short)) (.lit (.int .i64 n)) false op.text htl _ (by simp [c2])) ?_
            rintro v σ' ⟨p1, rfl, hp1, rfl⟩
            simp only [supd_apply, ite_none] at hp1
            obtain ⟨p1', p2, p3, p4⟩ := hp1
            simp [hqr, hrq, c1, c2, c3, c4, p1', p2, p3, Ne.symm p1', Ne.symm p2, Ne.symm p3]
            refine hfin (p1 := p1) (cap1 := 1) (rr1 := []) hes' (fun _ => ⟨p4, p3, p2, by simp [esO_one], by omega⟩) ?_
            rw [if_neg (by simp)]
            simp [esO_one, rowN]
            (intro q; simp only [Store.upd, Store.del]; (repeat' split) <;> first | exact Or.inr rfl | exact Or.inl rfl | (exfalso; omega) | (left; subst_vars; assumption) | simp_all)
          · by_cases k8 : op.kind = 8
            · have hes' : entS [] op = some [⟨0, [op.code]⟩] := by simp [entS, k8, addE]
              simp [hlt, hg2, hopc, opC, objS, k8, hqr, hrq]
              intro c hc
              obtain ⟨c1, c2, c3, c4, c5⟩ := hfr c hc
              refine callK.of (add_nil q (byteA aid) (.lit (.bool short)) (.lit (.int .i64 n)) true [op.code] (by simp) _ (by simp [c2])) ?_
              rintro v σ' ⟨p1, rfl, hp1, rfl⟩
              simp only [supd_apply, ite_none] at hp1
              obtain ⟨p1', p2, p3, p4⟩ := hp1
              simp [hqr, hrq, c1, c2, c3, c4, p1', p2, p3, Ne.symm p1', Ne.symm p2, Ne.symm p3]
              refine hfin (p1 := p1) (cap1 := 1) (rr1 := []) hes' (fun _ => ⟨p4, p3, p2, by simp [esO_one], by omega⟩) ?_
              rw [if_neg (by simp)]
              simp [esO_one, rowN]
              (intro q; simp only [Store.upd, Store.del]; (repeat' split) <;> first | exact Or.inr rfl | exact Or.inl rfl | (exfalso; omega) | (left; subst_vars; assumption) | simp_all)
            · by_cases k40 : op.kind = 40
              · have hes' : entS [] op = some [] := by simp [entS, k40]
                simp [hlt, hg2, hopc, opC, objS, k40, hqr, hrq]
                intro c hc
                obtain ⟨c1, c2, c3, c4, c5⟩ := hfr c hc
                refine hfin (p1 := 0) (cap1 := 0) (rr1 := []) hes' (fun h => absurd rfl h) ?_
                rw [if_pos rfl]
                (intro q; simp only [Store.upd, Store.del]; (repeat' split) <;> first | exact Or.inr rfl | exact Or.inl rfl | (exfalso; omega) | (left; subst_vars; assumption) | simp_all)
              · have k17' : ¬ (op.kind : Int) = 17 := by omega
                have k0' : ¬ (op.kind : Int) = 0 := by omega
                have k8' : ¬ (op.kind : Int) = 8 := by omega
                have k40' : ¬ (op.kind : Int) = 40 := by omega
                have hes' : entS [] op = none := by simp [entS, k17, k0, k8, k40]
                have hT : TailS aid short n rest ⟨0, false, 0, []⟩ 4 := ⟨os, 0, hall, hol, by simp [hnone (hnx.trans hes')]⟩
                simp [hlt, hg2, hopc, opC, objS, k17, k0, k8, k40, k17', k0', k8', k40', hqr, hrq]
                intro c hc
                obtain ⟨c1, c2, c3, c4, c5⟩ := hfr c hc
                simp [hqr, hrq, c1, c2, c3, c4]
                refine ⟨_, AV.le_refl _, σ, ?_, .inl ⟨false, ⟨0, false, 0, []⟩, 4, rfl, rfl, hT⟩⟩
                (intro q; simp only [Store.upd, Store.del]; (repeat' split) <;> first | exact Or.inr rfl | exact Or.inl rfl | (exfalso; omega) | (left; subst_vars; assumption) | simp_all)
      · obtain ⟨init, last, hil⟩ : ∃ init last, es = init ++ [last] := by
          rcases List.eq_nil_or_concat es with h | ⟨init, last, h⟩
          · exact absurd h hne
          · exact ⟨init, last, by rw [h, List.concat_eq_append]⟩
        subst hil
        obtain ⟨p1, p2, p3, p4, p5⟩ := hrow hne
        have hesl : (init ++ [last]).length = init.length + 1 := by simp
        have h2r := Ne.symm p2
        have h3r := Ne.symm p3
        have hti : last.text.length ≤ 100000 := by
          have := hsz.1; rw [textIn_append] at this; simp [textIn] at this; omega
        have hil : init.length ≤ 100000 := by
          have := hsz.2; simp at this; omega
        have hcl : init.length + 1 ≤ cap := by
          rw [List.length_append, esO_length, hesl] at p4; omega
        have hfr : ∀ c : Nat, (if c = pp then some (esO (init ++ [last]) ++ rr) else if c = q then some [byteA aid, AV.lit (.bool short), AV.lit (.int .i64 (n : Int)), rowN pp cap (init.length + 1)] else if c = r0 then some [AV.lit (.int .u8 0), AV.lit (.bool false), AV.lit (.int .i64 0), AV.list true 2 []] else σ c) = none → c ≠ pp ∧ c ≠ q ∧ c ≠ r0 ∧ σ c = none ∧ pp ≠ c ∧ q ≠ c ∧ r0 ≠ c := fun c hc => by
          simp only [ite_none] at hc; exact ⟨hc.1, hc.2.1, hc.2.2.1, hc.2.2.2, Ne.symm hc.1, Ne.symm hc.2.1, Ne.symm hc.2.2.1⟩
        have hfin : ∀ {es' : List En} {p1 cap1 : Nat} {rr1 : List AV} {τ : Store}, entS (init ++ [last]) op = some es' → (es' ≠ [] → σ p1 = none ∧ ¬p1 = r0 ∧ ¬p1 = q ∧ (esO es').length + rr1.length = cap1 * 2 ∧ cap1 ≤ 9223372036854775807) →
            Store.sub (objS (σ.upd r0 [.lit (.int .u8 0), .lit (.bool false), .lit (.int .i64 0), .list true 2 []]) q (byteA aid) (.lit (.bool short)) (.lit (.int .i64 n)) p1 cap1 es' rr1) τ →
            ∃ a a_1 a_2 a_3 b, (a ≤ os.length ∧ entsS (os.take a) = some a_3 ∧ (¬a_3 = [] → σ a_1 = none ∧ ¬a_1 = r0 ∧ ¬a_1 = q ∧ (esO a_3).length + b.length = a_2 * 2 ∧ a_2 ≤ 9223372036854775807)) ∧ os.length - a < os.length - i ∧
              (AV.lit (.int .i64 (IntKind.i64.wrap ((i : Int) + 1)))).le (.lit (.int .i64 (a : Nat))) ∧ Store.sub (objS (σ.upd r0 [.lit (.int .u8 0), .lit (.bool false), .lit (.int .i64 0), .list true 2 []]) q (byteA aid) (.lit (.bool short)) (.lit (.int .i64 n)) a_1 a_2 a_3 b) τ := fun h1 h2 h3 =>
          ⟨i + 1, _, _, _, _, ⟨by omega, by rw [hnx]; exact h1, h2⟩, by omega, by rw [hw]; exact AV.le_refl _, h3⟩
        have hobj : objS (σ.upd r0 [.lit (.int .u8 0), .lit (.bool false), .lit (.int .i64 0), .list true 2 []]) q (byteA aid) (.lit (.bool short)) (.lit (.int .i64 n)) pp cap (init ++ [last]) rr =
            ((σ.upd r0 [.lit (.int .u8 0), .lit (.bool false), .lit (.int .i64 0), .list true 2 []]).upd q [byteA aid, .lit (.bool short), .lit (.int .i64 n), rowN pp cap (init.length + 1)]).upd pp (esO (init ++ [last]) ++ rr) := by
          rw [objS, if_neg hne, hesl]
        rw [hobj]
        have htk : (esO (init ++ [last]) ++ rr).take ((init.length + 1) * 2) = esO (init ++ [last]) := by
          have := take_esO (init ++ [last]) rr; rwa [hesl] at this
        have hlb : (esO (init ++ [last]) ++ rr).length = cap * 2 := p4
        have p5' : cap ≤ 9223372036854775807 := p5
        have hrN : rowN pp cap (init.length + 1) = .lit (.slice (some ⟨pp, 0, none⟩) (init.length + 1) cap) := rfl
        by_cases k17 : op.kind = 17
        · have hes' : entS (init ++ [last]) op = some ((init ++ [last]) ++ [⟨op.addr, []⟩]) := by simp [entS, k17]
          rw [hrN]
          generalize hL : esO (init ++ [last]) ++ rr = L at *
          simp [hlt, hg2, hopc, opC, k17, hqr, hrq, p2, p3, h2r, h3r]
          intro c hc
          obtain ⟨c1, c2, c3, c4, c5, c6, c7⟩ := hfr c (by simpa [hrN] using hc)
          simp [hqr, hrq, p2, p3, h2r, h3r, c1, c2, c3, c4, c5, c6, c7]
          intro b hb
          simp only [ite_none] at hb
          obtain ⟨b1, b2, b3, b4, b5⟩ := hb
          simp [hqr, hrq, p2, p3, h2r, h3r, c1, c2, c3, c4, c5, c6, c7, hlb, hcl, htk, p5, p5', rowOf, srcOf, b1, b2, b3, b4, Ne.symm b1, Ne.symm b2, Ne.symm b3, Ne.symm b4]
          refine ⟨by omega, by omega, fun d cap1 hd h1 h3 => ?_⟩
          have hd' : ¬ d = b ∧ ¬ d = c ∧ ¬ d = q ∧ ¬ d = r0 ∧ σ d = none := by
            rcases hd with rfl | hd
            · exact ⟨Ne.symm b2, c5, p3, p2, p1⟩
            · simp only [ite_none] at hd
              exact ⟨hd.1, hd.2.1, hd.2.2.2.1, hd.2.2.2.2.1, hd.2.2.2.2.2⟩
          obtain ⟨d1, d2, d3, d4, d5⟩ := hd'
          simp [hqr, hrq, p2, p3, h2r, h3r, c1, c2, c3, c4, c5, c6, c7, b1, b2, b3, b4, Ne.symm b1, Ne.symm b2, Ne.symm b3, Ne.symm b4, d1, d2, d3, d4, Ne.symm d1, Ne.symm d2, Ne.symm d3, Ne.symm d4]
          refine hfin (p1 := d) (cap1 := cap1) (rr1 := List.replicate ((cap1 - (init.length + 1 + 1)) * 2) .top) hes' (fun _ => ⟨d5, d4, d3, by rw [esO_length]; simp; omega, h3⟩) ?_
          rw [objS, if_neg (by simp)]
          rw [esO_append (init ++ [last]), esO_one]
          simp only [rowN, List.append_assoc, List.cons_append, List.nil_append, List.length_append, List.length_cons, List.length_nil]
          (intro q; simp only [Store.upd, Store.del]; (repeat' split) <;> first | exact Or.inr rfl | exact Or.inl rfl | (exfalso; omega) | (left; subst_vars; assumption) | simp_all)
        · by_cases k0 : op.kind = 0
          · have hes' : entS (init ++ [last]) op = some (init ++ [{ last with text := last.text ++ op.text }]) := by simp [entS, k0, addE_more]
            have htl : op.text.length ≤ 100000 := by simp only [grow, k0, if_true] at hg; omega
            simp [hlt, hg2, hopc, opC, k0, hqr, hrq, p2, p3, h2r, h3r]
            intro c hc
            obtain ⟨c1, c2, c3, c4, c5, c6, c7⟩ := hfr c (by simpa [hrN] using hc)
            refine callK.of (add_more q pp cap (byteA aid) (.lit (.bool short)) (.lit (.int .i64 n)) false init last rr op.text (by omega) (by omega) hcl p5' hlb _ p3 (by simp [c2, h3r, c6, p3]) (by simp [c1, c5])) ?_
            rintro v σ' ⟨rfl, rfl⟩
            simp [hqr, hrq, p2, p3, h2r, h3r, c1, c2, c3, c4, c5, c6, c7]
            refine hfin (p1 := pp) (cap1 := cap) (rr1 := rr) hes' (fun _ => ⟨p1, p2, p3, by rw [List.length_append, esO_length, hesl] at p4; rw [esO_length]; simp; omega, p5'⟩) ?_
            rw [objS, if_neg (by simp)]
            simp only [rowN, List.length_append, List.length_cons, List.length_nil]
            (intro q; simp only [Store.upd, Store.del]; (repeat' split) <;> first | exact Or.inr rfl | exact Or.inl rfl | (exfalso; omega) | (left; subst_vars; assumption) | simp_all)
          · by_cases k8 : op.kind = 8
            · have hes' : entS (init ++ [last]) op = some (init ++ [{ last with text := last.text ++ [op.code] }]) := by simp [entS, k8, addE_more]
              simp [hlt, hg2, hopc, opC, k8, hqr, hrq, p2, p3, h2r, h3r]
              intro c hc
              obtain ⟨c1, c2, c3, c4, c5, c6, c7⟩ := hfr c (by simpa [hrN] using hc)
              refine callK.of (add_more q pp cap (byteA aid) (.lit (.bool short)) (.lit (.int .i64 n)) true init last rr [op.code] (by simp; omega) (by omega) hcl p5' hlb _ p3 (by simp [c2, h3r, c6, p3]) (by simp [c1, c5])) ?_
              rintro v σ' ⟨rfl, rfl⟩
              simp [hqr, hrq, p2, p3, h2r, h3r, c1, c2, c3, c4, c5, c6, c7]
              refine hfin (p1 := pp) (cap1 := cap) (rr1 := rr) hes' (fun _ => ⟨p1, p2, p3, by rw [List.length_append, esO_length, hesl] at p4; rw [esO_length]; simp; omega, p5'⟩) ?_
              rw [objS, if_neg (by simp)]
              simp only [rowN, List.length_append, List.length_cons, List.length_nil]
              (intro q; simp only [Store.upd, Store.del]; (repeat' split) <;> first | exact Or.inr rfl | exact Or.inl rfl | (exfalso; omega) | (left; subst_vars; assumption) | simp_all)
            · by_cases k40 : op.kind = 40
              · have hes' : entS (init ++ [last]) op = some (init ++ [last]) := by simp [entS, k40]
                simp [hlt, hg2, hopc, opC, k40, hqr, hrq, p2, p3, h2r, h3r]
                intro c hc
                obtain ⟨c1, c2, c3, c4, c5, c6, c7⟩ := hfr c (by simpa [hrN] using hc)
                refine hfin (p1 := pp) (cap1 := cap) (rr1 := rr) hes' (fun _ => ⟨p1, p2, p3, by rw [List.length_append, esO_length, hesl] at p4; rw [esO_length]; simp; omega, p5'⟩) ?_
                rw [objS, if_neg (by simp)]
                simp only [rowN, List.length_append, List.length_cons, List.length_nil]
                (intro q; simp only [Store.upd, Store.del]; (repeat' split) <;> first | exact Or.inr rfl | exact Or.inl rfl | (exfalso; omega) | (left; subst_vars; assumption) | simp_all)
              · have k17' : ¬ (op.kind : Int) = 17 := by omega
                have k0' : ¬ (op.kind : Int) = 0 := by omega
                have k8' : ¬ (op.kind : Int) = 8 := by omega
                have k40' : ¬ (op.kind : Int) = 40 := by omega
                have hes' : entS (init ++ [last]) op = none := by simp [entS, k17, k0, k8, k40]
                have hT : TailS aid short n rest ⟨0, false, 0, []⟩ 4 := ⟨os, 0, hall, hol, by simp [hnone (hnx.trans hes')]⟩
                simp [hlt, hg2, hopc, opC, k17, k0, k8, k40, k17', k0', k8', k40', hqr, hrq, p2, p3, h2r, h3r]
                intro c hc
                obtain ⟨c1, c2, c3, c4, c5, c6, c7⟩ := hfr c (by simpa [hrN] using hc)
                simp [hqr, hrq, p2, p3, h2r, h3r, c1, c2, c3, c4, c5, c6, c7]
                refine ⟨_, AV.le_refl _, σ, ?_, .inl ⟨false, ⟨0, false, 0, []⟩, 4, rfl, rfl, hT⟩⟩
                (intro q; simp only [Store.upd, Store.del]; (repeat' split) <;> first | exact Or.inr rfl | exact Or.inl rfl | (exfalso; omega) | (left; subst_vars; assumption) | simp_all)
    · obtain rfl : i = os.length := by omega
      have hT : TailS aid short n rest ⟨aid, short, n, es⟩ 0 := ⟨os, 0, hall, hol, by simp at hes; simp [hes]⟩
      by_cases hne : es = []
      · subst hne
        simp [objS, hqr, hrq]
        refine ⟨_, AV.le_refl _, σ, ?_, .inr ⟨0, 0, [], [], rfl, hT, fun _ => rfl, fun h => absurd rfl h⟩⟩
        (intro q; simp only [Store.upd, Store.del]; (repeat' split) <;> first | exact Or.inr rfl | exact Or.inl rfl | (exfalso; omega) | (left; subst_vars; assumption) | simp_all)
      · obtain ⟨p1, p2, p3, p4, p5⟩ := hrow hne
        simp [objS, hne, hqr, hrq, p2, p3, Ne.symm p2, Ne.symm p3]
        refine ⟨_, AV.le_refl _, σ.upd pp (esO es ++ rr), ?_, .inr ⟨pp, cap, es, rr, ?_, hT, fun h => absurd h hne, fun _ => ⟨p1, p4, p5, rfl⟩⟩⟩
        · (intro q; simp only [Store.upd, Store.del]; (repeat' split) <;> first | exact Or.inr rfl | exact Or.inl rfl | (exfalso; omega) | (left; subst_vars; assumption) | simp_all)
        · simp [rowT, hne, rowN]
  · have h2' : ¬ (e2 : Int) = 0 := by omega
    simp [-Bool.exists_bool, hqr, hrq, h2, h2']
    refine ⟨_, AV.le_refl _, σ, ?_, .inl ⟨false, ⟨0, false, 0, []⟩, e2, rfl, rfl, os, e2, hall, hol, by rw [if_pos h2]⟩⟩
    (intro q; simp only [Store.upd, Store.del]; (repeat' split) <;> first | exact Or.inr rfl | exact Or.inl rfl | (exfalso; omega) | (left; subst_vars; assumption) | simp_all)
end Go.Proofs.Ytkbokmokklbahaa
/-
  A report of bytes: all of it.
-/
namespace Go.Proofs.Ytkbokmokklbahaa
open Go Go.AL

theorem le1_agg {xs ys : List AV} (h : AllLe1 xs ys) : (AV.agg xs).le1 (.agg ys) := fun F v hv => ⟨(AV.le_agg h F v hv).1, fun _ _ _ _ => by cases v <;> simp [Own1]⟩
theorem esO_flat (l : List En) : flat (l.map enO) = esO l := by simp [flat, esO, List.flatMap_map]
theorem esO_le (l : List En) : AllLe1 (flat (l.map enO)) (flat (ensA l)) := by
  induction l with
  | nil => exact trivial
  | cons e l ih => exact ⟨AV.le1_refl _, AV.le1_list true 1 (bytesA e.text), ih⟩
/-- What comes of bytes. -/
def ParS (p : List UInt8) (r : Rp) (e : Nat) : Prop := match p with
  | [a] => r = ⟨a, true, 0, []⟩ ∧ e = 0
  | a :: x :: y :: rest => if (decM x y).2 ≠ 0 then e = (decM x y).2 else TailS a false (decM x y).1 rest r e
  | _ => e = 2

theorem parse_tail2 (o ob : Bool) (p : List UInt8) (aid : UInt8) (short : Bool) (n : Nat) (rest : List UInt8) (hl : rest.length ≤ 100000) (σ : Store)
    (hb : ∀ σ, ACalls Try.prog 19 [.list false 1 (bytesA p)] σ fun v σ' => v = .tuple [hdA aid short n, .list ob 1 (bytesA rest), .lit (.int .i64 0)] ∧ σ' = σ) :
    ACalls Try.prog 11 [.list o 1 (bytesA p)] σ (PaR (TailS aid short n rest) σ) := by
  refine (parse_tail o ob p aid short n rest hl σ hb).shiftAgg fun v σ' h => ?_
  rcases h with h | ⟨p, cap, es, rest', rfl, hT, h0, h1⟩
  · exact .inl ⟨v, σ', AV.le_refl _, Store.sub_refl _, h⟩
  · by_cases hne : es = []
    · subst hne
      obtain rfl := h0 rfl
      refine .inl ⟨_, σ', ?_, Store.sub_refl _, false, ⟨aid, short, n, []⟩, 0, rfl, rfl, hT⟩
      exact AV.le_tuple ⟨le1_agg ⟨AV.le1_refl _, AV.le1_refl _, AV.le1_refl _, AV.le1_nil false 2, trivial⟩, AV.le1_refl _, trivial⟩
    · obtain ⟨h2, h3, h4, rfl⟩ := h1 hne
      have hfl := esO_flat es
      have hlen : (es.map enO).length = es.length := by simp
      have hd : (σ.upd p (esO es ++ rest')).del p = σ := by
        funext k; simp only [Store.del, Store.upd]; split
        · rename_i h; subst h; exact h2.symm
        · rfl
      refine .inr ⟨p, cap, 2, es.map enO, rest', [byteA aid, .lit (.bool short), .lit (.int .i64 n)], [], [.lit (.int .i64 0)], ?_, rfl, ?_, ?_, h4, ?_, ?_, ensA es, ?_, ?_⟩
      · simp [rowT, hne, rowN]
      · rw [hfl]; simp [Store.upd]
      · rw [hfl]; exact h3
      · rw [hlen]; rw [List.length_append, esO_length] at h3; omega
      · intro v hv
        obtain ⟨e, _, rfl⟩ := List.mem_map.1 hv; rfl
      · refine AV.le_els (by simp) (fun v hv => ?_) (esO_le es)
        obtain ⟨e, _, rfl⟩ := List.mem_map.1 hv; rfl
      · rw [hd]
        exact ⟨false, ⟨aid, short, n, es⟩, 0, rfl, rfl, hT⟩

set_option maxRecDepth 4000 in
theorem parse_err (o : Bool) (p : List UInt8) (e : Nat) (he : e ≠ 0) (σ : Store)
    (hb : ∀ σ, ACalls Try.prog 19 [.list false 1 (bytesA p)] σ fun v σ' => v = .tuple [hdA 0 false 0, .list true 1 [], .lit (.int .i64 e)] ∧ σ' = σ) :
    ACalls Try.prog 11 [.list o 1 (bytesA p)] σ fun v σ' => v = .tuple [rpO false ⟨0, false, 0, []⟩, .lit (.int .i64 e)] ∧ σ' = σ := by
  have hh : hdA 0 false 0 = .agg [byteA 0, .lit (.bool false), .lit (.int .i64 0), .lit (.slice none 0 0)] := rfl
  have he' : ¬ (e : Int) = 0 := by omega
  refine ACalls.of_awp follows (st := st11) (plans := pl11) (n := 65) Try.func11 rfl (by kernel_rfl) (by kernel_rfl) (by kernel_rfl) ?_
  simp
  intro r0 hr0
  refine callK.of (hb _) ?_
  rintro v σ' ⟨rfl, rfl⟩
  simp [-Bool.exists_bool, hh]
  intro q hq
  simp only [ite_none] at hq
  obtain ⟨hqr, hq⟩ := hq
  have hrq := Ne.symm hqr
  simp [-Bool.exists_bool, hqr, hrq, he, he']
  exact ⟨AV.le_refl _, by (intro q; simp only [Store.upd, Store.del]; (repeat' split) <;> first | exact Or.inr rfl | exact Or.inl rfl | (exfalso; omega) | (left; subst_vars; assumption) | simp_all)⟩
/-- What comes of bytes, and how. -/
theorem parse_calls (o : Bool) (p : List UInt8) (hl : p.length ≤ 100000) (σ : Store) : ACalls Try.prog 11 [.list o 1 (bytesA p)] σ (PaR (ParS p) σ) := by
  have err : ∀ e : Nat, e ≠ 0 → ParS p ⟨0, false, 0, []⟩ e → (∀ σ, ACalls Try.prog 19 [.list false 1 (bytesA p)] σ fun v σ' => v = .tuple [hdA 0 false 0, .list true 1 [], .lit (.int .i64 e)] ∧ σ' = σ) →
      ACalls Try.prog 11 [.list o 1 (bytesA p)] σ (PaR (ParS p) σ) := fun e he hs hb =>
    (parse_err o p e he σ hb).mono fun v σ' ⟨h1, h2⟩ => ⟨false, ⟨0, false, 0, []⟩, e, h1, h2, hs⟩
  have hb := fun σ => begin_calls false p (by omega) σ
  rcases p with _ | ⟨a, _ | ⟨x, _ | ⟨y, rest⟩⟩⟩
  · exact err 2 (by simp) rfl hb
  · refine (parse_tail2 o true [a] a true 0 [] (by simp) σ hb).mono fun v σ' ⟨ow, r, e, h1, h2, os, e2, h3, h4, h5⟩ => ⟨ow, r, e, h1, h2, ?_⟩
    have hos : os = [] := List.eq_nil_of_length_eq_zero (by simpa using h4)
    subst hos
    have he2 : e2 = 0 := by
      cases h3 with
      | nil => rfl
      | bad h => have := h.len; simp at this
    subst he2
    show r = _ ∧ e = 0
    simpa [entsS] using h5
  · exact err 2 (by simp) rfl hb
  · have h : ∀ σ, ACalls Try.prog 19 [.list false 1 (bytesA (a :: x :: y :: rest))] σ fun v σ' => v = (if (decM x y).2 ≠ 0 then .tuple [hdA 0 false 0, .list true 1 [], .lit (.int .i64 (decM x y).2)] else .tuple [hdA a false (decM x y).1, .list false 1 (bytesA rest), .lit (.int .i64 0)]) ∧ σ' = σ := hb
    by_cases he : (decM x y).2 ≠ 0
    · rw [if_pos he] at h
      exact err _ he (by show if _ then _ else _; rw [if_pos he]) h
    · rw [if_neg he] at h
      refine (parse_tail2 o false _ a false _ rest (by simp at hl; omega) σ h).mono fun v σ' ⟨ow, r, e, h1, h2, h3⟩ => ⟨ow, r, e, h1, h2, ?_⟩
      show if _ then _ else _
      rw [if_neg he]; exact h3
end Go.Proofs.Ytkbokmokklbahaa
/-
  What is parsed of a report's bytes is the report; the plain law.
-/
namespace Go.Proofs.Ytkbokmokklbahaa
open Go Go.AL

theorem AllS.sba {x y : UInt8} {tl : List UInt8} {os : List Op} {e : Nat} (h : AllS (17 :: x :: y :: tl) os e) (hd : (decM x y).2 = 0) : ∃ os', os = sbaOp (decM x y).1 :: os' ∧ AllS tl os' e := by
  cases h with
  | ok h1 h2 => obtain ⟨rfl, rfl, _⟩ := h1.sba _ _ _ rfl; exact ⟨_, rfl, h2⟩
  | bad h1 h2 => obtain ⟨_, _, h3⟩ := h1.sba _ _ _ rfl; exact absurd (h3.trans hd) h2
theorem until_all {t tl : List UInt8} (ht : hasOrd t = false) (htl : tl = [] ∨ ∃ c tl', tl = c :: tl' ∧ isOrd c = true) : untilO (t ++ tl) = t ∧ fromO (t ++ tl) = tl := by
  have h : ∀ c ∈ t, (!isOrd c) = true := fun c hc => by
    rw [hasOrd, List.any_eq_false] at ht
    simpa using ht c hc
  have h2 : tl.takeWhile (fun c => !isOrd c) = [] ∧ tl.dropWhile (fun c => !isOrd c) = tl := by
    rcases htl with rfl | ⟨c, tl', rfl, hc⟩
    · exact ⟨rfl, rfl⟩
    · simp [hc]
  simp only [untilO, fromO]
  rw [List.takeWhile_append_of_pos h, List.dropWhile_append_of_pos h, h2.1, h2.2]
  simp
theorem AllS.text {t tl : List UInt8} {os : List Op} {e : Nat} (h : AllS (t ++ tl) os e) (ht : hasOrd t = false) (hne : t ≠ []) (htl : tl = [] ∨ ∃ c tl', tl = c :: tl' ∧ isOrd c = true) : ∃ os', os = txtOp t :: os' ∧ AllS tl os' e := by
  obtain ⟨u1, u2⟩ := until_all ht htl
  obtain ⟨c, t', rfl⟩ := List.exists_cons_of_ne_nil hne
  have hc : isOrd c = false := by
    rw [hasOrd, List.any_eq_false] at ht
    simpa using ht c (by simp)
  generalize hl : (c :: t') ++ tl = l at *
  cases h with
  | nil => cases hl
  | ok h1 h2 =>
    obtain ⟨rfl, rfl, _⟩ := h1.text c (t' ++ tl) hl.symm hc
    rw [u1]; rw [u2] at h2; exact ⟨_, rfl, h2⟩
  | bad h1 h2 => obtain ⟨_, _, h3⟩ := h1.text c (t' ++ tl) hl.symm hc; exact absurd h3 h2

def encE (e : En) : List UInt8 := 17 :: encM e.addr.toNat ++ e.text
def fine (e : En) : Prop := okAddr e.addr ∧ hasOrd e.text = false
theorem dec_addr {n : Int} (h : okAddr n) : ∃ x y, encM n.toNat = [x, y] ∧ decM x y = (n.toNat, 0) ∧ ((n.toNat : Nat) : Int) = n :=
  ⟨_, _, rfl, dec_enc (by have := h.1; have := h.2; omega), by have := h.1; omega⟩
theorem enc_all : ∀ {es : List En} {os : List Op} {e : Nat}, (∀ x ∈ es, fine x) → AllS (es.flatMap encE) os e → e = 0 ∧ os = es.flatMap (opsE false)
  | [], os, e, _, h => by
    cases h with
    | nil => exact ⟨rfl, rfl⟩
    | ok h1 h2 => have := h1.len; simp at this
    | bad h1 h2 => have := h1.len; simp at this
  | x :: es, os, e, hf, h => by
    obtain ⟨f1, f2⟩ := hf x (by simp)
    obtain ⟨a, b, h1, h2, h3⟩ := dec_addr f1
    have hl : (x :: es).flatMap encE = 17 :: a :: b :: (x.text ++ es.flatMap encE) := by simp [encE, h1]
    rw [hl] at h
    obtain ⟨os1, rfl, k⟩ := h.sba (by rw [h2])
    have hd : (((decM a b).1 : Nat) : Int) = x.addr := by rw [h2]; exact h3
    have htl : es.flatMap encE = [] ∨ ∃ c tl', es.flatMap encE = c :: tl' ∧ isOrd c = true := by
      cases es with
      | nil => exact .inl rfl
      | cons z es => exact .inr ⟨17, encM z.addr.toNat ++ z.text ++ es.flatMap encE, by simp [encE], by decide⟩
    by_cases ht : x.text = []
    · rw [ht, List.nil_append] at k
      obtain ⟨r1, r2⟩ := enc_all (fun z hz => hf z (by simp [hz])) k
      exact ⟨r1, by simp [opsE, ht, hd, r2]⟩
    · obtain ⟨os2, rfl, k2⟩ := k.text f2 ht htl
      obtain ⟨r1, r2⟩ := enc_all (fun z hz => hf z (by simp [hz])) k2
      exact ⟨r1, by simp [opsE, ht, hd, r2]⟩

theorem entS_sba (es : List En) (n : Int) : entS es (sbaOp n) = some (es ++ [⟨n, []⟩]) := rfl
theorem entS_txt (es : List En) (t : List UInt8) : entS es (txtOp t) = some (addE es t) := rfl
theorem ents_enc (es : List En) : ∀ acc : List En, (es.flatMap (opsE false)).foldlM entS acc = some (acc ++ es) := by
  induction es with
  | nil => simp
  | cons e es ih =>
    intro acc
    obtain ⟨a, t⟩ := e
    by_cases ht : t = []
    · subst ht
      simp [opsE, entS_sba, ih]
    · simp [opsE, ht, entS_sba, entS_txt, addE_more, ih]

theorem seqB_zero {α : Type} {f : α → List UInt8 × Nat} : ∀ {l : List α}, (seqB f l).2 = 0 → (∀ o ∈ l, (f o).2 = 0) ∧ (seqB f l).1 = l.flatMap fun o => (f o).1
  | [], _ => ⟨by simp, rfl⟩
  | o :: l, h => by
    by_cases h1 : (f o).2 = 0
    · by_cases h2 : (seqB f l).2 = 0
      · obtain ⟨k1, k2⟩ := seqB_zero h2
        refine ⟨fun x hx => ?_, ?_⟩
        · rcases List.mem_cons.1 hx with rfl | hx
          · exact h1
          · exact k1 x hx
        · simp [seqB, h1, h2, k2]
      · simp [seqB, h1, h2] at h
    · simp [seqB, h1] at h
theorem entB_fine {e : En} (h : (entB false e).2 = 0) : fine e ∧ (entB false e).1 = encE e := by
  rw [entB_false] at h ⊢
  by_cases h1 : okAddr e.addr
  · by_cases h2 : hasOrd e.text = true
    · simp [h1, h2] at h
    · exact ⟨⟨h1, by simpa using h2⟩, by simp [h1, h2, encE]⟩
  · simp [h1] at h

/-- What a report's bytes are parsed to. -/
theorem par_rep {r r' : Rp} {e : Nat} (hz : (repB r).2 = 0) (h : ParS (repB r).1 r' e) : e = 0 ∧ r' = if r.short = true then ⟨r.aid, true, 0, []⟩ else r := by
  obtain ⟨aid, short, cursor, es⟩ := r
  by_cases hs : short = true
  · subst hs
    simp only [repB, if_true] at h
    exact ⟨h.2, by rw [h.1]; rfl⟩
  · have hs' : short = false := by simpa using hs
    subst hs'
    by_cases hc : okAddr cursor
    · by_cases hq : (seqB (entB (aloneL es)) es).2 = 0
      · obtain ⟨k1, k2⟩ := seqB_zero hq
        obtain ⟨x, y, h1, h2, h3⟩ := dec_addr hc
        have hr : (repB ⟨aid, false, cursor, es⟩).1 = aid :: x :: y :: es.flatMap fun o => (entB (aloneL es) o).1 := by
          simp [repB, hc, hq, k2, h1]
        rw [hr] at h
        have h' : if (decM x y).2 ≠ 0 then e = (decM x y).2 else TailS aid false (decM x y).1 (es.flatMap fun o => (entB (aloneL es) o).1) r' e := h
        rw [h2, if_neg (by simp)] at h'
        obtain ⟨os, e2, g1, _, g2⟩ := h'
        have fin : e2 = 0 → entsS os = some es → e = 0 ∧ r' = ⟨aid, false, cursor, es⟩ := fun q1 q2 => by
          subst q1
          rw [if_neg (by simp), q2] at g2
          obtain ⟨q3, q4⟩ := g2
          exact ⟨q4, by rw [q3]; simp [h3]⟩
        simp only [Bool.false_eq_true, if_false]
        by_cases ha : aloneL es = true
        · rcases aloneL_cases es with ⟨_, h⟩ | ⟨x, rfl, ⟨_, h⟩ | ⟨_, _, h⟩ | ⟨a1, a2, _⟩⟩
          · rw [h] at ha; cases ha
          · rw [h] at ha; cases ha
          · rw [h] at ha; cases ha
          · rw [ha] at g1 k1
            have hx := k1 x (by simp)
            rw [entB_true x a2] at hx
            have ho : hasOrd x.text = false := by
              by_cases h : hasOrd x.text = true
              · simp [h] at hx
              · simpa using h
            have hb : (entB true x).1 = x.text := by rw [entB_true x a2]; simp [ho]
            simp only [List.flatMap_cons, List.flatMap_nil, hb] at g1
            obtain ⟨os', rfl, k⟩ := g1.text ho (List.length_pos_iff.1 a2) (.inl rfl)
            obtain ⟨rfl, rfl⟩ := enc_all (es := []) (by simp) k
            refine fin rfl ?_
            obtain ⟨xa, xt⟩ := x
            simp only at a1; subst a1
            simp [entsS, entS_txt, addE]
        · have ha' : aloneL es = false := by simpa using ha
          rw [ha'] at g1 k1
          have hfl : (es.flatMap fun o => (entB false o).1) = es.flatMap encE := by
            have : ∀ l : List En, (∀ o ∈ l, (entB false o).2 = 0) → (l.flatMap fun o => (entB false o).1) = l.flatMap encE := fun l => by
              induction l with
              | nil => intro _; rfl
              | cons o l ih => intro hl; simp only [List.flatMap_cons]; rw [ih fun x hx => hl x (by simp [hx]), (entB_fine (hl o (by simp))).2]
            exact this es k1
          rw [hfl] at g1
          obtain ⟨rfl, rfl⟩ := enc_all (fun x hx => (entB_fine (k1 x hx)).1) g1
          exact fin rfl (ents_enc es [])
      · simp [repB, hc, hq] at hz
    · simp [repB, hc] at hz

/-- How many bytes a report has. -/
theorem rep_len (r : Rp) : (repB r).1.length ≤ 3 + textIn r.es + 3 * r.es.length := by
  obtain ⟨aid, short, cursor, es⟩ := r
  have key : ∀ al, ∀ l : List En, (seqB (entB al) l).1.length ≤ textIn l + 3 * l.length := fun al l => by
    induction l with
    | nil => simp [seqB]
    | cons e l ih =>
      have := entB_len al e
      simp only [seqB]
      split
      · simp
      · split
        · simp
        · simp [textIn] at ih ⊢; omega
  have := key (aloneL es) es
  by_cases hs : short = true
  · simp [repB, hs]; omega
  · by_cases hc : okAddr cursor
    · by_cases hq : (seqB (entB (aloneL es)) es).2 = 0
      · simp [repB, hs, hc, hq, encM]; omega
      · simp [repB, hs, hc, hq]
    · simp [repB, hs, hc]

/-- Texts that were read have no order's code. -/
def clean (es : List En) : Prop := ∀ e ∈ es, hasOrd e.text = false
theorem hasOrd_append (l k : List UInt8) : hasOrd (l ++ k) = (hasOrd l || hasOrd k) := by simp [hasOrd]
theorem entS_clean {l l' : List UInt8} {es es' : List En} {o : Op} (h : Step l o l' 0) (hc : clean es) (he : entS es o = some es') : clean es' := by
  obtain ⟨w1, w2, _⟩ := h.wf rfl
  have hadd : ∀ t, hasOrd t = false → clean (addE es t) := fun t ht => by
    rcases List.eq_nil_or_concat es with rfl | ⟨init, last, rfl⟩
    · intro e he; simp [addE] at he; subst he; exact ht
    · rw [List.concat_eq_append] at hc ⊢
      rw [addE_more]
      intro e he
      rcases List.mem_append.1 he with he | he
      · exact hc e (by simp [he])
      · simp at he; subst he
        simp only; rw [hasOrd_append, hc last (by simp), ht]; rfl
  unfold entS at he
  split at he
  · simp at he; subst he
    intro e he
    rcases List.mem_append.1 he with he | he
    · exact hc e he
    · simp at he; subst he; rfl
  · split at he
    · rename_i hk; simp at he; subst he; exact hadd _ (w1 hk).2
    · split at he
      · rename_i hk; simp at he; subst he; exact hadd _ (by simp [hasOrd, w2 hk])
      · split at he
        · simp at he; subst he; exact hc
        · cases he
theorem AllS.clean {l : List UInt8} {os : List Op} (h : AllS l os 0) : ∀ {es es' : List En}, clean es → os.foldlM entS es = some es' → clean es' := by
  generalize hz : 0 = e at h
  induction h with
  | nil => intro es es' hc he; simp at he; subst he; exact hc
  | ok h1 h2 ih =>
    intro es es' hc he
    rw [List.foldlM_cons] at he
    rename_i o os e
    cases ho : entS es o with
    | none => simp [ho] at he
    | some es1 =>
      simp [ho] at he
      exact ih hz (entS_clean h1 hc ho) he
  | bad h1 h2 => exact absurd hz.symm h2

theorem seqB_errs {α : Type} {f : α → List UInt8 × Nat} {c : Nat} : ∀ {l : List α}, (∀ o ∈ l, (f o).2 = 0 ∨ (f o).2 = c) → (seqB f l).2 = 0 ∨ (seqB f l).2 = c
  | [], _ => .inl rfl
  | o :: l, h => by
    by_cases h1 : (f o).2 = 0
    · have ih := seqB_errs (l := l) fun x hx => h x (by simp [hx])
      by_cases h2 : (seqB f l).2 = 0
      · exact .inl (by simp [seqB, h1, h2])
      · exact .inr (by simpa [seqB, h1, h2] using ih)
    · refine .inr ?_
      have := (h o (by simp)).resolve_left h1
      rw [show (seqB f (o :: l)).2 = (f o).2 by simp [seqB, h1]]; exact this
/-- What was parsed has its bytes, or an address that has none. -/
theorem par_again {p : List UInt8} {r : Rp} (hp : p.length ≤ 1000) (h : ParS p r 0) : (r.es.length ≤ 1000 ∧ textIn r.es ≤ 1000) ∧ small r ∧ ((repB r).2 = 0 ∨ (repB r).2 = 9) ∧ (if r.short = true then (⟨r.aid, true, 0, []⟩ : Rp) else r) = r := by
  have main : ∀ a n rest, rest.length ≤ 1000 → TailS a false n rest r 0 → (r.es.length ≤ 1000 ∧ textIn r.es ≤ 1000) ∧ small r ∧ ((repB r).2 = 0 ∨ (repB r).2 = 9) ∧ (if r.short = true then (⟨r.aid, true, 0, []⟩ : Rp) else r) = r := by
    rintro a n rest hl ⟨os, e2, h1, h2, h3⟩
    by_cases he : e2 = 0
    · subst he
      rw [if_neg (by simp)] at h3
      cases hes : entsS os with
      | none => rw [hes] at h3; cases h3
      | some es =>
        rw [hes] at h3
        obtain ⟨rfl, _⟩ := h3
        have hsz := entsS_size hes
        have hg := h1.grow
        have hcl := h1.clean (es := []) (by intro e he; cases he) hes
        refine ⟨⟨by simp at hsz ⊢; omega, by simp [textIn] at hsz ⊢; omega⟩, ⟨by simp at hsz ⊢; omega, fun e he => ?_⟩, ?_, rfl⟩
        · have : e.text.length ≤ textIn es := by
            obtain ⟨s, t, rfl⟩ := List.append_of_mem he
            rw [textIn_append]; simp [textIn]; omega
          simp [textIn] at hsz
          simp only [textIn] at this
          omega
        · have hent : ∀ al, (al = true → aloneL es = true) → ∀ o ∈ es, (entB al o).2 = 0 ∨ (entB al o).2 = 9 := by
            intro al hal o ho
            cases al with
            | false =>
              rw [entB_false]
              by_cases h1 : okAddr o.addr
              · simp [h1, hcl o ho]
              · simp [h1]
            | true =>
              have ha := hal rfl
              rcases aloneL_cases es with ⟨_, h⟩ | ⟨x, rfl, ⟨_, h⟩ | ⟨_, _, h⟩ | ⟨a1, a2, _⟩⟩
              · rw [h] at ha; cases ha
              · rw [h] at ha; cases ha
              · rw [h] at ha; cases ha
              · simp at ho; subst ho
                rw [entB_true _ a2]; simp [hcl o (by simp)]
          have := seqB_errs (hent (aloneL es) id)
          by_cases hc : okAddr (n : Int)
          · by_cases hq : (seqB (entB (aloneL es)) es).2 = 0
            · simp [repB, hc, hq]
            · simpa [repB, hc, hq] using this
          · simp [repB, hc]
    · rw [if_pos he] at h3; exact absurd h3.symm he
  rcases p with _ | ⟨a, _ | ⟨x, _ | ⟨y, rest⟩⟩⟩
  · cases h
  · obtain ⟨rfl, _⟩ := h
    exact ⟨⟨by simp, by simp [textIn]⟩, ⟨by simp, by simp⟩, .inl rfl, rfl⟩
  · cases h
  · have h' : if (decM x y).2 ≠ 0 then 0 = (decM x y).2 else TailS a false (decM x y).1 rest r 0 := h
    by_cases he : (decM x y).2 = 0
    · rw [if_neg (by simpa using he)] at h'
      exact main a _ rest (by simp at hp; omega) h'
    · rw [if_pos he] at h'; exact absurd h'.symm he

/-- The document's example. -/
def exR : Rp := ⟨0x7d, false, 2, [⟨1, [0xc1, 0xc2]⟩]⟩
theorem exB : repB exR = ([0x7d, 0x40, 0xc2, 0x11, 0x40, 0xc1, 0xc1, 0xc2], 0) := by decide +kernel
end Go.Proofs.Ytkbokmokklbahaa
/-
  Reports from the document's form to the program's and back; when two are the same.
-/
namespace Go.Proofs.Ytkbokmokklbahaa
open Go Go.AL

theorem ensA_take_succ (l : List En) (i : Nat) (h : i < l.length) : ensA (l.take (i + 1)) = ensA (l.take i) ++ [enA l[i]] := by
  rw [List.take_succ_eq_append_getElem h, ensA_append]; rfl

set_option maxRecDepth 4000 in
theorem own_calls (o : Bool) (r : Rp) (h : small r) (σ : Store) : ACalls Try.prog 8 [rpO o r] σ fun v σ' => v = rpO false r ∧ σ' = σ := by
  obtain ⟨aid, short, cursor, es⟩ := r
  obtain ⟨h1, h2⟩ := h
  dsimp only at h1 h2
  have hrp : ∀ o, rpO o ⟨aid, short, cursor, es⟩ = .agg [byteA aid, .lit (.bool short), .lit (.int .i64 cursor), .list o 2 (ensA es)] := fun _ => rfl
  rw [hrp, hrp]
  refine ACalls.of_awp follows (st := st8) (plans := pl8) (n := 33) Try.func8 rfl (by kernel_rfl) (by kernel_rfl) (by kernel_rfl) ?_
  simp (config := { contextual := true }) [ite_free]
  intro p hp r0 n1 n2 _ q n3 n4 n5 n6 _
  refine codeK.loop follows (st := st8) (plans := pl8) (X := Nat) (fun i => i ≤ es.length)
    (fun i => [(2, ptrA r0), (3, ptrA q), (14, .list false 2 (ensA es)), (15, .lit (.int .i64 es.length)), (16, .lit (.int .i64 i))])
    (fun i => (σ.upd r0 [.lit (.int .u8 0), .lit (.bool false), .lit (.int .i64 0), .list true 2 []]).upd q [byteA aid, .lit (.bool short), .lit (.int .i64 cursor), .list true 2 (ensA (es.take i))])
    (fun i => es.length - i) 0 (by kernel_rfl) (by simp) (by simp) (by simp [ensA]; (intro q; simp only [Store.upd, Store.del]; (repeat' split) <;> first | exact Or.inr rfl | exact Or.inl rfl | (exfalso; omega) | (left; subst_vars; assumption) | simp_all)) fun i hi => ?_
  by_cases hlt : i < es.length
  · have hw : IntKind.i64.wrap ((i : Int) + 1) = ((i + 1 : Nat) : Int) := wrap_i64 (by omega) (by omega)
    have ha := ensA_at es i hlt
    have ht := h2 es[i] (List.getElem_mem _)
    have hs := ensA_take_succ es i hlt
    have hcp := fun σ => copy_calls false es[i].text σ (by omega)
    generalize es[i] = e at *
    obtain ⟨ad, tx⟩ := e
    simp (config := { contextual := true }) [hlt, ha, enA, n3, n4, ite_free]
    intro c c1 c2 c3 c4 c5
    repeat' apply And.intro
    all_goals
      refine callK.of (hcp _) ?_
      rintro v σ' ⟨rfl, rfl⟩
      simp (config := { contextual := true }) [n3, n4, c1, c2, c3, c4]
      refine ⟨by omega, by omega, i + 1, by omega, by omega, by rw [hw]; exact AV.le_refl _, ?_⟩
      rw [hs]
      (intro q; simp only [Store.upd, Store.del]; (repeat' split) <;> first | exact Or.inr rfl | exact Or.inl rfl | (exfalso; omega) | (left; subst_vars; assumption) | simp_all)
  · obtain rfl : i = es.length := by omega
    simp [n3, n4]
    (intro q; simp only [Store.upd, Store.del]; (repeat' split) <;> first | exact Or.inr rfl | exact Or.inl rfl | (exfalso; omega) | (left; subst_vars; assumption) | simp_all)

set_option maxRecDepth 4000 in
theorem back_calls (o : Bool) (r : Rp) (h1 : r.es.length ≤ 1000000) (σ : Store) : ACalls Try.prog 13 [rpO o r] σ fun v σ' => v = rpO false r ∧ σ' = σ := by
  obtain ⟨aid, short, cursor, es⟩ := r
  dsimp only at h1
  have hrp : ∀ o, rpO o ⟨aid, short, cursor, es⟩ = .agg [byteA aid, .lit (.bool short), .lit (.int .i64 cursor), .list o 2 (ensA es)] := fun _ => rfl
  rw [hrp, hrp]
  refine ACalls.of_awp follows (st := st13) (plans := pl13) (n := 28) Try.func13 rfl (by kernel_rfl) (by kernel_rfl) (by kernel_rfl) ?_
  simp (config := { contextual := true }) [ite_free]
  intro p hp r0 n1 n2 _ q n3 n4 n5 n6 _
  refine codeK.loop follows (st := st13) (plans := pl13) (X := Nat) (fun i => i ≤ es.length)
    (fun i => [(2, ptrA r0), (3, ptrA q), (14, .list false 2 (ensA es)), (15, .lit (.int .i64 es.length)), (16, .lit (.int .i64 i))])
    (fun i => (σ.upd r0 [.lit (.int .u8 0), .lit (.bool false), .lit (.int .i64 0), .list true 2 []]).upd q [byteA aid, .lit (.bool short), .lit (.int .i64 cursor), .list true 2 (ensA (es.take i))])
    (fun i => es.length - i) 0 (by kernel_rfl) (by simp) (by simp) (by simp [ensA]; (intro q; simp only [Store.upd, Store.del]; (repeat' split) <;> first | exact Or.inr rfl | exact Or.inl rfl | (exfalso; omega) | (left; subst_vars; assumption) | simp_all)) fun i hi => ?_
  by_cases hlt : i < es.length
  · have hw : IntKind.i64.wrap ((i : Int) + 1) = ((i + 1 : Nat) : Int) := wrap_i64 (by omega) (by omega)
    have ha := ensA_at es i hlt
    have hs := ensA_take_succ es i hlt
    generalize es[i] = e at *
    obtain ⟨ad, tx⟩ := e
    simp (config := { contextual := true }) [hlt, ha, enA, n3, n4, ite_free]
    intro c c1 c2 c3 c4 c5
    refine ⟨by omega, by omega, i + 1, by omega, by omega, by rw [hw]; exact AV.le_refl _, ?_⟩
    rw [hs]
    (intro q; simp only [Store.upd, Store.del]; (repeat' split) <;> first | exact Or.inr rfl | exact Or.inl rfl | (exfalso; omega) | (left; subst_vars; assumption) | simp_all)
  · obtain rfl : i = es.length := by omega
    simp [n3, n4]
    (intro q; simp only [Store.upd, Store.del]; (repeat' split) <;> first | exact Or.inr rfl | exact Or.inl rfl | (exfalso; omega) | (left; subst_vars; assumption) | simp_all)

def sameE (x y : En) : Bool := decide (x.addr = y.addr) && (x.text == y.text)
theorem sameE_iff {x y : En} : sameE x y = true ↔ x = y := by
  obtain ⟨a, t⟩ := x; obtain ⟨b, u⟩ := y
  simp [sameE]
set_option maxRecDepth 4000 in
theorem rsame_calls (o o' : Bool) (r s : Rp) (h1 : r.es.length ≤ 1000000) (σ : Store) : ACalls Try.prog 12 [rpO o r, rpO o' s] σ fun v σ' => v = .lit (.bool (decide (r = s))) ∧ σ' = σ := by
  obtain ⟨aid, short, cursor, es⟩ := r
  obtain ⟨aid', short', cursor', fs⟩ := s
  dsimp only at h1
  have hrp : ∀ o aid short cursor es, rpO o ⟨aid, short, cursor, es⟩ = .agg [byteA aid, .lit (.bool short), .lit (.int .i64 cursor), .list o 2 (ensA es)] := fun _ _ _ _ _ => rfl
  rw [hrp, hrp]
  refine ACalls.of_awp follows (st := st12) (plans := pl12) (n := 70) Try.func12 rfl (by kernel_rfl) (by kernel_rfl) (by kernel_rfl) ?_
  by_cases e1 : aid = aid'
  case neg =>
    have e1' : ¬ (aid.toNat : Int) = aid'.toNat := fun h => e1 (UInt8.toNat_inj.1 (by omega))
    simp (config := { contextual := true }) [ite_free, byteA, e1, e1']
    intros; (intro q; simp only [Store.upd, Store.del]; (repeat' split) <;> first | exact Or.inr rfl | exact Or.inl rfl | (exfalso; omega) | (left; subst_vars; assumption) | simp_all)
  subst e1
  by_cases e2 : short = short'
  case neg =>
    simp (config := { contextual := true }) [ite_free, byteA, e2]
    intros; (intro q; simp only [Store.upd, Store.del]; (repeat' split) <;> first | exact Or.inr rfl | exact Or.inl rfl | (exfalso; omega) | (left; subst_vars; assumption) | simp_all)
  subst e2
  by_cases e3 : cursor = cursor'
  case neg =>
    simp (config := { contextual := true }) [ite_free, byteA, e3]
    intros; (intro q; simp only [Store.upd, Store.del]; (repeat' split) <;> first | exact Or.inr rfl | exact Or.inl rfl | (exfalso; omega) | (left; subst_vars; assumption) | simp_all)
  subst e3
  by_cases e4 : es.length = fs.length
  case neg =>
    have e4' : ¬ (es.length : Int) = fs.length := by omega
    have e5 : ¬ es = fs := fun h => e4 (h ▸ rfl)
    simp (config := { contextual := true }) [ite_free, byteA, e4, e4', e5]
    intros; (intro q; simp only [Store.upd, Store.del]; (repeat' split) <;> first | exact Or.inr rfl | exact Or.inl rfl | (exfalso; omega) | (left; subst_vars; assumption) | simp_all)
  simp (config := { contextual := true }) [ite_free, byteA, e4]
  intro p hp q n1 n2 _
  refine codeK.loop follows (st := st12) (plans := pl12) (X := Nat) (fun i => i ≤ es.length ∧ ∀ j, (h : j < es.length) → j < i → sameE es[j] (fs[j]'(by omega)) = true)
    (fun i => [(2, ptrA p), (3, ptrA q), (36, .lit (.int .i64 es.length)), (37, .lit (.int .i64 i))])
    (fun i => (σ.upd p [byteA aid, .lit (.bool short), .lit (.int .i64 cursor), .list o 2 (ensA es)]).upd q [byteA aid, .lit (.bool short), .lit (.int .i64 cursor), .list o' 2 (ensA fs)])
    (fun i => es.length - i) 0 (by kernel_rfl) (by simp) (by simp [e4]) (by simp [byteA]) fun i ⟨hi, hk⟩ => ?_
  by_cases hlt : i < es.length
  · have hw : IntKind.i64.wrap ((i : Int) + 1) = ((i + 1 : Nat) : Int) := wrap_i64 (by omega) (by omega)
    have hlt' : i < fs.length := by omega
    have ha := ensA_at es i hlt
    have hb := ensA_at fs i hlt'
    have hno : sameE es[i] fs[i] = true → ∀ j, (h : j < es.length) → j < i + 1 → sameE es[j] (fs[j]'(by omega)) = true := fun h j hj hji => by
      by_cases e : j = i
      · subst e; exact h
      · exact hk j hj (by omega)
    have hyes : sameE es[i] fs[i] = false → ¬ es = fs := fun h e => by
      subst e
      rw [sameE_iff.2 rfl] at h; cases h
    have hcp := fun σ => same_calls false false es[i].text fs[i].text σ
    generalize es[i] = x at *
    generalize fs[i] = y at *
    obtain ⟨a, t⟩ := x; obtain ⟨b, u⟩ := y
    simp only [sameE] at hno hyes
    by_cases e5 : a = b
    · subst e5
      simp (config := { contextual := true }) [hlt, hlt', ha, hb, enA, n1, n2, ite_free, e4 ▸ hlt]
      refine callK.of (hcp _) ?_
      rintro v σ' ⟨rfl, rfl⟩
      by_cases e6 : (t == u) = true
      · simp [e6]
        exact ⟨i + 1, ⟨by omega, hno (by simp [e6])⟩, by omega, by rw [hw]; exact AV.le_refl _⟩
      · have e7 := hyes (by simpa using e6)
        simp [e6, e7]
        (intro q; simp only [Store.upd, Store.del]; (repeat' split) <;> first | exact Or.inr rfl | exact Or.inl rfl | (exfalso; omega) | (left; subst_vars; assumption) | simp_all)
    · have e7 := hyes (by simp [e5])
      simp (config := { contextual := true }) [hlt, hlt', ha, hb, enA, n1, n2, e5, e7, ite_free, e4 ▸ hlt]
      (intro q; simp only [Store.upd, Store.del]; (repeat' split) <;> first | exact Or.inr rfl | exact Or.inl rfl | (exfalso; omega) | (left; subst_vars; assumption) | simp_all)
  · obtain rfl : i = es.length := by omega
    have heq : es = fs := by
      refine List.ext_getElem e4 fun j h1 h2 => ?_
      exact sameE_iff.1 (hk j h1 h1)
    simp [n1, n2, heq]
    (intro q; simp only [Store.upd, Store.del]; (repeat' split) <;> first | exact Or.inr rfl | exact Or.inl rfl | (exfalso; omega) | (left; subst_vars; assumption) | simp_all)

set_option maxRecDepth 4000 in
/-- The document's example. -/
theorem awake_calls (σ : Store) : ACalls Try.prog 5 [] σ fun v σ' => v = .lit (.bool true) ∧ σ' = σ := by
  have hp : ∀ σ, ACalls Try.prog 11 [.list true 1 (bytesA (repB exR).1)] σ fun v σ' => (∃ ow, v = .tuple [rpO ow exR, .lit (.int .i64 0)]) ∧ σ' = σ := fun σ =>
    (parse_calls true (repB exR).1 (by rw [exB]; simp) σ).mono fun v σ' ⟨ow, r, e, h1, h2, h3⟩ => by
      obtain ⟨rfl, rfl⟩ := par_rep (by rw [exB]) h3
      exact ⟨⟨ow, h1⟩, h2⟩
  rw [exB] at hp
  simp only [bytesA, byteA, List.map_cons, List.map_nil] at hp
  have hc : ∀ ow, rpO ow exR = .agg [.lit (.int .u8 125), .lit (.bool false), .lit (.int .i64 2), .list ow 2 [.agg [.lit (.int .i64 1), .list false 1 (bytesA [0xc1, 0xc2])]]] := fun _ => rfl
  refine ACalls.of_awp follows (st := st5) (plans := pl5) (n := 43) Try.func5 rfl (by kernel_rfl) (by kernel_rfl) (by kernel_rfl) ?_
  simp
  refine callK.of (hp _) ?_
  rintro v σ' ⟨⟨ow, rfl⟩, rfl⟩
  simp (config := { contextual := true }) [hc, bytesOf_bytesA]
end Go.Proofs.Ytkbokmokklbahaa
/-
  What was read, told as bytes and read once more is the same.
-/
namespace Go.Proofs.Ytkbokmokklbahaa
open Go Go.AL

set_option maxRecDepth 4000 in
theorem again_law (l : List UInt8) (σ : Store) : ACalls Try.prog 4 [.list false 1 (bytesA l)] σ fun v _ => v = .lit (.bool true) := by
  have hrp : ∀ o r, rpO o r = .agg [byteA r.aid, .lit (.bool r.short), .lit (.int .i64 r.cursor), .list o 2 (ensA r.es)] := fun _ _ => rfl
  refine ACalls.of_awp follows (st := st4) (plans := pl4) (n := 42) Try.func4 rfl (by kernel_rfl) (by kernel_rfl) (by kernel_rfl) ?_
  simp
  refine callK.of (awake_calls _) ?_
  rintro v σ' ⟨rfl, rfl⟩
  simp
  refine callK.of (cut_calls false l 400 _ (by simp)) ?_
  rintro v σ' ⟨rfl, rfl⟩
  simp
  have hl : (l.take 400).length ≤ 400 := by simp; omega
  generalize l.take 400 = p at *
  refine callK.of (parse_calls true p (by omega) _) ?_
  rintro v σ' ⟨ow, r, e, rfl, rfl, hpar⟩
  by_cases he : e = 0
  · subst he
    obtain ⟨⟨hm1, hm2⟩, hsm, herr, hsh⟩ := par_again (by omega) hpar
    have hb := fun σ => ebytes_calls false r hsm σ
    rw [hrp] at hb
    simp (config := { contextual := true }) [-Bool.exists_bool, hrp]
    intro q hq
    refine callK.of (hb _) ?_
    rintro v σ1 ⟨rfl, rfl⟩
    simp only [outA]
    by_cases hz : (repB r).2 = 0
    · have hrr := fun e r' => par_rep (r := r) (r' := r') (e := e) hz
      rw [hsh] at hrr
      have hlen : (repB r).1.length ≤ 100000 := by have := rep_len r; omega
      simp (config := { contextual := true }) [-Bool.exists_bool, hz]
      refine callK.of (parse_calls false _ hlen _) ?_
      rintro v σ1 ⟨ow2, r2, e2, rfl, rfl, hpar2⟩
      obtain ⟨rfl, rfl⟩ := hrr _ _ hpar2
      simp (config := { contextual := true }) [-Bool.exists_bool, hrp, ite_free]
      intro q2 n1 n2 _
      have hbk := fun σ => back_calls false r2 (by omega) σ
      have hsa := fun σ => rsame_calls false false r2 r2 (by omega) σ
      rw [hrp] at hbk hsa
      constructor <;>
        (refine callK.of (hbk _) ?_
         rintro v σ' ⟨rfl, rfl⟩
         simp (config := { contextual := true }) [-Bool.exists_bool, hrp, n1, n2]
         refine callK.of (hbk _) ?_
         rintro v σ' ⟨rfl, rfl⟩
         simp (config := { contextual := true }) [-Bool.exists_bool, hrp, n1, n2]
         refine callK.of (hsa _) ?_
         rintro v σ' ⟨rfl, rfl⟩
         simp
         exact ⟨_, Store.sub_refl _⟩)
    · have hz2 : ((repB r).2 : Int) = 9 := by omega
      simp (config := { contextual := true }) [-Bool.exists_bool, hz, hz2]
      exact ⟨_, Store.sub_refl _⟩
  · have he' : ¬ (e : Int) = 0 := by omega
    simp (config := { contextual := true }) [-Bool.exists_bool, hrp, he, he']
    exact fun _ _ => ⟨_, Store.sub_refl _⟩
end Go.Proofs.Ytkbokmokklbahaa
/-
  Arguments opened.
-/
namespace Go.Proofs.Ytkbokmokklbahaa
open Go Go.AL
theorem open_bytes : Opens Try.prog 26 (fun l : List UInt8 => [.list false 1 (bytesA l)]) (fun _ => True) :=
  (Opens.slice Try.underlying26 (sz := 1) (by kernel_rfl) (by omega) (Opens.u8 Try.underlying5) byteA (fun _ => rfl) (fun _ => rfl)).by id fun _ _ => ⟨trivial, rfl⟩
theorem open_en : Opens Try.prog 28 (fun e : En => (enA e).cells) (fun _ => True) :=
  (Opens.struct (total := 2) Try.underlying28 (by kernel_rfl)
    (.cons (k := 1) rfl (by kernel_rfl) (by omega) (Opens.i64 Try.underlying3) (.cons (k := 1) rfl (by kernel_rfl) (by omega) open_bytes .nil))).by
    (fun x => ⟨x.1, x.2.1⟩) fun _ _ => ⟨trivial, rfl⟩
theorem open_ens : Opens Try.prog 22 (fun l : List En => [.list false 2 (ensA l)]) (fun l => l.length ≤ maxLen ∧ ∀ e ∈ l, True) :=
  Opens.slice Try.underlying22 (by kernel_rfl) (by omega) open_en enA (fun _ => rfl) (fun _ => rfl)
theorem open_rp : Opens Try.prog 24 (fun r : Rp => [byteA r.aid, .lit (.bool r.short), .lit (.int .i64 r.cursor), .list false 2 (ensA r.es)]) (fun r => r.es.length ≤ maxLen) :=
  (Opens.struct (total := 4) Try.underlying24 (by kernel_rfl)
    (.cons (k := 1) rfl (by kernel_rfl) (by omega) (Opens.u8 Try.underlying5) (.cons (k := 1) rfl (by kernel_rfl) (by omega) (Opens.bool Try.underlying4) (.cons (k := 1) rfl (by kernel_rfl) (by omega) (Opens.i64 Try.underlying3)
      (.cons (k := 1) rfl (by kernel_rfl) (by omega) open_ens .nil))))).by
    (fun x => ⟨x.1, x.2.1, x.2.2.1, x.2.2.2.1⟩) fun _ h => ⟨h.2.2.2.1.1, rfl⟩
end Go.Proofs.Ytkbokmokklbahaa
