/-
  A report's bytes: the program's and the document's.
-/
import Derived.Test.YtkbokmokklbahaaPart9
namespace Go.Proofs.Ytkbokmokklbahaa
open Go Go.AL

@[simp] theorem byteA_share (b : UInt8) : (byteA b).share = byteA b := nr rfl
@[simp] theorem byteA_drop1 (b : UInt8) : (byteA b).drop1 = byteA b := nr rfl
@[simp] theorem byteA_keep1 (b : UInt8) : (byteA b).keep1 = byteA b := nr rfl
@[simp] theorem byteA_cells (b : UInt8) : (byteA b).cells = [byteA b] := nr rfl
@[simp] theorem byteA_one (b : UInt8) : (byteA b).one = true := nr rfl
@[simp] theorem byteA_solid (b : UInt8) : (byteA b).solid = true := nr rfl
@[simp] theorem byteA_conv (P : Program) (t : TypeId) (b : UInt8) : conv P t (byteA b) = byteA b := nr rfl

def sbaOp (n : Int) : Op := { kind := 17, addr := n }
def txtOp (l : List UInt8) : Op := { text := l }
def opsE (alone : Bool) (e : En) : List Op := (if alone = true then [] else [sbaOp e.addr]) ++ (if e.text = [] then [] else [txtOp e.text])
def entB (alone : Bool) (e : En) : List UInt8 × Nat := seqB opB (opsE alone e)
def aloneL : List En → Bool
  | [e] => decide (e.addr = 0) && decide (0 < e.text.length)
  | _ => false
def repB (r : Rp) : List UInt8 × Nat :=
  if r.short = true then ([r.aid], 0) else if okAddr r.cursor then
    (if (seqB (entB (aloneL r.es)) r.es).2 ≠ 0 then ([], (seqB (entB (aloneL r.es)) r.es).2) else (r.aid :: encM r.cursor.toNat ++ (seqB (entB (aloneL r.es)) r.es).1, 0)) else ([], 9)

theorem opsE_good (a : Bool) (e : En) (h : e.text.length ≤ 1000000) : ∀ x ∈ opsE a e, good x := by
  intro x hx
  simp only [opsE, List.mem_append] at hx
  rcases hx with hx | hx
  · split at hx
    · simp at hx
    · simp at hx; subst hx; exact .inr rfl
  · split at hx
    · simp at hx
    · simp at hx; subst hx; exact .inl ⟨rfl, h⟩
theorem opsE_len (a : Bool) (e : En) : (opsE a e).length ≤ 2 := by
  simp only [opsE, List.length_append]
  (repeat' split) <;> simp
theorem entB_err (a : Bool) (e : En) (h : (entB a e).2 ≠ 0) : (entB a e).1 = [] := seqB_err opB_err _ h
theorem entB_len (a : Bool) (e : En) : (entB a e).1.length ≤ e.text.length + 3 := by
  have h1 : ∀ l, (opB (txtOp l)).1.length ≤ l.length := fun l => by
    by_cases h : l = [] ∨ hasOrd l = true <;> simp [opB, txtOp, h]
  have h2 : ∀ n, (opB (sbaOp n)).1.length ≤ 3 := fun n => by
    by_cases h : okAddr n <;> simp [opB, sbaOp, h, encM]
  have h3 := h1 e.text
  have h4 := h2 e.addr
  have key : ∀ l : List Op, (seqB opB l).1.length ≤ (l.map fun o => (opB o).1.length).sum := fun l => by
    induction l with
    | nil => simp [seqB]
    | cons o l ih =>
      simp only [seqB, List.map_cons, List.sum_cons]
      split
      · simp
      · split
        · simp
        · simp; omega
  have := key (opsE a e)
  have h5 : ((opsE a e).map fun o => (opB o).1.length).sum ≤ e.text.length + 3 := by
    simp only [opsE]
    by_cases ha : a = true <;> by_cases ht : e.text = [] <;> simp [ha, ht] <;> omega
  unfold entB; omega

theorem ensA_at (l : List En) (i : Nat) (h : i < l.length) : (ensA l)[i]'(by simpa using h) = enA l[i] := by simp [ensA]
def sumE (a : Bool) (l : List En) (i : Nat) : List UInt8 := (l.take i).flatMap fun e => (entB a e).1
theorem sumE_succ (a : Bool) (l : List En) (i : Nat) (h : i < l.length) : sumE a l (i + 1) = sumE a l i ++ (entB a l[i]).1 := by
  rw [sumE, sumE, List.take_succ_eq_append_getElem h, List.flatMap_append]; simp
theorem sumE_len (a : Bool) (l : List En) (hg : ∀ e ∈ l, e.text.length ≤ 1000) (i : Nat) (h : i ≤ l.length) : (sumE a l i).length ≤ i * 1003 := by
  induction i with
  | zero => simp [sumE]
  | succ i ih =>
    rw [sumE_succ a l i (by omega), List.length_append]
    have := ih (by omega)
    have := entB_len a l[i]
    have := hg _ (List.getElem_mem (show i < l.length by omega))
    omega

theorem aloneL_cases (es : List En) : (¬ es.length = 1 ∧ aloneL es = false) ∨ ∃ e, es = [e] ∧ ((¬ e.addr = 0 ∧ aloneL es = false) ∨ (e.addr = 0 ∧ e.text.length = 0 ∧ aloneL es = false) ∨ (e.addr = 0 ∧ 0 < e.text.length ∧ aloneL es = true)) := by
  rcases es with _ | ⟨e, _ | ⟨f, l⟩⟩
  · exact .inl ⟨by simp, rfl⟩
  · refine .inr ⟨e, rfl, ?_⟩
    by_cases h1 : e.addr = 0
    · by_cases h2 : 0 < e.text.length
      · exact .inr (.inr ⟨h1, h2, by simp [aloneL, h1, h2]⟩)
      · exact .inr (.inl ⟨h1, by omega, by simp [aloneL, h2]⟩)
    · exact .inl ⟨h1, by simp [aloneL, h1]⟩
  · exact .inl ⟨by simp, rfl⟩

set_option maxRecDepth 4000 in
theorem ebytes_short (o : Bool) (aid : UInt8) (cursor : Int) (es : List En) (σ : Store) :
    ACalls Try.prog 7 [.agg [byteA aid, .lit (.bool true), .lit (.int .i64 cursor), .list o 2 (ensA es)]] σ fun v σ' => v = .tuple [.list true 1 (bytesA [aid]), .lit (.int .i64 0)] ∧ σ' = σ := by
  refine ACalls.of_awp follows (st := st7) (plans := pl7) (n := 91) Try.func7 rfl (by kernel_rfl) (by kernel_rfl) (by kernel_rfl) ?_
  simp [byteA, bytesA]
  exact fun p hp => sub_upd_self _ _ _ hp
set_option maxRecDepth 4000 in
theorem ebytes_bad (o : Bool) (aid : UInt8) (cursor : Int) (es : List En) (σ : Store) (hen : ∀ σ, ACalls Try.prog 15 [.lit (.int .i64 12), .lit (.int .i64 cursor)] σ fun v σ' => v = .tuple [.list true 1 [], .lit (.int .i64 9)] ∧ σ' = σ) :
    ACalls Try.prog 7 [.agg [byteA aid, .lit (.bool false), .lit (.int .i64 cursor), .list o 2 (ensA es)]] σ fun v σ' => v = .tuple [.list true 1 [], .lit (.int .i64 9)] ∧ σ' = σ := by
  refine ACalls.of_awp follows (st := st7) (plans := pl7) (n := 91) Try.func7 rfl (by kernel_rfl) (by kernel_rfl) (by kernel_rfl) ?_
  simp
  intro p hp
  refine callK.of (hen _) ?_
  rintro v σ' ⟨rfl, rfl⟩
  simp [hp]

set_option maxRecDepth 4000 in
set_option maxHeartbeats 2000000 in
theorem ebytes_ok (o : Bool) (aid : UInt8) (cursor : Int) (es : List En) (he : List UInt8) (hhl : he.length = 2) (hl : es.length ≤ 1000) (hg : ∀ e ∈ es, e.text.length ≤ 1000) (al : Bool) (hal : aloneL es = al) (σ : Store)
    (hen : ∀ σ, ACalls Try.prog 15 [.lit (.int .i64 12), .lit (.int .i64 cursor)] σ fun v σ' => v = .tuple [.list true 1 (bytesA he), .lit (.int .i64 0)] ∧ σ' = σ) :
    ACalls Try.prog 7 [.agg [byteA aid, .lit (.bool false), .lit (.int .i64 cursor), .list o 2 (ensA es)]] σ fun v σ' =>
      v = .tuple (if (seqB (entB al) es).2 ≠ 0 then [.list true 1 [], .lit (.int .i64 (seqB (entB al) es).2)] else [.list true 1 (bytesA (aid :: he ++ (seqB (entB al) es).1)), .lit (.int .i64 0)]) ∧ σ' = σ := by
  have h1 : 1 + he.length ≤ 9223372036854775807 := by omega
  have h2 : 1 + he.length ≤ 140737488355328 := by omega
  have hb : ∀ l, byteA aid :: (bytesA he ++ bytesA l) = bytesA (aid :: he ++ l) := fun l => by simp [bytesA]
  have hcase := aloneL_cases es
  rw [hal] at hcase
  refine ACalls.of_awp follows (st := st7) (plans := pl7) (n := 91) Try.func7 rfl (by kernel_rfl) (by kernel_rfl) (by kernel_rfl) ?_
  simp
  intro p hp
  refine callK.of (hen _) ?_
  rintro v σ' ⟨rfl, rfl⟩
  rcases hcase with ⟨c1, rfl⟩ | ⟨e, c0, ⟨c1, rfl⟩ | ⟨c1, c2, rfl⟩ | ⟨c1, c2, rfl⟩⟩
  all_goals (first | (have g1 : (es.length : Int) = 1 := by rw [c0]; rfl) | skip)
  all_goals (first | (have g2 : (ensA es)[0]? = some (enA e) := by rw [c0]; rfl) | skip)
  · have c1' : ¬ (es.length : Int) = 1 := by omega
    simp [h1, h2, c1']
    refine codeK.loop follows (st := st7) (plans := pl7) (X := Nat) (fun i => i ≤ es.length ∧ ∀ j (hj : j < es.length), j < i → (entB false es[j]).2 = 0)
      (fun i => [(6, .list true 1 (bytesA (aid :: he ++ sumE false es i))), (7, .lit (.bool false)), (54, .list false 2 (ensA es)), (55, .lit (.int .i64 es.length)), (56, .lit (.int .i64 i))]) (fun _ => σ) (fun i => es.length - i) 0 (by kernel_rfl) (by simp) (by simp [sumE, bytesA]) (sub_upd_self _ _ _ hp) fun i hi => ?_
    obtain ⟨hi, hk⟩ := hi
    by_cases hlt : i < es.length
    · have hw : IntKind.i64.wrap ((i : Int) + 1) = ((i + 1 : Nat) : Int) := wrap_i64 (by omega) (by omega)
      have ht := hg es[i] (List.getElem_mem _)
      have hs := fun o => obytes_calls o (opsE false es[i]) (opsE_good false es[i] (by omega)) (by have := opsE_len false es[i]; omega)
      have ha := ensA_at es i hlt
      have hyes := fun h => seqB_bad (f := entB false) hlt hk h
      have hno : (entB false es[i]).2 = 0 → ∀ j (hj : j < es.length), j < i + 1 → (entB false es[j]).2 = 0 := fun h j hj hji => by
        by_cases e : j = i
        · subst e; exact h
        · exact hk j hj (by omega)
      have hsucc := sumE_succ false es i hlt
      have hlen := sumE_len false es hg i hi
      have hlen1 := entB_len false es[i]
      have hopl : opsA (opsE false es[i]) = opsA [sbaOp es[i].addr] ++ opsA (if es[i].text = [] then [] else [txtOp es[i].text]) := by rw [← opsA_append]; rfl
      have hsum : (sumE false es i).length ≤ 1003000 := Nat.le_trans hlen (Nat.mul_le_mul_right 1003 (show i ≤ 1000 by omega))
      change ∀ o σ, ACalls Try.prog 16 [.list o 7 (opsA (opsE false es[i]))] σ fun v σ' => v = .tuple [.list true 1 (bytesA (entB false es[i]).1), .lit (.int .i64 (entB false es[i]).2)] ∧ σ' = σ at hs
      rw [hopl] at hs
      generalize es[i] = x at *
      obtain ⟨bs, hbs⟩ : ∃ bs, (entB false x).1 = bs := ⟨_, rfl⟩
      obtain ⟨er, her⟩ : ∃ er, (entB false x).2 = er := ⟨_, rfl⟩
      rw [hbs] at hs hsucc hlen1
      rw [her] at hs hyes hno
      obtain ⟨ad, tx⟩ := x
      simp only at hs ht hlen1
      have hap : bytesA (aid :: he ++ sumE false es i) ++ bytesA bs = bytesA (aid :: he ++ sumE false es (i + 1)) := by rw [hsucc, ← bytesA_append, List.append_assoc]
      have hbl : (bytesA (aid :: he ++ sumE false es i)).length ≤ 1003003 := by simp; omega
      have hv2 : bs.length ≤ 1003 := by omega
      generalize bytesA (aid :: he ++ sumE false es i) = B0 at *
      clear her hbs
      by_cases hb : er = 0
      · subst hb
        by_cases htx : tx = []
        · subst htx
          simp [hlt, ha, enA]
          intro q hq
          refine callK.of (hs _ _) ?_
          rintro v σ' ⟨rfl, rfl⟩
          simp
          refine ⟨by omega, by omega, i + 1, ⟨by omega, hno rfl⟩, by omega, ⟨?_, ?_⟩, ?_⟩
          · rw [hap]; exact AV.le_refl _
          · rw [hw]; exact AV.le_refl _
          · exact sub_upd_self _ _ _ hq
        · have htl : 0 < tx.length := List.length_pos_iff.2 htx
          rw [if_neg htx] at hs
          simp [hlt, ha, enA, htl]
          intro q hq
          refine callK.of (hs _ _) ?_
          rintro v σ' ⟨rfl, rfl⟩
          simp
          refine ⟨by omega, by omega, i + 1, ⟨by omega, hno rfl⟩, by omega, ⟨?_, ?_⟩, ?_⟩
          · rw [hap]; exact AV.le_refl _
          · rw [hw]; exact AV.le_refl _
          · exact sub_upd_self _ _ _ hq
      · have hb' : ¬ (er : Int) = 0 := by omega
        have hz := hyes hb
        by_cases htx : tx = []
        · subst htx
          simp [hlt, ha, enA]
          intro q hq
          refine callK.of (hs _ _) ?_
          rintro v σ' ⟨rfl, rfl⟩
          simp [hb, hz, hq]
        · have htl : 0 < tx.length := List.length_pos_iff.2 htx
          rw [if_neg htx] at hs
          simp [hlt, ha, enA, htl]
          intro q hq
          refine callK.of (hs _ _) ?_
          rintro v σ' ⟨rfl, rfl⟩
          simp [hb, hz, hq]
    · obtain rfl : i = es.length := by omega
      have hz := seqB_ok (f := entB false) (l := es) fun x hx => by
        obtain ⟨j, hj, rfl⟩ := List.mem_iff_getElem.1 hx
        exact hk j hj hj
      simp [hz, sumE]
  · simp [h1, h2, c1, g1, g2, enA]
    refine codeK.loop follows (st := st7) (plans := pl7) (X := Nat) (fun i => i ≤ es.length ∧ ∀ j (hj : j < es.length), j < i → (entB false es[j]).2 = 0)
      (fun i => [(6, .list true 1 (bytesA (aid :: he ++ sumE false es i))), (7, .lit (.bool false)), (54, .list false 2 (ensA es)), (55, .lit (.int .i64 es.length)), (56, .lit (.int .i64 i))]) (fun _ => σ) (fun i => es.length - i) 0 (by kernel_rfl) (by simp) (by simp [sumE, bytesA, g1]) (sub_upd_self _ _ _ hp) fun i hi => ?_
    obtain ⟨hi, hk⟩ := hi
    by_cases hlt : i < es.length
    · have hw : IntKind.i64.wrap ((i : Int) + 1) = ((i + 1 : Nat) : Int) := wrap_i64 (by omega) (by omega)
      have ht := hg es[i] (List.getElem_mem _)
      have hs := fun o => obytes_calls o (opsE false es[i]) (opsE_good false es[i] (by omega)) (by have := opsE_len false es[i]; omega)
      have ha := ensA_at es i hlt
      have hyes := fun h => seqB_bad (f := entB false) hlt hk h
      have hno : (entB false es[i]).2 = 0 → ∀ j (hj : j < es.length), j < i + 1 → (entB false es[j]).2 = 0 := fun h j hj hji => by
        by_cases e : j = i
        · subst e; exact h
        · exact hk j hj (by omega)
      have hsucc := sumE_succ false es i hlt
      have hlen := sumE_len false es hg i hi
      have hlen1 := entB_len false es[i]
      have hopl : opsA (opsE false es[i]) = opsA [sbaOp es[i].addr] ++ opsA (if es[i].text = [] then [] else [txtOp es[i].text]) := by rw [← opsA_append]; rfl
      have hsum : (sumE false es i).length ≤ 1003000 := Nat.le_trans hlen (Nat.mul_le_mul_right 1003 (show i ≤ 1000 by omega))
      change ∀ o σ, ACalls Try.prog 16 [.list o 7 (opsA (opsE false es[i]))] σ fun v σ' => v = .tuple [.list true 1 (bytesA (entB false es[i]).1), .lit (.int .i64 (entB false es[i]).2)] ∧ σ' = σ at hs
      rw [hopl] at hs
      generalize es[i] = x at *
      obtain ⟨bs, hbs⟩ : ∃ bs, (entB false x).1 = bs := ⟨_, rfl⟩
      obtain ⟨er, her⟩ : ∃ er, (entB false x).2 = er := ⟨_, rfl⟩
      rw [hbs] at hs hsucc hlen1
      rw [her] at hs hyes hno
      obtain ⟨ad, tx⟩ := x
      simp only at hs ht hlen1
      have hap : bytesA (aid :: he ++ sumE false es i) ++ bytesA bs = bytesA (aid :: he ++ sumE false es (i + 1)) := by rw [hsucc, ← bytesA_append, List.append_assoc]
      have hbl : (bytesA (aid :: he ++ sumE false es i)).length ≤ 1003003 := by simp; omega
      have hv2 : bs.length ≤ 1003 := by omega
      generalize bytesA (aid :: he ++ sumE false es i) = B0 at *
      clear her hbs
      by_cases hb : er = 0
      · subst hb
        by_cases htx : tx = []
        · subst htx
          simp [hlt, ha, enA]
          intro q hq
          refine callK.of (hs _ _) ?_
          rintro v σ' ⟨rfl, rfl⟩
          simp
          refine ⟨by omega, by omega, i + 1, ⟨by omega, hno rfl⟩, by omega, ⟨?_, ?_⟩, ?_⟩
          · rw [hap]; exact AV.le_refl _
          · rw [hw]; exact AV.le_refl _
          · exact sub_upd_self _ _ _ hq
        · have htl : 0 < tx.length := List.length_pos_iff.2 htx
          rw [if_neg htx] at hs
          simp [hlt, ha, enA, htl]
          intro q hq
          refine callK.of (hs _ _) ?_
          rintro v σ' ⟨rfl, rfl⟩
          simp
          refine ⟨by omega, by omega, i + 1, ⟨by omega, hno rfl⟩, by omega, ⟨?_, ?_⟩, ?_⟩
          · rw [hap]; exact AV.le_refl _
          · rw [hw]; exact AV.le_refl _
          · exact sub_upd_self _ _ _ hq
      · have hb' : ¬ (er : Int) = 0 := by omega
        have hz := hyes hb
        by_cases htx : tx = []
        · subst htx
          simp [hlt, ha, enA]
          intro q hq
          refine callK.of (hs _ _) ?_
          rintro v σ' ⟨rfl, rfl⟩
          simp [hb, hz, hq]
        · have htl : 0 < tx.length := List.length_pos_iff.2 htx
          rw [if_neg htx] at hs
          simp [hlt, ha, enA, htl]
          intro q hq
          refine callK.of (hs _ _) ?_
          rintro v σ' ⟨rfl, rfl⟩
          simp [hb, hz, hq]
    · obtain rfl : i = es.length := by omega
      have hz := seqB_ok (f := entB false) (l := es) fun x hx => by
        obtain ⟨j, hj, rfl⟩ := List.mem_iff_getElem.1 hx
        exact hk j hj hj
      simp [hz, sumE]
  · simp [h1, h2, c1, c2, g1, g2, enA]
    refine codeK.loop follows (st := st7) (plans := pl7) (X := Nat) (fun i => i ≤ es.length ∧ ∀ j (hj : j < es.length), j < i → (entB false es[j]).2 = 0)
      (fun i => [(6, .list true 1 (bytesA (aid :: he ++ sumE false es i))), (7, .lit (.bool false)), (54, .list false 2 (ensA es)), (55, .lit (.int .i64 es.length)), (56, .lit (.int .i64 i))]) (fun _ => σ) (fun i => es.length - i) 0 (by kernel_rfl) (by simp) (by simp [sumE, bytesA, g1]) (sub_upd_self _ _ _ hp) fun i hi => ?_
    obtain ⟨hi, hk⟩ := hi
    by_cases hlt : i < es.length
    · have hw : IntKind.i64.wrap ((i : Int) + 1) = ((i + 1 : Nat) : Int) := wrap_i64 (by omega) (by omega)
      have ht := hg es[i] (List.getElem_mem _)
      have hs := fun o => obytes_calls o (opsE false es[i]) (opsE_good false es[i] (by omega)) (by have := opsE_len false es[i]; omega)
      have ha := ensA_at es i hlt
      have hyes := fun h => seqB_bad (f := entB false) hlt hk h
      have hno : (entB false es[i]).2 = 0 → ∀ j (hj : j < es.length), j < i + 1 → (entB false es[j]).2 = 0 := fun h j hj hji => by
        by_cases e : j = i
        · subst e; exact h
        · exact hk j hj (by omega)
      have hsucc := sumE_succ false es i hlt
      have hlen := sumE_len false es hg i hi
      have hlen1 := entB_len false es[i]
      have hopl : opsA (opsE false es[i]) = opsA [sbaOp es[i].addr] ++ opsA (if es[i].text = [] then [] else [txtOp es[i].text]) := by rw [← opsA_append]; rfl
      have hsum : (sumE false es i).length ≤ 1003000 := Nat.le_trans hlen (Nat.mul_le_mul_right 1003 (show i ≤ 1000 by omega))
      change ∀ o σ, ACalls Try.prog 16 [.list o 7 (opsA (opsE false es[i]))] σ fun v σ' => v = .tuple [.list true 1 (bytesA (entB false es[i]).1), .lit (.int .i64 (entB false es[i]).2)] ∧ σ' = σ at hs
      rw [hopl] at hs
      generalize es[i] = x at *
      obtain ⟨bs, hbs⟩ : ∃ bs, (entB false x).1 = bs := ⟨_, rfl⟩
      obtain ⟨er, her⟩ : ∃ er, (entB false x).2 = er := ⟨_, rfl⟩
      rw [hbs] at hs hsucc hlen1
      rw [her] at hs hyes hno
      obtain ⟨ad, tx⟩ := x
      simp only at hs ht hlen1
      have hap : bytesA (aid :: he ++ sumE false es i) ++ bytesA bs = bytesA (aid :: he ++ sumE false es (i + 1)) := by rw [hsucc, ← bytesA_append, List.append_assoc]
      have hbl : (bytesA (aid :: he ++ sumE false es i)).length ≤ 1003003 := by simp; omega
      have hv2 : bs.length ≤ 1003 := by omega
      generalize bytesA (aid :: he ++ sumE false es i) = B0 at *
      clear her hbs
      by_cases hb : er = 0
      · subst hb
        by_cases htx : tx = []
        · subst htx
          simp [hlt, ha, enA]
          intro q hq
          refine callK.of (hs _ _) ?_
          rintro v σ' ⟨rfl, rfl⟩
          simp
          refine ⟨by omega, by omega, i + 1, ⟨by omega, hno rfl⟩, by omega, ⟨?_, ?_⟩, ?_⟩
          · rw [hap]; exact AV.le_refl _
          · rw [hw]; exact AV.le_refl _
          · exact sub_upd_self _ _ _ hq
        · have htl : 0 < tx.length := List.length_pos_iff.2 htx
          rw [if_neg htx] at hs
          simp [hlt, ha, enA, htl]
          intro q hq
          refine callK.of (hs _ _) ?_
          rintro v σ' ⟨rfl, rfl⟩
          simp
          refine ⟨by omega, by omega, i + 1, ⟨by omega, hno rfl⟩, by omega, ⟨?_, ?_⟩, ?_⟩
          · rw [hap]; exact AV.le_refl _
          · rw [hw]; exact AV.le_refl _
          · exact sub_upd_self _ _ _ hq
      · have hb' : ¬ (er : Int) = 0 := by omega
        have hz := hyes hb
        by_cases htx : tx = []
        · subst htx
          simp [hlt, ha, enA]
          intro q hq
          refine callK.of (hs _ _) ?_
          rintro v σ' ⟨rfl, rfl⟩
          simp [hb, hz, hq]
        · have htl : 0 < tx.length := List.length_pos_iff.2 htx
          rw [if_neg htx] at hs
          simp [hlt, ha, enA, htl]
          intro q hq
          refine callK.of (hs _ _) ?_
          rintro v σ' ⟨rfl, rfl⟩
          simp [hb, hz, hq]
    · obtain rfl : i = es.length := by omega
      have hz := seqB_ok (f := entB false) (l := es) fun x hx => by
        obtain ⟨j, hj, rfl⟩ := List.mem_iff_getElem.1 hx
        exact hk j hj hj
      simp [hz, sumE]
  · simp [h1, h2, c1, c2, g1, g2, enA]
    refine codeK.loop follows (st := st7) (plans := pl7) (X := Nat) (fun i => i ≤ es.length ∧ ∀ j (hj : j < es.length), j < i → (entB true es[j]).2 = 0)
      (fun i => [(6, .list true 1 (bytesA (aid :: he ++ sumE true es i))), (7, .lit (.bool true)), (54, .list false 2 (ensA es)), (55, .lit (.int .i64 es.length)), (56, .lit (.int .i64 i))]) (fun _ => σ) (fun i => es.length - i) 0 (by kernel_rfl) (by simp) (by simp [sumE, bytesA, g1]) (sub_upd_self _ _ _ hp) fun i hi => ?_
    obtain ⟨hi, hk⟩ := hi
    by_cases hlt : i < es.length
    · have hw : IntKind.i64.wrap ((i : Int) + 1) = ((i + 1 : Nat) : Int) := wrap_i64 (by omega) (by omega)
      have ht := hg es[i] (List.getElem_mem _)
      have hs := fun o => obytes_calls o (opsE true es[i]) (opsE_good true es[i] (by omega)) (by have := opsE_len true es[i]; omega)
      have ha := ensA_at es i hlt
      have hyes := fun h => seqB_bad (f := entB true) hlt hk h
      have hno : (entB true es[i]).2 = 0 → ∀ j (hj : j < es.length), j < i + 1 → (entB true es[j]).2 = 0 := fun h j hj hji => by
        by_cases e : j = i
        · subst e; exact h
        · exact hk j hj (by omega)
      have hsucc := sumE_succ true es i hlt
      have hlen := sumE_len true es hg i hi
      have hlen1 := entB_len true es[i]
      have hopl : opsA (opsE true es[i]) = opsA [] ++ opsA (if es[i].text = [] then [] else [txtOp es[i].text]) := by rw [← opsA_append]; rfl
      have hsum : (sumE true es i).length ≤ 1003000 := Nat.le_trans hlen (Nat.mul_le_mul_right 1003 (show i ≤ 1000 by omega))
      change ∀ o σ, ACalls Try.prog 16 [.list o 7 (opsA (opsE true es[i]))] σ fun v σ' => v = .tuple [.list true 1 (bytesA (entB true es[i]).1), .lit (.int .i64 (entB true es[i]).2)] ∧ σ' = σ at hs
      rw [hopl] at hs
      generalize es[i] = x at *
      obtain ⟨bs, hbs⟩ : ∃ bs, (entB true x).1 = bs := ⟨_, rfl⟩
      obtain ⟨er, her⟩ : ∃ er, (entB true x).2 = er := ⟨_, rfl⟩
      rw [hbs] at hs hsucc hlen1
      rw [her] at hs hyes hno
      obtain ⟨ad, tx⟩ := x
      simp only at hs ht hlen1
      have hap : bytesA (aid :: he ++ sumE true es i) ++ bytesA bs = bytesA (aid :: he ++ sumE true es (i + 1)) := by rw [hsucc, ← bytesA_append, List.append_assoc]
      have hbl : (bytesA (aid :: he ++ sumE true es i)).length ≤ 1003003 := by simp; omega
      have hv2 : bs.length ≤ 1003 := by omega
      generalize bytesA (aid :: he ++ sumE true es i) = B0 at *
      clear her hbs
      by_cases hb : er = 0
      · subst hb
        by_cases htx : tx = []
        · subst htx
          simp [hlt, ha, enA]
          intro q hq
          refine callK.of (hs _ _) ?_
          rintro v σ' ⟨rfl, rfl⟩
          simp
          refine ⟨by omega, by omega, i + 1, ⟨by omega, hno rfl⟩, by omega, ⟨?_, ?_⟩, ?_⟩
          · rw [hap]; exact AV.le_refl _
          · rw [hw]; exact AV.le_refl _
          · exact sub_upd_self _ _ _ hq
        · have htl : 0 < tx.length := List.length_pos_iff.2 htx
          rw [if_neg htx] at hs
          simp [hlt, ha, enA, htl]
          intro q hq
          refine callK.of (hs _ _) ?_
          rintro v σ' ⟨rfl, rfl⟩
          simp
          refine ⟨by omega, by omega, i + 1, ⟨by omega, hno rfl⟩, by omega, ⟨?_, ?_⟩, ?_⟩
          · rw [hap]; exact AV.le_refl _
          · rw [hw]; exact AV.le_refl _
          · exact sub_upd_self _ _ _ hq
      · have hb' : ¬ (er : Int) = 0 := by omega
        have hz := hyes hb
        by_cases htx : tx = []
        · subst htx
          simp [hlt, ha, enA]
          intro q hq
          refine callK.of (hs _ _) ?_
          rintro v σ' ⟨rfl, rfl⟩
          simp [hb, hz, hq]
        · have htl : 0 < tx.length := List.length_pos_iff.2 htx
          rw [if_neg htx] at hs
          simp [hlt, ha, enA, htl]
          intro q hq
          refine callK.of (hs _ _) ?_
          rintro v σ' ⟨rfl, rfl⟩
          simp [hb, hz, hq]
    · obtain rfl : i = es.length := by omega
      have hz := seqB_ok (f := entB true) (l := es) fun x hx => by
        obtain ⟨j, hj, rfl⟩ := List.mem_iff_getElem.1 hx
        exact hk j hj hj
      simp [hz, sumE]

/-- All characters up to one that is no order's. -/
theorem entB_false (e : En) : entB false e = if okAddr e.addr then (if hasOrd e.text = true then ([], 10) else (17 :: encM e.addr.toNat ++ e.text, 0)) else ([], 9) := by
  have h17 : opB (sbaOp e.addr) = if okAddr e.addr then (17 :: encM e.addr.toNat, 0) else ([], 9) := rfl
  have ht : opB (txtOp e.text) = if e.text = [] ∨ hasOrd e.text = true then ([], 10) else (e.text, 0) := rfl
  have hn : hasOrd [] = false := rfl
  by_cases h1 : okAddr e.addr
  · rw [if_pos h1] at h17 ⊢
    by_cases h2 : e.text = []
    · simp [entB, opsE, h2, seqB, h17, hn]
    · by_cases h3 : hasOrd e.text = true
      · rw [if_pos (.inr h3)] at ht
        simp [entB, opsE, h2, seqB, h17, ht, h3]
      · rw [if_neg (by simp [h2, h3])] at ht
        simp [entB, opsE, h2, seqB, h17, ht, h3]
  · rw [if_neg h1] at h17 ⊢
    simp [entB, opsE, seqB, h17]
theorem entB_true (e : En) (h : 0 < e.text.length) : entB true e = if hasOrd e.text = true then ([], 10) else (e.text, 0) := by
  have h2 : e.text ≠ [] := List.length_pos_iff.1 h
  have ht : opB (txtOp e.text) = if e.text = [] ∨ hasOrd e.text = true then ([], 10) else (e.text, 0) := rfl
  by_cases h3 : hasOrd e.text = true
  · rw [if_pos (.inr h3)] at ht
    simp [entB, opsE, h2, seqB, ht, h3]
  · rw [if_neg (by simp [h2, h3])] at ht
    simp [entB, opsE, h2, seqB, ht, h3]
end Go.Proofs.Ytkbokmokklbahaa
