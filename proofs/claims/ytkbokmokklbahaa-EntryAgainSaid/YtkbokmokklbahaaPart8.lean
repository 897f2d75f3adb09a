/-
  Orders' bytes: of a text, of an address.
-/
import Derived.Test.YtkbokmokklbahaaPart7
namespace Go.Proofs.Ytkbokmokklbahaa
open Go Go.AL

structure Op where
  kind : Nat := 0
  addr : Int := 0
  code : UInt8 := 0
  graph : Bool := false
  fa : UInt8 := 0
  pairs : List (UInt8 × UInt8) := []
  text : List UInt8 := []
def pairsA (l : List (UInt8 × UInt8)) : List AV := l.map fun p => .agg [byteA p.1, byteA p.2]
def opC (o : Op) : List AV := [.lit (.int .i64 o.kind), .lit (.int .i64 o.addr), byteA o.code, .lit (.bool o.graph), byteA o.fa, .list false 2 (pairsA o.pairs), .list false 1 (bytesA o.text)]
def opA (o : Op) : AV := .agg (opC o)
def opsA (l : List Op) : List AV := l.map opA
@[simp] theorem opsA_length (l : List Op) : (opsA l).length = l.length := by simp [opsA]
theorem opsA_append (l k : List Op) : opsA (l ++ k) = opsA l ++ opsA k := by simp [opsA]
theorem opsA_get (l : List Op) (i : Nat) (h : i < l.length) : (opsA l)[i]'(by simpa using h) = opA l[i] := by simp [opsA]

theorem bytesA_at (l : List UInt8) (i : Nat) (h : i < l.length) : (bytesA l)[i]'(by simpa using h) = byteA l[i] := by simp [bytesA]
def hasOrd (l : List UInt8) : Bool := l.any isOrd
theorem hasOrd_none {l : List UInt8} (h : ∀ j (hj : j < l.length), isOrd l[j] = false) : hasOrd l = false := by
  rw [hasOrd, List.any_eq_false]
  intro x hx
  obtain ⟨j, hj, rfl⟩ := List.mem_iff_getElem.1 hx
  simp [h j hj]
theorem hasOrd_some {l : List UInt8} {j : Nat} (hj : j < l.length) (h : isOrd l[j] = true) : hasOrd l = true := by
  rw [hasOrd, List.any_eq_true]
  exact ⟨_, List.getElem_mem hj, h⟩

set_option maxRecDepth 4000 in
theorem index_calls (o : Bool) (l : List UInt8) (σ : Store) (hl : l.length ≤ 1000000) : ACalls Try.prog 44 [.list o 1 (bytesA l), .func (.func 30) [] []] σ fun v σ' => (∃ n : Int, v = .lit (.int .i64 n) ∧ decide (0 ≤ n) = hasOrd l) ∧ σ' = σ := by
  refine ACalls.of_awp follows (st := st44) (plans := pl44) (n := 19) Try.func44 rfl (by kernel_rfl) (by kernel_rfl) (by kernel_rfl) ?_
  simp
  refine codeK.loop follows (st := st44) (plans := pl44) (X := Nat) (fun i => i ≤ l.length ∧ ∀ j (hj : j < l.length), j < i → isOrd l[j] = false)
    (fun i => [(0, .list false 1 (bytesA l)), (1, .func (.func 30) [] []), (7, .lit (.int .i64 l.length)), (8, .lit (.int .i64 i))]) (fun _ => σ) (fun i => l.length - i) 0 (by kernel_rfl) (by simp) (by simp) (by simp) fun i hi => ?_
  obtain ⟨hi, hk⟩ := hi
  by_cases hlt : i < l.length
  · have hw : IntKind.i64.wrap ((i : Int) + 1) = ((i + 1 : Nat) : Int) := wrap_i64 (by omega) (by omega)
    have hs := is_calls l[i]
    have ha := bytesA_at l i hlt
    have hyes := fun h => hasOrd_some (l := l) hlt h
    have hno : isOrd l[i] = false → ∀ j (hj : j < l.length), j < i + 1 → isOrd l[j] = false := fun h j hj hji => by
      by_cases e : j = i
      · subst e; exact h
      · exact hk j hj (by omega)
    generalize l[i] = b at *
    by_cases hb : isOrd b = true
    · simp [hlt, ha, byteA]
      refine callK.of (hs σ) ?_
      rintro v σ' ⟨rfl, rfl⟩
      simp [hb, hyes hb]
      exact ⟨_, AV.le_refl _, i, rfl, by simp⟩
    · have hb' : isOrd b = false := by simpa using hb
      simp [hlt, ha, byteA]
      refine callK.of (hs σ) ?_
      rintro v σ' ⟨rfl, rfl⟩
      simp [hb']
      exact ⟨i + 1, ⟨by omega, hno hb'⟩, by omega, by rw [hw]; exact AV.le_refl _⟩
  · obtain rfl : i = l.length := by omega
    have hn : hasOrd l = false := hasOrd_none fun j hj => hk j hj hj
    simp [hn]
    exact ⟨_, AV.le_refl _, -1, rfl, by omega⟩
theorem contains_calls (o : Bool) (l : List UInt8) (σ : Store) (hl : l.length ≤ 1000000) : ACalls Try.prog 29 [.list o 1 (bytesA l), .func (.func 30) [] []] σ fun v σ' => v = .lit (.bool (hasOrd l)) ∧ σ' = σ := by
  refine ACalls.of_awp follows (st := st29) (plans := pl29) (n := 9) Try.func29 rfl (by kernel_rfl) (by kernel_rfl) (by kernel_rfl) ?_
  simp
  refine callK.of (index_calls false l σ hl) ?_
  rintro v σ' ⟨⟨n, rfl, hn⟩, rfl⟩
  simp [hn]

/-- Bytes of one after the other, or the first error. -/
def seqB {α : Type} (f : α → List UInt8 × Nat) : List α → List UInt8 × Nat
  | [] => ([], 0)
  | o :: l => if (f o).2 ≠ 0 then ([], (f o).2) else if (seqB f l).2 ≠ 0 then ([], (seqB f l).2) else ((f o).1 ++ (seqB f l).1, 0)
theorem seqB_ok {α : Type} {f : α → List UInt8 × Nat} {l : List α} (h : ∀ o ∈ l, (f o).2 = 0) : seqB f l = (l.flatMap fun o => (f o).1, 0) := by
  induction l with
  | nil => rfl
  | cons o l ih =>
    have h1 := h o (by simp)
    have h2 := ih fun x hx => h x (by simp [hx])
    simp [seqB, h1, h2]
theorem seqB_bad {α : Type} {f : α → List UInt8 × Nat} : ∀ {l : List α} {i : Nat} (hi : i < l.length), (∀ j (hj : j < l.length), j < i → (f l[j]).2 = 0) → (f l[i]).2 ≠ 0 → seqB f l = ([], (f l[i]).2)
  | o :: l, 0, hi, _, hb => by simp at hb; simp [seqB, hb]
  | o :: l, i + 1, hi, h, hb => by
    simp at hi
    have h1 := h 0 (by simp) (by omega)
    have h2 := seqB_bad (f := f) (l := l) (i := i) hi (fun j hj hji => by have := h (j + 1) (by simp; omega) (by omega); simpa using this) (by simpa using hb)
    simp at h1 hb
    simp [seqB, h1, h2, hb]
theorem seqB_err {α : Type} {f : α → List UInt8 × Nat} (hf : ∀ o, (f o).2 ≠ 0 → (f o).1 = []) (l : List α) (h : (seqB f l).2 ≠ 0) : (seqB f l).1 = [] := by
  cases l with
  | nil => rfl
  | cons o l =>
    simp only [seqB] at h ⊢
    split
    · rfl
    · split
      · rfl
      · rename_i h1 h2
        rw [if_neg h1, if_neg h2] at h
        exact absurd rfl h

def opB (o : Op) : List UInt8 × Nat :=
  if o.kind = 0 then (if o.text = [] ∨ hasOrd o.text = true then ([], 10) else (o.text, 0)) else if okAddr o.addr then (17 :: encM o.addr.toNat, 0) else ([], 9)

set_option maxRecDepth 4000 in
theorem place_calls (n : Int) (σ : Store) : ACalls Try.prog 32 [.lit (.int .u8 17), .lit (.int .i64 n)] σ fun v σ' => v = .tuple (if okAddr n then [.list true 1 (bytesA (17 :: encM n.toNat)), .lit (.int .i64 0)] else [.list true 1 [], .lit (.int .i64 9)]) ∧ σ' = σ := by
  refine ACalls.of_awp follows (st := st32) (plans := pl32) (n := 20) Try.func32 rfl (by kernel_rfl) (by kernel_rfl) (by kernel_rfl) ?_
  simp
  refine callK.of (enc_calls n σ) ?_
  rintro v σ' ⟨rfl, rfl⟩
  by_cases h : okAddr n
  · have e : byteA 17 = .lit (.int .u8 17) := rfl
    simp [encR, h, encM, bytesA, e]
  · simp [encR, h]

set_option maxRecDepth 4000 in
theorem opbytes_text (o : Op) (h0 : o.kind = 0) (hl : o.text.length ≤ 1000000) (σ : Store) : ACalls Try.prog 23 [opA o] σ fun v σ' => v = .tuple [.list true 1 (bytesA (opB o).1), .lit (.int .i64 (opB o).2)] ∧ σ' = σ := by
  obtain ⟨kind, addr, code, graph, fa, pairs, text⟩ := o
  simp only at h0 hl
  subst h0
  have hc := contains_calls false text
  have hcl := clone_calls false text
  by_cases ht : text = []
  · subst ht
    have hB : opB ⟨0, addr, code, graph, fa, pairs, []⟩ = ([], 10) := by simp [opB]
    rw [hB]
    refine ACalls.of_awp follows (st := st23) (plans := pl23) (n := 118) Try.func23 rfl (by kernel_rfl) (by kernel_rfl) (by kernel_rfl) ?_
    simp [opA, opC, bytesA_nil]
    exact fun p hp => sub_upd_self _ _ _ hp
  · by_cases ho : hasOrd text = true
    · have hB : opB ⟨0, addr, code, graph, fa, pairs, text⟩ = ([], 10) := by simp [opB, ho]
      rw [hB]
      refine ACalls.of_awp follows (st := st23) (plans := pl23) (n := 118) Try.func23 rfl (by kernel_rfl) (by kernel_rfl) (by kernel_rfl) ?_
      simp [opA, opC, ht]
      intro p hp
      refine callK.of (hc _ hl) ?_
      rintro v σ' ⟨rfl, rfl⟩
      simp [ho, bytesA_nil, hp]
    · have hB : opB ⟨0, addr, code, graph, fa, pairs, text⟩ = (text, 0) := by simp [opB, ht, ho]
      have ho' : hasOrd text = false := by simpa using ho
      rw [hB]
      refine ACalls.of_awp follows (st := st23) (plans := pl23) (n := 118) Try.func23 rfl (by kernel_rfl) (by kernel_rfl) (by kernel_rfl) ?_
      simp [opA, opC, ht]
      intro p hp
      refine callK.of (hc _ hl) ?_
      rintro v σ' ⟨rfl, rfl⟩
      simp [ho', hp, ht]
      refine callK.of (hcl _ (by omega)) ?_
      rintro v σ' ⟨rfl, rfl⟩
      simp [hp]
set_option maxRecDepth 4000 in
theorem opbytes_sba (o : Op) (h0 : o.kind = 17) (σ : Store) : ACalls Try.prog 23 [opA o] σ fun v σ' => v = .tuple [.list true 1 (bytesA (opB o).1), .lit (.int .i64 (opB o).2)] ∧ σ' = σ := by
  obtain ⟨kind, addr, code, graph, fa, pairs, text⟩ := o
  simp only at h0
  subst h0
  have hpl := place_calls addr
  have hw : IntKind.u8.wrap 17 = 17 := by decide
  by_cases ho : okAddr addr
  · have hB : opB ⟨17, addr, code, graph, fa, pairs, text⟩ = (17 :: encM addr.toNat, 0) := by simp [opB, ho]
    rw [hB]
    rw [if_pos ho] at hpl
    refine ACalls.of_awp follows (st := st23) (plans := pl23) (n := 118) Try.func23 rfl (by kernel_rfl) (by kernel_rfl) (by kernel_rfl) ?_
    simp [opA, opC, hw]
    intro p hp
    refine callK.of (hpl _) ?_
    rintro v σ' ⟨rfl, rfl⟩
    simp [hp]
  · have hB : opB ⟨17, addr, code, graph, fa, pairs, text⟩ = ([], 9) := by simp [opB, ho]
    rw [hB]
    rw [if_neg ho] at hpl
    refine ACalls.of_awp follows (st := st23) (plans := pl23) (n := 118) Try.func23 rfl (by kernel_rfl) (by kernel_rfl) (by kernel_rfl) ?_
    simp [opA, opC, hw]
    intro p hp
    refine callK.of (hpl _) ?_
    rintro v σ' ⟨rfl, rfl⟩
    simp [hp, bytesA_nil]
def good (o : Op) : Prop := (o.kind = 0 ∧ o.text.length ≤ 1000000) ∨ o.kind = 17
theorem opbytes_calls (o : Op) (h : good o) (σ : Store) : ACalls Try.prog 23 [opA o] σ fun v σ' => v = .tuple [.list true 1 (bytesA (opB o).1), .lit (.int .i64 (opB o).2)] ∧ σ' = σ := by
  rcases h with ⟨h1, h2⟩ | h
  · exact opbytes_text o h1 h2 σ
  · exact opbytes_sba o h σ
theorem opB_err (o : Op) (h : (opB o).2 ≠ 0) : (opB o).1 = [] := by
  unfold opB at *
  (repeat' split) <;> simp_all
theorem opB_len (o : Op) (h : good o) : (opB o).1.length ≤ 1000000 := by
  unfold opB
  rcases h with ⟨h1, h2⟩ | h
  · rw [if_pos h1]; split <;> simp [h2]
  · rw [if_neg (by omega)]; split <;> simp [encM]

def sumB (l : List Op) (i : Nat) : List UInt8 := (l.take i).flatMap fun o => (opB o).1
theorem sumB_succ (l : List Op) (i : Nat) (h : i < l.length) : sumB l (i + 1) = sumB l i ++ (opB l[i]).1 := by
  rw [sumB, sumB, List.take_succ_eq_append_getElem h, List.flatMap_append]; simp
theorem sumB_len (l : List Op) (hg : ∀ o ∈ l, good o) (i : Nat) (h : i ≤ l.length) : (sumB l i).length ≤ i * 1000000 := by
  induction i with
  | zero => simp [sumB]
  | succ i ih =>
    rw [sumB_succ l i (by omega), List.length_append]
    have := ih (by omega)
    have := opB_len l[i] (hg _ (List.getElem_mem _))
    omega

set_option maxRecDepth 4000 in
theorem obytes_calls (o : Bool) (l : List Op) (hg : ∀ x ∈ l, good x) (hl : l.length ≤ 1000) (σ : Store) : ACalls Try.prog 16 [.list o 7 (opsA l)] σ fun v σ' => v = .tuple [.list true 1 (bytesA (seqB opB l).1), .lit (.int .i64 (seqB opB l).2)] ∧ σ' = σ := by
  refine ACalls.of_awp follows (st := st16) (plans := pl16) (n := 28) Try.func16 rfl (by kernel_rfl) (by kernel_rfl) (by kernel_rfl) ?_
  simp
  refine codeK.loop follows (st := st16) (plans := pl16) (X := Nat) (fun i => i ≤ l.length ∧ ∀ j (hj : j < l.length), j < i → (opB l[j]).2 = 0)
    (fun i => [(4, .list true 1 (bytesA (sumB l i))), (9, .list false 7 (opsA l)), (10, .lit (.int .i64 l.length)), (11, .lit (.int .i64 i))]) (fun _ => σ) (fun i => l.length - i) 0 (by kernel_rfl) (by simp) (by simp [sumB, bytesA_nil]) (by simp) fun i hi => ?_
  obtain ⟨hi, hk⟩ := hi
  by_cases hlt : i < l.length
  · have hw : IntKind.i64.wrap ((i : Int) + 1) = ((i + 1 : Nat) : Int) := wrap_i64 (by omega) (by omega)
    have hs := opbytes_calls l[i] (hg _ (List.getElem_mem _))
    have ha := opsA_get l i hlt
    have hyes := fun h => seqB_bad (f := opB) hlt hk h
    have hno : (opB l[i]).2 = 0 → ∀ j (hj : j < l.length), j < i + 1 → (opB l[j]).2 = 0 := fun h j hj hji => by
      by_cases e : j = i
      · subst e; exact h
      · exact hk j hj (by omega)
    have hsucc := sumB_succ l i hlt
    have hlen := sumB_len l hg i hi
    have hlen1 := opB_len l[i] (hg _ (List.getElem_mem _))
    have herr := opB_err l[i]
    generalize l[i] = x at *
    obtain ⟨bs, hbs⟩ : ∃ bs, (opB x).1 = bs := ⟨_, rfl⟩
    obtain ⟨er, her⟩ : ∃ er, (opB x).2 = er := ⟨_, rfl⟩
    rw [hbs] at hs hsucc hlen1 herr
    rw [her] at hs hyes hno herr
    by_cases hb : er = 0
    · subst hb
      have hle : (sumB l i).length + bs.length ≤ 2000000000 := by
        have : i * 1000000 ≤ 1000 * 1000000 := Nat.mul_le_mul_right _ (by omega)
        omega
      simp [hlt, ha, opA, opC]
      intro p hp
      refine callK.of (hs _) ?_
      rintro v σ' ⟨rfl, rfl⟩
      simp
      refine ⟨by omega, by omega, i + 1, ⟨by omega, hno rfl⟩, by omega, ⟨?_, ?_⟩, ?_⟩
      · rw [hsucc, bytesA_append]; exact AV.le_refl _
      · rw [hw]; exact AV.le_refl _
      · exact sub_upd_self _ _ _ hp
    · have hb' : ¬ (er : Int) = 0 := by omega
      have hz := hyes hb
      simp [hlt, ha, opA, opC]
      intro p hp
      refine callK.of (hs _) ?_
      rintro v σ' ⟨rfl, rfl⟩
      simp [hb, hb', hz, hp, bytesA_nil]
  · obtain rfl : i = l.length := by omega
    have hz := seqB_ok (f := opB) (l := l) fun x hx => by
      obtain ⟨j, hj, rfl⟩ := List.mem_iff_getElem.1 hx
      exact hk j hj hj
    simp [hz, sumB]
end Go.Proofs.Ytkbokmokklbahaa
/-
  A report's bytes: the program's and the document's.
-/
namespace Go.Proofs.Ytkbokmokklbahaa
open Go Go.AL

@[simp] theorem byteA_share (b : UInt8) : (byteA b).share = byteA b := nr rfl
@[simp] theorem byteA_drop1 (b : UInt8) : (byteA b).drop1 = byteA b := nr rfl
@[simp] theorem byteA_keep1 (b : UInt8) : (byteA b).keep1 = byteA b := nr rfl
@[simp] theorem byteA_cells (b : UInt8) : (byteA b).cells = [byteA b] := nr rfl
@[simp] theorem byteA_one (b : UInt8) : (byteA b).one = true := nr rfl
@[simp] theorem byteA_solid (b : UInt8) : (byteA b).solid = true := nr rfl
@[simp] theorem byteA_conv (P : Program) (t : TypeId) (b : UInt8) : conv P t (byteA b) = byteA b := nr rfl

def sbaOp (n : Int) : Op := { kind := 17, addr := n }
def txtOp (l : List UInt8) : Op := { text := l }
def opsE (alone : Bool) (e : En) : List Op := (if alone = true then [] else [sbaOp e.addr]) ++ (if e.text = [] then [] else [txtOp e.text])
def entB (alone : Bool) (e : En) : List UInt8 × Nat := seqB opB (opsE alone e)
def aloneL : List En → Bool
  | [e] => decide (e.addr = 0) && decide (0 < e.text.length)
  | _ => false
def repB (r : Rp) : List UInt8 × Nat :=
  if r.short = true then ([r.aid], 0) else if okAddr r.cursor then
    (if (seqB (entB (aloneL r.es)) r.es).2 ≠ 0 then ([], (seqB (entB (aloneL r.es)) r.es).2) else (r.aid :: encM r.cursor.toNat ++ (seqB (entB (aloneL r.es)) r.es).1, 0)) else ([], 9)

theorem opsE_good (a : Bool) (e : En) (h : e.text.length ≤ 1000000) : ∀ x ∈ opsE a e, good x := by
  intro x hx
  simp only [opsE, List.mem_append] at hx
  rcases hx with hx | hx
  · split at hx
    · simp at hx
    · simp at hx; subst hx; exact .inr rfl
  · split at hx
    · simp at hx
    · simp at hx; subst hx; exact .inl ⟨rfl, h⟩
theorem opsE_len (a : Bool) (e : En) : (opsE a e).length ≤ 2 := by
  simp only [opsE, List.length_append]
  (repeat' split) <;> simp
theorem entB_err (a : Bool) (e : En) (h : (entB a e).2 ≠ 0) : (entB a e).1 = [] := seqB_err opB_err _ h
theorem entB_len (a : Bool) (e : En) : (entB a e).1.length ≤ e.text.length + 3 := by
  have h1 : ∀ l, (opB (txtOp l)).1.length ≤ l.length := fun l => by
    by_cases h : l = [] ∨ hasOrd l = true <;> simp [opB, txtOp, h]
  have h2 : ∀ n, (opB (sbaOp n)).1.length ≤ 3 := fun n => by
    by_cases h : okAddr n <;> simp [opB, sbaOp, h, encM]
  have h3 := h1 e.text
  have h4 := h2 e.addr
  have key : ∀ l : List Op, (seqB opB l).1.length ≤ (l.map fun o => (opB o).1.length).sum := fun l => by
    induction l with
    | nil => simp [seqB]
    | cons o l ih =>
      simp only [seqB, List.map_cons, List.sum_cons]
      split
      · simp
      · split
        · simp
        · simp; omega
  have := key (opsE a e)
  have h5 : ((opsE a e).map fun o => (opB o).1.length).sum ≤ e.text.length + 3 := by
    simp only [opsE]
    by_cases ha : a = true <;> by_cases ht : e.text = [] <;> simp [ha, ht] <;> omega
  unfold entB; omega

theorem ensA_at (l : List En) (i : Nat) (h : i < l.length) : (ensA l)[i]'(by simpa using h) = enA l[i] := by simp [ensA]
def sumE (a : Bool) (l : List En) (i : Nat) : List UInt8 := (l.take i).flatMap fun e => (entB a e).1
theorem sumE_succ (a : Bool) (l : List En) (i : Nat) (h : i < l.length) : sumE a l (i + 1) = sumE a l i ++ (entB a l[i]).1 := by
  rw [sumE, sumE, List.take_succ_eq_append_getElem h, List.flatMap_append]; simp
theorem sumE_len (a : Bool) (l : List En) (hg : ∀ e ∈ l, e.text.length ≤ 1000) (i : Nat) (h : i ≤ l.length) : (sumE a l i).length ≤ i * 1003 := by
  induction i with
  | zero => simp [sumE]
  | succ i ih =>
    rw [sumE_succ a l i (by omega), List.length_append]
    have := ih (by omega)
    have := entB_len a l[i]
    have := hg _ (List.getElem_mem (show i < l.length by omega))
    omega

theorem aloneL_cases (es : List En) : (¬ es.length = 1 ∧ aloneL es = false) ∨ ∃ e, es = [e] ∧ ((¬ e.addr = 0 ∧ aloneL es = false) ∨ (e.addr = 0 ∧ e.text.length = 0 ∧ aloneL es = false) ∨ (e.addr = 0 ∧ 0 < e.text.length ∧ aloneL es = true)) := by
  rcases es with _ | ⟨e, _ | ⟨f, l⟩⟩
  · exact .inl ⟨by simp, rfl⟩
  · refine .inr ⟨e, rfl, ?_⟩
    by_cases h1 : e.addr = 0
    · by_cases h2 : 0 < e.text.length
      · exact .inr (.inr ⟨h1, h2, by simp [aloneL, h1, h2]⟩)
      · exact .inr (.inl ⟨h1, by omega, by simp [aloneL, h2]⟩)
    · exact .inl ⟨h1, by simp [aloneL, h1]⟩
  · exact .inl ⟨by simp, rfl⟩

set_option maxRecDepth 4000 in
theorem ebytes_short (o : Bool) (aid : UInt8) (cursor : Int) (es : List En) (σ : Store) :
    ACalls Try.prog 7 [.agg [byteA aid, .lit (.bool true), .lit (.int .i64 cursor), .list o 2 (ensA es)]] σ fun v σ' => v = .tuple [.list true 1 (bytesA [aid]), .lit (.int .i64 0)] ∧ σ' = σ := by
  refine ACalls.of_awp follows (st := st7) (plans := pl7) (n := 91) Try.func7 rfl (by kernel_rfl) (by kernel_rfl) (by kernel_rfl) ?_
  simp [byteA, bytesA]
  exact fun p hp => sub_upd_self _ _ _ hp
set_option maxRecDepth 4000 in
theorem ebytes_bad (o : Bool) (aid : UInt8) (cursor : Int) (es : List En) (σ : Store) (hen : ∀ σ, ACalls Try.prog 15 [.lit (.int .i64 12), .lit (.int .i64 cursor)] σ fun v σ' => v = .tuple [.list true 1 [], .lit (.int .i64 9)] ∧ σ' = σ) :
    ACalls Try.prog 7 [.agg [byteA aid, .lit (.bool false), .lit (.int .i64 cursor), .list o 2 (ensA es)]] σ fun v σ' => v = .tuple [.list true 1 [], .lit (.int .i64 9)] ∧ σ' = σ := by
  refine ACalls.of_awp follows (st := st7) (plans := pl7) (n := 91) Try.func7 rfl (by kernel_rfl) (by kernel_rfl) (by kernel_rfl) ?_
  simp
  intro p hp
  refine callK.of (hen _) ?_
  rintro v σ' ⟨rfl, rfl⟩
  simp [hp]

set_option maxRecDepth 4000 in
set_option maxHeartbeats 2000000 in
theorem ebytes_ok (o : Bool) (aid : UInt8) (cursor : Int) (es : List En) (he : List UInt8) (hhl : he.length = 2) (hl : es.length ≤ 1000) (hg : ∀ e ∈ es, e.text.length ≤ 1000) (al : Bool) (hal : aloneL es = al) (σ : Store)
    (hen : ∀ σ, ACalls Try.prog 15 [.lit (.int .i64 12), .lit (.int .i64 cursor)] σ fun v σ' => v = .tuple [.list true 1 (bytesA he), .lit (.int .i64 0)] ∧ σ' = σ) :
    ACalls Try.prog 7 [.agg [byteA aid, .lit (.bool false), .lit (.int .i64 cursor), .list o 2 (ensA es)]] σ fun v σ' =>
      v = .tuple (if (seqB (entB al) es).2 ≠ 0 then [.list true 1 [], .lit (.int .i64 (seqB (entB al) es).2)] else [.list true 1 (bytesA (aid :: he ++ (seqB (entB al) es).1)), .lit (.int .i64 0)]) ∧ σ' = σ := by
  have h1 : 1 + he.length ≤ 9223372036854775807 := by omega
  have h2 : 1 + he.length ≤ 140737488355328 := by omega
  have hb : ∀ l, byteA aid :: (bytesA he ++ bytesA l) = bytesA (aid :: he ++ l) := fun l => by simp [bytesA]
  have hcase := aloneL_cases es
  rw [hal] at hcase
  refine ACalls.of_awp follows (st := st7) (plans := pl7) (n := 91) Try.func7 rfl (by kernel_rfl) (by kernel_rfl) (by kernel_rfl) ?_
  simp
  intro p hp
  refine callK.of (hen _) ?_
  rintro v σ' ⟨rfl, rfl⟩
  rcases hcase with ⟨c1, rfl⟩ | ⟨e, c0, ⟨c1, rfl⟩ | ⟨c1, c2, rfl⟩ | ⟨c1, c2, rfl⟩⟩
  all_goals (first | (have g1 : (es.length : Int) = 1 := by rw [c0]; rfl) | skip)
  all_goals (first | (have g2 : (ensA es)[0]? = some (enA e) := by rw [c0]; rfl) | skip)
  · have c1' : ¬ (es.length : Int) = 1 := by omega
    simp [h1, h2, c1, c1']
    refine codeK.loop follows (st := st7) (plans := pl7) (X := Nat) (fun i => i ≤ es.length ∧ ∀ j (hj : j < es.length), j < i → (entB false es[j]).2 = 0)
      (fun i => [(6, .list true 1 (bytesA (aid :: he ++ sumE false es i))), (7, .lit (.bool false)), (54, .list false 2 (ensA es)), (55, .lit (.int .i64 es.length)), (56, .lit (.int .i64 i))]) (fun _ => σ) (fun i => es.length - i) 0 (by kernel_rfl) (by simp) (by simp [sumE, bytesA]) (sub_upd_self _ _ _ hp) fun i hi => ?_
    obtain ⟨hi, hk⟩ := hi
    by_cases hlt : i < es.length
    · have hw : IntKind.i64.wrap ((i : Int) + 1) = ((i + 1 : Nat) : Int) := wrap_i64 (by omega) (by omega)
      have ht := hg es[i] (List.getElem_mem _)
      have hs := fun o => obytes_calls o (opsE false es[i]) (opsE_good false es[i] (by omega)) (by have := opsE_len false es[i]; omega)
      have ha := ensA_at es i hlt
      have hyes := fun h => seqB_bad (f := entB false) hlt hk h
      have hno : (entB false es[i]).2 = 0 → ∀ j (hj : j < es.length), j < i + 1 → (entB false es[j]).2 = 0 := fun h j hj hji => by
        by_cases e : j = i
        · subst e; exact h
        · exact hk j hj (by omega)
      have hsucc := sumE_succ false es i hlt
      have hlen := sumE_len false es hg i hi
      have hlen1 := entB_len false es[i]
      have hopl : opsA (opsE false es[i]) = opsA [sbaOp es[i].addr] ++ opsA (if es[i].text = [] then [] else [txtOp es[i].text]) := by rw [← opsA_append]; rfl
      have hsum : (sumE false es i).length ≤ 1003000 := Nat.le_trans hlen (Nat.mul_le_mul_right 1003 (show i ≤ 1000 by omega))
      change ∀ o σ, ACalls Try.prog 16 [.list o 7 (opsA (opsE false es[i]))] σ fun v σ' => v = .tuple [.list true 1 (bytesA (entB false es[i]).1), .lit (.int .i64 (entB false es[i]).2)] ∧ σ' = σ at hs
      rw [hopl] at hs
      generalize es[i] = x at *
      obtain ⟨bs, hbs⟩ : ∃ bs, (entB false x).1 = bs := ⟨_, rfl⟩
      obtain ⟨er, her⟩ : ∃ er, (entB false x).2 = er := ⟨_, rfl⟩
      rw [hbs] at hs hsucc hlen1
      rw [her] at hs hyes hno
      obtain ⟨ad, tx⟩ := x
      simp only at hs ht hlen1
      have hap : bytesA (aid :: he ++ sumE false es i) ++ bytesA bs = bytesA (aid :: he ++ sumE false es (i + 1)) := by rw [hsucc, ← bytesA_append, List.append_assoc]
      have hbl : (bytesA (aid :: he ++ sumE false es i)).length ≤ 1003003 := by simp; omega
      have hv2 : bs.length ≤ 1003 := by omega
      generalize bytesA (aid :: he ++ sumE false es i) = B0 at *
      clear her hbs
      by_cases hb : er = 0
      · subst hb
        by_cases htx : tx = []
        · subst htx
          simp [hlt, ha, enA]
          intro q hq
          refine callK.of (hs _ _) ?_
          rintro v σ' ⟨rfl, rfl⟩
          simp
          refine ⟨by omega, by omega, i + 1, ⟨by omega, hno rfl⟩, by omega, ⟨?_, ?_⟩, ?_⟩
          · rw [hap]; exact AV.le_refl _
          · rw [hw]; exact AV.le_refl _
          · exact sub_upd_self _ _ _ hq
        · have htl : 0 < tx.length := List.length_pos_iff.2 htx
          rw [if_neg htx] at hs
          simp [hlt, ha, enA, htl]
          intro q hq
          refine callK.of (hs _ _) ?_
          rintro v σ' ⟨rfl, rfl⟩
          simp
          refine ⟨by omega, by omega, i + 1, ⟨by omega, hno rfl⟩, by omega, ⟨?_, ?_⟩, ?_⟩
          · rw [hap]; exact AV.le_refl _
          · rw [hw]; exact AV.le_refl _
          · exact sub_upd_self _ _ _ hq
      · have hb' : ¬ (er : Int) = 0 := by omega
        have hz := hyes hb
        by_cases htx : tx = []
        · subst htx
          simp [hlt, ha, enA]
          intro q hq
          refine callK.of (hs _ _) ?_
          rintro v σ' ⟨rfl, rfl⟩
          simp [hb, hb', hz, hq]
        · have htl : 0 < tx.length := List.length_pos_iff.2 htx
          rw [if_neg htx] at hs
          simp [hlt, ha, enA, htl]
          intro q hq
          refine callK.of (hs _ _) ?_
          rintro v σ' ⟨rfl, rfl⟩
          simp [hb, hb', hz, hq]
    · obtain rfl : i = es.length := by omega
      have hz := seqB_ok (f := entB false) (l := es) fun x hx => by
        obtain ⟨j, hj, rfl⟩ := List.mem_iff_getElem.1 hx
        exact hk j hj hj
      simp [hz, sumE]
  · simp [h1, h2, c1, g1, g2, enA]
    refine codeK.loop follows (st := st7) (plans := pl7) (X := Nat) (fun i => i ≤ es.length ∧ ∀ j (hj : j < es.length), j < i → (entB false es[j]).2 = 0)
      (fun i => [(6, .list true 1 (bytesA (aid :: he ++ sumE false es i))), (7, .lit (.bool false)), (54, .list false 2 (ensA es)), (55, .lit (.int .i64 es.length)), (56, .lit (.int .i64 i))]) (fun _ => σ) (fun i => es.length - i) 0 (by kernel_rfl) (by simp) (by simp [sumE, bytesA, g1]) (sub_upd_self _ _ _ hp) fun i hi => ?_
    obtain ⟨hi, hk⟩ := hi
    by_cases hlt : i < es.length
    · have hw : IntKind.i64.wrap ((i : Int) + 1) = ((i + 1 : Nat) : Int) := wrap_i64 (by omega) (by omega)
      have ht := hg es[i] (List.getElem_mem _)
      have hs := fun o => obytes_calls o (opsE false es[i]) (opsE_good false es[i] (by omega)) (by have := opsE_len false es[i]; omega)
      have ha := ensA_at es i hlt
      have hyes := fun h => seqB_bad (f := entB false) hlt hk h
      have hno : (entB false es[i]).2 = 0 → ∀ j (hj : j < es.length), j < i + 1 → (entB false es[j]).2 = 0 := fun h j hj hji => by
        by_cases e : j = i
        · subst e; exact h
        · exact hk j hj (by omega)
      have hsucc := sumE_succ false es i hlt
      have hlen := sumE_len false es hg i hi
      have hlen1 := entB_len false es[i]
      have hopl : opsA (opsE false es[i]) = opsA [sbaOp es[i].addr] ++ opsA (if es[i].text = [] then [] else [txtOp es[i].text]) := by rw [← opsA_append]; rfl
      have hsum : (sumE false es i).length ≤ 1003000 := Nat.le_trans hlen (Nat.mul_le_mul_right 1003 (show i ≤ 1000 by omega))
      change ∀ o σ, ACalls Try.prog 16 [.list o 7 (opsA (opsE false es[i]))] σ fun v σ' => v = .tuple [.list true 1 (bytesA (entB false es[i]).1), .lit (.int .i64 (entB false es[i]).2)] ∧ σ' = σ at hs
      rw [hopl] at hs
      generalize es[i] = x at *
      obtain ⟨bs, hbs⟩ : ∃ bs, (entB false x).1 = bs := ⟨_, rfl⟩
      obtain ⟨er, her⟩ : ∃ er, (entB false x).2 = er := ⟨_, rfl⟩
      rw [hbs] at hs hsucc hlen1
      rw [her] at hs hyes hno
      obtain ⟨ad, tx⟩ := x
      simp only at hs ht hlen1
      have hap : bytesA (aid :: he ++ sumE false es i) ++ bytesA bs = bytesA (aid :: he ++ sumE false es (i + 1)) := by rw [hsucc, ← bytesA_append, List.append_assoc]
      have hbl : (bytesA (aid :: he ++ sumE false es i)).length ≤ 1003003 := by simp; omega
      have hv2 : bs.length ≤ 1003 := by omega
      generalize bytesA (aid :: he ++ sumE false es i) = B0 at *
      clear her hbs
      by_cases hb : er = 0
      · subst hb
        by_cases htx : tx = []
        · subst htx
          simp [hlt, ha, enA]
          intro q hq
          refine callK.of (hs _ _) ?_
          rintro v σ' ⟨rfl, rfl⟩
          simp
          refine ⟨by omega, by omega, i + 1, ⟨by omega, hno rfl⟩, by omega, ⟨?_, ?_⟩, ?_⟩
          · rw [hap]; exact AV.le_refl _
          · rw [hw]; exact AV.le_refl _
          · exact sub_upd_self _ _ _ hq
        · have htl : 0 < tx.length := List.length_pos_iff.2 htx
          rw [if_neg htx] at hs
          simp [hlt, ha, enA, htl]
          intro q hq
          refine callK.of (hs _ _) ?_
          rintro v σ' ⟨rfl, rfl⟩
          simp
          refine ⟨by omega, by omega, i + 1, ⟨by omega, hno rfl⟩, by omega, ⟨?_, ?_⟩, ?_⟩
          · rw [hap]; exact AV.le_refl _
          · rw [hw]; exact AV.le_refl _
          · exact sub_upd_self _ _ _ hq
      · have hb' : ¬ (er : Int) = 0 := by omega
        have hz := hyes hb
        by_cases htx : tx = []
        · subst htx
          simp [hlt, ha, enA]
          intro q hq
          refine callK.of (hs _ _) ?_
          rintro v σ' ⟨rfl, rfl⟩
          simp [hb, hb', hz, hq]
        · have htl : 0 < tx.length := List.length_pos_iff.2 htx
          rw [if_neg htx] at hs
          simp [hlt, ha, enA, htl]
          intro q hq
          refine callK.of (hs _ _) ?_
          rintro v σ' ⟨rfl, rfl⟩
          simp [hb, hb', hz, hq]
    · obtain rfl : i = es.length := by omega
      have hz := seqB_ok (f := entB false) (l := es) fun x hx => by
        obtain ⟨j, hj, rfl⟩ := List.mem_iff_getElem.1 hx
        exact hk j hj hj
      simp [hz, sumE]
  · simp [h1, h2, c1, c2, g1, g2, enA]
    refine codeK.loop follows (st := st7) (plans := pl7) (X := Nat) (fun i => i ≤ es.length ∧ ∀ j (hj : j < es.length), j < i → (entB false es[j]).2 = 0)
      (fun i => [(6, .list true 1 (bytesA (aid :: he ++ sumE false es i))), (7, .lit (.bool false)), (54, .list false 2 (ensA es)), (55, .lit (.int .i64 es.length)), (56, .lit (.int .i64 i))]) (fun _ => σ) (fun i => es.length - i) 0 (by kernel_rfl) (by simp) (by simp [sumE, bytesA, g1]) (sub_upd_self _ _ _ hp) fun i hi => ?_
    obtain ⟨hi, hk⟩ := hi
    by_cases hlt : i < es.length
    · have hw : IntKind.i64.wrap ((i : Int) + 1) = ((i + 1 : Nat) : Int) := wrap_i64 (by omega) (by omega)
      have ht := hg es[i] (List.getElem_mem _)
      have hs := fun o => obytes_calls o (opsE false es[i]) (opsE_good false es[i] (by omega)) (by have := opsE_len false es[i]; omega)
      have ha := ensA_at es i hlt
      have hyes := fun h => seqB_bad (f := entB false) hlt hk h
      have hno : (entB false es[i]).2 = 0 → ∀ j (hj : j < es.length), j < i + 1 → (entB false es[j]).2 = 0 := fun h j hj hji => by
        by_cases e : j = i
        · subst e; exact h
        · exact hk j hj (by omega)
      have hsucc := sumE_succ false es i hlt
      have hlen := sumE_len false es hg i hi
      have hlen1 := entB_len false es[i]
      have hopl : opsA (opsE false es[i]) = opsA [sbaOp es[i].addr] ++ opsA (if es[i].text = [] then [] else [txtOp es[i].text]) := by rw [← opsA_append]; rfl
      have hsum : (sumE false es i).length ≤ 1003000 := Nat.le_trans hlen (Nat.mul_le_mul_right 1003 (show i ≤ 1000 by omega))
      change ∀ o σ, ACalls Try.prog 16 [.list o 7 (opsA (opsE false es[i]))] σ fun v σ' => v = .tuple [.list true 1 (bytesA (entB false es[i]).1), .lit (.int .i64 (entB false es[i]).2)] ∧ σ' = σ at hs
      rw [hopl] at hs
      generalize es[i] = x at *
      obtain ⟨bs, hbs⟩ : ∃ bs, (entB false x).1 = bs := ⟨_, rfl⟩
      obtain ⟨er, her⟩ : ∃ er, (entB false x).2 = er := ⟨_, rfl⟩
      rw [hbs] at hs hsucc hlen1
      rw [her] at hs hyes hno
      obtain ⟨ad, tx⟩ := x
      simp only at hs ht hlen1
      have hap : bytesA (aid :: he ++ sumE false es i) ++ bytesA bs = bytesA (aid :: he ++ sumE false es (i + 1)) := by rw [hsucc, ← bytesA_append, List.append_assoc]
      have hbl : (bytesA (aid :: he ++ sumE false es i)).length ≤ 1003003 := by simp; omega
      have hv2 : bs.length ≤ 1003 := by omega
      generalize bytesA (aid :: he ++ sumE false es i) = B0 at *
      clear her hbs
      by_cases hb : er = 0
      · subst hb
        by_cases htx : tx = []
        · subst htx
          simp [hlt, ha, enA]
          intro q hq
          refine callK.of (hs _ _) ?_
          rintro v σ' ⟨rfl, rfl⟩
          simp
          refine ⟨by omega, by omega, i + 1, ⟨by omega, hno rfl⟩, by omega, ⟨?_, ?_⟩, ?_⟩
          · rw [hap]; exact AV.le_refl _
          · rw [hw]; exact AV.le_refl _
          · exact sub_upd_self _ _ _ hq
        · have htl : 0 < tx.length := List.length_pos_iff.2 htx
          rw [if_neg htx] at hs
          simp [hlt, ha, enA, htl]
          intro q hq
          refine callK.of (hs _ _) ?_
          rintro v σ' ⟨rfl, rfl⟩
          simp
          refine ⟨by omega, by omega, i + 1, ⟨by omega, hno rfl⟩, by omega, ⟨?_, ?_⟩, ?_⟩
          · rw [hap]; exact AV.le_refl _
          · rw [hw]; exact AV.le_refl _
          · exact sub_upd_self _ _ _ hq
      · have hb' : ¬ (er : Int) = 0 := by omega
        have hz := hyes hb
        by_cases htx : tx = []
        · subst htx
          simp [hlt, ha, enA]
          intro q hq
          refine callK.of (hs _ _) ?_
          rintro v σ' ⟨rfl, rfl⟩
          simp [hb, hb', hz, hq]
        · have htl : 0 < tx.length := List.length_pos_iff.2 htx
          rw [if_neg htx] at hs
          simp [hlt, ha, enA, htl]
          intro q hq
          refine callK.of (hs _ _) ?_
          rintro v σ' ⟨rfl, rfl⟩
          simp [hb, hb', hz, hq]
    · obtain rfl : i = es.length := by omega
      have hz := seqB_ok (f := entB false) (l := es) fun x hx => by
        obtain ⟨j, hj, rfl⟩ := List.mem_iff_getElem.1 hx
        exact hk j hj hj
      simp [hz, sumE]
  · simp [h1, h2, c1, c2, g1, g2, enA]
    refine codeK.loop follows (st := st7) (plans := pl7) (X := Nat) (fun i => i ≤ es.length ∧ ∀ j (hj : j < es.length), j < i → (entB true es[j]).2 = 0)
      (fun i => [(6, .list true 1 (bytesA (aid :: he ++ sumE true es i))), (7, .lit (.bool true)), (54, .list false 2 (ensA es)), (55, .lit (.int .i64 es.length)), (56, .lit (.int .i64 i))]) (fun _ => σ) (fun i => es.length - i) 0 (by kernel_rfl) (by simp) (by simp [sumE, bytesA, g1]) (sub_upd_self _ _ _ hp) fun i hi => ?_
    obtain ⟨hi, hk⟩ := hi
    by_cases hlt : i < es.length
    · have hw : IntKind.i64.wrap ((i : Int) + 1) = ((i + 1 : Nat) : Int) := wrap_i64 (by omega) (by omega)
      have ht := hg es[i] (List.getElem_mem _)
      have hs := fun o => obytes_calls o (opsE true es[i]) (opsE_good true es[i] (by omega)) (by have := opsE_len true es[i]; omega)
      have ha := ensA_at es i hlt
      have hyes := fun h => seqB_bad (f := entB true) hlt hk h
      have hno : (entB true es[i]).2 = 0 → ∀ j (hj : j < es.length), j < i + 1 → (entB true es[j]).2 = 0 := fun h j hj hji => by
        by_cases e : j = i
        · subst e; exact h
        · exact hk j hj (by omega)
      have hsucc := sumE_succ true es i hlt
      have hlen := sumE_len true es hg i hi
      have hlen1 := entB_len true es[i]
      have hopl : opsA (opsE true es[i]) = opsA [] ++ opsA (if es[i].text = [] then [] else [txtOp es[i].text]) := by rw [← opsA_append]; rfl
      have hsum : (sumE true es i).length ≤ 1003000 := Nat.le_trans hlen (Nat.mul_le_mul_right 1003 (show i ≤ 1000 by omega))
      change ∀ o σ, ACalls Try.prog 16 [.list o 7 (opsA (opsE true es[i]))] σ fun v σ' => v = .tuple [.list true 1 (bytesA (entB true es[i]).1), .lit (.int .i64 (entB true es[i]).2)] ∧ σ' = σ at hs
      rw [hopl] at hs
      generalize es[i] = x at *
      obtain ⟨bs, hbs⟩ : ∃ bs, (entB true x).1 = bs := ⟨_, rfl⟩
      obtain ⟨er, her⟩ : ∃ er, (entB true x).2 = er := ⟨_, rfl⟩
      rw [hbs] at hs hsucc hlen1
      rw [her] at hs hyes hno
      obtain ⟨ad, tx⟩ := x
      simp only at hs ht hlen1
      have hap : bytesA (aid :: he ++ sumE true es i) ++ bytesA bs = bytesA (aid :: he ++ sumE true es (i + 1)) := by rw [hsucc, ← bytesA_append, List.append_assoc]
      have hbl : (bytesA (aid :: he ++ sumE true es i)).length ≤ 1003003 := by simp; omega
      have hv2 : bs.length ≤ 1003 := by omega
      generalize bytesA (aid :: he ++ sumE true es i) = B0 at *
      clear her hbs
      by_cases hb : er = 0
      · subst hb
        by_cases htx : tx = []
        · subst htx
          simp [hlt, ha, enA]
          intro q hq
          refine callK.of (hs _ _) ?_
          rintro v σ' ⟨rfl, rfl⟩
          simp
          refine ⟨by omega, by omega, i + 1, ⟨by omega, hno rfl⟩, by omega, ⟨?_, ?_⟩, ?_⟩
          · rw [hap]; exact AV.le_refl _
          · rw [hw]; exact AV.le_refl _
          · exact sub_upd_self _ _ _ hq
        · have htl : 0 < tx.length := List.length_pos_iff.2 htx
          rw [if_neg htx] at hs
          simp [hlt, ha, enA, htl]
          intro q hq
          refine callK.of (hs _ _) ?_
          rintro v σ' ⟨rfl, rfl⟩
          simp
          refine ⟨by omega, by omega, i + 1, ⟨by omega, hno rfl⟩, by omega, ⟨?_, ?_⟩, ?_⟩
          · rw [hap]; exact AV.le_refl _
          · rw [hw]; exact AV.le_refl _
          · exact sub_upd_self _ _ _ hq
      · have hb' : ¬ (er : Int) = 0 := by omega
        have hz := hyes hb
        by_cases htx : tx = []
        · subst htx
          simp [hlt, ha, enA]
          intro q hq
          refine callK.of (hs _ _) ?_
          rintro v σ' ⟨rfl, rfl⟩
          simp [hb, hb', hz, hq]
        · have htl : 0 < tx.length := List.length_pos_iff.2 htx
          rw [if_neg htx] at hs
          simp [hlt, ha, enA, htl]
          intro q hq
          refine callK.of (hs _ _) ?_
          rintro v σ' ⟨rfl, rfl⟩
          simp [hb, hb', hz, hq]
    · obtain rfl : i = es.length := by omega
      have hz := seqB_ok (f := entB true) (l := es) fun x hx => by
        obtain ⟨j, hj, rfl⟩ := List.mem_iff_getElem.1 hx
        exact hk j hj hj
      simp [hz, sumE]

/-- All characters up to one that is no order's. -/
theorem entB_false (e : En) : entB false e = if okAddr e.addr then (if hasOrd e.text = true then ([], 10) else (17 :: encM e.addr.toNat ++ e.text, 0)) else ([], 9) := by
  have h17 : opB (sbaOp e.addr) = if okAddr e.addr then (17 :: encM e.addr.toNat, 0) else ([], 9) := rfl
  have ht : opB (txtOp e.text) = if e.text = [] ∨ hasOrd e.text = true then ([], 10) else (e.text, 0) := rfl
  have hn : hasOrd [] = false := rfl
  by_cases h1 : okAddr e.addr
  · rw [if_pos h1] at h17 ⊢
    by_cases h2 : e.text = []
    · simp [entB, opsE, h2, seqB, h17, hn]
    · by_cases h3 : hasOrd e.text = true
      · rw [if_pos (.inr h3)] at ht
        simp [entB, opsE, h2, seqB, h17, ht, h3]
      · rw [if_neg (by simp [h2, h3])] at ht
        simp [entB, opsE, h2, seqB, h17, ht, h3]
  · rw [if_neg h1] at h17 ⊢
    simp [entB, opsE, seqB, h17]
theorem entB_true (e : En) (h : 0 < e.text.length) : entB true e = if hasOrd e.text = true then ([], 10) else (e.text, 0) := by
  have h2 : e.text ≠ [] := List.length_pos_iff.1 h
  have ht : opB (txtOp e.text) = if e.text = [] ∨ hasOrd e.text = true then ([], 10) else (e.text, 0) := rfl
  by_cases h3 : hasOrd e.text = true
  · rw [if_pos (.inr h3)] at ht
    simp [entB, opsE, h2, seqB, ht, h3]
  · rw [if_neg (by simp [h2, h3])] at ht
    simp [entB, opsE, h2, seqB, ht, h3]
end Go.Proofs.Ytkbokmokklbahaa
/-
  A report's bytes, as the document has them.
-/
namespace Go.Proofs.Ytkbokmokklbahaa
open Go Go.AL

set_option maxRecDepth 4000 in
set_option maxHeartbeats 4000000 in
theorem rbytes_ok (o : Bool) (aid : UInt8) (cursor : Int) (es : List En) (he : List UInt8) (hhl : he.length = 2) (hl : es.length ≤ 1000) (hg : ∀ e ∈ es, e.text.length ≤ 1000) (al : Bool) (hal : aloneL es = al) (σ : Store)
    (hen0 : ∀ σ, ACalls Try.prog 17 [.lit (.int .i64 12), .lit (.int .i64 cursor)] σ fun v σ' => v = .tuple [.list true 1 (bytesA he), .lit (.int .i64 0)] ∧ σ' = σ) :
    ACalls Try.prog 9 [.agg [byteA aid, .lit (.bool false), .lit (.int .i64 cursor), .list o 2 (ensA es)]] σ fun v σ' =>
      v = .tuple (if (seqB (entB al) es).2 ≠ 0 then [.list true 1 [], .lit (.int .i64 (seqB (entB al) es).2)] else [.list true 1 (bytesA (aid :: he ++ (seqB (entB al) es).1)), .lit (.int .i64 0)]) ∧ σ' = σ := by
  have h1 : 1 + he.length ≤ 9223372036854775807 := by omega
  have h2 : 1 + he.length ≤ 140737488355328 := by omega
  refine ACalls.of_awp follows (st := st9) (plans := pl9) (n := 82) Try.func9 rfl (by kernel_rfl) (by kernel_rfl) (by kernel_rfl) ?_
  simp
  intro p hp
  refine callK.of (hen0 _) ?_
  rintro v σ' ⟨rfl, rfl⟩
  simp [h1, h2]
  refine codeK.loop follows (st := st9) (plans := pl9) (X := Nat) (fun i => i ≤ es.length ∧ ∀ j (hj : j < es.length), j < i → (entB al es[j]).2 = 0)
    (fun i => [(1, .lit (.pointer (some ⟨p, 0, none⟩))), (6, .list true 1 (bytesA (aid :: he ++ sumE al es i))), (31, .list false 2 (ensA es)), (32, .lit (.int .i64 es.length)), (33, .lit (.int .i64 i))])
    (fun _ => σ.upd p [byteA aid, .lit (.bool false), .lit (.int .i64 cursor), .list o 2 (ensA es)]) (fun i => es.length - i) 0 (by kernel_rfl) (by simp) (by simp [sumE, bytesA]) (Store.sub_refl _) fun i hi => ?_
  obtain ⟨hi, hk⟩ := hi
  by_cases hlt : i < es.length
  · have hw : IntKind.i64.wrap ((i : Int) + 1) = ((i + 1 : Nat) : Int) := wrap_i64 (by omega) (by omega)
    have ht := hg es[i] (List.getElem_mem _)
    have ha := ensA_at es i hlt
    have hyes := fun h => seqB_bad (f := entB al) hlt hk h
    have hno : (entB al es[i]).2 = 0 → ∀ j (hj : j < es.length), j < i + 1 → (entB al es[j]).2 = 0 := fun h j hj hji => by
      by_cases e : j = i
      · subst e; exact h
      · exact hk j hj (by omega)
    have hsucc := sumE_succ al es i hlt
    have hlen := sumE_len al es hg i hi
    have hsum : (sumE al es i).length ≤ 1003000 := Nat.le_trans hlen (Nat.mul_le_mul_right 1003 (show i ≤ 1000 by omega))
    have hcase : (1 < es.length ∧ al = false) ∨ (¬ 1 < es.length ∧ ¬ es[i].addr = 0 ∧ al = false) ∨ (¬ 1 < es.length ∧ es[i].addr = 0 ∧ es[i].text = [] ∧ al = false) ∨ (¬ 1 < es.length ∧ es[i].addr = 0 ∧ 0 < es[i].text.length ∧ al = true) := by
      rw [← hal]
      rcases aloneL_cases es with ⟨c1, c2⟩ | ⟨e, c0, c⟩
      · exact .inl ⟨by omega, c2⟩
      · have hi0 : i = 0 := by rw [c0] at hlt; simp at hlt; exact hlt
        have hee : es[i] = e := by subst hi0; subst c0; rfl
        rw [hee]
        have hnl : ¬ 1 < es.length := by rw [c0]; simp
        rcases c with ⟨c1, c2⟩ | ⟨c1, c2, c3⟩ | ⟨c1, c2, c3⟩
        · exact .inr (.inl ⟨hnl, c1, c2⟩)
        · exact .inr (.inr (.inl ⟨hnl, c1, List.eq_nil_of_length_eq_zero c2, c3⟩))
        · exact .inr (.inr (.inr ⟨hnl, c1, c2, c3⟩))
    generalize es[i] = x at *
    obtain ⟨ad, tx⟩ := x
    simp only at hcase ht
    obtain ⟨O0, hO0⟩ : ∃ O0, aid :: he ++ sumE al es i = O0 := ⟨_, rfl⟩
    have hO0l : O0.length ≤ 1003010 := by rw [← hO0]; simp; omega
    rw [hO0]
    rcases hcase with ⟨c1, rfl⟩ | ⟨c1, c2, rfl⟩ | ⟨c1, c2, c3, rfl⟩ | ⟨c1, c2, htl, rfl⟩
    · have c1' : (1 : Int) < (es.length : Int) := by omega
      by_cases hoa : okAddr ad
      · have hBad : hasOrd tx = true → seqB (entB false) es = ([], 10) := fun h => by
          have e0 : entB false ⟨ad, tx⟩ = ([], 10) := by rw [entB_false]; simp [hoa, h]
          have := hyes (by rw [e0]; decide)
          rw [this, e0]
        have hGood : hasOrd tx = false → (∀ j (hj : j < es.length), j < i + 1 → (entB false es[j]).2 = 0) ∧ (O0 ++ (17 :: encM ad.toNat)) ++ tx = aid :: he ++ sumE false es (i + 1) := fun h => by
          have e0 : entB false ⟨ad, tx⟩ = (17 :: encM ad.toNat ++ tx, 0) := by rw [entB_false]; simp [hoa, h]
          refine ⟨hno (by rw [e0]), ?_⟩
          rw [hsucc, e0, ← hO0]; simp
        have hel : (encM ad.toNat).length = 2 := rfl
        obtain ⟨ed, hed⟩ : ∃ ed, encM ad.toNat = ed := ⟨_, rfl⟩
        have hen := enc4_calls ad
        rw [encR, if_pos hoa, hed] at hen
        rw [hed] at hGood hel
        have hO1 : bytesA O0 ++ byteA 17 :: bytesA ed = bytesA (O0 ++ (17 :: ed)) := by simp [bytesA]
        have h17 : AV.lit (.int .u8 17) = byteA 17 := rfl
        have hO1l : (O0 ++ (17 :: ed)).length ≤ 1003100 := by simp; omega
        generalize O0 ++ (17 :: ed) = O1 at *
        simp [hlt, ha, enA, c1, c1']
        intro q hq
        simp only [ite_none] at hq
        obtain ⟨hqp, hq0⟩ := hq
        have hq : (σ.upd p [byteA aid, .lit (.bool false), .lit (.int .i64 cursor), .list o 2 (ensA es)]) q = none := by simp [hqp, hq0]
        simp [c1, c1', hqp, Ne.symm hqp]
        refine callK.of (hen _) ?_
        rintro v σ' ⟨rfl, rfl⟩
        simp [hqp, Ne.symm hqp, h17]
        refine ⟨by omega, by omega, by omega, by omega, ?_⟩
        refine codeK.loop follows (st := st9) (plans := pl9) (X := Nat) (fun j => j ≤ tx.length ∧ ∀ k (hk : k < tx.length), k < j → isOrd tx[k] = false)
          (fun j => [(1, .lit (.pointer (some ⟨p, 0, none⟩))), (6, .list true 1 (bytesA O1)), (8, .lit (.pointer (some ⟨q, 0, none⟩))), (31, .list false 2 (ensA es)), (32, .lit (.int .i64 es.length)), (33, .lit (.int .i64 i)), (67, .list false 1 (bytesA tx)), (68, .lit (.int .i64 tx.length)), (69, .lit (.int .i64 j))])
          (fun _ => (σ.upd p [byteA aid, .lit (.bool false), .lit (.int .i64 cursor), .list o 2 (ensA es)]).upd q [.lit (.int .i64 ad), .list false 1 (bytesA tx)]) (fun j => tx.length - j) 0 (by kernel_rfl) (by simp) (by simp [hO1]) (Store.sub_refl _) fun j hj => ?_
        obtain ⟨hj, hnj⟩ := hj
        by_cases hjt : j < tx.length
        · have hw2 : IntKind.i64.wrap ((j : Int) + 1) = ((j + 1 : Nat) : Int) := wrap_i64 (by omega) (by omega)
          have his := is16_calls tx[j]
          have hat := bytesA_at tx j hjt
          have hsome := fun h => hasOrd_some (l := tx) hjt h
          have hnone : isOrd tx[j] = false → ∀ k (hk : k < tx.length), k < j + 1 → isOrd tx[k] = false := fun h k hk hkj => by
            by_cases e : k = j
            · subst e; exact h
            · exact hnj k hk (by omega)
          generalize tx[j] = c at *
          by_cases hc : isOrd c = true
          · have hB := hBad (hsome hc)
            simp [hjt, hat]
            refine callK.of (his _) ?_
            rintro v σ' ⟨rfl, rfl⟩
            simp [hc, hB]
            exact Store.sub_upd hq0 (Store.sub_upd hp (Store.sub_refl _))
          · have hc' : isOrd c = false := by simpa using hc
            simp [hjt, hat]
            refine callK.of (his _) ?_
            rintro v σ' ⟨rfl, rfl⟩
            simp [hc']
            exact ⟨j + 1, ⟨by omega, hnone hc'⟩, by omega, by rw [hw2]; exact AV.le_refl _⟩
        · obtain rfl : j = tx.length := by omega
          have hO := hasOrd_none fun k hk => hnj k hk hk
          obtain ⟨g1, g2⟩ := hGood hO
          simp
          refine ⟨by omega, by omega, i + 1, ⟨by omega, g1⟩, by omega, ⟨?_, ?_⟩, ?_⟩
          · rw [← bytesA_append, g2]; exact AV.le_refl _
          · rw [hw]; exact AV.le_refl _
          · exact Store.sub_upd hq (Store.sub_refl _)
      · have e0 : entB false ⟨ad, tx⟩ = ([], 9) := by rw [entB_false]; simp [hoa]
        have hz := hyes (by rw [e0]; decide)
        rw [e0] at hz
        have hen := enc4_calls ad
        rw [encR, if_neg hoa] at hen
        simp [hlt, ha, enA, c1, c1']
        intro q hq
        simp only [ite_none] at hq
        obtain ⟨hqp, hq0⟩ := hq
        simp [c1, c1', hqp, Ne.symm hqp]
        refine callK.of (hen _) ?_
        rintro v σ' ⟨rfl, rfl⟩
        simp [hz]
        exact Store.sub_upd hq0 (Store.sub_upd hp (Store.sub_refl _))
    · have c1' : ¬ (1 : Int) < (es.length : Int) := by omega
      by_cases hoa : okAddr ad
      · have hBad : hasOrd tx = true → seqB (entB false) es = ([], 10) := fun h => by
          have e0 : entB false ⟨ad, tx⟩ = ([], 10) := by rw [entB_false]; simp [hoa, h]
          have := hyes (by rw [e0]; decide)
          rw [this, e0]
        have hGood : hasOrd tx = false → (∀ j (hj : j < es.length), j < i + 1 → (entB false es[j]).2 = 0) ∧ (O0 ++ (17 :: encM ad.toNat)) ++ tx = aid :: he ++ sumE false es (i + 1) := fun h => by
          have e0 : entB false ⟨ad, tx⟩ = (17 :: encM ad.toNat ++ tx, 0) := by rw [entB_false]; simp [hoa, h]
          refine ⟨hno (by rw [e0]), ?_⟩
          rw [hsucc, e0, ← hO0]; simp
        have hel : (encM ad.toNat).length = 2 := rfl
        obtain ⟨ed, hed⟩ : ∃ ed, encM ad.toNat = ed := ⟨_, rfl⟩
        have hen := enc4_calls ad
        rw [encR, if_pos hoa, hed] at hen
        rw [hed] at hGood hel
        have hO1 : bytesA O0 ++ byteA 17 :: bytesA ed = bytesA (O0 ++ (17 :: ed)) := by simp [bytesA]
        have h17 : AV.lit (.int .u8 17) = byteA 17 := rfl
        have hO1l : (O0 ++ (17 :: ed)).length ≤ 1003100 := by simp; omega
        generalize O0 ++ (17 :: ed) = O1 at *
        simp [hlt, ha, enA, c1, c1', c2]
        intro q hq
        simp only [ite_none] at hq
        obtain ⟨hqp, hq0⟩ := hq
        have hq : (σ.upd p [byteA aid, .lit (.bool false), .lit (.int .i64 cursor), .list o 2 (ensA es)]) q = none := by simp [hqp, hq0]
        simp [c1, c1', c2, hqp, Ne.symm hqp]
        refine callK.of (hen _) ?_
        rintro v σ' ⟨rfl, rfl⟩
        simp [hqp, Ne.symm hqp, h17]
        refine ⟨by omega, by omega, by omega, by omega, ?_⟩
        refine codeK.loop follows (st := st9) (plans := pl9) (X := Nat) (fun j => j ≤ tx.length ∧ ∀ k (hk : k < tx.length), k < j → isOrd tx[k] = false)
          (fun j => [(1, .lit (.pointer (some ⟨p, 0, none⟩))), (6, .list true 1 (bytesA O1)), (8, .lit (.pointer (some ⟨q, 0, none⟩))), (31, .list false 2 (ensA es)), (32, .lit (.int .i64 es.length)), (33, .lit (.int .i64 i)), (67, .list false 1 (bytesA tx)), (68, .lit (.int .i64 tx.length)), (69, .lit (.int .i64 j))])
          (fun _ => (σ.upd p [byteA aid, .lit (.bool false), .lit (.int .i64 cursor), .list o 2 (ensA es)]).upd q [.lit (.int .i64 ad), .list false 1 (bytesA tx)]) (fun j => tx.length - j) 0 (by kernel_rfl) (by simp) (by simp [hO1]) (Store.sub_refl _) fun j hj => ?_
        obtain ⟨hj, hnj⟩ := hj
        by_cases hjt : j < tx.length
        · have hw2 : IntKind.i64.wrap ((j : Int) + 1) = ((j + 1 : Nat) : Int) := wrap_i64 (by omega) (by omega)
          have his := is16_calls tx[j]
          have hat := bytesA_at tx j hjt
          have hsome := fun h => hasOrd_some (l := tx) hjt h
          have hnone : isOrd tx[j] = false → ∀ k (hk : k < tx.length), k < j + 1 → isOrd tx[k] = false := fun h k hk hkj => by
            by_cases e : k = j
            · subst e; exact h
            · exact hnj k hk (by omega)
          generalize tx[j] = c at *
          by_cases hc : isOrd c = true
          · have hB := hBad (hsome hc)
            simp [hjt, hat]
            refine callK.of (his _) ?_
            rintro v σ' ⟨rfl, rfl⟩
            simp [hc, hB]
            exact Store.sub_upd hq0 (Store.sub_upd hp (Store.sub_refl _))
          · have hc' : isOrd c = false := by simpa using hc
            simp [hjt, hat]
            refine callK.of (his _) ?_
            rintro v σ' ⟨rfl, rfl⟩
            simp [hc']
            exact ⟨j + 1, ⟨by omega, hnone hc'⟩, by omega, by rw [hw2]; exact AV.le_refl _⟩
        · obtain rfl : j = tx.length := by omega
          have hO := hasOrd_none fun k hk => hnj k hk hk
          obtain ⟨g1, g2⟩ := hGood hO
          simp
          refine ⟨by omega, by omega, i + 1, ⟨by omega, g1⟩, by omega, ⟨?_, ?_⟩, ?_⟩
          · rw [← bytesA_append, g2]; exact AV.le_refl _
          · rw [hw]; exact AV.le_refl _
          · exact Store.sub_upd hq (Store.sub_refl _)
      · have e0 : entB false ⟨ad, tx⟩ = ([], 9) := by rw [entB_false]; simp [hoa]
        have hz := hyes (by rw [e0]; decide)
        rw [e0] at hz
        have hen := enc4_calls ad
        rw [encR, if_neg hoa] at hen
        simp [hlt, ha, enA, c1, c1', c2]
        intro q hq
        simp only [ite_none] at hq
        obtain ⟨hqp, hq0⟩ := hq
        simp [c1, c1', c2, hqp, Ne.symm hqp]
        refine callK.of (hen _) ?_
        rintro v σ' ⟨rfl, rfl⟩
        simp [hz]
        exact Store.sub_upd hq0 (Store.sub_upd hp (Store.sub_refl _))
    · have c1' : ¬ (1 : Int) < (es.length : Int) := by omega
      have c3T : (tx = []) = True := eq_true c3
      subst c2
      by_cases hoa : okAddr (0 : Int)
      · have hBad : hasOrd tx = true → seqB (entB false) es = ([], 10) := fun h => by
          have e0 : entB false ⟨(0 : Int), tx⟩ = ([], 10) := by rw [entB_false]; simp [hoa, h]
          have := hyes (by rw [e0]; decide)
          rw [this, e0]
        have hGood : hasOrd tx = false → (∀ j (hj : j < es.length), j < i + 1 → (entB false es[j]).2 = 0) ∧ (O0 ++ (17 :: encM (0 : Int).toNat)) ++ tx = aid :: he ++ sumE false es (i + 1) := fun h => by
          have e0 : entB false ⟨(0 : Int), tx⟩ = (17 :: encM (0 : Int).toNat ++ tx, 0) := by rw [entB_false]; simp [hoa, h]
          refine ⟨hno (by rw [e0]), ?_⟩
          rw [hsucc, e0, ← hO0]; simp
        have hel : (encM (0 : Int).toNat).length = 2 := rfl
        obtain ⟨ed, hed⟩ : ∃ ed, encM (0 : Int).toNat = ed := ⟨_, rfl⟩
        have hen := enc4_calls (0 : Int)
        rw [encR, if_pos hoa, hed] at hen
        rw [hed] at hGood hel
        have hO1 : bytesA O0 ++ byteA 17 :: bytesA ed = bytesA (O0 ++ (17 :: ed)) := by simp [bytesA]
        have h17 : AV.lit (.int .u8 17) = byteA 17 := rfl
        have hO1l : (O0 ++ (17 :: ed)).length ≤ 1003100 := by simp; omega
        generalize O0 ++ (17 :: ed) = O1 at *
        simp [hlt, ha, enA, c1, c1', c3T]
        intro q hq
        simp only [ite_none] at hq
        obtain ⟨hqp, hq0⟩ := hq
        have hq : (σ.upd p [byteA aid, .lit (.bool false), .lit (.int .i64 cursor), .list o 2 (ensA es)]) q = none := by simp [hqp, hq0]
        simp [c1, c1', c3T, hqp, Ne.symm hqp]
        refine callK.of (hen _) ?_
        rintro v σ' ⟨rfl, rfl⟩
        simp [hqp, Ne.symm hqp, h17]
        refine ⟨by omega, by omega, by omega, by omega, ?_⟩
        refine codeK.loop follows (st := st9) (plans := pl9) (X := Nat) (fun j => j ≤ tx.length ∧ ∀ k (hk : k < tx.length), k < j → isOrd tx[k] = false)
          (fun j => [(1, .lit (.pointer (some ⟨p, 0, none⟩))), (6, .list true 1 (bytesA O1)), (8, .lit (.pointer (some ⟨q, 0, none⟩))), (31, .list false 2 (ensA es)), (32, .lit (.int .i64 es.length)), (33, .lit (.int .i64 i)), (67, .list false 1 (bytesA tx)), (68, .lit (.int .i64 tx.length)), (69, .lit (.int .i64 j))])
          (fun _ => (σ.upd p [byteA aid, .lit (.bool false), .lit (.int .i64 cursor), .list o 2 (ensA es)]).upd q [.lit (.int .i64 (0 : Int)), .list false 1 (bytesA tx)]) (fun j => tx.length - j) 0 (by kernel_rfl) (by simp) (by simp [hO1]) (Store.sub_refl _) fun j hj => ?_
        obtain ⟨hj, hnj⟩ := hj
        by_cases hjt : j < tx.length
        · have hw2 : IntKind.i64.wrap ((j : Int) + 1) = ((j + 1 : Nat) : Int) := wrap_i64 (by omega) (by omega)
          have his := is16_calls tx[j]
          have hat := bytesA_at tx j hjt
          have hsome := fun h => hasOrd_some (l := tx) hjt h
          have hnone : isOrd tx[j] = false → ∀ k (hk : k < tx.length), k < j + 1 → isOrd tx[k] = false := fun h k hk hkj => by
            by_cases e : k = j
            · subst e; exact h
            · exact hnj k hk (by omega)
          generalize tx[j] = c at *
          by_cases hc : isOrd c = true
          · have hB := hBad (hsome hc)
            simp [hjt, hat]
            refine callK.of (his _) ?_
            rintro v σ' ⟨rfl, rfl⟩
            simp [hc, hB]
            exact Store.sub_upd hq0 (Store.sub_upd hp (Store.sub_refl _))
          · have hc' : isOrd c = false := by simpa using hc
            simp [hjt, hat]
            refine callK.of (his _) ?_
            rintro v σ' ⟨rfl, rfl⟩
            simp [hc']
            exact ⟨j + 1, ⟨by omega, hnone hc'⟩, by omega, by rw [hw2]; exact AV.le_refl _⟩
        · obtain rfl : j = tx.length := by omega
          have hO := hasOrd_none fun k hk => hnj k hk hk
          obtain ⟨g1, g2⟩ := hGood hO
          simp
          refine ⟨by omega, by omega, i + 1, ⟨by omega, g1⟩, by omega, ⟨?_, ?_⟩, ?_⟩
          · rw [← bytesA_append, g2]; exact AV.le_refl _
          · rw [hw]; exact AV.le_refl _
          · exact Store.sub_upd hq (Store.sub_refl _)
      · have e0 : entB false ⟨(0 : Int), tx⟩ = ([], 9) := by rw [entB_false]; simp [hoa]
        have hz := hyes (by rw [e0]; decide)
        rw [e0] at hz
        have hen := enc4_calls (0 : Int)
        rw [encR, if_neg hoa] at hen
        simp [hlt, ha, enA, c1, c1', c3T]
        intro q hq
        simp only [ite_none] at hq
        obtain ⟨hqp, hq0⟩ := hq
        simp [c1, c1', c3T, hqp, Ne.symm hqp]
        refine callK.of (hen _) ?_
        rintro v σ' ⟨rfl, rfl⟩
        simp [hz]
        exact Store.sub_upd hq0 (Store.sub_upd hp (Store.sub_refl _))
    · have c1' : ¬ (1 : Int) < (es.length : Int) := by omega
      have c3 : ¬ tx = [] := List.length_pos_iff.1 htl
      subst c2
      have hBad : hasOrd tx = true → seqB (entB true) es = ([], 10) := fun h => by
        have e0 : entB true ⟨(0 : Int), tx⟩ = ([], 10) := by rw [entB_true _ htl]; simp [h]
        have := hyes (by rw [e0]; decide)
        rw [this, e0]
      have hGood : hasOrd tx = false → (∀ j (hj : j < es.length), j < i + 1 → (entB true es[j]).2 = 0) ∧ O0 ++ tx = aid :: he ++ sumE true es (i + 1) := fun h => by
        have e0 : entB true ⟨(0 : Int), tx⟩ = (tx, 0) := by rw [entB_true _ htl]; simp [h]
        refine ⟨hno (by rw [e0]), ?_⟩
        rw [hsucc, e0, ← hO0]; simp
      have hO1l : O0.length ≤ 1003100 := by omega
      obtain ⟨O1, hO1⟩ : ∃ O1, O0 = O1 := ⟨_, rfl⟩
      rw [hO1] at hGood hO1l
      simp [hlt, ha, enA, c1, c1', c3]
      intro q hq
      simp only [ite_none] at hq
      obtain ⟨hqp, hq0⟩ := hq
      have hq : (σ.upd p [byteA aid, .lit (.bool false), .lit (.int .i64 cursor), .list o 2 (ensA es)]) q = none := by simp [hqp, hq0]
      simp [c1, c1', c3, hqp, Ne.symm hqp]
      refine codeK.loop follows (st := st9) (plans := pl9) (X := Nat) (fun j => j ≤ tx.length ∧ ∀ k (hk : k < tx.length), k < j → isOrd tx[k] = false)
        (fun j => [(1, .lit (.pointer (some ⟨p, 0, none⟩))), (6, .list true 1 (bytesA O1)), (8, .lit (.pointer (some ⟨q, 0, none⟩))), (31, .list false 2 (ensA es)), (32, .lit (.int .i64 es.length)), (33, .lit (.int .i64 i)), (67, .list false 1 (bytesA tx)), (68, .lit (.int .i64 tx.length)), (69, .lit (.int .i64 j))])
        (fun _ => (σ.upd p [byteA aid, .lit (.bool false), .lit (.int .i64 cursor), .list o 2 (ensA es)]).upd q [.lit (.int .i64 (0 : Int)), .list false 1 (bytesA tx)]) (fun j => tx.length - j) 0 (by kernel_rfl) (by simp) (by simp [hO1]) (Store.sub_refl _) fun j hj => ?_
      obtain ⟨hj, hnj⟩ := hj
      by_cases hjt : j < tx.length
      · have hw2 : IntKind.i64.wrap ((j : Int) + 1) = ((j + 1 : Nat) : Int) := wrap_i64 (by omega) (by omega)
        have his := is16_calls tx[j]
        have hat := bytesA_at tx j hjt
        have hsome := fun h => hasOrd_some (l := tx) hjt h
        have hnone : isOrd tx[j] = false → ∀ k (hk : k < tx.length), k < j + 1 → isOrd tx[k] = false := fun h k hk hkj => by
          by_cases e : k = j
          · subst e; exact h
          · exact hnj k hk (by omega)
        generalize tx[j] = c at *
        by_cases hc : isOrd c = true
        · have hB := hBad (hsome hc)
          simp [hjt, hat]
          refine callK.of (his _) ?_
          rintro v σ' ⟨rfl, rfl⟩
          simp [hc, hB]
          exact Store.sub_upd hq0 (Store.sub_upd hp (Store.sub_refl _))
        · have hc' : isOrd c = false := by simpa using hc
          simp [hjt, hat]
          refine callK.of (his _) ?_
          rintro v σ' ⟨rfl, rfl⟩
          simp [hc']
          exact ⟨j + 1, ⟨by omega, hnone hc'⟩, by omega, by rw [hw2]; exact AV.le_refl _⟩
      · obtain rfl : j = tx.length := by omega
        have hO := hasOrd_none fun k hk => hnj k hk hk
        obtain ⟨g1, g2⟩ := hGood hO
        simp
        refine ⟨by omega, by omega, i + 1, ⟨by omega, g1⟩, by omega, ⟨?_, ?_⟩, ?_⟩
        · rw [← bytesA_append, g2]; exact AV.le_refl _
        · rw [hw]; exact AV.le_refl _
        · exact Store.sub_upd hq (Store.sub_refl _)
  · obtain rfl : i = es.length := by omega
    have hz := seqB_ok (f := entB al) (l := es) fun x hx => by
      obtain ⟨j, hj, rfl⟩ := List.mem_iff_getElem.1 hx
      exact hk j hj hj
    simp [hz, sumE]
    exact Store.sub_upd hp (Store.sub_refl _)

set_option maxRecDepth 4000 in
theorem rbytes_short (o : Bool) (aid : UInt8) (cursor : Int) (es : List En) (σ : Store) :
    ACalls Try.prog 9 [.agg [byteA aid, .lit (.bool true), .lit (.int .i64 cursor), .list o 2 (ensA es)]] σ fun v σ' => v = .tuple [.list true 1 (bytesA [aid]), .lit (.int .i64 0)] ∧ σ' = σ := by
  refine ACalls.of_awp follows (st := st9) (plans := pl9) (n := 82) Try.func9 rfl (by kernel_rfl) (by kernel_rfl) (by kernel_rfl) ?_
  simp [bytesA]
  exact fun p hp => sub_upd_self _ _ _ hp
set_option maxRecDepth 4000 in
theorem rbytes_bad (o : Bool) (aid : UInt8) (cursor : Int) (es : List En) (σ : Store) (hen : ∀ σ, ACalls Try.prog 17 [.lit (.int .i64 12), .lit (.int .i64 cursor)] σ fun v σ' => v = .tuple [.list true 1 [], .lit (.int .i64 9)] ∧ σ' = σ) :
    ACalls Try.prog 9 [.agg [byteA aid, .lit (.bool false), .lit (.int .i64 cursor), .list o 2 (ensA es)]] σ fun v σ' => v = .tuple [.list true 1 [], .lit (.int .i64 9)] ∧ σ' = σ := by
  refine ACalls.of_awp follows (st := st9) (plans := pl9) (n := 82) Try.func9 rfl (by kernel_rfl) (by kernel_rfl) (by kernel_rfl) ?_
  simp
  intro p hp
  refine callK.of (hen _) ?_
  rintro v σ' ⟨rfl, rfl⟩
  simp [hp]

/-- A report that may be written: not too long. -/
def small (r : Rp) : Prop := r.es.length ≤ 1000 ∧ ∀ e ∈ r.es, e.text.length ≤ 1000
def rpO (o : Bool) (r : Rp) : AV := .agg [byteA r.aid, .lit (.bool r.short), .lit (.int .i64 r.cursor), .list o 2 (ensA r.es)]
def outA (x : List UInt8 × Nat) : AV := .tuple [.list true 1 (bytesA x.1), .lit (.int .i64 x.2)]
theorem rep_out (aid : UInt8) (cursor : Int) (es : List En) (h : okAddr cursor) (x : List UInt8 × Nat) (hx : seqB (entB (aloneL es)) es = x) :
    AV.tuple (if x.2 ≠ 0 then [.list true 1 [], .lit (.int .i64 x.2)] else [.list true 1 (bytesA (aid :: encM cursor.toNat ++ x.1)), .lit (.int .i64 0)]) = outA (repB ⟨aid, false, cursor, es⟩) := by
  simp only [repB, h, hx, if_true, if_false, outA]
  by_cases h0 : x.2 = 0 <;> simp [h0, bytesA_nil]
theorem ebytes_calls (o : Bool) (r : Rp) (h : small r) (σ : Store) : ACalls Try.prog 7 [rpO o r] σ fun v σ' => v = outA (repB r) ∧ σ' = σ := by
  obtain ⟨aid, short, cursor, es⟩ := r
  cases short with
  | true => exact ebytes_short o aid cursor es σ
  | false =>
    by_cases hc : okAddr cursor
    · have hen := enc_calls cursor
      rw [encR, if_pos hc] at hen
      have := ebytes_ok o aid cursor es (encM cursor.toNat) rfl h.1 h.2 _ rfl σ hen
      rw [rep_out aid cursor es hc _ rfl] at this
      exact this
    · have hen := enc_calls cursor
      rw [encR, if_neg hc] at hen
      have hb : outA (repB ⟨aid, false, cursor, es⟩) = .tuple [.list true 1 [], .lit (.int .i64 9)] := by simp [outA, repB, hc, bytesA_nil]
      rw [hb]
      exact ebytes_bad o aid cursor es σ hen
theorem rbytes_calls (o : Bool) (r : Rp) (h : small r) (σ : Store) : ACalls Try.prog 9 [rpO o r] σ fun v σ' => v = outA (repB r) ∧ σ' = σ := by
  obtain ⟨aid, short, cursor, es⟩ := r
  cases short with
  | true => exact rbytes_short o aid cursor es σ
  | false =>
    by_cases hc : okAddr cursor
    · have hen := enc4_calls cursor
      rw [encR, if_pos hc] at hen
      have := rbytes_ok o aid cursor es (encM cursor.toNat) rfl h.1 h.2 _ rfl σ hen
      rw [rep_out aid cursor es hc _ rfl] at this
      exact this
    · have hen := enc4_calls cursor
      rw [encR, if_neg hc] at hen
      have hb : outA (repB ⟨aid, false, cursor, es⟩) = .tuple [.list true 1 [], .lit (.int .i64 9)] := by simp [outA, repB, hc, bytesA_nil]
      rw [hb]
      exact rbytes_bad o aid cursor es σ hen
end Go.Proofs.Ytkbokmokklbahaa
/-
  The scanner of orders.
-/
namespace Go.Proofs.Ytkbokmokklbahaa
open Go Go.AL
abbrev ptrA (o : Nat) : AV := .lit (.pointer (some ⟨o, 0, none⟩))
/-- What is left, and the first error. -/
def scA (o : Bool) (l : List UInt8) (e : Nat) : List AV := [.list o 1 (bytesA l), .lit (.int .i64 e)]
def failE (e c : Nat) : Nat := if e = 0 then c else e

theorem fail_calls (b : Nat) (o : Bool) (l : List UInt8) (e c : Nat) (σ : Store) (hb : σ b = some (scA o l e)) :
    ACalls Try.prog 47 [ptrA b, .lit (.int .i64 c)] σ fun v σ' => v = .tuple [] ∧ σ' = σ.upd b (scA o l (failE e c)) := by
  refine ACalls.of_awp follows (st := st47) (plans := pl47) (n := 13) Try.func47 rfl (by kernel_rfl) (by kernel_rfl) (by kernel_rfl) ?_
  unfold scA at hb
  by_cases h : e = 0
  · subst h
    simp [hb]
    exact sub_eq (by simp [scA, failE])
  · have h' : ¬ (e : Int) = 0 := by omega
    simp [hb, h, h']
    rw [failE, if_neg h]
    intro q
    by_cases hq : q = b
    · subst hq; right; simp [hb, scA]
    · right; simp [hq]

set_option maxRecDepth 4000 in
theorem take_ok (b : Nat) (o : Bool) (l : List UInt8) (e n : Nat) (σ : Store) (hb : σ b = some (scA o l e)) (hn : n ≤ l.length) (hl : l.length ≤ 1000000000) :
    ACalls Try.prog 39 [ptrA b, .lit (.int .i64 n)] σ fun v σ' => v = .list false 1 (bytesA (l.take n)) ∧ σ' = σ.upd b (scA false (l.drop n) e) := by
  refine ACalls.of_awp follows (st := st39) (plans := pl39) (n := 37) Try.func39 rfl (by kernel_rfl) (by kernel_rfl) (by kernel_rfl) ?_
  unfold scA at hb
  have h : ¬ (l.length : Int) < (n : Int) := by omega
  simp [hb, h, hn, bytesA_take, bytesA_drop]
  exact sub_eq rfl
set_option maxRecDepth 4000 in
theorem take_short1 (b : Nat) (o : Bool) (e : Nat) (σ : Store) (hb : σ b = some (scA o [] e)) :
    ACalls Try.prog 39 [ptrA b, .lit (.int .i64 1)] σ fun v σ' => v = .list false 1 (bytesA [0]) ∧ σ' = σ.upd b (scA true [] (failE e 2)) := by
  have hf := fail_calls b o [] e 2 σ hb
  refine ACalls.of_awp follows (st := st39) (plans := pl39) (n := 37) Try.func39 rfl (by kernel_rfl) (by kernel_rfl) (by kernel_rfl) ?_
  unfold scA at hb
  simp [hb, bytesA_nil]
  refine callK.of hf ?_
  rintro v σ' ⟨rfl, rfl⟩
  simp [scA, bytesA, byteA]
set_option maxRecDepth 4000 in
theorem take_short2 (b : Nat) (o : Bool) (l : List UInt8) (e : Nat) (σ : Store) (hb : σ b = some (scA o l e)) (hl : l.length < 2) :
    ACalls Try.prog 39 [ptrA b, .lit (.int .i64 2)] σ fun v σ' => v = .list false 1 (bytesA [0, 0]) ∧ σ' = σ.upd b (scA true [] (failE e 2)) := by
  have hf := fail_calls b o l e 2 σ hb
  have h : (l.length : Int) < 2 := by omega
  refine ACalls.of_awp follows (st := st39) (plans := pl39) (n := 37) Try.func39 rfl (by kernel_rfl) (by kernel_rfl) (by kernel_rfl) ?_
  unfold scA at hb
  simp [hb, h]
  refine callK.of hf ?_
  rintro v σ' ⟨rfl, rfl⟩
  simp [scA, bytesA, byteA]

set_option maxRecDepth 8000 in
set_option maxHeartbeats 1000000 in
theorem check_calls (t x : UInt8) (σ : Store) : ACalls Try.prog 33 [.agg [byteA t, byteA x]] σ fun v σ' => (∃ e : Nat, v = .lit (.int .i64 e)) ∧ σ' = σ := by
  refine ACalls.of_awp follows (st := st33) (plans := pl33) (n := 61) Try.func33 rfl (by kernel_rfl) (by kernel_rfl) (by kernel_rfl) ?_
  by_cases h1 : t.toNat = 0
  · simp [byteA, h1]
    (intro p hp; (repeat' split) <;> first | exact ⟨_, AV.le_refl _, sub_upd_self _ _ _ hp, 0, rfl⟩ | exact ⟨_, AV.le_refl _, sub_upd_self _ _ _ hp, 10, rfl⟩)
  by_cases h2 : (t.toNat : Int) = 192
  · simp [byteA, h1, h2]
    (intro p hp; first | exact ⟨_, AV.le_refl _, sub_upd_self _ _ _ hp, 0, rfl⟩ | exact ⟨_, AV.le_refl _, sub_upd_self _ _ _ hp, 10, rfl⟩)
  by_cases h3 : (t.toNat : Int) = 65
  · have _ := h3
    by_cases x0 : x.toNat = 0
    · simp [byteA, h1, h2, h3, x0]
      (intro p hp; first | exact ⟨_, AV.le_refl _, sub_upd_self _ _ _ hp, 0, rfl⟩ | exact ⟨_, AV.le_refl _, sub_upd_self _ _ _ hp, 10, rfl⟩)
    by_cases x1 : (x.toNat : Int) = 240
    · simp [byteA, h1, h2, h3, x0, x1]
      (intro p hp; first | exact ⟨_, AV.le_refl _, sub_upd_self _ _ _ hp, 0, rfl⟩ | exact ⟨_, AV.le_refl _, sub_upd_self _ _ _ hp, 10, rfl⟩)
    by_cases x2 : (x.toNat : Int) = 241
    · simp [byteA, h1, h2, h3, x0, x1, x2]
      (intro p hp; first | exact ⟨_, AV.le_refl _, sub_upd_self _ _ _ hp, 0, rfl⟩ | exact ⟨_, AV.le_refl _, sub_upd_self _ _ _ hp, 10, rfl⟩)
    by_cases x3 : (x.toNat : Int) = 242
    · simp [byteA, h1, h2, h3, x0, x1, x2, x3]
      (intro p hp; first | exact ⟨_, AV.le_refl _, sub_upd_self _ _ _ hp, 0, rfl⟩ | exact ⟨_, AV.le_refl _, sub_upd_self _ _ _ hp, 10, rfl⟩)
    by_cases x4 : (x.toNat : Int) = 244
    · simp [byteA, h1, h2, h3, x0, x1, x2, x3, x4]
      (intro p hp; first | exact ⟨_, AV.le_refl _, sub_upd_self _ _ _ hp, 0, rfl⟩ | exact ⟨_, AV.le_refl _, sub_upd_self _ _ _ hp, 10, rfl⟩)
    by_cases x5 : (x.toNat : Int) = 248
    · simp [byteA, h1, h2, h3, x0, x1, x2, x3, x4, x5]
      (intro p hp; first | exact ⟨_, AV.le_refl _, sub_upd_self _ _ _ hp, 0, rfl⟩ | exact ⟨_, AV.le_refl _, sub_upd_self _ _ _ hp, 10, rfl⟩)
    simp [byteA, h1, h2, h3, x0, x1, x2, x3, x4, x5]
    (intro p hp; first | exact ⟨_, AV.le_refl _, sub_upd_self _ _ _ hp, 0, rfl⟩ | exact ⟨_, AV.le_refl _, sub_upd_self _ _ _ hp, 10, rfl⟩)
  by_cases h4 : (t.toNat : Int) = 66
  · have _ := h4
    by_cases x0 : x.toNat = 0
    · simp [byteA, h1, h2, h3, h4, x0]
      (intro p hp; first | exact ⟨_, AV.le_refl _, sub_upd_self _ _ _ hp, 0, rfl⟩ | exact ⟨_, AV.le_refl _, sub_upd_self _ _ _ hp, 10, rfl⟩)
    by_cases x1 : (x.toNat : Int) < 241
    · have y1 : ¬ (241 : Int) ≤ x.toNat := by omega
      simp [byteA, h1, h2, h3, h4, x0, y1]
      (intro p hp; first | exact ⟨_, AV.le_refl _, sub_upd_self _ _ _ hp, 0, rfl⟩ | exact ⟨_, AV.le_refl _, sub_upd_self _ _ _ hp, 10, rfl⟩)
    by_cases x2 : 247 < (x.toNat : Int)
    · have y1 : (241 : Int) ≤ x.toNat := by omega
      have y2 : ¬ (x.toNat : Int) ≤ 247 := by omega
      simp [byteA, h1, h2, h3, h4, x0, y1, y2]
      (intro p hp; first | exact ⟨_, AV.le_refl _, sub_upd_self _ _ _ hp, 0, rfl⟩ | exact ⟨_, AV.le_refl _, sub_upd_self _ _ _ hp, 10, rfl⟩)
    have y1 : (241 : Int) ≤ x.toNat := by omega
    have y2 : (x.toNat : Int) ≤ 247 := by omega
    simp [byteA, h1, h2, h3, h4, x0, y1, y2]
    (intro p hp; first | exact ⟨_, AV.le_refl _, sub_upd_self _ _ _ hp, 0, rfl⟩ | exact ⟨_, AV.le_refl _, sub_upd_self _ _ _ hp, 10, rfl⟩)
  by_cases h5 : (t.toNat : Int) = 67
  · have _ := h5
    by_cases x0 : x.toNat = 0
    · simp [byteA, h1, h2, h3, h4, h5, x0]
      (intro p hp; first | exact ⟨_, AV.le_refl _, sub_upd_self _ _ _ hp, 0, rfl⟩ | exact ⟨_, AV.le_refl _, sub_upd_self _ _ _ hp, 10, rfl⟩)
    by_cases x1 : (x.toNat : Int) = 241
    · simp [byteA, h1, h2, h3, h4, h5, x0, x1]
      (intro p hp; first | exact ⟨_, AV.le_refl _, sub_upd_self _ _ _ hp, 0, rfl⟩ | exact ⟨_, AV.le_refl _, sub_upd_self _ _ _ hp, 10, rfl⟩)
    simp [byteA, h1, h2, h3, h4, h5, x0, x1]
    (intro p hp; first | exact ⟨_, AV.le_refl _, sub_upd_self _ _ _ hp, 0, rfl⟩ | exact ⟨_, AV.le_refl _, sub_upd_self _ _ _ hp, 10, rfl⟩)
  simp [byteA, h1, h2, h3, h4, h5]
  (intro p hp; first | exact ⟨_, AV.le_refl _, sub_upd_self _ _ _ hp, 0, rfl⟩ | exact ⟨_, AV.le_refl _, sub_upd_self _ _ _ hp, 10, rfl⟩)
end Go.Proofs.Ytkbokmokklbahaa
/-
  The scanner of orders: an address, a character, attributes, a text.
-/
namespace Go.Proofs.Ytkbokmokklbahaa
open Go Go.AL

set_option maxRecDepth 4000 in
theorem addr_short (b : Nat) (o : Bool) (l : List UInt8) (σ : Store) (hb : σ b = some (scA o l 0)) (hl : l.length < 2) :
    ACalls Try.prog 40 [ptrA b] σ fun v σ' => v = .lit (.int .i64 0) ∧ σ' = σ.upd b (scA true [] 2) := by
  have ht := take_short2 b o l 0 σ hb hl
  have e1 : scA true [] (failE 0 2) = [.list true 1 [], .lit (.int .i64 2)] := rfl
  have e2 : scA true [] 2 = [.list true 1 [], .lit (.int .i64 2)] := rfl
  rw [e1] at ht
  rw [e2]
  refine ACalls.of_awp follows (st := st40) (plans := pl40) (n := 24) Try.func40 rfl (by kernel_rfl) (by kernel_rfl) (by kernel_rfl) ?_
  simp
  refine callK.of ht ?_
  rintro v σ' ⟨rfl, rfl⟩
  simp
set_option maxRecDepth 4000 in
theorem addr_two (b : Nat) (o : Bool) (x y : UInt8) (tl : List UInt8) (σ : Store) (hb : σ b = some (scA o (x :: y :: tl) 0)) (hl : tl.length ≤ 1000000) :
    ACalls Try.prog 40 [ptrA b] σ fun v σ' => v = .lit (.int .i64 (decM x y).1) ∧ σ' = σ.upd b (scA false tl (decM x y).2) := by
  have ht := take_ok b o (x :: y :: tl) 0 2 σ hb (by simp) (by simp; omega)
  have hd := dec_calls_two false x y []
  have hf := fail_calls b false tl 0 (decM x y).2
  have e1 : scA false ((x :: y :: tl).drop 2) 0 = [.list false 1 (bytesA tl), .lit (.int .i64 0)] := rfl
  have e2 : ∀ e, scA false tl e = [.list false 1 (bytesA tl), .lit (.int .i64 e)] := fun _ => rfl
  rw [e1] at ht
  rw [e2] at hf ⊢
  obtain ⟨N, hN⟩ : ∃ N, (decM x y).1 = N := ⟨_, rfl⟩
  obtain ⟨E, hE⟩ : ∃ E, (decM x y).2 = E := ⟨_, rfl⟩
  rw [hN, hE] at hd
  rw [hE] at hf
  rw [hN, hE]
  clear hN hE
  have hfE : failE 0 E = E := by simp [failE]
  rw [hfE, e2] at hf
  refine ACalls.of_awp follows (st := st40) (plans := pl40) (n := 24) Try.func40 rfl (by kernel_rfl) (by kernel_rfl) (by kernel_rfl) ?_
  simp
  refine callK.of ht ?_
  rintro v σ' ⟨rfl, rfl⟩
  simp
  refine callK.of (hd _) ?_
  rintro v σ' ⟨rfl, rfl⟩
  by_cases h0 : E = 0
  · subst h0
    simp
  · have h0' : ¬ (E : Int) = 0 := by omega
    simp [h0, h0']
    refine callK.of (hf _ (by simp)) ?_
    rintro v σ' ⟨rfl, rfl⟩
    simp

/-- A character was taken. -/
def CharR (b : Nat) (l : List UInt8) (e : Nat) (σ : Store) (v : AV) (σ' : Store) : Prop :=
  ∃ c o' l' e', v = byteA c ∧ σ' = σ.upd b (scA o' l' e') ∧ l'.length ≤ l.length ∧ (e ≠ 0 → e' ≠ 0) ∧ (e' = 0 → isOrd c = false)
/-- Attributes were taken. -/
def PairsR (b : Nat) (l : List UInt8) (e : Nat) (σ : Store) (v : AV) (σ' : Store) : Prop :=
  ∃ ow ps o' l' e', v = .list ow 2 (pairsA ps) ∧ σ' = σ.upd b (scA o' l' e') ∧ l'.length ≤ l.length ∧ (e ≠ 0 → e' ≠ 0)
set_option maxRecDepth 4000 in
theorem char_calls (b : Nat) (o : Bool) (l : List UInt8) (e : Nat) (σ : Store) (hb : σ b = some (scA o l e)) (hl : l.length ≤ 1000000) :
    ACalls Try.prog 41 [ptrA b] σ (CharR b l e σ) := by
  rcases l with _ | ⟨c, tl⟩
  · have ht := take_short1 b o e σ hb
    have hi := is_calls 0
    have h0 : isOrd 0 = false := by decide
    rw [h0] at hi
    have e1 : bytesA [0] = [byteA 0] := rfl
    rw [e1] at ht
    refine ACalls.of_awp follows (st := st41) (plans := pl41) (n := 13) Try.func41 rfl (by kernel_rfl) (by kernel_rfl) (by kernel_rfl) ?_
    simp
    refine callK.of ht ?_
    rintro v σ' ⟨rfl, rfl⟩
    simp
    refine callK.of (hi _) ?_
    rintro v σ' ⟨rfl, rfl⟩
    simp
    exact ⟨_, AV.le_refl _, _, Store.sub_refl _, 0, true, [], _, rfl, rfl, Nat.le_refl _, fun h => by unfold failE; split <;> omega, fun _ => h0⟩
  · have ht := take_ok b o (c :: tl) e 1 σ hb (by simp) (by simp at hl ⊢; omega)
    have hi := is_calls c
    have e1 : bytesA ((c :: tl).take 1) = [byteA c] := rfl
    have e2 : (c :: tl).drop 1 = tl := rfl
    rw [e1, e2] at ht
    have hf := fail_calls b false tl e 10
    refine ACalls.of_awp follows (st := st41) (plans := pl41) (n := 13) Try.func41 rfl (by kernel_rfl) (by kernel_rfl) (by kernel_rfl) ?_
    simp
    refine callK.of ht ?_
    rintro v σ' ⟨rfl, rfl⟩
    simp
    refine callK.of (hi _) ?_
    rintro v σ' ⟨rfl, rfl⟩
    by_cases ho : isOrd c = true
    · simp [ho]
      refine callK.of (hf _ (by simp)) ?_
      rintro v σ' ⟨rfl, rfl⟩
      simp
      exact ⟨_, AV.le_refl _, _, Store.sub_refl _, c, false, tl, _, rfl, rfl, by simp, fun h => by unfold failE; split <;> omega, fun h => by unfold failE at h; split at h <;> omega⟩
    · have ho' : isOrd c = false := by simpa using ho
      simp [ho']
      exact ⟨_, AV.le_refl _, _, Store.sub_refl _, c, false, tl, e, rfl, rfl, by simp, fun h => h, fun _ => ho'⟩

set_option maxRecDepth 4000 in
theorem pair_calls (b : Nat) (o : Bool) (l : List UInt8) (e : Nat) (σ : Store) (hb : σ b = some (scA o l e)) (hl : l.length ≤ 1000000) :
    ACalls Try.prog 42 [ptrA b] σ (PairsR b l e σ) := by
  have main : ∀ (x y : UInt8) (o' : Bool) (l' : List UInt8) (e1 : Nat), l'.length ≤ l.length → (e ≠ 0 → e1 ≠ 0) → ACalls Try.prog 39 [ptrA b, .lit (.int .i64 2)] σ (fun v σ' => v = .list false 1 [byteA x, byteA y] ∧ σ' = σ.upd b (scA o' l' e1)) →
      ACalls Try.prog 42 [ptrA b] σ (PairsR b l e σ) := by
    intro x y o' l' e1 hll he ht
    have hch := check_calls x y
    have hf := fail_calls b o' l' e1
    refine ACalls.of_awp follows (st := st42) (plans := pl42) (n := 24) Try.func42 rfl (by kernel_rfl) (by kernel_rfl) (by kernel_rfl) ?_
    simp
    refine callK.of ht ?_
    rintro v σ' ⟨rfl, rfl⟩
    simp
    intro q hq
    simp only [ite_none] at hq
    obtain ⟨hqb, hq0⟩ := hq
    refine callK.of (hch _) ?_
    rintro v σ' ⟨⟨er, rfl⟩, rfl⟩
    have hbq := Ne.symm hqb
    by_cases h0 : er = 0
    · subst h0
      simp [hqb, hbq]
      refine ⟨_, AV.le_refl _, _, ?_, true, [(x, y)], o', l', e1, rfl, rfl, hll, he⟩
      exact Store.sub_upd (by simp [hqb, hq0]) (Store.sub_refl _)
    · have h0' : ¬ (er : Int) = 0 := by omega
      simp [h0, h0', hqb, hbq]
      refine callK.of (hf er _ (by simp [hqb, hbq])) ?_
      rintro v σ' ⟨rfl, rfl⟩
      simp [hqb, hbq]
      refine ⟨_, AV.le_refl _, _, ?_, true, [(x, y)], o', l', failE e1 er, rfl, rfl, hll, fun h => by have := he h; unfold failE; split <;> omega⟩
      rw [supd_swap _ hqb]
      simp
      exact Store.sub_upd (by simp [hqb, hq0]) (Store.sub_refl _)
  by_cases hl2 : l.length < 2
  · exact main 0 0 true [] (failE e 2) (by simp) (fun h => by unfold failE; split <;> omega) (take_short2 b o l e σ hb hl2)
  · obtain ⟨x, y, tl, rfl⟩ : ∃ x y tl, l = x :: y :: tl := by
      rcases l with _ | ⟨x, _ | ⟨y, tl⟩⟩
      · simp at hl2
      · simp at hl2
      · exact ⟨x, y, tl, rfl⟩
    exact main x y false tl e (by simp; omega) (fun h => h) (take_ok b o (x :: y :: tl) e 2 σ hb (by simp) (by simp at hl ⊢; omega))

/-- Attributes were read, or it is said why not. -/
def AttrR (l : List UInt8) (σ : Store) (v : AV) (σ' : Store) : Prop :=
  ∃ ow ps n e, v = .tuple [.list ow 2 (pairsA ps), .lit (.int .i64 (n : Nat)), .lit (.int .i64 (e : Nat))] ∧ σ' = σ ∧ (e = 0 → n ≤ l.length)
set_option maxRecDepth 4000 in
theorem attr_empty (o : Bool) (σ : Store) : ACalls Try.prog 48 [.list o 1 (bytesA [])] σ (AttrR [] σ) := by
  refine ACalls.of_awp follows (st := st48) (plans := pl48) (n := 56) Try.func48 rfl (by kernel_rfl) (by kernel_rfl) (by kernel_rfl) ?_
  simp [bytesA_nil]
  exact ⟨_, AV.le_refl _, _, Store.sub_refl _, true, [], 0, 2, rfl, rfl, fun h => absurd h (by decide)⟩
set_option maxRecDepth 4000 in
theorem attr_short (o : Bool) (c : UInt8) (tl : List UInt8) (σ : Store) (hs : ((c :: tl).length : Int) < 1 + 2 * (c.toNat : Int)) : ACalls Try.prog 48 [.list o 1 (bytesA (c :: tl))] σ (AttrR (c :: tl) σ) := by
  have hc := c.toNat_lt
  have w1 : IntKind.i64.wrap (2 * (c.toNat : Int)) = 2 * (c.toNat : Int) := wrap_i64 (by omega) (by omega)
  have w2 : IntKind.i64.wrap (1 + 2 * (c.toNat : Int)) = 1 + 2 * (c.toNat : Int) := wrap_i64 (by omega) (by omega)
  have g0 : (bytesA (c :: tl))[0]? = some (byteA c) := rfl
  have gl : (bytesA (c :: tl)).length = (c :: tl).length := by simp
  have gl1 : ¬ (((c :: tl).length : Int) < 1) := by simp; omega
  have gl0 : 0 < (bytesA (c :: tl)).length := by simp
  have e0 := (List.getElem_eq_iff gl0).2 g0
  generalize (c :: tl) = l at *
  rw [← gl] at hs gl1
  generalize bytesA l = L at *
  refine ACalls.of_awp follows (st := st48) (plans := pl48) (n := 56) Try.func48 rfl (by kernel_rfl) (by kernel_rfl) (by kernel_rfl) ?_
  simp [hs, gl1, gl0, e0, byteA, w1, w2, wrapB]
  exact ⟨_, AV.le_refl _, _, Store.sub_refl _, true, [], 0, 2, rfl, rfl, fun h => absurd h (by decide)⟩
set_option maxRecDepth 4000 in
theorem attr_ok (o : Bool) (c : UInt8) (tl : List UInt8) (σ : Store) (hs : ¬ ((c :: tl).length : Int) < 1 + 2 * (c.toNat : Int)) : ACalls Try.prog 48 [.list o 1 (bytesA (c :: tl))] σ (AttrR (c :: tl) σ) := by
  have hc := c.toNat_lt
  have w1 : IntKind.i64.wrap (2 * (c.toNat : Int)) = 2 * (c.toNat : Int) := wrap_i64 (by omega) (by omega)
  have w2 : IntKind.i64.wrap (1 + 2 * (c.toNat : Int)) = 1 + 2 * (c.toNat : Int) := wrap_i64 (by omega) (by omega)
  have g0 : (bytesA (c :: tl))[0]? = some (byteA c) := rfl
  have gl1 : ¬ (((c :: tl).length : Int) < 1) := by simp; omega
  have gl0 : 0 < (bytesA (c :: tl)).length := by simp
  have e0 := (List.getElem_eq_iff gl0).2 g0
  generalize (c :: tl) = l at *
  have gl : (bytesA l).length = l.length := by simp
  have gt := bytesA_at l
  rw [← gl] at gl1
  have hs' := hs
  rw [← gl] at hs
  refine ACalls.of_awp follows (st := st48) (plans := pl48) (n := 56) Try.func48 rfl (by kernel_rfl) (by kernel_rfl) (by kernel_rfl) ?_
  simp only [bytesA_length] at gl1 hs gl0
  simp [hs, gl1, gl0, e0, byteA, w1, w2, wrapB]
  refine codeK.loop follows (st := st48) (plans := pl48) (X := Nat × List (UInt8 × UInt8)) (fun x => x.1 ≤ c.toNat ∧ x.2.length = x.1)
    (fun x => [(0, .list false 1 (bytesA l)), (5, .list true 2 (pairsA x.2)), (6, .lit (.int .i64 (1 + 2 * (c.toNat : Int)))), (7, .lit (.int .i64 (1 + 2 * x.1 : Nat)))]) (fun _ => σ) (fun x => c.toNat - x.1) (0, []) (by kernel_rfl) (by simp) (by simp [pairsA]) (Store.sub_refl _) fun x hx => ?_
  obtain ⟨j, ps⟩ := x
  obtain ⟨hj, hps⟩ := hx
  dsimp only at hj hps ⊢
  by_cases hlt : j < c.toNat
  · have hi1 : 1 + 2 * j < l.length := by omega
    have hi2 : 1 + 2 * j + 1 < l.length := by omega
    have t1 := gt (1 + 2 * j) hi1
    have t2 := gt (1 + 2 * j + 1) hi2
    have hwj : IntKind.i64.wrap (((1 + 2 * j : Nat) : Int) + 1) = ((1 + 2 * j + 1 : Nat) : Int) := wrap_i64 (by omega) (by omega)
    have hwj2 : IntKind.i64.wrap (((1 + 2 * j : Nat) : Int) + 2) = ((1 + 2 * (j + 1) : Nat) : Int) := by rw [wrap_i64 (by omega) (by omega)]; omega
    have hlt' : ((1 + 2 * j : Nat) : Int) < 1 + 2 * (c.toNat : Int) := by omega
    have hs2 : (1 + 2 * j) + 1 < 600 := by omega
    obtain ⟨x, hx⟩ : ∃ x, l[1 + 2 * j] = x := ⟨_, rfl⟩
    obtain ⟨y, hy⟩ : ∃ y, l[1 + 2 * j + 1] = y := ⟨_, rfl⟩
    rw [hx] at t1
    rw [hy] at t2
    have hnext : 1 + 2 * (j + 1) = (1 + 2 * j) + 2 := by omega
    obtain ⟨k, hk⟩ : ∃ k, 1 + 2 * j = k := ⟨_, rfl⟩
    obtain ⟨k1, hk1⟩ : ∃ k1, k + 1 = k1 := ⟨_, rfl⟩
    rw [hk] at hwj hwj2 hlt'
    rw [hk1] at hwj
    have t1' : (bytesA l)[k]? = some (byteA x) := by rw [← t1, ← List.getElem?_eq_getElem]; congr 1; exact hk.symm
    have t2' : (bytesA l)[k1]? = some (byteA y) := by rw [← t2, ← List.getElem?_eq_getElem]; congr 1; omega
    have b1 : k < (bytesA l).length := by rw [gl]; omega
    have b2 : k1 < (bytesA l).length := by rw [gl]; omega
    have t3 := (List.getElem_eq_iff b1).2 t1'
    have t4 := (List.getElem_eq_iff b2).2 t2'
    rw [gl] at b1 b2
    have hch := check_calls x y
    rw [hk]
    simp [hlt', hwj, b1, b2, t3, t4]
    intro q hq
    refine callK.of (hch _) ?_
    rintro v σ' ⟨⟨er, rfl⟩, rfl⟩
    by_cases h0 : er = 0
    · subst h0
      simp
      have hpl : (pairsA ps).length = j := by simp [pairsA, hps]
      have hap : pairsA ps ++ [.agg [byteA x, byteA y]] = pairsA (ps ++ [(x, y)]) := by simp [pairsA]
      refine ⟨?_, ?_, j + 1, ps ++ [(x, y)], ⟨by omega, by simp [hps]⟩, by omega, ?_⟩
      · omega
      · omega
      · refine ⟨⟨by rw [hap]; exact AV.le_refl _, ?_⟩, sub_upd_self _ _ _ hq⟩
        rw [hwj2]
        refine le_of_eq ?_
        congr 2
    · have h0' : ¬ (er : Int) = 0 := by omega
      simp [h0, h0']
      exact ⟨_, AV.le_refl _, _, sub_upd_self _ _ _ hq, true, [], 0, er, rfl, rfl, fun h => absurd h h0⟩
  · obtain rfl : j = c.toNat := by omega
    have hge : ¬ ((1 + 2 * c.toNat : Nat) : Int) < 1 + 2 * (c.toNat : Int) := by omega
    obtain ⟨k, hk⟩ : ∃ k, 1 + 2 * c.toNat = k := ⟨_, rfl⟩
    have hk' : (1 + 2 * (c.toNat : Int)) = (k : Int) := by omega
    rw [hk'] at hge ⊢
    rw [hk] at hge ⊢
    simp
    exact ⟨_, AV.le_refl _, _, Store.sub_refl _, true, ps, k, 0, rfl, rfl, fun _ => by omega⟩
theorem attr_calls (o : Bool) (l : List UInt8) (σ : Store) : ACalls Try.prog 48 [.list o 1 (bytesA l)] σ (AttrR l σ) := by
  rcases l with _ | ⟨c, tl⟩
  · exact attr_empty o σ
  · by_cases hs : ((c :: tl).length : Int) < 1 + 2 * (c.toNat : Int)
    · exact attr_short o c tl σ hs
    · exact attr_ok o c tl σ hs
set_option maxRecDepth 4000 in
theorem pairs_calls (b : Nat) (o : Bool) (l : List UInt8) (e : Nat) (σ : Store) (hb : σ b = some (scA o l e)) (hl : l.length ≤ 1000000) : ACalls Try.prog 43 [ptrA b] σ (PairsR b l e σ) := by
  have ha := attr_calls false l
  have hf := fail_calls b o l e
  have ht := take_ok b o l e
  have hb' := hb
  unfold scA at hb
  refine ACalls.of_awp follows (st := st43) (plans := pl43) (n := 24) Try.func43 rfl (by kernel_rfl) (by kernel_rfl) (by kernel_rfl) ?_
  simp [hb]
  refine callK.of (ha _) ?_
  rintro v σ' ⟨ow, ps, n, er, rfl, rfl, hn⟩
  by_cases h0 : er = 0
  · subst h0
    simp
    refine callK.of (ht n _ hb' (hn rfl) (by omega)) ?_
    rintro v σ' ⟨rfl, rfl⟩
    simp
    exact ⟨_, AV.le_refl _, _, Store.sub_refl _, _, ps, false, l.drop n, e, rfl, rfl, by simp, fun h => h⟩
  · have h0' : ¬ (er : Int) = 0 := by omega
    simp [h0, h0']
    refine callK.of (hf er _ hb') ?_
    rintro v σ' ⟨rfl, rfl⟩
    simp
    exact ⟨_, AV.le_refl _, _, Store.sub_refl _, true, [], o, l, failE e er, rfl, rfl, Nat.le_refl _, fun h => by unfold failE; split <;> omega⟩

/-- Up to the first order. -/
def untilO (l : List UInt8) : List UInt8 := l.takeWhile fun c => !isOrd c
def fromO (l : List UInt8) : List UInt8 := l.dropWhile fun c => !isOrd c
theorem until_take {l : List UInt8} {i : Nat} (hi : i ≤ l.length) (h : ∀ j (hj : j < l.length), j < i → isOrd l[j] = false) (he : i = l.length ∨ ∃ hj : i < l.length, isOrd l[i] = true) : l.take i = untilO l ∧ l.drop i = fromO l := by
  induction l generalizing i with
  | nil => simp [untilO, fromO]
  | cons c l ih =>
    cases i with
    | zero =>
      rcases he with he | ⟨hj, he⟩
      · simp at he
      · simp at he
        simp [untilO, fromO, he]
    | succ i =>
      have h0 := h 0 (by simp) (by omega)
      simp at h0 hi
      have := ih (i := i) hi (fun j hj hji => by have := h (j + 1) (by simp; omega) (by omega); simpa using this) (by
        rcases he with he | ⟨hj, he⟩
        · left; simp at he; exact he
        · right; exact ⟨by simp at hj; omega, by simpa using he⟩)
      simp [untilO, fromO, h0] at this ⊢
      exact this
set_option maxRecDepth 4000 in
theorem text_calls (b : Nat) (o : Bool) (l : List UInt8) (e : Nat) (σ : Store) (hb : σ b = some (scA o l e)) (hl : l.length ≤ 1000000) :
    ACalls Try.prog 38 [ptrA b] σ fun v σ' => v = .list true 1 (bytesA (untilO l)) ∧ σ' = σ.upd b (scA false (fromO l) e) := by
  have ht := take_ok b o l e
  have hb' := hb
  unfold scA at hb
  refine ACalls.of_awp follows (st := st38) (plans := pl38) (n := 28) Try.func38 rfl (by kernel_rfl) (by kernel_rfl) (by kernel_rfl) ?_
  simp
  refine codeK.loop follows (st := st38) (plans := pl38) (X := Nat) (fun i => i ≤ l.length ∧ ∀ j (hj : j < l.length), j < i → isOrd l[j] = false)
    (fun i => [(0, ptrA b), (3, .lit (.int .i64 i))]) (fun _ => σ) (fun i => l.length - i) 0 (by kernel_rfl) (by simp) (by simp) (Store.sub_refl _) fun i hi => ?_
  obtain ⟨hi, hk⟩ := hi
  have fin : (i = l.length ∨ ∃ hj : i < l.length, isOrd l[i] = true) → ACalls Try.prog 39 [ptrA b, .lit (.int .i64 i)] σ (fun v σ' => v = .list false 1 (bytesA (untilO l)) ∧ σ' = σ.upd b (scA false (fromO l) e)) := fun he => by
    obtain ⟨h1, h2⟩ := until_take hi hk he
    have := ht i σ hb' hi (by omega)
    rw [h1, h2] at this
    exact this
  have hcl := clone_calls false (untilO l)
  have hul : (untilO l).length ≤ l.length := by unfold untilO; exact (List.takeWhile_sublist _).length_le
  by_cases hlt : i < l.length
  · have hw : IntKind.i64.wrap ((i : Int) + 1) = ((i + 1 : Nat) : Int) := wrap_i64 (by omega) (by omega)
    have his := is_calls l[i]
    have hat := bytesA_at l i hlt
    have hstep : isOrd l[i] = false → ∀ j (hj : j < l.length), j < i + 1 → isOrd l[j] = false := fun h j hj hji => by
      by_cases e : j = i
      · subst e; exact h
      · exact hk j hj (by omega)
    have hf2 : isOrd l[i] = true → _ := fun h => fin (.inr ⟨hlt, h⟩)
    generalize l[i] = c at *
    by_cases hc : isOrd c = true
    · simp [hb, hlt, hat]
      refine callK.of (his _) ?_
      rintro v σ' ⟨rfl, rfl⟩
      simp [hb, hc]
      refine callK.of (hf2 hc) ?_
      rintro v σ' ⟨rfl, rfl⟩
      simp
      refine callK.of (hcl _ (by omega)) ?_
      rintro v σ' ⟨rfl, rfl⟩
      simp
    · have hc' : isOrd c = false := by simpa using hc
      simp [hb, hlt, hat]
      refine callK.of (his _) ?_
      rintro v σ' ⟨rfl, rfl⟩
      simp [hb, hc']
      exact ⟨i + 1, ⟨by omega, hstep hc'⟩, by omega, by rw [hw]; exact AV.le_refl _⟩
  · obtain rfl : i = l.length := by omega
    have hf2 := fin (.inl rfl)
    simp [hb]
    refine callK.of hf2 ?_
    rintro v σ' ⟨rfl, rfl⟩
    simp
    refine callK.of (hcl _ (by omega)) ?_
    rintro v σ' ⟨rfl, rfl⟩
    simp
end Go.Proofs.Ytkbokmokklbahaa
