/-
  Orders' bytes: text, addresses, attributes, the cursor.
-/
import Derived.Test.YtbeohjinefaaoaaDoorHPart11
set_option linter.unusedSimpArgs false
set_option linter.unusedVariables false
namespace Go.Proofs.YtbeohjinefaaoaaDoor
open Go Go.AL

set_option maxRecDepth 8000 in
theorem looks_calls (l : List (UInt8 × UInt8)) (hl : l.length ≤ 9223372036854775807) (σ : Store) : ACalls Tryd.prog 69 [.lit (.int .u8 41), .list false 2 (pairsA l)] σ fun v σ' => v = .tuple (if (prB l).2 = 0 then [.list true 1 (bytesA (41 :: (prB l).1)), .lit (.int .i64 0)] else [.list true 1 [], .lit (.int .i64 (prB l).2)]) ∧ σ' = σ := by
  have ha := abytes_calls false l hl
  have hlen : (prB l).1.length ≤ 1000 := by
    unfold prB
    have := flatP_len l
    split
    · simp
    · split <;> simp; omega
  have e : ∀ m, bytesA (41 :: m) = .lit (.int .u8 41) :: bytesA m := fun _ => rfl
  generalize prB l = r at *
  obtain ⟨r1, r2⟩ := r
  simp only at *
  refine ACalls.of_awp follows (st := st69) (plans := pl69) (n := 20) Tryd.func69 rfl (by kernel_rfl) (by kernel_rfl) (by kernel_rfl) ?_
  simp
  refine callK.eq (ha _) ?_
  by_cases h : r2 = 0
  · subst h
    simp [e]
    omega
  · have h' : ¬ (r2 : Int) = 0 := by omega
    simp [h, h']
def opG (o : Op) : List UInt8 × Nat := if o.kind = 19 then ([19], 0) else if o.kind = 29 then ([29, o.fa], 0) else if o.kind = 41 then (if (prB o.pairs).2 = 0 then (41 :: (prB o.pairs).1, 0) else ([], (prB o.pairs).2)) else opB o
def goodG (o : Op) : Prop := good o ∨ o.kind = 19 ∨ o.kind = 29 ∨ (o.kind = 41 ∧ o.pairs.length ≤ 1000000)
set_option maxRecDepth 8000 in
theorem opbytes_ic (o : Op) (h0 : o.kind = 19) (σ : Store) : ACalls Tryd.prog 58 [opA o] σ fun v σ' => v = .tuple [.list true 1 (bytesA (opG o).1), .lit (.int .i64 (opG o).2)] ∧ σ' = σ := by
  obtain ⟨kind, addr, code, graph, fa, pairs, text⟩ := o
  simp only at h0
  subst h0
  have hB : opG ⟨19, addr, code, graph, fa, pairs, text⟩ = ([19], 0) := by simp [opG]
  have hw : IntKind.u8.wrap 19 = 19 := by decide
  rw [hB]
  refine ACalls.of_awp follows (st := st58) (plans := pl58) (n := 118) Tryd.func58 rfl (by kernel_rfl) (by kernel_rfl) (by kernel_rfl) ?_
  simp [opA, opC, hw]
  intro p hp
  exact ⟨AV.le_refl _, Store.sub_upd hp (Store.sub_refl _)⟩
set_option maxRecDepth 8000 in
theorem opbytes_sf (o : Op) (h0 : o.kind = 29) (σ : Store) : ACalls Tryd.prog 58 [opA o] σ fun v σ' => v = .tuple [.list true 1 (bytesA (opG o).1), .lit (.int .i64 (opG o).2)] ∧ σ' = σ := by
  obtain ⟨kind, addr, code, graph, fa, pairs, text⟩ := o
  simp only at h0
  subst h0
  have hB : opG ⟨29, addr, code, graph, fa, pairs, text⟩ = ([29, fa], 0) := by simp [opG]
  have hw : IntKind.u8.wrap 29 = 29 := by decide
  rw [hB]
  refine ACalls.of_awp follows (st := st58) (plans := pl58) (n := 118) Tryd.func58 rfl (by kernel_rfl) (by kernel_rfl) (by kernel_rfl) ?_
  have e1 : byteA fa = .lit (.int .u8 fa.toNat) := rfl
  simp [opA, opC, hw, e1]
  intro p hp
  exact ⟨AV.le_refl _, Store.sub_upd hp (Store.sub_refl _)⟩
set_option maxRecDepth 8000 in
theorem opbytes_sfe (o : Op) (h0 : o.kind = 41) (hl : o.pairs.length ≤ 1000000) (σ : Store) : ACalls Tryd.prog 58 [opA o] σ fun v σ' => v = .tuple [.list true 1 (bytesA (opG o).1), .lit (.int .i64 (opG o).2)] ∧ σ' = σ := by
  obtain ⟨kind, addr, code, graph, fa, pairs, text⟩ := o
  simp only at h0 hl
  subst h0
  have hlk := looks_calls pairs (by omega)
  have hB : opG ⟨41, addr, code, graph, fa, pairs, text⟩ = if (prB pairs).2 = 0 then (41 :: (prB pairs).1, 0) else ([], (prB pairs).2) := by simp [opG]
  have hw : IntKind.u8.wrap 41 = 41 := by decide
  rw [hB]
  refine ACalls.of_awp follows (st := st58) (plans := pl58) (n := 118) Tryd.func58 rfl (by kernel_rfl) (by kernel_rfl) (by kernel_rfl) ?_
  by_cases h : (prB pairs).2 = 0
  · rw [if_pos h] at hlk
    simp only [if_pos h]
    simp [opA, opC, hw]
    intro p hp
    refine callK.eq (hlk _) ?_
    simp [hp]
  · rw [if_neg h] at hlk
    simp only [if_neg h]
    simp [opA, opC, hw]
    intro p hp
    refine callK.eq (hlk _) ?_
    simp [hp, bytesA_nil]
theorem opbytesG_calls (o : Op) (h : goodG o) (σ : Store) : ACalls Tryd.prog 58 [opA o] σ fun v σ' => v = .tuple [.list true 1 (bytesA (opG o).1), .lit (.int .i64 (opG o).2)] ∧ σ' = σ := by
  rcases h with h | h | h | ⟨h, h2⟩
  · have e : opG o = opB o := by
      unfold opG
      rcases h with ⟨h, _⟩ | h <;> simp [h]
    rw [e]
    exact opbytes_calls o h σ
  · exact opbytes_ic o h σ
  · exact opbytes_sf o h σ
  · exact opbytes_sfe o h h2 σ
theorem opG_err (o : Op) (h : (opG o).2 ≠ 0) : (opG o).1 = [] := by
  by_cases h1 : o.kind = 19
  · simp [opG, h1] at h
  · by_cases h2 : o.kind = 29
    · simp [opG, h2] at h
    · by_cases h3 : o.kind = 41
      · by_cases h4 : (prB o.pairs).2 = 0
        · simp [opG, h3, h4] at h
        · simp [opG, h3, h4]
      · have e : opG o = opB o := by simp [opG, h1, h2, h3]
        rw [e] at h ⊢
        exact opB_err o h
theorem opG_len (o : Op) (h : goodG o) : (opG o).1.length ≤ 1000000 := by
  rcases h with h | h | h | ⟨h, _⟩
  · have e : opG o = opB o := by
      unfold opG
      rcases h with ⟨h, _⟩ | h <;> simp [h]
    rw [e]; exact opB_len o h
  · simp [opG, h]
  · simp [opG, h]
  · have hp : (prB o.pairs).1.length ≤ 1000 := by
      unfold prB
      have := flatP_len o.pairs
      split
      · simp
      · split <;> simp; omega
    have e : opG o = if (prB o.pairs).2 = 0 then (41 :: (prB o.pairs).1, 0) else ([], (prB o.pairs).2) := by simp [opG, h]
    rw [e]
    split
    · simp; omega
    · simp
def sumG (l : List Op) (i : Nat) : List UInt8 := (l.take i).flatMap fun o => (opG o).1
theorem sumG_succ (l : List Op) (i : Nat) (h : i < l.length) : sumG l (i + 1) = sumG l i ++ (opG l[i]).1 := by
  rw [sumG, sumG, List.take_succ_eq_append_getElem h, List.flatMap_append]; simp
theorem sumG_len (l : List Op) (hg : ∀ o ∈ l, goodG o) (i : Nat) (h : i ≤ l.length) : (sumG l i).length ≤ i * 1000000 := by
  induction i with
  | zero => simp [sumG]
  | succ i ih =>
    rw [sumG_succ l i (by omega), List.length_append]
    have := ih (by omega)
    have := opG_len l[i] (hg _ (List.getElem_mem _))
    omega

set_option maxRecDepth 8000 in
theorem obytesG_calls (o : Bool) (l : List Op) (hg : ∀ x ∈ l, goodG x) (hl : l.length ≤ 1000) (σ : Store) : ACalls Tryd.prog 37 [.list o 7 (opsA l)] σ fun v σ' => v = .tuple [.list true 1 (bytesA (seqB opG l).1), .lit (.int .i64 (seqB opG l).2)] ∧ σ' = σ := by
  refine ACalls.of_awp follows (st := st37) (plans := pl37) (n := 28) Tryd.func37 rfl (by kernel_rfl) (by kernel_rfl) (by kernel_rfl) ?_
  simp
  refine codeK.loop follows (st := st37) (plans := pl37) (X := Nat) (fun i => i ≤ l.length ∧ ∀ j (hj : j < l.length), j < i → (opG l[j]).2 = 0)
    (fun i => [(4, .list true 1 (bytesA (sumG l i))), (9, .list false 7 (opsA l)), (10, .lit (.int .i64 l.length)), (11, .lit (.int .i64 i))]) (fun _ => σ) (fun i => l.length - i) 0 (by kernel_rfl) (by simp) (by simp [sumG, bytesA_nil]) (by simp) fun i hi => ?_
  obtain ⟨hi, hk⟩ := hi
  by_cases hlt : i < l.length
  · have hw : IntKind.i64.wrap ((i : Int) + 1) = ((i + 1 : Nat) : Int) := wrap_i64 (by omega) (by omega)
    have hs := opbytesG_calls l[i] (hg _ (List.getElem_mem _))
    have ha := opsA_get l i hlt
    have hyes := fun h => seqB_bad (f := opG) hlt hk h
    have hno : (opG l[i]).2 = 0 → ∀ j (hj : j < l.length), j < i + 1 → (opG l[j]).2 = 0 := fun h j hj hji => by
      by_cases e : j = i
      · subst e; exact h
      · exact hk j hj (by omega)
    have hsucc := sumG_succ l i hlt
    have hlen := sumG_len l hg i hi
    have hlen1 := opG_len l[i] (hg _ (List.getElem_mem _))
    have herr := opG_err l[i]
    generalize l[i] = x at *
    obtain ⟨bs, hbs⟩ : ∃ bs, (opG x).1 = bs := ⟨_, rfl⟩
    obtain ⟨er, her⟩ : ∃ er, (opG x).2 = er := ⟨_, rfl⟩
    rw [hbs] at hs hsucc hlen1 herr
    rw [her] at hs hyes hno herr
    by_cases hb : er = 0
    · subst hb
      have hle : (sumG l i).length + bs.length ≤ 2000000000 := by
        have : i * 1000000 ≤ 1000 * 1000000 := Nat.mul_le_mul_right _ (by omega)
        omega
      simp [hlt, ha, opA, opC]
      intro p hp
      refine callK.of (hs _) ?_
      rintro v σ' ⟨rfl, rfl⟩
      simp
      refine ⟨by omega, by omega, i + 1, ⟨by omega, hno rfl⟩, by omega, ⟨?_, ?_⟩, ?_⟩
      · rw [hsucc, bytesA_append]; exact AV.le_refl _
      · rw [hw]; exact AV.le_refl _
      · exact sub_upd_self _ _ _ hp
    · have hb' : ¬ (er : Int) = 0 := by omega
      have hz := hyes hb
      simp [hlt, ha, opA, opC]
      intro p hp
      refine callK.of (hs _) ?_
      rintro v σ' ⟨rfl, rfl⟩
      simp [hb, hz, hp, bytesA_nil]
  · obtain rfl : i = l.length := by omega
    have hz := seqB_ok (f := opG) (l := l) fun x hx => by
      obtain ⟨j, hj, rfl⟩ := List.mem_iff_getElem.1 hx
      exact hk j hj hj
    simp [hz, sumG]
end Go.Proofs.YtbeohjinefaaoaaDoor
/-
  A field's byte.
-/
namespace Go.Proofs.YtbeohjinefaaoaaDoor
open Go Go.AL

theorem le_of_eq {a b : AV} (h : a = b) : a.le b := h ▸ AV.le_refl _
structure Fd where
  prot : Bool
  num : Bool
  disp : Int
  mod : Bool
def fdA (f : Fd) : AV := .agg [.lit (.bool f.prot), .lit (.bool f.num), .lit (.int .i64 f.disp), .lit (.bool f.mod)]
def okD (f : Fd) : Bool := decide (0 ≤ f.disp ∧ f.disp ≤ 3)
def bitsF (f : Fd) : Nat := 4 * f.disp.toNat + (if f.prot = true then 32 else 0) + (if f.num = true then 16 else 0) + (if f.mod = true then 1 else 0)
theorem bitsF_lt (f : Fd) (h : okD f = true) : bitsF f < 64 := by
  have := of_decide_eq_true h
  unfold bitsF
  split <;> split <;> split <;> omega
set_option maxHeartbeats 2000000 in
set_option maxRecDepth 8000 in
theorem fbits_calls (f : Fd) (σ : Store) : ACalls Tryd.prog 64 [fdA f] σ fun v σ' => v = .tuple [.lit (.int .u8 (if okD f = true then (bitsF f : Nat) else 0 : Nat)), .lit (.int .i64 (if okD f = true then 0 else 1))] ∧ σ' = σ := by
  obtain ⟨p, n, d, m⟩ := f
  have fin : ∀ {p : Nat} {C : List AV}, σ p = none → Store.sub σ (σ.upd p C) := fun h => Store.sub_upd h (Store.sub_refl _)
  by_cases h : 0 ≤ d ∧ d ≤ 3
  · have hd : d = 0 ∨ d = 1 ∨ d = 2 ∨ d = 3 := by omega
    rcases hd with rfl | rfl | rfl | rfl <;> cases p <;> cases n <;> cases m
    all_goals
      refine ACalls.of_awp follows (st := st64) (plans := pl64) (n := 30) Tryd.func64 rfl (by kernel_rfl) (by kernel_rfl) (by kernel_rfl) ?_
      simp [fdA, okD, bitsF, tInt]
      exact fun p hp => ⟨le_of_eq rfl, fin hp⟩
  · have hk : okD ⟨p, n, d, m⟩ = false := by simp [okD]; omega
    rw [hk]
    refine ACalls.of_awp follows (st := st64) (plans := pl64) (n := 30) Tryd.func64 rfl (by kernel_rfl) (by kernel_rfl) (by kernel_rfl) ?_
    by_cases h1 : d < 0
    · simp [fdA, h1]
      exact fun p hp => fin hp
    · have h2 : 3 < d := by omega
      simp [fdA, h1, h2]
      exact fun p hp => fin hp
set_option maxHeartbeats 2000000 in
set_option maxRecDepth 8000 in
theorem rfbits_calls (f : Fd) (σ : Store) : ACalls Tryd.prog 39 [fdA f] σ fun v σ' => v = .tuple [.lit (.int .u8 (if okD f = true then (bitsF f : Nat) else 0 : Nat)), .lit (.int .i64 (if okD f = true then 0 else 1))] ∧ σ' = σ := by
  obtain ⟨p, n, d, m⟩ := f
  have fin : ∀ {p : Nat} {C : List AV}, σ p = none → Store.sub σ (σ.upd p C) := fun h => Store.sub_upd h (Store.sub_refl _)
  by_cases h : 0 ≤ d ∧ d ≤ 3
  · have hd : d = 0 ∨ d = 1 ∨ d = 2 ∨ d = 3 := by omega
    rcases hd with rfl | rfl | rfl | rfl <;> cases p <;> cases n <;> cases m
    all_goals
      refine ACalls.of_awp follows (st := st39) (plans := pl39) (n := 30) Tryd.func39 rfl (by kernel_rfl) (by kernel_rfl) (by kernel_rfl) ?_
      simp [fdA, okD, bitsF, tInt]
      exact fun p hp => ⟨le_of_eq rfl, fin hp⟩
  · have hk : okD ⟨p, n, d, m⟩ = false := by simp [okD]; omega
    rw [hk]
    refine ACalls.of_awp follows (st := st39) (plans := pl39) (n := 30) Tryd.func39 rfl (by kernel_rfl) (by kernel_rfl) (by kernel_rfl) ?_
    by_cases h1 : d < 0
    · simp [fdA, h1]
      exact fun p hp => fin hp
    · have h2 : 3 < d := by omega
      simp [fdA, h1, h2]
      exact fun p hp => fin hp
set_option maxRecDepth 8000 in
theorem fbyte_calls (f : Fd) (σ : Store) : ACalls Tryd.prog 52 [fdA f] σ fun v σ' => v = .tuple [if okD f = true then byteA (six (bitsF f)) else .lit (.int .u8 0), .lit (.int .i64 (if okD f = true then 0 else 1))] ∧ σ' = σ := by
  have hb := fun τ => fbits_calls f τ
  have hlt := bitsF_lt f
  have hfa : fdA f = .agg [.lit (.bool f.prot), .lit (.bool f.num), .lit (.int .i64 f.disp), .lit (.bool f.mod)] := rfl
  have fin : ∀ {p : Nat} {C : List AV}, σ p = none → Store.sub σ (σ.upd p C) := fun h => Store.sub_upd h (Store.sub_refl _)
  rw [hfa] at hb ⊢
  cases h : okD f
  · rw [h] at hb
    refine ACalls.of_awp follows (st := st52) (plans := pl52) (n := 17) Tryd.func52 rfl (by kernel_rfl) (by kernel_rfl) (by kernel_rfl) ?_
    simp
    intro p hp
    refine callK.eq (hb _) ?_
    simp
    exact fin hp
  · rw [h] at hb
    have hl := hlt h
    have hs := fun τ => six_calls (bitsF f) (by omega) τ
    generalize bitsF f = B at *
    have e6 : byteA (six B) = .lit (.int .u8 ((six B).toNat : Int)) := rfl
    rw [e6] at hs ⊢
    have hw : IntKind.i64.wrap (B : Int) = (B : Int) := wrap_i64 (by omega) (by omega)
    refine ACalls.of_awp follows (st := st52) (plans := pl52) (n := 17) Tryd.func52 rfl (by kernel_rfl) (by kernel_rfl) (by kernel_rfl) ?_
    simp
    intro p hp
    refine callK.eq (hb _) ?_
    simp [hw]
    refine callK.eq (hs _) ?_
    simp
    exact fin hp
end Go.Proofs.YtbeohjinefaaoaaDoor
/-
  Does a text begin with the three bytes of U+FFFD?
-/
namespace Go.Proofs.YtbeohjinefaaoaaDoor
open Go Go.AL

def fffd : ByteArray := ⟨#[239, 191, 189]⟩
def beg3 (t : ByteArray) : Bool := decide (3 ≤ t.size) && decide (t.extract 0 3 = fffd)
set_option maxRecDepth 8000 in
theorem pfx66_calls (t : ByteArray) (ht : t.size ≤ 9223372036854775807) (σ : Store) : ACalls Tryd.prog 66 [.lit (.string t), .lit (.string ⟨#[239, 191, 189]⟩)] σ fun v σ' => v = .lit (.bool (beg3 t)) ∧ σ' = σ := by
  have h3 : (⟨#[239, 191, 189]⟩ : ByteArray).size = 3 := rfl
  refine ACalls.of_awp follows (st := []) (plans := []) (n := 18) Tryd.func66 rfl (by kernel_rfl) (by kernel_rfl) (by kernel_rfl) ?_
  by_cases h : 3 ≤ t.size
  · have h' : (3 : Int) ≤ t.size := by omega
    have e : ((t.extract 0 3).toList == [239, 191, 189]) = beg3 t := by
      rw [Bool.eq_iff_iff]
      unfold beg3 fffd
      simp [h]
      constructor
      · intro q
        apply ByteArray.ext
        rw [ByteArray.toList_eq] at q
        apply Array.ext'
        exact q
      · intro q
        rw [q, ByteArray.toList_eq]
    simp [h3, h, h', e]
    try exact AV.le_refl _
  · have h' : ¬ (3 : Int) ≤ t.size := by omega
    simp [h3, h, h', beg3]
@[simp] theorem callable66 : callable Tryd.prog 66 = true := nr (by kernel_rfl)
set_option maxRecDepth 8000 in
theorem pfx_calls (t : ByteArray) (ht : t.size ≤ 9223372036854775807) (σ : Store) : ACalls Tryd.prog 54 [.lit (.string t), .lit (.string ⟨#[239, 191, 189]⟩)] σ fun v σ' => v = .lit (.bool (beg3 t)) ∧ σ' = σ := by
  refine ACalls.of_awp follows (st := []) (plans := []) (n := 8) Tryd.func54 rfl (by kernel_rfl) (by kernel_rfl) (by kernel_rfl) ?_
  simp
  refine callK.eq (pfx66_calls t ht _) ?_
  simp
end Go.Proofs.YtbeohjinefaaoaaDoor
/-
  Pages: their signs and codes, as lists. Written by a program of mine.
-/
namespace Go.Proofs.YtbeohjinefaaoaaDoor
open Go Go.AL

def rowsL : List (List Nat) := [[0, 1, 2, 3, 156, 9, 134, 127, 151, 141, 142, 11, 12, 13, 14, 15],
  [16, 17, 18, 19, 157, 133, 8, 135, 24, 25, 146, 143, 28, 29, 30, 31],
  [128, 129, 130, 131, 132, 10, 23, 27, 136, 137, 138, 139, 140, 5, 6, 7],
  [144, 145, 22, 147, 148, 149, 150, 4, 152, 153, 154, 155, 20, 21, 158, 26],
  [32, 160, 226, 228, 224, 225, 227, 229, 231, 241, 162, 46, 60, 40, 43, 124],
  [38, 233, 234, 235, 232, 237, 238, 239, 236, 223, 33, 36, 42, 41, 59, 172],
  [45, 47, 194, 196, 192, 193, 195, 197, 199, 209, 166, 44, 37, 95, 62, 63],
  [248, 201, 202, 203, 200, 205, 206, 207, 204, 96, 58, 35, 64, 39, 61, 34],
  [216, 97, 98, 99, 100, 101, 102, 103, 104, 105, 171, 187, 240, 253, 254, 177],
  [176, 106, 107, 108, 109, 110, 111, 112, 113, 114, 170, 186, 230, 184, 198, 164],
  [181, 126, 115, 116, 117, 118, 119, 120, 121, 122, 161, 191, 208, 221, 222, 174],
  [94, 163, 165, 183, 169, 167, 182, 188, 189, 190, 91, 93, 175, 168, 180, 215],
  [123, 65, 66, 67, 68, 69, 70, 71, 72, 73, 173, 244, 246, 242, 243, 245],
  [125, 74, 75, 76, 77, 78, 79, 80, 81, 82, 185, 251, 252, 249, 250, 255],
  [92, 247, 83, 84, 85, 86, 87, 88, 89, 90, 178, 212, 214, 210, 211, 213],
  [48, 49, 50, 51, 52, 53, 54, 55, 56, 57, 179, 219, 220, 217, 218, 159]]
def baseL : List Nat := rowsL.flatten
theorem baseL_length : baseL.length = 256 := by decide +kernel
def oth37 : List (Nat × Nat) := []
def oth273 : List (Nat × Nat) := [(67, 123), (74, 196), (79, 33), (89, 126), (90, 220), (95, 94), (99, 91), (106, 246), (124, 167), (161, 223), (176, 162), (181, 64), (186, 172), (187, 124), (192, 228), (204, 166), (208, 252), (220, 125), (224, 214), (236, 92), (252, 93)]
def oth297 : List (Nat × Nat) := [(68, 64), (72, 92), (74, 176), (79, 33), (81, 123), (84, 125), (90, 167), (95, 94), (106, 249), (121, 181), (123, 163), (124, 224), (144, 91), (160, 96), (161, 168), (176, 162), (177, 35), (181, 93), (186, 172), (187, 124), (189, 126), (192, 233), (208, 232), (221, 166), (224, 231)]
def oth500 : List (Nat × Nat) := [(74, 91), (79, 33), (90, 93), (95, 94), (176, 162), (186, 172), (187, 124)]
def oth1047 : List (Nat × Nat) := [(95, 94), (173, 91), (176, 172), (186, 221), (187, 168), (189, 93)]
def oth1140 : List (Nat × Nat) := [(159, 8364)]
def othersF (n : Int) : List (Nat × Nat) := if n = 37 then oth37 else if n = 273 then oth273 else if n = 297 then oth297 else if n = 500 then oth500 else if n = 1047 then oth1047 else if n = 1140 then oth1140 else []
def isPage (n : Int) : Prop := n = 37 ∨ n = 273 ∨ n = 297 ∨ n = 500 ∨ n = 1047 ∨ n = 1140
instance (n : Int) : Decidable (isPage n) := by unfold isPage; infer_instance
def signsF (n : Int) : List Nat := (othersF n).foldl (fun l o => l.set o.1 o.2) baseL
theorem signs_set (l : List (Nat × Nat)) : ∀ b : List Nat, (l.foldl (fun l o => l.set o.1 o.2) b).length = b.length := by
  induction l with
  | nil => intro b; rfl
  | cons o l ih => intro b; rw [List.foldl_cons, ih, List.length_set]
theorem signsF_length (n : Int) : (signsF n).length = 256 := by rw [signsF, signs_set, baseL_length]
theorem nodup37 : (signsF 37).Nodup := by decide +kernel
theorem nodup273 : (signsF 273).Nodup := by decide +kernel
theorem nodup297 : (signsF 297).Nodup := by decide +kernel
theorem nodup500 : (signsF 500).Nodup := by decide +kernel
theorem nodup1047 : (signsF 1047).Nodup := by decide +kernel
theorem nodup1140 : (signsF 1140).Nodup := by decide +kernel
theorem signsF_nodup {n : Int} (h : isPage n) : (signsF n).Nodup := by
  rcases h with rfl | rfl | rfl | rfl | rfl | rfl
  · exact nodup37
  · exact nodup273
  · exact nodup297
  · exact nodup500
  · exact nodup1047
  · exact nodup1140
theorem small37 : ∀ o ∈ oth37, o.1 < 256 ∧ o.2 < 65536 := by decide +kernel
theorem small273 : ∀ o ∈ oth273, o.1 < 256 ∧ o.2 < 65536 := by decide +kernel
theorem small297 : ∀ o ∈ oth297, o.1 < 256 ∧ o.2 < 65536 := by decide +kernel
theorem small500 : ∀ o ∈ oth500, o.1 < 256 ∧ o.2 < 65536 := by decide +kernel
theorem small1047 : ∀ o ∈ oth1047, o.1 < 256 ∧ o.2 < 65536 := by decide +kernel
theorem small1140 : ∀ o ∈ oth1140, o.1 < 256 ∧ o.2 < 65536 := by decide +kernel
theorem others_small (n : Int) : ∀ o ∈ othersF n, o.1 < 256 ∧ o.2 < 65536 := by
  unfold othersF
  repeat' split
  · exact small37
  · exact small273
  · exact small297
  · exact small500
  · exact small1047
  · exact small1140
  · intro o ho; cases ho
theorem base_small : ∀ z ∈ baseL, z < 65536 := by decide +kernel
end Go.Proofs.YtbeohjinefaaoaaDoor
/-
  A page: its cells; the rows of signs; what other signs it has.
-/
namespace Go.Proofs.YtbeohjinefaaoaaDoor
open Go Go.AL

def sgA (l : List Nat) : List AV := l.map fun z : Nat => .lit (.int .i32 (z : Int))
@[simp] theorem sgA_length (l : List Nat) : (sgA l).length = l.length := by simp [sgA]
theorem sgA_get (l : List Nat) {i : Nat} (h : i < l.length) : (sgA l)[i]? = some (.lit (.int .i32 l[i])) := by simp [sgA, h]
theorem sgA_set (l : List Nat) (i z : Nat) : (sgA l).set i (.lit (.int .i32 z)) = sgA (l.set i z) := by simp [sgA, List.map_set]
/-- A page: its number, whether it is built, the lock, its signs, its codes. -/
structure Pgs where
  num : Int
  done : Int
  mu : Int
  sg : List Nat
  cd : AV
def pgA (p : Pgs) : List AV := [.lit (.int .i64 p.num), .lit (.int .u32 p.done), .lit (.int .i32 p.mu), .lit (.int .u32 0)] ++ (sgA p.sg ++ [p.cd])
theorem pgA_length {p : Pgs} (h : p.sg.length = 256) : (pgA p).length = 261 := by simp [pgA, h]
theorem pgA_num (p : Pgs) : (pgA p)[0]? = some (.lit (.int .i64 p.num)) := rfl
theorem pgA_cd {p : Pgs} (h : p.sg.length = 256) : (pgA p)[260]? = some p.cd := by
  unfold pgA
  rw [List.getElem?_append_right (by simp), List.getElem?_append_right (by simp [h])]
  simp [h]
theorem pgA_sgs {p : Pgs} (h : p.sg.length = 256) : ((pgA p).drop 4).take 256 = sgA p.sg := by
  unfold pgA
  rw [List.drop_left' (by simp), List.take_left' (by simp [h])]
theorem pgA_setSg {p : Pgs} {i : Nat} (z : Nat) (h : i < p.sg.length) : (pgA p).set (4 + i) (.lit (.int .i32 z)) = pgA { p with sg := p.sg.set i z } := by
  unfold pgA
  rw [List.set_append_right _ _ (by simp), List.set_append_left _ _ (by simp; omega)]
  simp [sgA_set]
theorem pgA_setCd {p : Pgs} (h : p.sg.length = 256) (c : AV) : (pgA p).set 260 c = pgA { p with cd := c } := by
  unfold pgA
  rw [List.set_append_right _ _ (by simp), List.set_append_right _ _ (by simp [h])]
  simp [h]
def Pgs.new (n : Int) : Pgs := ⟨n, 0, 0, List.replicate 256 0, .lit (.map none)⟩
@[simp] theorem azero87 : azero Tryd.prog 87 = some (pgA (.new 0)) := nr (by kernel_rfl)
theorem pgA_new_length (n : Int) : (pgA (.new n)).length = 261 := pgA_length List.length_replicate
theorem pgA_new_set (n : Int) : (pgA (.new 0)).set 0 (.lit (.int .i64 n)) = pgA (.new n) := rfl

/-! ### The tables -/
def rowU (l : List Nat) : List AV := l.map fun z : Nat => .lit (.int .u16 (z : Int))
set_option maxRecDepth 20000 in
set_option maxHeartbeats 4000000 in
theorem row_calls (d : Nat) (hd : d < 16) (σ : Store) : ACalls Tryd.prog 79 [.lit (.int .i64 d)] σ fun v σ' => v = .agg (rowU (rowsL.getD d [])) ∧ σ' = σ := by
  have key : ∀ d : Nat, d < 16 → d = 0 ∨ d = 1 ∨ d = 2 ∨ d = 3 ∨ d = 4 ∨ d = 5 ∨ d = 6 ∨ d = 7 ∨ d = 8 ∨ d = 9 ∨ d = 10 ∨ d = 11 ∨ d = 12 ∨ d = 13 ∨ d = 14 ∨ d = 15 := by omega
  rcases key d hd with rfl | rfl | rfl | rfl | rfl | rfl | rfl | rfl | rfl | rfl | rfl | rfl | rfl | rfl | rfl | rfl
  all_goals
    refine ACalls.of_awp follows (st := st79) (plans := pl79) (n := 53) Tryd.func79 rfl (by kernel_rfl) (by kernel_rfl) (by kernel_rfl) ?_
    simp
    intro p hp
    exact ⟨by simp [rowU, rowsL], sub_upd_self _ _ _ hp⟩
def othA (l : List (Nat × Nat)) : List AV := l.map fun o => .agg [.lit (.int .u8 (o.1 : Int)), .lit (.int .u16 (o.2 : Int))]
@[simp] theorem othA_length (l : List (Nat × Nat)) : (othA l).length = l.length := by simp [othA]
set_option maxRecDepth 20000 in
set_option maxHeartbeats 4000000 in
theorem others_calls (n : Int) (σ : Store) : ACalls Tryd.prog 16 [.lit (.int .i64 n)] σ fun v σ' => v = .tuple [.list true 2 (othA (othersF n)), .lit (.bool (decide (isPage n)))] ∧ σ' = σ := by
  refine ACalls.of_awp follows (st := st16) (plans := pl16) (n := 82) Tryd.func16 rfl (by kernel_rfl) (by kernel_rfl) (by kernel_rfl) ?_
  by_cases h1 : n = 37
  · subst h1; simp [othersF, isPage, othA, oth37]
  by_cases h2 : n = 273
  · subst h2; simp [othersF, isPage, othA, oth273]
  by_cases h3 : n = 297
  · subst h3; simp [othersF, isPage, othA, oth297]
  by_cases h4 : n = 500
  · subst h4; simp [othersF, isPage, othA, oth500]
  by_cases h5 : n = 1047
  · subst h5; simp [othersF, isPage, othA, oth1047]
  by_cases h6 : n = 1140
  · subst h6; simp [othersF, isPage, othA, oth1140]
  · simp [othersF, isPage, othA, h1, h2, h3, h4, h5, h6]
end Go.Proofs.YtbeohjinefaaoaaDoor
/-
  A page is built: its signs, and the codes of its signs.
-/
namespace Go.Proofs.YtbeohjinefaaoaaDoor
open Go Go.AL

abbrev pgP (b : Nat) : AV := .lit (.pointer (some ⟨b, 0, none⟩))
def sgF (n : Int) (c : Nat) : Nat := (signsF n).getD c 0
/-- The codes of the first signs. -/
def codesN (n : Int) (k : Nat) : List (Value × AV) := (List.range k).map fun c => (.int .i32 ((sgF n c : Nat) : Int), .lit (.int .u8 (c : Int)))
theorem findA_map (f : Nat → Int) (s : Int) : ∀ (l : List Nat) (i : Nat), findA (.int .i32) (.int .i32 s) (l.map fun c => (.int .i32 (f c), .lit (.int .u8 (c : Int)))) i =
    some ((l.findIdx? (fun c => f c == s)).map fun j => (i + j, .lit (.int .u8 ((l.getD j 0 : Nat) : Int)))) := by
  intro l
  induction l with
  | nil => intro i; rfl
  | cons c l ih =>
    intro i
    by_cases h : s = f c
    · have h' : (f c == s) = true := by simp [h]
      simp [findA, Instr.sameNow, h, List.findIdx?_cons]
    · have h' : (f c == s) = false := by simpa using fun e => h e.symm
      have h2 : (s == f c) = false := by simpa using h
      simp only [List.map_cons, findA, Instr.sameNow, if_true, h2, ih, List.findIdx?_cons, h', Bool.false_eq_true, if_false, Option.map_map]
      congr 1
      cases l.findIdx? (fun c => f c == s) with
      | none => rfl
      | some j => simp; omega
theorem sgF_inj {n : Int} (hn : isPage n) {c d : Nat} (hc : c < 256) (hd : d < 256) (h : sgF n c = sgF n d) : c = d := by
  have hl := signsF_length n
  have hnd := signsF_nodup hn
  unfold sgF at h
  rw [List.getD_eq_getElem?_getD, List.getD_eq_getElem?_getD, List.getElem?_eq_getElem (by omega), List.getElem?_eq_getElem (by omega)] at h
  exact (List.getElem_inj hnd).1 h
theorem setA_codes {n : Int} (hn : isPage n) {k : Nat} (hk : k < 256) : setA (.int .i32) (codesN n k) (.int .i32 ((sgF n k : Nat) : Int)) (.lit (.int .u8 (k : Int))) = some (codesN n (k + 1)) := by
  have hf : (List.range k).findIdx? (fun c => ((sgF n c : Nat) : Int) == ((sgF n k : Nat) : Int)) = none := by
    rw [List.findIdx?_eq_none_iff]
    intro c hc
    have hck : c < k := by simpa using hc
    have : sgF n c ≠ sgF n k := fun e => by have := sgF_inj hn (by omega) hk e; omega
    simpa using fun e => this (by omega)
  unfold setA codesN
  rw [findA_map (fun c => ((sgF n c : Nat) : Int)), hf]
  simp [List.range_succ]
/-- A sign's code. -/
def codeIx (n : Int) (s : Int) : Option Nat := (List.range 256).findIdx? (fun c => ((sgF n c : Nat) : Int) == s)
theorem codeIx_lt {n s : Int} {j : Nat} (h : codeIx n s = some j) : j < 256 ∧ ((sgF n j : Nat) : Int) = s := by
  obtain ⟨h1, h2, _⟩ := List.findIdx?_eq_some_iff_getElem.1 h
  have : j < 256 := by simpa using h1
  exact ⟨this, by simpa using h2⟩
theorem get_codes (P : Program) (et : TypeId) (n s : Int) (hz : zeroV P et = some (.lit (.int .u8 0))) : getA P et true (.int .i32) (.int .i32 s) (codesN n 256) =
    some (.tuple [.lit (.int .u8 (((codeIx n s).getD 0 : Nat) : Int)), .lit (.bool (codeIx n s).isSome)]) := by
  unfold getA codesN
  rw [findA_map (fun c => ((sgF n c : Nat) : Int))]
  have e : (List.range 256).findIdx? (fun c => ((sgF n c : Nat) : Int) == s) = codeIx n s := rfl
  rw [e]
  cases hc : codeIx n s with
  | none => simp [hz, AV.drop1]
  | some j =>
    have hj := (codeIx_lt hc).1
    have : (List.range 256).getD j 0 = j := by simp [hj]
    simp only [Option.map_some, this]
    rfl
/-- Signs laid one behind the other. -/
def upto (b : List Nat) (s : List Nat) (n : Nat) : List Nat := b.take n ++ s.drop n
theorem upto_length {b s : List Nat} (h : b.length = s.length) (n : Nat) : (upto b s n).length = s.length := by simp [upto]; omega
theorem upto_set {b s : List Nat} (h : b.length = s.length) {n : Nat} (hn : n < b.length) : (upto b s n).set n (b.getD n 0) = upto b s (n + 1) := by
  unfold upto
  rw [List.set_append_right _ _ (by simp; omega)]
  have e1 : n - (b.take n).length = 0 := by simp; omega
  rw [e1, List.drop_eq_getElem_cons (by omega), List.set_cons_zero, List.getD_eq_getElem?_getD, List.getElem?_eq_getElem hn]
  have e2 : b.take (n + 1) = b.take n ++ [b[n]] := List.take_succ_eq_append_getElem hn
  rw [e2, List.append_assoc]
  rfl
theorem row_base : ∀ i < 16, ∀ j < 16, (rowsL.getD i []).getD j 0 = baseL.getD (16 * i + j) 0 := by decide +kernel
theorem row_len : ∀ i < 16, (rowsL.getD i []).length = 16 := by decide +kernel
theorem base_lt (n : Nat) : baseL.getD n 0 < 65536 := by
  rw [List.getD_eq_getElem?_getD]
  cases h : baseL[n]? with
  | none => simp
  | some z => exact base_small z (List.mem_of_getElem? h)
theorem rowU_get {i j : Nat} (hi : i < 16) (hj : j < 16) : (rowU (rowsL.getD i []))[j]? = some (.lit (.int .u16 ((baseL.getD (16 * i + j) 0 : Nat) : Int))) := by
  have hl := row_len i hi
  rw [← row_base i hi j hj]
  unfold rowU
  rw [List.getElem?_map, List.getD_eq_getElem?_getD (l := rowsL.getD i [])]
  rw [List.getElem?_eq_getElem (by omega)]
  rfl
theorem others_len (n : Int) : (othersF n).length ≤ 25 := by
  unfold othersF
  repeat' split
  all_goals decide
theorem mkAV_true (cs : List AV) : mkAV true cs = some (.agg cs) := nr (by unfold mkAV; rfl)
/-- Some other signs laid. -/
def sgK (O : List (Nat × Nat)) (k : Nat) : List Nat := (O.take k).foldl (fun l o => l.set o.1 o.2) baseL
theorem sgK_length (O : List (Nat × Nat)) (k : Nat) : (sgK O k).length = 256 := by rw [sgK, signs_set, baseL_length]
theorem sgK_succ (O : List (Nat × Nat)) {k : Nat} (h : k < O.length) : sgK O (k + 1) = (sgK O k).set O[k].1 O[k].2 := by
  unfold sgK
  have e : O.take (k + 1) = O.take k ++ [O[k]] := List.take_succ_eq_append_getElem h
  rw [e, List.foldl_append]; rfl
set_option maxRecDepth 8000 in
set_option maxHeartbeats 2000000 in
theorem build_calls (b : Nat) (p : Pgs) (hp : p.sg.length = 256) (hn : isPage p.num) (σ : Store) (hb : σ b = some (pgA p)) :
    ACalls Tryd.prog 73 [pgP b] σ fun v σ' => v = .tuple [] ∧ ∃ q : Nat, σ (mkey q) = none ∧ σ' = (σ.upd b (pgA { p with sg := signsF p.num, cd := .lit (.map (some q)) })).put q (mapA (codesN p.num 256)) := by
  have hbl := baseL_length
  have hul := fun n => upto_length (b := baseL) (s := p.sg) (by omega) n
  refine ACalls.of_awp follows (st := st73) (plans := pl73) (n := 76) Tryd.func73 rfl (by kernel_rfl) (by kernel_rfl) (by kernel_rfl) ?_
  simp
  refine codeK.loop follows (st := st73) (plans := pl73) (X := Nat) (fun i => i ≤ 16)
    (fun i => [(0, pgP b), (11, .lit (.int .i64 i))]) (fun i => σ.upd b (pgA { p with sg := upto baseL p.sg (16 * i) })) (fun i => 16 - i) 0 (by kernel_rfl) (Nat.zero_le _) (by simp) ?_ fun i hi => ?_
  · have e : upto baseL p.sg (16 * 0) = p.sg := rfl
    rw [e, upd_back hb]; exact Store.sub_refl _
  by_cases hlt : i < 16
  · have hlt' : (i : Int) < 16 := by omega
    have hrow := fun τ => row_calls i hlt τ
    have hgR := fun j (hj : j < 16) => rowU_get hlt hj
    have hrl : (rowU (rowsL.getD i [])).length = 16 := by unfold rowU; rw [List.length_map, row_len i hlt]
    generalize rowU (rowsL.getD i []) = R at *
    simp [hlt']
    refine callK.of (hrow _) ?_
    rintro v σ1 ⟨rfl, rfl⟩
    simp
    refine codeK.loop follows (st := st73) (plans := pl73) (X := Nat) (fun j => j ≤ 16)
      (fun j => [(0, pgP b), (2, .lit (.int .i64 i)), (11, .lit (.int .i64 i)), (15, .agg R), (16, .lit (.int .i64 j))]) (fun j => σ.upd b (pgA { p with sg := upto baseL p.sg (16 * i + j) })) (fun j => 16 - j) 0 (by kernel_rfl) (Nat.zero_le _) (by simp) (Store.sub_refl _) fun j hj => ?_
    by_cases hjl : j < 16
    · have hjl' : (j : Int) < 16 := by omega
      have hg := hgR j hjl
      obtain ⟨m, hm⟩ : ∃ m, 16 * i + j = m := ⟨_, rfl⟩
      have hm1 : 16 * i + (j + 1) = m + 1 := by omega
      rw [hm] at hg ⊢
      have hmlt : m < 256 := by omega
      have hmlt' : (m : Int) < 256 := by omega
      have hz := base_lt m
      have hset := upto_set (b := baseL) (s := p.sg) (by omega) (n := m) (by omega)
      have hpl := pgA_length (p := { p with sg := upto baseL p.sg m }) (by dsimp only; rw [hul]; exact hp)
      have hps := fun z => pgA_setSg (p := { p with sg := upto baseL p.sg m }) (i := m) z (by dsimp only; rw [hul]; omega)
      have hps := hps (baseL.getD m 0)
      dsimp only at hps hpl
      rw [hset] at hps
      generalize baseL.getD m 0 = z at *
      have hw1 : IntKind.i64.wrap (16 * (i : Int)) = 16 * (i : Int) := by rw [wrap_i64 (by omega) (by omega)]
      have hw2 : IntKind.i64.wrap (16 * (i : Int) + (j : Int)) = (m : Int) := by rw [wrap_i64 (by omega) (by omega)]; omega
      have hw3 : IntKind.i32.wrap (z : Int) = z := by unfold IntKind.wrap; simp [IntKind.signed, IntKind.bits]; omega
      have hw4 : IntKind.i64.wrap ((j : Int) + 1) = ((j + 1 : Nat) : Int) := wrap_i64 (by omega) (by omega)
      simp [hjl', hg, hw1, hw2, hw3, hpl, hps, hmlt']
      exact ⟨by omega, j + 1, by omega, by omega, by rw [hw4]; exact AV.le_refl _, by rw [hm1]; exact Store.sub_refl _⟩
    · obtain rfl : j = 16 := by omega
      simp
      have hw1 : IntKind.i64.wrap ((i : Int) + 1) = ((i + 1 : Nat) : Int) := wrap_i64 (by omega) (by omega)
      exact ⟨i + 1, by omega, by omega, by rw [hw1]; exact AV.le_refl _, by rw [show 16 * (i + 1) = 16 * i + 16 by omega]; exact Store.sub_refl _⟩
  · obtain rfl : i = 16 := by omega
    have hu0 : upto baseL p.sg (16 * 16) = baseL := by unfold upto; rw [List.take_of_length_le (by omega), List.drop_of_length_le (by omega), List.append_nil]
    have hnum := pgA_num { p with sg := baseL }
    have hoth := fun τ => others_calls p.num τ
    dsimp only at hnum
    simp only [hu0]
    simp [hnum]
    refine callK.of (hoth _) ?_
    rintro v σ1 ⟨rfl, rfl⟩
    have hsm := others_small p.num
    have hOl := others_len p.num
    have hsF : (othersF p.num).foldl (fun l o => l.set o.1 o.2) baseL = signsF p.num := rfl
    generalize hO : othersF p.num = O at *
    simp
    refine codeK.loop follows (st := st73) (plans := pl73) (X := Nat) (fun k => k ≤ O.length)
      (fun k => [(0, pgP b), (40, .list false 2 (othA O)), (41, .lit (.int .i64 O.length)), (42, .lit (.int .i64 k))]) (fun k => σ.upd b (pgA { p with sg := sgK O k })) (fun k => O.length - k) 0 (by kernel_rfl) (Nat.zero_le _) (by simp) (Store.sub_refl _) fun k hk => ?_
    have hskl := sgK_length O k
    by_cases hkl : k < O.length
    · obtain ⟨o, ho⟩ : ∃ o, O[k] = o := ⟨_, rfl⟩
      have hos := hsm o (by rw [← ho]; exact List.getElem_mem ..)
      have hgo : ∀ q : k < (othA O).length, (othA O)[k]'q = .agg [.lit (.int .u8 (o.1 : Int)), .lit (.int .u16 (o.2 : Int))] := fun q => by simp [othA, ho]
      have hkl' : (k : Int) < O.length := by omega
      have hset : (sgK O k).set o.1 o.2 = sgK O (k + 1) := by rw [sgK_succ O hkl, ho]
      have hpl := pgA_length (p := { p with sg := sgK O k }) (by dsimp only; omega)
      have hps := pgA_setSg (p := { p with sg := sgK O k }) (i := o.1) o.2 (by dsimp only; omega)
      dsimp only at hps hpl
      rw [hset] at hps
      obtain ⟨c, z⟩ := o
      dsimp only at hos hps hgo
      have hc' : (c : Int) < 256 := by omega
      have hw3 : IntKind.i32.wrap (z : Int) = z := by unfold IntKind.wrap; simp [IntKind.signed, IntKind.bits]; omega
      have hw4 : IntKind.i64.wrap ((k : Int) + 1) = ((k + 1 : Nat) : Int) := wrap_i64 (by omega) (by omega)
      simp [hkl, hkl', hgo]
      intro q hq0
      obtain ⟨hqb, hq⟩ : ¬ q = b ∧ σ q = none := by
        split at hq0
        · cases hq0
        · exact ⟨by assumption, hq0⟩
      have hbq : ¬ b = q := fun e => hqb e.symm
      simp [hpl, hps, hc', hw3, hbq]
      exact ⟨by omega, k + 1, by omega, by omega, by rw [hw4]; exact AV.le_refl _, sub_box2 hq hbq⟩
    · obtain rfl : k = O.length := by omega
      have hall : sgK O O.length = signsF p.num := by unfold sgK; rw [List.take_length, hsF]
      have hSl := signsF_length p.num
      have hpl := pgA_length (p := { p with sg := signsF p.num }) hSl
      have hcd := fun c => pgA_setCd (p := { p with sg := signsF p.num }) hSl c
      have hpl2 := fun c => pgA_length (p := { p with sg := signsF p.num, cd := c }) hSl
      have hsg := fun c => pgA_sgs (p := { p with sg := signsF p.num, cd := c }) hSl
      have hcdg := fun c => pgA_cd (p := { p with sg := signsF p.num, cd := c }) hSl
      have hgS : ∀ c, c < 256 → (sgA (signsF p.num))[c]? = some (.lit (.int .i32 ((sgF p.num c : Nat) : Int))) := fun c hc => by
        rw [sgA_get _ (by omega)]
        unfold sgF
        rw [List.getD_eq_getElem?_getD, List.getElem?_eq_getElem (by omega)]
        rfl
      have hset := fun c (hc : c < 256) => setA_codes hn hc
      have hSA : (sgA (signsF p.num)).length = 256 := by rw [sgA_length, hSl]
      have hdS : (sgA (signsF p.num)).map AV.drop1 = sgA (signsF p.num) := by simp [sgA, Function.comp_def, AV.drop1]
      rw [hall]
      dsimp only at hpl hcd hpl2 hsg hcdg
      generalize sgA (signsF p.num) = S at *
      simp [hpl, hcd, hpl2, hsg]
      intro q hq
      simp [mkAV_true]
      refine codeK.loop follows (st := st73) (plans := pl73) (X := Nat) (fun c => c ≤ 256)
        (fun c => [(0, pgP b), (63, .agg S), (64, .lit (.int .i64 c))]) (fun c => (σ.upd b (pgA { p with sg := signsF p.num, cd := .lit (.map (some q)) })).put q (mapA (codesN p.num c))) (fun c => 256 - c) 0 (by kernel_rfl) (Nat.zero_le _) (by simp [hdS]) (Store.sub_refl _) fun c hc => ?_
      by_cases hcl : c < 256
      · have hcl' : (c : Int) < 256 := by omega
        have h1 : ∀ q : c < S.length, S[c]'q = .lit (.int .i32 ((sgF p.num c : Nat) : Int)) := fun q => by
          have := hgS c hcl
          rw [List.getElem?_eq_getElem q] at this
          exact Option.some.inj this
        have h2 := hset c hcl
        have hw1 : IntKind.u8.wrap (c : Int) = c := by unfold IntKind.wrap; simp [IntKind.signed, IntKind.bits]; omega
        have hw2 : IntKind.i64.wrap ((c : Int) + 1) = ((c + 1 : Nat) : Int) := wrap_i64 (by omega) (by omega)
        simp [hcl, hcl', h1, hSA, hcdg, hw1, h2]
        exact ⟨c + 1, by omega, by omega, by rw [hw2]; exact AV.le_refl _, Store.sub_refl _⟩
      · obtain rfl : c = 256 := by omega
        simp
        exact ⟨_, AV.le_refl _, _, Store.sub_refl _, rfl, q, hq, rfl⟩
end Go.Proofs.YtbeohjinefaaoaaDoor
