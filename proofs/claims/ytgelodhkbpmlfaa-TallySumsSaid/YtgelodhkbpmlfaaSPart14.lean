/-
  The plain law: the document's list of counters is the sorted one; both find the same fault with names.
-/
import Derived.Test.YtgelodhkbpmlfaaSPart13
set_option linter.unusedSimpArgs false
set_option linter.unusedVariables false
namespace Go.Proofs.Ytgelodhkbpmlfaa
open Go Go.AL

abbrev Str := List UInt8
theorem slt_irrefl (a : Str) : ¬ a < a := List.lt_irrefl a
theorem slt_trans {a b c : Str} (h : a < b) (k : b < c) : a < c := List.lt_trans h k
theorem sle_antisymm {a b : Str} (h : a ≤ b) (k : b ≤ a) : a = b := List.le_antisymm h k
theorem sle_total (a b : Str) : a ≤ b ∨ b ≤ a := List.le_total a b
theorem sle_trans {a b c : Str} (h : a ≤ b) (k : b ≤ c) : a ≤ c := List.le_trans h k
theorem slt_of {a b : Str} (h : a ≤ b) (k : a ≠ b) : a < b := by
  by_cases h1 : a < b
  · exact h1
  · exact absurd (sle_antisymm h (List.not_lt.1 h1)) k
theorem sle_of {a b : Str} (h : a < b) : a ≤ b := List.le_of_lt h
theorem sortL_sorted (l : List Str) : (sortL l).Pairwise (· ≤ ·) := by
  have := List.pairwise_mergeSort (le := fun x y : Str => decide (x ≤ y)) (fun a b c h k => by simpa using sle_trans (by simpa using h) (by simpa using k)) (fun a b => by simpa using sle_total a b) l
  exact this.imp fun h => by simpa using h
theorem sortL_perm (l : List Str) : (sortL l).Perm l := List.mergeSort_perm l _
/-- Strictly rising. -/
def Asc (l : List Ct) : Prop := (l.map (·.1)).Pairwise (· < ·)
theorem posN_spec (n : Str) : ∀ l : List Ct, Asc l → (∀ c ∈ l.take (posN n l), c.1 < n) ∧ (∀ c ∈ l.drop (posN n l), n ≤ c.1)
  | [], _ => by simp [posN]
  | c :: l, h => by
    have h' : Asc l := (List.pairwise_cons.1 h).2
    have hc := (List.pairwise_cons.1 h).1
    unfold posN
    split
    · rename_i hlt
      obtain ⟨h1, h2⟩ := posN_spec n l h'
      refine ⟨fun d hd => ?_, by simpa using h2⟩
      simp only [List.take_succ_cons, List.mem_cons] at hd
      rcases hd with rfl | hd
      · exact hlt
      · exact h1 d hd
    · rename_i hlt
      refine ⟨by simp, fun d hd => ?_⟩
      have hnc : n ≤ c.1 := List.not_lt.1 hlt
      simp only [List.drop_zero, List.mem_cons] at hd
      rcases hd with rfl | hd
      · exact hnc
      · exact sle_trans hnc (sle_of (hc d.1 (List.mem_map_of_mem hd)))
theorem insN_spec (n : Str) (l : List Ct) (h : Asc l) (hz : ∀ c ∈ l, c.2 = 0) :
    (n ∈ l.map (·.1) → insN n l = none) ∧ (¬ n ∈ l.map (·.1) → ∃ r, insN n l = some r ∧ Asc r ∧ (∀ c ∈ r, c.2 = 0) ∧ (r.map (·.1)).Perm (n :: l.map (·.1))) := by
  obtain ⟨h1, h2⟩ := posN_spec n l h
  have hsp := List.take_append_drop (posN n l) l
  generalize hA : l.take (posN n l) = A at *
  generalize hB : l.drop (posN n l) = B at *
  have hAB : Asc (A ++ B) := by rw [hsp]; exact h
  have hpw := hAB
  unfold Asc at hpw
  rw [List.map_append, List.pairwise_append] at hpw
  obtain ⟨p1, p2, p3⟩ := hpw
  constructor
  · intro hm
    unfold insN
    rw [hA, hB]
    rw [← hsp, List.map_append, List.mem_append] at hm
    rcases hm with hm | hm
    · obtain ⟨c, hc, e⟩ := List.mem_map.1 hm
      have e : c.1 = n := e
      have h3 := h1 c hc
      rw [e] at h3
      exact absurd h3 (slt_irrefl _)
    · cases B with
      | nil => simp at hm
      | cons c B =>
        rw [if_pos]
        simp only [List.head?_cons, Option.map_some, Option.some.injEq]
        rcases List.mem_cons.1 hm with e | e
        · exact e.symm
        · have hlt := (List.pairwise_cons.1 p2).1 n e
          have h3 : c.1 = n := (sle_antisymm (h2 c (by simp)) (sle_of hlt)).symm
          have hlt : c.1 < n := hlt
          rw [h3] at hlt
          exact absurd hlt (slt_irrefl _)
  · intro hm
    have hne : ∀ c ∈ B, n < c.1 := fun c hc => slt_of (h2 c hc) fun e => hm (by rw [e, ← hsp]; exact List.mem_map_of_mem (List.mem_append_right _ hc))
    refine ⟨A ++ (n, 0) :: B, ?_, ?_, ?_, ?_⟩
    · unfold insN
      rw [hA, hB, if_neg]
      cases B with
      | nil => simp
      | cons c B =>
        simp only [List.head?_cons, Option.map_some, Option.some.injEq]
        intro e
        have := hne c (by simp)
        rw [e] at this
        exact slt_irrefl _ this
    · unfold Asc
      rw [List.map_append, List.map_cons, List.pairwise_append]
      refine ⟨p1, List.pairwise_cons.2 ⟨fun b hb => ?_, p2⟩, fun a ha b hb => ?_⟩
      · obtain ⟨c, hc, rfl⟩ := List.mem_map.1 hb
        exact hne c hc
      · obtain ⟨c, hc, rfl⟩ := List.mem_map.1 ha
        rcases List.mem_cons.1 hb with rfl | hb
        · exact h1 c hc
        · exact p3 _ ha _ hb
    · intro c hc
      rw [← hsp] at hz
      rcases List.mem_append.1 hc with hc | hc
      · exact hz c (List.mem_append_left _ hc)
      · rcases List.mem_cons.1 hc with rfl | hc
        · rfl
        · exact hz c (List.mem_append_right _ hc)
    · rw [← hsp]
      simp only [List.map_append, List.map_cons]
      exact List.perm_middle
theorem insAll_spec : ∀ (l : List Str) (acc : List Ct), Asc acc → (∀ c ∈ acc, c.2 = 0) → (l.Nodup ∧ (∀ n ∈ l, ¬ n ∈ acc.map (·.1)) → ∃ r, insAll l acc = some r ∧ Asc r ∧ (∀ c ∈ r, c.2 = 0) ∧ (r.map (·.1)).Perm (l ++ acc.map (·.1))) ∧
    (¬ (l.Nodup ∧ (∀ n ∈ l, ¬ n ∈ acc.map (·.1))) → insAll l acc = none)
  | [], acc, h, hz => ⟨fun _ => ⟨acc, rfl, h, hz, by simp⟩, fun hn => absurd ⟨List.nodup_nil, by simp⟩ hn⟩
  | n :: l, acc, h, hz => by
    obtain ⟨i1, i2⟩ := insN_spec n acc h hz
    by_cases hm : n ∈ acc.map (·.1)
    · refine ⟨fun hh => absurd hm (hh.2 n (by simp)), fun _ => ?_⟩
      unfold insAll
      rw [i1 hm]; rfl
    · obtain ⟨r, e, hr, hrz, hp⟩ := i2 hm
      obtain ⟨j1, j2⟩ := insAll_spec l r hr hrz
      have hiff : ((n :: l).Nodup ∧ ∀ m ∈ n :: l, ¬ m ∈ acc.map (·.1)) ↔ (l.Nodup ∧ ∀ m ∈ l, ¬ m ∈ r.map (·.1)) := by
        simp only [hp.mem_iff, List.nodup_cons, List.mem_cons, not_or]
        constructor
        · rintro ⟨⟨a, b⟩, c⟩
          exact ⟨b, fun m hm2 => ⟨fun e => a (e ▸ hm2), c m (.inr hm2)⟩⟩
        · rintro ⟨a, b⟩
          refine ⟨⟨fun hn => (b n hn).1 rfl, a⟩, ?_⟩
          rintro m (rfl | hm2)
          · exact hm
          · exact (b m hm2).2
      have ei : insAll (n :: l) acc = insAll l r := by
        show (insN n acc).bind _ = _
        rw [e]; rfl
      rw [hiff, ei]
      refine ⟨fun hh => ?_, j2⟩
      obtain ⟨r', q1, q2, q3, q4⟩ := j1 hh
      refine ⟨r', q1, q2, q3, q4.trans ?_⟩
      refine (List.Perm.append_left l hp).trans ?_
      exact List.perm_middle
theorem sorted_strict (l : List Str) (h : l.Nodup) : (sortL l).Pairwise (· < ·) := by
  have h1 := sortL_sorted l
  have h2 : (sortL l).Nodup := (sortL_perm l).nodup_iff.2 h
  exact (List.pairwise_and_iff.2 ⟨h1, h2⟩).imp fun h => slt_of h.1 h.2
theorem compact_len (l : List Str) : (Lib.compact (sortL l)).length = l.length ↔ l.Nodup := by
  have hln : (sortL l).length = l.length := (sortL_perm l).length_eq
  constructor
  · intro h
    have hk : ∀ j, j < (sortL l).length → Lib.keeps (sortL l).toArray j = true := by
      unfold Lib.compact Lib.compactUpTo at h
      rw [List.length_map, ← hln] at h
      have h2 : ((List.range (sortL l).length).filter (Lib.keeps (sortL l).toArray)).length = (List.range (sortL l).length).length := by simpa using h
      have := List.length_filter_eq_length_iff.1 h2
      exact fun j hj => this j (by simpa using hj)
    rw [← (sortL_perm l).nodup_iff]
    have hs := sortL_sorted l
    have hadj : ∀ j (hj : j + 1 < (sortL l).length), (sortL l)[j] < (sortL l)[j + 1] := fun j hj => by
      refine slt_of (List.pairwise_iff_getElem.1 hs j (j + 1) (by omega) hj (by omega)) ?_
      have := hk (j + 1) hj
      unfold Lib.keeps at this
      simp only [decide_eq_true_eq] at this
      rcases this with h | h
      · omega
      · intro e
        apply h
        rw [getElem!_pos _ _ (by simpa using hj), getElem!_pos _ _ (by simp; omega)]
        simpa using e.symm
    have hlt : ∀ d i (hj : i + d + 1 < (sortL l).length), (sortL l)[i] < (sortL l)[i + d + 1] := by
      intro d
      induction d with
      | zero => exact fun i hj => hadj i hj
      | succ d ih => exact fun i hj => slt_trans (ih i (by omega)) (hadj (i + d + 1) (by omega))
    rw [List.Nodup, List.pairwise_iff_getElem]
    intro i j hi hj hij e
    have := hlt (j - i - 1) i (by omega)
    simp only [show i + (j - i - 1) + 1 = j by omega] at this
    rw [e] at this
    exact slt_irrefl _ this
  · intro h
    have hs := sorted_strict l h
    rw [Lib.compact_all, hln]
    intro j hj
    unfold Lib.keeps
    simp only [decide_eq_true_eq]
    by_cases h0 : j = 0
    · exact .inl h0
    · right
      rw [getElem!_pos _ _ (by simpa using hj), getElem!_pos _ _ (by simp; omega)]
      intro e
      have := List.pairwise_iff_getElem.1 hs (j - 1) j (by omega) hj (by omega)
      simp at e
      rw [e] at this
      exact slt_irrefl _ this
/-- The two ways of making counters agree. -/
theorem new_same (l : List Str) : (newR l).2 = newE l ∧ (newE l = 0 → (newR l).1 = (sortL l).zip (List.replicate l.length 0) ∧ (sortL l).Nodup ∧ l.length ≤ 64) ∧ (¬ newE l = 0 → (newR l).1 = []) := by
  unfold newR newE
  by_cases h1 : 64 < l.length
  · simp [h1]
  by_cases h2 : badN l = true
  · simp [h1, h2]
  have hA : Asc [] := by simp [Asc]
  obtain ⟨j1, j2⟩ := insAll_spec l [] hA (by simp)
  have hc := compact_len l
  by_cases hn : l.Nodup
  · obtain ⟨r, e, hr, hz, hp⟩ := j1 ⟨hn, by simp⟩
    have hp : (r.map (·.1)).Perm l := by simpa using hp
    have hsort : r.map (·.1) = sortL l := (hp.trans (sortL_perm l).symm).eq_of_pairwise (le := (· < ·)) (fun a b _ _ h k => absurd (slt_trans h k) (slt_irrefl _)) hr (sorted_strict l hn)
    have hr2 : r = (sortL l).zip (List.replicate l.length 0) := by
      rw [← hsort]
      have hlen : r.length = l.length := by rw [← hp.length_eq]; simp
      apply List.ext_getElem
      · simp [hlen]
      · intro i h3 h4
        have := hz r[i] (List.getElem_mem _)
        simp only [List.getElem_zip, List.getElem_map, List.getElem_replicate]
        exact Prod.ext rfl this
    have hc2 := hc.2 hn
    simp [h1, h2, e, hc2, hr2, (sortL_perm l).nodup_iff.2 hn]
    omega
  · have e := j2 (fun h => hn h.1)
    have hc2 : ¬ (Lib.compact (sortL l)).length = l.length := fun h => hn (hc.1 h)
    simp [h1, h2, e, hc2]
end Go.Proofs.Ytgelodhkbpmlfaa
/-
  The document's example; TallyNil.
-/
namespace Go.Proofs.Ytgelodhkbpmlfaa
open Go Go.AL

theorem ex_err : newE [[98], [97]] = 0 := by rw [← (new_same _).1]; decide +kernel
theorem sortL_of {l m : List Str} (h0 : newE l = 0) (h : (newR l).1.map (·.1) = m) : sortL l = m := by
  obtain ⟨_, h3, _⟩ := new_same l
  obtain ⟨h4, _⟩ := h3 h0
  rw [← h, h4, List.map_fst_zip]
  simp [(sortL_perm l).length_eq]
theorem ex_sort : sortL [[98], [97]] = [[97], [98]] := sortL_of ex_err (by decide +kernel)
theorem new_TP {l : List (List UInt8)} (h0 : newE l = 0) {b c : Nat} {σ : Store} (hbc : ¬ b = c) (h1 : σ b = some (tA (sortL l) c none)) (h2 : σ c = some (u64s (List.replicate l.length 0))) : TP σ b c (sortL l) (List.replicate l.length 0) none := by
  obtain ⟨_, h3, _⟩ := new_same l
  obtain ⟨_, hn, hl⟩ := h3 h0
  have hlen := (sortL_perm l).length_eq
  exact ⟨h1, h2, by simp [hlen], hbc, (fun q e => nomatch e), hn, by omega⟩
theorem sub_fr {σ τ υ : Store} {tv : AV} {b c : Nat} (hs : Store.sub σ τ) (hf : Fr tv b c τ υ) (hb : σ b = none) (hc : σ c = none) : Store.sub σ υ := fun k => by
  cases h : σ k with
  | none => exact .inl rfl
  | some x =>
    right
    have hk : τ k = some x := by
      rcases hs k with e | e
      · rw [h] at e; cases e
      · rw [← e]; exact h
    exact (hf k x (.inr ⟨fun e => (by rw [e, hb] at h; cases h), fun e => (by rw [e, hc] at h; cases h)⟩) hk).symm
set_option maxRecDepth 8000 in
set_option maxHeartbeats 1000000 in
theorem awake_calls (σ : Store) : ACalls Try.prog 6 [] σ fun v σ' => v = .lit (.bool true) ∧ Store.sub σ σ' := by
  have hnew := fun τ => new_calls (.list true 1 (strsA [[98], [97]])) [[98], [97]] (by simp) τ (.inl ⟨_, rfl⟩)
  rw [ex_err, ex_sort] at hnew
  have e1 : strsA [[98], [97]] = [.lit (.string ⟨#[98]⟩), .lit (.string ⟨#[97]⟩)] := rfl
  rw [e1] at hnew
  refine ACalls.of_awp follows (st := st6) (plans := pl6) (n := 28) Try.func6 rfl (by kernel_rfl) (by kernel_rfl) (by kernel_rfl) ?_
  simp
  refine callK.of (hnew _) ?_
  rintro v σ1 ⟨hs, ⟨h, _⟩ | ⟨_, b, c, hb, hc, hbc, rfl, h1, h2⟩⟩
  · exact absurd rfl h
  have hT := new_TP (l := [[98], [97]]) ex_err hbc (by rw [ex_sort]; exact h1) h2
  rw [ex_sort] at hT
  have hT : TV σ1 b c (ptrA b) [[97], [98]] [0, 0] := .inr ⟨rfl, _, hT⟩
  have ia : ixN [[97], [98]] [97] = some 0 := by decide +kernel
  have ib : ixN [[97], [98]] [98] = some 1 := by decide +kernel
  have e97 : toB [97] = ⟨#[97]⟩ := rfl
  have e98 : toB [98] = ⟨#[98]⟩ := rfl
  have hadd := tadd_calls [97] 2 hT
  rw [ia, e97] at hadd
  simp
  refine callK.of hadd ?_
  rintro v σ2 ⟨rfl, hT2, hf2⟩
  have hmost := tmost_calls [97] 1 hT2
  rw [ia, e97] at hmost
  simp
  refine callK.of hmost ?_
  rintro v σ3 ⟨rfl, hT3, hf3⟩
  have hga := tget_calls [97] hT3
  rw [ia, e97] at hga
  simp
  refine callK.of hga ?_
  rintro v σ4 ⟨rfl, hT4, hf4⟩
  have hgb := tget_calls [98] hT4
  rw [ib, e98] at hgb
  simp [updX]
  refine callK.of hgb ?_
  rintro v σ5 ⟨rfl, hT5, hf5⟩
  simp [updX]
  exact ⟨_, AV.le_refl _, σ5, Store.sub_refl _, rfl, sub_fr hs (((hf2.trans hf3).trans hf4).trans hf5) hb hc⟩
@[simp] def st14x : List Nat := [5000002]
def OffT (tv : AV) (b c : Nat) (k : Int) : Prop := tv = .lit (.pointer none) ∨ (¬ k = b ∧ ¬ k = c)
theorem TV.fr {σ σ' : Store} {b c b2 c2 : Nat} {tv tw : AV} {ms : List (List UInt8)} {ys : List Nat} (h : TV σ b2 c2 tw ms ys) (ho : tw = .lit (.pointer none) ∨ (OffT tv b c b2 ∧ OffT tv b c c2)) (hf : Fr tv b c σ σ') : TV σ' b2 c2 tw ms ys := by
  rcases h with h | ⟨h1, m, h⟩
  · exact .inl h
  · rcases ho with ho | ⟨o1, o2⟩
    · rw [ho] at h1; cases h1
    · exact .inr ⟨h1, m, hf _ _ o1 h.obj, hf _ _ o2 h.row, h.len, h.ne, fun q e => hf _ _ (.inr ⟨by simp, by simp⟩) (h.map q e), h.nd, h.le⟩
def fitsN (ns ms : List Str) : Bool := ms.all fun n => (ixN ns n).isSome
def addAll (ns : List Str) (xs : List Nat) (l : List Ct) : List Nat := l.foldl (fun xs c => updX xs (ixN ns c.1) fun x => (x + c.2) % 18446744073709551616) xs
theorem addAll_snoc (ns : List Str) (xs : List Nat) (l : List Ct) (c : Ct) : addAll ns xs (l ++ [c]) = updX (addAll ns xs l) (ixN ns c.1) fun x => (x + c.2) % 18446744073709551616 := by simp [addAll, List.foldl_append]
def FrT (tv tw : AV) (b c b2 c2 : Nat) (σ σ' : Store) : Prop := ∀ (k : Int) x, OffT tv b c k → OffT tw b2 c2 k → σ k = some x → σ' k = some x
theorem FrT.l {tv tw : AV} {b c b2 c2 : Nat} {σ τ υ : Store} (h : FrT tv tw b c b2 c2 σ τ) (k : Fr tv b c τ υ) : FrT tv tw b c b2 c2 σ υ := fun i x h1 h2 h3 => k i x h1 (h i x h1 h2 h3)
theorem FrT.r {tv tw : AV} {b c b2 c2 : Nat} {σ τ υ : Store} (h : FrT tv tw b c b2 c2 σ τ) (k : Fr tw b2 c2 τ υ) : FrT tv tw b c b2 c2 σ υ := fun i x h1 h2 h3 => k i x h2 (h i x h1 h2 h3)
set_option maxRecDepth 8000 in
set_option maxHeartbeats 1000000 in
theorem tsum_calls {σ : Store} {b c b2 c2 : Nat} {a a2 : Option Addr} {ns ms : List (List UInt8)} {xs ys : List Nat} (h : TV σ b c (.lit (.pointer a)) ns xs) (h2 : TV σ b2 c2 (.lit (.pointer a2)) ms ys)
    (ho : AV.lit (.pointer a2) = .lit (.pointer none) ∨ (OffT (.lit (.pointer a)) b c b2 ∧ OffT (.lit (.pointer a)) b c c2)) (ho2 : AV.lit (.pointer a) = .lit (.pointer none) ∨ (OffT (.lit (.pointer a2)) b2 c2 b ∧ OffT (.lit (.pointer a2)) b2 c2 c)) :
    ACalls Try.prog 14 [.lit (.pointer a), .lit (.pointer a2)] σ fun v σ' => v = .lit (.bool (a.isSome && fitsN ns ms)) ∧ TV σ' b c (.lit (.pointer a)) ns (if fitsN ns ms = true then addAll ns xs (ms.zip ys) else xs) ∧
      TV σ' b2 c2 (.lit (.pointer a2)) ms ys ∧ FrT (.lit (.pointer a)) (.lit (.pointer a2)) b c b2 c2 σ σ' := by
  obtain ⟨hl, hn, hxl⟩ := h.ns
  obtain ⟨hl2, hn2, hyl⟩ := h2.ns
  refine ACalls.of_awpY follows (st := st14x) (plans := pl14) (n := 31) Try.func14 rfl (by kernel_rfl) (by kernel_rfl) (by kernel_rfl) ?_
  simp
  refine callK.of (names_calls h2) ?_
  rintro v σ1 ⟨rfl, h21, hf1⟩
  have h11 := h.fr ho2 hf1
  have hF1 : FrT (.lit (.pointer a)) (.lit (.pointer a2)) b c b2 c2 σ σ1 := fun k x _ h2 h3 => hf1 k x h2 h3
  simp
  refine codeYK.loop follows (st := st14x) (plans := pl14) (S := Nat × Store) (fun x => x.1 ≤ ms.length ∧ TV x.2 b c (.lit (.pointer a)) ns xs ∧ TV x.2 b2 c2 (.lit (.pointer a2)) ms ys ∧ FrT (.lit (.pointer a)) (.lit (.pointer a2)) b c b2 c2 σ x.2 ∧ fitsN ns (ms.take x.1) = true)
    (fun x => [(1, .lit (.pointer a2)), (2, .fptr [.lit (.pointer a)]), (10, .list true 1 (strsA ms)), (11, .lit (.int .i64 ms.length)), (12, .lit (.int .i64 x.1))]) (fun x => x.2)
    (fun x E => True) (fun x => ms.length - x.1) (0, σ1) (by kernel_rfl) ⟨Nat.zero_le _, h11, h21, hF1, rfl⟩ (by simp) (Store.sub_refl _) trivial ?_
  rintro ⟨k, τ⟩ E ⟨hk, hT, hT2, hF, hft⟩ _
  dsimp only at hk hT hT2 hF hft ⊢
  by_cases hlt : k < ms.length
  · obtain ⟨x, hx⟩ : ∃ x, ms.getD k [] = x := ⟨_, rfl⟩
    have hx2 : ms[k] = x := by rw [← hx]; simp [List.getD_eq_getElem?_getD, hlt]
    have hg1 : (strsA ms)[k]? = some (.lit (.string (toB x))) := by simp [strsA, strV, hlt, hx2]
    have hg2 : ∀ h : k < (strsA ms).length, (strsA ms)[k]'h = .lit (.string (toB x)) := fun h => by simp [strsA, strV, hx2]
    have htk : ms.take (k + 1) = ms.take k ++ [x] := by rw [List.take_succ_eq_append_getElem hlt, hx2]
    have hlw : IntKind.i64.wrap ((k : Int) + 1) = ((k + 1 : Nat) : Int) := wrap_i64 (by omega) (by omega)
    have hct := counter_calls x hT
    simp [hlt, hg1, hg2]
    refine callK.of hct ?_
    rintro v τ2 ⟨rfl, hT', hf'⟩
    have hT2' := hT2.fr ho hf'
    have hF' := hF.l hf'
    cases hix : ixN ns x with
    | none =>
      have hno : fitsN ns ms = false := by
        unfold fitsN
        rw [List.all_eq_false]
        exact ⟨x, by rw [← hx2]; exact List.getElem_mem _, by simp [hix]⟩
      simp [cptr, hno]
      exact ⟨_, AV.le_refl _, τ2, Store.sub_refl _, rfl, hT', hT2', hF'⟩
    | some i =>
      have hft' : fitsN ns (ms.take (k + 1)) = true := by
        rw [htk]; unfold fitsN at hft ⊢; simp [hft, hix]
      simp [cptr]
      exact ⟨k + 1, τ2, ⟨by omega, hT', hT2', hF', hft'⟩, by omega, by rw [hlw]; exact AV.le_refl _, Store.sub_refl _⟩
  · obtain rfl : k = ms.length := by omega
    rw [List.take_length] at hft
    simp [hft]
    refine callK.of (mkAll_calls a2 _) ?_
    rintro v τ2 ⟨p, hp, rfl, rfl⟩
    have hs1 := Store.sub_upd (cs := [AV.lit (.pointer a2)]) hp (Store.sub_refl τ)
    have ep : (τ.upd p [.lit (.pointer a2)]) p = some [.lit (.pointer a2)] := by simp
    simp
    generalize hτ3 : τ.upd p [.lit (.pointer a2)] = τ3 at *
    clear hτ3
    refine codeYK.rangeL follows (st := st14x) (plans := pl14) (all_iter p b2 c2 a2 ms ys τ3) (by simp) (by simp) (fun k h => rfl) (by kernel_rfl) (by kernel_rfl) (by kernel_rfl)
      (fun k g ρ E => TV ρ b c (.lit (.pointer a)) ns (addAll ns xs ((ms.zip ys).take k)) ∧ TV ρ b2 c2 (.lit (.pointer a2)) ms ys ∧ FrT (.lit (.pointer a)) (.lit (.pointer a2)) b c b2 c2 σ ρ ∧ ρ p = some [.lit (.pointer a2)])
      (fun k g ρ E => TV ρ b c (.lit (.pointer a)) ns (addAll ns xs ((ms.zip ys).take k)) ∧ TV ρ b2 c2 (.lit (.pointer a2)) ms ys ∧ FrT (.lit (.pointer a)) (.lit (.pointer a2)) b c b2 c2 σ ρ ∧ ρ p = some [.lit (.pointer a2)])
      (fun cd ρ E => False) () τ3 ⟨hT.more hs1, hT2.more hs1, hF.l (Fr.of hs1), ep⟩ (Store.sub_refl _) ?_ ?_ ?_ ?_ ?_
    · rintro k g ρ E hk ⟨q1, q2, q3, q4⟩
      exact ⟨q4, q2⟩
    · rintro k g ρ ρ' E hk ⟨q1, q2, q3, q4⟩ ⟨r1, r2⟩
      exact ⟨q1.fr ho2 r2, r1, q3.r r2, r2 _ _ (q2.off q4 (by simp)) q4⟩
    · rintro k g hk ρ E ⟨q1, q2, q3, q4⟩
      have hz := zip_get hyl hk
      have hadd := tadd_calls (ms.getD k []) (ys.getD k 0) q1
      have e1 : updX (addAll ns xs ((ms.zip ys).take k)) (ixN ns (ms.getD k [])) (fun x => (x + ys.getD k 0) % 18446744073709551616) = addAll ns xs ((ms.zip ys).take (k + 1)) := by
        rw [hz, addAll_snoc]
      rw [e1] at hadd
      have op := q1.off q4 (by simp)
      simp only [argC, strV]
      generalize List.getD ms k [] = x at *
      generalize List.getD ys k 0 = z at *
      simp
      refine callK.of hadd ?_
      rintro v ρ2 ⟨rfl, r1, r2⟩
      simp
      exact ⟨ρ2, Store.sub_refl _, r1, q2.fr ho r2, q3.l r2, r2 _ _ op q4⟩
    · rintro g ρ E σ' hs ⟨q1, q2, q3, q4⟩
      have e : (ms.zip ys).take ms.length = ms.zip ys := List.take_of_length_le (by simp; omega)
      rw [e] at q1
      have hm := q1.more hs
      cases a with
      | none =>
        simp
        exact ⟨_, AV.le_refl _, σ', Store.sub_refl _, rfl, hm, q2.more hs, q3.l (Fr.of hs)⟩
      | some a =>
        simp
        exact ⟨_, AV.le_refl _, σ', Store.sub_refl _, rfl, hm, q2.more hs, q3.l (Fr.of hs)⟩
    · rintro cd ρ E σ' hs h
      exact h.elim
end Go.Proofs.Ytgelodhkbpmlfaa
/-
  TallyPlays: the law.
-/
namespace Go.Proofs.Ytgelodhkbpmlfaa
open Go Go.AL

structure Opn where
  d : UInt8
  name : List UInt8
  n : Nat
def opnA (o : Opn) : AV := .agg [.lit (.int .u8 o.d.toNat), .lit (.string (toB o.name)), .lit (.int .u64 o.n)]
def opnsA (l : List Opn) : List AV := l.map opnA
@[simp] theorem opnsA_length (l : List Opn) : (opnsA l).length = l.length := by simp [opnsA]
theorem fewN_len (l : List (List UInt8)) : (fewN l).length ≤ 70 := by simp [fewN]; omega
theorem LW.take {τ : Store} {d : Nat} {V : AV} {l : List Ct} (h : LW τ d V l) (k : Nat) : ∃ V', aSlice Try.prog 30 V none (some (.lit (.int .i64 ((min l.length k : Nat) : Int)))) none = some V' ∧ LW τ d V' (l.take k) := by
  rcases h with ⟨rfl, rfl⟩ | ⟨cap, rfl, h1, h2⟩
  · exact ⟨.list false 2 [], by simp, .inl ⟨by simp, rfl⟩⟩
  · refine ⟨sliA d (l.take k).length cap, ?_, .inr ⟨cap, rfl, fun hn => ?_, by simp; omega⟩⟩
    · rw [List.length_take, Nat.min_comm]
      have : min k l.length ≤ cap := by omega
      simp [this]
      exact fun _ => rfl
    · obtain ⟨rest, h3⟩ := h1 (fun e => hn (by rw [e]; simp))
      refine ⟨cA (l.drop k) ++ rest, ?_⟩
      rw [h3, ← List.append_assoc, ← cA_append, List.take_append_drop]
theorem LW.len {τ : Store} {d : Nat} {V : AV} {l : List Ct} (h : LW τ d V l) : aLen Try.prog 30 V = some (.lit (.int .i64 ((l.length : Nat) : Int))) := by
  rcases h with ⟨rfl, rfl⟩ | ⟨cap, rfl, h1, h2⟩ <;> simp
theorem LW.facts {τ : Store} {d : Nat} {V : AV} {l : List Ct} (h : LW τ d V l) : V.share = V ∧ conv Try.prog 30 V = V := by
  rcases h with ⟨rfl, rfl⟩ | ⟨cap, rfl, h1, h2⟩
  · exact ⟨rfl, rfl⟩
  · exact ⟨rfl, rfl⟩
/-- What New comes to. -/
structure NewT (σ σ' : Store) (l : List Str) (a : Option Addr) (b c : Nat) (ns : List Str) (xs : List Nat) : Prop where
  t : TV σ' b c (.lit (.pointer a)) ns xs
  nil : a.isNone = true ↔ ¬ newE l = 0
  z : (newR l).1 = ns.zip xs
  sub : Store.sub σ σ'
  off : ∀ (k : Nat) C, σ k = some C → OffT (.lit (.pointer a)) b c k
theorem newT {σ σ' : Store} {l : List Str} {v : AV} (h : Store.sub σ σ' ∧ ((¬ newE l = 0 ∧ v = .tuple [.lit (.pointer none), .lit (.int .i64 (newE l))]) ∨
      (newE l = 0 ∧ ∃ b c : Nat, σ b = none ∧ σ c = none ∧ ¬ b = c ∧ v = .tuple [ptrA b, .lit (.int .i64 0)] ∧ σ' b = some (tA (sortL l) c none) ∧ σ' c = some (u64s (List.replicate l.length 0))))) :
    ∃ a b c ns xs, v = .tuple [.lit (.pointer a), .lit (.int .i64 (newE l))] ∧ NewT σ σ' l a b c ns xs := by
  obtain ⟨n1, n2, n3⟩ := new_same l
  obtain ⟨hs, ⟨he, rfl⟩ | ⟨he, b, c, hb, hc, hbc, rfl, h1, h2⟩⟩ := h
  · exact ⟨none, 0, 0, [], [], rfl, .inl ⟨rfl, rfl, rfl⟩, by simp [he], n3 he, hs, fun _ _ _ => .inl rfl⟩
  · refine ⟨_, b, c, sortL l, List.replicate l.length 0, by rw [he], .inr ⟨rfl, none, new_TP he hbc h1 h2⟩, by simp [he], (n2 he).1, hs, fun k C hk => .inr ⟨fun e => ?_, fun e => ?_⟩⟩
    · have : k = b := by omega
      rw [this, hb] at hk; cases hk
    · have : k = c := by omega
      rw [this, hc] at hk; cases hk
/-- What the document's New comes to: the value as it is, as it is handed on. -/
theorem newV {σ τ : Store} {V : AV} {l : List Ct} (h : LV σ V l τ) : ∃ W d, LW τ d W l ∧ V.drop1 = W ∧ W.keep1 = W ∧ W.share = W ∧ conv Try.prog 30 W = W ∧ (∀ k : Nat, ∀ C, σ k = some C → l = [] ∨ ¬ k = d) := by
  rcases h with ⟨rfl, rfl⟩ | ⟨p, cap, rest, rfl, h1, h2, h3, h4, h5⟩
  · exact ⟨.list false 2 [], 0, .inl ⟨rfl, rfl⟩, rfl, rfl, rfl, rfl, fun _ _ _ => .inl rfl⟩
  · exact ⟨_, p, .inr ⟨cap, rfl, fun _ => ⟨rest, h2⟩, h4⟩, rfl, rfl, rfl, rfl, fun k C hk => .inr fun e => by rw [e, h1] at hk; cases hk⟩
theorem LW.updO {τ : Store} {d p : Nat} {V : AV} {l : List Ct} (h : LW τ d V l) (hp : l = [] ∨ ¬ p = d) (C : List AV) : LW (τ.upd p C) d V l := by
  rcases h with h | ⟨cap, h1, h2, h3⟩
  · exact .inl h
  · refine .inr ⟨cap, h1, fun hn => ?_, h3⟩
    obtain ⟨rest, h4⟩ := h2 hn
    rcases hp with hp | hp
    · exact absurd hp hn
    · exact ⟨rest, by rw [upd_nat, if_neg (fun e => hp e.symm)]; exact h4⟩
theorem LW.more {τ υ : Store} {d : Nat} {V : AV} {l : List Ct} (h : LW τ d V l) (hs : Store.sub τ υ) : LW υ d V l := by
  rcases h with h | ⟨cap, h1, h2, h3⟩
  · exact .inl h
  · refine .inr ⟨cap, h1, fun hn => ?_, h3⟩
    obtain ⟨rest, h4⟩ := h2 hn
    exact ⟨rest, sub_at h4 hs⟩
end Go.Proofs.Ytgelodhkbpmlfaa
