/-
  The plain law: the document's list of counters is the sorted one; both find the same fault with names.
-/
import Derived.Test.YtgelodhkbpmlfaaPPart13
set_option linter.unusedSimpArgs false
set_option linter.unusedVariables false
namespace Go.Proofs.Ytgelodhkbpmlfaa
open Go Go.AL

abbrev Str := List UInt8
theorem slt_irrefl (a : Str) : ¬ a < a := List.lt_irrefl a
theorem slt_trans {a b c : Str} (h : a < b) (k : b < c) : a < c := List.lt_trans h k
theorem sle_antisymm {a b : Str} (h : a ≤ b) (k : b ≤ a) : a = b := List.le_antisymm h k
theorem sle_total (a b : Str) : a ≤ b ∨ b ≤ a := List.le_total a b
theorem sle_trans {a b c : Str} (h : a ≤ b) (k : b ≤ c) : a ≤ c := List.le_trans h k
theorem slt_of {a b : Str} (h : a ≤ b) (k : a ≠ b) : a < b := by
  by_cases h1 : a < b
  · exact h1
  · exact absurd (sle_antisymm h (List.not_lt.1 h1)) k
theorem sle_of {a b : Str} (h : a < b) : a ≤ b := List.le_of_lt h
theorem sortL_sorted (l : List Str) : (sortL l).Pairwise (· ≤ ·) := by
  have := List.pairwise_mergeSort (le := fun x y : Str => decide (x ≤ y)) (fun a b c h k => by simpa using sle_trans (by simpa using h) (by simpa using k)) (fun a b => by simpa using sle_total a b) l
  exact this.imp fun h => by simpa using h
theorem sortL_perm (l : List Str) : (sortL l).Perm l := List.mergeSort_perm l _
/-- Strictly rising. -/
def Asc (l : List Ct) : Prop := (l.map (·.1)).Pairwise (· < ·)
theorem posN_spec (n : Str) : ∀ l : List Ct, Asc l → (∀ c ∈ l.take (posN n l), c.1 < n) ∧ (∀ c ∈ l.drop (posN n l), n ≤ c.1)
  | [], _ => by simp [posN]
  | c :: l, h => by
    have h' : Asc l := (List.pairwise_cons.1 h).2
    have hc := (List.pairwise_cons.1 h).1
    unfold posN
    split
    · rename_i hlt
      obtain ⟨h1, h2⟩ := posN_spec n l h'
      refine ⟨fun d hd => ?_, by simpa using h2⟩
      simp only [List.take_succ_cons, List.mem_cons] at hd
      rcases hd with rfl | hd
      · exact hlt
      · exact h1 d hd
    · rename_i hlt
      refine ⟨by simp, fun d hd => ?_⟩
      have hnc : n ≤ c.1 := List.not_lt.1 hlt
      simp only [List.drop_zero, List.mem_cons] at hd
      rcases hd with rfl | hd
      · exact hnc
      · exact sle_trans hnc (sle_of (hc d.1 (List.mem_map_of_mem hd)))
theorem insN_spec (n : Str) (l : List Ct) (h : Asc l) (hz : ∀ c ∈ l, c.2 = 0) :
    (n ∈ l.map (·.1) → insN n l = none) ∧ (¬ n ∈ l.map (·.1) → ∃ r, insN n l = some r ∧ Asc r ∧ (∀ c ∈ r, c.2 = 0) ∧ (r.map (·.1)).Perm (n :: l.map (·.1))) := by
  obtain ⟨h1, h2⟩ := posN_spec n l h
  have hsp := List.take_append_drop (posN n l) l
  generalize hA : l.take (posN n l) = A at *
  generalize hB : l.drop (posN n l) = B at *
  have hAB : Asc (A ++ B) := by rw [hsp]; exact h
  have hpw := hAB
  unfold Asc at hpw
  rw [List.map_append, List.pairwise_append] at hpw
  obtain ⟨p1, p2, p3⟩ := hpw
  constructor
  · intro hm
    unfold insN
    rw [hA, hB]
    rw [← hsp, List.map_append, List.mem_append] at hm
    rcases hm with hm | hm
    · obtain ⟨c, hc, e⟩ := List.mem_map.1 hm
      have e : c.1 = n := e
      have h3 := h1 c hc
      rw [e] at h3
      exact absurd h3 (slt_irrefl _)
    · cases B with
      | nil => simp at hm
      | cons c B =>
        rw [if_pos]
        simp only [List.head?_cons, Option.map_some, Option.some.injEq]
        rcases List.mem_cons.1 hm with e | e
        · exact e.symm
        · have hlt := (List.pairwise_cons.1 p2).1 n e
          have h3 : c.1 = n := (sle_antisymm (h2 c (by simp)) (sle_of hlt)).symm
          have hlt : c.1 < n := hlt
          rw [h3] at hlt
          exact absurd hlt (slt_irrefl _)
  · intro hm
    have hne : ∀ c ∈ B, n < c.1 := fun c hc => slt_of (h2 c hc) fun e => hm (by rw [e, ← hsp]; exact List.mem_map_of_mem (List.mem_append_right _ hc))
    refine ⟨A ++ (n, 0) :: B, ?_, ?_, ?_, ?_⟩
    · unfold insN
      rw [hA, hB, if_neg]
      cases B with
      | nil => simp
      | cons c B =>
        simp only [List.head?_cons, Option.map_some, Option.some.injEq]
        intro e
        have := hne c (by simp)
        rw [e] at this
        exact slt_irrefl _ this
    · unfold Asc
      rw [List.map_append, List.map_cons, List.pairwise_append]
      refine ⟨p1, List.pairwise_cons.2 ⟨fun b hb => ?_, p2⟩, fun a ha b hb => ?_⟩
      · obtain ⟨c, hc, rfl⟩ := List.mem_map.1 hb
        exact hne c hc
      · obtain ⟨c, hc, rfl⟩ := List.mem_map.1 ha
        rcases List.mem_cons.1 hb with rfl | hb
        · exact h1 c hc
        · exact p3 _ ha _ hb
    · intro c hc
      rw [← hsp] at hz
      rcases List.mem_append.1 hc with hc | hc
      · exact hz c (List.mem_append_left _ hc)
      · rcases List.mem_cons.1 hc with rfl | hc
        · rfl
        · exact hz c (List.mem_append_right _ hc)
    · rw [← hsp]
      simp only [List.map_append, List.map_cons]
      exact List.perm_middle
theorem insAll_spec : ∀ (l : List Str) (acc : List Ct), Asc acc → (∀ c ∈ acc, c.2 = 0) → (l.Nodup ∧ (∀ n ∈ l, ¬ n ∈ acc.map (·.1)) → ∃ r, insAll l acc = some r ∧ Asc r ∧ (∀ c ∈ r, c.2 = 0) ∧ (r.map (·.1)).Perm (l ++ acc.map (·.1))) ∧
    (¬ (l.Nodup ∧ (∀ n ∈ l, ¬ n ∈ acc.map (·.1))) → insAll l acc = none)
  | [], acc, h, hz => ⟨fun _ => ⟨acc, rfl, h, hz, by simp⟩, fun hn => absurd ⟨List.nodup_nil, by simp⟩ hn⟩
  | n :: l, acc, h, hz => by
    obtain ⟨i1, i2⟩ := insN_spec n acc h hz
    by_cases hm : n ∈ acc.map (·.1)
    · refine ⟨fun hh => absurd hm (hh.2 n (by simp)), fun _ => ?_⟩
      unfold insAll
      rw [i1 hm]; rfl
    · obtain ⟨r, e, hr, hrz, hp⟩ := i2 hm
      obtain ⟨j1, j2⟩ := insAll_spec l r hr hrz
      have hiff : ((n :: l).Nodup ∧ ∀ m ∈ n :: l, ¬ m ∈ acc.map (·.1)) ↔ (l.Nodup ∧ ∀ m ∈ l, ¬ m ∈ r.map (·.1)) := by
        simp only [hp.mem_iff, List.nodup_cons, List.mem_cons, not_or]
        constructor
        · rintro ⟨⟨a, b⟩, c⟩
          exact ⟨b, fun m hm2 => ⟨fun e => a (e ▸ hm2), c m (.inr hm2)⟩⟩
        · rintro ⟨a, b⟩
          refine ⟨⟨fun hn => (b n hn).1 rfl, a⟩, ?_⟩
          rintro m (rfl | hm2)
          · exact hm
          · exact (b m hm2).2
      have ei : insAll (n :: l) acc = insAll l r := by
        show (insN n acc).bind _ = _
        rw [e]; rfl
      rw [hiff, ei]
      refine ⟨fun hh => ?_, j2⟩
      obtain ⟨r', q1, q2, q3, q4⟩ := j1 hh
      refine ⟨r', q1, q2, q3, q4.trans ?_⟩
      refine (List.Perm.append_left l hp).trans ?_
      exact List.perm_middle
theorem sorted_strict (l : List Str) (h : l.Nodup) : (sortL l).Pairwise (· < ·) := by
  have h1 := sortL_sorted l
  have h2 : (sortL l).Nodup := (sortL_perm l).nodup_iff.2 h
  exact (List.pairwise_and_iff.2 ⟨h1, h2⟩).imp fun h => slt_of h.1 h.2
theorem compact_len (l : List Str) : (Lib.compact (sortL l)).length = l.length ↔ l.Nodup := by
  have hln : (sortL l).length = l.length := (sortL_perm l).length_eq
  constructor
  · intro h
    have hk : ∀ j, j < (sortL l).length → Lib.keeps (sortL l).toArray j = true := by
      unfold Lib.compact Lib.compactUpTo at h
      rw [List.length_map, ← hln] at h
      have h2 : ((List.range (sortL l).length).filter (Lib.keeps (sortL l).toArray)).length = (List.range (sortL l).length).length := by simpa using h
      have := List.length_filter_eq_length_iff.1 h2
      exact fun j hj => this j (by simpa using hj)
    rw [← (sortL_perm l).nodup_iff]
    have hs := sortL_sorted l
    have hadj : ∀ j (hj : j + 1 < (sortL l).length), (sortL l)[j] < (sortL l)[j + 1] := fun j hj => by
      refine slt_of (List.pairwise_iff_getElem.1 hs j (j + 1) (by omega) hj (by omega)) ?_
      have := hk (j + 1) hj
      unfold Lib.keeps at this
      simp only [decide_eq_true_eq] at this
      rcases this with h | h
      · omega
      · intro e
        apply h
        rw [getElem!_pos _ _ (by simpa using hj), getElem!_pos _ _ (by simp; omega)]
        simpa using e.symm
    have hlt : ∀ d i (hj : i + d + 1 < (sortL l).length), (sortL l)[i] < (sortL l)[i + d + 1] := by
      intro d
      induction d with
      | zero => exact fun i hj => hadj i hj
      | succ d ih => exact fun i hj => slt_trans (ih i (by omega)) (hadj (i + d + 1) (by omega))
    rw [List.Nodup, List.pairwise_iff_getElem]
    intro i j hi hj hij e
    have := hlt (j - i - 1) i (by omega)
    simp only [show i + (j - i - 1) + 1 = j by omega] at this
    rw [e] at this
    exact slt_irrefl _ this
  · intro h
    have hs := sorted_strict l h
    rw [Lib.compact_all, hln]
    intro j hj
    unfold Lib.keeps
    simp only [decide_eq_true_eq]
    by_cases h0 : j = 0
    · exact .inl h0
    · right
      rw [getElem!_pos _ _ (by simpa using hj), getElem!_pos _ _ (by simp; omega)]
      intro e
      have := List.pairwise_iff_getElem.1 hs (j - 1) j (by omega) hj (by omega)
      simp at e
      rw [e] at this
      exact slt_irrefl _ this
/-- The two ways of making counters agree. -/
theorem new_same (l : List Str) : (newR l).2 = newE l ∧ (newE l = 0 → (newR l).1 = (sortL l).zip (List.replicate l.length 0) ∧ (sortL l).Nodup ∧ l.length ≤ 64) ∧ (¬ newE l = 0 → (newR l).1 = []) := by
  unfold newR newE
  by_cases h1 : 64 < l.length
  · simp [h1]
  by_cases h2 : badN l = true
  · simp [h1, h2]
  have hA : Asc [] := by simp [Asc]
  obtain ⟨j1, j2⟩ := insAll_spec l [] hA (by simp)
  have hc := compact_len l
  by_cases hn : l.Nodup
  · obtain ⟨r, e, hr, hz, hp⟩ := j1 ⟨hn, by simp⟩
    have hp : (r.map (·.1)).Perm l := by simpa using hp
    have hsort : r.map (·.1) = sortL l := (hp.trans (sortL_perm l).symm).eq_of_pairwise (le := (· < ·)) (fun a b _ _ h k => absurd (slt_trans h k) (slt_irrefl _)) hr (sorted_strict l hn)
    have hr2 : r = (sortL l).zip (List.replicate l.length 0) := by
      rw [← hsort]
      have hlen : r.length = l.length := by rw [← hp.length_eq]; simp
      apply List.ext_getElem
      · simp [hlen]
      · intro i h3 h4
        have := hz r[i] (List.getElem_mem _)
        simp only [List.getElem_zip, List.getElem_map, List.getElem_replicate]
        exact Prod.ext rfl this
    have hc2 := hc.2 hn
    simp [h1, h2, e, hc2, hr2, (sortL_perm l).nodup_iff.2 hn]
    omega
  · have e := j2 (fun h => hn h.1)
    have hc2 : ¬ (Lib.compact (sortL l)).length = l.length := fun h => hn (hc.1 h)
    simp [h1, h2, e, hc2]
end Go.Proofs.Ytgelodhkbpmlfaa
/-
  The document's example; TallyNil.
-/
namespace Go.Proofs.Ytgelodhkbpmlfaa
open Go Go.AL

theorem ex_err : newE [[98], [97]] = 0 := by rw [← (new_same _).1]; decide +kernel
theorem sortL_of {l m : List Str} (h0 : newE l = 0) (h : (newR l).1.map (·.1) = m) : sortL l = m := by
  obtain ⟨_, h3, _⟩ := new_same l
  obtain ⟨h4, _⟩ := h3 h0
  rw [← h, h4, List.map_fst_zip]
  simp [(sortL_perm l).length_eq]
theorem ex_sort : sortL [[98], [97]] = [[97], [98]] := sortL_of ex_err (by decide +kernel)
theorem new_TP {l : List (List UInt8)} (h0 : newE l = 0) {b c : Nat} {σ : Store} (hbc : ¬ b = c) (h1 : σ b = some (tA (sortL l) c none)) (h2 : σ c = some (u64s (List.replicate l.length 0))) : TP σ b c (sortL l) (List.replicate l.length 0) none := by
  obtain ⟨_, h3, _⟩ := new_same l
  obtain ⟨_, hn, hl⟩ := h3 h0
  have hlen := (sortL_perm l).length_eq
  exact ⟨h1, h2, by simp [hlen], hbc, (fun q e => nomatch e), hn, by omega⟩
theorem sub_fr {σ τ υ : Store} {tv : AV} {b c : Nat} (hs : Store.sub σ τ) (hf : Fr tv b c τ υ) (hb : σ b = none) (hc : σ c = none) : Store.sub σ υ := fun k => by
  cases h : σ k with
  | none => exact .inl rfl
  | some x =>
    right
    have hk : τ k = some x := by
      rcases hs k with e | e
      · rw [h] at e; cases e
      · rw [← e]; exact h
    exact (hf k x (.inr ⟨fun e => (by rw [e, hb] at h; cases h), fun e => (by rw [e, hc] at h; cases h)⟩) hk).symm
set_option maxRecDepth 8000 in
set_option maxHeartbeats 1000000 in
theorem awake_calls (σ : Store) : ACalls Try.prog 6 [] σ fun v σ' => v = .lit (.bool true) ∧ Store.sub σ σ' := by
  have hnew := fun τ => new_calls (.list true 1 (strsA [[98], [97]])) [[98], [97]] (by simp) τ (.inl ⟨_, rfl⟩)
  rw [ex_err, ex_sort] at hnew
  have e1 : strsA [[98], [97]] = [.lit (.string ⟨#[98]⟩), .lit (.string ⟨#[97]⟩)] := rfl
  rw [e1] at hnew
  refine ACalls.of_awp follows (st := st6) (plans := pl6) (n := 28) Try.func6 rfl (by kernel_rfl) (by kernel_rfl) (by kernel_rfl) ?_
  simp
  refine callK.of (hnew _) ?_
  rintro v σ1 ⟨hs, ⟨h, _⟩ | ⟨_, b, c, hb, hc, hbc, rfl, h1, h2⟩⟩
  · exact absurd rfl h
  have hT := new_TP (l := [[98], [97]]) ex_err hbc (by rw [ex_sort]; exact h1) h2
  rw [ex_sort] at hT
  have hT : TV σ1 b c (ptrA b) [[97], [98]] [0, 0] := .inr ⟨rfl, _, hT⟩
  have ia : ixN [[97], [98]] [97] = some 0 := by decide +kernel
  have ib : ixN [[97], [98]] [98] = some 1 := by decide +kernel
  have e97 : toB [97] = ⟨#[97]⟩ := rfl
  have e98 : toB [98] = ⟨#[98]⟩ := rfl
  have hadd := tadd_calls [97] 2 hT
  rw [ia, e97] at hadd
  simp
  refine callK.of hadd ?_
  rintro v σ2 ⟨rfl, hT2, hf2⟩
  have hmost := tmost_calls [97] 1 hT2
  rw [ia, e97] at hmost
  simp
  refine callK.of hmost ?_
  rintro v σ3 ⟨rfl, hT3, hf3⟩
  have hga := tget_calls [97] hT3
  rw [ia, e97] at hga
  simp
  refine callK.of hga ?_
  rintro v σ4 ⟨rfl, hT4, hf4⟩
  have hgb := tget_calls [98] hT4
  rw [ib, e98] at hgb
  simp [updX]
  refine callK.of hgb ?_
  rintro v σ5 ⟨rfl, hT5, hf5⟩
  simp [updX]
  exact ⟨_, AV.le_refl _, σ5, Store.sub_refl _, rfl, sub_fr hs (((hf2.trans hf3).trans hf4).trans hf5) hb hc⟩
@[simp] def st14x : List Nat := [5000002]
def OffT (tv : AV) (b c : Nat) (k : Int) : Prop := tv = .lit (.pointer none) ∨ (¬ k = b ∧ ¬ k = c)
theorem TV.fr {σ σ' : Store} {b c b2 c2 : Nat} {tv tw : AV} {ms : List (List UInt8)} {ys : List Nat} (h : TV σ b2 c2 tw ms ys) (ho : tw = .lit (.pointer none) ∨ (OffT tv b c b2 ∧ OffT tv b c c2)) (hf : Fr tv b c σ σ') : TV σ' b2 c2 tw ms ys := by
  rcases h with h | ⟨h1, m, h⟩
  · exact .inl h
  · rcases ho with ho | ⟨o1, o2⟩
    · rw [ho] at h1; cases h1
    · exact .inr ⟨h1, m, hf _ _ o1 h.obj, hf _ _ o2 h.row, h.len, h.ne, fun q e => hf _ _ (.inr ⟨by simp, by simp⟩) (h.map q e), h.nd, h.le⟩
def fitsN (ns ms : List Str) : Bool := ms.all fun n => (ixN ns n).isSome
def addAll (ns : List Str) (xs : List Nat) (l : List Ct) : List Nat := l.foldl (fun xs c => updX xs (ixN ns c.1) fun x => (x + c.2) % 18446744073709551616) xs
def FrT (tv tw : AV) (b c b2 c2 : Nat) (σ σ' : Store) : Prop := ∀ (k : Int) x, OffT tv b c k → OffT tw b2 c2 k → σ k = some x → σ' k = some x
theorem FrT.l {tv tw : AV} {b c b2 c2 : Nat} {σ τ υ : Store} (h : FrT tv tw b c b2 c2 σ τ) (k : Fr tv b c τ υ) : FrT tv tw b c b2 c2 σ υ := fun i x h1 h2 h3 => k i x h1 (h i x h1 h2 h3)
theorem FrT.r {tv tw : AV} {b c b2 c2 : Nat} {σ τ υ : Store} (h : FrT tv tw b c b2 c2 σ τ) (k : Fr tw b2 c2 τ υ) : FrT tv tw b c b2 c2 σ υ := fun i x h1 h2 h3 => k i x h2 (h i x h1 h2 h3)
end Go.Proofs.Ytgelodhkbpmlfaa
/-
  TallyPlays: the law.
-/
namespace Go.Proofs.Ytgelodhkbpmlfaa
open Go Go.AL

structure Opn where
  d : UInt8
  name : List UInt8
  n : Nat
def opnA (o : Opn) : AV := .agg [.lit (.int .u8 o.d.toNat), .lit (.string (toB o.name)), .lit (.int .u64 o.n)]
def opnsA (l : List Opn) : List AV := l.map opnA
@[simp] theorem opnsA_length (l : List Opn) : (opnsA l).length = l.length := by simp [opnsA]
theorem fewN_len (l : List (List UInt8)) : (fewN l).length ≤ 70 := by simp [fewN]; omega
theorem doX_len (ns : List (List UInt8)) (xs : List Nat) (r : Nat) (s : List UInt8) (n : Nat) : (doX ns xs r s n).length = xs.length := by
  have hu : ∀ f, (updX xs (ixN ns s) f).length = xs.length := fun f => by unfold updX; split <;> simp
  unfold doX
  repeat' split
  all_goals simp [hu]
theorem LW.take {τ : Store} {d : Nat} {V : AV} {l : List Ct} (h : LW τ d V l) (k : Nat) : ∃ V', aSlice Try.prog 30 V none (some (.lit (.int .i64 ((min l.length k : Nat) : Int)))) none = some V' ∧ LW τ d V' (l.take k) := by
  rcases h with ⟨rfl, rfl⟩ | ⟨cap, rfl, h1, h2⟩
  · exact ⟨.list false 2 [], by simp, .inl ⟨by simp, rfl⟩⟩
  · refine ⟨sliA d (l.take k).length cap, ?_, .inr ⟨cap, rfl, fun hn => ?_, by simp; omega⟩⟩
    · rw [List.length_take, Nat.min_comm]
      have : min k l.length ≤ cap := by omega
      simp [this]
      exact fun _ => rfl
    · obtain ⟨rest, h3⟩ := h1 (fun e => hn (by rw [e]; simp))
      refine ⟨cA (l.drop k) ++ rest, ?_⟩
      rw [h3, ← List.append_assoc, ← cA_append, List.take_append_drop]
theorem LW.len {τ : Store} {d : Nat} {V : AV} {l : List Ct} (h : LW τ d V l) : aLen Try.prog 30 V = some (.lit (.int .i64 ((l.length : Nat) : Int))) := by
  rcases h with ⟨rfl, rfl⟩ | ⟨cap, rfl, h1, h2⟩ <;> simp
theorem LW.facts {τ : Store} {d : Nat} {V : AV} {l : List Ct} (h : LW τ d V l) : V.share = V ∧ conv Try.prog 30 V = V := by
  rcases h with ⟨rfl, rfl⟩ | ⟨cap, rfl, h1, h2⟩
  · exact ⟨rfl, rfl⟩
  · exact ⟨rfl, rfl⟩
/-- What New comes to. -/
structure NewT (σ σ' : Store) (l : List Str) (a : Option Addr) (b c : Nat) (ns : List Str) (xs : List Nat) : Prop where
  t : TV σ' b c (.lit (.pointer a)) ns xs
  nil : a.isNone = true ↔ ¬ newE l = 0
  z : (newR l).1 = ns.zip xs
  sub : Store.sub σ σ'
  off : ∀ (k : Nat) C, σ k = some C → OffT (.lit (.pointer a)) b c k
theorem newT {σ σ' : Store} {l : List Str} {v : AV} (h : Store.sub σ σ' ∧ ((¬ newE l = 0 ∧ v = .tuple [.lit (.pointer none), .lit (.int .i64 (newE l))]) ∨
      (newE l = 0 ∧ ∃ b c : Nat, σ b = none ∧ σ c = none ∧ ¬ b = c ∧ v = .tuple [ptrA b, .lit (.int .i64 0)] ∧ σ' b = some (tA (sortL l) c none) ∧ σ' c = some (u64s (List.replicate l.length 0))))) :
    ∃ a b c ns xs, v = .tuple [.lit (.pointer a), .lit (.int .i64 (newE l))] ∧ NewT σ σ' l a b c ns xs := by
  obtain ⟨n1, n2, n3⟩ := new_same l
  obtain ⟨hs, ⟨he, rfl⟩ | ⟨he, b, c, hb, hc, hbc, rfl, h1, h2⟩⟩ := h
  · exact ⟨none, 0, 0, [], [], rfl, .inl ⟨rfl, rfl, rfl⟩, by simp [he], n3 he, hs, fun _ _ _ => .inl rfl⟩
  · refine ⟨_, b, c, sortL l, List.replicate l.length 0, by rw [he], .inr ⟨rfl, none, new_TP he hbc h1 h2⟩, by simp [he], (n2 he).1, hs, fun k C hk => .inr ⟨fun e => ?_, fun e => ?_⟩⟩
    · have : k = b := by omega
      rw [this, hb] at hk; cases hk
    · have : k = c := by omega
      rw [this, hc] at hk; cases hk
/-- What the document's New comes to: the value as it is, as it is handed on. -/
theorem newV {σ τ : Store} {V : AV} {l : List Ct} (h : LV σ V l τ) : ∃ W d, LW τ d W l ∧ V.drop1 = W ∧ W.keep1 = W ∧ W.share = W ∧ conv Try.prog 30 W = W ∧ (∀ k : Nat, ∀ C, σ k = some C → l = [] ∨ ¬ k = d) := by
  rcases h with ⟨rfl, rfl⟩ | ⟨p, cap, rest, rfl, h1, h2, h3, h4, h5⟩
  · exact ⟨.list false 2 [], 0, .inl ⟨rfl, rfl⟩, rfl, rfl, rfl, rfl, fun _ _ _ => .inl rfl⟩
  · exact ⟨_, p, .inr ⟨cap, rfl, fun _ => ⟨rest, h2⟩, h4⟩, rfl, rfl, rfl, rfl, fun k C hk => .inr fun e => by rw [e, h1] at hk; cases hk⟩
theorem LW.updO {τ : Store} {d p : Nat} {V : AV} {l : List Ct} (h : LW τ d V l) (hp : l = [] ∨ ¬ p = d) (C : List AV) : LW (τ.upd p C) d V l := by
  rcases h with h | ⟨cap, h1, h2, h3⟩
  · exact .inl h
  · refine .inr ⟨cap, h1, fun hn => ?_, h3⟩
    obtain ⟨rest, h4⟩ := h2 hn
    rcases hp with hp | hp
    · exact absurd hp hn
    · exact ⟨rest, by rw [upd_nat, if_neg (fun e => hp e.symm)]; exact h4⟩
theorem LW.more {τ υ : Store} {d : Nat} {V : AV} {l : List Ct} (h : LW τ d V l) (hs : Store.sub τ υ) : LW υ d V l := by
  rcases h with h | ⟨cap, h1, h2, h3⟩
  · exact .inl h
  · refine .inr ⟨cap, h1, fun hn => ?_, h3⟩
    obtain ⟨rest, h4⟩ := h2 hn
    exact ⟨rest, sub_at h4 hs⟩
set_option maxRecDepth 8000 in
set_option maxHeartbeats 2000000 in
theorem plays_calls (names : List (List UInt8)) (hn : names.length ≤ 9223372036854775807) (script : List Opn) (hs : script.length ≤ 9223372036854775807) (stop : UInt8) (σ : Store) :
    ACalls Try.prog 3 [.list false 1 (strsA names), .list false 3 (opnsA script), .lit (.int .u8 stop.toNat)] σ fun v _ => v = .lit (.bool true) := by
  have hfew := fun o τ => few_calls names hn o τ
  have hfl := fewN_len names
  generalize fewN names = l at *
  have hrn := fun τ => rnew_calls l (by omega) false τ
  obtain ⟨n1, n2, n3⟩ := new_same l
  refine ACalls.of_awp follows (st := st3) (plans := pl3) (n := 88) Try.func3 rfl (by kernel_rfl) (by kernel_rfl) (by kernel_rfl) ?_
  simp
  refine callK.of (awake_calls _) ?_
  rintro v σ1 ⟨rfl, _⟩
  simp
  refine callK.of (hfew _ _) ?_
  rintro v σ2 ⟨rfl, rfl⟩
  simp
  intro p hp
  refine ⟨by omega, by omega, fun hl0 => ?_, fun hl0 p1 cap hp1 hc1 hc2 => ?_⟩
  case' refine_1 =>
    obtain ⟨cap, hcap⟩ : ∃ cap : Nat, 0 = cap := ⟨_, rfl⟩
    rw [show AV.lit (.slice (some ⟨p, 0, none⟩) 0 0) = sliA p l.length cap by rw [hl0, ← hcap]; rfl]
    have hmp : (σ2.upd p []) p = some (strsA l ++ []) := by rw [hl0]; simp [strsA]
    have hnw := new_calls (sliA p l.length cap) l (by omega) (σ2.upd p []) (.inr ⟨p, cap, [], rfl, hmp⟩)
    have hc1 : l.length ≤ cap := by rw [hl0]; simp
    generalize σ2.upd p [] = σ3 at *
    obtain ⟨rst, hmp⟩ : ∃ rst, σ3 p = some (strsA l ++ rst) := ⟨_, hmp⟩
    clear hcap hl0
  case' refine_2 =>
    have hmp : (((σ2.upd p []).del p).upd p1 (List.map AV.drop1 (flat (strsA l)) ++ List.replicate (cap - l.length) AV.top)) p1 = some (strsA l ++ List.replicate (cap - l.length) AV.top) := by
      rw [upd_nat, if_pos rfl, flat_strs, strsA_drop1]
    have hnw := new_calls (sliA p1 l.length cap) l (by omega) _ (.inr ⟨p1, cap, _, rfl, hmp⟩)
    generalize ((σ2.upd p []).del p).upd p1 (List.map AV.drop1 (flat (strsA l)) ++ List.replicate (cap - l.length) AV.top) = σ3 at *
    obtain ⟨rst, hmp⟩ : ∃ rst, σ3 p1 = some (strsA l ++ rst) := ⟨_, hmp⟩
    clear hp1 hl0
    clear hp
    generalize p1 = p at *
  all_goals
    refine callK.of hnw ?_
    rintro v σ4 hv
    obtain ⟨a, b, c, ns, xs, rfl, hT⟩ := newT hv
    clear hv
    have hofp := hT.off p _ hmp
    simp
    refine callK.of (hrn _) ?_
    rintro v σ5 ⟨V, rfl, hV, hs5⟩
    obtain ⟨W, d, hW, f1, f2, f3, f4, f7⟩ := newV hV
    have heq : eqNil Try.prog 26 (.lit (.pointer a)) (.lit (.pointer none)) = some a.isNone := by cases a <;> simp
    have hnb : a.isNone = !(newE l == 0) := by
      rw [Bool.eq_iff_iff, hT.nil]; simp
    have hxx : ¬ ((newE l == 0) = (newE l != 0)) := by cases e : newE l == 0 <;> simp [bne, e]
    rw [n1]
    simp [f1, f2, f3, f4, heq, hnb]
    rw [if_neg hxx]
    have hT5 := hT.t.more hs5
    have hmp5 : σ5 p = some (strsA l ++ rst) := sub_at (sub_at hmp hT.sub) hs5
    have hWz : LW σ5 d W (ns.zip xs) := by rw [← hT.z]; exact hW
    have hpd : ns.zip xs = [] ∨ ¬ p = d := by rw [← hT.z]; exact f7 p _ (sub_at hmp hT.sub)
    clear hV hW hnw hmp
    refine codeK.loop follows (st := st3) (plans := pl3) (X := Nat × Store) (fun x => x.1 ≤ l.length ∧ TV x.2 b c (.lit (.pointer a)) ns xs ∧ LW x.2 d W (ns.zip xs) ∧ ∃ CC, x.2 p = some CC ∧ l.length ≤ CC.length)
      (fun x => [(1, .list false 3 (opnsA script)), (2, .lit (.int .u8 stop.toNat)), (7, sliA p l.length cap), (8, .lit (.pointer a)), (10, W), (44, .lit (.int .i64 l.length)), (45, .lit (.int .i64 x.1))]) (fun x => x.2) (fun x => l.length - x.1) (0, σ5) (by kernel_rfl)
      ⟨Nat.zero_le _, hT5, hWz, _, hmp5, by simp⟩ (by simp [f3]) (Store.sub_refl _) ?_
    rintro ⟨k, τ⟩ ⟨hk, hTk, hWk, CC, hCC, hCl⟩
    dsimp only at hk hTk hWk hCC ⊢
    by_cases hlt : k < l.length
    · have hlw : IntKind.i64.wrap ((k : Int) + 1) = ((k + 1 : Nat) : Int) := wrap_i64 (by omega) (by omega)
      have hkc : k < CC.length := by omega
      simp [hlt, hCC, hkc]
      exact ⟨by omega, k + 1, _, ⟨by omega, hTk.updD hofp _, hWk.updO hpd _, _, by rw [upd_nat, if_pos rfl], by simpa using hCl⟩, by omega, by rw [hlw]; exact AV.le_refl _, Store.sub_refl _⟩
    · obtain rfl : k = l.length := by omega
      clear hCC hCl CC hofp hmp5 hpd hT hT5 hWz
      simp [f3]
      refine codeK.loop follows (st := st3) (plans := pl3) (X := Nat × List Nat × Store) (fun x => x.1 ≤ script.length ∧ TV x.2.2 b c (.lit (.pointer a)) ns x.2.1 ∧ LW x.2.2 d W (ns.zip x.2.1))
        (fun x => [(2, .lit (.int .u8 stop.toNat)), (8, .lit (.pointer a)), (10, W), (52, .list false 3 (opnsA script)), (53, .lit (.int .i64 script.length)), (54, .lit (.int .i64 x.1))]) (fun x => x.2.2) (fun x => script.length - x.1) (0, xs, τ) (by kernel_rfl)
        ⟨Nat.zero_le _, hTk, hWk⟩ (by simp [f3]) (Store.sub_refl _) ?_
      rintro ⟨j, ys, υ⟩ ⟨hj, hTj, hWj⟩
      dsimp only at hj hTj hWj ⊢
      have hm5 : (stop.toNat : Int).tmod 5 = ((stop.toNat % 5 : Nat) : Int) := by rw [Int.tmod_eq_emod_of_nonneg (by omega)]; omega
      have hm5' : stop.toNat % 5 < 5 := Nat.mod_lt _ (by decide)
      generalize stop.toNat % 5 = r5 at *
      obtain ⟨K, hK⟩ : ∃ K, 1 + r5 = K := ⟨_, rfl⟩
      have hKw : IntKind.i64.wrap (1 + IntKind.i64.wrap (r5 : Int)) = (K : Int) := by rw [wrap_i64 (n := (r5 : Int)) (by omega) (by omega), wrap_i64 (by omega) (by omega)]; omega
      have hlen := hWj.len
      obtain ⟨V2, hsl, hV2⟩ := hWj.take K
      have hmin : (((min (ns.zip ys).length K : Nat)) : Int) = if K < (ns.zip ys).length then (K : Int) else ((ns.zip ys).length : Nat) := by split <;> omega
      obtain ⟨hv1, hv2⟩ := hV2.facts
      have htl : ((ns.zip ys).take K).length ≤ 64 := by have := hTj.ns.1; simp; omega
      rw [hmin] at hsl
      generalize hLL : ((ns.zip ys).length : Nat) = LL at *
      by_cases hlt2 : j < script.length
      · obtain ⟨x, hx⟩ : ∃ x, script[j] = x := ⟨_, rfl⟩
        have hlw : IntKind.i64.wrap ((j : Int) + 1) = ((j + 1 : Nat) : Int) := wrap_i64 (by omega) (by omega)
        obtain ⟨xd, xn, xv⟩ := x
        have hg1 : (opnsA script)[j]? = some (.agg [.lit (.int .u8 xd.toNat), .lit (.string (toB xn)), .lit (.int .u64 xv)]) := by simp [opnsA, opnA, hlt2, hx]
        have hg2 : ∀ h : j < (opnsA script).length, (opnsA script)[j]'h = .agg [.lit (.int .u8 xd.toNat), .lit (.string (toB xn)), .lit (.int .u64 xv)] := fun h => by simp [opnsA, opnA, hx]
        by_cases h40 : 40 ≤ j
        · have h40' : (40 : Int) ≤ j := by omega
          simp [hlt2, hg1, hg2, h40, h40', f3, f4, hm5, hKw, hlen, hsl, hv1, hv2]
          intro z hz
          have hsz := Store.sub_upd (cs := [AV.lit (.int .u8 xd.toNat), .lit (.string (toB xn)), .lit (.int .u64 xv)]) hz (Store.sub_refl υ)
          refine callK.of (all_calls K (by omega) (hTj.more hsz)) ?_
          rintro v υ3 ⟨rfl, hT3, hf3⟩
          simp [hv2]
          have hV3 := (hV2.more hsz).fr ((LW.off hTj hWj).imp_left (fun e => by rw [e]; simp)) hf3
          refine callK.of (same_calls d V2 ((ns.zip ys).take K) ((ns.zip ys).take K) (by omega) htl false υ3 hV3) ?_
          rintro v υ4 ⟨rfl, rfl⟩
          simp
          exact ⟨_, Store.sub_refl _⟩
        · have h40' : ¬ (40 : Int) ≤ j := by omega
          simp [hlt2, hg1, hg2, h40, h40', f3, f4]
          intro z hz
          have hsz := Store.sub_upd (cs := [AV.lit (.int .u8 xd.toNat), .lit (.string (toB xn)), .lit (.int .u64 xv)]) hz (Store.sub_refl υ)
          have hdo := do_calls xd xn xv (hTj.more hsz) (hWj.more hsz)
          have hyl := doX_len ns ys (xd.toNat % 6) (xn.take 45) xv
          generalize doX ns ys (xd.toNat % 6) (xn.take 45) xv = zs at *
          refine callK.of hdo ?_
          rintro v υ3 ⟨rfl, hT3, hW3, _⟩
          have hzl : (ns.zip zs).length ≤ 64 := by have := hT3.ns.1; simp; omega
          simp
          refine callK.of (all_calls 1000 (by omega) hT3) ?_
          rintro v υ4 ⟨rfl, hT4, hf4⟩
          rw [List.take_of_length_le (by omega)]
          have hW4 := hW3.fr (LW.off hT3 hW3) hf4
          simp [f3, f4]
          refine callK.of (same_calls d W (ns.zip zs) (ns.zip zs) (by omega) hzl false υ4 hW4) ?_
          rintro v υ5 ⟨rfl, rfl⟩
          simp
          exact ⟨j + 1, zs, υ5, ⟨by omega, hT4, hW4⟩, by omega, by rw [hlw]; exact AV.le_refl _, Store.sub_refl _⟩
      · obtain rfl : j = script.length := by omega
        simp [f3, f4, hm5, hKw, hlen, hsl, hv1, hv2]
        refine callK.of (all_calls K (by omega) hTj) ?_
        rintro v υ3 ⟨rfl, hT3, hf3⟩
        simp [hv2]
        have hV3 := hV2.fr ((LW.off hTj hWj).imp_left (fun e => by rw [e]; simp)) hf3
        refine callK.of (same_calls d V2 ((ns.zip ys).take K) ((ns.zip ys).take K) (by omega) htl false υ3 hV3) ?_
        rintro v υ4 ⟨rfl, rfl⟩
        simp
        exact ⟨_, Store.sub_refl _⟩
end Go.Proofs.Ytgelodhkbpmlfaa
/-
  Arguments opened; TallyNil for a string's bytes.
-/
namespace Go.Proofs.Ytgelodhkbpmlfaa
open Go Go.AL
theorem open_u64 : Opens Try.prog 33 (fun n : Nat => [.lit (.int .u64 (n : Int))]) (fun _ => True) :=
  (Opens.int (k := .u64) Try.underlying33).by Int.toNat fun n h => ⟨trivial, by
    have : 0 ≤ n := by
      have := h
      have hm : IntKind.u64.min = 0 := rfl
      simp [Lit.wf, hm] at this
      omega
    rw [Int.toNat_of_nonneg this]⟩
theorem toB_of (s : ByteArray) : toB s.data.toList = s := by cases s; simp [toB]
end Go.Proofs.Ytgelodhkbpmlfaa
/-
  Arguments opened: names, scripts; TallyPlays for what is read.
-/
namespace Go.Proofs.Ytgelodhkbpmlfaa
open Go Go.AL
theorem open_str : Opens Try.prog 9 (fun s : List UInt8 => [strV s]) (fun _ => True) :=
  (Opens.string Try.underlying9).by (fun s => s.data.toList) fun s _ => ⟨trivial, by simp [strV, toB_of]⟩
theorem open_strs : Opens Try.prog 22 (fun l : List (List UInt8) => [.list false 1 (strsA l)]) (fun l => l.length ≤ maxLen) :=
  (Opens.slice Try.underlying22 (sz := 1) (by kernel_rfl) (by omega) open_str strV (fun _ => rfl) (fun _ => rfl)).by id fun _ h => ⟨h.1, rfl⟩
theorem open_opn : Opens Try.prog 35 (fun o : Opn => [.lit (.int .u8 o.d.toNat), strV o.name, .lit (.int .u64 o.n)]) (fun _ => True) :=
  (Opens.struct (total := 3) Try.underlying35 (by kernel_rfl)
    (.cons (k := 1) rfl (by kernel_rfl) (by omega) (Opens.u8 Try.underlying5) (.cons (k := 1) rfl (by kernel_rfl) (by omega) open_str (.cons (k := 1) rfl (by kernel_rfl) (by omega) open_u64 .nil)))).by
    (fun x => ⟨x.1, x.2.1, x.2.2.1⟩) fun _ _ => ⟨trivial, rfl⟩
theorem open_opns : Opens Try.prog 23 (fun l : List Opn => [.list false 3 (opnsA l)]) (fun l => l.length ≤ maxLen) :=
  (Opens.slice Try.underlying23 (by kernel_rfl) (by omega) open_opn opnA (fun _ => rfl) (fun _ => rfl)).by id fun _ h => ⟨h.1, rfl⟩
theorem tallyPlays_law (l : List (List UInt8)) (hl : l.length ≤ maxLen) (s : List Opn) (hs : s.length ≤ maxLen) (k : UInt8) (σ : Store) :
    ACalls Try.prog 3 [.list false 1 (strsA l), .list false 3 (opnsA s), .lit (.int .u8 k.toNat)] σ fun v _ => v = .lit (.bool true) :=
  plays_calls l (by unfold maxLen at hl; omega) s (by unfold maxLen at hs; omega) k σ
end Go.Proofs.Ytgelodhkbpmlfaa
