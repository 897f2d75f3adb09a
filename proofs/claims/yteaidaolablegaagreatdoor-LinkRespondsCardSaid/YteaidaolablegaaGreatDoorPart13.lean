/-
  Any short list of bytes is sorted: the insertion sort, in place.
-/
import Derived.Test.YteaidaolablegaaGreatDoorPart12
namespace Go.Proofs.YteaidaolablegaaGreatDoor
open Go Go.AL

/-- A byte of a list, as a number. -/
def gN (L : List UInt8) (k : Nat) : Nat := (L[k]?.getD 0).toNat
def swapL (L : List UInt8) (j : Nat) : List UInt8 := (L.set j (L[j - 1]?.getD 0)).set (j - 1) (L[j]?.getD 0)
theorem swapL_len (L : List UInt8) (j : Nat) : (swapL L j).length = L.length := by simp [swapL]
theorem swapL_get {L : List UInt8} {j : Nat} (h0 : 0 < j) (hj : j < L.length) (k : Nat) : gN (swapL L j) k = if k = j - 1 then gN L j else if k = j then gN L (j - 1) else gN L k := by
  have hj1 : j - 1 < L.length := by omega
  unfold gN swapL
  rw [List.getElem?_set (i := j - 1), List.getElem?_set, List.length_set]
  by_cases h1 : k = j - 1
  · subst h1
    simp [hj1]
  · rw [if_neg (fun e => h1 e.symm), if_neg h1]
    by_cases h2 : k = j
    · subst h2
      simp [hj]
    · rw [if_neg (fun e => h2 e.symm), if_neg h2]
theorem swapL_perm {L : List UInt8} {j : Nat} (h0 : 0 < j) (hj : j < L.length) : (swapL L j).Perm L := by
  obtain ⟨i, rfl⟩ : ∃ i, j = i + 1 := ⟨j - 1, by omega⟩
  have e1 : L = L.take i ++ L[i] :: L[i + 1] :: L.drop (i + 2) := by
    rw [← List.drop_eq_getElem_cons hj, ← List.drop_eq_getElem_cons (by omega), List.take_append_drop]
  have e2 : swapL L (i + 1) = L.take i ++ L[i + 1] :: L[i] :: L.drop (i + 2) := by
    unfold swapL
    rw [Nat.add_sub_cancel, List.getElem?_eq_getElem hj, List.getElem?_eq_getElem (show i < L.length by omega)]
    simp only [Option.getD_some]
    apply List.ext_getElem?
    intro k
    rw [List.getElem?_set, List.getElem?_set, List.length_set]
    have hl : (L.take i).length = i := by simp; omega
    by_cases h1 : i = k
    · subst h1
      rw [if_pos rfl, if_pos (by omega), List.getElem?_append_right (by omega), hl]; simp
    · rw [if_neg h1]
      by_cases h2 : i + 1 = k
      · subst h2
        rw [if_pos rfl, if_pos hj, List.getElem?_append_right (by omega), hl]; simp
      · rw [if_neg h2]
        by_cases h3 : k < i
        · rw [List.getElem?_append_left (by omega), List.getElem?_take_of_lt h3]
        · rw [List.getElem?_append_right (by omega), hl, show k - i = (k - (i + 2)) + 1 + 1 by omega, List.getElem?_cons_succ, List.getElem?_cons_succ, List.getElem?_drop]
          congr 1; omega
  rw [e2]
  conv => rhs; rw [e1]
  exact (List.Perm.swap _ _ _).append_left _
/-- Rising up to a place. -/
def AscTo (L : List UInt8) (i : Nat) : Prop := ∀ a b, a < b → b < i → gN L a ≤ gN L b
def AscBut (L : List UInt8) (i j : Nat) : Prop := (∀ a b, a < b → b ≤ i → a ≠ j → b ≠ j → gN L a ≤ gN L b) ∧ ∀ b, j < b → b ≤ i → gN L j ≤ gN L b
theorem AscBut.start {L : List UInt8} {i : Nat} (h : AscTo L i) : AscBut L i i :=
  ⟨fun a b hab hb _ hbi => h a b hab (by omega), fun b hb hbi => by omega⟩
theorem AscBut.step {L : List UInt8} {i j : Nat} (h : AscBut L i j) (h0 : 0 < j) (hj : j < L.length) (hji : j ≤ i) (hlt : gN L j < gN L (j - 1)) : AscBut (swapL L j) i (j - 1) := by
  obtain ⟨h1, h2⟩ := h
  refine ⟨fun a b hab hb ha hbj => ?_, fun b hb hbi => ?_⟩
  · rw [swapL_get h0 hj, swapL_get h0 hj, if_neg ha, if_neg hbj]
    by_cases haj : a = j
    · rw [if_pos haj, if_neg (by omega)]
      exact h1 _ _ (by omega) hb (by omega) (by omega)
    · rw [if_neg haj]
      by_cases hbe : b = j
      · rw [if_pos hbe]; exact h1 _ _ (by omega) (by omega) haj (by omega)
      · rw [if_neg hbe]; exact h1 _ _ hab hb haj hbe
  · rw [swapL_get h0 hj, swapL_get h0 hj, if_pos rfl, if_neg (by omega)]
    by_cases hbe : b = j
    · rw [if_pos hbe]; omega
    · rw [if_neg hbe]; exact h2 b (by omega) hbi
theorem AscBut.done {L : List UInt8} {i j : Nat} (h : AscBut L i j) (hji : j ≤ i) (hx : j = 0 ∨ ¬ gN L j < gN L (j - 1)) : AscTo L (i + 1) := by
  obtain ⟨h1, h2⟩ := h
  intro a b hab hb
  by_cases haj : a = j
  · subst haj; exact h2 b hab (by omega)
  · by_cases hbj : b = j
    · subst hbj
      rcases hx with rfl | hx
      · omega
      · by_cases ha1 : a = b - 1
        · subst ha1; omega
        · have := h1 a (b - 1) (by omega) (by omega) haj (by omega)
          omega
    · exact h1 a b hab (by omega) haj hbj
/-- A row that is an object: its slice. -/
abbrev sliA (p n cap : Nat) : AV := .lit (.slice (some ⟨p, 0, none⟩) n cap)
theorem row_get {L : List UInt8} {rest : List AV} {k : Nat} (h : k < L.length) : (bytesA L ++ rest)[k]? = some (.lit (.int .u8 (gN L k))) := by
  rw [List.getElem?_append_left (by simpa using h), bytesA_get, List.getElem?_eq_getElem h]
  simp [gN, byteA, List.getElem?_eq_getElem h]
theorem row_set {L : List UInt8} {rest : List AV} {k : Nat} {b : UInt8} (h : k < L.length) : (bytesA L ++ rest).set k (.lit (.int .u8 b.toNat)) = bytesA (L.set k b) ++ rest := by
  rw [List.set_append, if_pos (by simpa using h)]
  simp [bytesA, byteA, List.map_set]
theorem setRange_one {α : Type} (cs : List α) (off : Nat) (x : α) : setRange cs off [x] = cs.set off x := nr rfl
set_option maxRecDepth 8000 in
set_option maxHeartbeats 1000000 in
theorem insertG_calls (p cap : Nat) (l : List UInt8) (rest : List AV) (hl : l.length ≤ 1000000) (σ : Store) (hp : σ p = some (bytesA l ++ rest)) :
    ACalls Tryz.prog 143 [sliA p l.length cap, .lit (.int .i64 0), .lit (.int .i64 l.length)] σ fun v σ' => v = .tuple [] ∧ ∃ L : List UInt8, L.Perm l ∧ AscTo L l.length ∧ σ' = σ.upd p (bytesA L ++ rest) := by
  refine ACalls.of_awp follows (st := st143) (plans := pl143) (n := 49) Tryz.func143 rfl (by kernel_rfl) (by kernel_rfl) (by kernel_rfl) ?_
  have h01 : IntKind.i64.wrap 1 = 1 := by decide
  have hb0 : σ.upd p (bytesA l ++ rest) = σ := upd_back hp
  simp
  refine codeK.loop follows (st := st143) (plans := pl143) (X := Nat × List UInt8) (fun x => 1 ≤ x.1 ∧ (x.1 ≤ l.length ∨ l.length = 0 ∧ x.1 = 1) ∧ x.2.Perm l ∧ AscTo x.2 x.1)
    (fun x => [(0, sliA p l.length cap), (1, .lit (.int .i64 0)), (2, .lit (.int .i64 l.length)), (6, .lit (.int .i64 x.1))]) (fun x => σ.upd p (bytesA x.2 ++ rest)) (fun x => l.length + 1 - x.1) (1, l) (by kernel_rfl)
    ⟨by omega, by omega, List.Perm.refl _, fun a b hab hb => by omega⟩ (by simp [h01]) (by rw [hb0]; exact Store.sub_refl _) ?_
  rintro ⟨i, L⟩ ⟨h1, hi, hpm, has⟩
  dsimp only at h1 hi hpm has ⊢
  have hLl : L.length = l.length := hpm.length_eq
  by_cases hlt : i < l.length
  · have hw : IntKind.i64.wrap ((i : Int) + 1) = ((i + 1 : Nat) : Int) := wrap_i64 (by omega) (by omega)
    have hlt' : (i : Int) < l.length := by omega
    simp [hlt, hlt']
    refine codeK.loop follows (st := st143) (plans := pl143) (X := Nat × List UInt8) (fun x => x.1 ≤ i ∧ x.2.Perm l ∧ AscBut x.2 i x.1)
      (fun x => [(0, sliA p l.length cap), (1, .lit (.int .i64 0)), (2, .lit (.int .i64 l.length)), (6, .lit (.int .i64 i)), (7, .lit (.int .i64 x.1))]) (fun x => σ.upd p (bytesA x.2 ++ rest)) (fun x => x.1) (i, L) (by kernel_rfl) ⟨Nat.le_refl _, hpm, .start has⟩ (by simp) (Store.sub_refl _) ?_
    rintro ⟨j, K⟩ ⟨hji, hkp, hbut⟩
    dsimp only at hji hkp hbut ⊢
    have hKl : K.length = l.length := hkp.length_eq
    by_cases h0 : j = 0
    · subst h0
      simp
      exact ⟨i + 1, K, ⟨by omega, by omega, hkp, hbut.done (by omega) (.inl rfl)⟩, by omega, by rw [hw]; exact AV.le_refl _, Store.sub_refl _⟩
    · have hjl : j < l.length := by omega
      have h0' : (0 : Int) < (j : Int) := by omega
      have hw2 : IntKind.i64.wrap ((j : Int) - 1) = ((j - 1 : Nat) : Int) := by rw [wrap_i64 (by omega) (by omega)]; omega
      have hg1 := row_get (L := K) (rest := rest) (k := j) (by omega)
      have hg2 := row_get (L := K) (rest := rest) (k := j - 1) (by omega)
      have hle := fun τ => less_calls (K[j]?.getD 0) (K[j - 1]?.getD 0) τ
      rw [byteA_lit, byteA_lit] at hle
      have hgd1 : ((K[j]?.getD 0).toNat : Int) = (gN K j : Int) := rfl
      have hgd2 : ((K[j - 1]?.getD 0).toNat : Int) = (gN K (j - 1) : Int) := rfl
      rw [hgd1, hgd2] at hle
      have hdec : decide ((K[j]?.getD 0).toNat < (K[j - 1]?.getD 0).toNat) = decide (gN K j < gN K (j - 1)) := rfl
      rw [hdec] at hle
      simp [h0', hlt, hjl, hw2, hg1, hg2, show 0 < j by omega, show j - 1 < l.length by omega]
      refine callK.of (hle _) ?_
      rintro v σ' ⟨rfl, rfl⟩
      by_cases hc : gN K j < gN K (j - 1)
      · simp [hc, hw2, hg1, hg2, hjl, show j - 1 < l.length by omega, -e_setRange_1, -e_setRange_2, setRange_one]
        have hsw : ((bytesA K ++ rest).set j (.lit (.int .u8 (gN K (j - 1))))).set (j - 1) (.lit (.int .u8 (gN K j))) = bytesA (swapL K j) ++ rest := by
          rw [← hgd1, ← hgd2, row_set (by omega), row_set (by simp; omega)]; rfl
        exact ⟨by omega, by omega, j - 1, swapL K j, ⟨by omega, (swapL_perm (by omega) (by omega)).trans hkp, hbut.step (by omega) (by omega) hji hc⟩, by omega, AV.le_refl _, by rw [hsw]; exact Store.sub_refl _⟩
      · simp [hc]
        exact ⟨i + 1, K, ⟨by omega, by omega, hkp, hbut.done (by omega) (.inr hc)⟩, by omega, by rw [hw]; exact AV.le_refl _, Store.sub_refl _⟩
  · have hnl : ¬ (i : Int) < l.length := by omega
    simp [hnl, show ¬ i < l.length by omega]
    exact ⟨_, AV.le_refl _, _, Store.sub_refl _, rfl, L, hpm, fun a b hab hb => has a b hab (by omega), rfl⟩
end Go.Proofs.YteaidaolablegaaGreatDoor
/-
  Any short list of bytes is sorted: collected into a row, which is sorted.
-/
namespace Go.Proofs.YteaidaolablegaaGreatDoor
open Go Go.AL

set_option maxRecDepth 8000 in
theorem pdqG_calls (p cap : Nat) (l : List UInt8) (rest : List AV) (hl : l.length ≤ 12) (k : Int) (σ : Store) (hp : σ p = some (bytesA l ++ rest)) :
    ACalls Tryz.prog 141 [sliA p l.length cap, .lit (.int .i64 0), .lit (.int .i64 l.length), .lit (.int .i64 k)] σ fun v σ' => v = .tuple [] ∧ ∃ L : List UInt8, L.Perm l ∧ AscTo L l.length ∧ σ' = σ.upd p (bytesA L ++ rest) := by
  have hi := insertG_calls p cap l rest (by omega) σ hp
  have hw : IntKind.i64.wrap (l.length : Int) = (l.length : Int) := wrap_i64 (by omega) (by omega)
  have h12 : (l.length : Int) ≤ 12 := by omega
  refine ACalls.of_awp follows (st := st141) (plans := pl141) (n := 134) Tryz.func141 rfl (by kernel_rfl) (by kernel_rfl) (by kernel_rfl) ?_
  simp
  refine codeK.loop follows (st := st141) (plans := pl141) (X := Unit) (fun _ => True)
    (fun _ => [(0, sliA p l.length cap), (1, .lit (.int .i64 0)), (2, .lit (.int .i64 l.length)), (3, .lit (.int .i64 k))]) (fun _ => σ) (fun _ => 0) () (by kernel_rfl) trivial (by simp) (Store.sub_refl _) fun _ _ => ?_
  simp [hw, h12, show l.length ≤ 12 from hl]
  refine callK.of hi ?_
  rintro v σ' ⟨rfl, L, h1, h2, rfl⟩
  simp
  exact ⟨_, AV.le_refl _, _, Store.sub_refl _, rfl, L, h1, h2, rfl⟩
set_option maxRecDepth 8000 in
theorem sortG_calls (p cap : Nat) (l : List UInt8) (rest : List AV) (hl : l.length ≤ 5) (σ : Store) (hp : σ p = some (bytesA l ++ rest)) :
    ACalls Tryz.prog 138 [sliA p l.length cap] σ fun v σ' => v = .tuple [] ∧ ∃ L : List UInt8, L.Perm l ∧ AscTo L l.length ∧ σ' = σ.upd p (bytesA L ++ rest) := by
  have hle := fun τ => len_calls l.length hl τ
  have hpd := fun k => pdqG_calls p cap l rest (by omega) k σ hp
  have hw : IntKind.u64.wrap (l.length : Int) = (l.length : Int) := by
    have hcase : l.length = 0 ∨ l.length = 1 ∨ l.length = 2 ∨ l.length = 3 ∨ l.length = 4 ∨ l.length = 5 := by omega
    rcases hcase with h | h | h | h | h | h <;> rw [h] <;> decide
  refine ACalls.of_awp follows (st := st138) (plans := pl138) (n := 11) Tryz.func138 rfl (by kernel_rfl) (by kernel_rfl) (by kernel_rfl) ?_
  simp [hw]
  refine callK.of (hle _) ?_
  rintro v σ' ⟨⟨k, rfl⟩, rfl⟩
  simp
  refine callK.of (hpd k) ?_
  rintro v σ' ⟨rfl, L, h1, h2, rfl⟩
  simp
  exact ⟨_, AV.le_refl _, _, Store.sub_refl _, rfl, L, h1, h2, rfl⟩
abbrev nilS : AV := .lit (.slice none 0 0)
def tops (n : Nat) : List AV := List.replicate n .top
/-- A row that was made: its bytes, and room. -/
def RowR (σ : Store) (l : List UInt8) (v : AV) (σ' : Store) : Prop := (l = [] ∧ v = nilS ∧ σ' = σ) ∨ ∃ p cap, σ p = none ∧ l.length ≤ cap ∧ cap ≤ maxLen ∧ v = sliA p l.length cap ∧ σ' = σ.upd p (bytesA l ++ tops (cap - l.length))
set_option maxRecDepth 8000 in
set_option maxHeartbeats 1000000 in
theorem appseqO_calls (b : Nat) (o : Bool) (l : List UInt8) (hl : l.length ≤ 1000000) (σ : Store) (hb : σ b = some [.list o 1 (bytesA l)]) :
    ACalls Tryz.prog 140 [nilS, .func (.func 139) [] [ptrA b]] σ (RowR σ l) := by
  have hi := fun τ ht => values_iter b o l hl τ ht
  refine ACalls.of_awpY follows (st := st140o) (plans := pl140o) (n := 13) Tryz.func140 rfl (by kernel_rfl) (by kernel_rfl) (by kernel_rfl) ?_
  simp
  intro q hq
  have hqb : ¬ b = q := by rintro rfl; rw [hb] at hq; cases hq
  refine codeYK.range follows (st := st140o) (plans := pl140o) (hi (σ.upd q [nilS]) (by simp [hqb, hb])) (by simp [ptrA]) (by simp) (by intro x hx; obtain ⟨_, _, rfl⟩ := List.mem_map.1 hx; rfl) (by kernel_rfl) (by kernel_rfl) (by kernel_rfl)
    (fun k τ _ => k ≤ l.length ∧ ((k = 0 ∧ τ = σ.upd q [nilS]) ∨ ∃ p cap, 0 < k ∧ ¬ p = q ∧ σ p = none ∧ k ≤ cap ∧ cap ≤ maxLen ∧ τ = (σ.upd p (bytesA (l.take k) ++ tops (cap - k))).upd q [sliA p k cap])) (fun _ _ _ => False)
    _ ⟨by omega, .inl ⟨rfl, rfl⟩⟩ ?_ ?_ ?_ ?_
  · simp
  · rintro k hk τ E ⟨h1, h2⟩
    have hk' : k < l.length := by simpa using hk
    obtain ⟨c, hc⟩ : ∃ c, l[k] = c := ⟨_, rfl⟩
    have ht : l.take (k + 1) = l.take k ++ [c] := by rw [List.take_succ_eq_append_getElem hk', hc]
    have hx : (l.map fun c => [byteA c])[k]'hk = [.lit (.int .u8 c.toNat)] := by simp [hc, byteA]
    rw [hx]
    rcases h2 with ⟨rfl, rfl⟩ | ⟨p, cap, h0, hpq, hp, hc1, hc2, rfl⟩
    · simp [nilS]
      intro p cap hpn hc1 hc2
      have hpq : ¬ p = q := by intro e; simp [e] at hpn
      have hp0 : σ p = none := by simpa [hpq] using hpn
      have hqp : ¬ q = p := fun e => hpq e.symm
      simp [hqp]
      refine ⟨(σ.upd p (bytesA (l.take 1) ++ tops (cap - 1))).upd q [sliA p 1 cap], ?_, by omega, p, hpq, hp0, cap, hc1, hc2, rfl⟩
      have e1 : l.take 1 = [c] := by simpa using ht
      rw [e1]
      intro x
      right
      simp only [supd_apply]
      by_cases h1 : x = q
      · simp [h1]
      · simp [h1, flat, bytesA, byteA, tops]
    · have hln : (bytesA (l.take k) ++ tops (cap - k)).length = cap := by simp [tops]; omega
      have htk : (bytesA (l.take k) ++ tops (cap - k)).take k = bytesA (l.take k) := by
        rw [List.take_append_of_le_length (by simp; omega), List.take_of_length_le (by simp; omega)]
      have hc3 : cap ≤ 9223372036854775807 := hc2
      simp [hpq, hln, htk, hc1, hc3, sliA]
      refine ⟨by omega, by omega, fun p2 cap2 hp2 hc4 hc5 => ?_⟩
      have hqp2 : ¬ q = p2 := by
        rintro rfl
        rcases hp2 with e | e
        · exact hpq e
        · simp at e
      have hp2q : ¬ p2 = q := fun e => hqp2 e.symm
      have hp20 : σ p2 = none := by
        rcases hp2 with rfl | e
        · exact hp
        · simp only [hp2q, if_false] at e
          by_cases e2 : p2 = p
          · simp [e2] at e
          · simpa [e2] using e
      have hqp : ¬ q = p := fun e => hpq e.symm
      simp [hqp2, hqp]
      refine ⟨(σ.upd p2 (bytesA (l.take (k + 1)) ++ tops (cap2 - (k + 1)))).upd q [sliA p2 (k + 1) cap2], ?_, by omega, p2, hp2q, hp20, cap2, hc4, hc5, rfl⟩
      rw [ht]
      intro x
      by_cases h1 : x = q
      · right; simp [h1]
      · by_cases h2 : x = p2
        · right; simp [h1, h2, hp2q, flat, bytesA, byteA, tops]
        · by_cases h3 : x = p
          · left; subst h3; simp [h1, h2, hp]
          · right; simp [h1, h2, h3]
  · rintro τ E σ' hs ⟨h2, h3⟩
    rcases h3 with ⟨hk0, rfl⟩ | ⟨p, cap, h0, hpq, hp, hc1, hc2, rfl⟩
    · have e2 : σ' q = some [nilS] := by
        rcases hs q with h | h
        · simp at h
        · rw [← h]; simp
      have hnl : l = [] := by simpa using hk0
      simp [e2, nilS]
      exact ⟨_, AV.le_refl _, σ, Store.sub_trans (sub_upd_self _ _ _ hq) hs, .inl ⟨hnl, rfl, rfl⟩⟩
    · have e2 : σ' q = some [sliA p (l.map fun c => [byteA c]).length cap] := by
        rcases hs q with h | h
        · simp at h
        · rw [← h]; simp
      simp [e2, sliA]
      rw [List.length_map] at hc1
      refine ⟨_, AV.le_refl _, σ.upd p (bytesA l ++ tops (cap - l.length)), Store.sub_trans ?_ hs, .inr ⟨p, cap, hp, hc1, hc2, rfl, rfl⟩⟩
      rw [List.length_map, List.take_length]
      refine sub_upd_self _ _ _ ?_
      simp [Ne.symm hpq, hq, Store.upd, fun e : q = p => hpq e.symm]
  · rintro c τ E σ' hs h
    exact h.elim
set_option maxRecDepth 8000 in
theorem collO_calls (b : Nat) (o : Bool) (l : List UInt8) (hl : l.length ≤ 1000000) (σ : Store) (hb : σ b = some [.list o 1 (bytesA l)]) :
    ACalls Tryz.prog 137 [.func (.func 139) [] [ptrA b]] σ (RowR σ l) := by
  have has := appseqO_calls b o l hl σ hb
  refine ACalls.of_awp follows (st := st137o) (plans := pl137o) (n := 5) Tryz.func137 rfl (by kernel_rfl) (by kernel_rfl) (by kernel_rfl) ?_
  simp
  refine callK.of has ?_
  rintro v σ' (⟨hn, rfl, rfl⟩ | ⟨p, cap, h1, h2, h3, rfl, rfl⟩)
  · simp [nilS]
    exact ⟨_, AV.le_refl _, _, Store.sub_refl _, .inl ⟨hn, rfl, rfl⟩⟩
  · simp [sliA]
    exact ⟨_, AV.le_refl _, _, Store.sub_refl _, .inr ⟨p, cap, h1, h2, h3, rfl, rfl⟩⟩
theorem sortL_uniq {l L : List UInt8} (hn : l.Nodup) (h4 : ∀ x ∈ l, x.toNat ≤ 4) (hp : L.Perm l) (ha : AscTo L l.length) : L = sortL l := by
  have hL : L.Pairwise fun a b => a.toNat < b.toNat := by
    rw [List.pairwise_iff_getElem]
    intro i j hi hj hij
    have h1 := ha i j hij (by rw [← hp.length_eq]; exact hj)
    unfold gN at h1
    rw [List.getElem?_eq_getElem hi, List.getElem?_eq_getElem hj] at h1
    simp only [Option.getD_some] at h1
    have hne : L[i] ≠ L[j] := (List.pairwise_iff_getElem.1 (hp.nodup_iff.2 hn)) i j hi hj hij
    have : L[i].toNat ≠ L[j].toNat := fun e => hne (UInt8.toNat_inj.1 e)
    omega
  have hS : (sortL l).Pairwise fun a b => a.toNat < b.toNat := (show ([0, 1, 2, 3, 4] : List UInt8).Pairwise fun a b => a.toNat < b.toNat by decide).filter _
  have hmem : ∀ x, x ∈ L ↔ x ∈ sortL l := fun x => by
    unfold sortL
    rw [hp.mem_iff, List.mem_filter]
    constructor
    · intro h
      refine ⟨?_, by simpa using h⟩
      have := h4 x h
      have hc : x.toNat = 0 ∨ x.toNat = 1 ∨ x.toNat = 2 ∨ x.toNat = 3 ∨ x.toNat = 4 := by omega
      have hx : x = UInt8.ofNat x.toNat := by simp
      rcases hc with h | h | h | h | h <;> rw [h] at hx <;> rw [hx] <;> decide
    · rintro ⟨_, h⟩
      simpa using h
  have hperm : L.Perm (sortL l) := (List.perm_ext_iff_of_nodup (hL.imp fun h e => by rw [e] at h; omega) (hS.imp fun h e => by rw [e] at h; omega)).2 hmem
  exact hperm.eq_of_pairwise (le := fun a b => a.toNat < b.toNat) (fun a b _ _ h1 h2 => by omega) hL hS
set_option maxRecDepth 8000 in
theorem sortedO_calls (b : Nat) (o : Bool) (l : List UInt8) (hl : l.length ≤ 5) (hn : l.Nodup) (h4 : ∀ x ∈ l, x.toNat ≤ 4) (σ : Store) (hb : σ b = some [.list o 1 (bytesA l)]) :
    ACalls Tryz.prog 134 [.func (.func 139) [] [ptrA b]] σ fun v σ' => v = .list true 1 (bytesA (sortL l)) ∧ σ' = σ := by
  have hso := fun τ => sort_calls true [] (by simp) (fun i _ h => by simp at h) τ
  have hb0 : bytesA [] = [] := rfl
  rw [hb0] at hso
  have hco := collO_calls b o l (by omega) σ hb
  have h0 : ACalls Tryz.prog 134 [.func (.func 139) [] [ptrA b]] σ (fun v σ' => (sortL l = [] ∧ v = .list true 1 [] ∧ σ' = σ) ∨ RowR σ (sortL l) v σ') := by
    refine ACalls.of_awp follows (st := st134o) (plans := pl134o) (n := 9) Tryz.func134 rfl (by kernel_rfl) (by kernel_rfl) (by kernel_rfl) ?_
    simp
    refine callK.of hco ?_
    rintro v σ' (⟨rfl, rfl, rfl⟩ | ⟨p, cap, h1, h2, h3, rfl, rfl⟩)
    · simp [nilS]
      refine callK.of (hso _) ?_
      rintro v σ2 ⟨rfl, rfl⟩
      simp
      exact ⟨_, AV.le_refl _, _, Store.sub_refl _, .inl ⟨rfl, rfl, rfl⟩⟩
    · have hs := sortG_calls p cap l (tops (cap - l.length)) hl (σ.upd p (bytesA l ++ tops (cap - l.length))) (by simp)
      simp [sliA]
      refine callK.of hs ?_
      rintro v σ' ⟨rfl, L, hp, ha, rfl⟩
      have hL := sortL_uniq hn h4 hp ha
      subst hL
      have hln : (sortL l).length = l.length := hp.length_eq
      simp
      refine ⟨_, AV.le_refl _, _, Store.sub_refl _, .inr (.inr ⟨p, cap, h1, by omega, h3, ?_, ?_⟩)⟩
      · rw [hln]
      · rw [hln]
  refine h0.shift ?_
  rintro v σ' (⟨hn, rfl, rfl⟩ | ⟨hn, rfl, rfl⟩ | ⟨p, cap, h1, h2, h3, rfl, rfl⟩)
  · exact .inl ⟨_, _, AV.le_refl _, Store.sub_refl _, by rw [hn]; rfl, rfl⟩
  · exact .inl ⟨.list true 1 (bytesA (sortL l)), _, by rw [hn]; exact AV.le_nil _ _, Store.sub_refl _, rfl, rfl⟩
  · refine .inr ⟨p, cap, 1, bytesA (sortL l), tops (cap - (sortL l).length), by rw [bytesA_length], by rw [flat_bytesA]; simp, ?_, h3, by simpa using h2, ?_, _, AV.le_refl _, rfl, ?_⟩
    · rw [flat_bytesA]; simp [tops]; omega
    · intro v hv
      obtain ⟨c, _, rfl⟩ := List.mem_map.1 hv; rfl
    · funext x
      simp only [Store.del, supd_apply]
      by_cases hx : x = p
      · rw [if_pos hx, hx, h1]
      · rw [if_neg hx, if_neg hx]
set_option maxRecDepth 8000 in
theorem sortL_len (l : List UInt8) : (sortL l).length ≤ 5 := Nat.le_trans (List.length_filter_le _ _) (by simp)
set_option maxRecDepth 8000 in
theorem agreeG_calls (q : Nat) (e : Ng) (o1 o2 o : Bool) (l : List UInt8) (hl : l.length ≤ 5) (hn : l.Nodup) (h4 : ∀ x ∈ l, x.toNat ≤ 4) (σ : Store) (h : σ q = some (endO e o1 o2)) :
    ACalls Tryz.prog 128 [ptrA q, .list o 1 (bytesA l)] σ fun v σ' => v = .tuple [] ∧ Up σ q { e with st := 3, agreed := sortL l } σ' := by
  have hv := fun τ => values_calls false l τ
  have hsd := fun b τ ht => sortedO_calls b false l hl hn h4 τ ht
  have h0 := h
  unfold endO at h
  refine ACalls.of_awp follows (st := st128) (plans := pl128) (n := 13) Tryz.func128 rfl (by kernel_rfl) (by kernel_rfl) (by kernel_rfl) ?_
  simp [ptrA]
  refine callK.of (hv _) ?_
  rintro v σ' ⟨b, hb, rfl, rfl⟩
  have hqb : ¬ q = b := by rintro rfl; rw [h0] at hb; cases hb
  simp
  have := hsd b (σ.upd b [.list false 1 (bytesA l)]) (by simp)
  refine callK.of this ?_
  rintro v σ' ⟨rfl, rfl⟩
  simp [hqb, h]
  refine ⟨_, AV.le_refl _, _, ?_, rfl, o1, true, rfl⟩
  unfold endO
  (intro q; simp only [Store.upd, Store.del]; (repeat' split) <;> first | exact Or.inr rfl | exact Or.inl rfl | (exfalso; omega) | (left; subst_vars; assumption) | simp_all)
end Go.Proofs.YteaidaolablegaaGreatDoor
/-
  The options' machine: heard, asked, made.
-/
namespace Go.Proofs.YteaidaolablegaaGreatDoor
open Go Go.AL

set_option maxRecDepth 8000 in
theorem ostate_calls (b side : Nat) (m : Om) (o : UInt8) (hs : side = 0 ∨ side = 1) (σ : Store) (hb : σ b = some (omA m)) :
    ACalls Tryz.prog 63 [ptrA b, .lit (.int .i64 side), byteA o] σ fun v σ' => v = .lit (.int .i64 (m.st side o.toNat).toNat) ∧ σ' = σ := by
  have ho := o.toNat_lt
  have h0 := st_get m 0 (.inl rfl) ho
  have h1 := st_get m 512 (.inr rfl) ho
  have ho' : (o.toNat : Int) < 256 := by omega
  have hw : ∀ s : UInt8, IntKind.i64.wrap (s.toNat : Int) = (s.toNat : Int) := fun s => by have := s.toNat_lt; exact wrap_i64 (by omega) (by omega)
  refine ACalls.of_awp follows (st := st63) (plans := pl63) (n := 27) Tryz.func63 rfl (by kernel_rfl) (by kernel_rfl) (by kernel_rfl) ?_
  rcases hs with rfl | rfl
  · simp at h0
    simp [hb, byteA, ho', h0, hw]
  · simp at h1
    simp [hb, byteA, ho', h1, hw]
set_option maxRecDepth 8000 in
theorem oon_calls (b side : Nat) (m : Om) (o : UInt8) (hs : side = 0 ∨ side = 1) (σ : Store) (hb : σ b = some (omA m)) :
    ACalls Tryz.prog 36 [ptrA b, .lit (.int .i64 side), byteA o] σ fun v σ' => v = .lit (.bool (decide (m.st side o.toNat = 1))) ∧ σ' = σ := by
  have h := fun τ ht => ostate_calls b side m o hs τ ht
  have hd : ∀ s : UInt8, ((s.toNat : Int) == 1) = decide (s = 1) := fun s => by
    rw [Bool.eq_iff_iff, beq_iff_eq, decide_eq_true_eq]
    constructor
    · intro h; exact UInt8.toNat_inj.1 (by show s.toNat = 1; omega)
    · rintro rfl; rfl
  refine ACalls.of_awp follows (st := st36) (plans := pl36) (n := 12) Tryz.func36 rfl (by kernel_rfl) (by kernel_rfl) (by kernel_rfl) ?_
  simp
  refine callK.of (h _ hb) ?_
  rintro v σ' ⟨rfl, rfl⟩
  simp [hd]
theorem omset0 (m : Om) (o b : UInt8) : (omA m).set o.toNat (.lit (.int .u8 b.toNat)) = omA (m.setSt 0 o.toNat b) := by
  have := omA_setSt m 0 b o.toNat_lt
  simpa [byteA] using this
theorem omset1 (m : Om) (o b : UInt8) : (omA m).set (512 + o.toNat) (.lit (.int .u8 b.toNat)) = omA (m.setSt 1 o.toNat b) := by
  have := omA_setSt m 1 b o.toNat_lt
  simpa [byteA] using this
theorem u8_eq {a : UInt8} {n : Nat} (hn : n < 256) (h : a = UInt8.ofNat n) : (a.toNat : Int) = (n : Int) := by rw [h]; simp; omega
theorem onF_le (s : UInt8) (a : Bool) : (onF s a).2 ≤ 2 := by
  unfold onF
  repeat' split
  all_goals decide
theorem offF_le (s : UInt8) : (offF s).2 ≤ 2 := by
  unfold offF
  repeat' split
  all_goals decide
theorem askF_le (s : UInt8) : (askF s).2.1 ≤ 2 := by
  unfold askF
  repeat' split
  all_goals simp
set_option maxRecDepth 8000 in
set_option maxHeartbeats 1000000 in
theorem ohear_calls (b : Nat) (m : Om) (verb o : UInt8) (σ : Store) (hb : σ b = some (omA m)) :
    ACalls Tryz.prog 92 [ptrA b, byteA verb, byteA o] σ fun v σ' => (∃ k : Int, v = .tuple [.list true 2 (msgsA (m.hear verb o).2), .lit (.int .i64 k)]) ∧ σ' = σ.upd b (omA (m.hear verb o).1) := by
  have ho := o.toNat_lt
  have ho' : (o.toNat : Int) < 256 := by omega
  have hon0 := on_calls b 0 m o (.inl rfl) σ hb
  have hon1 := on_calls b 512 m o (.inr rfl) σ hb
  have hof0 := off_calls b 0 m o (.inl rfl) σ hb
  have hof1 := off_calls b 512 m o (.inr rfl) σ hb
  have hup : σ.upd b (omA m) = σ := upd_back hb
  have hl := omA_length m
  refine ACalls.of_awp follows (st := st92) (plans := pl92) (n := 57) Tryz.func92 rfl (by kernel_rfl) (by kernel_rfl) (by kernel_rfl) ?_
  rw [byteA_lit verb, byteA_lit o] at *
  have e1 : (0 : Nat) / 512 = 0 := rfl
  have e2 : (512 : Nat) / 512 = 1 := rfl
  rw [e1] at hon0 hof0
  rw [e2] at hon1 hof1
  by_cases v1 : verb = 251
  · have hh : m.hear verb o = (m.setSt 1 o.toNat (onF (m.st 1 o.toNat) (m.ag 1 o.toNat)).1, saidF 1 (onF (m.st 1 o.toNat) (m.ag 1 o.toNat)).2 o) := by unfold Om.hear; rw [if_pos v1]
    have n1 := u8_eq (n := 251) (by omega) v1
    have hle := onF_le (m.st 1 o.toNat) (m.ag 1 o.toNat)
    rw [hh]
    generalize onF (m.st 1 o.toNat) (m.ag 1 o.toNat) = F at *
    have hsd := fun τ => said_calls 1 F.2 o (.inr rfl) hle τ
    rw [byteA_lit] at hsd hon1
    simp [n1, hb]
    refine callK.of hon1 ?_
    rintro v σ' ⟨rfl, rfl⟩
    simp [hb, ho', -e_setRange_1, -e_setRange_2, setRange_one, omset1, show 512 + o.toNat < 1024 by omega]
    repeat' with_reducible apply And.intro
    all_goals first
      | omega
      | (refine callK.of (hsd _) ?_
         rintro v σ2 ⟨rfl, rfl⟩
         simp
         exact ⟨_, AV.le_refl _, _, rfl⟩)
  have q1 : ¬ (verb.toNat : Int) = 251 := u8_ne (n := 251) (by omega) v1
  by_cases v2 : verb = 252
  · have hh : m.hear verb o = (m.setSt 1 o.toNat (offF (m.st 1 o.toNat)).1, saidF 1 (offF (m.st 1 o.toNat)).2 o) := by unfold Om.hear; rw [if_neg v1, if_pos v2]
    have n2 := u8_eq (n := 252) (by omega) v2
    have hle := offF_le (m.st 1 o.toNat)
    rw [hh]
    generalize offF (m.st 1 o.toNat) = F at *
    have hsd := fun τ => said_calls 1 F.2 o (.inr rfl) hle τ
    rw [byteA_lit] at hsd hof1
    simp [n2, hb]
    refine callK.of hof1 ?_
    rintro v σ' ⟨rfl, rfl⟩
    simp [hb, ho', -e_setRange_1, -e_setRange_2, setRange_one, omset1, show 512 + o.toNat < 1024 by omega]
    repeat' with_reducible apply And.intro
    all_goals first
      | omega
      | (refine callK.of (hsd _) ?_
         rintro v σ2 ⟨rfl, rfl⟩
         simp
         exact ⟨_, AV.le_refl _, _, rfl⟩)
  have q2 : ¬ (verb.toNat : Int) = 252 := u8_ne (n := 252) (by omega) v2
  by_cases v3 : verb = 253
  · have hh : m.hear verb o = (m.setSt 0 o.toNat (onF (m.st 0 o.toNat) (m.ag 0 o.toNat)).1, saidF 0 (onF (m.st 0 o.toNat) (m.ag 0 o.toNat)).2 o) := by unfold Om.hear; rw [if_neg v1, if_neg v2, if_pos v3]
    have n3 := u8_eq (n := 253) (by omega) v3
    have hle := onF_le (m.st 0 o.toNat) (m.ag 0 o.toNat)
    rw [hh]
    generalize onF (m.st 0 o.toNat) (m.ag 0 o.toNat) = F at *
    have hsd := fun τ => said_calls 0 F.2 o (.inl rfl) hle τ
    rw [byteA_lit] at hsd hon0
    simp [n3, hb]
    refine callK.of hon0 ?_
    rintro v σ' ⟨rfl, rfl⟩
    simp [hb, ho', -e_setRange_1, -e_setRange_2, setRange_one, omset0, show o.toNat < 1024 by omega]
    repeat' with_reducible apply And.intro
    all_goals first
      | omega
      | (refine callK.of (hsd _) ?_
         rintro v σ2 ⟨rfl, rfl⟩
         simp
         exact ⟨_, AV.le_refl _, _, rfl⟩)
  have q3 : ¬ (verb.toNat : Int) = 253 := u8_ne (n := 253) (by omega) v3
  by_cases v4 : verb = 254
  · have hh : m.hear verb o = (m.setSt 0 o.toNat (offF (m.st 0 o.toNat)).1, saidF 0 (offF (m.st 0 o.toNat)).2 o) := by unfold Om.hear; rw [if_neg v1, if_neg v2, if_neg v3, if_pos v4]
    have n4 := u8_eq (n := 254) (by omega) v4
    have hle := offF_le (m.st 0 o.toNat)
    rw [hh]
    generalize offF (m.st 0 o.toNat) = F at *
    have hsd := fun τ => said_calls 0 F.2 o (.inl rfl) hle τ
    rw [byteA_lit] at hsd hof0
    simp [n4, hb]
    refine callK.of hof0 ?_
    rintro v σ' ⟨rfl, rfl⟩
    simp [hb, ho', -e_setRange_1, -e_setRange_2, setRange_one, omset0, show o.toNat < 1024 by omega]
    repeat' with_reducible apply And.intro
    all_goals first
      | omega
      | (refine callK.of (hsd _) ?_
         rintro v σ2 ⟨rfl, rfl⟩
         simp
         exact ⟨_, AV.le_refl _, _, rfl⟩)
  have q4 : ¬ (verb.toNat : Int) = 254 := u8_ne (n := 254) (by omega) v4
  have hh : m.hear verb o = (m, []) := by unfold Om.hear; rw [if_neg v1, if_neg v2, if_neg v3, if_neg v4]
  rw [hh]
  simp [q1, q2, q3, q4, msgsA]
  exact ⟨_, AV.le_refl _, by rw [hup]; exact Store.sub_refl _, _, rfl⟩
/-- We ask for off. -/
def Om.ask (m : Om) (o : UInt8) : Om × List (UInt8 × UInt8) := ((m.setSt 0 o.toNat (askF (m.st 0 o.toNat)).1), if (askF (m.st 0 o.toNat)).2.2 = true then saidF 0 (askF (m.st 0 o.toNat)).2.1 o else [])
set_option maxRecDepth 8000 in
set_option maxHeartbeats 1000000 in
theorem oask_calls (b : Nat) (m : Om) (o : UInt8) (σ : Store) (hb : σ b = some (omA m)) :
    ACalls Tryz.prog 97 [ptrA b, .lit (.int .i64 0), byteA o, .lit (.bool false)] σ fun v σ' => (∃ k : Int, v = .tuple [.list true 2 (msgsA (m.ask o).2), .lit (.int .i64 k)]) ∧ σ' = σ.upd b (omA (m.ask o).1) := by
  have ho := o.toNat_lt
  have ho' : (o.toNat : Int) < 256 := by omega
  have has := ask_calls b 0 m o (.inl rfl) σ hb
  have hl := omA_length m
  have e1 : (0 : Nat) / 512 = 0 := rfl
  rw [e1] at has
  have hle := askF_le (m.st 0 o.toNat)
  unfold Om.ask
  generalize askF (m.st 0 o.toNat) = F at *
  obtain ⟨s, w, ok⟩ := F
  dsimp only at *
  have hsd := fun τ => said_calls 0 w o (.inl rfl) hle τ
  rw [byteA_lit o] at *
  refine ACalls.of_awp follows (st := st97) (plans := pl97) (n := 59) Tryz.func97 rfl (by kernel_rfl) (by kernel_rfl) (by kernel_rfl) ?_
  simp [hb]
  refine callK.of has ?_
  rintro v σ' ⟨rfl, rfl⟩
  cases ok
  · simp [hb, ho', byteA, -e_setRange_1, -e_setRange_2, setRange_one, omset0, msgsA, show o.toNat < 1024 by omega]
    exact ⟨by omega, _, AV.le_refl _, _, rfl⟩
  · simp [hb, ho', byteA, -e_setRange_1, -e_setRange_2, setRange_one, omset0, show o.toNat < 1024 by omega]
    repeat' with_reducible apply And.intro
    all_goals first
      | omega
      | (refine callK.of (hsd _) ?_
         rintro v σ2 ⟨rfl, rfl⟩
         simp
         exact ⟨_, AV.le_refl _, _, rfl⟩)
set_option maxRecDepth 8000 in
theorem mbytes_calls (x : UInt8 × UInt8) (σ : Store) : ACalls Tryz.prog 109 [msgA x] σ fun v σ' => v = .list true 1 (bytesA [255, x.1, x.2]) ∧ σ' = σ := by
  have h := fun τ => say_calls x.1 x.2 τ
  rw [byteA_lit, byteA_lit] at h
  refine ACalls.of_awp follows (st := st109) (plans := pl109) (n := 8) Tryz.func109 rfl (by kernel_rfl) (by kernel_rfl) (by kernel_rfl) ?_
  simp [msgA, byteA]
  intro p hp
  refine callK.of (h _) ?_
  rintro v σ' ⟨rfl, rfl⟩
  simp
  exact sub_upd_self _ _ _ hp
end Go.Proofs.YteaidaolablegaaGreatDoor
