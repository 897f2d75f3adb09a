/-
  What the small steps of a key keep, the key keeps.
-/
import Derived.Test.YtlmdbcgceijlnaaGreatSPart21
set_option linter.unusedSimpArgs false
set_option linter.unusedVariables false
namespace Go.Proofs.YtlmdbcgceijlnaaGreat
open Go Go.AL Go.Sp

theorem lastA_congr {l l' : List Cell} (h : ∀ i, attrAt l' i = attrAt l i) (init : Int) : ∀ m, lastA l' init m = lastA l init m
  | 0 => rfl
  | m + 1 => by rw [lastA, lastA, h, lastA_congr h init m]
theorem startS_congr {l l' : List Cell} (hl : l'.length = l.length) (h : ∀ i, attrAt l' i = attrAt l i) (i : Nat) : startS l' i = startS l i := by
  unfold startS; rw [hl, lastA_congr h, lastA_congr h]
theorem keep_len {s t : Sp} (h : KeepA s t) (hs : s.good) : t.cells.length = s.cells.length := by rw [h.same.1.len, hs.len, h.same.n]
theorem KeepA.start {s t : Sp} (h : KeepA s t) (hs : s.good) (i : Nat) : startS t.cells i = startS s.cells i := startS_congr (keep_len h hs) h.attr i
/-- A place that is no attribute, of the field where another one lies. -/
structure With (s : Sp) (m i : Nat) : Prop where
  lt : i < s.n
  free : attrAt s.cells i = false
  start : startS s.cells i = startS s.cells m
theorem With.open {s : Sp} {m i : Nat} (h : With s m i) (ho : openS s m = true) : openS s i = true := by
  unfold openS at ho ⊢
  rw [h.free, h.start]
  cases e : attrAt s.cells m
  · rw [e] at ho; exact ho
  · rw [e] at ho; simp at ho
theorem count0 {s : Sp} (h : s.good) (hc : s.count = 0) (i : Nat) : attrAt s.cells i = false := by
  cases e : attrAt s.cells i
  · rfl
  · have h1 := startS_attr e
    rw [startS_none hc] at h1
    omega
theorem with_all {s : Sp} (h : s.good) (hc : s.count = 0) {i : Nat} (hi : i < s.n) (m : Nat) : With s m i := ⟨hi, count0 h hc i, by rw [startS_none hc, startS_none hc]⟩
theorem with_places {s : Sp} (h : s.good) {a : Nat} (ha : a < s.n) (hat : attrAt s.cells a = true) {i : Nat} (hi : i ∈ Sp.places s.cells a) : i < s.n ∧ attrAt s.cells i = false ∧ startS s.cells i = (a : Nat) := by
  unfold Sp.places at hi
  obtain ⟨j, hj, rfl⟩ := List.mem_map.1 hi
  rw [List.mem_range] at hj
  have hl := h.len
  have hlt := len_lt (l := s.cells) (a := a) (by omega)
  have hf := len_free (l := s.cells) (a := a) (j := j + 1) (by omega) (by omega)
  have hs := (startS_places hat (by omega) (i := j + 1) (by omega) (by omega) (by omega)).2 (by omega)
  refine ⟨?_, ?_, ?_⟩
  · rw [hl]; exact Nat.mod_lt _ s.n_pos
  · rw [Nat.add_assoc]; exact hf
  · rw [Nat.add_assoc]; exact hs
theorem with_rest {s : Sp} (h : s.good) {m : Nat} (hm : m < s.n) (hat : attrAt s.cells m = false) {i : Nat} (hi : i ∈ restL s m) : With s m i := by
  unfold restL at hi
  by_cases hc : s.count = 0
  · rw [if_pos hc] at hi
    unfold spanL at hi
    obtain ⟨j, _, rfl⟩ := List.mem_map.1 hi
    exact with_all h hc (Nat.mod_lt _ s.n_pos) m
  · rw [if_neg hc] at hi
    obtain ⟨a, ha⟩ := in_field h hm hc hat
    rw [ha.start] at hi
    have h2 := with_places h ha.lt ha.attr (List.mem_of_mem_drop hi)
    exact ⟨h2.1, h2.2.1, by rw [h2.2.2, ha.start]⟩
theorem with_round {s : Sp} (h : s.good) {m : Nat} (hm : m < s.n) (hat : attrAt s.cells m = false) {i : Nat} (hi : i ∈ roundL s m) : With s m i := by
  unfold roundL at hi
  by_cases hc : s.count = 0
  · rw [if_pos hc] at hi
    unfold spanL at hi
    obtain ⟨j, _, rfl⟩ := List.mem_map.1 hi
    exact with_all h hc (Nat.mod_lt _ s.n_pos) m
  · rw [if_neg hc] at hi; exact with_rest h hm hat hi
theorem with_row {s : Sp} {m : Nat} (hm : m < s.n) {i : Nat} (hi : i ∈ rowL s m) : With s m i := by
  unfold rowL at hi
  obtain ⟨j, hj, rfl⟩ := List.mem_map.1 hi
  rw [List.mem_range] at hj
  have hf := fun k (hk : k < rowN s m) => toP_free (fun i => attrAt s.cells (m + i)) _ k hk
  have hle := rowN_le hm
  refine ⟨by omega, hf j hj, ?_⟩
  have key : ∀ k, k < rowN s m → startS s.cells (m + k) = startS s.cells m := by
    intro k
    induction k with
    | zero => intro _; rfl
    | succ k ih =>
      intro hk
      rw [← ih (by omega)]
      have e := hf (k + 1) hk
      show lastA _ _ (m + k + 1 + 1) = _
      rw [lastA, show m + k + 1 = m + (k + 1) from rfl, e]
      rfl
  exact key j hj
/-- What may be entered at the cursor. -/
def Acc (n : Int) (s : Sp) (x : UInt8) : Prop := (okF s s.cursor && (fofF s s.cursor).num && !(numB n x)) = false ∨ detB (fofF s s.cursor) = true
/-- What the small steps keep. -/
structure Clo (n : Int) (s : Sp) (er : Prop) (P : Sp → Prop) : Prop where
  keep : ∀ t, P t → KeepA s t
  prot : ∀ t, P t → ∀ a, a < s.n → attrAt s.cells a = true → (fldAt t a).prot = (fldAt s a).prot
  place : ∀ t k, P t → P (t.place k)
  null : ∀ t (i : Nat), P t → i < s.n → openS s i = true → P (t.put i 0)
  put : ∀ t (i : Nat) x, P t → With s s.cursor i → openS s i = true → (Acc n s x ∨ ∃ j : Nat, With s s.cursor j ∧ x = (t.at j).char) → P (t.put i x)
  ent : ∀ t x, P t → openS s s.cursor = true → Acc n s x → P (setE t s.cursor x)
  mod : ∀ t, P t → P (modS t s.cursor)
  unmod : er → ∀ t (a : Nat), P t → a < s.n → attrAt s.cells a = true → (fldAt s a).prot = false → P (unmod1 t a)
variable {n : Int} {s t : Sp} {er : Prop} {P : Sp → Prop}
theorem Clo.tab (C : Clo n s er P) (h : P t) : P (tabS t) := C.place _ _ h
theorem Clo.after (C : Clo n s er P) (h : P t) : P (afterS t) := by
  unfold afterS
  split
  · exact C.place _ _ h
  · split
    · exact C.place _ _ (C.place _ _ h)
    · exact C.place _ _ (C.place _ _ h)
theorem Clo.ents (C : Clo n s er P) (h : P t) (ho : openS s s.cursor = true) {x : UInt8} (hx : Acc n s x) : P (entS t s.cursor x) := by
  have h1 := C.mod _ (C.ent t x h ho hx)
  unfold entS
  split
  · exact C.tab h1
  · exact C.after h1
theorem getD_mem {L : List Nat} {k : Nat} (h : k < L.length) : L[k]?.getD 0 ∈ L := by rw [List.getElem?_eq_getElem h]; exact List.getElem_mem h
theorem Clo.delp (C : Clo n s er P) {L : List Nat} (hL : ∀ i ∈ L, With s s.cursor i) (ho : openS s s.cursor = true) (h : P s) : ∀ k, k ≤ L.length → P (delTo s L k)
  | 0, _ => h
  | k + 1, hk => by
    have h1 := C.delp hL ho h k (by omega)
    have hw := hL _ (getD_mem (show k < L.length by omega))
    unfold delTo
    split
    · next h2 => exact C.put _ _ _ h1 hw (hw.open ho) (.inr ⟨_, hL _ (getD_mem h2), rfl⟩)
    · exact C.null _ _ h1 hw.lt (hw.open ho)
theorem Clo.insp (C : Clo n s er P) {L : List Nat} (hL : ∀ i ∈ L, With s s.cursor i) (ho : openS s s.cursor = true) (h : P s) {e : Nat} (he : e < L.length) : ∀ k, k ≤ e → P (insTo s L e k)
  | 0, _ => h
  | k + 1, hk => by
    have h1 := C.insp hL ho h he k (by omega)
    have hw := hL _ (getD_mem (show e - k < L.length by omega))
    unfold insTo
    exact C.put _ _ _ h1 hw (hw.open ho) (.inr ⟨_, hL _ (getD_mem (by omega)), rfl⟩)
theorem Clo.inss (C : Clo n s er P) (hg : s.good) (h : P s) {x : UInt8} (hx : Acc n s x) : P (insS s s.cursor x).1 := by
  unfold insS
  split
  · next hc =>
    obtain ⟨ho, he⟩ := hc
    have hL : ∀ i ∈ roundL s s.cursor, With s s.cursor i := fun i hi => with_round hg hg.cursor (open_attr ho) hi
    have hw := hL _ (getD_mem (show 0 < (roundL s s.cursor).length by omega))
    exact C.mod _ (C.put _ _ _ (C.insp hL ho h he _ (Nat.le_refl _)) hw (hw.open ho) (.inl hx))
  · exact h
variable {B : Bd}
theorem Clo.enter {er : Prop} (C : Clo n B.s er P) (hg : B.s.good) (h : P B.s) (c : UInt8) : P (enterB n B c).1.s := by
  unfold enterB
  split
  · exact h
  · next ho =>
    have ho : openS B.s B.s.cursor = true := by simpa using ho
    split
    · exact h
    · next hn =>
      have hx : Acc n B.s c := .inl (by simpa using hn)
      split
      · split
        · exact h
        · exact C.ents (C.inss hg h hx) ho hx
      · exact C.ents h ho hx
theorem Clo.char (C : Clo n B.s er P) (hg : B.s.good) (h : P B.s) (sg : Int) : P (charB n B sg).1.s := by
  unfold charB
  split
  · exact C.enter hg h _
  · exact h
theorem Clo.del (C : Clo n s er P) (hg : s.good) (h : P s) : P (delS s s.cursor) := by
  unfold delS
  split
  · next ho => exact C.mod _ (C.delp (fun i hi => with_row hg.cursor hi) ho h _ (Nat.le_refl _))
  · exact h
theorem open_field {s : Sp} {a i : Nat} (hf : (fldAt s a).prot = false) (h1 : attrAt s.cells i = false) (h2 : startS s.cells i = (a : Nat)) : openS s i = true := by
  unfold openS; rw [h1, h2]; simp [hf]
theorem put_attr {s : Sp} {k : Int} {x : UInt8} (h : (s.at k).attr = true) : s.put k x = s := by unfold Sp.put; rw [if_pos h]
theorem put_wrap (s : Sp) (k : Int) (x : UInt8) : s.put k x = s.put ((wrap s.n k : Nat) : Int) x := by
  have h1 : wrap s.n ((wrap s.n k : Nat) : Int) = wrap s.n k := wrap_of_lt (wrap_lt s.n_pos k)
  unfold Sp.put Sp.set Sp.at
  rw [h1]
theorem at_attr {s : Sp} {i : Nat} (hi : i < s.n) : (s.at (i : Nat)).attr = attrAt s.cells i := by unfold Sp.at attrAt; rw [wrap_of_lt hi]
theorem Clo.choose (C : Clo n B.s er P) (hg : B.s.good) (h : P B.s) : P (chooseB n B).1.s := by
  unfold chooseB
  dsimp only
  split
  · exact h
  · next h1 =>
    have h1 : (!okF B.s B.s.cursor || (B.s.at (B.s.cursor : Nat)).attr || !detB (fofF B.s B.s.cursor)) = false := by simpa using h1
    simp only [Bool.or_eq_false_iff, Bool.not_eq_false'] at h1
    obtain ⟨⟨h1, h2⟩, h3⟩ := h1
    rw [at_attr hg.cursor] at h2
    obtain ⟨a, ha, hlt⟩ := start_lt hg hg.cursor h1
    have hc : ¬ B.s.count = 0 := fun e => by rw [startS_none e] at ha; omega
    obtain ⟨a', hf⟩ := in_field hg hg.cursor hc h2
    have haa : a' = a := by have := hf.start; rw [ha] at this; omega
    subst haa
    have hputs : (fofF B.s B.s.cursor).prot = false → ∀ x, P (B.s.put ((a' : Int) + 1) x) := fun hp x => by
      rw [put_wrap]
      have hw1 : wrap B.s.n ((a' : Int) + 1) = (a' + 1) % B.s.n := by unfold wrap; rw [← Int.natCast_one, ← Int.natCast_add, ← Int.natCast_emod, Int.toNat_natCast]
      have hlt1 : (a' + 1) % B.s.n < B.s.n := Nat.mod_lt _ B.s.n_pos
      rw [hw1]
      cases e : attrAt B.s.cells ((a' + 1) % B.s.n)
      · have hs : startS B.s.cells ((a' + 1) % B.s.cells.length) = (a' : Nat) := by
          have hge : 1920 ≤ B.s.n := by have := dims_bound B.s.model B.s.alt; unfold Sp.n Sp.rows Sp.cols; omega
          refine startS_in hf.attr (by rw [hg.len]; exact hlt) (by rw [hg.len]; omega) fun j h4 h5 => ?_
          rw [show j = 1 from by omega, hg.len]; exact e
        rw [hg.len] at hs
        have hw : With B.s B.s.cursor ((a' + 1) % B.s.n) := ⟨hlt1, e, by rw [hs, hf.start]⟩
        refine C.put _ _ _ h hw ?_ (.inl (.inr h3))
        refine open_field ?_ e hs
        unfold fofF at hp
        rw [ha] at hp
        simpa using hp
      · rw [put_attr (by rw [at_attr hlt1]; exact e)]; exact h
    rw [ha]
    split
    · exact h
    · next hd =>
      have hp : desigN n (B.s.at ((a' : Int) + 1)).char < 3 → (fofF B.s B.s.cursor).prot = false := fun hl => by
        cases e : (fofF B.s B.s.cursor).prot
        · rfl
        · exact absurd (.inr ⟨hl, e⟩) hd
      split
      · next e => exact C.mod _ (hputs (hp (by omega)) _)
      · split
        · next e => exact hputs (hp (by omega)) _
        · exact C.mod _ h
end Go.Proofs.YtlmdbcgceijlnaaGreat
/-
  No key changes what is protected: the plain law.
-/
namespace Go.Proofs.YtlmdbcgceijlnaaGreat
open Go Go.AL Go.Sp

def cellAt (s : Sp) (i : Nat) : Cell := s.cells[i]?.getD .zero
theorem cellAt_fit {s : Sp} (h : s.good) (i : Nat) : Sp.fit (cellAt s i) = cellAt s i := by
  unfold cellAt
  cases hx : s.cells[i]? with
  | none => rfl
  | some c => exact h.fit c (List.mem_of_getElem? hx)
theorem cellAt_at {s : Sp} {k : Nat} (hk : k < s.n) : s.at (k : Int) = cellAt s k := by
  unfold Sp.at cellAt
  rw [show wrap s.n (k : Int) = k from wrap_of_lt hk]
theorem cellAt_set {s : Sp} (h : s.good) {k : Nat} (hk : k < s.n) (c : Cell) (i : Nat) : cellAt (s.set (k : Int) c) i = if i = k then Sp.fit c else cellAt s i := by
  have hw : wrap s.n (k : Int) = k := wrap_of_lt hk
  have hl := h.len
  unfold cellAt Sp.set Sp.put1
  rw [hw]
  simp only
  rw [List.getElem?_set]
  by_cases e : k = i
  · subst e; simp [show k < s.cells.length by omega]
  · rw [if_neg e, if_neg (fun x => e x.symm)]
theorem cellAt_put {s : Sp} (h : s.good) {k : Nat} (hk : k < s.n) (hat : attrAt s.cells k = false) (x : UInt8) (i : Nat) : cellAt (s.put (k : Int) x) i = if i = k then { cellAt s i with char := x } else cellAt s i := by
  have hf := cellAt_fit h k
  have ha : ¬ (cellAt s k).attr = true := by have e : attrAt s.cells k = (cellAt s k).attr := rfl; rw [← e, hat]; simp
  unfold Sp.put
  rw [cellAt_at hk, if_neg ha, cellAt_set h hk]
  by_cases e : i = k
  · rw [if_pos e, if_pos e, e]
    unfold Sp.fit at hf ⊢
    rw [if_neg ha] at hf
    simp only
    rw [if_neg ha]
    have : (cellAt s k).fa = 0 := by rw [← hf]
    rw [this]
  · rw [if_neg e, if_neg e]
theorem keep_put {s t : Sp} (h : KeepA s t) (i : Int) (x : UInt8) : KeepA s (t.put i x) := by
  refine ⟨h.same.put _ _, fun j => ?_⟩
  unfold Sp.put
  split
  · exact h.attr j
  · next ha =>
    rw [attrAt_set h.same.1]
    split
    · next e => rw [← h.attr j, e]; unfold Sp.at attrAt; rfl
    · exact h.attr j
theorem six_or1 (b : UInt8) : Sp.six b = b → Sp.six (b ||| 1) = b ||| 1 := all_bytes (p := fun b => Sp.six b = b → Sp.six (b ||| 1) = b ||| 1) (by decide +kernel) b
theorem mk1_fit {c : Cell} (h : Sp.fit c = c) (ha : c.attr = true) : Sp.fit (mk1 c) = mk1 c := by
  unfold Sp.fit at h ⊢
  rw [if_pos ha] at h
  have hc : (mk1 c).attr = true := ha
  rw [if_pos hc]
  have h1 : c.char = 0 := by rw [← h]
  have h2 : Sp.six c.fa = c.fa := congrArg Cell.fa h
  unfold mk1
  simp only
  rw [six_or1 _ h2, h1]
/-- An attribute is set as modified: where the field starts that has the place. -/
theorem start_attr {s : Sp} (h : s.good) {n : Nat} (hn : n < s.n) (hc : ¬ startS s.cells n = -1) : ∃ a, startS s.cells n = (a : Nat) ∧ a < s.n ∧ attrAt s.cells a = true := by
  have h0 : ¬ s.count = 0 := fun e => hc (startS_none e n)
  cases hat : attrAt s.cells n
  · obtain ⟨a, ha⟩ := in_field h hn h0 hat
    exact ⟨a, ha.start, ha.lt, ha.attr⟩
  · exact ⟨n, startS_attr hat, hn, hat⟩
theorem cellAt_mod {s : Sp} (h : s.good) {n : Nat} (hn : n < s.n) (i : Nat) : cellAt (modS s n) i = if startS s.cells n = (i : Nat) then mk1 (cellAt s i) else cellAt s i := by
  unfold modS
  by_cases hc : startS s.cells n = -1
  · rw [if_pos hc, hc, if_neg (by omega)]
  · rw [if_neg hc]
    obtain ⟨a, e, ha, hat⟩ := start_attr h hn hc
    rw [e, cellAt_at ha, cellAt_set h ha]
    by_cases e2 : i = a
    · rw [if_pos e2, if_pos (by rw [e2]), e2, mk1_fit (cellAt_fit h a) hat]
    · rw [if_neg e2, if_neg (by omega)]
theorem keep_mod {s t : Sp} (h : KeepA s t) (hs : s.good) {n : Nat} (hn : n < s.n) : KeepA s (modS t n) := by
  refine ⟨h.same.trans (modS_same h.same.1 n), fun j => ?_⟩
  rw [← h.attr j]
  have e : ∀ (u : Sp) j, attrAt u.cells j = (cellAt u j).attr := fun _ _ => rfl
  rw [e, e, cellAt_mod h.same.1 (by rw [h.same.n]; exact hn)]
  split <;> rfl
theorem prot_mk1 (c : Cell) : (fld (mk1 c).fa).prot = (fld c.fa).prot := all_bytes (p := fun b => (fld (b ||| 1)).prot = (fld b).prot) (by decide +kernel) c.fa
theorem prot_clr (c : Cell) : (fld (clr c).fa).prot = (fld c.fa).prot := all_bytes (p := fun b => (fld (b &&& 0xfe)).prot = (fld b).prot) (by decide +kernel) c.fa
def bit1 (c : Cell) : Bool := c.fa &&& 1 == 1
theorem bit_mk1 (c : Cell) : bit1 (mk1 c) = true := all_bytes (p := fun b => ((b ||| 1) &&& 1 == (1 : UInt8)) = true) (by decide +kernel) c.fa
/-- What stays as it was where it is protected. -/
structure Safe (s : Sp) (er : Prop) (t : Sp) : Prop where
  keep : KeepA s t
  attr : ∀ a, a < s.n → attrAt s.cells a = true → mk1 (cellAt t a) = mk1 (cellAt s a)
  grew : ∀ a, a < s.n → attrAt s.cells a = true → bit1 (cellAt s a) = false → bit1 (cellAt t a) = true → startS s.cells s.cursor = (a : Nat)
  fell : ∀ a, a < s.n → attrAt s.cells a = true → bit1 (cellAt s a) = true → bit1 (cellAt t a) = false → er ∧ (fldAt s a).prot = false
  safe : ∀ i, i < s.n → attrAt s.cells i = false → openS s i = false → cellAt t i = cellAt s i
theorem Safe.refl {s : Sp} (h : s.good) (er : Prop) : Safe s er s := ⟨KeepA.refl h, fun _ _ _ => rfl, fun _ _ _ h1 h2 => (by rw [h1] at h2; cases h2), fun _ _ _ h1 h2 => (by rw [h1] at h2; cases h2), fun _ _ _ _ => rfl⟩
theorem Safe.one {s t u : Sp} {er : Prop} (h : Safe s er t) {i : Nat} (hk : KeepA s u) (ho : openS s i = true) (hc : ∀ j, ¬ j = i → cellAt u j = cellAt t j) : Safe s er u := by
  have hat := open_attr ho
  have ne : ∀ a, attrAt s.cells a = true → ¬ a = i := fun a ha e => by subst e; rw [hat] at ha; cases ha
  refine ⟨hk, fun a h1 h2 => ?_, fun a h1 h2 h3 h4 => ?_, fun a h1 h2 h3 h4 => ?_, fun j h1 h2 h3 => ?_⟩
  · rw [hc a (ne a h2)]; exact h.attr a h1 h2
  · rw [hc a (ne a h2)] at h4; exact h.grew a h1 h2 h3 h4
  · rw [hc a (ne a h2)] at h4; exact h.fell a h1 h2 h3 h4
  · rw [hc j (fun e => by subst e; rw [ho] at h3; cases h3)]; exact h.safe j h1 h2 h3
end Go.Proofs.YtlmdbcgceijlnaaGreat
/-
  The document's keyboard: where a field starts, what is modified, the designator, what is refused, what is sent.
-/
namespace Go.Proofs.YtlmdbcgceijlnaaGreat
open Go Go.AL Go.Sp
variable {σ : Store} {c x y : Nat} {n : Int} {D : Bd}

theorem or1_at {b x : UInt8} (h : b ||| 1 = x) : pureBin .or (.int .u8 (b.toNat : Int)) (.int .u8 1) = some (.int .u8 (x.toNat : Int)) := by rw [← h]; exact or_u8 b 1
set_option maxRecDepth 8000 in
theorem rstart_calls {s : Sp} (h : Ref σ x y s) {i : Nat} (hi : i < s.n) : ACalls Tryz.prog 103 [ptrA x, .lit (.int .i64 i)] σ fun v σ' => v = .lit (.int .i64 (startS s.cells i)) ∧ σ' = σ := by
  have hst := starts_calls h
  have hwr := fun τ (hτ : Ref τ x y s) => rswrap_calls hτ (i : Int)
  have hat := starts_at (s := s) hi
  refine ACalls.of_awp follows (st := st103) (plans := pl103) (n := 12) Tryz.func103 rfl (by kernel_rfl) (by kernel_rfl) (by kernel_rfl) ?_
  simp
  refine callK.of hst ?_
  rintro v τ ⟨p, hp, rfl, rfl⟩
  simp
  refine callK.of (hwr _ (h.new hp _)) ?_
  rintro v τ ⟨rfl, rfl⟩
  rw [wrap_of_lt hi]
  simp [rowC, hi, hat]
  exact Store.sub_upd hp (Store.sub_refl _)
set_option maxRecDepth 8000 in
theorem rdesig_calls (hn : isPage n) (b : UInt8) (σ : Store) : ACalls Tryz.prog 116 [.lit (.int .i64 n), byteA b] σ fun v σ' => v = .lit (.int .i64 (desigN n b)) ∧ σ' = σ := by
  have hs := rsign_calls n hn b σ
  have h0 : sgF n 0 = 0 := by rcases hn with rfl | rfl | rfl | rfl | rfl | rfl <;> decide +kernel
  have hb : ∀ b' : UInt8, b'.toNat = 0 → b' = 0 := fun b' e => UInt8.toNat_inj.1 e
  refine ACalls.of_awp follows (st := st116) (plans := pl116) (n := 25) Tryz.func116 rfl (by kernel_rfl) (by kernel_rfl) (by kernel_rfl) ?_
  simp only [byteA] at hs ⊢
  simp
  refine callK.of hs ?_
  rintro v τ ⟨rfl, rfl⟩
  unfold desigN
  by_cases hz : b = 0
  · subst hz
    have e0 : (0 : UInt8).toNat = 0 := rfl
    rw [e0, h0, if_pos rfl]
    simp
  · have hz' : ¬ b.toNat = 0 := fun e => hz (hb b e)
    have hz2 : ¬ (b.toNat : Int) = 0 := by omega
    rw [if_neg hz]
    generalize sgF n b.toNat = sg at *
    by_cases h1 : sg = 63
    · subst h1; simp
    · have h1' : ¬ (sg : Int) = 63 := by omega
      by_cases h2 : sg = 62
      · subst h2; simp
      · have h2' : ¬ (sg : Int) = 62 := by omega
        by_cases h3 : sg = 32
        · subst h3; simp [hz', hz2]
        · have h3' : ¬ (sg : Int) = 32 := by omega
          by_cases h4 : sg = 38
          · subst h4; simp [hz', hz2]
          · have h4' : ¬ (sg : Int) = 38 := by omega
            simp [h1, h2, h3, h4, h1', h2', h3', h4', hz', hz2]
set_option maxRecDepth 8000 in
theorem rmodify_calls {s : Sp} (h : Ref σ x y s) {i : Nat} (hi : i < s.n) : ACalls Tryz.prog 106 [ptrA x, .lit (.int .i64 i)] σ fun v σ' => v = .lit (.bool (decide (0 ≤ startS s.cells i))) ∧ σ' = putS rfO σ x y (modS s i) := by
  have hst := rstart_calls h hi
  have ho := h.obj
  have hr := h.row
  unfold rfO at ho
  by_cases hc : startS s.cells i = -1
  · unfold modS
    rw [if_pos hc, h.put_self]
    rw [hc] at hst
    rw [hc]
    refine ACalls.of_awp follows (st := st106) (plans := pl106) (n := 27) Tryz.func106 rfl (by kernel_rfl) (by kernel_rfl) (by kernel_rfl) ?_
    simp
    refine callK.of hst ?_
    rintro v τ ⟨rfl, rfl⟩
    simp
  · obtain ⟨a, ha, hal, hat⟩ := start_attr h.good hi hc
    have hse := fun τ (hτ : Ref τ x y s) cc => rset_calls hτ (a : Int) cc
    have hln := h.good.len
    have hac : a < s.cells.length := by omega
    have hgj := cellsO_get hac
    have hce : s.cells[a] = cellAt s a := by unfold cellAt; rw [List.getElem?_eq_getElem hac]; rfl
    have hms : modS s i = s.set (a : Nat) (mk1 (cellAt s a)) := by unfold modS; rw [if_neg hc, ha, cellAt_at hal]
    rw [hms]
    have hcx : cellC (cellAt s a) = [byteA (cellAt s a).char, .lit (.bool (cellAt s a).attr), byteA (cellAt s a).fa, byteA (cellAt s a).high, byteA (cellAt s a).color, byteA (cellAt s a).set] := rfl
    rw [hce, hcx] at hgj
    have hcl6 := cellsO_length s.cells
    have hle6 : a * 6 + 6 ≤ (cellsO s.cells).length := by omega
    rw [ha] at hst ⊢
    have hse1 : ∀ τ, Ref τ x y s → ACalls Tryz.prog 58 [ptrA x, .lit (.int .i64 a), .agg [.lit (.int .u8 ((cellAt s a).char.toNat : Int)), .lit (.bool (cellAt s a).attr), .lit (.int .u8 (((cellAt s a).fa ||| 1).toNat : Int)), .lit (.int .u8 ((cellAt s a).high.toNat : Int)), .lit (.int .u8 ((cellAt s a).color.toNat : Int)), .lit (.int .u8 ((cellAt s a).set.toNat : Int))]] τ
        (fun v σ' => v = .tuple [] ∧ σ' = putS rfO τ x y (s.set a (mk1 (cellAt s a)))) := fun τ hτ => by
      have := hse τ hτ (mk1 (cellAt s a))
      rw [cellA_eq] at this
      exact this
    simp only [byteA] at hgj
    have hor := or1_at (rfl : (cellAt s a).fa ||| 1 = (cellAt s a).fa ||| 1)
    refine ACalls.of_awp follows (st := st106) (plans := pl106) (n := 27) Tryz.func106 rfl (by kernel_rfl) (by kernel_rfl) (by kernel_rfl) ?_
    generalize hm1 : mk1 (cellAt s a) = mc at *
    generalize (cellAt s a).fa ||| 1 = w at *
    generalize cellAt s a = cl at *
    simp
    refine callK.of hst ?_
    rintro v τ ⟨rfl, rfl⟩
    simp [-e_pureBin_8, -e_pureBin_9, ho, hr, rowC, hal, hle6, hgj, hor]
    intro b hb
    obtain ⟨b1, b2, b3, b4⟩ := h.fresh hb
    refine callK.of (hse1 _ (h.new hb _)) ?_
    rintro v τ2 ⟨rfl, rfl⟩
    simp
    rw [putS_upd _ _ b3 b4]
    refine Store.sub_upd ?_ (Store.sub_refl _)
    simp [putS, b3, b4, hb]
end Go.Proofs.YtlmdbcgceijlnaaGreat
/-
  Into a numeric field only what is numeric comes: the plain law.
-/
namespace Go.Proofs.YtlmdbcgceijlnaaGreat
open Go Go.AL Go.Sp

def nmActs : List Sp.Act := [{ what := 3, n := 0, on := false, code := 0x10, c := .zero, text := [] }, { what := 3, n := 30, on := false, code := 0x30, c := .zero, text := [] }, { what := 1, n := 1, on := false, code := 0, c := .zero, text := [] }]
/-- A numeric field of 29 places, and a protected one. -/
structure Numr (n : Int) (s : Sp) : Prop where
  good : s.good
  attr : ∀ i, i < s.n → (attrAt s.cells i = true ↔ i = 0 ∨ i = 30)
  f0 : (fldAt s 0).num = true ∧ (fldAt s 0).disp = 0 ∧ (fldAt s 0).prot = false
  f30 : (fldAt s 30).prot = true ∧ (fldAt s 30).disp = 0
  char : ∀ i, 1 ≤ i → i < 30 → (cellAt s i).char = 0 ∨ numB n (cellAt s i).char = true
theorem n_big (s : Sp) : 1920 ≤ s.n := by have := dims_bound s.model s.alt; unfold Sp.n Sp.rows Sp.cols; omega
theorem Numr.lo {n : Int} {s : Sp} (h : Numr n s) {i : Nat} (hi : i < 30) : startS s.cells i = 0 := by
  have hb := n_big s
  have h0 : attrAt s.cells 0 = true := (h.attr 0 (by omega)).2 (.inl rfl)
  have := lastA_at (l := s.cells) (init := lastA s.cells (-1) s.cells.length) h0 (m := i + 1) (by omega) fun j h1 h2 => by
    cases e : attrAt s.cells j
    · rfl
    · have := (h.attr j (by omega)).1 e; omega
  exact this
theorem Numr.hi {n : Int} {s : Sp} (h : Numr n s) {i : Nat} (h1 : 30 ≤ i) (hi : i < s.n) : startS s.cells i = 30 := by
  have hb := n_big s
  have h0 : attrAt s.cells 30 = true := (h.attr 30 (by omega)).2 (.inr rfl)
  have := lastA_at (l := s.cells) (init := lastA s.cells (-1) s.cells.length) h0 (m := i + 1) (by omega) fun j h1 h2 => by
    cases e : attrAt s.cells j
    · rfl
    · have := (h.attr j (by omega)).1 e; omega
  exact this
theorem num_mk1 (c : Cell) : (fld (mk1 c).fa).num = (fld c.fa).num ∧ (fld (mk1 c).fa).disp = (fld c.fa).disp := all_bytes (p := fun b => (fld (b ||| 1)).num = (fld b).num ∧ (fld (b ||| 1)).disp = (fld b).disp) (by decide +kernel) c.fa
theorem num_clr (c : Cell) : (fld (clr c).fa).num = (fld c.fa).num ∧ (fld (clr c).fa).disp = (fld c.fa).disp := all_bytes (p := fun b => (fld (b &&& 0xfe)).num = (fld b).num ∧ (fld (b &&& 0xfe)).disp = (fld b).disp) (by decide +kernel) c.fa
/-- Only one place is written. -/
theorem Numr.one {n : Int} {t u : Sp} (h : Numr n t) {i : Nat} (hk : KeepA t u) (hi : attrAt t.cells i = false) (hit : i < t.n) (hc : ∀ j, ¬ j = i → cellAt u j = cellAt t j)
    (hx : 1 ≤ i → i < 30 → (cellAt u i).char = 0 ∨ numB n (cellAt u i).char = true) : Numr n u := by
  have hb := n_big t
  have hz : ∀ j, attrAt t.cells j = true → fldAt u j = fldAt t j := fun j ha => by
    show fld (cellAt u j).fa = fld (cellAt t j).fa
    rw [hc j fun e => by subst e; rw [hi] at ha; cases ha]
  refine ⟨hk.same.1, fun j hj => ?_, ?_, ?_, fun j h1 h2 => ?_⟩
  · rw [hk.attr]; exact h.attr j (by rw [← hk.same.n]; exact hj)
  · rw [hz 0 ((h.attr 0 (by omega)).2 (.inl rfl))]; exact h.f0
  · rw [hz 30 ((h.attr 30 (by omega)).2 (.inr rfl))]; exact h.f30
  · by_cases e : j = i
    · subst e; exact hx h1 h2
    · rw [hc j e]; exact h.char j h1 h2
/-- Only how an attribute is modified changes. -/
theorem Numr.fa {n : Int} {t u : Sp} (h : Numr n t) (hk : KeepA t u) (hc : ∀ j, cellAt u j = cellAt t j ∨ attrAt t.cells j = true ∧ (cellAt u j = mk1 (cellAt t j) ∨ cellAt u j = clr (cellAt t j))) : Numr n u := by
  have hb := n_big t
  have hz : ∀ j, (fldAt u j).num = (fldAt t j).num ∧ (fldAt u j).disp = (fldAt t j).disp ∧ (fldAt u j).prot = (fldAt t j).prot := fun j => by
    show (fld (cellAt u j).fa).num = (fld (cellAt t j).fa).num ∧ (fld (cellAt u j).fa).disp = (fld (cellAt t j).fa).disp ∧ (fld (cellAt u j).fa).prot = (fld (cellAt t j).fa).prot
    rcases hc j with e | ⟨_, e | e⟩
    · rw [e]; exact ⟨rfl, rfl, rfl⟩
    · rw [e]; exact ⟨(num_mk1 _).1, (num_mk1 _).2, prot_mk1 _⟩
    · rw [e]; exact ⟨(num_clr _).1, (num_clr _).2, prot_clr _⟩
  refine ⟨hk.same.1, fun j hj => ?_, ?_, ?_, fun j h1 h2 => ?_⟩
  · rw [hk.attr]; exact h.attr j (by rw [← hk.same.n]; exact hj)
  · rw [(hz 0).1, (hz 0).2.1, (hz 0).2.2]; exact h.f0
  · rw [(hz 30).2.2, (hz 30).2.1]; exact h.f30
  · rcases hc j with e | ⟨e, _⟩
    · rw [e]; exact h.char j h1 h2
    · have := (h.attr j (by omega)).1 e; omega
theorem Numr.place {n : Int} {t : Sp} (h : Numr n t) (k : Int) : Numr n (t.place k) := ⟨h.good.place k, h.attr, h.f0, h.f30, h.char⟩
theorem Numr.okF {n : Int} {s : Sp} (h : Numr n s) : okF s s.cursor = true ∧ detB (fofF s s.cursor) = false ∧ (s.cursor < 30 → (fofF s s.cursor).num = true) := by
  have hc := h.good.cursor
  by_cases h3 : s.cursor < 30
  · have e := h.lo h3
    unfold Go.Proofs.YtlmdbcgceijlnaaGreat.okF fofF
    rw [e]
    refine ⟨rfl, ?_, fun _ => h.f0.1⟩
    show detB (fldAt s 0) = false
    unfold detB; rw [h.f0.2.1]; rfl
  · have e := h.hi (by omega) hc
    unfold Go.Proofs.YtlmdbcgceijlnaaGreat.okF fofF
    rw [e]
    refine ⟨rfl, ?_, fun h => absurd h h3⟩
    show detB (fldAt s 30) = false
    unfold detB; rw [h.f30.2]; rfl
theorem Numr.acc {n : Int} {s : Sp} (h : Numr n s) {x : UInt8} (ha : Acc n s x) (hc : s.cursor < 30) : numB n x = true := by
  obtain ⟨h1, h2, h3⟩ := h.okF
  rcases ha with ha | ha
  · rw [h1, h3 hc] at ha; simpa using ha
  · rw [h2] at ha; cases ha
end Go.Proofs.YtlmdbcgceijlnaaGreat
