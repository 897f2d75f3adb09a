/-
  A text that is typed into a field stands there: the plain law.
-/
import Derived.Test.YtlmdbcgceijlnaaGreatTPart22
namespace Go.Proofs.YtlmdbcgceijlnaaGreat
open Go Go.AL Go.Sp

/-- A field of k places, of which the first ones have been typed. -/
structure Tpd (k : Nat) (cs : List UInt8) (s : Sp) : Prop where
  k1 : 1 ≤ k
  k20 : k ≤ 20
  good : s.good
  two : s.model = 2 ∧ s.alt = false
  attr : ∀ i, i < s.n → (attrAt s.cells i = true ↔ i = 0 ∨ i = k + 1)
  f0 : (fldAt s 0).num = false ∧ (fldAt s 0).prot = false
  fk : (fldAt s (k + 1)).num = true ∧ (fldAt s (k + 1)).prot = true
  le : cs.length ≤ k
  char : ∀ i, i < k → (cellAt s (i + 1)).char = cs[i]?.getD 0
  nz : ∀ c ∈ cs, ¬ c = 0
  cur : s.cursor = cs.length % k + 1
  fa : if cs = [] then (cellAt s 0).fa = 0 else (cellAt s 0).fa = 1
theorem Tpd.n {k : Nat} {cs : List UInt8} {s : Sp} (h : Tpd k cs s) : s.n = 1920 := by
  unfold Sp.n Sp.rows Sp.cols; rw [h.two.1, h.two.2]; rfl
theorem Tpd.lo {k : Nat} {cs : List UInt8} {s : Sp} (h : Tpd k cs s) {i : Nat} (hi : i ≤ k) : startS s.cells i = 0 := by
  have hn := h.n
  have := h.k20
  have h0 : attrAt s.cells 0 = true := (h.attr 0 (by omega)).2 (.inl rfl)
  have := lastA_at (l := s.cells) (init := lastA s.cells (-1) s.cells.length) h0 (m := i + 1) (by omega) fun j h1 h2 => by
    cases e : attrAt s.cells j
    · rfl
    · have := (h.attr j (by omega)).1 e; omega
  exact this
theorem Tpd.hi {k : Nat} {cs : List UInt8} {s : Sp} (h : Tpd k cs s) {i : Nat} (h1 : k + 1 ≤ i) (hi : i < s.n) : startS s.cells i = (k + 1 : Nat) := by
  have hn := h.n
  have := h.k20
  have h0 : attrAt s.cells (k + 1) = true := (h.attr (k + 1) (by omega)).2 (.inr rfl)
  have := lastA_at (l := s.cells) (init := lastA s.cells (-1) s.cells.length) h0 (m := i + 1) (by omega) fun j h1 h2 => by
    cases e : attrAt s.cells j
    · rfl
    · have := (h.attr j (by omega)).1 e; omega
  exact this
theorem Tpd.cursor {k : Nat} {cs : List UInt8} {s : Sp} (h : Tpd k cs s) : 1 ≤ s.cursor ∧ s.cursor ≤ k ∧ attrAt s.cells s.cursor = false ∧ startS s.cells s.cursor = 0 ∧ openS s s.cursor = true ∧ (okF s s.cursor && (fofF s s.cursor).num) = false := by
  have hn := h.n
  have h20 := h.k20
  have h1 := h.k1
  have hm : cs.length % k < k := Nat.mod_lt _ h1
  have hc := h.cur
  have hat : attrAt s.cells s.cursor = false := by
    cases e : attrAt s.cells s.cursor
    · rfl
    · have := (h.attr s.cursor (by omega)).1 e; omega
  have hst := h.lo (i := s.cursor) (by omega)
  refine ⟨by omega, by omega, hat, hst, ?_, ?_⟩
  · unfold openS; rw [hat, hst]
    show (!false && !(_ && (fldAt s 0).prot)) = true
    rw [h.f0.2]; simp
  · unfold okF fofF; rw [hst]
    show (_ && (fldAt s 0).num) = false
    rw [h.f0.1]; simp
theorem move1 : ∀ n : Nat, n < 22 → moveN 24 80 (n : Int) 0 1 = n + 1 := by decide +kernel
/-- The cursor goes on, and round. -/
theorem after_typ {k c : Nat} {t : Sp} (hg : t.good) (h1 : 1 ≤ k) (h20 : k ≤ 20) (h2 : t.model = 2 ∧ t.alt = false) (hat : ∀ i, i < t.n → (attrAt t.cells i = true ↔ i = 0 ∨ i = k + 1)) (f0 : (fldAt t 0).prot = false) (fk : (fldAt t (k + 1)).num = true ∧ (fldAt t (k + 1)).prot = true)
    (hc : t.cursor = c + 1) (hck : c < k) : (afterS t).cells = t.cells ∧ (afterS t).model = t.model ∧ (afterS t).alt = t.alt ∧ (afterS t).cursor = (c + 1) % k + 1 := by
  have hn : t.n = 1920 := by unfold Sp.n Sp.rows Sp.cols; rw [h2.1, h2.2]; rfl
  have hrc : t.rows = 24 ∧ t.cols = 80 := by unfold Sp.rows Sp.cols; rw [h2.1, h2.2]; exact ⟨rfl, rfl⟩
  have hmv : moveS t 0 1 = t.place ((c + 2 : Nat) : Int) := by unfold moveS; rw [hrc.1, hrc.2, hc, move1 _ (by omega)]
  have hpc : (t.place ((c + 2 : Nat) : Int)).cursor = c + 2 := by show wrap t.n ((c + 2 : Nat) : Int) = c + 2; rw [wrap_of_lt (by omega)]
  have hpa : ∀ i, i < t.n → ((t.place ((c + 2 : Nat) : Int)).at (i : Nat)) = cellAt t i := fun i hi => cellAt_at (s := t.place ((c + 2 : Nat) : Int)) hi
  have hca : ∀ i, (cellAt t i).attr = attrAt t.cells i := fun _ => rfl
  unfold afterS
  rw [hmv, hpc, hpa _ (by omega), hca]
  by_cases he : c + 1 = k
  · have hA : attrAt t.cells (c + 2) = true := (hat _ (by omega)).2 (.inr (by omega))
    rw [hA, if_neg (by simp)]
    have hsk : skipF (fld (cellAt t (c + 2)).fa) = true := by
      have : fld (cellAt t (c + 2)).fa = fldAt t (k + 1) := by rw [show c + 2 = k + 1 from by omega]; rfl
      rw [this]; unfold skipF; rw [fk.1, fk.2]; rfl
    rw [if_pos hsk]
    have hfirst : ∀ j, j < t.n → (firstS (t.place ((c + 2 : Nat) : Int)) j = true ↔ j = 1) := fun j hj => by
      unfold firstS
      rw [hpa j hj, hca]
      have hw : ((t.place ((c + 2 : Nat) : Int)).at ((j : Int) - 1)) = cellAt t ((j + t.n - 1) % t.n) := by
        show t.cells[wrap t.n ((j : Int) - 1)]?.getD .zero = _
        have : wrap t.n ((j : Int) - 1) = (j + t.n - 1) % t.n := by
          unfold wrap
          have : (((j + t.n - 1) % t.n : Nat) : Int) = ((j : Int) - 1) % (t.n : Int) := by
            rw [Int.natCast_emod, show ((j + t.n - 1 : Nat) : Int) = ((j : Int) - 1) + (t.n : Int) from by omega, Int.add_emod_right]
          rw [← this, Int.toNat_natCast]
        rw [this]; rfl
      rw [hw, hca]
      constructor
      · intro h
        simp only [Bool.and_eq_true, Bool.not_eq_true'] at h
        obtain ⟨⟨h3, h4⟩, h5⟩ := h
        have hm : (j + t.n - 1) % t.n < t.n := Nat.mod_lt _ (by omega)
        rcases (hat _ hm).1 h3 with e | e
        · rcases Nat.eq_zero_or_pos j with rfl | hj1
          · rw [Nat.mod_eq_of_lt (by omega)] at e; omega
          · rw [show j + t.n - 1 = (j - 1) + t.n from by omega, Nat.add_mod_right, Nat.mod_eq_of_lt (by omega)] at e; omega
        · rw [e] at h5
          have : fld (cellAt t (k + 1)).fa = fldAt t (k + 1) := rfl
          rw [this, fk.2] at h5; cases h5
      · rintro rfl
        rw [show (1 + t.n - 1) % t.n = 0 from by rw [show 1 + t.n - 1 = t.n from by omega, Nat.mod_self]]
        have e1 : attrAt t.cells 0 = true := (hat 0 (by omega)).2 (.inl rfl)
        have e2 : attrAt t.cells 1 = false := by
          cases e : attrAt t.cells 1
          · rfl
          · have := (hat 1 (by omega)).1 e; omega
        have e3 : (fld (cellAt t 0).fa).prot = false := f0
        rw [e1, e2, e3]; rfl
    have hnx : nextS (t.place ((c + 2 : Nat) : Int)) (c + 2) = 1 := by
      unfold nextS
      rw [show (t.place ((c + 2 : Nat) : Int)).n = t.n from rfl]
      cases hf : (List.range t.n).find? (fun i => firstS (t.place ((c + 2 : Nat) : Int)) ((c + 2 + i + 1) % t.n)) with
      | none =>
        rw [List.find?_eq_none] at hf
        have := hf (t.n - k - 1) (by rw [List.mem_range]; omega)
        rw [show c + 2 + (t.n - k - 1) + 1 = 1 + t.n from by omega, Nat.add_mod_right, Nat.mod_eq_of_lt (by omega)] at this
        exact absurd ((hfirst 1 (by omega)).2 rfl) this
      | some i =>
        have := List.find?_some hf
        have := (hfirst _ (Nat.mod_lt _ (by omega))).1 this
        show (((c + 2 + i + 1) % t.n : Nat) : Int) = 1
        omega
    have htab : tabS (t.place ((c + 2 : Nat) : Int)) = t.place 1 := by
      unfold tabS
      rw [hpc, hnx]; rfl
    rw [htab]
    refine ⟨rfl, rfl, rfl, ?_⟩
    show wrap t.n ((1 : Nat) : Int) = _
    rw [wrap_of_lt (by omega), he, Nat.mod_self]
  · have hA : attrAt t.cells (c + 2) = false := by
      cases e : attrAt t.cells (c + 2)
      · rfl
      · have := (hat _ (by omega)).1 e; omega
    rw [hA, if_pos rfl]
    refine ⟨rfl, rfl, rfl, ?_⟩
    rw [hpc, Nat.mod_eq_of_lt (by omega)]
theorem fa_mk1 (c : Cell) (h : c.fa = 0 ∨ c.fa = 1) : (mk1 c).fa = 1 := by
  unfold mk1; simp only
  rcases h with h | h <;> rw [h] <;> decide
/-- One more character, written at the cursor: first the cell, then that its field is modified. -/
theorem typ_step {k : Nat} {cs : List UInt8} {s t : Sp} {c : UInt8} (h : Tpd k cs s) (hlt : cs.length < k) (hc : ¬ c = 0) (hc2 : ¬ c = 28) (hk : KeepA s t) (hcur : t.cursor = s.cursor)
    (hcell : ∀ j, cellAt t j = cellAt s j ∨ j = s.cursor ∨ (j = 0 ∧ cellAt t j = mk1 (cellAt s j))) : Tpd k (cs ++ [c]) (entS t s.cursor c) := by
  have hn := h.n
  have h20 := h.k20
  obtain ⟨b1, b2, b3, b4, b5, b6⟩ := h.cursor
  have hcc := h.cur
  rw [Nat.mod_eq_of_lt hlt] at hcc
  have htn : t.n = s.n := hk.same.n
  have hat2 : attrAt t.cells s.cursor = false := by rw [hk.attr]; exact b3
  have c1 := cellAt_setE hk.same.1 (k := s.cursor) (by omega) hat2 c
  have k1 := keep_setE hk s.cursor c
  have c2 := fun j => cellAt_mod k1.same.1 (n := s.cursor) (by rw [k1.same.n]; omega) j
  have k2 := keep_mod k1 h.good (n := s.cursor) (by omega)
  rw [k1.start h.good, b4] at c2
  unfold entS
  rw [if_neg hc2]
  have hcur2 : (modS (setE t s.cursor c) s.cursor).cursor = s.cursor := by
    unfold modS; split
    · exact hcur
    · exact hcur
  generalize modS (setE t s.cursor c) s.cursor = u at *
  have hu : ∀ j, cellAt u j = if j = 0 then mk1 (cellAt s 0) else if j = s.cursor then cellE (cellAt t j) c else cellAt s j := fun j => by
    rw [c2, c1]
    by_cases e : j = 0
    · rw [if_pos (by rw [e]; rfl), if_pos e, if_neg (by omega)]
      rcases hcell j with e2 | e2 | ⟨_, e2⟩
      · rw [e2, e]
      · omega
      · rw [e2, mk1_mk1, e]
    · rw [if_neg (by omega), if_neg e]
      by_cases e3 : j = s.cursor
      · rw [if_pos e3, if_pos e3]
      · rw [if_neg e3, if_neg e3]
        rcases hcell j with e2 | e2 | ⟨e2, _⟩
        · exact e2
        · exact absurd e2 e3
        · exact absurd e2 e
  have hua : ∀ i, i < u.n → (attrAt u.cells i = true ↔ i = 0 ∨ i = k + 1) := fun i hi => by rw [k2.attr]; exact h.attr i (by rw [← k2.same.n]; exact hi)
  have hf0 : (fldAt u 0).num = false ∧ (fldAt u 0).prot = false := by
    have : fldAt u 0 = fld (mk1 (cellAt s 0)).fa := by show fld (cellAt u 0).fa = _; rw [hu, if_pos rfl]
    rw [this, (num_mk1 _).1, prot_mk1]; exact h.f0
  have hfk : (fldAt u (k + 1)).num = true ∧ (fldAt u (k + 1)).prot = true := by
    have : fldAt u (k + 1) = fldAt s (k + 1) := by show fld (cellAt u (k + 1)).fa = fld (cellAt s (k + 1)).fa; rw [hu, if_neg (by omega), if_neg (by omega)]
    rw [this]; exact h.fk
  have hum : u.model = 2 ∧ u.alt = false := ⟨by rw [k2.same.2.1]; exact h.two.1, by rw [k2.same.2.2]; exact h.two.2⟩
  obtain ⟨a1, a2, a3, a4⟩ := after_typ k2.same.1 h.k1 h20 hum hua hf0.2 hfk (by rw [hcur2, hcc]) hlt
  have hag := afterS_good k2.same.1
  have hcl : ∀ j, cellAt (afterS u) j = cellAt u j := fun j => by unfold cellAt; rw [a1]
  have hfl : ∀ j, fldAt (afterS u) j = fldAt u j := fun j => by unfold fldAt; rw [a1]
  have hnn : (afterS u).n = u.n := by unfold Sp.n Sp.rows Sp.cols; rw [a2, a3]
  refine ⟨h.k1, h20, hag, by rw [a2, a3]; exact hum, fun i hi => by rw [a1]; exact hua i (by rw [← hnn]; exact hi), by rw [hfl]; exact hf0, by rw [hfl]; exact hfk, by simp; omega, fun i hi => ?_, fun x hx => ?_, ?_, ?_⟩
  · rw [hcl, hu, if_neg (by omega)]
    by_cases e : i + 1 = s.cursor
    · rw [if_pos e, show i = cs.length from by omega]
      simp [cellE]
    · rw [if_neg e, h.char i hi]
      by_cases h3 : i < cs.length
      · rw [List.getElem?_append_left h3]
      · rw [List.getElem?_eq_none (by omega), List.getElem?_eq_none (by simp; omega)]
  · rcases List.mem_append.1 hx with hx | hx
    · exact h.nz x hx
    · rw [List.mem_singleton.1 hx]; exact hc
  · rw [a4]; simp
  · rw [if_neg (by simp), hcl, hu, if_pos rfl]
    refine fa_mk1 _ ?_
    have := h.fa
    split at this
    · exact .inl this
    · exact .inr this
variable {n : Int} {B : Bd}
theorem restL_head {s : Sp} (h : s.good) {m a : Nat} (hf : InField s m a) (hc : ¬ s.count = 0) : ∃ L, restL s m = m :: L := by
  unfold restL
  rw [if_neg hc, hf.start]
  show ∃ L, (Sp.places s.cells a).drop ((Sp.places s.cells a).idxOf m) = m :: L
  have hlt : (Sp.places s.cells a).idxOf m < (Sp.places s.cells a).length := List.idxOf_lt_length_of_mem hf.mem
  exact ⟨_, by rw [List.drop_eq_getElem_cons hlt, List.getElem_idxOf]⟩
theorem Tpd.count {k : Nat} {cs : List UInt8} {s : Sp} (h : Tpd k cs s) : ¬ s.count = 0 := fun e => by
  have hn := h.n
  have := (h.attr 0 (by omega)).2 (.inl rfl)
  rw [count0 h.good e] at this; cases this
theorem Tpd.round {k : Nat} {cs : List UInt8} {s : Sp} (h : Tpd k cs s) : ∃ L, roundL s s.cursor = s.cursor :: L ∧ ∀ i ∈ s.cursor :: L, 1 ≤ i ∧ i ≤ k := by
  have hc := h.count
  obtain ⟨b1, b2, b3, b4, b5, b6⟩ := h.cursor
  obtain ⟨a, hf⟩ := in_field h.good h.good.cursor hc b3
  obtain ⟨L, hL⟩ := restL_head h.good hf hc
  have hr : roundL s s.cursor = s.cursor :: L := by unfold roundL; rw [if_neg hc]; exact hL
  refine ⟨L, hr, fun i hi => ?_⟩
  have hw := with_round h.good h.good.cursor b3 (i := i) (by rw [hr]; exact hi)
  have hs := hw.start
  rw [b4] at hs
  constructor
  · rcases Nat.eq_zero_or_pos i with rfl | h1
    · have := (h.attr 0 hw.lt).2 (.inl rfl); rw [hw.free] at this; cases this
    · exact h1
  · rcases Nat.lt_or_ge k i with h1 | h1
    · have := h.hi h1 hw.lt; omega
    · exact h1
theorem toP_zero {p : Nat → Bool} (h : p 0 = true) : ∀ M, toP p M = 0
  | 0 => rfl
  | M + 1 => by
    have ih := toP_zero h M
    unfold toP
    rw [ih]
    split
    · rfl
    · next h1 =>
      have : M = 0 := by omega
      subst this
      rw [if_pos h]
theorem ins_typ {k : Nat} {cs : List UInt8} {s : Sp} (h : Tpd k cs s) (hlt : cs.length < k) {c : UInt8} (hc : ¬ c = 0) (hc2 : ¬ c = 28) :
    (insS s s.cursor c).2 = true ∧ Tpd k (cs ++ [c]) (entS (insS s s.cursor c).1 s.cursor c) := by
  obtain ⟨b1, b2, b3, b4, b5, b6⟩ := h.cursor
  obtain ⟨L, hr, hm⟩ := h.round
  have hn := h.n
  have h20 := h.k20
  have hcc := h.cur
  rw [Nat.mod_eq_of_lt hlt] at hcc
  have hz : nulAt s s.cursor = true := by
    unfold nulAt
    rw [cellAt_at (by omega), hcc, h.char _ hlt, List.getElem?_eq_none (by omega)]; rfl
  have hnul : nulN s (s.cursor :: L) = 0 := by unfold nulN; exact toP_zero (by simpa using hz) _
  unfold insS
  rw [hr, hnul, if_pos ⟨b5, by simp⟩]
  refine ⟨rfl, ?_⟩
  have e : modS ((insTo s (s.cursor :: L) 0 0).put (((s.cursor :: L)[0]?.getD 0 : Nat) : Int) c) s.cursor = modS (s.put (s.cursor : Nat) c) s.cursor := rfl
  rw [e]
  have kp := keep_put (KeepA.refl h.good) (s.cursor : Nat) c
  have cp := cellAt_put h.good (k := s.cursor) (by omega) b3 c
  have cm := fun j => cellAt_mod kp.same.1 (n := s.cursor) (by rw [kp.same.n]; omega) j
  rw [kp.start h.good, b4] at cm
  refine typ_step h hlt hc hc2 (keep_mod kp h.good (by omega)) ?_ fun j => ?_
  · have hpc : (s.put (s.cursor : Nat) c).cursor = s.cursor := by unfold Sp.put; split <;> rfl
    unfold modS; split
    · exact hpc
    · exact hpc
  · rw [cm, cp]
    by_cases e : j = s.cursor
    · exact .inr (.inl e)
    · rw [if_neg e]
      by_cases e0 : j = 0
      · exact .inr (.inr ⟨e0, by rw [if_pos (by rw [e0]; rfl)]⟩)
      · rw [if_neg (by omega)]; exact .inl rfl
theorem ins_full {k : Nat} {cs : List UInt8} {s : Sp} (h : Tpd k cs s) (hfull : cs.length = k) (c : UInt8) : (insS s s.cursor c).2 = false := by
  obtain ⟨b1, b2, b3, b4, b5, b6⟩ := h.cursor
  obtain ⟨L, hr, hm⟩ := h.round
  have hn := h.n
  have h20 := h.k20
  unfold insS
  rw [hr]
  rw [if_neg]
  rintro ⟨_, hlt⟩
  have hp := toP_stop (fun i => nulAt s ((s.cursor :: L)[i]?.getD 0)) (s.cursor :: L).length hlt
  obtain ⟨h1, h2⟩ := hm _ (getD_mem hlt)
  unfold nulN at h1 h2
  generalize (s.cursor :: L)[toP (fun i => nulAt s ((s.cursor :: L)[i]?.getD 0)) (s.cursor :: L).length]?.getD 0 = j at *
  unfold nulAt at hp
  rw [cellAt_at (by omega), show j = (j - 1) + 1 from by omega, h.char _ (by omega), List.getElem?_eq_getElem (by omega)] at hp
  have := h.nz _ (List.getElem_mem (show j - 1 < cs.length by omega))
  simp at hp
  exact this hp
/-- A code, of a sign. -/
def goodC (n sg : Int) : Bool := (codeIx n sg).isSome && dataB (codeU n sg)
theorem press_char (hl : B.lock = 0) (sg num : Int) : pressB n B ⟨1, sg, num⟩ = ((charB n B sg).1, false, (charB n B sg).2) := by
  unfold pressB
  rw [if_neg (by simp), if_neg (by simp), if_neg (by simp [hl]), if_neg (by simp), if_neg (by simp [aidN]), if_neg (by simp), if_neg (by simp [movK])]
  simp [enteredB]
theorem dataB_ne {c : UInt8} (h : dataB c = true) : ¬ c = 0 ∧ ¬ c = 28 := by
  constructor <;> (rintro rfl; exact absurd h (by decide))
theorem char_bad {sg : Int} (h : goodC n sg = false) : charB n B sg = (B, 12) := by unfold charB; unfold goodC at h; rw [if_neg (by rw [h]; simp)]
theorem char_typ {k : Nat} {cs : List UInt8} (h : Tpd k cs B.s) (hlt : cs.length < k) {sg : Int} (hg : goodC n sg = true) : ∃ u, charB n B sg = ({ B with s := u }, 0) ∧ Tpd k (cs ++ [codeU n sg]) u := by
  obtain ⟨b1, b2, b3, b4, b5, b6⟩ := h.cursor
  have hd : dataB (codeU n sg) = true := by unfold goodC at hg; simp at hg; exact hg.2
  obtain ⟨hc, hc2⟩ := dataB_ne hd
  unfold charB
  unfold goodC at hg
  rw [if_pos hg]
  unfold enterB
  rw [if_neg (by rw [b5]; simp), if_neg (by rw [b6]; simp)]
  by_cases hi : (B.ins && !(codeU n sg == 28)) = true
  · obtain ⟨h1, h2⟩ := ins_typ h hlt hc hc2
    rw [if_pos hi, if_neg (by rw [h1]; simp)]
    exact ⟨_, rfl, h2⟩
  · rw [if_neg hi]
    exact ⟨_, rfl, typ_step h hlt hc hc2 (KeepA.refl h.good) rfl fun j => .inl rfl⟩
/-- The field has been modified, and remains so. -/
structure Md (s : Sp) : Prop where
  good : s.good
  attr : attrAt s.cells 0 = true
  fa : (cellAt s 0).fa = 1
theorem md_safe {s t : Sp} {er : Prop} (h : Md s) (hs : Safe s er t) (he : ¬ er) : Md t := by
  have hn := n_big s
  have h1 := hs.attr 0 (by omega) h.attr
  have h2 : bit1 (cellAt s 0) = true := by unfold bit1; rw [h.fa]; rfl
  have h3 : bit1 (cellAt t 0) = true := by
    cases e : bit1 (cellAt t 0)
    · exact absurd (hs.fell 0 (by omega) h.attr h2 e).1 he
    · rfl
  refine ⟨hs.keep.same.1, by rw [hs.keep.attr]; exact h.attr, ?_⟩
  have h4 := congrArg Cell.fa h1
  unfold mk1 at h4
  simp only at h4
  rw [h.fa] at h4
  unfold bit1 at h3
  revert h3 h4
  generalize (cellAt t 0).fa = b
  exact all_bytes (p := fun b => (b &&& 1 == 1) = true → b ||| 1 = 1 ||| 1 → b = 1) (by decide +kernel) b
theorem char_md (h : Md B.s) (hl : B.lock = 0) (K : Key) (hk : K.kind = 1) : Md (pressB n B K).1.s :=
  md_safe h (press_safe h.good K (by omega)) (by omega)
/-- At the end, one more comes round. -/
theorem char_full {k : Nat} {cs : List UInt8} (h : Tpd k cs B.s) (hfull : cs.length = k) {sg : Int} (hg : goodC n sg = true) :
    (charB n B sg = ({ B with lock := 4 }, 7)) ∨ ((charB n B sg).2 = 0 ∧ (charB n B sg).1.lock = B.lock) := by
  obtain ⟨b1, b2, b3, b4, b5, b6⟩ := h.cursor
  unfold charB
  unfold goodC at hg
  rw [if_pos hg]
  unfold enterB
  rw [if_neg (by rw [b5]; simp), if_neg (by rw [b6]; simp)]
  split
  · rw [if_pos (ins_full h hfull _)]; exact .inl rfl
  · exact .inr ⟨rfl, rfl⟩
/-- What was wanted: the codes, as far as they go. -/
def wantF (n : Int) (k : Nat) (s : ByteArray) : Nat → Nat → List UInt8 → List UInt8
  | 0, _, w => w
  | f + 1, pos, w => if pos < s.size ∧ goodC n ((Utf8.decode s pos).1 : Nat) = true ∧ w.length < k then wantF n k s f (pos + (Utf8.decode s pos).2) (w ++ [codeU n ((Utf8.decode s pos).1 : Nat)]) else w
theorem want_full (n : Int) (k : Nat) (s : ByteArray) (f pos : Nat) {w : List UInt8} (h : w.length = k) : wantF n k s f pos w = w := by
  cases f with
  | zero => rfl
  | succ f => unfold wantF; rw [if_neg (by omega)]
theorem type_md (s : ByteArray) : ∀ (f pos : Nat) (c : Int) (B : Bd), Md B.s → B.lock = 0 → Md (typeF n s f pos c B).1.s ∧ c ≤ (typeF n s f pos c B).2.1
  | 0, _, _, _, h, _ => ⟨h, Int.le_refl _⟩
  | f + 1, pos, c, B, h, hl => by
    have h1 := char_md (n := n) h hl (runeK s pos) rfl
    unfold typeF
    split
    · split
      · next he =>
        have hp := press_char (n := n) hl ((Utf8.decode s pos).1 : Nat) 0
        by_cases hl2 : (pressB n B (runeK s pos)).1.lock = 0
        · obtain ⟨h2, h3⟩ := type_md s f (pos + (Utf8.decode s pos).2) (c + 1) _ h1 hl2
          exact ⟨h2, by omega⟩
        · exfalso
          apply hl2
          have e : runeK s pos = ⟨1, ((Utf8.decode s pos).1 : Nat), 0⟩ := rfl
          rw [e, hp] at he ⊢
          revert he
          show (charB n B _).2 = 0 → (charB n B _).1.lock = 0
          unfold charB
          split
          · unfold enterB
            split
            · intro h; cases h
            · split
              · intro h; cases h
              · split
                · split
                  · intro h; cases h
                  · intro _; exact hl
                · intro _; exact hl
          · intro h; cases h
      · exact ⟨h1, Int.le_refl _⟩
    · exact ⟨h, Int.le_refl _⟩
/-- What the law asks. -/
structure Typed (n : Int) (k : Nat) (w : List UInt8) (R : Bd × Int × Int) : Prop where
  all : R.2.2 = 0 → R.2.1 < k → R.2.1 = w.length
  some : R.2.1 ≤ k → ∀ j : Nat, (j : Int) < R.2.1 → ∃ x, w[j]? = some x ∧ (cellAt R.1.s (j + 1)).char = x
  more : (k : Int) < R.2.1 → (cellAt R.1.s 0).fa = 1
  good : R.1.s.good
theorem typed {k : Nat} (s : ByteArray) : ∀ (f pos : Nat) (w : List UInt8) (B : Bd), Tpd k w B.s → B.lock = 0 → s.size ≤ pos + f → Typed n k (wantF n k s f pos w) (typeF n s f pos w.length B)
  | 0, pos, w, B, h, hl, _ => by
    refine ⟨fun _ _ => rfl, fun _ j hj => ?_, fun hk => ?_, h.good⟩
    · have hj : j < w.length := by simpa [typeF] using hj
      exact ⟨w[j], List.getElem?_eq_getElem hj, by show (cellAt B.s (j + 1)).char = _; rw [h.char j (by have := h.le; omega), List.getElem?_eq_getElem hj]; rfl⟩
    · have : (k : Int) < w.length := hk
      have := h.le; omega
  | f + 1, pos, w, B, h, hl, hsz => by
    have hle := h.le
    have stop : ∀ (lk : Int) (e : Int), (∀ w', wantF n k s (f + 1) pos w = w' → w' = w) → (e = 0 → (w.length : Int) < k → True) → Typed n k (wantF n k s (f + 1) pos w) ({ B with lock := lk }, (w.length : Int), e) := fun lk e hw _ => by
      have hw := hw _ rfl
      rw [hw]
      refine ⟨fun _ _ => rfl, fun _ j hj => ?_, fun hk => ?_, h.good⟩
      · have hj : j < w.length := by simpa using hj
        exact ⟨w[j], List.getElem?_eq_getElem hj, by show (cellAt B.s (j + 1)).char = _; rw [h.char j (by omega), List.getElem?_eq_getElem hj]; rfl⟩
      · have : (k : Int) < w.length := hk
        omega
    have hB : ({ B with lock := B.lock } : Bd) = B := rfl
    unfold typeF
    by_cases hp : pos < s.size
    · rw [if_pos hp]
      have hpc := press_char (n := n) hl ((Utf8.decode s pos).1 : Nat) 0
      have e : runeK s pos = ⟨1, ((Utf8.decode s pos).1 : Nat), 0⟩ := rfl
      have hw1 := widthK_pos s pos hp
      cases hg : goodC n ((Utf8.decode s pos).1 : Nat)
      · rw [e, hpc, char_bad hg]
        rw [if_neg (by show ¬ (12 : Int) = 0; decide)]
        exact stop B.lock 12 (fun w' hw => by rw [← hw]; unfold wantF; rw [if_neg (by rw [hg]; simp)]) (fun _ _ => trivial)
      · by_cases hlt : w.length < k
        · obtain ⟨u, hu, hT⟩ := char_typ (n := n) h hlt hg
          rw [e, hpc, hu]
          rw [if_pos rfl]
          have := typed s f (pos + (Utf8.decode s pos).2) (w ++ [codeU n ((Utf8.decode s pos).1 : Nat)]) { B with s := u } hT hl (by omega)
          unfold wantF
          rw [if_pos ⟨hp, hg, hlt⟩]
          rw [show ((w ++ [codeU n ((Utf8.decode s pos).1 : Nat)]).length : Int) = (w.length : Int) + 1 from by simp] at this
          exact this
        · have hf : w.length = k := by omega
          have hm0 := press_char (n := n) hl ((Utf8.decode s pos).1 : Nat) 0
          rcases char_full (n := n) h hf hg with e7 | ⟨e0, el⟩
          · rw [e, hpc, e7]
            rw [if_neg (by show ¬ (7 : Int) = 0; decide)]
            exact stop 4 7 (fun w' hw => by rw [← hw]; exact want_full n k s _ _ hf) (fun _ _ => trivial)
          · have hmd : Md B.s := by
              have hn := h.n
              refine ⟨h.good, (h.attr 0 (by omega)).2 (.inl rfl), ?_⟩
              have := h.fa
              rw [if_neg (by intro e; rw [e] at hf; have := h.k1; simp at hf; omega)] at this
              exact this
            have h1 := char_md (n := n) hmd hl (runeK s pos) rfl
            rw [e, hpc] at h1 ⊢
            rw [if_pos e0]
            obtain ⟨h2, h3⟩ := type_md (n := n) s f (pos + (Utf8.decode s pos).2) ((w.length : Int) + 1) _ h1 (by show (charB n B _).1.lock = 0; rw [el]; exact hl)
            rw [want_full n k s _ _ hf]
            have hf' : (w.length : Int) = k := by omega
            refine ⟨fun _ hlt2 => ?_, fun hle2 => ?_, fun _ => h2.fa, h2.good⟩
            · exfalso; omega
            · exfalso; omega
    · rw [if_neg hp]
      exact stop B.lock 0 (fun w' hw => by rw [← hw]; unfold wantF; rw [if_neg (by omega)]) (fun _ _ => trivial)
end Go.Proofs.YtlmdbcgceijlnaaGreat
/-
  The document's signs and codes.
-/
namespace Go.Proofs.YtlmdbcgceijlnaaGreat
open Go Go.AL

def digN (b : UInt8) : Nat := if 97 ≤ b.toNat then (b - 97).toNat + 10 else (b - 48).toNat
def numTo (s : ByteArray) : Nat → Nat
  | 0 => 0
  | k + 1 => 16 * numTo s k + digN (s.data[k]?.getD 0)
theorem digN_le (b : UInt8) : digN b ≤ 265 := all_bytes (p := fun b => digN b ≤ 265) (by decide +kernel) b
theorem numTo_le (s : ByteArray) (k : Nat) (h : k ≤ 4) : numTo s k ≤ 1200000 := by
  have hd := fun j : Nat => digN_le (s.data[j]?.getD 0)
  have h1 : numTo s 1 ≤ 265 := by have := hd 0; simp only [numTo]; omega
  have h2 : numTo s 2 ≤ 4505 := by have := hd 1; rw [numTo]; omega
  have h3 : numTo s 3 ≤ 72345 := by have := hd 2; rw [numTo]; omega
  have h4 : numTo s 4 ≤ 1157785 := by have := hd 3; rw [numTo]; omega
  rcases (by omega : k = 0 ∨ k = 1 ∨ k = 2 ∨ k = 3 ∨ k = 4) with rfl | rfl | rfl | rfl | rfl
  · simp [numTo]
  all_goals omega
theorem sub48 (b : UInt8) : IntKind.u8.wrap ((b.toNat : Int) - 48) = ((b - 48).toNat : Int) := all_bytes (p := fun b => IntKind.u8.wrap ((b.toNat : Int) - 48) = ((b - 48).toNat : Int)) (by decide +kernel) b
theorem sub97 (b : UInt8) : IntKind.u8.wrap ((b.toNat : Int) - 97) = ((b - 97).toNat : Int) := all_bytes (p := fun b => IntKind.u8.wrap ((b.toNat : Int) - 97) = ((b - 97).toNat : Int)) (by decide +kernel) b
set_option maxRecDepth 8000 in
theorem num_calls (s : ByteArray) (hs : s.size ≤ 4) (σ : Store) : ACalls Tryz.prog 100 [.lit (.string s)] σ fun v σ' => v = .lit (.int .i64 (numTo s s.size : Nat)) ∧ σ' = σ := by
  refine ACalls.of_awp follows (st := st100) (plans := pl100) (n := 32) Tryz.func100 rfl (by kernel_rfl) (by kernel_rfl) (by kernel_rfl) ?_
  simp
  refine codeK.loop follows (st := st100) (plans := pl100) (X := Nat) (fun k => k ≤ s.size)
    (fun k => [(0, .lit (.string s)), (3, .lit (.int .i64 (numTo s k : Nat))), (4, .lit (.int .i64 k))]) (fun _ => σ) (fun k => s.size - k) 0 (by kernel_rfl) (by simp) (by simp [numTo]) (Store.sub_refl _) fun k hk => ?_
  by_cases hlt : k < s.size
  · have hle := numTo_le s k (by omega)
    have hle2 := numTo_le s (k + 1) (by omega)
    have hk1 : IntKind.i64.wrap ((k : Int) + 1) = ((k + 1 : Nat) : Int) := wrap_i64 (by omega) (by omega)
    have hdl : k < s.data.size := hlt
    have hs2 : numTo s (k + 1) = 16 * numTo s k + digN s.data[k] := by rw [numTo, Array.getElem?_eq_getElem hdl]; rfl
    have hm : IntKind.i64.wrap (16 * (numTo s k : Int)) = ((16 * numTo s k : Nat) : Int) := wrap_i64 (by omega) (by omega)
    have hlt2 := (s.data[k]).toNat_lt
    simp [hlt]
    generalize s.data[k] = b at *
    have d1 := sub48 b
    have d2 := sub97 b
    have l1 := (b - 48).toNat_lt
    have l2 := (b - 97).toNat_lt
    unfold digN at hs2
    split
    · next h97 =>
      rw [if_pos (by omega)] at hs2
      have hw : IntKind.i64.wrap (IntKind.i64.wrap (16 * (numTo s k : Int)) + IntKind.i64.wrap (IntKind.i64.wrap (IntKind.u8.wrap ((b.toNat : Int) - 97)) + 10)) = (numTo s (k + 1) : Nat) := by
        rw [hm, d2, wrap_i64 (n := ((b - 97).toNat : Int)) (by omega) (by omega), wrap_i64 (n := ((b - 97).toNat : Int) + 10) (by omega) (by omega), wrap_i64 (by omega) (by omega), hs2]
        omega
      exact ⟨k + 1, by omega, by omega, by rw [hw]; exact AV.le_refl _, by rw [hk1]; exact AV.le_refl _⟩
    · next h97 =>
      rw [if_neg (by omega)] at hs2
      have hw : IntKind.i64.wrap (IntKind.i64.wrap (16 * (numTo s k : Int)) + IntKind.i64.wrap (IntKind.u8.wrap ((b.toNat : Int) - 48))) = (numTo s (k + 1) : Nat) := by
        rw [hm, d1, wrap_i64 (n := ((b - 48).toNat : Int)) (by omega) (by omega), wrap_i64 (by omega) (by omega), hs2]
        omega
      exact ⟨k + 1, by omega, by omega, by rw [hw]; exact AV.le_refl _, by rw [hk1]; exact AV.le_refl _⟩
  · obtain rfl : k = s.size := by omega
    simp [hlt]
end Go.Proofs.YtlmdbcgceijlnaaGreat
/-
  The document's signs, as its strings say.
-/
namespace Go.Proofs.YtlmdbcgceijlnaaGreat
open Go Go.AL

def rbase0 : List UInt8 := [48, 48, 48, 48, 48, 48, 48, 49, 48, 48, 48, 50, 48, 48, 48, 51, 48, 48, 57, 99, 48, 48, 48, 57, 48, 48, 56, 54, 48, 48, 55, 102, 48, 48, 57, 55, 48, 48, 56, 100, 48, 48, 56, 101, 48, 48, 48, 98, 48, 48, 48, 99, 48, 48, 48, 100, 48, 48, 48, 101, 48, 48, 48, 102]
def rbase1 : List UInt8 := [48, 48, 49, 48, 48, 48, 49, 49, 48, 48, 49, 50, 48, 48, 49, 51, 48, 48, 57, 100, 48, 48, 56, 53, 48, 48, 48, 56, 48, 48, 56, 55, 48, 48, 49, 56, 48, 48, 49, 57, 48, 48, 57, 50, 48, 48, 56, 102, 48, 48, 49, 99, 48, 48, 49, 100, 48, 48, 49, 101, 48, 48, 49, 102]
def rbase2 : List UInt8 := [48, 48, 56, 48, 48, 48, 56, 49, 48, 48, 56, 50, 48, 48, 56, 51, 48, 48, 56, 52, 48, 48, 48, 97, 48, 48, 49, 55, 48, 48, 49, 98, 48, 48, 56, 56, 48, 48, 56, 57, 48, 48, 56, 97, 48, 48, 56, 98, 48, 48, 56, 99, 48, 48, 48, 53, 48, 48, 48, 54, 48, 48, 48, 55]
def rbase3 : List UInt8 := [48, 48, 57, 48, 48, 48, 57, 49, 48, 48, 49, 54, 48, 48, 57, 51, 48, 48, 57, 52, 48, 48, 57, 53, 48, 48, 57, 54, 48, 48, 48, 52, 48, 48, 57, 56, 48, 48, 57, 57, 48, 48, 57, 97, 48, 48, 57, 98, 48, 48, 49, 52, 48, 48, 49, 53, 48, 48, 57, 101, 48, 48, 49, 97]
def rbase4 : List UInt8 := [48, 48, 50, 48, 48, 48, 97, 48, 48, 48, 101, 50, 48, 48, 101, 52, 48, 48, 101, 48, 48, 48, 101, 49, 48, 48, 101, 51, 48, 48, 101, 53, 48, 48, 101, 55, 48, 48, 102, 49, 48, 48, 97, 50, 48, 48, 50, 101, 48, 48, 51, 99, 48, 48, 50, 56, 48, 48, 50, 98, 48, 48, 55, 99]
def rbase5 : List UInt8 := [48, 48, 50, 54, 48, 48, 101, 57, 48, 48, 101, 97, 48, 48, 101, 98, 48, 48, 101, 56, 48, 48, 101, 100, 48, 48, 101, 101, 48, 48, 101, 102, 48, 48, 101, 99, 48, 48, 100, 102, 48, 48, 50, 49, 48, 48, 50, 52, 48, 48, 50, 97, 48, 48, 50, 57, 48, 48, 51, 98, 48, 48, 97, 99]
def rbase6 : List UInt8 := [48, 48, 50, 100, 48, 48, 50, 102, 48, 48, 99, 50, 48, 48, 99, 52, 48, 48, 99, 48, 48, 48, 99, 49, 48, 48, 99, 51, 48, 48, 99, 53, 48, 48, 99, 55, 48, 48, 100, 49, 48, 48, 97, 54, 48, 48, 50, 99, 48, 48, 50, 53, 48, 48, 53, 102, 48, 48, 51, 101, 48, 48, 51, 102]
def rbase7 : List UInt8 := [48, 48, 102, 56, 48, 48, 99, 57, 48, 48, 99, 97, 48, 48, 99, 98, 48, 48, 99, 56, 48, 48, 99, 100, 48, 48, 99, 101, 48, 48, 99, 102, 48, 48, 99, 99, 48, 48, 54, 48, 48, 48, 51, 97, 48, 48, 50, 51, 48, 48, 52, 48, 48, 48, 50, 55, 48, 48, 51, 100, 48, 48, 50, 50]
def rbase8 : List UInt8 := [48, 48, 100, 56, 48, 48, 54, 49, 48, 48, 54, 50, 48, 48, 54, 51, 48, 48, 54, 52, 48, 48, 54, 53, 48, 48, 54, 54, 48, 48, 54, 55, 48, 48, 54, 56, 48, 48, 54, 57, 48, 48, 97, 98, 48, 48, 98, 98, 48, 48, 102, 48, 48, 48, 102, 100, 48, 48, 102, 101, 48, 48, 98, 49]
def rbase9 : List UInt8 := [48, 48, 98, 48, 48, 48, 54, 97, 48, 48, 54, 98, 48, 48, 54, 99, 48, 48, 54, 100, 48, 48, 54, 101, 48, 48, 54, 102, 48, 48, 55, 48, 48, 48, 55, 49, 48, 48, 55, 50, 48, 48, 97, 97, 48, 48, 98, 97, 48, 48, 101, 54, 48, 48, 98, 56, 48, 48, 99, 54, 48, 48, 97, 52]
def rbase10 : List UInt8 := [48, 48, 98, 53, 48, 48, 55, 101, 48, 48, 55, 51, 48, 48, 55, 52, 48, 48, 55, 53, 48, 48, 55, 54, 48, 48, 55, 55, 48, 48, 55, 56, 48, 48, 55, 57, 48, 48, 55, 97, 48, 48, 97, 49, 48, 48, 98, 102, 48, 48, 100, 48, 48, 48, 100, 100, 48, 48, 100, 101, 48, 48, 97, 101]
def rbase11 : List UInt8 := [48, 48, 53, 101, 48, 48, 97, 51, 48, 48, 97, 53, 48, 48, 98, 55, 48, 48, 97, 57, 48, 48, 97, 55, 48, 48, 98, 54, 48, 48, 98, 99, 48, 48, 98, 100, 48, 48, 98, 101, 48, 48, 53, 98, 48, 48, 53, 100, 48, 48, 97, 102, 48, 48, 97, 56, 48, 48, 98, 52, 48, 48, 100, 55]
def rbase12 : List UInt8 := [48, 48, 55, 98, 48, 48, 52, 49, 48, 48, 52, 50, 48, 48, 52, 51, 48, 48, 52, 52, 48, 48, 52, 53, 48, 48, 52, 54, 48, 48, 52, 55, 48, 48, 52, 56, 48, 48, 52, 57, 48, 48, 97, 100, 48, 48, 102, 52, 48, 48, 102, 54, 48, 48, 102, 50, 48, 48, 102, 51, 48, 48, 102, 53]
def rbase13 : List UInt8 := [48, 48, 55, 100, 48, 48, 52, 97, 48, 48, 52, 98, 48, 48, 52, 99, 48, 48, 52, 100, 48, 48, 52, 101, 48, 48, 52, 102, 48, 48, 53, 48, 48, 48, 53, 49, 48, 48, 53, 50, 48, 48, 98, 57, 48, 48, 102, 98, 48, 48, 102, 99, 48, 48, 102, 57, 48, 48, 102, 97, 48, 48, 102, 102]
def rbase14 : List UInt8 := [48, 48, 53, 99, 48, 48, 102, 55, 48, 48, 53, 51, 48, 48, 53, 52, 48, 48, 53, 53, 48, 48, 53, 54, 48, 48, 53, 55, 48, 48, 53, 56, 48, 48, 53, 57, 48, 48, 53, 97, 48, 48, 98, 50, 48, 48, 100, 52, 48, 48, 100, 54, 48, 48, 100, 50, 48, 48, 100, 51, 48, 48, 100, 53]
def rbase15 : List UInt8 := [48, 48, 51, 48, 48, 48, 51, 49, 48, 48, 51, 50, 48, 48, 51, 51, 48, 48, 51, 52, 48, 48, 51, 53, 48, 48, 51, 54, 48, 48, 51, 55, 48, 48, 51, 56, 48, 48, 51, 57, 48, 48, 98, 51, 48, 48, 100, 98, 48, 48, 100, 99, 48, 48, 100, 57, 48, 48, 100, 97, 48, 48, 57, 102]
def rbaseL : List UInt8 := rbase0 ++ rbase1 ++ rbase2 ++ rbase3 ++ rbase4 ++ rbase5 ++ rbase6 ++ rbase7 ++ rbase8 ++ rbase9 ++ rbase10 ++ rbase11 ++ rbase12 ++ rbase13 ++ rbase14 ++ rbase15
def rothL37 : List UInt8 := []
def rothL273 : List UInt8 := [52, 51, 48, 48, 55, 98, 52, 97, 48, 48, 99, 52, 52, 102, 48, 48, 50, 49, 53, 57, 48, 48, 55, 101, 53, 97, 48, 48, 100, 99, 53, 102, 48, 48, 53, 101, 54, 51, 48, 48, 53, 98, 54, 97, 48, 48, 102, 54, 55, 99, 48, 48, 97, 55, 97, 49, 48, 48, 100, 102, 98, 48, 48, 48, 97, 50, 98, 53, 48, 48, 52, 48, 98, 97, 48, 48, 97, 99, 98, 98, 48, 48, 55, 99, 99, 48, 48, 48, 101, 52, 99, 99, 48, 48, 97, 54, 100, 48, 48, 48, 102, 99, 100, 99, 48, 48, 55, 100, 101, 48, 48, 48, 100, 54, 101, 99, 48, 48, 53, 99, 102, 99, 48, 48, 53, 100]
def rothL297 : List UInt8 := [52, 52, 48, 48, 52, 48, 52, 56, 48, 48, 53, 99, 52, 97, 48, 48, 98, 48, 52, 102, 48, 48, 50, 49, 53, 49, 48, 48, 55, 98, 53, 52, 48, 48, 55, 100, 53, 97, 48, 48, 97, 55, 53, 102, 48, 48, 53, 101, 54, 97, 48, 48, 102, 57, 55, 57, 48, 48, 98, 53, 55, 98, 48, 48, 97, 51, 55, 99, 48, 48, 101, 48, 57, 48, 48, 48, 53, 98, 97, 48, 48, 48, 54, 48, 97, 49, 48, 48, 97, 56, 98, 48, 48, 48, 97, 50, 98, 49, 48, 48, 50, 51, 98, 53, 48, 48, 53, 100, 98, 97, 48, 48, 97, 99, 98, 98, 48, 48, 55, 99, 98, 100, 48, 48, 55, 101, 99, 48, 48, 48, 101, 57, 100, 48, 48, 48, 101, 56, 100, 100, 48, 48, 97, 54, 101, 48, 48, 48, 101, 55]
def rothL500 : List UInt8 := [52, 97, 48, 48, 53, 98, 52, 102, 48, 48, 50, 49, 53, 97, 48, 48, 53, 100, 53, 102, 48, 48, 53, 101, 98, 48, 48, 48, 97, 50, 98, 97, 48, 48, 97, 99, 98, 98, 48, 48, 55, 99]
def rothL1047 : List UInt8 := [53, 102, 48, 48, 53, 101, 97, 100, 48, 48, 53, 98, 98, 48, 48, 48, 97, 99, 98, 97, 48, 48, 100, 100, 98, 98, 48, 48, 97, 56, 98, 100, 48, 48, 53, 100]
def rothL1140 : List UInt8 := [57, 102, 50, 48, 97, 99]
def rothL (n : Int) : List UInt8 := if n = 37 then rothL37 else if n = 273 then rothL273 else if n = 297 then rothL297 else if n = 500 then rothL500 else if n = 1047 then rothL1047 else if n = 1140 then rothL1140 else rothL37
def toB (L : List UInt8) : ByteArray := ⟨L.toArray⟩
theorem toB_size (L : List UInt8) : (toB L).size = L.length := by simp [toB, ByteArray.size]
set_option maxRecDepth 8000 in
theorem roth_calls (n : Int) (hn : isPage n) (σ : Store) : ACalls Tryz.prog 99 [.lit (.int .i64 n)] σ fun v σ' => v = .tuple [.lit (.string (toB (rothL n))), .lit (.bool true)] ∧ σ' = σ := by
  refine ACalls.of_awp follows (st := st99) (plans := pl99) (n := 17) Tryz.func99 rfl (by kernel_rfl) (by kernel_rfl) (by kernel_rfl) ?_
  have key : ∀ a b : ByteArray, a = b → AV.le (.tuple [.lit (.string a), .lit (.bool true)]) (.tuple [.lit (.string b), .lit (.bool true)]) := by
    rintro a _ rfl; exact AV.le_refl _
  obtain ⟨S, hS⟩ : ∃ S, S = toB (rothL n) := ⟨_, rfl⟩
  rw [← hS]
  rcases hn with rfl | rfl | rfl | rfl | rfl | rfl <;> (simp; exact key _ _ (Eq.trans (by kernel_rfl) hS.symm))
def numL (L : List UInt8) : Nat := L.foldl (fun a b => 16 * a + digN b) 0
def numS (s : ByteArray) : Nat := numTo s s.size
theorem numTo_list (s : ByteArray) : ∀ k, k ≤ s.size → numTo s k = numL (s.data.toList.take k)
  | 0, _ => rfl
  | k + 1, h => by
    have hk : k < s.data.toList.length := by rw [Array.length_toList]; exact h
    rw [numTo, numTo_list s k (by omega), List.take_succ_eq_append_getElem hk]
    unfold numL
    rw [List.foldl_append]
    have : s.data[k]?.getD 0 = s.data.toList[k] := by
      rw [Array.getElem?_eq_getElem (by simpa using hk)]; rfl
    rw [this]; rfl
theorem numS_part (L : List UInt8) (i m : Nat) (h : i + m ≤ L.length) : ((toB L).extract i (i + m)).size = m ∧ numS ((toB L).extract i (i + m)) = numL ((L.drop i).take m) := by
  have hd : ((toB L).extract i (i + m)).data.toList = (L.drop i).take m := by
    simp [toB, ByteArray.data_extract]
  have hs : ((toB L).extract i (i + m)).size = m := by
    have : ((toB L).extract i (i + m)).data.toList.length = m := by rw [hd]; simp; omega
    rw [Array.length_toList] at this; exact this
  refine ⟨hs, ?_⟩
  unfold numS
  rw [numTo_list _ _ (Nat.le_refl _), hd, hs, List.take_take]
  simp
def hex4 : List UInt8 → List Nat
  | a :: b :: c :: d :: r => numL [a, b, c, d] :: hex4 r
  | _ => []
theorem hex_base : hex4 rbaseL = baseL := by decide +kernel
theorem hex4_at : ∀ (c : Nat) (L : List UInt8), 4 * c + 4 ≤ L.length → (hex4 L)[c]? = some (numL ((L.drop (4 * c)).take 4))
  | 0, a :: b :: c :: d :: r, _ => rfl
  | i + 1, a :: b :: c :: d :: r, h => by
    have := hex4_at i r (by simp at h; omega)
    rw [hex4, List.getElem?_cons_succ, this, show 4 * (i + 1) = 4 * i + 4 from by omega]
    rfl
  | _, [], h => by simp at h
  | _, [_], h => by simp at h
  | _, [_, _], h => by simp at h
  | _, [_, _, _], h => by simp at h
def hex6 : List UInt8 → List (Nat × Nat)
  | a :: b :: c :: d :: e :: f :: r => (numL [a, b], numL [c, d, e, f]) :: hex6 r
  | _ => []
theorem hex_oth {n : Int} (hn : isPage n) : hex6 (rothL n) = othersF n ∧ (rothL n).length = 6 * (othersF n).length ∧ (othersF n).length ≤ 50 := by
  rcases hn with rfl | rfl | rfl | rfl | rfl | rfl <;> decide +kernel
theorem hex6_at : ∀ (c : Nat) (L : List UInt8), 6 * c + 6 ≤ L.length → (hex6 L)[c]? = some (numL ((L.drop (6 * c)).take 2), numL ((L.drop (6 * c + 2)).take 4))
  | 0, a :: b :: c :: d :: e :: f :: r, _ => rfl
  | i + 1, a :: b :: c :: d :: e :: f :: r, h => by
    have := hex6_at i r (by simp at h; omega)
    rw [hex6, List.getElem?_cons_succ, this, show 6 * (i + 1) = 6 * i + 6 from by omega, show 6 * i + 6 + 2 = 6 * i + 2 + 6 from by omega]
    rfl
  | _, [], h => by simp at h
  | _, [_], h => by simp at h
  | _, [_, _], h => by simp at h
  | _, [_, _, _], h => by simp at h
  | _, [_, _, _, _], h => by simp at h
  | _, [_, _, _, _, _], h => by simp at h
/-- The sign of a code. -/
def rsign (n : Int) (c : Nat) : Nat := (((othersF n).find? (fun o => o.1 == c)).map (·.2)).getD (baseL.getD c 0)
theorem rsign_all {n : Int} (hn : isPage n) : (List.range 256).map (rsign n) = signsF n := by
  rcases hn with rfl | rfl | rfl | rfl | rfl | rfl <;> decide +kernel
theorem rsign_eq {n : Int} (hn : isPage n) {c : Nat} (hc : c < 256) : rsign n c = sgF n c := by
  have := congrArg (fun l => l.getD c 0) (rsign_all hn)
  simp only [List.getD_eq_getElem?_getD, List.getElem?_map, List.getElem?_range hc] at this
  unfold sgF
  rw [List.getD_eq_getElem?_getD, ← this]
  rfl
end Go.Proofs.YtlmdbcgceijlnaaGreat
