/-
  The document's fields: where attributes are, where fields start, which places they have.
-/
import Derived.Test.YtnlggjbcdienfaaPart14
namespace Go.Proofs.Ytnlggjbcdienfaa
open Go Go.AL Go.Sp

def natsA (l : List Nat) : List AV := l.map fun n => .lit (.int .i64 (n : Nat))
@[simp] theorem natsA_length (l : List Nat) : (natsA l).length = l.length := by simp [natsA]
theorem natsA_append (l k : List Nat) : natsA (l ++ k) = natsA l ++ natsA k := by simp [natsA]
theorem natsA_at (l : List Nat) (i : Nat) (h : i < l.length) : (natsA l)[i]'(by simpa using h) = .lit (.int .i64 (l[i] : Nat)) := by simp [natsA]
def attrsTo (s : Sp) (m : Nat) : List Nat := (List.range m).filter (isAt s)
theorem attrsTo_succ (s : Sp) (m : Nat) : attrsTo s (m + 1) = attrsTo s m ++ (if isAt s m = true then [m] else []) := by
  unfold attrsTo
  rw [List.range_succ, List.filter_append, List.filter_cons, List.filter_nil]
theorem attrsTo_length (s : Sp) (m : Nat) : (attrsTo s m).length ≤ m := by
  unfold attrsTo; have := List.length_filter_le (isAt s) (List.range m); simpa using this
theorem attrsTo_all {s : Sp} (h : s.good) : attrsTo s s.n = s.attrs := (attrs_eq s h).symm

set_option maxRecDepth 8000 in
theorem attrs_calls {x y : Nat} {s : Sp} {σ : Store} (h : Ref σ x y s) : ACalls Try.prog 9 [ptrA x] σ fun v σ' => v = .list false 1 (natsA s.attrs) ∧ σ' = σ := by
  have ho := h.obj
  have hr := h.row
  have hg := h.good
  have hln := hg.len
  have hn := s.n_le
  unfold rfO at ho
  refine ACalls.of_awp follows (st := st9) (plans := pl9) (n := 24) Try.func9 rfl (by kernel_rfl) (by kernel_rfl) (by kernel_rfl) ?_
  simp [ho, rowC]
  refine codeK.loop follows (st := st9) (plans := pl9) (X := Nat) (fun i => i ≤ s.n)
    (fun i => [(3, .list true 1 (natsA (attrsTo s i))), (9, rowC y s.n), (10, .lit (.int .i64 s.n)), (11, .lit (.int .i64 i))])
    (fun _ => σ) (fun i => s.n - i) 0 (by kernel_rfl) (by simp) (by simp [rowC, attrsTo, natsA]) (Store.sub_refl _) fun i hi => ?_
  by_cases hlt : i < s.n
  · have hw : IntKind.i64.wrap ((i : Int) + 1) = ((i + 1 : Nat) : Int) := wrap_i64 (by omega) (by omega)
    have hic : i < s.cells.length := by omega
    have hgi := cellsO_get hic
    have hcx : cellC s.cells[i] = [byteA s.cells[i].char, .lit (.bool s.cells[i].attr), byteA s.cells[i].fa, byteA s.cells[i].high, byteA s.cells[i].color, byteA s.cells[i].set] := rfl
    rw [hcx] at hgi
    have hle : i * 6 + 6 ≤ (cellsO s.cells).length := by rw [cellsO_length]; omega
    have hat : isAt s i = s.cells[i].attr := by simp [isAt, hic]
    have hsu := attrsTo_succ s i
    have hal := attrsTo_length s i
    rw [hat] at hsu
    generalize s.cells[i] = c at *
    by_cases hca : c.attr = true
    · rw [if_pos hca] at hsu
      have e1 : natsA (attrsTo s (i + 1)) = natsA (attrsTo s i) ++ [.lit (.int .i64 (i : Nat))] := by rw [hsu, natsA_append]; rfl
      simp +contextual [rowC, hlt, hr, hle, hgi, hca]
      intro b hb
      refine ⟨by omega, by omega, i + 1, by omega, by omega, by rw [e1]; exact AV.le_refl _, by rw [hw]; exact AV.le_refl _⟩
    · rw [if_neg hca, List.append_nil] at hsu
      have hcf : c.attr = false := by simpa using hca
      simp +contextual [rowC, hlt, hr, hle, hgi, hcf]
      intro b hb
      refine ⟨i + 1, by omega, by omega, by rw [hsu]; exact AV.le_refl _, by rw [hw]; exact AV.le_refl _⟩
  · obtain rfl : i = s.n := by omega
    rw [attrsTo_all hg]
    simp

theorem lastA_attrs (s : Sp) : ∀ m : Nat, lastA s.cells (-1) m = match (attrsTo s m).getLast? with | some a => (a : Int) | none => -1
  | 0 => rfl
  | m + 1 => by
    rw [attrsTo_succ, lastA]
    by_cases h : isAt s m = true
    · have h' : attrAt s.cells m = true := h
      rw [if_pos h, if_pos h', List.getLast?_append]; rfl
    · have h' : ¬ attrAt s.cells m = true := h
      rw [if_neg h, if_neg h', List.append_nil]; exact lastA_attrs s m
def intsA (l : List Int) : List AV := l.map fun n => .lit (.int .i64 n)
@[simp] theorem intsA_length (l : List Int) : (intsA l).length = l.length := by simp [intsA]
theorem intsA_at (l : List Int) (i : Nat) (h : i < l.length) : (intsA l)[i]'(by simpa using h) = .lit (.int .i64 l[i]) := by simp [intsA]
/-- What Starts has written when it has come to m. -/
def startsTo (s : Sp) (m : Nat) : List Int := (List.range m).map (fun i => startS s.cells i) ++ List.replicate (s.n - m) 0
theorem startsTo_length (s : Sp) {m : Nat} (h : m ≤ s.n) : (startsTo s m).length = s.n := by simp [startsTo]; omega
theorem startsTo_succ (s : Sp) {m : Nat} (h : m < s.n) : startsTo s (m + 1) = (startsTo s m).set m (startS s.cells m) := by
  unfold startsTo
  rw [List.range_succ, List.map_append, List.set_append_right (h := by simp), show s.n - m = (s.n - (m + 1)) + 1 by omega, List.replicate_succ]
  simp
def starts (s : Sp) : List Int := (List.range s.n).map fun i => startS s.cells i
theorem startsTo_all (s : Sp) : startsTo s s.n = starts s := by simp [startsTo, starts]
theorem startsTo_zero (s : Sp) : startsTo s 0 = List.replicate s.n 0 := by simp [startsTo]
theorem intsA_set (l : List Int) (i : Nat) (n : Int) : (intsA l).set i (.lit (.int .i64 n)) = intsA (l.set i n) := by simp [intsA, List.map_set]
/-- Before m is reached, the last attribute. -/
def lastTo (s : Sp) (m : Nat) : Int := lastA s.cells (lastA s.cells (-1) s.cells.length) m
theorem lastTo_succ (s : Sp) (m : Nat) : lastTo s (m + 1) = if isAt s m = true then (m : Int) else lastTo s m := rfl
theorem startS_eq (s : Sp) (m : Nat) : startS s.cells m = lastTo s (m + 1) := rfl

theorem natsA_last {l : List Nat} {a : Nat} (h : l.getLast? = some a) : (natsA l)[l.length - 1]? = some (.lit (.int .i64 a)) := by
  rw [List.getLast?_eq_getElem?] at h
  simp [natsA, h]
theorem attrs_length (s : Sp) : s.attrs.length ≤ s.cells.length := by
  have h2 : s.attrs.length ≤ (List.range s.cells.length).length := by unfold Sp.attrs; exact List.length_filter_le _ _
  simpa using h2
theorem sub_over {σ : Store} {p b : Nat} {X Y Z : List AV} (hb : σ b = none) (hn : ¬ b = p) : Store.sub (σ.upd p X) (((σ.upd p Y).upd b Z).upd p X) := by
  intro o
  simp only [supd_apply]
  by_cases h1 : o = p
  · right; simp [h1]
  · by_cases h2 : o = b
    · left; simp [h2, hb, hn]
    · right; simp [h1, h2]

set_option maxRecDepth 8000 in
theorem starts_calls {x y : Nat} {s : Sp} {σ : Store} (h : Ref σ x y s) : ACalls Try.prog 43 [ptrA x] σ fun v σ' => ∃ p, σ p = none ∧ v = rowC p s.n ∧ σ' = σ.upd p (intsA (starts s)) := by
  have ho := h.obj
  have hr := h.row
  have hg := h.good
  have hln := hg.len
  have hn := s.n_le
  have hat := attrs_calls h
  have hlast : lastTo s 0 = match s.attrs.getLast? with | some a => (a : Int) | none => -1 := by
    rw [← attrsTo_all hg]; rw [← hln]; exact lastA_attrs s s.cells.length
  have hal := attrs_length s
  unfold rfO at ho
  have hi1 : (s.n : Int) ≤ 9223372036854775807 := by omega
  have hi2 : 8 * (s.n : Int) ≤ 281474976710656 := by omega
  have hz0 : List.replicate s.n (.lit (.int .i64 0)) = intsA (startsTo s 0) := by rw [startsTo_zero]; simp [intsA]
  refine ACalls.of_awp follows (st := st43) (plans := pl43) (n := 44) Try.func43 rfl (by kernel_rfl) (by kernel_rfl) (by kernel_rfl) ?_
  simp
  refine callK.of hat ?_
  rintro v σ' ⟨rfl, rfl⟩
  generalize s.attrs = L at *
  have hxy := h.ne
  cases hL : L.getLast?
  case' none =>
    rw [hL] at hlast
    have hl0 : L.length = 0 := by rw [List.getLast?_eq_none_iff] at hL; simp [hL]
    dsimp only at hlast
    simp [ho, rowC, hi1, hi2, hl0, hz0]
    intro p hp
    obtain ⟨f1, f2, f3, f4⟩ := h.fresh hp
    simp [f1]
  case' some a =>
    rw [hL] at hlast
    dsimp only at hlast
    have hget := natsA_last hL
    have hl0 : 0 < L.length := by
      rcases L with _ | ⟨b, L⟩
      · cases hL
      · simp
    have hw0 : IntKind.i64.wrap ((L.length : Int) - 1) = ((L.length - 1 : Nat) : Int) := by rw [wrap_i64 (by omega) (by omega)]; omega
    have hl1 : L.length - 1 < L.length := by omega
    have hw1 : (0 : Int) ≤ ((L.length - 1 : Nat) : Int) := by omega
    simp [ho, rowC, hi1, hi2, hl0, hz0, hw0, hget, hw1]
    intro p hp
    obtain ⟨f1, f2, f3, f4⟩ := h.fresh hp
    simp [f1]
  all_goals
    refine codeK.loop follows (st := st43) (plans := pl43) (X := Nat) (fun i => i ≤ s.n)
      (fun i => [(4, rowC p s.n), (5, .lit (.int .i64 (lastTo s i))), (28, rowC y s.n), (29, .lit (.int .i64 s.n)), (30, .lit (.int .i64 i))])
      (fun i => σ'.upd p (intsA (startsTo s i))) (fun i => s.n - i) 0 (by kernel_rfl) (by simp) (by simp [rowC, hlast]) (Store.sub_refl _) fun i hi => ?_
    by_cases hlt : i < s.n
    · have hw : IntKind.i64.wrap ((i : Int) + 1) = ((i + 1 : Nat) : Int) := wrap_i64 (by omega) (by omega)
      have hic : i < s.cells.length := by omega
      have hgi := cellsO_get hic
      have hcx : cellC s.cells[i] = [byteA s.cells[i].char, .lit (.bool s.cells[i].attr), byteA s.cells[i].fa, byteA s.cells[i].high, byteA s.cells[i].color, byteA s.cells[i].set] := rfl
      rw [hcx] at hgi
      have hle : i * 6 + 6 ≤ (cellsO s.cells).length := by rw [cellsO_length]; omega
      have hia : isAt s i = s.cells[i].attr := by simp [isAt, hic]
      have hla := lastTo_succ s i
      have hst := startsTo_succ s hlt
      have hsl := startsTo_length s hi
      rw [startS_eq] at hst
      rw [hia] at hla
      generalize s.cells[i] = c at *
      by_cases hca : c.attr = true
      · rw [if_pos hca] at hla
        rw [hla] at hst
        simp +contextual [rowC, hlt, hr, hle, hgi, ite_free, hca, f2]
        intro b n1 n2 hb
        refine ⟨by omega, i + 1, by omega, by omega, ⟨by rw [hla]; exact AV.le_refl _, by rw [hw]; exact AV.le_refl _⟩, ?_⟩
        rw [hst, ← intsA_set]
        exact sub_over hb n1
      · rw [if_neg hca] at hla
        have hcf : c.attr = false := by simpa using hca
        rw [hla] at hst
        simp +contextual [rowC, hlt, hr, hle, hgi, ite_free, hcf, f2]
        intro b n1 n2 hb
        refine ⟨by omega, i + 1, by omega, by omega, ⟨by rw [hla]; exact AV.le_refl _, by rw [hw]; exact AV.le_refl _⟩, ?_⟩
        rw [hst, ← intsA_set]
        exact sub_over hb n1
    · obtain rfl : i = s.n := by omega
      rw [startsTo_all]
      simp [rowC]
      exact ⟨_, AV.le_refl _, _, Store.sub_refl _, p, hp, rfl, rfl⟩

set_option maxRecDepth 8000 in
theorem rfield_calls {x y : Nat} {s : Sp} {σ : Store} (h : Ref σ x y s) (a : Nat) (ha : a < s.n) : ACalls Try.prog 13 [ptrA x, .lit (.int .i64 a)] σ fun v σ' => v = fldA (fld (s.cells[a]?.getD .zero).fa) ∧ σ' = σ := by
  have ho := h.obj
  have hr := h.row
  have hln := h.good.len
  unfold rfO at ho
  have hac : a < s.cells.length := by omega
  have h2 : (cellsO s.cells)[a * 6 + 2]? = some (byteA s.cells[a].fa) := cellsO_get1 hac (by omega)
  have hle : a * 6 + 6 ≤ (cellsO s.cells).length := by rw [cellsO_length]; omega
  rw [show s.cells[a]?.getD .zero = s.cells[a] by simp [hac]]
  generalize s.cells[a] = c at *
  have hof := rof_calls c.fa
  have hfa : ∀ f : Fld, fldA f = .agg [.lit (.bool f.prot), .lit (.bool f.num), .lit (.int .i64 f.disp), .lit (.bool f.mod)] := fun _ => rfl
  rw [hfa] at hof ⊢
  refine ACalls.of_awp follows (st := st13) (plans := pl13) (n := 14) Try.func13 rfl (by kernel_rfl) (by kernel_rfl) (by kernel_rfl) ?_
  simp
  intro b hb
  obtain ⟨f1, f2, f3, f4⟩ := h.fresh hb
  simp [ho, rowC, ha, hr, h2, f1, f2]
  refine callK.of (hof _) ?_
  rintro v σ' ⟨rfl, rfl⟩
  simp
  (intro q; simp only [Store.upd, Store.del]; (repeat' split) <;> first | exact Or.inr rfl | exact Or.inl rfl | (exfalso; omega) | (left; subst_vars; assumption) | simp_all)
/-- The places of a field's cells, from the first on. -/
theorem places_take_succ {s : Sp} {a k : Nat} (h : k < Sp.len s.cells a) : (Sp.places s.cells a).take (k + 1) = (Sp.places s.cells a).take k ++ [(a + k + 1) % s.cells.length] := by
  have hl : k < (Sp.places s.cells a).length := by rw [places_length]; exact h
  rw [List.take_succ_eq_append_getElem hl, places_get]
theorem starts_at {s : Sp} {m : Nat} (h : m < s.n) : (intsA (starts s))[m]? = some (.lit (.int .i64 (startS s.cells m))) := by
  simp [intsA, starts, h]

set_option maxRecDepth 8000 in
theorem rplaces_calls {x y : Nat} {s : Sp} {σ : Store} (h : Ref σ x y s) (a : Nat) (ha : a < s.n) (hat : attrAt s.cells a = true) : ACalls Try.prog 15 [ptrA x, .lit (.int .i64 a)] σ fun v σ' => v = .list false 1 (natsA (Sp.places s.cells a)) ∧ σ' = σ := by
  have ho := h.obj
  have hr := h.row
  have hln := h.good.len
  have hn := s.n_le
  have hnp := s.n_pos
  have hwp := fun τ (hτ : Ref τ x y s) => rswrap_calls hτ (a : Int)
  rw [wrap_of_lt ha] at hwp
  have hsc := starts_calls h
  unfold rfO at ho
  have hac : a < s.cells.length := by omega
  have h1 : (cellsO s.cells)[a * 6 + 1]? = some (.lit (.bool true)) := by
    rw [cellsO_get1 hac (by omega)]
    have : s.cells[a].attr = true := by have := hat; simp [attrAt, hac] at this; exact this
    rw [show (cellC s.cells[a])[1]? = some (.lit (.bool s.cells[a].attr)) from rfl, this]
  have hsl : (intsA (starts s)).length = s.n := by simp [starts]
  have hlen := Sp.len_lt hac
  refine ACalls.of_awp follows (st := st15) (plans := pl15) (n := 52) Try.func15 rfl (by kernel_rfl) (by kernel_rfl) (by kernel_rfl) ?_
  simp
  refine callK.of (hwp _ h) ?_
  rintro v σ' ⟨rfl, rfl⟩
  simp [ho, rowC, ha, hr, h1]
  refine callK.of hsc ?_
  rintro v σ' ⟨p, hp, rfl, rfl⟩
  obtain ⟨f1, f2, f3, f4⟩ := h.fresh hp
  simp [rowC]
  refine codeK.loop follows (st := st15) (plans := pl15) (X := Nat) (fun k => k ≤ Sp.len s.cells a)
    (fun k => [(0, ptrA x), (1, .lit (.int .i64 a)), (5, rowC p s.n), (6, .list true 1 (natsA ((Sp.places s.cells a).take k))), (7, .lit (.int .i64 (k + 1 : Nat)))])
    (fun _ => σ'.upd p (intsA (starts s))) (fun k => Sp.len s.cells a - k) 0 (by kernel_rfl) (by simp) (by simp [rowC, natsA]) (Store.sub_refl _) fun k hk => ?_
  have hw2 : IntKind.i64.wrap ((k : Int) + 1 + 1) = (k : Int) + 1 + 1 := wrap_i64 (by omega) (by omega)
  have hw3 : IntKind.i64.wrap ((a : Int) + ((k : Int) + 1)) = ((a + (k + 1) : Nat) : Int) := by rw [wrap_i64 (by omega) (by omega)]; omega
  have hmod := fun τ => rmod_calls ((a + (k + 1) : Nat) : Int) s.n hnp (by omega) τ
  rw [wrap_mod hnp] at hmod
  have hml : (a + (k + 1)) % s.n < s.n := Nat.mod_lt _ hnp
  have hst := starts_at hml
  by_cases hkn : k + 1 < s.n
  · have hkn' : (k : Int) + 1 < s.n := by omega
    have hsp := Sp.startS_places hat hac (i := k + 1) (by omega) (by omega) (by omega)
    rw [hln] at hsp
    by_cases hlt : k < Sp.len s.cells a
    · have hpt := places_take_succ (s := s) (a := a) hlt
      rw [hln, show a + k + 1 = a + (k + 1) by omega] at hpt
      rw [hsp.2 (by omega)] at hst
      generalize (a + (k + 1)) % s.n = m at *
      have e1 : natsA ((Sp.places s.cells a).take (k + 1)) = natsA ((Sp.places s.cells a).take k) ++ [.lit (.int .i64 (m : Nat))] := by rw [hpt, natsA_append]; rfl
      have hl3 : ((Sp.places s.cells a).take k).length ≤ k := by simp; omega
      simp [ho, rowC, f1, hkn', hw3]
      refine callK.of (hmod _) ?_
      rintro v σ' ⟨rfl, rfl⟩
      simp [hml, hst]
      refine ⟨by omega, by omega, k + 1, by omega, by omega, by rw [e1]; exact AV.le_refl _, ?_⟩
      rw [hw2]
      exact AV.le_refl _
    · obtain rfl : k = Sp.len s.cells a := by omega
      have hne : ¬ startS s.cells ((a + (Sp.len s.cells a + 1)) % s.n) = (a : Int) := fun e => by have := hsp.1 e; omega
      have hall : (Sp.places s.cells a).take (Sp.len s.cells a) = Sp.places s.cells a := List.take_of_length_le (by rw [places_length]; exact Nat.le_refl _)
      rw [hall]
      generalize startS s.cells ((a + (Sp.len s.cells a + 1)) % s.n) = z at *
      generalize (a + (Sp.len s.cells a + 1)) % s.n = m at *
      simp [ho, rowC, f1, hkn', hw3]
      refine callK.of (hmod _) ?_
      rintro v σ' ⟨rfl, rfl⟩
      simp [hml, hst, hne]
      exact Store.sub_upd hp (Store.sub_refl _)
  · obtain rfl : k = Sp.len s.cells a := by omega
    have hkn' : ¬ ((Sp.len s.cells a : Nat) : Int) + 1 < s.n := by omega
    have hall : (Sp.places s.cells a).take (Sp.len s.cells a) = Sp.places s.cells a := List.take_of_length_le (by rw [places_length]; exact Nat.le_refl _)
    rw [hall]
    simp [ho, rowC, f1, hkn']
    exact Store.sub_upd hp (Store.sub_refl _)
end Go.Proofs.Ytnlggjbcdienfaa
/-
  A character, as the document sends it, in the modes that tell no looks.
-/
namespace Go.Proofs.Ytnlggjbcdienfaa
open Go Go.AL Go.Sp

def ordK : List Nat := [0, 5, 8, 17, 18, 19, 29, 40, 41, 44, 60]
def ordN : List ByteArray := ordK.map nameB
def strsA (l : List ByteArray) : List AV := l.map fun s => .lit (.string s)
theorem nameB_none (k : Nat) (h : ∀ j ∈ ordK, ¬ j = k) : nameB k = ⟨#[]⟩ := by
  simp only [ordK, List.mem_cons, List.not_mem_nil, or_false, forall_eq_or_imp, forall_eq] at h
  obtain ⟨h0, h1, h2, h3, h4, h5, h6, h7, h8, h9, h10⟩ := h
  simp [nameB, Ne.symm h0, Ne.symm h1, Ne.symm h2, Ne.symm h3, Ne.symm h4, Ne.symm h5, Ne.symm h6, Ne.symm h7, Ne.symm h8, Ne.symm h9, Ne.symm h10]
set_option maxRecDepth 8000 in
theorem rname_calls (k : Nat) (σ : Store) : ACalls Try.prog 86 [.lit (.int .i64 k)] σ fun v σ' => v = .lit (.string (nameB k)) ∧ σ' = σ := by
  refine ACalls.of_awp follows (st := st86) (plans := pl86) (n := 22) Try.func86 rfl (by kernel_rfl) (by kernel_rfl) (by kernel_rfl) ?_
  simp
  have hK : natsA ordK = [.lit (.int .i64 0), .lit (.int .i64 5), .lit (.int .i64 8), .lit (.int .i64 17), .lit (.int .i64 18), .lit (.int .i64 19), .lit (.int .i64 29), .lit (.int .i64 40), .lit (.int .i64 41), .lit (.int .i64 44), .lit (.int .i64 60)] := rfl
  obtain ⟨NS, hNS⟩ : ∃ NS, NS = strsA ordN := ⟨_, rfl⟩
  have hN : ∀ i, i < 11 → NS[i]? = (ordK[i]?).map fun j => .lit (.string (nameB j)) := fun i _ => by rw [hNS]; simp [strsA, ordN]; rfl
  have hk11 : ordK.length = 11 := rfl
  refine codeK.loop follows (st := st86) (plans := pl86) (X := Nat) (fun i => i ≤ 11 ∧ ∀ j, j < i → ordK[j]? ≠ some k)
    (fun i => [(0, .lit (.int .i64 k)), (3, .list false 1 NS), (7, .list false 1 (natsA ordK)), (8, .lit (.int .i64 (11 : Nat))), (9, .lit (.int .i64 i))])
    (fun _ => σ) (fun i => 11 - i) 0 (by kernel_rfl) (by simp) (by rw [hNS, hK]; simp [strsA, ordN, ordK, nameB]) (Store.sub_refl _) fun i ⟨hi, hno⟩ => ?_
  by_cases hlt : i < 11
  · have hlt' : (i : Int) < 11 := by omega
    have hw : IntKind.i64.wrap ((i : Int) + 1) = ((i + 1 : Nat) : Int) := wrap_i64 (by omega) (by omega)
    have hg : ordK[i]? = some ordK[i] := List.getElem?_eq_getElem (by omega)
    have hk := natsA_at ordK i (by omega)
    have hn := hN i hlt
    rw [hg] at hn
    have hno2 : ordK[i] ≠ k → ∀ j, j < i + 1 → ordK[j]? ≠ some k := fun hne j hj => by
      by_cases e : j = i
      · subst e; rw [hg]; intro h; exact hne (Option.some.inj h)
      · exact hno j (by omega)
    generalize ordK[i] = m at *
    clear hN hNS hK
    by_cases hm : m = k
    · subst hm
      simp [hlt', hk, hn, hk11, hlt]
    · have hm' : ¬ (m : Int) = k := by omega
      simp [hlt', hk, hm', hk11, hlt]
      exact ⟨i + 1, ⟨by omega, fun j hj => hno2 hm j hj⟩, by omega, by rw [hw]; exact AV.le_refl _⟩
  · obtain rfl : i = 11 := by omega
    have : nameB k = ⟨#[]⟩ := nameB_none k fun j hj e => by
      obtain ⟨n, hn, rfl⟩ := List.getElem_of_mem hj
      exact hno n (by omega) (by rw [List.getElem?_eq_getElem hn, e])
    simp [this]

set_option maxRecDepth 4000 in
theorem ris_calls (b : UInt8) (σ : Store) : ACalls Try.prog 58 [byteA b] σ fun v σ' => v = .lit (.bool (isOrd b)) ∧ σ' = σ := by
  refine ACalls.of_awp follows (st := st58) (plans := pl58) (n := 11) Try.func58 rfl (by kernel_rfl) (by kernel_rfl) (by kernel_rfl) ?_
  by_cases h0 : b.toNat = 0
  · have : isOrd b = false := by simp [isOrd, h0]
    simp [byteA, h0, this]
  · have h1 := ord_name b h0
    simp [byteA, h0, wrapB]
    refine callK.of (rname_calls b.toNat σ) ?_
    rintro v σ' ⟨rfl, rfl⟩
    simp [h0, h1]

set_option maxRecDepth 8000 in
theorem rchar_calls (c d : Cell) (mode : Nat) (hm : mode < 2) (σ : Store) : ACalls Try.prog 45 [cellA c, cellA d, .lit (.int .i64 mode)] σ fun v σ' => v = .list false 1 (bytesA (charB c)) ∧ σ' = σ := by
  have hm2 : ¬ (mode : Int) = 2 := by omega
  have hi := ris_calls c.char
  rw [cellA_eq, cellA_eq]
  refine ACalls.of_awp follows (st := st45) (plans := pl45) (n := 45) Try.func45 rfl (by kernel_rfl) (by kernel_rfl) (by kernel_rfl) ?_
  have e8 : bytesA [8] = [.lit (.int .u8 8)] := rfl
  by_cases hset : c.set = 0xf1
  · have hse : (c.set.toNat : Int) = 241 := by rw [hset]; rfl
    have e1 : byteA c.set = .lit (.int .u8 241) := by rw [byteA, hse]
    rw [e1]
    by_cases hor : isOrd c.char = true
    · have hch : charB c = [8, 0x3f] := by simp [charB, codeB, hset, hor]
      rw [hor] at hi
      rw [hch, show bytesA [8, 0x3f] = [.lit (.int .u8 8), .lit (.int .u8 63)] from rfl]
      simp +contextual [ite_free, hm2]
      intro b hb b2 n1 n2 hb2
      refine callK.of (hi _) ?_
      rintro v σ' ⟨rfl, rfl⟩
      simp
      (intro q; simp only [Store.upd, Store.del]; (repeat' split) <;> first | exact Or.inr rfl | exact Or.inl rfl | (exfalso; omega) | (left; subst_vars; assumption) | simp_all)
    · have hch : charB c = [8, c.char] := by simp [charB, codeB, hset, hor]
      rw [show isOrd c.char = false by simpa using hor] at hi
      rw [hch, show bytesA [8, c.char] = [.lit (.int .u8 8), byteA c.char] from rfl]
      simp +contextual [ite_free, hm2]
      intro b hb b2 n1 n2 hb2
      refine callK.of (hi _) ?_
      rintro v σ' ⟨rfl, rfl⟩
      simp [n2]
      (intro q; simp only [Store.upd, Store.del]; (repeat' split) <;> first | exact Or.inr rfl | exact Or.inl rfl | (exfalso; omega) | (left; subst_vars; assumption) | simp_all)
  · have hse : ¬ (c.set.toNat : Int) = 241 := fun h => hset (UInt8.toNat_inj.1 (by have : (0xf1 : UInt8).toNat = 241 := rfl; omega))
    have e1 : byteA c.set = .lit (.int .u8 c.set.toNat) := rfl
    rw [e1]
    by_cases hor : isOrd c.char = true
    · have hch : charB c = [0x3f] := by simp [charB, codeB, hset, hor]
      rw [hor] at hi
      rw [hch, show bytesA [0x3f] = [.lit (.int .u8 63)] from rfl]
      simp +contextual [ite_free, hm2, hse]
      intro b hb b2 n1 n2 hb2
      refine callK.of (hi _) ?_
      rintro v σ' ⟨rfl, rfl⟩
      simp
      (intro q; simp only [Store.upd, Store.del]; (repeat' split) <;> first | exact Or.inr rfl | exact Or.inl rfl | (exfalso; omega) | (left; subst_vars; assumption) | simp_all)
    · have hch : charB c = [c.char] := by simp [charB, codeB, hset, hor]
      rw [show isOrd c.char = false by simpa using hor] at hi
      rw [hch, show bytesA [c.char] = [byteA c.char] from rfl]
      simp +contextual [ite_free, hm2, hse]
      intro b hb b2 n1 n2 hb2
      refine callK.of (hi _) ?_
      rintro v σ' ⟨rfl, rfl⟩
      simp [n2]
      (intro q; simp only [Store.upd, Store.del]; (repeat' split) <;> first | exact Or.inr rfl | exact Or.inl rfl | (exfalso; omega) | (left; subst_vars; assumption) | simp_all)
end Go.Proofs.Ytnlggjbcdienfaa
/-
  One character, as the document's Characters send it.
-/
namespace Go.Proofs.Ytnlggjbcdienfaa
open Go Go.AL Go.Sp

set_option maxRecDepth 8000 in
theorem rchars_calls (o : Bool) (c d : Cell) (mode : Nat) (hm : mode < 2) (σ : Store) : ACalls Try.prog 16 [.list o 6 [cellA c], cellA d, .lit (.int .i64 mode)] σ fun v σ' => v = .tuple [.list false 1 (bytesA (charB c)), cellA c] ∧ σ' = σ := by
  have hch := fun τ => rchar_calls c d mode hm τ
  have hlen : (charB c).length ≤ 2 := by unfold charB; split <;> simp
  have hcd : ∀ x : Cell, cellC x = [byteA x.char, .lit (.bool x.attr), byteA x.fa, byteA x.high, byteA x.color, byteA x.set] := fun _ => rfl
  simp only [cellA_eq] at hch ⊢
  refine ACalls.of_awp follows (st := st16) (plans := pl16) (n := 27) Try.func16 rfl (by kernel_rfl) (by kernel_rfl) (by kernel_rfl) ?_
  simp
  intro b4 hb4 b7 h7
  simp only [ite_none] at h7
  obtain ⟨n1, hb7⟩ := h7
  refine codeK.loop follows (st := st16) (plans := pl16) (X := Bool) (fun _ => True)
    (fun i => [(2, .lit (.int .i64 mode)), (4, ptrA b4), (7, ptrA b7), (8, .list true 1 (bytesA (if i = true then charB c else []))), (11, .list false 6 [cellA c]), (12, .lit (.int .i64 (1 : Nat))), (13, .lit (.int .i64 (if i = true then 1 else 0 : Nat)))])
    (fun i => (σ.upd b4 (cellC (if i = true then c else d))).upd b7 (cellC .zero)) (fun i => if i = true then 0 else 1) false (by kernel_rfl) trivial (by simp [cellA_eq, bytesA]) (by simp [hcd, Cell.zero, byteA]) fun i _ => ?_
  cases i
  · simp [cellA_eq]
    intro b hb
    simp only [ite_none] at hb
    obtain ⟨m1, m2, hb⟩ := hb
    have n2 : ¬ b4 = b7 := Ne.symm n1
    have m3 : ¬ b4 = b := Ne.symm m2
    simp [m3, n2, hcd]
    refine callK.of (hch _) ?_
    rintro v σ' ⟨rfl, rfl⟩
    simp [bytesA_nil]
    refine ⟨by omega, by omega, ?_⟩
    simp [m3, n2]
    intro o
    simp only [supd_apply, hcd]
    by_cases g1 : o = b4
    · right; simp [g1, n2]
    · by_cases g2 : o = b7
      · right; simp [g2, n1, show ¬ b7 = b from Ne.symm m1]
      · by_cases g3 : o = b
        · left; simp [g3, m1, m2, hb]
        · right; simp [g1, g2, g3]
  · have n2 : ¬ b4 = b7 := Ne.symm n1
    simp [n2, hcd]
    refine ⟨AV.le_tuple ⟨AV.le1_list _ _ _, AV.le1_refl _, trivial⟩, fun o => ?_⟩
    simp only [supd_apply]
    by_cases g1 : o = b4
    · left; rw [g1]; exact hb4
    · by_cases g2 : o = b7
      · left; rw [g2]; exact hb7
      · right; simp [g1, g2]
end Go.Proofs.Ytnlggjbcdienfaa
/-
  In field mode: what is sent is one entry for each modified field.
-/
namespace Go.Proofs.Ytnlggjbcdienfaa
open Go Go.AL Go.Sp

theorem count_pos {s : Sp} (h : s.attrs ≠ []) : 0 < s.count := by
  rcases hl : s.attrs with _ | ⟨a, l⟩
  · exact absurd hl h
  · obtain ⟨h1, h2⟩ := mem_attrs (s := s) (a := a) (by rw [hl]; simp)
    unfold Sp.count
    rw [List.countP_pos_iff]
    refine ⟨s.cells[a], List.getElem_mem h1, ?_⟩
    simpa [attrAt, h1] using h2
def wantTo (s : Sp) (aid : UInt8) (i : Nat) : List UInt8 := headB s aid ++ ((s.attrs.take i).filter (isMod s)).flatMap (fieldB s)
theorem wantTo_zero (s : Sp) (aid : UInt8) : wantTo s aid 0 = headB s aid := by simp [wantTo]
theorem wantTo_succ (s : Sp) (aid : UInt8) (i : Nat) (h : i < s.attrs.length) : wantTo s aid (i + 1) = wantTo s aid i ++ (if isMod s s.attrs[i] = true then fieldB s s.attrs[i] else []) := by
  unfold wantTo
  rw [List.take_succ_eq_append_getElem h, List.filter_append, List.flatMap_append, List.append_assoc]
  congr 2
  by_cases hm : isMod s s.attrs[i] = true <;> simp [hm]
theorem wantTo_length (s : Sp) (aid : UInt8) (hn : s.cells.length ≤ 3564) (i : Nat) : (wantTo s aid i).length ≤ 100000000 := by
  have h1 := flatMap_len (fieldB s) 7131 (fieldB_len s hn) ((s.attrs.take i).filter (isMod s))
  have h2 := List.length_filter_le (isMod s) (s.attrs.take i)
  have h3 : (s.attrs.take i).length ≤ s.attrs.length := by simp; omega
  have h4 := attrs_length s
  have h5 : ((s.attrs.take i).filter (isMod s)).length * 7131 ≤ 3564 * 7131 := Nat.mul_le_mul_right 7131 (by omega)
  have hhl : (headB s aid).length = 3 := rfl
  rw [wantTo, List.length_append, hhl]; omega
theorem wantTo_all (s : Sp) (aid : UInt8) (h : s.attrs ≠ []) : wantTo s aid s.attrs.length = modB s aid := by
  have hc := count_pos h
  rw [wantTo, List.take_length, ← modified_eq, modB, bodyB, if_neg (by omega)]
theorem encR_small {n : Nat} (h : n < 4096) : encR (n : Int) = [.list true 1 (bytesA (encM n)), .lit (.int .i64 0)] := by
  rw [encR, if_pos ⟨by omega, by omega⟩]; rfl
theorem enc_small {n : Nat} (h : n < 4096) (σ : Store) : ACalls Try.prog 12 [.lit (.int .i64 12), .lit (.int .i64 n)] σ fun v σ' => v = .tuple [.list true 1 (bytesA (encM n)), .lit (.int .i64 0)] ∧ σ' = σ := by
  have := enc4_calls (n : Int) σ
  rwa [encR_small h] at this

set_option maxRecDepth 8000 in
theorem readFields_law (m : UInt8) (l : List Sp.Act) (aid : UInt8) (hl : l.length ≤ maxLen) (ht : ∀ a ∈ l, a.text.length ≤ maxLen) (σ : Store) : ACalls Try.prog 3 [byteA m, .list false 11 (actsA l), byteA aid] σ fun v _ => v = .lit (.bool true) := by
  have hlay := fun τ => lay_calls m l (Nat.le_trans hl (by decide)) (fun a ha => Nat.le_trans (ht a ha) (by decide)) τ
  have hgood := lays_good m l
  refine ACalls.of_awp follows (st := st3) (plans := pl3) (n := 117) Try.func3 rfl (by kernel_rfl) (by kernel_rfl) (by kernel_rfl) ?_
  simp
  refine callK.of (awake_calls _) ?_
  rintro v σ' ⟨rfl, rfl⟩
  simp
  refine callK.of (hlay _) ?_
  rintro v σ1 ⟨q, p, x, y, rfl, h4, rfl⟩
  have hR := both_ref (s := Sp.lays m l) h4 hgood
  have hP := both_prg (t := Sp.lays m l) h4 hgood
  generalize Sp.lays m l = s at *
  generalize both σ' q p x y s s = τ at *
  have hln := hgood.len
  have hn := s.n_le
  have hro := hR.obj
  unfold rfO at hro
  simp
  refine callK.of (attrs_calls hR) ?_
  rintro v σ1 ⟨rfl, rfl⟩
  by_cases ha0 : s.attrs = []
  · simp [ha0]
    exact ⟨_, Store.sub_refl _⟩
  have hl0 : ¬ s.attrs.length = 0 := by rw [List.length_eq_zero_iff]; exact ha0
  have hsh := rshort_calls aid
  by_cases hs : isShort aid = true
  · rw [hs] at hsh
    simp [hl0]
    refine callK.of (hsh _) ?_
    rintro v σ1 ⟨rfl, rfl⟩
    simp
    exact ⟨_, Store.sub_refl _⟩
  rw [show isShort aid = false by simpa using hs] at hsh
  have hm := rmodified_calls hP aid 0 (by omega)
  rw [if_neg hs] at hm
  simp [hl0]
  refine callK.of (hsh _) ?_
  rintro v σ1 ⟨rfl, rfl⟩
  simp [ha0]
  refine callK.of hm ?_
  rintro v σ1 ⟨rfl, rfl⟩
  simp [hro]
  refine callK.of (enc_small (by have := hgood.cursor; omega) _) ?_
  rintro v σ1 ⟨rfl, rfl⟩
  have hcl : (bytesA (encM s.cursor)).length = 2 := rfl
  simp [hcl]
  refine callK.of (attrs_calls hR) ?_
  rintro v σ1 ⟨rfl, rfl⟩
  simp
  have hwz : byteA aid :: bytesA (encM s.cursor) = bytesA (wantTo s aid 0) := by rw [wantTo_zero]; rfl
  refine codeK.loop follows (st := st3) (plans := pl3) (X := Nat) (fun i => i ≤ s.attrs.length)
    (fun i => [(8, ptrA x), (9, .list false 1 (bytesA (modB s aid))), (10, .lit (.int .i64 0)), (13, .list true 1 (bytesA (wantTo s aid i))), (56, .list false 1 (natsA s.attrs)), (57, .lit (.int .i64 s.attrs.length)), (58, .lit (.int .i64 i))])
    (fun _ => σ1) (fun i => s.attrs.length - i) 0 (by kernel_rfl) (by simp) (by simp [hwz]) (Store.sub_refl _) fun i hi => ?_
  have hal := attrs_length s
  have hwl := wantTo_length s aid (by omega)
  by_cases hlt : i < s.attrs.length
  · have hw : IntKind.i64.wrap ((i : Int) + 1) = ((i + 1 : Nat) : Int) := wrap_i64 (by omega) (by omega)
    have hk := natsA_at s.attrs i hlt
    have hws := wantTo_succ s aid i hlt
    obtain ⟨hac, hat⟩ := mem_attrs (List.getElem_mem hlt)
    have hwl0 := hwl i
    generalize s.attrs[i] = a at *
    have han : a < s.n := by omega
    have hf := rfield_calls hR a han
    have hmod : (fld (s.cells[a]?.getD .zero).fa).mod = isMod s a := rfl
    have hfa : ∀ f : Fld, fldA f = .agg [.lit (.bool f.prot), .lit (.bool f.num), .lit (.int .i64 f.disp), .lit (.bool f.mod)] := fun _ => rfl
    rw [hfa, hmod] at hf
    by_cases hma : isMod s a = true
    · rw [if_pos hma] at hws
      rw [hma] at hf
      have hia : IntKind.i64.wrap ((a : Int) + 1) = ((a + 1 : Nat) : Int) := by rw [wrap_i64 (by omega) (by omega)]; omega
      have hrw := fun τ (hτ : Ref τ x y s) => rswrap_calls hτ ((a + 1 : Nat) : Int)
      rw [wrap_mod s.n_pos] at hrw
      have hml : (a + 1) % s.n < s.n := Nat.mod_lt _ s.n_pos
      have hen := enc_small (n := (a + 1) % s.n) (by omega) σ1
      have hpl := rplaces_calls hR a han hat
      have hel : (bytesA (encM ((a + 1) % s.n))).length = 2 := rfl
      have hsb : bytesA (wantTo s aid i) ++ [.lit (.int .u8 17)] ++ bytesA (encM ((a + 1) % s.n)) = bytesA (wantTo s aid i ++ sbaB s a) := by
        rw [List.append_assoc, bytesA_append]; rfl
      simp [hlt, hk]
      refine callK.of hf ?_
      rintro v σ2 ⟨rfl, rfl⟩
      simp [hia]
      refine callK.of (hrw _ hR) ?_
      rintro v σ3 ⟨rfl, rfl⟩
      simp
      refine callK.of hen ?_
      rintro v σ3 ⟨rfl, rfl⟩
      have l1 : (wantTo s aid i).length ≤ 9223372036854775806 := by omega
      have l2 : (wantTo s aid i).length + 1 ≤ 140737488355328 := by omega
      simp [hel, l1, l2]
      refine ⟨by omega, by omega, callK.of hpl ?_⟩
      rintro v σ3 ⟨rfl, rfl⟩
      have hsb1 : bytesA (wantTo s aid i) ++ .lit (.int .u8 17) :: bytesA (encM ((a + 1) % s.n)) = bytesA (wantTo s aid i ++ sbaB s a) := by rw [← hsb]; simp
      have hbl : ∀ j, (wantTo s aid i ++ sbaB s a ++ ((Sp.places s.cells a).take j).flatMap (cellB s)).length ≤ 200000000 := fun j => by
        have g1 := flatMap_take_len s a j (by omega)
        rw [List.length_append, List.length_append, sbaB_len]; omega
      have hpll := places_length s.cells a
      have hlen := Sp.len_lt (l := s.cells) (a := a) (by omega)
      have hwf : wantTo s aid (i + 1) = wantTo s aid i ++ sbaB s a ++ ((Sp.places s.cells a).take (Sp.places s.cells a).length).flatMap (cellB s) := by
        rw [hws, fieldB_eq, List.take_length, List.append_assoc]
      simp [hsb1]
      refine codeK.loop follows (st := st3) (plans := pl3) (X := Nat) (fun j => j ≤ (Sp.places s.cells a).length)
        (fun j => [(8, ptrA x), (9, .list false 1 (bytesA (modB s aid))), (10, .lit (.int .i64 0)), (13, .list true 1 (bytesA (wantTo s aid i ++ sbaB s a ++ ((Sp.places s.cells a).take j).flatMap (cellB s)))), (56, .list false 1 (natsA s.attrs)), (57, .lit (.int .i64 s.attrs.length)), (58, .lit (.int .i64 i)),
          (82, .list false 1 (natsA (Sp.places s.cells a))), (83, .lit (.int .i64 (Sp.places s.cells a).length)), (84, .lit (.int .i64 j))])
        (fun _ => σ3) (fun j => (Sp.places s.cells a).length - j) 0 (by kernel_rfl) (by simp) (by simp) (Store.sub_refl _) fun j hj => ?_
      by_cases hjl : j < (Sp.places s.cells a).length
      · have hwj : IntKind.i64.wrap ((j : Int) + 1) = ((j + 1 : Nat) : Int) := wrap_i64 (by omega) (by omega)
        have hkj := natsA_at (Sp.places s.cells a) j hjl
        have hft := flatMap_take (cellB s) (Sp.places s.cells a) j hjl
        have hmn : (Sp.places s.cells a)[j] < s.n := by rw [places_get, hln]; exact Nat.mod_lt _ s.n_pos
        have hblj := hbl j
        have hfn : bytesA (wantTo s aid i ++ sbaB s a ++ ((Sp.places s.cells a).take (j + 1)).flatMap (cellB s)) = bytesA (wantTo s aid i ++ sbaB s a ++ ((Sp.places s.cells a).take j).flatMap (cellB s)) ++ bytesA (cellB s (Sp.places s.cells a)[j]) := by
          rw [hft, ← List.append_assoc, bytesA_append]
        generalize (Sp.places s.cells a)[j] = m' at *
        have hmc : m' < s.cells.length := by omega
        have hgi := cellsO_get hmc
        have hcx : cellC s.cells[m'] = [byteA s.cells[m'].char, .lit (.bool s.cells[m'].attr), byteA s.cells[m'].fa, byteA s.cells[m'].high, byteA s.cells[m'].color, byteA s.cells[m'].set] := rfl
        rw [hcx] at hgi
        have hle : m' * 6 + 6 ≤ (cellsO s.cells).length := by rw [cellsO_length]; omega
        have hcb : cellB s m' = someB s.cells[m'] := by simp [cellB, hmc]
        rw [hcb] at hfn
        have hrow := hR.row
        have hchs := fun τ => rchars_calls true s.cells[m'] .zero 0 (by omega) τ
        simp only [cellA_eq] at hchs
        generalize s.cells[m'] = c at *
        generalize wantTo s aid i ++ sbaB s a ++ ((Sp.places s.cells a).take j).flatMap (cellB s) = base at *
        have hlc : (charB c).length ≤ 2 := by unfold charB; split <;> simp
        clear hbl hft hwf hf hen hpl hrw hsb hsb1 hm hlay hws
        by_cases hz : c.char = 0
        · have hb0 : byteA c.char = .lit (.int .u8 0) := by rw [hz]; rfl
          rw [hb0] at hgi
          rw [show someB c = [] by simp [someB, hz]] at hfn
          have hfn' := hfn.trans (show bytesA base ++ bytesA [] = bytesA base by simp [bytesA])
          simp [hjl, hkj, hro, rowC, hmn, hrow, hle, hgi]
          intro b hb
          exact ⟨j + 1, by omega, by omega, ⟨by rw [← List.append_assoc, hfn']; exact AV.le_refl _, by rw [hwj]; exact AV.le_refl _⟩, sub_upd_self _ _ _ hb⟩
        · have hb0 : ¬ (c.char.toNat : Int) = 0 := fun h => hz (UInt8.toNat_inj.1 (by have : (0 : UInt8).toNat = 0 := rfl; omega))
          rw [show someB c = charB c by simp [someB, hz]] at hfn
          have e1 : byteA c.char = .lit (.int .u8 c.char.toNat) := rfl
          rw [e1] at hgi hchs
          have hb1 : ¬ c.char.toNat = 0 := by omega
          simp [hjl, hkj, hro, rowC, hmn, hrow, hle, hgi]
          intro b hb
          simp [hb1]
          refine callK.of (hchs _) ?_
          rintro v σ4 ⟨rfl, rfl⟩
          simp
          intro b' hb'
          simp only [ite_none] at hb'
          refine ⟨by omega, by omega, j + 1, by omega, by omega, ⟨by rw [← List.append_assoc, hfn]; exact AV.le_refl _, by rw [hwj]; exact AV.le_refl _⟩, ?_⟩
          exact Store.sub_upd hb'.2 (Store.sub_upd hb (Store.sub_refl _))
      · obtain rfl : j = (Sp.places s.cells a).length := by omega
        rw [← hwf]
        simp
        exact ⟨i + 1, by omega, by omega, AV.le_refl _, by rw [hw]; exact AV.le_refl _⟩
    · rw [if_neg hma, List.append_nil] at hws
      rw [show isMod s a = false by simpa using hma] at hf
      simp [hlt, hk]
      refine callK.of hf ?_
      rintro v σ2 ⟨rfl, rfl⟩
      simp
      exact ⟨i + 1, by omega, by omega, by rw [hws]; exact AV.le_refl _, by rw [hw]; exact AV.le_refl _⟩
  · obtain rfl : i = s.attrs.length := by omega
    rw [wantTo_all s aid ha0]
    simp
    refine callK.of (same_calls _ _ _ _ _) ?_
    rintro v σ2 ⟨rfl, rfl⟩
    simp
    exact ⟨_, Store.sub_refl _⟩
end Go.Proofs.Ytnlggjbcdienfaa
