/-
  The document's fields: where attributes are, where fields start, which places they have.
-/
import Derived.Test.YtnlggjbcdienfaaPart19
namespace Go.Proofs.Ytnlggjbcdienfaa
open Go Go.AL Go.Sp

def natsA (l : List Nat) : List AV := l.map fun n => .lit (.int .i64 (n : Nat))
@[simp] theorem natsA_length (l : List Nat) : (natsA l).length = l.length := by simp [natsA]
theorem natsA_append (l k : List Nat) : natsA (l ++ k) = natsA l ++ natsA k := by simp [natsA]
theorem natsA_at (l : List Nat) (i : Nat) (h : i < l.length) : (natsA l)[i]'(by simpa using h) = .lit (.int .i64 (l[i] : Nat)) := by simp [natsA]
def attrsTo (s : Sp) (m : Nat) : List Nat := (List.range m).filter (isAt s)
theorem attrsTo_succ (s : Sp) (m : Nat) : attrsTo s (m + 1) = attrsTo s m ++ (if isAt s m = true then [m] else []) := by
  unfold attrsTo
  rw [List.range_succ, List.filter_append, List.filter_cons, List.filter_nil]
theorem attrsTo_length (s : Sp) (m : Nat) : (attrsTo s m).length ≤ m := by
  unfold attrsTo; have := List.length_filter_le (isAt s) (List.range m); simpa using this
theorem attrsTo_all {s : Sp} (h : s.good) : attrsTo s s.n = s.attrs := (attrs_eq s h).symm

set_option maxRecDepth 8000 in
theorem attrs_calls {x y : Nat} {s : Sp} {σ : Store} (h : Ref σ x y s) : ACalls Try.prog 9 [ptrA x] σ fun v σ' => v = .list false 1 (natsA s.attrs) ∧ σ' = σ := by
  have ho := h.obj
  have hr := h.row
  have hg := h.good
  have hln := hg.len
  have hn := s.n_le
  unfold rfO at ho
  refine ACalls.of_awp follows (st := st9) (plans := pl9) (n := 24) Try.func9 rfl (by kernel_rfl) (by kernel_rfl) (by kernel_rfl) ?_
  simp [ho, rowC]
  refine codeK.loop follows (st := st9) (plans := pl9) (X := Nat) (fun i => i ≤ s.n)
    (fun i => [(3, .list true 1 (natsA (attrsTo s i))), (9, rowC y s.n), (10, .lit (.int .i64 s.n)), (11, .lit (.int .i64 i))])
    (fun _ => σ) (fun i => s.n - i) 0 (by kernel_rfl) (by simp) (by simp [rowC, attrsTo, natsA]) (Store.sub_refl _) fun i hi => ?_
  by_cases hlt : i < s.n
  · have hw : IntKind.i64.wrap ((i : Int) + 1) = ((i + 1 : Nat) : Int) := wrap_i64 (by omega) (by omega)
    have hic : i < s.cells.length := by omega
    have hgi := cellsO_get hic
    have hcx : cellC s.cells[i] = [byteA s.cells[i].char, .lit (.bool s.cells[i].attr), byteA s.cells[i].fa, byteA s.cells[i].high, byteA s.cells[i].color, byteA s.cells[i].set] := rfl
    rw [hcx] at hgi
    have hle : i * 6 + 6 ≤ (cellsO s.cells).length := by rw [cellsO_length]; omega
    have hat : isAt s i = s.cells[i].attr := by simp [isAt, hic]
    have hsu := attrsTo_succ s i
    have hal := attrsTo_length s i
    rw [hat] at hsu
    generalize s.cells[i] = c at *
    by_cases hca : c.attr = true
    · rw [if_pos hca] at hsu
      have e1 : natsA (attrsTo s (i + 1)) = natsA (attrsTo s i) ++ [.lit (.int .i64 (i : Nat))] := by rw [hsu, natsA_append]; rfl
      simp +contextual [rowC, hlt, hr, hle, hgi, hca]
      intro b hb
      refine ⟨by omega, by omega, i + 1, by omega, by omega, by rw [e1]; exact AV.le_refl _, by rw [hw]; exact AV.le_refl _⟩
    · rw [if_neg hca, List.append_nil] at hsu
      have hcf : c.attr = false := by simpa using hca
      simp +contextual [rowC, hlt, hr, hle, hgi, hcf]
      intro b hb
      refine ⟨i + 1, by omega, by omega, by rw [hsu]; exact AV.le_refl _, by rw [hw]; exact AV.le_refl _⟩
  · obtain rfl : i = s.n := by omega
    rw [attrsTo_all hg]
    simp

theorem lastA_attrs (s : Sp) : ∀ m : Nat, lastA s.cells (-1) m = match (attrsTo s m).getLast? with | some a => (a : Int) | none => -1
  | 0 => rfl
  | m + 1 => by
    rw [attrsTo_succ, lastA]
    by_cases h : isAt s m = true
    · have h' : attrAt s.cells m = true := h
      rw [if_pos h, if_pos h', List.getLast?_append]; rfl
    · have h' : ¬ attrAt s.cells m = true := h
      rw [if_neg h, if_neg h', List.append_nil]; exact lastA_attrs s m
def intsA (l : List Int) : List AV := l.map fun n => .lit (.int .i64 n)
@[simp] theorem intsA_length (l : List Int) : (intsA l).length = l.length := by simp [intsA]
theorem intsA_at (l : List Int) (i : Nat) (h : i < l.length) : (intsA l)[i]'(by simpa using h) = .lit (.int .i64 l[i]) := by simp [intsA]
/-- What Starts has written when it has come to m. -/
def startsTo (s : Sp) (m : Nat) : List Int := (List.range m).map (fun i => startS s.cells i) ++ List.replicate (s.n - m) 0
theorem startsTo_length (s : Sp) {m : Nat} (h : m ≤ s.n) : (startsTo s m).length = s.n := by simp [startsTo]; omega
theorem startsTo_succ (s : Sp) {m : Nat} (h : m < s.n) : startsTo s (m + 1) = (startsTo s m).set m (startS s.cells m) := by
  unfold startsTo
  rw [List.range_succ, List.map_append, List.set_append_right (h := by simp), show s.n - m = (s.n - (m + 1)) + 1 by omega, List.replicate_succ]
  simp
def starts (s : Sp) : List Int := (List.range s.n).map fun i => startS s.cells i
theorem startsTo_all (s : Sp) : startsTo s s.n = starts s := by simp [startsTo, starts]
theorem startsTo_zero (s : Sp) : startsTo s 0 = List.replicate s.n 0 := by simp [startsTo]
theorem intsA_set (l : List Int) (i : Nat) (n : Int) : (intsA l).set i (.lit (.int .i64 n)) = intsA (l.set i n) := by simp [intsA, List.map_set]
/-- Before m is reached, the last attribute. -/
def lastTo (s : Sp) (m : Nat) : Int := lastA s.cells (lastA s.cells (-1) s.cells.length) m
theorem lastTo_succ (s : Sp) (m : Nat) : lastTo s (m + 1) = if isAt s m = true then (m : Int) else lastTo s m := rfl
theorem startS_eq (s : Sp) (m : Nat) : startS s.cells m = lastTo s (m + 1) := rfl

theorem natsA_last {l : List Nat} {a : Nat} (h : l.getLast? = some a) : (natsA l)[l.length - 1]? = some (.lit (.int .i64 a)) := by
  rw [List.getLast?_eq_getElem?] at h
  simp [natsA, h]
theorem attrs_length (s : Sp) : s.attrs.length ≤ s.cells.length := by
  have h2 : s.attrs.length ≤ (List.range s.cells.length).length := by unfold Sp.attrs; exact List.length_filter_le _ _
  simpa using h2
theorem sub_over {σ : Store} {p b : Nat} {X Y Z : List AV} (hb : σ b = none) (hn : ¬ b = p) : Store.sub (σ.upd p X) (((σ.upd p Y).upd b Z).upd p X) := by
  intro o
  simp only [supd_apply]
  by_cases h1 : o = p
  · right; simp [h1]
  · by_cases h2 : o = b
    · left; simp [h2, hb, hn]
    · right; simp [h1, h2]

set_option maxRecDepth 8000 in
theorem starts_calls {x y : Nat} {s : Sp} {σ : Store} (h : Ref σ x y s) : ACalls Try.prog 43 [ptrA x] σ fun v σ' => ∃ p, σ p = none ∧ v = rowC p s.n ∧ σ' = σ.upd p (intsA (starts s)) := by
  have ho := h.obj
  have hr := h.row
  have hg := h.good
  have hln := hg.len
  have hn := s.n_le
  have hat := attrs_calls h
  have hlast : lastTo s 0 = match s.attrs.getLast? with | some a => (a : Int) | none => -1 := by
    rw [← attrsTo_all hg]; rw [← hln]; exact lastA_attrs s s.cells.length
  have hal := attrs_length s
  unfold rfO at ho
  have hi1 : (s.n : Int) ≤ 9223372036854775807 := by omega
  have hi2 : 8 * (s.n : Int) ≤ 281474976710656 := by omega
  have hz0 : List.replicate s.n (.lit (.int .i64 0)) = intsA (startsTo s 0) := by rw [startsTo_zero]; simp [intsA]
  refine ACalls.of_awp follows (st := st43) (plans := pl43) (n := 44) Try.func43 rfl (by kernel_rfl) (by kernel_rfl) (by kernel_rfl) ?_
  simp
  refine callK.of hat ?_
  rintro v σ' ⟨rfl, rfl⟩
  generalize s.attrs = L at *
  have hxy := h.ne
  cases hL : L.getLast?
  case' none =>
    rw [hL] at hlast
    have hl0 : L.length = 0 := by rw [List.getLast?_eq_none_iff] at hL; simp [hL]
    dsimp only at hlast
    simp [ho, rowC, hi1, hi2, hl0, hz0]
    intro p hp
    obtain ⟨f1, f2, f3, f4⟩ := h.fresh hp
    simp [f1]
  case' some a =>
    rw [hL] at hlast
    dsimp only at hlast
    have hget := natsA_last hL
    have hl0 : 0 < L.length := by
      rcases L with _ | ⟨b, L⟩
      · cases hL
      · simp
    have hw0 : IntKind.i64.wrap ((L.length : Int) - 1) = ((L.length - 1 : Nat) : Int) := by rw [wrap_i64 (by omega) (by omega)]; omega
    have hl1 : L.length - 1 < L.length := by omega
    have hw1 : (0 : Int) ≤ ((L.length - 1 : Nat) : Int) := by omega
    simp [ho, rowC, hi1, hi2, hl0, hz0, hw0, hget, hw1]
    intro p hp
    obtain ⟨f1, f2, f3, f4⟩ := h.fresh hp
    simp [f1]
  all_goals
    refine codeK.loop follows (st := st43) (plans := pl43) (X := Nat) (fun i => i ≤ s.n)
      (fun i => [(4, rowC p s.n), (5, .lit (.int .i64 (lastTo s i))), (28, rowC y s.n), (29, .lit (.int .i64 s.n)), (30, .lit (.int .i64 i))])
      (fun i => σ'.upd p (intsA (startsTo s i))) (fun i => s.n - i) 0 (by kernel_rfl) (by simp) (by simp [rowC, hlast]) (Store.sub_refl _) fun i hi => ?_
    by_cases hlt : i < s.n
    · have hw : IntKind.i64.wrap ((i : Int) + 1) = ((i + 1 : Nat) : Int) := wrap_i64 (by omega) (by omega)
      have hic : i < s.cells.length := by omega
      have hgi := cellsO_get hic
      have hcx : cellC s.cells[i] = [byteA s.cells[i].char, .lit (.bool s.cells[i].attr), byteA s.cells[i].fa, byteA s.cells[i].high, byteA s.cells[i].color, byteA s.cells[i].set] := rfl
      rw [hcx] at hgi
      have hle : i * 6 + 6 ≤ (cellsO s.cells).length := by rw [cellsO_length]; omega
      have hia : isAt s i = s.cells[i].attr := by simp [isAt, hic]
      have hla := lastTo_succ s i
      have hst := startsTo_succ s hlt
      have hsl := startsTo_length s hi
      rw [startS_eq] at hst
      rw [hia] at hla
      generalize s.cells[i] = c at *
      by_cases hca : c.attr = true
      · rw [if_pos hca] at hla
        rw [hla] at hst
        simp +contextual [rowC, hlt, hr, hle, hgi, ite_free, hca, f2]
        intro b n1 n2 hb
        refine ⟨by omega, i + 1, by omega, by omega, ⟨by rw [hla]; exact AV.le_refl _, by rw [hw]; exact AV.le_refl _⟩, ?_⟩
        rw [hst, ← intsA_set]
        exact sub_over hb n1
      · rw [if_neg hca] at hla
        have hcf : c.attr = false := by simpa using hca
        rw [hla] at hst
        simp +contextual [rowC, hlt, hr, hle, hgi, ite_free, hcf, f2]
        intro b n1 n2 hb
        refine ⟨by omega, i + 1, by omega, by omega, ⟨by rw [hla]; exact AV.le_refl _, by rw [hw]; exact AV.le_refl _⟩, ?_⟩
        rw [hst, ← intsA_set]
        exact sub_over hb n1
    · obtain rfl : i = s.n := by omega
      rw [startsTo_all]
      simp [rowC]
      exact ⟨_, AV.le_refl _, _, Store.sub_refl _, p, hp, rfl, rfl⟩

set_option maxRecDepth 8000 in
theorem rfield_calls {x y : Nat} {s : Sp} {σ : Store} (h : Ref σ x y s) (a : Nat) (ha : a < s.n) : ACalls Try.prog 13 [ptrA x, .lit (.int .i64 a)] σ fun v σ' => v = fldA (fld (s.cells[a]?.getD .zero).fa) ∧ σ' = σ := by
  have ho := h.obj
  have hr := h.row
  have hln := h.good.len
  unfold rfO at ho
  have hac : a < s.cells.length := by omega
  have h2 : (cellsO s.cells)[a * 6 + 2]? = some (byteA s.cells[a].fa) := cellsO_get1 hac (by omega)
  have hle : a * 6 + 6 ≤ (cellsO s.cells).length := by rw [cellsO_length]; omega
  rw [show s.cells[a]?.getD .zero = s.cells[a] by simp [hac]]
  generalize s.cells[a] = c at *
  have hof := rof_calls c.fa
  have hfa : ∀ f : Fld, fldA f = .agg [.lit (.bool f.prot), .lit (.bool f.num), .lit (.int .i64 f.disp), .lit (.bool f.mod)] := fun _ => rfl
  rw [hfa] at hof ⊢
  refine ACalls.of_awp follows (st := st13) (plans := pl13) (n := 14) Try.func13 rfl (by kernel_rfl) (by kernel_rfl) (by kernel_rfl) ?_
  simp
  intro b hb
  obtain ⟨f1, f2, f3, f4⟩ := h.fresh hb
  simp [ho, rowC, ha, hr, h2, f1, f2]
  refine callK.of (hof _) ?_
  rintro v σ' ⟨rfl, rfl⟩
  simp
  (intro q; simp only [Store.upd, Store.del]; (repeat' split) <;> first | exact Or.inr rfl | exact Or.inl rfl | (exfalso; omega) | (left; subst_vars; assumption) | simp_all)
/-- The places of a field's cells, from the first on. -/
theorem places_take_succ {s : Sp} {a k : Nat} (h : k < Sp.len s.cells a) : (Sp.places s.cells a).take (k + 1) = (Sp.places s.cells a).take k ++ [(a + k + 1) % s.cells.length] := by
  have hl : k < (Sp.places s.cells a).length := by rw [places_length]; exact h
  rw [List.take_succ_eq_append_getElem hl, places_get]
theorem starts_at {s : Sp} {m : Nat} (h : m < s.n) : (intsA (starts s))[m]? = some (.lit (.int .i64 (startS s.cells m))) := by
  simp [intsA, starts, h]

set_option maxRecDepth 8000 in
theorem rplaces_calls {x y : Nat} {s : Sp} {σ : Store} (h : Ref σ x y s) (a : Nat) (ha : a < s.n) (hat : attrAt s.cells a = true) : ACalls Try.prog 15 [ptrA x, .lit (.int .i64 a)] σ fun v σ' => v = .list false 1 (natsA (Sp.places s.cells a)) ∧ σ' = σ := by
  have ho := h.obj
  have hr := h.row
  have hln := h.good.len
  have hn := s.n_le
  have hnp := s.n_pos
  have hwp := fun τ (hτ : Ref τ x y s) => rswrap_calls hτ (a : Int)
  rw [wrap_of_lt ha] at hwp
  have hsc := starts_calls h
  unfold rfO at ho
  have hac : a < s.cells.length := by omega
  have h1 : (cellsO s.cells)[a * 6 + 1]? = some (.lit (.bool true)) := by
    rw [cellsO_get1 hac (by omega)]
    have : s.cells[a].attr = true := by have := hat; simp [attrAt, hac] at this; exact this
    rw [show (cellC s.cells[a])[1]? = some (.lit (.bool s.cells[a].attr)) from rfl, this]
  have hsl : (intsA (starts s)).length = s.n := by simp [starts]
  have hlen := Sp.len_lt hac
  refine ACalls.of_awp follows (st := st15) (plans := pl15) (n := 52) Try.func15 rfl (by kernel_rfl) (by kernel_rfl) (by kernel_rfl) ?_
  simp
  refine callK.of (hwp _ h) ?_
  rintro v σ' ⟨rfl, rfl⟩
  simp [ho, rowC, ha, hr, h1]
  refine callK.of hsc ?_
  rintro v σ' ⟨p, hp, rfl, rfl⟩
  obtain ⟨f1, f2, f3, f4⟩ := h.fresh hp
  simp [rowC]
  refine codeK.loop follows (st := st15) (plans := pl15) (X := Nat) (fun k => k ≤ Sp.len s.cells a)
    (fun k => [(0, ptrA x), (1, .lit (.int .i64 a)), (5, rowC p s.n), (6, .list true 1 (natsA ((Sp.places s.cells a).take k))), (7, .lit (.int .i64 (k + 1 : Nat)))])
    (fun _ => σ'.upd p (intsA (starts s))) (fun k => Sp.len s.cells a - k) 0 (by kernel_rfl) (by simp) (by simp [rowC, natsA]) (Store.sub_refl _) fun k hk => ?_
  have hw2 : IntKind.i64.wrap ((k : Int) + 1 + 1) = (k : Int) + 1 + 1 := wrap_i64 (by omega) (by omega)
  have hw3 : IntKind.i64.wrap ((a : Int) + ((k : Int) + 1)) = ((a + (k + 1) : Nat) : Int) := by rw [wrap_i64 (by omega) (by omega)]; omega
  have hmod := fun τ => rmod_calls ((a + (k + 1) : Nat) : Int) s.n hnp (by omega) τ
  rw [wrap_mod hnp] at hmod
  have hml : (a + (k + 1)) % s.n < s.n := Nat.mod_lt _ hnp
  have hst := starts_at hml
  by_cases hkn : k + 1 < s.n
  · have hkn' : (k : Int) + 1 < s.n := by omega
    have hsp := Sp.startS_places hat hac (i := k + 1) (by omega) (by omega) (by omega)
    rw [hln] at hsp
    by_cases hlt : k < Sp.len s.cells a
    · have hpt := places_take_succ (s := s) (a := a) hlt
      rw [hln, show a + k + 1 = a + (k + 1) by omega] at hpt
      rw [hsp.2 (by omega)] at hst
      generalize (a + (k + 1)) % s.n = m at *
      have e1 : natsA ((Sp.places s.cells a).take (k + 1)) = natsA ((Sp.places s.cells a).take k) ++ [.lit (.int .i64 (m : Nat))] := by rw [hpt, natsA_append]; rfl
      have hl3 : ((Sp.places s.cells a).take k).length ≤ k := by simp; omega
      simp [ho, rowC, f1, hkn', hw3]
      refine callK.of (hmod _) ?_
      rintro v σ' ⟨rfl, rfl⟩
      simp [hml, hst]
      refine ⟨by omega, by omega, k + 1, by omega, by omega, by rw [e1]; exact AV.le_refl _, ?_⟩
      rw [hw2]
      exact AV.le_refl _
    · obtain rfl : k = Sp.len s.cells a := by omega
      have hne : ¬ startS s.cells ((a + (Sp.len s.cells a + 1)) % s.n) = (a : Int) := fun e => by have := hsp.1 e; omega
      have hall : (Sp.places s.cells a).take (Sp.len s.cells a) = Sp.places s.cells a := List.take_of_length_le (by rw [places_length]; exact Nat.le_refl _)
      rw [hall]
      generalize startS s.cells ((a + (Sp.len s.cells a + 1)) % s.n) = z at *
      generalize (a + (Sp.len s.cells a + 1)) % s.n = m at *
      simp [ho, rowC, f1, hkn', hw3]
      refine callK.of (hmod _) ?_
      rintro v σ' ⟨rfl, rfl⟩
      simp [hml, hst, hne]
      exact Store.sub_upd hp (Store.sub_refl _)
  · obtain rfl : k = Sp.len s.cells a := by omega
    have hkn' : ¬ ((Sp.len s.cells a : Nat) : Int) + 1 < s.n := by omega
    have hall : (Sp.places s.cells a).take (Sp.len s.cells a) = Sp.places s.cells a := List.take_of_length_le (by rw [places_length]; exact Nat.le_refl _)
    rw [hall]
    simp [ho, rowC, f1, hkn']
    exact Store.sub_upd hp (Store.sub_refl _)
end Go.Proofs.Ytnlggjbcdienfaa
/-
  A character, as the document sends it, in the modes that tell no looks.
-/
namespace Go.Proofs.Ytnlggjbcdienfaa
open Go Go.AL Go.Sp

def ordK : List Nat := [0, 5, 8, 17, 18, 19, 29, 40, 41, 44, 60]
def ordN : List ByteArray := ordK.map nameB
def strsA (l : List ByteArray) : List AV := l.map fun s => .lit (.string s)
theorem nameB_none (k : Nat) (h : ∀ j ∈ ordK, ¬ j = k) : nameB k = ⟨#[]⟩ := by
  simp only [ordK, List.mem_cons, List.not_mem_nil, or_false, forall_eq_or_imp, forall_eq] at h
  obtain ⟨h0, h1, h2, h3, h4, h5, h6, h7, h8, h9, h10⟩ := h
  simp [nameB, Ne.symm h0, Ne.symm h1, Ne.symm h2, Ne.symm h3, Ne.symm h4, Ne.symm h5, Ne.symm h6, Ne.symm h7, Ne.symm h8, Ne.symm h9, Ne.symm h10]
set_option maxRecDepth 8000 in
theorem rname_calls (k : Nat) (σ : Store) : ACalls Try.prog 86 [.lit (.int .i64 k)] σ fun v σ' => v = .lit (.string (nameB k)) ∧ σ' = σ := by
  refine ACalls.of_awp follows (st := st86) (plans := pl86) (n := 22) Try.func86 rfl (by kernel_rfl) (by kernel_rfl) (by kernel_rfl) ?_
  simp
  have hK : natsA ordK = [.lit (.int .i64 0), .lit (.int .i64 5), .lit (.int .i64 8), .lit (.int .i64 17), .lit (.int .i64 18), .lit (.int .i64 19), .lit (.int .i64 29), .lit (.int .i64 40), .lit (.int .i64 41), .lit (.int .i64 44), .lit (.int .i64 60)] := rfl
  obtain ⟨NS, hNS⟩ : ∃ NS, NS = strsA ordN := ⟨_, rfl⟩
  have hN : ∀ i, i < 11 → NS[i]? = (ordK[i]?).map fun j => .lit (.string (nameB j)) := fun i _ => by rw [hNS]; simp [strsA, ordN]; rfl
  have hk11 : ordK.length = 11 := rfl
  refine codeK.loop follows (st := st86) (plans := pl86) (X := Nat) (fun i => i ≤ 11 ∧ ∀ j, j < i → ordK[j]? ≠ some k)
    (fun i => [(0, .lit (.int .i64 k)), (3, .list false 1 NS), (7, .list false 1 (natsA ordK)), (8, .lit (.int .i64 (11 : Nat))), (9, .lit (.int .i64 i))])
    (fun _ => σ) (fun i => 11 - i) 0 (by kernel_rfl) (by simp) (by rw [hNS, hK]; simp [strsA, ordN, ordK, nameB]) (Store.sub_refl _) fun i ⟨hi, hno⟩ => ?_
  by_cases hlt : i < 11
  · have hlt' : (i : Int) < 11 := by omega
    have hw : IntKind.i64.wrap ((i : Int) + 1) = ((i + 1 : Nat) : Int) := wrap_i64 (by omega) (by omega)
    have hg : ordK[i]? = some ordK[i] := List.getElem?_eq_getElem (by omega)
    have hk := natsA_at ordK i (by omega)
    have hn := hN i hlt
    rw [hg] at hn
    have hno2 : ordK[i] ≠ k → ∀ j, j < i + 1 → ordK[j]? ≠ some k := fun hne j hj => by
      by_cases e : j = i
      · subst e; rw [hg]; intro h; exact hne (Option.some.inj h)
      · exact hno j (by omega)
    generalize ordK[i] = m at *
    clear hN hNS hK
    by_cases hm : m = k
    · subst hm
      simp [hlt', hk, hn, hk11, hlt]
    · have hm' : ¬ (m : Int) = k := by omega
      simp [hlt', hk, hm', hk11, hlt]
      exact ⟨i + 1, ⟨by omega, fun j hj => hno2 hm j hj⟩, by omega, by rw [hw]; exact AV.le_refl _⟩
  · obtain rfl : i = 11 := by omega
    have : nameB k = ⟨#[]⟩ := nameB_none k fun j hj e => by
      obtain ⟨n, hn, rfl⟩ := List.getElem_of_mem hj
      exact hno n (by omega) (by rw [List.getElem?_eq_getElem hn, e])
    simp [this]

set_option maxRecDepth 4000 in
theorem ris_calls (b : UInt8) (σ : Store) : ACalls Try.prog 58 [byteA b] σ fun v σ' => v = .lit (.bool (isOrd b)) ∧ σ' = σ := by
  refine ACalls.of_awp follows (st := st58) (plans := pl58) (n := 11) Try.func58 rfl (by kernel_rfl) (by kernel_rfl) (by kernel_rfl) ?_
  by_cases h0 : b.toNat = 0
  · have : isOrd b = false := by simp [isOrd, h0]
    simp [byteA, h0, this]
  · have h1 := ord_name b h0
    simp [byteA, h0, wrapB]
    refine callK.of (rname_calls b.toNat σ) ?_
    rintro v σ' ⟨rfl, rfl⟩
    simp [h0, h1]

set_option maxRecDepth 8000 in
theorem rchar_calls (c d : Cell) (mode : Nat) (hm : mode < 2) (σ : Store) : ACalls Try.prog 45 [cellA c, cellA d, .lit (.int .i64 mode)] σ fun v σ' => v = .list false 1 (bytesA (charB c)) ∧ σ' = σ := by
  have hm2 : ¬ (mode : Int) = 2 := by omega
  have hi := ris_calls c.char
  rw [cellA_eq, cellA_eq]
  refine ACalls.of_awp follows (st := st45) (plans := pl45) (n := 45) Try.func45 rfl (by kernel_rfl) (by kernel_rfl) (by kernel_rfl) ?_
  have e8 : bytesA [8] = [.lit (.int .u8 8)] := rfl
  by_cases hset : c.set = 0xf1
  · have hse : (c.set.toNat : Int) = 241 := by rw [hset]; rfl
    have e1 : byteA c.set = .lit (.int .u8 241) := by rw [byteA, hse]
    rw [e1]
    by_cases hor : isOrd c.char = true
    · have hch : charB c = [8, 0x3f] := by simp [charB, codeB, hset, hor]
      rw [hor] at hi
      rw [hch, show bytesA [8, 0x3f] = [.lit (.int .u8 8), .lit (.int .u8 63)] from rfl]
      simp +contextual [ite_free, hm2]
      intro b hb b2 n1 n2 hb2
      refine callK.of (hi _) ?_
      rintro v σ' ⟨rfl, rfl⟩
      simp
      (intro q; simp only [Store.upd, Store.del]; (repeat' split) <;> first | exact Or.inr rfl | exact Or.inl rfl | (exfalso; omega) | (left; subst_vars; assumption) | simp_all)
    · have hch : charB c = [8, c.char] := by simp [charB, codeB, hset, hor]
      rw [show isOrd c.char = false by simpa using hor] at hi
      rw [hch, show bytesA [8, c.char] = [.lit (.int .u8 8), byteA c.char] from rfl]
      simp +contextual [ite_free, hm2]
      intro b hb b2 n1 n2 hb2
      refine callK.of (hi _) ?_
      rintro v σ' ⟨rfl, rfl⟩
      simp [n2]
      (intro q; simp only [Store.upd, Store.del]; (repeat' split) <;> first | exact Or.inr rfl | exact Or.inl rfl | (exfalso; omega) | (left; subst_vars; assumption) | simp_all)
  · have hse : ¬ (c.set.toNat : Int) = 241 := fun h => hset (UInt8.toNat_inj.1 (by have : (0xf1 : UInt8).toNat = 241 := rfl; omega))
    have e1 : byteA c.set = .lit (.int .u8 c.set.toNat) := rfl
    rw [e1]
    by_cases hor : isOrd c.char = true
    · have hch : charB c = [0x3f] := by simp [charB, codeB, hset, hor]
      rw [hor] at hi
      rw [hch, show bytesA [0x3f] = [.lit (.int .u8 63)] from rfl]
      simp +contextual [ite_free, hm2, hse]
      intro b hb b2 n1 n2 hb2
      refine callK.of (hi _) ?_
      rintro v σ' ⟨rfl, rfl⟩
      simp
      (intro q; simp only [Store.upd, Store.del]; (repeat' split) <;> first | exact Or.inr rfl | exact Or.inl rfl | (exfalso; omega) | (left; subst_vars; assumption) | simp_all)
    · have hch : charB c = [c.char] := by simp [charB, codeB, hset, hor]
      rw [show isOrd c.char = false by simpa using hor] at hi
      rw [hch, show bytesA [c.char] = [byteA c.char] from rfl]
      simp +contextual [ite_free, hm2, hse]
      intro b hb b2 n1 n2 hb2
      refine callK.of (hi _) ?_
      rintro v σ' ⟨rfl, rfl⟩
      simp [n2]
      (intro q; simp only [Store.upd, Store.del]; (repeat' split) <;> first | exact Or.inr rfl | exact Or.inl rfl | (exfalso; omega) | (left; subst_vars; assumption) | simp_all)
end Go.Proofs.Ytnlggjbcdienfaa
/-
  Whether all cells look as they may; characters as they are sent.
-/
namespace Go.Proofs.Ytnlggjbcdienfaa
open Go Go.AL Go.Sp

theorem mem_done {L : List UInt8} {v : UInt8} (h : ∀ j (hj : j < L.length), j < L.length → L[j] ≠ v) : v ∉ L := fun hm => by
  obtain ⟨j, hj, rfl⟩ := List.getElem_of_mem hm
  exact h j hj hj rfl
set_option maxRecDepth 8000 in
set_option maxHeartbeats 1000000 in
theorem right_calls (t v : UInt8) (σ : Store) : ACalls Try.prog 57 [.agg [byteA t, byteA v]] σ fun r σ' => r = .lit (.bool (decide (okP t.toNat v.toNat))) ∧ σ' = σ := by
  have ht := byteA_lit t
  have hv := byteA_lit v
  refine ACalls.of_awp follows (st := st57) (plans := pl57) (n := 33) Try.func57 rfl (by kernel_rfl) (by kernel_rfl) (by kernel_rfl) ?_
  by_cases h0 : (t.toNat : Int) = 0
  · have hx : v ∈ ([0] : List UInt8) ↔ okP t.toNat v.toNat := by
      have e : t.toNat = 0 := by omega
      rw [e]
      exact all_bytes (p := fun v => v ∈ ([0] : List UInt8) ↔ okP 0 v.toNat) (by decide +kernel) v
    have hlen : ([0] : List UInt8).length = 1 := rfl
    have hlit : [AV.lit (.int .u8 0)] = bytesA [0] := rfl
    generalize ([0] : List UInt8) = L at *
    rw [ht, h0]
    simp
    intro p hp
    rw [hlit]
    refine codeK.loop follows (st := st57) (plans := pl57) (X := Nat) (fun i => i ≤ L.length ∧ ∀ j (hj : j < L.length), j < i → L[j] ≠ v)
      (fun i => [(1, ptrA p), (22, .list false 1 (bytesA L)), (23, .lit (.int .i64 L.length)), (24, .lit (.int .i64 i))]) (fun _ => σ.upd p [.lit (.int .u8 0), byteA v]) (fun i => L.length - i) 0 (by kernel_rfl) (by simp) (by simp [hlen]) (Store.sub_refl _) fun i hi => ?_
    obtain ⟨hi, hk⟩ := hi
    by_cases hlt : i < L.length
    · have hw : IntKind.i64.wrap ((i : Int) + 1) = ((i + 1 : Nat) : Int) := wrap_i64 (by omega) (by omega)
      have hg := bytesA_at L i hlt
      have hnx : L[i] ≠ v → ∀ j (hj : j < L.length), j < i + 1 → L[j] ≠ v := fun h j hj hji => by
        by_cases e : j = i
        · subst e; exact h
        · exact hk j hj (by omega)
      have hin : L[i] = v → v ∈ L := fun h => h ▸ List.getElem_mem hlt
      generalize L[i] = b at *
      by_cases hb : b = v
      · have ho := hx.1 (hin hb)
        subst hb
        simp [hlt, hg, hv, ho]
        exact sub_upd_self _ _ _ hp
      · have hb' : ¬ (b.toNat : Int) = v.toNat := fun h => hb (UInt8.toNat_inj.1 (by omega))
        simp [hlt, hg, hv, byteA_lit b, hb']
        exact ⟨i + 1, ⟨by omega, hnx hb⟩, by omega, by rw [hw]; exact AV.le_refl _⟩
    · obtain rfl : i = L.length := by omega
      have ho : ¬ okP t.toNat v.toNat := fun h => mem_done hk (hx.2 h)
      simp [ho]
      exact sub_upd_self _ _ _ hp
  by_cases h192 : (t.toNat : Int) = 192
  · have ho : okP t.toNat v.toNat := by unfold okP; omega
    rw [ht, h192]
    simp [ho]
    exact fun p hp => sub_upd_self _ _ _ hp
  by_cases h65 : (t.toNat : Int) = 65
  · have hx : v ∈ ([0, 240, 241, 242, 244, 248] : List UInt8) ↔ okP t.toNat v.toNat := by
      have e : t.toNat = 65 := by omega
      rw [e]
      exact all_bytes (p := fun v => v ∈ ([0, 240, 241, 242, 244, 248] : List UInt8) ↔ okP 65 v.toNat) (by decide +kernel) v
    have hlen : ([0, 240, 241, 242, 244, 248] : List UInt8).length = 6 := rfl
    have hlit : [AV.lit (.int .u8 0), AV.lit (.int .u8 240), AV.lit (.int .u8 241), AV.lit (.int .u8 242), AV.lit (.int .u8 244), AV.lit (.int .u8 248)] = bytesA [0, 240, 241, 242, 244, 248] := rfl
    generalize ([0, 240, 241, 242, 244, 248] : List UInt8) = L at *
    rw [ht, h65]
    simp
    intro p hp
    rw [hlit]
    refine codeK.loop follows (st := st57) (plans := pl57) (X := Nat) (fun i => i ≤ L.length ∧ ∀ j (hj : j < L.length), j < i → L[j] ≠ v)
      (fun i => [(1, ptrA p), (22, .list false 1 (bytesA L)), (23, .lit (.int .i64 L.length)), (24, .lit (.int .i64 i))]) (fun _ => σ.upd p [.lit (.int .u8 65), byteA v]) (fun i => L.length - i) 0 (by kernel_rfl) (by simp) (by simp [hlen]) (Store.sub_refl _) fun i hi => ?_
    obtain ⟨hi, hk⟩ := hi
    by_cases hlt : i < L.length
    · have hw : IntKind.i64.wrap ((i : Int) + 1) = ((i + 1 : Nat) : Int) := wrap_i64 (by omega) (by omega)
      have hg := bytesA_at L i hlt
      have hnx : L[i] ≠ v → ∀ j (hj : j < L.length), j < i + 1 → L[j] ≠ v := fun h j hj hji => by
        by_cases e : j = i
        · subst e; exact h
        · exact hk j hj (by omega)
      have hin : L[i] = v → v ∈ L := fun h => h ▸ List.getElem_mem hlt
      generalize L[i] = b at *
      by_cases hb : b = v
      · have ho := hx.1 (hin hb)
        subst hb
        simp [hlt, hg, hv, ho]
        exact sub_upd_self _ _ _ hp
      · have hb' : ¬ (b.toNat : Int) = v.toNat := fun h => hb (UInt8.toNat_inj.1 (by omega))
        simp [hlt, hg, hv, byteA_lit b, hb']
        exact ⟨i + 1, ⟨by omega, hnx hb⟩, by omega, by rw [hw]; exact AV.le_refl _⟩
    · obtain rfl : i = L.length := by omega
      have ho : ¬ okP t.toNat v.toNat := fun h => mem_done hk (hx.2 h)
      simp [ho]
      exact sub_upd_self _ _ _ hp
  by_cases h66 : (t.toNat : Int) = 66
  · have hx : v ∈ ([0, 241, 242, 243, 244, 245, 246, 247] : List UInt8) ↔ okP t.toNat v.toNat := by
      have e : t.toNat = 66 := by omega
      rw [e]
      exact all_bytes (p := fun v => v ∈ ([0, 241, 242, 243, 244, 245, 246, 247] : List UInt8) ↔ okP 66 v.toNat) (by decide +kernel) v
    have hlen : ([0, 241, 242, 243, 244, 245, 246, 247] : List UInt8).length = 8 := rfl
    have hlit : [AV.lit (.int .u8 0), AV.lit (.int .u8 241), AV.lit (.int .u8 242), AV.lit (.int .u8 243), AV.lit (.int .u8 244), AV.lit (.int .u8 245), AV.lit (.int .u8 246), AV.lit (.int .u8 247)] = bytesA [0, 241, 242, 243, 244, 245, 246, 247] := rfl
    generalize ([0, 241, 242, 243, 244, 245, 246, 247] : List UInt8) = L at *
    rw [ht, h66]
    simp
    intro p hp
    rw [hlit]
    refine codeK.loop follows (st := st57) (plans := pl57) (X := Nat) (fun i => i ≤ L.length ∧ ∀ j (hj : j < L.length), j < i → L[j] ≠ v)
      (fun i => [(1, ptrA p), (22, .list false 1 (bytesA L)), (23, .lit (.int .i64 L.length)), (24, .lit (.int .i64 i))]) (fun _ => σ.upd p [.lit (.int .u8 66), byteA v]) (fun i => L.length - i) 0 (by kernel_rfl) (by simp) (by simp [hlen]) (Store.sub_refl _) fun i hi => ?_
    obtain ⟨hi, hk⟩ := hi
    by_cases hlt : i < L.length
    · have hw : IntKind.i64.wrap ((i : Int) + 1) = ((i + 1 : Nat) : Int) := wrap_i64 (by omega) (by omega)
      have hg := bytesA_at L i hlt
      have hnx : L[i] ≠ v → ∀ j (hj : j < L.length), j < i + 1 → L[j] ≠ v := fun h j hj hji => by
        by_cases e : j = i
        · subst e; exact h
        · exact hk j hj (by omega)
      have hin : L[i] = v → v ∈ L := fun h => h ▸ List.getElem_mem hlt
      generalize L[i] = b at *
      by_cases hb : b = v
      · have ho := hx.1 (hin hb)
        subst hb
        simp [hlt, hg, hv, ho]
        exact sub_upd_self _ _ _ hp
      · have hb' : ¬ (b.toNat : Int) = v.toNat := fun h => hb (UInt8.toNat_inj.1 (by omega))
        simp [hlt, hg, hv, byteA_lit b, hb']
        exact ⟨i + 1, ⟨by omega, hnx hb⟩, by omega, by rw [hw]; exact AV.le_refl _⟩
    · obtain rfl : i = L.length := by omega
      have ho : ¬ okP t.toNat v.toNat := fun h => mem_done hk (hx.2 h)
      simp [ho]
      exact sub_upd_self _ _ _ hp
  by_cases h67 : (t.toNat : Int) = 67
  · have hx : v ∈ ([0, 241] : List UInt8) ↔ okP t.toNat v.toNat := by
      have e : t.toNat = 67 := by omega
      rw [e]
      exact all_bytes (p := fun v => v ∈ ([0, 241] : List UInt8) ↔ okP 67 v.toNat) (by decide +kernel) v
    have hlen : ([0, 241] : List UInt8).length = 2 := rfl
    have hlit : [AV.lit (.int .u8 0), AV.lit (.int .u8 241)] = bytesA [0, 241] := rfl
    generalize ([0, 241] : List UInt8) = L at *
    rw [ht, h67]
    simp
    intro p hp
    rw [hlit]
    refine codeK.loop follows (st := st57) (plans := pl57) (X := Nat) (fun i => i ≤ L.length ∧ ∀ j (hj : j < L.length), j < i → L[j] ≠ v)
      (fun i => [(1, ptrA p), (22, .list false 1 (bytesA L)), (23, .lit (.int .i64 L.length)), (24, .lit (.int .i64 i))]) (fun _ => σ.upd p [.lit (.int .u8 67), byteA v]) (fun i => L.length - i) 0 (by kernel_rfl) (by simp) (by simp [hlen]) (Store.sub_refl _) fun i hi => ?_
    obtain ⟨hi, hk⟩ := hi
    by_cases hlt : i < L.length
    · have hw : IntKind.i64.wrap ((i : Int) + 1) = ((i + 1 : Nat) : Int) := wrap_i64 (by omega) (by omega)
      have hg := bytesA_at L i hlt
      have hnx : L[i] ≠ v → ∀ j (hj : j < L.length), j < i + 1 → L[j] ≠ v := fun h j hj hji => by
        by_cases e : j = i
        · subst e; exact h
        · exact hk j hj (by omega)
      have hin : L[i] = v → v ∈ L := fun h => h ▸ List.getElem_mem hlt
      generalize L[i] = b at *
      by_cases hb : b = v
      · have ho := hx.1 (hin hb)
        subst hb
        simp [hlt, hg, hv, ho]
        exact sub_upd_self _ _ _ hp
      · have hb' : ¬ (b.toNat : Int) = v.toNat := fun h => hb (UInt8.toNat_inj.1 (by omega))
        simp [hlt, hg, hv, byteA_lit b, hb']
        exact ⟨i + 1, ⟨by omega, hnx hb⟩, by omega, by rw [hw]; exact AV.le_refl _⟩
    · obtain rfl : i = L.length := by omega
      have ho : ¬ okP t.toNat v.toNat := fun h => mem_done hk (hx.2 h)
      simp [ho]
      exact sub_upd_self _ _ _ hp
  have ho : ¬ okP t.toNat v.toNat := by unfold okP; omega
  have h0' : ¬ t.toNat = 0 := by omega
  rw [ht]
  simp [h0', h192, h65, h66, h67]
  intro p hp
  refine codeK.loop follows (st := st57) (plans := pl57) (X := Unit) (fun _ => True)
    (fun _ => [(22, .list false 1 []), (23, .lit (.int .i64 0)), (24, .lit (.int .i64 0))]) (fun _ => σ.upd p [.lit (.int .u8 t.toNat), byteA v]) (fun _ => 0) () (by kernel_rfl) trivial (by simp) (Store.sub_refl _) fun _ _ => ?_
  simp [ho]
  exact sub_upd_self _ _ _ hp
set_option maxRecDepth 8000 in
theorem rdiff_calls (a b : Cell) (σ : Store) : ACalls Try.prog 56 [cellA a, cellA b] σ fun v σ' => v = .list false 2 ((diffP a b).map p2A) ∧ σ' = σ := by
  rw [cellA_eq, cellA_eq]
  have n1 : ¬ a.high = b.high → ¬ (a.high.toNat : Int) = b.high.toNat := fun h e => h (UInt8.toNat_inj.1 (by omega))
  have n2 : ¬ a.color = b.color → ¬ (a.color.toNat : Int) = b.color.toNat := fun h e => h (UInt8.toNat_inj.1 (by omega))
  have n3 : ¬ a.set = b.set → ¬ (a.set.toNat : Int) = b.set.toNat := fun h e => h (UInt8.toNat_inj.1 (by omega))
  refine ACalls.of_awp follows (st := st56) (plans := pl56) (n := 40) Try.func56 rfl (by kernel_rfl) (by kernel_rfl) (by kernel_rfl) ?_
  rw [diffP, d1, d2, d3]
  generalize a.char = x0 at *; generalize a.attr = x1 at *; generalize a.fa = x2 at *; generalize a.high = x3 at *; generalize a.color = x4 at *; generalize a.set = x5 at *
  generalize b.char = y0 at *; generalize b.attr = y1 at *; generalize b.fa = y2 at *; generalize b.high = y3 at *; generalize b.color = y4 at *; generalize b.set = y5 at *
  by_cases c1 : x3 = y3 <;> by_cases c2 : x4 = y4 <;> by_cases c3 : x5 = y5 <;>
    (simp +contextual [c1, c2, c3, byteA_lit x3, byteA_lit x4, byteA_lit x5, byteA_lit y3, byteA_lit y4, byteA_lit y5, n1, n2, n3, p2A, ite_free]; intros; first | (refine ⟨AV.le_list _ _ _, ?_⟩; (intro q; simp only [Store.upd, Store.del]; (repeat' split) <;> first | exact Or.inr rfl | exact Or.inl rfl | (exfalso; omega) | (left; subst_vars; assumption) | simp_all)) | (intro q; simp only [Store.upd, Store.del]; (repeat' split) <;> first | exact Or.inr rfl | exact Or.inl rfl | (exfalso; omega) | (left; subst_vars; assumption) | simp_all))
set_option maxRecDepth 8000 in
theorem sent_calls (c : UInt8) (σ : Store) : ACalls Try.prog 29 [byteA c] σ fun v σ' => v = byteA (codeB c) ∧ σ' = σ := by
  have hi := ris_calls c
  refine ACalls.of_awp follows (st := st29) (plans := pl29) (n := 6) Try.func29 rfl (by kernel_rfl) (by kernel_rfl) (by kernel_rfl) ?_
  unfold codeB
  by_cases h : isOrd c = true
  · rw [h] at hi
    simp
    refine callK.of (hi _) ?_
    rintro v σ' ⟨rfl, rfl⟩
    simp [h]; exact AV.le_refl _
  · rw [show isOrd c = false by simpa using h] at hi
    simp
    refine callK.of (hi _) ?_
    rintro v σ' ⟨rfl, rfl⟩
    simp [h]
end Go.Proofs.Ytnlggjbcdienfaa
