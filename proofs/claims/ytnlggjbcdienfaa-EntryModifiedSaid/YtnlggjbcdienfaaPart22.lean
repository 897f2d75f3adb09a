/-
  In field mode: what is sent is one entry for each modified field.
-/
import Derived.Test.YtnlggjbcdienfaaPart21
namespace Go.Proofs.Ytnlggjbcdienfaa
open Go Go.AL Go.Sp

theorem count_pos {s : Sp} (h : s.attrs ≠ []) : 0 < s.count := by
  rcases hl : s.attrs with _ | ⟨a, l⟩
  · exact absurd hl h
  · obtain ⟨h1, h2⟩ := mem_attrs (s := s) (a := a) (by rw [hl]; simp)
    unfold Sp.count
    rw [List.countP_pos_iff]
    refine ⟨s.cells[a], List.getElem_mem h1, ?_⟩
    simpa [attrAt, h1] using h2
def wantTo (s : Sp) (aid : UInt8) (i : Nat) : List UInt8 := headB s aid ++ ((s.attrs.take i).filter (isMod s)).flatMap (fieldB s)
theorem wantTo_zero (s : Sp) (aid : UInt8) : wantTo s aid 0 = headB s aid := by simp [wantTo]
theorem wantTo_succ (s : Sp) (aid : UInt8) (i : Nat) (h : i < s.attrs.length) : wantTo s aid (i + 1) = wantTo s aid i ++ (if isMod s s.attrs[i] = true then fieldB s s.attrs[i] else []) := by
  unfold wantTo
  rw [List.take_succ_eq_append_getElem h, List.filter_append, List.flatMap_append, List.append_assoc]
  congr 2
  by_cases hm : isMod s s.attrs[i] = true <;> simp [hm]
theorem wantTo_length (s : Sp) (aid : UInt8) (hn : s.cells.length ≤ 3564) (i : Nat) : (wantTo s aid i).length ≤ 100000000 := by
  have h1 := flatMap_len (fieldB s) 7131 (fieldB_len s hn) ((s.attrs.take i).filter (isMod s))
  have h2 := List.length_filter_le (isMod s) (s.attrs.take i)
  have h3 : (s.attrs.take i).length ≤ s.attrs.length := by simp; omega
  have h4 := attrs_length s
  have h5 : ((s.attrs.take i).filter (isMod s)).length * 7131 ≤ 3564 * 7131 := Nat.mul_le_mul_right 7131 (by omega)
  have hhl : (headB s aid).length = 3 := rfl
  rw [wantTo, List.length_append, hhl]; omega
theorem wantTo_all (s : Sp) (aid : UInt8) (h : s.attrs ≠ []) : wantTo s aid s.attrs.length = modB s aid := by
  have hc := count_pos h
  rw [wantTo, List.take_length, ← modified_eq, modB, bodyB, if_neg (by omega)]
theorem encR_small {n : Nat} (h : n < 4096) : encR (n : Int) = [.list true 1 (bytesA (encM n)), .lit (.int .i64 0)] := by
  rw [encR, if_pos ⟨by omega, by omega⟩]; rfl
theorem enc_small {n : Nat} (h : n < 4096) (σ : Store) : ACalls Try.prog 12 [.lit (.int .i64 12), .lit (.int .i64 n)] σ fun v σ' => v = .tuple [.list true 1 (bytesA (encM n)), .lit (.int .i64 0)] ∧ σ' = σ := by
  have := enc4_calls (n : Int) σ
  rwa [encR_small h] at this

set_option maxRecDepth 8000 in
theorem readFields_law (m : UInt8) (l : List Sp.Act) (aid : UInt8) (hl : l.length ≤ maxLen) (ht : ∀ a ∈ l, a.text.length ≤ maxLen) (σ : Store) : ACalls Try.prog 3 [byteA m, .list false 11 (actsA l), byteA aid] σ fun v _ => v = .lit (.bool true) := by
  have hlay := fun τ => lay_calls m l (Nat.le_trans hl (by decide)) (fun a ha => Nat.le_trans (ht a ha) (by decide)) τ
  have hgood := lays_good m l
  refine ACalls.of_awp follows (st := st3) (plans := pl3) (n := 117) Try.func3 rfl (by kernel_rfl) (by kernel_rfl) (by kernel_rfl) ?_
  simp
  refine callK.of (awake_calls _) ?_
  rintro v σ' ⟨rfl, rfl⟩
  simp
  refine callK.of (hlay _) ?_
  rintro v σ1 ⟨q, p, x, y, rfl, h4, rfl⟩
  have hR := both_ref (s := Sp.lays m l) h4 hgood
  have hP := both_prg (t := Sp.lays m l) h4 hgood
  generalize Sp.lays m l = s at *
  generalize both σ' q p x y s s = τ at *
  have hln := hgood.len
  have hn := s.n_le
  have hro := hR.obj
  unfold rfO at hro
  simp
  refine callK.of (attrs_calls hR) ?_
  rintro v σ1 ⟨rfl, rfl⟩
  by_cases ha0 : s.attrs = []
  · simp [ha0]
    exact ⟨_, Store.sub_refl _⟩
  have hl0 : ¬ s.attrs.length = 0 := by rw [List.length_eq_zero_iff]; exact ha0
  have hsh := rshort_calls aid
  by_cases hs : isShort aid = true
  · rw [hs] at hsh
    simp [hl0]
    refine callK.of (hsh _) ?_
    rintro v σ1 ⟨rfl, rfl⟩
    simp
    exact ⟨_, Store.sub_refl _⟩
  rw [show isShort aid = false by simpa using hs] at hsh
  have hm := rmodified_calls hP aid 0 (by omega)
  rw [if_neg hs] at hm
  simp [hl0]
  refine callK.of (hsh _) ?_
  rintro v σ1 ⟨rfl, rfl⟩
  simp [ha0]
  refine callK.of hm ?_
  rintro v σ1 ⟨rfl, rfl⟩
  simp [hro]
  refine callK.of (enc_small (by have := hgood.cursor; omega) _) ?_
  rintro v σ1 ⟨rfl, rfl⟩
  have hcl : (bytesA (encM s.cursor)).length = 2 := rfl
  simp [hcl]
  refine callK.of (attrs_calls hR) ?_
  rintro v σ1 ⟨rfl, rfl⟩
  simp
  have hwz : byteA aid :: bytesA (encM s.cursor) = bytesA (wantTo s aid 0) := by rw [wantTo_zero]; rfl
  refine codeK.loop follows (st := st3) (plans := pl3) (X := Nat) (fun i => i ≤ s.attrs.length)
    (fun i => [(8, ptrA x), (9, .list false 1 (bytesA (modB s aid))), (10, .lit (.int .i64 0)), (13, .list true 1 (bytesA (wantTo s aid i))), (56, .list false 1 (natsA s.attrs)), (57, .lit (.int .i64 s.attrs.length)), (58, .lit (.int .i64 i))])
    (fun _ => σ1) (fun i => s.attrs.length - i) 0 (by kernel_rfl) (by simp) (by simp [hwz]) (Store.sub_refl _) fun i hi => ?_
  have hal := attrs_length s
  have hwl := wantTo_length s aid (by omega)
  by_cases hlt : i < s.attrs.length
  · have hw : IntKind.i64.wrap ((i : Int) + 1) = ((i + 1 : Nat) : Int) := wrap_i64 (by omega) (by omega)
    have hk := natsA_at s.attrs i hlt
    have hws := wantTo_succ s aid i hlt
    obtain ⟨hac, hat⟩ := mem_attrs (List.getElem_mem hlt)
    have hwl0 := hwl i
    generalize s.attrs[i] = a at *
    have han : a < s.n := by omega
    have hf := rfield_calls hR a han
    have hmod : (fld (s.cells[a]?.getD .zero).fa).mod = isMod s a := rfl
    have hfa : ∀ f : Fld, fldA f = .agg [.lit (.bool f.prot), .lit (.bool f.num), .lit (.int .i64 f.disp), .lit (.bool f.mod)] := fun _ => rfl
    rw [hfa, hmod] at hf
    by_cases hma : isMod s a = true
    · rw [if_pos hma] at hws
      rw [hma] at hf
      have hia : IntKind.i64.wrap ((a : Int) + 1) = ((a + 1 : Nat) : Int) := by rw [wrap_i64 (by omega) (by omega)]; omega
      have hrw := fun τ (hτ : Ref τ x y s) => rswrap_calls hτ ((a + 1 : Nat) : Int)
      rw [wrap_mod s.n_pos] at hrw
      have hml : (a + 1) % s.n < s.n := Nat.mod_lt _ s.n_pos
      have hen := enc_small (n := (a + 1) % s.n) (by omega) σ1
      have hpl := rplaces_calls hR a han hat
      have hel : (bytesA (encM ((a + 1) % s.n))).length = 2 := rfl
      have hsb : bytesA (wantTo s aid i) ++ [.lit (.int .u8 17)] ++ bytesA (encM ((a + 1) % s.n)) = bytesA (wantTo s aid i ++ sbaB s a) := by
        rw [List.append_assoc, bytesA_append]; rfl
      simp [hlt, hk]
      refine callK.of hf ?_
      rintro v σ2 ⟨rfl, rfl⟩
      simp [hia]
      refine callK.of (hrw _ hR) ?_
      rintro v σ3 ⟨rfl, rfl⟩
      simp
      refine callK.of hen ?_
      rintro v σ3 ⟨rfl, rfl⟩
      have l1 : (wantTo s aid i).length ≤ 9223372036854775806 := by omega
      have l2 : (wantTo s aid i).length + 1 ≤ 140737488355328 := by omega
      simp [hel, l1, l2]
      refine ⟨by omega, by omega, callK.of hpl ?_⟩
      rintro v σ3 ⟨rfl, rfl⟩
      have hsb1 : bytesA (wantTo s aid i) ++ .lit (.int .u8 17) :: bytesA (encM ((a + 1) % s.n)) = bytesA (wantTo s aid i ++ sbaB s a) := by rw [← hsb]; simp
      have hbl : ∀ j, (wantTo s aid i ++ sbaB s a ++ ((Sp.places s.cells a).take j).flatMap (cellB s)).length ≤ 200000000 := fun j => by
        have g1 := flatMap_take_len s a j (by omega)
        rw [List.length_append, List.length_append, sbaB_len]; omega
      have hpll := places_length s.cells a
      have hlen := Sp.len_lt (l := s.cells) (a := a) (by omega)
      have hwf : wantTo s aid (i + 1) = wantTo s aid i ++ sbaB s a ++ ((Sp.places s.cells a).take (Sp.places s.cells a).length).flatMap (cellB s) := by
        rw [hws, fieldB_eq, List.take_length, List.append_assoc]
      simp [hsb1]
      refine codeK.loop follows (st := st3) (plans := pl3) (X := Nat) (fun j => j ≤ (Sp.places s.cells a).length)
        (fun j => [(8, ptrA x), (9, .list false 1 (bytesA (modB s aid))), (10, .lit (.int .i64 0)), (13, .list true 1 (bytesA (wantTo s aid i ++ sbaB s a ++ ((Sp.places s.cells a).take j).flatMap (cellB s)))), (56, .list false 1 (natsA s.attrs)), (57, .lit (.int .i64 s.attrs.length)), (58, .lit (.int .i64 i)),
          (82, .list false 1 (natsA (Sp.places s.cells a))), (83, .lit (.int .i64 (Sp.places s.cells a).length)), (84, .lit (.int .i64 j))])
        (fun _ => σ3) (fun j => (Sp.places s.cells a).length - j) 0 (by kernel_rfl) (by simp) (by simp) (Store.sub_refl _) fun j hj => ?_
      by_cases hjl : j < (Sp.places s.cells a).length
      · have hwj : IntKind.i64.wrap ((j : Int) + 1) = ((j + 1 : Nat) : Int) := wrap_i64 (by omega) (by omega)
        have hkj := natsA_at (Sp.places s.cells a) j hjl
        have hft := flatMap_take (cellB s) (Sp.places s.cells a) j hjl
        have hmn : (Sp.places s.cells a)[j] < s.n := by rw [places_get, hln]; exact Nat.mod_lt _ s.n_pos
        have hblj := hbl j
        have hfn : bytesA (wantTo s aid i ++ sbaB s a ++ ((Sp.places s.cells a).take (j + 1)).flatMap (cellB s)) = bytesA (wantTo s aid i ++ sbaB s a ++ ((Sp.places s.cells a).take j).flatMap (cellB s)) ++ bytesA (cellB s (Sp.places s.cells a)[j]) := by
          rw [hft, ← List.append_assoc, bytesA_append]
        generalize (Sp.places s.cells a)[j] = m' at *
        have hmc : m' < s.cells.length := by omega
        have hgi := cellsO_get hmc
        have hcx : cellC s.cells[m'] = [byteA s.cells[m'].char, .lit (.bool s.cells[m'].attr), byteA s.cells[m'].fa, byteA s.cells[m'].high, byteA s.cells[m'].color, byteA s.cells[m'].set] := rfl
        rw [hcx] at hgi
        have hle : m' * 6 + 6 ≤ (cellsO s.cells).length := by rw [cellsO_length]; omega
        have hcb : cellB s m' = someB s.cells[m'] := by simp [cellB, hmc]
        rw [hcb] at hfn
        have hrow := hR.row
        have hchs := fun τ => rchars_calls true s.cells[m'] .zero 0 (by omega) τ
        simp only [cellA_eq] at hchs
        generalize s.cells[m'] = c at *
        generalize wantTo s aid i ++ sbaB s a ++ ((Sp.places s.cells a).take j).flatMap (cellB s) = base at *
        have hlc : (charB c).length ≤ 2 := by unfold charB; split <;> simp
        clear hbl hft hwf hf hen hpl hrw hsb hsb1 hm hlay hws
        by_cases hz : c.char = 0
        · have hb0 : byteA c.char = .lit (.int .u8 0) := by rw [hz]; rfl
          rw [hb0] at hgi
          rw [show someB c = [] by simp [someB, hz]] at hfn
          have hfn' := hfn.trans (show bytesA base ++ bytesA [] = bytesA base by simp [bytesA])
          simp [hjl, hkj, hro, rowC, hmn, hrow, hle, hgi]
          intro b hb
          exact ⟨j + 1, by omega, by omega, ⟨by rw [← List.append_assoc, hfn']; exact AV.le_refl _, by rw [hwj]; exact AV.le_refl _⟩, sub_upd_self _ _ _ hb⟩
        · have hb0 : ¬ (c.char.toNat : Int) = 0 := fun h => hz (UInt8.toNat_inj.1 (by have : (0 : UInt8).toNat = 0 := rfl; omega))
          rw [show someB c = charB c by simp [someB, hz]] at hfn
          have e1 : byteA c.char = .lit (.int .u8 c.char.toNat) := rfl
          rw [e1] at hgi hchs
          have hb1 : ¬ c.char.toNat = 0 := by omega
          simp [hjl, hkj, hro, rowC, hmn, hrow, hle, hgi]
          intro b hb
          simp [hb1]
          refine callK.of (hchs _) ?_
          rintro v σ4 ⟨rfl, rfl⟩
          simp
          intro b' hb'
          simp only [ite_none] at hb'
          refine ⟨by omega, by omega, j + 1, by omega, by omega, ⟨by rw [← List.append_assoc, hfn]; exact AV.le_refl _, by rw [hwj]; exact AV.le_refl _⟩, ?_⟩
          exact Store.sub_upd hb'.2 (Store.sub_upd hb (Store.sub_refl _))
      · obtain rfl : j = (Sp.places s.cells a).length := by omega
        rw [← hwf]
        simp
        exact ⟨i + 1, by omega, by omega, AV.le_refl _, by rw [hw]; exact AV.le_refl _⟩
    · rw [if_neg hma, List.append_nil] at hws
      rw [show isMod s a = false by simpa using hma] at hf
      simp [hlt, hk]
      refine callK.of hf ?_
      rintro v σ2 ⟨rfl, rfl⟩
      simp
      exact ⟨i + 1, by omega, by omega, by rw [hws]; exact AV.le_refl _, by rw [hw]; exact AV.le_refl _⟩
  · obtain rfl : i = s.attrs.length := by omega
    rw [wantTo_all s aid ha0]
    simp
    refine callK.of (same_calls _ _ _ _ _) ?_
    rintro v σ2 ⟨rfl, rfl⟩
    simp
    exact ⟨_, Store.sub_refl _⟩
end Go.Proofs.Ytnlggjbcdienfaa
/-
  Arguments opened.
-/
namespace Go.Proofs.Ytnlggjbcdienfaa
open Go Go.AL Go.Sp
theorem open_bytes : Opens Try.prog 31 (fun l : List UInt8 => [.list false 1 (bytesA l)]) (fun l => l.length ≤ maxLen) :=
  (Opens.slice Try.underlying31 (sz := 1) (by kernel_rfl) (by omega) (Opens.u8 Try.underlying5) byteA (fun _ => rfl) (fun _ => rfl)).by id fun _ h => ⟨h.1, rfl⟩
theorem open_cell : Opens Try.prog 48 (fun c : Cell => cellC c) (fun _ => True) :=
  (Opens.struct (total := 6) Try.underlying48 (by kernel_rfl)
    (.cons (k := 1) rfl (by kernel_rfl) (by omega) (Opens.u8 Try.underlying5) (.cons (k := 1) rfl (by kernel_rfl) (by omega) (Opens.bool Try.underlying4) (.cons (k := 1) rfl (by kernel_rfl) (by omega) (Opens.u8 Try.underlying5)
      (.cons (k := 1) rfl (by kernel_rfl) (by omega) (Opens.u8 Try.underlying5) (.cons (k := 1) rfl (by kernel_rfl) (by omega) (Opens.u8 Try.underlying5) (.cons (k := 1) rfl (by kernel_rfl) (by omega) (Opens.u8 Try.underlying5) .nil))))))).by
    (fun x => ⟨x.1, x.2.1, x.2.2.1, x.2.2.2.1, x.2.2.2.2.1, x.2.2.2.2.2.1⟩) fun _ _ => ⟨trivial, rfl⟩
theorem open_act : Opens Try.prog 76 (fun a : Sp.Act => actC a) (fun a => a.text.length ≤ maxLen) :=
  (Opens.struct (total := 11) Try.underlying76 (by kernel_rfl)
    (.cons (k := 1) rfl (by kernel_rfl) (by omega) (Opens.u8 Try.underlying5) (.cons (k := 1) rfl (by kernel_rfl) (by omega) (Opens.i64 Try.underlying3) (.cons (k := 1) rfl (by kernel_rfl) (by omega) (Opens.bool Try.underlying4)
      (.cons (k := 1) rfl (by kernel_rfl) (by omega) (Opens.u8 Try.underlying5) (.cons (k := 6) rfl (by kernel_rfl) (by omega) open_cell (.cons (k := 1) rfl (by kernel_rfl) (by omega) open_bytes .nil))))))).by
    (fun x => ⟨x.1, x.2.1, x.2.2.1, x.2.2.2.1, x.2.2.2.2.1, x.2.2.2.2.2.1⟩) fun _ h => ⟨h.2.2.2.2.2.1, rfl⟩
theorem open_acts : Opens Try.prog 22 (fun l : List Sp.Act => [.list false 11 (actsA l)]) (fun l => l.length ≤ maxLen ∧ ∀ a ∈ l, a.text.length ≤ maxLen) :=
  Opens.slice Try.underlying22 (by kernel_rfl) (by omega) open_act actA (fun _ => rfl) (fun _ => rfl)
end Go.Proofs.Ytnlggjbcdienfaa
/-
  What a terminal sends is read as what was modified.
-/
namespace Go.Proofs.Ytnlggjbcdienfaa
open Go Go.AL Go.Sp

theorem modX_length {mode : Nat} {s : Sp} {aid : UInt8} (hg : s.good) : (modX mode s aid).1.length ≤ 400000000 := by
  have hn := s.n_le
  have hl := hg.len
  have hh : (headB s aid).length = 3 := rfl
  unfold modX
  split
  · have := foldl_length (someX mode) 10 (someX_length mode) s.cells (headB s aid, .zero)
    simp only [hh] at this
    unfold cellsX; omega
  · have hf : ∀ x a, (fieldX mode s x a).1.length ≤ x.1.length + 40000 := fun x a => by
      have := foldl_length (someX mode) 10 (someX_length mode) ((Sp.places s.cells a).map fun i => s.cells[i]?.getD .zero) (x.1 ++ (0x11 :: encM ((a + 1) % s.n)), x.2)
      have hp := places_length s.cells a
      have h2 := len_le s.cells a
      have h3 : (0x11 :: encM ((a + 1) % s.n)).length = 3 := rfl
      rw [List.length_map] at this
      simp only [List.length_append, h3] at this
      unfold fieldX; omega
    have := foldl_length (fieldX mode s) 40000 hf s.modified (headB s aid, .zero)
    have hm := modified_length s
    simp only [hh] at this
    have : s.modified.length * 40000 ≤ 3564 * 40000 := Nat.mul_le_mul_right _ (by omega)
    omega
/-- The entries of the first attributes. -/
def entsTo (s : Sp) (i : Nat) : List En := ((s.attrs.take i).filter (isMod s)).map (entA s)
theorem entsTo_succ (s : Sp) (i : Nat) (h : i < s.attrs.length) : entsTo s (i + 1) = entsTo s i ++ (if isMod s s.attrs[i] = true then [entA s s.attrs[i]] else []) := by
  unfold entsTo
  rw [List.take_succ_eq_append_getElem h, List.filter_append, List.map_append]
  congr 1
  by_cases hm : isMod s s.attrs[i] = true <;> simp [hm]
theorem entsTo_all (s : Sp) : entsTo s s.attrs.length = s.modified.map (entA s) := by
  rw [entsTo, List.take_length, ← modified_eq]
theorem txt_take_succ {l : List Cell} {j : Nat} (h : j < l.length) : txtC (l.take (j + 1)) = txtC (l.take j) ++ (if l[j].char = 0 then [] else [codeB l[j].char]) := by
  rw [List.take_succ_eq_append_getElem h, txtC_append]
  congr 1
  rw [txtC_cons]; simp [txtC]
theorem fcells_length (s : Sp) (a : Nat) : (fcells s a).length = Sp.len s.cells a := by simp [fcells, places_length]

theorem and1 (b : UInt8) : pureBin .and (.int .u8 (b.toNat : Int)) (.int .u8 1) = some (.int .u8 (((b &&& 1).toNat : Nat) : Int)) := and_u8 b 1
theorem and1_cases (b : UInt8) : (b &&& 1 == 1) = true ∧ (b &&& 1).toNat = 1 ∨ (b &&& 1 == 1) = false ∧ (b &&& 1).toNat = 0 :=
  all_bytes (p := fun b => (b &&& 1 == 1) = true ∧ (b &&& 1).toNat = 1 ∨ (b &&& 1 == 1) = false ∧ (b &&& 1).toNat = 0) (by decide +kernel) b
theorem at_field {s : Sp} (hg : s.good) {a j : Nat} (hj : j < Sp.len s.cells a) : (fcells s a)[j]? = some (s.at ((a + 1 + j : Nat) : Int)) ∧ (s.at ((a + 1 + j : Nat) : Int)).attr = false := by
  have h1 := len_free (l := s.cells) (a := a) (j := j + 1) (by omega) (by omega)
  have e1 : a + (j + 1) = a + 1 + j := by omega
  have hl := hg.len
  rw [e1, hl] at h1
  constructor
  · have e2 : (fcells s a)[j]? = some (s.cells[(a + j + 1) % s.cells.length]?.getD .zero) := by
      simp only [fcells, Sp.places, List.getElem?_map, List.getElem?_range hj, Option.map_some]
    rw [e2]
    unfold Sp.at
    rw [wrap_mod s.n_pos, hl, show a + j + 1 = a + 1 + j from by omega]
  · unfold Sp.at
    rw [wrap_mod s.n_pos]; exact h1
theorem count_zero {s : Sp} (h : s.attrs = []) : s.count = 0 := by
  cases hc : s.count with
  | zero => rfl
  | succ k =>
    have h1 : 0 < s.cells.countP (·.attr) := by unfold Sp.count at hc; omega
    rw [List.countP_pos_iff] at h1
    obtain ⟨c, hm, hca⟩ := h1
    obtain ⟨i, hi, rfl⟩ := List.getElem_of_mem hm
    have : i ∈ s.attrs := by
      unfold Sp.attrs
      rw [List.mem_filter]
      exact ⟨by simp [hi], by simpa [hi] using hca⟩
    rw [h] at this; cases this
theorem at_stop {s : Sp} (hg : s.good) {a : Nat} (ha : attrAt s.cells a = true) (hal : a < s.cells.length) : (s.at ((a + 1 + Sp.len s.cells a : Nat) : Int)).attr = true := by
  have h1 := len_stop ha hal
  have hl := hg.len
  rw [hl] at h1
  unfold Sp.at
  rw [wrap_mod s.n_pos, show a + 1 + Sp.len s.cells a = a + Sp.len s.cells a + 1 from by omega]; exact h1
set_option maxRecDepth 8000 in
set_option maxHeartbeats 2000000 in
theorem entryModified_law (m : UInt8) (l : List Sp.Act) (aid mo : UInt8) (hl : l.length ≤ maxLen) (ht : ∀ a ∈ l, a.text.length ≤ maxLen) (σ : Store) : ACalls Try.prog 6 [byteA m, .list false 11 (actsA l), byteA aid, byteA mo] σ fun v _ => v = .lit (.bool true) := by
  have hlay := fun τ => lay25_calls m l (Nat.le_trans hl (by decide)) (fun a ha => Nat.le_trans (ht a ha) (by decide)) τ
  have hgood := lays_good m l
  have hmo : IntKind.i64.wrap ((mo.toNat : Int).tmod 3) = ((mo.toNat % 3 : Nat) : Int) := by
    have e : (mo.toNat : Int).tmod 3 = ((mo.toNat % 3 : Nat) : Int) := rfl
    rw [e, wrap_i64 (by omega) (by omega)]
  have hmo3 : mo.toNat % 3 < 3 := Nat.mod_lt _ (by omega)
  refine ACalls.of_awp follows (st := st6) (plans := pl6) (n := 161) Try.func6 rfl (by kernel_rfl) (by kernel_rfl) (by kernel_rfl) ?_
  simp
  refine callK.of (eawake_calls _) ?_
  rintro v σ' ⟨rfl, rfl⟩
  simp
  refine callK.of (hlay _) ?_
  rintro v σ1 ⟨q, p, x, y, rfl, h4, rfl⟩
  have hR := both_ref (s := Sp.lays m l) h4 hgood
  have hP := both_prg (t := Sp.lays m l) h4 hgood
  generalize Sp.lays m l = s at *
  generalize both σ' q p x y s s = τ at *
  have hm := rmodifiedX_calls hP aid (mo.toNat % 3) hmo3
  have hlen := modX_length (mode := mo.toNat % 3) (aid := aid) hgood
  generalize mo.toNat % 3 = k at *
  obtain ⟨b, hb⟩ : ∃ b, (if isShort aid = true then [aid] else (modX k s aid).1) = b := ⟨_, rfl⟩
  have hbl : b.length ≤ 500000000 := by
    rw [← hb]; split
    · simp
    · omega
  rw [hb] at hm
  have hpa := fun τ => parse_calls false b hbl τ
  simp [byteA, hmo]
  refine callK.of hm ?_
  rintro v σ1 ⟨rfl, rfl⟩
  simp
  refine callK.of (hpa _) ?_
  rintro v σ2 ⟨ow, r, e, rfl, rfl, hpar⟩
  have hrp : rpO ow r = .agg [byteA r.aid, .lit (.bool r.short), .lit (.int .i64 r.cursor), .list ow 2 (ensA r.es)] := rfl
  have hlk := fun τ (hτ : Ref τ x y s) => looks2_calls hτ
  by_cases hlo : looksS s
  case neg =>
    simp [hlo] at hlk
    simp [hrp]
    intro z hz
    refine callK.of (hlk _ (hR.new hz _)) ?_
    rintro v σ3 ⟨rfl, rfl⟩
    simp
    exact ⟨_, Store.sub_refl _⟩
  simp [hlo] at hlk
  have hsh := rshort_calls aid
  by_cases hs : isShort aid = true
  · rw [if_pos hs] at hb
    subst hb
    obtain ⟨rfl, rfl⟩ := par_short hpar
    rw [hs] at hsh
    simp [hrp, byteA]
    intro z hz
    refine callK.of (hlk _ (hR.new hz _)) ?_
    rintro v σ3 ⟨rfl, rfl⟩
    simp
    refine callK.of (hsh _) ?_
    rintro v σ3 ⟨rfl, rfl⟩
    simp [ensA]
    exact ⟨_, Store.sub_refl _⟩
  rw [if_neg hs] at hb
  subst hb
  obtain ⟨rfl, rfl⟩ := par_mod hlo hgood hpar
  rw [show isShort aid = false by simpa using hs] at hsh
  have hln := hgood.len
  have hn := s.n_le
  have hro := hR.obj
  unfold rfO at hro
  simp [hrp, byteA]
  intro z hz
  refine callK.of (hlk _ (hR.new hz _)) ?_
  rintro v σ3 ⟨rfl, rfl⟩
  simp
  refine callK.of (hsh _) ?_
  rintro v σ3 ⟨rfl, rfl⟩
  simp
  refine callK.of (attrs_calls (hR.new hz _)) ?_
  rintro v σ3 ⟨rfl, hσ3⟩
  have hR3 : Ref σ3 x y s := hσ3 ▸ hR.new hz _
  have hz3 : σ3 z = some [.lit (.int .u8 aid.toNat), .lit (.bool false), .lit (.int .i64 s.cursor), .list false 2 (ensA (entsW s))] := by rw [hσ3]; simp
  clear hσ3 hm hlay hpa hpar
  have hzf : ∀ b, σ3 b = none → ¬ z = b := by rintro b hb rfl; rw [hz3] at hb; cases hb
  have hro := hR3.obj
  have hrow := hR3.row
  unfold rfO at hro
  have hal := attrs_length s
  simp
  refine codeK.loop follows (st := st6) (plans := pl6) (X := Nat) (fun i => i ≤ s.attrs.length)
    (fun i => [(2, byteA aid), (10, ptrA x), (13, ptrA z), (15, .list true 2 (ensA (entsTo s i))), (74, .list false 1 (natsA s.attrs)), (75, .lit (.int .i64 s.attrs.length)), (76, .lit (.int .i64 i))])
    (fun _ => σ3) (fun i => s.attrs.length - i) 0 (by kernel_rfl) (by simp) (by simp [byteA, entsTo, ensA]) (Store.sub_refl _) fun i hi => ?_
  by_cases hlt : i < s.attrs.length
  · have hw : IntKind.i64.wrap ((i : Int) + 1) = ((i + 1 : Nat) : Int) := wrap_i64 (by omega) (by omega)
    have hk := natsA_at s.attrs i hlt
    have hws := entsTo_succ s i hlt
    obtain ⟨hac, hat⟩ := mem_attrs (List.getElem_mem hlt)
    have hel : (entsTo s i).length ≤ 3564 := by
      unfold entsTo
      have h1 := List.length_filter_le (isMod s) (s.attrs.take i)
      rw [List.length_map]; simp at h1; omega
    generalize s.attrs[i] = a at *
    have hgi := cellsO_get1 (j := 2) hac (by omega)
    have hmod : isMod s a = (s.cells[a].fa &&& 1 == 1) := by
      show ((s.cells[a]?.getD .zero).fa &&& 1 == 1) = _
      rw [List.getElem?_eq_getElem hac]; rfl
    have hcx : (cellC s.cells[a])[2]? = some (.lit (.int .u8 s.cells[a].fa.toNat)) := rfl
    rw [hcx] at hgi
    have han := and1 s.cells[a].fa
    have hac2 := and1_cases s.cells[a].fa
    generalize s.cells[a].fa = fa at *
    have hle : a * 6 + 2 < (cellsO s.cells).length := by rw [cellsO_length]; omega
    have hann : a < s.n := by omega
    rcases hac2 with ⟨hm1, hm2⟩ | ⟨hm1, hm2⟩
    · rw [hmod, hm1, if_pos rfl] at hws
      rw [hm2] at han
      simp [-e_pureBin_8, hlt, hk, hro, rowC, hann, hrow, hgi, han]
      have hia : IntKind.i64.wrap ((a : Int) + 1) = ((a + 1 : Nat) : Int) := by rw [wrap_i64 (by omega) (by omega)]; omega
      have hrw := fun τ (hτ : Ref τ x y s) => rswrap_calls hτ ((a + 1 : Nat) : Int)
      rw [wrap_mod s.n_pos] at hrw
      have hen : entA s a = ⟨((a + 1) % s.n : Nat), txtC (fcells s a)⟩ := rfl
      rw [hen] at hws
      generalize (a + 1) % s.n = mm at *
      have hfl := fcells_length s a
      have hll := len_le s.cells a
      have hstop := at_stop hgood hat hac
      have hfield := fun j (hj : j < Sp.len s.cells a) => at_field hgood hj
      generalize fcells s a = F at *
      generalize Sp.len s.cells a = len at *
      simp [hia]
      refine callK.of (hrw _ hR3) ?_
      rintro v σ4 ⟨rfl, rfl⟩
      simp [hia]
      intro w hwz
      have hzw := hzf w hwz
      have hwz2 := Ne.symm hzw
      have hR4 := fun X => hR3.new hwz X
      refine codeK.loop follows (st := st6) (plans := pl6) (X := Nat) (fun j => j ≤ len)
        (fun j => [(2, byteA aid), (10, ptrA x), (13, ptrA z), (15, .list true 2 (ensA (entsTo s i))), (18, ptrA w), (19, .lit (.int .i64 (a + 1 + j : Nat))), (74, .list false 1 (natsA s.attrs)), (75, .lit (.int .i64 s.attrs.length)), (76, .lit (.int .i64 i))])
        (fun j => σ4.upd w [.lit (.int .i64 mm), .list true 1 (bytesA (txtC (F.take j)))]) (fun j => len - j) 0 (by kernel_rfl) (by simp) (by simp) (by simp [txtC, bytesA]) fun j hj => ?_
      by_cases hjl : j < len
      · obtain ⟨hf1, hf2⟩ := hfield j hjl
        have hjF : j < F.length := by omega
        have htx := txt_take_succ hjF
        rw [(List.getElem_eq_iff hjF).2 hf1] at htx
        have htl : (txtC (F.take j)).length ≤ 3564 := by have := txtC_length (F.take j); simp at this; omega
        have hwj : IntKind.i64.wrap (((a + 1 + j : Nat) : Int) + 1) = ((a + 1 + (j + 1) : Nat) : Int) := by rw [wrap_i64 (by omega) (by omega)]; omega
        have hrat := fun τ (hτ : Ref τ x y s) => rat_calls hτ ((a + 1 + j : Nat) : Int)
        generalize s.at ((a + 1 + j : Nat) : Int) = c at *
        generalize a + 1 + j = kk at *
        rw [cellA_eq, hf2, byteA_lit c.char] at hrat
        have hsent := fun τ => sent_calls c.char τ
        rw [byteA_lit c.char] at hsent
        simp
        refine callK.of (hrat _ (hR4 _)) ?_
        rintro v σ5 ⟨rfl, rfl⟩
        simp
        refine callK.of (hrat _ (hR4 _)) ?_
        rintro v σ5 ⟨rfl, rfl⟩
        by_cases h0 : c.char.toNat = 0
        · have h0c : c.char = 0 := UInt8.toNat_inj.1 h0
          rw [if_pos h0c, List.append_nil] at htx
          simp [h0]
          exact ⟨j + 1, by omega, by omega, by rw [hwj]; exact AV.le_refl _, by rw [htx]; exact Store.sub_refl _⟩
        · have h0c : ¬ c.char = 0 := fun h => h0 (by rw [h]; rfl)
          rw [if_neg h0c] at htx
          simp [h0]
          have htx2 : bytesA (txtC (F.take j)) ++ [byteA (codeB c.char)] = bytesA (txtC (F.take (j + 1))) := by rw [htx, bytesA_append]; rfl
          with_reducible apply And.intro
          · refine callK.of (hsent _) ?_
            rintro v σ6 ⟨rfl, rfl⟩
            simp [htx2]
            refine ⟨by omega, by omega, j + 1, by omega, by omega, by rw [hwj]; exact AV.le_refl _, ?_⟩
            (intro q; simp only [Store.upd, Store.del]; (repeat' split) <;> first | exact Or.inr rfl | exact Or.inl rfl | (exfalso; omega) | (left; subst_vars; assumption) | simp_all)
          · refine callK.of (hsent _) ?_
            rintro v σ6 ⟨rfl, rfl⟩
            simp [htx2]
            refine ⟨by omega, by omega, j + 1, by omega, by omega, by rw [hwj]; exact AV.le_refl _, ?_⟩
            (intro q; simp only [Store.upd, Store.del]; (repeat' split) <;> first | exact Or.inr rfl | exact Or.inl rfl | (exfalso; omega) | (left; subst_vars; assumption) | simp_all)
      · obtain rfl : j = len := by omega
        have hrat := fun τ (hτ : Ref τ x y s) => rat_calls hτ ((a + 1 + j : Nat) : Int)
        generalize s.at ((a + 1 + j : Nat) : Int) = c at *
        rw [cellA_eq, hstop] at hrat
        simp
        refine callK.of (hrat _ (hR4 _)) ?_
        rintro v σ5 ⟨rfl, rfl⟩
        simp
        refine ⟨by omega, by omega, i + 1, by omega, by omega, ⟨?_, by rw [hw]; exact AV.le_refl _⟩, ?_⟩
        · have hF : F.take j = F := by rw [← hfl, List.take_length]
          rw [hF, hws, ensA_append]
          exact AV.le_refl _
        · exact Store.sub_upd hwz (Store.sub_refl _)
    · rw [hmod, hm1] at hws
      rw [hm2] at han
      simp [-e_pureBin_8, hlt, hk, hro, rowC, hann, hrow, hgi, han]
      have hws' : entsTo s (i + 1) = entsTo s i := by simpa using hws
      exact ⟨i + 1, by omega, by omega, by rw [hws']; exact ⟨AV.le_refl _, by rw [hw]; exact AV.le_refl _⟩⟩
  · obtain rfl : i = s.attrs.length := by omega
    simp
    refine callK.of (attrs_calls hR3) ?_
    rintro v σ4 ⟨rfl, rfl⟩
    have hat0 := entsTo_all s
    have hewl : (entsW s).length ≤ 1000000 := by
      have := modified_length s
      unfold entsW; split
      · split <;> simp
      · rw [List.length_map]; omega
    have hback := fun τ => back_calls false ⟨aid, false, s.cursor, entsW s⟩ hewl τ
    have hsame := fun o τ => rsame_calls false o ⟨aid, false, s.cursor, entsW s⟩ ⟨aid, false, s.cursor, entsW s⟩ hewl τ
    have hrpo : ∀ o, rpO o ⟨aid, false, s.cursor, entsW s⟩ = .agg [.lit (.int .u8 aid.toNat), .lit (.bool false), .lit (.int .i64 s.cursor), .list o 2 (ensA (entsW s))] := fun _ => rfl
    simp only [hrpo] at hback hsame
    by_cases ha0 : s.attrs = []
    · have hc := count_zero ha0
      have hew : entsW s = if txtC s.cells = [] then [] else [⟨0, txtC s.cells⟩] := by rw [entsW, if_pos hc]
      have he0 : entsTo s 0 = [] := rfl
      have htl := txtC_length s.cells
      simp [ha0, hro, he0, rowC]
      refine codeK.loop follows (st := st6) (plans := pl6) (X := Nat) (fun i => i ≤ s.n)
        (fun i => [(2, byteA aid), (10, ptrA x), (13, ptrA z), (15, .list true 2 []), (21, .list true 1 (bytesA (txtC (s.cells.take i)))), (129, rowC y s.n), (130, .lit (.int .i64 s.n)), (131, .lit (.int .i64 i))])
        (fun _ => σ4) (fun i => s.n - i) 0 (by kernel_rfl) (by simp) (by simp [byteA, txtC, bytesA, rowC, ensA]) (Store.sub_refl _) fun i hi => ?_
      by_cases hlt : i < s.n
      · have hw : IntKind.i64.wrap ((i : Int) + 1) = ((i + 1 : Nat) : Int) := wrap_i64 (by omega) (by omega)
        have hic : i < s.cells.length := by omega
        have hgi := cellsO_get hic
        have hle : i * 6 + 6 ≤ (cellsO s.cells).length := by rw [cellsO_length]; omega
        have htx := txt_take_succ hic
        have htl2 : (txtC (s.cells.take i)).length ≤ 3564 := by have := txtC_length (s.cells.take i); simp at this; omega
        generalize s.cells[i] = c at *
        have hcx : cellC c = [.lit (.int .u8 c.char.toNat), .lit (.bool c.attr), byteA c.fa, byteA c.high, byteA c.color, byteA c.set] := rfl
        rw [hcx] at hgi
        have hsent := fun τ => sent_calls c.char τ
        rw [byteA_lit c.char] at hsent
        simp [hlt, rowC, hrow, hle, hgi]
        intro b hb
        by_cases h0 : c.char.toNat = 0
        · have h0c : c.char = 0 := UInt8.toNat_inj.1 h0
          rw [if_pos h0c, List.append_nil] at htx
          simp [h0]
          exact ⟨i + 1, by omega, by omega, ⟨by rw [htx]; exact AV.le_refl _, by rw [hw]; exact AV.le_refl _⟩, sub_upd_self _ _ _ hb⟩
        · have h0c : ¬ c.char = 0 := fun h => h0 (by rw [h]; rfl)
          rw [if_neg h0c] at htx
          have htx2 : bytesA (txtC (s.cells.take i)) ++ [byteA (codeB c.char)] = bytesA (txtC (s.cells.take (i + 1))) := by rw [htx, bytesA_append]; rfl
          simp [h0]
          refine callK.of (hsent _) ?_
          rintro v σ6 ⟨rfl, rfl⟩
          simp [htx2]
          exact ⟨by omega, by omega, i + 1, by omega, by omega, ⟨AV.le_refl _, by rw [hw]; exact AV.le_refl _⟩, sub_upd_self _ _ _ hb⟩
      · obtain rfl : i = s.n := by omega
        have hF : s.cells.take s.n = s.cells := by rw [← hln, List.take_length]
        rw [hF]
        by_cases h0 : txtC s.cells = []
        · rw [if_pos h0] at hew
          rw [hew] at hz3 hback hsame
          simp [h0, hz3, hro, bytesA]
          with_reducible apply And.intro
          all_goals
            refine callK.of (hback _) ?_
            rintro v σ6 ⟨rfl, rfl⟩
            simp [byteA, hro]
            refine callK.of (hsame _ _) ?_
            rintro v σ7 ⟨rfl, rfl⟩
            simp
            exact ⟨_, Store.sub_refl _⟩
        · rw [if_neg h0] at hew
          rw [hew] at hz3 hback hsame
          have h0l : ¬ (txtC s.cells).length = 0 := by rw [List.length_eq_zero_iff]; exact h0
          have h0p : 0 < (txtC s.cells).length := by omega
          simp [h0p, hz3, hro]
          with_reducible apply And.intro
          all_goals
            refine callK.of (hback _) ?_
            rintro v σ6 ⟨rfl, rfl⟩
            simp [byteA, hro]
            refine callK.of (hsame _ _) ?_
            rintro v σ7 ⟨rfl, rfl⟩
            simp
            exact ⟨_, Store.sub_refl _⟩
    · have hc := count_pos ha0
      have hew : entsW s = entsTo s s.attrs.length := by rw [entsW, if_neg (by omega), hat0]
      have hl0 : ¬ s.attrs.length = 0 := by rw [List.length_eq_zero_iff]; exact ha0
      rw [hew] at hz3 hback hsame
      simp [hl0, hz3, hro]
      with_reducible apply And.intro
      all_goals
        refine callK.of (hback _) ?_
        rintro v σ6 ⟨rfl, rfl⟩
        simp [byteA, hro]
        refine callK.of (hsame _ _) ?_
        rintro v σ7 ⟨rfl, rfl⟩
        simp
        exact ⟨_, Store.sub_refl _⟩
end Go.Proofs.Ytnlggjbcdienfaa
