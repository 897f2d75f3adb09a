/-
  WriteErases: what is open is emptied, and its attributes lose their mark.
-/
import Derived.Test.YtnlggjbcdienfaaDoorPart22
import Derived.Test.YtnlggjbcdienfaaDoorRows
import Derived.Lay
import Derived.LaidMore
namespace Go.Proofs.YtnlggjbcdienfaaDoor
open Go Go.AL Go.Sp

theorem cmd_111 : cmdF 111 = (4, true) := by decide
theorem run_111 (s : Sp) : runS s [111] = ⟨unprotS s, ⟨4, true, false, false, 0⟩, [], 0⟩ := by
  show (if (cmdF 111).2 = true then ranCmd s (cmdF 111).1 [] else (⟨s, ⟨0, false, false, false, 0⟩, [], 11⟩ : Ran)) = _
  rw [cmd_111]; rfl
theorem sub_twice {σ : Store} {b c : Nat} (hb : σ b = none) (hc : σ c = none) (X Y : List AV) : Store.sub σ ((σ.upd b X).upd c Y) := fun o => by
  by_cases h1 : o = c
  · left; rw [h1]; exact hc
  · by_cases h2 : o = b
    · left; rw [h2]; exact hb
    · right; simp [h1, h2]
theorem sub_thrice {σ : Store} {b c : Nat} (hb : σ b = none) (hc : σ c = none) (X Y Z : List AV) : Store.sub σ (((σ.upd b X).upd c Y).upd b Z) := fun o => by
  by_cases h1 : o = c
  · left; rw [h1]; exact hc
  · by_cases h2 : o = b
    · left; rw [h2]; exact hb
    · right; simp [h1, h2]
set_option maxRecDepth 8000 in
set_option maxHeartbeats 2000000 in
theorem writeErases_law (m : UInt8) (l : List Sp.Act) (hl : l.length ≤ 9223372036854775807) (ht : ∀ a ∈ l, a.text.length ≤ 9223372036854775807) (σ : Store) :
    ACalls Tryd.prog 3 [byteA m, .list false 11 (actsA l)] σ fun v σ' => v = .lit (.bool true) ∧ σ' = σ := by
  have haw := fun τ => awake_calls τ
  have hl1 := fun τ => lay_calls m l hl ht τ
  have g1 := lays_good m l
  generalize Sp.lays m l = s at *
  have hr1 := fun τ (q p : Nat) (h : Prg τ q p s) => run_calls h false [111] (by simp)
  rw [run_111] at hr1
  have hgu := unprot_good g1
  have hnu : (unprotS s).n = s.n := by
    by_cases hc : s.count = 0
    · unfold unprotS; rw [if_pos hc]; exact (keep_null g1 _).same.n
    · unfold unprotS; rw [if_neg hc]
      have := (keep_unprotTo g1 s.attrs.length).same.n
      unfold unprotTo at this; rw [List.take_length] at this; exact this
  have hcell := fun i (hi : i < s.n) => unprot_cells g1 hi
  have hln := g1.len
  have hnl := s.n_le
  refine ACalls.of_awp follows (st := st3) (plans := pl3) (n := 86) Tryd.func3 rfl (by kernel_rfl) (by kernel_rfl) (by kernel_rfl) ?_
  simp
  refine callK.of (haw _) ?_
  rintro v σ0 ⟨rfl, rfl⟩
  simp
  refine callK.of (hl1 _) ?_
  rintro v σ' ⟨q, p, x, y, rfl, f1, rfl⟩
  have hP1 := both_prg (t := s) f1 g1
  have hR1 := both_ref (s := s) f1 g1
  have hs1 := both_sub (s := s) (t := s) f1
  have hqx : ¬ x = q ∧ ¬ x = p ∧ ¬ y = q ∧ ¬ y = p := ⟨Ne.symm f1.qx, Ne.symm f1.px, Ne.symm f1.qy, Ne.symm f1.py⟩
  generalize both _ q p x y s s = ρ at *
  have q0 := f1.q0
  have p0 := f1.p0
  simp
  refine callK.le (args' := [ptrA q, .list false 1 (bytesA [111])]) ⟨AV.le_refl _, AV.le_list _ _ _, trivial⟩ (hr1 _ q p hP1) ?_
  rintro v σ3 ⟨rfl, r1, hr1', rfl⟩
  have er1 : (¬ q = r1) ∧ (¬ x = r1) ∧ (¬ y = r1) ∧ σ0 r1 = none := by
    rcases hr1' with e | e
    · rw [e]; exact ⟨hP1.ne, hqx.2.1, hqx.2.2.2, p0⟩
    · have z := hR1.fresh e
      exact ⟨(hP1.fresh e).1, z.1, z.2.1, sub_none hs1 e⟩
  have hP2 : Prg (putS spO ρ q r1 (unprotS s)) q r1 (unprotS s) := Scr.of_put er1.1 hgu
  have hR2 : Ref (putS spO ρ q r1 (unprotS s)) x y s := ⟨(putS_at hqx.1 er1.2.1).trans hR1.obj, (putS_at hqx.2.2.1 er1.2.2.1).trans hR1.row, hR1.ne, hR1.good⟩
  have hs2 := sub_put (s := unprotS s) hs1 q0 er1.2.2.2
  simp only
  generalize putS spO ρ q r1 (unprotS s) = ρ2 at *
  simp [ranA, resC, bytesA_nil]
  intro b hb
  have e1 := hP2.fresh hb
  have hP3 := hP2.new hb [.lit (.int .i64 4), .lit (.bool true), .lit (.bool false), .lit (.bool false), .lit (.int .i64 0), .list false 1 []]
  have hR3 := hR2.new hb [.lit (.int .i64 4), .lit (.bool true), .lit (.bool false), .lit (.bool false), .lit (.int .i64 0), .list false 1 []]
  have hs3 : Store.sub σ0 (ρ2.upd b [.lit (.int .i64 4), .lit (.bool true), .lit (.bool false), .lit (.bool false), .lit (.int .i64 0), .list false 1 []]) := Store.sub_trans hs2 (Store.sub_upd hb (Store.sub_refl _))
  generalize ρ2.upd b _ = ρ3 at *
  refine callK.of (starts_calls hR3) ?_
  rintro v σ5 ⟨ps, hps, rfl, rfl⟩
  have hP4 := hP3.new hps (intsA (starts s))
  have hR4 := hR3.new hps (intsA (starts s))
  have hs4 : Store.sub σ0 (ρ3.upd ps (intsA (starts s))) := Store.sub_trans hs3 (Store.sub_upd hps (Store.sub_refl _))
  have hst4 : (ρ3.upd ps (intsA (starts s))) ps = some (intsA (starts s)) := by simp
  generalize ρ3.upd ps (intsA (starts s)) = ρ4 at *
  have ho := hR4.obj
  have hrow := hR4.row
  unfold rfO at ho
  simp [ho, rowC]
  refine codeK.loop follows (st := st3) (plans := pl3) (X := Nat) (fun k => k ≤ s.n)
    (fun k => [(5, ptrA q), (6, ptrA x), (9, rowC ps s.n), (46, rowC y s.n), (47, .lit (.int .i64 s.n)), (48, .lit (.int .i64 k))]) (fun _ => ρ4) (fun k => s.n - k) 0 (by kernel_rfl) (by simp) (by simp [rowC]) (Store.sub_refl _) fun k hk => ?_
  by_cases hlt : k < s.n
  · have hw : IntKind.i64.wrap ((k : Int) + 1) = ((k + 1 : Nat) : Int) := wrap_i64 (by omega) (by omega)
    have hic : k < s.cells.length := by omega
    have hgi := cellsO_get hic
    have hle : k * 6 + 6 ≤ (cellsO s.cells).length := by rw [cellsO_length]; omega
    have hca : cellAt s k = s.cells[k] := by unfold cellAt; rw [List.getElem?_eq_getElem hic]; rfl
    have hat := fun τ (hτ : Prg τ q r1 (unprotS s)) => at_calls hτ (k : Int)
    rw [cellAt_at (by rw [hnu]; exact hlt), hcell k hlt] at hat
    have hsk := starts_at hlt
    obtain ⟨_, hsk⟩ := List.getElem?_eq_some_iff.1 hsk
    have hsl : (intsA (starts s)).length = s.n := by simp [intsA, starts]
    have hfl := fun τ (hτ : Ref τ x y s) (hn : 0 ≤ startS s.cells k) => rfield_calls hτ (startS s.cells k).toNat (startS_at g1 hlt (fun hc => by rw [startS_none hc] at hn; omega)).2
    have hex : eraseX s k = if openP s k = true then (if (cellAt s k).attr = true then clr (cellAt s k) else { cellAt s k with char := 0 }) else cellAt s k := rfl
    have hopn : openP s k = (decide (startS s.cells k < 0) || !(fld (cellAt s (startS s.cells k).toNat).fa).prot) := rfl
    have hfd : ∀ j, fldA (fld (s.cells[j]?.getD .zero).fa) = .agg [.lit (.bool (fld (cellAt s j).fa).prot), .lit (.bool (fld (cellAt s j).fa).num), .lit (.int .i64 (fld (cellAt s j).fa).disp), .lit (.bool (fld (cellAt s j).fa).mod)] := fun _ => rfl
    rw [hfd] at hfl
    rw [hca] at hex
    generalize s.cells[k] = c at *
    have hcx : cellC c = [.lit (.int .u8 c.char.toNat), .lit (.bool c.attr), .lit (.int .u8 c.fa.toNat), .lit (.int .u8 c.high.toNat), .lit (.int .u8 c.color.toNat), .lit (.int .u8 c.set.toNat)] := rfl
    rw [hcx] at hgi
    have han : pureBin .and (.int .u8 (c.fa.toNat : Int)) (.int .u8 254) = some (.int .u8 ((c.fa &&& 0xfe).toNat : Int)) := and_u8 c.fa 254
    generalize startS s.cells k = st at *
    have h0 : ∀ (o : Bool), openP s k = o → eraseX s k = if o = true then (if c.attr = true then clr c else { c with char := 0 }) else c := fun o ho => by rw [hex, ho]
    generalize eraseX s k = E at *
    have hEx : cellA E = .agg [.lit (.int .u8 E.char.toNat), .lit (.bool E.attr), .lit (.int .u8 E.fa.toNat), .lit (.int .u8 E.high.toNat), .lit (.int .u8 E.color.toNat), .lit (.int .u8 E.set.toNat)] := rfl
    rw [hEx] at hat
    have hcl1 : (clr c).char = c.char ∧ (clr c).attr = c.attr ∧ (clr c).fa = c.fa &&& 0xfe ∧ (clr c).high = c.high ∧ (clr c).color = c.color ∧ (clr c).set = c.set := ⟨rfl, rfl, rfl, rfl, rfl, rfl⟩
    have hps4 : ∀ o, ρ4 o = none → ¬ ps = o := fun o ho e => by rw [← e, hst4] at ho; cases ho
    have hkl : k < s.n := hlt
    by_cases hneg : st < 0
    · have hop : openP s k = true := by rw [hopn]; simp [hneg]
      have hE := h0 true hop
      cases hac : c.attr
      all_goals
        rw [hac] at hE hgi
        simp only [if_true, if_false, Bool.false_eq_true] at hE
        subst hE
        simp [hlt, rowC, hrow, hle, hgi]
        intro b1 hb1
        have hp1 := hps4 _ hb1
        refine callK.of (hat _ (hP4.new hb1 _)) ?_
        rintro v σ6 ⟨rfl, rfl⟩
        simp
        intro b2 hb2
        have n21 : ¬ b2 = b1 ∧ ρ4 b2 = none := by
          by_cases e : b2 = b1
          · rw [if_pos e] at hb2; cases hb2
          · rw [if_neg e] at hb2; exact ⟨e, hb2⟩
        have hp2 := hps4 _ n21.2
        simp [hst4, hp1, hp2, n21.1, Ne.symm n21.1, hsk, hsl, hneg, hac, hlt, han, -e_pureBin_8, clr, hw]
        exact ⟨k + 1, by omega, by omega, AV.le_refl _, sub_thrice hb1 n21.2 _ _ _⟩
    · have hpos : 0 ≤ st := by omega
      have hnn : ((st.toNat : Nat) : Int) = st := by omega
      have hfl := fun τ hτ => hfl τ hτ hpos
      rw [hnn] at hfl
      generalize (fld (cellAt s st.toNat).fa) = F at *
      cases hpr : F.prot
      · have hop : openP s k = true := by rw [hopn]; simp [hpr]
        have hE := h0 true hop
        rw [hpr] at hfl
        cases hac : c.attr
        all_goals
          rw [hac] at hE hgi
          simp only [if_true, if_false, Bool.false_eq_true] at hE
          subst hE
          simp [hlt, rowC, hrow, hle, hgi]
          intro b1 hb1
          have hp1 := hps4 _ hb1
          refine callK.of (hat _ (hP4.new hb1 _)) ?_
          rintro v σ6 ⟨rfl, rfl⟩
          simp
          intro b2 hb2
          have n21 : ¬ b2 = b1 ∧ ρ4 b2 = none := by
            by_cases e : b2 = b1
            · rw [if_pos e] at hb2; cases hb2
            · rw [if_neg e] at hb2; exact ⟨e, hb2⟩
          have hp2 := hps4 _ n21.2
          simp [hst4, hp1, hp2, hsk, hsl, hneg, hac, hlt, -e_pureBin_8, clr]
          refine callK.of (hfl _ ((hR4.new hb1 _).new (by simp [n21.1, n21.2]) _)) ?_
          rintro v σ7 ⟨rfl, rfl⟩
          simp [n21.1, Ne.symm n21.1, han, -e_pureBin_8, hw]
          exact ⟨k + 1, by omega, by omega, AV.le_refl _, sub_thrice hb1 n21.2 _ _ _⟩
      · have hop : openP s k = false := by rw [hopn]; simp [hpr, hneg]
        have hE := h0 false hop
        rw [hpr] at hfl
        simp only [if_false, Bool.false_eq_true] at hE
        subst hE
        cases hac : E.attr
        all_goals
          rw [hac] at hgi hat
          simp [hlt, rowC, hrow, hle, hgi]
          intro b1 hb1
          have hp1 := hps4 _ hb1
          refine callK.of (hat _ (hP4.new hb1 _)) ?_
          rintro v σ6 ⟨rfl, rfl⟩
          simp
          intro b2 hb2
          have n21 : ¬ b2 = b1 ∧ ρ4 b2 = none := by
            by_cases e : b2 = b1
            · rw [if_pos e] at hb2; cases hb2
            · rw [if_neg e] at hb2; exact ⟨e, hb2⟩
          have hp2 := hps4 _ n21.2
          simp [hst4, hp1, hp2, hsk, hsl, hneg, hlt]
          refine callK.of (hfl _ ((hR4.new hb1 _).new (by simp [n21.1, n21.2]) _)) ?_
          rintro v σ7 ⟨rfl, rfl⟩
          simp [Ne.symm n21.1, hw]
          exact ⟨k + 1, by omega, by omega, AV.le_refl _, sub_twice hb1 n21.2 _ _⟩
  · obtain rfl : k = s.n := by omega
    simp
    exact hs4
theorem writeErases_said (m : UInt8) (l : List Sp.Act) (h : l.length ≤ maxLen ∧ ∀ a ∈ l, a.text.length ≤ maxLen) (σ : Store) :
    ACalls Tryd.prog 3 [byteA m, .list false 11 (actsA l)] σ fun v _ => v = .lit (.bool true) :=
  (writeErases_law m l (Nat.le_trans h.1 (by decide)) (fun a ha => Nat.le_trans (h.2 a ha) (by decide)) σ).mono fun _ _ h => h.1
end Go.Proofs.YtnlggjbcdienfaaDoor
/-
  Arguments opened.
-/
namespace Go.Proofs.YtnlggjbcdienfaaDoor
open Go Go.AL Go.Sp
theorem open_bytes : Opens Tryd.prog 28 (fun l : List UInt8 => [.list false 1 (bytesA l)]) (fun l => l.length ≤ maxLen) :=
  (Opens.slice Tryd.underlying28 (sz := 1) (by kernel_rfl) (by omega) (Opens.u8 Tryd.underlying5) byteA (fun _ => rfl) (fun _ => rfl)).by id fun _ h => ⟨h.1, rfl⟩
theorem open_cell : Opens Tryd.prog 42 (fun c : Cell => cellC c) (fun _ => True) :=
  (Opens.struct (total := 6) Tryd.underlying42 (by kernel_rfl)
    (.cons (k := 1) rfl (by kernel_rfl) (by omega) (Opens.u8 Tryd.underlying5) (.cons (k := 1) rfl (by kernel_rfl) (by omega) (Opens.bool Tryd.underlying4) (.cons (k := 1) rfl (by kernel_rfl) (by omega) (Opens.u8 Tryd.underlying5)
      (.cons (k := 1) rfl (by kernel_rfl) (by omega) (Opens.u8 Tryd.underlying5) (.cons (k := 1) rfl (by kernel_rfl) (by omega) (Opens.u8 Tryd.underlying5) (.cons (k := 1) rfl (by kernel_rfl) (by omega) (Opens.u8 Tryd.underlying5) .nil))))))).by
    (fun x => ⟨x.1, x.2.1, x.2.2.1, x.2.2.2.1, x.2.2.2.2.1, x.2.2.2.2.2.1⟩) fun _ _ => ⟨trivial, rfl⟩
theorem open_act : Opens Tryd.prog 66 (fun a : Sp.Act => actC a) (fun a => a.text.length ≤ maxLen) :=
  (Opens.struct (total := 11) Tryd.underlying66 (by kernel_rfl)
    (.cons (k := 1) rfl (by kernel_rfl) (by omega) (Opens.u8 Tryd.underlying5) (.cons (k := 1) rfl (by kernel_rfl) (by omega) (Opens.i64 Tryd.underlying3) (.cons (k := 1) rfl (by kernel_rfl) (by omega) (Opens.bool Tryd.underlying4)
      (.cons (k := 1) rfl (by kernel_rfl) (by omega) (Opens.u8 Tryd.underlying5) (.cons (k := 6) rfl (by kernel_rfl) (by omega) open_cell (.cons (k := 1) rfl (by kernel_rfl) (by omega) open_bytes .nil))))))).by
    (fun x => ⟨x.1, x.2.1, x.2.2.1, x.2.2.2.1, x.2.2.2.2.1, x.2.2.2.2.2.1⟩) fun _ h => ⟨h.2.2.2.2.2.1, rfl⟩
theorem open_acts : Opens Tryd.prog 22 (fun l : List Sp.Act => [.list false 11 (actsA l)]) (fun l => l.length ≤ maxLen ∧ ∀ a ∈ l, a.text.length ≤ maxLen) :=
  Opens.slice Tryd.underlying22 (by kernel_rfl) (by omega) open_act actA (fun _ => rfl) (fun _ => rfl)
end Go.Proofs.YtnlggjbcdienfaaDoor
/-
  What the table of the commands reads as.
-/
namespace Go.Proofs.YtnlggjbcdienfaaDoor
open Go Go.AL Go.ChangeShapes Go.WideShapes Go.ChangeAt Go.RowKit Go.Lib

def laid1 : List (String × DataW Unit) := [("vitrine/write.names", Rows.laid_vitrine_write_names)]
def nameV (x : List UInt8 × UInt8 × UInt8) : List Value := [.string ⟨x.1.toArray⟩, .int .u8 x.2.1.toNat, .int .u8 x.2.2.toNat]
def nameD (x : List UInt8 × UInt8 × UInt8) : DataW Unit := .agg [.lit (.string x.1), .lit (.int .u8 x.2.1.toNat), .lit (.int .u8 x.2.2.toNat)]
theorem laid_names : (Rows.laid_vitrine_write_names : DataW Unit) = .agg (cmdNames.map nameD) := rfl
theorem rows_flat : ∀ (N : List (List UInt8 × UInt8 × UInt8)) (L : List Value), L.length = N.length * 3 → (∀ (r : Nat) x, N[r]? = some x → (L.drop (r * 3)).take 3 = nameV x) → L = N.flatMap nameV
  | [], L, hl, _ => by simpa using hl
  | x :: N, L, hl, h => by
    have h0 := h 0 x rfl
    have hr := rows_flat N (L.drop 3) (by simp only [List.length_drop]; simp at hl; omega) fun r y hy => by
      have := h (r + 1) y hy
      rw [List.drop_drop, ← this, show 3 + r * 3 = (r + 1) * 3 by omega]
    rw [List.flatMap_cons, ← hr, ← h0]
    simp
theorem row80 {W : World} {base : Nat} {sp : Nat → Bool} {held : Bool} {fuel : Nat} {l : List Value} {x : List UInt8 × UInt8 × UInt8} {p : List MemPlace}
    (h : DataW.trod (fun _ => ()) Tryd.prog W base sp held fuel 80 l = some (nameD x, p)) : l = nameV x := by
  obtain ⟨xs, n, _, ex, hl, hn, hf⟩ := DataW.trod_struct Tryd.underlying80 h
  have c80 : Tryd.prog.cellsOf 80 = 3 := by kernel_rfl
  have c9 : Tryd.prog.cellsOf 9 = 1 := by kernel_rfl
  have c5 : Tryd.prog.cellsOf 5 = 1 := by kernel_rfl
  rw [c80] at hl
  have hn3 : xs.length = 3 := hn
  obtain ⟨y0, y1, y2, rfl⟩ : ∃ y0 y1 y2, xs = [y0, y1, y2] := by
    rcases xs with _ | ⟨a, _ | ⟨b, _ | ⟨c, _ | ⟨d, r⟩⟩⟩⟩ <;> simp at hn3
    exact ⟨a, b, c, rfl⟩
  obtain ⟨v0, v1, v2, rfl⟩ : ∃ y0 y1 y2, l = [y0, y1, y2] := by
    rcases l with _ | ⟨a, _ | ⟨b, _ | ⟨c, _ | ⟨d, r⟩⟩⟩⟩ <;> simp at hl
    exact ⟨a, b, c, rfl⟩
  have f0 := hf 0 _ rfl
  have f1 := hf 1 _ rfl
  have f2 := hf 2 _ rfl
  obtain ⟨s, g0, d0, _⟩ := DataW.trod_string Tryd.underlying9 (f0.trans rfl)
  obtain ⟨a, g1, d1, _⟩ := DataW.trod_int Tryd.underlying5 (f1.trans rfl)
  obtain ⟨b, g2, d2, _⟩ := DataW.trod_int Tryd.underlying5 (f2.trans rfl)
  have q0 : List.take (Tryd.prog.cellsOf 9) [v0, v1, v2] = [.string s] := g0
  have q1 : List.take (Tryd.prog.cellsOf 5) [v1, v2] = [.int .u8 a] := g1
  have q2 : List.take (Tryd.prog.cellsOf 5) [v2] = [.int .u8 b] := g2
  rw [c9] at q0
  rw [c5] at q1 q2
  obtain rfl : v0 = .string s := (List.cons.inj q0).1
  obtain rfl : v1 = .int .u8 a := (List.cons.inj q1).1
  obtain rfl : v2 = .int .u8 b := (List.cons.inj q2).1
  subst d0 d1 d2
  have e := DataW.agg.inj (Prod.mk.inj ex).1
  simp only [List.map_cons, List.map_nil, List.cons.injEq, DataW.lit.injEq, Lit.string.injEq, Lit.int.injEq, true_and, and_true] at e
  obtain ⟨e0, e1, e2⟩ := e
  unfold nameV
  rw [e0, e1, e2]
theorem laid_vr {W : World} (h : laidMetH Tryd.prog laid1 W) : ∀ g cs, GL.tab g = some cs → VR (allFrz W) (.fptr cs) (.pointer (some ⟨g, 0, none⟩)) := by
  rw [MakeChecks.laidMetH_plain _ _ _ (by kernel_rfl)] at h
  obtain ⟨ps, ⟨g, t, cs, fuel, p, q, hg, ht, hv, hd, _, _⟩, _, _⟩ := h
  obtain rfl := Option.some.inj ((show Tryd.prog.globalNamed "vitrine/write.names" = some 0 by kernel_rfl).symm.trans hg)
  obtain rfl := Option.some.inj ((show (Tryd.prog.globals[0]?).map (·.type) = some 81 by kernel_rfl).symm.trans ht)
  obtain ⟨xs, m, _, ex, hc, hl, hel⟩ := DataW.trod_array Tryd.underlying81 hd
  have c80 : Tryd.prog.cellsOf 80 = 3 := by kernel_rfl
  have c81 : Tryd.prog.cellsOf 81 = 27 := by kernel_rfl
  rw [c81] at hc
  have e3 : xs.map (·.1) = cmdNames.map nameD := (DataW.agg.inj ((Prod.mk.inj ex).1.symm.trans laid_names)).symm ▸ rfl
  have hcs : cs.toList = cmdNames.flatMap nameV := by
    refine rows_flat cmdNames cs.toList hc fun r x hx => ?_
    have hr9 : r < 9 := (List.getElem?_eq_some_iff.1 hx).1
    have he := hel r hr9
    rw [c80] at he
    have e4 : (xs.map (·.1))[r]? = (cmdNames.map nameD)[r]? := by rw [e3]
    rw [List.getElem?_map, List.getElem?_map, hx] at e4
    cases hxr : xs[r]? with
    | none => rw [hxr] at e4; cases e4
    | some y =>
      rw [hxr] at e4 he
      obtain ⟨d, p⟩ := y
      simp only [Option.map_some, Option.some.injEq] at e4
      subst e4
      exact row80 he
  intro g cs2 hg2
  have : g = 0 ∧ cs2 = cmdsO := by
    have hg3 : (if g = 0 then some cmdsO else none) = some cs2 := hg2
    split at hg3
    · exact ⟨‹_›, (Option.some.inj hg3).symm⟩
    · cases hg3
  obtain ⟨rfl, rfl⟩ := this
  have hlit : cmdsO = (cmdNames.flatMap nameV).map .lit := rfl
  refine .fptr _ _ _ (cmdNames.flatMap nameV) rfl (fun i u hu => ⟨?_, ?_⟩) fun i c u hc hu => ?_
  · rw [Nat.zero_add]
    refine cell_back ?_
    rw [World.var?_cell hg hv i, ← Array.getElem?_toList, hcs]; exact hu
  · have : (cmdNames.flatMap nameV).all Value.oneCell' = true := by decide
    exact List.all_eq_true.1 this u (List.mem_of_getElem? hu)
  · rw [hlit, List.getElem?_map, hu] at hc
    obtain rfl := Option.some.inj hc
    exact .lit _
end Go.Proofs.YtnlggjbcdienfaaDoor
/-
  WriteErases: for every input the law returns true, and the arguments read as they did.
-/
namespace Go.Proofs.YtnlggjbcdienfaaDoor
open Go Go.AL Go.ChangeShapes Go.WideShapes Go.ChangeAt Go.RowKit Go.Lib

theorem own_writeErases : ownKnob Tryd.prog.godebug = none := by kernel_rfl
theorem laid_writeErases : laidOutB Tryd.prog = true := by kernel_rfl
theorem rec22_writeErases : Tryd.prog.readableRec 22 = true := by kernel_rfl
theorem row22_writeErases : (22 : TypeId) < Tryd.prog.types.size := of_decide_eq_true (by kernel_rfl)
theorem rec5_writeErases : Tryd.prog.readableRec 5 = true := by kernel_rfl
theorem row5_writeErases : (5 : TypeId) < Tryd.prog.types.size := of_decide_eq_true (by kernel_rfl)

set_option maxRecDepth 100000 in
theorem writeErases_lifted (os : Os) (started : os.Started) (H : Type) (enc : TypeId × Value → H) :
    ReturnsInHanded {} Tryd.checked os 3 .any (fun w args => (Rows.writeErasesSpec.pre enc Tryd.prog Tryd.f3 [] false w args ∧ laidMetH Tryd.prog laid1 w) ∧ sizedMet enc Tryd.prog Tryd.f3 (OpenSpec.ofChange Rows.writeErasesSpec) false w args) (Rows.writeErasesSpec.post enc Tryd.prog Tryd.f3 false true false false) := by
  refine returnsInHanded_of_change_and (C := Tryd.checked) (X := fun w _ => laidMetH Tryd.prog laid1 w) (fun _ _ _ hh h => h.of_heap hh) own_writeErases started (by kernel_rfl) Tryd.func3
    (ChangeSpec.witness_shaped (enc := enc) (C := Tryd.checked) (os := os) (X := fun w _ => laidMetH Tryd.prog laid1 w) false (World.laidAll Tryd.prog os laid1) #[.int .u8 0, .slice none 0 0] 8 (World.laidAll_os _ _ _)
      (World.shaped_of_ZipB (by kernel_rfl) (by kernel_rfl)) (by kernel_rfl) (by kernel_rfl) (by kernel_rfl)
      (by rw [MakeChecks.laidMetH_plain _ _ _ (by kernel_rfl)]; exact laidMet_laidAll _ (by kernel_rfl) (by kernel_rfl))) ?_
  intro W base args ds gs before hval0 hW _ _ hL _
  have hval : ∀ (j : Nat) t v, Tryd.f3.params[j]? = some t → args[j]? = some v → Value.okWide Tryd.prog W .any base t v := hval0
  have hW' := hW
  obtain ⟨p, q, hA0, hV, rfl, hfz, hnd⟩ := hW
  have hA : DataW.TrodAll enc Tryd.prog W 0 (fun _ => true) true Tryd.f3.params.toList args.toList ds p := hA0
  rw [Tryd.params3] at hA hval
  obtain ⟨v0, v1, d0, d1, p0, p1, rfl, rfl, rfl, h0, h1⟩ := trodAll_two hA
  obtain ⟨rfl, rfl⟩ := trodVars_none hV
  obtain ⟨_, hv0⟩ := okWide_int Tryd.underlying5 (hval 0 5 v0 rfl rfl)
  obtain ⟨a0, m0, w0⟩ := (Opens.u8 Tryd.underlying5).arg _ (fun _ => rfl) (by rw [hv0]; rfl) h0
  obtain ⟨_, _, _, hv1⟩ := okWide_slice Tryd.underlying22 (hval 1 22 v1 rfl rfl)
  obtain ⟨a1, m1, w1⟩ := (open_acts).arg _ (fun _ => rfl) (by rw [hv1]; rfl) h1
  clear hA0 hval0
  simp only [List.append_nil] at hW'
  have hlt : ∀ x ∈ p0 ++ p1, x.block < W.heap.size := fun x hx => hW'.lt x hx
  refine (law_calls (writeErases_said a0 a1 m1 _) W #[v0, v1] rfl (fun i c u hc hu => ?_) (laid_vr hL)).mono fun e W' ⟨he, hb⟩ => ?_
  · match i with
    | 0 => simp at hc hu; subst hc hu; exact ⟨w0, rfl⟩
    | 1 => simp at hc hu; subst hc hu; exact ⟨w1, rfl⟩
    | n + 2 => simp at hc
  subst he
  refine ⟨_, rfl, [d0, d1], [], p0 ++ p1, [], p0 ++ p1, [], hW', ?_, ?_, rfl, hb.frame _, fun h => (by cases h)⟩
  · exact trodAll_mk1 (shut_bool Tryd.underlying4 true)
  · refine trodAll_mk2 (Below.trod laid_writeErases rec5_writeErases row5_writeErases h0 hb fun x hx => hlt x (by simp [hx])) (Below.trod laid_writeErases rec22_writeErases row22_writeErases h1 hb fun x hx => hlt x (by simp [hx]))

theorem writeErases_holds : Rows.WriteErasesSaid :=
  OpenClaim.holds_of_wide 3 Tryd.f3 rfl rfl rfl rfl rfl rfl rfl ⟨rfl, rfl, rfl, rfl, rfl⟩ rfl rfl rfl rfl rfl (by kernel_rfl) Tryd.func3 (by kernel_rfl)
    (of_decide_eq_true (by kernel_rfl)) (by unfold Func.isWrapper; first | (rw [if_pos (by decide +kernel)]; kernel_rfl) | (rw [if_neg (by decide +kernel)]; exact ⟨rfl, rfl⟩))
    (fun os started H enc _ => writeErases_lifted os started H enc)
end Go.Proofs.YtnlggjbcdienfaaDoor
