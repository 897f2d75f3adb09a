/-
  WriteAgain: what was on the screen does not count.
-/
import Derived.Test.YtnlggjbcdienfaaDoorPart21
import Derived.Test.YtnlggjbcdienfaaDoorRows
import Derived.Lay
import Derived.LaidMore
namespace Go.Proofs.YtnlggjbcdienfaaDoor
open Go Go.AL Go.Sp

theorem begin_model {s t : Sp} (h : s.model = t.model) {k : Nat} (hk : ¬ k = 1) (c : UInt8) : beginS s k c = beginS t k c := by
  rw [begin_e s k c hk, begin_e t k c hk]; unfold Sp.clear; rw [h]
theorem pen_model {s t : Sp} (h : s.model = t.model) {k : Nat} (hk : ¬ k = 1) (l : List UInt8) : penF s k l = penF t k l := by
  unfold penF; rw [begin_model h hk]
theorem cmd_245 : cmdF 245 = (2, true) := by decide
theorem cmd_126 : cmdF 126 = (3, true) := by decide
def cmdB (alt : Bool) : UInt8 := if alt = true then 126 else 245
def cmdK (alt : Bool) : Nat := if alt = true then 3 else 2
theorem cmd_b (alt : Bool) : cmdF (cmdB alt) = (cmdK alt, true) := by cases alt <;> decide
theorem run_erase (s : Sp) (alt : Bool) (l : List UInt8) : runS s (cmdB alt :: l) = ⟨(penF s (cmdK alt) l).1.s, resF s (cmdK alt) l, [], (penF s (cmdK alt) l).2.2⟩ := by
  show (if (cmdF (cmdB alt)).2 = true then ranCmd s (cmdF (cmdB alt)).1 l else (⟨s, ⟨0, false, false, false, 0⟩, [], 11⟩ : Ran)) = _
  rw [cmd_b]
  show ranCmd s (cmdK alt) l = _
  unfold ranCmd
  rw [if_pos (by cases alt <;> simp [cmdK])]
theorem run_model {s t : Sp} (h : s.model = t.model) (alt : Bool) (l : List UInt8) : runS s (cmdB alt :: l) = runS t (cmdB alt :: l) := by
  have hk : ¬ cmdK alt = 1 := by cases alt <;> simp [cmdK]
  rw [run_erase, run_erase, pen_model h hk]
  unfold resF
  rw [pen_model h hk]
theorem run_alt {s : Sp} (h : s.good) (alt : Bool) (l : List UInt8) : (runS s (cmdB alt :: l)).s.alt = alt := by
  have hk : ¬ cmdK alt = 1 := by cases alt <;> simp [cmdK]
  rw [run_erase]
  have := (PenOk.ordN l.tail.length l.tail 0 (p := pen0 (beginS s (cmdK alt) (ctlOf l)) (wrap (beginS s (cmdK alt) (ctlOf l)).n (beginS s (cmdK alt) (ctlOf l)).cursor)) ⟨SameN.refl (begin_good h (cmdK alt) (ctlOf l)), pen0_lt _ _⟩).same.2.2
  refine this.trans ?_
  rw [begin_e s _ _ hk]
  cases alt <;> rfl
theorem lays_model (m : UInt8) (l : List Sp.Act) : (Sp.lays m l).model = 2 + m.toNat % 4 := foldl_model _ _
theorem both_sub {σ : Store} {q p x y : Nat} {s t : Sp} (h : Four σ q p x y) : Store.sub σ (both σ q p x y s t) := by
  intro o
  by_cases h1 : o = q
  · left; rw [h1]; exact h.q0
  by_cases h2 : o = p
  · left; rw [h2]; exact h.p0
  by_cases h3 : o = x
  · left; rw [h3]; exact h.x0
  by_cases h4 : o = y
  · left; rw [h4]; exact h.y0
  right; simp [both, putS, h1, h2, h3, h4]
theorem sub_put {σ ρ : Store} {q r : Nat} {s : Sp} (h : Store.sub σ ρ) (hq : σ q = none) (hr : σ r = none) : Store.sub σ (putS spO ρ q r s) := fun o => by
  by_cases h1 : o = q
  · left; rw [h1]; exact hq
  · by_cases h2 : o = r
    · left; rw [h2]; exact hr
    · rw [putS_at h1 h2]; exact h o
theorem sub_none {σ ρ : Store} {o : Nat} (h : Store.sub σ ρ) (ho : ρ o = none) : σ o = none := by
  rcases h o with e | e
  · exact e
  · rw [e]; exact ho
theorem prg_other {σ : Store} {q r q1 r1 : Nat} {s t : Sp} (h : Prg σ q r s) (h1 : ¬ q = q1) (h2 : ¬ q = r1) (h3 : ¬ r = q1) (h4 : ¬ r = r1) : Prg (putS spO σ q1 r1 t) q r s :=
  ⟨(putS_at h1 h2).trans h.obj, (putS_at h3 h4).trans h.row, h.ne, h.good⟩
set_option maxRecDepth 8000 in
set_option maxHeartbeats 1000000 in
theorem writeAgain_law (m : UInt8) (a1 a2 : List Sp.Act) (l : List UInt8) (alt : Bool) (h1 : a1.length ≤ 9223372036854775807) (h2 : a2.length ≤ 9223372036854775807) (h3 : ∀ a ∈ a1, a.text.length ≤ 9223372036854775807) (h4 : ∀ a ∈ a2, a.text.length ≤ 9223372036854775807) (σ : Store) :
    ACalls Tryd.prog 5 [byteA m, .list false 11 (actsA a1), .list false 11 (actsA a2), .list false 1 (bytesA l), .lit (.bool alt)] σ fun v σ' => v = .lit (.bool true) ∧ σ' = σ := by
  have haw := fun τ => awake_calls τ
  have hl1 := fun τ => lay_calls m a1 h1 h3 τ
  have hl2 := fun τ => lay_calls m a2 h2 h4 τ
  have g1 := lays_good m a1
  have g2 := lays_good m a2
  have hmm : (Sp.lays m a1).model = (Sp.lays m a2).model := by rw [lays_model, lays_model]
  generalize Sp.lays m a1 = s1 at *
  generalize Sp.lays m a2 = s2 at *
  have hcut := fun τ => cut_calls false l 400 τ (by omega)
  have hl400 : (l.take 400).length ≤ 400 := by simp; omega
  generalize l.take 400 = k at *
  have hr1 := fun τ (q p : Nat) (h : Prg τ q p s1) => run_calls h false (cmdB alt :: k) (by simp; omega)
  have hr2 := fun τ (q p : Nat) (h : Prg τ q p s2) => run_calls h false (cmdB alt :: k) (by simp; omega)
  have hrm := run_model hmm alt k
  have hra := run_alt g1 alt k
  rw [← hrm] at hr2
  have hg1 := run_good g1 (cmdB alt :: k)
  generalize hR : runS s1 (cmdB alt :: k) = R at *
  clear hR
  cases alt
  all_goals
    refine ACalls.of_awp follows (st := st5) (plans := pl5) (n := 71) Tryd.func5 rfl (by kernel_rfl) (by kernel_rfl) (by kernel_rfl) ?_
    simp
    refine callK.of (haw _) ?_
    rintro v σ0 ⟨rfl, rfl⟩
    simp
    refine callK.of (hl1 _) ?_
    rintro v σ' ⟨q, p, x, y, rfl, f1, rfl⟩
    have hP1 := both_prg (t := s1) f1 g1
    have hs1 := both_sub (s := s1) (t := s1) f1
    generalize both _ q p x y s1 s1 = ρ at *
    simp
    refine callK.of (hl2 _) ?_
    rintro v σ' ⟨q2, p2, x2, y2, rfl, f2, rfl⟩
    have hP2 := both_prg (t := s2) f2 g2
    have hs2 := both_sub (s := s2) (t := s2) f2
    have hP12 := prg_mono hP1 hs2
    have d1 := hP1.fresh f2.q0
    have d2 := hP1.fresh f2.p0
    generalize both ρ q2 p2 x2 y2 s2 s2 = ρ2 at *
    simp
    refine callK.of (hcut _) ?_
    rintro v ρ4 ⟨rfl, rfl⟩
    have q0 := f1.q0
    have p0 := f1.p0
    have hsa := Store.sub_trans hs1 hs2
    have q20 := sub_none hs1 f2.q0
    have p20 := sub_none hs1 f2.p0
    simp
    refine ⟨by omega, by omega, ?_⟩
    refine callK.of (hr1 _ q p hP12) ?_
    rintro v σ3 ⟨rfl, r1, hr1', rfl⟩
    have er1 : (¬ q = r1) ∧ (¬ q2 = r1) ∧ (¬ p2 = r1) ∧ σ0 r1 = none := by
      rcases hr1' with e | e
      · rw [e]; exact ⟨hP12.ne, d1.2.2.2, d2.2.2.2, p0⟩
      · have z := hP2.fresh e
        exact ⟨(hP12.fresh e).1, z.1, z.2.1, sub_none hsa e⟩
    have hP1 := Scr.of_put (f := spO) (σ := ρ4) er1.1 hg1
    have hP2 := prg_other (t := R.s) hP2 d1.2.2.1 er1.2.1 d2.2.2.1 er1.2.2.1
    have hsa := sub_put (s := R.s) hsa q0 er1.2.2.2
    generalize putS spO ρ4 q r1 R.s = ρ3 at *
    simp [ranA, resC]
    intro b hb
    have e1 := hP1.fresh hb
    have e2 := hP2.fresh hb
    refine callK.of (hr2 _ q2 p2 (hP2.new hb _)) ?_
    rintro v σ5 ⟨rfl, r2, hr2', rfl⟩
    have er2 : (¬ q2 = r2) ∧ (¬ q = r2) ∧ (¬ r1 = r2) ∧ (¬ b = r2) ∧ σ0 r2 = none := by
      rcases hr2' with e | e
      · rw [e]; exact ⟨hP2.ne, d2.1, Ne.symm er1.2.2.1, e2.2.2.2, p20⟩
      · simp only [supd_apply, ite_none] at e
        have z := hP2.fresh e.2
        have z1 := hP1.fresh e.2
        exact ⟨z.1, z1.1, z1.2.1, Ne.symm e.1, sub_none hsa e.2⟩
    have hP1 := prg_other (q1 := q2) (r1 := r2) (t := R.s) (hP1.new hb (resC R.x (.list false 1 (bytesA R.fields)))) d1.1 er2.2.1 (Ne.symm er1.2.1) er2.2.2.1
    have hP2 := Scr.of_put (f := spO) (σ := ρ3.upd b (resC R.x (.list false 1 (bytesA R.fields)))) er2.1 hg1
    have hsa := sub_put (s := R.s) (Store.sub_trans hsa (Store.sub_upd hb (Store.sub_refl _) (cs := resC R.x (.list false 1 (bytesA R.fields))))) q20 er2.2.2.2.2
    have hbv : putS spO (ρ3.upd b (resC R.x (.list false 1 (bytesA R.fields)))) q2 r2 R.s b = some (resC R.x (.list false 1 (bytesA R.fields))) := by rw [putS_at e2.2.2.1 er2.2.2.2.1]; simp
    unfold resC at hP1 hP2 hsa hbv
    generalize putS spO (ρ3.upd b _) q2 r2 R.s = ρ5 at *
    simp +contextual [ranA, resC, hbv]
    intro c hc
    have hsm := fun τ => rsame_calls R.x R.fields τ
    unfold resC at hsm
    refine callK.of (hsm _) ?_
    rintro v ρ6 ⟨rfl, rfl⟩
    simp
    refine callK.of (ssame_calls (hP1.new hc _) (hP2.new hc _)) ?_
    rintro v ρ6 ⟨rfl, rfl⟩
    simp
    refine callK.of (alt_calls (hP1.new hc _)) ?_
    rintro v ρ6 ⟨rfl, rfl⟩
    simp [hra]
    exact Store.sub_trans hsa (Store.sub_upd hc (Store.sub_refl _))
theorem writeAgain_said (m : UInt8) (a1 a2 : List Sp.Act) (l : List UInt8) (alt : Bool) (h1 : a1.length ≤ maxLen ∧ ∀ a ∈ a1, a.text.length ≤ maxLen) (h2 : a2.length ≤ maxLen ∧ ∀ a ∈ a2, a.text.length ≤ maxLen) (σ : Store) :
    ACalls Tryd.prog 5 [byteA m, .list false 11 (actsA a1), .list false 11 (actsA a2), .list false 1 (bytesA l), .lit (.bool alt)] σ fun v _ => v = .lit (.bool true) :=
  (writeAgain_law m a1 a2 l alt (Nat.le_trans h1.1 (by decide)) (Nat.le_trans h2.1 (by decide)) (fun a ha => Nat.le_trans (h1.2 a ha) (by decide)) (fun a ha => Nat.le_trans (h2.2 a ha) (by decide)) σ).mono fun _ _ h => h.1
end Go.Proofs.YtnlggjbcdienfaaDoor
/-
  Arguments opened.
-/
namespace Go.Proofs.YtnlggjbcdienfaaDoor
open Go Go.AL Go.Sp
theorem open_bytes : Opens Tryd.prog 28 (fun l : List UInt8 => [.list false 1 (bytesA l)]) (fun l => l.length ≤ maxLen) :=
  (Opens.slice Tryd.underlying28 (sz := 1) (by kernel_rfl) (by omega) (Opens.u8 Tryd.underlying5) byteA (fun _ => rfl) (fun _ => rfl)).by id fun _ h => ⟨h.1, rfl⟩
theorem open_cell : Opens Tryd.prog 42 (fun c : Cell => cellC c) (fun _ => True) :=
  (Opens.struct (total := 6) Tryd.underlying42 (by kernel_rfl)
    (.cons (k := 1) rfl (by kernel_rfl) (by omega) (Opens.u8 Tryd.underlying5) (.cons (k := 1) rfl (by kernel_rfl) (by omega) (Opens.bool Tryd.underlying4) (.cons (k := 1) rfl (by kernel_rfl) (by omega) (Opens.u8 Tryd.underlying5)
      (.cons (k := 1) rfl (by kernel_rfl) (by omega) (Opens.u8 Tryd.underlying5) (.cons (k := 1) rfl (by kernel_rfl) (by omega) (Opens.u8 Tryd.underlying5) (.cons (k := 1) rfl (by kernel_rfl) (by omega) (Opens.u8 Tryd.underlying5) .nil))))))).by
    (fun x => ⟨x.1, x.2.1, x.2.2.1, x.2.2.2.1, x.2.2.2.2.1, x.2.2.2.2.2.1⟩) fun _ _ => ⟨trivial, rfl⟩
theorem open_act : Opens Tryd.prog 66 (fun a : Sp.Act => actC a) (fun a => a.text.length ≤ maxLen) :=
  (Opens.struct (total := 11) Tryd.underlying66 (by kernel_rfl)
    (.cons (k := 1) rfl (by kernel_rfl) (by omega) (Opens.u8 Tryd.underlying5) (.cons (k := 1) rfl (by kernel_rfl) (by omega) (Opens.i64 Tryd.underlying3) (.cons (k := 1) rfl (by kernel_rfl) (by omega) (Opens.bool Tryd.underlying4)
      (.cons (k := 1) rfl (by kernel_rfl) (by omega) (Opens.u8 Tryd.underlying5) (.cons (k := 6) rfl (by kernel_rfl) (by omega) open_cell (.cons (k := 1) rfl (by kernel_rfl) (by omega) open_bytes .nil))))))).by
    (fun x => ⟨x.1, x.2.1, x.2.2.1, x.2.2.2.1, x.2.2.2.2.1, x.2.2.2.2.2.1⟩) fun _ h => ⟨h.2.2.2.2.2.1, rfl⟩
theorem open_acts : Opens Tryd.prog 22 (fun l : List Sp.Act => [.list false 11 (actsA l)]) (fun l => l.length ≤ maxLen ∧ ∀ a ∈ l, a.text.length ≤ maxLen) :=
  Opens.slice Tryd.underlying22 (by kernel_rfl) (by omega) open_act actA (fun _ => rfl) (fun _ => rfl)
end Go.Proofs.YtnlggjbcdienfaaDoor
/-
  What the table of the commands reads as.
-/
namespace Go.Proofs.YtnlggjbcdienfaaDoor
open Go Go.AL Go.ChangeShapes Go.WideShapes Go.ChangeAt Go.RowKit Go.Lib

def laid1 : List (String × DataW Unit) := [("vitrine/write.names", Rows.laid_vitrine_write_names)]
def nameV (x : List UInt8 × UInt8 × UInt8) : List Value := [.string ⟨x.1.toArray⟩, .int .u8 x.2.1.toNat, .int .u8 x.2.2.toNat]
def nameD (x : List UInt8 × UInt8 × UInt8) : DataW Unit := .agg [.lit (.string x.1), .lit (.int .u8 x.2.1.toNat), .lit (.int .u8 x.2.2.toNat)]
theorem laid_names : (Rows.laid_vitrine_write_names : DataW Unit) = .agg (cmdNames.map nameD) := rfl
theorem rows_flat : ∀ (N : List (List UInt8 × UInt8 × UInt8)) (L : List Value), L.length = N.length * 3 → (∀ (r : Nat) x, N[r]? = some x → (L.drop (r * 3)).take 3 = nameV x) → L = N.flatMap nameV
  | [], L, hl, _ => by simpa using hl
  | x :: N, L, hl, h => by
    have h0 := h 0 x rfl
    have hr := rows_flat N (L.drop 3) (by simp only [List.length_drop]; simp at hl; omega) fun r y hy => by
      have := h (r + 1) y hy
      rw [List.drop_drop, ← this, show 3 + r * 3 = (r + 1) * 3 by omega]
    rw [List.flatMap_cons, ← hr, ← h0]
    simp
theorem row80 {W : World} {base : Nat} {sp : Nat → Bool} {held : Bool} {fuel : Nat} {l : List Value} {x : List UInt8 × UInt8 × UInt8} {p : List MemPlace}
    (h : DataW.trod (fun _ => ()) Tryd.prog W base sp held fuel 80 l = some (nameD x, p)) : l = nameV x := by
  obtain ⟨xs, n, _, ex, hl, hn, hf⟩ := DataW.trod_struct Tryd.underlying80 h
  have c80 : Tryd.prog.cellsOf 80 = 3 := by kernel_rfl
  have c9 : Tryd.prog.cellsOf 9 = 1 := by kernel_rfl
  have c5 : Tryd.prog.cellsOf 5 = 1 := by kernel_rfl
  rw [c80] at hl
  have hn3 : xs.length = 3 := hn
  obtain ⟨y0, y1, y2, rfl⟩ : ∃ y0 y1 y2, xs = [y0, y1, y2] := by
    rcases xs with _ | ⟨a, _ | ⟨b, _ | ⟨c, _ | ⟨d, r⟩⟩⟩⟩ <;> simp at hn3
    exact ⟨a, b, c, rfl⟩
  obtain ⟨v0, v1, v2, rfl⟩ : ∃ y0 y1 y2, l = [y0, y1, y2] := by
    rcases l with _ | ⟨a, _ | ⟨b, _ | ⟨c, _ | ⟨d, r⟩⟩⟩⟩ <;> simp at hl
    exact ⟨a, b, c, rfl⟩
  have f0 := hf 0 _ rfl
  have f1 := hf 1 _ rfl
  have f2 := hf 2 _ rfl
  obtain ⟨s, g0, d0, _⟩ := DataW.trod_string Tryd.underlying9 (f0.trans rfl)
  obtain ⟨a, g1, d1, _⟩ := DataW.trod_int Tryd.underlying5 (f1.trans rfl)
  obtain ⟨b, g2, d2, _⟩ := DataW.trod_int Tryd.underlying5 (f2.trans rfl)
  have q0 : List.take (Tryd.prog.cellsOf 9) [v0, v1, v2] = [.string s] := g0
  have q1 : List.take (Tryd.prog.cellsOf 5) [v1, v2] = [.int .u8 a] := g1
  have q2 : List.take (Tryd.prog.cellsOf 5) [v2] = [.int .u8 b] := g2
  rw [c9] at q0
  rw [c5] at q1 q2
  obtain rfl : v0 = .string s := (List.cons.inj q0).1
  obtain rfl : v1 = .int .u8 a := (List.cons.inj q1).1
  obtain rfl : v2 = .int .u8 b := (List.cons.inj q2).1
  subst d0 d1 d2
  have e := DataW.agg.inj (Prod.mk.inj ex).1
  simp only [List.map_cons, List.map_nil, List.cons.injEq, DataW.lit.injEq, Lit.string.injEq, Lit.int.injEq, true_and, and_true] at e
  obtain ⟨e0, e1, e2⟩ := e
  unfold nameV
  rw [e0, e1, e2]
theorem laid_vr {W : World} (h : laidMetH Tryd.prog laid1 W) : ∀ g cs, GL.tab g = some cs → VR (allFrz W) (.fptr cs) (.pointer (some ⟨g, 0, none⟩)) := by
  rw [MakeChecks.laidMetH_plain _ _ _ (by kernel_rfl)] at h
  obtain ⟨ps, ⟨g, t, cs, fuel, p, q, hg, ht, hv, hd, _, _⟩, _, _⟩ := h
  obtain rfl := Option.some.inj ((show Tryd.prog.globalNamed "vitrine/write.names" = some 0 by kernel_rfl).symm.trans hg)
  obtain rfl := Option.some.inj ((show (Tryd.prog.globals[0]?).map (·.type) = some 81 by kernel_rfl).symm.trans ht)
  obtain ⟨xs, m, _, ex, hc, hl, hel⟩ := DataW.trod_array Tryd.underlying81 hd
  have c80 : Tryd.prog.cellsOf 80 = 3 := by kernel_rfl
  have c81 : Tryd.prog.cellsOf 81 = 27 := by kernel_rfl
  rw [c81] at hc
  have e3 : xs.map (·.1) = cmdNames.map nameD := (DataW.agg.inj ((Prod.mk.inj ex).1.symm.trans laid_names)).symm ▸ rfl
  have hcs : cs.toList = cmdNames.flatMap nameV := by
    refine rows_flat cmdNames cs.toList hc fun r x hx => ?_
    have hr9 : r < 9 := (List.getElem?_eq_some_iff.1 hx).1
    have he := hel r hr9
    rw [c80] at he
    have e4 : (xs.map (·.1))[r]? = (cmdNames.map nameD)[r]? := by rw [e3]
    rw [List.getElem?_map, List.getElem?_map, hx] at e4
    cases hxr : xs[r]? with
    | none => rw [hxr] at e4; cases e4
    | some y =>
      rw [hxr] at e4 he
      obtain ⟨d, p⟩ := y
      simp only [Option.map_some, Option.some.injEq] at e4
      subst e4
      exact row80 he
  intro g cs2 hg2
  have : g = 0 ∧ cs2 = cmdsO := by
    have hg3 : (if g = 0 then some cmdsO else none) = some cs2 := hg2
    split at hg3
    · exact ⟨‹_›, (Option.some.inj hg3).symm⟩
    · cases hg3
  obtain ⟨rfl, rfl⟩ := this
  have hlit : cmdsO = (cmdNames.flatMap nameV).map .lit := rfl
  refine .fptr _ _ _ (cmdNames.flatMap nameV) rfl (fun i u hu => ⟨?_, ?_⟩) fun i c u hc hu => ?_
  · rw [Nat.zero_add]
    refine cell_back ?_
    rw [World.var?_cell hg hv i, ← Array.getElem?_toList, hcs]; exact hu
  · have : (cmdNames.flatMap nameV).all Value.oneCell' = true := by decide
    exact List.all_eq_true.1 this u (List.mem_of_getElem? hu)
  · rw [hlit, List.getElem?_map, hu] at hc
    obtain rfl := Option.some.inj hc
    exact .lit _
end Go.Proofs.YtnlggjbcdienfaaDoor
/-
  WriteAgain: for every input the law returns true, and the arguments read as they did.
-/
namespace Go.Proofs.YtnlggjbcdienfaaDoor
open Go Go.AL Go.ChangeShapes Go.WideShapes Go.ChangeAt Go.RowKit Go.Lib

theorem own_writeAgain : ownKnob Tryd.prog.godebug = none := by kernel_rfl
theorem laid_writeAgain : laidOutB Tryd.prog = true := by kernel_rfl
theorem rec22_writeAgain : Tryd.prog.readableRec 22 = true := by kernel_rfl
theorem row22_writeAgain : (22 : TypeId) < Tryd.prog.types.size := of_decide_eq_true (by kernel_rfl)
theorem rec28_writeAgain : Tryd.prog.readableRec 28 = true := by kernel_rfl
theorem row28_writeAgain : (28 : TypeId) < Tryd.prog.types.size := of_decide_eq_true (by kernel_rfl)
theorem rec4_writeAgain : Tryd.prog.readableRec 4 = true := by kernel_rfl
theorem row4_writeAgain : (4 : TypeId) < Tryd.prog.types.size := of_decide_eq_true (by kernel_rfl)
theorem rec5_writeAgain : Tryd.prog.readableRec 5 = true := by kernel_rfl
theorem row5_writeAgain : (5 : TypeId) < Tryd.prog.types.size := of_decide_eq_true (by kernel_rfl)

set_option maxRecDepth 100000 in
theorem writeAgain_lifted (os : Os) (started : os.Started) (H : Type) (enc : TypeId × Value → H) :
    ReturnsInHanded {} Tryd.checked os 5 .any (fun w args => (Rows.writeAgainSpec.pre enc Tryd.prog Tryd.f5 [] false w args ∧ laidMetH Tryd.prog laid1 w) ∧ sizedMet enc Tryd.prog Tryd.f5 (OpenSpec.ofChange Rows.writeAgainSpec) false w args) (Rows.writeAgainSpec.post enc Tryd.prog Tryd.f5 false true false false) := by
  refine returnsInHanded_of_change_and (C := Tryd.checked) (X := fun w _ => laidMetH Tryd.prog laid1 w) (fun _ _ _ hh h => h.of_heap hh) own_writeAgain started (by kernel_rfl) Tryd.func5
    (ChangeSpec.witness_shaped (enc := enc) (C := Tryd.checked) (os := os) (X := fun w _ => laidMetH Tryd.prog laid1 w) false (World.laidAll Tryd.prog os laid1) #[.int .u8 0, .slice none 0 0, .slice none 0 0, .slice none 0 0, .bool false] 8 (World.laidAll_os _ _ _)
      (World.shaped_of_ZipB (by kernel_rfl) (by kernel_rfl)) (by kernel_rfl) (by kernel_rfl) (by kernel_rfl)
      (by rw [MakeChecks.laidMetH_plain _ _ _ (by kernel_rfl)]; exact laidMet_laidAll _ (by kernel_rfl) (by kernel_rfl))) ?_
  intro W base args ds gs before hval0 hW _ _ hL _
  have hval : ∀ (j : Nat) t v, Tryd.f5.params[j]? = some t → args[j]? = some v → Value.okWide Tryd.prog W .any base t v := hval0
  have hW' := hW
  obtain ⟨p, q, hA0, hV, rfl, hfz, hnd⟩ := hW
  have hA : DataW.TrodAll enc Tryd.prog W 0 (fun _ => true) true Tryd.f5.params.toList args.toList ds p := hA0
  rw [Tryd.params5] at hA hval
  obtain ⟨v0, v1, v2, v3, v4, d0, d1, d2, d3, d4, p0, p1, p2, p3, p4, rfl, rfl, rfl, h0, h1, h2, h3, h4⟩ := trodAll_five hA
  obtain ⟨rfl, rfl⟩ := trodVars_none hV
  obtain ⟨_, hv0⟩ := okWide_int Tryd.underlying5 (hval 0 5 v0 rfl rfl)
  obtain ⟨a0, m0, w0⟩ := (Opens.u8 Tryd.underlying5).arg _ (fun _ => rfl) (by rw [hv0]; rfl) h0
  obtain ⟨_, _, _, hv1⟩ := okWide_slice Tryd.underlying22 (hval 1 22 v1 rfl rfl)
  obtain ⟨a1, m1, w1⟩ := (open_acts).arg _ (fun _ => rfl) (by rw [hv1]; rfl) h1
  obtain ⟨_, _, _, hv2⟩ := okWide_slice Tryd.underlying22 (hval 2 22 v2 rfl rfl)
  obtain ⟨a2, m2, w2⟩ := (open_acts).arg _ (fun _ => rfl) (by rw [hv2]; rfl) h2
  obtain ⟨_, _, _, hv3⟩ := okWide_slice Tryd.underlying28 (hval 3 28 v3 rfl rfl)
  obtain ⟨a3, m3, w3⟩ := (open_bytes).arg _ (fun _ => rfl) (by rw [hv3]; rfl) h3
  obtain ⟨_, hv4⟩ := okWide_bool Tryd.underlying4 (hval 4 4 v4 rfl rfl)
  obtain ⟨a4, m4, w4⟩ := (Opens.bool Tryd.underlying4).arg _ (fun _ => rfl) (by rw [hv4]; rfl) h4
  clear hA0 hval0
  simp only [List.append_nil] at hW'
  have hlt : ∀ x ∈ p0 ++ p1 ++ p2 ++ p3 ++ p4, x.block < W.heap.size := fun x hx => hW'.lt x hx
  refine (law_calls (writeAgain_said a0 a1 a2 a3 a4 m1 m2 _) W #[v0, v1, v2, v3, v4] rfl (fun i c u hc hu => ?_) (laid_vr hL)).mono fun e W' ⟨he, hb⟩ => ?_
  · match i with
    | 0 => simp at hc hu; subst hc hu; exact ⟨w0, rfl⟩
    | 1 => simp at hc hu; subst hc hu; exact ⟨w1, rfl⟩
    | 2 => simp at hc hu; subst hc hu; exact ⟨w2, rfl⟩
    | 3 => simp at hc hu; subst hc hu; exact ⟨w3, rfl⟩
    | 4 => simp at hc hu; subst hc hu; exact ⟨w4, rfl⟩
    | n + 5 => simp at hc
  subst he
  refine ⟨_, rfl, [d0, d1, d2, d3, d4], [], p0 ++ p1 ++ p2 ++ p3 ++ p4, [], p0 ++ (p1 ++ (p2 ++ (p3 ++ p4))), [], hW', ?_, ?_, rfl, hb.frame _, fun h => (by cases h)⟩
  · exact trodAll_mk1 (shut_bool Tryd.underlying4 true)
  · refine trodAll_mk5 (Below.trod laid_writeAgain rec5_writeAgain row5_writeAgain h0 hb fun x hx => hlt x (by simp [hx])) (Below.trod laid_writeAgain rec22_writeAgain row22_writeAgain h1 hb fun x hx => hlt x (by simp [hx])) (Below.trod laid_writeAgain rec22_writeAgain row22_writeAgain h2 hb fun x hx => hlt x (by simp [hx])) (Below.trod laid_writeAgain rec28_writeAgain row28_writeAgain h3 hb fun x hx => hlt x (by simp [hx])) (Below.trod laid_writeAgain rec4_writeAgain row4_writeAgain h4 hb fun x hx => hlt x (by simp [hx]))

theorem writeAgain_holds : Rows.WriteAgainSaid :=
  OpenClaim.holds_of_wide 5 Tryd.f5 rfl rfl rfl rfl rfl rfl rfl ⟨rfl, rfl, rfl, rfl, rfl⟩ rfl rfl rfl rfl rfl (by kernel_rfl) Tryd.func5 (by kernel_rfl)
    (of_decide_eq_true (by kernel_rfl)) (by unfold Func.isWrapper; first | (rw [if_pos (by decide +kernel)]; kernel_rfl) | (rw [if_neg (by decide +kernel)]; exact ⟨rfl, rfl⟩))
    (fun os started H enc _ => writeAgain_lifted os started H enc)
end Go.Proofs.YtnlggjbcdienfaaDoor
