/-
  Arguments opened; what the table of the commands reads as.
-/
import Derived.Test.YtbeohjinefaaoaaDoorAPart18
import Derived.Test.YtbeohjinefaaoaaDoorRows
import Derived.Lay
import Derived.LaidMore
set_option linter.unusedSimpArgs false
set_option linter.unusedVariables false
namespace Go.Proofs.YtbeohjinefaaoaaDoor
open Go Go.AL Go.ChangeShapes Go.WideShapes Go.ChangeAt Go.RowKit Go.Lib

def laid1 : List (String × DataW Unit) := [("vitrine/write.names", Rows.laid_vitrine_write_names)]
def nameV (x : List UInt8 × UInt8 × UInt8) : List Value := [.string ⟨x.1.toArray⟩, .int .u8 x.2.1.toNat, .int .u8 x.2.2.toNat]
def nameD (x : List UInt8 × UInt8 × UInt8) : DataW Unit := .agg [.lit (.string x.1), .lit (.int .u8 x.2.1.toNat), .lit (.int .u8 x.2.2.toNat)]
theorem laid_names : (Rows.laid_vitrine_write_names : DataW Unit) = .agg (cmdNames.map nameD) := rfl
theorem rows_flat : ∀ (N : List (List UInt8 × UInt8 × UInt8)) (L : List Value), L.length = N.length * 3 → (∀ (r : Nat) x, N[r]? = some x → (L.drop (r * 3)).take 3 = nameV x) → L = N.flatMap nameV
  | [], L, hl, _ => by simpa using hl
  | x :: N, L, hl, h => by
    have h0 := h 0 x rfl
    have hr := rows_flat N (L.drop 3) (by simp only [List.length_drop]; simp at hl; omega) fun r y hy => by
      have := h (r + 1) y hy
      rw [List.drop_drop, ← this, show 3 + r * 3 = (r + 1) * 3 by omega]
    rw [List.flatMap_cons, ← hr, ← h0]
    simp
theorem row137 {W : World} {base : Nat} {sp : Nat → Bool} {held : Bool} {fuel : Nat} {l : List Value} {x : List UInt8 × UInt8 × UInt8} {p : List MemPlace}
    (h : DataW.trod (fun _ => ()) Tryd.prog W base sp held fuel 137 l = some (nameD x, p)) : l = nameV x := by
  obtain ⟨xs, n, _, ex, hl, hn, hf⟩ := DataW.trod_struct Tryd.underlying137 h
  have c137 : Tryd.prog.cellsOf 137 = 3 := by kernel_rfl
  have c9 : Tryd.prog.cellsOf 9 = 1 := by kernel_rfl
  have c5 : Tryd.prog.cellsOf 5 = 1 := by kernel_rfl
  rw [c137] at hl
  have hn3 : xs.length = 3 := hn
  obtain ⟨y0, y1, y2, rfl⟩ : ∃ y0 y1 y2, xs = [y0, y1, y2] := by
    rcases xs with _ | ⟨a, _ | ⟨b, _ | ⟨c, _ | ⟨d, r⟩⟩⟩⟩ <;> simp at hn3
    exact ⟨a, b, c, rfl⟩
  obtain ⟨v0, v1, v2, rfl⟩ : ∃ y0 y1 y2, l = [y0, y1, y2] := by
    rcases l with _ | ⟨a, _ | ⟨b, _ | ⟨c, _ | ⟨d, r⟩⟩⟩⟩ <;> simp at hl
    exact ⟨a, b, c, rfl⟩
  have f0 := hf 0 _ rfl
  have f1 := hf 1 _ rfl
  have f2 := hf 2 _ rfl
  obtain ⟨s, g0, d0, _⟩ := DataW.trod_string Tryd.underlying9 (f0.trans rfl)
  obtain ⟨a, g1, d1, _⟩ := DataW.trod_int Tryd.underlying5 (f1.trans rfl)
  obtain ⟨b, g2, d2, _⟩ := DataW.trod_int Tryd.underlying5 (f2.trans rfl)
  have q0 : List.take (Tryd.prog.cellsOf 9) [v0, v1, v2] = [.string s] := g0
  have q1 : List.take (Tryd.prog.cellsOf 5) [v1, v2] = [.int .u8 a] := g1
  have q2 : List.take (Tryd.prog.cellsOf 5) [v2] = [.int .u8 b] := g2
  rw [c9] at q0
  rw [c5] at q1 q2
  obtain rfl : v0 = .string s := (List.cons.inj q0).1
  obtain rfl : v1 = .int .u8 a := (List.cons.inj q1).1
  obtain rfl : v2 = .int .u8 b := (List.cons.inj q2).1
  subst d0 d1 d2
  have e := DataW.agg.inj (Prod.mk.inj ex).1
  simp only [List.map_cons, List.map_nil, List.cons.injEq, DataW.lit.injEq, Lit.string.injEq, Lit.int.injEq, true_and, and_true] at e
  obtain ⟨e0, e1, e2⟩ := e
  unfold nameV
  rw [e0, e1, e2]
theorem laid_vr {W : World} (h : laidMetH Tryd.prog laid1 W) : ∀ g cs, GL.tab g = some cs → VR (allFrz W) (.fptr cs) (.pointer (some ⟨g, 0, none⟩)) := by
  rw [MakeChecks.laidMetH_plain _ _ _ (by kernel_rfl)] at h
  obtain ⟨ps, ⟨g, t, cs, fuel, p, q, hg, ht, hv, hd, _, _⟩, _, _⟩ := h
  obtain rfl := Option.some.inj ((show Tryd.prog.globalNamed "vitrine/write.names" = some 0 by kernel_rfl).symm.trans hg)
  obtain rfl := Option.some.inj ((show (Tryd.prog.globals[0]?).map (·.type) = some 153 by kernel_rfl).symm.trans ht)
  obtain ⟨xs, m, _, ex, hc, hl, hel⟩ := DataW.trod_array Tryd.underlying153 hd
  have c137 : Tryd.prog.cellsOf 137 = 3 := by kernel_rfl
  have c153 : Tryd.prog.cellsOf 153 = 27 := by kernel_rfl
  rw [c153] at hc
  have e3 : xs.map (·.1) = cmdNames.map nameD := (DataW.agg.inj ((Prod.mk.inj ex).1.symm.trans laid_names)).symm ▸ rfl
  have hcs : cs.toList = cmdNames.flatMap nameV := by
    refine rows_flat cmdNames cs.toList hc fun r x hx => ?_
    have hr9 : r < 9 := (List.getElem?_eq_some_iff.1 hx).1
    have he := hel r hr9
    rw [c137] at he
    have e4 : (xs.map (·.1))[r]? = (cmdNames.map nameD)[r]? := by rw [e3]
    rw [List.getElem?_map, List.getElem?_map, hx] at e4
    cases hxr : xs[r]? with
    | none => rw [hxr] at e4; cases e4
    | some y =>
      rw [hxr] at e4 he
      obtain ⟨d, p⟩ := y
      simp only [Option.map_some, Option.some.injEq] at e4
      subst e4
      exact row137 he
  intro g cs2 hg2
  have : g = 0 ∧ cs2 = cmdsO := by
    have hg3 : (if g = 0 then some cmdsO else none) = some cs2 := hg2
    split at hg3
    · exact ⟨‹_›, (Option.some.inj hg3).symm⟩
    · cases hg3
  obtain ⟨rfl, rfl⟩ := this
  have hlit : cmdsO = (cmdNames.flatMap nameV).map .lit := rfl
  refine .fptr _ _ _ (cmdNames.flatMap nameV) rfl (fun i u hu => ⟨?_, ?_⟩) fun i c u hc hu => ?_
  · rw [Nat.zero_add]
    refine cell_back ?_
    rw [World.var?_cell hg hv i, ← Array.getElem?_toList, hcs]; exact hu
  · have : (cmdNames.flatMap nameV).all Value.oneCell' = true := by decide
    exact List.all_eq_true.1 this u (List.mem_of_getElem? hu)
  · rw [hlit, List.getElem?_map, hu] at hc
    obtain rfl := Option.some.inj hc
    exact .lit _
theorem open_pair : Opens Tryd.prog 89 (fun c : UInt8 × UInt8 => [byteA c.1, byteA c.2]) (fun _ => True) :=
  (Opens.struct (total := 2) Tryd.underlying89 (by kernel_rfl)
    (.cons (k := 1) rfl (by kernel_rfl) (by omega) (Opens.u8 Tryd.underlying5) (.cons (k := 1) rfl (by kernel_rfl) (by omega) (Opens.u8 Tryd.underlying5) .nil))).by
    (fun x => ⟨x.1, x.2.1⟩) fun _ _ => ⟨trivial, rfl⟩
theorem open_pairs : Opens Tryd.prog 65 (fun l : List (UInt8 × UInt8) => [.list false 2 (pairsA l)]) (fun l => l.length ≤ maxLen) :=
  (Opens.slice Tryd.underlying65 (by kernel_rfl) (by omega) open_pair (fun c => .agg [byteA c.1, byteA c.2]) (fun _ => rfl) (fun _ => rfl)).by id fun _ h => ⟨h.1, rfl⟩
theorem open_fd : Opens Tryd.prog 64 (fun f : Fd => [.lit (.bool f.prot), .lit (.bool f.num), .lit (.int .i64 f.disp), .lit (.bool f.mod)]) (fun _ => True) :=
  (Opens.struct (total := 4) Tryd.underlying64 (by kernel_rfl)
    (.cons (k := 1) rfl (by kernel_rfl) (by omega) (Opens.bool Tryd.underlying4) (.cons (k := 1) rfl (by kernel_rfl) (by omega) (Opens.bool Tryd.underlying4) (.cons (k := 1) rfl (by kernel_rfl) (by omega) (Opens.i64 Tryd.underlying3) (.cons (k := 1) rfl (by kernel_rfl) (by omega) (Opens.bool Tryd.underlying4) .nil))))).by
    (fun x => ⟨x.1, x.2.1, x.2.2.1, x.2.2.2.1⟩) fun _ _ => ⟨trivial, rfl⟩
theorem open_item : Opens Tryd.prog 67 (fun i : It => itC i) (fun i => i.ext.length ≤ maxLen) :=
  (Opens.struct (total := 9) Tryd.underlying67 (by kernel_rfl)
    (.cons (k := 1) rfl (by kernel_rfl) (by omega) (Opens.i64 Tryd.underlying3) (.cons (k := 1) rfl (by kernel_rfl) (by omega) (Opens.i64 Tryd.underlying3) (.cons (k := 4) rfl (by kernel_rfl) (by omega) open_fd
      (.cons (k := 1) rfl (by kernel_rfl) (by omega) open_pairs (.cons (k := 1) rfl (by kernel_rfl) (by omega) (Opens.string Tryd.underlying9) (.cons (k := 1) rfl (by kernel_rfl) (by omega) (Opens.bool Tryd.underlying4) .nil))))))).by
    (fun x => ⟨x.1, x.2.1, x.2.2.1, x.2.2.2.1, x.2.2.2.2.1, x.2.2.2.2.2.1⟩) fun _ h => ⟨h.2.2.2.1, rfl⟩
theorem open_items : Opens Tryd.prog 22 (fun l : List It => [.list false 9 (itsA l)]) (fun l => l.length ≤ maxLen ∧ ∀ i ∈ l, i.ext.length ≤ maxLen) :=
  Opens.slice Tryd.underlying22 (by kernel_rfl) (by omega) open_item (fun i => .agg (itC i)) (fun _ => rfl) (fun _ => rfl)
theorem open_form : Opens Tryd.prog 24 (fun F : Fm => formC F) (fun F => F.items.length ≤ maxLen ∧ ∀ i ∈ F.items, i.ext.length ≤ maxLen) :=
  (Opens.struct (total := 6) Tryd.underlying24 (by kernel_rfl)
    (.cons (k := 1) rfl (by kernel_rfl) (by omega) open_items (.cons (k := 1) rfl (by kernel_rfl) (by omega) (Opens.bool Tryd.underlying4) (.cons (k := 1) rfl (by kernel_rfl) (by omega) (Opens.bool Tryd.underlying4)
      (.cons (k := 1) rfl (by kernel_rfl) (by omega) (Opens.bool Tryd.underlying4) (.cons (k := 1) rfl (by kernel_rfl) (by omega) (Opens.bool Tryd.underlying4) (.cons (k := 1) rfl (by kernel_rfl) (by omega) (Opens.bool Tryd.underlying4) .nil))))))).by
    (fun x => ⟨x.1, x.2.1, x.2.2.1, x.2.2.2.1, x.2.2.2.2.1, x.2.2.2.2.2.1⟩) fun _ h => ⟨h.1, rfl⟩
theorem open_size : Opens Tryd.prog 26 (fun c : Int × Int => [.lit (.int .i64 c.1), .lit (.int .i64 c.2)]) (fun _ => True) :=
  (Opens.struct (total := 2) Tryd.underlying26 (by kernel_rfl)
    (.cons (k := 1) rfl (by kernel_rfl) (by omega) (Opens.i64 Tryd.underlying3) (.cons (k := 1) rfl (by kernel_rfl) (by omega) (Opens.i64 Tryd.underlying3) .nil))).by
    (fun x => ⟨x.1, x.2.1⟩) fun _ _ => ⟨trivial, rfl⟩
end Go.Proofs.YtbeohjinefaaoaaDoor
/-
  Arguments opened: a report.
-/
namespace Go.Proofs.YtbeohjinefaaoaaDoor
open Go Go.AL
theorem open_bytes : Opens Tryd.prog 33 (fun l : List UInt8 => [.list false 1 (bytesA l)]) (fun l => l.length ≤ maxLen) :=
  (Opens.slice Tryd.underlying33 (sz := 1) (by kernel_rfl) (by omega) (Opens.u8 Tryd.underlying5) byteA (fun _ => rfl) (fun _ => rfl)).by id fun _ h => ⟨h.1, rfl⟩
theorem open_ent : Opens Tryd.prog 52 (fun e : Int × List UInt8 => [.lit (.int .i64 e.1), .list false 1 (bytesA e.2)]) (fun e => e.2.length ≤ maxLen) :=
  (Opens.struct (total := 2) Tryd.underlying52 (by kernel_rfl)
    (.cons (k := 1) rfl (by kernel_rfl) (by omega) (Opens.i64 Tryd.underlying3) (.cons (k := 1) rfl (by kernel_rfl) (by omega) open_bytes .nil))).by
    (fun x => ⟨x.1, x.2.1⟩) fun _ h => ⟨h.2.1, rfl⟩
theorem open_ents : Opens Tryd.prog 45 (fun l : List (Int × List UInt8) => [.list false 2 (entsA l)]) (fun l => l.length ≤ maxLen ∧ ∀ e ∈ l, e.2.length ≤ maxLen) :=
  Opens.slice Tryd.underlying45 (by kernel_rfl) (by omega) open_ent entA (fun _ => rfl) (fun _ => rfl)
theorem open_rep : Opens Tryd.prog 47 (fun R : Rpt => repC R) (fun R => R.es.length ≤ maxLen ∧ ∀ e ∈ R.es, e.2.length ≤ maxLen) :=
  (Opens.struct (total := 4) Tryd.underlying47 (by kernel_rfl)
    (.cons (k := 1) rfl (by kernel_rfl) (by omega) (Opens.u8 Tryd.underlying5) (.cons (k := 1) rfl (by kernel_rfl) (by omega) (Opens.bool Tryd.underlying4) (.cons (k := 1) rfl (by kernel_rfl) (by omega) (Opens.i64 Tryd.underlying3)
      (.cons (k := 1) rfl (by kernel_rfl) (by omega) open_ents .nil))))).by
    (fun x => ⟨x.1, x.2.1, x.2.2.1, x.2.2.2.1⟩) fun _ h => ⟨h.2.2.2.1, rfl⟩
end Go.Proofs.YtbeohjinefaaoaaDoor
/-
  HostAnswers: for every input the law returns true, and the arguments read as they did.
-/
namespace Go.Proofs.YtbeohjinefaaoaaDoor
open Go Go.AL Go.ChangeShapes Go.WideShapes Go.ChangeAt Go.RowKit Go.Lib

theorem own_hostAnswers : ownKnob Tryd.prog.godebug = none := by kernel_rfl
theorem laid_hostAnswers : laidOutB Tryd.prog = true := by kernel_rfl
theorem rec24_hostAnswers : Tryd.prog.readableRec 24 = true := by kernel_rfl
theorem row24_hostAnswers : (24 : TypeId) < Tryd.prog.types.size := of_decide_eq_true (by kernel_rfl)
theorem rec26_hostAnswers : Tryd.prog.readableRec 26 = true := by kernel_rfl
theorem row26_hostAnswers : (26 : TypeId) < Tryd.prog.types.size := of_decide_eq_true (by kernel_rfl)
theorem rec3_hostAnswers : Tryd.prog.readableRec 3 = true := by kernel_rfl
theorem row3_hostAnswers : (3 : TypeId) < Tryd.prog.types.size := of_decide_eq_true (by kernel_rfl)
theorem rec47_hostAnswers : Tryd.prog.readableRec 47 = true := by kernel_rfl
theorem row47_hostAnswers : (47 : TypeId) < Tryd.prog.types.size := of_decide_eq_true (by kernel_rfl)

set_option maxRecDepth 100000 in
theorem hostAnswers_lifted (os : Os) (started : os.Started) (H : Type) (enc : TypeId × Value → H) :
    ReturnsInHanded {} Tryd.checked os 4 .any (fun w args => (Rows.hostAnswersSpec.pre enc Tryd.prog Tryd.f4 [] false w args ∧ laidMetH Tryd.prog laid1 w) ∧ sizedMet enc Tryd.prog Tryd.f4 (OpenSpec.ofChange Rows.hostAnswersSpec) false w args) (Rows.hostAnswersSpec.post enc Tryd.prog Tryd.f4 false true false false) := by
  refine returnsInHanded_of_change_and (C := Tryd.checked) (X := fun w _ => laidMetH Tryd.prog laid1 w) (fun _ _ _ hh h => h.of_heap hh) own_hostAnswers started (by kernel_rfl) Tryd.func4
    (ChangeSpec.witness_shaped (enc := enc) (C := Tryd.checked) (os := os) (X := fun w _ => laidMetH Tryd.prog laid1 w) false (World.laidAll Tryd.prog os laid1) #[.agg #[.slice none 0 0, .bool false, .bool false, .bool false, .bool false, .bool false], .agg #[.int .u8 0, .bool false, .int .i64 0, .slice none 0 0], .agg #[.int .i64 0, .int .i64 0], .int .i64 0] 8 (World.laidAll_os _ _ _)
      (World.shaped_of_ZipB (by kernel_rfl) (by kernel_rfl)) (by kernel_rfl) (by kernel_rfl) (by kernel_rfl)
      (by rw [MakeChecks.laidMetH_plain _ _ _ (by kernel_rfl)]; exact laidMet_laidAll _ (by kernel_rfl) (by kernel_rfl))) ?_
  intro W base args ds gs before hval0 hW _ _ hL _
  have hval : ∀ (j : Nat) t v, Tryd.f4.params[j]? = some t → args[j]? = some v → Value.okWide Tryd.prog W .any base t v := hval0
  have hW' := hW
  obtain ⟨p, q, hA0, hV, rfl, hfz, hnd⟩ := hW
  have hA : DataW.TrodAll enc Tryd.prog W 0 (fun _ => true) true Tryd.f4.params.toList args.toList ds p := hA0
  rw [Tryd.params4] at hA hval
  obtain ⟨v0, v1, v2, v3, d0, d1, d2, d3, p0, p1, p2, p3, rfl, rfl, rfl, h0, h1, h2, h3⟩ := trodAll_four hA
  obtain ⟨rfl, rfl⟩ := trodVars_none hV
  obtain ⟨_, hv0, _⟩ := okWide_struct Tryd.underlying24 (hval 0 24 v0 rfl rfl)
  obtain ⟨a0, m0, w0⟩ := (open_form).args hv0 h0
  obtain ⟨_, hv1, _⟩ := okWide_struct Tryd.underlying47 (hval 1 47 v1 rfl rfl)
  obtain ⟨a1, m1, w1⟩ := (open_rep).args hv1 h1
  obtain ⟨_, hv2, _⟩ := okWide_struct Tryd.underlying26 (hval 2 26 v2 rfl rfl)
  obtain ⟨a2, m2, w2⟩ := (open_size).args hv2 h2
  obtain ⟨_, hv3⟩ := okWide_int Tryd.underlying3 (hval 3 3 v3 rfl rfl)
  obtain ⟨a3, m3, w3⟩ := (Opens.i64 Tryd.underlying3).arg _ (fun _ => rfl) (by rw [hv3]; rfl) h3
  clear hA0 hval0
  simp only [List.append_nil] at hW'
  have hlt : ∀ x ∈ p0 ++ p1 ++ p2 ++ p3, x.block < W.heap.size := fun x hx => hW'.lt x hx
  refine (law_calls (hostAnswers_law a0 a1 a2.1 a2.2 a3 m0.1 m0.2 m1.1 m1.2 _) W #[v0, v1, v2, v3] rfl (fun i c u hc hu => ?_) (laid_vr hL)).mono fun e W' ⟨he, hb⟩ => ?_
  · match i with
    | 0 => simp at hc hu; subst hc hu; exact ⟨w0, rfl⟩
    | 1 => simp at hc hu; subst hc hu; exact ⟨w1, rfl⟩
    | 2 => simp at hc hu; subst hc hu; exact ⟨w2, rfl⟩
    | 3 => simp at hc hu; subst hc hu; exact ⟨w3, rfl⟩
    | n + 4 => simp at hc
  subst he
  refine ⟨_, rfl, [d0, d1, d2, d3], [], p0 ++ p1 ++ p2 ++ p3, [], p0 ++ (p1 ++ (p2 ++ p3)), [], hW', ?_, ?_, rfl, hb.frame _, fun h => (by cases h)⟩
  · exact trodAll_mk1 (shut_bool Tryd.underlying4 true)
  · refine trodAll_mk4 (Below.trod laid_hostAnswers rec24_hostAnswers row24_hostAnswers h0 hb fun x hx => hlt x (by simp [hx])) (Below.trod laid_hostAnswers rec47_hostAnswers row47_hostAnswers h1 hb fun x hx => hlt x (by simp [hx])) (Below.trod laid_hostAnswers rec26_hostAnswers row26_hostAnswers h2 hb fun x hx => hlt x (by simp [hx])) (Below.trod laid_hostAnswers rec3_hostAnswers row3_hostAnswers h3 hb fun x hx => hlt x (by simp [hx]))

theorem hostAnswers_holds : Rows.HostAnswersSaid :=
  OpenClaim.holds_of_wide 4 Tryd.f4 rfl rfl rfl rfl rfl rfl rfl ⟨rfl, rfl, rfl, rfl, rfl⟩ rfl rfl rfl rfl rfl (by kernel_rfl) Tryd.func4 (by kernel_rfl)
    (of_decide_eq_true (by kernel_rfl)) (by unfold Func.isWrapper; first | (rw [if_pos (by decide +kernel)]; kernel_rfl) | (rw [if_neg (by decide +kernel)]; exact ⟨rfl, rfl⟩))
    (fun os started H enc _ => hostAnswers_lifted os started H enc)
end Go.Proofs.YtbeohjinefaaoaaDoor
