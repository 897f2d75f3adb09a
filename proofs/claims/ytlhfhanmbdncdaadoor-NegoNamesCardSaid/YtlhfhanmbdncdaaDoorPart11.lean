/-
  NegoNames: names, reasons, a nil end.
-/
import Derived.Test.YtlhfhanmbdncdaaDoorPart10
import Derived.Test.YtlhfhanmbdncdaaDoorRows
import Derived.Lay
import Derived.LaidMore
namespace Go.Proofs.YtlhfhanmbdncdaaDoor
open Go Go.AL

def reasonS (c : UInt8) : List UInt8 := reasonsL.getD c.toNat []
theorem byte_lt8 (c : UInt8) : 8 ≤ c.toNat ∨ c = 0 ∨ c = 1 ∨ c = 2 ∨ c = 3 ∨ c = 4 ∨ c = 5 ∨ c = 6 ∨ c = 7 := by
  by_cases h : 8 ≤ c.toNat
  · exact .inl h
  · right
    have hc : c = UInt8.ofNat c.toNat := by simp
    have : c.toNat = 0 ∨ c.toNat = 1 ∨ c.toNat = 2 ∨ c.toNat = 3 ∨ c.toNat = 4 ∨ c.toNat = 5 ∨ c.toNat = 6 ∨ c.toNat = 7 := by omega
    rcases this with h | h | h | h | h | h | h | h <;> rw [h] at hc <;> subst hc <;> decide
theorem reason_none {c : UInt8} (h : 8 ≤ c.toNat) : reasonS c = [] := by
  unfold reasonS
  rw [List.getD_eq_getElem?_getD, List.getElem?_eq_none (by simpa [reasonsL] using h)]; rfl
set_option maxRecDepth 8000 in
theorem reason_calls (c : UInt8) (σ : Store) : ACalls Tryd.prog 11 [byteA c] σ fun v σ' => v = strS (reasonS c) ∧ σ' = σ := by
  refine ACalls.of_awp follows (st := st11) (plans := pl11) (n := 9) Tryd.func11 rfl (by kernel_rfl) (by kernel_rfl) (by kernel_rfl) ?_
  have w0 : IntKind.i64.wrap 0 = 0 := by decide
  have w1 : IntKind.i64.wrap 1 = 1 := by decide
  have w2 : IntKind.i64.wrap 2 = 2 := by decide
  have w3 : IntKind.i64.wrap 3 = 3 := by decide
  have w4 : IntKind.i64.wrap 4 = 4 := by decide
  have w5 : IntKind.i64.wrap 5 = 5 := by decide
  have w6 : IntKind.i64.wrap 6 = 6 := by decide
  have w7 : IntKind.i64.wrap 7 = 7 := by decide
  rcases byte_lt8 c with h | rfl | rfl | rfl | rfl | rfl | rfl | rfl | rfl
  · have h8 : (8 : Int) ≤ (c.toNat : Int) := by omega
    have hw : IntKind.i64.wrap (c.toNat : Int) = (c.toNat : Int) := by have := c.toNat_lt; exact wrap_i64 (by omega) (by omega)
    rw [reason_none h]
    simp [byteA, hw, h8]
  all_goals
    simp [byteA, w0, w1, w2, w3, w4, w5, w6, w7, reasonsO]
    exact le_of_eq rfl
set_option maxRecDepth 8000 in
theorem rreason_calls (c : UInt8) (σ : Store) : ACalls Tryd.prog 12 [byteA c] σ fun v σ' => v = strS (reasonS c) ∧ σ' = σ := by
  refine ACalls.of_awp follows (st := st12) (plans := pl12) (n := 9) Tryd.func12 rfl (by kernel_rfl) (by kernel_rfl) (by kernel_rfl) ?_
  rcases byte_lt8 c with h | rfl | rfl | rfl | rfl | rfl | rfl | rfl | rfl
  · have h8 : (7 : Int) < (c.toNat : Int) := by omega
    rw [reason_none h]
    simp [byteA, h8]
  all_goals
    simp [byteA]
    exact le_of_eq rfl
abbrev nilA : AV := .lit (.pointer none)
set_option maxRecDepth 8000 in
theorem nhear_calls (c : UInt8) (o : Bool) (l : List UInt8) (σ : Store) : ACalls Tryd.prog 6 [nilA, byteA c, .list o 1 (bytesA l)] σ fun v σ' => v = .tuple [.list true 1 [], .lit (.int .i64 5)] ∧ σ' = σ := by
  refine ACalls.of_awp follows (st := st6) (plans := pl6) (n := 76) Tryd.func6 rfl (by kernel_rfl) (by kernel_rfl) (by kernel_rfl) ?_
  simp [byteA]
theorem nreset_calls (σ : Store) : ACalls Tryd.prog 8 [nilA] σ fun v σ' => v = .tuple [] ∧ σ' = σ := by
  refine ACalls.of_awp follows (st := st8) (plans := pl8) (n := 13) Tryd.func8 rfl (by kernel_rfl) (by kernel_rfl) (by kernel_rfl) ?_
  simp
theorem nstate_calls (σ : Store) : ACalls Tryd.prog 13 [nilA] σ fun v σ' => v = .lit (.int .i64 4) ∧ σ' = σ := by
  refine ACalls.of_awp follows (st := st13) (plans := pl13) (n := 9) Tryd.func13 rfl (by kernel_rfl) (by kernel_rfl) (by kernel_rfl) ?_
  simp
theorem nready_calls (σ : Store) : ACalls Tryd.prog 14 [nilA] σ fun v σ' => v = .lit (.bool false) ∧ σ' = σ := by
  refine ACalls.of_awp follows (st := st14) (plans := pl14) (n := 6) Tryd.func14 rfl (by kernel_rfl) (by kernel_rfl) (by kernel_rfl) ?_
  simp
  refine callK.of (nstate_calls _) ?_
  rintro v σ' ⟨rfl, rfl⟩
  simp
theorem ndevice_calls (σ : Store) : ACalls Tryd.prog 15 [nilA] σ fun v σ' => v = strS [] ∧ σ' = σ := by
  refine ACalls.of_awp follows (st := st15) (plans := pl15) (n := 9) Tryd.func15 rfl (by kernel_rfl) (by kernel_rfl) (by kernel_rfl) ?_
  simp
theorem nfunctions_calls (σ : Store) : ACalls Tryd.prog 16 [nilA] σ fun v σ' => v = .list true 1 [] ∧ σ' = σ := by
  refine ACalls.of_awp follows (st := st16) (plans := pl16) (n := 11) Tryd.func16 rfl (by kernel_rfl) (by kernel_rfl) (by kernel_rfl) ?_
  simp
  refine callK.of (nready_calls _) ?_
  rintro v σ' ⟨rfl, rfl⟩
  simp
theorem nhas_calls (c : UInt8) (σ : Store) : ACalls Tryd.prog 17 [nilA, byteA c] σ fun v σ' => v = .lit (.bool false) ∧ σ' = σ := by
  have hix := fun τ => indexByte_calls true [] c τ
  rw [byteA_lit] at hix ⊢
  refine ACalls.of_awp follows (st := st17) (plans := pl17) (n := 10) Tryd.func17 rfl (by kernel_rfl) (by kernel_rfl) (by kernel_rfl) ?_
  simp
  refine callK.of (nfunctions_calls _) ?_
  rintro v σ' ⟨rfl, rfl⟩
  simp
  refine callK.of (hix _) ?_
  rintro v σ' ⟨rfl, rfl⟩
  simp [Lib.indexByte]
set_option maxRecDepth 8000 in
set_option maxHeartbeats 1000000 in
theorem negoNames_law (s : List UInt8) (code : UInt8) (p : List UInt8) (σ : Store) :
    ACalls Tryd.prog 3 [strS s, byteA code, .list false 1 (bytesA p)] σ fun v σ' => v = .lit (.bool true) ∧ σ' = σ := by
  have haw := fun τ => awake_calls τ
  have hct := fun τ => ctext_calls s 60 τ (by omega)
  have hcu := fun τ => cut_calls false p 50 τ (by omega)
  have hnm := fun τ => name_calls (s.take 60) (by simp; omega) τ
  have hrn := fun τ => rname_calls (s.take 60) (by simp; omega) τ
  have hre := fun τ => reason_calls code τ
  have hrr := fun τ => rreason_calls code τ
  have hhe := fun τ => nhear_calls code true (p.take 50) τ
  have hha := fun τ => nhas_calls code τ
  rw [byteA_lit code]
  simp only [byteA_lit] at hre hrr hhe hha
  generalize s.take 60 = s2 at *
  generalize reasonS code = R at *
  refine ACalls.of_awp follows (st := st3) (plans := pl3) (n := 67) Tryd.func3 rfl (by kernel_rfl) (by kernel_rfl) (by kernel_rfl) ?_
  simp
  refine callK.of (haw _) ?_
  rintro v σ0 ⟨rfl, rfl⟩
  simp
  refine callK.of (hct _) ?_
  rintro v σ0 ⟨rfl, rfl⟩
  simp
  refine callK.of (hcu _) ?_
  rintro v σ0 ⟨rfl, rfl⟩
  simp
  refine callK.of (hhe _) ?_
  rintro v σ0 ⟨rfl, rfl⟩
  simp
  refine callK.of (nreset_calls _) ?_
  rintro v σ0 ⟨rfl, rfl⟩
  simp
  refine callK.of (hnm _) ?_
  rintro v σ0 ⟨rfl, rfl⟩
  simp
  refine callK.of (hrn _) ?_
  rintro v σ0 ⟨rfl, rfl⟩
  simp
  refine callK.of (hre _) ?_
  rintro v σ0 ⟨rfl, rfl⟩
  simp
  refine callK.of (hrr _) ?_
  rintro v σ0 ⟨rfl, rfl⟩
  simp
  refine callK.of (nstate_calls _) ?_
  rintro v σ0 ⟨rfl, rfl⟩
  simp
  refine callK.of (nready_calls _) ?_
  rintro v σ0 ⟨rfl, rfl⟩
  simp
  refine callK.of (ndevice_calls _) ?_
  rintro v σ0 ⟨rfl, rfl⟩
  simp
  refine callK.of (nfunctions_calls _) ?_
  rintro v σ0 ⟨rfl, rfl⟩
  simp
  refine callK.of (hha _) ?_
  rintro v σ0 ⟨rfl, rfl⟩
  simp
theorem negoNames_said (s : List UInt8) (code : UInt8) (p : List UInt8) (σ : Store) :
    ACalls Tryd.prog 3 [strS s, byteA code, .list false 1 (bytesA p)] σ fun v _ => v = .lit (.bool true) :=
  (negoNames_law s code p σ).mono fun _ _ h => h.1
end Go.Proofs.YtlhfhanmbdncdaaDoor
/-
  Arguments opened.
-/
namespace Go.Proofs.YtlhfhanmbdncdaaDoor
open Go Go.AL
theorem open_str : Opens Tryd.prog 9 (fun l : List UInt8 => [strS l]) (fun _ => True) :=
  (Opens.string Tryd.underlying9).by (fun s => s.data.toList) fun s _ => ⟨trivial, by cases s; simp⟩
theorem open_bytes : Opens Tryd.prog 22 (fun l : List UInt8 => [.list false 1 (bytesA l)]) (fun l => l.length ≤ maxLen) :=
  (Opens.slice Tryd.underlying22 (sz := 1) (by kernel_rfl) (by omega) (Opens.u8 Tryd.underlying5) byteA (fun _ => rfl) (fun _ => rfl)).by id fun _ h => ⟨h.1, rfl⟩
end Go.Proofs.YtlhfhanmbdncdaaDoor
/-
  What the table of the reasons reads as.
-/
namespace Go.Proofs.YtlhfhanmbdncdaaDoor
open Go Go.AL Go.ChangeShapes Go.WideShapes Go.ChangeAt Go.RowKit Go.Lib

def laid1 : List (String × DataW Unit) := [("vitrine/nego.reasons", Rows.laid_vitrine_nego_reasons)]
def reasonV (x : List UInt8) : Value := .string ⟨x.toArray⟩
def reasonD (x : List UInt8) : DataW Unit := .lit (.string x)
theorem laid_reasons : (Rows.laid_vitrine_nego_reasons : DataW Unit) = .agg (reasonsL.map reasonD) := rfl
theorem laid_vr {W : World} (h : laidMetH Tryd.prog laid1 W) : ∀ g cs, GL.tab g = some cs → VR (allFrz W) (.fptr cs) (.pointer (some ⟨g, 0, none⟩)) := by
  rw [MakeChecks.laidMetH_plain _ _ _ (by kernel_rfl)] at h
  obtain ⟨ps, ⟨g, t, cs, fuel, p, q, hg, ht, hv, hd, _, _⟩, _, _⟩ := h
  obtain rfl := Option.some.inj ((show Tryd.prog.globalNamed "vitrine/nego.reasons" = some 0 by kernel_rfl).symm.trans hg)
  obtain rfl := Option.some.inj ((show (Tryd.prog.globals[0]?).map (·.type) = some 46 by kernel_rfl).symm.trans ht)
  obtain ⟨xs, m, _, ex, hc, hl, hel⟩ := DataW.trod_array Tryd.underlying46 hd
  have c9 : Tryd.prog.cellsOf 9 = 1 := by kernel_rfl
  have c46 : Tryd.prog.cellsOf 46 = 8 := by kernel_rfl
  rw [c46] at hc
  have e3 : xs.map (·.1) = reasonsL.map reasonD := (DataW.agg.inj ((Prod.mk.inj ex).1.symm.trans laid_reasons)).symm ▸ rfl
  have hcs : cs.toList = reasonsL.map reasonV := by
    refine List.ext_getElem? fun r => ?_
    by_cases hr : r < 8
    · have he := hel r hr
      rw [c9] at he
      have e4 : (xs.map (·.1))[r]? = (reasonsL.map reasonD)[r]? := by rw [e3]
      rw [List.getElem?_map, List.getElem?_map] at e4
      have hx : r < reasonsL.length := hr
      rw [List.getElem?_map, List.getElem?_eq_getElem hx] at *
      cases hxr : xs[r]? with
      | none => rw [hxr] at e4; cases e4
      | some y =>
        rw [hxr] at e4 he
        obtain ⟨d, p⟩ := y
        simp only [Option.map_some, Option.some.injEq] at e4
        subst e4
        obtain ⟨s, g0, d0, _⟩ := DataW.trod_string Tryd.underlying9 (he.trans rfl)
        have hs : reasonsL[r] = s.data.toList := by
          have := d0
          simp only [reasonD, DataW.lit.injEq, Lit.string.injEq] at this
          simp at this; exact this.1
        rw [Nat.mul_one] at g0
        have hlr : r < cs.toList.length := by omega
        have g1 : cs.toList[r]? = some (Value.string s) := by
          have := congrArg (·[0]?) g0
          simpa [List.getElem?_take, List.getElem?_drop] using this
        rw [g1, Option.map_some, reasonV, hs]
    · rw [List.getElem?_eq_none (by omega), List.getElem?_eq_none (by rw [List.length_map]; exact Nat.le_of_not_lt hr)]
  intro g cs2 hg2
  have : g = 0 ∧ cs2 = reasonsO := by
    have hg3 : (if g = 0 then some reasonsO else none) = some cs2 := hg2
    split at hg3
    · exact ⟨‹_›, (Option.some.inj hg3).symm⟩
    · cases hg3
  obtain ⟨rfl, rfl⟩ := this
  have hlit : reasonsO = (reasonsL.map reasonV).map .lit := rfl
  refine .fptr _ _ _ (reasonsL.map reasonV) rfl (fun i u hu => ⟨?_, ?_⟩) fun i c u hc hu => ?_
  · rw [Nat.zero_add]
    refine cell_back ?_
    rw [World.var?_cell hg hv i, ← Array.getElem?_toList, hcs]; exact hu
  · have : (reasonsL.map reasonV).all Value.oneCell' = true := by decide
    exact List.all_eq_true.1 this u (List.mem_of_getElem? hu)
  · rw [hlit, List.getElem?_map, hu] at hc
    obtain rfl := Option.some.inj hc
    exact .lit _
end Go.Proofs.YtlhfhanmbdncdaaDoor
/-
  NegoNames: for every input the law returns true, and the arguments read as they did.
-/
namespace Go.Proofs.YtlhfhanmbdncdaaDoor
open Go Go.AL Go.ChangeShapes Go.WideShapes Go.ChangeAt Go.RowKit Go.Lib

theorem own_negoNames : ownKnob Tryd.prog.godebug = none := by kernel_rfl
theorem laid_negoNames : laidOutB Tryd.prog = true := by kernel_rfl
theorem rec22_negoNames : Tryd.prog.readableRec 22 = true := by kernel_rfl
theorem row22_negoNames : (22 : TypeId) < Tryd.prog.types.size := of_decide_eq_true (by kernel_rfl)
theorem rec5_negoNames : Tryd.prog.readableRec 5 = true := by kernel_rfl
theorem row5_negoNames : (5 : TypeId) < Tryd.prog.types.size := of_decide_eq_true (by kernel_rfl)
theorem rec9_negoNames : Tryd.prog.readableRec 9 = true := by kernel_rfl
theorem row9_negoNames : (9 : TypeId) < Tryd.prog.types.size := of_decide_eq_true (by kernel_rfl)

set_option maxRecDepth 100000 in
theorem negoNames_lifted (os : Os) (started : os.Started) (H : Type) (enc : TypeId × Value → H) :
    ReturnsInHanded {} Tryd.checked os 3 .any (fun w args => (Rows.negoNamesSpec.pre enc Tryd.prog Tryd.f3 [] false w args ∧ laidMetH Tryd.prog laid1 w) ∧ sizedMet enc Tryd.prog Tryd.f3 (OpenSpec.ofChange Rows.negoNamesSpec) false w args) (Rows.negoNamesSpec.post enc Tryd.prog Tryd.f3 false true false false) := by
  refine returnsInHanded_of_change_and (C := Tryd.checked) (X := fun w _ => laidMetH Tryd.prog laid1 w) (fun _ _ _ hh h => h.of_heap hh) own_negoNames started (by kernel_rfl) Tryd.func3
    (ChangeSpec.witness_shaped (enc := enc) (C := Tryd.checked) (os := os) (X := fun w _ => laidMetH Tryd.prog laid1 w) false (World.laidAll Tryd.prog os laid1) #[.string ⟨#[]⟩, .int .u8 0, .slice none 0 0] 8 (World.laidAll_os _ _ _)
      (World.shaped_of_ZipB (by kernel_rfl) (by kernel_rfl)) (by kernel_rfl) (by kernel_rfl) (by kernel_rfl)
      (by rw [MakeChecks.laidMetH_plain _ _ _ (by kernel_rfl)]; exact laidMet_laidAll _ (by kernel_rfl) (by kernel_rfl))) ?_
  intro W base args ds gs before hval0 hW _ _ hL _
  have hval : ∀ (j : Nat) t v, Tryd.f3.params[j]? = some t → args[j]? = some v → Value.okWide Tryd.prog W .any base t v := hval0
  have hW' := hW
  obtain ⟨p, q, hA0, hV, rfl, hfz, hnd⟩ := hW
  have hA : DataW.TrodAll enc Tryd.prog W 0 (fun _ => true) true Tryd.f3.params.toList args.toList ds p := hA0
  rw [Tryd.params3] at hA hval
  obtain ⟨v0, v1, v2, d0, d1, d2, p0, p1, p2, rfl, rfl, rfl, h0, h1, h2⟩ := trodAll_three hA
  obtain ⟨rfl, rfl⟩ := trodVars_none hV
  obtain ⟨_, hv0⟩ := okWide_string Tryd.underlying9 (hval 0 9 v0 rfl rfl)
  obtain ⟨a0, m0, w0⟩ := (open_str).arg _ (fun _ => rfl) (by rw [hv0]; rfl) h0
  obtain ⟨_, hv1⟩ := okWide_int Tryd.underlying5 (hval 1 5 v1 rfl rfl)
  obtain ⟨a1, m1, w1⟩ := (Opens.u8 Tryd.underlying5).arg _ (fun _ => rfl) (by rw [hv1]; rfl) h1
  obtain ⟨_, _, _, hv2⟩ := okWide_slice Tryd.underlying22 (hval 2 22 v2 rfl rfl)
  obtain ⟨a2, m2, w2⟩ := (open_bytes).arg _ (fun _ => rfl) (by rw [hv2]; rfl) h2
  clear hA0 hval0
  simp only [List.append_nil] at hW'
  have hlt : ∀ x ∈ p0 ++ p1 ++ p2, x.block < W.heap.size := fun x hx => hW'.lt x hx
  refine (law_calls (negoNames_said a0 a1 a2 _) W #[v0, v1, v2] rfl (fun i c u hc hu => ?_) (laid_vr hL)).mono fun e W' ⟨he, hb⟩ => ?_
  · match i with
    | 0 => simp at hc hu; subst hc hu; exact ⟨w0, rfl⟩
    | 1 => simp at hc hu; subst hc hu; exact ⟨w1, rfl⟩
    | 2 => simp at hc hu; subst hc hu; exact ⟨w2, rfl⟩
    | n + 3 => simp at hc
  subst he
  refine ⟨_, rfl, [d0, d1, d2], [], p0 ++ p1 ++ p2, [], p0 ++ (p1 ++ p2), [], hW', ?_, ?_, rfl, hb.frame _, fun h => (by cases h)⟩
  · exact trodAll_mk1 (shut_bool Tryd.underlying4 true)
  · refine trodAll_mk3 (Below.trod laid_negoNames rec9_negoNames row9_negoNames h0 hb fun x hx => hlt x (by simp [hx])) (Below.trod laid_negoNames rec5_negoNames row5_negoNames h1 hb fun x hx => hlt x (by simp [hx])) (Below.trod laid_negoNames rec22_negoNames row22_negoNames h2 hb fun x hx => hlt x (by simp [hx]))

theorem negoNames_holds : Rows.NegoNamesSaid :=
  OpenClaim.holds_of_wide 3 Tryd.f3 rfl rfl rfl rfl rfl rfl rfl ⟨rfl, rfl, rfl, rfl, rfl⟩ rfl rfl rfl rfl rfl (by kernel_rfl) Tryd.func3 (by kernel_rfl)
    (of_decide_eq_true (by kernel_rfl)) (by unfold Func.isWrapper; first | (rw [if_pos (by decide +kernel)]; kernel_rfl) | (rw [if_neg (by decide +kernel)]; exact ⟨rfl, rfl⟩))
    (fun os started H enc _ => negoNames_lifted os started H enc)
end Go.Proofs.YtlhfhanmbdncdaaDoor
