/-
  TelnetLong: of a subnegotiation as many bytes are kept as there may be, and it is said whether it had more; for every input.
-/
import Derived.Test.YtkfhpnfgnjmdbaaDoorPLong
import Derived.Test.YtkfhpnfgnjmdbaaDoorRows
import Derived.Test.YtkfhpnfgnjmdbaaDoorALOpen
import Derived.Lay
import Derived.LaidMore
namespace Go.Proofs.YtkfhpnfgnjmdbaaDoor
open Go Go.AL Go.ChangeShapes Go.WideShapes Go.ChangeAt Go.RowKit Go.Lib

theorem Tryd.own : ownKnob Tryd.prog.godebug = none := by kernel_rfl
theorem Tryd.laidOut : laidOutB Tryd.prog = true := by kernel_rfl
theorem rec22 : Tryd.prog.readableRec 22 = true := by kernel_rfl
theorem row22 : (22 : TypeId) < Tryd.prog.types.size := of_decide_eq_true (by kernel_rfl)
theorem rec5 : Tryd.prog.readableRec 5 = true := by kernel_rfl
theorem row5 : (5 : TypeId) < Tryd.prog.types.size := of_decide_eq_true (by kernel_rfl)

def laid2 : List (String × DataW Unit) := [("unicode/utf8.acceptRanges", Rows.laid_unicode_utf8_acceptRanges), ("unicode/utf8.first", Rows.laid_unicode_utf8_first)]

set_option maxRecDepth 100000 in
theorem long_lifted (os : Os) (started : os.Started) (H : Type) (enc : TypeId × Value → H) :
    ReturnsInHanded {} Tryd.checked os 3 .any (fun w args => (Rows.telnetLongSpec.pre enc Tryd.prog Tryd.f3 [] false w args ∧ laidMetH Tryd.prog laid2 w) ∧ sizedMet enc Tryd.prog Tryd.f3 (OpenSpec.ofChange Rows.telnetLongSpec) false w args) (Rows.telnetLongSpec.post enc Tryd.prog Tryd.f3 false true false false) := by
  refine returnsInHanded_of_change_and (C := Tryd.checked) (X := fun w _ => laidMetH Tryd.prog laid2 w) (fun _ _ _ hh h => h.of_heap hh) Tryd.own started (by kernel_rfl) Tryd.func3
    (ChangeSpec.witness_shaped (enc := enc) (C := Tryd.checked) (os := os) (X := fun w _ => laidMetH Tryd.prog laid2 w) false (World.laidAll Tryd.prog os laid2) #[.int .u16 0, .int .u8 0] 8 (World.laidAll_os _ _ _)
      (World.shaped_of_ZipB (by kernel_rfl) (by kernel_rfl)) (by kernel_rfl) (by kernel_rfl) (by kernel_rfl)
      (by rw [MakeChecks.laidMetH_plain _ _ _ (by kernel_rfl)]; exact laidMet_laidAll _ (by kernel_rfl) (by kernel_rfl))) ?_
  intro W base args ds gs before hval0 hW _ _ hL _
  have hval : ∀ (j : Nat) t v, Tryd.f3.params[j]? = some t → args[j]? = some v → Value.okWide Tryd.prog W .any base t v := hval0
  have hW' := hW
  obtain ⟨p, q, hA0, hV, rfl, hfz, hnd⟩ := hW
  have hA : DataW.TrodAll enc Tryd.prog W 0 (fun _ => true) true Tryd.f3.params.toList args.toList ds p := hA0
  rw [Tryd.params3] at hA hval
  obtain ⟨v0, v1, d0, d1, p0, p1, rfl, rfl, rfl, h0, h1⟩ := trodAll_two hA
  obtain ⟨rfl, rfl⟩ := trodVars_none hV
  obtain ⟨n0, hv0, _, _, w0⟩ := open_int Tryd.underlying22 (hval 0 22 v0 rfl rfl) h0
  obtain ⟨n1, hv1, _, _, w1⟩ := open_int Tryd.underlying5 (hval 1 5 v1 rfl rfl) h1
  have b0 := bounds_u16 w0
  have b1 := bounds_u8 w1
  have e0 : (n0.toNat : Int) = n0 := by omega
  have e1 : ((UInt8.ofNat n1.toNat).toNat : Int) = n1 := by rw [UInt8.toNat_ofNat']; omega
  clear hA0 hval0
  simp only [List.append_nil] at hW'
  have hlt : ∀ x ∈ p0 ++ p1, x.block < W.heap.size := fun x hx => hW'.lt x hx
  refine (law_calls (long_law n0.toNat (UInt8.ofNat n1.toNat) _ (by omega)) W #[v0, v1] rfl (fun i c u hc hu => ?_)).mono fun e W' ⟨he, hb⟩ => ?_
  · match i with
    | 0 => cases (show some _ = some c from hc); cases (show some _ = some u from hu); rw [hv0, ← e0]; exact ⟨.lit _, rfl⟩
    | 1 => cases (show some _ = some c from hc); cases (show some _ = some u from hu); have q : v1 = .int .u8 ((UInt8.ofNat n1.toNat).toNat : Int) := by rw [hv1, e1]
           exact ⟨(show VR (allFrz W) (byteA (UInt8.ofNat n1.toNat)) v1 from q ▸ .lit _), rfl⟩
    | n + 2 => simp at hc
  subst he
  refine ⟨_, rfl, [d0, d1], [], p0 ++ p1, [], p0 ++ p1, [], hW', ?_, ?_, rfl, hb.frame _, fun h => (by cases h)⟩
  · exact trodAll_mk1 (shut_bool Tryd.underlying4 true)
  · refine trodAll_mk2 (Below.trod Tryd.laidOut rec22 row22 h0 hb fun x hx => hlt x (by simp [hx])) (Below.trod Tryd.laidOut rec5 row5 h1 hb fun x hx => hlt x (by simp [hx]))

theorem telnetLong_holds : Rows.TelnetLongSaid :=
  OpenClaim.holds_of_wide 3 Tryd.f3 rfl rfl rfl rfl rfl rfl rfl ⟨rfl, rfl, rfl, rfl, rfl⟩ rfl rfl rfl rfl rfl (by kernel_rfl) Tryd.func3 (by kernel_rfl)
    (of_decide_eq_true (by kernel_rfl)) (by unfold Func.isWrapper; first | (rw [if_pos (by decide +kernel)]; kernel_rfl) | (rw [if_neg (by decide +kernel)]; exact ⟨rfl, rfl⟩))
    (fun os started H enc _ => long_lifted os started H enc)
end Go.Proofs.YtkfhpnfgnjmdbaaDoor
