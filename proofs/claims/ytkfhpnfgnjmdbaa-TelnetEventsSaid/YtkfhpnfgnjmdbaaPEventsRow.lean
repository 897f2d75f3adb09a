/-
  TelnetEvents: a whole stream's events are told one by one, up to where one stops; a nil reader tells none; for every input.
-/
import Derived.Test.YtkfhpnfgnjmdbaaPEvents
import Derived.Test.YtkfhpnfgnjmdbaaRows
import Derived.Test.YtkfhpnfgnjmdbaaALOpen
namespace Go.Proofs.Ytkfhpnfgnjmdbaa
open Go Go.AL Go.ChangeShapes Go.WideShapes Go.ChangeAt Go.RowKit

theorem Try.own : ownKnob Try.prog.godebug = none := by kernel_rfl
theorem Try.laidOut : laidOutB Try.prog = true := by kernel_rfl
theorem rec22 : Try.prog.readableRec 22 = true := by kernel_rfl
theorem row22 : (22 : TypeId) < Try.prog.types.size := of_decide_eq_true (by kernel_rfl)
theorem rec5 : Try.prog.readableRec 5 = true := by kernel_rfl
theorem row5 : (5 : TypeId) < Try.prog.types.size := of_decide_eq_true (by kernel_rfl)

theorem open_bytes : Opens Try.prog 22 (fun l : List UInt8 => [.list false 1 (bytesA l)]) (fun _ => True) :=
  (Opens.slice Try.underlying22 (sz := 1) (by kernel_rfl) (by omega) (Opens.u8 Try.underlying5) byteA (fun _ => rfl) (fun _ => rfl)).by id fun _ _ => ⟨trivial, rfl⟩
set_option maxRecDepth 100000 in
theorem events_lifted (os : Os) (started : os.Started) (H : Type) (enc : TypeId × Value → H) :
    ReturnsInHanded {} Try.checked os 3 .any (Rows.telnetEventsSpec.pre6 enc Try.prog Try.f3 Rows.telnetEventsRow.domain false) (Rows.telnetEventsSpec.post enc Try.prog Try.f3 false true false false) := by
  refine returnsInHanded_of_change (C := Try.checked) Try.own started (by kernel_rfl) Try.func3
    (ChangeSpec.witness6 (enc := enc) (C := Try.checked) false ⟨#[], #[.slice none 0 0, .int .u8 0], []⟩ 8 (by kernel_rfl) (by kernel_rfl) (by kernel_rfl) (by kernel_rfl)) ?_
  intro W base args ds gs before hval0 hW hcnd _
  have hval : ∀ (j : Nat) t v, Try.f3.params[j]? = some t → args[j]? = some v → Value.okWide Try.prog W .any base t v := hval0
  have hW' := hW
  obtain ⟨p, q, hA0, hV, rfl, hfz, hnd⟩ := hW
  have hA : DataW.TrodAll enc Try.prog W 0 (fun _ => true) true Try.f3.params.toList args.toList ds p := hA0
  rw [Try.params3] at hA hval
  obtain ⟨v0, v1, d0, d1, p0, p1, rfl, rfl, rfl, h0, h1⟩ := trodAll_two hA
  obtain ⟨rfl, rfl⟩ := trodVars_none hV
  obtain ⟨a1, len, cap, hv0⟩ := okWide_slice Try.underlying22 (hval 0 22 v0 rfl rfl)
  obtain ⟨l0, _, w0⟩ := open_bytes.arg _ (fun _ => rfl) (by rw [hv0]; rfl) h0
  obtain ⟨n1, hv1⟩ := okWide_int Try.underlying5 (hval 1 5 v1 rfl rfl)
  obtain ⟨s0, _, w1⟩ := (Opens.u8 (P := Try.prog) Try.underlying5).arg (fun b => byteA b) (fun _ => rfl) (by rw [hv1]; rfl) h1
  clear hA0 hval0
  simp only [List.append_nil] at hW'
  have hlt : ∀ x ∈ p0 ++ p1, x.block < W.heap.size := fun x hx => hW'.lt x hx
  refine (law_calls (events_law l0 s0 _) W #[v0, v1] rfl (fun i c u hc hu => ?_)).mono fun e W' ⟨he, hb⟩ => ?_
  · match i with
    | 0 => simp at hc hu; subst hc hu; exact ⟨w0, rfl⟩
    | 1 => simp at hc hu; subst hc hu; exact ⟨w1, rfl⟩
    | n + 2 => simp at hc
  subst he
  refine ⟨_, rfl, [d0, d1], [], p0 ++ p1, [], p0 ++ p1, [], hW', ?_, ?_, rfl, hb.frame _, fun h => (by cases h)⟩
  · exact trodAll_mk1 (shut_bool Try.underlying4 true)
  · refine trodAll_mk2 (Below.trod Try.laidOut rec22 row22 h0 hb fun x hx => hlt x (by simp [hx])) (Below.trod Try.laidOut rec5 row5 h1 hb fun x hx => hlt x (by simp [hx]))

theorem telnetEvents_holds : Rows.TelnetEventsSaid :=
  OpenClaim.holds_of_wide 3 Try.f3 rfl rfl rfl rfl rfl rfl rfl ⟨rfl, rfl, rfl, rfl, rfl⟩ rfl rfl rfl rfl rfl (by kernel_rfl) Try.func3 (by kernel_rfl)
    (of_decide_eq_true (by kernel_rfl)) (by unfold Func.isWrapper; first | (rw [if_pos (by decide +kernel)]; kernel_rfl) | (rw [if_neg (by decide +kernel)]; exact ⟨rfl, rfl⟩))
    (fun os started H enc _ => events_lifted os started H enc)
end Go.Proofs.Ytkfhpnfgnjmdbaa
