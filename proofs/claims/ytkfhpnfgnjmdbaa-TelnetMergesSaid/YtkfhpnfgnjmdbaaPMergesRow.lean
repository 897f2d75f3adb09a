/-
  TelnetMerges: merged events say what they said, and no two of data follow one another; merged once more they are the same; for every input.
-/
import Derived.Test.YtkfhpnfgnjmdbaaPMerges
import Derived.Test.YtkfhpnfgnjmdbaaRows
import Derived.Test.YtkfhpnfgnjmdbaaALOpen
namespace Go.Proofs.Ytkfhpnfgnjmdbaa
open Go Go.AL Go.ChangeShapes Go.WideShapes Go.ChangeAt Go.RowKit

theorem Try.own : ownKnob Try.prog.godebug = none := by kernel_rfl
theorem Try.laidOut : laidOutB Try.prog = true := by kernel_rfl
theorem rec25 : Try.prog.readableRec 25 = true := by kernel_rfl
theorem row25 : (25 : TypeId) < Try.prog.types.size := of_decide_eq_true (by kernel_rfl)

theorem open_bytes : Opens Try.prog 22 (fun l : List UInt8 => [.list false 1 (bytesA l)]) (fun _ => True) :=
  (Opens.slice Try.underlying22 (sz := 1) (by kernel_rfl) (by omega) (Opens.u8 Try.underlying5) byteA (fun _ => rfl) (fun _ => rfl)).by id fun _ _ => ⟨trivial, rfl⟩
theorem open_event : Opens Try.prog 35 (fun e : Ev => (evA e).cells) (fun _ => True) :=
  (Opens.struct (total := 6) Try.underlying35 (by kernel_rfl)
    (.cons (k := 1) rfl (by kernel_rfl) (by omega) (Opens.i64 Try.underlying3) (.cons (k := 1) rfl (by kernel_rfl) (by omega) (Opens.u8 Try.underlying5) (.cons (k := 1) rfl (by kernel_rfl) (by omega) (Opens.u8 Try.underlying5)
      (.cons (k := 1) rfl (by kernel_rfl) (by omega) open_bytes (.cons (k := 1) rfl (by kernel_rfl) (by omega) (Opens.bool Try.underlying4) (.cons (k := 1) rfl (by kernel_rfl) (by omega) (Opens.bool Try.underlying4) .nil))))))).by
    (fun x => ⟨x.1, x.2.1, x.2.2.1, x.2.2.2.1, x.2.2.2.2.1, x.2.2.2.2.2.1⟩) fun _ _ => ⟨trivial, rfl⟩
theorem open_events : Opens Try.prog 25 (fun l : List Ev => [.list false 6 (evsA l)]) (fun l => l.length ≤ maxLen ∧ ∀ e ∈ l, True) :=
  Opens.slice Try.underlying25 (by kernel_rfl) (by omega) open_event evA (fun _ => rfl) (fun _ => rfl)

set_option maxRecDepth 100000 in
theorem merges_lifted (os : Os) (started : os.Started) (H : Type) (enc : TypeId × Value → H) :
    ReturnsInHanded {} Try.checked os 4 .any (Rows.telnetMergesSpec.pre6 enc Try.prog Try.f4 Rows.telnetMergesRow.domain false) (Rows.telnetMergesSpec.post enc Try.prog Try.f4 false true false false) := by
  refine returnsInHanded_of_change (C := Try.checked) Try.own started (by kernel_rfl) Try.func4
    (ChangeSpec.witness6 (enc := enc) (C := Try.checked) false ⟨#[], #[.slice none 0 0], []⟩ 8 (by kernel_rfl) (by kernel_rfl) (by kernel_rfl) (by kernel_rfl)) ?_
  intro W base args ds gs before hval0 hW hcnd _
  have hval : ∀ (j : Nat) t v, Try.f4.params[j]? = some t → args[j]? = some v → Value.okWide Try.prog W .any base t v := hval0
  have hW' := hW
  obtain ⟨p, q, hA0, hV, rfl, hfz, hnd⟩ := hW
  have hA : DataW.TrodAll enc Try.prog W 0 (fun _ => true) true Try.f4.params.toList args.toList ds p := hA0
  rw [Try.params4] at hA hval
  obtain ⟨v0, d0, rfl, rfl, h0⟩ := trodAll_one hA
  obtain ⟨rfl, rfl⟩ := trodVars_none hV
  obtain ⟨a1, len, cap, hv0⟩ := okWide_slice Try.underlying25 (hval 0 25 v0 rfl rfl)
  obtain ⟨l0, ⟨m0, _⟩, w0⟩ := open_events.arg _ (fun _ => rfl) (by rw [hv0]; rfl) h0
  clear hA0 hval0
  simp only [List.append_nil] at hW'
  have hlt : ∀ x ∈ p, x.block < W.heap.size := fun x hx => hW'.lt x hx
  refine (law_calls (merges_law l0 _ (by simpa using m0)) W #[v0] rfl (fun i c u hc hu => ?_)).mono fun e W' ⟨he, hb⟩ => ?_
  · match i with
    | 0 => simp at hc hu; subst hc hu; exact ⟨w0, rfl⟩
    | n + 1 => simp at hc
  subst he
  refine ⟨_, rfl, [d0], [], p, [], p, [], hW', ?_, ?_, rfl, hb.frame _, fun h => (by cases h)⟩
  · exact trodAll_mk1 (shut_bool Try.underlying4 true)
  · refine trodAll_mk1 (Below.trod Try.laidOut rec25 row25 h0 hb fun x hx => hlt x hx)

theorem telnetMerges_holds : Rows.TelnetMergesSaid :=
  OpenClaim.holds_of_wide 4 Try.f4 rfl rfl rfl rfl rfl rfl rfl ⟨rfl, rfl, rfl, rfl, rfl⟩ rfl rfl rfl rfl rfl (by kernel_rfl) Try.func4 (by kernel_rfl)
    (of_decide_eq_true (by kernel_rfl)) (by unfold Func.isWrapper; first | (rw [if_pos (by decide +kernel)]; kernel_rfl) | (rw [if_neg (by decide +kernel)]; exact ⟨rfl, rfl⟩))
    (fun os started H enc _ => merges_lifted os started H enc)
end Go.Proofs.Ytkfhpnfgnjmdbaa
