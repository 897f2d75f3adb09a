/-
  SnapStatus, the card: the row's statement, for every input, with the listed table tied to the program's text.
-/
import Derived.Test.YtkggdohfcmiakaaGreatDoorSPart22
import Derived.Test.YtkggdohfcmiakaaGreatDoorCards
import Derived.Test.YtkggdohfcmiakaaGreatDoorTie
import Derived.SevenTiedAt
set_option linter.unusedSimpArgs false
set_option linter.unusedVariables false
namespace Go.Proofs.YtkggdohfcmiakaaGreatDoor
open Go

theorem snapStatus_card : Rows.SnapStatusCardSaid :=
  Claim7.holds_tied_plain_at .later [] [.data, .data, .data, .data, .data, .pinned] true (true, "b07cad3c1d55e9ac18f08af82b53418d690b63c0a800874cccf7ea1cdfe9c28b") false
    snapStatus_holds (fun _ h => by cases h) (by kernel_rfl) (fun _ h => by cases h) snapStatus_row_tie rfl ⟨rfl, rfl⟩ (by kernel_rfl) rfl
    (fun f fn hf hfn => by
      obtain rfl : f = 3 := Option.some.inj ((show Tryz.prog.funcNamed "vitrine/vitrinelaw26.SnapStatus" = some 3 by kernel_rfl).symm.trans hf) |>.symm
      obtain rfl : fn = Tryz.f3 := (Option.some.inj (Tryz.func3.symm.trans hfn)).symm
      exact ⟨by kernel_rfl, fun j t ht => by
        rw [Tryz.params3] at ht
        have hm : t ∈ [23, 3] := by simpa using Array.mem_of_getElem? ht
        have hall : ([23, 3].all fun u => !Tryz.prog.wantsStandIn u) = true := by kernel_rfl
        exact (show Tryz.prog.wantsStandIn t = false by simpa using List.all_eq_true.1 hall t hm)⟩)
    (by kernel_rfl)
end Go.Proofs.YtkggdohfcmiakaaGreatDoor
