/-
  WriteJoins, the card: the row's statement, for every input, with the listed table tied to the program's text.
-/
import Derived.Test.YtnlggjbcdienfaaGreatDoorPart25
import Derived.Test.YtnlggjbcdienfaaGreatDoorCards
import Derived.Test.YtnlggjbcdienfaaGreatDoorTie
import Derived.SevenTiedAt
namespace Go.Proofs.YtnlggjbcdienfaaGreatDoor
open Go

theorem writeJoins_card : Rows.WriteJoinsCardSaid :=
  Claim7.holds_tied_plain_at .later [] [.data] true (true, "b07f81dc0a122ffe5a529342b4be6a8a56aba098f132a72a32568255a278f537") false
    writeJoins_holds (fun _ h => by cases h) (by kernel_rfl) (fun _ h => by cases h) writeJoins_row_tie rfl ⟨rfl, rfl⟩ (by kernel_rfl) rfl
    (fun f fn hf hfn => by
      obtain rfl : f = 3 := Option.some.inj ((show Tryz.prog.funcNamed "vitrine/vitrinelaw17.WriteJoins" = some 3 by kernel_rfl).symm.trans hf) |>.symm
      obtain rfl : fn = Tryz.f3 := (Option.some.inj (Tryz.func3.symm.trans hfn)).symm
      exact ⟨by kernel_rfl, fun j t ht => by
        rw [Tryz.params3] at ht
        have hm : t ∈ [5, 22, 23, 23, 3] := by simpa using Array.mem_of_getElem? ht
        have hall : ([5, 22, 23, 23, 3].all fun u => !Tryz.prog.wantsStandIn u) = true := by kernel_rfl
        exact (show Tryz.prog.wantsStandIn t = false by simpa using List.all_eq_true.1 hall t hm)⟩)
    (by kernel_rfl)
end Go.Proofs.YtnlggjbcdienfaaGreatDoor
