/-
  WriteNames, the card: the row's statement, for every input, with the listed table tied to the program's text.
-/
import Derived.Test.YtnlggjbcdienfaaDoorNPart22
import Derived.Test.YtnlggjbcdienfaaDoorCards
import Derived.Test.YtnlggjbcdienfaaDoorTie
import Derived.SevenTiedAt
namespace Go.Proofs.YtnlggjbcdienfaaDoor
open Go

theorem writeNames_card : Rows.WriteNamesCardSaid :=
  Claim7.holds_tied_plain_at .later [] [.data] true (true, "3275627df403280fa5ba2a7a61ffab460e7a556daa80cae7dba3301726959cc3") false
    writeNames_holds (fun _ h => by cases h) (by kernel_rfl) (fun _ h => by cases h) writeNames_row_tie rfl ⟨rfl, rfl⟩ (by kernel_rfl) rfl
    (fun f fn hf hfn => by
      obtain rfl : f = 4 := Option.some.inj ((show Tryd.prog.funcNamed "vitrine/vitrinelaw17.WriteNames" = some 4 by kernel_rfl).symm.trans hf) |>.symm
      obtain rfl : fn = Tryd.f4 := (Option.some.inj (Tryd.func4.symm.trans hfn)).symm
      exact ⟨by kernel_rfl, fun j t ht => by
        rw [Tryd.params4] at ht
        have hm : t ∈ [5, 3, 28] := by simpa using Array.mem_of_getElem? ht
        have hall : ([5, 3, 28].all fun u => !Tryd.prog.wantsStandIn u) = true := by kernel_rfl
        exact (show Tryd.prog.wantsStandIn t = false by simpa using List.all_eq_true.1 hall t hm)⟩)
    (by kernel_rfl)
end Go.Proofs.YtnlggjbcdienfaaDoor
