/-
  WriteErases, the card: the row's statement, for every input, with the listed table tied to the program's text.
-/
import Derived.Test.YtnlggjbcdienfaaDoorPart23
import Derived.Test.YtnlggjbcdienfaaDoorCards
import Derived.Test.YtnlggjbcdienfaaDoorTie
import Derived.SevenTiedAt
namespace Go.Proofs.YtnlggjbcdienfaaDoor
open Go

theorem writeErases_card : Rows.WriteErasesCardSaid :=
  Claim7.holds_tied_plain_at .later [] [.data] true (true, "3275627df403280fa5ba2a7a61ffab460e7a556daa80cae7dba3301726959cc3") false
    writeErases_holds (fun _ h => by cases h) (by kernel_rfl) (fun _ h => by cases h) writeErases_row_tie rfl ⟨rfl, rfl⟩ (by kernel_rfl) rfl
    (fun f fn hf hfn => by
      obtain rfl : f = 3 := Option.some.inj ((show Tryd.prog.funcNamed "vitrine/vitrinelaw17.WriteErases" = some 3 by kernel_rfl).symm.trans hf) |>.symm
      obtain rfl : fn = Tryd.f3 := (Option.some.inj (Tryd.func3.symm.trans hfn)).symm
      exact ⟨by kernel_rfl, fun j t ht => by
        rw [Tryd.params3] at ht
        have hm : t ∈ [5, 22] := by simpa using Array.mem_of_getElem? ht
        have hall : ([5, 22].all fun u => !Tryd.prog.wantsStandIn u) = true := by kernel_rfl
        exact (show Tryd.prog.wantsStandIn t = false by simpa using List.all_eq_true.1 hall t hm)⟩)
    (by kernel_rfl)
end Go.Proofs.YtnlggjbcdienfaaDoor
