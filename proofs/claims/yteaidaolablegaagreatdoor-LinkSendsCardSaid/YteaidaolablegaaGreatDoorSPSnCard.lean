/-
  LinkSends, the card: the row's statement, for every input, with the listed table tied to the program's text.
-/
import Derived.Test.YteaidaolablegaaGreatDoorSPart21
import Derived.Test.YteaidaolablegaaGreatDoorCards
import Derived.Test.YteaidaolablegaaGreatDoorTie
import Derived.SevenTiedAt
set_option linter.unusedSimpArgs false
set_option linter.unusedVariables false
namespace Go.Proofs.YteaidaolablegaaGreatDoor
open Go

theorem linkSends_card : Rows.LinkSendsCardSaid :=
  Claim7.holds_tied_plain_at .later [] [.data, .data, .pinned] true (true, "d19189fca42cb97fb24156d05357f6f9b66f4dbcd46c4e4d71536857dc94c15b") false
    linkSends_holds (fun _ h => by cases h) (by kernel_rfl) (fun _ h => by cases h) linkSends_row_tie rfl ⟨rfl, rfl⟩ (by kernel_rfl) rfl
    (fun f fn hf hfn => by
      obtain rfl : f = 4 := Option.some.inj ((show Tryz.prog.funcNamed "vitrine/vitrinelaw11.LinkSends" = some 4 by kernel_rfl).symm.trans hf) |>.symm
      obtain rfl : fn = Tryz.f4 := (Option.some.inj (Tryz.func4.symm.trans hfn)).symm
      exact ⟨by kernel_rfl, fun j t ht => by
        rw [Tryz.params4] at ht
        have hm : t ∈ [4, 4, 25] := by simpa using Array.mem_of_getElem? ht
        have hall : ([4, 4, 25].all fun u => !Tryz.prog.wantsStandIn u) = true := by kernel_rfl
        exact (show Tryz.prog.wantsStandIn t = false by simpa using List.all_eq_true.1 hall t hm)⟩)
    (by kernel_rfl)
end Go.Proofs.YteaidaolablegaaGreatDoor
