/-
  HostSends, the card: the row's statement, for every input, with the listed table tied to the program's text.
-/
import Derived.Test.YtegpebaoghmgiaaGreatDoorSPart18
import Derived.Test.YtegpebaoghmgiaaGreatDoorCards
import Derived.Test.YtegpebaoghmgiaaGreatDoorTie
import Derived.SevenTiedAt
set_option linter.unusedSimpArgs false
set_option linter.unusedVariables false
namespace Go.Proofs.YtegpebaoghmgiaaGreatDoor
open Go

theorem hostSends_card : Rows.HostSendsCardSaid :=
  Claim7.holds_tied_plain_at .later [] [.data, .data, .pinned] true (true, "1ebd7b34e3d28931678999f4aa0a1ef872ae2af59d711ba7ac4b90c225cc7074") false
    hostSends_holds (fun _ h => by cases h) (by kernel_rfl) (fun _ h => by cases h) hostSends_row_tie rfl ⟨rfl, rfl⟩ (by kernel_rfl) rfl
    (fun f fn hf hfn => by
      obtain rfl : f = 3 := Option.some.inj ((show Tryz.prog.funcNamed "vitrine/vitrinelaw24.HostSends" = some 3 by kernel_rfl).symm.trans hf) |>.symm
      obtain rfl : fn = Tryz.f3 := (Option.some.inj (Tryz.func3.symm.trans hfn)).symm
      exact ⟨by kernel_rfl, fun j t ht => by
        rw [Tryz.params3] at ht
        have hm : t ∈ [4, 9, 22, 23, 26, 4] := by simpa using Array.mem_of_getElem? ht
        have hall : ([4, 9, 22, 23, 26, 4].all fun u => !Tryz.prog.wantsStandIn u) = true := by kernel_rfl
        exact (show Tryz.prog.wantsStandIn t = false by simpa using List.all_eq_true.1 hall t hm)⟩)
    (by kernel_rfl)
end Go.Proofs.YtegpebaoghmgiaaGreatDoor
