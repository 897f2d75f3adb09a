/-
  SnapHidden, the card: the row's statement, for every input, with the listed table tied to the program's text.
-/
import Derived.Test.YtlmdbcgceijlnaaGreatDoorHPart24
import Derived.Test.YtlmdbcgceijlnaaGreatDoorCards
import Derived.Test.YtlmdbcgceijlnaaGreatDoorTie
import Derived.SevenTiedAt
set_option linter.unusedSimpArgs false
set_option linter.unusedVariables false
namespace Go.Proofs.YtlmdbcgceijlnaaGreatDoor
open Go

theorem snapHidden_card : Rows.SnapHiddenCardSaid :=
  Claim7.holds_tied_plain_at .later [] [.data, .data, .data, .data, .pinned] true (true, "5a1ad0a2d04f834780bc346c34c429b76a38c5027598146cd46bac42d6781b5d") false
    snapHidden_holds (fun _ h => by cases h) (by kernel_rfl) (fun _ h => by cases h) snapHidden_row_tie rfl ⟨rfl, rfl⟩ (by kernel_rfl) rfl
    (fun f fn hf hfn => by
      obtain rfl : f = 8 := Option.some.inj ((show Tryz.prog.funcNamed "vitrine/vitrinelaw26.SnapHidden" = some 8 by kernel_rfl).symm.trans hf) |>.symm
      obtain rfl : fn = Tryz.f8 := (Option.some.inj (Tryz.func8.symm.trans hfn)).symm
      exact ⟨by kernel_rfl, fun j t ht => by
        rw [Tryz.params8] at ht
        have hm : t ∈ [5, 5, 22, 3, 5] := by simpa using Array.mem_of_getElem? ht
        have hall : ([5, 5, 22, 3, 5].all fun u => !Tryz.prog.wantsStandIn u) = true := by kernel_rfl
        exact (show Tryz.prog.wantsStandIn t = false by simpa using List.all_eq_true.1 hall t hm)⟩)
    (by kernel_rfl)
end Go.Proofs.YtlmdbcgceijlnaaGreatDoor
