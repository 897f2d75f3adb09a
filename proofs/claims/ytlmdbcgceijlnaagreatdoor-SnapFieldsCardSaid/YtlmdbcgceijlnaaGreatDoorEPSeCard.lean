/-
  SnapFields, the card: the row's statement, for every input, with the listed table tied to the program's text.
-/
import Derived.Test.YtlmdbcgceijlnaaGreatDoorEPart23
import Derived.Test.YtlmdbcgceijlnaaGreatDoorCards
import Derived.Test.YtlmdbcgceijlnaaGreatDoorTie
import Derived.SevenTiedAt
set_option linter.unusedSimpArgs false
set_option linter.unusedVariables false
namespace Go.Proofs.YtlmdbcgceijlnaaGreatDoor
open Go

theorem snapFields_card : Rows.SnapFieldsCardSaid :=
  Claim7.holds_tied_plain_at .later [] [.data, .data, .data, .data, .pinned] true (true, "5a1ad0a2d04f834780bc346c34c429b76a38c5027598146cd46bac42d6781b5d") false
    snapFields_holds (fun _ h => by cases h) (by kernel_rfl) (fun _ h => by cases h) snapFields_row_tie rfl ⟨rfl, rfl⟩ (by kernel_rfl) rfl
    (fun f fn hf hfn => by
      obtain rfl : f = 6 := Option.some.inj ((show Tryz.prog.funcNamed "vitrine/vitrinelaw26.SnapFields" = some 6 by kernel_rfl).symm.trans hf) |>.symm
      obtain rfl : fn = Tryz.f6 := (Option.some.inj (Tryz.func6.symm.trans hfn)).symm
      exact ⟨by kernel_rfl, fun j t ht => by
        rw [Tryz.params6] at ht
        have hm : t ∈ [5, 5, 22] := by simpa using Array.mem_of_getElem? ht
        have hall : ([5, 5, 22].all fun u => !Tryz.prog.wantsStandIn u) = true := by kernel_rfl
        exact (show Tryz.prog.wantsStandIn t = false by simpa using List.all_eq_true.1 hall t hm)⟩)
    (by kernel_rfl)
end Go.Proofs.YtlmdbcgceijlnaaGreatDoor
