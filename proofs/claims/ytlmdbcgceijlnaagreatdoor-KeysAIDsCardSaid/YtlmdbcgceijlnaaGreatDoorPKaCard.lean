/-
  KeysAIDs, the card: the row's statement, for every input, with the listed table tied to the program's text.
-/
import Derived.Test.YtlmdbcgceijlnaaGreatDoorPart23
import Derived.Test.YtlmdbcgceijlnaaGreatDoorCards
import Derived.Test.YtlmdbcgceijlnaaGreatDoorTie
import Derived.SevenTiedAt
set_option linter.unusedSimpArgs false
set_option linter.unusedVariables false
namespace Go.Proofs.YtlmdbcgceijlnaaGreatDoor
open Go

theorem keysAIDs_card : Rows.KeysAIDsCardSaid :=
  Claim7.holds_tied_plain_at .later [] [.data, .data, .data] true (true, "5a1ad0a2d04f834780bc346c34c429b76a38c5027598146cd46bac42d6781b5d") false
    keysAIDs_holds (fun _ h => by cases h) (by kernel_rfl) (fun _ h => by cases h) keysAIDs_row_tie rfl ⟨rfl, rfl⟩ (by kernel_rfl) rfl
    (fun f fn hf hfn => by
      obtain rfl : f = 7 := Option.some.inj ((show Tryz.prog.funcNamed "vitrine/vitrinelaw18.KeysAIDs" = some 7 by kernel_rfl).symm.trans hf) |>.symm
      obtain rfl : fn = Tryz.f7 := (Option.some.inj (Tryz.func7.symm.trans hfn)).symm
      exact ⟨by kernel_rfl, fun j t ht => by
        rw [Tryz.params7] at ht
        have hm : t ∈ [60, 5] := by simpa using Array.mem_of_getElem? ht
        have hall : ([60, 5].all fun u => !Tryz.prog.wantsStandIn u) = true := by kernel_rfl
        exact (show Tryz.prog.wantsStandIn t = false by simpa using List.all_eq_true.1 hall t hm)⟩)
    (by kernel_rfl)
end Go.Proofs.YtlmdbcgceijlnaaGreatDoor
