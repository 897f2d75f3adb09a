/-
  HostAnswers, the card: the row's statement, for every input, with the listed table tied to the program's text.
-/
import Derived.Test.YtbeohjinefaaoaaDoorAPart19
import Derived.Test.YtbeohjinefaaoaaDoorCards
import Derived.Test.YtbeohjinefaaoaaDoorTie
import Derived.SevenTiedAt
set_option linter.unusedSimpArgs false
set_option linter.unusedVariables false
namespace Go.Proofs.YtbeohjinefaaoaaDoor
open Go

theorem hostAnswers_card : Rows.HostAnswersCardSaid :=
  Claim7.holds_tied_plain_at .later [] [.data] true (true, "e041df31231cc6cd85095fcb1aa7bcf0b0b2888034374a73e8dbd7a44830f73c") false
    hostAnswers_holds (fun _ h => by cases h) (by kernel_rfl) (fun _ h => by cases h) hostAnswers_row_tie rfl ⟨rfl, rfl⟩ (by kernel_rfl) rfl
    (fun f fn hf hfn => by
      obtain rfl : f = 4 := Option.some.inj ((show Tryd.prog.funcNamed "vitrine/vitrinelaw24.HostAnswers" = some 4 by kernel_rfl).symm.trans hf) |>.symm
      obtain rfl : fn = Tryd.f4 := (Option.some.inj (Tryd.func4.symm.trans hfn)).symm
      exact ⟨by kernel_rfl, fun j t ht => by
        rw [Tryd.params4] at ht
        have hm : t ∈ [24, 47, 26, 3] := by simpa using Array.mem_of_getElem? ht
        have hall : ([24, 47, 26, 3].all fun u => !Tryd.prog.wantsStandIn u) = true := by kernel_rfl
        exact (show Tryd.prog.wantsStandIn t = false by simpa using List.all_eq_true.1 hall t hm)⟩)
    (by kernel_rfl)
end Go.Proofs.YtbeohjinefaaoaaDoor
