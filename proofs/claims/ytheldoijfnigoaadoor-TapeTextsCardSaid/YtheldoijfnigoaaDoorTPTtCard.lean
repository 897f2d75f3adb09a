/-
  TapeTexts, the card: the row's statement, for every input, with the listed table tied to the program's text.
-/
import Derived.Test.YtheldoijfnigoaaDoorTPart16
import Derived.Test.YtheldoijfnigoaaDoorCards
import Derived.Test.YtheldoijfnigoaaDoorTie
import Derived.SevenTiedAt
set_option linter.unusedSimpArgs false
set_option linter.unusedVariables false
namespace Go.Proofs.YtheldoijfnigoaaDoor
open Go

theorem tapeTexts_card : Rows.TapeTextsCardSaid :=
  Claim7.holds_tied_plain_at .later [] [.data, .data, .data, .data, .sentinel, .sentinel, .pinned] true (true, "5fc223550678fb19f45d5a715113f56bdccc80a2edd6105d6f00a6684d50747f") true
    tapeTexts_holds (fun _ h => by cases h) (by kernel_rfl) (fun _ h => by cases h) tapeTexts_row_tie rfl ⟨rfl, rfl⟩ (by kernel_rfl) rfl
    (fun f fn hf hfn => by
      obtain rfl : f = 4 := Option.some.inj ((show Tryd.prog.funcNamed "vitrine/vitrinelaw28.TapeTexts" = some 4 by kernel_rfl).symm.trans hf) |>.symm
      obtain rfl : fn = Tryd.f4 := (Option.some.inj (Tryd.func4.symm.trans hfn)).symm
      exact ⟨by kernel_rfl, fun j t ht => by
        rw [Tryd.params4] at ht
        have hm : t ∈ [28] := by simpa using Array.mem_of_getElem? ht
        have hall : ([28].all fun u => !Tryd.prog.wantsStandIn u) = true := by kernel_rfl
        exact (show Tryd.prog.wantsStandIn t = false by simpa using List.all_eq_true.1 hall t hm)⟩)
    (by kernel_rfl)
end Go.Proofs.YtheldoijfnigoaaDoor
