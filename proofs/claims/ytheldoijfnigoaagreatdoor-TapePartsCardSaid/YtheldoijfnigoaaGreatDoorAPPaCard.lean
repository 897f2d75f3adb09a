/-
  TapeParts, the card: the row's statement, for every input, with the listed table tied to the program's text.
-/
import Derived.Test.YtheldoijfnigoaaGreatDoorAPart14
import Derived.Test.YtheldoijfnigoaaGreatDoorCards
import Derived.Test.YtheldoijfnigoaaGreatDoorTie
import Derived.SevenTiedAt
set_option linter.unusedSimpArgs false
set_option linter.unusedVariables false
namespace Go.Proofs.YtheldoijfnigoaaGreatDoor
open Go

theorem tapeParts_card : Rows.TapePartsCardSaid :=
  Claim7.holds_tied_plain_at .later [] [.data, .data, .data, .data, .sentinel, .sentinel, .data, .data, .pinned] true (true, "7d82c8cb842cdefabbbd58e4edb56855b47c950cd8398cbfedcdd271c0554e31") true
    tapeParts_holds (fun _ h => by cases h) tapeParts_k1 (fun _ h => by cases h) tapeParts_row_tie rfl ⟨rfl, rfl⟩ tapeParts_k2 rfl
    (fun f fn hf hfn => by
      obtain rfl : f = 3 := Option.some.inj (tapeParts_k6.symm.trans hf) |>.symm
      obtain rfl : fn = Tryz.f3 := (Option.some.inj (Tryz.func3.symm.trans hfn)).symm
      exact ⟨tapeParts_k3, fun j t ht => by
        rw [Tryz.params3] at ht
        have hm : t ∈ [22, 22, 3, 5] := by simpa using Array.mem_of_getElem? ht
        exact (show Tryz.prog.wantsStandIn t = false by simpa using List.all_eq_true.1 tapeParts_k4 t hm)⟩)
    tapeParts_k5
end Go.Proofs.YtheldoijfnigoaaGreatDoor
