/-
  NegoNames, the card: the row's statement, for every input, with the listed table tied to the program's text.
-/
import Derived.Test.YtlhfhanmbdncdaaDoorPart11
import Derived.Test.YtlhfhanmbdncdaaDoorCards
import Derived.Test.YtlhfhanmbdncdaaDoorTie
import Derived.SevenTiedAt
namespace Go.Proofs.YtlhfhanmbdncdaaDoor
open Go

theorem negoNames_card : Rows.NegoNamesCardSaid :=
  Claim7.holds_tied_plain_at .later [] [.data] true (true, "9f4e5c0452dcdafaefe7b70834bdc99d8566d7113aaede59a49f8ec184062d92") false
    negoNames_holds (fun _ h => by cases h) (by kernel_rfl) (fun _ h => by cases h) negoNames_row_tie rfl ⟨rfl, rfl⟩ (by kernel_rfl) rfl
    (fun f fn hf hfn => by
      obtain rfl : f = 3 := Option.some.inj ((show Tryd.prog.funcNamed "vitrine/vitrinelaw10.NegoNames" = some 3 by kernel_rfl).symm.trans hf) |>.symm
      obtain rfl : fn = Tryd.f3 := (Option.some.inj (Tryd.func3.symm.trans hfn)).symm
      exact ⟨by kernel_rfl, fun j t ht => by
        rw [Tryd.params3] at ht
        have hm : t ∈ [9, 5, 22] := by simpa using Array.mem_of_getElem? ht
        have hall : ([9, 5, 22].all fun u => !Tryd.prog.wantsStandIn u) = true := by kernel_rfl
        exact (show Tryd.prog.wantsStandIn t = false by simpa using List.all_eq_true.1 hall t hm)⟩)
    (by kernel_rfl)
end Go.Proofs.YtlhfhanmbdncdaaDoor
