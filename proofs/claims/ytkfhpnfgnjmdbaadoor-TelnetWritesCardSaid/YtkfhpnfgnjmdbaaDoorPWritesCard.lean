/-
  TelnetWrites, the card: the row's statement, for every input, with the two listed tables of the library tied to the program's text.
-/
import Derived.Test.YtkfhpnfgnjmdbaaDoorPWritesRow
import Derived.Test.YtkfhpnfgnjmdbaaDoorCards
import Derived.Test.YtkfhpnfgnjmdbaaDoorTie
import Derived.SevenTiedAt
namespace Go.Proofs.YtkfhpnfgnjmdbaaDoor
open Go

theorem telnetWrites_card : Rows.TelnetWritesCardSaid :=
  Claim7.holds_tied_plain_at .later [] [.data, .pinned] true (true, "aff377d722ce4fe91f63d939b4765468665cf2dacceb1a93fe48518f3c3607e5") false
    telnetWrites_holds (fun _ h => by cases h) (by kernel_rfl) (fun _ h => by cases h) telnetWrites_row_tie rfl ⟨rfl, rfl⟩ (by kernel_rfl) rfl
    (fun f fn hf hfn => by
      obtain rfl : f = 4 := Option.some.inj ((show Tryd.prog.funcNamed "vitrine/vitrinelaw06.TelnetWrites" = some 4 by kernel_rfl).symm.trans hf) |>.symm
      obtain rfl : fn = Tryd.f4 := (Option.some.inj (Tryd.func4.symm.trans hfn)).symm
      exact ⟨by kernel_rfl, fun j t ht => by
        rw [Tryd.params4] at ht
        have hm : t ∈ [33] := by simpa using Array.mem_of_getElem? ht
        have hall : ([33].all fun u => !Tryd.prog.wantsStandIn u) = true := by kernel_rfl
        exact (show Tryd.prog.wantsStandIn t = false by simpa using List.all_eq_true.1 hall t hm)⟩)
    (by kernel_rfl)
end Go.Proofs.YtkfhpnfgnjmdbaaDoor
