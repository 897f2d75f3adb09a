/-
 EntryReplays, the card: the row's statement, for every input, with the listed table tied to the program's text.
-/
import Derived.Test.YtjnopnpkfhopbaaGreatDoorPart31
import Derived.Test.YtjnopnpkfhopbaaGreatDoorCards
import Derived.Test.YtjnopnpkfhopbaaGreatDoorTie
import Derived.SevenTiedAt
set_option linter.unusedSimpArgs false
set_option linter.unusedVariables false
set_option maxRecDepth 8000
set_option maxHeartbeats 8000000
namespace Go.Proofs.YtjnopnpkfhopbaaGreatDoor
open Go
theorem entryReplays_card:Rows.EntryReplaysCardSaid:=
 Claim7.holds_tied_plain_at .later [] [.data] true (true, "d1a64a823e047c0acf8a9e375dfc3a08f5d6bd67739d23c683b2b94f70f388fd") false
  entryReplays_holds (fun _ h=>by cases h) (by kernel_rfl) (fun _ h=>by cases h) entryReplays_row_tie rfl ⟨rfl,rfl⟩ (by kernel_rfl) rfl
  (fun f fn hf hfn=>by
   obtain rfl:f=3:=Option.some.inj ((show Tryz.prog.funcNamed "vitrine/vitrinelaw20.EntryReplays" =some 3 by kernel_rfl).symm.trans hf)|>.symm
   obtain rfl:fn=Tryz.f3:=(Option.some.inj (Tryz.func3.symm.trans hfn)).symm
   exact ⟨by kernel_rfl,fun j t ht=>by
    rw[Tryz.params3] at ht
    have hm:t∈[5,22,22,5,5]:=by simpa using Array.mem_of_getElem? ht
    have hall:([5,22,22,5,5].all fun u=> !Tryz.prog.wantsStandIn u)=true:=by kernel_rfl
    exact (show Tryz.prog.wantsStandIn t=false by simpa using List.all_eq_true.1 hall t hm)⟩)
  (by kernel_rfl)
end Go.Proofs.YtjnopnpkfhopbaaGreatDoor
