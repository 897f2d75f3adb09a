/-
  The reference: an event behind others.
-/
import Derived.Test.YtkfhpnfgnjmdbaaDoorPCuts
namespace Go.Proofs.YtkfhpnfgnjmdbaaDoor
open Go Go.AL

def addEv (l : List Ev) (e : Ev) : List Ev :=
  if e.kind = 0 then match l.getLast? with
    | some last => if last.kind = 0 then l.dropLast ++ [dataEv (last.data ++ e.data)] else l ++ [e]
    | none => l ++ [e]
  else l ++ [e]

end Go.Proofs.YtkfhpnfgnjmdbaaDoor
