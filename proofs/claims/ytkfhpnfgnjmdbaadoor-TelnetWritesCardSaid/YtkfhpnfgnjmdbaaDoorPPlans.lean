/-
  Of each function: which temporaries take a right to append with the value; the plans of the regions that draw their order. Written by a program of mine.
-/
import Derived.Test.YtkfhpnfgnjmdbaaDoorALEval
namespace Go.Proofs.YtkfhpnfgnjmdbaaDoor
open Go Go.AL
/- vitrine/vitrinelaw06.TelnetLong -/
@[simp] def st3 : List Nat := []
@[simp] def pl3 : List (Nat × Plan) := [(11, Plan.seq [0, 1, 2, 3, 4, 5, 6, 7, 8, 9, 10, 11, 12, 13, 14, 15, 16, 17, 18, 19, 20, 21, 22, 23, 24, 25, 26, 27, 28, 29, 30, 31, 32, 33, 34, 35, 36, 37, 38, 39, 40, 41, 42, 43, 44, 45, 46, 47, 48] (.done))]
/- vitrine/vitrinelaw06.TelnetWrites region 23: 1 forks -/
@[simp] def st4 : List Nat := [49, 61, 75, 37, 94]
@[simp] def pl4 : List (Nat × Plan) := [(23, Plan.seq [0, 1, 2, 3] (.alt (Plan.seq [4, 5, 6, 7, 8, 9, 10, 11] (.done)) (Plan.seq [8, 4, 5, 6, 7, 9, 10, 11] (.done))))]
/- vitrine/vitrinelaw06.awake -/
@[simp] def st5 : List Nat := []
@[simp] def pl5 : List (Nat × Plan) := []
/- vitrine/vitrinelaw06.feed -/
@[simp] def st6 : List Nat := [28, 39]
@[simp] def pl6 : List (Nat × Plan) := []
/- vitrine/telnet.SubBytes -/
@[simp] def st7 : List Nat := []
@[simp] def pl7 : List (Nat × Plan) := []
/- vitrine/vitrineref01.Same -/
@[simp] def st8 : List Nat := []
@[simp] def pl8 : List (Nat × Plan) := []
/- vitrine/vitrineref01.Cut -/
@[simp] def st9 : List Nat := []
@[simp] def pl9 : List (Nat × Plan) := []
/- vitrine/telnet.Escape -/
@[simp] def st10 : List Nat := []
@[simp] def pl10 : List (Nat × Plan) := []
/- vitrine/telnet.Say -/
@[simp] def st11 : List Nat := []
@[simp] def pl11 : List (Nat × Plan) := []
/- vitrine/vitrineref06.Bytes -/
@[simp] def st12 : List Nat := []
@[simp] def pl12 : List (Nat × Plan) := []
/- vitrine/vitrineref06.Same -/
@[simp] def st13 : List Nat := []
@[simp] def pl13 : List (Nat × Plan) := []
/- vitrine/vitrinelaw06.back -/
@[simp] def st14 : List Nat := [12, 17]
@[simp] def pl14 : List (Nat × Plan) := []
/- vitrine/telnet.Merge region 12: 1 forks -/
@[simp] def st15 : List Nat := [59, 1000003, 1000032, 1000033, 1000002, 28, 31, 1000020, 1000021, 1000019, 34, 59]
@[simp] def pl15 : List (Nat × Plan) := [(12, Plan.seq [0, 1, 2, 3, 4, 5, 6, 7, 9] (.alt (Plan.seq [8, 10, 11, 12, 13, 14] (.done)) (Plan.seq [10, 8, 11, 12, 13, 14] (.done))))]
/- vitrine/telnet.NewReader -/
@[simp] def st16 : List Nat := []
@[simp] def pl16 : List (Nat × Plan) := []
/- (*vitrine/telnet.Reader).Feed -/
@[simp] def st17 : List Nat := [29, 25, 29]
@[simp] def pl17 : List (Nat × Plan) := []
/- vitrine/vitrineref01.Copy -/
@[simp] def st18 : List Nat := []
@[simp] def pl18 : List (Nat × Plan) := []
/- vitrine/vitrineref01.Copy -/
@[simp] def st18o : List Nat := [1000003, 1000005, 1000002]
@[simp] def pl18o : List (Nat × Plan) := []
/- vitrine/vitrineref01.Flip -/
@[simp] def st19 : List Nat := []
@[simp] def pl19 : List (Nat × Plan) := []
/- (*vitrine/telnet.Reader).Waiting -/
@[simp] def st20 : List Nat := []
@[simp] def pl20 : List (Nat × Plan) := []
/- bytes.ReplaceAll -/
@[simp] def st21 : List Nat := []
@[simp] def pl21 : List (Nat × Plan) := []
/- vitrine/vitrineref06.Escape -/
@[simp] def st22 : List Nat := [12, 18, 23]
@[simp] def pl22 : List (Nat × Plan) := []
/- vitrine/vitrineref06.SubBytes -/
@[simp] def st23 : List Nat := []
@[simp] def pl23 : List (Nat × Plan) := []
/- bytes.Clone -/
@[simp] def st24 : List Nat := []
@[simp] def pl24 : List (Nat × Plan) := []
/- (*vitrine/telnet.Reader).take -/
@[simp] def st25 : List Nat := [17]
@[simp] def pl25 : List (Nat × Plan) := []
/- (*vitrine/telnet.Reader).flush region 1: 2 forks -/
@[simp] def st26 : List Nat := [12]
@[simp] def pl26 : List (Nat × Plan) := [(1, Plan.seq [0, 1, 2, 3, 5, 6, 7] (.alt (Plan.seq [4, 8, 9, 10, 11, 12, 13, 14] (.done)) (Plan.seq [8, 9] (.alt (Plan.seq [4, 10, 11, 12, 13, 14] (.done)) (Plan.seq [10, 4, 11, 12, 13, 14] (.done))))))]
/- bytes.Replace -/
@[simp] def st27 : List Nat := []
@[simp] def pl27 : List (Nat × Plan) := [(15, Plan.seq [0, 1, 2, 3, 4, 5, 6, 7, 8, 9, 10] (.done)), (24, Plan.seq [0, 1, 2, 3, 4, 5, 6, 7, 8, 9, 10] (.done)), (28, Plan.seq [0, 1, 2, 3, 4, 5, 6, 7, 8, 9] (.done))]
/- (*vitrine/telnet.Reader).command -/
@[simp] def st28 : List Nat := [15]
@[simp] def pl28 : List (Nat × Plan) := []
/- (*vitrine/telnet.Reader).tell region 2: 2 forks -/
@[simp] def st29 : List Nat := [10]
@[simp] def pl29 : List (Nat × Plan) := [(2, Plan.seq [0, 1, 2, 3] (.alt (Plan.seq [4, 5, 6, 7, 8, 9, 10] (.done)) (Plan.seq [5] (.alt (Plan.seq [4, 6, 7, 8, 9, 10] (.done)) (Plan.seq [6, 4, 7, 8, 9, 10] (.done))))))]
/- (*vitrine/telnet.Reader).keep -/
@[simp] def st30 : List Nat := [20]
@[simp] def pl30 : List (Nat × Plan) := []
/- (*vitrine/telnet.Reader).end -/
@[simp] def st31 : List Nat := []
@[simp] def pl31 : List (Nat × Plan) := [(0, Plan.seq [0, 1, 2, 3, 4, 5, 6, 7, 8, 9, 10, 11, 12, 13, 14, 15] (.done))]
/- bytes.Count -/
@[simp] def st32 : List Nat := [26]
@[simp] def pl32 : List (Nat × Plan) := []
/- bytes.Index -/
@[simp] def st33 : List Nat := [106, 175]
@[simp] def pl33 : List (Nat × Plan) := []
/- unicode/utf8.DecodeRune -/
@[simp] def st34 : List Nat := []
@[simp] def pl34 : List (Nat × Plan) := []
/- unicode/utf8.RuneCount -/
@[simp] def st35 : List Nat := [26]
@[simp] def pl35 : List (Nat × Plan) := []
/- bytes.IndexByte -/
@[simp] def st37 : List Nat := []
@[simp] def pl37 : List (Nat × Plan) := []
/- bytes.Equal -/
@[simp] def st38 : List Nat := []
@[simp] def pl38 : List (Nat × Plan) := []
/- unicode/utf8.decodeRuneSlow -/
@[simp] def st42 : List Nat := []
@[simp] def pl42 : List (Nat × Plan) := []
/- unicode/utf8.RuneCountInString -/
@[simp] def st43 : List Nat := [9]
@[simp] def pl43 : List (Nat × Plan) := []
/- gosem.cut.vars -/
@[simp] def st66 : List Nat := []
@[simp] def pl66 : List (Nat × Plan) := []
end Go.Proofs.YtkfhpnfgnjmdbaaDoor
