/-
  Of each function: which temporaries take a right to append with the value; the plans of the regions that draw their order. Written by a program of mine.
-/
import Derived.Test.YtkfhpnfgnjmdbaaALEval
namespace Go.Proofs.Ytkfhpnfgnjmdbaa
open Go Go.AL
/- vitrine/vitrinelaw06.TelnetEvents -/
@[simp] def st3 : List Nat := []
@[simp] def pl3 : List (Nat × Plan) := [(7, Plan.seq [0, 2, 1, 3, 4, 5, 6, 8, 9, 10, 11, 12, 13, 7, 14, 15, 16, 17, 18, 19, 20, 21, 22, 23, 24, 25, 26, 27, 28] (.done))]
/- vitrine/vitrinelaw06.TelnetMerges region 17: 1 forks -/
@[simp] def st4 : List Nat := [25, 42, 33, 1000034, 1000043, 1000044, 1000035, 1000036, 1000004]
@[simp] def pl4 : List (Nat × Plan) := [(17, Plan.seq [0, 1, 2, 3, 4, 5, 6, 7, 8, 10] (.alt (Plan.seq [9, 11, 12, 13, 14, 15] (.done)) (Plan.seq [11, 9, 12, 13, 14, 15] (.done))))]
/- vitrine/vitrinelaw06.TelnetReads -/
@[simp] def st5 : List Nat := []
@[simp] def pl5 : List (Nat × Plan) := []
/- vitrine/vitrinelaw06.TelnetCuts -/
@[simp] def st6 : List Nat := []
@[simp] def pl6 : List (Nat × Plan) := []
/- vitrine/vitrinelaw06.awake -/
@[simp] def st7 : List Nat := []
@[simp] def pl7 : List (Nat × Plan) := []
/- vitrine/vitrineref01.Cut -/
@[simp] def st8 : List Nat := []
@[simp] def pl8 : List (Nat × Plan) := []
/- vitrine/vitrineref06.Read -/
@[simp] def st9 : List Nat := [11]
@[simp] def pl9 : List (Nat × Plan) := []
/- vitrine/vitrineref06.Same -/
@[simp] def st10 : List Nat := []
@[simp] def pl10 : List (Nat × Plan) := []
/- vitrine/vitrinelaw06.events -/
@[simp] def st11 : List Nat := [10]
@[simp] def pl11 : List (Nat × Plan) := []
/- (*vitrine/telnet.Reader).Feed -/
@[simp] def st12 : List Nat := [29, 25, 29]
@[simp] def pl12 : List (Nat × Plan) := []
/- (*vitrine/telnet.Reader).Waiting -/
@[simp] def st13 : List Nat := []
@[simp] def pl13 : List (Nat × Plan) := []
/- vitrine/vitrineref01.Copy -/
@[simp] def st14 : List Nat := []
@[simp] def pl14 : List (Nat × Plan) := []
/- vitrine/vitrineref01.Copy -/
@[simp] def st14o : List Nat := [1000003, 1000005, 1000002]
@[simp] def pl14o : List (Nat × Plan) := []
/- vitrine/vitrinelaw06.back -/
@[simp] def st15 : List Nat := [12, 17]
@[simp] def pl15 : List (Nat × Plan) := []
/- vitrine/telnet.Merge region 12: 1 forks -/
@[simp] def st16 : List Nat := [59, 1000003, 1000032, 1000033, 1000002, 28, 31, 1000020, 1000021, 1000019, 34, 59]
@[simp] def pl16 : List (Nat × Plan) := [(12, Plan.seq [0, 1, 2, 3, 4, 5, 6, 7, 9] (.alt (Plan.seq [8, 10, 11, 12, 13, 14] (.done)) (Plan.seq [10, 8, 11, 12, 13, 14] (.done))))]
/- vitrine/vitrinelaw06.feed -/
@[simp] def st17 : List Nat := [28, 39]
@[simp] def pl17 : List (Nat × Plan) := []
/- vitrine/telnet.NewReader -/
@[simp] def st18 : List Nat := []
@[simp] def pl18 : List (Nat × Plan) := []
/- vitrine/vitrineref06.Take -/
@[simp] def st19 : List Nat := [33, 34, 67, 68, 85, 86, 98, 99, 18, 49, 69, 87, 40]
@[simp] def pl19 : List (Nat × Plan) := []
/- vitrine/vitrineref01.Same -/
@[simp] def st20 : List Nat := []
@[simp] def pl20 : List (Nat × Plan) := []
/- vitrine/telnet.Events -/
@[simp] def st21 : List Nat := []
@[simp] def pl21 : List (Nat × Plan) := []
/- (*vitrine/telnet.Reader).take -/
@[simp] def st22 : List Nat := [17]
@[simp] def pl22 : List (Nat × Plan) := []
/- (*vitrine/telnet.Reader).flush region 1: 2 forks -/
@[simp] def st23 : List Nat := [12]
@[simp] def pl23 : List (Nat × Plan) := [(1, Plan.seq [0, 1, 2, 3, 5, 6, 7] (.alt (Plan.seq [4, 8, 9, 10, 11, 12, 13, 14] (.done)) (Plan.seq [8, 9] (.alt (Plan.seq [4, 10, 11, 12, 13, 14] (.done)) (Plan.seq [10, 4, 11, 12, 13, 14] (.done))))))]
/- bytes.Clone -/
@[simp] def st24 : List Nat := []
@[simp] def pl24 : List (Nat × Plan) := []
/- vitrine/vitrineref01.Flip -/
@[simp] def st25 : List Nat := []
@[simp] def pl25 : List (Nat × Plan) := []
/- vitrine/vitrineref06.add region 3: 5 forks region 4: 2 forks -/
@[simp] def st26 : List Nat := [45]
@[simp] def pl26 : List (Nat × Plan) := [(3, Plan.seq [0, 1, 2, 3, 4, 5, 7] (.alt (.alt (Plan.seq [6, 8] (.alt (Plan.seq [9, 10, 11, 12] (.done)) (Plan.seq [11, 9, 10, 12] (.done)))) (Plan.seq [8] (.alt (Plan.seq [6] (.alt (Plan.seq [9, 10, 11, 12] (.done)) (Plan.seq [11, 9, 10, 12] (.done)))) (Plan.seq [11, 6, 9, 10, 12] (.done))))) (Plan.seq [11] (.alt (Plan.seq [6, 8, 9, 10, 12] (.done)) (Plan.seq [8, 6, 9, 10, 12] (.done)))))), (4, Plan.seq [1, 2, 3, 4, 6] (.alt (Plan.seq [0] (.alt (Plan.seq [5, 7, 8, 9] (.done)) (Plan.seq [7, 5, 8, 9] (.done)))) (Plan.seq [7, 0, 5, 8, 9] (.done))))]
/- vitrine/vitrineref06.Sub -/
@[simp] def st27 : List Nat := [31, 50, 73]
@[simp] def pl27 : List (Nat × Plan) := []
/- vitrine/telnet.Events$1 region 0: 1 forks -/
@[simp] def st28 : List Nat := []
@[simp] def pl28 : List (Nat × Plan) := [(0, Plan.seq [4] (.alt (Plan.seq [0, 1, 2, 3] (.done)) (Plan.seq [1, 0, 2, 3] (.done))))]
/- (*vitrine/telnet.Reader).command -/
@[simp] def st29 : List Nat := [15]
@[simp] def pl29 : List (Nat × Plan) := []
/- (*vitrine/telnet.Reader).tell region 2: 2 forks -/
@[simp] def st30 : List Nat := [10]
@[simp] def pl30 : List (Nat × Plan) := [(2, Plan.seq [0, 1, 2, 3] (.alt (Plan.seq [4, 5, 6, 7, 8, 9, 10] (.done)) (Plan.seq [5] (.alt (Plan.seq [4, 6, 7, 8, 9, 10] (.done)) (Plan.seq [6, 4, 7, 8, 9, 10] (.done))))))]
/- (*vitrine/telnet.Reader).keep -/
@[simp] def st31 : List Nat := [20]
@[simp] def pl31 : List (Nat × Plan) := []
/- (*vitrine/telnet.Reader).end -/
@[simp] def st32 : List Nat := []
@[simp] def pl32 : List (Nat × Plan) := [(0, Plan.seq [0, 1, 2, 3, 4, 5, 6, 7, 8, 9, 10, 11, 12, 13, 14, 15] (.done))]
end Go.Proofs.Ytkfhpnfgnjmdbaa
