/-
  Of each function: which temporaries take a right to append with the value; the plans of the regions that draw their order. Written by a program of mine.
-/
import Derived.Test.YteaidaolablegaaGreatDoorPart8
namespace Go.Proofs.YteaidaolablegaaGreatDoor
open Go Go.AL
/- vitrine/vitrinelaw11.LinkPlain -/
@[simp] def st3 : List Nat := []
@[simp] def pl3 : List (Nat × Plan) := []
/- vitrine/vitrinelaw11.LinkSends -/
@[simp] def st4 : List Nat := [90]
@[simp] def pl4 : List (Nat × Plan) := []
/- vitrine/vitrinelaw11.LinkResponds -/
@[simp] def st5 : List Nat := [64, 81]
@[simp] def pl5 : List (Nat × Plan) := []
/- vitrine/vitrinelaw11.LinkCuts -/
@[simp] def st6 : List Nat := []
@[simp] def pl6 : List (Nat × Plan) := [(14, Plan.seq [0, 1, 2, 3, 4, 5, 6, 7, 8, 9] (.done))]
/- vitrine/vitrinelaw11.LinkNil -/
@[simp] def st7 : List Nat := []
@[simp] def pl7 : List (Nat × Plan) := []
/- vitrine/vitrinelaw11.awake -/
@[simp] def st8 : List Nat := []
@[simp] def pl8 : List (Nat × Plan) := []
/- vitrine/vitrinelaw11.lay region 2: 13 forks -/
@[simp] def st9 : List Nat := [33, 34, 35, 36]
@[simp] def pl9 : List (Nat × Plan) := [(2, Plan.seq [0, 2, 4, 5, 7] (.alt (.alt (Plan.seq [1] (.alt (Plan.seq [3, 6, 8, 9, 10] (.alt (Plan.seq [11] (.alt (Plan.seq [12, 13, 14] (.done)) (Plan.seq [13, 12, 14] (.done)))) (Plan.seq [12, 11, 13, 14] (.done)))) (Plan.seq [6, 3, 8, 9, 10] (.alt (Plan.seq [11] (.alt (Plan.seq [12, 13, 14] (.done)) (Plan.seq [13, 12, 14] (.done)))) (Plan.seq [12, 11, 13, 14] (.done)))))) (Plan.seq [3] (.alt (Plan.seq [1, 6, 8, 9, 10] (.alt (Plan.seq [11] (.alt (Plan.seq [12, 13, 14] (.done)) (Plan.seq [13, 12, 14] (.done)))) (Plan.seq [12, 11, 13, 14] (.done)))) (Plan.seq [6, 1, 8, 9, 10] (.alt (Plan.seq [11] (.alt (Plan.seq [12, 13, 14] (.done)) (Plan.seq [13, 12, 14] (.done)))) (Plan.seq [12, 11, 13, 14] (.done))))))) (Plan.seq [6, 1, 3, 8, 9, 10] (.alt (Plan.seq [11] (.alt (Plan.seq [12, 13, 14] (.done)) (Plan.seq [13, 12, 14] (.done)))) (Plan.seq [12, 11, 13, 14] (.done))))))]
/- vitrine/vitrinelaw11.agreed -/
@[simp] def st10 : List Nat := []
@[simp] def pl10 : List (Nat × Plan) := []
/- vitrine/vitrineref01.Cut -/
@[simp] def st11 : List Nat := []
@[simp] def pl11 : List (Nat × Plan) := []
/- vitrine/vitrinelaw11.take region 4: 3 forks -/
@[simp] def st12 : List Nat := [11]
@[simp] def pl12 : List (Nat × Plan) := [(4, .alt (Plan.seq [0, 1, 2, 3, 4, 5] (.done)) (Plan.seq [1] (.alt (Plan.seq [0, 2, 3, 4, 5] (.done)) (Plan.seq [2] (.alt (Plan.seq [0, 3, 4, 5] (.done)) (Plan.seq [3, 0, 4, 5] (.done)))))))]
/- (*vitrine/link.Link).Out -/
@[simp] def st13 : List Nat := [13]
@[simp] def pl13 : List (Nat × Plan) := []
/- (*vitrine/link.Link).Send region 8: 1 forks region 11: 1 forks -/
@[simp] def st14 : List Nat := [46, 53]
@[simp] def pl14 : List (Nat × Plan) := [(8, Plan.seq [0, 1, 2, 3, 5, 6, 7, 8] (.alt (Plan.seq [4, 9, 10, 11, 12, 13] (.done)) (Plan.seq [9, 4, 10, 11, 12, 13] (.done)))), (11, Plan.seq [0, 1, 2, 3, 5] (.alt (Plan.seq [4, 6, 7, 8, 9, 10] (.done)) (Plan.seq [6, 4, 7, 8, 9, 10] (.done))))]
/- vitrine/vitrineref07.Records -/
@[simp] def st15 : List Nat := [24, 37, 43]
@[simp] def pl15 : List (Nat × Plan) := []
/- vitrine/vitrineref01.Same -/
@[simp] def st16 : List Nat := []
@[simp] def pl16 : List (Nat × Plan) := []
/- (*vitrine/link.Link).Mode -/
@[simp] def st17 : List Nat := []
@[simp] def pl17 : List (Nat × Plan) := []
/- vitrine/vitrineref09.Bytes -/
@[simp] def st18 : List Nat := []
@[simp] def pl18 : List (Nat × Plan) := []
/- vitrine/vitrinelaw11.escape -/
@[simp] def st19 : List Nat := [12, 18, 23]
@[simp] def pl19 : List (Nat × Plan) := []
/- (*vitrine/link.Link).Respond region 5: 1 forks -/
@[simp] def st20 : List Nat := [43, 49]
@[simp] def pl20 : List (Nat × Plan) := [(5, Plan.seq [0, 1, 2, 3, 5] (.alt (Plan.seq [4, 6, 7, 8, 9, 10] (.done)) (Plan.seq [6, 4, 7, 8, 9, 10] (.done))))]
/- vitrine/vitrinelaw11.own -/
@[simp] def st21 : List Nat := []
@[simp] def pl21 : List (Nat × Plan) := []
/- vitrine/vitrineref09.Answer region 6: 1 forks -/
@[simp] def st22 : List Nat := []
@[simp] def pl22 : List (Nat × Plan) := [(6, Plan.seq [0, 2] (.alt (Plan.seq [1, 3, 4, 5] (.done)) (Plan.seq [3, 1, 4, 5] (.done))))]
/- vitrine/vitrinelaw11.cut -/
@[simp] def st23 : List Nat := [25, 37]
@[simp] def pl23 : List (Nat × Plan) := []
/- vitrine/vitrineref11.Same -/
@[simp] def st24 : List Nat := []
@[simp] def pl24 : List (Nat × Plan) := []
/- (*vitrine/link.Link).Waiting -/
@[simp] def st25 : List Nat := []
@[simp] def pl25 : List (Nat × Plan) := []
/- (*vitrine/link.Link).End -/
@[simp] def st26 : List Nat := []
@[simp] def pl26 : List (Nat × Plan) := []
/- (*vitrine/nego.End).State -/
@[simp] def st27 : List Nat := []
@[simp] def pl27 : List (Nat × Plan) := []
/- (*vitrine/link.Link).Say region 1: 1 forks -/
@[simp] def st28 : List Nat := [10]
@[simp] def pl28 : List (Nat × Plan) := [(1, Plan.seq [0, 1, 2, 3, 5] (.alt (Plan.seq [4, 6, 7, 8, 9, 10] (.done)) (Plan.seq [6, 4, 7, 8, 9, 10] (.done))))]
/- (*vitrine/link.Link).Options -/
@[simp] def st29 : List Nat := []
@[simp] def pl29 : List (Nat × Plan) := []
/- vitrine/vitrineref10.Few region 1: 5 forks -/
@[simp] def st30 : List Nat := []
@[simp] def pl30 : List (Nat × Plan) := [(1, Plan.seq [0, 1, 3, 6] (.alt (.alt (Plan.seq [2, 4] (.alt (Plan.seq [5, 7, 8, 9, 10] (.done)) (Plan.seq [7, 5, 8, 9, 10] (.done)))) (Plan.seq [4] (.alt (Plan.seq [2] (.alt (Plan.seq [5, 7, 8, 9, 10] (.done)) (Plan.seq [7, 5, 8, 9, 10] (.done)))) (Plan.seq [7, 2, 5, 8, 9, 10] (.done))))) (Plan.seq [7] (.alt (Plan.seq [2, 4, 5, 8, 9, 10] (.done)) (Plan.seq [4, 2, 5, 8, 9, 10] (.done))))))]
/- vitrine/link.New -/
@[simp] def st31 : List Nat := [20, 24]
@[simp] def pl31 : List (Nat × Plan) := []
/- vitrine/vitrineref01.Copy -/
@[simp] def st32 : List Nat := []
@[simp] def pl32 : List (Nat × Plan) := []
/- vitrine/vitrineref01.Copy -/
@[simp] def st32o : List Nat := [1000003, 1000005, 1000002]
@[simp] def pl32o : List (Nat × Plan) := []
/- vitrine/vitrineref11.New -/
@[simp] def st33 : List Nat := [16, 19]
@[simp] def pl33 : List (Nat × Plan) := []
/- (*vitrine/link.Link).Take -/
@[simp] def st34 : List Nat := []
@[simp] def pl34 : List (Nat × Plan) := []
/- vitrine/vitrinelaw11.agreed$1 -/
@[simp] def st35 : List Nat := []
@[simp] def pl35 : List (Nat × Plan) := []
/- (*vitrine/option.Machine).On -/
@[simp] def st36 : List Nat := []
@[simp] def pl36 : List (Nat × Plan) := []
/- (*vitrine/nego.End).Ready -/
@[simp] def st37 : List Nat := []
@[simp] def pl37 : List (Nat × Plan) := []
/- vitrine/vitrinelaw11.back -/
@[simp] def st38 : List Nat := []
@[simp] def pl38 : List (Nat × Plan) := []
/- (*vitrine/nego.End).Has -/
@[simp] def st39 : List Nat := []
@[simp] def pl39 : List (Nat × Plan) := []
/- vitrine/header.Next -/
@[simp] def st40 : List Nat := []
@[simp] def pl40 : List (Nat × Plan) := []
/- (vitrine/header.Header).Bytes -/
@[simp] def st41 : List Nat := []
@[simp] def pl41 : List (Nat × Plan) := []
/- vitrine/record.Bytes -/
@[simp] def st42 : List Nat := []
@[simp] def pl42 : List (Nat × Plan) := []
/- vitrine/vitrineref06.Read -/
@[simp] def st43 : List Nat := [11]
@[simp] def pl43 : List (Nat × Plan) := []
/- vitrine/vitrineref07.Of -/
@[simp] def st44 : List Nat := []
@[simp] def pl44 : List (Nat × Plan) := []
/- vitrine/header.Answer region 4: 1 forks -/
@[simp] def st45 : List Nat := []
@[simp] def pl45 : List (Nat × Plan) := [(4, Plan.seq [0, 2] (.alt (Plan.seq [1, 3, 4, 5, 6] (.done)) (Plan.seq [3, 1, 4, 5, 6] (.done))))]
/- vitrine/vitrineref09.Response -/
@[simp] def st46 : List Nat := [19, 23]
@[simp] def pl46 : List (Nat × Plan) := []
/- vitrine/vitrineref09.Code -/
@[simp] def st47 : List Nat := []
@[simp] def pl47 : List (Nat × Plan) := []
/- vitrine/vitrinelaw11.answered region 4: 3 forks -/
@[simp] def st48 : List Nat := [16]
@[simp] def pl48 : List (Nat × Plan) := [(4, .alt (Plan.seq [0, 1, 2, 3, 4, 5] (.done)) (Plan.seq [1] (.alt (Plan.seq [0, 2, 3, 4, 5] (.done)) (Plan.seq [2] (.alt (Plan.seq [0, 3, 4, 5] (.done)) (Plan.seq [3, 0, 4, 5] (.done))))))), (8, Plan.seq [0, 1, 2, 3, 4, 5, 6, 7, 8, 9, 10, 11] (.done))]
/- vitrine/vitrineref11.Merge region 10: 5 forks region 11: 2 forks -/
@[simp] def st49 : List Nat := [23, 71, 76]
@[simp] def pl49 : List (Nat × Plan) := [(10, Plan.seq [0, 1, 2, 3, 4, 5, 7] (.alt (.alt (Plan.seq [6, 8] (.alt (Plan.seq [9, 10, 11, 12] (.done)) (Plan.seq [11, 9, 10, 12] (.done)))) (Plan.seq [8] (.alt (Plan.seq [6] (.alt (Plan.seq [9, 10, 11, 12] (.done)) (Plan.seq [11, 9, 10, 12] (.done)))) (Plan.seq [11, 6, 9, 10, 12] (.done))))) (Plan.seq [11] (.alt (Plan.seq [6, 8, 9, 10, 12] (.done)) (Plan.seq [8, 6, 9, 10, 12] (.done)))))), (11, Plan.seq [1, 2, 3, 4, 6] (.alt (Plan.seq [0] (.alt (Plan.seq [5, 7, 8, 9] (.done)) (Plan.seq [7, 5, 8, 9] (.done)))) (Plan.seq [7, 0, 5, 8, 9] (.done))))]
/- (*vitrine/telnet.Reader).Waiting -/
@[simp] def st50 : List Nat := []
@[simp] def pl50 : List (Nat × Plan) := []
/- (*vitrine/record.Maker).Size -/
@[simp] def st51 : List Nat := []
@[simp] def pl51 : List (Nat × Plan) := []
/- vitrine/telnet.Escape -/
@[simp] def st52 : List Nat := []
@[simp] def pl52 : List (Nat × Plan) := []
/- vitrine/vitrineref01.CutText -/
@[simp] def st53 : List Nat := [12]
@[simp] def pl53 : List (Nat × Plan) := []
/- vitrine/nego.New -/
@[simp] def st54 : List Nat := []
@[simp] def pl54 : List (Nat × Plan) := []
/- vitrine/telnet.NewReader -/
@[simp] def st55 : List Nat := []
@[simp] def pl55 : List (Nat × Plan) := []
/- vitrine/option.New -/
@[simp] def st56 : List Nat := [40]
@[simp] def pl56 : List (Nat × Plan) := []
/- vitrine/record.NewMaker -/
@[simp] def st57 : List Nat := []
@[simp] def pl57 : List (Nat × Plan) := []
/- vitrine/vitrineref10.New -/
@[simp] def st58 : List Nat := []
@[simp] def pl58 : List (Nat × Plan) := []
/- vitrine/vitrineref08.New -/
@[simp] def st59 : List Nat := [38]
@[simp] def pl59 : List (Nat × Plan) := []
/- (*vitrine/link.Link).Take$1 -/
@[simp] def st60 : List Nat := []
@[simp] def pl60 : List (Nat × Plan) := [(1, Plan.seq [0, 1, 2, 3, 4, 7, 5, 6] (.done))]
/- (*vitrine/telnet.Reader).Feed -/
@[simp] def st61 : List Nat := [29, 25, 29]
@[simp] def pl61 : List (Nat × Plan) := []
/- (*vitrine/link.Link).take region 6: 1 forks -/
@[simp] def st62 : List Nat := []
@[simp] def pl62 : List (Nat × Plan) := [(6, Plan.seq [0, 1, 2, 3] (.alt (Plan.seq [4, 5, 6, 7] (.done)) (Plan.seq [6, 4, 5, 7] (.done)))), (8, Plan.seq [0, 1, 2, 3, 4, 5, 6] (.done))]
/- (*vitrine/option.Machine).State -/
@[simp] def st63 : List Nat := []
@[simp] def pl63 : List (Nat × Plan) := []
/- bytes.IndexByte -/
@[simp] def st64 : List Nat := []
@[simp] def pl64 : List (Nat × Plan) := []
/- (*vitrine/nego.End).Functions -/
@[simp] def st65 : List Nat := []
@[simp] def pl65 : List (Nat × Plan) := []
/- (vitrine/header.Header).right -/
@[simp] def st66 : List Nat := []
@[simp] def pl66 : List (Nat × Plan) := []
/- vitrine/vitrineref06.Take -/
@[simp] def st67 : List Nat := [33, 34, 67, 68, 85, 86, 98, 99, 18, 49, 69, 87, 40]
@[simp] def pl67 : List (Nat × Plan) := []
/- vitrine/header.answer -/
@[simp] def st68 : List Nat := []
@[simp] def pl68 : List (Nat × Plan) := []
/- vitrine/header.Code -/
@[simp] def st69 : List Nat := []
@[simp] def pl69 : List (Nat × Plan) := []
/- vitrine/header.Positive -/
@[simp] def st70 : List Nat := []
@[simp] def pl70 : List (Nat × Plan) := []
/- bytes.ReplaceAll -/
@[simp] def st71 : List Nat := []
@[simp] def pl71 : List (Nat × Plan) := []
/- vitrine/nego.Name -/
@[simp] def st72 : List Nat := []
@[simp] def pl72 : List (Nat × Plan) := []
/- vitrine/nego.rises -/
@[simp] def st73 : List Nat := []
@[simp] def pl73 : List (Nat × Plan) := []
/- bytes.Clone -/
@[simp] def st74 : List Nat := []
@[simp] def pl74 : List (Nat × Plan) := []
/- vitrine/vitrineref10.Name -/
@[simp] def st75 : List Nat := []
@[simp] def pl75 : List (Nat × Plan) := []
/- (*vitrine/telnet.Reader).take -/
@[simp] def st76 : List Nat := [17]
@[simp] def pl76 : List (Nat × Plan) := []
/- (*vitrine/telnet.Reader).flush region 1: 2 forks -/
@[simp] def st77 : List Nat := [12]
@[simp] def pl77 : List (Nat × Plan) := [(1, Plan.seq [0, 1, 2, 3, 5, 6, 7] (.alt (Plan.seq [4, 8, 9, 10, 11, 12, 13, 14] (.done)) (Plan.seq [8, 9] (.alt (Plan.seq [4, 10, 11, 12, 13, 14] (.done)) (Plan.seq [10, 4, 11, 12, 13, 14] (.done))))))]
/- (*vitrine/link.Link).hear region 1: 2 forks -/
@[simp] def st78 : List Nat := []
@[simp] def pl78 : List (Nat × Plan) := [(1, Plan.seq [0, 1, 2, 3, 4, 5, 6, 7, 8, 9] (.alt (Plan.seq [10] (.alt (Plan.seq [11, 12, 13] (.done)) (Plan.seq [12, 11, 13] (.done)))) (Plan.seq [11, 10, 12, 13] (.done))))]
/- (*vitrine/link.Link).sub region 2: 2 forks region 4: 2 forks -/
@[simp] def st79 : List Nat := [47]
@[simp] def pl79 : List (Nat × Plan) := [(1, Plan.seq [0, 1, 2, 3, 4, 5, 6, 7, 8, 9, 10, 11, 12, 13, 14, 15] (.done)), (2, Plan.seq [0, 1, 2, 3, 4, 5, 6, 7, 8, 9] (.alt (Plan.seq [10] (.alt (Plan.seq [11, 12, 13] (.done)) (Plan.seq [12, 11, 13] (.done)))) (Plan.seq [11, 10, 12, 13] (.done)))), (4, Plan.seq [0, 1, 2, 3, 5, 7] (.alt (Plan.seq [4, 6, 8, 9, 10, 11, 12] (.done)) (Plan.seq [6] (.alt (Plan.seq [4, 8, 9, 10, 11, 12] (.done)) (Plan.seq [8, 4, 9, 10, 11, 12] (.done))))))]
/- (*vitrine/record.Maker).Add -/
@[simp] def st80 : List Nat := [37, 8]
@[simp] def pl80 : List (Nat × Plan) := []
/- (*vitrine/link.Link).told -/
@[simp] def st81 : List Nat := []
@[simp] def pl81 : List (Nat × Plan) := []
/- (*vitrine/record.Maker).End -/
@[simp] def st82 : List Nat := []
@[simp] def pl82 : List (Nat × Plan) := [(3, Plan.seq [0, 1, 2, 3, 4, 5, 6, 7, 8, 9, 10] (.done))]
/- (*vitrine/link.Link).settle -/
@[simp] def st83 : List Nat := []
@[simp] def pl83 : List (Nat × Plan) := []
/- vitrine/vitrineref06.add region 3: 5 forks region 4: 2 forks -/
@[simp] def st85 : List Nat := [45]
@[simp] def pl85 : List (Nat × Plan) := [(3, Plan.seq [0, 1, 2, 3, 4, 5, 7] (.alt (.alt (Plan.seq [6, 8] (.alt (Plan.seq [9, 10, 11, 12] (.done)) (Plan.seq [11, 9, 10, 12] (.done)))) (Plan.seq [8] (.alt (Plan.seq [6] (.alt (Plan.seq [9, 10, 11, 12] (.done)) (Plan.seq [11, 9, 10, 12] (.done)))) (Plan.seq [11, 6, 9, 10, 12] (.done))))) (Plan.seq [11] (.alt (Plan.seq [6, 8, 9, 10, 12] (.done)) (Plan.seq [8, 6, 9, 10, 12] (.done)))))), (4, Plan.seq [1, 2, 3, 4, 6] (.alt (Plan.seq [0] (.alt (Plan.seq [5, 7, 8, 9] (.done)) (Plan.seq [7, 5, 8, 9] (.done)))) (Plan.seq [7, 0, 5, 8, 9] (.done))))]
/- vitrine/vitrineref06.Sub -/
@[simp] def st86 : List Nat := [31, 50, 73]
@[simp] def pl86 : List (Nat × Plan) := []
/- bytes.Replace -/
@[simp] def st87 : List Nat := []
@[simp] def pl87 : List (Nat × Plan) := [(15, Plan.seq [0, 1, 2, 3, 4, 5, 6, 7, 8, 9, 10] (.done)), (24, Plan.seq [0, 1, 2, 3, 4, 5, 6, 7, 8, 9, 10] (.done)), (28, Plan.seq [0, 1, 2, 3, 4, 5, 6, 7, 8, 9] (.done))]
/- (*vitrine/telnet.Reader).command -/
@[simp] def st88 : List Nat := [15]
@[simp] def pl88 : List (Nat × Plan) := []
/- (*vitrine/telnet.Reader).tell region 2: 2 forks -/
@[simp] def st89 : List Nat := [10]
@[simp] def pl89 : List (Nat × Plan) := [(2, Plan.seq [0, 1, 2, 3] (.alt (Plan.seq [4, 5, 6, 7, 8, 9, 10] (.done)) (Plan.seq [5] (.alt (Plan.seq [4, 6, 7, 8, 9, 10] (.done)) (Plan.seq [6, 4, 7, 8, 9, 10] (.done))))))]
/- (*vitrine/telnet.Reader).keep -/
@[simp] def st90 : List Nat := [20]
@[simp] def pl90 : List (Nat × Plan) := []
/- (*vitrine/telnet.Reader).end -/
@[simp] def st91 : List Nat := []
@[simp] def pl91 : List (Nat × Plan) := [(0, Plan.seq [0, 1, 2, 3, 4, 5, 6, 7, 8, 9, 10, 11, 12, 13, 14, 15] (.done))]
/- (*vitrine/option.Machine).Hear region 14: 2 forks region 15: 2 forks -/
@[simp] def st92 : List Nat := []
@[simp] def pl92 : List (Nat × Plan) := [(14, Plan.seq [0, 1, 2, 3, 8, 9, 4, 5] (.alt (Plan.seq [6, 10] (.alt (Plan.seq [7, 11, 12] (.done)) (Plan.seq [11, 7, 12] (.done)))) (Plan.seq [7, 6, 10, 11, 12] (.done)))), (15, Plan.seq [0, 1, 2, 3, 8, 9, 4, 5] (.alt (Plan.seq [6, 10] (.alt (Plan.seq [7, 11, 12] (.done)) (Plan.seq [11, 7, 12] (.done)))) (Plan.seq [7, 6, 10, 11, 12] (.done))))]
/- (*vitrine/link.Link).say region 3: 2 forks -/
@[simp] def st93 : List Nat := [16]
@[simp] def pl93 : List (Nat × Plan) := [(3, Plan.seq [0, 1, 2, 3] (.alt (Plan.seq [4, 5, 6, 7, 8, 9, 10] (.done)) (Plan.seq [5] (.alt (Plan.seq [4, 6, 7, 8, 9, 10] (.done)) (Plan.seq [6, 4, 7, 8, 9, 10] (.done))))))]
/- (*vitrine/nego.End).Reset -/
@[simp] def st94 : List Nat := []
@[simp] def pl94 : List (Nat × Plan) := []
/- (*vitrine/nego.End).Hear -/
@[simp] def st95 : List Nat := []
@[simp] def pl95 : List (Nat × Plan) := []
/- vitrine/telnet.SubBytes -/
@[simp] def st96 : List Nat := []
@[simp] def pl96 : List (Nat × Plan) := []
/- (*vitrine/option.Machine).Ask region 9: 12 forks region 10: 12 forks -/
@[simp] def st97 : List Nat := []
@[simp] def pl97 : List (Nat × Plan) := [(9, Plan.seq [0, 1, 2, 3, 9, 10, 4, 5] (.alt (.alt (Plan.seq [6, 11] (.alt (.alt (Plan.seq [7] (.alt (Plan.seq [8, 12, 13, 14] (.done)) (Plan.seq [12] (.alt (Plan.seq [8, 13, 14] (.done)) (Plan.seq [13, 8, 14] (.done)))))) (Plan.seq [8] (.alt (Plan.seq [7, 12, 13, 14] (.done)) (Plan.seq [12, 7, 13, 14] (.done))))) (Plan.seq [12] (.alt (Plan.seq [7] (.alt (Plan.seq [8, 13, 14] (.done)) (Plan.seq [13, 8, 14] (.done)))) (Plan.seq [8, 7, 13, 14] (.done)))))) (Plan.seq [7] (.alt (Plan.seq [6, 11] (.alt (Plan.seq [8, 12, 13, 14] (.done)) (Plan.seq [12] (.alt (Plan.seq [8, 13, 14] (.done)) (Plan.seq [13, 8, 14] (.done)))))) (Plan.seq [8, 6, 11, 12, 13, 14] (.done))))) (Plan.seq [8] (.alt (Plan.seq [6, 11] (.alt (Plan.seq [7, 12, 13, 14] (.done)) (Plan.seq [12, 7, 13, 14] (.done)))) (Plan.seq [7, 6, 11, 12, 13, 14] (.done)))))), (10, Plan.seq [0, 1, 2, 3, 9, 10, 4, 5] (.alt (.alt (Plan.seq [6, 11] (.alt (.alt (Plan.seq [7] (.alt (Plan.seq [8, 12, 13, 14] (.done)) (Plan.seq [12] (.alt (Plan.seq [8, 13, 14] (.done)) (Plan.seq [13, 8, 14] (.done)))))) (Plan.seq [8] (.alt (Plan.seq [7, 12, 13, 14] (.done)) (Plan.seq [12, 7, 13, 14] (.done))))) (Plan.seq [12] (.alt (Plan.seq [7] (.alt (Plan.seq [8, 13, 14] (.done)) (Plan.seq [13, 8, 14] (.done)))) (Plan.seq [8, 7, 13, 14] (.done)))))) (Plan.seq [7] (.alt (Plan.seq [6, 11] (.alt (Plan.seq [8, 12, 13, 14] (.done)) (Plan.seq [12] (.alt (Plan.seq [8, 13, 14] (.done)) (Plan.seq [13, 8, 14] (.done)))))) (Plan.seq [8, 6, 11, 12, 13, 14] (.done))))) (Plan.seq [8] (.alt (Plan.seq [6, 11] (.alt (Plan.seq [7, 12, 13, 14] (.done)) (Plan.seq [12, 7, 13, 14] (.done)))) (Plan.seq [7, 6, 11, 12, 13, 14] (.done))))))]
/- (*vitrine/link.Link).long -/
@[simp] def st98 : List Nat := []
@[simp] def pl98 : List (Nat × Plan) := []
/- vitrine/header.Parse region 6: 1 forks -/
@[simp] def st99 : List Nat := []
@[simp] def pl99 : List (Nat × Plan) := [(3, Plan.seq [0, 1, 2, 3, 4, 5, 6, 7, 8, 9, 10, 11, 12, 13, 14, 15, 16, 17, 18, 19, 20, 21] (.done)), (6, Plan.seq [1, 2] (.alt (Plan.seq [0, 3, 4, 5, 6] (.done)) (Plan.seq [3, 0, 4, 5, 6] (.done))))]
/- vitrine/header.Name -/
@[simp] def st100 : List Nat := []
@[simp] def pl100 : List (Nat × Plan) := []
/- (*vitrine/record.Maker).Drop -/
@[simp] def st101 : List Nat := []
@[simp] def pl101 : List (Nat × Plan) := []
/- (*vitrine/link.Link).modeNow -/
@[simp] def st102 : List Nat := []
@[simp] def pl102 : List (Nat × Plan) := []
/- bytes.Count -/
@[simp] def st103 : List Nat := [26]
@[simp] def pl103 : List (Nat × Plan) := []
/- bytes.Index -/
@[simp] def st104 : List Nat := [106, 175]
@[simp] def pl104 : List (Nat × Plan) := []
/- unicode/utf8.DecodeRune -/
@[simp] def st105 : List Nat := []
@[simp] def pl105 : List (Nat × Plan) := []
/- (*vitrine/option.side).heardOn -/
@[simp] def st106 : List Nat := []
@[simp] def pl106 : List (Nat × Plan) := []
/- (*vitrine/option.side).heardOff -/
@[simp] def st107 : List Nat := []
@[simp] def pl107 : List (Nat × Plan) := []
/- vitrine/option.said -/
@[simp] def st108 : List Nat := []
@[simp] def pl108 : List (Nat × Plan) := []
/- (vitrine/option.Message).Bytes -/
@[simp] def st109 : List Nat := []
@[simp] def pl109 : List (Nat × Plan) := []
/- bytes.Equal -/
@[simp] def st110 : List Nat := []
@[simp] def pl110 : List (Nat × Plan) := []
/- (*vitrine/nego.End).asks region 4: 1 forks -/
@[simp] def st111 : List Nat := [26, 35]
@[simp] def pl111 : List (Nat × Plan) := [(4, Plan.seq [3, 4, 5, 6, 7] (.alt (Plan.seq [0, 1, 2, 8, 9] (.done)) (Plan.seq [1, 0, 2, 8, 9] (.done))))]
/- (*vitrine/nego.End).heardDevice -/
@[simp] def st112 : List Nat := []
@[simp] def pl112 : List (Nat × Plan) := []
/- (*vitrine/nego.End).heardFunctions -/
@[simp] def st113 : List Nat := [93]
@[simp] def pl113 : List (Nat × Plan) := []
/- (*vitrine/option.side).askOn -/
@[simp] def st114 : List Nat := []
@[simp] def pl114 : List (Nat × Plan) := []
/- (*vitrine/option.side).askOff -/
@[simp] def st115 : List Nat := []
@[simp] def pl115 : List (Nat × Plan) := []
/- (*vitrine/link.Link).modeNow$1 -/
@[simp] def st116 : List Nat := []
@[simp] def pl116 : List (Nat × Plan) := []
/- unicode/utf8.RuneCount -/
@[simp] def st117 : List Nat := [26]
@[simp] def pl117 : List (Nat × Plan) := []
/- unicode/utf8.decodeRuneSlow -/
@[simp] def st122 : List Nat := []
@[simp] def pl122 : List (Nat × Plan) := []
/- vitrine/telnet.Say -/
@[simp] def st123 : List Nat := []
@[simp] def pl123 : List (Nat × Plan) := []
/- vitrine/nego.got -/
@[simp] def st124 : List Nat := []
@[simp] def pl124 : List (Nat × Plan) := [(2, Plan.seq [0, 1, 2, 3, 4, 5, 6, 7, 8, 9, 10, 11, 12, 13, 14] (.done))]
/- (*vitrine/nego.End).offer -/
@[simp] def st125 : List Nat := []
@[simp] def pl125 : List (Nat × Plan) := []
/- vitrine/nego.once -/
@[simp] def st126 : List Nat := []
@[simp] def pl126 : List (Nat × Plan) := []
/- (*vitrine/nego.End).own -/
@[simp] def st127 : List Nat := []
@[simp] def pl127 : List (Nat × Plan) := []
/- (*vitrine/nego.End).agree -/
@[simp] def st128 : List Nat := []
@[simp] def pl128 : List (Nat × Plan) := []
/- unicode/utf8.RuneCountInString -/
@[simp] def st129 : List Nat := [9]
@[simp] def pl129 : List (Nat × Plan) := []
/- bytes.Cut -/
@[simp] def st131 : List Nat := [22]
@[simp] def pl131 : List (Nat × Plan) := [(3, Plan.seq [0, 1, 2, 3, 4, 5, 6, 7, 8, 9, 10, 11] (.done))]
/- slices.ContainsFunc[[]byte,byte] -/
@[simp] def st132 : List Nat := []
@[simp] def pl132 : List (Nat × Plan) := []
/- (*vitrine/nego.End).own$1 -/
@[simp] def st133 : List Nat := []
@[simp] def pl133 : List (Nat × Plan) := []
/- slices.Sorted[byte] -/
@[simp] def st134 : List Nat := [8]
@[simp] def pl134 : List (Nat × Plan) := []
/- slices.Sorted[byte] -/
@[simp] def st134o : List Nat := [8, 1000002, 1000003]
@[simp] def pl134o : List (Nat × Plan) := []
/- slices.Values[[]byte,byte] -/
@[simp] def st135 : List Nat := []
@[simp] def pl135 : List (Nat × Plan) := []
/- slices.IndexFunc[[]byte,byte] -/
@[simp] def st136 : List Nat := [17]
@[simp] def pl136 : List (Nat × Plan) := []
/- slices.Collect[byte] -/
@[simp] def st137 : List Nat := []
@[simp] def pl137 : List (Nat × Plan) := []
/- slices.Collect[byte] -/
@[simp] def st137o : List Nat := [1000004, 1000002]
@[simp] def pl137o : List (Nat × Plan) := []
/- slices.Sort[[]byte,byte] -/
@[simp] def st138 : List Nat := []
@[simp] def pl138 : List (Nat × Plan) := []
/- slices.Values[[]byte,byte]$1 -/
@[simp] def st139 : List Nat := []
@[simp] def pl139 : List (Nat × Plan) := []
/- slices.AppendSeq[[]byte,byte] -/
@[simp] def st140 : List Nat := [8]
@[simp] def pl140 : List (Nat × Plan) := []
/- slices.AppendSeq[[]byte,byte] -/
@[simp] def st140o : List Nat := [8, 1000002, 1000004, 1000011]
@[simp] def pl140o : List (Nat × Plan) := []
/- slices.pdqsortOrdered[byte] -/
@[simp] def st141 : List Nat := []
@[simp] def pl141 : List (Nat × Plan) := [(17, Plan.seq [0, 1, 2, 3, 4, 5, 6, 7, 8, 9, 10, 11, 12, 13, 14] (.done))]
/- math/bits.Len -/
@[simp] def st142 : List Nat := []
@[simp] def pl142 : List (Nat × Plan) := []
/- slices.insertionSortOrdered[byte] -/
@[simp] def st143 : List Nat := []
@[simp] def pl143 : List (Nat × Plan) := [(4, Plan.seq [0, 1, 2, 3, 4, 5, 6, 7, 8, 9, 10, 11, 12, 13, 14] (.done)), (6, Plan.seq [0, 1, 2, 3, 4, 5, 6, 7, 8, 9, 10, 11, 12, 13, 14, 15, 16, 17] (.done))]
/- slices.heapSortOrdered[byte] -/
@[simp] def st144 : List Nat := []
@[simp] def pl144 : List (Nat × Plan) := [(10, Plan.seq [0, 1, 2, 3, 4, 5, 6, 7, 8, 9, 10, 11, 12, 13, 14, 15, 16, 17, 18, 19] (.done))]
/- slices.breakPatternsOrdered[byte] -/
@[simp] def st145 : List Nat := []
@[simp] def pl145 : List (Nat × Plan) := [(10, Plan.seq [0, 1, 2, 3, 4, 5, 6, 7, 8, 9, 10, 11, 12, 13, 14, 15, 16, 17, 18, 19] (.done))]
/- slices.choosePivotOrdered[byte] -/
@[simp] def st146 : List Nat := [53, 56, 50]
@[simp] def pl146 : List (Nat × Plan) := []
/- slices.reverseRangeOrdered[byte] -/
@[simp] def st147 : List Nat := []
@[simp] def pl147 : List (Nat × Plan) := [(3, Plan.seq [0, 1, 2, 3, 4, 5, 6, 7, 8, 9, 10, 11, 12, 13, 14, 15] (.done))]
/- slices.partialInsertionSortOrdered[byte] -/
@[simp] def st148 : List Nat := []
@[simp] def pl148 : List (Nat × Plan) := [(5, Plan.seq [0, 1, 2, 3, 4, 5, 6, 7, 8, 9, 10, 11, 12, 13, 14, 15] (.done)), (11, Plan.seq [0, 1, 2, 3, 4, 5, 6, 7, 8, 9, 10, 11, 12, 13, 14, 15, 16, 17] (.done)), (16, Plan.seq [0, 1, 2, 3, 4, 5, 6, 7, 8, 9, 10] (.done)), (17, Plan.seq [0, 1, 2, 3, 4, 5, 6, 7, 8, 9, 10, 11, 12, 13, 14, 15, 16, 17] (.done)), (22, Plan.seq [0, 1, 2, 3, 4, 5, 6, 7, 8, 9, 10] (.done)), (23, Plan.seq [0, 1, 2, 3, 4, 5, 6, 7, 8, 9, 10, 11, 12, 13, 14, 15, 16, 17] (.done))]
/- cmp.Less[byte] -/
@[simp] def st149 : List Nat := []
@[simp] def pl149 : List (Nat × Plan) := []
/- slices.partitionEqualOrdered[byte] -/
@[simp] def st150 : List Nat := [83]
@[simp] def pl150 : List (Nat × Plan) := [(1, Plan.seq [0, 1, 2, 3, 4, 5, 6, 7, 8, 9, 10, 11, 12, 13, 14, 15] (.done)), (3, Plan.seq [0, 1, 2, 3, 4, 5, 6, 7, 8, 9, 10, 11, 12, 13, 14] (.done)), (5, Plan.seq [0, 1, 2, 3, 4, 5, 6, 7, 8, 9, 10, 11, 12, 13] (.done)), (8, Plan.seq [0, 1, 2, 3, 4, 5, 6, 7, 8, 9, 10, 11, 12, 13, 14, 15] (.done))]
/- slices.partitionOrdered[byte] -/
@[simp] def st151 : List Nat := [80, 167]
@[simp] def pl151 : List (Nat × Plan) := [(1, Plan.seq [0, 1, 2, 3, 4, 5, 6, 7, 8, 9, 10, 11, 12, 13, 14, 15] (.done)), (3, Plan.seq [0, 1, 2, 3, 4, 5, 6, 7, 8, 9, 10, 11, 12, 13] (.done)), (5, Plan.seq [0, 1, 2, 3, 4, 5, 6, 7, 8, 9, 10, 11, 12, 13, 14] (.done)), (8, Plan.seq [0, 1, 2, 3, 4, 5, 6, 7, 8, 9, 10, 11, 12, 13, 14, 15] (.done)), (10, Plan.seq [0, 1, 2, 3, 4, 5, 6, 7, 8, 9, 10, 11, 12, 13, 14, 15] (.done)), (13, Plan.seq [0, 1, 2, 3, 4, 5, 6, 7, 8, 9, 10, 11, 12, 13] (.done)), (15, Plan.seq [0, 1, 2, 3, 4, 5, 6, 7, 8, 9, 10, 11, 12, 13, 14] (.done)), (18, Plan.seq [0, 1, 2, 3, 4, 5, 6, 7, 8, 9, 10, 11, 12, 13, 14, 15] (.done)), (21, Plan.seq [0, 1, 2, 3, 4, 5, 6, 7, 8, 9, 10, 11, 12, 13, 14, 15] (.done))]
/- math/bits.Len32 -/
@[simp] def st152 : List Nat := []
@[simp] def pl152 : List (Nat × Plan) := []
/- math/bits.Len64 -/
@[simp] def st153 : List Nat := []
@[simp] def pl153 : List (Nat × Plan) := []
/- slices.siftDownOrdered[byte] -/
@[simp] def st154 : List Nat := []
@[simp] def pl154 : List (Nat × Plan) := [(3, Plan.seq [0, 1, 2, 3, 4, 5, 6, 7, 8, 9, 10, 11, 12, 13, 14, 15, 16, 17, 18, 19] (.done)), (5, Plan.seq [0, 1, 2, 3, 4, 5, 6, 7, 8, 9, 10, 11, 12, 13] (.done)), (6, Plan.seq [0, 1, 2, 3, 4, 5, 6, 7, 8, 9, 10, 11, 12, 13, 14, 15, 16, 17, 18, 19, 20, 21, 22, 23] (.done))]
/- slices.nextPowerOfTwo -/
@[simp] def st155 : List Nat := []
@[simp] def pl155 : List (Nat × Plan) := []
/- (*slices.xorshift).Next -/
@[simp] def st156 : List Nat := []
@[simp] def pl156 : List (Nat × Plan) := [(1, Plan.seq [0, 1, 2, 3, 4, 5, 6, 7, 8, 9] (.done)), (2, Plan.seq [0, 1, 2, 3, 4, 5, 6, 7, 8, 9] (.done)), (3, Plan.seq [0, 1, 2, 3, 4, 5, 6, 7, 8, 9] (.done))]
/- slices.medianAdjacentOrdered[byte] -/
@[simp] def st157 : List Nat := []
@[simp] def pl157 : List (Nat × Plan) := []
/- slices.medianOrdered[byte] -/
@[simp] def st158 : List Nat := [35]
@[simp] def pl158 : List (Nat × Plan) := []
/- cmp.isNaN[byte] -/
@[simp] def st159 : List Nat := []
@[simp] def pl159 : List (Nat × Plan) := []
/- slices.order2Ordered[byte] -/
@[simp] def st160 : List Nat := [24, 25, 26, 27]
@[simp] def pl160 : List (Nat × Plan) := [(1, Plan.seq [0, 1, 2, 3, 4, 5, 6, 7, 8] (.done))]
/- gosem.cut.vars -/
@[simp] def st183 : List Nat := []
@[simp] def pl183 : List (Nat × Plan) := []
end Go.Proofs.YteaidaolablegaaGreatDoor
/-
  What bytes and events are as abstract values; the reader's pure model.
-/
namespace Go.Proofs.YteaidaolablegaaGreatDoor
open Go Go.AL

theorem follows : Tryz.prog.follows .mixedOrders = true := by kernel_rfl

def byteA (b : UInt8) : AV := .lit (.int .u8 (b.toNat : Int))
def bytesA (l : List UInt8) : List AV := l.map byteA
@[simp] theorem bytesA_length (l : List UInt8) : (bytesA l).length = l.length := by simp [bytesA]
theorem bytesA_append (l k : List UInt8) : bytesA (l ++ k) = bytesA l ++ bytesA k := by simp [bytesA]
theorem bytesA_nil : bytesA [] = [] := rfl
theorem bytesOf_bytesA (l : List UInt8) : bytesOf (bytesA l) = some l := by
  induction l with
  | nil => rfl
  | cons b l ih =>
    have hb : AL.byteOf (byteA b) = some b := by simp [byteA, AL.byteOf]
    simp only [bytesOf, bytesA, List.map_cons, List.mapM_cons] at ih ⊢
    rw [hb, ih]; rfl
theorem bytesA_get (l : List UInt8) (i : Nat) : (bytesA l)[i]? = (l[i]?).map byteA := by simp [bytesA]

structure Ev where
  kind : Int
  verb : UInt8
  opt : UInt8
  data : List UInt8
  long : Bool
  broken : Bool
  deriving DecidableEq

def evA (e : Ev) : AV := .agg [.lit (.int .i64 e.kind), byteA e.verb, byteA e.opt, .list false 1 (bytesA e.data), .lit (.bool e.long), .lit (.bool e.broken)]
def evsA (l : List Ev) : List AV := l.map evA
@[simp] theorem evsA_length (l : List Ev) : (evsA l).length = l.length := by simp [evsA]
theorem evsA_append (l k : List Ev) : evsA (l ++ k) = evsA l ++ evsA k := by simp [evsA]
theorem evsA_get (l : List Ev) (i : Nat) : (evsA l)[i]? = (l[i]?).map evA := by simp [evsA]

/-- The reader. -/
structure Rd where
  state : Int
  verb : UInt8
  opt : UInt8
  data : List UInt8
  sub : List UInt8
  long : Bool
  out : List Ev

def rdA (r : Rd) : List AV := [.lit (.int .i64 r.state), byteA r.verb, byteA r.opt, .list true 1 (bytesA r.data), .list true 1 (bytesA r.sub), .lit (.bool r.long), .list true 6 (evsA r.out)]

namespace Rd
def flush (r : Rd) : Rd := { r with out := if 0 < r.data.length then r.out ++ [⟨0, 0, 0, r.data, false, false⟩] else r.out, data := [] }
def tell (r : Rd) (e : Ev) : Rd := { r.flush with out := r.flush.out ++ [e], state := 0 }
def keep (r : Rd) (b : UInt8) : Rd := if 256 ≤ r.sub.length then { r with state := 4, long := true } else { r with state := 4, sub := r.sub ++ [b] }
def fin (r : Rd) (broken : Bool) : Rd := { r.tell ⟨3, 0, r.opt, r.sub, r.long, broken⟩ with sub := [], long := false }
def command (r : Rd) (b : UInt8) : Rd :=
  if (b.toNat : Int) = 255 then { r with data := r.data ++ [b], state := 0 }
  else if (b.toNat : Int) = 250 then { r with state := 3 }
  else if 251 ≤ (b.toNat : Int) ∧ (b.toNat : Int) ≤ 254 then { r with verb := b, state := 2 }
  else r.tell ⟨1, b, 0, [], false, false⟩
def take (r : Rd) (b : UInt8) : Rd :=
  if r.state = 1 then r.command b
  else if r.state = 2 then r.tell ⟨2, r.verb, b, [], false, false⟩
  else if r.state = 3 then { r with opt := b, state := 4 }
  else if r.state = 4 then (if (b.toNat : Int) = 255 then { r with state := 5 } else r.keep b)
  else if r.state = 5 then (if (b.toNat : Int) = 255 then r.keep b else if (b.toNat : Int) = 240 then r.fin false else (r.fin true).command b)
  else if (b.toNat : Int) = 255 then { r with state := 1 }
  else { r with data := r.data ++ [b] }
def feed (r : Rd) (p : List UInt8) : Rd := p.foldl take r
def init : Rd := ⟨0, 0, 0, [], [], false, []⟩
end Rd

theorem byte_eq (b c : UInt8) : ((b.toNat : Int) == (c.toNat : Int)) = (b == c) := by
  rw [Bool.eq_iff_iff, beq_iff_eq, beq_iff_eq]
  constructor
  · intro h; exact UInt8.toNat_inj.1 (by omega)
  · rintro rfl; rfl
theorem le_of_eq {a b : AV} (h : a = b) : a.le b := h ▸ AV.le_refl a
/-- A byte, as the operations have it. -/
theorem byte_lt (b : UInt8) : (b.toNat : Int) < 256 := by have := b.toNat_lt; omega
end Go.Proofs.YteaidaolablegaaGreatDoor
