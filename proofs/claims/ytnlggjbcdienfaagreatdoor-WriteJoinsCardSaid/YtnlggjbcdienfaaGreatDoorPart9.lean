/-
  Of each function: which temporaries take a right to append with the value; the plans of the regions that draw their order. Written by a program of mine.
-/
import Derived.Test.YtnlggjbcdienfaaGreatDoorPart8
namespace Go.Proofs.YtnlggjbcdienfaaGreatDoor
open Go Go.AL
/- vitrine/vitrinelaw17.WriteJoins -/
@[simp] def st3 : List Nat := []
@[simp] def pl3 : List (Nat × Plan) := []
/- vitrine/vitrinelaw20.EntryReplays region 31: 3 forks -/
@[simp] def st4 : List Nat := []
@[simp] def pl4 : List (Nat × Plan) := [(28, Plan.seq [0, 1, 2, 3, 4, 5, 6, 7, 8, 9, 10, 11, 12, 13, 14, 15, 16, 17, 18] (.done)), (31, Plan.seq [0, 2, 3, 4] (.alt (Plan.seq [1, 5, 6, 7, 8, 10, 11, 12] (.alt (Plan.seq [9, 13, 14, 15, 16] (.done)) (Plan.seq [13, 9, 14, 15, 16] (.done)))) (Plan.seq [5, 1, 6, 7, 8, 10, 11, 12] (.alt (Plan.seq [9, 13, 14, 15, 16] (.done)) (Plan.seq [13, 9, 14, 15, 16] (.done))))))]
/- vitrine/vitrinelaw17.awake -/
@[simp] def st5 : List Nat := []
@[simp] def pl5 : List (Nat × Plan) := []
/- vitrine/vitrinelaw17.lay -/
@[simp] def st6 : List Nat := [68, 69]
@[simp] def pl6 : List (Nat × Plan) := []
/- (*vitrine/space.Space).Copy -/
@[simp] def st7 : List Nat := []
@[simp] def pl7 : List (Nat × Plan) := []
/- vitrine/vitrineref01.Cut -/
@[simp] def st8 : List Nat := []
@[simp] def pl8 : List (Nat × Plan) := []
/- vitrine/vitrineref16.All -/
@[simp] def st9 : List Nat := [24, 25, 26, 27, 34, 35]
@[simp] def pl9 : List (Nat × Plan) := []
/- vitrine/write.Orders region 11: 1 forks region 14: 1 forks -/
@[simp] def st10 : List Nat := []
@[simp] def pl10 : List (Nat × Plan) := [(11, Plan.seq [0, 1, 2, 3, 5] (.alt (Plan.seq [4, 6, 7, 8] (.done)) (Plan.seq [6, 4, 7, 8] (.done)))), (14, Plan.seq [0, 1, 2, 3] (.alt (Plan.seq [4, 5, 6, 7] (.done)) (Plan.seq [5, 4, 6, 7] (.done))))]
/- vitrine/vitrineref01.Copy -/
@[simp] def st11 : List Nat := []
@[simp] def pl11 : List (Nat × Plan) := []
/- vitrine/vitrineref01.Copy -/
@[simp] def st11o : List Nat := [1000003, 1000005, 1000002]
@[simp] def pl11o : List (Nat × Plan) := []
/- (*vitrine/space.Space).Same -/
@[simp] def st12 : List Nat := []
@[simp] def pl12 : List (Nat × Plan) := [(3, Plan.seq [0, 1, 2, 3, 4, 5, 6, 7, 8, 9, 10, 11, 12, 13, 14, 15, 16, 17, 18, 19, 20, 21, 22, 23, 24, 25, 26, 27, 28, 29, 30, 31, 32, 33, 34, 35, 36, 37, 38, 39, 40, 41, 42] (.done))]
/- vitrine/vitrinelaw20.awake -/
@[simp] def st13 : List Nat := []
@[simp] def pl13 : List (Nat × Plan) := []
/- vitrine/vitrinelaw20.lay -/
@[simp] def st14 : List Nat := [68, 69]
@[simp] def pl14 : List (Nat × Plan) := []
/- vitrine/read.Buffer -/
@[simp] def st15 : List Nat := [21]
@[simp] def pl15 : List (Nat × Plan) := []
/- vitrine/vitrinelaw20.looks -/
@[simp] def st16 : List Nat := []
@[simp] def pl16 : List (Nat × Plan) := []
/- vitrine/entry.Buffer -/
@[simp] def st17 : List Nat := [26, 38, 86, 91, 96]
@[simp] def pl17 : List (Nat × Plan) := [(34, Plan.seq [1, 2, 0, 3, 4, 5] (.done))]
/- vitrine/entry.Replay -/
@[simp] def st18 : List Nat := [20, 29, 36]
@[simp] def pl18 : List (Nat × Plan) := []
/- vitrine/vitrineref20.Replay -/
@[simp] def st19 : List Nat := [19, 27, 32, 38]
@[simp] def pl19 : List (Nat × Plan) := []
/- vitrine/write.Run region 13: 1 forks -/
@[simp] def st20 : List Nat := []
@[simp] def pl20 : List (Nat × Plan) := [(13, Plan.seq [0, 1, 2, 3, 4] (.alt (Plan.seq [5, 6, 7, 8] (.done)) (Plan.seq [6, 5, 7, 8] (.done))))]
/- vitrine/vitrineref01.Same -/
@[simp] def st21 : List Nat := []
@[simp] def pl21 : List (Nat × Plan) := []
/- (*vitrine/space.Space).At region 3: 1 forks -/
@[simp] def st22 : List Nat := []
@[simp] def pl22 : List (Nat × Plan) := [(3, Plan.seq [0, 1, 2, 4, 5, 6, 7, 8] (.alt (Plan.seq [3, 9, 10, 11, 12] (.done)) (Plan.seq [9, 3, 10, 11, 12] (.done))))]
/- vitrine/vitrinelaw20.sent -/
@[simp] def st23 : List Nat := [5]
@[simp] def pl23 : List (Nat × Plan) := []
/- (*vitrine/space.Space).Cursor -/
@[simp] def st24 : List Nat := []
@[simp] def pl24 : List (Nat × Plan) := []
/- (*vitrine/space.Space).Alternate -/
@[simp] def st25 : List Nat := []
@[simp] def pl25 : List (Nat × Plan) := []
/- vitrine/space.New -/
@[simp] def st26 : List Nat := [14, 20]
@[simp] def pl26 : List (Nat × Plan) := []
/- vitrine/vitrineref12.New -/
@[simp] def st27 : List Nat := [18]
@[simp] def pl27 : List (Nat × Plan) := []
/- vitrine/vitrineref12.Do -/
@[simp] def st28 : List Nat := []
@[simp] def pl28 : List (Nat × Plan) := []
/- (*vitrine/space.Space).Clear -/
@[simp] def st29 : List Nat := [1000030]
@[simp] def pl29 : List (Nat × Plan) := []
/- (*vitrine/space.Space).Set region 6: 9 forks -/
@[simp] def st30 : List Nat := []
@[simp] def pl30 : List (Nat × Plan) := [(6, Plan.seq [0, 1, 2, 4, 6, 7, 8, 10] (.alt (.alt (Plan.seq [3] (.alt (Plan.seq [5, 9, 11, 12, 13, 14, 15, 16, 17, 18] (.done)) (Plan.seq [9, 11] (.alt (Plan.seq [5, 12, 13, 14, 15, 16, 17, 18] (.done)) (Plan.seq [12, 5, 13, 14, 15, 16, 17, 18] (.done)))))) (Plan.seq [5, 9, 11, 12] (.alt (Plan.seq [3, 13, 14, 15, 16, 17, 18] (.done)) (Plan.seq [13, 3, 14, 15, 16, 17, 18] (.done))))) (Plan.seq [9, 11] (.alt (.alt (Plan.seq [3] (.alt (Plan.seq [5, 12, 13, 14, 15, 16, 17, 18] (.done)) (Plan.seq [12, 5, 13, 14, 15, 16, 17, 18] (.done)))) (Plan.seq [5, 12] (.alt (Plan.seq [3, 13, 14, 15, 16, 17, 18] (.done)) (Plan.seq [13, 3, 14, 15, 16, 17, 18] (.done))))) (Plan.seq [12] (.alt (Plan.seq [3, 5, 13, 14, 15, 16, 17, 18] (.done)) (Plan.seq [5] (.alt (Plan.seq [3, 13, 14, 15, 16, 17, 18] (.done)) (Plan.seq [13, 3, 14, 15, 16, 17, 18] (.done)))))))))), (7, Plan.seq [0, 1, 2, 3, 4, 5, 6, 7] (.done))]
/- (*vitrine/space.Space).Place -/
@[simp] def st31 : List Nat := []
@[simp] def pl31 : List (Nat × Plan) := []
/- slices.Clone[[]vitrine/api.Cell,vitrine/api.Cell] -/
@[simp] def st32 : List Nat := [1000005, 1000007]
@[simp] def pl32 : List (Nat × Plan) := []
/- vitrine/vitrineref16.next -/
@[simp] def st33 : List Nat := [43, 70, 93, 160]
@[simp] def pl33 : List (Nat × Plan) := [(46, Plan.seq [0, 1, 2, 3, 4, 5, 6, 7, 8] (.done))]
/- (*vitrine/space.Space).Size -/
@[simp] def st34 : List Nat := []
@[simp] def pl34 : List (Nat × Plan) := []
/- (vitrine/addr.Size).Wrap -/
@[simp] def st35 : List Nat := []
@[simp] def pl35 : List (Nat × Plan) := []
/- vitrine/order.Parse -/
@[simp] def st36 : List Nat := []
@[simp] def pl36 : List (Nat × Plan) := []
/- (*vitrine/write.pen).do region 20: 1 forks region 25: 9 forks -/
@[simp] def st37 : List Nat := [94]
@[simp] def pl37 : List (Nat × Plan) := [(20, Plan.seq [0, 1, 2, 3, 4, 5, 6, 7] (.alt (Plan.seq [8, 9, 10] (.done)) (Plan.seq [9, 8, 10] (.done)))), (25, Plan.seq [0, 1, 2, 3, 4, 5] (.alt (Plan.seq [6, 7] (.alt (.alt (Plan.seq [8] (.alt (Plan.seq [9, 10, 11, 12] (.done)) (Plan.seq [10] (.alt (Plan.seq [9, 11, 12] (.done)) (Plan.seq [11, 9, 12] (.done)))))) (Plan.seq [9] (.alt (Plan.seq [8, 10, 11, 12] (.done)) (Plan.seq [10, 8, 11, 12] (.done))))) (Plan.seq [10] (.alt (Plan.seq [8] (.alt (Plan.seq [9, 11, 12] (.done)) (Plan.seq [11, 9, 12] (.done)))) (Plan.seq [9, 8, 11, 12] (.done)))))) (Plan.seq [10, 6, 7] (.alt (Plan.seq [8] (.alt (Plan.seq [9, 11, 12] (.done)) (Plan.seq [11, 9, 12] (.done)))) (Plan.seq [9, 8, 11, 12] (.done)))))), (30, Plan.seq [0, 1, 2, 3, 4, 5, 6, 7, 8] (.done))]
/- slices.Equal[[]vitrine/api.Cell,vitrine/api.Cell] -/
@[simp] def st38 : List Nat := []
@[simp] def pl38 : List (Nat × Plan) := [(6, Plan.seq [0, 1, 2, 3, 4, 5, 6, 7, 8] (.done))]
/- vitrine/entry.Parse -/
@[simp] def st39 : List Nat := [20, 30, 1000047, 1000048]
@[simp] def pl39 : List (Nat × Plan) := []
/- vitrine/read.begin -/
@[simp] def st40 : List Nat := [32, 1000024]
@[simp] def pl40 : List (Nat × Plan) := []
/- (*vitrine/space.Space).All -/
@[simp] def st41 : List Nat := []
@[simp] def pl41 : List (Nat × Plan) := []
/- (*vitrine/read.sender).attribute region 2: 3 forks -/
@[simp] def st42 : List Nat := [15, 36]
@[simp] def pl42 : List (Nat × Plan) := [(2, Plan.seq [0, 1, 2, 3, 5] (.alt (Plan.seq [4, 6, 7, 8, 9, 10, 11, 12, 13] (.done)) (Plan.seq [6, 7] (.alt (Plan.seq [4, 8, 9, 10, 11, 12, 13] (.done)) (Plan.seq [8] (.alt (Plan.seq [4, 9, 10, 11, 12, 13] (.done)) (Plan.seq [9, 4, 10, 11, 12, 13] (.done))))))))]
/- (*vitrine/read.sender).character region 5: 5 forks -/
@[simp] def st43 : List Nat := [28, 50, 63]
@[simp] def pl43 : List (Nat × Plan) := [(2, Plan.seq [0, 1, 2, 3, 4, 7, 5, 6] (.done)), (5, Plan.seq [0, 1, 2, 3, 5, 7] (.alt (.alt (Plan.seq [4, 6, 8, 9, 10, 11, 12, 13] (.done)) (Plan.seq [6] (.alt (Plan.seq [4, 8, 9, 10, 11, 12, 13] (.done)) (Plan.seq [8] (.alt (Plan.seq [4, 9, 10, 11, 12, 13] (.done)) (Plan.seq [9, 4, 10, 11, 12, 13] (.done))))))) (Plan.seq [8] (.alt (Plan.seq [4, 6, 9, 10, 11, 12, 13] (.done)) (Plan.seq [6] (.alt (Plan.seq [4, 9, 10, 11, 12, 13] (.done)) (Plan.seq [9, 4, 10, 11, 12, 13] (.done))))))))]
/- vitrine/vitrineref05.Diff -/
@[simp] def st44 : List Nat := [11, 22, 33, 39]
@[simp] def pl44 : List (Nat × Plan) := []
/- vitrine/vitrineref05.Right -/
@[simp] def st45 : List Nat := []
@[simp] def pl45 : List (Nat × Plan) := []
/- vitrine/entry.begin -/
@[simp] def st46 : List Nat := [28, 1000012, 2000012, 1000018, 2000018, 1000027, 2000027, 1000033, 2000033]
@[simp] def pl46 : List (Nat × Plan) := [(10, Plan.seq [0, 1, 2, 3, 5, 6, 4, 7, 8, 9] (.done))]
/- vitrine/order.All -/
@[simp] def st47 : List Nat := [30, 39, 43]
@[simp] def pl47 : List (Nat × Plan) := [(7, Plan.seq [1, 2, 3, 4, 5, 6, 7, 8, 0, 9, 10, 11] (.done))]
/- vitrine/entry.look -/
@[simp] def st48 : List Nat := []
@[simp] def pl48 : List (Nat × Plan) := []
/- vitrine/addr.Encode -/
@[simp] def st49 : List Nat := []
@[simp] def pl49 : List (Nat × Plan) := []
/- bytes.Clone -/
@[simp] def st50 : List Nat := []
@[simp] def pl50 : List (Nat × Plan) := []
/- vitrine/vitrineref20.Buffer -/
@[simp] def st51 : List Nat := [23, 45, 56, 62, 71, 85, 86]
@[simp] def pl51 : List (Nat × Plan) := []
/- vitrine/vitrineref04.Encode -/
@[simp] def st52 : List Nat := []
@[simp] def pl52 : List (Nat × Plan) := []
/- vitrine/write.Command -/
@[simp] def st53 : List Nat := [21]
@[simp] def pl53 : List (Nat × Plan) := []
/- vitrine/write.written -/
@[simp] def st54 : List Nat := [58]
@[simp] def pl54 : List (Nat × Plan) := [(3, Plan.seq [0, 1, 2, 3, 4, 5, 6] (.done))]
/- vitrine/erase.Unprotected region 14: 1 forks -/
@[simp] def st55 : List Nat := []
@[simp] def pl55 : List (Nat × Plan) := [(14, Plan.seq [1] (.alt (Plan.seq [0, 2, 3, 4] (.done)) (Plan.seq [2, 0, 3, 4] (.done))))]
/- vitrine/vitrineref16.Is -/
@[simp] def st56 : List Nat := []
@[simp] def pl56 : List (Nat × Plan) := []
/- vitrine/addr.Model -/
@[simp] def st57 : List Nat := []
@[simp] def pl57 : List (Nat × Plan) := []
/- vitrine/vitrineref04.Model -/
@[simp] def st58 : List Nat := []
@[simp] def pl58 : List (Nat × Plan) := []
/- vitrine/vitrineref12.Clear -/
@[simp] def st59 : List Nat := [1000033]
@[simp] def pl59 : List (Nat × Plan) := []
/- vitrine/vitrineref12.Wrap -/
@[simp] def st60 : List Nat := []
@[simp] def pl60 : List (Nat × Plan) := []
/- vitrine/vitrineref12.Put -/
@[simp] def st61 : List Nat := []
@[simp] def pl61 : List (Nat × Plan) := []
/- vitrine/vitrineref12.Set region 1: 5 forks -/
@[simp] def st62 : List Nat := []
@[simp] def pl62 : List (Nat × Plan) := [(1, Plan.seq [0, 1, 2, 4, 5] (.alt (.alt (Plan.seq [3] (.alt (Plan.seq [6, 7, 8, 9, 10] (.done)) (Plan.seq [7, 6, 8, 9, 10] (.done)))) (Plan.seq [6, 7] (.alt (Plan.seq [3, 8, 9, 10] (.done)) (Plan.seq [8, 3, 9, 10] (.done))))) (Plan.seq [7] (.alt (Plan.seq [3, 6, 8, 9, 10] (.done)) (Plan.seq [6] (.alt (Plan.seq [3, 8, 9, 10] (.done)) (Plan.seq [8, 3, 9, 10] (.done))))))))]
/- (vitrine/addr.Size).Cells -/
@[simp] def st63 : List Nat := []
@[simp] def pl63 : List (Nat × Plan) := []
/- vitrine/space.count -/
@[simp] def st64 : List Nat := []
@[simp] def pl64 : List (Nat × Plan) := []
/- vitrine/vitrineref05.Parse -/
@[simp] def st65 : List Nat := [46, 50]
@[simp] def pl65 : List (Nat × Plan) := [(7, Plan.seq [0, 1, 2, 3, 4, 5, 6, 7, 8, 9, 10, 11, 12, 13, 14] (.done))]
/- vitrine/vitrineref04.Decode region 10: 1 forks -/
@[simp] def st66 : List Nat := [38]
@[simp] def pl66 : List (Nat × Plan) := [(5, Plan.seq [0, 1, 2, 3, 4, 5, 6, 7, 8, 9, 10] (.done)), (10, Plan.seq [0, 1, 2, 5, 6] (.alt (Plan.seq [3, 4, 7, 8, 9, 10, 11] (.done)) (Plan.seq [7, 3, 4, 8, 9, 10, 11] (.done))))]
/- (vitrine/addr.Size).Valid -/
@[simp] def st67 : List Nat := []
@[simp] def pl67 : List (Nat × Plan) := []
/- vitrine/addr.rest -/
@[simp] def st68 : List Nat := [13]
@[simp] def pl68 : List (Nat × Plan) := []
/- vitrine/order.Parse$1 -/
@[simp] def st69 : List Nat := []
@[simp] def pl69 : List (Nat × Plan) := []
/- (*vitrine/order.scanner).op -/
@[simp] def st70 : List Nat := []
@[simp] def pl70 : List (Nat × Plan) := []
/- (*vitrine/write.pen).put region 0: 3 forks -/
@[simp] def st71 : List Nat := []
@[simp] def pl71 : List (Nat × Plan) := [(0, Plan.seq [0, 1, 2, 4, 5, 6, 8, 9, 10] (.alt (.alt (Plan.seq [3] (.alt (Plan.seq [7, 11, 12] (.done)) (Plan.seq [11, 7, 12] (.done)))) (Plan.seq [7] (.alt (Plan.seq [3, 11, 12] (.done)) (Plan.seq [11, 3, 12] (.done))))) (Plan.seq [11, 3, 7, 12] (.done))))]
/- (*vitrine/write.pen).to -/
@[simp] def st72 : List Nat := []
@[simp] def pl72 : List (Nat × Plan) := []
/- (*vitrine/write.pen).span region 7: 3 forks -/
@[simp] def st73 : List Nat := [17]
@[simp] def pl73 : List (Nat × Plan) := [(6, Plan.seq [0, 1, 2, 3, 4, 5, 6, 7] (.done)), (7, Plan.seq [0, 1, 2, 4, 5, 7, 8, 9, 10, 11] (.alt (.alt (Plan.seq [3] (.alt (Plan.seq [6, 12, 13] (.done)) (Plan.seq [12, 6, 13] (.done)))) (Plan.seq [6] (.alt (Plan.seq [3, 12, 13] (.done)) (Plan.seq [12, 3, 13] (.done))))) (Plan.seq [12, 3, 6, 13] (.done))))]
/- (*vitrine/write.pen).attribute -/
@[simp] def st74 : List Nat := [16]
@[simp] def pl74 : List (Nat × Plan) := [(4, Plan.seq [0, 1, 2, 3, 4, 5, 6, 7, 8, 9] (.done))]
/- vitrine/write.applied -/
@[simp] def st75 : List Nat := [24]
@[simp] def pl75 : List (Nat × Plan) := []
/- (*vitrine/write.pen).tab -/
@[simp] def st76 : List Nat := []
@[simp] def pl76 : List (Nat × Plan) := [(7, Plan.seq [0, 1, 2, 3, 4, 5, 6, 7, 8, 9] (.done))]
/- (*vitrine/entry.Report).add -/
@[simp] def st77 : List Nat := [31, 1000013, 31]
@[simp] def pl77 : List (Nat × Plan) := [(2, Plan.seq [0, 1, 2, 3, 4, 5, 6, 7, 8, 9, 10, 11] (.done))]
/- (*vitrine/read.sender).addr -/
@[simp] def st78 : List Nat := [17]
@[simp] def pl78 : List (Nat × Plan) := []
/- (*vitrine/space.Space).All$1 -/
@[simp] def st79 : List Nat := []
@[simp] def pl79 : List (Nat × Plan) := []
/- vitrine/addr.Six -/
@[simp] def st80 : List Nat := []
@[simp] def pl80 : List (Nat × Plan) := []
/- vitrine/attr.Bytes -/
@[simp] def st81 : List Nat := [25, 26, 34]
@[simp] def pl81 : List (Nat × Plan) := []
/- vitrine/attr.Pairs -/
@[simp] def st82 : List Nat := [8, 25, 30]
@[simp] def pl82 : List (Nat × Plan) := []
/- vitrine/attr.Diff region 2: 24 forks -/
@[simp] def st83 : List Nat := [27, 32]
@[simp] def pl83 : List (Nat × Plan) := [(2, Plan.seq [0] (.alt (.alt (.alt (Plan.seq [1, 2] (.alt (.alt (Plan.seq [3] (.alt (Plan.seq [4, 5, 6, 7] (.done)) (Plan.seq [5, 4, 6, 7] (.done)))) (Plan.seq [4] (.alt (Plan.seq [3, 5, 6, 7] (.done)) (Plan.seq [5, 3, 6, 7] (.done))))) (Plan.seq [5] (.alt (Plan.seq [3, 4, 6, 7] (.done)) (Plan.seq [4, 3, 6, 7] (.done)))))) (Plan.seq [2] (.alt (.alt (Plan.seq [1] (.alt (.alt (Plan.seq [3] (.alt (Plan.seq [4, 5, 6, 7] (.done)) (Plan.seq [5, 4, 6, 7] (.done)))) (Plan.seq [4] (.alt (Plan.seq [3, 5, 6, 7] (.done)) (Plan.seq [5, 3, 6, 7] (.done))))) (Plan.seq [5] (.alt (Plan.seq [3, 4, 6, 7] (.done)) (Plan.seq [4, 3, 6, 7] (.done)))))) (Plan.seq [4] (.alt (Plan.seq [1] (.alt (Plan.seq [3, 5, 6, 7] (.done)) (Plan.seq [5, 3, 6, 7] (.done)))) (Plan.seq [5, 1, 3, 6, 7] (.done))))) (Plan.seq [5] (.alt (Plan.seq [1] (.alt (Plan.seq [3, 4, 6, 7] (.done)) (Plan.seq [4, 3, 6, 7] (.done)))) (Plan.seq [4, 1, 3, 6, 7] (.done))))))) (Plan.seq [4] (.alt (.alt (Plan.seq [1, 2] (.alt (Plan.seq [3, 5, 6, 7] (.done)) (Plan.seq [5, 3, 6, 7] (.done)))) (Plan.seq [2] (.alt (Plan.seq [1] (.alt (Plan.seq [3, 5, 6, 7] (.done)) (Plan.seq [5, 3, 6, 7] (.done)))) (Plan.seq [5, 1, 3, 6, 7] (.done))))) (Plan.seq [5] (.alt (Plan.seq [1, 2, 3, 6, 7] (.done)) (Plan.seq [2, 1, 3, 6, 7] (.done))))))) (Plan.seq [5] (.alt (.alt (Plan.seq [1, 2] (.alt (Plan.seq [3, 4, 6, 7] (.done)) (Plan.seq [4, 3, 6, 7] (.done)))) (Plan.seq [2] (.alt (Plan.seq [1] (.alt (Plan.seq [3, 4, 6, 7] (.done)) (Plan.seq [4, 3, 6, 7] (.done)))) (Plan.seq [4, 1, 3, 6, 7] (.done))))) (Plan.seq [4] (.alt (Plan.seq [1, 2, 3, 6, 7] (.done)) (Plan.seq [2, 1, 3, 6, 7] (.done)))))))), (8, Plan.seq [0, 1, 2, 3, 4] (.done))]
/- vitrine/order.Is -/
@[simp] def st84 : List Nat := []
@[simp] def pl84 : List (Nat × Plan) := []
/- vitrine/addr.Decode region 10: 1 forks -/
@[simp] def st85 : List Nat := [42]
@[simp] def pl85 : List (Nat × Plan) := [(5, Plan.seq [0, 1, 2, 3, 4, 5, 6, 7, 8, 9, 10] (.done)), (10, Plan.seq [0, 1, 2, 5, 6] (.alt (Plan.seq [3, 4, 7, 8, 9, 10, 11] (.done)) (Plan.seq [7, 3, 4, 8, 9, 10, 11] (.done))))]
/- (vitrine/attr.Pair).Apply -/
@[simp] def st86 : List Nat := [12]
@[simp] def pl86 : List (Nat × Plan) := []
/- vitrine/vitrineref20.pieces -/
@[simp] def st87 : List Nat := [21, 29, 30, 31]
@[simp] def pl87 : List (Nat × Plan) := []
/- vitrine/vitrineref05.Six -/
@[simp] def st88 : List Nat := [11]
@[simp] def pl88 : List (Nat × Plan) := []
/- vitrine/vitrineref20.applied -/
@[simp] def st89 : List Nat := []
@[simp] def pl89 : List (Nat × Plan) := []
/- vitrine/vitrineref04.Six -/
@[simp] def st90 : List Nat := []
@[simp] def pl90 : List (Nat × Plan) := []
/- vitrine/field.Unmodify -/
@[simp] def st91 : List Nat := []
@[simp] def pl91 : List (Nat × Plan) := []
/- (*vitrine/space.Space).Formatted -/
@[simp] def st92 : List Nat := []
@[simp] def pl92 : List (Nat × Plan) := []
/- vitrine/erase.all -/
@[simp] def st93 : List Nat := []
@[simp] def pl93 : List (Nat × Plan) := []
/- vitrine/field.Fields -/
@[simp] def st94 : List Nat := []
@[simp] def pl94 : List (Nat × Plan) := []
/- vitrine/field.Places -/
@[simp] def st95 : List Nat := []
@[simp] def pl95 : List (Nat × Plan) := []
/- (*vitrine/space.Space).Put region 1: 1 forks -/
@[simp] def st96 : List Nat := []
@[simp] def pl96 : List (Nat × Plan) := [(1, Plan.seq [0, 1, 2, 4, 5, 6, 7, 8] (.alt (Plan.seq [3, 9, 10, 11] (.done)) (Plan.seq [9, 3, 10, 11] (.done))))]
/- vitrine/field.Next -/
@[simp] def st97 : List Nat := []
@[simp] def pl97 : List (Nat × Plan) := []
/- vitrine/vitrineref16.Name -/
@[simp] def st98 : List Nat := []
@[simp] def pl98 : List (Nat × Plan) := []
/- vitrine/vitrineref04.Cells -/
@[simp] def st99 : List Nat := []
@[simp] def pl99 : List (Nat × Plan) := []
/- vitrine/vitrineref04.Wrap -/
@[simp] def st100 : List Nat := []
@[simp] def pl100 : List (Nat × Plan) := []
/- vitrine/vitrineref12.At region 1: 1 forks -/
@[simp] def st101 : List Nat := []
@[simp] def pl101 : List (Nat × Plan) := [(1, Plan.seq [0, 1, 2, 4, 5] (.alt (Plan.seq [3, 6, 7, 8, 9] (.done)) (Plan.seq [6, 3, 7, 8, 9] (.done))))]
/- vitrine/vitrineref12.Fit -/
@[simp] def st102 : List Nat := []
@[simp] def pl102 : List (Nat × Plan) := []
/- vitrine/vitrineref04.Unsix -/
@[simp] def st103 : List Nat := [12]
@[simp] def pl103 : List (Nat × Plan) := []
/- (*vitrine/order.scanner).text -/
@[simp] def st104 : List Nat := []
@[simp] def pl104 : List (Nat × Plan) := []
/- (*vitrine/order.scanner).take -/
@[simp] def st105 : List Nat := [36, 19]
@[simp] def pl105 : List (Nat × Plan) := []
/- (*vitrine/order.scanner).addr -/
@[simp] def st106 : List Nat := [23]
@[simp] def pl106 : List (Nat × Plan) := []
/- (*vitrine/order.scanner).character -/
@[simp] def st107 : List Nat := [12]
@[simp] def pl107 : List (Nat × Plan) := []
/- (*vitrine/order.scanner).pair -/
@[simp] def st108 : List Nat := []
@[simp] def pl108 : List (Nat × Plan) := [(2, Plan.seq [0, 1, 2, 3, 4, 5, 6, 7, 8] (.done))]
/- (*vitrine/order.scanner).pairs -/
@[simp] def st109 : List Nat := [23]
@[simp] def pl109 : List (Nat × Plan) := []
/- (*vitrine/write.pen).cell -/
@[simp] def st110 : List Nat := []
@[simp] def pl110 : List (Nat × Plan) := []
/- (*vitrine/write.pen).next region 0: 1 forks -/
@[simp] def st111 : List Nat := []
@[simp] def pl111 : List (Nat × Plan) := [(0, Plan.seq [0, 1, 2, 3, 4, 6, 7, 8] (.alt (Plan.seq [5, 9, 10, 11, 12, 13, 14] (.done)) (Plan.seq [9, 10, 5, 11, 12, 13, 14] (.done))))]
/- vitrine/erase.Range -/
@[simp] def st112 : List Nat := []
@[simp] def pl112 : List (Nat × Plan) := []
/- vitrine/erase.Repeat -/
@[simp] def st113 : List Nat := []
@[simp] def pl113 : List (Nat × Plan) := []
/- vitrine/addr.zone -/
@[simp] def st114 : List Nat := []
@[simp] def pl114 : List (Nat × Plan) := []
/- (vitrine/attr.Pair).Check -/
@[simp] def st115 : List Nat := []
@[simp] def pl115 : List (Nat × Plan) := []
/- vitrine/attr.looks -/
@[simp] def st116 : List Nat := []
@[simp] def pl116 : List (Nat × Plan) := []
/- vitrine/order.Name -/
@[simp] def st117 : List Nat := []
@[simp] def pl117 : List (Nat × Plan) := []
/- vitrine/addr.Unsix -/
@[simp] def st118 : List Nat := [11]
@[simp] def pl118 : List (Nat × Plan) := []
/- vitrine/vitrineref05.Bits -/
@[simp] def st119 : List Nat := []
@[simp] def pl119 : List (Nat × Plan) := []
/- vitrine/vitrineref05.Of -/
@[simp] def st120 : List Nat := []
@[simp] def pl120 : List (Nat × Plan) := []
/- vitrine/vitrineref05.Apply -/
@[simp] def st121 : List Nat := []
@[simp] def pl121 : List (Nat × Plan) := []
/- vitrine/vitrineref04.Mod -/
@[simp] def st122 : List Nat := []
@[simp] def pl122 : List (Nat × Plan) := []
/- vitrine/vitrineref01.Num -/
@[simp] def st123 : List Nat := [31]
@[simp] def pl123 : List (Nat × Plan) := []
/- (*vitrine/space.Space).Attrs -/
@[simp] def st124 : List Nat := []
@[simp] def pl124 : List (Nat × Plan) := []
/- vitrine/field.Fields$1 region 3: 2 forks -/
@[simp] def st125 : List Nat := []
@[simp] def pl125 : List (Nat × Plan) := [(3, Plan.tail 7 (Plan.seq [1, 2, 3] (.alt (Plan.seq [0, 4, 5, 6] (.done)) (Plan.seq [4, 5] (.alt (Plan.seq [0, 6] (.done)) (Plan.seq [6, 0] (.done)))))))]
/- vitrine/attr.Of -/
@[simp] def st126 : List Nat := []
@[simp] def pl126 : List (Nat × Plan) := []
/- vitrine/field.Places$1 -/
@[simp] def st127 : List Nat := []
@[simp] def pl127 : List (Nat × Plan) := []
/- vitrine/field.find -/
@[simp] def st128 : List Nat := [22]
@[simp] def pl128 : List (Nat × Plan) := []
/- vitrine/vitrineref04.Valid -/
@[simp] def st129 : List Nat := []
@[simp] def pl129 : List (Nat × Plan) := []
/- (*vitrine/order.scanner).fail -/
@[simp] def st130 : List Nat := []
@[simp] def pl130 : List (Nat × Plan) := []
/- vitrine/attr.Parse -/
@[simp] def st131 : List Nat := [49, 50, 54, 55]
@[simp] def pl131 : List (Nat × Plan) := [(8, Plan.seq [0, 1, 2, 3, 4, 5, 6, 7, 8, 9, 10, 11] (.done))]
/- (vitrine/addr.Size).Span -/
@[simp] def st132 : List Nat := []
@[simp] def pl132 : List (Nat × Plan) := []
/- vitrine/field.Open -/
@[simp] def st133 : List Nat := []
@[simp] def pl133 : List (Nat × Plan) := []
/- (*vitrine/space.Space).Attrs$1 -/
@[simp] def st134 : List Nat := []
@[simp] def pl134 : List (Nat × Plan) := []
/- vitrine/field.first -/
@[simp] def st135 : List Nat := []
@[simp] def pl135 : List (Nat × Plan) := []
/- (vitrine/addr.Size).Span$1 region 3: 1 forks -/
@[simp] def st136 : List Nat := []
@[simp] def pl136 : List (Nat × Plan) := [(3, Plan.tail 8 (Plan.seq [0, 2, 3, 5] (.alt (Plan.seq [1, 4, 6, 7] (.done)) (Plan.seq [4, 1, 6, 7] (.done)))))]
/- (vitrine/addr.Size).Length region 1: 5 forks -/
@[simp] def st137 : List Nat := [19]
@[simp] def pl137 : List (Nat × Plan) := [(1, Plan.seq [1, 2, 5] (.alt (.alt (Plan.seq [0] (.alt (Plan.seq [3, 4, 6, 7, 8, 9] (.done)) (Plan.seq [4, 3, 6, 7, 8, 9] (.done)))) (Plan.seq [3, 4] (.alt (Plan.seq [0, 6, 7, 8, 9] (.done)) (Plan.seq [6, 0, 7, 8, 9] (.done))))) (Plan.seq [4] (.alt (Plan.seq [0, 3, 6, 7, 8, 9] (.done)) (Plan.seq [3] (.alt (Plan.seq [0, 6, 7, 8, 9] (.done)) (Plan.seq [6, 0, 7, 8, 9] (.done))))))))]
/- vitrine/field.Of -/
@[simp] def st138 : List Nat := []
@[simp] def pl138 : List (Nat × Plan) := []
/- vitrine/field.Start -/
@[simp] def st139 : List Nat := [23]
@[simp] def pl139 : List (Nat × Plan) := []
/- gosem.cut.vars -/
@[simp] def st161 : List Nat := []
@[simp] def pl161 : List (Nat × Plan) := []
end Go.Proofs.YtnlggjbcdienfaaGreatDoor
/-
  What bytes and events are as abstract values; the reader's pure model.
-/
namespace Go.Proofs.YtnlggjbcdienfaaGreatDoor
open Go Go.AL

theorem follows : Tryz.prog.follows .mixedOrders = true := by kernel_rfl

def byteA (b : UInt8) : AV := .lit (.int .u8 (b.toNat : Int))
def bytesA (l : List UInt8) : List AV := l.map byteA
@[simp] theorem bytesA_length (l : List UInt8) : (bytesA l).length = l.length := by simp [bytesA]
theorem bytesA_append (l k : List UInt8) : bytesA (l ++ k) = bytesA l ++ bytesA k := by simp [bytesA]
theorem bytesA_nil : bytesA [] = [] := rfl
theorem bytesOf_bytesA (l : List UInt8) : bytesOf (bytesA l) = some l := by
  induction l with
  | nil => rfl
  | cons b l ih =>
    have hb : AL.byteOf (byteA b) = some b := by simp [byteA, AL.byteOf]
    simp only [bytesOf, bytesA, List.map_cons, List.mapM_cons] at ih ⊢
    rw [hb, ih]; rfl
theorem bytesA_get (l : List UInt8) (i : Nat) : (bytesA l)[i]? = (l[i]?).map byteA := by simp [bytesA]

/-- A place and the characters from there on. -/
structure En where
  addr : Int
  text : List UInt8
  deriving DecidableEq
/-- What came. -/
structure Rp where
  aid : UInt8
  short : Bool
  cursor : Int
  es : List En
  deriving DecidableEq
def enA (e : En) : AV := .agg [.lit (.int .i64 e.addr), .list false 1 (bytesA e.text)]
def ensA (l : List En) : List AV := l.map enA
@[simp] theorem ensA_length (l : List En) : (ensA l).length = l.length := by simp [ensA]
theorem ensA_append (l k : List En) : ensA (l ++ k) = ensA l ++ ensA k := by simp [ensA]
theorem ensA_get (l : List En) (i : Nat) : (ensA l)[i]? = (l[i]?).map enA := by simp [ensA]
def rpA (r : Rp) : AV := .agg [byteA r.aid, .lit (.bool r.short), .lit (.int .i64 r.cursor), .list false 2 (ensA r.es)]

theorem byte_eq (b c : UInt8) : ((b.toNat : Int) == (c.toNat : Int)) = (b == c) := by
  rw [Bool.eq_iff_iff, beq_iff_eq, beq_iff_eq]
  constructor
  · intro h; exact UInt8.toNat_inj.1 (by omega)
  · rintro rfl; rfl
theorem le_of_eq {a b : AV} (h : a = b) : a.le b := h ▸ AV.le_refl a
/-- A byte, as the operations have it. -/
theorem byte_lt (b : UInt8) : (b.toNat : Int) < 256 := by have := b.toNat_lt; omega
theorem take_succ_map {α : Type} (f : α → AV) (l : List α) (i : Nat) (h : i < l.length) : (l.take (i + 1)).map f = (l.take i).map f ++ [f l[i]] := by
  rw [List.take_succ_eq_append_getElem h, List.map_append]; rfl
theorem flat_bytesA (l : List UInt8) : flat (bytesA l) = bytesA l := by
  induction l with
  | nil => rfl
  | cons b l ih => simp only [flat, bytesA, List.map_cons, List.flatMap_cons] at ih ⊢; rw [ih]; rfl
theorem bytesA_take (l : List UInt8) (n : Nat) : (bytesA l).take n = bytesA (l.take n) := by simp [bytesA]
theorem bytesA_drop (l : List UInt8) (n : Nat) : (bytesA l).drop n = bytesA (l.drop n) := by simp [bytesA]
theorem drop1_bytesA (l : List UInt8) : (bytesA l).map AV.drop1 = bytesA l := by
  simp only [bytesA, List.map_map]; rfl

/-- A row of bytes that is an object. -/
def rowA (p cap : Nat) (l : List UInt8) : AV := .lit (.slice (some ⟨p, 0, none⟩) l.length cap)

theorem clone_calls (o : Bool) (l : List UInt8) (σ : Store) (hl : l.length ≤ 140737488355328) :
    ACalls Tryz.prog 50 [.list o 1 (bytesA l)] σ fun v σ' => v = .list true 1 (bytesA l) ∧ σ' = σ := by
  refine ACalls.of_awp follows (st := st50) (plans := pl50) (n := 8) Tryz.func50 rfl (by kernel_rfl) (by kernel_rfl) (by kernel_rfl) ?_
  simp
  refine ⟨⟨by omega, by omega⟩, fun h => ?_⟩
  rw [h]; exact AV.le_refl _

theorem toList_mk (l : List UInt8) : (ByteArray.mk l.toArray).toList = l := by
  rw [ByteArray.toList_eq]
theorem same_calls (o o' : Bool) (l k : List UInt8) (σ : Store) :
    ACalls Tryz.prog 21 [.list o 1 (bytesA l), .list o' 1 (bytesA k)] σ fun v σ' => v = .lit (.bool (l == k)) ∧ σ' = σ := by
  refine ACalls.of_awp follows (st := st21) (plans := pl21) (n := 10) Tryz.func21 rfl (by kernel_rfl) (by kernel_rfl) (by kernel_rfl) ?_
  simp [bytesOf_bytesA]

end Go.Proofs.YtnlggjbcdienfaaGreatDoor
/-
  Codes: six bits as a byte, addresses, which bytes are orders.
-/
namespace Go.Proofs.YtnlggjbcdienfaaGreatDoor
open Go Go.AL

def isOrd (b : UInt8) : Bool := [5, 8, 17, 18, 19, 29, 40, 41, 44, 60].contains b.toNat
def nameB (k : Nat) : ByteArray := if k = 0 then ⟨#[84, 101, 120, 116]⟩ else if k = 5 then ⟨#[80, 84]⟩ else if k = 8 then ⟨#[71, 69]⟩ else if k = 17 then ⟨#[83, 66, 65]⟩ else if k = 18 then ⟨#[69, 85, 65]⟩ else if k = 19 then ⟨#[73, 67]⟩ else if k = 29 then ⟨#[83, 70]⟩ else if k = 40 then ⟨#[83, 65]⟩ else if k = 41 then ⟨#[83, 70, 69]⟩ else if k = 44 then ⟨#[77, 70]⟩ else if k = 60 then ⟨#[82, 65]⟩ else ⟨#[]⟩

set_option maxRecDepth 4000 in
theorem name_calls (k : Nat) (σ : Store) : ACalls Tryz.prog 117 [.lit (.int .i64 k)] σ fun v σ' => v = .lit (.string (nameB k)) ∧ σ' = σ := by
  refine ACalls.of_awp follows (st := st117) (plans := pl117) (n := 26) Tryz.func117 rfl (by kernel_rfl) (by kernel_rfl) (by kernel_rfl) ?_
  by_cases h0 : k = 0
  · subst h0; simp [nameB]
  by_cases h5 : k = 5
  · subst h5; simp [nameB]
  have g5 : ¬ (k : Int) = 5 := by omega
  by_cases h8 : k = 8
  · subst h8; simp [nameB]
  have g8 : ¬ (k : Int) = 8 := by omega
  by_cases h17 : k = 17
  · subst h17; simp [nameB]
  have g17 : ¬ (k : Int) = 17 := by omega
  by_cases h18 : k = 18
  · subst h18; simp [nameB]
  have g18 : ¬ (k : Int) = 18 := by omega
  by_cases h19 : k = 19
  · subst h19; simp [nameB]
  have g19 : ¬ (k : Int) = 19 := by omega
  by_cases h29 : k = 29
  · subst h29; simp [nameB]
  have g29 : ¬ (k : Int) = 29 := by omega
  by_cases h40 : k = 40
  · subst h40; simp [nameB]
  have g40 : ¬ (k : Int) = 40 := by omega
  by_cases h41 : k = 41
  · subst h41; simp [nameB]
  have g41 : ¬ (k : Int) = 41 := by omega
  by_cases h44 : k = 44
  · subst h44; simp [nameB]
  have g44 : ¬ (k : Int) = 44 := by omega
  by_cases h60 : k = 60
  · subst h60; simp [nameB]
  have g60 : ¬ (k : Int) = 60 := by omega
  simp [nameB, h0, h5, h8, h17, h18, h19, h29, h40, h41, h44, h60, g5, g8, g17, g18, g19, g29, g40, g41, g44, g60]

theorem all_bytes {p : UInt8 → Prop} (h : ∀ n : Fin 256, p (UInt8.ofNat n.val)) (b : UInt8) : p b := by
  have := h ⟨b.toNat, b.toNat_lt⟩
  simpa using this
theorem wrapB (b : UInt8) : IntKind.i64.wrap (b.toNat : Int) = (b.toNat : Int) := by have := b.toNat_lt; exact wrap_i64 (by omega) (by omega)
theorem ord_name (b : UInt8) : b.toNat ≠ 0 → (!(nameB b.toNat).toList.isEmpty) = isOrd b :=
  all_bytes (p := fun b => b.toNat ≠ 0 → (!(nameB b.toNat).toList.isEmpty) = isOrd b) (by decide +kernel) b

set_option maxRecDepth 4000 in
theorem is_calls (b : UInt8) (σ : Store) : ACalls Tryz.prog 84 [byteA b] σ fun v σ' => v = .lit (.bool (isOrd b)) ∧ σ' = σ := by
  refine ACalls.of_awp follows (st := st84) (plans := pl84) (n := 11) Tryz.func84 rfl (by kernel_rfl) (by kernel_rfl) (by kernel_rfl) ?_
  by_cases h0 : b.toNat = 0
  · have : isOrd b = false := by simp [isOrd, h0]
    simp [byteA, h0, this]
  · have h1 := ord_name b h0
    simp [byteA, h0, wrapB]
    refine callK.of (name_calls b.toNat σ) ?_
    rintro v σ' ⟨rfl, rfl⟩
    simp [h0, h1]

theorem fdiv16 (n : Nat) : (n : Int).fdiv (2 ^ min 4 IntKind.i64.bits) = ((n / 16 : Nat) : Int) := by cases n <;> rfl
theorem fdiv64 (n : Nat) : (n : Int).fdiv (2 ^ min 6 IntKind.i64.bits) = ((n / 64 : Nat) : Int) := by cases n <;> rfl
def zm (q : Nat) : UInt8 := if q = 0 then 64 else if q = 1 then 80 else if q = 2 then 96 else 112
def zl (q : Nat) : UInt8 := if q = 0 then 192 else if q = 1 then 208 else if q = 2 then 224 else 240
def zf (q : Nat) : Nat := if q = 0 then 1 else if q = 1 then 1 else if q = 2 then 2 else 0
set_option maxRecDepth 4000 in
theorem zone_calls (r : Nat) (σ : Store) : ACalls Tryz.prog 114 [.lit (.int .i64 r)] σ fun v σ' => v = .tuple [byteA (zm (r / 16)), byteA (zl (r / 16)), .lit (.int .i64 (zf (r / 16))), .lit (.int .i64 9)] ∧ σ' = σ := by
  refine ACalls.of_awp follows (st := st114) (plans := pl114) (n := 14) Tryz.func114 rfl (by kernel_rfl) (by kernel_rfl) (by kernel_rfl) ?_
  obtain ⟨q, hq⟩ : ∃ q, r / 16 = q := ⟨_, rfl⟩
  have hf : (r : Int).fdiv (2 ^ min 4 IntKind.i64.bits) = (q : Int) := by rw [fdiv16, hq]
  rw [hq]
  clear hq
  by_cases h0 : q = 0
  · subst h0; simp [hf, zm, zl, zf, byteA]
  · by_cases h1 : q = 1
    · subst h1; simp [hf, zm, zl, zf, byteA]
    · by_cases h2 : q = 2
      · subst h2; simp [hf, zm, zl, zf, byteA]
      · have e1 : ¬ (q : Int) = 1 := by omega
        have e2 : ¬ (q : Int) = 2 := by omega
        simp [hf, h0, h1, h2, e1, e2, zm, zl, zf, byteA]

/-- Six bits, as a byte. -/
def sixR (r : Nat) : UInt8 := if zf (r / 16) ≤ r % 16 ∧ r % 16 ≤ 9 then zl (r / 16) ||| UInt8.ofNat (r % 16) else zm (r / 16) ||| UInt8.ofNat (r % 16)
def six (n : Nat) : UInt8 := sixR (n % 64)
theorem and63 (n : Nat) (hn : n < 4096) : pureBin .and (.int .i64 (n : Int)) (.int .i64 63) = some (.int .i64 ((n % 64 : Nat) : Int)) := by
  have e3 : n &&& 63 = n % 64 := Nat.and_two_pow_sub_one_eq_mod n 6
  have := and_i64 n 63 (by omega) (by omega)
  rw [e3] at this; exact this
theorem and15 (n : Nat) (hn : n < 4096) : pureBin .and (.int .i64 (n : Int)) (.int .i64 15) = some (.int .i64 ((n % 16 : Nat) : Int)) := by
  have e3 : n &&& 15 = n % 16 := Nat.and_two_pow_sub_one_eq_mod n 4
  have := and_i64 n 15 (by omega) (by omega)
  rw [e3] at this; exact this

set_option maxRecDepth 4000 in
theorem six_calls (n : Nat) (hn : n < 4096) (σ : Store) : ACalls Tryz.prog 80 [.lit (.int .i64 n)] σ fun v σ' => v = byteA (six n) ∧ σ' = σ := by
  refine ACalls.of_awp follows (st := st80) (plans := pl80) (n := 35) Tryz.func80 rfl (by kernel_rfl) (by kernel_rfl) (by kernel_rfl) ?_
  obtain ⟨r, hr⟩ : ∃ r, n % 64 = r := ⟨_, rfl⟩
  have h1 := and63 n hn
  rw [hr] at h1
  have hr64 : r < 64 := by omega
  have h2 := and15 r (by omega)
  obtain ⟨d, hd⟩ : ∃ d, r % 16 = d := ⟨_, rfl⟩
  rw [hd] at h2
  have hd16 : d < 16 := by omega
  have hz := zone_calls r σ
  obtain ⟨M, hM⟩ : ∃ M, zm (r / 16) = M := ⟨_, rfl⟩
  obtain ⟨L, hL⟩ : ∃ L, zl (r / 16) = L := ⟨_, rfl⟩
  obtain ⟨F, hF⟩ : ∃ F, zf (r / 16) = F := ⟨_, rfl⟩
  obtain ⟨X, hX⟩ : ∃ X, six n = X := ⟨_, rfl⟩
  obtain ⟨B, hB⟩ : ∃ B, UInt8.ofNat d = B := ⟨_, rfl⟩
  have hdB : IntKind.u8.wrap (d : Int) = (B.toNat : Int) := by
    rw [wrap_u8 (by omega) (by omega), ← hB, UInt8.toNat_ofNat']; omega
  have hX1 : F ≤ d ∧ d ≤ 9 → L ||| B = X := fun h => by
    rw [← hX, six, hr, sixR, hF, hd, if_pos h, hL, hB]
  have hX2 : ¬ (F ≤ d ∧ d ≤ 9) → M ||| B = X := fun h => by
    rw [← hX, six, hr, sixR, hF, hd, if_neg h, hM, hB]
  rw [hM, hL, hF] at hz
  rw [hX]
  by_cases c1 : F ≤ d
  · by_cases c2 : d ≤ 9
    · have c2' : (d : Int) ≤ 9 := Int.ofNat_le.2 c2
      have e := hX1 ⟨c1, c2⟩
      simp [-e_pureBin_8, h1]
      refine callK.of hz ?_
      rintro v σ' ⟨rfl, rfl⟩
      simp [-e_pureBin_8, -e_pureBin_9, or_u8, h2, c1, c2', byteA, hdB, e]
    · have c2' : ¬ (d : Int) ≤ 9 := fun h => c2 (Int.ofNat_le.1 h)
      have e := hX2 (fun h => c2 h.2)
      simp [-e_pureBin_8, h1]
      refine callK.of hz ?_
      rintro v σ' ⟨rfl, rfl⟩
      simp [-e_pureBin_8, -e_pureBin_9, or_u8, h2, c1, c2', byteA, hdB, e]
  · have e := hX2 (fun h => c1 h.1)
    simp [-e_pureBin_8, h1]
    refine callK.of hz ?_
    rintro v σ' ⟨rfl, rfl⟩
    simp [-e_pureBin_8, -e_pureBin_9, or_u8, h2, c1, byteA, hdB, e]
set_option maxRecDepth 4000 in
theorem mod_calls (n : Nat) (_hn : n < 4096) (σ : Store) : ACalls Tryz.prog 122 [.lit (.int .i64 n), .lit (.int .i64 64)] σ fun v σ' => v = .lit (.int .i64 (n % 64 : Nat)) ∧ σ' = σ := by
  refine ACalls.of_awp follows (st := st122) (plans := pl122) (n := 14) Tryz.func122 rfl (by kernel_rfl) (by kernel_rfl) (by kernel_rfl) ?_
  have h1 : IntKind.i64.wrap ((n : Int).tmod 64 + 64) = (n : Int).tmod 64 + 64 := by
    have : (n : Int).tmod 64 = ((n % 64 : Nat) : Int) := rfl
    rw [this]; exact wrap_i64 (by omega) (by omega)
  have h2 : ((n : Int).tmod 64 + 64).tmod 64 = ((n : Int) % 64) := by
    have : (n : Int).tmod 64 = ((n % 64 : Nat) : Int) := rfl
    rw [this]
    have e : ((n % 64 : Nat) : Int) + 64 = ((n % 64 + 64 : Nat) : Int) := by omega
    rw [e]
    have : ((n % 64 + 64 : Nat) : Int).tmod 64 = (((n % 64 + 64) % 64 : Nat) : Int) := rfl
    rw [this]; omega
  simp [h1, h2]
end Go.Proofs.YtnlggjbcdienfaaGreatDoor
