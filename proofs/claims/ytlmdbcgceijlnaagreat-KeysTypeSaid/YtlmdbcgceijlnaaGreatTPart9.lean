/-
  Of each function: which temporaries take a right to append with the value; the plans of the regions that draw their order. Written by a program of mine.
-/
import Derived.Test.YtlmdbcgceijlnaaGreatTPart8
namespace Go.Proofs.YtlmdbcgceijlnaaGreat
open Go Go.AL
/- vitrine/vitrinelaw18.KeysNumeric -/
@[simp] def st3 : List Nat := []
@[simp] def pl3 : List (Nat × Plan) := []
/- vitrine/vitrinelaw18.KeysType region 24: 1 forks -/
@[simp] def st4 : List Nat := [80]
@[simp] def pl4 : List (Nat × Plan) := [(24, Plan.seq [0, 1, 2, 3, 4, 5, 6, 9, 10, 11] (.alt (Plan.seq [7, 8, 12, 13, 14] (.done)) (Plan.seq [12, 7, 8, 13, 14] (.done))))]
/- vitrine/vitrinelaw18.KeysSelect -/
@[simp] def st5 : List Nat := []
@[simp] def pl5 : List (Nat × Plan) := []
/- vitrine/vitrinelaw18.KeysSafe region 21: 1 forks -/
@[simp] def st6 : List Nat := []
@[simp] def pl6 : List (Nat × Plan) := [(21, Plan.seq [0, 1, 2, 4, 5, 6] (.alt (Plan.seq [3, 7, 8, 9] (.done)) (Plan.seq [7, 3, 8, 9] (.done)))), (29, Plan.seq [0, 1, 2, 3, 4, 5, 6, 7, 8, 9, 10, 11, 12, 13, 14, 15] (.done))]
/- vitrine/vitrinelaw18.KeysPlay region 17: 23 forks -/
@[simp] def st7 : List Nat := []
@[simp] def pl7 : List (Nat × Plan) := [(17, Plan.seq [0, 1, 2, 3, 4, 5, 6, 7, 8, 9, 11, 12, 13] (.alt (Plan.seq [10, 14, 15, 16, 17, 18, 20, 21, 22] (.alt (Plan.seq [19, 23, 24, 25, 26, 27, 29, 30, 31] (.alt (Plan.seq [28, 32, 33, 34, 35, 36, 38, 39, 40] (.alt (Plan.seq [37, 41, 42, 43, 44, 45, 46] (.done)) (Plan.seq [41, 42, 43] (.alt (Plan.seq [37, 44, 45, 46] (.done)) (Plan.seq [44, 37, 45, 46] (.done)))))) (Plan.seq [32, 28, 33, 34, 35, 36, 38, 39, 40] (.alt (Plan.seq [37, 41, 42, 43, 44, 45, 46] (.done)) (Plan.seq [41, 42, 43] (.alt (Plan.seq [37, 44, 45, 46] (.done)) (Plan.seq [44, 37, 45, 46] (.done)))))))) (Plan.seq [23, 19, 24, 25, 26, 27, 29, 30, 31] (.alt (Plan.seq [28, 32, 33, 34, 35, 36, 38, 39, 40] (.alt (Plan.seq [37, 41, 42, 43, 44, 45, 46] (.done)) (Plan.seq [41, 42, 43] (.alt (Plan.seq [37, 44, 45, 46] (.done)) (Plan.seq [44, 37, 45, 46] (.done)))))) (Plan.seq [32, 28, 33, 34, 35, 36, 38, 39, 40] (.alt (Plan.seq [37, 41, 42, 43, 44, 45, 46] (.done)) (Plan.seq [41, 42, 43] (.alt (Plan.seq [37, 44, 45, 46] (.done)) (Plan.seq [44, 37, 45, 46] (.done)))))))))) (Plan.seq [14, 10, 15, 16, 17, 18, 20, 21, 22] (.alt (Plan.seq [19, 23, 24, 25, 26, 27, 29, 30, 31] (.alt (Plan.seq [28, 32, 33, 34, 35, 36, 38, 39, 40] (.alt (Plan.seq [37, 41, 42, 43, 44, 45, 46] (.done)) (Plan.seq [41, 42, 43] (.alt (Plan.seq [37, 44, 45, 46] (.done)) (Plan.seq [44, 37, 45, 46] (.done)))))) (Plan.seq [32, 28, 33, 34, 35, 36, 38, 39, 40] (.alt (Plan.seq [37, 41, 42, 43, 44, 45, 46] (.done)) (Plan.seq [41, 42, 43] (.alt (Plan.seq [37, 44, 45, 46] (.done)) (Plan.seq [44, 37, 45, 46] (.done)))))))) (Plan.seq [23, 19, 24, 25, 26, 27, 29, 30, 31] (.alt (Plan.seq [28, 32, 33, 34, 35, 36, 38, 39, 40] (.alt (Plan.seq [37, 41, 42, 43, 44, 45, 46] (.done)) (Plan.seq [41, 42, 43] (.alt (Plan.seq [37, 44, 45, 46] (.done)) (Plan.seq [44, 37, 45, 46] (.done)))))) (Plan.seq [32, 28, 33, 34, 35, 36, 38, 39, 40] (.alt (Plan.seq [37, 41, 42, 43, 44, 45, 46] (.done)) (Plan.seq [41, 42, 43] (.alt (Plan.seq [37, 44, 45, 46] (.done)) (Plan.seq [44, 37, 45, 46] (.done))))))))))))]
/- vitrine/vitrinelaw18.KeysLocked -/
@[simp] def st8 : List Nat := []
@[simp] def pl8 : List (Nat × Plan) := []
/- vitrine/vitrinelaw18.awake -/
@[simp] def st9 : List Nat := []
@[simp] def pl9 : List (Nat × Plan) := []
/- vitrine/vitrinelaw18.lay -/
@[simp] def st10 : List Nat := [92, 93]
@[simp] def pl10 : List (Nat × Plan) := [(1, Plan.seq [0, 1, 2, 3, 5, 6, 4, 7, 8, 9, 10] (.done))]
/- vitrine/page.New -/
@[simp] def st11 : List Nat := []
@[simp] def pl11 : List (Nat × Plan) := []
/- (*vitrine/keys.Board).Press -/
@[simp] def st12 : List Nat := []
@[simp] def pl12 : List (Nat × Plan) := []
/- (*vitrine/space.Space).At region 3: 1 forks -/
@[simp] def st13 : List Nat := []
@[simp] def pl13 : List (Nat × Plan) := [(3, Plan.seq [0, 1, 2, 4, 5, 6, 7, 8] (.alt (Plan.seq [3, 9, 10, 11, 12] (.done)) (Plan.seq [9, 3, 10, 11, 12] (.done))))]
/- vitrine/class.Numeric -/
@[simp] def st14 : List Nat := []
@[simp] def pl14 : List (Nat × Plan) := []
/- vitrine/vitrineref01.CutText -/
@[simp] def st15 : List Nat := [12]
@[simp] def pl15 : List (Nat × Plan) := []
/- (*vitrine/keys.Board).Type -/
@[simp] def st16 : List Nat := [27, 28, 31]
@[simp] def pl16 : List (Nat × Plan) := []
/- vitrine/vitrineref01.Code -/
@[simp] def st17 : List Nat := [16]
@[simp] def pl17 : List (Nat × Plan) := []
/- vitrine/vitrineref05.Bits -/
@[simp] def st18 : List Nat := []
@[simp] def pl18 : List (Nat × Plan) := []
/- (*vitrine/space.Space).Put region 1: 1 forks -/
@[simp] def st19 : List Nat := []
@[simp] def pl19 : List (Nat × Plan) := [(1, Plan.seq [0, 1, 2, 4, 5, 6, 7, 8] (.alt (Plan.seq [3, 9, 10, 11] (.done)) (Plan.seq [9, 3, 10, 11] (.done))))]
/- vitrine/vitrineref12.Put -/
@[simp] def st20 : List Nat := []
@[simp] def pl20 : List (Nat × Plan) := []
/- vitrine/vitrineref18.Press -/
@[simp] def st21 : List Nat := []
@[simp] def pl21 : List (Nat × Plan) := [(20, Plan.seq [0, 1, 2, 3, 4, 5, 6, 7] (.done))]
/- vitrine/vitrinelaw18.same region 4: 1 forks region 7: 63 forks -/
@[simp] def st22 : List Nat := []
@[simp] def pl22 : List (Nat × Plan) := []
/- (*vitrine/space.Space).Copy -/
@[simp] def st23 : List Nat := []
@[simp] def pl23 : List (Nat × Plan) := []
/- (*vitrine/space.Space).Cursor -/
@[simp] def st24 : List Nat := []
@[simp] def pl24 : List (Nat × Plan) := []
/- (*vitrine/keys.Board).AID -/
@[simp] def st25 : List Nat := []
@[simp] def pl25 : List (Nat × Plan) := []
/- vitrine/vitrineref12.New -/
@[simp] def st26 : List Nat := [18]
@[simp] def pl26 : List (Nat × Plan) := []
/- (*vitrine/space.Space).Model -/
@[simp] def st27 : List Nat := []
@[simp] def pl27 : List (Nat × Plan) := []
/- (*vitrine/space.Space).Alternate -/
@[simp] def st28 : List Nat := []
@[simp] def pl28 : List (Nat × Plan) := []
/- vitrine/vitrineref12.Clear -/
@[simp] def st29 : List Nat := [1000033]
@[simp] def pl29 : List (Nat × Plan) := []
/- vitrine/vitrineref13.Starts -/
@[simp] def st30 : List Nat := [43]
@[simp] def pl30 : List (Nat × Plan) := []
/- vitrine/vitrineref13.Field -/
@[simp] def st31 : List Nat := []
@[simp] def pl31 : List (Nat × Plan) := []
/- (*vitrine/keys.Board).Restore -/
@[simp] def st32 : List Nat := []
@[simp] def pl32 : List (Nat × Plan) := []
/- (*vitrine/keys.Board).Wait -/
@[simp] def st33 : List Nat := []
@[simp] def pl33 : List (Nat × Plan) := []
/- (*vitrine/keys.Board).Lock -/
@[simp] def st34 : List Nat := []
@[simp] def pl34 : List (Nat × Plan) := []
/- (*vitrine/keys.Board).Inserts -/
@[simp] def st35 : List Nat := []
@[simp] def pl35 : List (Nat × Plan) := []
/- (*vitrine/keys.Board).Copy -/
@[simp] def st36 : List Nat := []
@[simp] def pl36 : List (Nat × Plan) := []
/- (*vitrine/space.Space).Same -/
@[simp] def st37 : List Nat := []
@[simp] def pl37 : List (Nat × Plan) := [(3, Plan.seq [0, 1, 2, 3, 4, 5, 6, 7, 8, 9, 10, 11, 12, 13, 14, 15, 16, 17, 18, 19, 20, 21, 22, 23, 24, 25, 26, 27, 28, 29, 30, 31, 32, 33, 34, 35, 36, 37, 38, 39, 40, 41, 42] (.done))]
/- vitrine/vitrinelaw18.pages -/
@[simp] def st38 : List Nat := []
@[simp] def pl38 : List (Nat × Plan) := []
/- vitrine/space.New -/
@[simp] def st39 : List Nat := [14, 20]
@[simp] def pl39 : List (Nat × Plan) := []
/- vitrine/vitrineref12.Do -/
@[simp] def st40 : List Nat := []
@[simp] def pl40 : List (Nat × Plan) := []
/- (*vitrine/space.Space).Clear -/
@[simp] def st41 : List Nat := [1000030]
@[simp] def pl41 : List (Nat × Plan) := []
/- (*vitrine/space.Space).Set region 6: 9 forks -/
@[simp] def st42 : List Nat := []
@[simp] def pl42 : List (Nat × Plan) := [(6, Plan.seq [0, 1, 2, 4, 6, 7, 8, 10] (.alt (.alt (Plan.seq [3] (.alt (Plan.seq [5, 9, 11, 12, 13, 14, 15, 16, 17, 18] (.done)) (Plan.seq [9, 11] (.alt (Plan.seq [5, 12, 13, 14, 15, 16, 17, 18] (.done)) (Plan.seq [12, 5, 13, 14, 15, 16, 17, 18] (.done)))))) (Plan.seq [5, 9, 11, 12] (.alt (Plan.seq [3, 13, 14, 15, 16, 17, 18] (.done)) (Plan.seq [13, 3, 14, 15, 16, 17, 18] (.done))))) (Plan.seq [9, 11] (.alt (.alt (Plan.seq [3] (.alt (Plan.seq [5, 12, 13, 14, 15, 16, 17, 18] (.done)) (Plan.seq [12, 5, 13, 14, 15, 16, 17, 18] (.done)))) (Plan.seq [5, 12] (.alt (Plan.seq [3, 13, 14, 15, 16, 17, 18] (.done)) (Plan.seq [13, 3, 14, 15, 16, 17, 18] (.done))))) (Plan.seq [12] (.alt (Plan.seq [3, 5, 13, 14, 15, 16, 17, 18] (.done)) (Plan.seq [5] (.alt (Plan.seq [3, 13, 14, 15, 16, 17, 18] (.done)) (Plan.seq [13, 3, 14, 15, 16, 17, 18] (.done)))))))))), (7, Plan.seq [0, 1, 2, 3, 4, 5, 6, 7] (.done))]
/- (*vitrine/space.Space).Place -/
@[simp] def st43 : List Nat := []
@[simp] def pl43 : List (Nat × Plan) := []
/- vitrine/keys.New -/
@[simp] def st44 : List Nat := []
@[simp] def pl44 : List (Nat × Plan) := []
/- vitrine/vitrineref18.New -/
@[simp] def st45 : List Nat := []
@[simp] def pl45 : List (Nat × Plan) := []
/- vitrine/page.others -/
@[simp] def st46 : List Nat := []
@[simp] def pl46 : List (Nat × Plan) := []
/- vitrine/keys.AID -/
@[simp] def st47 : List Nat := []
@[simp] def pl47 : List (Nat × Plan) := []
/- (*vitrine/keys.Board).reset -/
@[simp] def st48 : List Nat := []
@[simp] def pl48 : List (Nat × Plan) := []
/- (*vitrine/keys.Board).choose region 6: 1 forks -/
@[simp] def st49 : List Nat := []
@[simp] def pl49 : List (Nat × Plan) := [(6, Plan.seq [0, 1, 2, 4, 5, 6, 7, 8, 9] (.alt (Plan.seq [3, 10, 11, 12, 13] (.done)) (Plan.seq [10, 3, 11, 12, 13] (.done))))]
/- (*vitrine/keys.Board).send -/
@[simp] def st50 : List Nat := []
@[simp] def pl50 : List (Nat × Plan) := []
/- (*vitrine/keys.Board).move -/
@[simp] def st51 : List Nat := []
@[simp] def pl51 : List (Nat × Plan) := []
/- (*vitrine/keys.Board).entered -/
@[simp] def st52 : List Nat := []
@[simp] def pl52 : List (Nat × Plan) := []
/- (vitrine/addr.Size).Wrap -/
@[simp] def st53 : List Nat := []
@[simp] def pl53 : List (Nat × Plan) := []
/- vitrine/class.sign -/
@[simp] def st54 : List Nat := []
@[simp] def pl54 : List (Nat × Plan) := []
/- vitrine/class.Data -/
@[simp] def st55 : List Nat := []
@[simp] def pl55 : List (Nat × Plan) := []
/- vitrine/vitrineref01.Sign -/
@[simp] def st56 : List Nat := []
@[simp] def pl56 : List (Nat × Plan) := []
/- vitrine/vitrineref12.At region 1: 1 forks -/
@[simp] def st57 : List Nat := []
@[simp] def pl57 : List (Nat × Plan) := [(1, Plan.seq [0, 1, 2, 4, 5] (.alt (Plan.seq [3, 6, 7, 8, 9] (.done)) (Plan.seq [6, 3, 7, 8, 9] (.done))))]
/- vitrine/vitrineref12.Set region 1: 5 forks -/
@[simp] def st58 : List Nat := []
@[simp] def pl58 : List (Nat × Plan) := [(1, Plan.seq [0, 1, 2, 4, 5] (.alt (.alt (Plan.seq [3] (.alt (Plan.seq [6, 7, 8, 9, 10] (.done)) (Plan.seq [7, 6, 8, 9, 10] (.done)))) (Plan.seq [6, 7] (.alt (Plan.seq [3, 8, 9, 10] (.done)) (Plan.seq [8, 3, 9, 10] (.done))))) (Plan.seq [7] (.alt (Plan.seq [3, 6, 8, 9, 10] (.done)) (Plan.seq [6] (.alt (Plan.seq [3, 8, 9, 10] (.done)) (Plan.seq [8, 3, 9, 10] (.done))))))))]
/- vitrine/vitrineref18.enter -/
@[simp] def st59 : List Nat := []
@[simp] def pl59 : List (Nat × Plan) := []
/- vitrine/vitrineref15.Do -/
@[simp] def st60 : List Nat := []
@[simp] def pl60 : List (Nat × Plan) := [(16, Plan.seq [0, 1, 2, 3, 4, 5, 6, 7, 8, 9, 10, 11, 12, 13, 14, 15, 16, 17, 18] (.done)), (20, Plan.seq [0, 1, 2, 3, 4, 5, 6, 7, 8, 9, 10, 11, 12, 13] (.done))]
/- vitrine/vitrineref14.Delete -/
@[simp] def st61 : List Nat := []
@[simp] def pl61 : List (Nat × Plan) := []
/- vitrine/vitrineref14.End -/
@[simp] def st62 : List Nat := []
@[simp] def pl62 : List (Nat × Plan) := []
/- vitrine/vitrineref14.Unprotected -/
@[simp] def st63 : List Nat := []
@[simp] def pl63 : List (Nat × Plan) := []
/- vitrine/vitrineref18.choose region 7: 3 forks -/
@[simp] def st64 : List Nat := []
@[simp] def pl64 : List (Nat × Plan) := [(7, Plan.seq [0, 1, 2, 4, 5, 6, 8, 9, 10] (.alt (.alt (Plan.seq [3] (.alt (Plan.seq [7, 11, 12, 13, 14, 15, 16] (.done)) (Plan.seq [11, 7, 12, 13, 14, 15, 16] (.done)))) (Plan.seq [7] (.alt (Plan.seq [3, 11, 12, 13, 14, 15, 16] (.done)) (Plan.seq [11, 3, 12, 13, 14, 15, 16] (.done))))) (Plan.seq [11, 3, 7, 12, 13, 14, 15, 16] (.done))))]
/- vitrine/vitrineref18.AID -/
@[simp] def st65 : List Nat := []
@[simp] def pl65 : List (Nat × Plan) := []
/- vitrine/vitrineref18.send -/
@[simp] def st66 : List Nat := []
@[simp] def pl66 : List (Nat × Plan) := []
/- vitrine/vitrineref18.refuse -/
@[simp] def st67 : List Nat := [12]
@[simp] def pl67 : List (Nat × Plan) := []
/- slices.Clone[[]vitrine/api.Cell,vitrine/api.Cell] -/
@[simp] def st68 : List Nat := [1000005, 1000007]
@[simp] def pl68 : List (Nat × Plan) := []
/- vitrine/vitrineref04.Model -/
@[simp] def st69 : List Nat := []
@[simp] def pl69 : List (Nat × Plan) := []
/- vitrine/vitrineref04.Cells -/
@[simp] def st70 : List Nat := []
@[simp] def pl70 : List (Nat × Plan) := []
/- vitrine/vitrineref12.Attrs -/
@[simp] def st71 : List Nat := [18, 23]
@[simp] def pl71 : List (Nat × Plan) := []
/- vitrine/vitrineref05.Of -/
@[simp] def st72 : List Nat := []
@[simp] def pl72 : List (Nat × Plan) := []
/- slices.Equal[[]vitrine/api.Cell,vitrine/api.Cell] -/
@[simp] def st73 : List Nat := []
@[simp] def pl73 : List (Nat × Plan) := [(6, Plan.seq [0, 1, 2, 3, 4, 5, 6, 7, 8] (.done))]
/- vitrine/addr.Model -/
@[simp] def st74 : List Nat := []
@[simp] def pl74 : List (Nat × Plan) := []
/- vitrine/vitrineref12.Wrap -/
@[simp] def st75 : List Nat := []
@[simp] def pl75 : List (Nat × Plan) := []
/- (vitrine/addr.Size).Cells -/
@[simp] def st76 : List Nat := []
@[simp] def pl76 : List (Nat × Plan) := []
/- vitrine/space.count -/
@[simp] def st77 : List Nat := []
@[simp] def pl77 : List (Nat × Plan) := []
/- vitrine/field.Start -/
@[simp] def st78 : List Nat := [23]
@[simp] def pl78 : List (Nat × Plan) := []
/- vitrine/field.Of -/
@[simp] def st79 : List Nat := []
@[simp] def pl79 : List (Nat × Plan) := []
/- (vitrine/attr.Field).Detectable -/
@[simp] def st80 : List Nat := []
@[simp] def pl80 : List (Nat × Plan) := []
/- (*vitrine/keys.Board).refuse -/
@[simp] def st81 : List Nat := []
@[simp] def pl81 : List (Nat × Plan) := []
/- vitrine/class.Designator -/
@[simp] def st82 : List Nat := []
@[simp] def pl82 : List (Nat × Plan) := []
/- (*vitrine/keys.Board).designate -/
@[simp] def st83 : List Nat := []
@[simp] def pl83 : List (Nat × Plan) := []
/- vitrine/field.Modify -/
@[simp] def st84 : List Nat := []
@[simp] def pl84 : List (Nat × Plan) := []
/- vitrine/cursor.Tab -/
@[simp] def st85 : List Nat := []
@[simp] def pl85 : List (Nat × Plan) := []
/- vitrine/cursor.BackTab -/
@[simp] def st86 : List Nat := []
@[simp] def pl86 : List (Nat × Plan) := []
/- vitrine/cursor.NewLine -/
@[simp] def st87 : List Nat := []
@[simp] def pl87 : List (Nat × Plan) := []
/- vitrine/cursor.Home -/
@[simp] def st88 : List Nat := []
@[simp] def pl88 : List (Nat × Plan) := []
/- vitrine/cursor.Move -/
@[simp] def st89 : List Nat := []
@[simp] def pl89 : List (Nat × Plan) := []
/- (*vitrine/keys.Board).char -/
@[simp] def st90 : List Nat := []
@[simp] def pl90 : List (Nat × Plan) := []
/- (*vitrine/keys.Board).enter -/
@[simp] def st91 : List Nat := []
@[simp] def pl91 : List (Nat × Plan) := [(12, Plan.seq [0, 1, 2, 3, 4, 5, 6] (.done))]
/- (*vitrine/keys.Board).done -/
@[simp] def st92 : List Nat := []
@[simp] def pl92 : List (Nat × Plan) := []
/- vitrine/erase.Delete -/
@[simp] def st93 : List Nat := []
@[simp] def pl93 : List (Nat × Plan) := []
/- vitrine/erase.End -/
@[simp] def st94 : List Nat := []
@[simp] def pl94 : List (Nat × Plan) := []
/- vitrine/erase.Unprotected region 14: 1 forks -/
@[simp] def st95 : List Nat := []
@[simp] def pl95 : List (Nat × Plan) := [(14, Plan.seq [1] (.alt (Plan.seq [0, 2, 3, 4] (.done)) (Plan.seq [2, 0, 3, 4] (.done))))]
/- (vitrine/addr.Size).Valid -/
@[simp] def st96 : List Nat := []
@[simp] def pl96 : List (Nat × Plan) := []
/- vitrine/addr.rest -/
@[simp] def st97 : List Nat := [13]
@[simp] def pl97 : List (Nat × Plan) := []
/- (*vitrine/page.Page).Sign -/
@[simp] def st98 : List Nat := []
@[simp] def pl98 : List (Nat × Plan) := []
/- vitrine/vitrineref01.others -/
@[simp] def st99 : List Nat := []
@[simp] def pl99 : List (Nat × Plan) := []
/- vitrine/vitrineref01.Num -/
@[simp] def st100 : List Nat := [31]
@[simp] def pl100 : List (Nat × Plan) := []
/- vitrine/vitrineref12.Fit -/
@[simp] def st101 : List Nat := []
@[simp] def pl101 : List (Nat × Plan) := []
/- vitrine/vitrineref13.Open -/
@[simp] def st102 : List Nat := []
@[simp] def pl102 : List (Nat × Plan) := []
/- vitrine/vitrineref13.Start -/
@[simp] def st103 : List Nat := []
@[simp] def pl103 : List (Nat × Plan) := []
/- vitrine/vitrineref02.Numeric -/
@[simp] def st104 : List Nat := []
@[simp] def pl104 : List (Nat × Plan) := []
/- vitrine/vitrineref14.Insert -/
@[simp] def st105 : List Nat := []
@[simp] def pl105 : List (Nat × Plan) := [(9, Plan.seq [0, 1, 2, 3, 4, 5, 7, 8, 9, 6, 10, 11] (.done))]
/- vitrine/vitrineref13.Modify -/
@[simp] def st106 : List Nat := []
@[simp] def pl106 : List (Nat × Plan) := []
/- vitrine/vitrineref15.tab -/
@[simp] def st107 : List Nat := []
@[simp] def pl107 : List (Nat × Plan) := []
/- vitrine/vitrineref15.First -/
@[simp] def st108 : List Nat := []
@[simp] def pl108 : List (Nat × Plan) := []
/- vitrine/vitrineref04.At region 3: 5 forks -/
@[simp] def st109 : List Nat := []
@[simp] def pl109 : List (Nat × Plan) := [(3, Plan.seq [0, 2, 3, 4, 7, 8] (.alt (.alt (Plan.seq [1] (.alt (Plan.seq [5, 6, 9, 10, 11, 12] (.done)) (Plan.seq [9, 5, 6, 10, 11, 12] (.done)))) (Plan.seq [5, 9] (.alt (Plan.seq [1, 6, 10, 11, 12] (.done)) (Plan.seq [10, 1, 6, 11, 12] (.done))))) (Plan.seq [9] (.alt (Plan.seq [1, 5, 6, 10, 11, 12] (.done)) (Plan.seq [5] (.alt (Plan.seq [1, 6, 10, 11, 12] (.done)) (Plan.seq [10, 1, 6, 11, 12] (.done))))))))]
/- vitrine/vitrineref04.Move region 3: 5 forks region 4: 10 forks -/
@[simp] def st110 : List Nat := []
@[simp] def pl110 : List (Nat × Plan) := [(3, Plan.seq [0, 1, 4] (.alt (.alt (Plan.seq [2, 3] (.alt (Plan.seq [5, 6, 7, 8, 9, 10] (.done)) (Plan.seq [7, 5, 6, 8, 9, 10] (.done)))) (Plan.seq [3] (.alt (Plan.seq [2] (.alt (Plan.seq [5, 6, 7, 8, 9, 10] (.done)) (Plan.seq [7, 5, 6, 8, 9, 10] (.done)))) (Plan.seq [7, 2, 5, 6, 8, 9, 10] (.done))))) (Plan.seq [7] (.alt (Plan.seq [2, 3, 5, 6, 8, 9, 10] (.done)) (Plan.seq [3, 2, 5, 6, 8, 9, 10] (.done)))))), (4, Plan.seq [1, 2, 5, 6, 7, 10, 11] (.alt (.alt (.alt (Plan.seq [0] (.alt (.alt (Plan.seq [3, 4] (.alt (Plan.seq [8, 9, 12, 13, 14, 15] (.done)) (Plan.seq [12, 13, 8, 9, 14, 15] (.done)))) (Plan.seq [8, 3, 4, 9, 12, 13, 14, 15] (.done))) (Plan.seq [12, 13] (.alt (Plan.seq [3, 4, 8, 9, 14, 15] (.done)) (Plan.seq [8, 3, 4, 9, 14, 15] (.done)))))) (Plan.seq [3, 4] (.alt (.alt (Plan.seq [0] (.alt (Plan.seq [8, 9, 12, 13, 14, 15] (.done)) (Plan.seq [12, 13, 8, 9, 14, 15] (.done)))) (Plan.seq [8, 0, 9, 12, 13, 14, 15] (.done))) (Plan.seq [12, 13] (.alt (Plan.seq [0, 8, 9, 14, 15] (.done)) (Plan.seq [8, 0, 9, 14, 15] (.done))))))) (Plan.seq [8, 0, 3, 4, 9, 12, 13, 14, 15] (.done))) (Plan.seq [12, 13] (.alt (.alt (Plan.seq [0] (.alt (Plan.seq [3, 4, 8, 9, 14, 15] (.done)) (Plan.seq [8, 3, 4, 9, 14, 15] (.done)))) (Plan.seq [3, 4] (.alt (Plan.seq [0, 8, 9, 14, 15] (.done)) (Plan.seq [8, 0, 9, 14, 15] (.done))))) (Plan.seq [8, 0, 3, 4, 9, 14, 15] (.done))))))]
/- vitrine/vitrineref14.Row -/
@[simp] def st111 : List Nat := [29, 47]
@[simp] def pl111 : List (Nat × Plan) := [(6, Plan.seq [0, 1, 2, 3, 4, 5, 6, 7, 8, 9, 10, 11, 12, 13] (.done))]
/- vitrine/vitrineref14.move -/
@[simp] def st112 : List Nat := []
@[simp] def pl112 : List (Nat × Plan) := []
/- vitrine/vitrineref14.codes -/
@[simp] def st113 : List Nat := [14, 26]
@[simp] def pl113 : List (Nat × Plan) := []
/- vitrine/vitrineref14.Rest -/
@[simp] def st114 : List Nat := [42, 50, 66, 71]
@[simp] def pl114 : List (Nat × Plan) := []
/- vitrine/vitrineref13.Next region 5: 1 forks region 7: 1 forks -/
@[simp] def st115 : List Nat := [59]
@[simp] def pl115 : List (Nat × Plan) := [(5, Plan.seq [0, 1, 2, 5, 6, 7] (.alt (Plan.seq [3, 4, 8, 9, 10, 11] (.done)) (Plan.seq [8, 9, 3, 4, 10, 11] (.done)))), (7, Plan.seq [0, 1, 3, 5, 6, 7] (.alt (Plan.seq [2, 4, 8, 9, 10, 11] (.done)) (Plan.seq [8, 9, 2, 4, 10, 11] (.done))))]
/- vitrine/vitrineref02.Designator -/
@[simp] def st116 : List Nat := []
@[simp] def pl116 : List (Nat × Plan) := []
/- vitrine/vitrineref18.at -/
@[simp] def st117 : List Nat := []
@[simp] def pl117 : List (Nat × Plan) := []
/- vitrine/vitrineref04.Valid -/
@[simp] def st118 : List Nat := []
@[simp] def pl118 : List (Nat × Plan) := []
/- vitrine/vitrineref04.Wrap -/
@[simp] def st119 : List Nat := []
@[simp] def pl119 : List (Nat × Plan) := []
/- (*vitrine/space.Space).Formatted -/
@[simp] def st120 : List Nat := []
@[simp] def pl120 : List (Nat × Plan) := []
/- (*vitrine/space.Space).Size -/
@[simp] def st121 : List Nat := []
@[simp] def pl121 : List (Nat × Plan) := []
/- vitrine/attr.Of -/
@[simp] def st122 : List Nat := []
@[simp] def pl122 : List (Nat × Plan) := []
/- (*vitrine/page.Page).Code -/
@[simp] def st123 : List Nat := [22]
@[simp] def pl123 : List (Nat × Plan) := []
/- vitrine/field.Next -/
@[simp] def st124 : List Nat := []
@[simp] def pl124 : List (Nat × Plan) := []
/- vitrine/field.Prev -/
@[simp] def st125 : List Nat := []
@[simp] def pl125 : List (Nat × Plan) := []
/- vitrine/cursor.First -/
@[simp] def st126 : List Nat := []
@[simp] def pl126 : List (Nat × Plan) := []
/- (vitrine/addr.Size).Line region 1: 1 forks -/
@[simp] def st127 : List Nat := []
@[simp] def pl127 : List (Nat × Plan) := [(1, Plan.seq [1, 2] (.alt (Plan.seq [0, 3, 4, 5, 6] (.done)) (Plan.seq [3, 0, 4, 5, 6] (.done))))]
/- (vitrine/addr.Size).Move region 3: 5 forks region 4: 29 forks -/
@[simp] def st128 : List Nat := []
@[simp] def pl128 : List (Nat × Plan) := [(3, Plan.seq [1, 2, 5] (.alt (.alt (Plan.seq [0] (.alt (Plan.seq [3, 4, 6, 7, 8, 9] (.done)) (Plan.seq [4, 3, 6, 7, 8, 9] (.done)))) (Plan.seq [3, 4] (.alt (Plan.seq [0, 6, 7, 8, 9] (.done)) (Plan.seq [6, 0, 7, 8, 9] (.done))))) (Plan.seq [4] (.alt (Plan.seq [0, 3, 6, 7, 8, 9] (.done)) (Plan.seq [3] (.alt (Plan.seq [0, 6, 7, 8, 9] (.done)) (Plan.seq [6, 0, 7, 8, 9] (.done)))))))), (4, Plan.seq [1, 2, 4, 5, 10] (.alt (.alt (.alt (Plan.seq [0] (.alt (.alt (Plan.seq [3, 6] (.alt (Plan.seq [7, 8, 9, 11, 12, 13] (.done)) (Plan.seq [9, 7, 8, 11, 12, 13] (.done)))) (Plan.seq [6] (.alt (Plan.seq [3] (.alt (Plan.seq [7, 8, 9, 11, 12, 13] (.done)) (Plan.seq [9, 7, 8, 11, 12, 13] (.done)))) (Plan.seq [9, 3, 7, 8, 11, 12, 13] (.done))))) (Plan.seq [9] (.alt (Plan.seq [3, 6, 7, 8, 11, 12, 13] (.done)) (Plan.seq [6, 3, 7, 8, 11, 12, 13] (.done)))))) (Plan.seq [3, 6] (.alt (.alt (Plan.seq [0] (.alt (Plan.seq [7, 8, 9, 11, 12, 13] (.done)) (Plan.seq [9, 7, 8, 11, 12, 13] (.done)))) (Plan.seq [7, 8, 9] (.alt (Plan.seq [0, 11, 12, 13] (.done)) (Plan.seq [11, 0, 12, 13] (.done))))) (Plan.seq [9] (.alt (Plan.seq [0, 7, 8, 11, 12, 13] (.done)) (Plan.seq [7, 8] (.alt (Plan.seq [0, 11, 12, 13] (.done)) (Plan.seq [11, 0, 12, 13] (.done))))))))) (Plan.seq [6] (.alt (.alt (Plan.seq [0] (.alt (Plan.seq [3] (.alt (Plan.seq [7, 8, 9, 11, 12, 13] (.done)) (Plan.seq [9, 7, 8, 11, 12, 13] (.done)))) (Plan.seq [9, 3, 7, 8, 11, 12, 13] (.done)))) (Plan.seq [3] (.alt (.alt (Plan.seq [0] (.alt (Plan.seq [7, 8, 9, 11, 12, 13] (.done)) (Plan.seq [9, 7, 8, 11, 12, 13] (.done)))) (Plan.seq [7, 8, 9] (.alt (Plan.seq [0, 11, 12, 13] (.done)) (Plan.seq [11, 0, 12, 13] (.done))))) (Plan.seq [9] (.alt (Plan.seq [0, 7, 8, 11, 12, 13] (.done)) (Plan.seq [7, 8] (.alt (Plan.seq [0, 11, 12, 13] (.done)) (Plan.seq [11, 0, 12, 13] (.done))))))))) (Plan.seq [9] (.alt (Plan.seq [0, 3, 7, 8, 11, 12, 13] (.done)) (Plan.seq [3] (.alt (Plan.seq [0, 7, 8, 11, 12, 13] (.done)) (Plan.seq [7, 8] (.alt (Plan.seq [0, 11, 12, 13] (.done)) (Plan.seq [11, 0, 12, 13] (.done))))))))))) (Plan.seq [9] (.alt (.alt (Plan.seq [0] (.alt (Plan.seq [3, 6, 7, 8, 11, 12, 13] (.done)) (Plan.seq [6, 3, 7, 8, 11, 12, 13] (.done)))) (Plan.seq [3, 6] (.alt (Plan.seq [0, 7, 8, 11, 12, 13] (.done)) (Plan.seq [7, 8] (.alt (Plan.seq [0, 11, 12, 13] (.done)) (Plan.seq [11, 0, 12, 13] (.done))))))) (Plan.seq [6] (.alt (Plan.seq [0, 3, 7, 8, 11, 12, 13] (.done)) (Plan.seq [3] (.alt (Plan.seq [0, 7, 8, 11, 12, 13] (.done)) (Plan.seq [7, 8] (.alt (Plan.seq [0, 11, 12, 13] (.done)) (Plan.seq [11, 0, 12, 13] (.done))))))))))))]
/- vitrine/field.Open -/
@[simp] def st129 : List Nat := []
@[simp] def pl129 : List (Nat × Plan) := []
/- vitrine/erase.Insert region 10: 3 forks -/
@[simp] def st130 : List Nat := []
@[simp] def pl130 : List (Nat × Plan) := [(10, Plan.seq [1, 2, 3, 5, 6, 7, 8, 9, 10] (.alt (.alt (Plan.seq [0] (.alt (Plan.seq [4, 11, 12, 13] (.done)) (Plan.seq [11, 4, 12, 13] (.done)))) (Plan.seq [4] (.alt (Plan.seq [0, 11, 12, 13] (.done)) (Plan.seq [11, 0, 12, 13] (.done))))) (Plan.seq [11, 0, 4, 12, 13] (.done)))), (11, Plan.seq [0, 1, 2, 3, 4, 5] (.done))]
/- vitrine/cursor.After -/
@[simp] def st131 : List Nat := []
@[simp] def pl131 : List (Nat × Plan) := []
/- slices.Collect[int] -/
@[simp] def st132 : List Nat := []
@[simp] def pl132 : List (Nat × Plan) := []
/- vitrine/erase.Row -/
@[simp] def st133 : List Nat := []
@[simp] def pl133 : List (Nat × Plan) := []
/- vitrine/erase.rest -/
@[simp] def st134 : List Nat := []
@[simp] def pl134 : List (Nat × Plan) := []
/- vitrine/erase.all -/
@[simp] def st135 : List Nat := []
@[simp] def pl135 : List (Nat × Plan) := []
/- vitrine/field.Fields -/
@[simp] def st136 : List Nat := []
@[simp] def pl136 : List (Nat × Plan) := []
/- vitrine/field.Places -/
@[simp] def st137 : List Nat := []
@[simp] def pl137 : List (Nat × Plan) := []
/- (*vitrine/page.Page).built -/
@[simp] def st138 : List Nat := [9]
@[simp] def pl138 : List (Nat × Plan) := []
/- vitrine/vitrineref05.Six -/
@[simp] def st139 : List Nat := [11]
@[simp] def pl139 : List (Nat × Plan) := []
/- vitrine/vitrineref02.Data -/
@[simp] def st140 : List Nat := []
@[simp] def pl140 : List (Nat × Plan) := []
/- vitrine/vitrineref04.Mod -/
@[simp] def st141 : List Nat := []
@[simp] def pl141 : List (Nat × Plan) := []
/- vitrine/vitrineref13.Places -/
@[simp] def st142 : List Nat := [47, 51]
@[simp] def pl142 : List (Nat × Plan) := []
/- vitrine/vitrineref13.Firsts -/
@[simp] def st143 : List Nat := [27, 34]
@[simp] def pl143 : List (Nat × Plan) := []
/- vitrine/field.find -/
@[simp] def st144 : List Nat := [22]
@[simp] def pl144 : List (Nat × Plan) := []
/- (vitrine/addr.Size).At region 3: 5 forks -/
@[simp] def st145 : List Nat := []
@[simp] def pl145 : List (Nat × Plan) := [(3, Plan.seq [0, 1, 2, 4, 7, 8] (.alt (.alt (Plan.seq [3, 9] (.alt (Plan.seq [5, 6, 10, 11, 12] (.done)) (Plan.seq [10, 5, 6, 11, 12] (.done)))) (Plan.seq [5] (.alt (Plan.seq [3, 6, 9, 10, 11, 12] (.done)) (Plan.seq [9, 3, 6, 10, 11, 12] (.done))))) (Plan.seq [9] (.alt (Plan.seq [3] (.alt (Plan.seq [5, 6, 10, 11, 12] (.done)) (Plan.seq [10, 5, 6, 11, 12] (.done)))) (Plan.seq [5, 3, 6, 10, 11, 12] (.done))))))]
/- (vitrine/addr.Size).Row region 3: 1 forks -/
@[simp] def st146 : List Nat := []
@[simp] def pl146 : List (Nat × Plan) := [(3, Plan.seq [0, 1, 3] (.alt (Plan.seq [2, 4, 5, 6] (.done)) (Plan.seq [4, 2, 5, 6] (.done))))]
/- (vitrine/addr.Size).Col region 3: 1 forks -/
@[simp] def st147 : List Nat := []
@[simp] def pl147 : List (Nat × Plan) := [(3, Plan.seq [0, 1, 3] (.alt (Plan.seq [2, 4, 5, 6] (.done)) (Plan.seq [4, 2, 5, 6] (.done))))]
/- vitrine/erase.round -/
@[simp] def st148 : List Nat := []
@[simp] def pl148 : List (Nat × Plan) := []
/- slices.IndexFunc[[]int,int] -/
@[simp] def st149 : List Nat := [17]
@[simp] def pl149 : List (Nat × Plan) := []
/- vitrine/erase.Insert$1 -/
@[simp] def st150 : List Nat := []
@[simp] def pl150 : List (Nat × Plan) := []
/- (vitrine/attr.Field).Skipped -/
@[simp] def st151 : List Nat := []
@[simp] def pl151 : List (Nat × Plan) := []
/- slices.AppendSeq[[]int,int] -/
@[simp] def st152 : List Nat := [8]
@[simp] def pl152 : List (Nat × Plan) := []
/- vitrine/erase.Row$1 region 2: 1 forks -/
@[simp] def st153 : List Nat := []
@[simp] def pl153 : List (Nat × Plan) := [(2, Plan.seq [0, 2, 3, 6] (.alt (Plan.seq [1, 4, 5] (.done)) (Plan.seq [4, 1, 5] (.done))))]
/- (vitrine/addr.Size).Span -/
@[simp] def st154 : List Nat := []
@[simp] def pl154 : List (Nat × Plan) := []
/- slices.Index[[]int,int] -/
@[simp] def st155 : List Nat := [17]
@[simp] def pl155 : List (Nat × Plan) := []
/- vitrine/field.Fields$1 region 3: 2 forks -/
@[simp] def st156 : List Nat := []
@[simp] def pl156 : List (Nat × Plan) := [(3, Plan.tail 7 (Plan.seq [1, 2, 3] (.alt (Plan.seq [0, 4, 5, 6] (.done)) (Plan.seq [4, 5] (.alt (Plan.seq [0, 6] (.done)) (Plan.seq [6, 0] (.done)))))))]
/- (*vitrine/space.Space).Attrs -/
@[simp] def st157 : List Nat := []
@[simp] def pl157 : List (Nat × Plan) := []
/- vitrine/field.Places$1 -/
@[simp] def st158 : List Nat := []
@[simp] def pl158 : List (Nat × Plan) := []
/- (*sync.Once).Do -/
@[simp] def st159 : List Nat := []
@[simp] def pl159 : List (Nat × Plan) := []
/- (*vitrine/page.Page).build -/
@[simp] def st160 : List Nat := []
@[simp] def pl160 : List (Nat × Plan) := [(13, Plan.seq [0, 1, 2, 3, 4, 5, 6, 7, 8, 9] (.done))]
/- vitrine/field.first -/
@[simp] def st161 : List Nat := []
@[simp] def pl161 : List (Nat × Plan) := []
/- (vitrine/addr.Size).Span$1 region 3: 1 forks -/
@[simp] def st162 : List Nat := []
@[simp] def pl162 : List (Nat × Plan) := [(3, Plan.tail 8 (Plan.seq [0, 2, 3, 5] (.alt (Plan.seq [1, 4, 6, 7] (.done)) (Plan.seq [4, 1, 6, 7] (.done)))))]
/- (vitrine/addr.Size).Length region 1: 5 forks -/
@[simp] def st163 : List Nat := [19]
@[simp] def pl163 : List (Nat × Plan) := [(1, Plan.seq [1, 2, 5] (.alt (.alt (Plan.seq [0] (.alt (Plan.seq [3, 4, 6, 7, 8, 9] (.done)) (Plan.seq [4, 3, 6, 7, 8, 9] (.done)))) (Plan.seq [3, 4] (.alt (Plan.seq [0, 6, 7, 8, 9] (.done)) (Plan.seq [6, 0, 7, 8, 9] (.done))))) (Plan.seq [4] (.alt (Plan.seq [0, 3, 6, 7, 8, 9] (.done)) (Plan.seq [3] (.alt (Plan.seq [0, 6, 7, 8, 9] (.done)) (Plan.seq [6, 0, 7, 8, 9] (.done))))))))]
/- (*vitrine/space.Space).Attrs$1 -/
@[simp] def st164 : List Nat := []
@[simp] def pl164 : List (Nat × Plan) := []
/- (*vitrine/space.Space).All -/
@[simp] def st165 : List Nat := []
@[simp] def pl165 : List (Nat × Plan) := []
/- (*sync/atomic.Bool).Load -/
@[simp] def st166 : List Nat := []
@[simp] def pl166 : List (Nat × Plan) := []
/- (*sync.Once).doSlow -/
@[simp] def st167 : List Nat := []
@[simp] def pl167 : List (Nat × Plan) := []
/- vitrine/page.row -/
@[simp] def st168 : List Nat := []
@[simp] def pl168 : List (Nat × Plan) := []
/- (*vitrine/space.Space).All$1 -/
@[simp] def st169 : List Nat := []
@[simp] def pl169 : List (Nat × Plan) := []
/- (*sync.Mutex).Lock -/
@[simp] def st171 : List Nat := []
@[simp] def pl171 : List (Nat × Plan) := []
/- (*sync.Mutex).Unlock -/
@[simp] def st172 : List Nat := []
@[simp] def pl172 : List (Nat × Plan) := []
/- (*sync/atomic.Bool).Store -/
@[simp] def st173 : List Nat := []
@[simp] def pl173 : List (Nat × Plan) := [(0, Plan.seq [0, 1, 2, 3, 4, 5] (.done))]
/- sync/atomic.b32 -/
@[simp] def st177 : List Nat := []
@[simp] def pl177 : List (Nat × Plan) := []
end Go.Proofs.YtlmdbcgceijlnaaGreat
/-
  What bytes and events are as abstract values; the reader's pure model.
-/
namespace Go.Proofs.YtlmdbcgceijlnaaGreat
open Go Go.AL

theorem follows : Tryz.prog.follows .mixedOrders = true := by kernel_rfl

def byteA (b : UInt8) : AV := .lit (.int .u8 (b.toNat : Int))
def bytesA (l : List UInt8) : List AV := l.map byteA
@[simp] theorem bytesA_length (l : List UInt8) : (bytesA l).length = l.length := by simp [bytesA]
theorem bytesA_append (l k : List UInt8) : bytesA (l ++ k) = bytesA l ++ bytesA k := by simp [bytesA]
/-- A place and the characters from there on. -/
structure En where
  addr : Int
  text : List UInt8
  deriving DecidableEq
/-- What came. -/
structure Rp where
  aid : UInt8
  short : Bool
  cursor : Int
  es : List En
  deriving DecidableEq
def enA (e : En) : AV := .agg [.lit (.int .i64 e.addr), .list false 1 (bytesA e.text)]
def ensA (l : List En) : List AV := l.map enA
@[simp] theorem ensA_length (l : List En) : (ensA l).length = l.length := by simp [ensA]
def rpA (r : Rp) : AV := .agg [byteA r.aid, .lit (.bool r.short), .lit (.int .i64 r.cursor), .list false 2 (ensA r.es)]

theorem byte_eq (b c : UInt8) : ((b.toNat : Int) == (c.toNat : Int)) = (b == c) := by
  rw [Bool.eq_iff_iff, beq_iff_eq, beq_iff_eq]
  constructor
  · intro h; exact UInt8.toNat_inj.1 (by omega)
  · rintro rfl; rfl
theorem le_of_eq {a b : AV} (h : a = b) : a.le b := h ▸ AV.le_refl a
/-- A byte, as the operations have it. -/
theorem byte_lt (b : UInt8) : (b.toNat : Int) < 256 := by have := b.toNat_lt; omega
/-- A row of bytes that is an object. -/
def rowA (p cap : Nat) (l : List UInt8) : AV := .lit (.slice (some ⟨p, 0, none⟩) l.length cap)

end Go.Proofs.YtlmdbcgceijlnaaGreat
/-
  Pointers.
-/
namespace Go.Proofs.YtlmdbcgceijlnaaGreat
open Go Go.AL
abbrev ptrA (o : Nat) : AV := .lit (.pointer (some ⟨o, 0, none⟩))
@[simp] theorem wr0 : IntKind.i64.wrap 0 = 0 := by decide
@[simp] theorem wr1 : IntKind.i64.wrap 1 = 1 := by decide
@[simp] theorem wr2 : IntKind.i64.wrap 2 = 2 := by decide
theorem all_bytes {p : UInt8 → Prop} (h : ∀ n : Fin 256, p (UInt8.ofNat n.val)) (b : UInt8) : p b := by
  have := h ⟨b.toNat, b.toNat_lt⟩
  simpa using this
@[simp] theorem byteA_share (b : UInt8) : (byteA b).share = byteA b := nr rfl
@[simp] theorem byteA_drop1 (b : UInt8) : (byteA b).drop1 = byteA b := nr rfl
@[simp] theorem byteA_keep1 (b : UInt8) : (byteA b).keep1 = byteA b := nr rfl
@[simp] theorem byteA_cells (b : UInt8) : (byteA b).cells = [byteA b] := nr rfl
@[simp] theorem byteA_one (b : UInt8) : (byteA b).one = true := nr rfl
@[simp] theorem byteA_solid (b : UInt8) : (byteA b).solid = true := nr rfl
@[simp] theorem byteA_conv (P : Program) (t : TypeId) (b : UInt8) : conv P t (byteA b) = byteA b := nr rfl
theorem bytesA_at (l : List UInt8) (i : Nat) (h : i < l.length) : (bytesA l)[i]'(by simpa using h) = byteA l[i] := by simp [bytesA]
end Go.Proofs.YtlmdbcgceijlnaaGreat
