/-
 Of each function: which temporaries take a right to append with the value; the plans of the regions that draw their order. Written by a program of mine.
-/
import Derived.Test.YtlmdbcgceijlnaaGreatPPart8
set_option linter.unusedSimpArgs false
set_option linter.unusedVariables false
set_option maxRecDepth 8000
set_option maxHeartbeats 8000000

namespace Go.Proofs.YtlmdbcgceijlnaaGreat
open Go Go.AL
@[simp] def st7 : List Nat := []
@[simp] def pl7 : List (Nat × Plan) := [(17, Plan.seq [0, 1, 2, 3, 4, 5, 6, 7, 8, 9, 11, 12, 13] (.alt (Plan.seq [10, 14, 15, 16, 17, 18, 20, 21, 22] (.alt (Plan.seq [19, 23, 24, 25, 26, 27, 29, 30, 31] (.alt (Plan.seq [28, 32, 33, 34, 35, 36, 38, 39, 40] (.alt (Plan.seq [37, 41, 42, 43, 44, 45, 46] (.done)) (Plan.seq [41, 42, 43] (.alt (Plan.seq [37, 44, 45, 46] (.done)) (Plan.seq [44, 37, 45, 46] (.done)))))) (Plan.seq [32, 28, 33, 34, 35, 36, 38, 39, 40] (.alt (Plan.seq [37, 41, 42, 43, 44, 45, 46] (.done)) (Plan.seq [41, 42, 43] (.alt (Plan.seq [37, 44, 45, 46] (.done)) (Plan.seq [44, 37, 45, 46] (.done)))))))) (Plan.seq [23, 19, 24, 25, 26, 27, 29, 30, 31] (.alt (Plan.seq [28, 32, 33, 34, 35, 36, 38, 39, 40] (.alt (Plan.seq [37, 41, 42, 43, 44, 45, 46] (.done)) (Plan.seq [41, 42, 43] (.alt (Plan.seq [37, 44, 45, 46] (.done)) (Plan.seq [44, 37, 45, 46] (.done)))))) (Plan.seq [32, 28, 33, 34, 35, 36, 38, 39, 40] (.alt (Plan.seq [37, 41, 42, 43, 44, 45, 46] (.done)) (Plan.seq [41, 42, 43] (.alt (Plan.seq [37, 44, 45, 46] (.done)) (Plan.seq [44, 37, 45, 46] (.done)))))))))) (Plan.seq [14, 10, 15, 16, 17, 18, 20, 21, 22] (.alt (Plan.seq [19, 23, 24, 25, 26, 27, 29, 30, 31] (.alt (Plan.seq [28, 32, 33, 34, 35, 36, 38, 39, 40] (.alt (Plan.seq [37, 41, 42, 43, 44, 45, 46] (.done)) (Plan.seq [41, 42, 43] (.alt (Plan.seq [37, 44, 45, 46] (.done)) (Plan.seq [44, 37, 45, 46] (.done)))))) (Plan.seq [32, 28, 33, 34, 35, 36, 38, 39, 40] (.alt (Plan.seq [37, 41, 42, 43, 44, 45, 46] (.done)) (Plan.seq [41, 42, 43] (.alt (Plan.seq [37, 44, 45, 46] (.done)) (Plan.seq [44, 37, 45, 46] (.done)))))))) (Plan.seq [23, 19, 24, 25, 26, 27, 29, 30, 31] (.alt (Plan.seq [28, 32, 33, 34, 35, 36, 38, 39, 40] (.alt (Plan.seq [37, 41, 42, 43, 44, 45, 46] (.done)) (Plan.seq [41, 42, 43] (.alt (Plan.seq [37, 44, 45, 46] (.done)) (Plan.seq [44, 37, 45, 46] (.done)))))) (Plan.seq [32, 28, 33, 34, 35, 36, 38, 39, 40] (.alt (Plan.seq [37, 41, 42, 43, 44, 45, 46] (.done)) (Plan.seq [41, 42, 43] (.alt (Plan.seq [37, 44, 45, 46] (.done)) (Plan.seq [44, 37, 45, 46] (.done))))))))))))]
@[simp] def st9 : List Nat := []
@[simp] def pl9 : List (Nat × Plan) := []
@[simp] def st10 : List Nat := [92, 93]
@[simp] def pl10 : List (Nat × Plan) := [(1, Plan.seq [0, 1, 2, 3, 5, 6, 4, 7, 8, 9, 10] (.done))]
@[simp] def st11 : List Nat := []
@[simp] def pl11 : List (Nat × Plan) := []
@[simp] def st12 : List Nat := []
@[simp] def pl12 : List (Nat × Plan) := []
@[simp] def st13 : List Nat := []
@[simp] def pl13 : List (Nat × Plan) := [(3, Plan.seq [0, 1, 2, 4, 5, 6, 7, 8] (.alt (Plan.seq [3, 9, 10, 11, 12] (.done)) (Plan.seq [9, 3, 10, 11, 12] (.done))))]
@[simp] def st14 : List Nat := []
@[simp] def pl14 : List (Nat × Plan) := []
@[simp] def st16 : List Nat := [27, 28, 31]
@[simp] def pl16 : List (Nat × Plan) := []
@[simp] def st17 : List Nat := [16]
@[simp] def pl17 : List (Nat × Plan) := []
@[simp] def st18 : List Nat := []
@[simp] def pl18 : List (Nat × Plan) := []
@[simp] def st19 : List Nat := []
@[simp] def pl19 : List (Nat × Plan) := [(1, Plan.seq [0, 1, 2, 4, 5, 6, 7, 8] (.alt (Plan.seq [3, 9, 10, 11] (.done)) (Plan.seq [9, 3, 10, 11] (.done))))]
@[simp] def st20 : List Nat := []
@[simp] def pl20 : List (Nat × Plan) := []
@[simp] def st21 : List Nat := []
@[simp] def pl21 : List (Nat × Plan) := [(20, Plan.seq [0, 1, 2, 3, 4, 5, 6, 7] (.done))]
@[simp] def st22 : List Nat := []
@[simp] def st23 : List Nat := []
@[simp] def pl23 : List (Nat × Plan) := []
@[simp] def st24 : List Nat := []
@[simp] def pl24 : List (Nat × Plan) := []
@[simp] def st25 : List Nat := []
@[simp] def pl25 : List (Nat × Plan) := []
@[simp] def st26 : List Nat := [18]
@[simp] def pl26 : List (Nat × Plan) := []
@[simp] def st28 : List Nat := []
@[simp] def pl28 : List (Nat × Plan) := []
@[simp] def st29 : List Nat := [1000033]
@[simp] def pl29 : List (Nat × Plan) := []
@[simp] def st30 : List Nat := [43]
@[simp] def pl30 : List (Nat × Plan) := []
@[simp] def st31 : List Nat := []
@[simp] def pl31 : List (Nat × Plan) := []
@[simp] def st32 : List Nat := []
@[simp] def pl32 : List (Nat × Plan) := []
@[simp] def st33 : List Nat := []
@[simp] def pl33 : List (Nat × Plan) := []
@[simp] def st34 : List Nat := []
@[simp] def pl34 : List (Nat × Plan) := []
@[simp] def st35 : List Nat := []
@[simp] def pl35 : List (Nat × Plan) := []
@[simp] def st36 : List Nat := []
@[simp] def pl36 : List (Nat × Plan) := []
@[simp] def st38 : List Nat := []
@[simp] def pl38 : List (Nat × Plan) := []
@[simp] def st39 : List Nat := [14, 20]
@[simp] def pl39 : List (Nat × Plan) := []
@[simp] def st40 : List Nat := []
@[simp] def pl40 : List (Nat × Plan) := []
@[simp] def st41 : List Nat := [1000030]
@[simp] def pl41 : List (Nat × Plan) := []
@[simp] def st42 : List Nat := []
@[simp] def pl42 : List (Nat × Plan) := [(6, Plan.seq [0, 1, 2, 4, 6, 7, 8, 10] (.alt (.alt (Plan.seq [3] (.alt (Plan.seq [5, 9, 11, 12, 13, 14, 15, 16, 17, 18] (.done)) (Plan.seq [9, 11] (.alt (Plan.seq [5, 12, 13, 14, 15, 16, 17, 18] (.done)) (Plan.seq [12, 5, 13, 14, 15, 16, 17, 18] (.done)))))) (Plan.seq [5, 9, 11, 12] (.alt (Plan.seq [3, 13, 14, 15, 16, 17, 18] (.done)) (Plan.seq [13, 3, 14, 15, 16, 17, 18] (.done))))) (Plan.seq [9, 11] (.alt (.alt (Plan.seq [3] (.alt (Plan.seq [5, 12, 13, 14, 15, 16, 17, 18] (.done)) (Plan.seq [12, 5, 13, 14, 15, 16, 17, 18] (.done)))) (Plan.seq [5, 12] (.alt (Plan.seq [3, 13, 14, 15, 16, 17, 18] (.done)) (Plan.seq [13, 3, 14, 15, 16, 17, 18] (.done))))) (Plan.seq [12] (.alt (Plan.seq [3, 5, 13, 14, 15, 16, 17, 18] (.done)) (Plan.seq [5] (.alt (Plan.seq [3, 13, 14, 15, 16, 17, 18] (.done)) (Plan.seq [13, 3, 14, 15, 16, 17, 18] (.done)))))))))), (7, Plan.seq [0, 1, 2, 3, 4, 5, 6, 7] (.done))]
@[simp] def st43 : List Nat := []
@[simp] def pl43 : List (Nat × Plan) := []
@[simp] def st44 : List Nat := []
@[simp] def pl44 : List (Nat × Plan) := []
@[simp] def st45 : List Nat := []
@[simp] def pl45 : List (Nat × Plan) := []
@[simp] def st46 : List Nat := []
@[simp] def pl46 : List (Nat × Plan) := []
@[simp] def st47 : List Nat := []
@[simp] def pl47 : List (Nat × Plan) := []
@[simp] def st48 : List Nat := []
@[simp] def pl48 : List (Nat × Plan) := []
@[simp] def st49 : List Nat := []
@[simp] def pl49 : List (Nat × Plan) := [(6, Plan.seq [0, 1, 2, 4, 5, 6, 7, 8, 9] (.alt (Plan.seq [3, 10, 11, 12, 13] (.done)) (Plan.seq [10, 3, 11, 12, 13] (.done))))]
@[simp] def st50 : List Nat := []
@[simp] def pl50 : List (Nat × Plan) := []
@[simp] def st51 : List Nat := []
@[simp] def pl51 : List (Nat × Plan) := []
@[simp] def st52 : List Nat := []
@[simp] def pl52 : List (Nat × Plan) := []
@[simp] def st53 : List Nat := []
@[simp] def pl53 : List (Nat × Plan) := []
@[simp] def st54 : List Nat := []
@[simp] def pl54 : List (Nat × Plan) := []
@[simp] def st55 : List Nat := []
@[simp] def pl55 : List (Nat × Plan) := []
@[simp] def st56 : List Nat := []
@[simp] def pl56 : List (Nat × Plan) := []
@[simp] def st57 : List Nat := []
@[simp] def pl57 : List (Nat × Plan) := [(1, Plan.seq [0, 1, 2, 4, 5] (.alt (Plan.seq [3, 6, 7, 8, 9] (.done)) (Plan.seq [6, 3, 7, 8, 9] (.done))))]
@[simp] def st58 : List Nat := []
@[simp] def pl58 : List (Nat × Plan) := [(1, Plan.seq [0, 1, 2, 4, 5] (.alt (.alt (Plan.seq [3] (.alt (Plan.seq [6, 7, 8, 9, 10] (.done)) (Plan.seq [7, 6, 8, 9, 10] (.done)))) (Plan.seq [6, 7] (.alt (Plan.seq [3, 8, 9, 10] (.done)) (Plan.seq [8, 3, 9, 10] (.done))))) (Plan.seq [7] (.alt (Plan.seq [3, 6, 8, 9, 10] (.done)) (Plan.seq [6] (.alt (Plan.seq [3, 8, 9, 10] (.done)) (Plan.seq [8, 3, 9, 10] (.done))))))))]
@[simp] def st59 : List Nat := []
@[simp] def pl59 : List (Nat × Plan) := []
@[simp] def st60 : List Nat := []
@[simp] def pl60 : List (Nat × Plan) := [(16, Plan.seq [0, 1, 2, 3, 4, 5, 6, 7, 8, 9, 10, 11, 12, 13, 14, 15, 16, 17, 18] (.done)), (20, Plan.seq [0, 1, 2, 3, 4, 5, 6, 7, 8, 9, 10, 11, 12, 13] (.done))]
@[simp] def st61 : List Nat := [18]
@[simp] def pl61 : List (Nat × Plan) := []
@[simp] def st62 : List Nat := []
@[simp] def pl62 : List (Nat × Plan) := []
@[simp] def st63 : List Nat := []
@[simp] def pl63 : List (Nat × Plan) := []
@[simp] def st64 : List Nat := []
@[simp] def pl64 : List (Nat × Plan) := [(7, Plan.seq [0, 1, 2, 4, 5, 6, 8, 9, 10] (.alt (.alt (Plan.seq [3] (.alt (Plan.seq [7, 11, 12, 13, 14, 15, 16] (.done)) (Plan.seq [11, 7, 12, 13, 14, 15, 16] (.done)))) (Plan.seq [7] (.alt (Plan.seq [3, 11, 12, 13, 14, 15, 16] (.done)) (Plan.seq [11, 3, 12, 13, 14, 15, 16] (.done))))) (Plan.seq [11, 3, 7, 12, 13, 14, 15, 16] (.done))))]
@[simp] def st65 : List Nat := []
@[simp] def pl65 : List (Nat × Plan) := []
@[simp] def st66 : List Nat := []
@[simp] def pl66 : List (Nat × Plan) := []
@[simp] def st67 : List Nat := [12]
@[simp] def pl67 : List (Nat × Plan) := []
@[simp] def st68 : List Nat := [1000005, 1000007]
@[simp] def pl68 : List (Nat × Plan) := []
@[simp] def st69 : List Nat := []
@[simp] def pl69 : List (Nat × Plan) := []
@[simp] def st70 : List Nat := []
@[simp] def pl70 : List (Nat × Plan) := []
@[simp] def st71 : List Nat := [18, 23]
@[simp] def pl71 : List (Nat × Plan) := []
@[simp] def st72 : List Nat := []
@[simp] def pl72 : List (Nat × Plan) := []
@[simp] def st74 : List Nat := []
@[simp] def pl74 : List (Nat × Plan) := []
@[simp] def st75 : List Nat := []
@[simp] def pl75 : List (Nat × Plan) := []
@[simp] def st76 : List Nat := []
@[simp] def pl76 : List (Nat × Plan) := []
@[simp] def st77 : List Nat := []
@[simp] def pl77 : List (Nat × Plan) := []
@[simp] def st78 : List Nat := [23]
@[simp] def pl78 : List (Nat × Plan) := []
@[simp] def st79 : List Nat := []
@[simp] def pl79 : List (Nat × Plan) := []
@[simp] def st80 : List Nat := []
@[simp] def pl80 : List (Nat × Plan) := []
@[simp] def st81 : List Nat := []
@[simp] def pl81 : List (Nat × Plan) := []
@[simp] def st82 : List Nat := []
@[simp] def pl82 : List (Nat × Plan) := []
@[simp] def st83 : List Nat := []
@[simp] def pl83 : List (Nat × Plan) := []
@[simp] def st84 : List Nat := []
@[simp] def pl84 : List (Nat × Plan) := []
@[simp] def st85 : List Nat := []
@[simp] def pl85 : List (Nat × Plan) := []
@[simp] def st86 : List Nat := []
@[simp] def pl86 : List (Nat × Plan) := []
@[simp] def st87 : List Nat := []
@[simp] def pl87 : List (Nat × Plan) := []
@[simp] def st88 : List Nat := []
@[simp] def pl88 : List (Nat × Plan) := []
@[simp] def st89 : List Nat := []
@[simp] def pl89 : List (Nat × Plan) := []
@[simp] def st90 : List Nat := []
@[simp] def pl90 : List (Nat × Plan) := []
@[simp] def st91 : List Nat := []
@[simp] def pl91 : List (Nat × Plan) := [(12, Plan.seq [0, 1, 2, 3, 4, 5, 6] (.done))]
@[simp] def st92 : List Nat := []
@[simp] def pl92 : List (Nat × Plan) := []
@[simp] def st93 : List Nat := []
@[simp] def pl93 : List (Nat × Plan) := []
@[simp] def st94 : List Nat := []
@[simp] def pl94 : List (Nat × Plan) := []
@[simp] def st95 : List Nat := []
@[simp] def pl95 : List (Nat × Plan) := [(14, Plan.seq [1] (.alt (Plan.seq [0, 2, 3, 4] (.done)) (Plan.seq [2, 0, 3, 4] (.done))))]
@[simp] def st96 : List Nat := []
@[simp] def pl96 : List (Nat × Plan) := []
@[simp] def st97 : List Nat := [13]
@[simp] def pl97 : List (Nat × Plan) := []
@[simp] def st98 : List Nat := []
@[simp] def pl98 : List (Nat × Plan) := []
@[simp] def st99 : List Nat := []
@[simp] def pl99 : List (Nat × Plan) := []
@[simp] def st100 : List Nat := [31]
@[simp] def pl100 : List (Nat × Plan) := []
@[simp] def st101 : List Nat := []
@[simp] def pl101 : List (Nat × Plan) := []
@[simp] def st102 : List Nat := []
@[simp] def pl102 : List (Nat × Plan) := []
@[simp] def st103 : List Nat := []
@[simp] def pl103 : List (Nat × Plan) := []
@[simp] def st104 : List Nat := []
@[simp] def pl104 : List (Nat × Plan) := []
@[simp] def st105 : List Nat := []
@[simp] def pl105 : List (Nat × Plan) := [(9, Plan.seq [0, 1, 2, 3, 4, 5, 7, 8, 9, 6, 10, 11] (.done))]
@[simp] def st106 : List Nat := []
@[simp] def pl106 : List (Nat × Plan) := []
@[simp] def st107 : List Nat := []
@[simp] def pl107 : List (Nat × Plan) := []
@[simp] def st108 : List Nat := []
@[simp] def pl108 : List (Nat × Plan) := []
@[simp] def st109 : List Nat := []
@[simp] def pl109 : List (Nat × Plan) := [(3, Plan.seq [0, 2, 3, 4, 7, 8] (.alt (.alt (Plan.seq [1] (.alt (Plan.seq [5, 6, 9, 10, 11, 12] (.done)) (Plan.seq [9, 5, 6, 10, 11, 12] (.done)))) (Plan.seq [5, 9] (.alt (Plan.seq [1, 6, 10, 11, 12] (.done)) (Plan.seq [10, 1, 6, 11, 12] (.done))))) (Plan.seq [9] (.alt (Plan.seq [1, 5, 6, 10, 11, 12] (.done)) (Plan.seq [5] (.alt (Plan.seq [1, 6, 10, 11, 12] (.done)) (Plan.seq [10, 1, 6, 11, 12] (.done))))))))]
@[simp] def st110 : List Nat := []
@[simp] def pl110 : List (Nat × Plan) := [(3, Plan.seq [0, 1, 4] (.alt (.alt (Plan.seq [2, 3] (.alt (Plan.seq [5, 6, 7, 8, 9, 10] (.done)) (Plan.seq [7, 5, 6, 8, 9, 10] (.done)))) (Plan.seq [3] (.alt (Plan.seq [2] (.alt (Plan.seq [5, 6, 7, 8, 9, 10] (.done)) (Plan.seq [7, 5, 6, 8, 9, 10] (.done)))) (Plan.seq [7, 2, 5, 6, 8, 9, 10] (.done))))) (Plan.seq [7] (.alt (Plan.seq [2, 3, 5, 6, 8, 9, 10] (.done)) (Plan.seq [3, 2, 5, 6, 8, 9, 10] (.done)))))), (4, Plan.seq [1, 2, 5, 6, 7, 10, 11] (.alt (.alt (.alt (Plan.seq [0] (.alt (.alt (Plan.seq [3, 4] (.alt (Plan.seq [8, 9, 12, 13, 14, 15] (.done)) (Plan.seq [12, 13, 8, 9, 14, 15] (.done)))) (Plan.seq [8, 3, 4, 9, 12, 13, 14, 15] (.done))) (Plan.seq [12, 13] (.alt (Plan.seq [3, 4, 8, 9, 14, 15] (.done)) (Plan.seq [8, 3, 4, 9, 14, 15] (.done)))))) (Plan.seq [3, 4] (.alt (.alt (Plan.seq [0] (.alt (Plan.seq [8, 9, 12, 13, 14, 15] (.done)) (Plan.seq [12, 13, 8, 9, 14, 15] (.done)))) (Plan.seq [8, 0, 9, 12, 13, 14, 15] (.done))) (Plan.seq [12, 13] (.alt (Plan.seq [0, 8, 9, 14, 15] (.done)) (Plan.seq [8, 0, 9, 14, 15] (.done))))))) (Plan.seq [8, 0, 3, 4, 9, 12, 13, 14, 15] (.done))) (Plan.seq [12, 13] (.alt (.alt (Plan.seq [0] (.alt (Plan.seq [3, 4, 8, 9, 14, 15] (.done)) (Plan.seq [8, 3, 4, 9, 14, 15] (.done)))) (Plan.seq [3, 4] (.alt (Plan.seq [0, 8, 9, 14, 15] (.done)) (Plan.seq [8, 0, 9, 14, 15] (.done))))) (Plan.seq [8, 0, 3, 4, 9, 14, 15] (.done))))))]
@[simp] def st111 : List Nat := [29, 47]
@[simp] def pl111 : List (Nat × Plan) := [(6, Plan.seq [0, 1, 2, 3, 4, 5, 6, 7, 8, 9, 10, 11, 12, 13] (.done))]
@[simp] def st112 : List Nat := []
@[simp] def pl112 : List (Nat × Plan) := []
@[simp] def st113 : List Nat := [14, 26]
@[simp] def pl113 : List (Nat × Plan) := []
@[simp] def st114 : List Nat := [42, 50, 66, 71]
@[simp] def pl114 : List (Nat × Plan) := []
@[simp] def st115 : List Nat := [59]
@[simp] def pl115 : List (Nat × Plan) := [(5, Plan.seq [0, 1, 2, 5, 6, 7] (.alt (Plan.seq [3, 4, 8, 9, 10, 11] (.done)) (Plan.seq [8, 9, 3, 4, 10, 11] (.done)))), (7, Plan.seq [0, 1, 3, 5, 6, 7] (.alt (Plan.seq [2, 4, 8, 9, 10, 11] (.done)) (Plan.seq [8, 9, 2, 4, 10, 11] (.done))))]
@[simp] def st116 : List Nat := []
@[simp] def pl116 : List (Nat × Plan) := []
@[simp] def st117 : List Nat := []
@[simp] def pl117 : List (Nat × Plan) := []
@[simp] def st118 : List Nat := []
@[simp] def pl118 : List (Nat × Plan) := []
@[simp] def st119 : List Nat := []
@[simp] def pl119 : List (Nat × Plan) := []
@[simp] def st120 : List Nat := []
@[simp] def pl120 : List (Nat × Plan) := []
@[simp] def st121 : List Nat := []
@[simp] def pl121 : List (Nat × Plan) := []
@[simp] def st122 : List Nat := []
@[simp] def pl122 : List (Nat × Plan) := []
@[simp] def st123 : List Nat := [22]
@[simp] def pl123 : List (Nat × Plan) := []
@[simp] def st124 : List Nat := []
@[simp] def pl124 : List (Nat × Plan) := []
@[simp] def st125 : List Nat := []
@[simp] def pl125 : List (Nat × Plan) := []
@[simp] def st126 : List Nat := []
@[simp] def pl126 : List (Nat × Plan) := []
@[simp] def st127 : List Nat := []
@[simp] def pl127 : List (Nat × Plan) := [(1, Plan.seq [1, 2] (.alt (Plan.seq [0, 3, 4, 5, 6] (.done)) (Plan.seq [3, 0, 4, 5, 6] (.done))))]
@[simp] def st128 : List Nat := []
@[simp] def pl128 : List (Nat × Plan) := [(3, Plan.seq [1, 2, 5] (.alt (.alt (Plan.seq [0] (.alt (Plan.seq [3, 4, 6, 7, 8, 9] (.done)) (Plan.seq [4, 3, 6, 7, 8, 9] (.done)))) (Plan.seq [3, 4] (.alt (Plan.seq [0, 6, 7, 8, 9] (.done)) (Plan.seq [6, 0, 7, 8, 9] (.done))))) (Plan.seq [4] (.alt (Plan.seq [0, 3, 6, 7, 8, 9] (.done)) (Plan.seq [3] (.alt (Plan.seq [0, 6, 7, 8, 9] (.done)) (Plan.seq [6, 0, 7, 8, 9] (.done)))))))), (4, Plan.seq [1, 2, 4, 5, 10] (.alt (.alt (.alt (Plan.seq [0] (.alt (.alt (Plan.seq [3, 6] (.alt (Plan.seq [7, 8, 9, 11, 12, 13] (.done)) (Plan.seq [9, 7, 8, 11, 12, 13] (.done)))) (Plan.seq [6] (.alt (Plan.seq [3] (.alt (Plan.seq [7, 8, 9, 11, 12, 13] (.done)) (Plan.seq [9, 7, 8, 11, 12, 13] (.done)))) (Plan.seq [9, 3, 7, 8, 11, 12, 13] (.done))))) (Plan.seq [9] (.alt (Plan.seq [3, 6, 7, 8, 11, 12, 13] (.done)) (Plan.seq [6, 3, 7, 8, 11, 12, 13] (.done)))))) (Plan.seq [3, 6] (.alt (.alt (Plan.seq [0] (.alt (Plan.seq [7, 8, 9, 11, 12, 13] (.done)) (Plan.seq [9, 7, 8, 11, 12, 13] (.done)))) (Plan.seq [7, 8, 9] (.alt (Plan.seq [0, 11, 12, 13] (.done)) (Plan.seq [11, 0, 12, 13] (.done))))) (Plan.seq [9] (.alt (Plan.seq [0, 7, 8, 11, 12, 13] (.done)) (Plan.seq [7, 8] (.alt (Plan.seq [0, 11, 12, 13] (.done)) (Plan.seq [11, 0, 12, 13] (.done))))))))) (Plan.seq [6] (.alt (.alt (Plan.seq [0] (.alt (Plan.seq [3] (.alt (Plan.seq [7, 8, 9, 11, 12, 13] (.done)) (Plan.seq [9, 7, 8, 11, 12, 13] (.done)))) (Plan.seq [9, 3, 7, 8, 11, 12, 13] (.done)))) (Plan.seq [3] (.alt (.alt (Plan.seq [0] (.alt (Plan.seq [7, 8, 9, 11, 12, 13] (.done)) (Plan.seq [9, 7, 8, 11, 12, 13] (.done)))) (Plan.seq [7, 8, 9] (.alt (Plan.seq [0, 11, 12, 13] (.done)) (Plan.seq [11, 0, 12, 13] (.done))))) (Plan.seq [9] (.alt (Plan.seq [0, 7, 8, 11, 12, 13] (.done)) (Plan.seq [7, 8] (.alt (Plan.seq [0, 11, 12, 13] (.done)) (Plan.seq [11, 0, 12, 13] (.done))))))))) (Plan.seq [9] (.alt (Plan.seq [0, 3, 7, 8, 11, 12, 13] (.done)) (Plan.seq [3] (.alt (Plan.seq [0, 7, 8, 11, 12, 13] (.done)) (Plan.seq [7, 8] (.alt (Plan.seq [0, 11, 12, 13] (.done)) (Plan.seq [11, 0, 12, 13] (.done))))))))))) (Plan.seq [9] (.alt (.alt (Plan.seq [0] (.alt (Plan.seq [3, 6, 7, 8, 11, 12, 13] (.done)) (Plan.seq [6, 3, 7, 8, 11, 12, 13] (.done)))) (Plan.seq [3, 6] (.alt (Plan.seq [0, 7, 8, 11, 12, 13] (.done)) (Plan.seq [7, 8] (.alt (Plan.seq [0, 11, 12, 13] (.done)) (Plan.seq [11, 0, 12, 13] (.done))))))) (Plan.seq [6] (.alt (Plan.seq [0, 3, 7, 8, 11, 12, 13] (.done)) (Plan.seq [3] (.alt (Plan.seq [0, 7, 8, 11, 12, 13] (.done)) (Plan.seq [7, 8] (.alt (Plan.seq [0, 11, 12, 13] (.done)) (Plan.seq [11, 0, 12, 13] (.done))))))))))))]
@[simp] def st129 : List Nat := []
@[simp] def pl129 : List (Nat × Plan) := []
@[simp] def st130 : List Nat := []
@[simp] def pl130 : List (Nat × Plan) := [(10, Plan.seq [1, 2, 3, 5, 6, 7, 8, 9, 10] (.alt (.alt (Plan.seq [0] (.alt (Plan.seq [4, 11, 12, 13] (.done)) (Plan.seq [11, 4, 12, 13] (.done)))) (Plan.seq [4] (.alt (Plan.seq [0, 11, 12, 13] (.done)) (Plan.seq [11, 0, 12, 13] (.done))))) (Plan.seq [11, 0, 4, 12, 13] (.done)))), (11, Plan.seq [0, 1, 2, 3, 4, 5] (.done))]
@[simp] def st131 : List Nat := []
@[simp] def pl131 : List (Nat × Plan) := []
@[simp] def st132 : List Nat := []
@[simp] def pl132 : List (Nat × Plan) := []
@[simp] def st133 : List Nat := []
@[simp] def pl133 : List (Nat × Plan) := []
@[simp] def st134 : List Nat := []
@[simp] def pl134 : List (Nat × Plan) := []
@[simp] def st135 : List Nat := []
@[simp] def pl135 : List (Nat × Plan) := []
@[simp] def st136 : List Nat := []
@[simp] def pl136 : List (Nat × Plan) := []
@[simp] def st137 : List Nat := []
@[simp] def pl137 : List (Nat × Plan) := []
@[simp] def st138 : List Nat := [9]
@[simp] def pl138 : List (Nat × Plan) := []
@[simp] def st139 : List Nat := [11]
@[simp] def pl139 : List (Nat × Plan) := []
@[simp] def st140 : List Nat := []
@[simp] def pl140 : List (Nat × Plan) := []
@[simp] def st141 : List Nat := []
@[simp] def pl141 : List (Nat × Plan) := []
@[simp] def st142 : List Nat := [47, 51]
@[simp] def pl142 : List (Nat × Plan) := []
@[simp] def st143 : List Nat := [27, 34]
@[simp] def pl143 : List (Nat × Plan) := []
@[simp] def st144 : List Nat := [22]
@[simp] def pl144 : List (Nat × Plan) := []
@[simp] def st145 : List Nat := []
@[simp] def pl145 : List (Nat × Plan) := [(3, Plan.seq [0, 1, 2, 4, 7, 8] (.alt (.alt (Plan.seq [3, 9] (.alt (Plan.seq [5, 6, 10, 11, 12] (.done)) (Plan.seq [10, 5, 6, 11, 12] (.done)))) (Plan.seq [5] (.alt (Plan.seq [3, 6, 9, 10, 11, 12] (.done)) (Plan.seq [9, 3, 6, 10, 11, 12] (.done))))) (Plan.seq [9] (.alt (Plan.seq [3] (.alt (Plan.seq [5, 6, 10, 11, 12] (.done)) (Plan.seq [10, 5, 6, 11, 12] (.done)))) (Plan.seq [5, 3, 6, 10, 11, 12] (.done))))))]
@[simp] def st146 : List Nat := []
@[simp] def pl146 : List (Nat × Plan) := [(3, Plan.seq [0, 1, 3] (.alt (Plan.seq [2, 4, 5, 6] (.done)) (Plan.seq [4, 2, 5, 6] (.done))))]
@[simp] def st147 : List Nat := []
@[simp] def pl147 : List (Nat × Plan) := [(3, Plan.seq [0, 1, 3] (.alt (Plan.seq [2, 4, 5, 6] (.done)) (Plan.seq [4, 2, 5, 6] (.done))))]
@[simp] def st148 : List Nat := []
@[simp] def pl148 : List (Nat × Plan) := []
@[simp] def st149 : List Nat := [17]
@[simp] def pl149 : List (Nat × Plan) := []
@[simp] def st150 : List Nat := []
@[simp] def pl150 : List (Nat × Plan) := []
@[simp] def st151 : List Nat := []
@[simp] def pl151 : List (Nat × Plan) := []
@[simp] def st152 : List Nat := [8]
@[simp] def pl152 : List (Nat × Plan) := []
@[simp] def st153 : List Nat := []
@[simp] def pl153 : List (Nat × Plan) := [(2, Plan.seq [0, 2, 3, 6] (.alt (Plan.seq [1, 4, 5] (.done)) (Plan.seq [4, 1, 5] (.done))))]
@[simp] def st154 : List Nat := []
@[simp] def pl154 : List (Nat × Plan) := []
@[simp] def st155 : List Nat := [17]
@[simp] def pl155 : List (Nat × Plan) := []
@[simp] def st156 : List Nat := []
@[simp] def st157 : List Nat := []
@[simp] def pl157 : List (Nat × Plan) := []
@[simp] def st158 : List Nat := []
@[simp] def pl158 : List (Nat × Plan) := []
@[simp] def st159 : List Nat := []
@[simp] def pl159 : List (Nat × Plan) := []
@[simp] def st160 : List Nat := []
@[simp] def pl160 : List (Nat × Plan) := [(13, Plan.seq [0, 1, 2, 3, 4, 5, 6, 7, 8, 9] (.done))]
@[simp] def st161 : List Nat := []
@[simp] def pl161 : List (Nat × Plan) := []
@[simp] def st162 : List Nat := []
@[simp] def pl162 : List (Nat × Plan) := [(3, Plan.tail 8 (Plan.seq [0, 2, 3, 5] (.alt (Plan.seq [1, 4, 6, 7] (.done)) (Plan.seq [4, 1, 6, 7] (.done)))))]
@[simp] def st163 : List Nat := [19]
@[simp] def pl163 : List (Nat × Plan) := [(1, Plan.seq [1, 2, 5] (.alt (.alt (Plan.seq [0] (.alt (Plan.seq [3, 4, 6, 7, 8, 9] (.done)) (Plan.seq [4, 3, 6, 7, 8, 9] (.done)))) (Plan.seq [3, 4] (.alt (Plan.seq [0, 6, 7, 8, 9] (.done)) (Plan.seq [6, 0, 7, 8, 9] (.done))))) (Plan.seq [4] (.alt (Plan.seq [0, 3, 6, 7, 8, 9] (.done)) (Plan.seq [3] (.alt (Plan.seq [0, 6, 7, 8, 9] (.done)) (Plan.seq [6, 0, 7, 8, 9] (.done))))))))]
@[simp] def st164 : List Nat := []
@[simp] def pl164 : List (Nat × Plan) := []
@[simp] def st165 : List Nat := []
@[simp] def pl165 : List (Nat × Plan) := []
@[simp] def st166 : List Nat := []
@[simp] def pl166 : List (Nat × Plan) := []
@[simp] def st168 : List Nat := []
@[simp] def pl168 : List (Nat × Plan) := []
@[simp] def st169 : List Nat := []
@[simp] def pl169 : List (Nat × Plan) := []
theorem follows : Tryz.prog.follows .mixedOrders = true := by kernel_rfl
theorem aw {f : FuncId} {fn : Func} {c : Code} (st : List Tmp) (plans : List (Nat × Plan)) (n : Nat) {args : List AV} {σ : Store} {R : AV → Store → Prop} (hf : Tryz.prog.funcs[f]? = some fn) (hb : fn.body = some c) (h : awp Tryz.prog st plans n c (aret Tryz.prog fn.results.toList R) (slotsOf args) σ) (hr : resOk fn.results.toList = true := by kernel_rfl) (hn : args.length + (fn.ntmps - args.length) = n := by kernel_rfl) (hok : codeOk st plans n c = true := by kernel_rfl) : ACalls Tryz.prog f args σ R := ACalls.of_awp follows hf hb hr hn hok h
def byteA (b : UInt8) : AV := .lit (.int .u8 (b.toNat : Int))
def bytesA (l : List UInt8) : List AV := l.map byteA
@[simp] theorem bytesA_length (l : List UInt8) : (bytesA l).length = l.length := by simp [bytesA]
structure En where
 addr : Int
 text : List UInt8
 deriving DecidableEq
structure Rp where
 aid : UInt8
 short : Bool
 cursor : Int
 es : List En
 deriving DecidableEq
def enA (e : En) : AV := .agg [.lit (.int .i64 e.addr), .list false 1 (bytesA e.text)]
def ensA (l : List En) : List AV := l.map enA
@[simp] theorem ensA_length (l : List En) : (ensA l).length = l.length := by simp [ensA]
def rpA (r : Rp) : AV := .agg [byteA r.aid, .lit (.bool r.short), .lit (.int .i64 r.cursor), .list false 2 (ensA r.es)]
theorem byte_eq (b c : UInt8) : ((b.toNat : Int) == (c.toNat : Int)) = (b == c) := by
 rw [Bool.eq_iff_iff, beq_iff_eq, beq_iff_eq]
 constructor
 ·intro h; exact UInt8.toNat_inj.1 (by omega)
 ·rintro rfl; rfl
theorem le_of_eq {a b : AV} (h : a = b) : a.le b := h ▸ AV.le_refl a
theorem byte_lt (b : UInt8) : (b.toNat : Int) < 256 := by have := b.toNat_lt; omega
def rowA (p cap : Nat) (l : List UInt8) : AV := .lit (.slice (some ⟨p, 0, none⟩) l.length cap)
abbrev ptrA (o : Nat) : AV := .lit (.pointer (some ⟨o, 0, none⟩))
@[simp] theorem wr0 : IntKind.i64.wrap 0 = 0 := by decide
@[simp] theorem wr1 : IntKind.i64.wrap 1 = 1 := by decide
@[simp] theorem wr2 : IntKind.i64.wrap 2 = 2 := by decide
theorem all_bytes {p : UInt8 → Prop} (h : ∀ n : Fin 256, p (UInt8.ofNat n.val)) (b : UInt8) : p b := by
 have := h ⟨b.toNat, b.toNat_lt⟩
 simpa using this
@[simp] theorem byteA_share (b : UInt8) : (byteA b).share = byteA b := nr rfl
@[simp] theorem byteA_drop1 (b : UInt8) : (byteA b).drop1 = byteA b := nr rfl
@[simp] theorem byteA_keep1 (b : UInt8) : (byteA b).keep1 = byteA b := nr rfl
@[simp] theorem byteA_cells (b : UInt8) : (byteA b).cells = [byteA b] := nr rfl
@[simp] theorem byteA_one (b : UInt8) : (byteA b).one = true := nr rfl
@[simp] theorem byteA_solid (b : UInt8) : (byteA b).solid = true := nr rfl
@[simp] theorem byteA_conv (P : Program) (t : TypeId) (b : UInt8) : conv P t (byteA b) = byteA b := nr rfl
theorem bytesA_at (l : List UInt8) (i : Nat) (h : i < l.length) : (bytesA l)[i]'(by simpa using h) = byteA l[i] := by simp [bytesA]
end Go.Proofs.YtlmdbcgceijlnaaGreat
namespace Go.Sp
structure Cell where
 char : UInt8 := 0
 attr : Bool := false
 fa : UInt8 := 0
 high : UInt8 := 0
 color : UInt8 := 0
 set : UInt8 := 0
 deriving DecidableEq, Inhabited
def Cell.zero : Cell := {}
def six (b : UInt8) : UInt8 := b &&& 0x3d
def fit (c : Cell) : Cell := if c.attr = true then { c with char := 0, fa := six c.fa } else { c with fa := 0 }
theorem six_six (b : UInt8) : six (six b) = six b := by simp [six, UInt8.and_assoc]
theorem fit_fit (c : Cell) : fit (fit c) = fit c := by
 unfold fit
 by_cases h : c.attr = true <;> simp [h, six_six]
def fitted (c : Cell) : Prop := fit c = c
theorem fitted_fit (c : Cell) : fitted (fit c) := fit_fit c
theorem fitted_zero : fitted .zero := rfl
def wrap (n : Nat) (k : Int) : Nat := (k % (n : Int)).toNat
theorem wrap_lt {n : Nat} (h : 0 < n) (k : Int) : wrap n k < n := by
 unfold wrap
 have h1 := Int.emod_nonneg k (show (n : Int) ≠ 0 by omega)
 have h2 := Int.emod_lt_of_pos k (show (0 : Int) < n by omega)
 omega
theorem wrap_of_lt {n k : Nat} (h : k < n) : wrap n k = k := by
 unfold wrap
 rw [Int.emod_eq_of_lt (by omega) (by omega)]; simp
def dims (model : Nat) (alt : Bool) : Nat × Nat := if alt = true then (if model = 3 then (32, 80) else if model = 4 then (43, 80) else if model = 5 then (27, 132) else (24, 80)) else (24, 80)
structure Sp where
 model : Nat
 alt : Bool
 cells : List Cell
 cursor : Nat
def Sp.rows (s : Sp) : Nat := (dims s.model s.alt).1
def Sp.cols (s : Sp) : Nat := (dims s.model s.alt).2
def Sp.n (s : Sp) : Nat := s.rows * s.cols
structure Sp.good (s : Sp) : Prop where
 model : 2 ≤ s.model ∧ s.model ≤ 5
 len : s.cells.length = s.n
 cursor : s.cursor < s.n
 fit : ∀ c ∈ s.cells, fitted c
theorem dims_bound (m : Nat) (a : Bool) : 24 ≤ (dims m a).1 ∧ (dims m a).1 ≤ 43 ∧ 80 ≤ (dims m a).2 ∧ (dims m a).2 ≤ 132 ∧ 1920 ≤ (dims m a).1 * (dims m a).2 ∧ (dims m a).1 * (dims m a).2 ≤ 3564 := by
 unfold dims
 cases a <;> simp
 (repeat' split) <;> simp
theorem Sp.n_pos (s : Sp) : 0 < s.n := by have := dims_bound s.model s.alt; unfold Sp.n Sp.rows Sp.cols; omega
theorem Sp.n_le (s : Sp) : s.n ≤ 3564 := by have := dims_bound s.model s.alt; unfold Sp.n Sp.rows Sp.cols; omega
def Sp.clear (s : Sp) (alt : Bool) : Sp := { s with alt := alt, cells := List.replicate ((dims s.model alt).1 * (dims s.model alt).2) .zero, cursor := 0 }
def Sp.new (model : Nat) : Sp := Sp.clear ⟨model, false, [], 0⟩ false
def Sp.at (s : Sp) (k : Int) : Cell := s.cells[wrap s.n k]?.getD .zero
def Sp.put1 (s : Sp) (i : Nat) (c : Cell) : Sp := { s with cells := s.cells.set i c }
def Sp.set (s : Sp) (k : Int) (c : Cell) : Sp := s.put1 (wrap s.n k) (Sp.fit c)
def Sp.put (s : Sp) (k : Int) (code : UInt8) : Sp := if (s.at k).attr = true then s else s.set k { s.at k with char := code }
def Sp.place (s : Sp) (k : Int) : Sp := { s with cursor := wrap s.n k }
def Sp.count (s : Sp) : Nat := s.cells.countP (·.attr)
def Sp.attrs (s : Sp) : List Nat := (List.range s.cells.length).filter fun i => (s.cells[i]?.getD .zero).attr
theorem Sp.clear_good {s : Sp} (h : 2 ≤ s.model ∧ s.model ≤ 5) (alt : Bool) : (s.clear alt).good := by
 have := dims_bound s.model alt
 refine ⟨h, by simp [Sp.clear, Sp.n, Sp.rows, Sp.cols], ?_, fun c hc => ?_⟩
 ·show 0 < (dims s.model alt).1 * (dims s.model alt).2; omega
 ·simp [Sp.clear] at hc; rw [hc.2]; exact fitted_zero
theorem Sp.n_put1 (s : Sp) (i : Nat) (c : Cell) : (s.put1 i c).n = s.n := rfl
theorem Sp.good.put1 {s : Sp} (h : s.good) (i : Nat) {c : Cell} (hc : fitted c) : (s.put1 i c).good := by
 refine ⟨h.model, by rw [Sp.n_put1]; simp [Sp.put1, h.len], h.cursor, fun d hd => ?_⟩
 rcases List.mem_or_eq_of_mem_set hd with h' | h'
 ·exact h.fit d h'
 ·rw [h']; exact hc
theorem Sp.good.set {s : Sp} (h : s.good) (k : Int) (c : Cell) : (s.set k c).good := Sp.good.put1 h _ (fitted_fit c)
theorem Sp.good.place {s : Sp} (h : s.good) (k : Int) : (s.place k).good := ⟨h.model, h.len, wrap_lt s.n_pos k, h.fit⟩
theorem Sp.good.put {s : Sp} (h : s.good) (k : Int) (code : UInt8) : (s.put k code).good := by
 unfold Sp.put; split
 ·exact h
 ·exact Sp.good.set h _ _
structure Act where
 what : UInt8
 n : Int
 on : Bool
 code : UInt8
 c : Cell
 text : List UInt8
def putAll (s : Sp) (k : Int) : Nat → List UInt8 → Sp
 | _, [] => s
 | i, c :: l => putAll (s.put (k + i) c) k (i + 1) l
def Sp.act (s : Sp) (a : Act) : Sp :=
 if a.what.toNat % 6 = 0 then s.clear a.on else if a.what.toNat % 6 = 1 then s.place a.n else if a.what.toNat % 6 = 2 then s.put a.n a.code else
 if a.what.toNat % 6 = 3 then s.set a.n { attr := true, fa := a.code } else if a.what.toNat % 6 = 4 then s.set a.n a.c else putAll s (wrap s.n a.n) 0 (a.text.take 200)
theorem Sp.model_put (s : Sp) (k : Int) (c : UInt8) : (s.put k c).model = s.model ∧ (s.put k c).alt = s.alt := by
 unfold Sp.put; split <;> exact ⟨rfl, rfl⟩
theorem putAll_good (k : Int) : ∀ (l : List UInt8) (i : Nat) {s : Sp}, s.good → (putAll s k i l).good
 | [], _, _, h => h
 | _ :: l, i, _, h => putAll_good k l (i + 1) (Sp.good.put h _ _)
theorem putAll_model (k : Int) : ∀ (l : List UInt8) (i : Nat) (s : Sp), (putAll s k i l).model = s.model
 | [], _, _ => rfl
 | c :: l, i, s => (putAll_model k l (i + 1) _).trans (s.model_put _ c).1
theorem putAll_alt (k : Int) : ∀ (l : List UInt8) (i : Nat) (s : Sp), (putAll s k i l).alt = s.alt
 | [], _, _ => rfl
 | c :: l, i, s => (putAll_alt k l (i + 1) _).trans (s.model_put _ c).2
theorem putAll_n (k : Int) (l : List UInt8) (i : Nat) (s : Sp) : (putAll s k i l).n = s.n := by
 simp only [Sp.n, Sp.rows, Sp.cols, putAll_model, putAll_alt]
theorem Sp.good.act {s : Sp} (h : s.good) (a : Act) : (s.act a).good := by
 unfold Sp.act
 (repeat' split)
 ·exact Sp.clear_good h.model _
 ·exact h.place _
 ·exact Sp.good.put h _ _
 ·exact Sp.good.set h _ _
 ·exact Sp.good.set h _ _
 ·exact putAll_good _ _ _ h
theorem Sp.model_act (s : Sp) (a : Act) : (s.act a).model = s.model := by
 unfold Sp.act
 (repeat' split) <;> first | rfl | exact (s.model_put _ _).1 | exact putAll_model _ _ _ _
def lays (model : UInt8) (acts : List Act) : Sp := (acts.take 30).foldl Sp.act (Sp.new (2 + model.toNat % 4))
theorem new_good {m : Nat} (h : 2 ≤ m ∧ m ≤ 5) : (Sp.new m).good := Sp.clear_good h false
theorem foldl_good : ∀ (l : List Act) {s : Sp}, s.good → (l.foldl Sp.act s).good
 | [], _, h => h
 | a :: l, _, h => foldl_good l (h.act a)
end Go.Sp
namespace Go.Sp
def attrAt (l : List Cell) (i : Nat) : Bool := (l[i]?.getD .zero).attr
def lastA (l : List Cell) (init : Int) : Nat → Int
 | 0 => init
 | m + 1 => if attrAt l m = true then (m : Int) else lastA l init m
theorem lastA_none {l : List Cell} {init : Int} : ∀ {m : Nat}, (∀ i, i < m → attrAt l i = false) → lastA l init m = init
 | 0, _ => rfl
 | m + 1, h => by
  rw [lastA, if_neg (by rw [h m (by omega)]; simp)]
  exact lastA_none fun i hi => h i (by omega)
theorem lastA_at {l : List Cell} {init : Int} {a : Nat} (ha : attrAt l a = true) : ∀ {m : Nat}, a < m → (∀ i, a < i → i < m → attrAt l i = false) → lastA l init m = a
 | m + 1, hm, h => by
  by_cases hma : m = a
  ·subst hma; rw [lastA, if_pos ha]
  ·rw [lastA, if_neg (by rw [h m (by omega) (by omega)]; simp)]
   exact lastA_at ha (by omega) fun i h1 h2 => h i h1 (by omega)
def startS (l : List Cell) (n : Nat) : Int := lastA l (lastA l (-1) l.length) (n + 1)
theorem startS_attr {l : List Cell} {n : Nat} (h : attrAt l n = true) : startS l n = n := by
 rw [startS, lastA, if_pos h]
theorem startS_in {l : List Cell} {a i : Nat} (ha : attrAt l a = true) (hal : a < l.length) (hi : i < l.length) (h : ∀ j, 1 ≤ j → j ≤ i → attrAt l ((a + j) % l.length) = false) : startS l ((a + i) % l.length) = a := by
 have at_ : ∀ x, a < x → x ≤ a + i → x < l.length → attrAt l x = false := fun x h1 h2 h3 => by
  have := h (x - a) (by omega) (by omega)
  rwa [show a + (x - a) = x by omega, Nat.mod_eq_of_lt h3] at this
 by_cases hc : a + i < l.length
 ·rw [Nat.mod_eq_of_lt hc]
  exact lastA_at ha (by omega) fun x h1 h2 => at_ x h1 (by omega) (by omega)
 ·have hm : (a + i) % l.length = a + i - l.length := by rw [Nat.mod_eq_sub_mod (by omega), Nat.mod_eq_of_lt (by omega)]
  rw [hm, startS, lastA_none fun x hx => ?_]
  ·exact lastA_at ha hal fun x h1 h2 => at_ x h1 (by omega) h2
  ·have := h (x + l.length - a) (by omega) (by omega)
   rwa [show a + (x + l.length - a) = x + l.length by omega, Nat.add_mod_right, Nat.mod_eq_of_lt (by omega)] at this
def run (l : List Cell) (a : Nat) : Nat → Nat
 | 0 => 0
 | m + 1 => if run l a m = m ∧ attrAt l ((a + m + 1) % l.length) = false then m + 1 else run l a m
theorem run_le (l : List Cell) (a : Nat) : ∀ m, run l a m ≤ m
 | 0 => Nat.le_refl _
 | m + 1 => by rw [run]; split <;> have := run_le l a m <;> omega
theorem run_free {l : List Cell} {a : Nat} : ∀ {m j : Nat}, 1 ≤ j → j ≤ run l a m → attrAt l ((a + j) % l.length) = false
 | 0, j, h1, h2 => by simp [run] at h2; omega
 | m + 1, j, h1, h2 => by
  rw [run] at h2
  split at h2
  ·rename_i hc
   by_cases hj : j = m + 1
   ·subst hj; exact hc.2
   ·exact run_free (m := m) h1 (by omega)
  ·exact run_free (m := m) h1 h2
theorem run_stop {l : List Cell} {a : Nat} : ∀ {m : Nat}, run l a m < m → attrAt l ((a + run l a m + 1) % l.length) = true
 | m + 1, h => by
  rw [run] at h ⊢
  split at h
  ·omega
  ·rename_i hc
   rw [if_neg hc]
   by_cases hm : run l a m = m
   ·have : ¬ attrAt l ((a + m + 1) % l.length) = false := fun hf => hc ⟨hm, hf⟩
    rw [hm]; simpa using this
   ·exact run_stop (by have := run_le l a m; omega)
def len (l : List Cell) (a : Nat) : Nat := run l a (l.length - 1)
def places (l : List Cell) (a : Nat) : List Nat := (List.range (len l a)).map fun i => (a + i + 1) % l.length
theorem len_lt {l : List Cell} {a : Nat} (h : a < l.length) : len l a < l.length := by have := run_le l a (l.length - 1); unfold len; omega
theorem len_stop {l : List Cell} {a : Nat} (ha : attrAt l a = true) (hal : a < l.length) : attrAt l ((a + len l a + 1) % l.length) = true := by
 by_cases h : run l a (l.length - 1) < l.length - 1
 ·exact run_stop h
 ·have := run_le l a (l.length - 1)
  have e : len l a = l.length - 1 := by unfold len; omega
  rw [e, show a + (l.length - 1) + 1 = a + l.length by omega, Nat.add_mod_right, Nat.mod_eq_of_lt hal]; exact ha
theorem len_free {l : List Cell} {a j : Nat} (h1 : 1 ≤ j) (h2 : j ≤ len l a) : attrAt l ((a + j) % l.length) = false := run_free h1 h2
theorem startS_places {l : List Cell} {a i : Nat} (ha : attrAt l a = true) (hal : a < l.length) (_h1 : 1 ≤ i) (hi : i < l.length) (hall : i ≤ len l a + 1) : startS l ((a + i) % l.length) = a ↔ i ≤ len l a := by
 constructor
 ·intro h
  rcases Nat.lt_or_ge (len l a) i with hlt | hge
  ·have hi' : i = len l a + 1 := by omega
   have hs := len_stop ha hal
   rw [show a + len l a + 1 = a + i by omega] at hs
   rw [startS_attr hs] at h
   have h2 : (a + i) % l.length = a := by omega
   have h3 : (a + i) % l.length = if a + i < l.length then a + i else a + i - l.length := by
    split
    ·exact Nat.mod_eq_of_lt (by assumption)
    ·rw [Nat.mod_eq_sub_mod (by omega), Nat.mod_eq_of_lt (by omega)]
   rw [h3] at h2
   split at h2 <;> omega
  ·exact hge
 ·intro h
  exact startS_in ha hal hi fun j h1 h2 => len_free h1 (by omega)
def rot (l : List Cell) (a : Nat) : List Cell := l.drop (a + 1) ++ l.take a
def fieldCells (l : List Cell) (a : Nat) : List Cell := (rot l a).takeWhile fun c => !c.attr
def Sp.modified (s : Sp) : List Nat := s.attrs.filter fun a => (s.cells[a]?.getD .zero).fa &&& 1 == 1
theorem mem_attrs {s : Sp} {a : Nat} (h : a ∈ s.attrs) : a < s.cells.length ∧ attrAt s.cells a = true := by
 simp only [Sp.attrs, List.mem_filter, List.mem_range] at h
 exact h
end Go.Sp
