/-
  Of each function: which temporaries take a right to append with the value; the plans of the regions that draw their order. Written by a program of mine.
-/
import Derived.Test.YteaidaolablegaaGreatDoorSPart9
set_option linter.unusedSimpArgs false
set_option linter.unusedVariables false
namespace Go.Proofs.YteaidaolablegaaGreatDoor
open Go Go.AL
@[simp] def pl4 : List (Nat × Plan) := []
@[simp] def st8 : List Nat := []
@[simp] def pl8 : List (Nat × Plan) := []
@[simp] def st9 : List Nat := [33, 34, 35, 36]
@[simp] def pl9 : List (Nat × Plan) := [(2, Plan.seq [0, 2, 4, 5, 7] (.alt (.alt (Plan.seq [1] (.alt (Plan.seq [3, 6, 8, 9, 10] (.alt (Plan.seq [11] (.alt (Plan.seq [12, 13, 14] (.done)) (Plan.seq [13, 12, 14] (.done)))) (Plan.seq [12, 11, 13, 14] (.done)))) (Plan.seq [6, 3, 8, 9, 10] (.alt (Plan.seq [11] (.alt (Plan.seq [12, 13, 14] (.done)) (Plan.seq [13, 12, 14] (.done)))) (Plan.seq [12, 11, 13, 14] (.done)))))) (Plan.seq [3] (.alt (Plan.seq [1, 6, 8, 9, 10] (.alt (Plan.seq [11] (.alt (Plan.seq [12, 13, 14] (.done)) (Plan.seq [13, 12, 14] (.done)))) (Plan.seq [12, 11, 13, 14] (.done)))) (Plan.seq [6, 1, 8, 9, 10] (.alt (Plan.seq [11] (.alt (Plan.seq [12, 13, 14] (.done)) (Plan.seq [13, 12, 14] (.done)))) (Plan.seq [12, 11, 13, 14] (.done))))))) (Plan.seq [6, 1, 3, 8, 9, 10] (.alt (Plan.seq [11] (.alt (Plan.seq [12, 13, 14] (.done)) (Plan.seq [13, 12, 14] (.done)))) (Plan.seq [12, 11, 13, 14] (.done))))))]
@[simp] def st11 : List Nat := []
@[simp] def pl11 : List (Nat × Plan) := []
@[simp] def st12 : List Nat := [11]
@[simp] def pl12 : List (Nat × Plan) := [(4, .alt (Plan.seq [0, 1, 2, 3, 4, 5] (.done)) (Plan.seq [1] (.alt (Plan.seq [0, 2, 3, 4, 5] (.done)) (Plan.seq [2] (.alt (Plan.seq [0, 3, 4, 5] (.done)) (Plan.seq [3, 0, 4, 5] (.done)))))))]
@[simp] def st13 : List Nat := [13]
@[simp] def pl13 : List (Nat × Plan) := []
@[simp] def pl14 : List (Nat × Plan) := [(8, Plan.seq [0, 1, 2, 3, 5, 6, 7, 8] (.alt (Plan.seq [4, 9, 10, 11, 12, 13] (.done)) (Plan.seq [9, 4, 10, 11, 12, 13] (.done)))), (11, Plan.seq [0, 1, 2, 3, 5] (.alt (Plan.seq [4, 6, 7, 8, 9, 10] (.done)) (Plan.seq [6, 4, 7, 8, 9, 10] (.done))))]
@[simp] def st15 : List Nat := [24, 37, 43]
@[simp] def pl15 : List (Nat × Plan) := []
@[simp] def st16 : List Nat := []
@[simp] def pl16 : List (Nat × Plan) := []
@[simp] def st27 : List Nat := []
@[simp] def pl27 : List (Nat × Plan) := []
@[simp] def st30 : List Nat := []
@[simp] def pl30 : List (Nat × Plan) := [(1, Plan.seq [0, 1, 3, 6] (.alt (.alt (Plan.seq [2, 4] (.alt (Plan.seq [5, 7, 8, 9, 10] (.done)) (Plan.seq [7, 5, 8, 9, 10] (.done)))) (Plan.seq [4] (.alt (Plan.seq [2] (.alt (Plan.seq [5, 7, 8, 9, 10] (.done)) (Plan.seq [7, 5, 8, 9, 10] (.done)))) (Plan.seq [7, 2, 5, 8, 9, 10] (.done))))) (Plan.seq [7] (.alt (Plan.seq [2, 4, 5, 8, 9, 10] (.done)) (Plan.seq [4, 2, 5, 8, 9, 10] (.done))))))]
@[simp] def st31 : List Nat := [20, 24]
@[simp] def pl31 : List (Nat × Plan) := []
@[simp] def st32 : List Nat := []
@[simp] def pl32 : List (Nat × Plan) := []
@[simp] def st33 : List Nat := [16, 19]
@[simp] def pl33 : List (Nat × Plan) := []
@[simp] def st34 : List Nat := []
@[simp] def pl34 : List (Nat × Plan) := []
@[simp] def st36 : List Nat := []
@[simp] def pl36 : List (Nat × Plan) := []
@[simp] def st37 : List Nat := []
@[simp] def pl37 : List (Nat × Plan) := []
@[simp] def st38 : List Nat := []
@[simp] def pl38 : List (Nat × Plan) := []
@[simp] def st39 : List Nat := []
@[simp] def pl39 : List (Nat × Plan) := []
@[simp] def st40 : List Nat := []
@[simp] def pl40 : List (Nat × Plan) := []
@[simp] def st41 : List Nat := []
@[simp] def pl41 : List (Nat × Plan) := []
@[simp] def st42 : List Nat := []
@[simp] def pl42 : List (Nat × Plan) := []
@[simp] def st43 : List Nat := [11]
@[simp] def pl43 : List (Nat × Plan) := []
@[simp] def st44 : List Nat := []
@[simp] def pl44 : List (Nat × Plan) := []
@[simp] def st52 : List Nat := []
@[simp] def pl52 : List (Nat × Plan) := []
@[simp] def st53 : List Nat := [12]
@[simp] def pl53 : List (Nat × Plan) := []
@[simp] def st54 : List Nat := []
@[simp] def pl54 : List (Nat × Plan) := []
@[simp] def st55 : List Nat := []
@[simp] def pl55 : List (Nat × Plan) := []
@[simp] def st56 : List Nat := [40]
@[simp] def pl56 : List (Nat × Plan) := []
@[simp] def st57 : List Nat := []
@[simp] def pl57 : List (Nat × Plan) := []
@[simp] def st58 : List Nat := []
@[simp] def pl58 : List (Nat × Plan) := []
@[simp] def st59 : List Nat := [38]
@[simp] def pl59 : List (Nat × Plan) := []
@[simp] def st60 : List Nat := []
@[simp] def pl60 : List (Nat × Plan) := [(1, Plan.seq [0, 1, 2, 3, 4, 7, 5, 6] (.done))]
@[simp] def st61 : List Nat := [29, 25, 29]
@[simp] def pl61 : List (Nat × Plan) := []
@[simp] def st62 : List Nat := []
@[simp] def pl62 : List (Nat × Plan) := [(6, Plan.seq [0, 1, 2, 3] (.alt (Plan.seq [4, 5, 6, 7] (.done)) (Plan.seq [6, 4, 5, 7] (.done)))), (8, Plan.seq [0, 1, 2, 3, 4, 5, 6] (.done))]
@[simp] def st63 : List Nat := []
@[simp] def pl63 : List (Nat × Plan) := []
@[simp] def st64 : List Nat := []
@[simp] def pl64 : List (Nat × Plan) := []
@[simp] def st65 : List Nat := []
@[simp] def pl65 : List (Nat × Plan) := []
@[simp] def st66 : List Nat := []
@[simp] def pl66 : List (Nat × Plan) := []
@[simp] def st67 : List Nat := [33, 34, 67, 68, 85, 86, 98, 99, 18, 49, 69, 87, 40]
@[simp] def pl67 : List (Nat × Plan) := []
@[simp] def st71 : List Nat := []
@[simp] def pl71 : List (Nat × Plan) := []
@[simp] def st72 : List Nat := []
@[simp] def pl72 : List (Nat × Plan) := []
@[simp] def st73 : List Nat := []
@[simp] def pl73 : List (Nat × Plan) := []
@[simp] def st74 : List Nat := []
@[simp] def pl74 : List (Nat × Plan) := []
@[simp] def st75 : List Nat := []
@[simp] def pl75 : List (Nat × Plan) := []
@[simp] def st76 : List Nat := [17]
@[simp] def pl76 : List (Nat × Plan) := []
@[simp] def st77 : List Nat := [12]
@[simp] def pl77 : List (Nat × Plan) := [(1, Plan.seq [0, 1, 2, 3, 5, 6, 7] (.alt (Plan.seq [4, 8, 9, 10, 11, 12, 13, 14] (.done)) (Plan.seq [8, 9] (.alt (Plan.seq [4, 10, 11, 12, 13, 14] (.done)) (Plan.seq [10, 4, 11, 12, 13, 14] (.done))))))]
@[simp] def st78 : List Nat := []
@[simp] def pl78 : List (Nat × Plan) := [(1, Plan.seq [0, 1, 2, 3, 4, 5, 6, 7, 8, 9] (.alt (Plan.seq [10] (.alt (Plan.seq [11, 12, 13] (.done)) (Plan.seq [12, 11, 13] (.done)))) (Plan.seq [11, 10, 12, 13] (.done))))]
@[simp] def st79 : List Nat := [47]
@[simp] def pl79 : List (Nat × Plan) := [(1, Plan.seq [0, 1, 2, 3, 4, 5, 6, 7, 8, 9, 10, 11, 12, 13, 14, 15] (.done)), (2, Plan.seq [0, 1, 2, 3, 4, 5, 6, 7, 8, 9] (.alt (Plan.seq [10] (.alt (Plan.seq [11, 12, 13] (.done)) (Plan.seq [12, 11, 13] (.done)))) (Plan.seq [11, 10, 12, 13] (.done)))), (4, Plan.seq [0, 1, 2, 3, 5, 7] (.alt (Plan.seq [4, 6, 8, 9, 10, 11, 12] (.done)) (Plan.seq [6] (.alt (Plan.seq [4, 8, 9, 10, 11, 12] (.done)) (Plan.seq [8, 4, 9, 10, 11, 12] (.done))))))]
@[simp] def st80 : List Nat := [37, 8]
@[simp] def pl80 : List (Nat × Plan) := []
@[simp] def st81 : List Nat := []
@[simp] def pl81 : List (Nat × Plan) := []
@[simp] def st82 : List Nat := []
@[simp] def pl82 : List (Nat × Plan) := [(3, Plan.seq [0, 1, 2, 3, 4, 5, 6, 7, 8, 9, 10] (.done))]
@[simp] def st83 : List Nat := []
@[simp] def pl83 : List (Nat × Plan) := []
@[simp] def st85 : List Nat := [45]
@[simp] def pl85 : List (Nat × Plan) := [(3, Plan.seq [0, 1, 2, 3, 4, 5, 7] (.alt (.alt (Plan.seq [6, 8] (.alt (Plan.seq [9, 10, 11, 12] (.done)) (Plan.seq [11, 9, 10, 12] (.done)))) (Plan.seq [8] (.alt (Plan.seq [6] (.alt (Plan.seq [9, 10, 11, 12] (.done)) (Plan.seq [11, 9, 10, 12] (.done)))) (Plan.seq [11, 6, 9, 10, 12] (.done))))) (Plan.seq [11] (.alt (Plan.seq [6, 8, 9, 10, 12] (.done)) (Plan.seq [8, 6, 9, 10, 12] (.done)))))), (4, Plan.seq [1, 2, 3, 4, 6] (.alt (Plan.seq [0] (.alt (Plan.seq [5, 7, 8, 9] (.done)) (Plan.seq [7, 5, 8, 9] (.done)))) (Plan.seq [7, 0, 5, 8, 9] (.done))))]
@[simp] def st86 : List Nat := [31, 50, 73]
@[simp] def pl86 : List (Nat × Plan) := []
@[simp] def st87 : List Nat := []
@[simp] def pl87 : List (Nat × Plan) := [(15, Plan.seq [0, 1, 2, 3, 4, 5, 6, 7, 8, 9, 10] (.done)), (24, Plan.seq [0, 1, 2, 3, 4, 5, 6, 7, 8, 9, 10] (.done)), (28, Plan.seq [0, 1, 2, 3, 4, 5, 6, 7, 8, 9] (.done))]
@[simp] def st88 : List Nat := [15]
@[simp] def pl88 : List (Nat × Plan) := []
@[simp] def st89 : List Nat := [10]
@[simp] def pl89 : List (Nat × Plan) := [(2, Plan.seq [0, 1, 2, 3] (.alt (Plan.seq [4, 5, 6, 7, 8, 9, 10] (.done)) (Plan.seq [5] (.alt (Plan.seq [4, 6, 7, 8, 9, 10] (.done)) (Plan.seq [6, 4, 7, 8, 9, 10] (.done))))))]
@[simp] def st90 : List Nat := [20]
@[simp] def pl90 : List (Nat × Plan) := []
@[simp] def st91 : List Nat := []
@[simp] def pl91 : List (Nat × Plan) := [(0, Plan.seq [0, 1, 2, 3, 4, 5, 6, 7, 8, 9, 10, 11, 12, 13, 14, 15] (.done))]
@[simp] def st92 : List Nat := []
@[simp] def pl92 : List (Nat × Plan) := [(14, Plan.seq [0, 1, 2, 3, 8, 9, 4, 5] (.alt (Plan.seq [6, 10] (.alt (Plan.seq [7, 11, 12] (.done)) (Plan.seq [11, 7, 12] (.done)))) (Plan.seq [7, 6, 10, 11, 12] (.done)))), (15, Plan.seq [0, 1, 2, 3, 8, 9, 4, 5] (.alt (Plan.seq [6, 10] (.alt (Plan.seq [7, 11, 12] (.done)) (Plan.seq [11, 7, 12] (.done)))) (Plan.seq [7, 6, 10, 11, 12] (.done))))]
@[simp] def st93 : List Nat := [16]
@[simp] def pl93 : List (Nat × Plan) := [(3, Plan.seq [0, 1, 2, 3] (.alt (Plan.seq [4, 5, 6, 7, 8, 9, 10] (.done)) (Plan.seq [5] (.alt (Plan.seq [4, 6, 7, 8, 9, 10] (.done)) (Plan.seq [6, 4, 7, 8, 9, 10] (.done))))))]
@[simp] def st94 : List Nat := []
@[simp] def pl94 : List (Nat × Plan) := []
@[simp] def st95 : List Nat := []
@[simp] def pl95 : List (Nat × Plan) := []
@[simp] def st96 : List Nat := []
@[simp] def pl96 : List (Nat × Plan) := []
@[simp] def st97 : List Nat := []
@[simp] def pl97 : List (Nat × Plan) := [(9, Plan.seq [0, 1, 2, 3, 9, 10, 4, 5] (.alt (.alt (Plan.seq [6, 11] (.alt (.alt (Plan.seq [7] (.alt (Plan.seq [8, 12, 13, 14] (.done)) (Plan.seq [12] (.alt (Plan.seq [8, 13, 14] (.done)) (Plan.seq [13, 8, 14] (.done)))))) (Plan.seq [8] (.alt (Plan.seq [7, 12, 13, 14] (.done)) (Plan.seq [12, 7, 13, 14] (.done))))) (Plan.seq [12] (.alt (Plan.seq [7] (.alt (Plan.seq [8, 13, 14] (.done)) (Plan.seq [13, 8, 14] (.done)))) (Plan.seq [8, 7, 13, 14] (.done)))))) (Plan.seq [7] (.alt (Plan.seq [6, 11] (.alt (Plan.seq [8, 12, 13, 14] (.done)) (Plan.seq [12] (.alt (Plan.seq [8, 13, 14] (.done)) (Plan.seq [13, 8, 14] (.done)))))) (Plan.seq [8, 6, 11, 12, 13, 14] (.done))))) (Plan.seq [8] (.alt (Plan.seq [6, 11] (.alt (Plan.seq [7, 12, 13, 14] (.done)) (Plan.seq [12, 7, 13, 14] (.done)))) (Plan.seq [7, 6, 11, 12, 13, 14] (.done)))))), (10, Plan.seq [0, 1, 2, 3, 9, 10, 4, 5] (.alt (.alt (Plan.seq [6, 11] (.alt (.alt (Plan.seq [7] (.alt (Plan.seq [8, 12, 13, 14] (.done)) (Plan.seq [12] (.alt (Plan.seq [8, 13, 14] (.done)) (Plan.seq [13, 8, 14] (.done)))))) (Plan.seq [8] (.alt (Plan.seq [7, 12, 13, 14] (.done)) (Plan.seq [12, 7, 13, 14] (.done))))) (Plan.seq [12] (.alt (Plan.seq [7] (.alt (Plan.seq [8, 13, 14] (.done)) (Plan.seq [13, 8, 14] (.done)))) (Plan.seq [8, 7, 13, 14] (.done)))))) (Plan.seq [7] (.alt (Plan.seq [6, 11] (.alt (Plan.seq [8, 12, 13, 14] (.done)) (Plan.seq [12] (.alt (Plan.seq [8, 13, 14] (.done)) (Plan.seq [13, 8, 14] (.done)))))) (Plan.seq [8, 6, 11, 12, 13, 14] (.done))))) (Plan.seq [8] (.alt (Plan.seq [6, 11] (.alt (Plan.seq [7, 12, 13, 14] (.done)) (Plan.seq [12, 7, 13, 14] (.done)))) (Plan.seq [7, 6, 11, 12, 13, 14] (.done))))))]
@[simp] def st99 : List Nat := []
@[simp] def pl99 : List (Nat × Plan) := [(3, Plan.seq [0, 1, 2, 3, 4, 5, 6, 7, 8, 9, 10, 11, 12, 13, 14, 15, 16, 17, 18, 19, 20, 21] (.done)), (6, Plan.seq [1, 2] (.alt (Plan.seq [0, 3, 4, 5, 6] (.done)) (Plan.seq [3, 0, 4, 5, 6] (.done))))]
@[simp] def st100 : List Nat := []
@[simp] def pl100 : List (Nat × Plan) := []
@[simp] def st101 : List Nat := []
@[simp] def pl101 : List (Nat × Plan) := []
@[simp] def st102 : List Nat := []
@[simp] def pl102 : List (Nat × Plan) := []
@[simp] def st103 : List Nat := [26]
@[simp] def pl103 : List (Nat × Plan) := []
@[simp] def st104 : List Nat := [106, 175]
@[simp] def pl104 : List (Nat × Plan) := []
@[simp] def st106 : List Nat := []
@[simp] def pl106 : List (Nat × Plan) := []
@[simp] def st107 : List Nat := []
@[simp] def pl107 : List (Nat × Plan) := []
@[simp] def st108 : List Nat := []
@[simp] def pl108 : List (Nat × Plan) := []
@[simp] def st109 : List Nat := []
@[simp] def pl109 : List (Nat × Plan) := []
@[simp] def st110 : List Nat := []
@[simp] def pl110 : List (Nat × Plan) := []
@[simp] def st111 : List Nat := [26, 35]
@[simp] def pl111 : List (Nat × Plan) := [(4, Plan.seq [3, 4, 5, 6, 7] (.alt (Plan.seq [0, 1, 2, 8, 9] (.done)) (Plan.seq [1, 0, 2, 8, 9] (.done))))]
@[simp] def st112 : List Nat := []
@[simp] def pl112 : List (Nat × Plan) := []
@[simp] def st113 : List Nat := [93]
@[simp] def pl113 : List (Nat × Plan) := []
@[simp] def st115 : List Nat := []
@[simp] def pl115 : List (Nat × Plan) := []
@[simp] def st116 : List Nat := []
@[simp] def pl116 : List (Nat × Plan) := []
@[simp] def st123 : List Nat := []
@[simp] def pl123 : List (Nat × Plan) := []
@[simp] def st124 : List Nat := []
@[simp] def pl124 : List (Nat × Plan) := [(2, Plan.seq [0, 1, 2, 3, 4, 5, 6, 7, 8, 9, 10, 11, 12, 13, 14] (.done))]
@[simp] def st125 : List Nat := []
@[simp] def pl125 : List (Nat × Plan) := []
@[simp] def st126 : List Nat := []
@[simp] def pl126 : List (Nat × Plan) := []
@[simp] def st127 : List Nat := []
@[simp] def pl127 : List (Nat × Plan) := []
@[simp] def st128 : List Nat := []
@[simp] def pl128 : List (Nat × Plan) := []
@[simp] def st131 : List Nat := [22]
@[simp] def pl131 : List (Nat × Plan) := [(3, Plan.seq [0, 1, 2, 3, 4, 5, 6, 7, 8, 9, 10, 11] (.done))]
@[simp] def st132 : List Nat := []
@[simp] def pl132 : List (Nat × Plan) := []
@[simp] def st133 : List Nat := []
@[simp] def pl133 : List (Nat × Plan) := []
@[simp] def st134o : List Nat := [8, 1000002, 1000003]
@[simp] def pl134o : List (Nat × Plan) := []
@[simp] def st135 : List Nat := []
@[simp] def pl135 : List (Nat × Plan) := []
@[simp] def st136 : List Nat := [17]
@[simp] def pl136 : List (Nat × Plan) := []
@[simp] def st137o : List Nat := [1000004, 1000002]
@[simp] def pl137o : List (Nat × Plan) := []
@[simp] def st138 : List Nat := []
@[simp] def pl138 : List (Nat × Plan) := []
@[simp] def st139 : List Nat := []
@[simp] def pl139 : List (Nat × Plan) := []
@[simp] def st140o : List Nat := [8, 1000002, 1000004, 1000011]
@[simp] def pl140o : List (Nat × Plan) := []
@[simp] def st141 : List Nat := []
@[simp] def pl141 : List (Nat × Plan) := [(17, Plan.seq [0, 1, 2, 3, 4, 5, 6, 7, 8, 9, 10, 11, 12, 13, 14] (.done))]
@[simp] def st142 : List Nat := []
@[simp] def pl142 : List (Nat × Plan) := []
@[simp] def st143 : List Nat := []
@[simp] def pl143 : List (Nat × Plan) := [(4, Plan.seq [0, 1, 2, 3, 4, 5, 6, 7, 8, 9, 10, 11, 12, 13, 14] (.done)), (6, Plan.seq [0, 1, 2, 3, 4, 5, 6, 7, 8, 9, 10, 11, 12, 13, 14, 15, 16, 17] (.done))]
@[simp] def st149 : List Nat := []
@[simp] def pl149 : List (Nat × Plan) := []
@[simp] def st153 : List Nat := []
@[simp] def pl153 : List (Nat × Plan) := []
@[simp] def st159 : List Nat := []
@[simp] def pl159 : List (Nat × Plan) := []
end Go.Proofs.YteaidaolablegaaGreatDoor
/-
  What bytes and events are as abstract values; the reader's pure model.
-/
namespace Go.Proofs.YteaidaolablegaaGreatDoor
open Go Go.AL

theorem follows : Tryz.prog.follows .mixedOrders = true := by kernel_rfl

def byteA (b : UInt8) : AV := .lit (.int .u8 (b.toNat : Int))
def bytesA (l : List UInt8) : List AV := l.map byteA
@[simp] theorem bytesA_length (l : List UInt8) : (bytesA l).length = l.length := by simp [bytesA]
theorem bytesA_append (l k : List UInt8) : bytesA (l ++ k) = bytesA l ++ bytesA k := by simp [bytesA]
theorem bytesA_nil : bytesA [] = [] := rfl
theorem bytesOf_bytesA (l : List UInt8) : bytesOf (bytesA l) = some l := by
  induction l with
  | nil => rfl
  | cons b l ih =>
    have hb : AL.byteOf (byteA b) = some b := by simp [byteA, AL.byteOf]
    simp only [bytesOf, bytesA, List.map_cons, List.mapM_cons] at ih ⊢
    rw [hb, ih]; rfl
theorem bytesA_get (l : List UInt8) (i : Nat) : (bytesA l)[i]? = (l[i]?).map byteA := by simp [bytesA]

structure Ev where
  kind : Int
  verb : UInt8
  opt : UInt8
  data : List UInt8
  long : Bool
  broken : Bool
  deriving DecidableEq

def evA (e : Ev) : AV := .agg [.lit (.int .i64 e.kind), byteA e.verb, byteA e.opt, .list false 1 (bytesA e.data), .lit (.bool e.long), .lit (.bool e.broken)]
def evsA (l : List Ev) : List AV := l.map evA
@[simp] theorem evsA_length (l : List Ev) : (evsA l).length = l.length := by simp [evsA]
theorem evsA_append (l k : List Ev) : evsA (l ++ k) = evsA l ++ evsA k := by simp [evsA]
theorem evsA_get (l : List Ev) (i : Nat) : (evsA l)[i]? = (l[i]?).map evA := by simp [evsA]

/-- The reader. -/
structure Rd where
  state : Int
  verb : UInt8
  opt : UInt8
  data : List UInt8
  sub : List UInt8
  long : Bool
  out : List Ev

def rdA (r : Rd) : List AV := [.lit (.int .i64 r.state), byteA r.verb, byteA r.opt, .list true 1 (bytesA r.data), .list true 1 (bytesA r.sub), .lit (.bool r.long), .list true 6 (evsA r.out)]

namespace Rd
def flush (r : Rd) : Rd := { r with out := if 0 < r.data.length then r.out ++ [⟨0, 0, 0, r.data, false, false⟩] else r.out, data := [] }
def tell (r : Rd) (e : Ev) : Rd := { r.flush with out := r.flush.out ++ [e], state := 0 }
def keep (r : Rd) (b : UInt8) : Rd := if 256 ≤ r.sub.length then { r with state := 4, long := true } else { r with state := 4, sub := r.sub ++ [b] }
def fin (r : Rd) (broken : Bool) : Rd := { r.tell ⟨3, 0, r.opt, r.sub, r.long, broken⟩ with sub := [], long := false }
def command (r : Rd) (b : UInt8) : Rd :=
  if (b.toNat : Int) = 255 then { r with data := r.data ++ [b], state := 0 }
  else if (b.toNat : Int) = 250 then { r with state := 3 }
  else if 251 ≤ (b.toNat : Int) ∧ (b.toNat : Int) ≤ 254 then { r with verb := b, state := 2 }
  else r.tell ⟨1, b, 0, [], false, false⟩
def take (r : Rd) (b : UInt8) : Rd :=
  if r.state = 1 then r.command b
  else if r.state = 2 then r.tell ⟨2, r.verb, b, [], false, false⟩
  else if r.state = 3 then { r with opt := b, state := 4 }
  else if r.state = 4 then (if (b.toNat : Int) = 255 then { r with state := 5 } else r.keep b)
  else if r.state = 5 then (if (b.toNat : Int) = 255 then r.keep b else if (b.toNat : Int) = 240 then r.fin false else (r.fin true).command b)
  else if (b.toNat : Int) = 255 then { r with state := 1 }
  else { r with data := r.data ++ [b] }
def feed (r : Rd) (p : List UInt8) : Rd := p.foldl take r
def init : Rd := ⟨0, 0, 0, [], [], false, []⟩
end Rd

theorem le_of_eq {a b : AV} (h : a = b) : a.le b := h ▸ AV.le_refl a
end Go.Proofs.YteaidaolablegaaGreatDoor
/-
  The reader's methods do what their pure models do.
-/
namespace Go.Proofs.YteaidaolablegaaGreatDoor
open Go Go.AL
abbrev ptrA (o : Nat) : AV := .lit (.pointer (some ⟨o, 0, none⟩))
/-- The reader's cells, written out. -/
theorem rdA_eq (r : Rd) : rdA r = [.lit (.int .i64 r.state), byteA r.verb, byteA r.opt, .list true 1 (bytesA r.data), .list true 1 (bytesA r.sub), .lit (.bool r.long), .list true 6 (evsA r.out)] := rfl

set_option maxRecDepth 8000 in
theorem flush_calls (o : Nat) (r : Rd) (σ : Store) (ho : σ o = some (rdA r)) (hl : r.out.length ≤ 1000000) :
    ACalls Tryz.prog 77 [ptrA o] σ fun v σ' => v = .tuple [] ∧ σ' = σ.upd o (rdA r.flush) := by
  refine ACalls.of_awp follows (st := st77) (plans := pl77) (n := 25) Tryz.func77 rfl (by kernel_rfl) (by kernel_rfl) (by kernel_rfl) ?_
  rw [rdA_eq r] at ho
  simp [ho]
  split
  · rename_i h
    refine ⟨by omega, by omega, sub_eq ?_⟩
    simp [rdA, Rd.flush, h, evsA, evA, byteA, bytesA_nil]
  · rename_i h
    refine sub_eq ?_
    simp [rdA, Rd.flush, h, bytesA_nil]

set_option maxRecDepth 8000 in
theorem keep_calls (o : Nat) (r : Rd) (b : UInt8) (σ : Store) (ho : σ o = some (rdA r)) (hl : r.sub.length ≤ 1000000) :
    ACalls Tryz.prog 90 [ptrA o, byteA b] σ fun v σ' => v = .tuple [] ∧ σ' = σ.upd o (rdA (r.keep b)) := by
  refine ACalls.of_awp follows (st := st90) (plans := pl90) (n := 26) Tryz.func90 rfl (by kernel_rfl) (by kernel_rfl) (by kernel_rfl) ?_
  rw [rdA_eq r] at ho
  simp [ho, byteA]
  split
  · rename_i h
    refine sub_eq ?_
    simp [rdA, Rd.keep, show 256 ≤ r.sub.length by omega, byteA]
  · rename_i h
    refine ⟨by omega, by omega, sub_eq ?_⟩
    simp [rdA, Rd.keep, show ¬ 256 ≤ r.sub.length by omega, byteA, bytesA]

theorem flush_len (r : Rd) : r.flush.out.length ≤ r.out.length + 1 := by simp only [Rd.flush]; split <;> simp
theorem tell_len (r : Rd) (e : Ev) : (r.tell e).out.length ≤ r.out.length + 2 := by have := flush_len r; simp [Rd.tell]; omega
theorem tell_sub (r : Rd) (e : Ev) : (r.tell e).sub = r.sub ∧ (r.tell e).opt = r.opt ∧ (r.tell e).data = [] := by simp [Rd.tell, Rd.flush]

set_option maxRecDepth 8000 in
theorem tell_calls (o : Nat) (r : Rd) (e : Ev) (σ : Store) (ho : σ o = some (rdA r)) (hl : r.out.length ≤ 900000) :
    ACalls Tryz.prog 89 [ptrA o, evA e] σ fun v σ' => v = .tuple [] ∧ σ' = σ.upd o (rdA (r.tell e)) := by
  refine ACalls.of_awp follows (st := st89) (plans := pl89) (n := 19) Tryz.func89 rfl (by kernel_rfl) (by kernel_rfl) (by kernel_rfl) ?_
  simp [ho, evA, byteA]
  intro p hp
  have hne : o ≠ p := fun h => by subst h; rw [ho] at hp; cases hp
  refine callK.of (flush_calls o r _ (by simp [hne, ho]) (by omega)) ?_
  rintro v σ' ⟨rfl, rfl⟩
  simp [rdA_eq r.flush, hne, Ne.symm hne]
  have hfl := flush_len r
  refine ⟨by omega, by omega, sub_box hp hne ?_⟩
  simp [rdA, Rd.tell, evsA, evA, byteA]

set_option maxRecDepth 8000 in
theorem end_calls (o : Nat) (r : Rd) (b : Bool) (σ : Store) (ho : σ o = some (rdA r)) (hl : r.out.length ≤ 900000) :
    ACalls Tryz.prog 91 [ptrA o, .lit (.bool b)] σ fun v σ' => v = .tuple [] ∧ σ' = σ.upd o (rdA (r.fin b)) := by
  refine ACalls.of_awp follows (st := st91) (plans := pl91) (n := 26) Tryz.func91 rfl (by kernel_rfl) (by kernel_rfl) (by kernel_rfl) ?_
  simp [ho, rdA_eq r, byteA]
  refine callK.of (tell_calls o r ⟨3, 0, r.opt, r.sub, r.long, b⟩ _ ho hl) ?_
  rintro v σ' ⟨rfl, rfl⟩
  simp [rdA_eq (r.tell _)]
  refine sub_eq ?_
  simp [rdA, Rd.fin, bytesA_nil]

set_option maxRecDepth 8000 in
theorem command_calls (o : Nat) (r : Rd) (b : UInt8) (σ : Store) (ho : σ o = some (rdA r)) (hl : r.out.length ≤ 900000) (hd : r.data.length ≤ 1000000) :
    ACalls Tryz.prog 88 [ptrA o, byteA b] σ fun v σ' => v = .tuple [] ∧ σ' = σ.upd o (rdA (r.command b)) := by
  refine ACalls.of_awp follows (st := st88) (plans := pl88) (n := 44) Tryz.func88 rfl (by kernel_rfl) (by kernel_rfl) (by kernel_rfl) ?_
  have hob := ho
  rw [rdA_eq r] at ho
  by_cases h1 : (b.toNat : Int) = 255
  · simp [ho, byteA, h1]
    refine ⟨by omega, by omega, sub_eq ?_⟩
    simp [rdA, Rd.command, h1, byteA, bytesA]
  by_cases h2 : (b.toNat : Int) = 250
  · simp [ho, byteA, h1, h2]
    refine sub_eq ?_
    simp [rdA, Rd.command, h1, h2, byteA]
  by_cases h3 : 251 ≤ (b.toNat : Int) ∧ (b.toNat : Int) ≤ 254
  · simp [ho, byteA, h1, h2, h3]
    refine sub_eq ?_
    simp [rdA, Rd.command, h1, h2, h3, byteA]
  · have key : Rd.command r b = r.tell ⟨1, b, 0, [], false, false⟩ := by simp [Rd.command, h1, h2, h3]
    have fin : ∀ {x : List AV} {R : AV → Store → Prop} {t : Tag R}, AllLe x [ptrA o, evA ⟨1, b, 0, [], false, false⟩] → (∀ σ', σ' = σ.upd o (rdA (r.command b)) → R (.tuple []) σ') → callK Tryz.prog 89 x σ R t := fun hx hr =>
      callK.le hx (tell_calls o r ⟨1, b, 0, [], false, false⟩ σ hob hl) (by rintro v σ' ⟨rfl, rfl⟩; exact hr _ (by rw [key]))
    by_cases h4 : 251 ≤ (b.toNat : Int)
    · have h5 : ¬ (b.toNat : Int) ≤ 254 := fun h => h3 ⟨h4, h⟩
      simp [ho, byteA, h1, h2, h4, h5]
      refine fin (by simp [evA, byteA, bytesA_nil]; exact AV.le_agg (by simp)) ?_
      rintro σ' rfl
      simp
    · simp [ho, byteA, h1, h2, h4]
      refine fin (by simp [evA, byteA, bytesA_nil]; exact AV.le_agg (by simp)) ?_
      rintro σ' rfl
      simp

theorem keep_len (r : Rd) (b : UInt8) : (r.keep b).sub.length ≤ r.sub.length + 1 ∧ (r.keep b).out = r.out ∧ (r.keep b).data = r.data := by
  simp only [Rd.keep]; split <;> simp
theorem fin_len (r : Rd) (b : Bool) : (r.fin b).out.length ≤ r.out.length + 2 ∧ (r.fin b).data = [] ∧ (r.fin b).sub = [] := by
  have := tell_len r ⟨3, 0, r.opt, r.sub, r.long, b⟩
  simp only [Rd.fin]; exact ⟨this, (tell_sub ..).2.2, trivial⟩

set_option maxRecDepth 8000 in
theorem take_calls (o : Nat) (r : Rd) (b : UInt8) (σ : Store) (ho : σ o = some (rdA r)) (hl : r.out.length ≤ 800000) (hd : r.data.length ≤ 800000) (hs : r.sub.length ≤ 800000) :
    ACalls Tryz.prog 76 [ptrA o, byteA b] σ fun v σ' => v = .tuple [] ∧ σ' = σ.upd o (rdA (r.take b)) := by
  refine ACalls.of_awp follows (st := st76) (plans := pl76) (n := 74) Tryz.func76 rfl (by kernel_rfl) (by kernel_rfl) (by kernel_rfl) ?_
  have hob := ho
  rw [rdA_eq r] at ho
  by_cases s1 : r.state = 1
  · simp [ho, s1]
    refine callK.of (command_calls o r b σ hob (by omega) (by omega)) ?_
    rintro v σ' ⟨rfl, rfl⟩
    simp [Rd.take, s1]
  by_cases s2 : r.state = 2
  · simp [ho, s2, byteA]
    refine callK.le (args' := [ptrA o, evA ⟨2, r.verb, b, [], false, false⟩]) (by simp [evA, byteA, bytesA_nil]; exact AV.le_agg (by simp)) (tell_calls o r _ σ hob (by omega)) ?_
    rintro v σ' ⟨rfl, rfl⟩
    simp [Rd.take, s2]
  by_cases s3 : r.state = 3
  · simp [ho, s3, byteA]
    refine sub_eq ?_
    simp [rdA, Rd.take, s3, byteA]
  by_cases s4 : r.state = 4
  · by_cases h1 : (b.toNat : Int) = 255
    · simp [ho, s4, byteA, h1]
      refine sub_eq ?_
      simp [rdA, Rd.take, s4, byteA, h1]
    · simp [ho, s4, byteA, h1]
      refine callK.of (keep_calls o r b σ hob (by omega)) ?_
      rintro v σ' ⟨rfl, rfl⟩
      simp [Rd.take, s4, h1]
  by_cases s5 : r.state = 5
  · by_cases h1 : (b.toNat : Int) = 255
    · have hb : byteA b = .lit (.int .u8 255) := by simp [byteA, h1]
      have hk := keep_calls o r b σ hob (by omega)
      rw [hb] at hk ⊢
      simp [ho, s5]
      refine callK.of hk ?_
      rintro v σ' ⟨rfl, rfl⟩
      simp [Rd.take, s5, h1]
    by_cases h2 : (b.toNat : Int) = 240
    · simp [ho, s5, byteA, h1, h2]
      refine callK.of (end_calls o r false σ hob (by omega)) ?_
      rintro v σ' ⟨rfl, rfl⟩
      simp [Rd.take, s5, h1, h2]
    · simp [ho, s5, byteA, h1, h2]
      refine callK.of (end_calls o r true σ hob (by omega)) ?_
      rintro v σ' ⟨rfl, rfl⟩
      simp
      have hf := fin_len r true
      refine callK.of (command_calls o (r.fin true) b _ (by simp) (by omega) (by rw [hf.2.1]; simp)) ?_
      rintro v σ' ⟨rfl, rfl⟩
      simp [Rd.take, s5, h1, h2]
  · by_cases h1 : (b.toNat : Int) = 255
    · simp [ho, s1, s2, s3, s4, s5, byteA, h1]
      refine sub_eq ?_
      simp [rdA, Rd.take, s1, s2, s3, s4, s5, byteA, h1]
    · simp [ho, s1, s2, s3, s4, s5, byteA, h1]
      refine ⟨by omega, by omega, sub_eq ?_⟩
      simp [rdA, Rd.take, s1, s2, s3, s4, s5, byteA, h1, bytesA]
end Go.Proofs.YteaidaolablegaaGreatDoor
/-
  The smaller functions of the telnet laws, and what they compute.
-/
namespace Go.Proofs.YteaidaolablegaaGreatDoor
open Go Go.AL

theorem flat_bytesA (l : List UInt8) : flat (bytesA l) = bytesA l := by
  induction l with
  | nil => rfl
  | cons b l ih => simp only [flat, bytesA, List.map_cons, List.flatMap_cons] at ih ⊢; rw [ih]; rfl
theorem bytesA_take (l : List UInt8) (n : Nat) : (bytesA l).take n = bytesA (l.take n) := by simp [bytesA]
theorem bytesA_drop (l : List UInt8) (n : Nat) : (bytesA l).drop n = bytesA (l.drop n) := by simp [bytesA]
theorem drop1_bytesA (l : List UInt8) : (bytesA l).map AV.drop1 = bytesA l := by
  simp only [bytesA, List.map_map]; rfl

/-- A row of bytes that is an object. -/
def rowA (p cap : Nat) (l : List UInt8) : AV := .lit (.slice (some ⟨p, 0, none⟩) l.length cap)

set_option maxRecDepth 10000 in
theorem copy_calls (o : Bool) (l : List UInt8) (σ : Store) (hl : l.length ≤ 140737488355328) :
    ACalls Tryz.prog 32 [.list o 1 (bytesA l)] σ fun v σ' => v = .list true 1 (bytesA l) ∧ σ' = σ := by
  refine ACalls.of_awp follows (st := st32) (plans := pl32) (n := 6) Tryz.func32 rfl (by kernel_rfl) (by kernel_rfl) (by kernel_rfl) ?_
  simp
  omega

set_option maxRecDepth 8000 in
theorem clone_calls (o : Bool) (l : List UInt8) (σ : Store) (hl : l.length ≤ 140737488355328) :
    ACalls Tryz.prog 74 [.list o 1 (bytesA l)] σ fun v σ' => v = .list true 1 (bytesA l) ∧ σ' = σ := by
  refine ACalls.of_awp follows (st := st74) (plans := pl74) (n := 8) Tryz.func74 rfl (by kernel_rfl) (by kernel_rfl) (by kernel_rfl) ?_
  simp
  refine ⟨⟨by omega, by omega⟩, fun h => ?_⟩
  rw [h]; exact AV.le_refl _

set_option maxRecDepth 8000 in
theorem cut_calls (o : Bool) (l : List UInt8) (n : Nat) (σ : Store) (hn : n ≤ 100000000) :
    ACalls Tryz.prog 11 [.list o 1 (bytesA l), .lit (.int .i64 n)] σ fun v σ' => v = .list true 1 (bytesA (l.take n)) ∧ σ' = σ := by
  refine ACalls.of_awp follows (st := st11) (plans := pl11) (n := 14) Tryz.func11 rfl (by kernel_rfl) (by kernel_rfl) (by kernel_rfl) ?_
  by_cases h : n < l.length
  · simp [h, show n ≤ l.length by omega, bytesA_take]
    refine callK.of (copy_calls false (l.take n) σ (by simp; omega)) ?_
    rintro v σ' ⟨rfl, rfl⟩
    simp
  · simp [h]
    refine callK.of (copy_calls false l σ (by omega)) ?_
    rintro v σ' ⟨rfl, rfl⟩
    simp [List.take_of_length_le (show l.length ≤ n by omega)]

set_option maxRecDepth 8000 in
theorem new_calls (σ : Store) :
    ACalls Tryz.prog 55 [] σ fun v σ' => ∃ p : Nat, σ p = none ∧ v = ptrA p ∧ σ' = σ.upd p (rdA .init) := by
  refine ACalls.of_awp follows (st := st55) (plans := pl55) (n := 3) Tryz.func55 rfl (by kernel_rfl) (by kernel_rfl) (by kernel_rfl) ?_
  simp
  exact fun p hp => ⟨_, AV.le_refl _, _, Store.sub_refl _, p, hp, rfl, rfl⟩

set_option maxRecDepth 8000 in
theorem toList_mk (l : List UInt8) : (ByteArray.mk l.toArray).toList = l := by
  rw [ByteArray.toList_eq]
set_option maxRecDepth 8000 in
theorem same_calls (o o' : Bool) (l k : List UInt8) (σ : Store) :
    ACalls Tryz.prog 16 [.list o 1 (bytesA l), .list o' 1 (bytesA k)] σ fun v σ' => v = .lit (.bool (l == k)) ∧ σ' = σ := by
  refine ACalls.of_awp follows (st := st16) (plans := pl16) (n := 10) Tryz.func16 rfl (by kernel_rfl) (by kernel_rfl) (by kernel_rfl) ?_
  simp [bytesOf_bytesA, toList_mk]

end Go.Proofs.YteaidaolablegaaGreatDoor
/-
  Feed, of bytes by value and of bytes in a row; events compared.
-/
namespace Go.Proofs.YteaidaolablegaaGreatDoor
open Go Go.AL

/-- How much a byte may add. -/
theorem take_len (r : Rd) (b : UInt8) : (r.take b).out.length ≤ r.out.length + 4 ∧ (r.take b).data.length ≤ r.data.length + 1 ∧ (r.take b).sub.length ≤ r.sub.length + 1 := by
  have hcom : ∀ q : Rd, (q.command b).out.length ≤ q.out.length + 2 ∧ (q.command b).data.length ≤ q.data.length + 1 ∧ (q.command b).sub.length ≤ q.sub.length := by
    intro q
    simp only [Rd.command]
    split
    · simp
    · split
      · simp
      · split
        · simp
        · have := tell_len q ⟨1, b, 0, [], false, false⟩
          have h2 := tell_sub q ⟨1, b, 0, [], false, false⟩
          rw [h2.1, h2.2.2]; simp; omega
  have hfin : ∀ (q : Rd) (x : Bool), (q.fin x).out.length ≤ q.out.length + 2 ∧ (q.fin x).data = [] ∧ (q.fin x).sub = [] := fin_len
  have hkeep := keep_len r b
  simp only [Rd.take]
  split
  · have := hcom r; omega
  · split
    · have := tell_len r ⟨2, r.verb, b, [], false, false⟩
      have h2 := tell_sub r ⟨2, r.verb, b, [], false, false⟩
      rw [h2.1, h2.2.2]; simp; omega
    · split
      · simp
      · split
        · split
          · simp
          · rw [hkeep.2.1, hkeep.2.2]; omega
        · split
          · split
            · rw [hkeep.2.1, hkeep.2.2]; omega
            · split
              · have := hfin r false; rw [this.2.1, this.2.2]; simp; omega
              · have h1 := hfin r true
                have h2 := hcom (r.fin true)
                rw [h1.2.1, h1.2.2] at h2; simp only [List.length_nil] at h2; omega
          · split
            · simp
            · simp

theorem feed_take (r : Rd) (p : List UInt8) (i : Nat) (h : i < p.length) : (r.feed (p.take i)).take p[i] = r.feed (p.take (i + 1)) := by
  simp only [Rd.feed]
  rw [List.take_succ_eq_append_getElem h, List.foldl_append]; rfl
theorem feed_len (r : Rd) (p : List UInt8) : (r.feed p).out.length ≤ r.out.length + 4 * p.length ∧ (r.feed p).data.length ≤ r.data.length + p.length ∧ (r.feed p).sub.length ≤ r.sub.length + p.length := by
  induction p generalizing r with
  | nil => simp [Rd.feed]
  | cons b p ih =>
    have h1 := take_len r b
    have h2 := ih (r.take b)
    simp only [Rd.feed, List.foldl_cons, List.length_cons] at *
    omega

/-- What Feed leaves. -/
def Rd.after (r : Rd) (p : List UInt8) : Rd := { (r.feed p).flush with out := [] }
def Rd.fed (r : Rd) (p : List UInt8) : List Ev := (r.feed p).flush.out

set_option maxRecDepth 8000 in
theorem feed_calls (a : Bool) (o : Nat) (r : Rd) (p : List UInt8) (σ : Store) (ho : σ o = some (rdA r)) (h1 : r.out.length ≤ 100) (h2 : r.data.length ≤ 100000) (h3 : r.sub.length ≤ 100000) (hp : p.length ≤ 100000) :
    ACalls Tryz.prog 61 [ptrA o, .list a 1 (bytesA p)] σ fun v σ' => v = .list true 6 (evsA (r.fed p)) ∧ σ' = σ.upd o (rdA (r.after p)) := by
  refine ACalls.of_awp follows (st := st61) (plans := pl61) (n := 30) Tryz.func61 rfl (by kernel_rfl) (by kernel_rfl) (by kernel_rfl) ?_
  simp
  refine codeK.loop follows (st := st61) (plans := pl61) (X := Nat) (fun i => i ≤ p.length)
    (fun i => [(0, ptrA o), (10, .list false 1 (bytesA p)), (11, .lit (.int .i64 p.length)), (12, .lit (.int .i64 i))]) (fun i => σ.upd o (rdA (r.feed (p.take i)))) (fun i => p.length - i) 0 (by kernel_rfl) (by omega) (by simp) ?_ fun i hi => ?_
  · intro q; simp only [Store.upd, Rd.feed, List.take_zero, List.foldl_nil]; split <;> simp_all
  have hl := feed_len r (p.take i)
  have hti : (p.take i).length ≤ p.length := by simp; omega
  by_cases hlt : i < p.length
  · simp [hlt, bytesA, byteA]
    refine callK.of (take_calls o (r.feed (p.take i)) p[i] _ (by simp) (by omega) (by omega) (by omega)) ?_
    rintro v σ' ⟨rfl, rfl⟩
    simp [feed_take r p i hlt]
    refine ⟨i + 1, by omega, by omega, ?_, Store.sub_refl _⟩
    rw [wrap_i64 (by omega) (by omega)]; exact le_of_eq rfl
  · obtain rfl : i = p.length := by omega
    simp
    refine callK.of (flush_calls o (r.feed p) _ (by simp) (by simp at hl; omega)) ?_
    rintro v σ' ⟨rfl, rfl⟩
    simp [rdA_eq (r.feed p).flush]
    refine ⟨AV.le_refl _, sub_eq ?_⟩
    simp [rdA, Rd.after, evsA]

end Go.Proofs.YteaidaolablegaaGreatDoor
/-
  Merge, and what it computes.
-/
namespace Go.Proofs.YteaidaolablegaaGreatDoor
open Go Go.AL

def dataEv (d : List UInt8) : Ev := ⟨0, 0, 0, d, false, false⟩
def mergeStep (out : List Ev) (e : Ev) : List Ev :=
  if e.kind ≠ 0 then out ++ [e]
  else if e.data = [] then out
  else match out.getLast? with
    | some last => if last.kind = 0 then out.dropLast ++ [{ last with data := last.data ++ e.data }] else out ++ [dataEv e.data]
    | none => [dataEv e.data]
def merge (l : List Ev) : List Ev := l.foldl mergeStep []
/-- All bytes of data. -/
def bytesIn (l : List Ev) : Nat := (l.map fun e => e.data.length).sum
theorem mergeStep_size (out : List Ev) (e : Ev) : (mergeStep out e).length ≤ out.length + 1 ∧ bytesIn (mergeStep out e) ≤ bytesIn out + e.data.length := by
  simp only [mergeStep]
  split
  · simp [bytesIn]
  · split
    · simp [bytesIn]
    · split
      · rename_i last hl
        have ho : out = out.dropLast ++ [last] := (by
        have hne : out ≠ [] := fun e => by subst e; simp at hl
        rw [List.getLast?_eq_some_getLast hne] at hl
        simp only [Option.some.injEq] at hl; subst hl; exact (List.dropLast_concat_getLast hne).symm)
        split
        · generalize out.dropLast = init at ho
          subst ho
          simp [bytesIn]; omega
        · simp [bytesIn, dataEv]
      · simp [bytesIn, dataEv]
theorem bytesIn_take (l : List Ev) (i : Nat) : bytesIn (l.take i) ≤ bytesIn l := by
  induction l generalizing i with
  | nil => simp
  | cons e l ih =>
    cases i with
    | zero => simp [bytesIn]
    | succ i => have := ih i; simp only [bytesIn, List.take_succ_cons, List.map_cons, List.sum_cons] at *; omega
theorem bytesIn_le {l : List Ev} {e : Ev} (h : e ∈ l) : e.data.length ≤ bytesIn l := by
  induction l with
  | nil => cases h
  | cons x l ih =>
    simp only [bytesIn, List.map_cons, List.sum_cons] at *
    rcases List.mem_cons.1 h with rfl | h
    · omega
    · have := ih h; omega

/-- An event whose data may be appended to. -/
def evO (e : Ev) : AV := .agg [.lit (.int .i64 e.kind), byteA e.verb, byteA e.opt, .list true 1 (bytesA e.data), .lit (.bool e.long), .lit (.bool e.broken)]
def evsO (l : List Ev) : List AV := l.flatMap fun e => (evO e).cells
def rowE (p cap : Nat) (out : List Ev) : AV := if out = [] then .lit (.slice none 0 0) else .lit (.slice (some ⟨p, 0, none⟩) out.length cap)
def storeE (σ : Store) (p : Nat) (out : List Ev) (rest : List AV) : Store := if out = [] then σ else σ.upd p (evsO out ++ rest)

@[simp] theorem rowE_share (p cap : Nat) (out : List Ev) : (rowE p cap out).share = rowE p cap out := by unfold rowE; split <;> rfl
end Go.Proofs.YteaidaolablegaaGreatDoor
/-
  A stream that is fed in parts, and what comes of it.
-/
namespace Go.Proofs.YteaidaolablegaaGreatDoor
open Go Go.AL

/-- The bytes that are kept or told. -/
def Rd.pot (r : Rd) : Nat := bytesIn r.out + r.data.length + r.sub.length
theorem bytesIn_append (l k : List Ev) : bytesIn (l ++ k) = bytesIn l + bytesIn k := by simp [bytesIn]
@[simp] theorem bytesA_at (l : List UInt8) (i : Nat) (h : i < (bytesA l).length) : (bytesA l)[i] = byteA (l[i]'(by simpa using h)) := by simp [bytesA]
@[simp] theorem evsA_at (l : List Ev) (i : Nat) (h : i < (evsA l).length) : (evsA l)[i] = evA (l[i]'(by simpa using h)) := by simp [evsA]
structure St where
  r : Rd
  out : List Ev
  p : List UInt8
def St.cut (s : St) (c : UInt8) : St := ⟨s.r.after (s.p.take (min c.toNat s.p.length)), s.out ++ s.r.fed (s.p.take (min c.toNat s.p.length)), s.p.drop (min c.toNat s.p.length)⟩
def St.cuts (s : St) (l : List UInt8) : St := l.foldl St.cut s
def St.ok (s : St) (n : Nat) : Prop := s.r.out = [] ∧ s.r.data = [] ∧ s.out.length + 5 * s.p.length ≤ 5 * n ∧ bytesIn s.out + s.r.sub.length + s.p.length ≤ n
def St.start (p : List UInt8) : St := ⟨.init, [], p⟩
/-- All events, not yet merged; the reader behind. -/
def fedAll (p cuts : List UInt8) : List Ev := ((St.start p).cuts cuts).out ++ ((St.start p).cuts cuts).r.fed ((St.start p).cuts cuts).p
def endAll (p cuts : List UInt8) : Rd := ((St.start p).cuts cuts).r.after ((St.start p).cuts cuts).p

end Go.Proofs.YteaidaolablegaaGreatDoor
