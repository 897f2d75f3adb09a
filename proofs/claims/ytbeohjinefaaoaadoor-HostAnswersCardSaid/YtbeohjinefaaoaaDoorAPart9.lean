/-
  Of each function: which temporaries take a right to append with the value; the plans of the regions that draw their order. Written by a program of mine.
-/
import Derived.Test.YtbeohjinefaaoaaDoorAALPart8
set_option linter.unusedSimpArgs false
set_option linter.unusedVariables false
namespace Go.Proofs.YtbeohjinefaaoaaDoor
open Go Go.AL
@[simp] def st5 : List Nat := []
@[simp] def pl5 : List (Nat × Plan) := []
@[simp] def st6 : List Nat := [30]
@[simp] def pl6 : List (Nat × Plan) := []
@[simp] def st7 : List Nat := []
@[simp] def pl7 : List (Nat × Plan) := []
@[simp] def st8 : List Nat := [46, 53]
@[simp] def pl8 : List (Nat × Plan) := []
@[simp] def st9 : List Nat := [41, 42, 49]
@[simp] def pl9 : List (Nat × Plan) := [(5, Plan.seq [0] (.alt (Plan.seq [1, 2, 3, 4, 5] (.done)) (Plan.seq [2, 1, 3, 4, 5] (.done))))]
@[simp] def st11 : List Nat := []
@[simp] def pl11 : List (Nat × Plan) := []
@[simp] def st12 : List Nat := []
@[simp] def pl12 : List (Nat × Plan) := []
@[simp] def st13 : List Nat := [23, 60]
@[simp] def pl13 : List (Nat × Plan) := [(7, Plan.seq [1, 2, 3, 4, 5] (.alt (Plan.seq [0, 6, 7, 8, 9] (.done)) (Plan.seq [6, 0, 7, 8, 9] (.done))))]
@[simp] def st14 : List Nat := [26, 76]
@[simp] def pl14 : List (Nat × Plan) := [(7, Plan.seq [0, 1, 2, 3, 4] (.alt (Plan.seq [5, 6, 7, 8, 9, 10] (.done)) (Plan.seq [7, 5, 6, 8, 9, 10] (.done)))), (16, Plan.seq [0, 1, 3, 4] (.alt (Plan.seq [2, 5, 6, 7, 8] (.done)) (Plan.seq [5, 6, 2, 7, 8] (.done))))]
@[simp] def st15 : List Nat := [12]
@[simp] def pl15 : List (Nat × Plan) := []
@[simp] def st16 : List Nat := []
@[simp] def pl16 : List (Nat × Plan) := []
@[simp] def st17 : List Nat := []
@[simp] def pl17 : List (Nat × Plan) := []
@[simp] def st18 : List Nat := []
@[simp] def pl18 : List (Nat × Plan) := []
@[simp] def st19 : List Nat := [28]
@[simp] def pl19 : List (Nat × Plan) := []
@[simp] def st20 : List Nat := [42, 54, 74, 81]
@[simp] def pl20 : List (Nat × Plan) := [(13, Plan.seq [0, 1, 2, 3, 4] (.alt (Plan.seq [5, 6, 7, 8, 9] (.done)) (Plan.seq [7, 5, 6, 8, 9] (.done))))]
@[simp] def st21 : List Nat := [10]
@[simp] def pl21 : List (Nat × Plan) := []
@[simp] def st22 : List Nat := []
@[simp] def pl22 : List (Nat × Plan) := []
@[simp] def st24 : List Nat := []
@[simp] def pl24 : List (Nat × Plan) := []
@[simp] def st25 : List Nat := []
@[simp] def pl25 : List (Nat × Plan) := []
@[simp] def st26 : List Nat := []
@[simp] def pl26 : List (Nat × Plan) := [(3, Plan.seq [0, 1, 2, 4, 7, 8] (.alt (.alt (Plan.seq [3, 9] (.alt (Plan.seq [5, 6, 10, 11, 12] (.done)) (Plan.seq [10, 5, 6, 11, 12] (.done)))) (Plan.seq [5] (.alt (Plan.seq [3, 6, 9, 10, 11, 12] (.done)) (Plan.seq [9, 3, 6, 10, 11, 12] (.done))))) (Plan.seq [9] (.alt (Plan.seq [3] (.alt (Plan.seq [5, 6, 10, 11, 12] (.done)) (Plan.seq [10, 5, 6, 11, 12] (.done)))) (Plan.seq [5, 3, 6, 10, 11, 12] (.done))))))]
@[simp] def st27 : List Nat := []
@[simp] def pl27 : List (Nat × Plan) := []
@[simp] def st28 : List Nat := []
@[simp] def pl28 : List (Nat × Plan) := []
@[simp] def st29 : List Nat := []
@[simp] def pl29 : List (Nat × Plan) := [(3, Plan.seq [0, 2, 3, 4, 7, 8] (.alt (.alt (Plan.seq [1] (.alt (Plan.seq [5, 6, 9, 10, 11, 12] (.done)) (Plan.seq [9, 5, 6, 10, 11, 12] (.done)))) (Plan.seq [5, 9] (.alt (Plan.seq [1, 6, 10, 11, 12] (.done)) (Plan.seq [10, 1, 6, 11, 12] (.done))))) (Plan.seq [9] (.alt (Plan.seq [1, 5, 6, 10, 11, 12] (.done)) (Plan.seq [5] (.alt (Plan.seq [1, 6, 10, 11, 12] (.done)) (Plan.seq [10, 1, 6, 11, 12] (.done))))))))]
@[simp] def st30 : List Nat := []
@[simp] def pl30 : List (Nat × Plan) := []
@[simp] def st31 : List Nat := []
@[simp] def pl31 : List (Nat × Plan) := []
@[simp] def st32 : List Nat := []
@[simp] def pl32 : List (Nat × Plan) := []
@[simp] def st33 : List Nat := [19, 47]
@[simp] def pl33 : List (Nat × Plan) := []
@[simp] def st34 : List Nat := [41, 45]
@[simp] def pl34 : List (Nat × Plan) := []
@[simp] def st35 : List Nat := []
@[simp] def pl35 : List (Nat × Plan) := []
@[simp] def st36 : List Nat := []
@[simp] def pl36 : List (Nat × Plan) := []
@[simp] def st37 : List Nat := [22, 23, 27]
@[simp] def pl37 : List (Nat × Plan) := []
@[simp] def st38 : List Nat := []
@[simp] def pl38 : List (Nat × Plan) := []
@[simp] def st45 : List Nat := [13]
@[simp] def pl45 : List (Nat × Plan) := []
@[simp] def st46 : List Nat := []
@[simp] def pl46 : List (Nat × Plan) := []
@[simp] def st48 : List Nat := []
@[simp] def pl48 : List (Nat × Plan) := []
@[simp] def st50 : List Nat := [31]
@[simp] def pl50 : List (Nat × Plan) := []
@[simp] def st51 : List Nat := []
@[simp] def pl51 : List (Nat × Plan) := []
@[simp] def st52 : List Nat := [13]
@[simp] def pl52 : List (Nat × Plan) := []
@[simp] def st53 : List Nat := []
@[simp] def pl53 : List (Nat × Plan) := []
@[simp] def st55 : List Nat := [22]
@[simp] def pl55 : List (Nat × Plan) := []
@[simp] def st56 : List Nat := [17]
@[simp] def pl56 : List (Nat × Plan) := []
@[simp] def st57 : List Nat := []
@[simp] def pl57 : List (Nat × Plan) := []
@[simp] def st58 : List Nat := [67, 75, 78]
@[simp] def pl58 : List (Nat × Plan) := [(31, Plan.seq [0, 1, 2, 3, 4, 5, 6, 7, 8, 9, 10, 11, 12, 13] (.done))]
@[simp] def st63 : List Nat := [9]
@[simp] def pl63 : List (Nat × Plan) := []
@[simp] def st64 : List Nat := [29]
@[simp] def pl64 : List (Nat × Plan) := []
@[simp] def st65 : List Nat := []
@[simp] def pl65 : List (Nat × Plan) := []
@[simp] def st67 : List Nat := []
@[simp] def pl67 : List (Nat × Plan) := []
@[simp] def st68 : List Nat := [15]
@[simp] def pl68 : List (Nat × Plan) := []
@[simp] def st69 : List Nat := [15]
@[simp] def pl69 : List (Nat × Plan) := []
@[simp] def st72 : List Nat := []
@[simp] def pl72 : List (Nat × Plan) := []
@[simp] def st73 : List Nat := []
@[simp] def pl73 : List (Nat × Plan) := [(13, Plan.seq [0, 1, 2, 3, 4, 5, 6, 7, 8, 9] (.done))]
@[simp] def st74 : List Nat := []
@[simp] def pl74 : List (Nat × Plan) := []
@[simp] def st75 : List Nat := []
@[simp] def pl75 : List (Nat × Plan) := []
@[simp] def st76 : List Nat := [25, 26, 34]
@[simp] def pl76 : List (Nat × Plan) := []
@[simp] def st77 : List Nat := []
@[simp] def pl77 : List (Nat × Plan) := []
@[simp] def st79 : List Nat := []
@[simp] def pl79 : List (Nat × Plan) := []
end Go.Proofs.YtbeohjinefaaoaaDoor
/-
  Pages: their signs and codes, as lists. Written by a program of mine.
-/
namespace Go.Proofs.YtbeohjinefaaoaaDoor
open Go Go.AL

def rowsL : List (List Nat) := [[0, 1, 2, 3, 156, 9, 134, 127, 151, 141, 142, 11, 12, 13, 14, 15],
  [16, 17, 18, 19, 157, 133, 8, 135, 24, 25, 146, 143, 28, 29, 30, 31],
  [128, 129, 130, 131, 132, 10, 23, 27, 136, 137, 138, 139, 140, 5, 6, 7],
  [144, 145, 22, 147, 148, 149, 150, 4, 152, 153, 154, 155, 20, 21, 158, 26],
  [32, 160, 226, 228, 224, 225, 227, 229, 231, 241, 162, 46, 60, 40, 43, 124],
  [38, 233, 234, 235, 232, 237, 238, 239, 236, 223, 33, 36, 42, 41, 59, 172],
  [45, 47, 194, 196, 192, 193, 195, 197, 199, 209, 166, 44, 37, 95, 62, 63],
  [248, 201, 202, 203, 200, 205, 206, 207, 204, 96, 58, 35, 64, 39, 61, 34],
  [216, 97, 98, 99, 100, 101, 102, 103, 104, 105, 171, 187, 240, 253, 254, 177],
  [176, 106, 107, 108, 109, 110, 111, 112, 113, 114, 170, 186, 230, 184, 198, 164],
  [181, 126, 115, 116, 117, 118, 119, 120, 121, 122, 161, 191, 208, 221, 222, 174],
  [94, 163, 165, 183, 169, 167, 182, 188, 189, 190, 91, 93, 175, 168, 180, 215],
  [123, 65, 66, 67, 68, 69, 70, 71, 72, 73, 173, 244, 246, 242, 243, 245],
  [125, 74, 75, 76, 77, 78, 79, 80, 81, 82, 185, 251, 252, 249, 250, 255],
  [92, 247, 83, 84, 85, 86, 87, 88, 89, 90, 178, 212, 214, 210, 211, 213],
  [48, 49, 50, 51, 52, 53, 54, 55, 56, 57, 179, 219, 220, 217, 218, 159]]
def baseL : List Nat := rowsL.flatten
theorem baseL_length : baseL.length = 256 := by decide +kernel
def oth37 : List (Nat × Nat) := []
def oth273 : List (Nat × Nat) := [(67, 123), (74, 196), (79, 33), (89, 126), (90, 220), (95, 94), (99, 91), (106, 246), (124, 167), (161, 223), (176, 162), (181, 64), (186, 172), (187, 124), (192, 228), (204, 166), (208, 252), (220, 125), (224, 214), (236, 92), (252, 93)]
def oth297 : List (Nat × Nat) := [(68, 64), (72, 92), (74, 176), (79, 33), (81, 123), (84, 125), (90, 167), (95, 94), (106, 249), (121, 181), (123, 163), (124, 224), (144, 91), (160, 96), (161, 168), (176, 162), (177, 35), (181, 93), (186, 172), (187, 124), (189, 126), (192, 233), (208, 232), (221, 166), (224, 231)]
def oth500 : List (Nat × Nat) := [(74, 91), (79, 33), (90, 93), (95, 94), (176, 162), (186, 172), (187, 124)]
def oth1047 : List (Nat × Nat) := [(95, 94), (173, 91), (176, 172), (186, 221), (187, 168), (189, 93)]
def oth1140 : List (Nat × Nat) := [(159, 8364)]
def othersF (n : Int) : List (Nat × Nat) := if n = 37 then oth37 else if n = 273 then oth273 else if n = 297 then oth297 else if n = 500 then oth500 else if n = 1047 then oth1047 else if n = 1140 then oth1140 else []
def isPage (n : Int) : Prop := n = 37 ∨ n = 273 ∨ n = 297 ∨ n = 500 ∨ n = 1047 ∨ n = 1140
instance (n : Int) : Decidable (isPage n) := by unfold isPage; infer_instance
def signsF (n : Int) : List Nat := (othersF n).foldl (fun l o => l.set o.1 o.2) baseL
theorem signs_set (l : List (Nat × Nat)) : ∀ b : List Nat, (l.foldl (fun l o => l.set o.1 o.2) b).length = b.length := by
  induction l with
  | nil => intro b; rfl
  | cons o l ih => intro b; rw [List.foldl_cons, ih, List.length_set]
theorem signsF_length (n : Int) : (signsF n).length = 256 := by rw [signsF, signs_set, baseL_length]
theorem nodup37 : (signsF 37).Nodup := by decide +kernel
theorem nodup273 : (signsF 273).Nodup := by decide +kernel
theorem nodup297 : (signsF 297).Nodup := by decide +kernel
theorem nodup500 : (signsF 500).Nodup := by decide +kernel
theorem nodup1047 : (signsF 1047).Nodup := by decide +kernel
theorem nodup1140 : (signsF 1140).Nodup := by decide +kernel
theorem signsF_nodup {n : Int} (h : isPage n) : (signsF n).Nodup := by
  rcases h with rfl | rfl | rfl | rfl | rfl | rfl
  · exact nodup37
  · exact nodup273
  · exact nodup297
  · exact nodup500
  · exact nodup1047
  · exact nodup1140
theorem small37 : ∀ o ∈ oth37, o.1 < 256 ∧ o.2 < 65536 := by decide +kernel
theorem small273 : ∀ o ∈ oth273, o.1 < 256 ∧ o.2 < 65536 := by decide +kernel
theorem small297 : ∀ o ∈ oth297, o.1 < 256 ∧ o.2 < 65536 := by decide +kernel
theorem small500 : ∀ o ∈ oth500, o.1 < 256 ∧ o.2 < 65536 := by decide +kernel
theorem small1047 : ∀ o ∈ oth1047, o.1 < 256 ∧ o.2 < 65536 := by decide +kernel
theorem small1140 : ∀ o ∈ oth1140, o.1 < 256 ∧ o.2 < 65536 := by decide +kernel
theorem others_small (n : Int) : ∀ o ∈ othersF n, o.1 < 256 ∧ o.2 < 65536 := by
  unfold othersF
  repeat' split
  · exact small37
  · exact small273
  · exact small297
  · exact small500
  · exact small1047
  · exact small1140
  · intro o ho; cases ho
theorem base_small : ∀ z ∈ baseL, z < 65536 := by decide +kernel
end Go.Proofs.YtbeohjinefaaoaaDoor
