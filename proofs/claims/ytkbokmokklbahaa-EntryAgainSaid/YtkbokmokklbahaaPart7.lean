/-
  Closed facts on the types and functions of the translation, for the abstract-state logic. Written by a program of mine.
-/
import Derived.Test.YtkbokmokklbahaaALPart6
import Derived.Test.YtkbokmokklbahaaChecked
namespace Go.Proofs.Ytkbokmokklbahaa
open Go Go.AL
@[simp] theorem tSize1 : tSize Try.prog 1 = some 1 := nr (by kernel_rfl)
@[simp] theorem tBytes1 : tBytes Try.prog 1 = some 8 := nr (by kernel_rfl)
@[simp] theorem tAgg1 : tAgg Try.prog 1 = some false := nr (by kernel_rfl)
@[simp] theorem tElem1 : tElem Try.prog 1 = none := nr (by kernel_rfl)
@[simp] theorem tArr1 : tArr Try.prog 1 = none := nr (by kernel_rfl)
@[simp] theorem tInt1 : tInt Try.prog 1 = none := nr (by kernel_rfl)
@[simp] theorem tStr1 : tStr Try.prog 1 = false := nr (by kernel_rfl)
@[simp] theorem tIface1 : tIface Try.prog 1 = some false := nr (by kernel_rfl)
@[simp] theorem tSize2 : tSize Try.prog 2 = some 1 := nr (by kernel_rfl)
@[simp] theorem tBytes2 : tBytes Try.prog 2 = some 8 := nr (by kernel_rfl)
@[simp] theorem tAgg2 : tAgg Try.prog 2 = some false := nr (by kernel_rfl)
@[simp] theorem tElem2 : tElem Try.prog 2 = none := nr (by kernel_rfl)
@[simp] theorem tArr2 : tArr Try.prog 2 = none := nr (by kernel_rfl)
@[simp] theorem tInt2 : tInt Try.prog 2 = some .i64 := nr (by kernel_rfl)
@[simp] theorem tStr2 : tStr Try.prog 2 = false := nr (by kernel_rfl)
@[simp] theorem tIface2 : tIface Try.prog 2 = some false := nr (by kernel_rfl)
@[simp] theorem azero2 : azero Try.prog 2 = some [.lit (.int .i64 0)] := nr (by kernel_rfl)
@[simp] theorem zeroEl2 : zeroEl Try.prog 2 = some (.lit (.int .i64 0)) := nr (by kernel_rfl)
@[simp] theorem tZero2 : tZeroSize Try.prog 2 = some 1 := nr (by kernel_rfl)
@[simp] theorem tZeroOk2 : tZeroOk Try.prog 2 = true := nr (by kernel_rfl)
@[simp] theorem tSize3 : tSize Try.prog 3 = some 1 := nr (by kernel_rfl)
@[simp] theorem tBytes3 : tBytes Try.prog 3 = some 8 := nr (by kernel_rfl)
@[simp] theorem tAgg3 : tAgg Try.prog 3 = some false := nr (by kernel_rfl)
@[simp] theorem tElem3 : tElem Try.prog 3 = none := nr (by kernel_rfl)
@[simp] theorem tArr3 : tArr Try.prog 3 = none := nr (by kernel_rfl)
@[simp] theorem tInt3 : tInt Try.prog 3 = some .i64 := nr (by kernel_rfl)
@[simp] theorem tStr3 : tStr Try.prog 3 = false := nr (by kernel_rfl)
@[simp] theorem tIface3 : tIface Try.prog 3 = some false := nr (by kernel_rfl)
@[simp] theorem azero3 : azero Try.prog 3 = some [.lit (.int .i64 0)] := nr (by kernel_rfl)
@[simp] theorem zeroEl3 : zeroEl Try.prog 3 = some (.lit (.int .i64 0)) := nr (by kernel_rfl)
@[simp] theorem tZero3 : tZeroSize Try.prog 3 = some 1 := nr (by kernel_rfl)
@[simp] theorem tZeroOk3 : tZeroOk Try.prog 3 = true := nr (by kernel_rfl)
@[simp] theorem tSize4 : tSize Try.prog 4 = some 1 := nr (by kernel_rfl)
@[simp] theorem tBytes4 : tBytes Try.prog 4 = some 1 := nr (by kernel_rfl)
@[simp] theorem tAgg4 : tAgg Try.prog 4 = some false := nr (by kernel_rfl)
@[simp] theorem tElem4 : tElem Try.prog 4 = none := nr (by kernel_rfl)
@[simp] theorem tArr4 : tArr Try.prog 4 = none := nr (by kernel_rfl)
@[simp] theorem tInt4 : tInt Try.prog 4 = none := nr (by kernel_rfl)
@[simp] theorem tStr4 : tStr Try.prog 4 = false := nr (by kernel_rfl)
@[simp] theorem tIface4 : tIface Try.prog 4 = some false := nr (by kernel_rfl)
@[simp] theorem azero4 : azero Try.prog 4 = some [.lit (.bool false)] := nr (by kernel_rfl)
@[simp] theorem zeroEl4 : zeroEl Try.prog 4 = some (.lit (.bool false)) := nr (by kernel_rfl)
@[simp] theorem tZero4 : tZeroSize Try.prog 4 = some 1 := nr (by kernel_rfl)
@[simp] theorem tZeroOk4 : tZeroOk Try.prog 4 = true := nr (by kernel_rfl)
@[simp] theorem tSize5 : tSize Try.prog 5 = some 1 := nr (by kernel_rfl)
@[simp] theorem tBytes5 : tBytes Try.prog 5 = some 1 := nr (by kernel_rfl)
@[simp] theorem tAgg5 : tAgg Try.prog 5 = some false := nr (by kernel_rfl)
@[simp] theorem tElem5 : tElem Try.prog 5 = none := nr (by kernel_rfl)
@[simp] theorem tArr5 : tArr Try.prog 5 = none := nr (by kernel_rfl)
@[simp] theorem tInt5 : tInt Try.prog 5 = some .u8 := nr (by kernel_rfl)
@[simp] theorem tStr5 : tStr Try.prog 5 = false := nr (by kernel_rfl)
@[simp] theorem tIface5 : tIface Try.prog 5 = some false := nr (by kernel_rfl)
@[simp] theorem azero5 : azero Try.prog 5 = some [.lit (.int .u8 0)] := nr (by kernel_rfl)
@[simp] theorem zeroEl5 : zeroEl Try.prog 5 = some (.lit (.int .u8 0)) := nr (by kernel_rfl)
@[simp] theorem tZero5 : tZeroSize Try.prog 5 = some 1 := nr (by kernel_rfl)
@[simp] theorem tZeroOk5 : tZeroOk Try.prog 5 = true := nr (by kernel_rfl)
@[simp] theorem tSize9 : tSize Try.prog 9 = some 1 := nr (by kernel_rfl)
@[simp] theorem tBytes9 : tBytes Try.prog 9 = some 16 := nr (by kernel_rfl)
@[simp] theorem tAgg9 : tAgg Try.prog 9 = some false := nr (by kernel_rfl)
@[simp] theorem tElem9 : tElem Try.prog 9 = none := nr (by kernel_rfl)
@[simp] theorem tArr9 : tArr Try.prog 9 = none := nr (by kernel_rfl)
@[simp] theorem tInt9 : tInt Try.prog 9 = none := nr (by kernel_rfl)
@[simp] theorem tStr9 : tStr Try.prog 9 = true := nr (by kernel_rfl)
@[simp] theorem tIface9 : tIface Try.prog 9 = some false := nr (by kernel_rfl)
@[simp] theorem azero9 : azero Try.prog 9 = some [.lit (.string ByteArray.empty)] := nr (by kernel_rfl)
@[simp] theorem zeroEl9 : zeroEl Try.prog 9 = some (.lit (.string ByteArray.empty)) := nr (by kernel_rfl)
@[simp] theorem tZero9 : tZeroSize Try.prog 9 = some 1 := nr (by kernel_rfl)
@[simp] theorem tZeroOk9 : tZeroOk Try.prog 9 = true := nr (by kernel_rfl)
@[simp] theorem tSize12 : tSize Try.prog 12 = some 1 := nr (by kernel_rfl)
@[simp] theorem tBytes12 : tBytes Try.prog 12 = some 8 := nr (by kernel_rfl)
@[simp] theorem tAgg12 : tAgg Try.prog 12 = some false := nr (by kernel_rfl)
@[simp] theorem tElem12 : tElem Try.prog 12 = none := nr (by kernel_rfl)
@[simp] theorem tArr12 : tArr Try.prog 12 = none := nr (by kernel_rfl)
@[simp] theorem tInt12 : tInt Try.prog 12 = some .u64 := nr (by kernel_rfl)
@[simp] theorem tStr12 : tStr Try.prog 12 = false := nr (by kernel_rfl)
@[simp] theorem tIface12 : tIface Try.prog 12 = some false := nr (by kernel_rfl)
@[simp] theorem azero12 : azero Try.prog 12 = some [.lit (.int .u64 0)] := nr (by kernel_rfl)
@[simp] theorem zeroEl12 : zeroEl Try.prog 12 = some (.lit (.int .u64 0)) := nr (by kernel_rfl)
@[simp] theorem tZero12 : tZeroSize Try.prog 12 = some 1 := nr (by kernel_rfl)
@[simp] theorem tZeroOk12 : tZeroOk Try.prog 12 = true := nr (by kernel_rfl)
@[simp] theorem tSize20 : tSize Try.prog 20 = some 1 := nr (by kernel_rfl)
@[simp] theorem tBytes20 : tBytes Try.prog 20 = some 16 := nr (by kernel_rfl)
@[simp] theorem tAgg20 : tAgg Try.prog 20 = some false := nr (by kernel_rfl)
@[simp] theorem tElem20 : tElem Try.prog 20 = none := nr (by kernel_rfl)
@[simp] theorem tArr20 : tArr Try.prog 20 = none := nr (by kernel_rfl)
@[simp] theorem tInt20 : tInt Try.prog 20 = none := nr (by kernel_rfl)
@[simp] theorem tStr20 : tStr Try.prog 20 = false := nr (by kernel_rfl)
@[simp] theorem tIface20 : tIface Try.prog 20 = some true := nr (by kernel_rfl)
@[simp] theorem azero20 : azero Try.prog 20 = some [.lit .nilIface] := nr (by kernel_rfl)
@[simp] theorem zeroEl20 : zeroEl Try.prog 20 = some (.lit .nilIface) := nr (by kernel_rfl)
@[simp] theorem tZero20 : tZeroSize Try.prog 20 = some 1 := nr (by kernel_rfl)
@[simp] theorem tZeroOk20 : tZeroOk Try.prog 20 = true := nr (by kernel_rfl)
@[simp] theorem tSize21 : tSize Try.prog 21 = some 1 := nr (by kernel_rfl)
@[simp] theorem tBytes21 : tBytes Try.prog 21 = some 4 := nr (by kernel_rfl)
@[simp] theorem tAgg21 : tAgg Try.prog 21 = some false := nr (by kernel_rfl)
@[simp] theorem tElem21 : tElem Try.prog 21 = none := nr (by kernel_rfl)
@[simp] theorem tArr21 : tArr Try.prog 21 = none := nr (by kernel_rfl)
@[simp] theorem tInt21 : tInt Try.prog 21 = some .i32 := nr (by kernel_rfl)
@[simp] theorem tStr21 : tStr Try.prog 21 = false := nr (by kernel_rfl)
@[simp] theorem tIface21 : tIface Try.prog 21 = some false := nr (by kernel_rfl)
@[simp] theorem azero21 : azero Try.prog 21 = some [.lit (.int .i32 0)] := nr (by kernel_rfl)
@[simp] theorem zeroEl21 : zeroEl Try.prog 21 = some (.lit (.int .i32 0)) := nr (by kernel_rfl)
@[simp] theorem tZero21 : tZeroSize Try.prog 21 = some 1 := nr (by kernel_rfl)
@[simp] theorem tZeroOk21 : tZeroOk Try.prog 21 = true := nr (by kernel_rfl)
@[simp] theorem tSize22 : tSize Try.prog 22 = some 1 := nr (by kernel_rfl)
@[simp] theorem tBytes22 : tBytes Try.prog 22 = some 24 := nr (by kernel_rfl)
@[simp] theorem tAgg22 : tAgg Try.prog 22 = some false := nr (by kernel_rfl)
@[simp] theorem tElem22 : tElem Try.prog 22 = some 28 := nr (by kernel_rfl)
@[simp] theorem tArr22 : tArr Try.prog 22 = none := nr (by kernel_rfl)
@[simp] theorem tInt22 : tInt Try.prog 22 = none := nr (by kernel_rfl)
@[simp] theorem tStr22 : tStr Try.prog 22 = false := nr (by kernel_rfl)
@[simp] theorem tIface22 : tIface Try.prog 22 = some false := nr (by kernel_rfl)
@[simp] theorem azero22 : azero Try.prog 22 = some [.list true 2 []] := nr (by kernel_rfl)
@[simp] theorem zeroEl22 : zeroEl Try.prog 22 = some (.list false 2 []) := nr (by kernel_rfl)
@[simp] theorem tZero22 : tZeroSize Try.prog 22 = some 1 := nr (by kernel_rfl)
@[simp] theorem tZeroOk22 : tZeroOk Try.prog 22 = true := nr (by kernel_rfl)
@[simp] theorem tSize23 : tSize Try.prog 23 = some 4 := nr (by kernel_rfl)
@[simp] theorem tBytes23 : tBytes Try.prog 23 = some 40 := nr (by kernel_rfl)
@[simp] theorem tAgg23 : tAgg Try.prog 23 = some true := nr (by kernel_rfl)
@[simp] theorem tElem23 : tElem Try.prog 23 = none := nr (by kernel_rfl)
@[simp] theorem tArr23 : tArr Try.prog 23 = none := nr (by kernel_rfl)
@[simp] theorem tInt23 : tInt Try.prog 23 = none := nr (by kernel_rfl)
@[simp] theorem tStr23 : tStr Try.prog 23 = false := nr (by kernel_rfl)
@[simp] theorem tIface23 : tIface Try.prog 23 = some false := nr (by kernel_rfl)
@[simp] theorem tField23_0 : tField Try.prog 23 0 = some (0, 5) := nr (by kernel_rfl)
@[simp] theorem tField23_1 : tField Try.prog 23 1 = some (1, 4) := nr (by kernel_rfl)
@[simp] theorem tField23_2 : tField Try.prog 23 2 = some (2, 3) := nr (by kernel_rfl)
@[simp] theorem tField23_3 : tField Try.prog 23 3 = some (3, 22) := nr (by kernel_rfl)
@[simp] theorem tParts23 : tParts Try.prog 23 = true := nr (by kernel_rfl)
@[simp] theorem azero23 : azero Try.prog 23 = some [.lit (.int .u8 0), .lit (.bool false), .lit (.int .i64 0), .list true 2 []] := nr (by kernel_rfl)
@[simp] theorem zeroEl23 : zeroEl Try.prog 23 = some (.agg [.lit (.int .u8 0), .lit (.bool false), .lit (.int .i64 0), .list false 2 []]) := nr (by kernel_rfl)
@[simp] theorem tZero23 : tZeroSize Try.prog 23 = some 4 := nr (by kernel_rfl)
@[simp] theorem tZeroOk23 : tZeroOk Try.prog 23 = true := nr (by kernel_rfl)
@[simp] theorem tSize24 : tSize Try.prog 24 = some 4 := nr (by kernel_rfl)
@[simp] theorem tBytes24 : tBytes Try.prog 24 = some 40 := nr (by kernel_rfl)
@[simp] theorem tAgg24 : tAgg Try.prog 24 = some true := nr (by kernel_rfl)
@[simp] theorem tElem24 : tElem Try.prog 24 = none := nr (by kernel_rfl)
@[simp] theorem tArr24 : tArr Try.prog 24 = none := nr (by kernel_rfl)
@[simp] theorem tInt24 : tInt Try.prog 24 = none := nr (by kernel_rfl)
@[simp] theorem tStr24 : tStr Try.prog 24 = false := nr (by kernel_rfl)
@[simp] theorem tIface24 : tIface Try.prog 24 = some false := nr (by kernel_rfl)
@[simp] theorem tField24_0 : tField Try.prog 24 0 = some (0, 5) := nr (by kernel_rfl)
@[simp] theorem tField24_1 : tField Try.prog 24 1 = some (1, 4) := nr (by kernel_rfl)
@[simp] theorem tField24_2 : tField Try.prog 24 2 = some (2, 3) := nr (by kernel_rfl)
@[simp] theorem tField24_3 : tField Try.prog 24 3 = some (3, 22) := nr (by kernel_rfl)
@[simp] theorem tParts24 : tParts Try.prog 24 = true := nr (by kernel_rfl)
@[simp] theorem azero24 : azero Try.prog 24 = some [.lit (.int .u8 0), .lit (.bool false), .lit (.int .i64 0), .list true 2 []] := nr (by kernel_rfl)
@[simp] theorem zeroEl24 : zeroEl Try.prog 24 = some (.agg [.lit (.int .u8 0), .lit (.bool false), .lit (.int .i64 0), .list false 2 []]) := nr (by kernel_rfl)
@[simp] theorem tZero24 : tZeroSize Try.prog 24 = some 4 := nr (by kernel_rfl)
@[simp] theorem tZeroOk24 : tZeroOk Try.prog 24 = true := nr (by kernel_rfl)
@[simp] theorem tSize25 : tSize Try.prog 25 = some 1 := nr (by kernel_rfl)
@[simp] theorem tBytes25 : tBytes Try.prog 25 = some 8 := nr (by kernel_rfl)
@[simp] theorem tAgg25 : tAgg Try.prog 25 = some false := nr (by kernel_rfl)
@[simp] theorem tElem25 : tElem Try.prog 25 = none := nr (by kernel_rfl)
@[simp] theorem tArr25 : tArr Try.prog 25 = none := nr (by kernel_rfl)
@[simp] theorem tInt25 : tInt Try.prog 25 = none := nr (by kernel_rfl)
@[simp] theorem tStr25 : tStr Try.prog 25 = false := nr (by kernel_rfl)
@[simp] theorem tIface25 : tIface Try.prog 25 = some false := nr (by kernel_rfl)
@[simp] theorem tSize26 : tSize Try.prog 26 = some 1 := nr (by kernel_rfl)
@[simp] theorem tBytes26 : tBytes Try.prog 26 = some 24 := nr (by kernel_rfl)
@[simp] theorem tAgg26 : tAgg Try.prog 26 = some false := nr (by kernel_rfl)
@[simp] theorem tElem26 : tElem Try.prog 26 = some 5 := nr (by kernel_rfl)
@[simp] theorem tArr26 : tArr Try.prog 26 = none := nr (by kernel_rfl)
@[simp] theorem tInt26 : tInt Try.prog 26 = none := nr (by kernel_rfl)
@[simp] theorem tStr26 : tStr Try.prog 26 = false := nr (by kernel_rfl)
@[simp] theorem tIface26 : tIface Try.prog 26 = some false := nr (by kernel_rfl)
@[simp] theorem azero26 : azero Try.prog 26 = some [.list true 1 []] := nr (by kernel_rfl)
@[simp] theorem zeroEl26 : zeroEl Try.prog 26 = some (.list false 1 []) := nr (by kernel_rfl)
@[simp] theorem tZero26 : tZeroSize Try.prog 26 = some 1 := nr (by kernel_rfl)
@[simp] theorem tZeroOk26 : tZeroOk Try.prog 26 = true := nr (by kernel_rfl)
@[simp] theorem tSize27 : tSize Try.prog 27 = some 2 := nr (by kernel_rfl)
@[simp] theorem tBytes27 : tBytes Try.prog 27 = some 32 := nr (by kernel_rfl)
@[simp] theorem tAgg27 : tAgg Try.prog 27 = some true := nr (by kernel_rfl)
@[simp] theorem tElem27 : tElem Try.prog 27 = none := nr (by kernel_rfl)
@[simp] theorem tArr27 : tArr Try.prog 27 = none := nr (by kernel_rfl)
@[simp] theorem tInt27 : tInt Try.prog 27 = none := nr (by kernel_rfl)
@[simp] theorem tStr27 : tStr Try.prog 27 = false := nr (by kernel_rfl)
@[simp] theorem tIface27 : tIface Try.prog 27 = some false := nr (by kernel_rfl)
@[simp] theorem tField27_0 : tField Try.prog 27 0 = some (0, 3) := nr (by kernel_rfl)
@[simp] theorem tField27_1 : tField Try.prog 27 1 = some (1, 26) := nr (by kernel_rfl)
@[simp] theorem tParts27 : tParts Try.prog 27 = true := nr (by kernel_rfl)
@[simp] theorem azero27 : azero Try.prog 27 = some [.lit (.int .i64 0), .list true 1 []] := nr (by kernel_rfl)
@[simp] theorem zeroEl27 : zeroEl Try.prog 27 = some (.agg [.lit (.int .i64 0), .list false 1 []]) := nr (by kernel_rfl)
@[simp] theorem tZero27 : tZeroSize Try.prog 27 = some 2 := nr (by kernel_rfl)
@[simp] theorem tZeroOk27 : tZeroOk Try.prog 27 = true := nr (by kernel_rfl)
@[simp] theorem tSize28 : tSize Try.prog 28 = some 2 := nr (by kernel_rfl)
@[simp] theorem tBytes28 : tBytes Try.prog 28 = some 32 := nr (by kernel_rfl)
@[simp] theorem tAgg28 : tAgg Try.prog 28 = some true := nr (by kernel_rfl)
@[simp] theorem tElem28 : tElem Try.prog 28 = none := nr (by kernel_rfl)
@[simp] theorem tArr28 : tArr Try.prog 28 = none := nr (by kernel_rfl)
@[simp] theorem tInt28 : tInt Try.prog 28 = none := nr (by kernel_rfl)
@[simp] theorem tStr28 : tStr Try.prog 28 = false := nr (by kernel_rfl)
@[simp] theorem tIface28 : tIface Try.prog 28 = some false := nr (by kernel_rfl)
@[simp] theorem tField28_0 : tField Try.prog 28 0 = some (0, 3) := nr (by kernel_rfl)
@[simp] theorem tField28_1 : tField Try.prog 28 1 = some (1, 26) := nr (by kernel_rfl)
@[simp] theorem tParts28 : tParts Try.prog 28 = true := nr (by kernel_rfl)
@[simp] theorem azero28 : azero Try.prog 28 = some [.lit (.int .i64 0), .list true 1 []] := nr (by kernel_rfl)
@[simp] theorem zeroEl28 : zeroEl Try.prog 28 = some (.agg [.lit (.int .i64 0), .list false 1 []]) := nr (by kernel_rfl)
@[simp] theorem tZero28 : tZeroSize Try.prog 28 = some 2 := nr (by kernel_rfl)
@[simp] theorem tZeroOk28 : tZeroOk Try.prog 28 = true := nr (by kernel_rfl)
@[simp] theorem tSize29 : tSize Try.prog 29 = some 1 := nr (by kernel_rfl)
@[simp] theorem tBytes29 : tBytes Try.prog 29 = some 8 := nr (by kernel_rfl)
@[simp] theorem tAgg29 : tAgg Try.prog 29 = some false := nr (by kernel_rfl)
@[simp] theorem tElem29 : tElem Try.prog 29 = none := nr (by kernel_rfl)
@[simp] theorem tArr29 : tArr Try.prog 29 = none := nr (by kernel_rfl)
@[simp] theorem tInt29 : tInt Try.prog 29 = none := nr (by kernel_rfl)
@[simp] theorem tStr29 : tStr Try.prog 29 = false := nr (by kernel_rfl)
@[simp] theorem tIface29 : tIface Try.prog 29 = some false := nr (by kernel_rfl)
@[simp] theorem tSize30 : tSize Try.prog 30 = some 1 := nr (by kernel_rfl)
@[simp] theorem tBytes30 : tBytes Try.prog 30 = some 8 := nr (by kernel_rfl)
@[simp] theorem tAgg30 : tAgg Try.prog 30 = some false := nr (by kernel_rfl)
@[simp] theorem tElem30 : tElem Try.prog 30 = none := nr (by kernel_rfl)
@[simp] theorem tArr30 : tArr Try.prog 30 = none := nr (by kernel_rfl)
@[simp] theorem tInt30 : tInt Try.prog 30 = some .i64 := nr (by kernel_rfl)
@[simp] theorem tStr30 : tStr Try.prog 30 = false := nr (by kernel_rfl)
@[simp] theorem tIface30 : tIface Try.prog 30 = some false := nr (by kernel_rfl)
@[simp] theorem azero30 : azero Try.prog 30 = some [.lit (.int .i64 0)] := nr (by kernel_rfl)
@[simp] theorem zeroEl30 : zeroEl Try.prog 30 = some (.lit (.int .i64 0)) := nr (by kernel_rfl)
@[simp] theorem tZero30 : tZeroSize Try.prog 30 = some 1 := nr (by kernel_rfl)
@[simp] theorem tZeroOk30 : tZeroOk Try.prog 30 = true := nr (by kernel_rfl)
@[simp] theorem tSize32 : tSize Try.prog 32 = some 1 := nr (by kernel_rfl)
@[simp] theorem tBytes32 : tBytes Try.prog 32 = some 8 := nr (by kernel_rfl)
@[simp] theorem tAgg32 : tAgg Try.prog 32 = some false := nr (by kernel_rfl)
@[simp] theorem tElem32 : tElem Try.prog 32 = none := nr (by kernel_rfl)
@[simp] theorem tArr32 : tArr Try.prog 32 = none := nr (by kernel_rfl)
@[simp] theorem tInt32 : tInt Try.prog 32 = none := nr (by kernel_rfl)
@[simp] theorem tStr32 : tStr Try.prog 32 = false := nr (by kernel_rfl)
@[simp] theorem tIface32 : tIface Try.prog 32 = some false := nr (by kernel_rfl)
@[simp] theorem tSize33 : tSize Try.prog 33 = some 1 := nr (by kernel_rfl)
@[simp] theorem tBytes33 : tBytes Try.prog 33 = some 24 := nr (by kernel_rfl)
@[simp] theorem tAgg33 : tAgg Try.prog 33 = some false := nr (by kernel_rfl)
@[simp] theorem tElem33 : tElem Try.prog 33 = some 46 := nr (by kernel_rfl)
@[simp] theorem tArr33 : tArr Try.prog 33 = none := nr (by kernel_rfl)
@[simp] theorem tInt33 : tInt Try.prog 33 = none := nr (by kernel_rfl)
@[simp] theorem tStr33 : tStr Try.prog 33 = false := nr (by kernel_rfl)
@[simp] theorem tIface33 : tIface Try.prog 33 = some false := nr (by kernel_rfl)
@[simp] theorem azero33 : azero Try.prog 33 = some [.list true 2 []] := nr (by kernel_rfl)
@[simp] theorem zeroEl33 : zeroEl Try.prog 33 = some (.list false 2 []) := nr (by kernel_rfl)
@[simp] theorem tZero33 : tZeroSize Try.prog 33 = some 1 := nr (by kernel_rfl)
@[simp] theorem tZeroOk33 : tZeroOk Try.prog 33 = true := nr (by kernel_rfl)
@[simp] theorem tSize34 : tSize Try.prog 34 = some 4 := nr (by kernel_rfl)
@[simp] theorem tBytes34 : tBytes Try.prog 34 = some 40 := nr (by kernel_rfl)
@[simp] theorem tAgg34 : tAgg Try.prog 34 = some true := nr (by kernel_rfl)
@[simp] theorem tElem34 : tElem Try.prog 34 = none := nr (by kernel_rfl)
@[simp] theorem tArr34 : tArr Try.prog 34 = none := nr (by kernel_rfl)
@[simp] theorem tInt34 : tInt Try.prog 34 = none := nr (by kernel_rfl)
@[simp] theorem tStr34 : tStr Try.prog 34 = false := nr (by kernel_rfl)
@[simp] theorem tIface34 : tIface Try.prog 34 = some false := nr (by kernel_rfl)
@[simp] theorem tField34_0 : tField Try.prog 34 0 = some (0, 5) := nr (by kernel_rfl)
@[simp] theorem tField34_1 : tField Try.prog 34 1 = some (1, 4) := nr (by kernel_rfl)
@[simp] theorem tField34_2 : tField Try.prog 34 2 = some (2, 3) := nr (by kernel_rfl)
@[simp] theorem tField34_3 : tField Try.prog 34 3 = some (3, 33) := nr (by kernel_rfl)
@[simp] theorem tParts34 : tParts Try.prog 34 = true := nr (by kernel_rfl)
@[simp] theorem azero34 : azero Try.prog 34 = some [.lit (.int .u8 0), .lit (.bool false), .lit (.int .i64 0), .list true 2 []] := nr (by kernel_rfl)
@[simp] theorem zeroEl34 : zeroEl Try.prog 34 = some (.agg [.lit (.int .u8 0), .lit (.bool false), .lit (.int .i64 0), .list false 2 []]) := nr (by kernel_rfl)
@[simp] theorem tZero34 : tZeroSize Try.prog 34 = some 4 := nr (by kernel_rfl)
@[simp] theorem tZeroOk34 : tZeroOk Try.prog 34 = true := nr (by kernel_rfl)
@[simp] theorem tSize35 : tSize Try.prog 35 = some 4 := nr (by kernel_rfl)
@[simp] theorem tBytes35 : tBytes Try.prog 35 = some 40 := nr (by kernel_rfl)
@[simp] theorem tAgg35 : tAgg Try.prog 35 = some true := nr (by kernel_rfl)
@[simp] theorem tElem35 : tElem Try.prog 35 = none := nr (by kernel_rfl)
@[simp] theorem tArr35 : tArr Try.prog 35 = none := nr (by kernel_rfl)
@[simp] theorem tInt35 : tInt Try.prog 35 = none := nr (by kernel_rfl)
@[simp] theorem tStr35 : tStr Try.prog 35 = false := nr (by kernel_rfl)
@[simp] theorem tIface35 : tIface Try.prog 35 = some false := nr (by kernel_rfl)
@[simp] theorem tField35_0 : tField Try.prog 35 0 = some (0, 5) := nr (by kernel_rfl)
@[simp] theorem tField35_1 : tField Try.prog 35 1 = some (1, 4) := nr (by kernel_rfl)
@[simp] theorem tField35_2 : tField Try.prog 35 2 = some (2, 3) := nr (by kernel_rfl)
@[simp] theorem tField35_3 : tField Try.prog 35 3 = some (3, 33) := nr (by kernel_rfl)
@[simp] theorem tParts35 : tParts Try.prog 35 = true := nr (by kernel_rfl)
@[simp] theorem azero35 : azero Try.prog 35 = some [.lit (.int .u8 0), .lit (.bool false), .lit (.int .i64 0), .list true 2 []] := nr (by kernel_rfl)
@[simp] theorem zeroEl35 : zeroEl Try.prog 35 = some (.agg [.lit (.int .u8 0), .lit (.bool false), .lit (.int .i64 0), .list false 2 []]) := nr (by kernel_rfl)
@[simp] theorem tZero35 : tZeroSize Try.prog 35 = some 4 := nr (by kernel_rfl)
@[simp] theorem tZeroOk35 : tZeroOk Try.prog 35 = true := nr (by kernel_rfl)
@[simp] theorem tSize36 : tSize Try.prog 36 = some 1 := nr (by kernel_rfl)
@[simp] theorem tBytes36 : tBytes Try.prog 36 = some 8 := nr (by kernel_rfl)
@[simp] theorem tAgg36 : tAgg Try.prog 36 = some false := nr (by kernel_rfl)
@[simp] theorem tElem36 : tElem Try.prog 36 = none := nr (by kernel_rfl)
@[simp] theorem tArr36 : tArr Try.prog 36 = none := nr (by kernel_rfl)
@[simp] theorem tInt36 : tInt Try.prog 36 = none := nr (by kernel_rfl)
@[simp] theorem tStr36 : tStr Try.prog 36 = false := nr (by kernel_rfl)
@[simp] theorem tIface36 : tIface Try.prog 36 = some false := nr (by kernel_rfl)
@[simp] theorem tSize38 : tSize Try.prog 38 = some 1 := nr (by kernel_rfl)
@[simp] theorem tBytes38 : tBytes Try.prog 38 = some 8 := nr (by kernel_rfl)
@[simp] theorem tAgg38 : tAgg Try.prog 38 = some false := nr (by kernel_rfl)
@[simp] theorem tElem38 : tElem Try.prog 38 = none := nr (by kernel_rfl)
@[simp] theorem tArr38 : tArr Try.prog 38 = none := nr (by kernel_rfl)
@[simp] theorem tInt38 : tInt Try.prog 38 = none := nr (by kernel_rfl)
@[simp] theorem tStr38 : tStr Try.prog 38 = false := nr (by kernel_rfl)
@[simp] theorem tIface38 : tIface Try.prog 38 = some false := nr (by kernel_rfl)
@[simp] theorem tSize39 : tSize Try.prog 39 = some 1 := nr (by kernel_rfl)
@[simp] theorem tBytes39 : tBytes Try.prog 39 = some 8 := nr (by kernel_rfl)
@[simp] theorem tAgg39 : tAgg Try.prog 39 = some false := nr (by kernel_rfl)
@[simp] theorem tElem39 : tElem Try.prog 39 = none := nr (by kernel_rfl)
@[simp] theorem tArr39 : tArr Try.prog 39 = none := nr (by kernel_rfl)
@[simp] theorem tInt39 : tInt Try.prog 39 = none := nr (by kernel_rfl)
@[simp] theorem tStr39 : tStr Try.prog 39 = false := nr (by kernel_rfl)
@[simp] theorem tIface39 : tIface Try.prog 39 = some false := nr (by kernel_rfl)
@[simp] theorem tSize41 : tSize Try.prog 41 = some 1 := nr (by kernel_rfl)
@[simp] theorem tBytes41 : tBytes Try.prog 41 = some 8 := nr (by kernel_rfl)
@[simp] theorem tAgg41 : tAgg Try.prog 41 = some false := nr (by kernel_rfl)
@[simp] theorem tElem41 : tElem Try.prog 41 = none := nr (by kernel_rfl)
@[simp] theorem tArr41 : tArr Try.prog 41 = none := nr (by kernel_rfl)
@[simp] theorem tInt41 : tInt Try.prog 41 = none := nr (by kernel_rfl)
@[simp] theorem tStr41 : tStr Try.prog 41 = false := nr (by kernel_rfl)
@[simp] theorem tIface41 : tIface Try.prog 41 = some false := nr (by kernel_rfl)
@[simp] theorem tSize42 : tSize Try.prog 42 = some 1 := nr (by kernel_rfl)
@[simp] theorem tBytes42 : tBytes Try.prog 42 = some 8 := nr (by kernel_rfl)
@[simp] theorem tAgg42 : tAgg Try.prog 42 = some false := nr (by kernel_rfl)
@[simp] theorem tElem42 : tElem Try.prog 42 = none := nr (by kernel_rfl)
@[simp] theorem tArr42 : tArr Try.prog 42 = none := nr (by kernel_rfl)
@[simp] theorem tInt42 : tInt Try.prog 42 = none := nr (by kernel_rfl)
@[simp] theorem tStr42 : tStr Try.prog 42 = false := nr (by kernel_rfl)
@[simp] theorem tIface42 : tIface Try.prog 42 = some false := nr (by kernel_rfl)
@[simp] theorem tSize43 : tSize Try.prog 43 = some 1 := nr (by kernel_rfl)
@[simp] theorem tBytes43 : tBytes Try.prog 43 = some 8 := nr (by kernel_rfl)
@[simp] theorem tAgg43 : tAgg Try.prog 43 = some false := nr (by kernel_rfl)
@[simp] theorem tElem43 : tElem Try.prog 43 = none := nr (by kernel_rfl)
@[simp] theorem tArr43 : tArr Try.prog 43 = none := nr (by kernel_rfl)
@[simp] theorem tInt43 : tInt Try.prog 43 = none := nr (by kernel_rfl)
@[simp] theorem tStr43 : tStr Try.prog 43 = false := nr (by kernel_rfl)
@[simp] theorem tIface43 : tIface Try.prog 43 = some false := nr (by kernel_rfl)
@[simp] theorem tSize44 : tSize Try.prog 44 = some 1 := nr (by kernel_rfl)
@[simp] theorem tBytes44 : tBytes Try.prog 44 = some 8 := nr (by kernel_rfl)
@[simp] theorem tAgg44 : tAgg Try.prog 44 = some false := nr (by kernel_rfl)
@[simp] theorem tElem44 : tElem Try.prog 44 = none := nr (by kernel_rfl)
@[simp] theorem tArr44 : tArr Try.prog 44 = none := nr (by kernel_rfl)
@[simp] theorem tInt44 : tInt Try.prog 44 = none := nr (by kernel_rfl)
@[simp] theorem tStr44 : tStr Try.prog 44 = false := nr (by kernel_rfl)
@[simp] theorem tIface44 : tIface Try.prog 44 = some false := nr (by kernel_rfl)
@[simp] theorem tSize45 : tSize Try.prog 45 = some 1 := nr (by kernel_rfl)
@[simp] theorem tBytes45 : tBytes Try.prog 45 = some 8 := nr (by kernel_rfl)
@[simp] theorem tAgg45 : tAgg Try.prog 45 = some false := nr (by kernel_rfl)
@[simp] theorem tElem45 : tElem Try.prog 45 = none := nr (by kernel_rfl)
@[simp] theorem tArr45 : tArr Try.prog 45 = none := nr (by kernel_rfl)
@[simp] theorem tInt45 : tInt Try.prog 45 = none := nr (by kernel_rfl)
@[simp] theorem tStr45 : tStr Try.prog 45 = false := nr (by kernel_rfl)
@[simp] theorem tIface45 : tIface Try.prog 45 = some false := nr (by kernel_rfl)
@[simp] theorem tSize46 : tSize Try.prog 46 = some 2 := nr (by kernel_rfl)
@[simp] theorem tBytes46 : tBytes Try.prog 46 = some 32 := nr (by kernel_rfl)
@[simp] theorem tAgg46 : tAgg Try.prog 46 = some true := nr (by kernel_rfl)
@[simp] theorem tElem46 : tElem Try.prog 46 = none := nr (by kernel_rfl)
@[simp] theorem tArr46 : tArr Try.prog 46 = none := nr (by kernel_rfl)
@[simp] theorem tInt46 : tInt Try.prog 46 = none := nr (by kernel_rfl)
@[simp] theorem tStr46 : tStr Try.prog 46 = false := nr (by kernel_rfl)
@[simp] theorem tIface46 : tIface Try.prog 46 = some false := nr (by kernel_rfl)
@[simp] theorem tField46_0 : tField Try.prog 46 0 = some (0, 3) := nr (by kernel_rfl)
@[simp] theorem tField46_1 : tField Try.prog 46 1 = some (1, 26) := nr (by kernel_rfl)
@[simp] theorem tParts46 : tParts Try.prog 46 = true := nr (by kernel_rfl)
@[simp] theorem azero46 : azero Try.prog 46 = some [.lit (.int .i64 0), .list true 1 []] := nr (by kernel_rfl)
@[simp] theorem zeroEl46 : zeroEl Try.prog 46 = some (.agg [.lit (.int .i64 0), .list false 1 []]) := nr (by kernel_rfl)
@[simp] theorem tZero46 : tZeroSize Try.prog 46 = some 2 := nr (by kernel_rfl)
@[simp] theorem tZeroOk46 : tZeroOk Try.prog 46 = true := nr (by kernel_rfl)
@[simp] theorem tSize47 : tSize Try.prog 47 = some 1 := nr (by kernel_rfl)
@[simp] theorem tBytes47 : tBytes Try.prog 47 = some 8 := nr (by kernel_rfl)
@[simp] theorem tAgg47 : tAgg Try.prog 47 = some false := nr (by kernel_rfl)
@[simp] theorem tElem47 : tElem Try.prog 47 = none := nr (by kernel_rfl)
@[simp] theorem tArr47 : tArr Try.prog 47 = none := nr (by kernel_rfl)
@[simp] theorem tInt47 : tInt Try.prog 47 = none := nr (by kernel_rfl)
@[simp] theorem tStr47 : tStr Try.prog 47 = false := nr (by kernel_rfl)
@[simp] theorem tIface47 : tIface Try.prog 47 = some false := nr (by kernel_rfl)
@[simp] theorem tSize48 : tSize Try.prog 48 = some 1 := nr (by kernel_rfl)
@[simp] theorem tBytes48 : tBytes Try.prog 48 = some 8 := nr (by kernel_rfl)
@[simp] theorem tAgg48 : tAgg Try.prog 48 = some false := nr (by kernel_rfl)
@[simp] theorem tElem48 : tElem Try.prog 48 = none := nr (by kernel_rfl)
@[simp] theorem tArr48 : tArr Try.prog 48 = none := nr (by kernel_rfl)
@[simp] theorem tInt48 : tInt Try.prog 48 = none := nr (by kernel_rfl)
@[simp] theorem tStr48 : tStr Try.prog 48 = false := nr (by kernel_rfl)
@[simp] theorem tIface48 : tIface Try.prog 48 = some false := nr (by kernel_rfl)
@[simp] theorem tSize49 : tSize Try.prog 49 = some 1 := nr (by kernel_rfl)
@[simp] theorem tBytes49 : tBytes Try.prog 49 = some 24 := nr (by kernel_rfl)
@[simp] theorem tAgg49 : tAgg Try.prog 49 = some false := nr (by kernel_rfl)
@[simp] theorem tElem49 : tElem Try.prog 49 = some 52 := nr (by kernel_rfl)
@[simp] theorem tArr49 : tArr Try.prog 49 = none := nr (by kernel_rfl)
@[simp] theorem tInt49 : tInt Try.prog 49 = none := nr (by kernel_rfl)
@[simp] theorem tStr49 : tStr Try.prog 49 = false := nr (by kernel_rfl)
@[simp] theorem tIface49 : tIface Try.prog 49 = some false := nr (by kernel_rfl)
@[simp] theorem azero49 : azero Try.prog 49 = some [.list true 7 []] := nr (by kernel_rfl)
@[simp] theorem zeroEl49 : zeroEl Try.prog 49 = some (.list false 7 []) := nr (by kernel_rfl)
@[simp] theorem tZero49 : tZeroSize Try.prog 49 = some 1 := nr (by kernel_rfl)
@[simp] theorem tZeroOk49 : tZeroOk Try.prog 49 = true := nr (by kernel_rfl)
@[simp] theorem tSize50 : tSize Try.prog 50 = some 1 := nr (by kernel_rfl)
@[simp] theorem tBytes50 : tBytes Try.prog 50 = some 24 := nr (by kernel_rfl)
@[simp] theorem tAgg50 : tAgg Try.prog 50 = some false := nr (by kernel_rfl)
@[simp] theorem tElem50 : tElem Try.prog 50 = some 78 := nr (by kernel_rfl)
@[simp] theorem tArr50 : tArr Try.prog 50 = none := nr (by kernel_rfl)
@[simp] theorem tInt50 : tInt Try.prog 50 = none := nr (by kernel_rfl)
@[simp] theorem tStr50 : tStr Try.prog 50 = false := nr (by kernel_rfl)
@[simp] theorem tIface50 : tIface Try.prog 50 = some false := nr (by kernel_rfl)
@[simp] theorem azero50 : azero Try.prog 50 = some [.list true 2 []] := nr (by kernel_rfl)
@[simp] theorem zeroEl50 : zeroEl Try.prog 50 = some (.list false 2 []) := nr (by kernel_rfl)
@[simp] theorem tZero50 : tZeroSize Try.prog 50 = some 1 := nr (by kernel_rfl)
@[simp] theorem tZeroOk50 : tZeroOk Try.prog 50 = true := nr (by kernel_rfl)
@[simp] theorem tSize51 : tSize Try.prog 51 = some 7 := nr (by kernel_rfl)
@[simp] theorem tBytes51 : tBytes Try.prog 51 = some 72 := nr (by kernel_rfl)
@[simp] theorem tAgg51 : tAgg Try.prog 51 = some true := nr (by kernel_rfl)
@[simp] theorem tElem51 : tElem Try.prog 51 = none := nr (by kernel_rfl)
@[simp] theorem tArr51 : tArr Try.prog 51 = none := nr (by kernel_rfl)
@[simp] theorem tInt51 : tInt Try.prog 51 = none := nr (by kernel_rfl)
@[simp] theorem tStr51 : tStr Try.prog 51 = false := nr (by kernel_rfl)
@[simp] theorem tIface51 : tIface Try.prog 51 = some false := nr (by kernel_rfl)
@[simp] theorem tField51_0 : tField Try.prog 51 0 = some (0, 3) := nr (by kernel_rfl)
@[simp] theorem tField51_1 : tField Try.prog 51 1 = some (1, 3) := nr (by kernel_rfl)
@[simp] theorem tField51_2 : tField Try.prog 51 2 = some (2, 5) := nr (by kernel_rfl)
@[simp] theorem tField51_3 : tField Try.prog 51 3 = some (3, 4) := nr (by kernel_rfl)
@[simp] theorem tField51_4 : tField Try.prog 51 4 = some (4, 5) := nr (by kernel_rfl)
@[simp] theorem tField51_5 : tField Try.prog 51 5 = some (5, 50) := nr (by kernel_rfl)
@[simp] theorem tField51_6 : tField Try.prog 51 6 = some (6, 26) := nr (by kernel_rfl)
@[simp] theorem tParts51 : tParts Try.prog 51 = true := nr (by kernel_rfl)
@[simp] theorem azero51 : azero Try.prog 51 = some [.lit (.int .i64 0), .lit (.int .i64 0), .lit (.int .u8 0), .lit (.bool false), .lit (.int .u8 0), .list true 2 [], .list true 1 []] := nr (by kernel_rfl)
@[simp] theorem zeroEl51 : zeroEl Try.prog 51 = some (.agg [.lit (.int .i64 0), .lit (.int .i64 0), .lit (.int .u8 0), .lit (.bool false), .lit (.int .u8 0), .list false 2 [], .list false 1 []]) := nr (by kernel_rfl)
@[simp] theorem tZero51 : tZeroSize Try.prog 51 = some 7 := nr (by kernel_rfl)
@[simp] theorem tZeroOk51 : tZeroOk Try.prog 51 = true := nr (by kernel_rfl)
@[simp] theorem tSize52 : tSize Try.prog 52 = some 7 := nr (by kernel_rfl)
@[simp] theorem tBytes52 : tBytes Try.prog 52 = some 72 := nr (by kernel_rfl)
@[simp] theorem tAgg52 : tAgg Try.prog 52 = some true := nr (by kernel_rfl)
@[simp] theorem tElem52 : tElem Try.prog 52 = none := nr (by kernel_rfl)
@[simp] theorem tArr52 : tArr Try.prog 52 = none := nr (by kernel_rfl)
@[simp] theorem tInt52 : tInt Try.prog 52 = none := nr (by kernel_rfl)
@[simp] theorem tStr52 : tStr Try.prog 52 = false := nr (by kernel_rfl)
@[simp] theorem tIface52 : tIface Try.prog 52 = some false := nr (by kernel_rfl)
@[simp] theorem tField52_0 : tField Try.prog 52 0 = some (0, 3) := nr (by kernel_rfl)
@[simp] theorem tField52_1 : tField Try.prog 52 1 = some (1, 3) := nr (by kernel_rfl)
@[simp] theorem tField52_2 : tField Try.prog 52 2 = some (2, 5) := nr (by kernel_rfl)
@[simp] theorem tField52_3 : tField Try.prog 52 3 = some (3, 4) := nr (by kernel_rfl)
@[simp] theorem tField52_4 : tField Try.prog 52 4 = some (4, 5) := nr (by kernel_rfl)
@[simp] theorem tField52_5 : tField Try.prog 52 5 = some (5, 50) := nr (by kernel_rfl)
@[simp] theorem tField52_6 : tField Try.prog 52 6 = some (6, 26) := nr (by kernel_rfl)
@[simp] theorem tParts52 : tParts Try.prog 52 = true := nr (by kernel_rfl)
@[simp] theorem azero52 : azero Try.prog 52 = some [.lit (.int .i64 0), .lit (.int .i64 0), .lit (.int .u8 0), .lit (.bool false), .lit (.int .u8 0), .list true 2 [], .list true 1 []] := nr (by kernel_rfl)
@[simp] theorem zeroEl52 : zeroEl Try.prog 52 = some (.agg [.lit (.int .i64 0), .lit (.int .i64 0), .lit (.int .u8 0), .lit (.bool false), .lit (.int .u8 0), .list false 2 [], .list false 1 []]) := nr (by kernel_rfl)
@[simp] theorem tZero52 : tZeroSize Try.prog 52 = some 7 := nr (by kernel_rfl)
@[simp] theorem tZeroOk52 : tZeroOk Try.prog 52 = true := nr (by kernel_rfl)
@[simp] theorem tSize53 : tSize Try.prog 53 = some 1 := nr (by kernel_rfl)
@[simp] theorem tBytes53 : tBytes Try.prog 53 = some 8 := nr (by kernel_rfl)
@[simp] theorem tAgg53 : tAgg Try.prog 53 = some false := nr (by kernel_rfl)
@[simp] theorem tElem53 : tElem Try.prog 53 = none := nr (by kernel_rfl)
@[simp] theorem tArr53 : tArr Try.prog 53 = none := nr (by kernel_rfl)
@[simp] theorem tInt53 : tInt Try.prog 53 = none := nr (by kernel_rfl)
@[simp] theorem tStr53 : tStr Try.prog 53 = false := nr (by kernel_rfl)
@[simp] theorem tIface53 : tIface Try.prog 53 = some false := nr (by kernel_rfl)
@[simp] theorem tSize54 : tSize Try.prog 54 = some 1 := nr (by kernel_rfl)
@[simp] theorem tBytes54 : tBytes Try.prog 54 = some 8 := nr (by kernel_rfl)
@[simp] theorem tAgg54 : tAgg Try.prog 54 = some false := nr (by kernel_rfl)
@[simp] theorem tElem54 : tElem Try.prog 54 = none := nr (by kernel_rfl)
@[simp] theorem tArr54 : tArr Try.prog 54 = none := nr (by kernel_rfl)
@[simp] theorem tInt54 : tInt Try.prog 54 = none := nr (by kernel_rfl)
@[simp] theorem tStr54 : tStr Try.prog 54 = false := nr (by kernel_rfl)
@[simp] theorem tIface54 : tIface Try.prog 54 = some false := nr (by kernel_rfl)
@[simp] theorem tSize55 : tSize Try.prog 55 = some 1 := nr (by kernel_rfl)
@[simp] theorem tBytes55 : tBytes Try.prog 55 = some 8 := nr (by kernel_rfl)
@[simp] theorem tAgg55 : tAgg Try.prog 55 = some false := nr (by kernel_rfl)
@[simp] theorem tElem55 : tElem Try.prog 55 = none := nr (by kernel_rfl)
@[simp] theorem tArr55 : tArr Try.prog 55 = none := nr (by kernel_rfl)
@[simp] theorem tInt55 : tInt Try.prog 55 = none := nr (by kernel_rfl)
@[simp] theorem tStr55 : tStr Try.prog 55 = false := nr (by kernel_rfl)
@[simp] theorem tIface55 : tIface Try.prog 55 = some false := nr (by kernel_rfl)
@[simp] theorem tSize57 : tSize Try.prog 57 = some 1 := nr (by kernel_rfl)
@[simp] theorem tBytes57 : tBytes Try.prog 57 = some 8 := nr (by kernel_rfl)
@[simp] theorem tAgg57 : tAgg Try.prog 57 = some false := nr (by kernel_rfl)
@[simp] theorem tElem57 : tElem Try.prog 57 = none := nr (by kernel_rfl)
@[simp] theorem tArr57 : tArr Try.prog 57 = none := nr (by kernel_rfl)
@[simp] theorem tInt57 : tInt Try.prog 57 = none := nr (by kernel_rfl)
@[simp] theorem tStr57 : tStr Try.prog 57 = false := nr (by kernel_rfl)
@[simp] theorem tIface57 : tIface Try.prog 57 = some false := nr (by kernel_rfl)
@[simp] theorem tSize59 : tSize Try.prog 59 = some 1 := nr (by kernel_rfl)
@[simp] theorem tBytes59 : tBytes Try.prog 59 = some 8 := nr (by kernel_rfl)
@[simp] theorem tAgg59 : tAgg Try.prog 59 = some false := nr (by kernel_rfl)
@[simp] theorem tElem59 : tElem Try.prog 59 = none := nr (by kernel_rfl)
@[simp] theorem tArr59 : tArr Try.prog 59 = none := nr (by kernel_rfl)
@[simp] theorem tInt59 : tInt Try.prog 59 = none := nr (by kernel_rfl)
@[simp] theorem tStr59 : tStr Try.prog 59 = false := nr (by kernel_rfl)
@[simp] theorem tIface59 : tIface Try.prog 59 = some false := nr (by kernel_rfl)
@[simp] theorem tSize60 : tSize Try.prog 60 = some 1 := nr (by kernel_rfl)
@[simp] theorem tBytes60 : tBytes Try.prog 60 = some 8 := nr (by kernel_rfl)
@[simp] theorem tAgg60 : tAgg Try.prog 60 = some false := nr (by kernel_rfl)
@[simp] theorem tElem60 : tElem Try.prog 60 = none := nr (by kernel_rfl)
@[simp] theorem tArr60 : tArr Try.prog 60 = none := nr (by kernel_rfl)
@[simp] theorem tInt60 : tInt Try.prog 60 = none := nr (by kernel_rfl)
@[simp] theorem tStr60 : tStr Try.prog 60 = false := nr (by kernel_rfl)
@[simp] theorem tIface60 : tIface Try.prog 60 = some false := nr (by kernel_rfl)
@[simp] theorem tSize61 : tSize Try.prog 61 = some 1 := nr (by kernel_rfl)
@[simp] theorem tBytes61 : tBytes Try.prog 61 = some 8 := nr (by kernel_rfl)
@[simp] theorem tAgg61 : tAgg Try.prog 61 = some false := nr (by kernel_rfl)
@[simp] theorem tElem61 : tElem Try.prog 61 = none := nr (by kernel_rfl)
@[simp] theorem tArr61 : tArr Try.prog 61 = none := nr (by kernel_rfl)
@[simp] theorem tInt61 : tInt Try.prog 61 = none := nr (by kernel_rfl)
@[simp] theorem tStr61 : tStr Try.prog 61 = false := nr (by kernel_rfl)
@[simp] theorem tIface61 : tIface Try.prog 61 = some false := nr (by kernel_rfl)
@[simp] theorem tSize62 : tSize Try.prog 62 = some 1 := nr (by kernel_rfl)
@[simp] theorem tBytes62 : tBytes Try.prog 62 = some 8 := nr (by kernel_rfl)
@[simp] theorem tAgg62 : tAgg Try.prog 62 = some false := nr (by kernel_rfl)
@[simp] theorem tElem62 : tElem Try.prog 62 = none := nr (by kernel_rfl)
@[simp] theorem tArr62 : tArr Try.prog 62 = none := nr (by kernel_rfl)
@[simp] theorem tInt62 : tInt Try.prog 62 = some .u64 := nr (by kernel_rfl)
@[simp] theorem tStr62 : tStr Try.prog 62 = false := nr (by kernel_rfl)
@[simp] theorem tIface62 : tIface Try.prog 62 = some false := nr (by kernel_rfl)
@[simp] theorem azero62 : azero Try.prog 62 = some [.lit (.int .u64 0)] := nr (by kernel_rfl)
@[simp] theorem zeroEl62 : zeroEl Try.prog 62 = some (.lit (.int .u64 0)) := nr (by kernel_rfl)
@[simp] theorem tZero62 : tZeroSize Try.prog 62 = some 1 := nr (by kernel_rfl)
@[simp] theorem tZeroOk62 : tZeroOk Try.prog 62 = true := nr (by kernel_rfl)
@[simp] theorem tSize63 : tSize Try.prog 63 = some 1 := nr (by kernel_rfl)
@[simp] theorem tBytes63 : tBytes Try.prog 63 = some 8 := nr (by kernel_rfl)
@[simp] theorem tAgg63 : tAgg Try.prog 63 = some false := nr (by kernel_rfl)
@[simp] theorem tElem63 : tElem Try.prog 63 = none := nr (by kernel_rfl)
@[simp] theorem tArr63 : tArr Try.prog 63 = none := nr (by kernel_rfl)
@[simp] theorem tInt63 : tInt Try.prog 63 = none := nr (by kernel_rfl)
@[simp] theorem tStr63 : tStr Try.prog 63 = false := nr (by kernel_rfl)
@[simp] theorem tIface63 : tIface Try.prog 63 = some false := nr (by kernel_rfl)
@[simp] theorem tSize64 : tSize Try.prog 64 = some 1 := nr (by kernel_rfl)
@[simp] theorem tBytes64 : tBytes Try.prog 64 = some 8 := nr (by kernel_rfl)
@[simp] theorem tAgg64 : tAgg Try.prog 64 = some false := nr (by kernel_rfl)
@[simp] theorem tElem64 : tElem Try.prog 64 = none := nr (by kernel_rfl)
@[simp] theorem tArr64 : tArr Try.prog 64 = none := nr (by kernel_rfl)
@[simp] theorem tInt64 : tInt Try.prog 64 = none := nr (by kernel_rfl)
@[simp] theorem tStr64 : tStr Try.prog 64 = false := nr (by kernel_rfl)
@[simp] theorem tIface64 : tIface Try.prog 64 = some false := nr (by kernel_rfl)
@[simp] theorem tSize66 : tSize Try.prog 66 = some 1 := nr (by kernel_rfl)
@[simp] theorem tBytes66 : tBytes Try.prog 66 = some 8 := nr (by kernel_rfl)
@[simp] theorem tAgg66 : tAgg Try.prog 66 = some false := nr (by kernel_rfl)
@[simp] theorem tElem66 : tElem Try.prog 66 = none := nr (by kernel_rfl)
@[simp] theorem tArr66 : tArr Try.prog 66 = none := nr (by kernel_rfl)
@[simp] theorem tInt66 : tInt Try.prog 66 = none := nr (by kernel_rfl)
@[simp] theorem tStr66 : tStr Try.prog 66 = false := nr (by kernel_rfl)
@[simp] theorem tIface66 : tIface Try.prog 66 = some false := nr (by kernel_rfl)
@[simp] theorem tSize67 : tSize Try.prog 67 = some 1 := nr (by kernel_rfl)
@[simp] theorem tBytes67 : tBytes Try.prog 67 = some 8 := nr (by kernel_rfl)
@[simp] theorem tAgg67 : tAgg Try.prog 67 = some false := nr (by kernel_rfl)
@[simp] theorem tElem67 : tElem Try.prog 67 = none := nr (by kernel_rfl)
@[simp] theorem tArr67 : tArr Try.prog 67 = none := nr (by kernel_rfl)
@[simp] theorem tInt67 : tInt Try.prog 67 = none := nr (by kernel_rfl)
@[simp] theorem tStr67 : tStr Try.prog 67 = false := nr (by kernel_rfl)
@[simp] theorem tIface67 : tIface Try.prog 67 = some false := nr (by kernel_rfl)
@[simp] theorem azero67 : azero Try.prog 67 = some [.lit (.pointer none)] := nr (by kernel_rfl)
@[simp] theorem zeroEl67 : zeroEl Try.prog 67 = some (.lit (.pointer none)) := nr (by kernel_rfl)
@[simp] theorem tZero67 : tZeroSize Try.prog 67 = some 1 := nr (by kernel_rfl)
@[simp] theorem tZeroOk67 : tZeroOk Try.prog 67 = true := nr (by kernel_rfl)
@[simp] theorem tSize68 : tSize Try.prog 68 = some 2 := nr (by kernel_rfl)
@[simp] theorem tBytes68 : tBytes Try.prog 68 = some 32 := nr (by kernel_rfl)
@[simp] theorem tAgg68 : tAgg Try.prog 68 = some true := nr (by kernel_rfl)
@[simp] theorem tElem68 : tElem Try.prog 68 = none := nr (by kernel_rfl)
@[simp] theorem tArr68 : tArr Try.prog 68 = none := nr (by kernel_rfl)
@[simp] theorem tInt68 : tInt Try.prog 68 = none := nr (by kernel_rfl)
@[simp] theorem tStr68 : tStr Try.prog 68 = false := nr (by kernel_rfl)
@[simp] theorem tIface68 : tIface Try.prog 68 = some false := nr (by kernel_rfl)
@[simp] theorem tField68_0 : tField Try.prog 68 0 = some (0, 26) := nr (by kernel_rfl)
@[simp] theorem tField68_1 : tField Try.prog 68 1 = some (1, 30) := nr (by kernel_rfl)
@[simp] theorem tParts68 : tParts Try.prog 68 = true := nr (by kernel_rfl)
@[simp] theorem azero68 : azero Try.prog 68 = some [.list true 1 [], .lit (.int .i64 0)] := nr (by kernel_rfl)
@[simp] theorem zeroEl68 : zeroEl Try.prog 68 = some (.agg [.list false 1 [], .lit (.int .i64 0)]) := nr (by kernel_rfl)
@[simp] theorem tZero68 : tZeroSize Try.prog 68 = some 2 := nr (by kernel_rfl)
@[simp] theorem tZeroOk68 : tZeroOk Try.prog 68 = true := nr (by kernel_rfl)
@[simp] theorem tSize69 : tSize Try.prog 69 = some 2 := nr (by kernel_rfl)
@[simp] theorem tBytes69 : tBytes Try.prog 69 = some 32 := nr (by kernel_rfl)
@[simp] theorem tAgg69 : tAgg Try.prog 69 = some true := nr (by kernel_rfl)
@[simp] theorem tElem69 : tElem Try.prog 69 = none := nr (by kernel_rfl)
@[simp] theorem tArr69 : tArr Try.prog 69 = none := nr (by kernel_rfl)
@[simp] theorem tInt69 : tInt Try.prog 69 = none := nr (by kernel_rfl)
@[simp] theorem tStr69 : tStr Try.prog 69 = false := nr (by kernel_rfl)
@[simp] theorem tIface69 : tIface Try.prog 69 = some false := nr (by kernel_rfl)
@[simp] theorem tField69_0 : tField Try.prog 69 0 = some (0, 26) := nr (by kernel_rfl)
@[simp] theorem tField69_1 : tField Try.prog 69 1 = some (1, 30) := nr (by kernel_rfl)
@[simp] theorem tParts69 : tParts Try.prog 69 = true := nr (by kernel_rfl)
@[simp] theorem azero69 : azero Try.prog 69 = some [.list true 1 [], .lit (.int .i64 0)] := nr (by kernel_rfl)
@[simp] theorem zeroEl69 : zeroEl Try.prog 69 = some (.agg [.list false 1 [], .lit (.int .i64 0)]) := nr (by kernel_rfl)
@[simp] theorem tZero69 : tZeroSize Try.prog 69 = some 2 := nr (by kernel_rfl)
@[simp] theorem tZeroOk69 : tZeroOk Try.prog 69 = true := nr (by kernel_rfl)
@[simp] theorem tSize70 : tSize Try.prog 70 = some 1 := nr (by kernel_rfl)
@[simp] theorem tBytes70 : tBytes Try.prog 70 = some 8 := nr (by kernel_rfl)
@[simp] theorem tAgg70 : tAgg Try.prog 70 = some false := nr (by kernel_rfl)
@[simp] theorem tElem70 : tElem Try.prog 70 = none := nr (by kernel_rfl)
@[simp] theorem tArr70 : tArr Try.prog 70 = none := nr (by kernel_rfl)
@[simp] theorem tInt70 : tInt Try.prog 70 = none := nr (by kernel_rfl)
@[simp] theorem tStr70 : tStr Try.prog 70 = false := nr (by kernel_rfl)
@[simp] theorem tIface70 : tIface Try.prog 70 = some false := nr (by kernel_rfl)
@[simp] theorem tSize71 : tSize Try.prog 71 = some 1 := nr (by kernel_rfl)
@[simp] theorem tBytes71 : tBytes Try.prog 71 = some 8 := nr (by kernel_rfl)
@[simp] theorem tAgg71 : tAgg Try.prog 71 = some false := nr (by kernel_rfl)
@[simp] theorem tElem71 : tElem Try.prog 71 = none := nr (by kernel_rfl)
@[simp] theorem tArr71 : tArr Try.prog 71 = none := nr (by kernel_rfl)
@[simp] theorem tInt71 : tInt Try.prog 71 = none := nr (by kernel_rfl)
@[simp] theorem tStr71 : tStr Try.prog 71 = false := nr (by kernel_rfl)
@[simp] theorem tIface71 : tIface Try.prog 71 = some false := nr (by kernel_rfl)
@[simp] theorem azero71 : azero Try.prog 71 = some [.lit (.pointer none)] := nr (by kernel_rfl)
@[simp] theorem zeroEl71 : zeroEl Try.prog 71 = some (.lit (.pointer none)) := nr (by kernel_rfl)
@[simp] theorem tZero71 : tZeroSize Try.prog 71 = some 1 := nr (by kernel_rfl)
@[simp] theorem tZeroOk71 : tZeroOk Try.prog 71 = true := nr (by kernel_rfl)
@[simp] theorem tSize72 : tSize Try.prog 72 = some 1 := nr (by kernel_rfl)
@[simp] theorem tBytes72 : tBytes Try.prog 72 = some 8 := nr (by kernel_rfl)
@[simp] theorem tAgg72 : tAgg Try.prog 72 = some false := nr (by kernel_rfl)
@[simp] theorem tElem72 : tElem Try.prog 72 = none := nr (by kernel_rfl)
@[simp] theorem tArr72 : tArr Try.prog 72 = none := nr (by kernel_rfl)
@[simp] theorem tInt72 : tInt Try.prog 72 = none := nr (by kernel_rfl)
@[simp] theorem tStr72 : tStr Try.prog 72 = false := nr (by kernel_rfl)
@[simp] theorem tIface72 : tIface Try.prog 72 = some false := nr (by kernel_rfl)
@[simp] theorem azero72 : azero Try.prog 72 = some [.lit (.pointer none)] := nr (by kernel_rfl)
@[simp] theorem zeroEl72 : zeroEl Try.prog 72 = some (.lit (.pointer none)) := nr (by kernel_rfl)
@[simp] theorem tZero72 : tZeroSize Try.prog 72 = some 1 := nr (by kernel_rfl)
@[simp] theorem tZeroOk72 : tZeroOk Try.prog 72 = true := nr (by kernel_rfl)
@[simp] theorem tSize74 : tSize Try.prog 74 = some 1 := nr (by kernel_rfl)
@[simp] theorem tBytes74 : tBytes Try.prog 74 = some 8 := nr (by kernel_rfl)
@[simp] theorem tAgg74 : tAgg Try.prog 74 = some false := nr (by kernel_rfl)
@[simp] theorem tElem74 : tElem Try.prog 74 = none := nr (by kernel_rfl)
@[simp] theorem tArr74 : tArr Try.prog 74 = none := nr (by kernel_rfl)
@[simp] theorem tInt74 : tInt Try.prog 74 = none := nr (by kernel_rfl)
@[simp] theorem tStr74 : tStr Try.prog 74 = false := nr (by kernel_rfl)
@[simp] theorem tIface74 : tIface Try.prog 74 = some false := nr (by kernel_rfl)
@[simp] theorem tSize75 : tSize Try.prog 75 = some 1 := nr (by kernel_rfl)
@[simp] theorem tBytes75 : tBytes Try.prog 75 = some 8 := nr (by kernel_rfl)
@[simp] theorem tAgg75 : tAgg Try.prog 75 = some false := nr (by kernel_rfl)
@[simp] theorem tElem75 : tElem Try.prog 75 = none := nr (by kernel_rfl)
@[simp] theorem tArr75 : tArr Try.prog 75 = none := nr (by kernel_rfl)
@[simp] theorem tInt75 : tInt Try.prog 75 = none := nr (by kernel_rfl)
@[simp] theorem tStr75 : tStr Try.prog 75 = false := nr (by kernel_rfl)
@[simp] theorem tIface75 : tIface Try.prog 75 = some false := nr (by kernel_rfl)
@[simp] theorem tSize76 : tSize Try.prog 76 = some 1 := nr (by kernel_rfl)
@[simp] theorem tBytes76 : tBytes Try.prog 76 = some 8 := nr (by kernel_rfl)
@[simp] theorem tAgg76 : tAgg Try.prog 76 = some false := nr (by kernel_rfl)
@[simp] theorem tElem76 : tElem Try.prog 76 = none := nr (by kernel_rfl)
@[simp] theorem tArr76 : tArr Try.prog 76 = none := nr (by kernel_rfl)
@[simp] theorem tInt76 : tInt Try.prog 76 = none := nr (by kernel_rfl)
@[simp] theorem tStr76 : tStr Try.prog 76 = false := nr (by kernel_rfl)
@[simp] theorem tIface76 : tIface Try.prog 76 = some false := nr (by kernel_rfl)
@[simp] theorem tSize77 : tSize Try.prog 77 = some 2 := nr (by kernel_rfl)
@[simp] theorem tBytes77 : tBytes Try.prog 77 = some 2 := nr (by kernel_rfl)
@[simp] theorem tAgg77 : tAgg Try.prog 77 = some true := nr (by kernel_rfl)
@[simp] theorem tElem77 : tElem Try.prog 77 = none := nr (by kernel_rfl)
@[simp] theorem tArr77 : tArr Try.prog 77 = none := nr (by kernel_rfl)
@[simp] theorem tInt77 : tInt Try.prog 77 = none := nr (by kernel_rfl)
@[simp] theorem tStr77 : tStr Try.prog 77 = false := nr (by kernel_rfl)
@[simp] theorem tIface77 : tIface Try.prog 77 = some false := nr (by kernel_rfl)
@[simp] theorem tField77_0 : tField Try.prog 77 0 = some (0, 5) := nr (by kernel_rfl)
@[simp] theorem tField77_1 : tField Try.prog 77 1 = some (1, 5) := nr (by kernel_rfl)
@[simp] theorem tParts77 : tParts Try.prog 77 = true := nr (by kernel_rfl)
@[simp] theorem azero77 : azero Try.prog 77 = some [.lit (.int .u8 0), .lit (.int .u8 0)] := nr (by kernel_rfl)
@[simp] theorem zeroEl77 : zeroEl Try.prog 77 = some (.agg [.lit (.int .u8 0), .lit (.int .u8 0)]) := nr (by kernel_rfl)
@[simp] theorem tZero77 : tZeroSize Try.prog 77 = some 2 := nr (by kernel_rfl)
@[simp] theorem tZeroOk77 : tZeroOk Try.prog 77 = true := nr (by kernel_rfl)
@[simp] theorem tSize78 : tSize Try.prog 78 = some 2 := nr (by kernel_rfl)
@[simp] theorem tBytes78 : tBytes Try.prog 78 = some 2 := nr (by kernel_rfl)
@[simp] theorem tAgg78 : tAgg Try.prog 78 = some true := nr (by kernel_rfl)
@[simp] theorem tElem78 : tElem Try.prog 78 = none := nr (by kernel_rfl)
@[simp] theorem tArr78 : tArr Try.prog 78 = none := nr (by kernel_rfl)
@[simp] theorem tInt78 : tInt Try.prog 78 = none := nr (by kernel_rfl)
@[simp] theorem tStr78 : tStr Try.prog 78 = false := nr (by kernel_rfl)
@[simp] theorem tIface78 : tIface Try.prog 78 = some false := nr (by kernel_rfl)
@[simp] theorem tField78_0 : tField Try.prog 78 0 = some (0, 5) := nr (by kernel_rfl)
@[simp] theorem tField78_1 : tField Try.prog 78 1 = some (1, 5) := nr (by kernel_rfl)
@[simp] theorem tParts78 : tParts Try.prog 78 = true := nr (by kernel_rfl)
@[simp] theorem azero78 : azero Try.prog 78 = some [.lit (.int .u8 0), .lit (.int .u8 0)] := nr (by kernel_rfl)
@[simp] theorem zeroEl78 : zeroEl Try.prog 78 = some (.agg [.lit (.int .u8 0), .lit (.int .u8 0)]) := nr (by kernel_rfl)
@[simp] theorem tZero78 : tZeroSize Try.prog 78 = some 2 := nr (by kernel_rfl)
@[simp] theorem tZeroOk78 : tZeroOk Try.prog 78 = true := nr (by kernel_rfl)
@[simp] theorem tSize79 : tSize Try.prog 79 = some 1 := nr (by kernel_rfl)
@[simp] theorem tBytes79 : tBytes Try.prog 79 = some 8 := nr (by kernel_rfl)
@[simp] theorem tAgg79 : tAgg Try.prog 79 = some false := nr (by kernel_rfl)
@[simp] theorem tElem79 : tElem Try.prog 79 = none := nr (by kernel_rfl)
@[simp] theorem tArr79 : tArr Try.prog 79 = none := nr (by kernel_rfl)
@[simp] theorem tInt79 : tInt Try.prog 79 = none := nr (by kernel_rfl)
@[simp] theorem tStr79 : tStr Try.prog 79 = false := nr (by kernel_rfl)
@[simp] theorem tIface79 : tIface Try.prog 79 = some false := nr (by kernel_rfl)
@[simp] theorem tSize80 : tSize Try.prog 80 = some 1 := nr (by kernel_rfl)
@[simp] theorem tBytes80 : tBytes Try.prog 80 = some 8 := nr (by kernel_rfl)
@[simp] theorem tAgg80 : tAgg Try.prog 80 = some false := nr (by kernel_rfl)
@[simp] theorem tElem80 : tElem Try.prog 80 = none := nr (by kernel_rfl)
@[simp] theorem tArr80 : tArr Try.prog 80 = none := nr (by kernel_rfl)
@[simp] theorem tInt80 : tInt Try.prog 80 = none := nr (by kernel_rfl)
@[simp] theorem tStr80 : tStr Try.prog 80 = false := nr (by kernel_rfl)
@[simp] theorem tIface80 : tIface Try.prog 80 = some false := nr (by kernel_rfl)
@[simp] theorem tSize81 : tSize Try.prog 81 = some 1 := nr (by kernel_rfl)
@[simp] theorem tBytes81 : tBytes Try.prog 81 = some 8 := nr (by kernel_rfl)
@[simp] theorem tAgg81 : tAgg Try.prog 81 = some false := nr (by kernel_rfl)
@[simp] theorem tElem81 : tElem Try.prog 81 = none := nr (by kernel_rfl)
@[simp] theorem tArr81 : tArr Try.prog 81 = none := nr (by kernel_rfl)
@[simp] theorem tInt81 : tInt Try.prog 81 = none := nr (by kernel_rfl)
@[simp] theorem tStr81 : tStr Try.prog 81 = false := nr (by kernel_rfl)
@[simp] theorem tIface81 : tIface Try.prog 81 = some false := nr (by kernel_rfl)
@[simp] theorem tSize82 : tSize Try.prog 82 = some 1 := nr (by kernel_rfl)
@[simp] theorem tBytes82 : tBytes Try.prog 82 = some 8 := nr (by kernel_rfl)
@[simp] theorem tAgg82 : tAgg Try.prog 82 = some false := nr (by kernel_rfl)
@[simp] theorem tElem82 : tElem Try.prog 82 = none := nr (by kernel_rfl)
@[simp] theorem tArr82 : tArr Try.prog 82 = none := nr (by kernel_rfl)
@[simp] theorem tInt82 : tInt Try.prog 82 = none := nr (by kernel_rfl)
@[simp] theorem tStr82 : tStr Try.prog 82 = false := nr (by kernel_rfl)
@[simp] theorem tIface82 : tIface Try.prog 82 = some false := nr (by kernel_rfl)
@[simp] theorem tSize83 : tSize Try.prog 83 = some 1 := nr (by kernel_rfl)
@[simp] theorem tBytes83 : tBytes Try.prog 83 = some 24 := nr (by kernel_rfl)
@[simp] theorem tAgg83 : tAgg Try.prog 83 = some false := nr (by kernel_rfl)
@[simp] theorem tElem83 : tElem Try.prog 83 = some 9 := nr (by kernel_rfl)
@[simp] theorem tArr83 : tArr Try.prog 83 = none := nr (by kernel_rfl)
@[simp] theorem tInt83 : tInt Try.prog 83 = none := nr (by kernel_rfl)
@[simp] theorem tStr83 : tStr Try.prog 83 = false := nr (by kernel_rfl)
@[simp] theorem tIface83 : tIface Try.prog 83 = some false := nr (by kernel_rfl)
@[simp] theorem azero83 : azero Try.prog 83 = some [.list true 1 []] := nr (by kernel_rfl)
@[simp] theorem zeroEl83 : zeroEl Try.prog 83 = some (.list false 1 []) := nr (by kernel_rfl)
@[simp] theorem tZero83 : tZeroSize Try.prog 83 = some 1 := nr (by kernel_rfl)
@[simp] theorem tZeroOk83 : tZeroOk Try.prog 83 = true := nr (by kernel_rfl)
@[simp] theorem tSize84 : tSize Try.prog 84 = some 1 := nr (by kernel_rfl)
@[simp] theorem tBytes84 : tBytes Try.prog 84 = some 24 := nr (by kernel_rfl)
@[simp] theorem tAgg84 : tAgg Try.prog 84 = some false := nr (by kernel_rfl)
@[simp] theorem tElem84 : tElem Try.prog 84 = some 3 := nr (by kernel_rfl)
@[simp] theorem tArr84 : tArr Try.prog 84 = none := nr (by kernel_rfl)
@[simp] theorem tInt84 : tInt Try.prog 84 = none := nr (by kernel_rfl)
@[simp] theorem tStr84 : tStr Try.prog 84 = false := nr (by kernel_rfl)
@[simp] theorem tIface84 : tIface Try.prog 84 = some false := nr (by kernel_rfl)
@[simp] theorem azero84 : azero Try.prog 84 = some [.list true 1 []] := nr (by kernel_rfl)
@[simp] theorem zeroEl84 : zeroEl Try.prog 84 = some (.list false 1 []) := nr (by kernel_rfl)
@[simp] theorem tZero84 : tZeroSize Try.prog 84 = some 1 := nr (by kernel_rfl)
@[simp] theorem tZeroOk84 : tZeroOk Try.prog 84 = true := nr (by kernel_rfl)
@[simp] theorem tSize85 : tSize Try.prog 85 = some 1 := nr (by kernel_rfl)
@[simp] theorem tBytes85 : tBytes Try.prog 85 = some 8 := nr (by kernel_rfl)
@[simp] theorem tAgg85 : tAgg Try.prog 85 = some false := nr (by kernel_rfl)
@[simp] theorem tElem85 : tElem Try.prog 85 = none := nr (by kernel_rfl)
@[simp] theorem tArr85 : tArr Try.prog 85 = none := nr (by kernel_rfl)
@[simp] theorem tInt85 : tInt Try.prog 85 = none := nr (by kernel_rfl)
@[simp] theorem tStr85 : tStr Try.prog 85 = false := nr (by kernel_rfl)
@[simp] theorem tIface85 : tIface Try.prog 85 = some false := nr (by kernel_rfl)
@[simp] theorem tSize86 : tSize Try.prog 86 = some 1 := nr (by kernel_rfl)
@[simp] theorem tBytes86 : tBytes Try.prog 86 = some 8 := nr (by kernel_rfl)
@[simp] theorem tAgg86 : tAgg Try.prog 86 = some false := nr (by kernel_rfl)
@[simp] theorem tElem86 : tElem Try.prog 86 = none := nr (by kernel_rfl)
@[simp] theorem tArr86 : tArr Try.prog 86 = none := nr (by kernel_rfl)
@[simp] theorem tInt86 : tInt Try.prog 86 = none := nr (by kernel_rfl)
@[simp] theorem tStr86 : tStr Try.prog 86 = false := nr (by kernel_rfl)
@[simp] theorem tIface86 : tIface Try.prog 86 = some false := nr (by kernel_rfl)
@[simp] theorem tSize87 : tSize Try.prog 87 = some 1 := nr (by kernel_rfl)
@[simp] theorem tBytes87 : tBytes Try.prog 87 = some 8 := nr (by kernel_rfl)
@[simp] theorem tAgg87 : tAgg Try.prog 87 = some false := nr (by kernel_rfl)
@[simp] theorem tElem87 : tElem Try.prog 87 = none := nr (by kernel_rfl)
@[simp] theorem tArr87 : tArr Try.prog 87 = none := nr (by kernel_rfl)
@[simp] theorem tInt87 : tInt Try.prog 87 = none := nr (by kernel_rfl)
@[simp] theorem tStr87 : tStr Try.prog 87 = false := nr (by kernel_rfl)
@[simp] theorem tIface87 : tIface Try.prog 87 = some false := nr (by kernel_rfl)
@[simp] theorem tSize88 : tSize Try.prog 88 = some 1 := nr (by kernel_rfl)
@[simp] theorem tBytes88 : tBytes Try.prog 88 = some 8 := nr (by kernel_rfl)
@[simp] theorem tAgg88 : tAgg Try.prog 88 = some false := nr (by kernel_rfl)
@[simp] theorem tElem88 : tElem Try.prog 88 = none := nr (by kernel_rfl)
@[simp] theorem tArr88 : tArr Try.prog 88 = none := nr (by kernel_rfl)
@[simp] theorem tInt88 : tInt Try.prog 88 = none := nr (by kernel_rfl)
@[simp] theorem tStr88 : tStr Try.prog 88 = false := nr (by kernel_rfl)
@[simp] theorem tIface88 : tIface Try.prog 88 = some false := nr (by kernel_rfl)
@[simp] theorem tSize89 : tSize Try.prog 89 = some 1 := nr (by kernel_rfl)
@[simp] theorem tBytes89 : tBytes Try.prog 89 = some 8 := nr (by kernel_rfl)
@[simp] theorem tAgg89 : tAgg Try.prog 89 = some false := nr (by kernel_rfl)
@[simp] theorem tElem89 : tElem Try.prog 89 = none := nr (by kernel_rfl)
@[simp] theorem tArr89 : tArr Try.prog 89 = none := nr (by kernel_rfl)
@[simp] theorem tInt89 : tInt Try.prog 89 = none := nr (by kernel_rfl)
@[simp] theorem tStr89 : tStr Try.prog 89 = false := nr (by kernel_rfl)
@[simp] theorem tIface89 : tIface Try.prog 89 = some false := nr (by kernel_rfl)
@[simp] theorem tSize90 : tSize Try.prog 90 = some 1 := nr (by kernel_rfl)
@[simp] theorem tBytes90 : tBytes Try.prog 90 = some 8 := nr (by kernel_rfl)
@[simp] theorem tAgg90 : tAgg Try.prog 90 = some false := nr (by kernel_rfl)
@[simp] theorem tElem90 : tElem Try.prog 90 = none := nr (by kernel_rfl)
@[simp] theorem tArr90 : tArr Try.prog 90 = none := nr (by kernel_rfl)
@[simp] theorem tInt90 : tInt Try.prog 90 = none := nr (by kernel_rfl)
@[simp] theorem tStr90 : tStr Try.prog 90 = false := nr (by kernel_rfl)
@[simp] theorem tIface90 : tIface Try.prog 90 = some false := nr (by kernel_rfl)
@[simp] theorem tSize91 : tSize Try.prog 91 = some 1 := nr (by kernel_rfl)
@[simp] theorem tBytes91 : tBytes Try.prog 91 = some 8 := nr (by kernel_rfl)
@[simp] theorem tAgg91 : tAgg Try.prog 91 = some false := nr (by kernel_rfl)
@[simp] theorem tElem91 : tElem Try.prog 91 = none := nr (by kernel_rfl)
@[simp] theorem tArr91 : tArr Try.prog 91 = none := nr (by kernel_rfl)
@[simp] theorem tInt91 : tInt Try.prog 91 = none := nr (by kernel_rfl)
@[simp] theorem tStr91 : tStr Try.prog 91 = false := nr (by kernel_rfl)
@[simp] theorem tIface91 : tIface Try.prog 91 = some false := nr (by kernel_rfl)
@[simp] theorem tSize92 : tSize Try.prog 92 = some 1 := nr (by kernel_rfl)
@[simp] theorem tBytes92 : tBytes Try.prog 92 = some 8 := nr (by kernel_rfl)
@[simp] theorem tAgg92 : tAgg Try.prog 92 = some false := nr (by kernel_rfl)
@[simp] theorem tElem92 : tElem Try.prog 92 = none := nr (by kernel_rfl)
@[simp] theorem tArr92 : tArr Try.prog 92 = none := nr (by kernel_rfl)
@[simp] theorem tInt92 : tInt Try.prog 92 = none := nr (by kernel_rfl)
@[simp] theorem tStr92 : tStr Try.prog 92 = false := nr (by kernel_rfl)
@[simp] theorem tIface92 : tIface Try.prog 92 = some false := nr (by kernel_rfl)
@[simp] theorem tSize93 : tSize Try.prog 93 = some 1 := nr (by kernel_rfl)
@[simp] theorem tBytes93 : tBytes Try.prog 93 = some 8 := nr (by kernel_rfl)
@[simp] theorem tAgg93 : tAgg Try.prog 93 = some false := nr (by kernel_rfl)
@[simp] theorem tElem93 : tElem Try.prog 93 = none := nr (by kernel_rfl)
@[simp] theorem tArr93 : tArr Try.prog 93 = none := nr (by kernel_rfl)
@[simp] theorem tInt93 : tInt Try.prog 93 = none := nr (by kernel_rfl)
@[simp] theorem tStr93 : tStr Try.prog 93 = false := nr (by kernel_rfl)
@[simp] theorem tIface93 : tIface Try.prog 93 = some false := nr (by kernel_rfl)
@[simp] theorem tSize95 : tSize Try.prog 95 = some 1 := nr (by kernel_rfl)
@[simp] theorem tBytes95 : tBytes Try.prog 95 = some 8 := nr (by kernel_rfl)
@[simp] theorem tAgg95 : tAgg Try.prog 95 = some false := nr (by kernel_rfl)
@[simp] theorem tElem95 : tElem Try.prog 95 = none := nr (by kernel_rfl)
@[simp] theorem tArr95 : tArr Try.prog 95 = none := nr (by kernel_rfl)
@[simp] theorem tInt95 : tInt Try.prog 95 = none := nr (by kernel_rfl)
@[simp] theorem tStr95 : tStr Try.prog 95 = false := nr (by kernel_rfl)
@[simp] theorem tIface95 : tIface Try.prog 95 = some false := nr (by kernel_rfl)
@[simp] theorem tSize96 : tSize Try.prog 96 = some 1 := nr (by kernel_rfl)
@[simp] theorem tBytes96 : tBytes Try.prog 96 = some 8 := nr (by kernel_rfl)
@[simp] theorem tAgg96 : tAgg Try.prog 96 = some false := nr (by kernel_rfl)
@[simp] theorem tElem96 : tElem Try.prog 96 = none := nr (by kernel_rfl)
@[simp] theorem tArr96 : tArr Try.prog 96 = none := nr (by kernel_rfl)
@[simp] theorem tInt96 : tInt Try.prog 96 = none := nr (by kernel_rfl)
@[simp] theorem tStr96 : tStr Try.prog 96 = false := nr (by kernel_rfl)
@[simp] theorem tIface96 : tIface Try.prog 96 = some false := nr (by kernel_rfl)
@[simp] theorem tSize102 : tSize Try.prog 102 = some 1 := nr (by kernel_rfl)
@[simp] theorem tBytes102 : tBytes Try.prog 102 = some 4 := nr (by kernel_rfl)
@[simp] theorem tAgg102 : tAgg Try.prog 102 = some false := nr (by kernel_rfl)
@[simp] theorem tElem102 : tElem Try.prog 102 = none := nr (by kernel_rfl)
@[simp] theorem tArr102 : tArr Try.prog 102 = none := nr (by kernel_rfl)
@[simp] theorem tInt102 : tInt Try.prog 102 = some .u32 := nr (by kernel_rfl)
@[simp] theorem tStr102 : tStr Try.prog 102 = false := nr (by kernel_rfl)
@[simp] theorem tIface102 : tIface Try.prog 102 = some false := nr (by kernel_rfl)
@[simp] theorem azero102 : azero Try.prog 102 = some [.lit (.int .u32 0)] := nr (by kernel_rfl)
@[simp] theorem zeroEl102 : zeroEl Try.prog 102 = some (.lit (.int .u32 0)) := nr (by kernel_rfl)
@[simp] theorem tZero102 : tZeroSize Try.prog 102 = some 1 := nr (by kernel_rfl)
@[simp] theorem tZeroOk102 : tZeroOk Try.prog 102 = true := nr (by kernel_rfl)
@[simp] theorem tSize105 : tSize Try.prog 105 = some 1 := nr (by kernel_rfl)
@[simp] theorem tBytes105 : tBytes Try.prog 105 = some 8 := nr (by kernel_rfl)
@[simp] theorem tAgg105 : tAgg Try.prog 105 = some false := nr (by kernel_rfl)
@[simp] theorem tElem105 : tElem Try.prog 105 = none := nr (by kernel_rfl)
@[simp] theorem tArr105 : tArr Try.prog 105 = none := nr (by kernel_rfl)
@[simp] theorem tInt105 : tInt Try.prog 105 = none := nr (by kernel_rfl)
@[simp] theorem tStr105 : tStr Try.prog 105 = false := nr (by kernel_rfl)
@[simp] theorem tIface105 : tIface Try.prog 105 = some false := nr (by kernel_rfl)
@[simp] theorem tSize106 : tSize Try.prog 106 = some 1 := nr (by kernel_rfl)
@[simp] theorem tBytes106 : tBytes Try.prog 106 = some 8 := nr (by kernel_rfl)
@[simp] theorem tAgg106 : tAgg Try.prog 106 = some false := nr (by kernel_rfl)
@[simp] theorem tElem106 : tElem Try.prog 106 = none := nr (by kernel_rfl)
@[simp] theorem tArr106 : tArr Try.prog 106 = none := nr (by kernel_rfl)
@[simp] theorem tInt106 : tInt Try.prog 106 = none := nr (by kernel_rfl)
@[simp] theorem tStr106 : tStr Try.prog 106 = false := nr (by kernel_rfl)
@[simp] theorem tIface106 : tIface Try.prog 106 = some false := nr (by kernel_rfl)
@[simp] theorem azero106 : azero Try.prog 106 = some [.lit (.pointer none)] := nr (by kernel_rfl)
@[simp] theorem zeroEl106 : zeroEl Try.prog 106 = some (.lit (.pointer none)) := nr (by kernel_rfl)
@[simp] theorem tZero106 : tZeroSize Try.prog 106 = some 1 := nr (by kernel_rfl)
@[simp] theorem tZeroOk106 : tZeroOk Try.prog 106 = true := nr (by kernel_rfl)
@[simp] theorem callable3 : callable Try.prog 3 = true := nr (by kernel_rfl)
@[simp] theorem callable4 : callable Try.prog 4 = true := nr (by kernel_rfl)
@[simp] theorem callable5 : callable Try.prog 5 = true := nr (by kernel_rfl)
@[simp] theorem callable6 : callable Try.prog 6 = true := nr (by kernel_rfl)
@[simp] theorem callable7 : callable Try.prog 7 = true := nr (by kernel_rfl)
@[simp] theorem callable8 : callable Try.prog 8 = true := nr (by kernel_rfl)
@[simp] theorem callable9 : callable Try.prog 9 = true := nr (by kernel_rfl)
@[simp] theorem callable10 : callable Try.prog 10 = true := nr (by kernel_rfl)
@[simp] theorem callable11 : callable Try.prog 11 = true := nr (by kernel_rfl)
@[simp] theorem callable12 : callable Try.prog 12 = true := nr (by kernel_rfl)
@[simp] theorem callable13 : callable Try.prog 13 = true := nr (by kernel_rfl)
@[simp] theorem callable14 : callable Try.prog 14 = true := nr (by kernel_rfl)
@[simp] theorem callable15 : callable Try.prog 15 = true := nr (by kernel_rfl)
@[simp] theorem callable16 : callable Try.prog 16 = true := nr (by kernel_rfl)
@[simp] theorem callable17 : callable Try.prog 17 = true := nr (by kernel_rfl)
@[simp] theorem callable18 : callable Try.prog 18 = true := nr (by kernel_rfl)
@[simp] theorem callable19 : callable Try.prog 19 = true := nr (by kernel_rfl)
@[simp] theorem callable20 : callable Try.prog 20 = true := nr (by kernel_rfl)
@[simp] theorem callable21 : callable Try.prog 21 = true := nr (by kernel_rfl)
@[simp] theorem callable22 : callable Try.prog 22 = true := nr (by kernel_rfl)
@[simp] theorem callable23 : callable Try.prog 23 = true := nr (by kernel_rfl)
@[simp] theorem callable24 : callable Try.prog 24 = true := nr (by kernel_rfl)
@[simp] theorem callable25 : callable Try.prog 25 = true := nr (by kernel_rfl)
@[simp] theorem callable26 : callable Try.prog 26 = true := nr (by kernel_rfl)
@[simp] theorem callable27 : callable Try.prog 27 = true := nr (by kernel_rfl)
@[simp] theorem callable28 : callable Try.prog 28 = true := nr (by kernel_rfl)
@[simp] theorem callable29 : callable Try.prog 29 = true := nr (by kernel_rfl)
@[simp] theorem callable30 : callable Try.prog 30 = true := nr (by kernel_rfl)
@[simp] theorem callable31 : callable Try.prog 31 = true := nr (by kernel_rfl)
@[simp] theorem callable32 : callable Try.prog 32 = true := nr (by kernel_rfl)
@[simp] theorem callable33 : callable Try.prog 33 = true := nr (by kernel_rfl)
@[simp] theorem callable34 : callable Try.prog 34 = true := nr (by kernel_rfl)
@[simp] theorem callable35 : callable Try.prog 35 = true := nr (by kernel_rfl)
@[simp] theorem callable36 : callable Try.prog 36 = true := nr (by kernel_rfl)
@[simp] theorem callable37 : callable Try.prog 37 = true := nr (by kernel_rfl)
@[simp] theorem callable38 : callable Try.prog 38 = true := nr (by kernel_rfl)
@[simp] theorem callable39 : callable Try.prog 39 = true := nr (by kernel_rfl)
@[simp] theorem callable40 : callable Try.prog 40 = true := nr (by kernel_rfl)
@[simp] theorem callable41 : callable Try.prog 41 = true := nr (by kernel_rfl)
@[simp] theorem callable42 : callable Try.prog 42 = true := nr (by kernel_rfl)
@[simp] theorem callable43 : callable Try.prog 43 = true := nr (by kernel_rfl)
@[simp] theorem callable44 : callable Try.prog 44 = true := nr (by kernel_rfl)
@[simp] theorem callable45 : callable Try.prog 45 = true := nr (by kernel_rfl)
@[simp] theorem callable46 : callable Try.prog 46 = true := nr (by kernel_rfl)
@[simp] theorem callable47 : callable Try.prog 47 = true := nr (by kernel_rfl)
@[simp] theorem callable48 : callable Try.prog 48 = true := nr (by kernel_rfl)
end Go.Proofs.Ytkbokmokklbahaa
/-
  Of each function: which temporaries take a right to append with the value; the plans of the regions that draw their order. Written by a program of mine.
-/
namespace Go.Proofs.Ytkbokmokklbahaa
open Go Go.AL
/- vitrine/vitrinelaw20.EntryWrites region 8: 5 forks region 20: 1 forks -/
@[simp] def st3 : List Nat := [24]
@[simp] def pl3 : List (Nat × Plan) := [(8, Plan.seq [1, 3, 4] (.alt (.alt (Plan.seq [0] (.alt (Plan.seq [2, 5, 6, 7, 8, 9] (.done)) (Plan.seq [5, 2, 6, 7, 8, 9] (.done)))) (Plan.seq [2] (.alt (Plan.seq [0, 5, 6, 7, 8, 9] (.done)) (Plan.seq [5, 6] (.alt (Plan.seq [0, 7, 8, 9] (.done)) (Plan.seq [7, 0, 8, 9] (.done))))))) (Plan.seq [5, 2, 6] (.alt (Plan.seq [0, 7, 8, 9] (.done)) (Plan.seq [7, 0, 8, 9] (.done)))))), (20, Plan.seq [0, 1, 2, 3] (.alt (Plan.seq [4, 5, 6, 7, 8] (.done)) (Plan.seq [5, 4, 6, 7, 8] (.done))))]
/- vitrine/vitrinelaw20.EntryAgain region 10: 1 forks -/
@[simp] def st4 : List Nat := []
@[simp] def pl4 : List (Nat × Plan) := [(10, Plan.seq [0, 1, 2, 3] (.alt (Plan.seq [4, 5, 6, 7, 8, 9] (.done)) (Plan.seq [5, 4, 6, 7, 8, 9] (.done))))]
/- vitrine/vitrinelaw20.awake -/
@[simp] def st5 : List Nat := []
@[simp] def pl5 : List (Nat × Plan) := []
/- vitrine/vitrineref01.Cut -/
@[simp] def st6 : List Nat := []
@[simp] def pl6 : List (Nat × Plan) := []
/- vitrine/entry.Bytes -/
@[simp] def st7 : List Nat := [26, 62, 72, 85, 86, 90]
@[simp] def pl7 : List (Nat × Plan) := []
/- vitrine/vitrinelaw20.own region 5: 11 forks -/
@[simp] def st8 : List Nat := [21]
@[simp] def pl8 : List (Nat × Plan) := [(5, Plan.seq [0, 2, 4] (.alt (.alt (Plan.seq [1, 5] (.alt (Plan.seq [3, 6, 7, 8, 9, 10, 11] (.done)) (Plan.seq [6, 3, 7, 8, 9, 10, 11] (.done)))) (Plan.seq [3] (.alt (Plan.seq [1, 5, 6, 7, 8, 9, 10, 11] (.done)) (Plan.seq [5] (.alt (Plan.seq [1, 6, 7, 8, 9, 10, 11] (.done)) (Plan.seq [6, 7] (.alt (Plan.seq [1, 8, 9, 10, 11] (.done)) (Plan.seq [8, 1, 9, 10, 11] (.done))))))))) (Plan.seq [5] (.alt (.alt (Plan.seq [1] (.alt (Plan.seq [3, 6, 7, 8, 9, 10, 11] (.done)) (Plan.seq [6, 3, 7, 8, 9, 10, 11] (.done)))) (Plan.seq [3] (.alt (Plan.seq [1, 6, 7, 8, 9, 10, 11] (.done)) (Plan.seq [6, 7] (.alt (Plan.seq [1, 8, 9, 10, 11] (.done)) (Plan.seq [8, 1, 9, 10, 11] (.done))))))) (Plan.seq [6] (.alt (Plan.seq [1, 3, 7, 8, 9, 10, 11] (.done)) (Plan.seq [3, 7] (.alt (Plan.seq [1, 8, 9, 10, 11] (.done)) (Plan.seq [8, 1, 9, 10, 11] (.done))))))))))]
/- vitrine/vitrineref20.Bytes -/
@[simp] def st9 : List Nat := [24, 60, 61, 76, 81]
@[simp] def pl9 : List (Nat × Plan) := []
/- vitrine/vitrineref01.Same -/
@[simp] def st10 : List Nat := []
@[simp] def pl10 : List (Nat × Plan) := []
/- vitrine/entry.Parse -/
@[simp] def st11 : List Nat := [20, 30, 1000047, 1000048]
@[simp] def pl11 : List (Nat × Plan) := []
/- vitrine/vitrineref20.Same -/
@[simp] def st12 : List Nat := []
@[simp] def pl12 : List (Nat × Plan) := [(6, Plan.seq [0, 1, 2, 3, 4, 5, 6, 7, 8, 9, 10, 11, 12, 13, 14, 15, 16, 17, 18, 19, 20, 21, 22, 23, 24, 25, 26, 27, 28] (.done))]
/- vitrine/vitrinelaw20.back -/
@[simp] def st13 : List Nat := [21]
@[simp] def pl13 : List (Nat × Plan) := []
/- vitrine/vitrineref01.Copy -/
@[simp] def st14 : List Nat := []
@[simp] def pl14 : List (Nat × Plan) := []
/- vitrine/vitrineref01.Copy -/
@[simp] def st14o : List Nat := [1000003, 1000005, 1000002]
@[simp] def pl14o : List (Nat × Plan) := []
/- vitrine/addr.Encode -/
@[simp] def st15 : List Nat := []
@[simp] def pl15 : List (Nat × Plan) := []
/- vitrine/order.Bytes -/
@[simp] def st16 : List Nat := [22, 23, 27]
@[simp] def pl16 : List (Nat × Plan) := []
/- vitrine/vitrineref04.Encode -/
@[simp] def st17 : List Nat := []
@[simp] def pl17 : List (Nat × Plan) := []
/- vitrine/vitrineref16.Is -/
@[simp] def st18 : List Nat := []
@[simp] def pl18 : List (Nat × Plan) := []
/- vitrine/entry.begin -/
@[simp] def st19 : List Nat := [28, 1000012, 2000012, 1000018, 2000018, 1000027, 2000027, 1000033, 2000033]
@[simp] def pl19 : List (Nat × Plan) := [(10, Plan.seq [0, 1, 2, 3, 5, 6, 4, 7, 8, 9] (.done))]
/- vitrine/order.All -/
@[simp] def st20 : List Nat := [30, 39, 43]
@[simp] def pl20 : List (Nat × Plan) := [(7, Plan.seq [1, 2, 3, 4, 5, 6, 7, 8, 0, 9, 10, 11] (.done))]
/- (*vitrine/entry.Report).add -/
@[simp] def st21 : List Nat := [31, 1000013, 31]
@[simp] def pl21 : List (Nat × Plan) := [(2, Plan.seq [0, 1, 2, 3, 4, 5, 6, 7, 8, 9, 10, 11] (.done))]
/- vitrine/addr.Six -/
@[simp] def st22 : List Nat := []
@[simp] def pl22 : List (Nat × Plan) := []
/- (vitrine/order.Op).Bytes -/
@[simp] def st23 : List Nat := [67, 75, 78]
@[simp] def pl23 : List (Nat × Plan) := [(31, Plan.seq [0, 1, 2, 3, 4, 5, 6, 7, 8, 9, 10, 11, 12, 13] (.done))]
/- vitrine/vitrineref04.Six -/
@[simp] def st24 : List Nat := []
@[simp] def pl24 : List (Nat × Plan) := []
/- vitrine/vitrineref16.Name -/
@[simp] def st25 : List Nat := []
@[simp] def pl25 : List (Nat × Plan) := []
/- vitrine/addr.Decode region 10: 1 forks -/
@[simp] def st26 : List Nat := [42]
@[simp] def pl26 : List (Nat × Plan) := [(5, Plan.seq [0, 1, 2, 3, 4, 5, 6, 7, 8, 9, 10] (.done)), (10, Plan.seq [0, 1, 2, 5, 6] (.alt (Plan.seq [3, 4, 7, 8, 9, 10, 11] (.done)) (Plan.seq [7, 3, 4, 8, 9, 10, 11] (.done))))]
/- (*vitrine/order.scanner).op -/
@[simp] def st27 : List Nat := []
@[simp] def pl27 : List (Nat × Plan) := []
/- vitrine/addr.zone -/
@[simp] def st28 : List Nat := []
@[simp] def pl28 : List (Nat × Plan) := []
/- slices.ContainsFunc[[]byte,byte] -/
@[simp] def st29 : List Nat := []
@[simp] def pl29 : List (Nat × Plan) := []
/- vitrine/order.Is -/
@[simp] def st30 : List Nat := []
@[simp] def pl30 : List (Nat × Plan) := []
/- bytes.Clone -/
@[simp] def st31 : List Nat := []
@[simp] def pl31 : List (Nat × Plan) := []
/- vitrine/order.place -/
@[simp] def st32 : List Nat := [15]
@[simp] def pl32 : List (Nat × Plan) := []
/- (vitrine/attr.Pair).Check -/
@[simp] def st33 : List Nat := []
@[simp] def pl33 : List (Nat × Plan) := []
/- vitrine/order.looks -/
@[simp] def st34 : List Nat := [15]
@[simp] def pl34 : List (Nat × Plan) := []
/- vitrine/vitrineref04.Mod -/
@[simp] def st35 : List Nat := []
@[simp] def pl35 : List (Nat × Plan) := []
/- vitrine/vitrineref01.Num -/
@[simp] def st36 : List Nat := [31]
@[simp] def pl36 : List (Nat × Plan) := []
/- vitrine/addr.Unsix -/
@[simp] def st37 : List Nat := [11]
@[simp] def pl37 : List (Nat × Plan) := []
/- (*vitrine/order.scanner).text -/
@[simp] def st38 : List Nat := []
@[simp] def pl38 : List (Nat × Plan) := []
/- (*vitrine/order.scanner).take -/
@[simp] def st39 : List Nat := [36, 19]
@[simp] def pl39 : List (Nat × Plan) := []
/- (*vitrine/order.scanner).addr -/
@[simp] def st40 : List Nat := [23]
@[simp] def pl40 : List (Nat × Plan) := []
/- (*vitrine/order.scanner).character -/
@[simp] def st41 : List Nat := [12]
@[simp] def pl41 : List (Nat × Plan) := []
/- (*vitrine/order.scanner).pair -/
@[simp] def st42 : List Nat := []
@[simp] def pl42 : List (Nat × Plan) := [(2, Plan.seq [0, 1, 2, 3, 4, 5, 6, 7, 8] (.done))]
/- (*vitrine/order.scanner).pairs -/
@[simp] def st43 : List Nat := [23]
@[simp] def pl43 : List (Nat × Plan) := []
/- slices.IndexFunc[[]byte,byte] -/
@[simp] def st44 : List Nat := [17]
@[simp] def pl44 : List (Nat × Plan) := []
/- vitrine/order.Name -/
@[simp] def st45 : List Nat := []
@[simp] def pl45 : List (Nat × Plan) := []
/- vitrine/attr.Bytes -/
@[simp] def st46 : List Nat := [25, 26, 34]
@[simp] def pl46 : List (Nat × Plan) := []
/- (*vitrine/order.scanner).fail -/
@[simp] def st47 : List Nat := []
@[simp] def pl47 : List (Nat × Plan) := []
/- vitrine/attr.Parse -/
@[simp] def st48 : List Nat := [49, 50, 54, 55]
@[simp] def pl48 : List (Nat × Plan) := [(8, Plan.seq [0, 1, 2, 3, 4, 5, 6, 7, 8, 9, 10, 11] (.done))]
end Go.Proofs.Ytkbokmokklbahaa
/-
  What bytes and events are as abstract values; the reader's pure model.
-/
namespace Go.Proofs.Ytkbokmokklbahaa
open Go Go.AL

theorem follows : Try.prog.follows .mixedOrders = true := by kernel_rfl

def byteA (b : UInt8) : AV := .lit (.int .u8 (b.toNat : Int))
def bytesA (l : List UInt8) : List AV := l.map byteA
@[simp] theorem bytesA_length (l : List UInt8) : (bytesA l).length = l.length := by simp [bytesA]
theorem bytesA_append (l k : List UInt8) : bytesA (l ++ k) = bytesA l ++ bytesA k := by simp [bytesA]
theorem bytesA_nil : bytesA [] = [] := rfl
theorem bytesOf_bytesA (l : List UInt8) : bytesOf (bytesA l) = some l := by
  induction l with
  | nil => rfl
  | cons b l ih =>
    have hb : AL.byteOf (byteA b) = some b := by simp [byteA, AL.byteOf]
    simp only [bytesOf, bytesA, List.map_cons, List.mapM_cons] at ih ⊢
    rw [hb, ih]; rfl
theorem bytesA_get (l : List UInt8) (i : Nat) : (bytesA l)[i]? = (l[i]?).map byteA := by simp [bytesA]

/-- A place and the characters from there on. -/
structure En where
  addr : Int
  text : List UInt8
  deriving DecidableEq
/-- What came. -/
structure Rp where
  aid : UInt8
  short : Bool
  cursor : Int
  es : List En
  deriving DecidableEq
def enA (e : En) : AV := .agg [.lit (.int .i64 e.addr), .list false 1 (bytesA e.text)]
def ensA (l : List En) : List AV := l.map enA
@[simp] theorem ensA_length (l : List En) : (ensA l).length = l.length := by simp [ensA]
theorem ensA_append (l k : List En) : ensA (l ++ k) = ensA l ++ ensA k := by simp [ensA]
theorem ensA_get (l : List En) (i : Nat) : (ensA l)[i]? = (l[i]?).map enA := by simp [ensA]
def rpA (r : Rp) : AV := .agg [byteA r.aid, .lit (.bool r.short), .lit (.int .i64 r.cursor), .list false 2 (ensA r.es)]

theorem byte_eq (b c : UInt8) : ((b.toNat : Int) == (c.toNat : Int)) = (b == c) := by
  rw [Bool.eq_iff_iff, beq_iff_eq, beq_iff_eq]
  constructor
  · intro h; exact UInt8.toNat_inj.1 (by omega)
  · rintro rfl; rfl
theorem le_of_eq {a b : AV} (h : a = b) : a.le b := h ▸ AV.le_refl a
/-- A byte, as the operations have it. -/
theorem byte_lt (b : UInt8) : (b.toNat : Int) < 256 := by have := b.toNat_lt; omega
theorem take_succ_map {α : Type} (f : α → AV) (l : List α) (i : Nat) (h : i < l.length) : (l.take (i + 1)).map f = (l.take i).map f ++ [f l[i]] := by
  rw [List.take_succ_eq_append_getElem h, List.map_append]; rfl
theorem flat_bytesA (l : List UInt8) : flat (bytesA l) = bytesA l := by
  induction l with
  | nil => rfl
  | cons b l ih => simp only [flat, bytesA, List.map_cons, List.flatMap_cons] at ih ⊢; rw [ih]; rfl
theorem bytesA_take (l : List UInt8) (n : Nat) : (bytesA l).take n = bytesA (l.take n) := by simp [bytesA]
theorem bytesA_drop (l : List UInt8) (n : Nat) : (bytesA l).drop n = bytesA (l.drop n) := by simp [bytesA]
theorem drop1_bytesA (l : List UInt8) : (bytesA l).map AV.drop1 = bytesA l := by
  simp only [bytesA, List.map_map]; rfl

/-- A row of bytes that is an object. -/
def rowA (p cap : Nat) (l : List UInt8) : AV := .lit (.slice (some ⟨p, 0, none⟩) l.length cap)

set_option maxRecDepth 10000 in
theorem copy_calls (o : Bool) (l : List UInt8) (σ : Store) (hl : l.length ≤ 140737488355328) :
    ACalls Try.prog 14 [.list o 1 (bytesA l)] σ fun v σ' => v = .list true 1 (bytesA l) ∧ σ' = σ := by
  refine ACalls.of_awp follows (st := st14) (plans := pl14) (n := 6) Try.func14 rfl (by kernel_rfl) (by kernel_rfl) (by kernel_rfl) ?_
  simp
  omega

theorem clone_calls (o : Bool) (l : List UInt8) (σ : Store) (hl : l.length ≤ 140737488355328) :
    ACalls Try.prog 31 [.list o 1 (bytesA l)] σ fun v σ' => v = .list true 1 (bytesA l) ∧ σ' = σ := by
  refine ACalls.of_awp follows (st := st31) (plans := pl31) (n := 8) Try.func31 rfl (by kernel_rfl) (by kernel_rfl) (by kernel_rfl) ?_
  simp
  refine ⟨⟨by omega, by omega⟩, fun h => ?_⟩
  rw [h]; exact AV.le_refl _

theorem cut_calls (o : Bool) (l : List UInt8) (n : Nat) (σ : Store) (hn : n ≤ 100000000) :
    ACalls Try.prog 6 [.list o 1 (bytesA l), .lit (.int .i64 n)] σ fun v σ' => v = .list true 1 (bytesA (l.take n)) ∧ σ' = σ := by
  refine ACalls.of_awp follows (st := st6) (plans := pl6) (n := 14) Try.func6 rfl (by kernel_rfl) (by kernel_rfl) (by kernel_rfl) ?_
  by_cases h : n < l.length
  · simp [h, show n ≤ l.length by omega, bytesA_take]
    refine callK.of (copy_calls false (l.take n) σ (by simp; omega)) ?_
    rintro v σ' ⟨rfl, rfl⟩
    simp
  · simp [h]
    refine callK.of (copy_calls false l σ (by omega)) ?_
    rintro v σ' ⟨rfl, rfl⟩
    simp [List.take_of_length_le (show l.length ≤ n by omega)]

theorem toList_mk (l : List UInt8) : (ByteArray.mk l.toArray).toList = l := by
  rw [ByteArray.toList_eq]
theorem same_calls (o o' : Bool) (l k : List UInt8) (σ : Store) :
    ACalls Try.prog 10 [.list o 1 (bytesA l), .list o' 1 (bytesA k)] σ fun v σ' => v = .lit (.bool (l == k)) ∧ σ' = σ := by
  refine ACalls.of_awp follows (st := st10) (plans := pl10) (n := 10) Try.func10 rfl (by kernel_rfl) (by kernel_rfl) (by kernel_rfl) ?_
  simp [bytesOf_bytesA, toList_mk]

end Go.Proofs.Ytkbokmokklbahaa
/-
  Codes: six bits as a byte, addresses, which bytes are orders.
-/
namespace Go.Proofs.Ytkbokmokklbahaa
open Go Go.AL

def isOrd (b : UInt8) : Bool := [5, 8, 17, 18, 19, 29, 40, 41, 44, 60].contains b.toNat
def nameB (k : Nat) : ByteArray := if k = 0 then ⟨#[84, 101, 120, 116]⟩ else if k = 5 then ⟨#[80, 84]⟩ else if k = 8 then ⟨#[71, 69]⟩ else if k = 17 then ⟨#[83, 66, 65]⟩ else if k = 18 then ⟨#[69, 85, 65]⟩ else if k = 19 then ⟨#[73, 67]⟩ else if k = 29 then ⟨#[83, 70]⟩ else if k = 40 then ⟨#[83, 65]⟩ else if k = 41 then ⟨#[83, 70, 69]⟩ else if k = 44 then ⟨#[77, 70]⟩ else if k = 60 then ⟨#[82, 65]⟩ else ⟨#[]⟩

set_option maxRecDepth 4000 in
theorem name_calls (k : Nat) (σ : Store) : ACalls Try.prog 45 [.lit (.int .i64 k)] σ fun v σ' => v = .lit (.string (nameB k)) ∧ σ' = σ := by
  refine ACalls.of_awp follows (st := st45) (plans := pl45) (n := 26) Try.func45 rfl (by kernel_rfl) (by kernel_rfl) (by kernel_rfl) ?_
  by_cases h0 : k = 0
  · subst h0; simp [nameB]
  by_cases h5 : k = 5
  · subst h5; simp [nameB]
  have g5 : ¬ (k : Int) = 5 := by omega
  by_cases h8 : k = 8
  · subst h8; simp [nameB]
  have g8 : ¬ (k : Int) = 8 := by omega
  by_cases h17 : k = 17
  · subst h17; simp [nameB]
  have g17 : ¬ (k : Int) = 17 := by omega
  by_cases h18 : k = 18
  · subst h18; simp [nameB]
  have g18 : ¬ (k : Int) = 18 := by omega
  by_cases h19 : k = 19
  · subst h19; simp [nameB]
  have g19 : ¬ (k : Int) = 19 := by omega
  by_cases h29 : k = 29
  · subst h29; simp [nameB]
  have g29 : ¬ (k : Int) = 29 := by omega
  by_cases h40 : k = 40
  · subst h40; simp [nameB]
  have g40 : ¬ (k : Int) = 40 := by omega
  by_cases h41 : k = 41
  · subst h41; simp [nameB]
  have g41 : ¬ (k : Int) = 41 := by omega
  by_cases h44 : k = 44
  · subst h44; simp [nameB]
  have g44 : ¬ (k : Int) = 44 := by omega
  by_cases h60 : k = 60
  · subst h60; simp [nameB]
  have g60 : ¬ (k : Int) = 60 := by omega
  simp [nameB, h0, h5, h8, h17, h18, h19, h29, h40, h41, h44, h60, g5, g8, g17, g18, g19, g29, g40, g41, g44, g60]

theorem all_bytes {p : UInt8 → Prop} (h : ∀ n : Fin 256, p (UInt8.ofNat n.val)) (b : UInt8) : p b := by
  have := h ⟨b.toNat, b.toNat_lt⟩
  simpa using this
theorem wrapB (b : UInt8) : IntKind.i64.wrap (b.toNat : Int) = (b.toNat : Int) := by have := b.toNat_lt; exact wrap_i64 (by omega) (by omega)
theorem ord_name (b : UInt8) : b.toNat ≠ 0 → (!(nameB b.toNat).toList.isEmpty) = isOrd b :=
  all_bytes (p := fun b => b.toNat ≠ 0 → (!(nameB b.toNat).toList.isEmpty) = isOrd b) (by decide +kernel) b

set_option maxRecDepth 4000 in
theorem is_calls (b : UInt8) (σ : Store) : ACalls Try.prog 30 [byteA b] σ fun v σ' => v = .lit (.bool (isOrd b)) ∧ σ' = σ := by
  refine ACalls.of_awp follows (st := st30) (plans := pl30) (n := 11) Try.func30 rfl (by kernel_rfl) (by kernel_rfl) (by kernel_rfl) ?_
  by_cases h0 : b.toNat = 0
  · have : isOrd b = false := by simp [isOrd, h0]
    simp [byteA, h0, this]
  · have h1 := ord_name b h0
    simp [byteA, h0, wrapB]
    refine callK.of (name_calls b.toNat σ) ?_
    rintro v σ' ⟨rfl, rfl⟩
    simp [h0, h1]

theorem fdiv16 (n : Nat) : (n : Int).fdiv (2 ^ min 4 IntKind.i64.bits) = ((n / 16 : Nat) : Int) := by cases n <;> rfl
theorem fdiv64 (n : Nat) : (n : Int).fdiv (2 ^ min 6 IntKind.i64.bits) = ((n / 64 : Nat) : Int) := by cases n <;> rfl
def zm (q : Nat) : UInt8 := if q = 0 then 64 else if q = 1 then 80 else if q = 2 then 96 else 112
def zl (q : Nat) : UInt8 := if q = 0 then 192 else if q = 1 then 208 else if q = 2 then 224 else 240
def zf (q : Nat) : Nat := if q = 0 then 1 else if q = 1 then 1 else if q = 2 then 2 else 0
set_option maxRecDepth 4000 in
theorem zone_calls (r : Nat) (σ : Store) : ACalls Try.prog 28 [.lit (.int .i64 r)] σ fun v σ' => v = .tuple [byteA (zm (r / 16)), byteA (zl (r / 16)), .lit (.int .i64 (zf (r / 16))), .lit (.int .i64 9)] ∧ σ' = σ := by
  refine ACalls.of_awp follows (st := st28) (plans := pl28) (n := 14) Try.func28 rfl (by kernel_rfl) (by kernel_rfl) (by kernel_rfl) ?_
  obtain ⟨q, hq⟩ : ∃ q, r / 16 = q := ⟨_, rfl⟩
  have hf : (r : Int).fdiv (2 ^ min 4 IntKind.i64.bits) = (q : Int) := by rw [fdiv16, hq]
  rw [hq]
  clear hq
  by_cases h0 : q = 0
  · subst h0; simp [hf, zm, zl, zf, byteA]
  · by_cases h1 : q = 1
    · subst h1; simp [hf, zm, zl, zf, byteA]
    · by_cases h2 : q = 2
      · subst h2; simp [hf, zm, zl, zf, byteA]
      · have e1 : ¬ (q : Int) = 1 := by omega
        have e2 : ¬ (q : Int) = 2 := by omega
        simp [hf, h0, h1, h2, e1, e2, zm, zl, zf, byteA]

/-- Six bits, as a byte. -/
def sixR (r : Nat) : UInt8 := if zf (r / 16) ≤ r % 16 ∧ r % 16 ≤ 9 then zl (r / 16) ||| UInt8.ofNat (r % 16) else zm (r / 16) ||| UInt8.ofNat (r % 16)
def six (n : Nat) : UInt8 := sixR (n % 64)
theorem and63 (n : Nat) (hn : n < 4096) : pureBin .and (.int .i64 (n : Int)) (.int .i64 63) = some (.int .i64 ((n % 64 : Nat) : Int)) := by
  have e3 : n &&& 63 = n % 64 := Nat.and_two_pow_sub_one_eq_mod n 6
  have := and_i64 n 63 (by omega) (by omega)
  rw [e3] at this; exact this
theorem and15 (n : Nat) (hn : n < 4096) : pureBin .and (.int .i64 (n : Int)) (.int .i64 15) = some (.int .i64 ((n % 16 : Nat) : Int)) := by
  have e3 : n &&& 15 = n % 16 := Nat.and_two_pow_sub_one_eq_mod n 4
  have := and_i64 n 15 (by omega) (by omega)
  rw [e3] at this; exact this

set_option maxRecDepth 4000 in
theorem six_calls (n : Nat) (hn : n < 4096) (σ : Store) : ACalls Try.prog 22 [.lit (.int .i64 n)] σ fun v σ' => v = byteA (six n) ∧ σ' = σ := by
  refine ACalls.of_awp follows (st := st22) (plans := pl22) (n := 35) Try.func22 rfl (by kernel_rfl) (by kernel_rfl) (by kernel_rfl) ?_
  obtain ⟨r, hr⟩ : ∃ r, n % 64 = r := ⟨_, rfl⟩
  have h1 := and63 n hn
  rw [hr] at h1
  have hr64 : r < 64 := by omega
  have h2 := and15 r (by omega)
  obtain ⟨d, hd⟩ : ∃ d, r % 16 = d := ⟨_, rfl⟩
  rw [hd] at h2
  have hd16 : d < 16 := by omega
  have hz := zone_calls r σ
  obtain ⟨M, hM⟩ : ∃ M, zm (r / 16) = M := ⟨_, rfl⟩
  obtain ⟨L, hL⟩ : ∃ L, zl (r / 16) = L := ⟨_, rfl⟩
  obtain ⟨F, hF⟩ : ∃ F, zf (r / 16) = F := ⟨_, rfl⟩
  obtain ⟨X, hX⟩ : ∃ X, six n = X := ⟨_, rfl⟩
  obtain ⟨B, hB⟩ : ∃ B, UInt8.ofNat d = B := ⟨_, rfl⟩
  have hdB : IntKind.u8.wrap (d : Int) = (B.toNat : Int) := by
    rw [wrap_u8 (by omega) (by omega), ← hB, UInt8.toNat_ofNat']; omega
  have hX1 : F ≤ d ∧ d ≤ 9 → L ||| B = X := fun h => by
    rw [← hX, six, hr, sixR, hF, hd, if_pos h, hL, hB]
  have hX2 : ¬ (F ≤ d ∧ d ≤ 9) → M ||| B = X := fun h => by
    rw [← hX, six, hr, sixR, hF, hd, if_neg h, hM, hB]
  rw [hM, hL, hF] at hz
  rw [hX]
  by_cases c1 : F ≤ d
  · by_cases c2 : d ≤ 9
    · have c2' : (d : Int) ≤ 9 := Int.ofNat_le.2 c2
      have e := hX1 ⟨c1, c2⟩
      simp [-e_pureBin_8, h1]
      refine callK.of hz ?_
      rintro v σ' ⟨rfl, rfl⟩
      simp [-e_pureBin_8, -e_pureBin_9, or_u8, h2, c1, c2', byteA, hdB, e]
    · have c2' : ¬ (d : Int) ≤ 9 := fun h => c2 (Int.ofNat_le.1 h)
      have e := hX2 (fun h => c2 h.2)
      simp [-e_pureBin_8, h1]
      refine callK.of hz ?_
      rintro v σ' ⟨rfl, rfl⟩
      simp [-e_pureBin_8, -e_pureBin_9, or_u8, h2, c1, c2', byteA, hdB, e]
  · have e := hX2 (fun h => c1 h.1)
    simp [-e_pureBin_8, h1]
    refine callK.of hz ?_
    rintro v σ' ⟨rfl, rfl⟩
    simp [-e_pureBin_8, -e_pureBin_9, or_u8, h2, c1, byteA, hdB, e]
set_option maxRecDepth 4000 in
theorem mod_calls (n : Nat) (hn : n < 4096) (σ : Store) : ACalls Try.prog 35 [.lit (.int .i64 n), .lit (.int .i64 64)] σ fun v σ' => v = .lit (.int .i64 (n % 64 : Nat)) ∧ σ' = σ := by
  refine ACalls.of_awp follows (st := st35) (plans := pl35) (n := 14) Try.func35 rfl (by kernel_rfl) (by kernel_rfl) (by kernel_rfl) ?_
  have h1 : IntKind.i64.wrap ((n : Int).tmod 64 + 64) = (n : Int).tmod 64 + 64 := by
    have : (n : Int).tmod 64 = ((n % 64 : Nat) : Int) := rfl
    rw [this]; exact wrap_i64 (by omega) (by omega)
  have h2 : ((n : Int).tmod 64 + 64).tmod 64 = ((n : Int) % 64) := by
    have : (n : Int).tmod 64 = ((n % 64 : Nat) : Int) := rfl
    rw [this]
    have e : ((n % 64 : Nat) : Int) + 64 = ((n % 64 + 64 : Nat) : Int) := by omega
    rw [e]
    have : ((n % 64 + 64 : Nat) : Int).tmod 64 = (((n % 64 + 64) % 64 : Nat) : Int) := rfl
    rw [this]; omega
  simp [h1, h2]
end Go.Proofs.Ytkbokmokklbahaa
/-
  The document's numbers: two hexadecimal digits; its table of six bits; which bytes are orders there.
-/
namespace Go.Proofs.Ytkbokmokklbahaa
open Go Go.AL

def dig (c : UInt8) : Nat := if 97 ≤ c.toNat then c.toNat - 97 + 10 else c.toNat - 48
theorem dig_le (c : UInt8) : dig c ≤ 255 := by have := c.toNat_lt; unfold dig; split <;> omega
@[simp] theorem wr0 : IntKind.i64.wrap 0 = 0 := by decide
@[simp] theorem wr1 : IntKind.i64.wrap 1 = 1 := by decide
@[simp] theorem wr2 : IntKind.i64.wrap 2 = 2 := by decide

set_option maxRecDepth 4000 in
theorem num_calls (c d : UInt8) (hc : 48 ≤ c.toNat) (hd : 48 ≤ d.toNat) (σ : Store) : ACalls Try.prog 36 [.lit (.string ⟨#[c, d]⟩)] σ fun v σ' => v = .lit (.int .i64 (16 * dig c + dig d : Nat)) ∧ σ' = σ := by
  refine ACalls.of_awp follows (st := st36) (plans := pl36) (n := 32) Try.func36 rfl (by kernel_rfl) (by kernel_rfl) (by kernel_rfl) ?_
  simp
  refine codeK.loop follows (st := st36) (plans := pl36) (X := Nat) (fun i => i ≤ 2)
    (fun i => [(0, .lit (.string ⟨#[c, d]⟩)), (3, .lit (.int .i64 (if i = 0 then 0 else if i = 1 then (dig c : Nat) else (16 * dig c + dig d : Nat)))), (4, .lit (.int .i64 i))]) (fun _ => σ) (fun i => 2 - i) 0 (by kernel_rfl) (by simp) (by simp) (by simp) fun i hi => ?_
  have h1 := dig_le c
  have h2 := dig_le d
  have key : ∀ (m : Nat) (b : UInt8), m ≤ 300 → 48 ≤ b.toNat → IntKind.i64.wrap (16 * (m : Int)) = ((16 * m : Nat) : Int) ∧ IntKind.u8.wrap ((b.toNat : Int) - 48) = ((b.toNat - 48 : Nat) : Int) ∧ IntKind.i64.wrap ((b.toNat - 48 : Nat) : Int) = ((b.toNat - 48 : Nat) : Int) ∧
      (97 ≤ b.toNat → IntKind.u8.wrap ((b.toNat : Int) - 97) = ((b.toNat - 97 : Nat) : Int) ∧ IntKind.i64.wrap ((b.toNat - 97 : Nat) : Int) = ((b.toNat - 97 : Nat) : Int) ∧ IntKind.i64.wrap (((b.toNat - 97 : Nat) : Int) + 10) = (dig b : Int)) := by
    intro m b hm hb
    have := b.toNat_lt
    refine ⟨by rw [wrap_i64 (by omega) (by omega)]; omega, by rw [wrap_u8 (by omega) (by omega)]; omega, wrap_i64 (by omega) (by omega), fun h => ⟨by rw [wrap_u8 (by omega) (by omega)]; omega, wrap_i64 (by omega) (by omega), ?_⟩⟩
    rw [wrap_i64 (by omega) (by omega), dig, if_pos h]; omega
  have hi3 : i = 0 ∨ i = 1 ∨ i = 2 := by omega
  rcases hi3 with rfl | rfl | rfl
  · obtain ⟨k1, k2, k3, k4⟩ := key 0 c (by omega) hc
    by_cases h : 97 ≤ c.toNat
    · obtain ⟨k5, k6, k7⟩ := k4 h
      have k8 : IntKind.i64.wrap (dig c : Int) = (dig c : Int) := wrap_i64 (by omega) (by omega)
      have h' : (97 : Int) ≤ (c.toNat : Int) := by omega
      simp [h, h', k2, k3, k5, k6, k7, k8]
      exact ⟨1, by simp, by simp, by simp, by simp⟩
    · have h' : ¬ (97 : Int) ≤ (c.toNat : Int) := by omega
      have hdg : c.toNat - 48 = dig c := by rw [dig, if_neg h]
      rw [hdg] at k2 k3
      simp [h, h', k2, k3]
      exact ⟨1, by simp, by simp, by simp, by simp⟩
  · obtain ⟨k1, k2, k3, k4⟩ := key (dig c) d (by omega) hd
    by_cases h : 97 ≤ d.toNat
    · obtain ⟨k5, k6, k7⟩ := k4 h
      have k8 : IntKind.i64.wrap (16 * (dig c : Int) + (dig d : Int)) = 16 * (dig c : Int) + (dig d : Int) := wrap_i64 (by omega) (by omega)
      have k9 : IntKind.i64.wrap (16 * (dig c : Int)) = 16 * (dig c : Int) := wrap_i64 (by omega) (by omega)
      have h' : (97 : Int) ≤ (d.toNat : Int) := by omega
      simp [h, h', k2, k3, k5, k6, k7, k8, k9]
      exact ⟨2, by simp, by simp, by simp, by simp⟩
    · have h' : ¬ (97 : Int) ≤ (d.toNat : Int) := by omega
      have hdg : d.toNat - 48 = dig d := by rw [dig, if_neg h]
      have k8 : IntKind.i64.wrap (16 * (dig c : Int) + (dig d : Int)) = 16 * (dig c : Int) + (dig d : Int) := wrap_i64 (by omega) (by omega)
      have k9 : IntKind.i64.wrap (16 * (dig c : Int)) = 16 * (dig c : Int) := wrap_i64 (by omega) (by omega)
      rw [hdg] at k2 k3
      simp [h, h', k2, k3, k8, k9]
      exact ⟨2, by simp, by simp, by simp, by simp⟩
  · have hsz : (ByteArray.mk #[c, d]).size = 2 := rfl
    simp [hsz]
def tabB : Array UInt8 := #[52, 48, 99, 49, 99, 50, 99, 51, 99, 52, 99, 53, 99, 54, 99, 55, 99, 56, 99, 57, 52, 97, 52, 98, 52, 99, 52, 100, 52, 101, 52, 102, 53, 48, 100, 49, 100, 50, 100, 51, 100, 52, 100, 53, 100, 54, 100, 55, 100, 56, 100, 57, 53, 97, 53, 98, 53, 99, 53, 100, 53, 101, 53, 102, 54, 48, 54, 49, 101, 50, 101, 51, 101, 52, 101, 53, 101, 54, 101, 55, 101, 56, 101, 57, 54, 97, 54, 98, 54, 99, 54, 100, 54, 101, 54, 102, 102, 48, 102, 49, 102, 50, 102, 51, 102, 52, 102, 53, 102, 54, 102, 55, 102, 56, 102, 57, 55, 97, 55, 98, 55, 99, 55, 100, 55, 101, 55, 102]
theorem tab_ext (r : Fin 64) : (ByteArray.mk tabB).extract (2 * r.val) (2 * r.val + 2) = ⟨#[tabB[2 * r.val]?.getD 0, tabB[2 * r.val + 1]?.getD 0]⟩ := by
  revert r; decide +kernel
theorem tab_dig (r : Fin 64) : 48 ≤ (tabB[2 * r.val]?.getD 0).toNat ∧ 48 ≤ (tabB[2 * r.val + 1]?.getD 0).toNat ∧ 16 * dig (tabB[2 * r.val]?.getD 0) + dig (tabB[2 * r.val + 1]?.getD 0) = (sixR r.val).toNat := by
  revert r; decide +kernel
theorem tab_size : (ByteArray.mk tabB).size = 128 := by decide +kernel
set_option maxRecDepth 30000 in
theorem six4_calls (n : Nat) (hn : n < 4096) (σ : Store) : ACalls Try.prog 24 [.lit (.int .i64 n)] σ fun v σ' => v = byteA (six n) ∧ σ' = σ := by
  refine ACalls.of_awp follows (st := st24) (plans := pl24) (n := 13) Try.func24 rfl (by kernel_rfl) (by kernel_rfl) (by kernel_rfl) ?_
  simp
  refine callK.of (mod_calls n hn σ) ?_
  rintro v σ' ⟨rfl, rfl⟩
  obtain ⟨r, hr⟩ : ∃ r, n % 64 = r := ⟨_, rfl⟩
  have hr64 : r < 64 := by omega
  have t1 := tab_ext ⟨r, hr64⟩
  obtain ⟨t2, t3, t4⟩ := tab_dig ⟨r, hr64⟩
  have t5 := tab_size
  have hsx : six n = sixR r := by rw [six, hr]
  rw [hr, hsx]
  dsimp only at t1 t2 t3 t4
  obtain ⟨i, hi⟩ : ∃ i, 2 * r = i := ⟨_, rfl⟩
  rw [hi] at t1 t2 t3 t4
  have w1 : IntKind.i64.wrap (2 * (r : Int)) = (i : Int) := by rw [wrap_i64 (by omega) (by omega)]; omega
  have w2 : IntKind.i64.wrap ((i : Int) + 2) = (i : Int) + 2 := by rw [wrap_i64 (by omega) (by omega)]
  have hi2 : i + 2 ≤ 128 := by omega
  generalize tabB[i]?.getD 0 = c at *
  generalize tabB[i + 1]?.getD 0 = d at *
  generalize sixR r = x at *
  unfold tabB at t1 t5
  have w3 : IntKind.u8.wrap (16 * (dig c : Int) + (dig d : Int)) = (x.toNat : Int) := by
    have := x.toNat_lt
    rw [wrap_u8 (by omega) (by omega)]; omega
  have p1 : (0 : Int) ≤ (i : Int) + 2 := by omega
  simp [w1, w2, t1, t5, hi2, p1]
  refine callK.of (num_calls c d t2 t3 _) ?_
  rintro v σ' ⟨rfl, rfl⟩
  simp [w3, byteA]
end Go.Proofs.Ytkbokmokklbahaa
/-
  Which bytes are orders, as the document has it; addresses' bytes.
-/
namespace Go.Proofs.Ytkbokmokklbahaa
open Go Go.AL

def kinds : List Nat := [0, 5, 8, 17, 18, 19, 29, 40, 41, 44, 60]
def kindsA : List AV := kinds.map fun (k : Nat) => .lit (.int .i64 (k : Int))
def namesA : List AV := kinds.map fun (k : Nat) => .lit (.string (nameB k))

set_option maxRecDepth 8000 in
theorem name16_calls (k : Nat) (σ : Store) : ACalls Try.prog 25 [.lit (.int .i64 k)] σ fun v σ' => v = .lit (.string (nameB k)) ∧ σ' = σ := by
  refine ACalls.of_awp follows (st := st25) (plans := pl25) (n := 22) Try.func25 rfl (by kernel_rfl) (by kernel_rfl) (by kernel_rfl) ?_
  simp
  refine codeK.loop follows (st := st25) (plans := pl25) (X := Nat) (fun i => i ≤ 11 ∧ ∀ j, j < i → (kinds.getD j 0) ≠ k)
    (fun i => [(0, .lit (.int .i64 k)), (3, .list false 1 namesA), (7, .list false 1 kindsA), (8, .lit (.int .i64 11)), (9, .lit (.int .i64 i))]) (fun _ => σ) (fun i => 11 - i) 0 (by kernel_rfl) (by simp) (by simp [namesA, kindsA, kinds, nameB]) (by simp) fun i hi => ?_
  obtain ⟨hi, hk⟩ := hi
  by_cases hlt : i < 11
  · have hw : IntKind.i64.wrap ((i : Int) + 1) = ((i + 1 : Nat) : Int) := wrap_i64 (by omega) (by omega)
    have g1 : kindsA[i]? = some (.lit (.int .i64 ((kinds.getD i 0 : Nat) : Int))) := by
      simp [kindsA, List.getElem?_map, List.getElem?_eq_getElem (show i < kinds.length from hlt)]
    have g2 : namesA[i]? = some (.lit (.string (nameB (kinds.getD i 0)))) := by
      simp [namesA, List.getElem?_map, List.getElem?_eq_getElem (show i < kinds.length from hlt)]
    have l1 : kindsA.length = 11 := rfl
    have l2 : namesA.length = 11 := rfl
    obtain ⟨q, hq⟩ : ∃ q, kinds.getD i 0 = q := ⟨_, rfl⟩
    rw [hq] at g1 g2
    replace g1 := (List.getElem_eq_iff (show i < kindsA.length from hlt)).2 g1
    replace g2 := (List.getElem_eq_iff (show i < namesA.length from hlt)).2 g2
    have hlt' : (i : Int) < 11 := by omega
    by_cases he : q = k
    · subst he
      simp [hlt, hlt', g1, g2, l1, l2]
    · have he' : ¬ (q : Int) = (k : Int) := by omega
      simp [hlt, hlt', g1, g2, l1, l2, he, he']
      refine ⟨i + 1, ⟨by omega, ?_⟩, by omega, ?_⟩
      · intro j hj
        by_cases hji : j = i
        · subst hji; rw [← List.getD_eq_getElem?_getD, hq]; exact he
        · rw [← List.getD_eq_getElem?_getD]; exact hk j (by omega)
      · rw [hw]; exact AV.le_refl _
  · obtain rfl : i = 11 := by omega
    have e0 := hk 0 (by omega)
    have e1 := hk 1 (by omega)
    have e2 := hk 2 (by omega)
    have e3 := hk 3 (by omega)
    have e4 := hk 4 (by omega)
    have e5 := hk 5 (by omega)
    have e6 := hk 6 (by omega)
    have e7 := hk 7 (by omega)
    have e8 := hk 8 (by omega)
    have e9 := hk 9 (by omega)
    have e10 := hk 10 (by omega)
    simp [kinds] at e0 e1 e2 e3 e4 e5 e6 e7 e8 e9 e10
    have : nameB k = ⟨#[]⟩ := by
      simp [nameB, Ne.symm e0, Ne.symm e1, Ne.symm e2, Ne.symm e3, Ne.symm e4, Ne.symm e5, Ne.symm e6, Ne.symm e7, Ne.symm e8, Ne.symm e9, Ne.symm e10]
    simp [this]

set_option maxRecDepth 4000 in
theorem is16_calls (b : UInt8) (σ : Store) : ACalls Try.prog 18 [byteA b] σ fun v σ' => v = .lit (.bool (isOrd b)) ∧ σ' = σ := by
  refine ACalls.of_awp follows (st := st18) (plans := pl18) (n := 11) Try.func18 rfl (by kernel_rfl) (by kernel_rfl) (by kernel_rfl) ?_
  by_cases h0 : b.toNat = 0
  · have : isOrd b = false := by simp [isOrd, h0]
    simp [byteA, h0, this]
  · have h1 := ord_name b h0
    simp [byteA, h0, wrapB]
    refine callK.of (name16_calls b.toNat σ) ?_
    rintro v σ' ⟨rfl, rfl⟩
    simp [h0, h1]

/-- Two bytes of an address. -/
def encM (n : Nat) : List UInt8 := [six (n / 64), six n]
theorem six_mod (n : Nat) : six (n % 64) = six n := by simp [six]
/-- Is it an address of twelve bits? -/
def okAddr (n : Int) : Prop := 0 ≤ n ∧ n < 4096
instance (n : Int) : Decidable (okAddr n) := inferInstanceAs (Decidable (_ ∧ _))
def encR (n : Int) : List AV := if okAddr n then [.list true 1 (bytesA (encM n.toNat)), .lit (.int .i64 0)] else [.list true 1 [], .lit (.int .i64 9)]

set_option maxRecDepth 4000 in
theorem enc4_calls (n : Int) (σ : Store) : ACalls Try.prog 17 [.lit (.int .i64 12), .lit (.int .i64 n)] σ fun v σ' => v = .tuple (encR n) ∧ σ' = σ := by
  refine ACalls.of_awp follows (st := st17) (plans := pl17) (n := 37) Try.func17 rfl (by kernel_rfl) (by kernel_rfl) (by kernel_rfl) ?_
  by_cases h : okAddr n
  · obtain ⟨m, rfl⟩ : ∃ m : Nat, n = m := ⟨n.toNat, by have := h.1; omega⟩
    have hm : m < 4096 := by have := h.2; omega
    have h1 : ¬ ((4095 : Int) < (m : Int)) := by omega
    have h5 : ((m : Int) < 0) = False := by simp
    have he : encM m = [six (m / 64), six (m % 64)] := by rw [encM, six_mod]
    obtain ⟨q, hq⟩ : ∃ q, m / 64 = q := ⟨_, rfl⟩
    obtain ⟨r, hr⟩ : ∃ r, m % 64 = r := ⟨_, rfl⟩
    have h2 : (m : Int).tdiv 64 = (q : Int) := by rw [← hq]; rfl
    have h3 : (m : Int).tmod 64 = (r : Int) := by rw [← hr]; rfl
    have h4 : IntKind.i64.wrap (q : Int) = (q : Int) := wrap_i64 (by omega) (by omega)
    rw [hq, hr] at he
    have s1 := six4_calls q (by omega)
    have s2 := six4_calls r (by omega)
    clear hq hr
    simp [encR, h, h1, h2, h4, h5, he]
    refine callK.of (s1 σ) ?_
    rintro v σ' ⟨rfl, rfl⟩
    simp [byteA, h3]
    refine callK.of (s2 _) ?_
    rintro v σ' ⟨rfl, rfl⟩
    simp [byteA, bytesA]
  · have h' : n < 0 ∨ 4095 < n := by unfold okAddr at h; omega
    by_cases h0 : n < 0
    · simp [encR, h, h0]
    · have h1 : 4095 < n := by omega
      simp [encR, h, h0, h1]

set_option maxRecDepth 4000 in
theorem enc_calls_ok (m q : Nat) (h2 : (m : Int).fdiv (2 ^ min 6 IntKind.i64.bits) = (q : Int)) (hm : m < 4096) (hq : q < 4096) (h6 : IntKind.i64.wrap (2 ^ min 12 IntKind.i64.bits) = 4096) (σ : Store) :
    ACalls Try.prog 15 [.lit (.int .i64 12), .lit (.int .i64 m)] σ fun v σ' => v = .tuple [.list true 1 (bytesA [six q, six m]), .lit (.int .i64 0)] ∧ σ' = σ := by
  refine ACalls.of_awp follows (st := st15) (plans := pl15) (n := 41) Try.func15 rfl (by kernel_rfl) (by kernel_rfl) (by kernel_rfl) ?_
  have h1 : ¬ ((4096 : Int) ≤ (m : Int)) := by omega
  have h5 : ((m : Int) < 0) = False := by simp
  have s1 := six_calls q hq
  have s2 := six_calls m hm
  generalize six q = x at *
  generalize six m = y at *
  simp [h1, h5, h6, h2]
  refine callK.of (s1 σ) ?_
  rintro v σ' ⟨rfl, rfl⟩
  simp [byteA]
  refine callK.of (s2 _) ?_
  rintro v σ' ⟨rfl, rfl⟩
  simp [byteA, bytesA]
set_option maxRecDepth 4000 in
theorem enc_calls_bad (n : Int) (h : ¬ okAddr n) (h6 : IntKind.i64.wrap (2 ^ min 12 IntKind.i64.bits) = 4096) (σ : Store) : ACalls Try.prog 15 [.lit (.int .i64 12), .lit (.int .i64 n)] σ fun v σ' => v = .tuple [.list true 1 [], .lit (.int .i64 9)] ∧ σ' = σ := by
  refine ACalls.of_awp follows (st := st15) (plans := pl15) (n := 41) Try.func15 rfl (by kernel_rfl) (by kernel_rfl) (by kernel_rfl) ?_
  have h' : n < 0 ∨ 4096 ≤ n := by unfold okAddr at h; omega
  by_cases h0 : n < 0
  · simp [h0]
  · have h1 : 4096 ≤ n := by omega
    simp [h0, h1, h6]
theorem enc_calls (n : Int) (σ : Store) : ACalls Try.prog 15 [.lit (.int .i64 12), .lit (.int .i64 n)] σ fun v σ' => v = .tuple (encR n) ∧ σ' = σ := by
  have h6 : IntKind.i64.wrap (2 ^ min 12 IntKind.i64.bits) = 4096 := by decide +kernel
  by_cases h : okAddr n
  · have h' := h
    rw [encR, if_pos h]
    obtain ⟨h1, h2⟩ := h
    obtain ⟨m, rfl⟩ : ∃ m : Nat, n = m := ⟨n.toNat, by omega⟩
    exact enc_calls_ok m (m / 64) (fdiv64 m) (by omega) (by omega) h6 σ
  · rw [encR, if_neg h]
    exact enc_calls_bad n h h6 σ
end Go.Proofs.Ytkbokmokklbahaa
/-
  Two bytes as an address.
-/
namespace Go.Proofs.Ytkbokmokklbahaa
open Go Go.AL

def unsix (b : UInt8) : Nat := ((List.range 64).find? fun n => sixR n == b).getD (b.toNat % 64)
theorem unsix_lt (b : UInt8) : unsix b < 64 := by
  unfold unsix
  cases h : (List.range 64).find? fun n => sixR n == b with
  | none => simp; omega
  | some i => rw [List.find?_range_eq_some] at h; simp; have := h.2.1; simp at this; omega
theorem unsix_six : ∀ r : Fin 64, unsix (sixR r.val) = r.val := by decide +kernel
theorem six_top : ∀ r : Fin 64, (sixR r.val).toNat / 64 = 1 ∨ (sixR r.val).toNat / 64 = 3 := by decide +kernel
theorem unsix_found {b : UInt8} {i : Nat} (hi : i < 64) (h : sixR i = b) (hj : ∀ j, j < i → sixR j ≠ b) : unsix b = i := by
  have : ((List.range 64).find? fun n => sixR n == b) = some i := by
    rw [List.find?_range_eq_some]
    exact ⟨by simp [h], by simp [hi], fun j hj' => by simp [hj j hj']⟩
  rw [unsix, this]; rfl
theorem unsix_none {b : UInt8} (hj : ∀ j, j < 64 → sixR j ≠ b) : unsix b = b.toNat % 64 := by
  have : ((List.range 64).find? fun n => sixR n == b) = none := by
    rw [List.find?_eq_none]
    intro n hn
    simp at hn
    simp [hj n hn]
  rw [unsix, this]; rfl
theorem six_small {n : Nat} (h : n < 64) : six n = sixR n := by rw [six, Nat.mod_eq_of_lt h]
theorem and63b (b : UInt8) : pureBin .and (.int .u8 (b.toNat : Int)) (.int .u8 63) = some (.int .u8 ((b.toNat % 64 : Nat) : Int)) := by
  have h := and_u8 b 63
  have e : (b &&& 63).toNat = b.toNat % 64 := by
    rw [UInt8.toNat_and]; exact Nat.and_two_pow_sub_one_eq_mod _ 6
  rw [e] at h; exact h

set_option maxRecDepth 4000 in
theorem unsix_calls (b : UInt8) (σ : Store) : ACalls Try.prog 37 [byteA b] σ fun v σ' => v = .lit (.int .i64 (unsix b)) ∧ σ' = σ := by
  refine ACalls.of_awp follows (st := st37) (plans := pl37) (n := 16) Try.func37 rfl (by kernel_rfl) (by kernel_rfl) (by kernel_rfl) ?_
  simp
  refine codeK.loop follows (st := st37) (plans := pl37) (X := Nat) (fun i => i ≤ 64 ∧ ∀ j, j < i → sixR j ≠ b)
    (fun i => [(0, byteA b), (4, .lit (.int .i64 i))]) (fun _ => σ) (fun i => 64 - i) 0 (by kernel_rfl) (by simp) (by simp) (by simp) fun i hi => ?_
  obtain ⟨hi, hk⟩ := hi
  by_cases hlt : i < 64
  · have hw : IntKind.i64.wrap ((i : Int) + 1) = ((i + 1 : Nat) : Int) := wrap_i64 (by omega) (by omega)
    have hlt' : (i : Int) < 64 := by omega
    have hs := six_calls i (by omega)
    rw [six_small hlt] at hs
    have hf := fun h => unsix_found (b := b) hlt h hk
    have hstep : sixR i ≠ b → ∀ j, j < i + 1 → sixR j ≠ b := fun hne j hj => by
      by_cases hji : j = i
      · subst hji; exact hne
      · exact hk j (by omega)
    generalize sixR i = x at *
    by_cases he : x = b
    · have hf' := hf he
      subst he
      simp [hlt, hlt']
      refine callK.of (hs σ) ?_
      rintro v σ' ⟨rfl, rfl⟩
      simp [byteA, hf']
    · have he' : ¬ (x.toNat : Int) = (b.toNat : Int) := fun h => he (UInt8.toNat_inj.1 (by omega))
      simp [hlt, hlt']
      refine callK.of (hs σ) ?_
      rintro v σ' ⟨rfl, rfl⟩
      simp [byteA, he, he']
      exact ⟨i + 1, ⟨by omega, hstep he⟩, by omega, by rw [hw]; exact AV.le_refl _⟩
  · obtain rfl : i = 64 := by omega
    have hn := unsix_none hk
    have ha := and63b b
    have hw : IntKind.i64.wrap ((unsix b : Nat) : Int) = ((unsix b : Nat) : Int) := wrap_i64 (by omega) (by have := unsix_lt b; omega)
    rw [← hn] at ha
    simp [-e_pureBin_8, byteA, ha, hw]

/-- What two bytes say: a place and an error. -/
def decM (a b : UInt8) : Nat × Nat := if a.toNat / 64 = 0 then (a.toNat * 256 + b.toNat, 0) else if a.toNat / 64 = 2 then (0, 9) else (unsix a * 64 + unsix b, 0)
theorem dec_enc {n : Nat} (h : n < 4096) : decM (six (n / 64)) (six n) = (n, 0) := by
  have e1 : six (n / 64) = sixR (n / 64) := six_small (by omega)
  have e2 : six n = sixR (n % 64) := rfl
  have h1 := six_top ⟨n / 64, by omega⟩
  have h2 := unsix_six ⟨n / 64, by omega⟩
  have h3 := unsix_six ⟨n % 64, by omega⟩
  simp only at h1 h2 h3
  rw [decM, e1, e2, h2, h3, if_neg (by omega), if_neg (by omega)]
  congr 1; omega
def decR : List UInt8 → Nat × Nat
  | a :: b :: _ => decM a b
  | _ => (0, 2)
theorem shl8 (a : UInt8) : pureBin .shl (.int .i64 (a.toNat : Int)) (.int .u64 8) = some (.int .i64 ((2 ^ 8 * a.toNat : Nat) : Int)) := by
  have := a.toNat_lt
  have h : IntKind.i64.wrap ((a.toNat : Int) * 2 ^ min ((8 : Int).toNat) IntKind.i64.bits) = ((2 ^ 8 * a.toNat : Nat) : Int) := by
    have : (2 : Int) ^ min ((8 : Int).toNat) IntKind.i64.bits = 256 := by decide +kernel
    rw [this, wrap_i64 (by omega) (by omega)]; omega
  unfold pureBin
  simp only [show ¬ ((8 : Int) < 0) by omega, if_false]
  rw [h]
theorem shl6 (m : Nat) (hm : m < 64) : pureBin .shl (.int .i64 (m : Int)) (.int .u64 6) = some (.int .i64 ((2 ^ 6 * m : Nat) : Int)) := by
  have h : IntKind.i64.wrap ((m : Int) * 2 ^ min ((6 : Int).toNat) IntKind.i64.bits) = ((2 ^ 6 * m : Nat) : Int) := by
    have : (2 : Int) ^ min ((6 : Int).toNat) IntKind.i64.bits = 64 := by decide +kernel
    rw [this, wrap_i64 (by omega) (by omega)]; omega
  unfold pureBin
  simp only [show ¬ ((6 : Int) < 0) by omega, if_false]
  rw [h]
theorem shr6 (a : UInt8) : pureBin .shr (.int .u8 (a.toNat : Int)) (.int .u64 6) = some (.int .u8 ((a.toNat / 64 : Nat) : Int)) := by
  have h : (a.toNat : Int).fdiv (2 ^ min ((6 : Int).toNat) IntKind.u8.bits) = ((a.toNat / 64 : Nat) : Int) := by
    have : (2 : Int) ^ min ((6 : Int).toNat) IntKind.u8.bits = ((64 : Nat) : Int) := by decide +kernel
    rw [this]; exact (Int.ofNat_fdiv a.toNat 64).symm
  unfold pureBin
  simp only [show ¬ ((6 : Int) < 0) by omega, if_false]
  rw [h]

set_option maxRecDepth 4000 in
theorem dec_core1 (o : Bool) (a b : UInt8) (L : List AV) (q V N : Nat) (gl0 : 0 < L.length) (gl1 : 1 < L.length) (e0 : L[0] = byteA a) (e1 : L[1] = byteA b)
    (wa : IntKind.i64.wrap (a.toNat : Int) = (a.toNat : Int)) (wb : IntKind.i64.wrap (b.toNat : Int) = (b.toNat : Int))
    (f1 : pureBin .shl (.int .i64 (a.toNat : Int)) (.int .u64 8) = some (.int .i64 (V : Int))) (f2 : pureBin .shr (.int .u8 (a.toNat : Int)) (.int .u64 6) = some (.int .u8 (q : Int)))
    (f3 : pureBin .or (.int .i64 (V : Int)) (.int .i64 (b.toNat : Int)) = some (.int .i64 (N : Int))) (hq : q = 0) (σ : Store) :
    ACalls Try.prog 26 [.lit (.int .i64 12), .list o 1 L] σ fun v σ' => v = .tuple [.lit (.int .i64 N), .lit (.int .i64 0)] ∧ σ' = σ := by
  have gl2 : ¬ ((L.length : Int) < 2) := by omega
  subst hq
  refine ACalls.of_awp follows (st := st26) (plans := pl26) (n := 59) Try.func26 rfl (by kernel_rfl) (by kernel_rfl) (by kernel_rfl) ?_
  simp [-e_pureBin_1, -e_pureBin_2, -e_pureBin_9, gl2, gl0, gl1, e0, e1, byteA, wa, wb, f1, f2, f3]
set_option maxRecDepth 4000 in
theorem dec_core2 (o : Bool) (a b : UInt8) (L : List AV) (q V N : Nat) (gl0 : 0 < L.length) (gl1 : 1 < L.length) (e0 : L[0] = byteA a) (e1 : L[1] = byteA b)
    (wa : IntKind.i64.wrap (a.toNat : Int) = (a.toNat : Int)) (wb : IntKind.i64.wrap (b.toNat : Int) = (b.toNat : Int))
    (f1 : pureBin .shl (.int .i64 (a.toNat : Int)) (.int .u64 8) = some (.int .i64 (V : Int))) (f2 : pureBin .shr (.int .u8 (a.toNat : Int)) (.int .u64 6) = some (.int .u8 (q : Int)))
    (f3 : pureBin .or (.int .i64 (V : Int)) (.int .i64 (b.toNat : Int)) = some (.int .i64 (N : Int))) (hq : q = 2) (σ : Store) :
    ACalls Try.prog 26 [.lit (.int .i64 12), .list o 1 L] σ fun v σ' => v = .tuple [.lit (.int .i64 0), .lit (.int .i64 9)] ∧ σ' = σ := by
  have gl2 : ¬ ((L.length : Int) < 2) := by omega
  subst hq
  refine ACalls.of_awp follows (st := st26) (plans := pl26) (n := 59) Try.func26 rfl (by kernel_rfl) (by kernel_rfl) (by kernel_rfl) ?_
  simp [-e_pureBin_1, -e_pureBin_2, -e_pureBin_9, gl2, gl0, gl1, e0, e1, byteA, wa, wb, f1, f2, f3]
set_option maxRecDepth 4000 in
theorem dec_core3 (o : Bool) (a b : UInt8) (L : List AV) (q V N x y W M : Nat) (gl0 : 0 < L.length) (gl1 : 1 < L.length) (e0 : L[0] = byteA a) (e1 : L[1] = byteA b)
    (wa : IntKind.i64.wrap (a.toNat : Int) = (a.toNat : Int)) (wb : IntKind.i64.wrap (b.toNat : Int) = (b.toNat : Int))
    (f1 : pureBin .shl (.int .i64 (a.toNat : Int)) (.int .u64 8) = some (.int .i64 (V : Int))) (f2 : pureBin .shr (.int .u8 (a.toNat : Int)) (.int .u64 6) = some (.int .u8 (q : Int)))
    (f3 : pureBin .or (.int .i64 (V : Int)) (.int .i64 (b.toNat : Int)) = some (.int .i64 (N : Int))) (h0 : ¬ q = 0) (h2 : ¬ q = 2) (h2' : ¬ (q : Int) = 2)
    (s1 : ∀ σ, ACalls Try.prog 37 [byteA a] σ fun v σ' => v = .lit (.int .i64 x) ∧ σ' = σ) (s2 : ∀ σ, ACalls Try.prog 37 [byteA b] σ fun v σ' => v = .lit (.int .i64 y) ∧ σ' = σ)
    (k1 : pureBin .shl (.int .i64 (x : Int)) (.int .u64 6) = some (.int .i64 (W : Int))) (k3 : pureBin .or (.int .i64 (W : Int)) (.int .i64 (y : Int)) = some (.int .i64 (M : Int))) (σ : Store) :
    ACalls Try.prog 26 [.lit (.int .i64 12), .list o 1 L] σ fun v σ' => v = .tuple [.lit (.int .i64 M), .lit (.int .i64 0)] ∧ σ' = σ := by
  have gl2 : ¬ ((L.length : Int) < 2) := by omega
  refine ACalls.of_awp follows (st := st26) (plans := pl26) (n := 59) Try.func26 rfl (by kernel_rfl) (by kernel_rfl) (by kernel_rfl) ?_
  simp [-e_pureBin_1, -e_pureBin_2, -e_pureBin_9, gl2, gl0, gl1, e0, e1, byteA, wa, wb, f1, f2, f3, h0, h2, h2']
  refine ⟨?_, ?_⟩
  · refine callK.of (s1 _) ?_
    rintro v σ' ⟨rfl, rfl⟩
    simp [-e_pureBin_1, -e_pureBin_2, -e_pureBin_9, gl1, e1, byteA, k1]
    refine callK.of (s2 _) ?_
    rintro v σ' ⟨rfl, rfl⟩
    simp [-e_pureBin_1, -e_pureBin_2, -e_pureBin_9, k1, k3]
  · refine callK.of (s1 _) ?_
    rintro v σ' ⟨rfl, rfl⟩
    simp [-e_pureBin_1, -e_pureBin_2, -e_pureBin_9, gl1, e1, byteA, k1]
    refine callK.of (s2 _) ?_
    rintro v σ' ⟨rfl, rfl⟩
    simp [-e_pureBin_1, -e_pureBin_2, -e_pureBin_9, k1, k3]
theorem dec_calls_two (o : Bool) (a b : UInt8) (l : List UInt8) (σ : Store) : ACalls Try.prog 26 [.lit (.int .i64 12), .list o 1 (bytesA (a :: b :: l))] σ fun v σ' => v = .tuple [.lit (.int .i64 (decM a b).1), .lit (.int .i64 (decM a b).2)] ∧ σ' = σ := by
  have g0 : (bytesA (a :: b :: l))[0]? = some (byteA a) := rfl
  have g1 : (bytesA (a :: b :: l))[1]? = some (byteA b) := rfl
  have gl : (bytesA (a :: b :: l)).length = l.length + 2 := by simp
  have gl0 : 0 < (bytesA (a :: b :: l)).length := by omega
  have gl1 : 1 < (bytesA (a :: b :: l)).length := by omega
  have e0 := (List.getElem_eq_iff gl0).2 g0
  have e1 := (List.getElem_eq_iff gl1).2 g1
  have ha := a.toNat_lt
  have hb := b.toNat_lt
  have f3 := or_i64 (2 ^ 8 * a.toNat) b.toNat (by omega) (by omega)
  rw [← Nat.two_pow_add_eq_or_of_lt (by omega)] at f3
  have hM : 2 ^ 8 * a.toNat + b.toNat = a.toNat * 256 + b.toNat := by omega
  rw [hM] at f3
  by_cases h0 : a.toNat / 64 = 0
  · rw [decM, if_pos h0]
    exact dec_core1 o a b _ _ _ _ gl0 gl1 e0 e1 (wrapB a) (wrapB b) (shl8 a) (shr6 a) f3 h0 σ
  · by_cases h2 : a.toNat / 64 = 2
    · rw [decM, if_neg h0, if_pos h2]
      exact dec_core2 o a b _ _ _ _ gl0 gl1 e0 e1 (wrapB a) (wrapB b) (shl8 a) (shr6 a) f3 h2 σ
    · rw [decM, if_neg h0, if_neg h2]
      have u1 := unsix_lt a
      have u2 := unsix_lt b
      have k3 := or_i64 (2 ^ 6 * unsix a) (unsix b) (by omega) (by omega)
      rw [← Nat.two_pow_add_eq_or_of_lt (by omega), show 2 ^ 6 * unsix a + unsix b = unsix a * 64 + unsix b by omega] at k3
      exact dec_core3 o a b _ _ _ _ _ _ _ _ gl0 gl1 e0 e1 (wrapB a) (wrapB b) (shl8 a) (shr6 a) f3 h0 h2 (by omega) (unsix_calls a) (unsix_calls b) (shl6 _ u1) k3 σ

set_option maxRecDepth 4000 in
theorem dec_calls (o : Bool) (l : List UInt8) (σ : Store) : ACalls Try.prog 26 [.lit (.int .i64 12), .list o 1 (bytesA l)] σ fun v σ' => v = .tuple [.lit (.int .i64 (decR l).1), .lit (.int .i64 (decR l).2)] ∧ σ' = σ := by
  rcases l with _ | ⟨a, _ | ⟨b, l⟩⟩
  · refine ACalls.of_awp follows (st := st26) (plans := pl26) (n := 59) Try.func26 rfl (by kernel_rfl) (by kernel_rfl) (by kernel_rfl) ?_
    simp [decR]
  · refine ACalls.of_awp follows (st := st26) (plans := pl26) (n := 59) Try.func26 rfl (by kernel_rfl) (by kernel_rfl) (by kernel_rfl) ?_
    simp [decR]
  · exact dec_calls_two o a b l σ
end Go.Proofs.Ytkbokmokklbahaa
