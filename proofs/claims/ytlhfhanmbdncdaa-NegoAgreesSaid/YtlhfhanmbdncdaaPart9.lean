/-
  Of each function: which temporaries take a right to append with the value; the plans of the regions that draw their order. Written by a program of mine.
-/
import Derived.Test.YtlhfhanmbdncdaaPart8
namespace Go.Proofs.Ytlhfhanmbdncdaa
open Go Go.AL
/- vitrine/vitrinelaw10.NegoRefused -/
@[simp] def st3 : List Nat := []
@[simp] def pl3 : List (Nat × Plan) := []
/- vitrine/vitrinelaw10.NegoAgrees -/
@[simp] def st4 : List Nat := [62]
@[simp] def pl4 : List (Nat × Plan) := [(15, Plan.seq [0, 2, 1, 3, 4, 5, 6, 7, 8, 9, 10, 11, 12, 13, 14, 15, 16] (.done))]
/- vitrine/vitrinelaw10.NegoPlays -/
@[simp] def st5 : List Nat := []
@[simp] def pl5 : List (Nat × Plan) := []
/- vitrine/vitrinelaw10.awake -/
@[simp] def st6 : List Nat := []
@[simp] def pl6 : List (Nat × Plan) := []
/- vitrine/nego.New -/
@[simp] def st7 : List Nat := []
@[simp] def pl7 : List (Nat × Plan) := []
/- vitrine/vitrineref10.Few region 1: 5 forks -/
@[simp] def st8 : List Nat := []
@[simp] def pl8 : List (Nat × Plan) := [(1, Plan.seq [0, 1, 3, 6] (.alt (.alt (Plan.seq [2, 4] (.alt (Plan.seq [5, 7, 8, 9, 10] (.done)) (Plan.seq [7, 5, 8, 9, 10] (.done)))) (Plan.seq [4] (.alt (Plan.seq [2] (.alt (Plan.seq [5, 7, 8, 9, 10] (.done)) (Plan.seq [7, 5, 8, 9, 10] (.done)))) (Plan.seq [7, 2, 5, 8, 9, 10] (.done))))) (Plan.seq [7] (.alt (Plan.seq [2, 4, 5, 8, 9, 10] (.done)) (Plan.seq [4, 2, 5, 8, 9, 10] (.done))))))]
/- (*vitrine/nego.End).Hear -/
@[simp] def st9 : List Nat := []
@[simp] def pl9 : List (Nat × Plan) := []
/- (*vitrine/nego.End).State -/
@[simp] def st10 : List Nat := []
@[simp] def pl10 : List (Nat × Plan) := []
/- vitrine/vitrineref01.Cut -/
@[simp] def st11 : List Nat := []
@[simp] def pl11 : List (Nat × Plan) := []
/- (*vitrine/nego.End).Ready -/
@[simp] def st12 : List Nat := []
@[simp] def pl12 : List (Nat × Plan) := []
/- (*vitrine/nego.End).Functions -/
@[simp] def st13 : List Nat := []
@[simp] def pl13 : List (Nat × Plan) := []
/- (*vitrine/nego.End).Reset -/
@[simp] def st14 : List Nat := []
@[simp] def pl14 : List (Nat × Plan) := []
/- vitrine/vitrineref01.CutText -/
@[simp] def st15 : List Nat := [12]
@[simp] def pl15 : List (Nat × Plan) := []
/- vitrine/vitrineref10.Name -/
@[simp] def st16 : List Nat := []
@[simp] def pl16 : List (Nat × Plan) := []
/- vitrine/vitrinelaw10.both -/
@[simp] def st17 : List Nat := [26, 32]
@[simp] def pl17 : List (Nat × Plan) := []
/- (*vitrine/nego.End).Device -/
@[simp] def st18 : List Nat := []
@[simp] def pl18 : List (Nat × Plan) := []
/- vitrine/vitrineref01.Same -/
@[simp] def st19 : List Nat := []
@[simp] def pl19 : List (Nat × Plan) := []
/- vitrine/vitrinelaw10.once -/
@[simp] def st20 : List Nat := [21, 26]
@[simp] def pl20 : List (Nat × Plan) := []
/- vitrine/vitrineref10.New -/
@[simp] def st21 : List Nat := []
@[simp] def pl21 : List (Nat × Plan) := []
/- vitrine/vitrineref01.Flip -/
@[simp] def st22 : List Nat := []
@[simp] def pl22 : List (Nat × Plan) := []
/- vitrine/vitrineref01.Copy -/
@[simp] def st23 : List Nat := []
@[simp] def pl23 : List (Nat × Plan) := []
/- vitrine/vitrineref01.Copy -/
@[simp] def st23o : List Nat := [1000003, 1000005, 1000002]
@[simp] def pl23o : List (Nat × Plan) := []
/- vitrine/vitrineref10.Hear region 14: 1 forks -/
@[simp] def st24 : List Nat := [63, 72]
@[simp] def pl24 : List (Nat × Plan) := [(14, Plan.seq [3, 4, 5, 6, 7] (.alt (Plan.seq [0, 1, 2, 8, 9] (.done)) (Plan.seq [1, 0, 2, 8, 9] (.done))))]
/- vitrine/vitrinelaw10.same region 16: 7 forks -/
@[simp] def st25 : List Nat := []
@[simp] def pl25 : List (Nat × Plan) := [(16, Plan.seq [0, 2, 3, 4] (.alt (Plan.seq [1, 5, 6, 7, 8, 10, 11, 12] (.alt (Plan.seq [9, 13, 14, 15, 16, 17, 18, 20, 21, 22] (.alt (Plan.seq [19, 23, 24, 25, 26, 27, 29, 28, 30, 31, 32] (.done)) (Plan.seq [23, 19, 24, 25, 26, 27, 29, 28, 30, 31, 32] (.done)))) (Plan.seq [13, 14, 9, 15, 16, 17, 18, 20, 21, 22] (.alt (Plan.seq [19, 23, 24, 25, 26, 27, 29, 28, 30, 31, 32] (.done)) (Plan.seq [23, 19, 24, 25, 26, 27, 29, 28, 30, 31, 32] (.done)))))) (Plan.seq [5, 1, 6, 7, 8, 10, 11, 12] (.alt (Plan.seq [9, 13, 14, 15, 16, 17, 18, 20, 21, 22] (.alt (Plan.seq [19, 23, 24, 25, 26, 27, 29, 28, 30, 31, 32] (.done)) (Plan.seq [23, 19, 24, 25, 26, 27, 29, 28, 30, 31, 32] (.done)))) (Plan.seq [13, 14, 9, 15, 16, 17, 18, 20, 21, 22] (.alt (Plan.seq [19, 23, 24, 25, 26, 27, 29, 28, 30, 31, 32] (.done)) (Plan.seq [23, 19, 24, 25, 26, 27, 29, 28, 30, 31, 32] (.done))))))))]
/- vitrine/nego.Name -/
@[simp] def st26 : List Nat := []
@[simp] def pl26 : List (Nat × Plan) := []
/- vitrine/nego.rises -/
@[simp] def st27 : List Nat := []
@[simp] def pl27 : List (Nat × Plan) := []
/- bytes.Clone -/
@[simp] def st28 : List Nat := []
@[simp] def pl28 : List (Nat × Plan) := []
/- bytes.Equal -/
@[simp] def st29 : List Nat := []
@[simp] def pl29 : List (Nat × Plan) := []
/- (*vitrine/nego.End).asks region 4: 1 forks -/
@[simp] def st30 : List Nat := [26, 35]
@[simp] def pl30 : List (Nat × Plan) := [(4, Plan.seq [3, 4, 5, 6, 7] (.alt (Plan.seq [0, 1, 2, 8, 9] (.done)) (Plan.seq [1, 0, 2, 8, 9] (.done))))]
/- (*vitrine/nego.End).heardDevice -/
@[simp] def st31 : List Nat := []
@[simp] def pl31 : List (Nat × Plan) := []
/- (*vitrine/nego.End).heardFunctions -/
@[simp] def st32 : List Nat := [93]
@[simp] def pl32 : List (Nat × Plan) := []
/- vitrine/vitrineref10.names -/
@[simp] def st33 : List Nat := []
@[simp] def pl33 : List (Nat × Plan) := [(5, Plan.seq [0, 1, 2, 3, 4, 5, 6, 7, 8, 9, 10, 11, 12, 13, 14, 15, 16, 17, 18, 19] (.done))]
/- vitrine/vitrineref10.common -/
@[simp] def st34 : List Nat := [35, 40, 41, 42]
@[simp] def pl34 : List (Nat × Plan) := []
/- vitrine/vitrineref10.sorted -/
@[simp] def st35 : List Nat := [12, 16]
@[simp] def pl35 : List (Nat × Plan) := []
/- (*vitrine/nego.End).Has -/
@[simp] def st36 : List Nat := []
@[simp] def pl36 : List (Nat × Plan) := []
/- vitrine/nego.got -/
@[simp] def st37 : List Nat := []
@[simp] def pl37 : List (Nat × Plan) := [(2, Plan.seq [0, 1, 2, 3, 4, 5, 6, 7, 8, 9, 10, 11, 12, 13, 14] (.done))]
/- (*vitrine/nego.End).offer -/
@[simp] def st38 : List Nat := []
@[simp] def pl38 : List (Nat × Plan) := []
/- vitrine/nego.once -/
@[simp] def st39 : List Nat := []
@[simp] def pl39 : List (Nat × Plan) := []
/- (*vitrine/nego.End).own -/
@[simp] def st40 : List Nat := []
@[simp] def pl40 : List (Nat × Plan) := []
/- (*vitrine/nego.End).agree -/
@[simp] def st41 : List Nat := []
@[simp] def pl41 : List (Nat × Plan) := []
/- vitrine/vitrineref10.in -/
@[simp] def st42 : List Nat := []
@[simp] def pl42 : List (Nat × Plan) := []
/- bytes.IndexByte -/
@[simp] def st43 : List Nat := []
@[simp] def pl43 : List (Nat × Plan) := []
/- bytes.Cut -/
@[simp] def st44 : List Nat := [22]
@[simp] def pl44 : List (Nat × Plan) := [(3, Plan.seq [0, 1, 2, 3, 4, 5, 6, 7, 8, 9, 10, 11] (.done))]
/- slices.ContainsFunc[[]byte,byte] -/
@[simp] def st45 : List Nat := []
@[simp] def pl45 : List (Nat × Plan) := []
/- (*vitrine/nego.End).own$1 -/
@[simp] def st46 : List Nat := []
@[simp] def pl46 : List (Nat × Plan) := []
/- slices.Sorted[byte] -/
@[simp] def st47 : List Nat := [8]
@[simp] def pl47 : List (Nat × Plan) := []
/- slices.Values[[]byte,byte] -/
@[simp] def st48 : List Nat := []
@[simp] def pl48 : List (Nat × Plan) := []
/- bytes.Index -/
@[simp] def st50 : List Nat := [106, 175]
@[simp] def pl50 : List (Nat × Plan) := []
/- slices.IndexFunc[[]byte,byte] -/
@[simp] def st51 : List Nat := [17]
@[simp] def pl51 : List (Nat × Plan) := []
/- slices.Collect[byte] -/
@[simp] def st52 : List Nat := []
@[simp] def pl52 : List (Nat × Plan) := []
/- slices.Sort[[]byte,byte] -/
@[simp] def st53 : List Nat := []
@[simp] def pl53 : List (Nat × Plan) := []
/- slices.Values[[]byte,byte]$1 -/
@[simp] def st54 : List Nat := []
@[simp] def pl54 : List (Nat × Plan) := []
/- slices.AppendSeq[[]byte,byte] -/
@[simp] def st58 : List Nat := [8]
@[simp] def pl58 : List (Nat × Plan) := []
/- slices.pdqsortOrdered[byte] -/
@[simp] def st59 : List Nat := []
@[simp] def pl59 : List (Nat × Plan) := [(17, Plan.seq [0, 1, 2, 3, 4, 5, 6, 7, 8, 9, 10, 11, 12, 13, 14] (.done))]
/- math/bits.Len -/
@[simp] def st60 : List Nat := []
@[simp] def pl60 : List (Nat × Plan) := []
/- slices.insertionSortOrdered[byte] -/
@[simp] def st62 : List Nat := []
@[simp] def pl62 : List (Nat × Plan) := [(4, Plan.seq [0, 1, 2, 3, 4, 5, 6, 7, 8, 9, 10, 11, 12, 13, 14] (.done)), (6, Plan.seq [0, 1, 2, 3, 4, 5, 6, 7, 8, 9, 10, 11, 12, 13, 14, 15, 16, 17] (.done))]
/- slices.heapSortOrdered[byte] -/
@[simp] def st63 : List Nat := []
@[simp] def pl63 : List (Nat × Plan) := [(10, Plan.seq [0, 1, 2, 3, 4, 5, 6, 7, 8, 9, 10, 11, 12, 13, 14, 15, 16, 17, 18, 19] (.done))]
/- slices.breakPatternsOrdered[byte] -/
@[simp] def st64 : List Nat := []
@[simp] def pl64 : List (Nat × Plan) := [(10, Plan.seq [0, 1, 2, 3, 4, 5, 6, 7, 8, 9, 10, 11, 12, 13, 14, 15, 16, 17, 18, 19] (.done))]
/- slices.choosePivotOrdered[byte] -/
@[simp] def st65 : List Nat := [53, 56, 50]
@[simp] def pl65 : List (Nat × Plan) := []
/- slices.reverseRangeOrdered[byte] -/
@[simp] def st66 : List Nat := []
@[simp] def pl66 : List (Nat × Plan) := [(3, Plan.seq [0, 1, 2, 3, 4, 5, 6, 7, 8, 9, 10, 11, 12, 13, 14, 15] (.done))]
/- slices.partialInsertionSortOrdered[byte] -/
@[simp] def st67 : List Nat := []
@[simp] def pl67 : List (Nat × Plan) := [(5, Plan.seq [0, 1, 2, 3, 4, 5, 6, 7, 8, 9, 10, 11, 12, 13, 14, 15] (.done)), (11, Plan.seq [0, 1, 2, 3, 4, 5, 6, 7, 8, 9, 10, 11, 12, 13, 14, 15, 16, 17] (.done)), (16, Plan.seq [0, 1, 2, 3, 4, 5, 6, 7, 8, 9, 10] (.done)), (17, Plan.seq [0, 1, 2, 3, 4, 5, 6, 7, 8, 9, 10, 11, 12, 13, 14, 15, 16, 17] (.done)), (22, Plan.seq [0, 1, 2, 3, 4, 5, 6, 7, 8, 9, 10] (.done)), (23, Plan.seq [0, 1, 2, 3, 4, 5, 6, 7, 8, 9, 10, 11, 12, 13, 14, 15, 16, 17] (.done))]
/- cmp.Less[byte] -/
@[simp] def st68 : List Nat := []
@[simp] def pl68 : List (Nat × Plan) := []
/- slices.partitionEqualOrdered[byte] -/
@[simp] def st69 : List Nat := [83]
@[simp] def pl69 : List (Nat × Plan) := [(1, Plan.seq [0, 1, 2, 3, 4, 5, 6, 7, 8, 9, 10, 11, 12, 13, 14, 15] (.done)), (3, Plan.seq [0, 1, 2, 3, 4, 5, 6, 7, 8, 9, 10, 11, 12, 13, 14] (.done)), (5, Plan.seq [0, 1, 2, 3, 4, 5, 6, 7, 8, 9, 10, 11, 12, 13] (.done)), (8, Plan.seq [0, 1, 2, 3, 4, 5, 6, 7, 8, 9, 10, 11, 12, 13, 14, 15] (.done))]
/- slices.partitionOrdered[byte] -/
@[simp] def st70 : List Nat := [80, 167]
@[simp] def pl70 : List (Nat × Plan) := [(1, Plan.seq [0, 1, 2, 3, 4, 5, 6, 7, 8, 9, 10, 11, 12, 13, 14, 15] (.done)), (3, Plan.seq [0, 1, 2, 3, 4, 5, 6, 7, 8, 9, 10, 11, 12, 13] (.done)), (5, Plan.seq [0, 1, 2, 3, 4, 5, 6, 7, 8, 9, 10, 11, 12, 13, 14] (.done)), (8, Plan.seq [0, 1, 2, 3, 4, 5, 6, 7, 8, 9, 10, 11, 12, 13, 14, 15] (.done)), (10, Plan.seq [0, 1, 2, 3, 4, 5, 6, 7, 8, 9, 10, 11, 12, 13, 14, 15] (.done)), (13, Plan.seq [0, 1, 2, 3, 4, 5, 6, 7, 8, 9, 10, 11, 12, 13] (.done)), (15, Plan.seq [0, 1, 2, 3, 4, 5, 6, 7, 8, 9, 10, 11, 12, 13, 14] (.done)), (18, Plan.seq [0, 1, 2, 3, 4, 5, 6, 7, 8, 9, 10, 11, 12, 13, 14, 15] (.done)), (21, Plan.seq [0, 1, 2, 3, 4, 5, 6, 7, 8, 9, 10, 11, 12, 13, 14, 15] (.done))]
/- math/bits.Len32 -/
@[simp] def st71 : List Nat := []
@[simp] def pl71 : List (Nat × Plan) := []
/- math/bits.Len64 -/
@[simp] def st72 : List Nat := []
@[simp] def pl72 : List (Nat × Plan) := []
/- slices.siftDownOrdered[byte] -/
@[simp] def st73 : List Nat := []
@[simp] def pl73 : List (Nat × Plan) := [(3, Plan.seq [0, 1, 2, 3, 4, 5, 6, 7, 8, 9, 10, 11, 12, 13, 14, 15, 16, 17, 18, 19] (.done)), (5, Plan.seq [0, 1, 2, 3, 4, 5, 6, 7, 8, 9, 10, 11, 12, 13] (.done)), (6, Plan.seq [0, 1, 2, 3, 4, 5, 6, 7, 8, 9, 10, 11, 12, 13, 14, 15, 16, 17, 18, 19, 20, 21, 22, 23] (.done))]
/- slices.nextPowerOfTwo -/
@[simp] def st74 : List Nat := []
@[simp] def pl74 : List (Nat × Plan) := []
/- (*slices.xorshift).Next -/
@[simp] def st75 : List Nat := []
@[simp] def pl75 : List (Nat × Plan) := [(1, Plan.seq [0, 1, 2, 3, 4, 5, 6, 7, 8, 9] (.done)), (2, Plan.seq [0, 1, 2, 3, 4, 5, 6, 7, 8, 9] (.done)), (3, Plan.seq [0, 1, 2, 3, 4, 5, 6, 7, 8, 9] (.done))]
/- slices.medianAdjacentOrdered[byte] -/
@[simp] def st76 : List Nat := []
@[simp] def pl76 : List (Nat × Plan) := []
/- slices.medianOrdered[byte] -/
@[simp] def st77 : List Nat := [35]
@[simp] def pl77 : List (Nat × Plan) := []
/- cmp.isNaN[byte] -/
@[simp] def st78 : List Nat := []
@[simp] def pl78 : List (Nat × Plan) := []
/- slices.order2Ordered[byte] -/
@[simp] def st79 : List Nat := [24, 25, 26, 27]
@[simp] def pl79 : List (Nat × Plan) := [(1, Plan.seq [0, 1, 2, 3, 4, 5, 6, 7, 8] (.done))]
end Go.Proofs.Ytlhfhanmbdncdaa
/-
  What bytes and events are as abstract values; the reader's pure model.
-/
namespace Go.Proofs.Ytlhfhanmbdncdaa
open Go Go.AL

theorem follows : Try.prog.follows .mixedOrders = true := by kernel_rfl

def byteA (b : UInt8) : AV := .lit (.int .u8 (b.toNat : Int))
def bytesA (l : List UInt8) : List AV := l.map byteA
@[simp] theorem bytesA_length (l : List UInt8) : (bytesA l).length = l.length := by simp [bytesA]
theorem bytesA_append (l k : List UInt8) : bytesA (l ++ k) = bytesA l ++ bytesA k := by simp [bytesA]
theorem bytesA_nil : bytesA [] = [] := rfl
theorem bytesOf_bytesA (l : List UInt8) : bytesOf (bytesA l) = some l := by
  induction l with
  | nil => rfl
  | cons b l ih =>
    have hb : AL.byteOf (byteA b) = some b := by simp [byteA, AL.byteOf]
    simp only [bytesOf, bytesA, List.map_cons, List.mapM_cons] at ih ⊢
    rw [hb, ih]; rfl
theorem bytesA_get (l : List UInt8) (i : Nat) : (bytesA l)[i]? = (l[i]?).map byteA := by simp [bytesA]

/-- A place and the characters from there on. -/
structure En where
  addr : Int
  text : List UInt8
  deriving DecidableEq
/-- What came. -/
structure Rp where
  aid : UInt8
  short : Bool
  cursor : Int
  es : List En
  deriving DecidableEq
def enA (e : En) : AV := .agg [.lit (.int .i64 e.addr), .list false 1 (bytesA e.text)]
def ensA (l : List En) : List AV := l.map enA
@[simp] theorem ensA_length (l : List En) : (ensA l).length = l.length := by simp [ensA]
theorem ensA_append (l k : List En) : ensA (l ++ k) = ensA l ++ ensA k := by simp [ensA]
theorem ensA_get (l : List En) (i : Nat) : (ensA l)[i]? = (l[i]?).map enA := by simp [ensA]
def rpA (r : Rp) : AV := .agg [byteA r.aid, .lit (.bool r.short), .lit (.int .i64 r.cursor), .list false 2 (ensA r.es)]

theorem byte_eq (b c : UInt8) : ((b.toNat : Int) == (c.toNat : Int)) = (b == c) := by
  rw [Bool.eq_iff_iff, beq_iff_eq, beq_iff_eq]
  constructor
  · intro h; exact UInt8.toNat_inj.1 (by omega)
  · rintro rfl; rfl
theorem le_of_eq {a b : AV} (h : a = b) : a.le b := h ▸ AV.le_refl a
/-- A byte, as the operations have it. -/
theorem byte_lt (b : UInt8) : (b.toNat : Int) < 256 := by have := b.toNat_lt; omega
theorem take_succ_map {α : Type} (f : α → AV) (l : List α) (i : Nat) (h : i < l.length) : (l.take (i + 1)).map f = (l.take i).map f ++ [f l[i]] := by
  rw [List.take_succ_eq_append_getElem h, List.map_append]; rfl
theorem flat_bytesA (l : List UInt8) : flat (bytesA l) = bytesA l := by
  induction l with
  | nil => rfl
  | cons b l ih => simp only [flat, bytesA, List.map_cons, List.flatMap_cons] at ih ⊢; rw [ih]; rfl
theorem bytesA_take (l : List UInt8) (n : Nat) : (bytesA l).take n = bytesA (l.take n) := by simp [bytesA]
theorem bytesA_drop (l : List UInt8) (n : Nat) : (bytesA l).drop n = bytesA (l.drop n) := by simp [bytesA]
theorem drop1_bytesA (l : List UInt8) : (bytesA l).map AV.drop1 = bytesA l := by
  simp only [bytesA, List.map_map]; rfl

/-- A row of bytes that is an object. -/
def rowA (p cap : Nat) (l : List UInt8) : AV := .lit (.slice (some ⟨p, 0, none⟩) l.length cap)

theorem clone_calls (o : Bool) (l : List UInt8) (σ : Store) (hl : l.length ≤ 140737488355328) :
    ACalls Try.prog 28 [.list o 1 (bytesA l)] σ fun v σ' => v = .list true 1 (bytesA l) ∧ σ' = σ := by
  refine ACalls.of_awp follows (st := st28) (plans := pl28) (n := 8) Try.func28 rfl (by kernel_rfl) (by kernel_rfl) (by kernel_rfl) ?_
  simp
  refine ⟨⟨by omega, by omega⟩, fun h => ?_⟩
  rw [h]; exact AV.le_refl _

theorem toList_mk (l : List UInt8) : (ByteArray.mk l.toArray).toList = l := by
  rw [ByteArray.toList_eq]
theorem same_calls (o o' : Bool) (l k : List UInt8) (σ : Store) :
    ACalls Try.prog 19 [.list o 1 (bytesA l), .list o' 1 (bytesA k)] σ fun v σ' => v = .lit (.bool (l == k)) ∧ σ' = σ := by
  refine ACalls.of_awp follows (st := st19) (plans := pl19) (n := 10) Try.func19 rfl (by kernel_rfl) (by kernel_rfl) (by kernel_rfl) ?_
  simp [bytesOf_bytesA]

end Go.Proofs.Ytlhfhanmbdncdaa
/-
  Names, bytes within bytes.
-/
namespace Go.Proofs.Ytlhfhanmbdncdaa
open Go Go.AL

theorem byteA_lit (b : UInt8) : byteA b = .lit (.int .u8 (b.toNat : Int)) := rfl
/-- A string of these bytes. -/
abbrev strS (l : List UInt8) : AV := .lit (.string ⟨l.toArray⟩)
theorem bytesV_mk (l : List UInt8) : bytesV ⟨l.toArray⟩ = bytesA l := by simp [bytesV, bytesA, byteA]
theorem ixByte_mem (l : List UInt8) (c : UInt8) : (Lib.indexByte l c < 0 ↔ c ∉ l) ∧ (c ∉ l → Lib.indexByte l c = -1) := by
  induction l with
  | nil => simp [Lib.indexByte]
  | cons b l ih =>
    have hge := Lib.indexByte_ge l c
    unfold Lib.indexByte
    by_cases hb : b = c
    · subst hb; simp
    · have hbc : (b == c) = false := by simpa using hb
      have hcb : ¬ c = b := fun e => hb e.symm
      rw [hbc]
      simp only [Bool.false_eq_true, if_false, List.mem_cons, hcb, false_or]
      by_cases hm : Lib.indexByte l c = -1
      · rw [if_pos (by rw [hm]; rfl)]
        have : c ∉ l := ih.1.1 (by omega)
        exact ⟨⟨fun _ => this, fun _ => by omega⟩, fun _ => rfl⟩
      · rw [if_neg (by simpa using hm)]
        have : ¬ c ∉ l := fun h => hm (ih.2 h)
        exact ⟨⟨fun h => by omega, fun h => absurd h this⟩, fun h => absurd h this⟩
@[simp] theorem callable49 : callable Try.prog 49 = false := nr (by kernel_rfl)
theorem ext49 (o : Bool) (l : List UInt8) (c : UInt8) (σ : Store) : AExt Try.prog 49 [.list o 1 (bytesA l), byteA c] σ fun v σ' => v = .lit (.int .i64 (Lib.indexByte l c)) ∧ σ' = σ :=
  ext_indexByte Try.func49 (by kernel_rfl) (by kernel_rfl) (by kernel_rfl) (by kernel_rfl) o l c σ
theorem indexByte_calls (o : Bool) (l : List UInt8) (c : UInt8) (σ : Store) :
    ACalls Try.prog 43 [.list o 1 (bytesA l), byteA c] σ fun v σ' => v = .lit (.int .i64 (Lib.indexByte l c)) ∧ σ' = σ := by
  refine ACalls.of_awp follows (st := st43) (plans := pl43) (n := 8) Try.func43 rfl (by kernel_rfl) (by kernel_rfl) (by kernel_rfl) ?_
  simp [byteA]
  refine extK.of (ext49 false l c σ) ?_
  rintro v σ' ⟨rfl, rfl⟩
  simp
set_option maxRecDepth 10000 in
theorem index_calls (o o' : Bool) (l : List UInt8) (c : UInt8) (σ : Store) :
    ACalls Try.prog 50 [.list o 1 (bytesA l), .list o' 1 (bytesA [c])] σ fun v σ' => v = .lit (.int .i64 (Lib.indexByte l c)) ∧ σ' = σ := by
  refine ACalls.of_awp follows (st := st50) (plans := pl50) (n := 200) Try.func50 rfl (by kernel_rfl) (by kernel_rfl) (by kernel_rfl) ?_
  simp [bytesA, byteA]
  refine callK.of (indexByte_calls false l c σ) ?_
  rintro v σ' ⟨rfl, rfl⟩
  simp
/-- What stands ahead of a byte, and behind it. -/
def cutF (l : List UInt8) (c : UInt8) : List UInt8 × List UInt8 × Bool := if c ∈ l then (l.takeWhile (· != c), (l.dropWhile (· != c)).tail, true) else (l, [], false)
theorem cutF_split {pre post : List UInt8} {c : UInt8} (h : c ∉ pre) : cutF (pre ++ c :: post) c = (pre, post, true) := by
  have h1 : ∀ x ∈ pre, (x != c) = true := fun x hx => by
    have : x ≠ c := fun e => h (e ▸ hx)
    simpa using this
  have e1 : (pre ++ c :: post).takeWhile (· != c) = pre := by
    rw [List.takeWhile_append_of_pos h1]; simp
  have e2 : (pre ++ c :: post).dropWhile (· != c) = c :: post := by
    rw [List.dropWhile_append_of_pos h1]; simp
  unfold cutF
  rw [if_pos (by simp), e1, e2]; rfl
set_option maxRecDepth 8000 in
theorem bcut_calls (o o' : Bool) (l : List UInt8) (c : UInt8) (hl : l.length ≤ 1000000) (σ : Store) :
    ACalls Try.prog 44 [.list o 1 (bytesA l), .list o' 1 (bytesA [c])] σ fun v σ' => v = .tuple [.list false 1 (bytesA (cutF l c).1), .list false 1 (bytesA (cutF l c).2.1), .lit (.bool (cutF l c).2.2)] ∧ σ' = σ := by
  have hix := fun τ => index_calls false false l c τ
  refine ACalls.of_awp follows (st := st44) (plans := pl44) (n := 23) Try.func44 rfl (by kernel_rfl) (by kernel_rfl) (by kernel_rfl) ?_
  by_cases hm : c ∈ l
  · obtain ⟨pre, post, rfl, h2, h3⟩ := indexByte_split l c (List.count_pos_iff.2 hm)
    rw [cutF_split h2]
    rw [h3] at hix
    have ht : (bytesA (pre ++ c :: post)).take pre.length = bytesA pre := by rw [bytesA_take]; simp
    have hd : (bytesA (pre ++ c :: post)).drop (pre.length + 1) = bytesA post := by
      rw [bytesA_drop]; simp
    have hw : IntKind.i64.wrap ((pre.length : Int) + 1) = ((pre.length + 1 : Nat) : Int) := wrap_i64 (by simp at hl; omega) (by simp at hl; omega)
    have hc1 : bytesA [c] = [byteA c] := rfl
    have hln : (bytesA (pre ++ c :: post)).length = pre.length + (post.length + 1) := by simp
    have hle : pre.length ≤ (bytesA (pre ++ c :: post)).length := by omega
    have hle2 : pre.length + 1 ≤ (bytesA (pre ++ c :: post)).length := by omega
    have hl1 : (bytesA [c]).length = 1 := rfl
    have hp : (0 : Int) ≤ (pre.length : Int) + 1 := by omega
    generalize bytesA (pre ++ c :: post) = L at *
    simp
    refine callK.of (hix _) ?_
    rintro v σ' ⟨rfl, rfl⟩
    simp [hl1, hw, hle, hle2, ht, hd, hp]
  · have hno := (ixByte_mem l c).2 hm
    rw [hno] at hix
    have hcf : cutF l c = (l, [], false) := if_neg hm
    rw [hcf]
    simp
    refine callK.of (hix _) ?_
    rintro v σ' ⟨rfl, rfl⟩
    simp [bytesA]
    exact AV.le_tuple ⟨AV.le1_list _ _ _, AV.le1_list _ _ _, AV.le1_refl _, trivial⟩
/-- Is it a name? -/
def okN (b : UInt8) : Bool := decide (33 ≤ b.toNat) && decide (b.toNat ≤ 126)
def nameS (l : List UInt8) : Bool := l.all okN && !l.isEmpty && decide (l.length ≤ 40)
theorem str_size (l : List UInt8) : (ByteArray.mk l.toArray).size = l.length := by simp [ByteArray.size]
set_option maxRecDepth 8000 in
theorem name_calls (l : List UInt8) (hl : l.length ≤ 1000000) (σ : Store) : ACalls Try.prog 26 [strS l] σ fun v σ' => v = .lit (.bool (nameS l)) ∧ σ' = σ := by
  have hsz := str_size l
  refine ACalls.of_awp follows (st := st26) (plans := pl26) (n := 27) Try.func26 rfl (by kernel_rfl) (by kernel_rfl) (by kernel_rfl) ?_
  simp [hsz]
  refine codeK.loop follows (st := st26) (plans := pl26) (X := Nat) (fun i => i ≤ l.length ∧ ∀ j (hj : j < l.length), j < i → okN l[j] = true)
    (fun i => [(0, strS l), (5, .lit (.int .i64 l.length)), (6, .lit (.int .i64 i))]) (fun _ => σ) (fun i => l.length - i) 0 (by kernel_rfl) (by simp) (by simp) (Store.sub_refl _) fun i hi => ?_
  obtain ⟨hi, hk⟩ := hi
  by_cases hlt : i < l.length
  · have hw : IntKind.i64.wrap ((i : Int) + 1) = ((i + 1 : Nat) : Int) := wrap_i64 (by omega) (by omega)
    have hg : l[i]? = some l[i] := List.getElem?_eq_getElem hlt
    have hlt' : (i : Int) < l.length := by omega
    have hnx : okN l[i] = true → ∀ j (hj : j < l.length), j < i + 1 → okN l[j] = true := fun h j hj hji => by
      by_cases e : j = i
      · subst e; exact h
      · exact hk j hj (by omega)
    have hno : okN l[i] = false → nameS l = false := fun h => by
      have : l.all okN = false := by rw [List.all_eq_false]; exact ⟨_, List.getElem_mem hlt, by simp [h]⟩
      simp [nameS, this]
    obtain ⟨b, hb⟩ : ∃ b, l[i] = b := ⟨_, rfl⟩
    have hgg : ∀ h : i < l.length, l[i]'h = b := fun _ => hb
    rw [hb] at hnx hno
    by_cases h1 : (b.toNat : Int) < 33
    · have := hno (by unfold okN; simp; omega)
      simp [hlt, hlt', hgg, h1, this]
    · have h1' : (33 : Int) ≤ (b.toNat : Int) := by omega
      by_cases h2 : (126 : Int) < (b.toNat : Int)
      · have := hno (by unfold okN; simp; omega)
        simp [hlt, hlt', hgg, h1, h1', h2, this]
      · have h2' : (b.toNat : Int) ≤ 126 := by omega
        have := hnx (by unfold okN; simp; omega)
        simp [hlt, hlt', hgg, h1, h1', h2, h2']
        exact ⟨i + 1, ⟨by omega, this⟩, by omega, by rw [hw]; exact AV.le_refl _⟩
  · obtain rfl : i = l.length := by omega
    have hall : l.all okN = true := by
      rw [List.all_eq_true]
      intro x hx
      obtain ⟨j, hj, rfl⟩ := List.getElem_of_mem hx
      exact hk j hj hj
    by_cases hnil : l = []
    · subst hnil; simp [nameS]
    · have he : l.isEmpty = false := by simpa using hnil
      have h40 : decide ((l.length : Int) ≤ 40) = decide (l.length ≤ 40) := by rw [decide_eq_decide]; omega
      have hnm : nameS l = decide (l.length ≤ 40) := by simp [nameS, hall, he]
      rw [hnm]
      simp [hnil, hsz, h40]
end Go.Proofs.Ytlhfhanmbdncdaa
/-
  A device's answer; lists in which each byte comes once, lists that rise.
-/
namespace Go.Proofs.Ytlhfhanmbdncdaa
open Go Go.AL

def gotF (l : List UInt8) : List UInt8 × Bool := ((cutF l 1).2.1, (cutF l 1).2.2 && nameS (cutF l 1).1 && nameS (cutF l 1).2.1)
theorem cutF_len (l : List UInt8) (c : UInt8) : (cutF l c).1.length ≤ l.length ∧ (cutF l c).2.1.length ≤ l.length := by
  unfold cutF
  split
  · have h1 := (List.takeWhile_sublist (l := l) (· != c)).length_le
    have h2 := (List.dropWhile_sublist (l := l) (· != c)).length_le
    simp only [List.length_tail]
    omega
  · simp
set_option maxRecDepth 8000 in
theorem got_calls (o : Bool) (l : List UInt8) (hl : l.length ≤ 1000000) (σ : Store) : ACalls Try.prog 37 [.list o 1 (bytesA l)] σ fun v σ' => v = .tuple [strS (gotF l).1, .lit (.bool (gotF l).2)] ∧ σ' = σ := by
  have hcu := fun τ => bcut_calls false true l 1 hl τ
  obtain ⟨k1, k2⟩ := cutF_len l 1
  have hb1 : bytesA [1] = [.lit (.int .u8 1)] := rfl
  have hn1 := fun τ => name_calls (cutF l 1).1 (by omega) τ
  have hn2 := fun τ => name_calls (cutF l 1).2.1 (by omega) τ
  unfold gotF
  generalize cutF l 1 = C at *
  obtain ⟨a, b, ok⟩ := C
  dsimp only at *
  rw [hb1] at hcu
  have ha := bytesOf_bytesA a
  have hb := bytesOf_bytesA b
  refine ACalls.of_awp follows (st := st37) (plans := pl37) (n := 27) Try.func37 rfl (by kernel_rfl) (by kernel_rfl) (by kernel_rfl) ?_
  simp
  refine callK.of (hcu _) ?_
  rintro v σ' ⟨rfl, rfl⟩
  cases ok
  · simp [ha, hb]
  · simp [ha, hb]
    refine callK.of (hn1 _) ?_
    rintro v σ' ⟨rfl, rfl⟩
    cases h1 : nameS a
    · simp [hb]
    · simp [hb]
      refine callK.of (hn2 _) ?_
      rintro v σ' ⟨rfl, rfl⟩
      simp
set_option maxRecDepth 8000 in
theorem once_calls (o : Bool) (l : List UInt8) (hl : l.length ≤ 1000000) (σ : Store) : ACalls Try.prog 39 [.list o 1 (bytesA l)] σ fun v σ' => v = .lit (.bool (decide l.Nodup)) ∧ σ' = σ := by
  refine ACalls.of_awp follows (st := st39) (plans := pl39) (n := 19) Try.func39 rfl (by kernel_rfl) (by kernel_rfl) (by kernel_rfl) ?_
  simp
  refine codeK.loop follows (st := st39) (plans := pl39) (X := Nat) (fun i => i ≤ l.length ∧ (l.take i).Nodup)
    (fun i => [(0, .list false 1 (bytesA l)), (5, .list false 1 (bytesA l)), (6, .lit (.int .i64 l.length)), (7, .lit (.int .i64 i))]) (fun _ => σ) (fun i => l.length - i) 0 (by kernel_rfl) (by simp) (by simp) (Store.sub_refl _) fun i hi => ?_
  obtain ⟨hi, hk⟩ := hi
  by_cases hlt : i < l.length
  · have hw : IntKind.i64.wrap ((i : Int) + 1) = ((i + 1 : Nat) : Int) := wrap_i64 (by omega) (by omega)
    have hlt' : (i : Int) < l.length := by omega
    obtain ⟨b, hb⟩ : ∃ b, l[i] = b := ⟨_, rfl⟩
    have hg : ∀ h : i < (bytesA l).length, (bytesA l)[i]'h = .lit (.int .u8 b.toNat) := fun h => by
      rw [List.getElem_eq_iff, bytesA_get, List.getElem?_eq_getElem hlt, hb]; rfl
    have ht : (bytesA l).take i = bytesA (l.take i) := bytesA_take l i
    have hix := fun τ => indexByte_calls false (l.take i) b τ
    obtain ⟨h1, h2⟩ := ixByte_mem (l.take i) b
    have hts := List.take_succ_eq_append_getElem hlt
    rw [hb] at hts
    have hyes : b ∉ l.take i → (l.take (i + 1)).Nodup := fun h => by
      rw [hts, List.nodup_append]
      exact ⟨hk, by simp, fun x hx y hy => by simp at hy; rintro rfl; subst hy; exact h hx⟩
    have hno : b ∈ l.take i → ¬ l.Nodup := fun h hn => by
      have hn2 : (l.take (i + 1)).Nodup := hn.sublist (List.take_sublist _ _)
      rw [hts, List.nodup_append] at hn2
      exact hn2.2.2 b h b (by simp) rfl
    simp [hlt, hlt', hg, ht, hi]
    refine callK.of (hix _) ?_
    rintro v σ' ⟨rfl, rfl⟩
    by_cases hm : b ∈ l.take i
    · have h3 : ¬ Lib.indexByte (l.take i) b < 0 := fun h => h1.1 h hm
      have h4 : 0 ≤ Lib.indexByte (l.take i) b := by omega
      simp [h4, hno hm]
    · have h3 := h2 hm
      simp [h3]
      exact ⟨i + 1, ⟨by omega, hyes hm⟩, by omega, by rw [hw]; exact AV.le_refl _⟩
  · obtain rfl : i = l.length := by omega
    rw [List.take_length] at hk
    simp [hk]
/-- Does a list rise, and is each a function? -/
def riseAt (l : List UInt8) (i : Nat) : Prop := (l[i]?.getD 0).toNat ≤ 4 ∧ (0 < i → (l[i - 1]?.getD 0).toNat < (l[i]?.getD 0).toNat)
instance (l : List UInt8) (i : Nat) : Decidable (riseAt l i) := by unfold riseAt; infer_instance
def Rises (l : List UInt8) : Prop := ∀ i, i < l.length → riseAt l i
instance (l : List UInt8) : Decidable (Rises l) := by unfold Rises; infer_instance
set_option maxRecDepth 8000 in
theorem rises_calls (o : Bool) (l : List UInt8) (hl : l.length ≤ 1000000) (σ : Store) : ACalls Try.prog 27 [.list o 1 (bytesA l)] σ fun v σ' => v = .lit (.bool (decide (Rises l))) ∧ σ' = σ := by
  refine ACalls.of_awp follows (st := st27) (plans := pl27) (n := 28) Try.func27 rfl (by kernel_rfl) (by kernel_rfl) (by kernel_rfl) ?_
  simp
  refine codeK.loop follows (st := st27) (plans := pl27) (X := Nat) (fun i => i ≤ l.length ∧ ∀ j, j < i → riseAt l j)
    (fun i => [(0, .list false 1 (bytesA l)), (5, .list false 1 (bytesA l)), (6, .lit (.int .i64 l.length)), (7, .lit (.int .i64 i))]) (fun _ => σ) (fun i => l.length - i) 0 (by kernel_rfl) (by simp) (by simp) (Store.sub_refl _) fun i hi => ?_
  obtain ⟨hi, hk⟩ := hi
  by_cases hlt : i < l.length
  · have hw : IntKind.i64.wrap ((i : Int) + 1) = ((i + 1 : Nat) : Int) := wrap_i64 (by omega) (by omega)
    have hlt' : (i : Int) < l.length := by omega
    obtain ⟨b, hb⟩ : ∃ b, l[i]? = some b := ⟨_, List.getElem?_eq_getElem hlt⟩
    have hg : ∀ h : i < (bytesA l).length, (bytesA l)[i]'h = .lit (.int .u8 b.toNat) := fun h => by
      rw [List.getElem_eq_iff, bytesA_get, hb]; rfl
    have hat : riseAt l i ↔ b.toNat ≤ 4 ∧ (0 < i → (l[i - 1]?.getD 0).toNat < b.toNat) := by unfold riseAt; rw [hb]; rfl
    have hyes : riseAt l i → ∀ j, j < i + 1 → riseAt l j := fun h j hj => by
      by_cases e : j = i
      · subst e; exact h
      · exact hk j (by omega)
    have hno : ¬ riseAt l i → ¬ Rises l := fun h hr => h (hr i hlt)
    by_cases h4 : b.toNat ≤ 4
    · have h4' : ¬ (4 : Int) < (b.toNat : Int) := by omega
      by_cases h0 : i = 0
      · subst h0
        simp [hlt, hg, h4, h4']
        exact ⟨1, ⟨by omega, hyes (hat.2 ⟨h4, by omega⟩)⟩, by omega, by rw [show (1 : Int) = ((0 + 1 : Nat) : Int) from rfl]; exact AV.le_refl _⟩
      · have h0' : (0 : Int) < (i : Int) := by omega
        have hw2 : IntKind.i64.wrap ((i : Int) - 1) = ((i - 1 : Nat) : Int) := by rw [wrap_i64 (by omega) (by omega)]; omega
        obtain ⟨d, hd⟩ : ∃ d, l[i - 1]? = some d := ⟨_, List.getElem?_eq_getElem (by omega)⟩
        have hg2 : ∀ h : i - 1 < (bytesA l).length, (bytesA l)[i - 1]'h = .lit (.int .u8 d.toNat) := fun h => by
          rw [List.getElem_eq_iff, bytesA_get, hd]; rfl
        rw [hd] at hat
        have hil : i - 1 < l.length := by omega
        by_cases h5 : d.toNat < b.toNat
        · have h5' : ¬ (b.toNat : Int) ≤ (d.toNat : Int) := by omega
          simp [hlt, hlt', hg, h4, h4', h0', show 0 < i by omega, hw2, hg2, hil, h5']
          exact ⟨i + 1, ⟨by omega, hyes (hat.2 ⟨h4, fun _ => h5⟩)⟩, by omega, by rw [hw]; exact AV.le_refl _⟩
        · have h5' : (b.toNat : Int) ≤ (d.toNat : Int) := by omega
          have hn := hno fun h => h5 ((hat.1 h).2 (by omega))
          simp [hlt, hlt', hg, h4, h4', h0', show 0 < i by omega, hw2, hg2, hil, h5', hn]
    · have h4' : (4 : Int) < (b.toNat : Int) := by omega
      have hn := hno fun h => h4 (hat.1 h).1
      simp [hlt, hlt', hg, h4', show 4 < b.toNat by omega, hn]
  · obtain rfl : i = l.length := by omega
    have hr : Rises l := hk
    simp [hr]
end Go.Proofs.Ytlhfhanmbdncdaa
