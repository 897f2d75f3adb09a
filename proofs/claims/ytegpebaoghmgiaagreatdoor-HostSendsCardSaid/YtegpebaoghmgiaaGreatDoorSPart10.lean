/-
  Of each function: which temporaries take a right to append with the value; the plans of the regions that draw their order. Written by a program of mine.
-/
import Derived.Test.YtegpebaoghmgiaaGreatDoorSPart9
set_option linter.unusedSimpArgs false
set_option linter.unusedVariables false
namespace Go.Proofs.YtegpebaoghmgiaaGreatDoor
open Go Go.AL
@[simp] def pl3 : List (Nat × Plan) := [(34, Plan.seq [0, 2, 3, 4, 5] (.alt (Plan.seq [1, 6, 7, 8, 9, 10, 11, 12, 13, 14, 15, 16, 17, 18, 19, 20, 21, 22, 23] (.done)) (Plan.seq [6, 1, 7, 8, 9, 10, 11, 12, 13, 14, 15, 16, 17, 18, 19, 20, 21, 22, 23] (.done))))]
@[simp] def st4 : List Nat := []
@[simp] def pl4 : List (Nat × Plan) := []
@[simp] def st5 : List Nat := [12]
@[simp] def pl5 : List (Nat × Plan) := []
@[simp] def st6 : List Nat := []
@[simp] def pl6 : List (Nat × Plan) := []
@[simp] def st7 : List Nat := []
@[simp] def pl7 : List (Nat × Plan) := []
@[simp] def pl8 : List (Nat × Plan) := []
@[simp] def pl9 : List (Nat × Plan) := []
@[simp] def pl10 : List (Nat × Plan) := []
@[simp] def st11 : List Nat := []
@[simp] def pl11 : List (Nat × Plan) := []
@[simp] def st12 : List Nat := []
@[simp] def pl12 : List (Nat × Plan) := []
@[simp] def st13 : List Nat := []
@[simp] def pl13 : List (Nat × Plan) := []
@[simp] def pl14 : List (Nat × Plan) := []
@[simp] def st15 : List Nat := []
@[simp] def pl15 : List (Nat × Plan) := []
@[simp] def st16 : List Nat := [41, 42, 49]
@[simp] def pl16 : List (Nat × Plan) := [(5, Plan.seq [0] (.alt (Plan.seq [1, 2, 3, 4, 5] (.done)) (Plan.seq [2, 1, 3, 4, 5] (.done))))]
@[simp] def st17 : List Nat := []
@[simp] def pl17 : List (Nat × Plan) := []
@[simp] def pl18 : List (Nat × Plan) := []
@[simp] def st19 : List Nat := []
@[simp] def pl19 : List (Nat × Plan) := []
@[simp] def st20 : List Nat := []
@[simp] def pl20 : List (Nat × Plan) := []
@[simp] def st21 : List Nat := []
@[simp] def pl21 : List (Nat × Plan) := []
@[simp] def st22 : List Nat := []
@[simp] def pl22 : List (Nat × Plan) := []
@[simp] def st23 : List Nat := []
@[simp] def pl23 : List (Nat × Plan) := []
@[simp] def st24 : List Nat := [12, 18, 23]
@[simp] def pl24 : List (Nat × Plan) := []
@[simp] def pl25 : List (Nat × Plan) := []
@[simp] def st26 : List Nat := []
@[simp] def pl26 : List (Nat × Plan) := []
@[simp] def st27 : List Nat := []
@[simp] def pl27 : List (Nat × Plan) := []
@[simp] def st28 : List Nat := []
@[simp] def pl28 : List (Nat × Plan) := []
@[simp] def st29 : List Nat := [28]
@[simp] def pl29 : List (Nat × Plan) := []
@[simp] def st30 : List Nat := [42, 54, 74, 81]
@[simp] def pl30 : List (Nat × Plan) := [(13, Plan.seq [0, 1, 2, 3, 4] (.alt (Plan.seq [5, 6, 7, 8, 9] (.done)) (Plan.seq [7, 5, 6, 8, 9] (.done))))]
@[simp] def st32 : List Nat := []
@[simp] def pl32 : List (Nat × Plan) := []
@[simp] def st33 : List Nat := []
@[simp] def pl33 : List (Nat × Plan) := []
@[simp] def pl34 : List (Nat × Plan) := [(3, Plan.tail 9 (Plan.seq [0, 1, 2, 3, 5, 6, 7] (.alt (Plan.seq [4, 8] (.done)) (Plan.seq [8, 4] (.done)))))]
@[simp] def st35 : List Nat := []
@[simp] def pl35 : List (Nat × Plan) := []
@[simp] def st36 : List Nat := []
@[simp] def pl36 : List (Nat × Plan) := []
@[simp] def st37 : List Nat := []
@[simp] def pl37 : List (Nat × Plan) := []
@[simp] def st38 : List Nat := [19, 47]
@[simp] def pl38 : List (Nat × Plan) := []
@[simp] def st39 : List Nat := [41, 45]
@[simp] def pl39 : List (Nat × Plan) := []
@[simp] def st40 : List Nat := []
@[simp] def pl40 : List (Nat × Plan) := []
@[simp] def st41 : List Nat := []
@[simp] def pl41 : List (Nat × Plan) := []
@[simp] def st42 : List Nat := []
@[simp] def pl42 : List (Nat × Plan) := [(3, Plan.seq [0, 1, 2, 4, 7, 8] (.alt (.alt (Plan.seq [3, 9] (.alt (Plan.seq [5, 6, 10, 11, 12] (.done)) (Plan.seq [10, 5, 6, 11, 12] (.done)))) (Plan.seq [5] (.alt (Plan.seq [3, 6, 9, 10, 11, 12] (.done)) (Plan.seq [9, 3, 6, 10, 11, 12] (.done))))) (Plan.seq [9] (.alt (Plan.seq [3] (.alt (Plan.seq [5, 6, 10, 11, 12] (.done)) (Plan.seq [10, 5, 6, 11, 12] (.done)))) (Plan.seq [5, 3, 6, 10, 11, 12] (.done))))))]
@[simp] def st43 : List Nat := [22, 23, 27]
@[simp] def pl43 : List (Nat × Plan) := []
@[simp] def st44 : List Nat := []
@[simp] def pl44 : List (Nat × Plan) := []
@[simp] def pl45 : List (Nat × Plan) := [(6, Plan.tail 12 (Plan.seq [0, 1, 2, 3, 4, 5, 6, 7, 8, 10] (.alt (Plan.seq [9, 11] (.done)) (Plan.seq [11, 9] (.done)))))]
@[simp] def st46 : List Nat := []
@[simp] def pl46 : List (Nat × Plan) := []
@[simp] def st47 : List Nat := []
@[simp] def pl47 : List (Nat × Plan) := []
@[simp] def st48 : List Nat := [37, 8]
@[simp] def pl48 : List (Nat × Plan) := []
@[simp] def st49 : List Nat := []
@[simp] def pl49 : List (Nat × Plan) := [(3, Plan.seq [0, 1, 2, 3, 4, 5, 6, 7, 8, 9, 10] (.done))]
@[simp] def st50 : List Nat := []
@[simp] def pl50 : List (Nat × Plan) := [(3, Plan.seq [0, 1, 2, 3, 4, 5, 6, 7, 8, 9, 10, 11, 12, 13, 14, 15, 16, 17, 18, 19, 20, 21] (.done)), (6, Plan.seq [1, 2] (.alt (Plan.seq [0, 3, 4, 5, 6] (.done)) (Plan.seq [3, 0, 4, 5, 6] (.done))))]
@[simp] def st51 : List Nat := []
@[simp] def pl51 : List (Nat × Plan) := []
@[simp] def st52 : List Nat := [13]
@[simp] def pl52 : List (Nat × Plan) := []
@[simp] def st53 : List Nat := []
@[simp] def pl53 : List (Nat × Plan) := []
@[simp] def st55 : List Nat := [22]
@[simp] def pl55 : List (Nat × Plan) := []
@[simp] def st56 : List Nat := [17]
@[simp] def pl56 : List (Nat × Plan) := []
@[simp] def st57 : List Nat := []
@[simp] def pl57 : List (Nat × Plan) := []
@[simp] def st58 : List Nat := [13]
@[simp] def pl58 : List (Nat × Plan) := []
@[simp] def st59 : List Nat := [67, 75, 78]
@[simp] def pl59 : List (Nat × Plan) := [(31, Plan.seq [0, 1, 2, 3, 4, 5, 6, 7, 8, 9, 10, 11, 12, 13] (.done))]
@[simp] def st60 : List Nat := []
@[simp] def pl60 : List (Nat × Plan) := [(15, Plan.seq [0, 1, 2, 3, 4, 5, 6, 7, 8, 9, 10] (.done)), (24, Plan.seq [0, 1, 2, 3, 4, 5, 6, 7, 8, 9, 10] (.done)), (28, Plan.seq [0, 1, 2, 3, 4, 5, 6, 7, 8, 9] (.done))]
@[simp] def st61 : List Nat := []
@[simp] def pl61 : List (Nat × Plan) := [(0, Plan.seq [4] (.alt (Plan.seq [0, 1, 2, 3] (.done)) (Plan.seq [1, 0, 2, 3] (.done))))]
@[simp] def st62 : List Nat := []
@[simp] def pl62 : List (Nat × Plan) := []
@[simp] def st63 : List Nat := [29, 25, 29]
@[simp] def pl63 : List (Nat × Plan) := []
@[simp] def st64 : List Nat := []
@[simp] def pl64 : List (Nat × Plan) := []
@[simp] def st65 : List Nat := []
@[simp] def pl65 : List (Nat × Plan) := []
@[simp] def st66 : List Nat := [29]
@[simp] def pl66 : List (Nat × Plan) := []
@[simp] def st67 : List Nat := []
@[simp] def pl67 : List (Nat × Plan) := []
@[simp] def st69 : List Nat := [9]
@[simp] def pl69 : List (Nat × Plan) := []
@[simp] def st70 : List Nat := [15]
@[simp] def pl70 : List (Nat × Plan) := []
@[simp] def st71 : List Nat := [15]
@[simp] def pl71 : List (Nat × Plan) := []
@[simp] def st72 : List Nat := [26]
@[simp] def pl72 : List (Nat × Plan) := []
@[simp] def st73 : List Nat := [106, 175]
@[simp] def pl73 : List (Nat × Plan) := []
@[simp] def st75 : List Nat := [17]
@[simp] def pl75 : List (Nat × Plan) := []
@[simp] def st76 : List Nat := [12]
@[simp] def pl76 : List (Nat × Plan) := [(1, Plan.seq [0, 1, 2, 3, 5, 6, 7] (.alt (Plan.seq [4, 8, 9, 10, 11, 12, 13, 14] (.done)) (Plan.seq [8, 9] (.alt (Plan.seq [4, 10, 11, 12, 13, 14] (.done)) (Plan.seq [10, 4, 11, 12, 13, 14] (.done))))))]
@[simp] def st77 : List Nat := []
@[simp] def pl77 : List (Nat × Plan) := []
@[simp] def st78 : List Nat := []
@[simp] def pl78 : List (Nat × Plan) := []
@[simp] def st79 : List Nat := []
@[simp] def pl79 : List (Nat × Plan) := [(13, Plan.seq [0, 1, 2, 3, 4, 5, 6, 7, 8, 9] (.done))]
@[simp] def st80 : List Nat := []
@[simp] def pl80 : List (Nat × Plan) := []
@[simp] def st81 : List Nat := [25, 26, 34]
@[simp] def pl81 : List (Nat × Plan) := []
@[simp] def st84 : List Nat := []
@[simp] def pl84 : List (Nat × Plan) := []
@[simp] def st90 : List Nat := [15]
@[simp] def pl90 : List (Nat × Plan) := []
@[simp] def st91 : List Nat := [10]
@[simp] def pl91 : List (Nat × Plan) := [(2, Plan.seq [0, 1, 2, 3] (.alt (Plan.seq [4, 5, 6, 7, 8, 9, 10] (.done)) (Plan.seq [5] (.alt (Plan.seq [4, 6, 7, 8, 9, 10] (.done)) (Plan.seq [6, 4, 7, 8, 9, 10] (.done))))))]
@[simp] def st92 : List Nat := [20]
@[simp] def pl92 : List (Nat × Plan) := []
@[simp] def st93 : List Nat := []
@[simp] def pl93 : List (Nat × Plan) := [(0, Plan.seq [0, 1, 2, 3, 4, 5, 6, 7, 8, 9, 10, 11, 12, 13, 14, 15] (.done))]
@[simp] def st94 : List Nat := []
@[simp] def pl94 : List (Nat × Plan) := []
@[simp] def st96 : List Nat := []
@[simp] def pl96 : List (Nat × Plan) := []
end Go.Proofs.YtegpebaoghmgiaaGreatDoor
/-
  What bytes and events are as abstract values; the reader's pure model.
-/
namespace Go.Proofs.YtegpebaoghmgiaaGreatDoor
open Go Go.AL

theorem follows : Tryz.prog.follows .mixedOrders = true := by kernel_rfl

def byteA (b : UInt8) : AV := .lit (.int .u8 (b.toNat : Int))
def bytesA (l : List UInt8) : List AV := l.map byteA
@[simp] theorem bytesA_length (l : List UInt8) : (bytesA l).length = l.length := by simp [bytesA]
/-- A place and the characters from there on. -/
structure En where
  addr : Int
  text : List UInt8
  deriving DecidableEq
/-- What came. -/
structure Rp where
  aid : UInt8
  short : Bool
  cursor : Int
  es : List En
  deriving DecidableEq
def enA (e : En) : AV := .agg [.lit (.int .i64 e.addr), .list false 1 (bytesA e.text)]
def ensA (l : List En) : List AV := l.map enA
@[simp] theorem ensA_length (l : List En) : (ensA l).length = l.length := by simp [ensA]
def rpA (r : Rp) : AV := .agg [byteA r.aid, .lit (.bool r.short), .lit (.int .i64 r.cursor), .list false 2 (ensA r.es)]

/-- A row of bytes that is an object. -/
def rowA (p cap : Nat) (l : List UInt8) : AV := .lit (.slice (some ⟨p, 0, none⟩) l.length cap)

end Go.Proofs.YtegpebaoghmgiaaGreatDoor
/-
  Codes: six bits as a byte, addresses, which bytes are orders.
-/
namespace Go.Proofs.YtegpebaoghmgiaaGreatDoor
open Go Go.AL

theorem bytesA_append (l k : List UInt8) : bytesA (l ++ k) = bytesA l ++ bytesA k := by simp [bytesA]
theorem bytesA_nil : bytesA [] = [] := rfl
theorem clone_calls (o : Bool) (l : List UInt8) (σ : Store) (hl : l.length ≤ 140737488355328) :
    ACalls Tryz.prog 65 [.list o 1 (bytesA l)] σ fun v σ' => v = .list true 1 (bytesA l) ∧ σ' = σ := by
  refine ACalls.of_awp follows (st := st65) (plans := pl65) (n := 8) Tryz.func65 rfl (by kernel_rfl) (by kernel_rfl) (by kernel_rfl) ?_
  simp
  refine ⟨⟨by omega, by omega⟩, fun h => ?_⟩
  rw [h]; exact AV.le_refl _


def isOrd (b : UInt8) : Bool := [5, 8, 17, 18, 19, 29, 40, 41, 44, 60].contains b.toNat
def nameB (k : Nat) : ByteArray := if k = 0 then ⟨#[84, 101, 120, 116]⟩ else if k = 5 then ⟨#[80, 84]⟩ else if k = 8 then ⟨#[71, 69]⟩ else if k = 17 then ⟨#[83, 66, 65]⟩ else if k = 18 then ⟨#[69, 85, 65]⟩ else if k = 19 then ⟨#[73, 67]⟩ else if k = 29 then ⟨#[83, 70]⟩ else if k = 40 then ⟨#[83, 65]⟩ else if k = 41 then ⟨#[83, 70, 69]⟩ else if k = 44 then ⟨#[77, 70]⟩ else if k = 60 then ⟨#[82, 65]⟩ else ⟨#[]⟩

set_option maxRecDepth 4000 in
theorem name_calls (k : Nat) (σ : Store) : ACalls Tryz.prog 57 [.lit (.int .i64 k)] σ fun v σ' => v = .lit (.string (nameB k)) ∧ σ' = σ := by
  refine ACalls.of_awp follows (st := st57) (plans := pl57) (n := 26) Tryz.func57 rfl (by kernel_rfl) (by kernel_rfl) (by kernel_rfl) ?_
  by_cases h0 : k = 0
  · subst h0; simp [nameB]
  by_cases h5 : k = 5
  · subst h5; simp [nameB]
  have g5 : ¬ (k : Int) = 5 := by omega
  by_cases h8 : k = 8
  · subst h8; simp [nameB]
  have g8 : ¬ (k : Int) = 8 := by omega
  by_cases h17 : k = 17
  · subst h17; simp [nameB]
  have g17 : ¬ (k : Int) = 17 := by omega
  by_cases h18 : k = 18
  · subst h18; simp [nameB]
  have g18 : ¬ (k : Int) = 18 := by omega
  by_cases h19 : k = 19
  · subst h19; simp [nameB]
  have g19 : ¬ (k : Int) = 19 := by omega
  by_cases h29 : k = 29
  · subst h29; simp [nameB]
  have g29 : ¬ (k : Int) = 29 := by omega
  by_cases h40 : k = 40
  · subst h40; simp [nameB]
  have g40 : ¬ (k : Int) = 40 := by omega
  by_cases h41 : k = 41
  · subst h41; simp [nameB]
  have g41 : ¬ (k : Int) = 41 := by omega
  by_cases h44 : k = 44
  · subst h44; simp [nameB]
  have g44 : ¬ (k : Int) = 44 := by omega
  by_cases h60 : k = 60
  · subst h60; simp [nameB]
  have g60 : ¬ (k : Int) = 60 := by omega
  simp [nameB, h0, h5, h8, h17, h18, h19, h29, h40, h41, h44, h60, g5, g8, g17, g18, g19, g29, g40, g41, g44, g60]

theorem all_bytes {p : UInt8 → Prop} (h : ∀ n : Fin 256, p (UInt8.ofNat n.val)) (b : UInt8) : p b := by
  have := h ⟨b.toNat, b.toNat_lt⟩
  simpa using this
theorem wrapB (b : UInt8) : IntKind.i64.wrap (b.toNat : Int) = (b.toNat : Int) := by have := b.toNat_lt; exact wrap_i64 (by omega) (by omega)
theorem ord_name (b : UInt8) : b.toNat ≠ 0 → (!(nameB b.toNat).toList.isEmpty) = isOrd b :=
  all_bytes (p := fun b => b.toNat ≠ 0 → (!(nameB b.toNat).toList.isEmpty) = isOrd b) (by decide +kernel) b

set_option maxRecDepth 4000 in
theorem is_calls (b : UInt8) (σ : Store) : ACalls Tryz.prog 41 [byteA b] σ fun v σ' => v = .lit (.bool (isOrd b)) ∧ σ' = σ := by
  refine ACalls.of_awp follows (st := st41) (plans := pl41) (n := 11) Tryz.func41 rfl (by kernel_rfl) (by kernel_rfl) (by kernel_rfl) ?_
  by_cases h0 : b.toNat = 0
  · have : isOrd b = false := by simp [isOrd, h0]
    simp [byteA, h0, this]
  · have h1 := ord_name b h0
    simp [byteA, h0, wrapB]
    refine callK.of (name_calls b.toNat σ) ?_
    rintro v σ' ⟨rfl, rfl⟩
    simp [h0, h1]

theorem fdiv16 (n : Nat) : (n : Int).fdiv (2 ^ min 4 IntKind.i64.bits) = ((n / 16 : Nat) : Int) := by cases n <;> rfl
theorem fdiv64 (n : Nat) : (n : Int).fdiv (2 ^ min 6 IntKind.i64.bits) = ((n / 64 : Nat) : Int) := by cases n <;> rfl
def zm (q : Nat) : UInt8 := if q = 0 then 64 else if q = 1 then 80 else if q = 2 then 96 else 112
def zl (q : Nat) : UInt8 := if q = 0 then 192 else if q = 1 then 208 else if q = 2 then 224 else 240
def zf (q : Nat) : Nat := if q = 0 then 1 else if q = 1 then 1 else if q = 2 then 2 else 0
set_option maxRecDepth 4000 in
theorem zone_calls (r : Nat) (σ : Store) : ACalls Tryz.prog 77 [.lit (.int .i64 r)] σ fun v σ' => v = .tuple [byteA (zm (r / 16)), byteA (zl (r / 16)), .lit (.int .i64 (zf (r / 16))), .lit (.int .i64 9)] ∧ σ' = σ := by
  refine ACalls.of_awp follows (st := st77) (plans := pl77) (n := 14) Tryz.func77 rfl (by kernel_rfl) (by kernel_rfl) (by kernel_rfl) ?_
  obtain ⟨q, hq⟩ : ∃ q, r / 16 = q := ⟨_, rfl⟩
  have hf : (r : Int).fdiv (2 ^ min 4 IntKind.i64.bits) = (q : Int) := by rw [fdiv16, hq]
  rw [hq]
  clear hq
  by_cases h0 : q = 0
  · subst h0; simp [hf, zm, zl, zf, byteA]
  · by_cases h1 : q = 1
    · subst h1; simp [hf, zm, zl, zf, byteA]
    · by_cases h2 : q = 2
      · subst h2; simp [hf, zm, zl, zf, byteA]
      · have e1 : ¬ (q : Int) = 1 := by omega
        have e2 : ¬ (q : Int) = 2 := by omega
        simp [hf, h0, h1, h2, e1, e2, zm, zl, zf, byteA]

/-- Six bits, as a byte. -/
def sixR (r : Nat) : UInt8 := if zf (r / 16) ≤ r % 16 ∧ r % 16 ≤ 9 then zl (r / 16) ||| UInt8.ofNat (r % 16) else zm (r / 16) ||| UInt8.ofNat (r % 16)
def six (n : Nat) : UInt8 := sixR (n % 64)
theorem and63 (n : Nat) (hn : n < 4096) : pureBin .and (.int .i64 (n : Int)) (.int .i64 63) = some (.int .i64 ((n % 64 : Nat) : Int)) := by
  have e3 : n &&& 63 = n % 64 := Nat.and_two_pow_sub_one_eq_mod n 6
  have := and_i64 n 63 (by omega) (by omega)
  rw [e3] at this; exact this
theorem and15 (n : Nat) (hn : n < 4096) : pureBin .and (.int .i64 (n : Int)) (.int .i64 15) = some (.int .i64 ((n % 16 : Nat) : Int)) := by
  have e3 : n &&& 15 = n % 16 := Nat.and_two_pow_sub_one_eq_mod n 4
  have := and_i64 n 15 (by omega) (by omega)
  rw [e3] at this; exact this

set_option maxRecDepth 4000 in
theorem six_calls (n : Nat) (hn : n < 4096) (σ : Store) : ACalls Tryz.prog 67 [.lit (.int .i64 n)] σ fun v σ' => v = byteA (six n) ∧ σ' = σ := by
  refine ACalls.of_awp follows (st := st67) (plans := pl67) (n := 35) Tryz.func67 rfl (by kernel_rfl) (by kernel_rfl) (by kernel_rfl) ?_
  obtain ⟨r, hr⟩ : ∃ r, n % 64 = r := ⟨_, rfl⟩
  have h1 := and63 n hn
  rw [hr] at h1
  have hr64 : r < 64 := by omega
  have h2 := and15 r (by omega)
  obtain ⟨d, hd⟩ : ∃ d, r % 16 = d := ⟨_, rfl⟩
  rw [hd] at h2
  have hd16 : d < 16 := by omega
  have hz := zone_calls r σ
  obtain ⟨M, hM⟩ : ∃ M, zm (r / 16) = M := ⟨_, rfl⟩
  obtain ⟨L, hL⟩ : ∃ L, zl (r / 16) = L := ⟨_, rfl⟩
  obtain ⟨F, hF⟩ : ∃ F, zf (r / 16) = F := ⟨_, rfl⟩
  obtain ⟨X, hX⟩ : ∃ X, six n = X := ⟨_, rfl⟩
  obtain ⟨B, hB⟩ : ∃ B, UInt8.ofNat d = B := ⟨_, rfl⟩
  have hdB : IntKind.u8.wrap (d : Int) = (B.toNat : Int) := by
    rw [wrap_u8 (by omega) (by omega), ← hB, UInt8.toNat_ofNat']; omega
  have hX1 : F ≤ d ∧ d ≤ 9 → L ||| B = X := fun h => by
    rw [← hX, six, hr, sixR, hF, hd, if_pos h, hL, hB]
  have hX2 : ¬ (F ≤ d ∧ d ≤ 9) → M ||| B = X := fun h => by
    rw [← hX, six, hr, sixR, hF, hd, if_neg h, hM, hB]
  rw [hM, hL, hF] at hz
  rw [hX]
  by_cases c1 : F ≤ d
  · by_cases c2 : d ≤ 9
    · have c2' : (d : Int) ≤ 9 := Int.ofNat_le.2 c2
      have e := hX1 ⟨c1, c2⟩
      simp [-e_pureBin_8, h1]
      refine callK.of hz ?_
      rintro v σ' ⟨rfl, rfl⟩
      simp [-e_pureBin_8, -e_pureBin_9, or_u8, h2, c1, c2', byteA, hdB, e]
    · have c2' : ¬ (d : Int) ≤ 9 := fun h => c2 (Int.ofNat_le.1 h)
      have e := hX2 (fun h => c2 h.2)
      simp [-e_pureBin_8, h1]
      refine callK.of hz ?_
      rintro v σ' ⟨rfl, rfl⟩
      simp [-e_pureBin_8, -e_pureBin_9, or_u8, h2, c1, c2', byteA, hdB, e]
  · have e := hX2 (fun h => c1 h.1)
    simp [-e_pureBin_8, h1]
    refine callK.of hz ?_
    rintro v σ' ⟨rfl, rfl⟩
    simp [-e_pureBin_8, -e_pureBin_9, or_u8, h2, c1, byteA, hdB, e]
end Go.Proofs.YtegpebaoghmgiaaGreatDoor
/-
  The document's numbers: two hexadecimal digits; its table of six bits; which bytes are orders there.
-/
namespace Go.Proofs.YtegpebaoghmgiaaGreatDoor
open Go Go.AL

def dig (c : UInt8) : Nat := if 97 ≤ c.toNat then c.toNat - 97 + 10 else c.toNat - 48
@[simp] theorem wr0 : IntKind.i64.wrap 0 = 0 := by decide
@[simp] theorem wr1 : IntKind.i64.wrap 1 = 1 := by decide
@[simp] theorem wr2 : IntKind.i64.wrap 2 = 2 := by decide

def tabB : Array UInt8 := #[52, 48, 99, 49, 99, 50, 99, 51, 99, 52, 99, 53, 99, 54, 99, 55, 99, 56, 99, 57, 52, 97, 52, 98, 52, 99, 52, 100, 52, 101, 52, 102, 53, 48, 100, 49, 100, 50, 100, 51, 100, 52, 100, 53, 100, 54, 100, 55, 100, 56, 100, 57, 53, 97, 53, 98, 53, 99, 53, 100, 53, 101, 53, 102, 54, 48, 54, 49, 101, 50, 101, 51, 101, 52, 101, 53, 101, 54, 101, 55, 101, 56, 101, 57, 54, 97, 54, 98, 54, 99, 54, 100, 54, 101, 54, 102, 102, 48, 102, 49, 102, 50, 102, 51, 102, 52, 102, 53, 102, 54, 102, 55, 102, 56, 102, 57, 55, 97, 55, 98, 55, 99, 55, 100, 55, 101, 55, 102]
end Go.Proofs.YtegpebaoghmgiaaGreatDoor
/-
  Which bytes are orders, as the document has it; addresses' bytes.
-/
namespace Go.Proofs.YtegpebaoghmgiaaGreatDoor
open Go Go.AL

def kinds : List Nat := [0, 5, 8, 17, 18, 19, 29, 40, 41, 44, 60]
def kindsA : List AV := kinds.map fun (k : Nat) => .lit (.int .i64 (k : Int))
def namesA : List AV := kinds.map fun (k : Nat) => .lit (.string (nameB k))

/-- Two bytes of an address. -/
def encM (n : Nat) : List UInt8 := [six (n / 64), six n]
/-- Is it an address of twelve bits? -/
def okAddr (n : Int) : Prop := 0 ≤ n ∧ n < 4096
instance (n : Int) : Decidable (okAddr n) := inferInstanceAs (Decidable (_ ∧ _))
def encR (n : Int) : List AV := if okAddr n then [.list true 1 (bytesA (encM n.toNat)), .lit (.int .i64 0)] else [.list true 1 [], .lit (.int .i64 9)]

set_option maxRecDepth 4000 in
theorem enc_calls_ok (m q : Nat) (h2 : (m : Int).fdiv (2 ^ min 6 IntKind.i64.bits) = (q : Int)) (hm : m < 4096) (hq : q < 4096) (h6 : IntKind.i64.wrap (2 ^ min 12 IntKind.i64.bits) = 4096) (σ : Store) :
    ACalls Tryz.prog 80 [.lit (.int .i64 12), .lit (.int .i64 m)] σ fun v σ' => v = .tuple [.list true 1 (bytesA [six q, six m]), .lit (.int .i64 0)] ∧ σ' = σ := by
  refine ACalls.of_awp follows (st := st80) (plans := pl80) (n := 41) Tryz.func80 rfl (by kernel_rfl) (by kernel_rfl) (by kernel_rfl) ?_
  have h1 : ¬ ((4096 : Int) ≤ (m : Int)) := by omega
  have h5 : ((m : Int) < 0) = False := by simp
  have s1 := six_calls q hq
  have s2 := six_calls m hm
  generalize six q = x at *
  generalize six m = y at *
  simp [h1, h5, h6, h2]
  refine callK.of (s1 σ) ?_
  rintro v σ' ⟨rfl, rfl⟩
  simp [byteA]
  refine callK.of (s2 _) ?_
  rintro v σ' ⟨rfl, rfl⟩
  simp [byteA, bytesA]
set_option maxRecDepth 4000 in
theorem enc_calls_bad (n : Int) (h : ¬ okAddr n) (h6 : IntKind.i64.wrap (2 ^ min 12 IntKind.i64.bits) = 4096) (σ : Store) : ACalls Tryz.prog 80 [.lit (.int .i64 12), .lit (.int .i64 n)] σ fun v σ' => v = .tuple [.list true 1 [], .lit (.int .i64 9)] ∧ σ' = σ := by
  refine ACalls.of_awp follows (st := st80) (plans := pl80) (n := 41) Tryz.func80 rfl (by kernel_rfl) (by kernel_rfl) (by kernel_rfl) ?_
  have h' : n < 0 ∨ 4096 ≤ n := by unfold okAddr at h; omega
  by_cases h0 : n < 0
  · simp [h0]
  · have h1 : 4096 ≤ n := by omega
    simp [h0, h1, h6]
theorem enc_calls (n : Int) (σ : Store) : ACalls Tryz.prog 80 [.lit (.int .i64 12), .lit (.int .i64 n)] σ fun v σ' => v = .tuple (encR n) ∧ σ' = σ := by
  have h6 : IntKind.i64.wrap (2 ^ min 12 IntKind.i64.bits) = 4096 := by decide +kernel
  by_cases h : okAddr n
  · have h' := h
    rw [encR, if_pos h]
    obtain ⟨h1, h2⟩ := h
    obtain ⟨m, rfl⟩ : ∃ m : Nat, n = m := ⟨n.toNat, by omega⟩
    exact enc_calls_ok m (m / 64) (fdiv64 m) (by omega) (by omega) h6 σ
  · rw [encR, if_neg h]
    exact enc_calls_bad n h h6 σ
end Go.Proofs.YtegpebaoghmgiaaGreatDoor
/-
  Two bytes as an address.
-/
namespace Go.Proofs.YtegpebaoghmgiaaGreatDoor
open Go Go.AL

def unsix (b : UInt8) : Nat := ((List.range 64).find? fun n => sixR n == b).getD (b.toNat % 64)
/-- What two bytes say: a place and an error. -/
def decM (a b : UInt8) : Nat × Nat := if a.toNat / 64 = 0 then (a.toNat * 256 + b.toNat, 0) else if a.toNat / 64 = 2 then (0, 9) else (unsix a * 64 + unsix b, 0)
def decR : List UInt8 → Nat × Nat
  | a :: b :: _ => decM a b
  | _ => (0, 2)
end Go.Proofs.YtegpebaoghmgiaaGreatDoor
/-
  Orders' bytes: of a text, of an address.
-/
namespace Go.Proofs.YtegpebaoghmgiaaGreatDoor
open Go Go.AL

structure Op where
  kind : Nat := 0
  addr : Int := 0
  code : UInt8 := 0
  graph : Bool := false
  fa : UInt8 := 0
  pairs : List (UInt8 × UInt8) := []
  text : List UInt8 := []
def pairsA (l : List (UInt8 × UInt8)) : List AV := l.map fun p => .agg [byteA p.1, byteA p.2]
def opC (o : Op) : List AV := [.lit (.int .i64 o.kind), .lit (.int .i64 o.addr), byteA o.code, .lit (.bool o.graph), byteA o.fa, .list false 2 (pairsA o.pairs), .list false 1 (bytesA o.text)]
def opA (o : Op) : AV := .agg (opC o)
def opsA (l : List Op) : List AV := l.map opA
@[simp] theorem opsA_length (l : List Op) : (opsA l).length = l.length := by simp [opsA]
theorem opsA_get (l : List Op) (i : Nat) (h : i < l.length) : (opsA l)[i]'(by simpa using h) = opA l[i] := by simp [opsA]

theorem bytesA_at (l : List UInt8) (i : Nat) (h : i < l.length) : (bytesA l)[i]'(by simpa using h) = byteA l[i] := by simp [bytesA]
def hasOrd (l : List UInt8) : Bool := l.any isOrd
theorem hasOrd_none {l : List UInt8} (h : ∀ j (hj : j < l.length), isOrd l[j] = false) : hasOrd l = false := by
  rw [hasOrd, List.any_eq_false]
  intro x hx
  obtain ⟨j, hj, rfl⟩ := List.mem_iff_getElem.1 hx
  simp [h j hj]
theorem hasOrd_some {l : List UInt8} {j : Nat} (hj : j < l.length) (h : isOrd l[j] = true) : hasOrd l = true := by
  rw [hasOrd, List.any_eq_true]
  exact ⟨_, List.getElem_mem hj, h⟩

set_option maxRecDepth 8000 in
theorem index_calls (o : Bool) (l : List UInt8) (σ : Store) (hl : l.length ≤ 1000000) : ACalls Tryz.prog 56 [.list o 1 (bytesA l), .func (.func 41) [] []] σ fun v σ' => (∃ n : Int, v = .lit (.int .i64 n) ∧ decide (0 ≤ n) = hasOrd l) ∧ σ' = σ := by
  refine ACalls.of_awp follows (st := st56) (plans := pl56) (n := 19) Tryz.func56 rfl (by kernel_rfl) (by kernel_rfl) (by kernel_rfl) ?_
  simp
  refine codeK.loop follows (st := st56) (plans := pl56) (X := Nat) (fun i => i ≤ l.length ∧ ∀ j (hj : j < l.length), j < i → isOrd l[j] = false)
    (fun i => [(0, .list false 1 (bytesA l)), (1, .func (.func 41) [] []), (7, .lit (.int .i64 l.length)), (8, .lit (.int .i64 i))]) (fun _ => σ) (fun i => l.length - i) 0 (by kernel_rfl) (by simp) (by simp) (by simp) fun i hi => ?_
  obtain ⟨hi, hk⟩ := hi
  by_cases hlt : i < l.length
  · have hw : IntKind.i64.wrap ((i : Int) + 1) = ((i + 1 : Nat) : Int) := wrap_i64 (by omega) (by omega)
    have hs := is_calls l[i]
    have ha := bytesA_at l i hlt
    have hyes := fun h => hasOrd_some (l := l) hlt h
    have hno : isOrd l[i] = false → ∀ j (hj : j < l.length), j < i + 1 → isOrd l[j] = false := fun h j hj hji => by
      by_cases e : j = i
      · subst e; exact h
      · exact hk j hj (by omega)
    generalize l[i] = b at *
    by_cases hb : isOrd b = true
    · simp [hlt, ha, byteA]
      refine callK.of (hs σ) ?_
      rintro v σ' ⟨rfl, rfl⟩
      simp [hb, hyes hb]
      exact ⟨_, AV.le_refl _, i, rfl, by simp⟩
    · have hb' : isOrd b = false := by simpa using hb
      simp [hlt, ha, byteA]
      refine callK.of (hs σ) ?_
      rintro v σ' ⟨rfl, rfl⟩
      simp [hb']
      exact ⟨i + 1, ⟨by omega, hno hb'⟩, by omega, by rw [hw]; exact AV.le_refl _⟩
  · obtain rfl : i = l.length := by omega
    have hn : hasOrd l = false := hasOrd_none fun j hj => hk j hj hj
    simp [hn]
    exact ⟨_, AV.le_refl _, -1, rfl, by omega⟩
set_option maxRecDepth 8000 in
theorem contains_calls (o : Bool) (l : List UInt8) (σ : Store) (hl : l.length ≤ 1000000) : ACalls Tryz.prog 40 [.list o 1 (bytesA l), .func (.func 41) [] []] σ fun v σ' => v = .lit (.bool (hasOrd l)) ∧ σ' = σ := by
  refine ACalls.of_awp follows (st := st40) (plans := pl40) (n := 9) Tryz.func40 rfl (by kernel_rfl) (by kernel_rfl) (by kernel_rfl) ?_
  simp
  refine callK.of (index_calls false l σ hl) ?_
  rintro v σ' ⟨⟨n, rfl, hn⟩, rfl⟩
  simp [hn]

/-- Bytes of one after the other, or the first error. -/
def seqB {α : Type} (f : α → List UInt8 × Nat) : List α → List UInt8 × Nat
  | [] => ([], 0)
  | o :: l => if (f o).2 ≠ 0 then ([], (f o).2) else if (seqB f l).2 ≠ 0 then ([], (seqB f l).2) else ((f o).1 ++ (seqB f l).1, 0)
theorem seqB_ok {α : Type} {f : α → List UInt8 × Nat} {l : List α} (h : ∀ o ∈ l, (f o).2 = 0) : seqB f l = (l.flatMap fun o => (f o).1, 0) := by
  induction l with
  | nil => rfl
  | cons o l ih =>
    have h1 := h o (by simp)
    have h2 := ih fun x hx => h x (by simp [hx])
    simp [seqB, h1, h2]
theorem seqB_bad {α : Type} {f : α → List UInt8 × Nat} : ∀ {l : List α} {i : Nat} (hi : i < l.length), (∀ j (hj : j < l.length), j < i → (f l[j]).2 = 0) → (f l[i]).2 ≠ 0 → seqB f l = ([], (f l[i]).2)
  | o :: l, 0, hi, _, hb => by simp at hb; simp [seqB, hb]
  | o :: l, i + 1, hi, h, hb => by
    simp at hi
    have h1 := h 0 (by simp) (by omega)
    have h2 := seqB_bad (f := f) (l := l) (i := i) hi (fun j hj hji => by have := h (j + 1) (by simp; omega) (by omega); simpa using this) (by simpa using hb)
    simp at h1 hb
    simp [seqB, h1, h2, hb]
def opB (o : Op) : List UInt8 × Nat :=
  if o.kind = 0 then (if o.text = [] ∨ hasOrd o.text = true then ([], 10) else (o.text, 0)) else if okAddr o.addr then (17 :: encM o.addr.toNat, 0) else ([], 9)

set_option maxRecDepth 8000 in
theorem place_calls (n : Int) (σ : Store) : ACalls Tryz.prog 70 [.lit (.int .u8 17), .lit (.int .i64 n)] σ fun v σ' => v = .tuple (if okAddr n then [.list true 1 (bytesA (17 :: encM n.toNat)), .lit (.int .i64 0)] else [.list true 1 [], .lit (.int .i64 9)]) ∧ σ' = σ := by
  refine ACalls.of_awp follows (st := st70) (plans := pl70) (n := 20) Tryz.func70 rfl (by kernel_rfl) (by kernel_rfl) (by kernel_rfl) ?_
  simp
  refine callK.of (enc_calls n σ) ?_
  rintro v σ' ⟨rfl, rfl⟩
  by_cases h : okAddr n
  · have e : byteA 17 = .lit (.int .u8 17) := rfl
    simp [encR, h, encM, bytesA, e]
  · simp [encR, h]

set_option maxRecDepth 8000 in
theorem opbytes_text (o : Op) (h0 : o.kind = 0) (hl : o.text.length ≤ 1000000) (σ : Store) : ACalls Tryz.prog 59 [opA o] σ fun v σ' => v = .tuple [.list true 1 (bytesA (opB o).1), .lit (.int .i64 (opB o).2)] ∧ σ' = σ := by
  obtain ⟨kind, addr, code, graph, fa, pairs, text⟩ := o
  simp only at h0 hl
  subst h0
  have hc := contains_calls false text
  have hcl := clone_calls false text
  by_cases ht : text = []
  · subst ht
    have hB : opB ⟨0, addr, code, graph, fa, pairs, []⟩ = ([], 10) := by simp [opB]
    rw [hB]
    refine ACalls.of_awp follows (st := st59) (plans := pl59) (n := 118) Tryz.func59 rfl (by kernel_rfl) (by kernel_rfl) (by kernel_rfl) ?_
    simp [opA, opC, bytesA_nil]
    exact fun p hp => sub_upd_self _ _ _ hp
  · by_cases ho : hasOrd text = true
    · have hB : opB ⟨0, addr, code, graph, fa, pairs, text⟩ = ([], 10) := by simp [opB, ho]
      rw [hB]
      refine ACalls.of_awp follows (st := st59) (plans := pl59) (n := 118) Tryz.func59 rfl (by kernel_rfl) (by kernel_rfl) (by kernel_rfl) ?_
      simp [opA, opC, ht]
      intro p hp
      refine callK.of (hc _ hl) ?_
      rintro v σ' ⟨rfl, rfl⟩
      simp [ho, bytesA_nil, hp]
    · have hB : opB ⟨0, addr, code, graph, fa, pairs, text⟩ = (text, 0) := by simp [opB, ht, ho]
      have ho' : hasOrd text = false := by simpa using ho
      rw [hB]
      refine ACalls.of_awp follows (st := st59) (plans := pl59) (n := 118) Tryz.func59 rfl (by kernel_rfl) (by kernel_rfl) (by kernel_rfl) ?_
      simp [opA, opC, ht]
      intro p hp
      refine callK.of (hc _ hl) ?_
      rintro v σ' ⟨rfl, rfl⟩
      simp [ho', ht]
      refine callK.of (hcl _ (by omega)) ?_
      rintro v σ' ⟨rfl, rfl⟩
      simp [hp]
set_option maxRecDepth 8000 in
theorem opbytes_sba (o : Op) (h0 : o.kind = 17) (σ : Store) : ACalls Tryz.prog 59 [opA o] σ fun v σ' => v = .tuple [.list true 1 (bytesA (opB o).1), .lit (.int .i64 (opB o).2)] ∧ σ' = σ := by
  obtain ⟨kind, addr, code, graph, fa, pairs, text⟩ := o
  simp only at h0
  subst h0
  have hpl := place_calls addr
  have hw : IntKind.u8.wrap 17 = 17 := by decide
  by_cases ho : okAddr addr
  · have hB : opB ⟨17, addr, code, graph, fa, pairs, text⟩ = (17 :: encM addr.toNat, 0) := by simp [opB, ho]
    rw [hB]
    rw [if_pos ho] at hpl
    refine ACalls.of_awp follows (st := st59) (plans := pl59) (n := 118) Tryz.func59 rfl (by kernel_rfl) (by kernel_rfl) (by kernel_rfl) ?_
    simp [opA, opC, hw]
    intro p hp
    refine callK.of (hpl _) ?_
    rintro v σ' ⟨rfl, rfl⟩
    simp [hp]
  · have hB : opB ⟨17, addr, code, graph, fa, pairs, text⟩ = ([], 9) := by simp [opB, ho]
    rw [hB]
    rw [if_neg ho] at hpl
    refine ACalls.of_awp follows (st := st59) (plans := pl59) (n := 118) Tryz.func59 rfl (by kernel_rfl) (by kernel_rfl) (by kernel_rfl) ?_
    simp [opA, opC, hw]
    intro p hp
    refine callK.of (hpl _) ?_
    rintro v σ' ⟨rfl, rfl⟩
    simp [hp, bytesA_nil]
def good (o : Op) : Prop := (o.kind = 0 ∧ o.text.length ≤ 1000000) ∨ o.kind = 17
theorem opbytes_calls (o : Op) (h : good o) (σ : Store) : ACalls Tryz.prog 59 [opA o] σ fun v σ' => v = .tuple [.list true 1 (bytesA (opB o).1), .lit (.int .i64 (opB o).2)] ∧ σ' = σ := by
  rcases h with ⟨h1, h2⟩ | h
  · exact opbytes_text o h1 h2 σ
  · exact opbytes_sba o h σ
theorem opB_err (o : Op) (h : (opB o).2 ≠ 0) : (opB o).1 = [] := by
  unfold opB at *
  (repeat' split) <;> simp_all
theorem opB_len (o : Op) (h : good o) : (opB o).1.length ≤ 1000000 := by
  unfold opB
  rcases h with ⟨h1, h2⟩ | h
  · rw [if_pos h1]; split <;> simp [h2]
  · rw [if_neg (by omega)]; split <;> simp [encM]

def sumB (l : List Op) (i : Nat) : List UInt8 := (l.take i).flatMap fun o => (opB o).1
end Go.Proofs.YtegpebaoghmgiaaGreatDoor
