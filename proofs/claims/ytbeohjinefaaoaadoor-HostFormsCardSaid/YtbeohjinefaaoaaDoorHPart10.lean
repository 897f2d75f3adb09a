/-
  Of each function: which temporaries take a right to append with the value; the plans of the regions that draw their order. Written by a program of mine.
-/
import Derived.Test.YtbeohjinefaaoaaDoorHPart9
set_option linter.unusedSimpArgs false
set_option linter.unusedVariables false
namespace Go.Proofs.YtbeohjinefaaoaaDoor
open Go Go.AL
@[simp] def st3 : List Nat := []
@[simp] def pl3 : List (Nat × Plan) := [(5, Plan.seq [0, 3] (.alt (Plan.seq [1, 2, 4, 5] (.alt (Plan.seq [6] (.alt (Plan.seq [7, 8, 9] (.done)) (Plan.seq [8, 7, 9] (.done)))) (Plan.seq [7, 6, 8, 9] (.done)))) (Plan.seq [2, 1, 4, 5] (.alt (Plan.seq [6] (.alt (Plan.seq [7, 8, 9] (.done)) (Plan.seq [8, 7, 9] (.done)))) (Plan.seq [7, 6, 8, 9] (.done))))))]
@[simp] def st5 : List Nat := []
@[simp] def pl5 : List (Nat × Plan) := []
@[simp] def st6 : List Nat := [30]
@[simp] def pl6 : List (Nat × Plan) := []
@[simp] def st7 : List Nat := []
@[simp] def pl7 : List (Nat × Plan) := []
@[simp] def st8 : List Nat := [46, 53]
@[simp] def pl8 : List (Nat × Plan) := []
@[simp] def st9 : List Nat := [41, 42, 49]
@[simp] def pl9 : List (Nat × Plan) := [(5, Plan.seq [0] (.alt (Plan.seq [1, 2, 3, 4, 5] (.done)) (Plan.seq [2, 1, 3, 4, 5] (.done))))]
@[simp] def st10 : List Nat := [69, 70, 77]
@[simp] def pl10 : List (Nat × Plan) := []
@[simp] def st11 : List Nat := []
@[simp] def pl11 : List (Nat × Plan) := []
@[simp] def st15 : List Nat := [12]
@[simp] def pl15 : List (Nat × Plan) := []
@[simp] def st16 : List Nat := []
@[simp] def pl16 : List (Nat × Plan) := []
@[simp] def st17 : List Nat := []
@[simp] def pl17 : List (Nat × Plan) := []
@[simp] def st18 : List Nat := []
@[simp] def pl18 : List (Nat × Plan) := []
@[simp] def st19 : List Nat := [28]
@[simp] def pl19 : List (Nat × Plan) := []
@[simp] def st20 : List Nat := [42, 54, 74, 81]
@[simp] def pl20 : List (Nat × Plan) := [(13, Plan.seq [0, 1, 2, 3, 4] (.alt (Plan.seq [5, 6, 7, 8, 9] (.done)) (Plan.seq [7, 5, 6, 8, 9] (.done))))]
@[simp] def st21 : List Nat := [10]
@[simp] def pl21 : List (Nat × Plan) := []
@[simp] def st22 : List Nat := []
@[simp] def pl22 : List (Nat × Plan) := []
@[simp] def st23 : List Nat := [51, 77, 111, 115, 131, 141, 144]
@[simp] def pl23 : List (Nat × Plan) := []
@[simp] def st26 : List Nat := []
@[simp] def pl26 : List (Nat × Plan) := [(3, Plan.seq [0, 1, 2, 4, 7, 8] (.alt (.alt (Plan.seq [3, 9] (.alt (Plan.seq [5, 6, 10, 11, 12] (.done)) (Plan.seq [10, 5, 6, 11, 12] (.done)))) (Plan.seq [5] (.alt (Plan.seq [3, 6, 9, 10, 11, 12] (.done)) (Plan.seq [9, 3, 6, 10, 11, 12] (.done))))) (Plan.seq [9] (.alt (Plan.seq [3] (.alt (Plan.seq [5, 6, 10, 11, 12] (.done)) (Plan.seq [10, 5, 6, 11, 12] (.done)))) (Plan.seq [5, 3, 6, 10, 11, 12] (.done))))))]
@[simp] def st28 : List Nat := []
@[simp] def pl28 : List (Nat × Plan) := []
@[simp] def st29 : List Nat := []
@[simp] def pl29 : List (Nat × Plan) := [(3, Plan.seq [0, 2, 3, 4, 7, 8] (.alt (.alt (Plan.seq [1] (.alt (Plan.seq [5, 6, 9, 10, 11, 12] (.done)) (Plan.seq [9, 5, 6, 10, 11, 12] (.done)))) (Plan.seq [5, 9] (.alt (Plan.seq [1, 6, 10, 11, 12] (.done)) (Plan.seq [10, 1, 6, 11, 12] (.done))))) (Plan.seq [9] (.alt (Plan.seq [1, 5, 6, 10, 11, 12] (.done)) (Plan.seq [5] (.alt (Plan.seq [1, 6, 10, 11, 12] (.done)) (Plan.seq [10, 1, 6, 11, 12] (.done))))))))]
@[simp] def st31 : List Nat := []
@[simp] def pl31 : List (Nat × Plan) := []
@[simp] def st32 : List Nat := []
@[simp] def pl32 : List (Nat × Plan) := []
@[simp] def st33 : List Nat := [19, 47]
@[simp] def pl33 : List (Nat × Plan) := []
@[simp] def st34 : List Nat := [41, 45]
@[simp] def pl34 : List (Nat × Plan) := []
@[simp] def st35 : List Nat := []
@[simp] def pl35 : List (Nat × Plan) := []
@[simp] def st36 : List Nat := []
@[simp] def pl36 : List (Nat × Plan) := []
@[simp] def st37 : List Nat := [22, 23, 27]
@[simp] def pl37 : List (Nat × Plan) := []
@[simp] def st38 : List Nat := []
@[simp] def pl38 : List (Nat × Plan) := []
@[simp] def st39 : List Nat := []
@[simp] def pl39 : List (Nat × Plan) := []
@[simp] def st40 : List Nat := []
@[simp] def pl40 : List (Nat × Plan) := []
@[simp] def st41 : List Nat := [38, 43]
@[simp] def pl41 : List (Nat × Plan) := []
@[simp] def st42 : List Nat := []
@[simp] def pl42 : List (Nat × Plan) := []
@[simp] def st43 : List Nat := []
@[simp] def pl43 : List (Nat × Plan) := []
@[simp] def st44 : List Nat := []
@[simp] def pl44 : List (Nat × Plan) := []
@[simp] def st45 : List Nat := [13]
@[simp] def pl45 : List (Nat × Plan) := []
@[simp] def st50 : List Nat := [31]
@[simp] def pl50 : List (Nat × Plan) := []
@[simp] def st51 : List Nat := []
@[simp] def pl51 : List (Nat × Plan) := []
@[simp] def st52 : List Nat := [13]
@[simp] def pl52 : List (Nat × Plan) := []
@[simp] def st53 : List Nat := []
@[simp] def pl53 : List (Nat × Plan) := []
@[simp] def st55 : List Nat := [22]
@[simp] def pl55 : List (Nat × Plan) := []
@[simp] def st56 : List Nat := [17]
@[simp] def pl56 : List (Nat × Plan) := []
@[simp] def st57 : List Nat := []
@[simp] def pl57 : List (Nat × Plan) := []
@[simp] def st58 : List Nat := [67, 75, 78]
@[simp] def pl58 : List (Nat × Plan) := [(31, Plan.seq [0, 1, 2, 3, 4, 5, 6, 7, 8, 9, 10, 11, 12, 13] (.done))]
@[simp] def st59 : List Nat := [16]
@[simp] def pl59 : List (Nat × Plan) := []
@[simp] def st60 : List Nat := []
@[simp] def pl60 : List (Nat × Plan) := []
@[simp] def st63 : List Nat := [9]
@[simp] def pl63 : List (Nat × Plan) := []
@[simp] def st64 : List Nat := [29]
@[simp] def pl64 : List (Nat × Plan) := []
@[simp] def st65 : List Nat := []
@[simp] def pl65 : List (Nat × Plan) := []
@[simp] def st67 : List Nat := []
@[simp] def pl67 : List (Nat × Plan) := []
@[simp] def st68 : List Nat := [15]
@[simp] def pl68 : List (Nat × Plan) := []
@[simp] def st69 : List Nat := [15]
@[simp] def pl69 : List (Nat × Plan) := []
@[simp] def st72 : List Nat := []
@[simp] def pl72 : List (Nat × Plan) := []
@[simp] def st73 : List Nat := []
@[simp] def pl73 : List (Nat × Plan) := [(13, Plan.seq [0, 1, 2, 3, 4, 5, 6, 7, 8, 9] (.done))]
@[simp] def st74 : List Nat := []
@[simp] def pl74 : List (Nat × Plan) := []
@[simp] def st75 : List Nat := []
@[simp] def pl75 : List (Nat × Plan) := []
@[simp] def st76 : List Nat := [25, 26, 34]
@[simp] def pl76 : List (Nat × Plan) := []
@[simp] def st77 : List Nat := []
@[simp] def pl77 : List (Nat × Plan) := []
@[simp] def st79 : List Nat := []
@[simp] def pl79 : List (Nat × Plan) := []
end Go.Proofs.YtbeohjinefaaoaaDoor
/-
  What bytes and events are as abstract values; the reader's pure model.
-/
namespace Go.Proofs.YtbeohjinefaaoaaDoor
open Go Go.AL

theorem follows : Tryd.prog.follows .mixedOrders = true := by kernel_rfl

def byteA (b : UInt8) : AV := .lit (.int .u8 (b.toNat : Int))
def bytesA (l : List UInt8) : List AV := l.map byteA
@[simp] theorem bytesA_length (l : List UInt8) : (bytesA l).length = l.length := by simp [bytesA]
/-- A place and the characters from there on. -/
structure En where
  addr : Int
  text : List UInt8
  deriving DecidableEq
/-- What came. -/
structure Rp where
  aid : UInt8
  short : Bool
  cursor : Int
  es : List En
  deriving DecidableEq
def enA (e : En) : AV := .agg [.lit (.int .i64 e.addr), .list false 1 (bytesA e.text)]
def ensA (l : List En) : List AV := l.map enA
@[simp] theorem ensA_length (l : List En) : (ensA l).length = l.length := by simp [ensA]
def rpA (r : Rp) : AV := .agg [byteA r.aid, .lit (.bool r.short), .lit (.int .i64 r.cursor), .list false 2 (ensA r.es)]

/-- A row of bytes that is an object. -/
def rowA (p cap : Nat) (l : List UInt8) : AV := .lit (.slice (some ⟨p, 0, none⟩) l.length cap)

end Go.Proofs.YtbeohjinefaaoaaDoor
/-
  Codes: six bits as a byte, addresses, which bytes are orders.
-/
namespace Go.Proofs.YtbeohjinefaaoaaDoor
open Go Go.AL

theorem bytesA_append (l k : List UInt8) : bytesA (l ++ k) = bytesA l ++ bytesA k := by simp [bytesA]
theorem bytesA_nil : bytesA [] = [] := rfl
theorem clone_calls (o : Bool) (l : List UInt8) (σ : Store) (hl : l.length ≤ 140737488355328) :
    ACalls Tryd.prog 67 [.list o 1 (bytesA l)] σ fun v σ' => v = .list true 1 (bytesA l) ∧ σ' = σ := by
  refine ACalls.of_awp follows (st := st67) (plans := pl67) (n := 8) Tryd.func67 rfl (by kernel_rfl) (by kernel_rfl) (by kernel_rfl) ?_
  simp
  refine ⟨⟨by omega, by omega⟩, fun h => ?_⟩
  rw [h]; exact AV.le_refl _


def isOrd (b : UInt8) : Bool := [5, 8, 17, 18, 19, 29, 40, 41, 44, 60].contains b.toNat
def nameB (k : Nat) : ByteArray := if k = 0 then ⟨#[84, 101, 120, 116]⟩ else if k = 5 then ⟨#[80, 84]⟩ else if k = 8 then ⟨#[71, 69]⟩ else if k = 17 then ⟨#[83, 66, 65]⟩ else if k = 18 then ⟨#[69, 85, 65]⟩ else if k = 19 then ⟨#[73, 67]⟩ else if k = 29 then ⟨#[83, 70]⟩ else if k = 40 then ⟨#[83, 65]⟩ else if k = 41 then ⟨#[83, 70, 69]⟩ else if k = 44 then ⟨#[77, 70]⟩ else if k = 60 then ⟨#[82, 65]⟩ else ⟨#[]⟩

set_option maxRecDepth 4000 in
theorem name_calls (k : Nat) (σ : Store) : ACalls Tryd.prog 57 [.lit (.int .i64 k)] σ fun v σ' => v = .lit (.string (nameB k)) ∧ σ' = σ := by
  refine ACalls.of_awp follows (st := st57) (plans := pl57) (n := 26) Tryd.func57 rfl (by kernel_rfl) (by kernel_rfl) (by kernel_rfl) ?_
  by_cases h0 : k = 0
  · subst h0; simp [nameB]
  by_cases h5 : k = 5
  · subst h5; simp [nameB]
  have g5 : ¬ (k : Int) = 5 := by omega
  by_cases h8 : k = 8
  · subst h8; simp [nameB]
  have g8 : ¬ (k : Int) = 8 := by omega
  by_cases h17 : k = 17
  · subst h17; simp [nameB]
  have g17 : ¬ (k : Int) = 17 := by omega
  by_cases h18 : k = 18
  · subst h18; simp [nameB]
  have g18 : ¬ (k : Int) = 18 := by omega
  by_cases h19 : k = 19
  · subst h19; simp [nameB]
  have g19 : ¬ (k : Int) = 19 := by omega
  by_cases h29 : k = 29
  · subst h29; simp [nameB]
  have g29 : ¬ (k : Int) = 29 := by omega
  by_cases h40 : k = 40
  · subst h40; simp [nameB]
  have g40 : ¬ (k : Int) = 40 := by omega
  by_cases h41 : k = 41
  · subst h41; simp [nameB]
  have g41 : ¬ (k : Int) = 41 := by omega
  by_cases h44 : k = 44
  · subst h44; simp [nameB]
  have g44 : ¬ (k : Int) = 44 := by omega
  by_cases h60 : k = 60
  · subst h60; simp [nameB]
  have g60 : ¬ (k : Int) = 60 := by omega
  simp [nameB, h0, h5, h8, h17, h18, h19, h29, h40, h41, h44, h60, g5, g8, g17, g18, g19, g29, g40, g41, g44, g60]

theorem all_bytes {p : UInt8 → Prop} (h : ∀ n : Fin 256, p (UInt8.ofNat n.val)) (b : UInt8) : p b := by
  have := h ⟨b.toNat, b.toNat_lt⟩
  simpa using this
theorem wrapB (b : UInt8) : IntKind.i64.wrap (b.toNat : Int) = (b.toNat : Int) := by have := b.toNat_lt; exact wrap_i64 (by omega) (by omega)
theorem ord_name (b : UInt8) : b.toNat ≠ 0 → (!(nameB b.toNat).toList.isEmpty) = isOrd b :=
  all_bytes (p := fun b => b.toNat ≠ 0 → (!(nameB b.toNat).toList.isEmpty) = isOrd b) (by decide +kernel) b

set_option maxRecDepth 4000 in
theorem is_calls (b : UInt8) (σ : Store) : ACalls Tryd.prog 36 [byteA b] σ fun v σ' => v = .lit (.bool (isOrd b)) ∧ σ' = σ := by
  refine ACalls.of_awp follows (st := st36) (plans := pl36) (n := 11) Tryd.func36 rfl (by kernel_rfl) (by kernel_rfl) (by kernel_rfl) ?_
  by_cases h0 : b.toNat = 0
  · have : isOrd b = false := by simp [isOrd, h0]
    simp [byteA, h0, this]
  · have h1 := ord_name b h0
    simp [byteA, h0, wrapB]
    refine callK.of (name_calls b.toNat σ) ?_
    rintro v σ' ⟨rfl, rfl⟩
    simp [h0, h1]

theorem fdiv16 (n : Nat) : (n : Int).fdiv (2 ^ min 4 IntKind.i64.bits) = ((n / 16 : Nat) : Int) := by cases n <;> rfl
theorem fdiv64 (n : Nat) : (n : Int).fdiv (2 ^ min 6 IntKind.i64.bits) = ((n / 64 : Nat) : Int) := by cases n <;> rfl
def zm (q : Nat) : UInt8 := if q = 0 then 64 else if q = 1 then 80 else if q = 2 then 96 else 112
def zl (q : Nat) : UInt8 := if q = 0 then 192 else if q = 1 then 208 else if q = 2 then 224 else 240
def zf (q : Nat) : Nat := if q = 0 then 1 else if q = 1 then 1 else if q = 2 then 2 else 0
set_option maxRecDepth 4000 in
theorem zone_calls (r : Nat) (σ : Store) : ACalls Tryd.prog 74 [.lit (.int .i64 r)] σ fun v σ' => v = .tuple [byteA (zm (r / 16)), byteA (zl (r / 16)), .lit (.int .i64 (zf (r / 16))), .lit (.int .i64 9)] ∧ σ' = σ := by
  refine ACalls.of_awp follows (st := st74) (plans := pl74) (n := 14) Tryd.func74 rfl (by kernel_rfl) (by kernel_rfl) (by kernel_rfl) ?_
  obtain ⟨q, hq⟩ : ∃ q, r / 16 = q := ⟨_, rfl⟩
  have hf : (r : Int).fdiv (2 ^ min 4 IntKind.i64.bits) = (q : Int) := by rw [fdiv16, hq]
  rw [hq]
  clear hq
  by_cases h0 : q = 0
  · subst h0; simp [hf, zm, zl, zf, byteA]
  · by_cases h1 : q = 1
    · subst h1; simp [hf, zm, zl, zf, byteA]
    · by_cases h2 : q = 2
      · subst h2; simp [hf, zm, zl, zf, byteA]
      · have e1 : ¬ (q : Int) = 1 := by omega
        have e2 : ¬ (q : Int) = 2 := by omega
        simp [hf, h0, h1, h2, e1, e2, zm, zl, zf, byteA]

/-- Six bits, as a byte. -/
def sixR (r : Nat) : UInt8 := if zf (r / 16) ≤ r % 16 ∧ r % 16 ≤ 9 then zl (r / 16) ||| UInt8.ofNat (r % 16) else zm (r / 16) ||| UInt8.ofNat (r % 16)
def six (n : Nat) : UInt8 := sixR (n % 64)
theorem and63 (n : Nat) (hn : n < 4096) : pureBin .and (.int .i64 (n : Int)) (.int .i64 63) = some (.int .i64 ((n % 64 : Nat) : Int)) := by
  have e3 : n &&& 63 = n % 64 := Nat.and_two_pow_sub_one_eq_mod n 6
  have := and_i64 n 63 (by omega) (by omega)
  rw [e3] at this; exact this
theorem and15 (n : Nat) (hn : n < 4096) : pureBin .and (.int .i64 (n : Int)) (.int .i64 15) = some (.int .i64 ((n % 16 : Nat) : Int)) := by
  have e3 : n &&& 15 = n % 16 := Nat.and_two_pow_sub_one_eq_mod n 4
  have := and_i64 n 15 (by omega) (by omega)
  rw [e3] at this; exact this

set_option maxRecDepth 4000 in
theorem six_calls (n : Nat) (hn : n < 4096) (σ : Store) : ACalls Tryd.prog 65 [.lit (.int .i64 n)] σ fun v σ' => v = byteA (six n) ∧ σ' = σ := by
  refine ACalls.of_awp follows (st := st65) (plans := pl65) (n := 35) Tryd.func65 rfl (by kernel_rfl) (by kernel_rfl) (by kernel_rfl) ?_
  obtain ⟨r, hr⟩ : ∃ r, n % 64 = r := ⟨_, rfl⟩
  have h1 := and63 n hn
  rw [hr] at h1
  have hr64 : r < 64 := by omega
  have h2 := and15 r (by omega)
  obtain ⟨d, hd⟩ : ∃ d, r % 16 = d := ⟨_, rfl⟩
  rw [hd] at h2
  have hd16 : d < 16 := by omega
  have hz := zone_calls r σ
  obtain ⟨M, hM⟩ : ∃ M, zm (r / 16) = M := ⟨_, rfl⟩
  obtain ⟨L, hL⟩ : ∃ L, zl (r / 16) = L := ⟨_, rfl⟩
  obtain ⟨F, hF⟩ : ∃ F, zf (r / 16) = F := ⟨_, rfl⟩
  obtain ⟨X, hX⟩ : ∃ X, six n = X := ⟨_, rfl⟩
  obtain ⟨B, hB⟩ : ∃ B, UInt8.ofNat d = B := ⟨_, rfl⟩
  have hdB : IntKind.u8.wrap (d : Int) = (B.toNat : Int) := by
    rw [wrap_u8 (by omega) (by omega), ← hB, UInt8.toNat_ofNat']; omega
  have hX1 : F ≤ d ∧ d ≤ 9 → L ||| B = X := fun h => by
    rw [← hX, six, hr, sixR, hF, hd, if_pos h, hL, hB]
  have hX2 : ¬ (F ≤ d ∧ d ≤ 9) → M ||| B = X := fun h => by
    rw [← hX, six, hr, sixR, hF, hd, if_neg h, hM, hB]
  rw [hM, hL, hF] at hz
  rw [hX]
  by_cases c1 : F ≤ d
  · by_cases c2 : d ≤ 9
    · have c2' : (d : Int) ≤ 9 := Int.ofNat_le.2 c2
      have e := hX1 ⟨c1, c2⟩
      simp [-e_pureBin_8, h1]
      refine callK.of hz ?_
      rintro v σ' ⟨rfl, rfl⟩
      simp [-e_pureBin_8, -e_pureBin_9, or_u8, h2, c1, c2', byteA, hdB, e]
    · have c2' : ¬ (d : Int) ≤ 9 := fun h => c2 (Int.ofNat_le.1 h)
      have e := hX2 (fun h => c2 h.2)
      simp [-e_pureBin_8, h1]
      refine callK.of hz ?_
      rintro v σ' ⟨rfl, rfl⟩
      simp [-e_pureBin_8, -e_pureBin_9, or_u8, h2, c1, c2', byteA, hdB, e]
  · have e := hX2 (fun h => c1 h.1)
    simp [-e_pureBin_8, h1]
    refine callK.of hz ?_
    rintro v σ' ⟨rfl, rfl⟩
    simp [-e_pureBin_8, -e_pureBin_9, or_u8, h2, c1, byteA, hdB, e]
set_option maxRecDepth 4000 in
theorem mod_calls (n : Nat) (hn : n < 4096) (σ : Store) : ACalls Tryd.prog 28 [.lit (.int .i64 n), .lit (.int .i64 64)] σ fun v σ' => v = .lit (.int .i64 (n % 64 : Nat)) ∧ σ' = σ := by
  refine ACalls.of_awp follows (st := st28) (plans := pl28) (n := 14) Tryd.func28 rfl (by kernel_rfl) (by kernel_rfl) (by kernel_rfl) ?_
  have h1 : IntKind.i64.wrap ((n : Int).tmod 64 + 64) = (n : Int).tmod 64 + 64 := by
    have : (n : Int).tmod 64 = ((n % 64 : Nat) : Int) := rfl
    rw [this]; exact wrap_i64 (by omega) (by omega)
  have h2 : ((n : Int).tmod 64 + 64).tmod 64 = ((n : Int) % 64) := by
    have : (n : Int).tmod 64 = ((n % 64 : Nat) : Int) := rfl
    rw [this]
    have e : ((n % 64 : Nat) : Int) + 64 = ((n % 64 + 64 : Nat) : Int) := by omega
    rw [e]
    have : ((n % 64 + 64 : Nat) : Int).tmod 64 = (((n % 64 + 64) % 64 : Nat) : Int) := rfl
    rw [this]; omega
  simp [h1, h2]
end Go.Proofs.YtbeohjinefaaoaaDoor
/-
  The document's numbers: two hexadecimal digits; its table of six bits; which bytes are orders there.
-/
namespace Go.Proofs.YtbeohjinefaaoaaDoor
open Go Go.AL

def dig (c : UInt8) : Nat := if 97 ≤ c.toNat then c.toNat - 97 + 10 else c.toNat - 48
theorem dig_le (c : UInt8) : dig c ≤ 255 := by have := c.toNat_lt; unfold dig; split <;> omega
@[simp] theorem wr0 : IntKind.i64.wrap 0 = 0 := by decide
@[simp] theorem wr1 : IntKind.i64.wrap 1 = 1 := by decide
@[simp] theorem wr2 : IntKind.i64.wrap 2 = 2 := by decide

set_option maxRecDepth 4000 in
theorem numO_calls (c d : UInt8) (hc : 48 ≤ c.toNat) (hd : 48 ≤ d.toNat) (σ : Store) : ACalls Tryd.prog 50 [.lit (.string ⟨#[c, d]⟩)] σ fun v σ' => v = .lit (.int .i64 (16 * dig c + dig d : Nat)) ∧ σ' = σ := by
  refine ACalls.of_awp follows (st := st50) (plans := pl50) (n := 32) Tryd.func50 rfl (by kernel_rfl) (by kernel_rfl) (by kernel_rfl) ?_
  simp
  refine codeK.loop follows (st := st50) (plans := pl50) (X := Nat) (fun i => i ≤ 2)
    (fun i => [(0, .lit (.string ⟨#[c, d]⟩)), (3, .lit (.int .i64 (if i = 0 then 0 else if i = 1 then (dig c : Nat) else (16 * dig c + dig d : Nat)))), (4, .lit (.int .i64 i))]) (fun _ => σ) (fun i => 2 - i) 0 (by kernel_rfl) (by simp) (by simp) (by simp) fun i hi => ?_
  have h1 := dig_le c
  have h2 := dig_le d
  have key : ∀ (m : Nat) (b : UInt8), m ≤ 300 → 48 ≤ b.toNat → IntKind.i64.wrap (16 * (m : Int)) = ((16 * m : Nat) : Int) ∧ IntKind.u8.wrap ((b.toNat : Int) - 48) = ((b.toNat - 48 : Nat) : Int) ∧ IntKind.i64.wrap ((b.toNat - 48 : Nat) : Int) = ((b.toNat - 48 : Nat) : Int) ∧
      (97 ≤ b.toNat → IntKind.u8.wrap ((b.toNat : Int) - 97) = ((b.toNat - 97 : Nat) : Int) ∧ IntKind.i64.wrap ((b.toNat - 97 : Nat) : Int) = ((b.toNat - 97 : Nat) : Int) ∧ IntKind.i64.wrap (((b.toNat - 97 : Nat) : Int) + 10) = (dig b : Int)) := by
    intro m b hm hb
    have := b.toNat_lt
    refine ⟨by rw [wrap_i64 (by omega) (by omega)]; omega, by rw [wrap_u8 (by omega) (by omega)]; omega, wrap_i64 (by omega) (by omega), fun h => ⟨by rw [wrap_u8 (by omega) (by omega)]; omega, wrap_i64 (by omega) (by omega), ?_⟩⟩
    rw [wrap_i64 (by omega) (by omega), dig, if_pos h]; omega
  have hi3 : i = 0 ∨ i = 1 ∨ i = 2 := by omega
  rcases hi3 with rfl | rfl | rfl
  · obtain ⟨k1, k2, k3, k4⟩ := key 0 c (by omega) hc
    by_cases h : 97 ≤ c.toNat
    · obtain ⟨k5, k6, k7⟩ := k4 h
      have k8 : IntKind.i64.wrap (dig c : Int) = (dig c : Int) := wrap_i64 (by omega) (by omega)
      have h' : (97 : Int) ≤ (c.toNat : Int) := by omega
      simp [h', k2, k3, k5, k6, k7, k8]
      exact ⟨1, by simp, by simp, by simp, by simp⟩
    · have h' : ¬ (97 : Int) ≤ (c.toNat : Int) := by omega
      have hdg : c.toNat - 48 = dig c := by rw [dig, if_neg h]
      rw [hdg] at k2 k3
      simp [h', k2, k3]
      exact ⟨1, by simp, by simp, by simp, by simp⟩
  · obtain ⟨k1, k2, k3, k4⟩ := key (dig c) d (by omega) hd
    by_cases h : 97 ≤ d.toNat
    · obtain ⟨k5, k6, k7⟩ := k4 h
      have k8 : IntKind.i64.wrap (16 * (dig c : Int) + (dig d : Int)) = 16 * (dig c : Int) + (dig d : Int) := wrap_i64 (by omega) (by omega)
      have k9 : IntKind.i64.wrap (16 * (dig c : Int)) = 16 * (dig c : Int) := wrap_i64 (by omega) (by omega)
      have h' : (97 : Int) ≤ (d.toNat : Int) := by omega
      simp [h', k2, k3, k5, k6, k7, k8, k9]
      exact ⟨2, by simp, by simp, by simp, by simp⟩
    · have h' : ¬ (97 : Int) ≤ (d.toNat : Int) := by omega
      have hdg : d.toNat - 48 = dig d := by rw [dig, if_neg h]
      have k8 : IntKind.i64.wrap (16 * (dig c : Int) + (dig d : Int)) = 16 * (dig c : Int) + (dig d : Int) := wrap_i64 (by omega) (by omega)
      have k9 : IntKind.i64.wrap (16 * (dig c : Int)) = 16 * (dig c : Int) := wrap_i64 (by omega) (by omega)
      rw [hdg] at k2 k3
      simp [h', k2, k3, k8, k9]
      exact ⟨2, by simp, by simp, by simp, by simp⟩
  · have hsz : (ByteArray.mk #[c, d]).size = 2 := rfl
    simp [hsz]
def tabB : Array UInt8 := #[52, 48, 99, 49, 99, 50, 99, 51, 99, 52, 99, 53, 99, 54, 99, 55, 99, 56, 99, 57, 52, 97, 52, 98, 52, 99, 52, 100, 52, 101, 52, 102, 53, 48, 100, 49, 100, 50, 100, 51, 100, 52, 100, 53, 100, 54, 100, 55, 100, 56, 100, 57, 53, 97, 53, 98, 53, 99, 53, 100, 53, 101, 53, 102, 54, 48, 54, 49, 101, 50, 101, 51, 101, 52, 101, 53, 101, 54, 101, 55, 101, 56, 101, 57, 54, 97, 54, 98, 54, 99, 54, 100, 54, 101, 54, 102, 102, 48, 102, 49, 102, 50, 102, 51, 102, 52, 102, 53, 102, 54, 102, 55, 102, 56, 102, 57, 55, 97, 55, 98, 55, 99, 55, 100, 55, 101, 55, 102]
theorem tab_ext (r : Fin 64) : (ByteArray.mk tabB).extract (2 * r.val) (2 * r.val + 2) = ⟨#[tabB[2 * r.val]?.getD 0, tabB[2 * r.val + 1]?.getD 0]⟩ := by
  revert r; decide +kernel
theorem tab_dig (r : Fin 64) : 48 ≤ (tabB[2 * r.val]?.getD 0).toNat ∧ 48 ≤ (tabB[2 * r.val + 1]?.getD 0).toNat ∧ 16 * dig (tabB[2 * r.val]?.getD 0) + dig (tabB[2 * r.val + 1]?.getD 0) = (sixR r.val).toNat := by
  revert r; decide +kernel
theorem tab_size : (ByteArray.mk tabB).size = 128 := by decide +kernel
set_option maxRecDepth 30000 in
theorem six4_calls (n : Nat) (hn : n < 4096) (σ : Store) : ACalls Tryd.prog 44 [.lit (.int .i64 n)] σ fun v σ' => v = byteA (six n) ∧ σ' = σ := by
  refine ACalls.of_awp follows (st := st44) (plans := pl44) (n := 13) Tryd.func44 rfl (by kernel_rfl) (by kernel_rfl) (by kernel_rfl) ?_
  simp
  refine callK.of (mod_calls n hn σ) ?_
  rintro v σ' ⟨rfl, rfl⟩
  obtain ⟨r, hr⟩ : ∃ r, n % 64 = r := ⟨_, rfl⟩
  have hr64 : r < 64 := by omega
  have t1 := tab_ext ⟨r, hr64⟩
  obtain ⟨t2, t3, t4⟩ := tab_dig ⟨r, hr64⟩
  have t5 := tab_size
  have hsx : six n = sixR r := by rw [six, hr]
  rw [hr, hsx]
  dsimp only at t1 t2 t3 t4
  obtain ⟨i, hi⟩ : ∃ i, 2 * r = i := ⟨_, rfl⟩
  rw [hi] at t1 t2 t3 t4
  have w1 : IntKind.i64.wrap (2 * (r : Int)) = (i : Int) := by rw [wrap_i64 (by omega) (by omega)]; omega
  have w2 : IntKind.i64.wrap ((i : Int) + 2) = (i : Int) + 2 := by rw [wrap_i64 (by omega) (by omega)]
  have hi2 : i + 2 ≤ 128 := by omega
  generalize tabB[i]?.getD 0 = c at *
  generalize tabB[i + 1]?.getD 0 = d at *
  generalize sixR r = x at *
  unfold tabB at t1 t5
  have w3 : IntKind.u8.wrap (16 * (dig c : Int) + (dig d : Int)) = (x.toNat : Int) := by
    have := x.toNat_lt
    rw [wrap_u8 (by omega) (by omega)]; omega
  have p1 : (0 : Int) ≤ (i : Int) + 2 := by omega
  simp [w1, w2, t1, t5, hi2, p1]
  refine callK.of (numO_calls c d t2 t3 _) ?_
  rintro v σ' ⟨rfl, rfl⟩
  simp [w3, byteA]
end Go.Proofs.YtbeohjinefaaoaaDoor
/-
  Which bytes are orders, as the document has it; addresses' bytes.
-/
namespace Go.Proofs.YtbeohjinefaaoaaDoor
open Go Go.AL

def kinds : List Nat := [0, 5, 8, 17, 18, 19, 29, 40, 41, 44, 60]
def kindsA : List AV := kinds.map fun (k : Nat) => .lit (.int .i64 (k : Int))
def namesA : List AV := kinds.map fun (k : Nat) => .lit (.string (nameB k))

set_option maxRecDepth 8000 in
theorem name16_calls (k : Nat) (σ : Store) : ACalls Tryd.prog 60 [.lit (.int .i64 k)] σ fun v σ' => v = .lit (.string (nameB k)) ∧ σ' = σ := by
  refine ACalls.of_awp follows (st := st60) (plans := pl60) (n := 22) Tryd.func60 rfl (by kernel_rfl) (by kernel_rfl) (by kernel_rfl) ?_
  simp
  refine codeK.loop follows (st := st60) (plans := pl60) (X := Nat) (fun i => i ≤ 11 ∧ ∀ j, j < i → (kinds.getD j 0) ≠ k)
    (fun i => [(0, .lit (.int .i64 k)), (3, .list false 1 namesA), (7, .list false 1 kindsA), (8, .lit (.int .i64 11)), (9, .lit (.int .i64 i))]) (fun _ => σ) (fun i => 11 - i) 0 (by kernel_rfl) (by simp) (by simp [namesA, kindsA, kinds, nameB]) (by simp) fun i hi => ?_
  obtain ⟨hi, hk⟩ := hi
  by_cases hlt : i < 11
  · have hw : IntKind.i64.wrap ((i : Int) + 1) = ((i + 1 : Nat) : Int) := wrap_i64 (by omega) (by omega)
    have g1 : kindsA[i]? = some (.lit (.int .i64 ((kinds.getD i 0 : Nat) : Int))) := by
      simp [kindsA, List.getElem?_map, List.getElem?_eq_getElem (show i < kinds.length from hlt)]
    have g2 : namesA[i]? = some (.lit (.string (nameB (kinds.getD i 0)))) := by
      simp [namesA, List.getElem?_map, List.getElem?_eq_getElem (show i < kinds.length from hlt)]
    have l1 : kindsA.length = 11 := rfl
    have l2 : namesA.length = 11 := rfl
    obtain ⟨q, hq⟩ : ∃ q, kinds.getD i 0 = q := ⟨_, rfl⟩
    rw [hq] at g1 g2
    replace g1 := (List.getElem_eq_iff (show i < kindsA.length from hlt)).2 g1
    replace g2 := (List.getElem_eq_iff (show i < namesA.length from hlt)).2 g2
    have hlt' : (i : Int) < 11 := by omega
    by_cases he : q = k
    · subst he
      simp [hlt, hlt', g1, g2, l1, l2]
    · have he' : ¬ (q : Int) = (k : Int) := by omega
      simp [hlt, hlt', g1, l1, he']
      refine ⟨i + 1, ⟨by omega, ?_⟩, by omega, ?_⟩
      · intro j hj
        by_cases hji : j = i
        · subst hji; rw [← List.getD_eq_getElem?_getD, hq]; exact he
        · rw [← List.getD_eq_getElem?_getD]; exact hk j (by omega)
      · rw [hw]; exact AV.le_refl _
  · obtain rfl : i = 11 := by omega
    have e0 := hk 0 (by omega)
    have e1 := hk 1 (by omega)
    have e2 := hk 2 (by omega)
    have e3 := hk 3 (by omega)
    have e4 := hk 4 (by omega)
    have e5 := hk 5 (by omega)
    have e6 := hk 6 (by omega)
    have e7 := hk 7 (by omega)
    have e8 := hk 8 (by omega)
    have e9 := hk 9 (by omega)
    have e10 := hk 10 (by omega)
    simp [kinds] at e0 e1 e2 e3 e4 e5 e6 e7 e8 e9 e10
    have : nameB k = ⟨#[]⟩ := by
      simp [nameB, Ne.symm e0, Ne.symm e1, Ne.symm e2, Ne.symm e3, Ne.symm e4, Ne.symm e5, Ne.symm e6, Ne.symm e7, Ne.symm e8, Ne.symm e9, Ne.symm e10]
    simp [this]

set_option maxRecDepth 4000 in
theorem is16_calls (b : UInt8) (σ : Store) : ACalls Tryd.prog 42 [byteA b] σ fun v σ' => v = .lit (.bool (isOrd b)) ∧ σ' = σ := by
  refine ACalls.of_awp follows (st := st42) (plans := pl42) (n := 11) Tryd.func42 rfl (by kernel_rfl) (by kernel_rfl) (by kernel_rfl) ?_
  by_cases h0 : b.toNat = 0
  · have : isOrd b = false := by simp [isOrd, h0]
    simp [byteA, h0, this]
  · have h1 := ord_name b h0
    simp [byteA, h0, wrapB]
    refine callK.of (name16_calls b.toNat σ) ?_
    rintro v σ' ⟨rfl, rfl⟩
    simp [h0, h1]

/-- Two bytes of an address. -/
def encM (n : Nat) : List UInt8 := [six (n / 64), six n]
theorem six_mod (n : Nat) : six (n % 64) = six n := by simp [six]
/-- Is it an address of twelve bits? -/
def okAddr (n : Int) : Prop := 0 ≤ n ∧ n < 4096
instance (n : Int) : Decidable (okAddr n) := inferInstanceAs (Decidable (_ ∧ _))
def encR (n : Int) : List AV := if okAddr n then [.list true 1 (bytesA (encM n.toNat)), .lit (.int .i64 0)] else [.list true 1 [], .lit (.int .i64 9)]

set_option maxRecDepth 4000 in
theorem enc4_calls (n : Int) (σ : Store) : ACalls Tryd.prog 43 [.lit (.int .i64 12), .lit (.int .i64 n)] σ fun v σ' => v = .tuple (encR n) ∧ σ' = σ := by
  refine ACalls.of_awp follows (st := st43) (plans := pl43) (n := 37) Tryd.func43 rfl (by kernel_rfl) (by kernel_rfl) (by kernel_rfl) ?_
  by_cases h : okAddr n
  · obtain ⟨m, rfl⟩ : ∃ m : Nat, n = m := ⟨n.toNat, by have := h.1; omega⟩
    have hm : m < 4096 := by have := h.2; omega
    have h1 : ¬ ((4095 : Int) < (m : Int)) := by omega
    have h5 : ((m : Int) < 0) = False := by simp
    have he : encM m = [six (m / 64), six (m % 64)] := by rw [encM, six_mod]
    obtain ⟨q, hq⟩ : ∃ q, m / 64 = q := ⟨_, rfl⟩
    obtain ⟨r, hr⟩ : ∃ r, m % 64 = r := ⟨_, rfl⟩
    have h2 : (m : Int).tdiv 64 = (q : Int) := by rw [← hq]; rfl
    have h3 : (m : Int).tmod 64 = (r : Int) := by rw [← hr]; rfl
    have h4 : IntKind.i64.wrap (q : Int) = (q : Int) := wrap_i64 (by omega) (by omega)
    rw [hq, hr] at he
    have s1 := six4_calls q (by omega)
    have s2 := six4_calls r (by omega)
    clear hq hr
    simp [encR, h, h1, h2, h4, h5, he]
    refine callK.of (s1 σ) ?_
    rintro v σ' ⟨rfl, rfl⟩
    simp [byteA, h3]
    refine callK.of (s2 _) ?_
    rintro v σ' ⟨rfl, rfl⟩
    simp [byteA, bytesA]
  · have h' : n < 0 ∨ 4095 < n := by unfold okAddr at h; omega
    by_cases h0 : n < 0
    · simp [encR, h, h0]
    · have h1 : 4095 < n := by omega
      simp [encR, h, h0, h1]

set_option maxRecDepth 4000 in
theorem enc_calls_ok (m q : Nat) (h2 : (m : Int).fdiv (2 ^ min 6 IntKind.i64.bits) = (q : Int)) (hm : m < 4096) (hq : q < 4096) (h6 : IntKind.i64.wrap (2 ^ min 12 IntKind.i64.bits) = 4096) (σ : Store) :
    ACalls Tryd.prog 75 [.lit (.int .i64 12), .lit (.int .i64 m)] σ fun v σ' => v = .tuple [.list true 1 (bytesA [six q, six m]), .lit (.int .i64 0)] ∧ σ' = σ := by
  refine ACalls.of_awp follows (st := st75) (plans := pl75) (n := 41) Tryd.func75 rfl (by kernel_rfl) (by kernel_rfl) (by kernel_rfl) ?_
  have h1 : ¬ ((4096 : Int) ≤ (m : Int)) := by omega
  have h5 : ((m : Int) < 0) = False := by simp
  have s1 := six_calls q hq
  have s2 := six_calls m hm
  generalize six q = x at *
  generalize six m = y at *
  simp [h1, h5, h6, h2]
  refine callK.of (s1 σ) ?_
  rintro v σ' ⟨rfl, rfl⟩
  simp [byteA]
  refine callK.of (s2 _) ?_
  rintro v σ' ⟨rfl, rfl⟩
  simp [byteA, bytesA]
set_option maxRecDepth 4000 in
theorem enc_calls_bad (n : Int) (h : ¬ okAddr n) (h6 : IntKind.i64.wrap (2 ^ min 12 IntKind.i64.bits) = 4096) (σ : Store) : ACalls Tryd.prog 75 [.lit (.int .i64 12), .lit (.int .i64 n)] σ fun v σ' => v = .tuple [.list true 1 [], .lit (.int .i64 9)] ∧ σ' = σ := by
  refine ACalls.of_awp follows (st := st75) (plans := pl75) (n := 41) Tryd.func75 rfl (by kernel_rfl) (by kernel_rfl) (by kernel_rfl) ?_
  have h' : n < 0 ∨ 4096 ≤ n := by unfold okAddr at h; omega
  by_cases h0 : n < 0
  · simp [h0]
  · have h1 : 4096 ≤ n := by omega
    simp [h0, h1, h6]
theorem enc_calls (n : Int) (σ : Store) : ACalls Tryd.prog 75 [.lit (.int .i64 12), .lit (.int .i64 n)] σ fun v σ' => v = .tuple (encR n) ∧ σ' = σ := by
  have h6 : IntKind.i64.wrap (2 ^ min 12 IntKind.i64.bits) = 4096 := by decide +kernel
  by_cases h : okAddr n
  · have h' := h
    rw [encR, if_pos h]
    obtain ⟨h1, h2⟩ := h
    obtain ⟨m, rfl⟩ : ∃ m : Nat, n = m := ⟨n.toNat, by omega⟩
    exact enc_calls_ok m (m / 64) (fdiv64 m) (by omega) (by omega) h6 σ
  · rw [encR, if_neg h]
    exact enc_calls_bad n h h6 σ
end Go.Proofs.YtbeohjinefaaoaaDoor
/-
  Two bytes as an address.
-/
namespace Go.Proofs.YtbeohjinefaaoaaDoor
open Go Go.AL

def unsix (b : UInt8) : Nat := ((List.range 64).find? fun n => sixR n == b).getD (b.toNat % 64)
/-- What two bytes say: a place and an error. -/
def decM (a b : UInt8) : Nat × Nat := if a.toNat / 64 = 0 then (a.toNat * 256 + b.toNat, 0) else if a.toNat / 64 = 2 then (0, 9) else (unsix a * 64 + unsix b, 0)
def decR : List UInt8 → Nat × Nat
  | a :: b :: _ => decM a b
  | _ => (0, 2)
end Go.Proofs.YtbeohjinefaaoaaDoor
