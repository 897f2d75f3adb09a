/-
  Of each function: which temporaries take a right to append with the value; the plans of the regions that draw their order. Written by a program of mine.
-/
import Derived.Test.YtkjcdnmjdanmpaaVPart9
set_option linter.unusedSimpArgs false
set_option linter.unusedVariables false
namespace Go.Proofs.Ytkjcdnmjdanmpaa
open Go Go.AL
@[simp] def pl3 : List (Nat × Plan) := [(8, Plan.seq [1, 3, 4] (.alt (.alt (Plan.seq [0] (.alt (Plan.seq [2, 5, 6, 7, 8, 9] (.done)) (Plan.seq [5, 2, 6, 7, 8, 9] (.done)))) (Plan.seq [2] (.alt (Plan.seq [0, 5, 6, 7, 8, 9] (.done)) (Plan.seq [5, 6] (.alt (Plan.seq [0, 7, 8, 9] (.done)) (Plan.seq [7, 0, 8, 9] (.done))))))) (Plan.seq [5, 2, 6] (.alt (Plan.seq [0, 7, 8, 9] (.done)) (Plan.seq [7, 0, 8, 9] (.done))))))]
@[simp] def st4 : List Nat := []
@[simp] def pl4 : List (Nat × Plan) := []
@[simp] def st5 : List Nat := []
@[simp] def pl5 : List (Nat × Plan) := []
@[simp] def st6 : List Nat := []
@[simp] def pl6 : List (Nat × Plan) := []
@[simp] def st7 : List Nat := []
@[simp] def pl7 : List (Nat × Plan) := []
@[simp] def st8 : List Nat := [30]
@[simp] def pl8 : List (Nat × Plan) := [(7, Plan.seq [0, 1, 3, 4, 5] (.alt (Plan.seq [2, 6, 7] (.done)) (Plan.seq [6, 2, 7] (.done))))]
@[simp] def st9 : List Nat := [21]
@[simp] def pl9 : List (Nat × Plan) := [(5, Plan.seq [0, 2, 4] (.alt (.alt (Plan.seq [1, 5] (.alt (Plan.seq [3, 6, 7, 8, 9, 10, 11] (.done)) (Plan.seq [6, 3, 7, 8, 9, 10, 11] (.done)))) (Plan.seq [3] (.alt (Plan.seq [1, 5, 6, 7, 8, 9, 10, 11] (.done)) (Plan.seq [5] (.alt (Plan.seq [1, 6, 7, 8, 9, 10, 11] (.done)) (Plan.seq [6, 7] (.alt (Plan.seq [1, 8, 9, 10, 11] (.done)) (Plan.seq [8, 1, 9, 10, 11] (.done))))))))) (Plan.seq [5] (.alt (.alt (Plan.seq [1] (.alt (Plan.seq [3, 6, 7, 8, 9, 10, 11] (.done)) (Plan.seq [6, 3, 7, 8, 9, 10, 11] (.done)))) (Plan.seq [3] (.alt (Plan.seq [1, 6, 7, 8, 9, 10, 11] (.done)) (Plan.seq [6, 7] (.alt (Plan.seq [1, 8, 9, 10, 11] (.done)) (Plan.seq [8, 1, 9, 10, 11] (.done))))))) (Plan.seq [6] (.alt (Plan.seq [1, 3, 7, 8, 9, 10, 11] (.done)) (Plan.seq [3, 7] (.alt (Plan.seq [1, 8, 9, 10, 11] (.done)) (Plan.seq [8, 1, 9, 10, 11] (.done))))))))))]
@[simp] def st10 : List Nat := []
@[simp] def pl10 : List (Nat × Plan) := [(6, Plan.seq [0, 1, 2, 3, 4, 5, 6, 7, 8] (.done))]
@[simp] def st11 : List Nat := [15, 22]
@[simp] def pl11 : List (Nat × Plan) := []
@[simp] def st12 : List Nat := [20, 30, 1000047, 1000048]
@[simp] def pl12 : List (Nat × Plan) := []
@[simp] def st13 : List Nat := []
@[simp] def pl13 : List (Nat × Plan) := []
@[simp] def st14 : List Nat := []
@[simp] def pl14 : List (Nat × Plan) := []
@[simp] def st15 : List Nat := []
@[simp] def pl15 : List (Nat × Plan) := []
@[simp] def st16 : List Nat := [31]
@[simp] def pl16 : List (Nat × Plan) := []
@[simp] def st17 : List Nat := []
@[simp] def pl17 : List (Nat × Plan) := []
@[simp] def st18 : List Nat := [28, 1000012, 2000012, 1000018, 2000018, 1000027, 2000027, 1000033, 2000033]
@[simp] def pl18 : List (Nat × Plan) := [(10, Plan.seq [0, 1, 2, 3, 5, 6, 4, 7, 8, 9] (.done))]
@[simp] def st19 : List Nat := [30, 39, 43]
@[simp] def pl19 : List (Nat × Plan) := [(7, Plan.seq [1, 2, 3, 4, 5, 6, 7, 8, 0, 9, 10, 11] (.done))]
@[simp] def st20 : List Nat := [31, 1000013, 31]
@[simp] def pl20 : List (Nat × Plan) := [(2, Plan.seq [0, 1, 2, 3, 4, 5, 6, 7, 8, 9, 10, 11] (.done))]
@[simp] def st22 : List Nat := []
@[simp] def pl22 : List (Nat × Plan) := []
@[simp] def st24 : List Nat := [42]
@[simp] def pl24 : List (Nat × Plan) := [(5, Plan.seq [0, 1, 2, 3, 4, 5, 6, 7, 8, 9, 10] (.done)), (10, Plan.seq [0, 1, 2, 5, 6] (.alt (Plan.seq [3, 4, 7, 8, 9, 10, 11] (.done)) (Plan.seq [7, 3, 4, 8, 9, 10, 11] (.done))))]
@[simp] def st25 : List Nat := []
@[simp] def pl25 : List (Nat × Plan) := []
@[simp] def st28 : List Nat := [9]
@[simp] def pl28 : List (Nat × Plan) := []
@[simp] def st29 : List Nat := [11]
@[simp] def pl29 : List (Nat × Plan) := []
@[simp] def st30 : List Nat := []
@[simp] def pl30 : List (Nat × Plan) := []
@[simp] def st31 : List Nat := []
@[simp] def pl31 : List (Nat × Plan) := []
@[simp] def st32 : List Nat := [36, 19]
@[simp] def pl32 : List (Nat × Plan) := []
@[simp] def st33 : List Nat := [23]
@[simp] def pl33 : List (Nat × Plan) := []
@[simp] def st34 : List Nat := [12]
@[simp] def pl34 : List (Nat × Plan) := []
@[simp] def st35 : List Nat := []
@[simp] def pl35 : List (Nat × Plan) := [(2, Plan.seq [0, 1, 2, 3, 4, 5, 6, 7, 8] (.done))]
@[simp] def st36 : List Nat := [23]
@[simp] def pl36 : List (Nat × Plan) := []
@[simp] def st39 : List Nat := []
@[simp] def pl39 : List (Nat × Plan) := []
@[simp] def st40 : List Nat := []
@[simp] def pl40 : List (Nat × Plan) := [(13, Plan.seq [0, 1, 2, 3, 4, 5, 6, 7, 8, 9] (.done))]
@[simp] def st41 : List Nat := []
@[simp] def pl41 : List (Nat × Plan) := []
@[simp] def st42 : List Nat := []
@[simp] def pl42 : List (Nat × Plan) := []
@[simp] def st43 : List Nat := []
@[simp] def pl43 : List (Nat × Plan) := []
@[simp] def st44 : List Nat := []
@[simp] def pl44 : List (Nat × Plan) := []
@[simp] def st45 : List Nat := []
@[simp] def pl45 : List (Nat × Plan) := []
@[simp] def st46 : List Nat := [49, 50, 54, 55]
@[simp] def pl46 : List (Nat × Plan) := [(8, Plan.seq [0, 1, 2, 3, 4, 5, 6, 7, 8, 9, 10, 11] (.done))]
@[simp] def st47 : List Nat := []
@[simp] def pl47 : List (Nat × Plan) := []
@[simp] def st49 : List Nat := []
@[simp] def pl49 : List (Nat × Plan) := []
@[simp] def st50 : List Nat := []
@[simp] def pl50 : List (Nat × Plan) := []
end Go.Proofs.Ytkjcdnmjdanmpaa
/-
  What bytes and events are as abstract values; the reader's pure model.
-/
namespace Go.Proofs.Ytkjcdnmjdanmpaa
open Go Go.AL

theorem follows : Try.prog.follows .mixedOrders = true := by kernel_rfl

def byteA (b : UInt8) : AV := .lit (.int .u8 (b.toNat : Int))
def bytesA (l : List UInt8) : List AV := l.map byteA
@[simp] theorem bytesA_length (l : List UInt8) : (bytesA l).length = l.length := by simp [bytesA]
theorem bytesA_append (l k : List UInt8) : bytesA (l ++ k) = bytesA l ++ bytesA k := by simp [bytesA]
theorem bytesA_nil : bytesA [] = [] := rfl
theorem bytesOf_bytesA (l : List UInt8) : bytesOf (bytesA l) = some l := by
  induction l with
  | nil => rfl
  | cons b l ih =>
    have hb : AL.byteOf (byteA b) = some b := by simp [byteA, AL.byteOf]
    simp only [bytesOf, bytesA, List.map_cons, List.mapM_cons] at ih ⊢
    rw [hb, ih]; rfl
/-- A place and the characters from there on. -/
structure En where
  addr : Int
  text : List UInt8
  deriving DecidableEq
/-- What came. -/
structure Rp where
  aid : UInt8
  short : Bool
  cursor : Int
  es : List En
  deriving DecidableEq
def enA (e : En) : AV := .agg [.lit (.int .i64 e.addr), .list false 1 (bytesA e.text)]
def ensA (l : List En) : List AV := l.map enA
@[simp] theorem ensA_length (l : List En) : (ensA l).length = l.length := by simp [ensA]
def rpA (r : Rp) : AV := .agg [byteA r.aid, .lit (.bool r.short), .lit (.int .i64 r.cursor), .list false 2 (ensA r.es)]

theorem le_of_eq {a b : AV} (h : a = b) : a.le b := h ▸ AV.le_refl a
theorem bytesA_take (l : List UInt8) (n : Nat) : (bytesA l).take n = bytesA (l.take n) := by simp [bytesA]
theorem bytesA_drop (l : List UInt8) (n : Nat) : (bytesA l).drop n = bytesA (l.drop n) := by simp [bytesA]
/-- A row of bytes that is an object. -/
def rowA (p cap : Nat) (l : List UInt8) : AV := .lit (.slice (some ⟨p, 0, none⟩) l.length cap)

theorem clone_calls (o : Bool) (l : List UInt8) (σ : Store) (hl : l.length ≤ 140737488355328) :
    ACalls Try.prog 43 [.list o 1 (bytesA l)] σ fun v σ' => v = .list true 1 (bytesA l) ∧ σ' = σ := by
  refine ACalls.of_awp follows (st := st43) (plans := pl43) (n := 8) Try.func43 rfl (by kernel_rfl) (by kernel_rfl) (by kernel_rfl) ?_
  simp
  refine ⟨⟨by omega, by omega⟩, fun h => ?_⟩
  rw [h]; exact AV.le_refl _

end Go.Proofs.Ytkjcdnmjdanmpaa
/-
  Codes: six bits as a byte, addresses, which bytes are orders.
-/
namespace Go.Proofs.Ytkjcdnmjdanmpaa
open Go Go.AL

def isOrd (b : UInt8) : Bool := [5, 8, 17, 18, 19, 29, 40, 41, 44, 60].contains b.toNat
def nameB (k : Nat) : ByteArray := if k = 0 then ⟨#[84, 101, 120, 116]⟩ else if k = 5 then ⟨#[80, 84]⟩ else if k = 8 then ⟨#[71, 69]⟩ else if k = 17 then ⟨#[83, 66, 65]⟩ else if k = 18 then ⟨#[69, 85, 65]⟩ else if k = 19 then ⟨#[73, 67]⟩ else if k = 29 then ⟨#[83, 70]⟩ else if k = 40 then ⟨#[83, 65]⟩ else if k = 41 then ⟨#[83, 70, 69]⟩ else if k = 44 then ⟨#[77, 70]⟩ else if k = 60 then ⟨#[82, 65]⟩ else ⟨#[]⟩

set_option maxRecDepth 8000 in
theorem name_calls (k : Nat) (σ : Store) : ACalls Try.prog 42 [.lit (.int .i64 k)] σ fun v σ' => v = .lit (.string (nameB k)) ∧ σ' = σ := by
  refine ACalls.of_awp follows (st := st42) (plans := pl42) (n := 26) Try.func42 rfl (by kernel_rfl) (by kernel_rfl) (by kernel_rfl) ?_
  by_cases h0 : k = 0
  · subst h0; simp [nameB]
  by_cases h5 : k = 5
  · subst h5; simp [nameB]
  have g5 : ¬ (k : Int) = 5 := by omega
  by_cases h8 : k = 8
  · subst h8; simp [nameB]
  have g8 : ¬ (k : Int) = 8 := by omega
  by_cases h17 : k = 17
  · subst h17; simp [nameB]
  have g17 : ¬ (k : Int) = 17 := by omega
  by_cases h18 : k = 18
  · subst h18; simp [nameB]
  have g18 : ¬ (k : Int) = 18 := by omega
  by_cases h19 : k = 19
  · subst h19; simp [nameB]
  have g19 : ¬ (k : Int) = 19 := by omega
  by_cases h29 : k = 29
  · subst h29; simp [nameB]
  have g29 : ¬ (k : Int) = 29 := by omega
  by_cases h40 : k = 40
  · subst h40; simp [nameB]
  have g40 : ¬ (k : Int) = 40 := by omega
  by_cases h41 : k = 41
  · subst h41; simp [nameB]
  have g41 : ¬ (k : Int) = 41 := by omega
  by_cases h44 : k = 44
  · subst h44; simp [nameB]
  have g44 : ¬ (k : Int) = 44 := by omega
  by_cases h60 : k = 60
  · subst h60; simp [nameB]
  have g60 : ¬ (k : Int) = 60 := by omega
  simp [nameB, h0, h5, h8, h17, h18, h19, h29, h40, h41, h44, h60, g5, g8, g17, g18, g19, g29, g40, g41, g44, g60]

theorem all_bytes {p : UInt8 → Prop} (h : ∀ n : Fin 256, p (UInt8.ofNat n.val)) (b : UInt8) : p b := by
  have := h ⟨b.toNat, b.toNat_lt⟩
  simpa using this
theorem wrapB (b : UInt8) : IntKind.i64.wrap (b.toNat : Int) = (b.toNat : Int) := by have := b.toNat_lt; exact wrap_i64 (by omega) (by omega)
theorem ord_name (b : UInt8) : b.toNat ≠ 0 → (!(nameB b.toNat).toList.isEmpty) = isOrd b :=
  all_bytes (p := fun b => b.toNat ≠ 0 → (!(nameB b.toNat).toList.isEmpty) = isOrd b) (by decide +kernel) b

set_option maxRecDepth 8000 in
theorem is_calls (b : UInt8) (σ : Store) : ACalls Try.prog 30 [byteA b] σ fun v σ' => v = .lit (.bool (isOrd b)) ∧ σ' = σ := by
  refine ACalls.of_awp follows (st := st30) (plans := pl30) (n := 11) Try.func30 rfl (by kernel_rfl) (by kernel_rfl) (by kernel_rfl) ?_
  by_cases h0 : b.toNat = 0
  · have : isOrd b = false := by simp [isOrd, h0]
    simp [byteA, h0, this]
  · have h1 := ord_name b h0
    simp [byteA, h0, wrapB]
    refine callK.of (name_calls b.toNat σ) ?_
    rintro v σ' ⟨rfl, rfl⟩
    simp [h0, h1]

theorem fdiv16 (n : Nat) : (n : Int).fdiv (2 ^ min 4 IntKind.i64.bits) = ((n / 16 : Nat) : Int) := by cases n <;> rfl
def zm (q : Nat) : UInt8 := if q = 0 then 64 else if q = 1 then 80 else if q = 2 then 96 else 112
def zl (q : Nat) : UInt8 := if q = 0 then 192 else if q = 1 then 208 else if q = 2 then 224 else 240
def zf (q : Nat) : Nat := if q = 0 then 1 else if q = 1 then 1 else if q = 2 then 2 else 0
set_option maxRecDepth 8000 in
theorem zone_calls (r : Nat) (σ : Store) : ACalls Try.prog 50 [.lit (.int .i64 r)] σ fun v σ' => v = .tuple [byteA (zm (r / 16)), byteA (zl (r / 16)), .lit (.int .i64 (zf (r / 16))), .lit (.int .i64 9)] ∧ σ' = σ := by
  refine ACalls.of_awp follows (st := st50) (plans := pl50) (n := 14) Try.func50 rfl (by kernel_rfl) (by kernel_rfl) (by kernel_rfl) ?_
  obtain ⟨q, hq⟩ : ∃ q, r / 16 = q := ⟨_, rfl⟩
  have hf : (r : Int).fdiv (2 ^ min 4 IntKind.i64.bits) = (q : Int) := by rw [fdiv16, hq]
  rw [hq]
  clear hq
  by_cases h0 : q = 0
  · subst h0; simp [hf, zm, zl, zf, byteA]
  · by_cases h1 : q = 1
    · subst h1; simp [hf, zm, zl, zf, byteA]
    · by_cases h2 : q = 2
      · subst h2; simp [hf, zm, zl, zf, byteA]
      · have e1 : ¬ (q : Int) = 1 := by omega
        have e2 : ¬ (q : Int) = 2 := by omega
        simp [hf, h0, h1, h2, e1, e2, zm, zl, zf, byteA]

/-- Six bits, as a byte. -/
def sixR (r : Nat) : UInt8 := if zf (r / 16) ≤ r % 16 ∧ r % 16 ≤ 9 then zl (r / 16) ||| UInt8.ofNat (r % 16) else zm (r / 16) ||| UInt8.ofNat (r % 16)
def six (n : Nat) : UInt8 := sixR (n % 64)
theorem and63 (n : Nat) (hn : n < 4096) : pureBin .and (.int .i64 (n : Int)) (.int .i64 63) = some (.int .i64 ((n % 64 : Nat) : Int)) := by
  have e3 : n &&& 63 = n % 64 := Nat.and_two_pow_sub_one_eq_mod n 6
  have := and_i64 n 63 (by omega) (by omega)
  rw [e3] at this; exact this
theorem and15 (n : Nat) (hn : n < 4096) : pureBin .and (.int .i64 (n : Int)) (.int .i64 15) = some (.int .i64 ((n % 16 : Nat) : Int)) := by
  have e3 : n &&& 15 = n % 16 := Nat.and_two_pow_sub_one_eq_mod n 4
  have := and_i64 n 15 (by omega) (by omega)
  rw [e3] at this; exact this

set_option maxRecDepth 8000 in
theorem six_calls (n : Nat) (hn : n < 4096) (σ : Store) : ACalls Try.prog 41 [.lit (.int .i64 n)] σ fun v σ' => v = byteA (six n) ∧ σ' = σ := by
  refine ACalls.of_awp follows (st := st41) (plans := pl41) (n := 35) Try.func41 rfl (by kernel_rfl) (by kernel_rfl) (by kernel_rfl) ?_
  obtain ⟨r, hr⟩ : ∃ r, n % 64 = r := ⟨_, rfl⟩
  have h1 := and63 n hn
  rw [hr] at h1
  have hr64 : r < 64 := by omega
  have h2 := and15 r (by omega)
  obtain ⟨d, hd⟩ : ∃ d, r % 16 = d := ⟨_, rfl⟩
  rw [hd] at h2
  have hd16 : d < 16 := by omega
  have hz := zone_calls r σ
  obtain ⟨M, hM⟩ : ∃ M, zm (r / 16) = M := ⟨_, rfl⟩
  obtain ⟨L, hL⟩ : ∃ L, zl (r / 16) = L := ⟨_, rfl⟩
  obtain ⟨F, hF⟩ : ∃ F, zf (r / 16) = F := ⟨_, rfl⟩
  obtain ⟨X, hX⟩ : ∃ X, six n = X := ⟨_, rfl⟩
  obtain ⟨B, hB⟩ : ∃ B, UInt8.ofNat d = B := ⟨_, rfl⟩
  have hdB : IntKind.u8.wrap (d : Int) = (B.toNat : Int) := by
    rw [wrap_u8 (by omega) (by omega), ← hB, UInt8.toNat_ofNat']; omega
  have hX1 : F ≤ d ∧ d ≤ 9 → L ||| B = X := fun h => by
    rw [← hX, six, hr, sixR, hF, hd, if_pos h, hL, hB]
  have hX2 : ¬ (F ≤ d ∧ d ≤ 9) → M ||| B = X := fun h => by
    rw [← hX, six, hr, sixR, hF, hd, if_neg h, hM, hB]
  rw [hM, hL, hF] at hz
  rw [hX]
  by_cases c1 : F ≤ d
  · by_cases c2 : d ≤ 9
    · have c2' : (d : Int) ≤ 9 := Int.ofNat_le.2 c2
      have e := hX1 ⟨c1, c2⟩
      simp [-e_pureBin_8, h1]
      refine callK.of hz ?_
      rintro v σ' ⟨rfl, rfl⟩
      simp [-e_pureBin_8, -e_pureBin_9, or_u8, h2, c1, c2', byteA, hdB, e]
    · have c2' : ¬ (d : Int) ≤ 9 := fun h => c2 (Int.ofNat_le.1 h)
      have e := hX2 (fun h => c2 h.2)
      simp [-e_pureBin_8, h1]
      refine callK.of hz ?_
      rintro v σ' ⟨rfl, rfl⟩
      simp [-e_pureBin_8, -e_pureBin_9, or_u8, h2, c1, c2', byteA, hdB, e]
  · have e := hX2 (fun h => c1 h.1)
    simp [-e_pureBin_8, h1]
    refine callK.of hz ?_
    rintro v σ' ⟨rfl, rfl⟩
    simp [-e_pureBin_8, -e_pureBin_9, or_u8, h2, c1, byteA, hdB, e]
end Go.Proofs.Ytkjcdnmjdanmpaa
/-
  The document's numbers: two hexadecimal digits; its table of six bits; which bytes are orders there.
-/
namespace Go.Proofs.Ytkjcdnmjdanmpaa
open Go Go.AL

def dig (c : UInt8) : Nat := if 97 ≤ c.toNat then c.toNat - 97 + 10 else c.toNat - 48
@[simp] theorem wr0 : IntKind.i64.wrap 0 = 0 := by decide
@[simp] theorem wr1 : IntKind.i64.wrap 1 = 1 := by decide
@[simp] theorem wr2 : IntKind.i64.wrap 2 = 2 := by decide

def tabB : Array UInt8 := #[52, 48, 99, 49, 99, 50, 99, 51, 99, 52, 99, 53, 99, 54, 99, 55, 99, 56, 99, 57, 52, 97, 52, 98, 52, 99, 52, 100, 52, 101, 52, 102, 53, 48, 100, 49, 100, 50, 100, 51, 100, 52, 100, 53, 100, 54, 100, 55, 100, 56, 100, 57, 53, 97, 53, 98, 53, 99, 53, 100, 53, 101, 53, 102, 54, 48, 54, 49, 101, 50, 101, 51, 101, 52, 101, 53, 101, 54, 101, 55, 101, 56, 101, 57, 54, 97, 54, 98, 54, 99, 54, 100, 54, 101, 54, 102, 102, 48, 102, 49, 102, 50, 102, 51, 102, 52, 102, 53, 102, 54, 102, 55, 102, 56, 102, 57, 55, 97, 55, 98, 55, 99, 55, 100, 55, 101, 55, 102]
end Go.Proofs.Ytkjcdnmjdanmpaa
/-
  Which bytes are orders, as the document has it; addresses' bytes.
-/
namespace Go.Proofs.Ytkjcdnmjdanmpaa
open Go Go.AL

def kinds : List Nat := [0, 5, 8, 17, 18, 19, 29, 40, 41, 44, 60]
def kindsA : List AV := kinds.map fun (k : Nat) => .lit (.int .i64 (k : Int))
def namesA : List AV := kinds.map fun (k : Nat) => .lit (.string (nameB k))

/-- Two bytes of an address. -/
def encM (n : Nat) : List UInt8 := [six (n / 64), six n]
/-- Is it an address of twelve bits? -/
def okAddr (n : Int) : Prop := 0 ≤ n ∧ n < 4096
instance (n : Int) : Decidable (okAddr n) := inferInstanceAs (Decidable (_ ∧ _))
def encR (n : Int) : List AV := if okAddr n then [.list true 1 (bytesA (encM n.toNat)), .lit (.int .i64 0)] else [.list true 1 [], .lit (.int .i64 9)]

end Go.Proofs.Ytkjcdnmjdanmpaa
/-
  Two bytes as an address.
-/
namespace Go.Proofs.Ytkjcdnmjdanmpaa
open Go Go.AL

def unsix (b : UInt8) : Nat := ((List.range 64).find? fun n => sixR n == b).getD (b.toNat % 64)
theorem unsix_lt (b : UInt8) : unsix b < 64 := by
  unfold unsix
  cases h : (List.range 64).find? fun n => sixR n == b with
  | none => simp; omega
  | some i => rw [List.find?_range_eq_some] at h; simp; have := h.2.1; simp at this; omega
theorem unsix_six : ∀ r : Fin 64, unsix (sixR r.val) = r.val := by decide +kernel
theorem six_top : ∀ r : Fin 64, (sixR r.val).toNat / 64 = 1 ∨ (sixR r.val).toNat / 64 = 3 := by decide +kernel
theorem unsix_found {b : UInt8} {i : Nat} (hi : i < 64) (h : sixR i = b) (hj : ∀ j, j < i → sixR j ≠ b) : unsix b = i := by
  have : ((List.range 64).find? fun n => sixR n == b) = some i := by
    rw [List.find?_range_eq_some]
    exact ⟨by simp [h], by simp [hi], fun j hj' => by simp [hj j hj']⟩
  rw [unsix, this]; rfl
theorem unsix_none {b : UInt8} (hj : ∀ j, j < 64 → sixR j ≠ b) : unsix b = b.toNat % 64 := by
  have : ((List.range 64).find? fun n => sixR n == b) = none := by
    rw [List.find?_eq_none]
    intro n hn
    simp at hn
    simp [hj n hn]
  rw [unsix, this]; rfl
theorem six_small {n : Nat} (h : n < 64) : six n = sixR n := by rw [six, Nat.mod_eq_of_lt h]
theorem and63b (b : UInt8) : pureBin .and (.int .u8 (b.toNat : Int)) (.int .u8 63) = some (.int .u8 ((b.toNat % 64 : Nat) : Int)) := by
  have h := and_u8 b 63
  have e : (b &&& 63).toNat = b.toNat % 64 := by
    rw [UInt8.toNat_and]; exact Nat.and_two_pow_sub_one_eq_mod _ 6
  rw [e] at h; exact h

set_option maxRecDepth 8000 in
theorem unsix_calls (b : UInt8) (σ : Store) : ACalls Try.prog 29 [byteA b] σ fun v σ' => v = .lit (.int .i64 (unsix b)) ∧ σ' = σ := by
  refine ACalls.of_awp follows (st := st29) (plans := pl29) (n := 16) Try.func29 rfl (by kernel_rfl) (by kernel_rfl) (by kernel_rfl) ?_
  simp
  refine codeK.loop follows (st := st29) (plans := pl29) (X := Nat) (fun i => i ≤ 64 ∧ ∀ j, j < i → sixR j ≠ b)
    (fun i => [(0, byteA b), (4, .lit (.int .i64 i))]) (fun _ => σ) (fun i => 64 - i) 0 (by kernel_rfl) (by simp) (by simp) (by simp) fun i hi => ?_
  obtain ⟨hi, hk⟩ := hi
  by_cases hlt : i < 64
  · have hw : IntKind.i64.wrap ((i : Int) + 1) = ((i + 1 : Nat) : Int) := wrap_i64 (by omega) (by omega)
    have hlt' : (i : Int) < 64 := by omega
    have hs := six_calls i (by omega)
    rw [six_small hlt] at hs
    have hf := fun h => unsix_found (b := b) hlt h hk
    have hstep : sixR i ≠ b → ∀ j, j < i + 1 → sixR j ≠ b := fun hne j hj => by
      by_cases hji : j = i
      · subst hji; exact hne
      · exact hk j (by omega)
    generalize sixR i = x at *
    by_cases he : x = b
    · have hf' := hf he
      subst he
      simp [hlt']
      refine callK.of (hs σ) ?_
      rintro v σ' ⟨rfl, rfl⟩
      simp [byteA, hf']
    · have he' : ¬ (x.toNat : Int) = (b.toNat : Int) := fun h => he (UInt8.toNat_inj.1 (by omega))
      simp [hlt']
      refine callK.of (hs σ) ?_
      rintro v σ' ⟨rfl, rfl⟩
      simp [byteA, he']
      exact ⟨i + 1, ⟨by omega, hstep he⟩, by omega, by rw [hw]; exact AV.le_refl _⟩
  · obtain rfl : i = 64 := by omega
    have hn := unsix_none hk
    have ha := and63b b
    have hw : IntKind.i64.wrap ((unsix b : Nat) : Int) = ((unsix b : Nat) : Int) := wrap_i64 (by omega) (by have := unsix_lt b; omega)
    rw [← hn] at ha
    simp [-e_pureBin_8, byteA, ha, hw]

/-- What two bytes say: a place and an error. -/
def decM (a b : UInt8) : Nat × Nat := if a.toNat / 64 = 0 then (a.toNat * 256 + b.toNat, 0) else if a.toNat / 64 = 2 then (0, 9) else (unsix a * 64 + unsix b, 0)
theorem dec_enc {n : Nat} (h : n < 4096) : decM (six (n / 64)) (six n) = (n, 0) := by
  have e1 : six (n / 64) = sixR (n / 64) := six_small (by omega)
  have e2 : six n = sixR (n % 64) := rfl
  have h1 := six_top ⟨n / 64, by omega⟩
  have h2 := unsix_six ⟨n / 64, by omega⟩
  have h3 := unsix_six ⟨n % 64, by omega⟩
  simp only at h1 h2 h3
  rw [decM, e1, e2, h2, h3, if_neg (by omega), if_neg (by omega)]
  congr 1; omega
def decR : List UInt8 → Nat × Nat
  | a :: b :: _ => decM a b
  | _ => (0, 2)
theorem shl8 (a : UInt8) : pureBin .shl (.int .i64 (a.toNat : Int)) (.int .u64 8) = some (.int .i64 ((2 ^ 8 * a.toNat : Nat) : Int)) := by
  have := a.toNat_lt
  have h : IntKind.i64.wrap ((a.toNat : Int) * 2 ^ min ((8 : Int).toNat) IntKind.i64.bits) = ((2 ^ 8 * a.toNat : Nat) : Int) := by
    have : (2 : Int) ^ min ((8 : Int).toNat) IntKind.i64.bits = 256 := by decide +kernel
    rw [this, wrap_i64 (by omega) (by omega)]; omega
  unfold pureBin
  simp only [show ¬ ((8 : Int) < 0) by omega, if_false]
  rw [h]
theorem shl6 (m : Nat) (hm : m < 64) : pureBin .shl (.int .i64 (m : Int)) (.int .u64 6) = some (.int .i64 ((2 ^ 6 * m : Nat) : Int)) := by
  have h : IntKind.i64.wrap ((m : Int) * 2 ^ min ((6 : Int).toNat) IntKind.i64.bits) = ((2 ^ 6 * m : Nat) : Int) := by
    have : (2 : Int) ^ min ((6 : Int).toNat) IntKind.i64.bits = 64 := by decide +kernel
    rw [this, wrap_i64 (by omega) (by omega)]; omega
  unfold pureBin
  simp only [show ¬ ((6 : Int) < 0) by omega, if_false]
  rw [h]
theorem shr6 (a : UInt8) : pureBin .shr (.int .u8 (a.toNat : Int)) (.int .u64 6) = some (.int .u8 ((a.toNat / 64 : Nat) : Int)) := by
  have h : (a.toNat : Int).fdiv (2 ^ min ((6 : Int).toNat) IntKind.u8.bits) = ((a.toNat / 64 : Nat) : Int) := by
    have : (2 : Int) ^ min ((6 : Int).toNat) IntKind.u8.bits = ((64 : Nat) : Int) := by decide +kernel
    rw [this]; exact (Int.ofNat_fdiv a.toNat 64).symm
  unfold pureBin
  simp only [show ¬ ((6 : Int) < 0) by omega, if_false]
  rw [h]

set_option maxRecDepth 8000 in
theorem dec_core1 (o : Bool) (a b : UInt8) (L : List AV) (q V N : Nat) (gl0 : 0 < L.length) (gl1 : 1 < L.length) (e0 : L[0] = byteA a) (e1 : L[1] = byteA b)
    (wa : IntKind.i64.wrap (a.toNat : Int) = (a.toNat : Int)) (wb : IntKind.i64.wrap (b.toNat : Int) = (b.toNat : Int))
    (f1 : pureBin .shl (.int .i64 (a.toNat : Int)) (.int .u64 8) = some (.int .i64 (V : Int))) (f2 : pureBin .shr (.int .u8 (a.toNat : Int)) (.int .u64 6) = some (.int .u8 (q : Int)))
    (f3 : pureBin .or (.int .i64 (V : Int)) (.int .i64 (b.toNat : Int)) = some (.int .i64 (N : Int))) (hq : q = 0) (σ : Store) :
    ACalls Try.prog 24 [.lit (.int .i64 12), .list o 1 L] σ fun v σ' => v = .tuple [.lit (.int .i64 N), .lit (.int .i64 0)] ∧ σ' = σ := by
  have gl2 : ¬ ((L.length : Int) < 2) := by omega
  subst hq
  refine ACalls.of_awp follows (st := st24) (plans := pl24) (n := 59) Try.func24 rfl (by kernel_rfl) (by kernel_rfl) (by kernel_rfl) ?_
  simp [-e_pureBin_1, -e_pureBin_2, -e_pureBin_9, gl2, gl0, gl1, e0, e1, byteA, wa, wb, f1, f2, f3]
set_option maxRecDepth 8000 in
theorem dec_core2 (o : Bool) (a b : UInt8) (L : List AV) (q V N : Nat) (gl0 : 0 < L.length) (gl1 : 1 < L.length) (e0 : L[0] = byteA a) (e1 : L[1] = byteA b)
    (wa : IntKind.i64.wrap (a.toNat : Int) = (a.toNat : Int)) (wb : IntKind.i64.wrap (b.toNat : Int) = (b.toNat : Int))
    (f1 : pureBin .shl (.int .i64 (a.toNat : Int)) (.int .u64 8) = some (.int .i64 (V : Int))) (f2 : pureBin .shr (.int .u8 (a.toNat : Int)) (.int .u64 6) = some (.int .u8 (q : Int)))
    (f3 : pureBin .or (.int .i64 (V : Int)) (.int .i64 (b.toNat : Int)) = some (.int .i64 (N : Int))) (hq : q = 2) (σ : Store) :
    ACalls Try.prog 24 [.lit (.int .i64 12), .list o 1 L] σ fun v σ' => v = .tuple [.lit (.int .i64 0), .lit (.int .i64 9)] ∧ σ' = σ := by
  have gl2 : ¬ ((L.length : Int) < 2) := by omega
  subst hq
  refine ACalls.of_awp follows (st := st24) (plans := pl24) (n := 59) Try.func24 rfl (by kernel_rfl) (by kernel_rfl) (by kernel_rfl) ?_
  simp [-e_pureBin_1, -e_pureBin_2, -e_pureBin_9, gl2, gl0, gl1, e0, e1, byteA, wa, wb, f1, f2, f3]
set_option maxRecDepth 8000 in
theorem dec_core3 (o : Bool) (a b : UInt8) (L : List AV) (q V N x y W M : Nat) (gl0 : 0 < L.length) (gl1 : 1 < L.length) (e0 : L[0] = byteA a) (e1 : L[1] = byteA b)
    (wa : IntKind.i64.wrap (a.toNat : Int) = (a.toNat : Int)) (wb : IntKind.i64.wrap (b.toNat : Int) = (b.toNat : Int))
    (f1 : pureBin .shl (.int .i64 (a.toNat : Int)) (.int .u64 8) = some (.int .i64 (V : Int))) (f2 : pureBin .shr (.int .u8 (a.toNat : Int)) (.int .u64 6) = some (.int .u8 (q : Int)))
    (f3 : pureBin .or (.int .i64 (V : Int)) (.int .i64 (b.toNat : Int)) = some (.int .i64 (N : Int))) (h0 : ¬ q = 0) (h2 : ¬ q = 2) (h2' : ¬ (q : Int) = 2)
    (s1 : ∀ σ, ACalls Try.prog 29 [byteA a] σ fun v σ' => v = .lit (.int .i64 x) ∧ σ' = σ) (s2 : ∀ σ, ACalls Try.prog 29 [byteA b] σ fun v σ' => v = .lit (.int .i64 y) ∧ σ' = σ)
    (k1 : pureBin .shl (.int .i64 (x : Int)) (.int .u64 6) = some (.int .i64 (W : Int))) (k3 : pureBin .or (.int .i64 (W : Int)) (.int .i64 (y : Int)) = some (.int .i64 (M : Int))) (σ : Store) :
    ACalls Try.prog 24 [.lit (.int .i64 12), .list o 1 L] σ fun v σ' => v = .tuple [.lit (.int .i64 M), .lit (.int .i64 0)] ∧ σ' = σ := by
  have gl2 : ¬ ((L.length : Int) < 2) := by omega
  refine ACalls.of_awp follows (st := st24) (plans := pl24) (n := 59) Try.func24 rfl (by kernel_rfl) (by kernel_rfl) (by kernel_rfl) ?_
  simp [-e_pureBin_1, -e_pureBin_2, -e_pureBin_9, gl2, gl0, gl1, e0, e1, byteA, wa, wb, f1, f2, f3, h0, h2']
  refine ⟨?_, ?_⟩
  · refine callK.of (s1 _) ?_
    rintro v σ' ⟨rfl, rfl⟩
    simp [-e_pureBin_1, -e_pureBin_2, -e_pureBin_9, k1]
    refine callK.of (s2 _) ?_
    rintro v σ' ⟨rfl, rfl⟩
    simp [-e_pureBin_1, -e_pureBin_2, -e_pureBin_9, k3]
  · refine callK.of (s1 _) ?_
    rintro v σ' ⟨rfl, rfl⟩
    simp [-e_pureBin_1, -e_pureBin_2, -e_pureBin_9, k1]
    refine callK.of (s2 _) ?_
    rintro v σ' ⟨rfl, rfl⟩
    simp [-e_pureBin_1, -e_pureBin_2, -e_pureBin_9, k3]
theorem dec_calls_two (o : Bool) (a b : UInt8) (l : List UInt8) (σ : Store) : ACalls Try.prog 24 [.lit (.int .i64 12), .list o 1 (bytesA (a :: b :: l))] σ fun v σ' => v = .tuple [.lit (.int .i64 (decM a b).1), .lit (.int .i64 (decM a b).2)] ∧ σ' = σ := by
  have g0 : (bytesA (a :: b :: l))[0]? = some (byteA a) := rfl
  have g1 : (bytesA (a :: b :: l))[1]? = some (byteA b) := rfl
  have gl : (bytesA (a :: b :: l)).length = l.length + 2 := by simp
  have gl0 : 0 < (bytesA (a :: b :: l)).length := by omega
  have gl1 : 1 < (bytesA (a :: b :: l)).length := by omega
  have e0 := (List.getElem_eq_iff gl0).2 g0
  have e1 := (List.getElem_eq_iff gl1).2 g1
  have ha := a.toNat_lt
  have hb := b.toNat_lt
  have f3 := or_i64 (2 ^ 8 * a.toNat) b.toNat (by omega) (by omega)
  rw [← Nat.two_pow_add_eq_or_of_lt (by omega)] at f3
  have hM : 2 ^ 8 * a.toNat + b.toNat = a.toNat * 256 + b.toNat := by omega
  rw [hM] at f3
  by_cases h0 : a.toNat / 64 = 0
  · rw [decM, if_pos h0]
    exact dec_core1 o a b _ _ _ _ gl0 gl1 e0 e1 (wrapB a) (wrapB b) (shl8 a) (shr6 a) f3 h0 σ
  · by_cases h2 : a.toNat / 64 = 2
    · rw [decM, if_neg h0, if_pos h2]
      exact dec_core2 o a b _ _ _ _ gl0 gl1 e0 e1 (wrapB a) (wrapB b) (shl8 a) (shr6 a) f3 h2 σ
    · rw [decM, if_neg h0, if_neg h2]
      have u1 := unsix_lt a
      have u2 := unsix_lt b
      have k3 := or_i64 (2 ^ 6 * unsix a) (unsix b) (by omega) (by omega)
      rw [← Nat.two_pow_add_eq_or_of_lt (by omega), show 2 ^ 6 * unsix a + unsix b = unsix a * 64 + unsix b by omega] at k3
      exact dec_core3 o a b _ _ _ _ _ _ _ _ gl0 gl1 e0 e1 (wrapB a) (wrapB b) (shl8 a) (shr6 a) f3 h0 h2 (by omega) (unsix_calls a) (unsix_calls b) (shl6 _ u1) k3 σ

end Go.Proofs.Ytkjcdnmjdanmpaa
/-
  Orders' bytes: of a text, of an address.
-/
namespace Go.Proofs.Ytkjcdnmjdanmpaa
open Go Go.AL

structure Op where
  kind : Nat := 0
  addr : Int := 0
  code : UInt8 := 0
  graph : Bool := false
  fa : UInt8 := 0
  pairs : List (UInt8 × UInt8) := []
  text : List UInt8 := []
def pairsA (l : List (UInt8 × UInt8)) : List AV := l.map fun p => .agg [byteA p.1, byteA p.2]
def opC (o : Op) : List AV := [.lit (.int .i64 o.kind), .lit (.int .i64 o.addr), byteA o.code, .lit (.bool o.graph), byteA o.fa, .list false 2 (pairsA o.pairs), .list false 1 (bytesA o.text)]
def opA (o : Op) : AV := .agg (opC o)
def opsA (l : List Op) : List AV := l.map opA
@[simp] theorem opsA_length (l : List Op) : (opsA l).length = l.length := by simp [opsA]
theorem opsA_append (l k : List Op) : opsA (l ++ k) = opsA l ++ opsA k := by simp [opsA]
theorem opsA_get (l : List Op) (i : Nat) (h : i < l.length) : (opsA l)[i]'(by simpa using h) = opA l[i] := by simp [opsA]

theorem bytesA_at (l : List UInt8) (i : Nat) (h : i < l.length) : (bytesA l)[i]'(by simpa using h) = byteA l[i] := by simp [bytesA]
def hasOrd (l : List UInt8) : Bool := l.any isOrd
/-- Bytes of one after the other, or the first error. -/
def seqB {α : Type} (f : α → List UInt8 × Nat) : List α → List UInt8 × Nat
  | [] => ([], 0)
  | o :: l => if (f o).2 ≠ 0 then ([], (f o).2) else if (seqB f l).2 ≠ 0 then ([], (seqB f l).2) else ((f o).1 ++ (seqB f l).1, 0)
def opB (o : Op) : List UInt8 × Nat :=
  if o.kind = 0 then (if o.text = [] ∨ hasOrd o.text = true then ([], 10) else (o.text, 0)) else if okAddr o.addr then (17 :: encM o.addr.toNat, 0) else ([], 9)

def good (o : Op) : Prop := (o.kind = 0 ∧ o.text.length ≤ 1000000) ∨ o.kind = 17
def sumB (l : List Op) (i : Nat) : List UInt8 := (l.take i).flatMap fun o => (opB o).1
end Go.Proofs.Ytkjcdnmjdanmpaa
/-
  Pages: their signs and codes, as lists. Written by a program of mine.
-/
namespace Go.Proofs.Ytkjcdnmjdanmpaa
open Go Go.AL

def rowsL : List (List Nat) := [[0, 1, 2, 3, 156, 9, 134, 127, 151, 141, 142, 11, 12, 13, 14, 15],
  [16, 17, 18, 19, 157, 133, 8, 135, 24, 25, 146, 143, 28, 29, 30, 31],
  [128, 129, 130, 131, 132, 10, 23, 27, 136, 137, 138, 139, 140, 5, 6, 7],
  [144, 145, 22, 147, 148, 149, 150, 4, 152, 153, 154, 155, 20, 21, 158, 26],
  [32, 160, 226, 228, 224, 225, 227, 229, 231, 241, 162, 46, 60, 40, 43, 124],
  [38, 233, 234, 235, 232, 237, 238, 239, 236, 223, 33, 36, 42, 41, 59, 172],
  [45, 47, 194, 196, 192, 193, 195, 197, 199, 209, 166, 44, 37, 95, 62, 63],
  [248, 201, 202, 203, 200, 205, 206, 207, 204, 96, 58, 35, 64, 39, 61, 34],
  [216, 97, 98, 99, 100, 101, 102, 103, 104, 105, 171, 187, 240, 253, 254, 177],
  [176, 106, 107, 108, 109, 110, 111, 112, 113, 114, 170, 186, 230, 184, 198, 164],
  [181, 126, 115, 116, 117, 118, 119, 120, 121, 122, 161, 191, 208, 221, 222, 174],
  [94, 163, 165, 183, 169, 167, 182, 188, 189, 190, 91, 93, 175, 168, 180, 215],
  [123, 65, 66, 67, 68, 69, 70, 71, 72, 73, 173, 244, 246, 242, 243, 245],
  [125, 74, 75, 76, 77, 78, 79, 80, 81, 82, 185, 251, 252, 249, 250, 255],
  [92, 247, 83, 84, 85, 86, 87, 88, 89, 90, 178, 212, 214, 210, 211, 213],
  [48, 49, 50, 51, 52, 53, 54, 55, 56, 57, 179, 219, 220, 217, 218, 159]]
def baseL : List Nat := rowsL.flatten
theorem baseL_length : baseL.length = 256 := by decide +kernel
def oth37 : List (Nat × Nat) := []
def oth273 : List (Nat × Nat) := [(67, 123), (74, 196), (79, 33), (89, 126), (90, 220), (95, 94), (99, 91), (106, 246), (124, 167), (161, 223), (176, 162), (181, 64), (186, 172), (187, 124), (192, 228), (204, 166), (208, 252), (220, 125), (224, 214), (236, 92), (252, 93)]
def oth297 : List (Nat × Nat) := [(68, 64), (72, 92), (74, 176), (79, 33), (81, 123), (84, 125), (90, 167), (95, 94), (106, 249), (121, 181), (123, 163), (124, 224), (144, 91), (160, 96), (161, 168), (176, 162), (177, 35), (181, 93), (186, 172), (187, 124), (189, 126), (192, 233), (208, 232), (221, 166), (224, 231)]
def oth500 : List (Nat × Nat) := [(74, 91), (79, 33), (90, 93), (95, 94), (176, 162), (186, 172), (187, 124)]
def oth1047 : List (Nat × Nat) := [(95, 94), (173, 91), (176, 172), (186, 221), (187, 168), (189, 93)]
def oth1140 : List (Nat × Nat) := [(159, 8364)]
def othersF (n : Int) : List (Nat × Nat) := if n = 37 then oth37 else if n = 273 then oth273 else if n = 297 then oth297 else if n = 500 then oth500 else if n = 1047 then oth1047 else if n = 1140 then oth1140 else []
def isPage (n : Int) : Prop := n = 37 ∨ n = 273 ∨ n = 297 ∨ n = 500 ∨ n = 1047 ∨ n = 1140
instance (n : Int) : Decidable (isPage n) := by unfold isPage; infer_instance
def signsF (n : Int) : List Nat := (othersF n).foldl (fun l o => l.set o.1 o.2) baseL
theorem signs_set (l : List (Nat × Nat)) : ∀ b : List Nat, (l.foldl (fun l o => l.set o.1 o.2) b).length = b.length := by
  induction l with
  | nil => intro b; rfl
  | cons o l ih => intro b; rw [List.foldl_cons, ih, List.length_set]
theorem signsF_length (n : Int) : (signsF n).length = 256 := by rw [signsF, signs_set, baseL_length]
theorem nodup37 : (signsF 37).Nodup := by decide +kernel
theorem nodup273 : (signsF 273).Nodup := by decide +kernel
theorem nodup297 : (signsF 297).Nodup := by decide +kernel
theorem nodup500 : (signsF 500).Nodup := by decide +kernel
theorem nodup1047 : (signsF 1047).Nodup := by decide +kernel
theorem nodup1140 : (signsF 1140).Nodup := by decide +kernel
theorem signsF_nodup {n : Int} (h : isPage n) : (signsF n).Nodup := by
  rcases h with rfl | rfl | rfl | rfl | rfl | rfl
  · exact nodup37
  · exact nodup273
  · exact nodup297
  · exact nodup500
  · exact nodup1047
  · exact nodup1140
theorem small37 : ∀ o ∈ oth37, o.1 < 256 ∧ o.2 < 65536 := by decide +kernel
theorem small273 : ∀ o ∈ oth273, o.1 < 256 ∧ o.2 < 65536 := by decide +kernel
theorem small297 : ∀ o ∈ oth297, o.1 < 256 ∧ o.2 < 65536 := by decide +kernel
theorem small500 : ∀ o ∈ oth500, o.1 < 256 ∧ o.2 < 65536 := by decide +kernel
theorem small1047 : ∀ o ∈ oth1047, o.1 < 256 ∧ o.2 < 65536 := by decide +kernel
theorem small1140 : ∀ o ∈ oth1140, o.1 < 256 ∧ o.2 < 65536 := by decide +kernel
theorem others_small (n : Int) : ∀ o ∈ othersF n, o.1 < 256 ∧ o.2 < 65536 := by
  unfold othersF
  repeat' split
  · exact small37
  · exact small273
  · exact small297
  · exact small500
  · exact small1047
  · exact small1140
  · intro o ho; cases ho
theorem base_small : ∀ z ∈ baseL, z < 65536 := by decide +kernel
end Go.Proofs.Ytkjcdnmjdanmpaa
/-
  A page: its cells; the rows of signs; what other signs it has.
-/
namespace Go.Proofs.Ytkjcdnmjdanmpaa
open Go Go.AL

def sgA (l : List Nat) : List AV := l.map fun z : Nat => .lit (.int .i32 (z : Int))
@[simp] theorem sgA_length (l : List Nat) : (sgA l).length = l.length := by simp [sgA]
theorem sgA_get (l : List Nat) {i : Nat} (h : i < l.length) : (sgA l)[i]? = some (.lit (.int .i32 l[i])) := by simp [sgA, h]
theorem sgA_set (l : List Nat) (i z : Nat) : (sgA l).set i (.lit (.int .i32 z)) = sgA (l.set i z) := by simp [sgA, List.map_set]
/-- A page: its number, whether it is built, the lock, its signs, its codes. -/
structure Pgs where
  num : Int
  done : Int
  mu : Int
  sg : List Nat
  cd : AV
def pgA (p : Pgs) : List AV := [.lit (.int .i64 p.num), .lit (.int .u32 p.done), .lit (.int .i32 p.mu), .lit (.int .u32 0)] ++ (sgA p.sg ++ [p.cd])
theorem pgA_length {p : Pgs} (h : p.sg.length = 256) : (pgA p).length = 261 := by simp [pgA, h]
theorem pgA_num (p : Pgs) : (pgA p)[0]? = some (.lit (.int .i64 p.num)) := rfl
theorem pgA_sg {p : Pgs} {i : Nat} (h : i < p.sg.length) : (pgA p)[4 + i]? = some (.lit (.int .i32 p.sg[i])) := by
  unfold pgA
  rw [List.getElem?_append_right (by simp), List.getElem?_append_left (by simp; omega)]
  simp [sgA, h]
theorem pgA_cd {p : Pgs} (h : p.sg.length = 256) : (pgA p)[260]? = some p.cd := by
  unfold pgA
  rw [List.getElem?_append_right (by simp), List.getElem?_append_right (by simp [h])]
  simp [h]
theorem pgA_sgs {p : Pgs} (h : p.sg.length = 256) : ((pgA p).drop 4).take 256 = sgA p.sg := by
  unfold pgA
  rw [List.drop_left' (by simp), List.take_left' (by simp [h])]
theorem pgA_setSg {p : Pgs} {i : Nat} (z : Nat) (h : i < p.sg.length) : (pgA p).set (4 + i) (.lit (.int .i32 z)) = pgA { p with sg := p.sg.set i z } := by
  unfold pgA
  rw [List.set_append_right _ _ (by simp), List.set_append_left _ _ (by simp; omega)]
  simp [sgA_set]
theorem pgA_setCd {p : Pgs} (h : p.sg.length = 256) (c : AV) : (pgA p).set 260 c = pgA { p with cd := c } := by
  unfold pgA
  rw [List.set_append_right _ _ (by simp), List.set_append_right _ _ (by simp [h])]
  simp [h]
def Pgs.new (n : Int) : Pgs := ⟨n, 0, 0, List.replicate 256 0, .lit (.map none)⟩
@[simp] theorem azero72 : azero Try.prog 72 = some (pgA (.new 0)) := nr (by kernel_rfl)
theorem pgA_new_length (n : Int) : (pgA (.new n)).length = 261 := pgA_length List.length_replicate
theorem pgA_new_set (n : Int) : (pgA (.new 0)).set 0 (.lit (.int .i64 n)) = pgA (.new n) := rfl

/-! ### The tables -/
def rowU (l : List Nat) : List AV := l.map fun z : Nat => .lit (.int .u16 (z : Int))
set_option maxRecDepth 20000 in
set_option maxHeartbeats 4000000 in
theorem row_calls (d : Nat) (hd : d < 16) (σ : Store) : ACalls Try.prog 49 [.lit (.int .i64 d)] σ fun v σ' => v = .agg (rowU (rowsL.getD d [])) ∧ σ' = σ := by
  have key : ∀ d : Nat, d < 16 → d = 0 ∨ d = 1 ∨ d = 2 ∨ d = 3 ∨ d = 4 ∨ d = 5 ∨ d = 6 ∨ d = 7 ∨ d = 8 ∨ d = 9 ∨ d = 10 ∨ d = 11 ∨ d = 12 ∨ d = 13 ∨ d = 14 ∨ d = 15 := by omega
  rcases key d hd with rfl | rfl | rfl | rfl | rfl | rfl | rfl | rfl | rfl | rfl | rfl | rfl | rfl | rfl | rfl | rfl
  all_goals
    refine ACalls.of_awp follows (st := st49) (plans := pl49) (n := 53) Try.func49 rfl (by kernel_rfl) (by kernel_rfl) (by kernel_rfl) ?_
    simp
    intro p hp
    exact ⟨by simp [rowU, rowsL], sub_upd_self _ _ _ hp⟩
def othA (l : List (Nat × Nat)) : List AV := l.map fun o => .agg [.lit (.int .u8 (o.1 : Int)), .lit (.int .u16 (o.2 : Int))]
@[simp] theorem othA_length (l : List (Nat × Nat)) : (othA l).length = l.length := by simp [othA]
set_option maxRecDepth 20000 in
set_option maxHeartbeats 4000000 in
theorem others_calls (n : Int) (σ : Store) : ACalls Try.prog 14 [.lit (.int .i64 n)] σ fun v σ' => v = .tuple [.list true 2 (othA (othersF n)), .lit (.bool (decide (isPage n)))] ∧ σ' = σ := by
  refine ACalls.of_awp follows (st := st14) (plans := pl14) (n := 82) Try.func14 rfl (by kernel_rfl) (by kernel_rfl) (by kernel_rfl) ?_
  by_cases h1 : n = 37
  · subst h1; simp [othersF, isPage, othA, oth37]
  by_cases h2 : n = 273
  · subst h2; simp [othersF, isPage, othA, oth273]
  by_cases h3 : n = 297
  · subst h3; simp [othersF, isPage, othA, oth297]
  by_cases h4 : n = 500
  · subst h4; simp [othersF, isPage, othA, oth500]
  by_cases h5 : n = 1047
  · subst h5; simp [othersF, isPage, othA, oth1047]
  by_cases h6 : n = 1140
  · subst h6; simp [othersF, isPage, othA, oth1140]
  · simp [othersF, isPage, othA, h1, h2, h3, h4, h5, h6]
end Go.Proofs.Ytkjcdnmjdanmpaa
