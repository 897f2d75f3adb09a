/-
  Rows, columns, moves.
-/
import Derived.Test.YtkggdohfcmiakaaGreatDoorSPart15
set_option linter.unusedSimpArgs false
set_option linter.unusedVariables false
namespace Go.Proofs.YtkggdohfcmiakaaGreatDoor
open Go Go.AL Go.Sp

theorem small_i64 {n : Nat} (h : n ≤ 1000000000) : IntKind.i64.wrap (n : Int) = n := wrap_i64 (by omega) (by omega)
def addrAt (r c : Nat) (row col : Int) : Nat := wrap r row * c + wrap c col
theorem addrAt_lt {r c : Nat} (h : Dim r c) (row col : Int) : addrAt r c row col < r * c := by
  have h1 := wrap_lt h.r1 row
  have h2 := wrap_lt h.c1 col
  unfold addrAt
  have : (wrap r row + 1) * c ≤ r * c := Nat.mul_le_mul_right _ h1
  rw [Nat.succ_mul] at this
  omega
set_option maxRecDepth 4000 in
theorem addrAt_calls {r c : Nat} (h : Dim r c) (row col : Int) (σ : Store) : ACalls Tryz.prog 29 [dimA r c, .lit (.int .i64 row), .lit (.int .i64 col)] σ fun v σ' => v = .lit (.int .i64 (addrAt r c row col)) ∧ σ' = σ := by
  have hv := valid_calls h
  have hr := rest_calls row r h.r1 (by have := h.r2; omega)
  have hc := rest_calls col c h.c1 (by have := h.c2; omega)
  have hlt := addrAt_lt h row col
  have hm := h.m
  have h1 := wrap_lt h.r1 row
  have h2 := wrap_lt h.c1 col
  have hr2 := h.r2
  have hc2 := h.c2
  unfold dimA at hv
  unfold addrAt at *
  generalize wrap r row = a at *
  generalize wrap c col = b at *
  have hac : a * c ≤ r * c := Nat.mul_le_mul_right _ (Nat.le_of_lt h1)
  have hw1 : IntKind.i64.wrap ((a : Int) * (c : Int)) = ((a * c : Nat) : Int) := by rw [← Int.natCast_mul]; exact small_i64 (by omega)
  have hw2 : IntKind.i64.wrap (((a * c : Nat) : Int) + (b : Int)) = ((a * c + b : Nat) : Int) := by rw [← Int.natCast_add]; exact small_i64 (by omega)
  generalize a * c + b = z at *
  generalize a * c = y at *
  refine ACalls.of_awp follows (st := st29) (plans := pl29) (n := 22) Tryz.func29 rfl (by kernel_rfl) (by kernel_rfl) (by kernel_rfl) ?_
  simp [dimA]
  intro p hp
  refine callK.of (hv _) ?_
  rintro v σ' ⟨rfl, rfl⟩
  simp
  repeat' first
    | with_reducible apply And.intro
    | (refine callK.of (hr _) ?_; rintro v σ1 ⟨rfl, rfl⟩; simp [hw1])
    | (refine callK.of (hc _) ?_; rintro v σ1 ⟨rfl, rfl⟩; simp [hw1, hw2, hp])
set_option maxRecDepth 4000 in
theorem row_of_calls {r c : Nat} (h : Dim r c) (n : Int) (σ : Store) : ACalls Tryz.prog 28 [dimA r c, .lit (.int .i64 n)] σ fun v σ' => v = .lit (.int .i64 ((wrap (r * c) n / c : Nat) : Int)) ∧ σ' = σ := by
  have hv := valid_calls h
  have hw := wrap_calls h n
  have hc1 := h.c1
  have hlt := wrap_lt h.p n
  have hm := h.m
  unfold dimA at hv hw
  generalize wrap (r * c) n = a at *
  have hc0 : ¬ c = 0 := by omega
  have hq : (a : Int).tdiv (c : Int) = ((a / c : Nat) : Int) := rfl
  have hle := Nat.div_le_self a c
  have hw1 : IntKind.i64.wrap ((a : Int).tdiv (c : Int)) = ((a / c : Nat) : Int) := by rw [hq]; exact small_i64 (by omega)
  have hw2 : IntKind.i64.wrap ((a : Int) / (c : Int)) = (a : Int) / (c : Int) := by rw [← Int.natCast_ediv]; exact small_i64 (by omega)
  refine ACalls.of_awp follows (st := st28) (plans := pl28) (n := 14) Tryz.func28 rfl (by kernel_rfl) (by kernel_rfl) (by kernel_rfl) ?_
  simp [dimA]
  intro p hp
  refine callK.of (hv _) ?_
  rintro v σ' ⟨rfl, rfl⟩
  simp
  repeat' first
    | with_reducible apply And.intro
    | (refine callK.of (hw _) ?_; rintro v σ1 ⟨rfl, rfl⟩; simp [hw2, hp, hc0])
def lineN (r c : Nat) (n : Int) : Nat := addrAt r c ((wrap (r * c) n / c + 1 : Nat) : Int) 0
end Go.Proofs.YtkggdohfcmiakaaGreatDoor
/-
  The cursor's moves.
-/
namespace Go.Proofs.YtkggdohfcmiakaaGreatDoor
open Go Go.AL Go.Sp

def moveN (r c : Nat) (n dr dc : Int) : Nat :=
  let m := wrap (r * c) (((wrap (r * c) n + wrap (r * c) dc : Nat) : Int))
  addrAt r c ((m / c + wrap r dr : Nat) : Int) ((m % c : Nat) : Int)
end Go.Proofs.YtkggdohfcmiakaaGreatDoor
/-
  The field before; the cursor's keys.
-/
namespace Go.Proofs.YtkggdohfcmiakaaGreatDoor
open Go Go.AL Go.Sp

def prevS (s : Sp) (n : Nat) : Int := match (List.range s.n).find? (fun i => firstS s ((n + s.n - (i + 1)) % s.n)) with
  | some i => (((n + s.n - (i + 1)) % s.n : Nat) : Int)
  | none => -1
def tabS (s : Sp) : Sp := s.place (max (nextS s s.cursor) 0)
def btabS (s : Sp) : Sp := s.place (max (prevS s s.cursor) 0)
def firstN (s : Sp) (n : Nat) : Int := if openS s n = true then n else max (nextS s n) 0
def homeS (s : Sp) : Sp := s.place (firstN s 0)
def newlineS (s : Sp) : Sp := s.place (firstN s (lineN s.rows s.cols s.cursor))
def moveS (s : Sp) (dr dc : Int) : Sp := s.place (moveN s.rows s.cols s.cursor dr dc)
end Go.Proofs.YtkggdohfcmiakaaGreatDoor
/-
  The places of a row.
-/
namespace Go.Proofs.YtkggdohfcmiakaaGreatDoor
open Go Go.AL Go.Sp

/-- The first number under M with p, or M. -/
def toP (p : Nat → Bool) : Nat → Nat
  | 0 => 0
  | M + 1 => if toP p M < M then toP p M else if p M = true then M else M + 1
def rowN (s : Sp) (n : Nat) : Nat := toP (fun i => attrAt s.cells (n + i)) (s.cols - n % s.cols)
def rowL (s : Sp) (n : Nat) : List Nat := (List.range (rowN s n)).map (n + ·)
end Go.Proofs.YtkggdohfcmiakaaGreatDoor
/-
  A character goes out of its row; room for one more.
-/
namespace Go.Proofs.YtkggdohfcmiakaaGreatDoor
open Go Go.AL Go.Sp

def delTo (s : Sp) (L : List Nat) : Nat → Sp
  | 0 => s
  | k + 1 => (delTo s L k).put (L[k]?.getD 0 : Nat) (if k + 1 < L.length then ((delTo s L k).at (L[k + 1]?.getD 0 : Nat)).char else 0)
def delS (s : Sp) (n : Nat) : Sp := if openS s n = true then modS (delTo s (rowL s n) (rowL s n).length) n else s
end Go.Proofs.YtkggdohfcmiakaaGreatDoor
/-
  Room for one more character.
-/
namespace Go.Proofs.YtkggdohfcmiakaaGreatDoor
open Go Go.AL Go.Sp

def nulAt (s : Sp) (n : Nat) : Bool := (s.at (n : Int)).char == 0
def nulN (s : Sp) (L : List Nat) : Nat := toP (fun i => nulAt s (L[i]?.getD 0)) L.length
def insTo (s : Sp) (L : List Nat) (e : Nat) : Nat → Sp
  | 0 => s
  | k + 1 => (insTo s L e k).put (L[e - k]?.getD 0 : Nat) ((insTo s L e k).at (L[e - k - 1]?.getD 0 : Nat)).char
def insS (s : Sp) (n : Nat) (c : UInt8) : Sp × Bool :=
  if openS s n = true ∧ nulN s (roundL s n) < (roundL s n).length then
    (modS ((insTo s (roundL s n) (nulN s (roundL s n)) (nulN s (roundL s n))).put ((roundL s n)[0]?.getD 0 : Nat) c) n, true)
  else (s, false)
end Go.Proofs.YtkggdohfcmiakaaGreatDoor
/-
  The keyboard: its state in a store; its small functions.
-/
namespace Go.Proofs.YtkggdohfcmiakaaGreatDoor
open Go Go.AL Go.Sp

def skipF (f : Fld) : Bool := f.prot && f.num
def afterS (s : Sp) : Sp :=
  if ((moveS s 0 1).at ((moveS s 0 1).cursor : Nat)).attr = false then moveS s 0 1
  else if skipF (fld ((moveS s 0 1).at ((moveS s 0 1).cursor : Nat)).fa) = true then tabS (moveS s 0 1) else moveS (moveS s 0 1) 0 1
structure Bd where
  s : Sp
  lock : Int
  ins : Bool
  aid : UInt8
def bdO (q pb : Nat) (B : Bd) : List AV := [ptrA q, ptrA pb, .lit (.int .i64 B.lock), .lit (.bool B.ins), byteA B.aid]
/-- A board at k on a screen at q with its row at r and a page of number n at b. -/
def kS (σ : Store) (k q r b : Nat) (n : Int) (x : Option Nat) (B : Bd) : Store := pgS b n x ((putS spO σ q r B.s).upd k (bdO q b B))
structure KOk (σ : Store) (k q r b : Nat) (n : Int) (B : Bd) : Prop where
  kq : ¬ k = q
  kr : ¬ k = r
  kb : ¬ k = b
  qr : ¬ q = r
  qb : ¬ q = b
  rb : ¬ r = b
  none : σ r = none
  page : isPage n
  good : B.s.good
variable {σ : Store} {k q r b : Nat} {n : Int} {B : Bd}
theorem KOk.s (h : KOk σ k q r b n B) {B2 : Bd} (hs : B2.s.good) : KOk σ k q r b n B2 := { h with good := hs }
end Go.Proofs.YtkggdohfcmiakaaGreatDoor
/-
  The keyboard's small functions.
-/
namespace Go.Proofs.YtkggdohfcmiakaaGreatDoor
open Go Go.AL Go.Sp
variable {σ : Store} {k q r b : Nat} {n : Int} {B : Bd}

def refE (lock : Int) : Int := if lock = 3 then 14 else if lock = 4 then 7 else 13
def resetB (B : Bd) : Bd := { B with lock := if B.lock = 1 then 1 else 0, ins := false }
theorem NxP.base {σ : Store} {q r k : Nat} {s : Sp} {X : List AV} {x y : Option Nat} (h : NxP ((putS spO σ q r s).upd k X) x y) : NxP σ x y := by
  rcases h with h | ⟨g, h1, h2⟩
  · exact .inl h
  · exact .inr ⟨g, h1, by simpa [putS] using h2⟩
theorem NxP.of {σ σ1 : Store} {x y : Option Nat} (h : NxP σ1 x y) (hm : ∀ g : Nat, σ1 (mkey g) = σ (mkey g)) : NxP σ x y := by
  rcases h with h | ⟨g, h1, h2⟩
  · exact .inl h
  · exact .inr ⟨g, h1, by rw [← hm]; exact h2⟩
/-- A place that is free in a store with a board is free of all. -/
structure Free (σ : Store) (k q r b z : Nat) : Prop where
  k : ¬ z = k
  q : ¬ z = q
  r : ¬ z = r
  b : ¬ z = b
  free : σ z = none
theorem Free.at {z : Nat} (f : Free σ k q r b z) (x : Option Nat) (B : Bd) : (kS σ k q r b n x B) z = none := by
  unfold kS
  rw [pgS_other f.b]
  simp [putS, f.k, f.q, f.r, f.free]
theorem kS_new {z : Nat} (f : Free σ k q r b z) (x : Option Nat) (B : Bd) (X : List AV) : (kS σ k q r b n x B).upd z X = kS (σ.upd z X) k q r b n x B := by
  unfold kS putS
  rw [pgS_upd f.b]
  congr 1
  refine Store.ext2 (fun o => ?_) (fun i => by simp)
  simp only [supd_apply]
  by_cases h1 : o = z
  · subst h1; simp [f.k, f.q, f.r]
  · simp [h1]
theorem Free.ok {z : Nat} (f : Free σ k q r b z) (h : KOk σ k q r b n B) (X : List AV) : KOk (σ.upd z X) k q r b n B := { h with none := by have := f.r; simp [Ne.symm this, h.none] }
theorem Free.drop {z : Nat} (f : Free σ k q r b z) (x : Option Nat) (B : Bd) (X : List AV) : Store.sub (kS σ k q r b n x B) (kS (σ.upd z X) k q r b n x B) := by
  rw [← kS_new f]
  exact Store.sub_upd (f.at x B) (Store.sub_refl _)
end Go.Proofs.YtkggdohfcmiakaaGreatDoor
/-
  A code is entered at the cursor.
-/
namespace Go.Proofs.YtkggdohfcmiakaaGreatDoor
open Go Go.AL Go.Sp
variable {σ : Store} {k q r b : Nat} {n : Int} {B : Bd}

def fofF (s : Sp) (n : Nat) : Fld := if 0 ≤ startS s.cells n then fldAt s (startS s.cells n).toNat else ⟨false, false, 0, false⟩
def okF (s : Sp) (n : Nat) : Bool := decide (0 ≤ startS s.cells n)
theorem fofF_calls {s : Sp} (h : Prg σ q r s) {n : Nat} (hn : n < s.n) : ACalls Tryz.prog 23 [ptrA q, .lit (.int .i64 n)] σ fun v σ' => v = .tuple [.agg [.lit (.bool (fofF s n).prot), .lit (.bool (fofF s n).num), .lit (.int .i64 (fofF s n).disp), .lit (.bool (fofF s n).mod)], .lit (.bool (okF s n))] ∧ σ' = σ := by
  have := fof_calls h hn
  unfold fofF okF
  by_cases h0 : 0 ≤ startS s.cells n
  · simp only [if_pos h0] at this ⊢; exact this
  · simp only [if_neg h0] at this ⊢; exact this
def cellE (c : Cell) (b : UInt8) : Cell := { c with char := b, set := 0 }
def setE (s : Sp) (n : Nat) (c : UInt8) : Sp := s.set n (cellE (s.at n) c)
def entS (s : Sp) (n : Nat) (c : UInt8) : Sp := if c = 28 then tabS (modS (setE s n c) n) else afterS (modS (setE s n c) n)
def enterB (n : Int) (B : Bd) (c : UInt8) : Bd × Int :=
  if openS B.s B.s.cursor = false then ({ B with lock := 2 }, 13)
  else if (okF B.s B.s.cursor && (fofF B.s B.s.cursor).num && !(numB n c)) = true then ({ B with lock := 3 }, 14)
  else if (B.ins && !(c == 28)) = true then
    (if (insS B.s B.s.cursor c).2 = false then ({ B with lock := 4 }, 7) else ({ B with s := entS (insS B.s B.s.cursor c).1 B.s.cursor c }, 0))
  else ({ B with s := entS B.s B.s.cursor c }, 0)
end Go.Proofs.YtkggdohfcmiakaaGreatDoor
/-
  A sign is typed; a field is chosen.
-/
namespace Go.Proofs.YtkggdohfcmiakaaGreatDoor
open Go Go.AL Go.Sp
variable {σ : Store} {k q r b : Nat} {n : Int} {B : Bd}

def codeU (n s : Int) : UInt8 := UInt8.ofNat ((codeIx n s).getD 0)
def charB (n : Int) (B : Bd) (sg : Int) : Bd × Int := if ((codeIx n sg).isSome && dataB (codeU n sg)) = true then enterB n B (codeU n sg) else (B, 12)
def chooseB (n : Int) (B : Bd) : Bd × Bool × Int :=
  if (!okF B.s B.s.cursor || (B.s.at (B.s.cursor : Nat)).attr || !detB (fofF B.s B.s.cursor)) = true then ({ B with lock := 2 }, false, 13)
  else
    let a : Int := startS B.s.cells B.s.cursor
    let d := desigN n (B.s.at (a + 1)).char
    if d = 0 ∨ d < 3 ∧ (fofF B.s B.s.cursor).prot = true then ({ B with lock := 2 }, false, 13)
    else if d = 1 then ({ B with s := modS (B.s.put (a + 1) (codeU n 62)) B.s.cursor }, false, 0)
    else if d = 2 then ({ B with s := B.s.put (a + 1) (codeU n 63) }, false, 0)
    else ({ B with s := modS B.s B.s.cursor, lock := 1, ins := false, aid := if d = 3 then 126 else 125 }, true, 0)
end Go.Proofs.YtkggdohfcmiakaaGreatDoor
/-
  A field is chosen: the walk.
-/
namespace Go.Proofs.YtkggdohfcmiakaaGreatDoor
open Go Go.AL Go.Sp
variable {σ : Store} {k q r b : Nat} {n : Int} {B : Bd}

end Go.Proofs.YtkggdohfcmiakaaGreatDoor
/-
  Keys that move, keys that change the screen.
-/
namespace Go.Proofs.YtkggdohfcmiakaaGreatDoor
open Go Go.AL Go.Sp
variable {σ : Store} {k q r b : Nat} {n : Int} {B : Bd}

def movK (s : Sp) (kind : Int) : Sp × Bool :=
  if kind = 5 then (tabS s, true) else if kind = 6 then (btabS s, true) else if kind = 7 then (newlineS s, true) else if kind = 8 then (homeS s, true)
  else if kind = 9 then (moveS s (-1) 0, true) else if kind = 10 then (moveS s 1 0, true) else if kind = 11 then (moveS s 0 (-1), true) else if kind = 12 then (moveS s 0 1, true) else (s, false)
structure Key where
  kind : Int
  sign : Int
  num : Int
def keyC (K : Key) : List AV := [.lit (.int .i64 K.kind), .lit (.int .i32 K.sign), .lit (.int .i64 K.num)]
def keyA (K : Key) : AV := .agg (keyC K)
def enteredB (n : Int) (B : Bd) (K : Key) : Bd × Int :=
  if K.kind = 1 then charB n B K.sign
  else if K.kind = 2 then (if 0 ≤ K.num ∧ K.num ≤ 255 ∧ dataB (UInt8.ofNat K.num.toNat) = true then enterB n B (UInt8.ofNat K.num.toNat) else (B, 1))
  else if K.kind = 3 then enterB n B 28
  else if K.kind = 4 then enterB n B 30
  else if K.kind = 13 then (if openS B.s B.s.cursor = true then ({ B with s := delS B.s B.s.cursor }, 0) else ({ B with lock := 2 }, 13))
  else if K.kind = 14 then (if openS B.s B.s.cursor = true then ({ B with s := endS B.s B.s.cursor }, 0) else ({ B with lock := 2 }, 13))
  else if K.kind = 15 then ({ B with s := unprotS B.s }, 0)
  else if K.kind = 16 then ({ B with ins := !B.ins }, 0)
  else (B, 0)
end Go.Proofs.YtkggdohfcmiakaaGreatDoor
/-
  The keys that send; a key is pressed.
-/
namespace Go.Proofs.YtkggdohfcmiakaaGreatDoor
open Go Go.AL Go.Sp
variable {σ : Store} {k q r b : Nat} {n : Int} {B : Bd}

def pfT : List Nat := [241, 242, 243, 244, 245, 246, 247, 248, 249, 122, 123, 124, 193, 194, 195, 196, 197, 198, 199, 200, 201, 74, 75, 76]
def paT : List Nat := [108, 110, 107]
def aidN (K : Key) : Option Nat :=
  if K.kind = 19 then some 125 else if K.kind = 22 then some 109
  else if K.kind = 20 ∧ 1 ≤ K.num ∧ K.num ≤ 24 then pfT[(K.num - 1).toNat]?
  else if K.kind = 21 ∧ 1 ≤ K.num ∧ K.num ≤ 3 then paT[(K.num - 1).toNat]? else none
theorem w0 : IntKind.i64.wrap 0 = 0 := by decide
theorem w1 : IntKind.i64.wrap 1 = 1 := by decide
theorem w2 : IntKind.i64.wrap 2 = 2 := by decide
theorem w3 : IntKind.i64.wrap 3 = 3 := by decide
end Go.Proofs.YtkggdohfcmiakaaGreatDoor
/-
  A key is pressed.
-/
namespace Go.Proofs.YtkggdohfcmiakaaGreatDoor
open Go Go.AL Go.Sp
variable {σ : Store} {k q r b : Nat} {n : Int} {B : Bd}

def pressB (n : Int) (B : Bd) (K : Key) : Bd × Bool × Int :=
  if K.kind < 1 ∨ 22 < K.kind then (B, false, 1)
  else if K.kind = 17 then (resetB B, false, 0)
  else if ¬ B.lock = 0 then (B, false, 8)
  else if K.kind = 18 then chooseB n B
  else if (aidN K).isSome = true then
    ({ s := if K.kind = 22 then B.s.clear false else B.s, lock := 1, ins := false, aid := UInt8.ofNat ((aidN K).getD 0) }, true, 0)
  else if K.kind = 20 ∨ K.kind = 21 then (B, false, 1)
  else if (movK B.s K.kind).2 = true then ({ B with s := (movK B.s K.kind).1 }, false, 0)
  else ((enteredB n B K).1, false, (enteredB n B K).2)
theorem pgS_sub {σ τ : Store} (h : Store.sub σ τ) (b : Nat) (n : Int) (x : Option Nat) : Store.sub (pgS b n x σ) (pgS b n x τ) := by
  have h1 : ∀ Y, Store.sub (σ.upd b Y) (τ.upd b Y) := fun Y => by
    refine Store.sub2 (fun o => ?_) (fun i => by simpa using h (mkey i))
    simp only [supd_apply]
    by_cases e : o = b
    · right; simp [e]
    · simp only [if_neg e]; exact h o
  cases x with
  | none => exact h1 _
  | some q =>
    unfold pgS
    dsimp only
    refine Store.sub2 (fun o => by simpa using h1 (pgA (.built n q)) o) (fun i => ?_)
    by_cases e : i = q
    · right; simp [e]
    · have := h1 (pgA (.built n q)) (mkey i)
      simpa [e] using this
end Go.Proofs.YtkggdohfcmiakaaGreatDoor
/-
  A key is pressed: the walk.
-/
namespace Go.Proofs.YtkggdohfcmiakaaGreatDoor
open Go Go.AL Go.Sp
variable {σ : Store} {k q r b : Nat} {n : Int} {B : Bd}

theorem KOk.row (h : KOk σ k q r b n B) {p : Nat} (f : Free σ k q r b p) {B2 : Bd} (hg : B2.s.good) : KOk σ k q p b n B2 :=
  ⟨h.kq, fun e => f.k e.symm, h.kb, fun e => f.q e.symm, h.qb, fun e => f.b e, f.free, h.page, hg⟩
end Go.Proofs.YtkggdohfcmiakaaGreatDoor
/-
  Answers, screens and bytes that are the same.
-/
namespace Go.Proofs.YtkggdohfcmiakaaGreatDoor
open Go Go.AL Go.Sp

end Go.Proofs.YtkggdohfcmiakaaGreatDoor
/-
  A screen's copy.
-/
namespace Go.Proofs.YtkggdohfcmiakaaGreatDoor
open Go Go.AL Go.Sp

end Go.Proofs.YtkggdohfcmiakaaGreatDoor
/-
  A screen is laid, a board stands on it.
-/
namespace Go.Proofs.YtkggdohfcmiakaaGreatDoor
open Go Go.AL Go.Sp

def pagesL : List Nat := [37, 273, 297, 500, 1047, 1140]
def pageN (u : UInt8) : Int := ((pagesL[u.toNat % 6]?.getD 0 : Nat) : Int)
def newB (s : Sp) : Bd := { s := s, lock := 0, ins := false, aid := 0x60 }
def LayK (σ : Store) (n : Int) (s : Sp) (v : AV) (σ' : Store) : Prop := ∃ (k q p b c : Nat) (base : Store), v = .tuple [ptrA k, ptrA q, ptrA c] ∧ Store.sub σ base ∧ base k = none ∧ base q = none ∧ base b = none ∧ KOk base k q p b n (newB s) ∧ σ' = kS base k q p b n none (newB s)
/-- The document's keyboard, in a store. -/
def rbdO (x : Nat) (n lock : Int) (ins : Bool) (aid : UInt8) : List AV := [ptrA x, .lit (.int .i64 n), .lit (.int .i64 lock), .lit (.bool ins), byteA aid]
/-- The same, and the document's keyboard on its screen. -/
def LayD (σ : Store) (n : Int) (s : Sp) (v : AV) (σ' : Store) : Prop := ∃ (k q p b c : Nat) (base : Store), v = .tuple [ptrA k, ptrA q, ptrA c] ∧ Store.sub σ base ∧ base k = none ∧ base q = none ∧ base b = none ∧ KOk base k q p b n (newB s) ∧ σ' = kS base k q p b n none (newB s) ∧
  ∃ (x y : Nat), base c = some (rbdO x n 0 false 0x60) ∧ Ref base x y s ∧ σ c = none
end Go.Proofs.YtkggdohfcmiakaaGreatDoor
/-
  A screen is laid for the screen's text, and a page.
-/
namespace Go.Proofs.YtkggdohfcmiakaaGreatDoor
open Go Go.AL Go.Sp

def page7 (u : UInt8) : Int := ((pagesL[u.toNat % 7]?.getD 37 : Nat) : Int)
theorem page7_ok (u : UInt8) : isPage (page7 u) := all_bytes (p := fun u => isPage (page7 u)) (by decide +kernel) u
theorem pages7_calls (σ : Store) : ACalls Tryz.prog 47 [] σ fun v σ' => v = .list true 1 (natsA pagesL) ∧ σ' = σ := by
  refine ACalls.of_awp follows (st := st47) (plans := pl47) (n := 2) Tryz.func47 rfl (by kernel_rfl) (by kernel_rfl) (by kernel_rfl) ?_
  simp [natsA, natA, pagesL]
/-- A screen as it lies (its cursor at 0), the document's, and a page or none. -/
def SLay (σ : Store) (u : UInt8) (s : Sp) (v : AV) (σ' : Store) : Prop := ∃ (q p x y : Nat),
  Four σ q p x y ∧ ((u.toNat % 7 = 6 ∧ v = .tuple [ptrA q, ptrA x, .lit (.pointer none), .lit (.int .i64 37)] ∧ σ' = both σ q p x y (upTo s s.n) s) ∨
    (¬ u.toNat % 7 = 6 ∧ ∃ b : Nat, both σ q p x y (upTo s s.n) s b = none ∧ v = .tuple [ptrA q, ptrA x, pgP b, .lit (.int .i64 (page7 u))] ∧ σ' = pgS b (page7 u) none (both σ q p x y (upTo s s.n) s)))
set_option maxHeartbeats 2000000 in
set_option maxRecDepth 8000 in
theorem slay_calls (m u : UInt8) (l : List Sp.Act) (hl : l.length ≤ 9223372036854775807) (ht : ∀ a ∈ l, a.text.length ≤ 9223372036854775807) (σ : Store) : ACalls Tryz.prog 16 [byteA m, byteA u, .list false 11 (actsA l)] σ (SLay σ u (Sp.lays m l)) := by
  have hm : 2 ≤ 2 + m.toNat % 4 ∧ 2 + m.toNat % 4 ≤ 5 := by omega
  have hmw : IntKind.i64.wrap (2 + IntKind.i64.wrap ((m.toNat : Int).tmod 4)) = ((2 + m.toNat % 4 : Nat) : Int) := by
    have e : (m.toNat : Int).tmod 4 = ((m.toNat % 4 : Nat) : Int) := rfl
    rw [e, wrap_i64 (n := ((m.toNat % 4 : Nat) : Int)) (by omega) (by omega), wrap_i64 (by omega) (by omega)]; simp
  have hstep := lays_step m l
  have hS : Sp.lays m l = ((l.take 30).take l.length).foldl Sp.act (Sp.new (2 + m.toNat % 4)) := by
    rw [List.take_of_length_le (show (l.take 30).length ≤ l.length by simp; omega)]; rfl
  have hn1 := new_calls hm
  have hn2 := rnew_calls hm
  have hgood := fun k => Sp.foldl_good ((l.take 30).take k) (Sp.new_good hm)
  have hmod : (Sp.lays m l).model = 2 + m.toNat % 4 := (foldl_model _ _).trans rfl
  have hng := Sp.new_good hm
  refine ACalls.of_awp follows (st := st16) (plans := pl16) (n := 90) Tryz.func16 rfl (by kernel_rfl) (by kernel_rfl) (by kernel_rfl) ?_
  generalize hN : Sp.new (2 + m.toNat % 4) = N0 at *
  simp [byteA, hmw]
  refine callK.of (hn1 _) ?_
  rintro v σ' ⟨q, p, rfl, hq1, hp1, hqp, rfl⟩
  simp
  refine callK.of (hn2 _) ?_
  rintro v σ' ⟨x, y0, rfl, hx, hy, hxy, rfl⟩
  simp
  have hx' : σ x = none ∧ x ≠ q ∧ x ≠ p := by
    simp only [putS, supd_apply, ite_none] at hx; exact ⟨hx.2.2, hx.2.1, hx.1⟩
  have hy' : σ y0 = none ∧ y0 ≠ q ∧ y0 ≠ p := by
    simp only [putS, supd_apply, ite_none] at hy; exact ⟨hy.2.2, hy.2.1, hy.1⟩
  refine codeK.cut (fun e A σ' => e = .exit 0 ∧ ∃ y, Four σ q p x y ∧ LeL A [(1, byteA u), (11, ptrA q), (13, ptrA x)] ∧ Store.sub (both σ q p x y N0 (Sp.lays m l)) σ') ?_ ?_
  · refine codeK.loop follows (st := st16) (plans := pl16) (X := Nat × Nat) (fun k => k.1 ≤ l.length ∧ Four σ q p x k.2)
      (fun k => [(1, byteA u), (11, ptrA q), (13, ptrA x), (31, .list false 11 (actsA l)), (32, .lit (.int .i64 l.length)), (33, .lit (.int .i64 k.1))])
      (fun k => both σ q p x k.2 N0 (((l.take 30).take k.1).foldl Sp.act N0)) (fun k => l.length - k.1) (0, y0) (by kernel_rfl) ⟨by simp, ⟨hq1, hp1, hx'.1, hy'.1, hqp, Ne.symm hx'.2.1, Ne.symm hy'.2.1, Ne.symm hx'.2.2, Ne.symm hy'.2.2, hxy⟩⟩ (by simp [byteA]) ?_ fun k hk => ?_
    · simp only [List.take_zero, List.foldl_nil]
      have h1 := hx'.2; have h2 := hy'.2
      simp only [both, putS]
      (intro q; simp only [Store.upd, Store.del]; (repeat' split) <;> first | exact Or.inr rfl | exact Or.inl rfl | (exfalso; omega) | (left; subst_vars; assumption) | simp_all)
    · obtain ⟨i, y⟩ := k
      obtain ⟨hi, h4⟩ := hk
      dsimp only at hi h4 ⊢
      by_cases hlt : i < l.length
      · have hw : IntKind.i64.wrap ((i : Int) + 1) = ((i + 1 : Nat) : Int) := wrap_i64 (by omega) (by omega)
        have ha := actsA_at l i hlt
        have hst := hstep i hlt
        have htx := ht l[i] (List.getElem_mem hlt)
        have hg := hgood i
        have hg2 := hgood (i + 1)
        by_cases h30 : i < 30
        · have h30i : (i : Int) < 30 := by omega
          rw [hst h30] at hg2
          have hst2 := hst h30
          generalize ((l.take 30).take i).foldl Sp.act N0 = t at *
          generalize l[i] = a at *
          have hdo := fun τ (hτ : Ref τ x y t) => rdo_calls hτ a htx
          have hac : actA a = .agg [byteA a.what, .lit (.int .i64 a.n), .lit (.bool a.on), byteA a.code, byteA a.c.char, .lit (.bool a.c.attr), byteA a.c.fa, byteA a.c.high, byteA a.c.color, byteA a.c.set, .list false 1 (bytesA a.text)] := rfl
          rw [hac] at hdo ha
          have hR := both_ref (s := N0) h4 hg
          simp +contextual [hlt, h30i, ha]
          intro b hb
          obtain ⟨m1, m2, m3, m4⟩ := hR.fresh hb
          refine callK.of (hdo _ (hR.new hb _)) ?_
          rintro v σ' ⟨rfl, y', hy2, rfl⟩
          have hb2 : σ b = none ∧ ¬ b = q ∧ ¬ b = p := by
            simp only [both, putS, supd_apply, ite_none] at hb; exact ⟨hb.2.2.2.2, hb.2.1, hb.1⟩
          have hy3 : ¬ y' = b ∧ ¬ y' = x ∧ ¬ y' = p ∧ ¬ y' = q ∧ σ y' = none := by
            rcases hy2 with rfl | hy2
            · exact ⟨m2, Ne.symm h4.xy, Ne.symm h4.py, Ne.symm h4.qy, h4.y0⟩
            · simp only [both, putS, supd_apply, ite_none] at hy2
              exact ⟨hy2.1, hy2.2.2.2.2.1, hy2.2.1, hy2.2.2.1, hy2.2.2.2.2.2⟩
          obtain ⟨y1, y2, y3, y4, y5⟩ := hy3
          obtain ⟨b1, b2, b3⟩ := hb2
          simp
          refine ⟨i + 1, y', ⟨by omega, ⟨h4.q0, h4.p0, h4.x0, y5, h4.qp, h4.qx, Ne.symm y4, h4.px, Ne.symm y3, Ne.symm y2⟩⟩, by omega, by rw [hw]; exact AV.le_refl _, ?_⟩
          rw [hst2]
          obtain ⟨_, _, _, _, f1, f2, f3, f4, f5, f6⟩ := h4
          simp only [both, putS]
          (intro q; simp only [Store.upd, Store.del]; (repeat' split) <;> first | exact Or.inr rfl | exact Or.inl rfl | (exfalso; omega) | (left; subst_vars; assumption) | simp_all)
        · have h30i : ¬ (i : Int) < 30 := by omega
          have hl30 : (l.take 30).length ≤ 30 := by simp; omega
          have hsame : (l.take 30).take (i + 1) = (l.take 30).take i :=
            (List.take_of_length_le (show (l.take 30).length ≤ i + 1 by omega)).trans (List.take_of_length_le (show (l.take 30).length ≤ i by omega)).symm
          have hac : ∀ a, actA a = .agg [byteA a.what, .lit (.int .i64 a.n), .lit (.bool a.on), byteA a.code, byteA a.c.char, .lit (.bool a.c.attr), byteA a.c.fa, byteA a.c.high, byteA a.c.color, byteA a.c.set, .list false 1 (bytesA a.text)] := fun _ => rfl
          rw [hac] at ha
          simp +contextual [hlt, h30i, ha]
          intro b hb
          refine ⟨i + 1, y, ⟨by omega, h4⟩, by omega, by rw [hw]; exact AV.le_refl _, ?_⟩
          rw [hsame]
          exact sub_upd_self _ _ _ hb
      · obtain rfl : i = l.length := by omega
        rw [← hS]
        simp
        exact ⟨y, h4, Store.sub_refl _⟩
  · rintro e A' σ2 ⟨rfl, y, h4, hA, hσ⟩
    refine View.leL hA (View.sub hσ (View.here ?_))
    clear hA hσ hstep
    have hg := hgood l.length
    rw [← hS] at hg
    clear hS hgood
    generalize hSS : Sp.lays m l = S at *
    have hRo := fun p' (h4 : Four σ q p' x y) t => (both_ref (s := t) h4 hg).obj
    have hRr := fun p' (h4 : Four σ q p' x y) t => (both_ref (s := t) h4 hg).row
    unfold rfO at hRo
    have hcl := fun τ (hτ : Prg τ q p N0) => clear_calls (σ := τ) true hτ.good.model hτ.obj
    have hN0 : N0 = Sp.clear ⟨2 + m.toNat % 4, false, [], 0⟩ false := hN.symm
    have hN1 : N0.clear true = Sp.clear ⟨2 + m.toNat % 4, false, [], 0⟩ true := by rw [hN0]; rfl
    have hz := upTo_zero S
    rw [hmod] at hz
    have hen : ∀ (j : Nat) (hj : j < S.cells.length), ((cellsO S.cells).drop (j * 6)).take 6 = cellC S.cells[j] := fun j hj => cellsO_get hj
    have hcl6 := cellsO_length S.cells
    have hSl := hg.len
    have hSn := S.n_le
    have hmain : ∀ p', Four σ q p' x y → True := fun _ _ => trivial
    by_cases halt : S.alt = true
    · rw [halt] at hz
      rw [← hN1] at hz
      simp [hRo p h4, halt]
      refine callK.of (hcl _ (both_prg h4 hng)) ?_
      rintro v σ' ⟨rfl, p', hp', rfl⟩
      have h4' : Four σ q p' x y := by
        simp only [both, putS, supd_apply, ite_none] at hp'
        obtain ⟨f1, f2, f3, f4, f5, f6, f7, f8, f9, f10⟩ := h4
        exact ⟨f1, hp'.2.2.2.2, f3, f4, Ne.symm hp'.2.1, f6, f7, hp'.2.2.2.1, hp'.2.2.1, f10⟩
      rw [← hz]
      have hsub : Store.sub (both σ q p' x y (upTo S 0) S) (putS spO (both σ q p x y N0 S) q p' (upTo S 0)) := by
        have h10 := h4'
        obtain ⟨f1, f2, f3, f4, f5, f6, f7, f8, f9, f10⟩ := h4
        obtain ⟨g1, g2, g3, g4, g5, g6, g7, g8, g9, g10⟩ := h4'
        simp only [both, putS]
        (intro q; simp only [Store.upd, Store.del]; (repeat' split) <;> first | exact Or.inr rfl | exact Or.inl rfl | (exfalso; omega) | (left; subst_vars; assumption) | simp_all)
      have e1 : putS spO (both σ q p x y N0 S) q p' (upTo S 0) x = some (rfO S y) := by
        obtain ⟨f1, f2, f3, f4, f5, f6, f7, f8, f9, f10⟩ := h4
        obtain ⟨g1, g2, g3, g4, g5, g6, g7, g8, g9, g10⟩ := h4'
        simp [both, putS, Ne.symm f6, Ne.symm f8, Ne.symm g8, f10]
      unfold rfO at e1
      simp [e1, rowC]
      clear e1
      refine codeK.loop follows (st := st16) (plans := pl16) (X := Nat) (fun j => j ≤ S.n)
        (fun j => [(1, byteA u), (11, ptrA q), (13, ptrA x), (53, rowC y S.n), (54, .lit (.int .i64 S.n)), (55, .lit (.int .i64 j))])
        (fun j => both σ q p' x y (upTo S j) S) (fun j => S.n - j) 0 (by kernel_rfl) (by simp) (by simp [rowC]) hsub fun j hj => ?_
      by_cases hlt : j < S.n
      · have hw : IntKind.i64.wrap ((j : Int) + 1) = ((j + 1 : Nat) : Int) := wrap_i64 (by omega) (by omega)
        have hjc : j < S.cells.length := by omega
        have hnx := upTo_next hg hlt hjc
        have hsm := upTo_same hg hlt hjc
        have hgj := hen j hjc
        have hP := both_prg (t := S) h4' (upTo_good hg hj)
        have hst := fun τ (hτ : Prg τ q p' (upTo S j)) => set_calls hτ (j : Int) S.cells[j]
        rw [← hnx] at hst
        have hz0 := eqLits_zero S.cells[j]
        have hcx : cellC S.cells[j] = [byteA S.cells[j].char, .lit (.bool S.cells[j].attr), byteA S.cells[j].fa, byteA S.cells[j].high, byteA S.cells[j].color, byteA S.cells[j].set] := rfl
        rw [hcx] at hgj
        rw [cellA_eq] at hst
        have hrow := hRr p' h4' (upTo S j)
        generalize S.cells[j] = c at *
        have hle : j * 6 + 6 ≤ (cellsO S.cells).length := by omega
        by_cases hc : c = .zero
        · have hsm := hsm hc
          have hz1 := hz0.trans (congrArg some (decide_eq_true hc))
          clear hc
          simp +contextual [-e_eqLits_2, rowC, hlt, hrow, hle, hgj, hz1]
          intro b hb
          refine ⟨j + 1, by omega, by omega, by rw [hw]; exact AV.le_refl _, ?_⟩
          rw [hsm]
          exact sub_upd_self _ _ _ hb
        · have hz1 := hz0.trans (congrArg some (decide_eq_false hc))
          simp +contextual [-e_eqLits_2, rowC, hlt, hrow, hle, hgj, hz1]
          intro b hb
          refine callK.of (hst _ (hP.new hb _)) ?_
          rintro v σ' ⟨rfl, rfl⟩
          obtain ⟨m1, m2, m3, m4⟩ := hP.fresh hb
          simp
          refine ⟨j + 1, by omega, by omega, by rw [hw]; exact AV.le_refl _, ?_⟩
          simp only [both, putS] at hb ⊢
          simp only [supd_apply, ite_none] at hb
          obtain ⟨b1, b2, b3, b4, b5⟩ := hb
          clear hrow hst hP hnx hsm hgj hcx hz0
          (intro q; simp only [Store.upd, Store.del]; (repeat' split) <;> first | exact Or.inr rfl | exact Or.inl rfl | (exfalso; omega) | (left; subst_vars; assumption) | simp_all)
      · obtain rfl : j = S.n := by omega
        have h7 : (u.toNat : Int).tmod 7 = ((u.toNat % 7 : Nat) : Int) := rfl
        have hw7 : IntKind.u8.wrap ((u.toNat % 7 : Nat) : Int) = ((u.toNat % 7 : Nat) : Int) := wrap_u8 (by omega) (by omega)
        by_cases h6 : u.toNat % 7 = 6
        · have hw6 : (u.toNat : Int).tmod 7 = 6 := by rw [h7, h6]; rfl
          simp [byteA]
          rw [if_pos hw6]
          exact ⟨_, AV.le_refl _, _, Store.sub_refl _, q, p', x, y, h4', .inl ⟨h6, rfl, rfl⟩⟩
        · have hi7 : u.toNat % 7 < pagesL.length := by have : pagesL.length = 6 := rfl; omega
          have hpv : ((pagesL[u.toNat % 7] : Nat) : Int) = page7 u := by unfold page7; rw [List.getElem?_eq_getElem hi7]; rfl
          have hok := page7_ok u
          have hw6 : ¬ (u.toNat : Int).tmod 7 = 6 := by rw [h7]; omega
          have hfin : ∀ b : Nat, both σ q p' x y (upTo S S.n) S b = none → SLay σ u S (.tuple [ptrA q, ptrA x, pgP b, .lit (.int .i64 (page7 u))]) (pgS b (page7 u) none (both σ q p' x y (upTo S S.n) S)) := fun b hb => ⟨q, p', x, y, h4', .inr ⟨h6, b, hb, rfl, rfl⟩⟩
          simp [byteA]
          rw [if_neg hw6]
          refine callK.eq (pages7_calls _) ?_
          clear hw7 hw6
          generalize u.toNat % 7 = j7 at *
          generalize hL7 : pagesL = L7 at *
          have h60 : ¬ (j7 : Int) < 0 := by omega
          generalize both σ q p' x y (upTo S S.n) S = BB at *
          generalize page7 u = nn at *
          simp [h7, hi7, hpv, h60]
          refine callK.of (page_new nn hok _) ?_
          rintro v σ' ⟨b0, hb0, rfl, rfl⟩
          simp
          have hpc := fun τ => pages7_calls τ
          rw [hL7] at hpc
          repeat' apply And.intro
          all_goals
            refine callK.eq (hpc _) ?_
            simp [h7, hi7, hpv, h60]
            first | exact ⟨_, AV.le_refl _, _, Store.sub_refl _, hfin b0 hb0⟩ | trace_state
    · have halt' : S.alt = false := by simpa using halt
      rw [halt'] at hz
      rw [← hN0] at hz
      rw [← hz]
      have h4' := h4
      have hsub := Store.sub_refl (both σ q p x y (upTo S 0) S)
      obtain ⟨p', hpp⟩ : ∃ p', p' = p := ⟨_, rfl⟩
      have e1 := hRo p h4 (upTo S 0)
      rw [halt'] at e1
      simp [e1]
      rw [← hpp] at h4' hsub e1 ⊢
      simp [rowC]
      clear e1
      refine codeK.loop follows (st := st16) (plans := pl16) (X := Nat) (fun j => j ≤ S.n)
        (fun j => [(1, byteA u), (11, ptrA q), (13, ptrA x), (53, rowC y S.n), (54, .lit (.int .i64 S.n)), (55, .lit (.int .i64 j))])
        (fun j => both σ q p' x y (upTo S j) S) (fun j => S.n - j) 0 (by kernel_rfl) (by simp) (by simp [rowC]) hsub fun j hj => ?_
      by_cases hlt : j < S.n
      · have hw : IntKind.i64.wrap ((j : Int) + 1) = ((j + 1 : Nat) : Int) := wrap_i64 (by omega) (by omega)
        have hjc : j < S.cells.length := by omega
        have hnx := upTo_next hg hlt hjc
        have hsm := upTo_same hg hlt hjc
        have hgj := hen j hjc
        have hP := both_prg (t := S) h4' (upTo_good hg hj)
        have hst := fun τ (hτ : Prg τ q p' (upTo S j)) => set_calls hτ (j : Int) S.cells[j]
        rw [← hnx] at hst
        have hz0 := eqLits_zero S.cells[j]
        have hcx : cellC S.cells[j] = [byteA S.cells[j].char, .lit (.bool S.cells[j].attr), byteA S.cells[j].fa, byteA S.cells[j].high, byteA S.cells[j].color, byteA S.cells[j].set] := rfl
        rw [hcx] at hgj
        rw [cellA_eq] at hst
        have hrow := hRr p' h4' (upTo S j)
        generalize S.cells[j] = c at *
        have hle : j * 6 + 6 ≤ (cellsO S.cells).length := by omega
        by_cases hc : c = .zero
        · have hsm := hsm hc
          have hz1 := hz0.trans (congrArg some (decide_eq_true hc))
          clear hc
          simp +contextual [-e_eqLits_2, rowC, hlt, hrow, hle, hgj, hz1]
          intro b hb
          refine ⟨j + 1, by omega, by omega, by rw [hw]; exact AV.le_refl _, ?_⟩
          rw [hsm]
          exact sub_upd_self _ _ _ hb
        · have hz1 := hz0.trans (congrArg some (decide_eq_false hc))
          simp +contextual [-e_eqLits_2, rowC, hlt, hrow, hle, hgj, hz1]
          intro b hb
          refine callK.of (hst _ (hP.new hb _)) ?_
          rintro v σ' ⟨rfl, rfl⟩
          obtain ⟨m1, m2, m3, m4⟩ := hP.fresh hb
          simp
          refine ⟨j + 1, by omega, by omega, by rw [hw]; exact AV.le_refl _, ?_⟩
          simp only [both, putS] at hb ⊢
          simp only [supd_apply, ite_none] at hb
          obtain ⟨b1, b2, b3, b4, b5⟩ := hb
          clear hrow hst hP hnx hsm hgj hcx hz0
          (intro q; simp only [Store.upd, Store.del]; (repeat' split) <;> first | exact Or.inr rfl | exact Or.inl rfl | (exfalso; omega) | (left; subst_vars; assumption) | simp_all)
      · obtain rfl : j = S.n := by omega
        have h7 : (u.toNat : Int).tmod 7 = ((u.toNat % 7 : Nat) : Int) := rfl
        have hw7 : IntKind.u8.wrap ((u.toNat % 7 : Nat) : Int) = ((u.toNat % 7 : Nat) : Int) := wrap_u8 (by omega) (by omega)
        by_cases h6 : u.toNat % 7 = 6
        · have hw6 : (u.toNat : Int).tmod 7 = 6 := by rw [h7, h6]; rfl
          simp [byteA]
          rw [if_pos hw6]
          exact ⟨_, AV.le_refl _, _, Store.sub_refl _, q, p', x, y, h4', .inl ⟨h6, rfl, rfl⟩⟩
        · have hi7 : u.toNat % 7 < pagesL.length := by have : pagesL.length = 6 := rfl; omega
          have hpv : ((pagesL[u.toNat % 7] : Nat) : Int) = page7 u := by unfold page7; rw [List.getElem?_eq_getElem hi7]; rfl
          have hok := page7_ok u
          have hw6 : ¬ (u.toNat : Int).tmod 7 = 6 := by rw [h7]; omega
          have hfin : ∀ b : Nat, both σ q p' x y (upTo S S.n) S b = none → SLay σ u S (.tuple [ptrA q, ptrA x, pgP b, .lit (.int .i64 (page7 u))]) (pgS b (page7 u) none (both σ q p' x y (upTo S S.n) S)) := fun b hb => ⟨q, p', x, y, h4', .inr ⟨h6, b, hb, rfl, rfl⟩⟩
          simp [byteA]
          rw [if_neg hw6]
          refine callK.eq (pages7_calls _) ?_
          clear hw7 hw6
          generalize u.toNat % 7 = j7 at *
          generalize hL7 : pagesL = L7 at *
          have h60 : ¬ (j7 : Int) < 0 := by omega
          generalize both σ q p' x y (upTo S S.n) S = BB at *
          generalize page7 u = nn at *
          simp [h7, hi7, hpv, h60]
          refine callK.of (page_new nn hok _) ?_
          rintro v σ' ⟨b0, hb0, rfl, rfl⟩
          simp
          have hpc := fun τ => pages7_calls τ
          rw [hL7] at hpc
          repeat' apply And.intro
          all_goals
            refine callK.eq (hpc _) ?_
            simp [h7, hi7, hpv, h60]
            first | exact ⟨_, AV.le_refl _, _, Store.sub_refl _, hfin b0 hb0⟩ | trace_state
end Go.Proofs.YtkggdohfcmiakaaGreatDoor
/-
  The document's fields: where attributes are, where fields start, which places they have.
-/
namespace Go.Proofs.YtkggdohfcmiakaaGreatDoor
open Go Go.AL Go.Sp

@[simp] theorem natsA_length (l : List Nat) : (natsA l).length = l.length := by simp [natsA, natA]
def attrsTo (s : Sp) (m : Nat) : List Nat := (List.range m).filter (isAt s)
def intsA (l : List Int) : List AV := l.map fun n => .lit (.int .i64 n)
@[simp] theorem intsA_length (l : List Int) : (intsA l).length = l.length := by simp [intsA]
/-- What Starts has written when it has come to m. -/
def startsTo (s : Sp) (m : Nat) : List Int := (List.range m).map (fun i => startS s.cells i) ++ List.replicate (s.n - m) 0
def starts (s : Sp) : List Int := (List.range s.n).map fun i => startS s.cells i
/-- Before m is reached, the last attribute. -/
def lastTo (s : Sp) (m : Nat) : Int := lastA s.cells (lastA s.cells (-1) s.cells.length) m
theorem lastTo_succ (s : Sp) (m : Nat) : lastTo s (m + 1) = if isAt s m = true then (m : Int) else lastTo s m := rfl
theorem startS_eq (s : Sp) (m : Nat) : startS s.cells m = lastTo s (m + 1) := rfl

theorem sub_over {σ : Store} {p b : Nat} {X Y Z : List AV} (hb : σ b = none) (hn : ¬ b = p) : Store.sub (σ.upd p X) (((σ.upd p Y).upd b Z).upd p X) := by
  refine Store.sub2 (fun o => ?_) (fun i => by simp)
  simp only [supd_apply]
  by_cases h1 : o = p
  · right; simp [h1]
  · by_cases h2 : o = b
    · left; simp [h2, hb, hn]
    · right; simp [h1, h2]

end Go.Proofs.YtkggdohfcmiakaaGreatDoor
