/-
  What bytes and events are as abstract values; the reader's pure model.
-/
import Derived.Test.YtkfhpnfgnjmdbaaPFacts
import Derived.Test.YtkfhpnfgnjmdbaaPPlans
namespace Go.Proofs.Ytkfhpnfgnjmdbaa
open Go Go.AL

theorem follows : Try.prog.follows .mixedOrders = true := by kernel_rfl

def byteA (b : UInt8) : AV := .lit (.int .u8 (b.toNat : Int))
def bytesA (l : List UInt8) : List AV := l.map byteA
@[simp] theorem bytesA_length (l : List UInt8) : (bytesA l).length = l.length := by simp [bytesA]
theorem bytesA_append (l k : List UInt8) : bytesA (l ++ k) = bytesA l ++ bytesA k := by simp [bytesA]
theorem bytesA_nil : bytesA [] = [] := rfl
theorem bytesOf_bytesA (l : List UInt8) : bytesOf (bytesA l) = some l := by
  induction l with
  | nil => rfl
  | cons b l ih =>
    have hb : AL.byteOf (byteA b) = some b := by simp [byteA, AL.byteOf]
    simp only [bytesOf, bytesA, List.map_cons, List.mapM_cons] at ih ⊢
    rw [hb, ih]; rfl
theorem bytesA_get (l : List UInt8) (i : Nat) : (bytesA l)[i]? = (l[i]?).map byteA := by simp [bytesA]

structure Ev where
  kind : Int
  verb : UInt8
  opt : UInt8
  data : List UInt8
  long : Bool
  broken : Bool
  deriving DecidableEq

def evA (e : Ev) : AV := .agg [.lit (.int .i64 e.kind), byteA e.verb, byteA e.opt, .list false 1 (bytesA e.data), .lit (.bool e.long), .lit (.bool e.broken)]
def evsA (l : List Ev) : List AV := l.map evA
@[simp] theorem evsA_length (l : List Ev) : (evsA l).length = l.length := by simp [evsA]
theorem evsA_append (l k : List Ev) : evsA (l ++ k) = evsA l ++ evsA k := by simp [evsA]
theorem evsA_get (l : List Ev) (i : Nat) : (evsA l)[i]? = (l[i]?).map evA := by simp [evsA]

/-- The reader. -/
structure Rd where
  state : Int
  verb : UInt8
  opt : UInt8
  data : List UInt8
  sub : List UInt8
  long : Bool
  out : List Ev

def rdA (r : Rd) : List AV := [.lit (.int .i64 r.state), byteA r.verb, byteA r.opt, .list true 1 (bytesA r.data), .list true 1 (bytesA r.sub), .lit (.bool r.long), .list true 6 (evsA r.out)]

namespace Rd
def flush (r : Rd) : Rd := { r with out := if 0 < r.data.length then r.out ++ [⟨0, 0, 0, r.data, false, false⟩] else r.out, data := [] }
def tell (r : Rd) (e : Ev) : Rd := { r.flush with out := r.flush.out ++ [e], state := 0 }
def keep (r : Rd) (b : UInt8) : Rd := if 256 ≤ r.sub.length then { r with state := 4, long := true } else { r with state := 4, sub := r.sub ++ [b] }
def fin (r : Rd) (broken : Bool) : Rd := { r.tell ⟨3, 0, r.opt, r.sub, r.long, broken⟩ with sub := [], long := false }
def command (r : Rd) (b : UInt8) : Rd :=
  if (b.toNat : Int) = 255 then { r with data := r.data ++ [b], state := 0 }
  else if (b.toNat : Int) = 250 then { r with state := 3 }
  else if 251 ≤ (b.toNat : Int) ∧ (b.toNat : Int) ≤ 254 then { r with verb := b, state := 2 }
  else r.tell ⟨1, b, 0, [], false, false⟩
def take (r : Rd) (b : UInt8) : Rd :=
  if r.state = 1 then r.command b
  else if r.state = 2 then r.tell ⟨2, r.verb, b, [], false, false⟩
  else if r.state = 3 then { r with opt := b, state := 4 }
  else if r.state = 4 then (if (b.toNat : Int) = 255 then { r with state := 5 } else r.keep b)
  else if r.state = 5 then (if (b.toNat : Int) = 255 then r.keep b else if (b.toNat : Int) = 240 then r.fin false else (r.fin true).command b)
  else if (b.toNat : Int) = 255 then { r with state := 1 }
  else { r with data := r.data ++ [b] }
def feed (r : Rd) (p : List UInt8) : Rd := p.foldl take r
def init : Rd := ⟨0, 0, 0, [], [], false, []⟩
end Rd

theorem byte_eq (b c : UInt8) : ((b.toNat : Int) == (c.toNat : Int)) = (b == c) := by
  rw [Bool.eq_iff_iff, beq_iff_eq, beq_iff_eq]
  constructor
  · intro h; exact UInt8.toNat_inj.1 (by omega)
  · rintro rfl; rfl
theorem le_of_eq {a b : AV} (h : a = b) : a.le b := h ▸ AV.le_refl a
/-- A byte, as the operations have it. -/
theorem byte_lt (b : UInt8) : (b.toNat : Int) < 256 := by have := b.toNat_lt; omega
end Go.Proofs.Ytkfhpnfgnjmdbaa
