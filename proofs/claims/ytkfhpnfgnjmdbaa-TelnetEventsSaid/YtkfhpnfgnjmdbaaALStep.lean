/-
  The abstract-state logic: one operation. 'astep' says what an operation does to abstract values; 'astep_sound' that the model does so.
-/
import Derived.Test.YtkfhpnfgnjmdbaaALMem
namespace Go.AL
open Go Go.RowKit Classical

/-! ### What is asked of types -/
def tSize (P : Program) (t : TypeId) : Option Nat := (P.info? t).map (·.size)
def tBytes (P : Program) (t : TypeId) : Option Nat := (P.info? t).map (·.bytes)
def tZero (P : Program) (t : TypeId) : Option Value := (P.info? t).bind (·.zero)
def tAgg (P : Program) (t : TypeId) : Option Bool := (P.underlying t).map fun | .struct _ | .array _ _ => true | _ => false
def tElem (P : Program) (t : TypeId) : Option TypeId := (P.underlying t).bind fun | .slice e => some e | _ => none
def tArr (P : Program) (t : TypeId) : Option (Nat × TypeId) := (P.underlying t).bind fun | .array n e => some (n, e) | _ => none
def tInt (P : Program) (t : TypeId) : Option IntKind := (P.underlying t).bind fun | .int k => some k | _ => none
def tStr (P : Program) (t : TypeId) : Bool := (P.underlying t).any fun | .string => true | _ => false
def tIface (P : Program) (t : TypeId) : Option Bool := (P.underlying t).map fun | .interface _ => true | _ => false
/-- A field: where it begins, its type. -/
def tField (P : Program) (t : TypeId) (f : Nat) : Option (Nat × TypeId) := (P.underlying t).bind fun | .struct fs => (fs[f]?).map fun f => (f.offset, f.type) | _ => none

/-- The value written in the text, at its type: the nil slice is a list. -/
def conv (P : Program) (t : TypeId) (a : AV) : AV :=
  match a with
  | .lit (.slice none 0 0) => match (tElem P t).bind (tSize P) with
    | some s => .list true s []
    | none => a
  | a => a

theorem conv_VR {P : Program} {t : TypeId} {F : Frz} {a : AV} {v : Value} (h : VR F a v) : VR F (conv P t a) v := by
  unfold conv
  split
  · split
    · cases h; exact .nil ..
    · exact h
  · exact h
theorem conv_own {P : Program} {t : TypeId} {F : Frz} {G : Ghost} {D : Nat → Prop} {r : Nat → Place} {a : AV} {v : Value} (hv : VR F a v) (h : OwnAt G D r a v) : OwnAt G D r (conv P t a) v := by
  unfold conv
  split
  · split
    · cases hv; simp [OwnAt, Own1]
    · exact h
  · exact h

/-- The cells' types of a type, as far as the fuel reaches. -/
def cellTys (P : Program) : Nat → TypeId → List TypeId
  | 0, t => [t]
  | d + 1, t => match P.underlying t with
    | some (.struct fs) => fs.toList.flatMap fun f => cellTys P d f.type
    | some (.array n e) => (List.replicate n (cellTys P d e)).flatten
    | _ => [t]
def azero (P : Program) (t : TypeId) : Option (List AV) :=
  (tZero P t).bind fun z => if z.cells.toList.all Value.oneCell' then some (z.cells.toList.zipIdx.map fun p => conv P ((cellTys P 8 t).getD p.2 t) (.lit p.1)) else none

/-- A value of so many cells. -/
def mkAV (agg : Bool) (cs : List AV) : Option AV :=
  if agg then some (.agg cs) else match cs with | [c] => some c | _ => none

/-- One cell's value? -/
def AV.one : AV → Bool
  | .lit v => v.oneCell'
  | .list .. | .fptr _ | .func .. | .iface .. => true
  | _ => false
def AV.solid : AV → Bool
  | .agg _ => true
  | v => v.one

theorem VR.one {F : Frz} {a : AV} {v : Value} (h : VR F a v) (h1 : a.one = true) : v.oneCell' = true := by
  cases h <;> simp_all [AV.one, Value.oneCell']

theorem VR.cells {F : Frz} {a : AV} {v : Value} (h : VR F a v) (hs : a.solid = true) : a.cells.length = v.cells.size ∧ ∀ (i : Nat) (c : AV) (u : Value), a.cells[i]? = some c → v.cells[i]? = some u → u.oneCell' = true ∧ VR F c u := by
  cases h with
  | agg cs us hl h1 hv => exact ⟨hl, fun i c u hc hu => ⟨h1 i u hu, hv i c u hc hu⟩⟩
  | top v => simp [AV.solid, AV.one] at hs
  | tuple cs us hl hv => simp [AV.solid, AV.one] at hs
  | lit v =>
    have hv : v.cells = #[v] := by cases v <;> simp_all [AV.solid, AV.one, Value.oneCell', Value.cells]
    refine ⟨by simp [AV.cells, hv], fun i c u hc hu => ?_⟩
    cases i with
    | zero => simp [AV.cells, hv] at hc hu; subst hc hu; exact ⟨by simpa [AV.solid, AV.one] using hs, .lit v⟩
    | succ i => simp [AV.cells] at hc
  | nil o s =>
    refine ⟨by simp [AV.cells, Value.cells], fun i c u hc hu => ?_⟩
    cases i with
    | zero => simp [AV.cells, Value.cells] at hc hu; subst hc hu; exact ⟨rfl, .nil o s⟩
    | succ i => simp [AV.cells] at hc
  | void s ad =>
    refine ⟨by simp [AV.cells, Value.cells], fun i c u hc hu => ?_⟩
    cases i with
    | zero => simp [AV.cells, Value.cells] at hc hu; subst hc hu; exact ⟨rfl, .void s ad⟩
    | succ i => simp [AV.cells] at hc
  | list own sz vs g off n cap us hn hc hw hl h1 h2 =>
    refine ⟨by simp [AV.cells, Value.cells], fun i c u hc' hu => ?_⟩
    cases i with
    | zero => simp [AV.cells, Value.cells] at hc' hu; subst hc' hu; exact ⟨rfl, .list own sz vs g off n cap us hn hc hw hl h1 h2⟩
    | succ i => simp [AV.cells] at hc'
  | fptr cs g off us hl h1 h2 =>
    refine ⟨by simp [AV.cells, Value.cells], fun i c u hc' hu => ?_⟩
    cases i with
    | zero => simp [AV.cells, Value.cells] at hc' hu; subst hc' hu; exact ⟨rfl, .fptr cs g off us hl h1 h2⟩
    | succ i => simp [AV.cells] at hc'
  | func fn fs cs ufs ucs h1 h2 h3 h4 =>
    refine ⟨by simp [AV.cells, Value.cells], fun i c u hc' hu => ?_⟩
    cases i with
    | zero => simp [AV.cells, Value.cells] at hc' hu; subst hc' hu; exact ⟨rfl, .func fn fs cs ufs ucs h1 h2 h3 h4⟩
    | succ i => simp [AV.cells] at hc'
  | iface t a v h =>
    refine ⟨by simp [AV.cells, Value.cells], fun i c u hc' hu => ?_⟩
    cases i with
    | zero => simp [AV.cells, Value.cells] at hc' hu; subst hc' hu; exact ⟨rfl, .iface t a v h⟩
    | succ i => simp [AV.cells] at hc'

/-! ### Operands -/
def evalA (A : Slots) : Operand → AV
  | .tmp t => A t
  | .const v => .lit v
  | .global g => .lit (.pointer (some ⟨g, 0, none⟩))
  | .func f => .func (.func f) [] []

theorem Rel.eval {D : Nat → Prop} {n : Nat} {G : Ghost} {A : Slots} {σ : Store} {a : Act} {w : World} (h : Rel D n G A σ a w) (x : Operand) : VR G.F (evalA A x) (a.eval x) := by
  cases x with
  | tmp t => exact h.val t
  | const v => exact .lit v
  | global g => exact .lit _
  | func f => exact .func _ _ _ _ _ rfl rfl (by simp) (by simp)

/-- The operand's value, with its right: the slot keeps the value, not the right. -/
def takeA (A : Slots) (x : Operand) (K : AV → Slots → Prop) : Prop :=
  match x with
  | .tmp t => K (A t) (upd A t (A t).share)
  | x => K (evalA A x) A

theorem Rel.takes {D : Nat → Prop} {n : Nat} {G : Ghost} {A : Slots} {σ : Store} {a : Act} {w : World} (h : Rel D n G A σ a w) {x : Operand} {K : AV → Slots → Prop} (hK : takeA A x K) :
    ∃ v A' G', K v A' ∧ Rel D n G' A' σ a w ∧ VR G'.F v (a.eval x) ∧ OwnAt G' D .acc v (a.eval x) ∧ Ext D G w G' w ∧ G'.F = G.F := by
  have plain : ∀ v, VR G.F v (a.eval x) → v.plain = true → K v A → ∃ v A' G', K v A' ∧ Rel D n G' A' σ a w ∧ VR G'.F v (a.eval x) ∧ OwnAt G' D .acc v (a.eval x) ∧ Ext D G w G' w ∧ G'.F = G.F :=
    fun v hv hp hk => ⟨v, A, G, hk, h, hv, OwnAt.of_plain hp, Ext.refl .., rfl⟩
  cases x with
  | tmp t => obtain ⟨h1, h2⟩ := h.take t; exact ⟨_, _, _, hK, h1, h.val t, h2, Ext.mv .., rfl⟩
  | const v => exact plain _ (h.eval (.const v)) rfl hK
  | global g => exact plain _ (h.eval (.global g)) rfl hK
  | func f => exact plain _ (h.eval (.func f)) rfl hK

/-! ### Values that are computed of values alone -/
def pureBin (op : BinOp) (a b : Value) : Option Value :=
  match op, a, b with
  | .shl, .int k x, .int _ y => if y < 0 then none else some (.int k (k.wrap (x * 2 ^ (min y.toNat k.bits))))
  | .shr, .int k x, .int _ y => if y < 0 then none else some (.int k (x.fdiv (2 ^ (min y.toNat k.bits))))
  | .add, .int k x, .int k' y => if k = k' then some (.int k (k.wrap (x + y))) else none
  | .sub, .int k x, .int k' y => if k = k' then some (.int k (k.wrap (x - y))) else none
  | .mul, .int k x, .int k' y => if k = k' then some (.int k (k.wrap (x * y))) else none
  | .quo, .int k x, .int k' y => if k = k' then (if y = 0 then none else some (.int k (k.wrap (x.tdiv y)))) else none
  | .rem, .int k x, .int k' y => if k = k' then (if y = 0 then none else some (.int k (x.tmod y))) else none
  | .and, .int k x, .int k' y => if k = k' then some (.int k (k.wrap (BitVec.ofInt k.bits x &&& BitVec.ofInt k.bits y).toNat)) else none
  | .or, .int k x, .int k' y => if k = k' then some (.int k (k.wrap (BitVec.ofInt k.bits x ||| BitVec.ofInt k.bits y).toNat)) else none
  | .xor, .int k x, .int k' y => if k = k' then some (.int k (k.wrap (BitVec.ofInt k.bits x ^^^ BitVec.ofInt k.bits y).toNat)) else none
  | .andNot, .int k x, .int k' y => if k = k' then some (.int k (k.wrap (BitVec.ofInt k.bits x &&& ~~~BitVec.ofInt k.bits y).toNat)) else none
  | .eql, .int k x, .int k' y => if k = k' then some (.bool (x == y)) else none
  | .neq, .int k x, .int k' y => if k = k' then some (.bool (x != y)) else none
  | .lss, .int k x, .int k' y => if k = k' then some (.bool (decide (x < y))) else none
  | .leq, .int k x, .int k' y => if k = k' then some (.bool (decide (x ≤ y))) else none
  | .gtr, .int k x, .int k' y => if k = k' then some (.bool (decide (x > y))) else none
  | .geq, .int k x, .int k' y => if k = k' then some (.bool (decide (x ≥ y))) else none
  | .eql, .string x, .string y => some (.bool (x.toList == y.toList))
  | .neq, .string x, .string y => some (.bool (!(x.toList == y.toList)))
  | .lss, .string x, .string y => some (.bool (Op.bytesLess x.toList y.toList))
  | .leq, .string x, .string y => some (.bool (Op.bytesLess x.toList y.toList || x.toList == y.toList))
  | .gtr, .string x, .string y => some (.bool (!(Op.bytesLess x.toList y.toList || x.toList == y.toList)))
  | .geq, .string x, .string y => some (.bool (!(Op.bytesLess x.toList y.toList)))
  | .add, .string x, .string y => if ((x.size + y.size : Nat) : Int) > 9223372036854775807 then none else some (.string (x ++ y))
  | _, _, _ => none

theorem i64_max : IntKind.i64.max = 9223372036854775807 := by decide

theorem eqGuard_int {P : Program} {op : BinOp} {t : TypeId} {x y : Operand} {k k' : IntKind} {a b : Int} {w : World} : (eqGuard op t x y (.int k a) (.int k' b)).run P w = .ok () w := by
  cases op <;> rfl
theorem eqGuard_str {P : Program} {op : BinOp} {t : TypeId} {x y : Operand} {a b : ByteArray} {w : World} : (eqGuard op t x y (.string a) (.string b)).run P w = .ok () w := by
  cases op <;> rfl

theorem pureBin_sound {P : Program} {op : BinOp} {t : TypeId} {x y : Operand} {a b v : Value} (h : pureBin op a b = some v) (w : World) :
    (do eqGuard op t x y a b; binOp op t a b : Sem Value).run P w = .ok v w := by
  unfold pureBin at h
  split at h
  all_goals first
    | (cases h; done)
    | (cases h; rfl)
    | (simp only [Sem.run_bind, eqGuard_int, eqGuard_str, Result.andThen_ok]
       simp only [binOp, Op.shift, Op.intArith, Op.intDiv, Op.intBits, Op.intCmp, Op.stringOp]
       (repeat' split at h) <;> simp_all [i64_max] <;> omega)

def pureUn (op : UnOp) (a : Value) : Option Value :=
  match op, a with
  | .neg, .int k n => some (.int k (k.wrap (0 - n)))
  | .xor, .int k n => some (.int k (k.wrap (BitVec.ofInt k.bits (if k.signed then -1 else k.max) ^^^ BitVec.ofInt k.bits n).toNat))
  | .not, .bool b => some (.bool (!b))
  | _, _ => none
theorem pureUn_sound {P : Program} {op : UnOp} {a v : Value} (h : pureUn op a = some v) (w : World) : (Op.unary op a).run P w = .ok v w := by
  unfold pureUn at h
  split at h
  all_goals first
    | (cases h; done)
    | (cases h; rfl)

end Go.AL
