/-
  The abstract-state logic: what 'simp' may unfold to walk through code.
-/
import Derived.Test.YtkfhpnfgnjmdbaaALRw
import Derived.Laws.Strings
namespace Go.AL
open Go
@[simp] theorem drop1_top  : (AV.top).drop1 = .top := nr rfl
@[simp] theorem share_top  : (AV.top).share = .top := nr rfl
@[simp] theorem keep1_top  : (AV.top).keep1 = .top := nr rfl
@[simp] theorem cells_top  : (AV.top).cells = [.top] := nr rfl
@[simp] theorem one_top  : (AV.top).one = false := nr rfl
@[simp] theorem solid_top  : (AV.top).solid = false := nr rfl
@[simp] theorem conv_top (P : Program) (t : TypeId)  : conv P t (.top) = .top := nr rfl
@[simp] theorem drop1_lit (v : Value) : (AV.lit v).drop1 = .lit v := nr rfl
@[simp] theorem share_lit (v : Value) : (AV.lit v).share = .lit v := nr rfl
@[simp] theorem keep1_lit (v : Value) : (AV.lit v).keep1 = .lit v := nr rfl
@[simp] theorem cells_lit (v : Value) : (AV.lit v).cells = [.lit v] := nr rfl
@[simp] theorem one_lit (v : Value) : (AV.lit v).one = v.oneCell' := nr rfl
@[simp] theorem solid_lit (v : Value) : (AV.lit v).solid = v.oneCell' := nr rfl
@[simp] theorem drop1_list (o : Bool) (sz : Nat) (vs : List AV) : (AV.list o sz vs).drop1 = .list false sz vs := nr rfl
@[simp] theorem share_list (o : Bool) (sz : Nat) (vs : List AV) : (AV.list o sz vs).share = .list false sz vs := nr rfl
@[simp] theorem keep1_list (o : Bool) (sz : Nat) (vs : List AV) : (AV.list o sz vs).keep1 = .list o sz vs := nr rfl
@[simp] theorem cells_list (o : Bool) (sz : Nat) (vs : List AV) : (AV.list o sz vs).cells = [.list o sz vs] := nr rfl
@[simp] theorem one_list (o : Bool) (sz : Nat) (vs : List AV) : (AV.list o sz vs).one = true := nr rfl
@[simp] theorem solid_list (o : Bool) (sz : Nat) (vs : List AV) : (AV.list o sz vs).solid = true := nr rfl
@[simp] theorem conv_list (P : Program) (t : TypeId) (o : Bool) (sz : Nat) (vs : List AV) : conv P t (.list o sz vs) = .list o sz vs := nr rfl
@[simp] theorem drop1_fptr (cs : List AV) : (AV.fptr cs).drop1 = .fptr cs := nr rfl
@[simp] theorem share_fptr (cs : List AV) : (AV.fptr cs).share = .fptr cs := nr rfl
@[simp] theorem keep1_fptr (cs : List AV) : (AV.fptr cs).keep1 = .fptr cs := nr rfl
@[simp] theorem cells_fptr (cs : List AV) : (AV.fptr cs).cells = [.fptr cs] := nr rfl
@[simp] theorem one_fptr (cs : List AV) : (AV.fptr cs).one = true := nr rfl
@[simp] theorem solid_fptr (cs : List AV) : (AV.fptr cs).solid = true := nr rfl
@[simp] theorem conv_fptr (P : Program) (t : TypeId) (cs : List AV) : conv P t (.fptr cs) = .fptr cs := nr rfl
@[simp] theorem drop1_func (fn : Fn) (f c : List AV) : (AV.func fn f c).drop1 = .func fn f c := nr rfl
@[simp] theorem share_func (fn : Fn) (f c : List AV) : (AV.func fn f c).share = .func fn f c := nr rfl
@[simp] theorem keep1_func (fn : Fn) (f c : List AV) : (AV.func fn f c).keep1 = .func fn f c := nr rfl
@[simp] theorem cells_func (fn : Fn) (f c : List AV) : (AV.func fn f c).cells = [.func fn f c] := nr rfl
@[simp] theorem one_func (fn : Fn) (f c : List AV) : (AV.func fn f c).one = true := nr rfl
@[simp] theorem solid_func (fn : Fn) (f c : List AV) : (AV.func fn f c).solid = true := nr rfl
@[simp] theorem conv_func (P : Program) (t : TypeId) (fn : Fn) (f c : List AV) : conv P t (.func fn f c) = .func fn f c := nr rfl
@[simp] theorem drop1_iface (t : TypeId) (a : AV) : (AV.iface t a).drop1 = .iface t a := nr rfl
@[simp] theorem share_iface (t : TypeId) (a : AV) : (AV.iface t a).share = .iface t a := nr rfl
@[simp] theorem keep1_iface (t : TypeId) (a : AV) : (AV.iface t a).keep1 = .iface t a := nr rfl
@[simp] theorem cells_iface (t : TypeId) (a : AV) : (AV.iface t a).cells = [.iface t a] := nr rfl
@[simp] theorem one_iface (t : TypeId) (a : AV) : (AV.iface t a).one = true := nr rfl
@[simp] theorem solid_iface (t : TypeId) (a : AV) : (AV.iface t a).solid = true := nr rfl
@[simp] theorem conv_iface (P : Program) (t : TypeId) (t : TypeId) (a : AV) : conv P t (.iface t a) = .iface t a := nr rfl
@[simp] theorem drop1_agg (cs : List AV) : (AV.agg cs).drop1 = .agg cs := nr rfl
@[simp] theorem share_agg (cs : List AV) : (AV.agg cs).share = .agg (cs.map AV.drop1) := nr rfl
@[simp] theorem keep1_agg (cs : List AV) : (AV.agg cs).keep1 = .agg (cs.map AV.drop1) := nr rfl
@[simp] theorem cells_agg (cs : List AV) : (AV.agg cs).cells = cs := nr rfl
@[simp] theorem one_agg (cs : List AV) : (AV.agg cs).one = false := nr rfl
@[simp] theorem solid_agg (cs : List AV) : (AV.agg cs).solid = true := nr rfl
@[simp] theorem conv_agg (P : Program) (t : TypeId) (cs : List AV) : conv P t (.agg cs) = .agg cs := nr rfl
@[simp] theorem drop1_tuple (vs : List AV) : (AV.tuple vs).drop1 = .tuple vs := nr rfl
@[simp] theorem share_tuple (vs : List AV) : (AV.tuple vs).share = .tuple (vs.map AV.drop1) := nr rfl
@[simp] theorem keep1_tuple (vs : List AV) : (AV.tuple vs).keep1 = .tuple (vs.map AV.drop1) := nr rfl
@[simp] theorem cells_tuple (vs : List AV) : (AV.tuple vs).cells = [.tuple vs] := nr rfl
@[simp] theorem one_tuple (vs : List AV) : (AV.tuple vs).one = false := nr rfl
@[simp] theorem solid_tuple (vs : List AV) : (AV.tuple vs).solid = false := nr rfl
@[simp] theorem conv_tuple (P : Program) (t : TypeId) (vs : List AV) : conv P t (.tuple vs) = .tuple vs := nr rfl
@[simp] theorem conv_lit_int (P : Program) (t : TypeId) (k : IntKind) (n : Int) : conv P t (.lit (.int k n)) = .lit (.int k n) := nr rfl
@[simp] theorem conv_lit_bool (P : Program) (t : TypeId) (b : Bool) : conv P t (.lit (.bool b)) = .lit (.bool b) := nr rfl
@[simp] theorem conv_lit_string (P : Program) (t : TypeId) (b : ByteArray) : conv P t (.lit (.string b)) = .lit (.string b) := nr rfl
@[simp] theorem conv_lit_pointer (P : Program) (t : TypeId) (a : Option Addr) : conv P t (.lit (.pointer a)) = .lit (.pointer a) := nr rfl
@[simp] theorem conv_lit_map (P : Program) (t : TypeId) (r : Option Nat) : conv P t (.lit (.map r)) = .lit (.map r) := nr rfl
@[simp] theorem conv_lit_nilFunc (P : Program) (t : TypeId)  : conv P t (.lit (.nilFunc)) = .lit (.nilFunc) := nr rfl
@[simp] theorem conv_lit_nilIface (P : Program) (t : TypeId)  : conv P t (.lit (.nilIface)) = .lit (.nilIface) := nr rfl
@[simp] theorem conv_lit_slice (P : Program) (t : TypeId) (a : Addr) (n c : Nat) : conv P t (.lit (.slice (some a) n c)) = .lit (.slice (some a) n c) := nr rfl
@[simp] theorem conv_nil (P : Program) (t : TypeId) : conv P t (.lit (.slice none 0 0)) = match (tElem P t).bind (tSize P) with | some s => .list true s [] | none => .lit (.slice none 0 0) := nr rfl
@[simp] theorem upd_apply (A : Slots) (i j : Nat) (v : AV) : upd A i v j = if j = i then v else A j := nr rfl
@[simp] theorem slotsOf_zero (a : AV) (as : List AV) : slotsOf (a :: as) 0 = a := nr rfl
@[simp] theorem slotsOf_succ (a : AV) (as : List AV) (i : Nat) : slotsOf (a :: as) (i + 1) = slotsOf as i := nr rfl
@[simp] theorem slotsOf_nil (i : Nat) : slotsOf [] i = .top := nr rfl
@[simp] theorem supd_apply (σ : Store) (o p : Nat) (cs : List AV) : σ.upd o cs p = if p = o then some cs else σ p := nr rfl
end Go.AL
namespace Go.AL
open Go
attribute [simp] AV.le_refl Store.sub_refl Slots.le_none AV.le_top
@[simp] theorem sub_upd_self (σ : Store) (p : Nat) (cs : List AV) (h : σ p = none) : Store.sub σ (σ.upd p cs) := Store.sub_upd h (Store.sub_refl σ)
theorem maxLen_val : maxLen = 9223372036854775807 := by decide
attribute [simp] maxLen_val
end Go.AL
namespace Go.AL
open Go
@[simp] theorem supd_supd (σ : Store) (o : Nat) (x y : List AV) : (σ.upd o x).upd o y = σ.upd o y := by
  funext p; simp only [Store.upd]; split <;> rfl
theorem sub_eq {σ : Store} {o : Nat} {x y : List AV} (h : x = y) : Store.sub (σ.upd o x) (σ.upd o y) := h ▸ Store.sub_refl _
theorem supd_swap (σ : Store) {o p : Nat} (h : o ≠ p) (x y : List AV) : (σ.upd o x).upd p y = (σ.upd p y).upd o x := by
  funext q; simp only [Store.upd]
  split
  · rename_i h1; rw [if_neg (fun h2 => h (h2.symm.trans h1))]
  · rfl
/-- A box that is forgotten. -/
theorem sub_box {σ : Store} {o p : Nat} {x y z : List AV} (hp : σ p = none) (ho : o ≠ p) (h : x = y) : Store.sub (σ.upd o x) ((σ.upd p z).upd o y) := by
  subst h
  intro q
  by_cases h1 : q = o
  · subst h1; exact .inr (by simp [Store.upd])
  · by_cases h2 : q = p
    · subst h2; exact .inl (by simp [Store.upd, h1, hp])
    · exact .inr (by simp [Store.upd, h1, h2])
end Go.AL
namespace Go.AL
attribute [simp] AllLe AllLe1 AV.le1_refl AV.le1_list AV.le_agg AV.le_tuple AV.le_list AV.le1_top
end Go.AL
namespace Go.AL
@[simp] theorem del_apply (σ : Store) (o p : Nat) : σ.del o p = if p = o then none else σ p := nr rfl
@[simp] theorem delO_some (σ : Store) (o : Nat) : σ.delO (some o) = σ.del o := nr rfl
@[simp] theorem delO_no (σ : Store) : σ.delO none = σ := nr rfl
end Go.AL
namespace Go.AL
/-- One cell out of a row. -/
@[simp ↓] theorem load1 (cs : List AV) (off : Nat) : (if off + 1 ≤ cs.length then mkAV false (List.take 1 (List.drop off cs)) else none) = cs[off]? := by
  by_cases h : off < cs.length
  · rw [if_pos (show off + 1 ≤ cs.length from h), List.drop_eq_getElem_cons h, List.getElem?_eq_getElem h]; rfl
  · rw [if_neg (by omega), List.getElem?_eq_none (by omega)]
end Go.AL
namespace Go.AL
/-- A block that is free lies apart from those that are not. -/
theorem ite_none {α : Type} {c : Prop} [Decidable c] (x : α) (y : Option α) : (if c then some x else y) = none ↔ ¬ c ∧ y = none := by split <;> simp_all
end Go.AL
namespace Go.AL
@[simp] theorem lookup_ne {β : Type} {a k : Nat} (b : β) (es : List (Nat × β)) (h : ¬ a = k) : List.lookup a ((k, b) :: es) = List.lookup a es := by
  have : (a == k) = false := by simpa using h
  simp [List.lookup, this]
end Go.AL
namespace Go.AL
/-- A place further on. -/
@[simp] theorem toNat_add2 (i : Nat) : ((i : Int) + 2).toNat = i + 2 := by omega
@[simp] theorem toNat_add3 (i : Nat) : ((i : Int) + 3).toNat = i + 3 := by omega
@[simp] theorem toNat_add4 (i : Nat) : ((i : Int) + 4).toNat = i + 4 := by omega
@[simp] theorem toNat_add5 (i : Nat) : ((i : Int) + 5).toNat = i + 5 := by omega
end Go.AL
