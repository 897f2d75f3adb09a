/-
  The line: a reader, escapes, headers, records.
-/
import Derived.Test.YtegpebaoghmgiaaGreatDoorSPart14
set_option linter.unusedSimpArgs false
set_option linter.unusedVariables false
namespace Go.Proofs.YtegpebaoghmgiaaGreatDoor
open Go Go.AL
theorem bytesA_get (l : List UInt8) (i : Nat) : (bytesA l)[i]? = (l[i]?).map byteA := by simp [bytesA]

structure Ev where
  kind : Int
  verb : UInt8
  opt : UInt8
  data : List UInt8
  long : Bool
  broken : Bool
  deriving DecidableEq

def evA (e : Ev) : AV := .agg [.lit (.int .i64 e.kind), byteA e.verb, byteA e.opt, .list false 1 (bytesA e.data), .lit (.bool e.long), .lit (.bool e.broken)]
def evsA (l : List Ev) : List AV := l.map evA
@[simp] theorem evsA_length (l : List Ev) : (evsA l).length = l.length := by simp [evsA]
/-- The reader. -/
structure Rd where
  state : Int
  verb : UInt8
  opt : UInt8
  data : List UInt8
  sub : List UInt8
  long : Bool
  out : List Ev

def rdA (r : Rd) : List AV := [.lit (.int .i64 r.state), byteA r.verb, byteA r.opt, .list true 1 (bytesA r.data), .list true 1 (bytesA r.sub), .lit (.bool r.long), .list true 6 (evsA r.out)]

namespace Rd
def flush (r : Rd) : Rd := { r with out := if 0 < r.data.length then r.out ++ [⟨0, 0, 0, r.data, false, false⟩] else r.out, data := [] }
def tell (r : Rd) (e : Ev) : Rd := { r.flush with out := r.flush.out ++ [e], state := 0 }
def keep (r : Rd) (b : UInt8) : Rd := if 256 ≤ r.sub.length then { r with state := 4, long := true } else { r with state := 4, sub := r.sub ++ [b] }
def fin (r : Rd) (broken : Bool) : Rd := { r.tell ⟨3, 0, r.opt, r.sub, r.long, broken⟩ with sub := [], long := false }
def command (r : Rd) (b : UInt8) : Rd :=
  if (b.toNat : Int) = 255 then { r with data := r.data ++ [b], state := 0 }
  else if (b.toNat : Int) = 250 then { r with state := 3 }
  else if 251 ≤ (b.toNat : Int) ∧ (b.toNat : Int) ≤ 254 then { r with verb := b, state := 2 }
  else r.tell ⟨1, b, 0, [], false, false⟩
def take (r : Rd) (b : UInt8) : Rd :=
  if r.state = 1 then r.command b
  else if r.state = 2 then r.tell ⟨2, r.verb, b, [], false, false⟩
  else if r.state = 3 then { r with opt := b, state := 4 }
  else if r.state = 4 then (if (b.toNat : Int) = 255 then { r with state := 5 } else r.keep b)
  else if r.state = 5 then (if (b.toNat : Int) = 255 then r.keep b else if (b.toNat : Int) = 240 then r.fin false else (r.fin true).command b)
  else if (b.toNat : Int) = 255 then { r with state := 1 }
  else { r with data := r.data ++ [b] }
def feed (r : Rd) (p : List UInt8) : Rd := p.foldl take r
def init : Rd := ⟨0, 0, 0, [], [], false, []⟩
end Rd

/-- The reader's cells, written out. -/
theorem rdA_eq (r : Rd) : rdA r = [.lit (.int .i64 r.state), byteA r.verb, byteA r.opt, .list true 1 (bytesA r.data), .list true 1 (bytesA r.sub), .lit (.bool r.long), .list true 6 (evsA r.out)] := rfl

set_option maxRecDepth 8000 in
theorem flush_calls (o : Nat) (r : Rd) (σ : Store) (ho : σ o = some (rdA r)) (hl : r.out.length ≤ 1000000) :
    ACalls Tryz.prog 76 [ptrA o] σ fun v σ' => v = .tuple [] ∧ σ' = σ.upd o (rdA r.flush) := by
  refine ACalls.of_awp follows (st := st76) (plans := pl76) (n := 25) Tryz.func76 rfl (by kernel_rfl) (by kernel_rfl) (by kernel_rfl) ?_
  rw [rdA_eq r] at ho
  simp [ho]
  split
  · rename_i h
    refine ⟨by omega, by omega, sub_eq ?_⟩
    simp [rdA, Rd.flush, h, evsA, evA, byteA, bytesA_nil]
  · rename_i h
    refine sub_eq ?_
    simp [rdA, Rd.flush, h, bytesA_nil]

set_option maxRecDepth 8000 in
theorem keep_calls (o : Nat) (r : Rd) (b : UInt8) (σ : Store) (ho : σ o = some (rdA r)) (hl : r.sub.length ≤ 1000000) :
    ACalls Tryz.prog 92 [ptrA o, byteA b] σ fun v σ' => v = .tuple [] ∧ σ' = σ.upd o (rdA (r.keep b)) := by
  refine ACalls.of_awp follows (st := st92) (plans := pl92) (n := 26) Tryz.func92 rfl (by kernel_rfl) (by kernel_rfl) (by kernel_rfl) ?_
  rw [rdA_eq r] at ho
  simp [ho, byteA]
  split
  · rename_i h
    refine sub_eq ?_
    simp [rdA, Rd.keep, show 256 ≤ r.sub.length by omega, byteA]
  · rename_i h
    refine ⟨by omega, by omega, sub_eq ?_⟩
    simp [rdA, Rd.keep, show ¬ 256 ≤ r.sub.length by omega, byteA, bytesA]

theorem flush_len (r : Rd) : r.flush.out.length ≤ r.out.length + 1 := by simp only [Rd.flush]; split <;> simp
theorem tell_len (r : Rd) (e : Ev) : (r.tell e).out.length ≤ r.out.length + 2 := by have := flush_len r; simp [Rd.tell]; omega
theorem tell_sub (r : Rd) (e : Ev) : (r.tell e).sub = r.sub ∧ (r.tell e).opt = r.opt ∧ (r.tell e).data = [] := by simp [Rd.tell, Rd.flush]

set_option maxRecDepth 8000 in
theorem tell_calls (o : Nat) (r : Rd) (e : Ev) (σ : Store) (ho : σ o = some (rdA r)) (hl : r.out.length ≤ 900000) :
    ACalls Tryz.prog 91 [ptrA o, evA e] σ fun v σ' => v = .tuple [] ∧ σ' = σ.upd o (rdA (r.tell e)) := by
  refine ACalls.of_awp follows (st := st91) (plans := pl91) (n := 19) Tryz.func91 rfl (by kernel_rfl) (by kernel_rfl) (by kernel_rfl) ?_
  simp [ho, evA, byteA]
  intro p hp
  have hne : o ≠ p := fun h => by subst h; rw [ho] at hp; cases hp
  refine callK.of (flush_calls o r _ (by simp [hne, ho]) (by omega)) ?_
  rintro v σ' ⟨rfl, rfl⟩
  simp [rdA_eq r.flush, hne, Ne.symm hne]
  have hfl := flush_len r
  refine ⟨by omega, by omega, sub_box hp hne ?_⟩
  simp [rdA, Rd.tell, evsA, evA, byteA]

set_option maxRecDepth 8000 in
theorem end_calls (o : Nat) (r : Rd) (b : Bool) (σ : Store) (ho : σ o = some (rdA r)) (hl : r.out.length ≤ 900000) :
    ACalls Tryz.prog 93 [ptrA o, .lit (.bool b)] σ fun v σ' => v = .tuple [] ∧ σ' = σ.upd o (rdA (r.fin b)) := by
  refine ACalls.of_awp follows (st := st93) (plans := pl93) (n := 26) Tryz.func93 rfl (by kernel_rfl) (by kernel_rfl) (by kernel_rfl) ?_
  simp [ho, rdA_eq r, byteA]
  refine callK.of (tell_calls o r ⟨3, 0, r.opt, r.sub, r.long, b⟩ _ ho hl) ?_
  rintro v σ' ⟨rfl, rfl⟩
  simp [rdA_eq (r.tell _)]
  refine sub_eq ?_
  simp [rdA, Rd.fin, bytesA_nil]

set_option maxRecDepth 8000 in
theorem rdcmd_calls (o : Nat) (r : Rd) (b : UInt8) (σ : Store) (ho : σ o = some (rdA r)) (hl : r.out.length ≤ 900000) (hd : r.data.length ≤ 1000000) :
    ACalls Tryz.prog 90 [ptrA o, byteA b] σ fun v σ' => v = .tuple [] ∧ σ' = σ.upd o (rdA (r.command b)) := by
  refine ACalls.of_awp follows (st := st90) (plans := pl90) (n := 44) Tryz.func90 rfl (by kernel_rfl) (by kernel_rfl) (by kernel_rfl) ?_
  have hob := ho
  rw [rdA_eq r] at ho
  by_cases h1 : (b.toNat : Int) = 255
  · simp [ho, byteA, h1]
    refine ⟨by omega, by omega, sub_eq ?_⟩
    simp [rdA, Rd.command, h1, byteA, bytesA]
  by_cases h2 : (b.toNat : Int) = 250
  · simp [ho, byteA, h1, h2]
    refine sub_eq ?_
    simp [rdA, Rd.command, h1, h2, byteA]
  by_cases h3 : 251 ≤ (b.toNat : Int) ∧ (b.toNat : Int) ≤ 254
  · simp [ho, byteA, h1, h2, h3]
    refine sub_eq ?_
    simp [rdA, Rd.command, h1, h2, h3, byteA]
  · have key : Rd.command r b = r.tell ⟨1, b, 0, [], false, false⟩ := by simp [Rd.command, h1, h2, h3]
    have fin : ∀ {x : List AV} {R : AV → Store → Prop} {t : Tag R}, AllLe x [ptrA o, evA ⟨1, b, 0, [], false, false⟩] → (∀ σ', σ' = σ.upd o (rdA (r.command b)) → R (.tuple []) σ') → callK Tryz.prog 91 x σ R t := fun hx hr =>
      callK.le hx (tell_calls o r ⟨1, b, 0, [], false, false⟩ σ hob hl) (by rintro v σ' ⟨rfl, rfl⟩; exact hr _ (by rw [key]))
    by_cases h4 : 251 ≤ (b.toNat : Int)
    · have h5 : ¬ (b.toNat : Int) ≤ 254 := fun h => h3 ⟨h4, h⟩
      simp [ho, byteA, h1, h2, h4, h5]
      refine fin (by simp [evA, byteA, bytesA_nil]; exact AV.le_agg (by simp)) ?_
      rintro σ' rfl
      simp
    · simp [ho, byteA, h1, h2, h4]
      refine fin (by simp [evA, byteA, bytesA_nil]; exact AV.le_agg (by simp)) ?_
      rintro σ' rfl
      simp

theorem keep_len (r : Rd) (b : UInt8) : (r.keep b).sub.length ≤ r.sub.length + 1 ∧ (r.keep b).out = r.out ∧ (r.keep b).data = r.data := by
  simp only [Rd.keep]; split <;> simp
theorem fin_len (r : Rd) (b : Bool) : (r.fin b).out.length ≤ r.out.length + 2 ∧ (r.fin b).data = [] ∧ (r.fin b).sub = [] := by
  have := tell_len r ⟨3, 0, r.opt, r.sub, r.long, b⟩
  simp only [Rd.fin]; exact ⟨this, (tell_sub ..).2.2, trivial⟩

set_option maxRecDepth 8000 in
theorem take_calls (o : Nat) (r : Rd) (b : UInt8) (σ : Store) (ho : σ o = some (rdA r)) (hl : r.out.length ≤ 800000) (hd : r.data.length ≤ 800000) (hs : r.sub.length ≤ 800000) :
    ACalls Tryz.prog 75 [ptrA o, byteA b] σ fun v σ' => v = .tuple [] ∧ σ' = σ.upd o (rdA (r.take b)) := by
  refine ACalls.of_awp follows (st := st75) (plans := pl75) (n := 74) Tryz.func75 rfl (by kernel_rfl) (by kernel_rfl) (by kernel_rfl) ?_
  have hob := ho
  rw [rdA_eq r] at ho
  by_cases s1 : r.state = 1
  · simp [ho, s1]
    refine callK.of (rdcmd_calls o r b σ hob (by omega) (by omega)) ?_
    rintro v σ' ⟨rfl, rfl⟩
    simp [Rd.take, s1]
  by_cases s2 : r.state = 2
  · simp [ho, s2, byteA]
    refine callK.le (args' := [ptrA o, evA ⟨2, r.verb, b, [], false, false⟩]) (by simp [evA, byteA, bytesA_nil]; exact AV.le_agg (by simp)) (tell_calls o r _ σ hob (by omega)) ?_
    rintro v σ' ⟨rfl, rfl⟩
    simp [Rd.take, s2]
  by_cases s3 : r.state = 3
  · simp [ho, s3, byteA]
    refine sub_eq ?_
    simp [rdA, Rd.take, s3, byteA]
  by_cases s4 : r.state = 4
  · by_cases h1 : (b.toNat : Int) = 255
    · simp [ho, s4, byteA, h1]
      refine sub_eq ?_
      simp [rdA, Rd.take, s4, byteA, h1]
    · simp [ho, s4, byteA, h1]
      refine callK.of (keep_calls o r b σ hob (by omega)) ?_
      rintro v σ' ⟨rfl, rfl⟩
      simp [Rd.take, s4, h1]
  by_cases s5 : r.state = 5
  · by_cases h1 : (b.toNat : Int) = 255
    · have hb : byteA b = .lit (.int .u8 255) := by simp [byteA, h1]
      have hk := keep_calls o r b σ hob (by omega)
      rw [hb] at hk ⊢
      simp [ho, s5]
      refine callK.of hk ?_
      rintro v σ' ⟨rfl, rfl⟩
      simp [Rd.take, s5, h1]
    by_cases h2 : (b.toNat : Int) = 240
    · simp [ho, s5, byteA, h1, h2]
      refine callK.of (end_calls o r false σ hob (by omega)) ?_
      rintro v σ' ⟨rfl, rfl⟩
      simp [Rd.take, s5, h1, h2]
    · simp [ho, s5, byteA, h1, h2]
      refine callK.of (end_calls o r true σ hob (by omega)) ?_
      rintro v σ' ⟨rfl, rfl⟩
      simp
      have hf := fin_len r true
      refine callK.of (rdcmd_calls o (r.fin true) b _ (by simp) (by omega) (by rw [hf.2.1]; simp)) ?_
      rintro v σ' ⟨rfl, rfl⟩
      simp [Rd.take, s5, h1, h2]
  · by_cases h1 : (b.toNat : Int) = 255
    · simp [ho, s1, s2, s3, s4, s5, byteA, h1]
      refine sub_eq ?_
      simp [rdA, Rd.take, s1, s2, s3, s4, s5, byteA, h1]
    · simp [ho, s1, s2, s3, s4, s5, byteA, h1]
      refine ⟨by omega, by omega, sub_eq ?_⟩
      simp [rdA, Rd.take, s1, s2, s3, s4, s5, byteA, h1, bytesA]
theorem flat_bytesA (l : List UInt8) : flat (bytesA l) = bytesA l := by
  induction l with
  | nil => rfl
  | cons b l ih => simp only [flat, bytesA, List.map_cons, List.flatMap_cons] at ih ⊢; rw [ih]; rfl
theorem bytesA_take (l : List UInt8) (n : Nat) : (bytesA l).take n = bytesA (l.take n) := by simp [bytesA]
theorem bytesA_drop (l : List UInt8) (n : Nat) : (bytesA l).drop n = bytesA (l.drop n) := by simp [bytesA]
theorem drop1_bytesA (l : List UInt8) : (bytesA l).map AV.drop1 = bytesA l := by
  simp only [bytesA, List.map_map]; rfl

set_option maxRecDepth 10000 in
theorem copy_calls (o : Bool) (l : List UInt8) (σ : Store) (hl : l.length ≤ 140737488355328) :
    ACalls Tryz.prog 17 [.list o 1 (bytesA l)] σ fun v σ' => v = .list true 1 (bytesA l) ∧ σ' = σ := by
  refine ACalls.of_awp follows (st := st17) (plans := pl17) (n := 6) Tryz.func17 rfl (by kernel_rfl) (by kernel_rfl) (by kernel_rfl) ?_
  simp
  omega

set_option maxRecDepth 8000 in
theorem bcut_calls (o : Bool) (l : List UInt8) (n : Nat) (σ : Store) (hn : n ≤ 100000000) :
    ACalls Tryz.prog 6 [.list o 1 (bytesA l), .lit (.int .i64 n)] σ fun v σ' => v = .list true 1 (bytesA (l.take n)) ∧ σ' = σ := by
  refine ACalls.of_awp follows (st := st6) (plans := pl6) (n := 14) Tryz.func6 rfl (by kernel_rfl) (by kernel_rfl) (by kernel_rfl) ?_
  by_cases h : n < l.length
  · simp [h, show n ≤ l.length by omega, bytesA_take]
    refine callK.of (copy_calls false (l.take n) σ (by simp; omega)) ?_
    rintro v σ' ⟨rfl, rfl⟩
    simp
  · simp [h]
    refine callK.of (copy_calls false l σ (by omega)) ?_
    rintro v σ' ⟨rfl, rfl⟩
    simp [List.take_of_length_le (show l.length ≤ n by omega)]

set_option maxRecDepth 8000 in
theorem new_calls (σ : Store) :
    ACalls Tryz.prog 62 [] σ fun v σ' => ∃ p : Nat, σ p = none ∧ v = ptrA p ∧ σ' = σ.upd p (rdA .init) := by
  refine ACalls.of_awp follows (st := st62) (plans := pl62) (n := 3) Tryz.func62 rfl (by kernel_rfl) (by kernel_rfl) (by kernel_rfl) ?_
  simp
  exact fun p hp => ⟨_, AV.le_refl _, _, Store.sub_refl _, p, hp, rfl, rfl⟩

set_option maxRecDepth 8000 in
theorem toList_mk (l : List UInt8) : (ByteArray.mk l.toArray).toList = l := by
  rw [ByteArray.toList_eq]
set_option maxRecDepth 8000 in
theorem same_calls (o o' : Bool) (l k : List UInt8) (σ : Store) :
    ACalls Tryz.prog 7 [.list o 1 (bytesA l), .list o' 1 (bytesA k)] σ fun v σ' => v = .lit (.bool (l == k)) ∧ σ' = σ := by
  refine ACalls.of_awp follows (st := st7) (plans := pl7) (n := 10) Tryz.func7 rfl (by kernel_rfl) (by kernel_rfl) (by kernel_rfl) ?_
  simp [bytesOf_bytesA, toList_mk]

/-- How much a byte may add. -/
theorem take_len (r : Rd) (b : UInt8) : (r.take b).out.length ≤ r.out.length + 4 ∧ (r.take b).data.length ≤ r.data.length + 1 ∧ (r.take b).sub.length ≤ r.sub.length + 1 := by
  have hcom : ∀ q : Rd, (q.command b).out.length ≤ q.out.length + 2 ∧ (q.command b).data.length ≤ q.data.length + 1 ∧ (q.command b).sub.length ≤ q.sub.length := by
    intro q
    simp only [Rd.command]
    split
    · simp
    · split
      · simp
      · split
        · simp
        · have := tell_len q ⟨1, b, 0, [], false, false⟩
          have h2 := tell_sub q ⟨1, b, 0, [], false, false⟩
          rw [h2.1, h2.2.2]; simp; omega
  have hfin : ∀ (q : Rd) (x : Bool), (q.fin x).out.length ≤ q.out.length + 2 ∧ (q.fin x).data = [] ∧ (q.fin x).sub = [] := fin_len
  have hkeep := keep_len r b
  simp only [Rd.take]
  split
  · have := hcom r; omega
  · split
    · have := tell_len r ⟨2, r.verb, b, [], false, false⟩
      have h2 := tell_sub r ⟨2, r.verb, b, [], false, false⟩
      rw [h2.1, h2.2.2]; simp; omega
    · split
      · simp
      · split
        · split
          · simp
          · rw [hkeep.2.1, hkeep.2.2]; omega
        · split
          · split
            · rw [hkeep.2.1, hkeep.2.2]; omega
            · split
              · have := hfin r false; rw [this.2.1, this.2.2]; simp; omega
              · have h1 := hfin r true
                have h2 := hcom (r.fin true)
                rw [h1.2.1, h1.2.2] at h2; simp only [List.length_nil] at h2; omega
          · split
            · simp
            · simp

theorem feed_take (r : Rd) (p : List UInt8) (i : Nat) (h : i < p.length) : (r.feed (p.take i)).take p[i] = r.feed (p.take (i + 1)) := by
  simp only [Rd.feed]
  rw [List.take_succ_eq_append_getElem h, List.foldl_append]; rfl
theorem feed_len (r : Rd) (p : List UInt8) : (r.feed p).out.length ≤ r.out.length + 4 * p.length ∧ (r.feed p).data.length ≤ r.data.length + p.length ∧ (r.feed p).sub.length ≤ r.sub.length + p.length := by
  induction p generalizing r with
  | nil => simp [Rd.feed]
  | cons b p ih =>
    have h1 := take_len r b
    have h2 := ih (r.take b)
    simp only [Rd.feed, List.foldl_cons, List.length_cons] at *
    omega

/-- What Feed leaves. -/
def Rd.after (r : Rd) (p : List UInt8) : Rd := { (r.feed p).flush with out := [] }
def Rd.fed (r : Rd) (p : List UInt8) : List Ev := (r.feed p).flush.out

set_option maxRecDepth 8000 in
theorem feed_calls (a : Bool) (o : Nat) (r : Rd) (p : List UInt8) (σ : Store) (ho : σ o = some (rdA r)) (h1 : r.out.length ≤ 100) (h2 : r.data.length ≤ 100000) (h3 : r.sub.length ≤ 100000) (hp : p.length ≤ 100000) :
    ACalls Tryz.prog 63 [ptrA o, .list a 1 (bytesA p)] σ fun v σ' => v = .list true 6 (evsA (r.fed p)) ∧ σ' = σ.upd o (rdA (r.after p)) := by
  refine ACalls.of_awp follows (st := st63) (plans := pl63) (n := 30) Tryz.func63 rfl (by kernel_rfl) (by kernel_rfl) (by kernel_rfl) ?_
  simp
  refine codeK.loop follows (st := st63) (plans := pl63) (X := Nat) (fun i => i ≤ p.length)
    (fun i => [(0, ptrA o), (10, .list false 1 (bytesA p)), (11, .lit (.int .i64 p.length)), (12, .lit (.int .i64 i))]) (fun i => σ.upd o (rdA (r.feed (p.take i)))) (fun i => p.length - i) 0 (by kernel_rfl) (by omega) (by simp) ?_ fun i hi => ?_
  · intro q; simp only [Store.upd, Rd.feed, List.take_zero, List.foldl_nil]; split <;> simp_all
  have hl := feed_len r (p.take i)
  have hti : (p.take i).length ≤ p.length := by simp; omega
  by_cases hlt : i < p.length
  · simp [hlt, bytesA, byteA]
    refine callK.of (take_calls o (r.feed (p.take i)) p[i] _ (by simp) (by omega) (by omega) (by omega)) ?_
    rintro v σ' ⟨rfl, rfl⟩
    simp [feed_take r p i hlt]
    refine ⟨i + 1, by omega, by omega, ?_, Store.sub_refl _⟩
    rw [wrap_i64 (by omega) (by omega)]; exact le_of_eq rfl
  · obtain rfl : i = p.length := by omega
    simp
    refine callK.of (flush_calls o (r.feed p) _ (by simp) (by simp at hl; omega)) ?_
    rintro v σ' ⟨rfl, rfl⟩
    simp [rdA_eq (r.feed p).flush]
    refine ⟨AV.le_refl _, sub_eq ?_⟩
    simp [rdA, Rd.after, evsA]

def dataEv (d : List UInt8) : Ev := ⟨0, 0, 0, d, false, false⟩
/-- All bytes of data. -/
def bytesIn (l : List Ev) : Nat := (l.map fun e => e.data.length).sum
theorem bytesIn_append (l k : List Ev) : bytesIn (l ++ k) = bytesIn l + bytesIn k := by simp [bytesIn]
theorem byteA_lit (b : UInt8) : byteA b = .lit (.int .u8 (b.toNat : Int)) := rfl
/-- A string of these bytes. -/
abbrev strS (l : List UInt8) : AV := .lit (.string ⟨l.toArray⟩)
theorem bytesV_mk (l : List UInt8) : bytesV ⟨l.toArray⟩ = bytesA l := by simp [bytesV, bytesA, byteA]
@[simp] theorem callable98 : callable Tryz.prog 98 = false := nr (by kernel_rfl)
set_option maxRecDepth 8000 in
theorem ext84 (o : Bool) (l : List UInt8) (c : UInt8) (σ : Store) : AExt Tryz.prog 98 [.list o 1 (bytesA l), byteA c] σ fun v σ' => v = .lit (.int .i64 (Lib.indexByte l c)) ∧ σ' = σ :=
  ext_indexByte Tryz.func98 (by kernel_rfl) (by kernel_rfl) (by kernel_rfl) (by kernel_rfl) o l c σ
set_option maxRecDepth 8000 in
theorem bindexByte_calls (o : Bool) (l : List UInt8) (c : UInt8) (σ : Store) :
    ACalls Tryz.prog 84 [.list o 1 (bytesA l), byteA c] σ fun v σ' => v = .lit (.int .i64 (Lib.indexByte l c)) ∧ σ' = σ := by
  refine ACalls.of_awp follows (st := st84) (plans := pl84) (n := 8) Tryz.func84 rfl (by kernel_rfl) (by kernel_rfl) (by kernel_rfl) ?_
  simp [byteA]
  refine extK.of (ext84 false l c σ) ?_
  rintro v σ' ⟨rfl, rfl⟩
  simp
set_option maxRecDepth 10000 in
theorem bindex_calls (o o' : Bool) (l : List UInt8) (c : UInt8) (σ : Store) :
    ACalls Tryz.prog 73 [.list o 1 (bytesA l), .list o' 1 (bytesA [c])] σ fun v σ' => v = .lit (.int .i64 (Lib.indexByte l c)) ∧ σ' = σ := by
  refine ACalls.of_awp follows (st := st73) (plans := pl73) (n := 200) Tryz.func73 rfl (by kernel_rfl) (by kernel_rfl) (by kernel_rfl) ?_
  simp [bytesA, byteA]
  refine callK.of (bindexByte_calls false l c σ) ?_
  rintro v σ' ⟨rfl, rfl⟩
  simp
theorem htake (l : List UInt8) : (bytesA l).take l.length = bytesA l := by rw [← bytesA_length l, List.take_length]
theorem u8_ne {a : UInt8} {n : Nat} (hn : n < 256) (h : ¬ a = UInt8.ofNat n) : ¬ (a.toNat : Int) = (n : Int) := fun e => h (by
  have : a.toNat = n := by omega
  rw [← this]; simp)
@[simp] theorem callable83 : callable Tryz.prog 83 = false := nr (by kernel_rfl)
set_option maxRecDepth 8000 in
theorem ext118 (o : Bool) (l : List UInt8) (c : UInt8) (σ : Store) : AExt Tryz.prog 83 [.list o 1 (bytesA l), byteA c] σ fun v σ' => v = .lit (.int .i64 (l.count c)) ∧ σ' = σ :=
  ext_count Tryz.func83 (by kernel_rfl) (by kernel_rfl) (by kernel_rfl) (by kernel_rfl) o l c σ
set_option maxRecDepth 8000 in
theorem count_calls (o o' : Bool) (l : List UInt8) (c : UInt8) (σ : Store) :
    ACalls Tryz.prog 72 [.list o 1 (bytesA l), .list o' 1 (bytesA [c])] σ fun v σ' => v = .lit (.int .i64 (l.count c)) ∧ σ' = σ := by
  refine ACalls.of_awp follows (st := st72) (plans := pl72) (n := 35) Tryz.func72 rfl (by kernel_rfl) (by kernel_rfl) (by kernel_rfl) ?_
  simp [bytesA, byteA]
  refine extK.of (ext118 false l c σ) ?_
  rintro v σ' ⟨rfl, rfl⟩
  simp

/-- How far bytes.Replace is: what it has read, what it has written. -/
def RepInv (l : List UInt8) (c : UInt8) (new : List UInt8) (i st : Nat) (rest : List AV) : Prop :=
  st ≤ l.length ∧ (l.drop st).count c + i = l.count c ∧ (escOf c new (l.take st)).length + rest.length = (escOf c new l).length

set_option maxHeartbeats 1000000 in
set_option maxRecDepth 10000 in
theorem replace_calls (o o1 o2 : Bool) (l : List UInt8) (c : UInt8) (new : List UInt8) (σ : Store) (hl : l.length ≤ 1000000) (hn : 1 ≤ new.length) (hn2 : new.length ≤ 100) :
    ACalls Tryz.prog 60 [.list o 1 (bytesA l), .list o1 1 (bytesA [c]), .list o2 1 (bytesA new), .lit (.int .i64 (-1))] σ fun v σ' => v = .list true 1 (bytesA (escOf c new l)) ∧ σ' = σ := by
  refine ACalls.shift (R := fun v σ' => (v = .list true 1 (bytesA (escOf c new l)) ∧ σ' = σ) ∨ ∃ p : Nat, σ p = none ∧ v = rowA p (escOf c new l).length (escOf c new l) ∧ σ' = σ.upd p (bytesA (escOf c new l))) ?_ ?_
  · refine ACalls.of_awp follows (st := st60) (plans := pl60) (n := 132) Tryz.func60 rfl (by kernel_rfl) (by kernel_rfl) (by kernel_rfl) ?_
    simp
    refine callK.of (count_calls false false l c σ) ?_
    rintro v σ' ⟨rfl, rfl⟩
    have hcl := l.count_le_length (a := c)
    have hlen := escOf_length c new l
    have hnb : l.count c * new.length ≤ l.count c * 100 := Nat.mul_le_mul_left _ hn2
    have hnb1 : l.count c * 1 ≤ l.count c * new.length := Nat.mul_le_mul_left _ hn
    by_cases h0 : l.count c = 0
    · have hc : c ∉ l := List.count_eq_zero.1 h0
      simp [h0]
      refine ⟨by omega, by omega, _, AV.le_refl _, _, Store.sub_refl _, .inl ⟨by rw [escOf_none c new l hc], rfl⟩⟩
    · have hN : IntKind.i64.wrap ((l.length : Int) + IntKind.i64.wrap ((l.count c : Int) * IntKind.i64.wrap ((new.length : Int) - 1))) = ((escOf c new l).length : Int) := by
        rw [wrap_i64 (n := (new.length : Int) - 1) (by omega) (by omega), Int.mul_sub, Int.mul_one, ← Int.natCast_mul]
        rw [wrap_i64 (n := ((l.count c * new.length : Nat) : Int) - (l.count c : Int)) (by omega) (by omega), wrap_i64 (by omega) (by omega)]
        omega
      simp [h0, hN]
      refine ⟨by omega, by omega, fun p hp => ?_⟩
      generalize hNN : (escOf c new l).length = N at *
      have hzero : (List.replicate N [AV.lit (.int .u8 0)]).flatten.length = N := by simp
      refine codeK.loop follows (st := st60) (plans := pl60) (X := Nat × Nat × List AV) (fun x => x.1 ≤ l.count c ∧ RepInv l c new x.1 x.2.1 x.2.2)
        (fun x => [(0, .list false 1 (bytesA l)), (1, .list false 1 (bytesA [c])), (2, .list false 1 (bytesA new)), (10, .lit (.slice (some ⟨p, 0, none⟩) N N)), (11, .lit (.int .i64 (escOf c new (l.take x.2.1)).length)), (12, .lit (.int .i64 x.2.1)), (48, .lit (.int .i64 (l.count c))), (49, .lit (.int .i64 x.1))])
        (fun x => σ'.upd p (bytesA (escOf c new (l.take x.2.1)) ++ x.2.2)) (fun x => l.count c - x.1) (0, 0, (List.replicate N [AV.lit (.int .u8 0)]).flatten) (by kernel_rfl)
        ⟨by simp, by simp, by simp, by rw [hzero, List.take_zero, hNN]; show 0 + N = N; omega⟩ (by simp [escOf, bytesA]) (by simp [escOf, bytesA]) fun x hx => ?_
      obtain ⟨i, st, rest⟩ := x
      obtain ⟨hi, h1, h2, h3⟩ := hx
      dsimp only at hi h1 h2 h3 ⊢
      rw [hNN] at h3
      by_cases hlt : i < l.count c
      · obtain ⟨pre, post, e1, e2, e3⟩ := indexByte_split (l.drop st) c (by omega)
        have hpl : st + pre.length + 1 + post.length = l.length := by
          have := congrArg List.length e1
          simp at this; omega
        have htk : l.take (st + pre.length + 1) = l.take st ++ pre ++ [c] := by
          have : l = l.take st ++ (pre ++ c :: post) := by rw [← e1, List.take_append_drop]
          conv => lhs; rw [this]
          rw [List.take_append, List.length_take, List.take_of_length_le (l := l.take st) (by simp; omega)]
          have hk : st + pre.length + 1 - min st l.length = pre.length + 1 := by omega
          rw [hk, List.append_assoc]
          congr 1
          rw [List.take_append, List.take_of_length_le (by omega)]
          simp
        have hdr : l.drop (st + pre.length + 1) = post := by
          rw [Nat.add_assoc, ← List.drop_drop, e1]; simp
        have hesc : escOf c new (l.take (st + pre.length + 1)) = escOf c new (l.take st) ++ pre ++ new := by
          rw [htk, escOf_append, escOf_append, escOf_none c new pre e2]; simp [escOf]
        have hcn : (l.drop (st + pre.length + 1)).count c + (i + 1) = l.count c := by
          rw [hdr]
          rw [e1] at h2
          have hp0 : pre.count c = 0 := List.count_eq_zero.2 e2
          simp [List.count_append, List.count_cons, hp0] at h2
          omega
        have htot : (escOf c new (l.take st)).length + pre.length + new.length ≤ N := by
          have := congrArg List.length hesc
          have h9 : escOf c new l = escOf c new (l.take (st + pre.length + 1)) ++ escOf c new (l.drop (st + pre.length + 1)) := by rw [← escOf_append, List.take_append_drop]
          have h10 := congrArg List.length h9
          rw [List.length_append, hNN, this] at h10
          simp at h10; omega
        generalize hA : escOf c new (l.take st) = A at *
        have hfull : (bytesA l).take l.length = bytesA l := List.take_of_length_le (by simp)
        have hAr : (bytesA A ++ rest).length = N := by simp; omega
        have hw1 : IntKind.i64.wrap ((st : Int) + (pre.length : Int)) = ((st + pre.length : Nat) : Int) := by rw [wrap_i64 (by omega) (by omega)]; omega
        have hle1 : A.length ≤ N := by omega
        have hne1 : ¬ N = A.length := by omega
        have hle2 : A.length + pre.length ≤ N := by omega
        have hne2 : ¬ N = A.length + pre.length := by omega
        have hsl : List.drop st (List.take (st + pre.length) (bytesA l)) = bytesA pre := by
          rw [bytesA_take, bytesA_drop]
          congr 1
          rw [List.drop_take, Nat.add_sub_cancel_left, e1]
          simp
        have hm1 : min (N - A.length) pre.length = pre.length := by omega
        have hm2 : min (N - (A.length + pre.length)) new.length = new.length := by omega
        have hs1 : setRange (bytesA A ++ rest) A.length (bytesA pre) = bytesA (A ++ pre) ++ rest.drop pre.length := by
          have := setRange_app (bytesA A) rest (bytesA pre) (by simp; omega)
          rw [bytesA_length, bytesA_length] at this
          rw [this, bytesA_append]
        have hs2 : setRange (bytesA (A ++ pre) ++ rest.drop pre.length) (A.length + pre.length) (bytesA new) = bytesA (A ++ pre ++ new) ++ rest.drop (pre.length + new.length) := by
          have := setRange_app (bytesA (A ++ pre)) (rest.drop pre.length) (bytesA new) (by simp; omega)
          rw [bytesA_length, bytesA_length, List.length_append, List.drop_drop] at this
          rw [this, bytesA_append (A ++ pre)]
        have hw2 : IntKind.i64.wrap ((A.length : Int) + (pre.length : Int)) = ((A.length + pre.length : Nat) : Int) := by rw [wrap_i64 (by omega) (by omega)]; omega
        have hw3 : IntKind.i64.wrap (((A.length + pre.length : Nat) : Int) + (new.length : Int)) = ((A.length + pre.length + new.length : Nat) : Int) := by rw [wrap_i64 (by omega) (by omega)]; omega
        have hfn : (bytesA new).take new.length = bytesA new := List.take_of_length_le (by simp)
        have hfp : (bytesA pre).take pre.length = bytesA pre := List.take_of_length_le (by simp)
        simp [hlt, bytesA_drop, hfull, h1]
        refine callK.of (bindex_calls false false (l.drop st) c _) ?_
        rintro v σ2 ⟨rfl, rfl⟩
        rw [e3]
        obtain ⟨j, hj⟩ : ∃ j, st + pre.length = j := ⟨_, rfl⟩
        obtain ⟨w2, hw2'⟩ : ∃ w2, A.length + pre.length = w2 := ⟨_, rfl⟩
        obtain ⟨w3, hw3'⟩ : ∃ w3, w2 + new.length = w3 := ⟨_, rfl⟩
        rw [hj] at hw1 hsl
        rw [hw2'] at hle2 hne2 hm2 hs2 hw2 hw3
        rw [hw3'] at hw3
        have hjl : j ≤ l.length := by omega
        have hsj : st ≤ j := by omega
        have hw4 : IntKind.i64.wrap ((j : Int) + 1) = ((j + 1 : Nat) : Int) := by rw [wrap_i64 (by omega) (by omega)]; omega
        have hwi : IntKind.i64.wrap ((i : Int) + 1) = ((i + 1 : Nat) : Int) := by rw [wrap_i64 (by omega) (by omega)]; omega
        simp [hw1, copyDst, copySrc, hle1, hne1, Addr.add_lit, hle2, hne2, hsl, hm1, hm2, hs1, hs2, flat_bytesA, drop1_bytesA, hfp, hfn, hw2, hw3, hAr, hjl, hsj]
        subst hj hw2' hw3'
        refine ⟨by omega, by omega, i + 1, st + pre.length + 1, rest.drop (pre.length + new.length), ⟨by omega, by omega, hcn, by rw [hesc, hNN]; simp; omega⟩, by omega, ⟨?_, by rw [hw4]; exact AV.le_refl _, by rw [hwi]; exact AV.le_refl _⟩, ?_⟩
        · rw [hesc, List.length_append, List.length_append]; exact AV.le_refl _
        · rw [hesc, List.append_assoc]; exact Store.sub_refl _
      · have hi2 : i = l.count c := by omega
        have hc0 : (l.drop st).count c = 0 := by omega
        have hfin : escOf c new l = escOf c new (l.take st) ++ l.drop st := by
          conv => lhs; rw [← List.take_append_drop st l]
          rw [escOf_append, escOf_none c new (l.drop st) (List.count_eq_zero.1 hc0)]
        generalize hA : escOf c new (l.take st) = A at *
        have hfl := congrArg List.length hfin
        rw [List.length_append, hNN] at hfl
        have hfull : (bytesA l).take l.length = bytesA l := List.take_of_length_le (by simp)
        generalize hd : l.drop st = d at *
        have hdl : d.length = rest.length := by omega
        have hm1 : min (N - A.length) d.length = d.length := by omega
        have hle1 : A.length ≤ N := by omega
        have hAr : (bytesA A ++ rest).length = N := by simp; omega
        have hfd : (bytesA d).take d.length = bytesA d := List.take_of_length_le (by simp)
        have hw2 : IntKind.i64.wrap ((A.length : Int) + (d.length : Int)) = (N : Int) := by rw [wrap_i64 (by omega) (by omega)]; omega
        have hs1 : setRange (bytesA A ++ rest) A.length (bytesA d) = bytesA (A ++ d) := by
          have := setRange_app (bytesA A) rest (bytesA d) (by simp; omega)
          rw [bytesA_length, bytesA_length] at this
          rw [this, bytesA_append, hdl]; simp
        by_cases hz : N = A.length
        · have hd0 : d = [] := List.eq_nil_of_length_eq_zero (by omega)
          have hr0 : rest = [] := List.eq_nil_of_length_eq_zero (by omega)
          subst hd0 hr0
          have hs0 : setRange (bytesA A) 0 [] = bytesA A := setRange_nil _ _ (by omega)
          simp [hi2, bytesA_drop, hfull, h1, hd, copyDst, copySrc, hle1, ← hz, hs0, bytesA_nil, show IntKind.i64.wrap (N : Int) = (N : Int) by rw [wrap_i64 (by omega) (by omega)], Addr.add_lit]
          refine ⟨_, AV.le_refl _, _, Store.sub_refl _, .inr ⟨p, hp, by simp [rowA, hNN], by rw [hfin]; simp⟩⟩
        · simp [hi2, bytesA_drop, hfull, h1, hd, copyDst, copySrc, hle1, hz, hm1, hs1, hfd, flat_bytesA, drop1_bytesA, Addr.add_lit, hw2]
          refine ⟨by omega, _, AV.le_refl _, _, Store.sub_refl _, .inr ⟨p, hp, by simp [rowA, hNN], by rw [hfin]⟩⟩
  · rintro v σ' (⟨rfl, rfl⟩ | ⟨p, hp, rfl, rfl⟩)
    · exact .inl ⟨_, _, AV.le_refl _, Store.sub_refl _, rfl, rfl⟩
    · have hlen := escOf_length c new l
      have hcl := l.count_le_length (a := c)
      have hnb : l.count c * new.length ≤ l.count c * 100 := Nat.mul_le_mul_left _ hn2
      refine .inr ⟨p, (escOf c new l).length, 1, bytesA (escOf c new l), [], by simp [rowA], by rw [flat_bytesA]; simp [Store.upd], by rw [flat_bytesA]; simp, by rw [maxLen_val]; omega, by simp, ?_, .list true 1 (bytesA (escOf c new l)), AV.le_refl _, rfl, ?_⟩
      · intro v hv
        obtain ⟨b, _, rfl⟩ := List.mem_map.1 hv
        rfl
      · rw [del_upd_new hp]

def esc (l : List UInt8) : List UInt8 := escOf 255 [255, 255] l
theorem esc_length (l : List UInt8) : l.length ≤ (esc l).length ∧ (esc l).length ≤ 2 * l.length := by
  have h1 := escOf_length 255 [255, 255] l
  have h2 := l.count_le_length (a := (255 : UInt8))
  simp only [esc, List.length_cons, List.length_nil] at *; omega

set_option maxRecDepth 8000 in
theorem replaceAll_calls (o o1 o2 : Bool) (l : List UInt8) (c : UInt8) (new : List UInt8) (σ : Store) (hl : l.length ≤ 1000000) (hn : 1 ≤ new.length) (hn2 : new.length ≤ 100) :
    ACalls Tryz.prog 44 [.list o 1 (bytesA l), .list o1 1 (bytesA [c]), .list o2 1 (bytesA new)] σ fun v σ' => v = .list true 1 (bytesA (escOf c new l)) ∧ σ' = σ := by
  refine ACalls.of_awp follows (st := st44) (plans := pl44) (n := 11) Tryz.func44 rfl (by kernel_rfl) (by kernel_rfl) (by kernel_rfl) ?_
  simp
  refine callK.of (replace_calls false false false l c new σ hl hn hn2) ?_
  rintro v σ' ⟨rfl, rfl⟩
  simp

set_option maxRecDepth 8000 in
theorem escape_calls (o : Bool) (l : List UInt8) (σ : Store) (hl : l.length ≤ 1000000) :
    ACalls Tryz.prog 32 [.list o 1 (bytesA l)] σ fun v σ' => v = .list true 1 (bytesA (esc l)) ∧ σ' = σ := by
  refine ACalls.of_awp follows (st := st32) (plans := pl32) (n := 7) Tryz.func32 rfl (by kernel_rfl) (by kernel_rfl) (by kernel_rfl) ?_
  simp
  refine callK.le (args' := [.list false 1 (bytesA l), .list true 1 (bytesA [255]), .list true 1 (bytesA [255, 255])]) ?_ (replaceAll_calls false true true l 255 [255, 255] σ hl (by simp) (by simp)) ?_
  · simp [bytesA, byteA]
  rintro v σ' ⟨rfl, rfl⟩
  simp [esc]

def subBytes (o : UInt8) (l : List UInt8) : List UInt8 := [255, 250, o] ++ esc l ++ [255, 240]
set_option maxRecDepth 8000 in
theorem subBytes_calls (o : Bool) (c : UInt8) (l : List UInt8) (σ : Store) (hl : l.length ≤ 1000000) :
    ACalls Tryz.prog 20 [byteA c, .list o 1 (bytesA l)] σ fun v σ' => v = .list true 1 (bytesA (subBytes c l)) ∧ σ' = σ := by
  refine ACalls.of_awp follows (st := st20) (plans := pl20) (n := 12) Tryz.func20 rfl (by kernel_rfl) (by kernel_rfl) (by kernel_rfl) ?_
  have h1 := esc_length l
  simp [byteA]
  refine callK.of (escape_calls false l σ hl) ?_
  rintro v σ' ⟨rfl, rfl⟩
  simp
  refine ⟨by omega, by omega, by omega, by omega, ?_⟩
  simp [subBytes, bytesA, byteA]

set_option maxRecDepth 8000 in
theorem say_calls (v o : UInt8) (σ : Store) :
    ACalls Tryz.prog 19 [byteA v, byteA o] σ fun v' σ' => v' = .list true 1 (bytesA [255, v, o]) ∧ σ' = σ := by
  refine ACalls.of_awp follows (st := st19) (plans := pl19) (n := 8) Tryz.func19 rfl (by kernel_rfl) (by kernel_rfl) (by kernel_rfl) ?_
  simp [bytesA, byteA]
theorem esc_snoc (l : List UInt8) (b : UInt8) : esc (l ++ [b]) = esc l ++ (if (b.toNat : Int) = 255 then [b, b] else [b]) := by
  rw [esc, escOf_append]
  congr 1
  by_cases h : b = 255
  · subst h; rfl
  · have : ¬ (b.toNat : Int) = 255 := fun e => h (UInt8.toNat_inj.1 (by show b.toNat = 255; omega))
    simp [escOf, h, this]
set_option maxRecDepth 4000 in
theorem lesc_calls (o : Bool) (l : List UInt8) (σ : Store) (hl : l.length ≤ 1000000) :
    ACalls Tryz.prog 24 [.list o 1 (bytesA l)] σ fun v σ' => v = .list true 1 (bytesA (esc l)) ∧ σ' = σ := by
  refine ACalls.of_awp follows (st := st24) (plans := pl24) (n := 24) Tryz.func24 rfl (by kernel_rfl) (by kernel_rfl) (by kernel_rfl) ?_
  simp
  refine codeK.loop follows (st := st24) (plans := pl24) (X := Nat) (fun i => i ≤ l.length)
    (fun i => [(3, .list true 1 (bytesA (esc (l.take i)))), (6, .list false 1 (bytesA l)), (7, .lit (.int .i64 l.length)), (8, .lit (.int .i64 i))]) (fun _ => σ) (fun i => l.length - i) 0 (by kernel_rfl) (by omega) (by simp [esc, escOf, bytesA]) (by simp) fun i hi => ?_
  by_cases hlt : i < l.length
  · have h1 := esc_length (l.take i)
    have h2 : (l.take i).length ≤ l.length := by simp; omega
    have h3 := esc_snoc (l.take i) l[i]
    rw [← List.take_succ_eq_append_getElem hlt] at h3
    have hwr : IntKind.i64.wrap ((i : Int) + 1) = ((i + 1 : Nat) : Int) := wrap_i64 (by omega) (by omega)
    have hlt' : (i : Int) < l.length := by omega
    obtain ⟨x, hx⟩ : ∃ x, l[i] = x := ⟨_, rfl⟩
    have hg : ∀ h : i < (bytesA l).length, (bytesA l)[i]'h = .lit (.int .u8 x.toNat) := fun h => by
      rw [List.getElem_eq_iff, bytesA_get, List.getElem?_eq_getElem hlt, hx]; rfl
    rw [hx] at h3
    generalize hE : esc (l.take i) = E at *
    by_cases hb : (x.toNat : Int) = 255
    · simp [hlt, hlt', hg, hb]
      refine ⟨by omega, by omega, by omega, by omega, i + 1, by omega, by omega, ?_, by rw [hwr]; exact AV.le_refl _⟩
      rw [h3, if_pos hb]; simp [bytesA, byteA, hb]
    · simp [hlt, hlt', hg, hb]
      refine ⟨by omega, by omega, i + 1, by omega, by omega, ?_, by rw [hwr]; exact AV.le_refl _⟩
      rw [h3, if_neg hb]; simp [bytesA, byteA]
  · obtain rfl : i = l.length := by omega
    simp
structure Hd where
  ty : UInt8
  req : UInt8
  resp : UInt8
  seq : Nat
  deriving DecidableEq
def hdL (h : Hd) : List AV := [byteA h.ty, byteA h.req, byteA h.resp, .lit (.int .u16 h.seq)]
def Hd.zero : Hd := ⟨0, 0, 0, 0⟩
def Hd.right (h : Hd) : Bool := decide (h.ty.toNat ≤ 8) && decide (h.resp.toNat ≤ if h.ty = 2 then 1 else 2)
set_option maxRecDepth 8000 in
theorem right_calls (h : Hd) (σ : Store) : ACalls Tryz.prog 33 [.agg (hdL h)] σ fun v σ' => v = .lit (.bool h.right) ∧ σ' = σ := by
  obtain ⟨ty, req, resp, seq⟩ := h
  have t1 := ty.toNat_lt
  have hw : IntKind.i64.wrap (ty.toNat : Int) = (ty.toNat : Int) := wrap_i64 (by omega) (by omega)
  have hw1 : IntKind.u8.wrap 1 = 1 := by decide
  refine ACalls.of_awp follows (st := st33) (plans := pl33) (n := 19) Tryz.func33 rfl (by kernel_rfl) (by kernel_rfl) (by kernel_rfl) ?_
  have h9 : ((ty.toNat : Int) < 9) ↔ ty.toNat ≤ 8 := by omega
  by_cases h2 : ty = 2
  · subst h2
    have hr : Hd.right ⟨2, req, resp, seq⟩ = decide ((resp.toNat : Int) ≤ 1) := by
      unfold Hd.right
      rw [Bool.eq_iff_iff]
      simp
      omega
    rw [hr]
    have hw2 : IntKind.i64.wrap 2 = 2 := by decide
    simp [hdL, byteA, hw1, hw2]
    intro p hp
    exact sub_upd_self _ _ _ hp
  · have n2 : ¬ (ty.toNat : Int) = 2 := u8_ne (n := 2) (by omega) h2
    by_cases h8 : ty.toNat ≤ 8
    · have hr : Hd.right ⟨ty, req, resp, seq⟩ = decide ((resp.toNat : Int) ≤ 2) := by
        unfold Hd.right
        rw [Bool.eq_iff_iff]
        simp [h2, h8]
        omega
      rw [hr]
      simp [hdL, byteA, n2, hw, h9.2 h8, h8]
      intro p hp
      exact sub_upd_self _ _ _ hp
    · have hr : Hd.right ⟨ty, req, resp, seq⟩ = false := by
        unfold Hd.right
        simp [h8]
      have h8' : ¬ ((ty.toNat : Int) < 9) := by omega
      rw [hr]
      simp [hdL, byteA, n2, hw, h8', h8]
      intro p hp
      exact sub_upd_self _ _ _ hp
theorem shl_u8 (a : UInt8) : IntKind.u16.wrap ((a.toNat : Int) * 2 ^ min 8 IntKind.u16.bits) = ((a.toNat * 256 : Nat) : Int) := by
  have := a.toNat_lt
  have hp : (2 : Int) ^ min 8 IntKind.u16.bits = 256 := by decide
  rw [hp]
  unfold IntKind.wrap
  simp [IntKind.signed, IntKind.bits]
  omega
theorem or_u16 (a b : UInt8) : pureBin .or (.int .u16 ((a.toNat * 256 : Nat) : Int)) (.int .u16 (b.toNat : Int)) = some (.int .u16 ((a.toNat * 256 + b.toNat : Nat) : Int)) := by
  have h1 := a.toNat_lt
  have h2 := b.toNat_lt
  have hor : a.toNat * 256 ||| b.toNat = a.toNat * 256 + b.toNat := by
    have := Nat.two_pow_add_eq_or_of_lt (i := 8) h2 a.toNat
    rw [Nat.mul_comm]
    exact this.symm
  have h : IntKind.u16.wrap ((BitVec.ofInt IntKind.u16.bits ((a.toNat * 256 : Nat) : Int) ||| BitVec.ofInt IntKind.u16.bits (b.toNat : Int)).toNat : Int) = ((a.toNat * 256 + b.toNat : Nat) : Int) := by
    have e : (BitVec.ofInt IntKind.u16.bits ((a.toNat * 256 : Nat) : Int) ||| BitVec.ofInt IntKind.u16.bits (b.toNat : Int)).toNat = a.toNat * 256 + b.toNat := by
      show (BitVec.ofInt 16 ((a.toNat * 256 : Nat) : Int) ||| BitVec.ofInt 16 (b.toNat : Int)).toNat = _
      rw [BitVec.ofInt_natCast, BitVec.ofInt_natCast, BitVec.toNat_or, BitVec.toNat_ofNat, BitVec.toNat_ofNat, Nat.mod_eq_of_lt (by omega), Nat.mod_eq_of_lt (by omega)]
      exact hor
    rw [e]
    unfold IntKind.wrap
    simp [IntKind.signed, IntKind.bits]
    omega
  unfold pureBin
  simp only [if_pos]
  rw [h]
/-- The header in front, and what stands behind it. -/
def parseF : List UInt8 → Option (Hd × List UInt8)
  | a :: b :: c :: d :: e :: l => if Hd.right ⟨a, b, c, d.toNat * 256 + e.toNat⟩ = true then some (⟨a, b, c, d.toNat * 256 + e.toNat⟩, l) else none
  | _ => none
def ParseR (l : List UInt8) (σ : Store) (v : AV) (σ' : Store) : Prop := σ' = σ ∧ match parseF l with
  | some (h, r) => v = .tuple [.agg (hdL h), .list true 1 (bytesA r), .lit (.int .i64 0)]
  | none => ∃ k : Nat, k ≠ 0 ∧ v = .tuple [.agg (hdL .zero), .list true 1 [], .lit (.int .i64 k)]
set_option maxRecDepth 8000 in
set_option maxHeartbeats 1000000 in
theorem parse_calls (o : Bool) (l : List UInt8) (hl : l.length ≤ 1000000) (σ : Store) : ACalls Tryz.prog 50 [.list o 1 (bytesA l)] σ (ParseR l σ) := by
  have hz : Hd.zero = ⟨0, 0, 0, 0⟩ := rfl
  by_cases h5 : l.length < 5
  · have hn : parseF l = none := by
      rcases l with _ | ⟨a, _ | ⟨b, _ | ⟨c, _ | ⟨d, _ | ⟨e, l⟩⟩⟩⟩⟩ <;> first | rfl | (simp at h5; omega)
    have h5' : (l.length : Int) < 5 := by omega
    refine ACalls.of_awp follows (st := st50) (plans := pl50) (n := 38) Tryz.func50 rfl (by kernel_rfl) (by kernel_rfl) (by kernel_rfl) ?_
    unfold ParseR
    rw [hn]
    simp [h5']
    intro p hp
    exact ⟨_, AV.le_refl _, _, sub_upd_self _ _ _ hp, rfl, 1, rfl⟩
  · obtain ⟨a, b, c, d, e, r, rfl⟩ : ∃ a b c d e r, l = a :: b :: c :: d :: e :: r := by
      rcases l with _ | ⟨a, _ | ⟨b, _ | ⟨c, _ | ⟨d, _ | ⟨e, l⟩⟩⟩⟩⟩ <;> first | exact ⟨_, _, _, _, _, _, rfl⟩ | (simp at h5; try omega)
    have hc : bytesA (a :: b :: c :: d :: e :: r) = .lit (.int .u8 a.toNat) :: .lit (.int .u8 b.toNat) :: .lit (.int .u8 c.toNat) :: .lit (.int .u8 d.toNat) :: .lit (.int .u8 e.toNat) :: bytesA r := rfl
    have h5' : ¬ ((r.length : Int) + 1 + 1 + 1 + 1 + 1 < 5) := by omega
    have hri := fun τ => right_calls ⟨a, b, c, d.toNat * 256 + e.toNat⟩ τ
    have hcl := fun τ => clone_calls false r τ (by simp at hl; omega)
    have hs := shl_u8 d
    have ho := or_u16 d e
    have hwd : IntKind.u16.wrap (d.toNat : Int) = (d.toNat : Int) := by
      have := d.toNat_lt
      unfold IntKind.wrap
      simp [IntKind.signed, IntKind.bits]; omega
    have hwe : IntKind.u16.wrap (e.toNat : Int) = (e.toNat : Int) := by
      have := e.toNat_lt
      unfold IntKind.wrap
      simp [IntKind.signed, IntKind.bits]; omega
    have htk := htake r
    unfold ParseR
    simp only [parseF]
    simp only [hdL, byteA] at hri
    generalize hS : d.toNat * 256 + e.toNat = S at *
    generalize hT : ((d.toNat * 256 : Nat) : Int) = T at *
    refine ACalls.of_awp follows (st := st50) (plans := pl50) (n := 38) Tryz.func50 rfl (by kernel_rfl) (by kernel_rfl) (by kernel_rfl) ?_
    simp +contextual [ite_free, hc, h5', hwd, hwe, hs, ho, -e_pureBin_9, htk]
    intro p hp q n1 n2 hq
    have hfin : ∀ X Y : List AV, Store.sub σ ((σ.upd p X).upd q Y) := fun X Y => by (intro q; simp only [Store.upd, Store.del]; (repeat' split) <;> first | exact Or.inr rfl | exact Or.inl rfl | (exfalso; omega) | (left; subst_vars; assumption) | simp_all)
    have hfin2 : ∀ X Y Z : List AV, Store.sub σ (((σ.upd p X).upd q Y).upd p Z) := fun X Y Z => by (intro q; simp only [Store.upd, Store.del]; (repeat' split) <;> first | exact Or.inr rfl | exact Or.inl rfl | (exfalso; omega) | (left; subst_vars; assumption) | simp_all)
    refine callK.of (hri _) ?_
    rintro v σ' ⟨rfl, rfl⟩
    cases hr : Hd.right ⟨a, b, c, S⟩
    · simp [n1, n2]
      exact ⟨_, AV.le_refl _, _, hfin2 _ _ _, rfl, 0, rfl⟩
    · simp [n1, n2, hc, htk]
      repeat' with_reducible apply And.intro
      all_goals first
        | omega
        | (refine callK.of (hcl _) ?_
           rintro v σ2 ⟨rfl, rfl⟩
           simp [n1, n2]
           exact ⟨_, AV.le_refl _, _, hfin2 _ _ _, rfl, rfl⟩)
/-! ### What a record's type is called; data up to a mark -/
/-- Data since the last mark. -/
def mkA (p : List UInt8) (long : Bool) : List AV := [.list true 1 (bytesA p), .lit (.bool long)]
set_option maxRecDepth 8000 in
theorem madd_calls (b : Nat) (p : List UInt8) (o : Bool) (l : List UInt8) (hl : p.length + l.length ≤ 8192) (σ : Store) (hb : σ b = some (mkA p false)) :
    ACalls Tryz.prog 48 [ptrA b, .list o 1 (bytesA l)] σ fun v σ' => v = .tuple [] ∧ σ' = σ.upd b (mkA (p ++ l) false) := by
  unfold mkA at hb
  have hw : IntKind.i64.wrap ((p.length : Int) + (l.length : Int)) = ((p.length + l.length : Nat) : Int) := by rw [wrap_i64 (by omega) (by omega)]; omega
  have hn : ¬ (8192 : Int) < ((p.length + l.length : Nat) : Int) := by omega
  obtain ⟨T, hT⟩ : ∃ T, p.length + l.length = T := ⟨_, rfl⟩
  rw [hT] at hw hn
  have hn2 : ¬ 8192 < T := by omega
  refine ACalls.of_awp follows (st := st48) (plans := pl48) (n := 45) Tryz.func48 rfl (by kernel_rfl) (by kernel_rfl) (by kernel_rfl) ?_
  simp [hb, hw, hn, hn2]
  refine ⟨by omega, by omega, ?_⟩
  rw [← bytesA_append]
  exact Store.sub_refl _
set_option maxRecDepth 8000 in
theorem mdrop_calls (b : Nat) (p : List UInt8) (lg : Bool) (σ : Store) (hb : σ b = some (mkA p lg)) :
    ACalls Tryz.prog 64 [ptrA b] σ fun v σ' => v = .tuple [] ∧ σ' = σ.upd b (mkA [] false) := by
  unfold mkA at hb
  refine ACalls.of_awp follows (st := st64) (plans := pl64) (n := 10) Tryz.func64 rfl (by kernel_rfl) (by kernel_rfl) (by kernel_rfl) ?_
  simp [hb]
  exact Store.sub_refl _
set_option maxRecDepth 8000 in
theorem mend_calls (b : Nat) (p : List UInt8) (lg : Bool) (σ : Store) (hb : σ b = some (mkA p lg)) :
    ACalls Tryz.prog 49 [ptrA b] σ fun v σ' => v = .agg [.list false 1 (bytesA p), .lit (.bool lg)] ∧ σ' = σ.upd b (mkA [] false) := by
  have hb0 := hb
  unfold mkA at hb
  refine ACalls.of_awp follows (st := st49) (plans := pl49) (n := 19) Tryz.func49 rfl (by kernel_rfl) (by kernel_rfl) (by kernel_rfl) ?_
  simp [hb]
  intro q hq
  have hbq : ¬ b = q := by rintro rfl; rw [hb] at hq; cases hq
  simp [hbq, hb]
  intro r hr
  rw [ite_none] at hr
  obtain ⟨hrq, hr⟩ := hr
  have hbr : ¬ b = r := by rintro rfl; rw [hb] at hr; cases hr
  have hqr : ¬ q = r := fun e => hrq e.symm
  have hrb : ¬ r = b := fun e => hbr e.symm
  have hqb : ¬ q = b := fun e => hbq e.symm
  have hdr := mdrop_calls b p lg ((σ.upd q [AV.list true 1 [], AV.lit (Value.bool false)]).upd r [AV.list false 1 (bytesA p), AV.lit (Value.bool lg)]) (by simp [hbq, hbr, hb0])
  refine callK.of hdr ?_
  rintro v σ' ⟨rfl, rfl⟩
  simp [hbq, hbr, hqr, hrq, hrb, hqb]
  (intro q; simp only [Store.upd, Store.del]; (repeat' split) <;> first | exact Or.inr rfl | exact Or.inl rfl | (exfalso; omega) | (left; subst_vars; assumption) | simp_all)
theorem mnew_calls (σ : Store) : ACalls Tryz.prog 46 [] σ fun v σ' => ∃ q : Nat, σ q = none ∧ v = ptrA q ∧ σ' = σ.upd q (mkA [] false) := by
  refine ACalls.of_awp follows (st := st46) (plans := pl46) (n := 3) Tryz.func46 rfl (by kernel_rfl) (by kernel_rfl) (by kernel_rfl) ?_
  simp
  exact fun p hp => ⟨_, AV.le_refl _, _, Store.sub_refl _, p, hp, rfl, rfl⟩
set_option maxRecDepth 8000 in
theorem rbytes_calls (o : Bool) (l : List UInt8) (σ : Store) (hl : l.length ≤ 1000000) : ACalls Tryz.prog 23 [.list o 1 (bytesA l)] σ fun v σ' => v = .list true 1 (bytesA (esc l ++ [255, 239])) ∧ σ' = σ := by
  have h1 := esc_length l
  have he := fun τ => escape_calls false l τ hl
  generalize esc l = k at *
  refine ACalls.of_awp follows (st := st23) (plans := pl23) (n := 7) Tryz.func23 rfl (by kernel_rfl) (by kernel_rfl) (by kernel_rfl) ?_
  simp
  refine callK.of (he _) ?_
  rintro v σ1 ⟨rfl, rfl⟩
  simp
  refine ⟨by omega, by omega, ?_⟩
  simp [bytesA, byteA]
@[simp] def st11o : List Nat := [1000036]
@[simp] def pl11o : List (Nat × Plan) := []
/-- The five bytes of a header. -/
def headL (h : Hd) : List UInt8 := [h.ty, h.req, h.resp, UInt8.ofNat (h.seq / 256), UInt8.ofNat h.seq]
def headOk (h : Hd) : Prop := ¬ (8 < h.ty.toNat ∨ 2 < h.resp.toNat ∨ (h.ty = 2 ∧ h.resp = 2))
instance (h : Hd) : Decidable (headOk h) := by unfold headOk; infer_instance
def HBytesR (h : Hd) (σ : Store) (v : AV) (σ' : Store) : Prop := σ' = σ ∧ ((headOk h ∧ v = .tuple [.list true 1 (bytesA (headL h)), .lit (.int .i64 0)]) ∨ (¬ headOk h ∧ v = .tuple [.list true 1 [], .lit (.int .i64 1)]))
set_option maxRecDepth 8000 in
set_option maxHeartbeats 1000000 in
theorem r9bytes_calls (h : Hd) (hs : h.seq < 65536) (σ : Store) : ACalls Tryz.prog 11 [.agg (hdL h)] σ (HBytesR h σ) := by
  obtain ⟨ty, req, resp, seq⟩ := h
  dsimp only at hs
  have b2 : ∀ {b c : UInt8}, ¬ b = c → ¬ (b.toNat : Int) = (c.toNat : Int) := fun {b c} h e => h (UInt8.toNat_inj.1 (by omega))
  have e1 : IntKind.u8.wrap (IntKind.u16.wrap ((seq : Int) / 256)) = (seq : Int) / 256 % 256 := by
    unfold IntKind.wrap
    simp [IntKind.signed, IntKind.bits]
  have e2 : IntKind.u8.wrap ((seq : Int).tmod 256) = (seq : Int) % 256 := by
    rw [Int.tmod_eq_emod_of_nonneg (by omega)]
    unfold IntKind.wrap
    simp [IntKind.signed, IntKind.bits]
  refine ACalls.of_awp follows (st := st11) (plans := pl11) (n := 37) Tryz.func11 rfl (by kernel_rfl) (by kernel_rfl) (by kernel_rfl) ?_
  unfold HBytesR headOk
  simp [hdL, byteA]
  intro p hp
  have hsub := fun X => sub_upd_self σ p X hp
  have hbad : ∀ X, ¬ (ty.toNat ≤ 8 ∧ resp.toNat ≤ 2 ∧ (ty = 2 → ¬ resp = 2)) → ∃ v', (AV.tuple [.list true 1 [], .lit (.int .i64 1)]).le v' ∧ ∃ x, x.sub (σ.upd p X) ∧ x = σ ∧ ((ty.toNat ≤ 8 ∧ resp.toNat ≤ 2 ∧ (ty = 2 → ¬ resp = 2)) ∧ v' = .tuple [.list true 1 (bytesA (headL ⟨ty, req, resp, seq⟩)), .lit (.int .i64 0)] ∨ (ty.toNat ≤ 8 → resp.toNat ≤ 2 → ty = 2 ∧ resp = 2) ∧ v' = .tuple [.list true 1 [], .lit (.int .i64 1)]) := fun X h =>
    ⟨_, AV.le_refl _, σ, hsub _, rfl, .inr ⟨fun h1 h2 => by
      by_cases h3 : ty = 2
      · by_cases h4 : resp = 2
        · exact ⟨h3, h4⟩
        · exact (h ⟨h1, h2, fun _ => h4⟩).elim
      · exact (h ⟨h1, h2, fun h => (h3 h).elim⟩).elim, rfl⟩⟩
  have hgood : ∀ X, ty.toNat ≤ 8 → resp.toNat ≤ 2 → (ty = 2 → ¬ resp = 2) → ∃ v', (AV.tuple [.list true 1 [.lit (.int .u8 ty.toNat), .lit (.int .u8 req.toNat), .lit (.int .u8 resp.toNat), .lit (.int .u8 ((seq : Int) / 256 % 256)), .lit (.int .u8 ((seq : Int) % 256))], .lit (.int .i64 0)]).le v' ∧ ∃ x, x.sub (σ.upd p X) ∧ x = σ ∧ ((ty.toNat ≤ 8 ∧ resp.toNat ≤ 2 ∧ (ty = 2 → ¬ resp = 2)) ∧ v' = .tuple [.list true 1 (bytesA (headL ⟨ty, req, resp, seq⟩)), .lit (.int .i64 0)] ∨ (ty.toNat ≤ 8 → resp.toNat ≤ 2 → ty = 2 ∧ resp = 2) ∧ v' = .tuple [.list true 1 [], .lit (.int .i64 1)]) := fun X h1 h2 h3 =>
    ⟨_, AV.le_refl _, σ, hsub _, rfl, .inl ⟨⟨h1, h2, h3⟩, by simp [headL, bytesA, byteA]⟩⟩
  by_cases c1 : ty.toNat ≤ 8
  · have g1 : (ty.toNat : Int) ≤ 8 := by omega
    by_cases c2 : resp.toNat ≤ 2
    · have g2 : (resp.toNat : Int) ≤ 2 := by omega
      have g2' : ¬ 2 < (resp.toNat : Int) := by omega
      have g1' : ¬ 8 < (ty.toNat : Int) := by omega
      by_cases c3 : ty = 2
      · by_cases c4 : resp = 2
        · have h := fun X => hbad X fun h => h.2.2 c3 c4
          subst c3 c4
          simp at h ⊢
          exact h _
        · have h := fun X => hgood X c1 c2 fun _ => c4
          have g4 : ¬ (resp.toNat : Int) = 2 := b2 (c := 2) c4
          subst c3
          simp [g2, g2', g4] at h ⊢
          rw [e1, e2]
          exact h _
      · have g3 : ¬ (ty.toNat : Int) = 2 := b2 (c := 2) c3
        have h := fun X => hgood X c1 c2 fun h => (c3 h).elim
        simp [g1, g2, g1', g2', g3]
        rw [e1, e2]
        exact h _
    · have h := fun X => hbad X fun h => c2 h.2.1
      have g2 : ¬ (resp.toNat : Int) ≤ 2 := by omega
      have g2' : 2 < (resp.toNat : Int) := by omega
      have g1' : ¬ 8 < (ty.toNat : Int) := by omega
      simp [g1, g2, g1', g2']
      exact h _
  · have h := fun X => hbad X fun h => c1 h.1
    have g1 : ¬ (ty.toNat : Int) ≤ 8 := by omega
    have g1' : 8 < (ty.toNat : Int) := by omega
    simp [g1, g1']
    exact h _
theorem esc_cons (b : UInt8) (l : List UInt8) : esc (b :: l) = (if (b.toNat : Int) = 255 then [b, b] else [b]) ++ esc l := by
  have : b :: l = [b] ++ l := rfl
  rw [this, esc, escOf_append]
  congr 1
  exact esc_snoc [] b
theorem feed_app (r : Rd) (p q : List UInt8) : r.feed (p ++ q) = (r.feed p).feed q := by simp [Rd.feed]
theorem feed_esc (V : Rd) (hs : V.state = 0) (d : List UInt8) : V.feed (esc d) = { V with data := V.data ++ d, state := 0 } := by
  induction d generalizing V with
  | nil => simp [esc, escOf, Rd.feed, ← hs]
  | cons b d ih =>
    rw [esc_cons, feed_app]
    by_cases hb : (b.toNat : Int) = 255
    · rw [if_pos hb]
      show ((V.take b).take b).feed (esc d) = _
      rw [show V.take b = { V with state := 1 } by simp [Rd.take, hs, hb]]
      rw [show ({ V with state := 1 } : Rd).take b = { V with data := V.data ++ [b], state := 0 } by simp [Rd.take, Rd.command, hb], ih _ rfl]
      simp
    · rw [if_neg hb]
      show (V.take b).feed (esc d) = _
      rw [show V.take b = { V with data := V.data ++ [b], state := 0 } by simp [Rd.take, hs, hb], ih _ rfl]
      simp
def eorEv : Ev := ⟨1, 239, 0, [], false, false⟩
/-- The events of records. -/
def recEvs1 (d : List UInt8) : List Ev := (if 0 < d.length then [dataEv d] else []) ++ [eorEv]
def recEvs (ds : List (List UInt8)) : List Ev := ds.flatMap recEvs1
def wire (ds : List (List UInt8)) : List UInt8 := ds.flatMap fun d => esc d ++ [255, 239]
theorem wire_append (a b : List (List UInt8)) : wire (a ++ b) = wire a ++ wire b := by simp [wire]
theorem wire_one (d : List UInt8) : wire [d] = esc d ++ [255, 239] := by simp [wire]
theorem feed_one (V : Rd) (hs : V.state = 0) (hd : V.data = []) (d : List UInt8) :
    V.feed (esc d ++ [255, 239]) = { V with data := [], state := 0, out := V.out ++ recEvs1 d } := by
  rw [feed_app, feed_esc V hs d, hd, List.nil_append]
  show ((({ V with data := d, state := 0 } : Rd).take 255).take 239) = _
  rw [show ({ V with data := d, state := 0 } : Rd).take 255 = { V with data := d, state := 1 } by simp [Rd.take]]
  rw [show ({ V with data := d, state := 1 } : Rd).take 239 = ({ V with data := d, state := 1 } : Rd).command 239 by simp [Rd.take]]
  by_cases h : 0 < d.length
  · simp [Rd.command, Rd.tell, Rd.flush, h, recEvs1, eorEv, dataEv]
  · have : d = [] := List.eq_nil_of_length_eq_zero (by omega)
    subst this
    simp [Rd.command, Rd.tell, Rd.flush, recEvs1, eorEv]
theorem feed_wire (ds : List (List UInt8)) : ∀ (V : Rd), V.state = 0 → V.data = [] → V.feed (wire ds) = { V with data := [], state := 0, out := V.out ++ recEvs ds } := by
  induction ds with
  | nil =>
    intro V h1 h2
    obtain ⟨s, v, o, d, sb, lg, ou⟩ := V
    dsimp only at h1 h2
    subst h1 h2
    simp [wire, recEvs, Rd.feed]
  | cons d ds ih =>
    intro V h1 h2
    have e1 : wire (d :: ds) = (esc d ++ [255, 239]) ++ wire ds := rfl
    have e2 : recEvs (d :: ds) = recEvs1 d ++ recEvs ds := rfl
    rw [e1, feed_app, feed_one V h1 h2, ih _ rfl rfl, e2]
    simp
theorem wire_length (ds : List (List UInt8)) (n : Nat) (h : ∀ d ∈ ds, d.length ≤ n) : (wire ds).length ≤ ds.length * (2 * n + 2) := by
  induction ds with
  | nil => simp [wire]
  | cons d ds ih =>
    have e : wire (d :: ds) = (esc d ++ [255, 239]) ++ wire ds := rfl
    have h1 := ih fun x hx => h x (by simp [hx])
    have h2 := (esc_length d).2
    have h3 := h d (by simp)
    rw [e, List.length_append, List.length_append, List.length_cons (a := d), Nat.add_mul]
    simp only [List.length_cons, List.length_nil]
    omega
theorem recEvs_size (ds : List (List UInt8)) (n : Nat) (h : ∀ d ∈ ds, d.length ≤ n) : (recEvs ds).length ≤ 2 * ds.length ∧ bytesIn (recEvs ds) ≤ ds.length * n := by
  induction ds with
  | nil => simp [recEvs, bytesIn]
  | cons d ds ih =>
    have e : recEvs (d :: ds) = recEvs1 d ++ recEvs ds := rfl
    obtain ⟨h1, h2⟩ := ih fun x hx => h x (by simp [hx])
    have h3 := h d (by simp)
    have h4 : (recEvs1 d).length ≤ 2 ∧ bytesIn (recEvs1 d) ≤ n := by
      unfold recEvs1
      split <;> simp [bytesIn, dataEv, eorEv]
      exact h3
    rw [e, List.length_append, bytesIn_append, List.length_cons, Nat.add_mul]
    omega
/-- The header and one byte. -/
theorem parse_head {h : Hd} (hs : h.seq < 65536) (hok : headOk h) (l : List UInt8) : parseF (headL h ++ l) = some (h, l) := by
  obtain ⟨ty, req, resp, seq⟩ := h
  dsimp only at hs
  have e : (UInt8.ofNat (seq / 256)).toNat * 256 + (UInt8.ofNat seq).toNat = seq := by
    rw [UInt8.toNat_ofNat', UInt8.toNat_ofNat']; omega
  show parseF (ty :: req :: resp :: UInt8.ofNat (seq / 256) :: UInt8.ofNat seq :: l) = _
  simp only [parseF]
  rw [e, if_pos]
  unfold headOk at hok
  dsimp only at hok
  have hc : ty.toNat ≤ 8 ∧ resp.toNat ≤ 2 ∧ ¬ (ty = 2 ∧ resp = 2) := by
    refine ⟨?_, ?_, ?_⟩
    · exact Nat.le_of_not_lt fun h => hok (.inl h)
    · exact Nat.le_of_not_lt fun h => hok (.inr (.inl h))
    · exact fun h => hok (.inr (.inr h))
  obtain ⟨c1, c2, c3⟩ := hc
  unfold Hd.right
  simp only [Bool.and_eq_true, decide_eq_true_eq]
  refine ⟨c1, ?_⟩
  split
  · rename_i h2
    have : ¬ resp.toNat = 2 := fun h => c3 ⟨h2, UInt8.toNat_inj.1 h⟩
    omega
  · exact c2
end Go.Proofs.YtegpebaoghmgiaaGreatDoor
