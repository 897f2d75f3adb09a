/-
  The reader's methods do what their pure models do.
-/
import Derived.Test.YteaidaolablegaaGreatDoorPart9
namespace Go.Proofs.YteaidaolablegaaGreatDoor
open Go Go.AL
abbrev ptrA (o : Nat) : AV := .lit (.pointer (some ⟨o, 0, none⟩))
/-- The reader's cells, written out. -/
theorem rdA_eq (r : Rd) : rdA r = [.lit (.int .i64 r.state), byteA r.verb, byteA r.opt, .list true 1 (bytesA r.data), .list true 1 (bytesA r.sub), .lit (.bool r.long), .list true 6 (evsA r.out)] := rfl

set_option maxRecDepth 8000 in
theorem flush_calls (o : Nat) (r : Rd) (σ : Store) (ho : σ o = some (rdA r)) (hl : r.out.length ≤ 1000000) :
    ACalls Tryz.prog 77 [ptrA o] σ fun v σ' => v = .tuple [] ∧ σ' = σ.upd o (rdA r.flush) := by
  refine ACalls.of_awp follows (st := st77) (plans := pl77) (n := 25) Tryz.func77 rfl (by kernel_rfl) (by kernel_rfl) (by kernel_rfl) ?_
  rw [rdA_eq r] at ho
  simp [ho]
  split
  · rename_i h
    refine ⟨by omega, by omega, sub_eq ?_⟩
    simp [rdA, Rd.flush, h, evsA, evA, byteA, bytesA_nil]
  · rename_i h
    refine sub_eq ?_
    simp [rdA, Rd.flush, h, bytesA_nil]

set_option maxRecDepth 8000 in
theorem keep_calls (o : Nat) (r : Rd) (b : UInt8) (σ : Store) (ho : σ o = some (rdA r)) (hl : r.sub.length ≤ 1000000) :
    ACalls Tryz.prog 90 [ptrA o, byteA b] σ fun v σ' => v = .tuple [] ∧ σ' = σ.upd o (rdA (r.keep b)) := by
  refine ACalls.of_awp follows (st := st90) (plans := pl90) (n := 26) Tryz.func90 rfl (by kernel_rfl) (by kernel_rfl) (by kernel_rfl) ?_
  rw [rdA_eq r] at ho
  simp [ho, byteA]
  split
  · rename_i h
    refine sub_eq ?_
    simp [rdA, Rd.keep, show 256 ≤ r.sub.length by omega, byteA]
  · rename_i h
    refine ⟨by omega, by omega, sub_eq ?_⟩
    simp [rdA, Rd.keep, show ¬ 256 ≤ r.sub.length by omega, byteA, bytesA]

theorem flush_len (r : Rd) : r.flush.out.length ≤ r.out.length + 1 := by simp only [Rd.flush]; split <;> simp
theorem tell_len (r : Rd) (e : Ev) : (r.tell e).out.length ≤ r.out.length + 2 := by have := flush_len r; simp [Rd.tell]; omega
theorem tell_sub (r : Rd) (e : Ev) : (r.tell e).sub = r.sub ∧ (r.tell e).opt = r.opt ∧ (r.tell e).data = [] := by simp [Rd.tell, Rd.flush]

set_option maxRecDepth 8000 in
theorem tell_calls (o : Nat) (r : Rd) (e : Ev) (σ : Store) (ho : σ o = some (rdA r)) (hl : r.out.length ≤ 900000) :
    ACalls Tryz.prog 89 [ptrA o, evA e] σ fun v σ' => v = .tuple [] ∧ σ' = σ.upd o (rdA (r.tell e)) := by
  refine ACalls.of_awp follows (st := st89) (plans := pl89) (n := 19) Tryz.func89 rfl (by kernel_rfl) (by kernel_rfl) (by kernel_rfl) ?_
  simp [ho, evA, byteA]
  intro p hp
  have hne : o ≠ p := fun h => by subst h; rw [ho] at hp; cases hp
  refine callK.of (flush_calls o r _ (by simp [hne, ho]) (by omega)) ?_
  rintro v σ' ⟨rfl, rfl⟩
  simp [rdA_eq r.flush, hne, Ne.symm hne]
  have hfl := flush_len r
  refine ⟨by omega, by omega, sub_box hp hne ?_⟩
  simp [rdA, Rd.tell, evsA, evA, byteA]

set_option maxRecDepth 8000 in
theorem end_calls (o : Nat) (r : Rd) (b : Bool) (σ : Store) (ho : σ o = some (rdA r)) (hl : r.out.length ≤ 900000) :
    ACalls Tryz.prog 91 [ptrA o, .lit (.bool b)] σ fun v σ' => v = .tuple [] ∧ σ' = σ.upd o (rdA (r.fin b)) := by
  refine ACalls.of_awp follows (st := st91) (plans := pl91) (n := 26) Tryz.func91 rfl (by kernel_rfl) (by kernel_rfl) (by kernel_rfl) ?_
  simp [ho, rdA_eq r, byteA]
  refine callK.of (tell_calls o r ⟨3, 0, r.opt, r.sub, r.long, b⟩ _ ho hl) ?_
  rintro v σ' ⟨rfl, rfl⟩
  simp [rdA_eq (r.tell _)]
  refine sub_eq ?_
  simp [rdA, Rd.fin, bytesA_nil]

set_option maxRecDepth 8000 in
theorem command_calls (o : Nat) (r : Rd) (b : UInt8) (σ : Store) (ho : σ o = some (rdA r)) (hl : r.out.length ≤ 900000) (hd : r.data.length ≤ 1000000) :
    ACalls Tryz.prog 88 [ptrA o, byteA b] σ fun v σ' => v = .tuple [] ∧ σ' = σ.upd o (rdA (r.command b)) := by
  refine ACalls.of_awp follows (st := st88) (plans := pl88) (n := 44) Tryz.func88 rfl (by kernel_rfl) (by kernel_rfl) (by kernel_rfl) ?_
  have hob := ho
  rw [rdA_eq r] at ho
  by_cases h1 : (b.toNat : Int) = 255
  · simp [ho, byteA, h1]
    refine ⟨by omega, by omega, sub_eq ?_⟩
    simp [rdA, Rd.command, h1, byteA, bytesA]
  by_cases h2 : (b.toNat : Int) = 250
  · simp [ho, byteA, h1, h2]
    refine sub_eq ?_
    simp [rdA, Rd.command, h1, h2, byteA]
  by_cases h3 : 251 ≤ (b.toNat : Int) ∧ (b.toNat : Int) ≤ 254
  · simp [ho, byteA, h1, h2, h3]
    refine sub_eq ?_
    simp [rdA, Rd.command, h1, h2, h3, byteA]
  · have key : Rd.command r b = r.tell ⟨1, b, 0, [], false, false⟩ := by simp [Rd.command, h1, h2, h3]
    have fin : ∀ {x : List AV} {R : AV → Store → Prop} {t : Tag R}, AllLe x [ptrA o, evA ⟨1, b, 0, [], false, false⟩] → (∀ σ', σ' = σ.upd o (rdA (r.command b)) → R (.tuple []) σ') → callK Tryz.prog 89 x σ R t := fun hx hr =>
      callK.le hx (tell_calls o r ⟨1, b, 0, [], false, false⟩ σ hob hl) (by rintro v σ' ⟨rfl, rfl⟩; exact hr _ (by rw [key]))
    by_cases h4 : 251 ≤ (b.toNat : Int)
    · have h5 : ¬ (b.toNat : Int) ≤ 254 := fun h => h3 ⟨h4, h⟩
      simp [ho, byteA, h1, h2, h4, h5]
      refine fin (by simp [evA, byteA, bytesA_nil]; exact AV.le_agg (by simp)) ?_
      rintro σ' rfl
      simp
    · simp [ho, byteA, h1, h2, h4]
      refine fin (by simp [evA, byteA, bytesA_nil]; exact AV.le_agg (by simp)) ?_
      rintro σ' rfl
      simp

theorem keep_len (r : Rd) (b : UInt8) : (r.keep b).sub.length ≤ r.sub.length + 1 ∧ (r.keep b).out = r.out ∧ (r.keep b).data = r.data := by
  simp only [Rd.keep]; split <;> simp
theorem fin_len (r : Rd) (b : Bool) : (r.fin b).out.length ≤ r.out.length + 2 ∧ (r.fin b).data = [] ∧ (r.fin b).sub = [] := by
  have := tell_len r ⟨3, 0, r.opt, r.sub, r.long, b⟩
  simp only [Rd.fin]; exact ⟨this, (tell_sub ..).2.2, trivial⟩

set_option maxRecDepth 8000 in
theorem take_calls (o : Nat) (r : Rd) (b : UInt8) (σ : Store) (ho : σ o = some (rdA r)) (hl : r.out.length ≤ 800000) (hd : r.data.length ≤ 800000) (hs : r.sub.length ≤ 800000) :
    ACalls Tryz.prog 76 [ptrA o, byteA b] σ fun v σ' => v = .tuple [] ∧ σ' = σ.upd o (rdA (r.take b)) := by
  refine ACalls.of_awp follows (st := st76) (plans := pl76) (n := 74) Tryz.func76 rfl (by kernel_rfl) (by kernel_rfl) (by kernel_rfl) ?_
  have hob := ho
  rw [rdA_eq r] at ho
  by_cases s1 : r.state = 1
  · simp [ho, s1]
    refine callK.of (command_calls o r b σ hob (by omega) (by omega)) ?_
    rintro v σ' ⟨rfl, rfl⟩
    simp [Rd.take, s1]
  by_cases s2 : r.state = 2
  · simp [ho, s2, byteA]
    refine callK.le (args' := [ptrA o, evA ⟨2, r.verb, b, [], false, false⟩]) (by simp [evA, byteA, bytesA_nil]; exact AV.le_agg (by simp)) (tell_calls o r _ σ hob (by omega)) ?_
    rintro v σ' ⟨rfl, rfl⟩
    simp [Rd.take, s2]
  by_cases s3 : r.state = 3
  · simp [ho, s3, byteA]
    refine sub_eq ?_
    simp [rdA, Rd.take, s3, byteA]
  by_cases s4 : r.state = 4
  · by_cases h1 : (b.toNat : Int) = 255
    · simp [ho, s4, byteA, h1]
      refine sub_eq ?_
      simp [rdA, Rd.take, s4, byteA, h1]
    · simp [ho, s4, byteA, h1]
      refine callK.of (keep_calls o r b σ hob (by omega)) ?_
      rintro v σ' ⟨rfl, rfl⟩
      simp [Rd.take, s4, h1]
  by_cases s5 : r.state = 5
  · by_cases h1 : (b.toNat : Int) = 255
    · have hb : byteA b = .lit (.int .u8 255) := by simp [byteA, h1]
      have hk := keep_calls o r b σ hob (by omega)
      rw [hb] at hk ⊢
      simp [ho, s5]
      refine callK.of hk ?_
      rintro v σ' ⟨rfl, rfl⟩
      simp [Rd.take, s5, h1]
    by_cases h2 : (b.toNat : Int) = 240
    · simp [ho, s5, byteA, h1, h2]
      refine callK.of (end_calls o r false σ hob (by omega)) ?_
      rintro v σ' ⟨rfl, rfl⟩
      simp [Rd.take, s5, h1, h2]
    · simp [ho, s5, byteA, h1, h2]
      refine callK.of (end_calls o r true σ hob (by omega)) ?_
      rintro v σ' ⟨rfl, rfl⟩
      simp
      have hf := fin_len r true
      refine callK.of (command_calls o (r.fin true) b _ (by simp) (by omega) (by rw [hf.2.1]; simp)) ?_
      rintro v σ' ⟨rfl, rfl⟩
      simp [Rd.take, s5, h1, h2]
  · by_cases h1 : (b.toNat : Int) = 255
    · simp [ho, s1, s2, s3, s4, s5, byteA, h1]
      refine sub_eq ?_
      simp [rdA, Rd.take, s1, s2, s3, s4, s5, byteA, h1]
    · simp [ho, s1, s2, s3, s4, s5, byteA, h1]
      refine ⟨by omega, by omega, sub_eq ?_⟩
      simp [rdA, Rd.take, s1, s2, s3, s4, s5, byteA, h1, bytesA]
end Go.Proofs.YteaidaolablegaaGreatDoor
/-
  The smaller functions of the telnet laws, and what they compute.
-/
namespace Go.Proofs.YteaidaolablegaaGreatDoor
open Go Go.AL

theorem take_succ_map {α : Type} (f : α → AV) (l : List α) (i : Nat) (h : i < l.length) : (l.take (i + 1)).map f = (l.take i).map f ++ [f l[i]] := by
  rw [List.take_succ_eq_append_getElem h, List.map_append]; rfl
theorem flat_bytesA (l : List UInt8) : flat (bytesA l) = bytesA l := by
  induction l with
  | nil => rfl
  | cons b l ih => simp only [flat, bytesA, List.map_cons, List.flatMap_cons] at ih ⊢; rw [ih]; rfl
theorem bytesA_take (l : List UInt8) (n : Nat) : (bytesA l).take n = bytesA (l.take n) := by simp [bytesA]
theorem bytesA_drop (l : List UInt8) (n : Nat) : (bytesA l).drop n = bytesA (l.drop n) := by simp [bytesA]
theorem drop1_bytesA (l : List UInt8) : (bytesA l).map AV.drop1 = bytesA l := by
  simp only [bytesA, List.map_map]; rfl

/-- A row of bytes that is an object. -/
def rowA (p cap : Nat) (l : List UInt8) : AV := .lit (.slice (some ⟨p, 0, none⟩) l.length cap)

set_option maxRecDepth 10000 in
theorem copy_calls (o : Bool) (l : List UInt8) (σ : Store) (hl : l.length ≤ 140737488355328) :
    ACalls Tryz.prog 32 [.list o 1 (bytesA l)] σ fun v σ' => v = .list true 1 (bytesA l) ∧ σ' = σ := by
  refine ACalls.of_awp follows (st := st32) (plans := pl32) (n := 6) Tryz.func32 rfl (by kernel_rfl) (by kernel_rfl) (by kernel_rfl) ?_
  simp
  omega

set_option maxRecDepth 10000 in
theorem copyO_calls (o : Bool) (l : List UInt8) (σ : Store) (hl : l.length ≤ 140737488355328) :
    ACalls Tryz.prog 32 [.list o 1 (bytesA l)] σ fun v σ' => ∃ p cap rest, σ p = none ∧ v = rowA p cap l ∧ σ' = σ.upd p (bytesA l ++ rest) ∧ rest.length + l.length = cap := by
  refine ACalls.of_awp follows (st := st32o) (plans := pl32o) (n := 6) Tryz.func32 rfl (by kernel_rfl) (by kernel_rfl) (by kernel_rfl) ?_
  simp [rowOf, srcOf, flat_bytesA, drop1_bytesA]
  intro p hp
  refine ⟨by omega, by omega, ?_, ?_⟩
  · rintro rfl; exact ⟨_, AV.le_refl _, _, Store.sub_refl _, p, hp, 0, rfl, [], rfl, rfl⟩
  · intro h0 q cap hq hc hm
    have hσq : σ q = none := by
      by_cases h : q = p
      · exact h ▸ hp
      · simpa [h, Ne.symm h] using hq
    exact ⟨_, AV.le_refl _, σ.upd q (bytesA l ++ List.replicate (cap - l.length) .top), by (intro q; simp only [Store.upd, Store.del]; (repeat' split) <;> simp_all), q, hσq, cap, rfl, _, rfl, by simp; omega⟩

set_option maxRecDepth 8000 in
theorem clone_calls (o : Bool) (l : List UInt8) (σ : Store) (hl : l.length ≤ 140737488355328) :
    ACalls Tryz.prog 74 [.list o 1 (bytesA l)] σ fun v σ' => v = .list true 1 (bytesA l) ∧ σ' = σ := by
  refine ACalls.of_awp follows (st := st74) (plans := pl74) (n := 8) Tryz.func74 rfl (by kernel_rfl) (by kernel_rfl) (by kernel_rfl) ?_
  simp
  refine ⟨⟨by omega, by omega⟩, fun h => ?_⟩
  rw [h]; exact AV.le_refl _

set_option maxRecDepth 8000 in
theorem cut_calls (o : Bool) (l : List UInt8) (n : Nat) (σ : Store) (hn : n ≤ 100000000) :
    ACalls Tryz.prog 11 [.list o 1 (bytesA l), .lit (.int .i64 n)] σ fun v σ' => v = .list true 1 (bytesA (l.take n)) ∧ σ' = σ := by
  refine ACalls.of_awp follows (st := st11) (plans := pl11) (n := 14) Tryz.func11 rfl (by kernel_rfl) (by kernel_rfl) (by kernel_rfl) ?_
  by_cases h : n < l.length
  · simp [h, show n ≤ l.length by omega, bytesA_take]
    refine callK.of (copy_calls false (l.take n) σ (by simp; omega)) ?_
    rintro v σ' ⟨rfl, rfl⟩
    simp
  · simp [h]
    refine callK.of (copy_calls false l σ (by omega)) ?_
    rintro v σ' ⟨rfl, rfl⟩
    simp [List.take_of_length_le (show l.length ≤ n by omega)]

set_option maxRecDepth 8000 in
theorem new_calls (σ : Store) :
    ACalls Tryz.prog 55 [] σ fun v σ' => ∃ p, σ p = none ∧ v = ptrA p ∧ σ' = σ.upd p (rdA .init) := by
  refine ACalls.of_awp follows (st := st55) (plans := pl55) (n := 3) Tryz.func55 rfl (by kernel_rfl) (by kernel_rfl) (by kernel_rfl) ?_
  simp
  exact fun p hp => ⟨_, AV.le_refl _, _, Store.sub_refl _, p, hp, rfl, rfl⟩

set_option maxRecDepth 8000 in
theorem waiting_calls (o : Nat) (r : Rd) (σ : Store) (ho : σ o = some (rdA r)) :
    ACalls Tryz.prog 50 [ptrA o] σ fun v σ' => v = .lit (.bool (r.state != 0)) ∧ σ' = σ := by
  refine ACalls.of_awp follows (st := st50) (plans := pl50) (n := 12) Tryz.func50 rfl (by kernel_rfl) (by kernel_rfl) (by kernel_rfl) ?_
  rw [rdA_eq r] at ho
  simp [ho]

set_option maxRecDepth 8000 in
theorem waiting_nil (σ : Store) :
    ACalls Tryz.prog 50 [.lit (.pointer none)] σ fun v σ' => v = .lit (.bool false) ∧ σ' = σ := by
  refine ACalls.of_awp follows (st := st50) (plans := pl50) (n := 12) Tryz.func50 rfl (by kernel_rfl) (by kernel_rfl) (by kernel_rfl) ?_
  simp

set_option maxRecDepth 8000 in
theorem toList_mk (l : List UInt8) : (ByteArray.mk l.toArray).toList = l := by
  rw [ByteArray.toList_eq]
set_option maxRecDepth 8000 in
theorem same_calls (o o' : Bool) (l k : List UInt8) (σ : Store) :
    ACalls Tryz.prog 16 [.list o 1 (bytesA l), .list o' 1 (bytesA k)] σ fun v σ' => v = .lit (.bool (l == k)) ∧ σ' = σ := by
  refine ACalls.of_awp follows (st := st16) (plans := pl16) (n := 10) Tryz.func16 rfl (by kernel_rfl) (by kernel_rfl) (by kernel_rfl) ?_
  simp [bytesOf_bytesA, toList_mk]

end Go.Proofs.YteaidaolablegaaGreatDoor
/-
  Feed, of bytes by value and of bytes in a row; events compared.
-/
namespace Go.Proofs.YteaidaolablegaaGreatDoor
open Go Go.AL

/-- How much a byte may add. -/
theorem take_len (r : Rd) (b : UInt8) : (r.take b).out.length ≤ r.out.length + 4 ∧ (r.take b).data.length ≤ r.data.length + 1 ∧ (r.take b).sub.length ≤ r.sub.length + 1 := by
  have hcom : ∀ q : Rd, (q.command b).out.length ≤ q.out.length + 2 ∧ (q.command b).data.length ≤ q.data.length + 1 ∧ (q.command b).sub.length ≤ q.sub.length := by
    intro q
    simp only [Rd.command]
    split
    · simp
    · split
      · simp
      · split
        · simp
        · have := tell_len q ⟨1, b, 0, [], false, false⟩
          have h2 := tell_sub q ⟨1, b, 0, [], false, false⟩
          rw [h2.1, h2.2.2]; simp; omega
  have hfin : ∀ (q : Rd) (x : Bool), (q.fin x).out.length ≤ q.out.length + 2 ∧ (q.fin x).data = [] ∧ (q.fin x).sub = [] := fin_len
  have hkeep := keep_len r b
  simp only [Rd.take]
  split
  · have := hcom r; omega
  · split
    · have := tell_len r ⟨2, r.verb, b, [], false, false⟩
      have h2 := tell_sub r ⟨2, r.verb, b, [], false, false⟩
      rw [h2.1, h2.2.2]; simp; omega
    · split
      · simp
      · split
        · split
          · simp
          · rw [hkeep.2.1, hkeep.2.2]; omega
        · split
          · split
            · rw [hkeep.2.1, hkeep.2.2]; omega
            · split
              · have := hfin r false; rw [this.2.1, this.2.2]; simp; omega
              · have h1 := hfin r true
                have h2 := hcom (r.fin true)
                rw [h1.2.1, h1.2.2] at h2; simp only [List.length_nil] at h2; omega
          · split
            · simp
            · simp

theorem feed_take (r : Rd) (p : List UInt8) (i : Nat) (h : i < p.length) : (r.feed (p.take i)).take p[i] = r.feed (p.take (i + 1)) := by
  simp only [Rd.feed]
  rw [List.take_succ_eq_append_getElem h, List.foldl_append]; rfl
theorem feed_len (r : Rd) (p : List UInt8) : (r.feed p).out.length ≤ r.out.length + 4 * p.length ∧ (r.feed p).data.length ≤ r.data.length + p.length ∧ (r.feed p).sub.length ≤ r.sub.length + p.length := by
  induction p generalizing r with
  | nil => simp [Rd.feed]
  | cons b p ih =>
    have h1 := take_len r b
    have h2 := ih (r.take b)
    simp only [Rd.feed, List.foldl_cons, List.length_cons] at *
    omega

/-- What Feed leaves. -/
def Rd.after (r : Rd) (p : List UInt8) : Rd := { (r.feed p).flush with out := [] }
def Rd.fed (r : Rd) (p : List UInt8) : List Ev := (r.feed p).flush.out

set_option maxRecDepth 8000 in
theorem feed_calls (a : Bool) (o : Nat) (r : Rd) (p : List UInt8) (σ : Store) (ho : σ o = some (rdA r)) (h1 : r.out.length ≤ 100) (h2 : r.data.length ≤ 100000) (h3 : r.sub.length ≤ 100000) (hp : p.length ≤ 100000) :
    ACalls Tryz.prog 61 [ptrA o, .list a 1 (bytesA p)] σ fun v σ' => v = .list true 6 (evsA (r.fed p)) ∧ σ' = σ.upd o (rdA (r.after p)) := by
  refine ACalls.of_awp follows (st := st61) (plans := pl61) (n := 30) Tryz.func61 rfl (by kernel_rfl) (by kernel_rfl) (by kernel_rfl) ?_
  simp
  refine codeK.loop follows (st := st61) (plans := pl61) (X := Nat) (fun i => i ≤ p.length)
    (fun i => [(0, ptrA o), (10, .list false 1 (bytesA p)), (11, .lit (.int .i64 p.length)), (12, .lit (.int .i64 i))]) (fun i => σ.upd o (rdA (r.feed (p.take i)))) (fun i => p.length - i) 0 (by kernel_rfl) (by omega) (by simp) ?_ fun i hi => ?_
  · intro q; simp only [Store.upd, Rd.feed, List.take_zero, List.foldl_nil]; split <;> simp_all
  have hl := feed_len r (p.take i)
  have hti : (p.take i).length ≤ p.length := by simp; omega
  by_cases hlt : i < p.length
  · simp [hlt, bytesA, byteA]
    refine callK.of (take_calls o (r.feed (p.take i)) p[i] _ (by simp) (by omega) (by omega) (by omega)) ?_
    rintro v σ' ⟨rfl, rfl⟩
    simp [feed_take r p i hlt]
    refine ⟨i + 1, by omega, by omega, ?_, Store.sub_refl _⟩
    rw [wrap_i64 (by omega) (by omega)]; exact le_of_eq rfl
  · obtain rfl : i = p.length := by omega
    simp
    refine callK.of (flush_calls o (r.feed p) _ (by simp) (by simp at hl; omega)) ?_
    rintro v σ' ⟨rfl, rfl⟩
    simp [rdA_eq (r.feed p).flush]
    refine ⟨AV.le_refl _, sub_eq ?_⟩
    simp [rdA, Rd.after, evsA]

set_option maxRecDepth 8000 in
/-- The same of bytes in a row that is an object. -/
theorem feedO_calls (o q cap : Nat) (r : Rd) (p : List UInt8) (rest : List AV) (σ : Store) (hne : o ≠ q) (hq : σ q = some (bytesA p ++ rest)) (ho : σ o = some (rdA r)) (h1 : r.out.length ≤ 100) (h2 : r.data.length ≤ 100000) (h3 : r.sub.length ≤ 100000) (hp : p.length ≤ 100000) :
    ACalls Tryz.prog 61 [ptrA o, rowA q cap p] σ fun v σ' => v = .list true 6 (evsA (r.fed p)) ∧ σ' = σ.upd o (rdA (r.after p)) := by
  refine ACalls.of_awp follows (st := st61) (plans := pl61) (n := 30) Tryz.func61 rfl (by kernel_rfl) (by kernel_rfl) (by kernel_rfl) ?_
  simp [rowA]
  refine codeK.loop follows (st := st61) (plans := pl61) (X := Nat) (fun i => i ≤ p.length)
    (fun i => [(0, ptrA o), (10, rowA q cap p), (11, .lit (.int .i64 p.length)), (12, .lit (.int .i64 i))]) (fun i => σ.upd o (rdA (r.feed (p.take i)))) (fun i => p.length - i) 0 (by kernel_rfl) (by omega) (by simp [rowA]) ?_ fun i hi => ?_
  · intro q; simp only [Store.upd, Rd.feed, List.take_zero, List.foldl_nil]; split <;> simp_all
  have hl := feed_len r (p.take i)
  have hti : (p.take i).length ≤ p.length := by simp; omega
  by_cases hlt : i < p.length
  · have hg : (bytesA p ++ rest)[i]? = some (byteA p[i]) := by rw [List.getElem?_append_left (by simpa using hlt), bytesA_get, List.getElem?_eq_getElem hlt]; rfl
    simp [hlt, rowA, hq, Ne.symm hne, hg]
    simp [byteA]
    refine callK.of (take_calls o (r.feed (p.take i)) p[i] _ (by simp) (by omega) (by omega) (by omega)) ?_
    rintro v σ' ⟨rfl, rfl⟩
    simp [feed_take r p i hlt]
    refine ⟨i + 1, by omega, by omega, ?_, Store.sub_refl _⟩
    rw [wrap_i64 (by omega) (by omega)]; exact le_of_eq rfl
  · obtain rfl : i = p.length := by omega
    simp [rowA]
    refine callK.of (flush_calls o (r.feed p) _ (by simp) (by simp at hl; omega)) ?_
    rintro v σ' ⟨rfl, rfl⟩
    simp [rdA_eq (r.feed p).flush]
    refine ⟨AV.le_refl _, sub_eq ?_⟩
    simp [rdA, Rd.after, evsA]

set_option maxRecDepth 8000 in
/-- A nil reader. -/
theorem feed_nil (a : Bool) (p : List UInt8) (σ : Store) :
    ACalls Tryz.prog 61 [.lit (.pointer none), .list a 1 (bytesA p)] σ fun v σ' => v = .list true 6 (evsA []) ∧ σ' = σ := by
  refine ACalls.of_awp follows (st := st61) (plans := pl61) (n := 30) Tryz.func61 rfl (by kernel_rfl) (by kernel_rfl) (by kernel_rfl) ?_
  simp [evsA]

end Go.Proofs.YteaidaolablegaaGreatDoor
/-
  Names, bytes within bytes.
-/
namespace Go.Proofs.YteaidaolablegaaGreatDoor
open Go Go.AL

theorem byteA_lit (b : UInt8) : byteA b = .lit (.int .u8 (b.toNat : Int)) := rfl
/-- A string of these bytes. -/
abbrev strS (l : List UInt8) : AV := .lit (.string ⟨l.toArray⟩)
theorem bytesV_mk (l : List UInt8) : bytesV ⟨l.toArray⟩ = bytesA l := by simp [bytesV, bytesA, byteA]
theorem ixByte_mem (l : List UInt8) (c : UInt8) : (Lib.indexByte l c < 0 ↔ c ∉ l) ∧ (c ∉ l → Lib.indexByte l c = -1) := by
  induction l with
  | nil => simp [Lib.indexByte]
  | cons b l ih =>
    have hge := Lib.indexByte_ge l c
    unfold Lib.indexByte
    by_cases hb : b = c
    · subst hb; simp
    · have hbc : (b == c) = false := by simpa using hb
      have hcb : ¬ c = b := fun e => hb e.symm
      rw [hbc]
      simp only [Bool.false_eq_true, if_false, List.mem_cons, hcb, false_or]
      by_cases hm : Lib.indexByte l c = -1
      · rw [if_pos (by rw [hm]; rfl)]
        have : c ∉ l := ih.1.1 (by omega)
        exact ⟨⟨fun _ => this, fun _ => by omega⟩, fun _ => rfl⟩
      · rw [if_neg (by simpa using hm)]
        have : ¬ c ∉ l := fun h => hm (ih.2 h)
        exact ⟨⟨fun h => by omega, fun h => absurd h this⟩, fun h => absurd h this⟩
@[simp] theorem callable84 : callable Tryz.prog 84 = false := nr (by kernel_rfl)
set_option maxRecDepth 8000 in
theorem ext84 (o : Bool) (l : List UInt8) (c : UInt8) (σ : Store) : AExt Tryz.prog 84 [.list o 1 (bytesA l), byteA c] σ fun v σ' => v = .lit (.int .i64 (Lib.indexByte l c)) ∧ σ' = σ :=
  ext_indexByte Tryz.func84 (by kernel_rfl) (by kernel_rfl) (by kernel_rfl) (by kernel_rfl) o l c σ
set_option maxRecDepth 8000 in
theorem indexByte_calls (o : Bool) (l : List UInt8) (c : UInt8) (σ : Store) :
    ACalls Tryz.prog 64 [.list o 1 (bytesA l), byteA c] σ fun v σ' => v = .lit (.int .i64 (Lib.indexByte l c)) ∧ σ' = σ := by
  refine ACalls.of_awp follows (st := st64) (plans := pl64) (n := 8) Tryz.func64 rfl (by kernel_rfl) (by kernel_rfl) (by kernel_rfl) ?_
  simp [byteA]
  refine extK.of (ext84 false l c σ) ?_
  rintro v σ' ⟨rfl, rfl⟩
  simp
set_option maxRecDepth 10000 in
theorem index_calls (o o' : Bool) (l : List UInt8) (c : UInt8) (σ : Store) :
    ACalls Tryz.prog 104 [.list o 1 (bytesA l), .list o' 1 (bytesA [c])] σ fun v σ' => v = .lit (.int .i64 (Lib.indexByte l c)) ∧ σ' = σ := by
  refine ACalls.of_awp follows (st := st104) (plans := pl104) (n := 200) Tryz.func104 rfl (by kernel_rfl) (by kernel_rfl) (by kernel_rfl) ?_
  simp [bytesA, byteA]
  refine callK.of (indexByte_calls false l c σ) ?_
  rintro v σ' ⟨rfl, rfl⟩
  simp
/-- What stands ahead of a byte, and behind it. -/
def cutF (l : List UInt8) (c : UInt8) : List UInt8 × List UInt8 × Bool := if c ∈ l then (l.takeWhile (· != c), (l.dropWhile (· != c)).tail, true) else (l, [], false)
theorem cutF_split {pre post : List UInt8} {c : UInt8} (h : c ∉ pre) : cutF (pre ++ c :: post) c = (pre, post, true) := by
  have h1 : ∀ x ∈ pre, (x != c) = true := fun x hx => by
    have : x ≠ c := fun e => h (e ▸ hx)
    simpa using this
  have e1 : (pre ++ c :: post).takeWhile (· != c) = pre := by
    rw [List.takeWhile_append_of_pos h1]; simp
  have e2 : (pre ++ c :: post).dropWhile (· != c) = c :: post := by
    rw [List.dropWhile_append_of_pos h1]; simp
  unfold cutF
  rw [if_pos (by simp), e1, e2]; rfl
set_option maxRecDepth 8000 in
theorem bcut_calls (o o' : Bool) (l : List UInt8) (c : UInt8) (hl : l.length ≤ 1000000) (σ : Store) :
    ACalls Tryz.prog 131 [.list o 1 (bytesA l), .list o' 1 (bytesA [c])] σ fun v σ' => v = .tuple [.list false 1 (bytesA (cutF l c).1), .list false 1 (bytesA (cutF l c).2.1), .lit (.bool (cutF l c).2.2)] ∧ σ' = σ := by
  have hix := fun τ => index_calls false false l c τ
  refine ACalls.of_awp follows (st := st131) (plans := pl131) (n := 23) Tryz.func131 rfl (by kernel_rfl) (by kernel_rfl) (by kernel_rfl) ?_
  by_cases hm : c ∈ l
  · obtain ⟨pre, post, rfl, h2, h3⟩ := indexByte_split l c (List.count_pos_iff.2 hm)
    rw [cutF_split h2]
    rw [h3] at hix
    have ht : (bytesA (pre ++ c :: post)).take pre.length = bytesA pre := by rw [bytesA_take]; simp
    have hd : (bytesA (pre ++ c :: post)).drop (pre.length + 1) = bytesA post := by
      rw [bytesA_drop]; simp
    have hw : IntKind.i64.wrap ((pre.length : Int) + 1) = ((pre.length + 1 : Nat) : Int) := wrap_i64 (by simp at hl; omega) (by simp at hl; omega)
    have hc1 : bytesA [c] = [byteA c] := rfl
    have hln : (bytesA (pre ++ c :: post)).length = pre.length + (post.length + 1) := by simp
    have hle : pre.length ≤ (bytesA (pre ++ c :: post)).length := by omega
    have hle2 : pre.length + 1 ≤ (bytesA (pre ++ c :: post)).length := by omega
    have hl1 : (bytesA [c]).length = 1 := rfl
    have hp : (0 : Int) ≤ (pre.length : Int) + 1 := by omega
    generalize bytesA (pre ++ c :: post) = L at *
    simp
    refine callK.of (hix _) ?_
    rintro v σ' ⟨rfl, rfl⟩
    simp [hl1, hw, hle, hle2, ht, hd, hp]
  · have hno := (ixByte_mem l c).2 hm
    rw [hno] at hix
    have hcf : cutF l c = (l, [], false) := if_neg hm
    rw [hcf]
    simp
    refine callK.of (hix _) ?_
    rintro v σ' ⟨rfl, rfl⟩
    simp [bytesA]
    exact AV.le_tuple ⟨AV.le1_list _ _ _, AV.le1_list _ _ _, AV.le1_refl _, trivial⟩
/-- Is it a name? -/
def okN (b : UInt8) : Bool := decide (33 ≤ b.toNat) && decide (b.toNat ≤ 126)
def nameS (l : List UInt8) : Bool := l.all okN && !l.isEmpty && decide (l.length ≤ 40)
set_option maxRecDepth 8000 in
theorem str_size (l : List UInt8) : (ByteArray.mk l.toArray).size = l.length := by simp [ByteArray.size]
set_option maxRecDepth 8000 in
theorem name_calls (l : List UInt8) (hl : l.length ≤ 1000000) (σ : Store) : ACalls Tryz.prog 72 [strS l] σ fun v σ' => v = .lit (.bool (nameS l)) ∧ σ' = σ := by
  have hsz := str_size l
  refine ACalls.of_awp follows (st := st72) (plans := pl72) (n := 27) Tryz.func72 rfl (by kernel_rfl) (by kernel_rfl) (by kernel_rfl) ?_
  simp [hsz]
  refine codeK.loop follows (st := st72) (plans := pl72) (X := Nat) (fun i => i ≤ l.length ∧ ∀ j (hj : j < l.length), j < i → okN l[j] = true)
    (fun i => [(0, strS l), (5, .lit (.int .i64 l.length)), (6, .lit (.int .i64 i))]) (fun _ => σ) (fun i => l.length - i) 0 (by kernel_rfl) (by simp) (by simp) (Store.sub_refl _) fun i hi => ?_
  obtain ⟨hi, hk⟩ := hi
  by_cases hlt : i < l.length
  · have hw : IntKind.i64.wrap ((i : Int) + 1) = ((i + 1 : Nat) : Int) := wrap_i64 (by omega) (by omega)
    have hg : l[i]? = some l[i] := List.getElem?_eq_getElem hlt
    have hlt' : (i : Int) < l.length := by omega
    have hnx : okN l[i] = true → ∀ j (hj : j < l.length), j < i + 1 → okN l[j] = true := fun h j hj hji => by
      by_cases e : j = i
      · subst e; exact h
      · exact hk j hj (by omega)
    have hno : okN l[i] = false → nameS l = false := fun h => by
      have : l.all okN = false := by rw [List.all_eq_false]; exact ⟨_, List.getElem_mem hlt, by simp [h]⟩
      simp [nameS, this]
    obtain ⟨b, hb⟩ : ∃ b, l[i] = b := ⟨_, rfl⟩
    have hgg : ∀ h : i < l.length, l[i]'h = b := fun _ => hb
    rw [hb] at hnx hno
    by_cases h1 : (b.toNat : Int) < 33
    · have := hno (by unfold okN; simp; omega)
      simp [hlt, hlt', hgg, h1, this]
    · have h1' : (33 : Int) ≤ (b.toNat : Int) := by omega
      by_cases h2 : (126 : Int) < (b.toNat : Int)
      · have := hno (by unfold okN; simp; omega)
        simp [hlt, hlt', hgg, h1, h1', h2, this]
      · have h2' : (b.toNat : Int) ≤ 126 := by omega
        have := hnx (by unfold okN; simp; omega)
        simp [hlt, hlt', hgg, h1, h1', h2, h2']
        exact ⟨i + 1, ⟨by omega, this⟩, by omega, by rw [hw]; exact AV.le_refl _⟩
  · obtain rfl : i = l.length := by omega
    have hall : l.all okN = true := by
      rw [List.all_eq_true]
      intro x hx
      obtain ⟨j, hj, rfl⟩ := List.getElem_of_mem hx
      exact hk j hj hj
    by_cases hnil : l = []
    · subst hnil; simp [nameS]
    · have he : l.isEmpty = false := by simpa using hnil
      have h40 : decide ((l.length : Int) ≤ 40) = decide (l.length ≤ 40) := by rw [decide_eq_decide]; omega
      have hnm : nameS l = decide (l.length ≤ 40) := by simp [nameS, hall, he]
      rw [hnm]
      simp [hnil, hsz, h40]
end Go.Proofs.YteaidaolablegaaGreatDoor
/-
  A device's answer; lists in which each byte comes once, lists that rise.
-/
namespace Go.Proofs.YteaidaolablegaaGreatDoor
open Go Go.AL

/-- Rising, of bytes that are no greater than 4. -/
def sortL (l : List UInt8) : List UInt8 := [0, 1, 2, 3, 4].filter fun f => decide (f ∈ l)
def gotF (l : List UInt8) : List UInt8 × Bool := ((cutF l 1).2.1, (cutF l 1).2.2 && nameS (cutF l 1).1 && nameS (cutF l 1).2.1)
theorem cutF_len (l : List UInt8) (c : UInt8) : (cutF l c).1.length ≤ l.length ∧ (cutF l c).2.1.length ≤ l.length := by
  unfold cutF
  split
  · have h1 := (List.takeWhile_sublist (l := l) (· != c)).length_le
    have h2 := (List.dropWhile_sublist (l := l) (· != c)).length_le
    simp only [List.length_tail]
    omega
  · simp
set_option maxRecDepth 8000 in
theorem got_calls (o : Bool) (l : List UInt8) (hl : l.length ≤ 1000000) (σ : Store) : ACalls Tryz.prog 124 [.list o 1 (bytesA l)] σ fun v σ' => v = .tuple [strS (gotF l).1, .lit (.bool (gotF l).2)] ∧ σ' = σ := by
  have hcu := fun τ => bcut_calls false true l 1 hl τ
  obtain ⟨k1, k2⟩ := cutF_len l 1
  have hb1 : bytesA [1] = [.lit (.int .u8 1)] := rfl
  have hn1 := fun τ => name_calls (cutF l 1).1 (by omega) τ
  have hn2 := fun τ => name_calls (cutF l 1).2.1 (by omega) τ
  unfold gotF
  generalize cutF l 1 = C at *
  obtain ⟨a, b, ok⟩ := C
  dsimp only at *
  rw [hb1] at hcu
  have ha := bytesOf_bytesA a
  have hb := bytesOf_bytesA b
  refine ACalls.of_awp follows (st := st124) (plans := pl124) (n := 27) Tryz.func124 rfl (by kernel_rfl) (by kernel_rfl) (by kernel_rfl) ?_
  simp
  refine callK.of (hcu _) ?_
  rintro v σ' ⟨rfl, rfl⟩
  cases ok
  · simp [ha, hb]
  · simp [ha, hb]
    refine callK.of (hn1 _) ?_
    rintro v σ' ⟨rfl, rfl⟩
    cases h1 : nameS a
    · simp [hb]
    · simp [hb]
      refine callK.of (hn2 _) ?_
      rintro v σ' ⟨rfl, rfl⟩
      simp
set_option maxRecDepth 8000 in
theorem once_calls (o : Bool) (l : List UInt8) (hl : l.length ≤ 1000000) (σ : Store) : ACalls Tryz.prog 126 [.list o 1 (bytesA l)] σ fun v σ' => v = .lit (.bool (decide l.Nodup)) ∧ σ' = σ := by
  refine ACalls.of_awp follows (st := st126) (plans := pl126) (n := 19) Tryz.func126 rfl (by kernel_rfl) (by kernel_rfl) (by kernel_rfl) ?_
  simp
  refine codeK.loop follows (st := st126) (plans := pl126) (X := Nat) (fun i => i ≤ l.length ∧ (l.take i).Nodup)
    (fun i => [(0, .list false 1 (bytesA l)), (5, .list false 1 (bytesA l)), (6, .lit (.int .i64 l.length)), (7, .lit (.int .i64 i))]) (fun _ => σ) (fun i => l.length - i) 0 (by kernel_rfl) (by simp) (by simp) (Store.sub_refl _) fun i hi => ?_
  obtain ⟨hi, hk⟩ := hi
  by_cases hlt : i < l.length
  · have hw : IntKind.i64.wrap ((i : Int) + 1) = ((i + 1 : Nat) : Int) := wrap_i64 (by omega) (by omega)
    have hlt' : (i : Int) < l.length := by omega
    obtain ⟨b, hb⟩ : ∃ b, l[i] = b := ⟨_, rfl⟩
    have hg : ∀ h : i < (bytesA l).length, (bytesA l)[i]'h = .lit (.int .u8 b.toNat) := fun h => by
      rw [List.getElem_eq_iff, bytesA_get, List.getElem?_eq_getElem hlt, hb]; rfl
    have ht : (bytesA l).take i = bytesA (l.take i) := bytesA_take l i
    have hix := fun τ => indexByte_calls false (l.take i) b τ
    obtain ⟨h1, h2⟩ := ixByte_mem (l.take i) b
    have hts := List.take_succ_eq_append_getElem hlt
    rw [hb] at hts
    have hyes : b ∉ l.take i → (l.take (i + 1)).Nodup := fun h => by
      rw [hts, List.nodup_append]
      exact ⟨hk, by simp, fun x hx y hy => by simp at hy; rintro rfl; subst hy; exact h hx⟩
    have hno : b ∈ l.take i → ¬ l.Nodup := fun h hn => by
      have hn2 : (l.take (i + 1)).Nodup := hn.sublist (List.take_sublist _ _)
      rw [hts, List.nodup_append] at hn2
      exact hn2.2.2 b h b (by simp) rfl
    simp [hlt, hlt', hg, ht, hi]
    refine callK.of (hix _) ?_
    rintro v σ' ⟨rfl, rfl⟩
    by_cases hm : b ∈ l.take i
    · have h3 : ¬ Lib.indexByte (l.take i) b < 0 := fun h => h1.1 h hm
      have h4 : 0 ≤ Lib.indexByte (l.take i) b := by omega
      simp [h4, hno hm]
    · have h3 := h2 hm
      simp [h3]
      exact ⟨i + 1, ⟨by omega, hyes hm⟩, by omega, by rw [hw]; exact AV.le_refl _⟩
  · obtain rfl : i = l.length := by omega
    rw [List.take_length] at hk
    simp [hk]
/-- Does a list rise, and is each a function? -/
def riseAt (l : List UInt8) (i : Nat) : Prop := (l[i]?.getD 0).toNat ≤ 4 ∧ (0 < i → (l[i - 1]?.getD 0).toNat < (l[i]?.getD 0).toNat)
instance (l : List UInt8) (i : Nat) : Decidable (riseAt l i) := by unfold riseAt; infer_instance
def Rises (l : List UInt8) : Prop := ∀ i, i < l.length → riseAt l i
instance (l : List UInt8) : Decidable (Rises l) := by unfold Rises; infer_instance
set_option maxRecDepth 8000 in
theorem rises_calls (o : Bool) (l : List UInt8) (hl : l.length ≤ 1000000) (σ : Store) : ACalls Tryz.prog 73 [.list o 1 (bytesA l)] σ fun v σ' => v = .lit (.bool (decide (Rises l))) ∧ σ' = σ := by
  refine ACalls.of_awp follows (st := st73) (plans := pl73) (n := 28) Tryz.func73 rfl (by kernel_rfl) (by kernel_rfl) (by kernel_rfl) ?_
  simp
  refine codeK.loop follows (st := st73) (plans := pl73) (X := Nat) (fun i => i ≤ l.length ∧ ∀ j, j < i → riseAt l j)
    (fun i => [(0, .list false 1 (bytesA l)), (5, .list false 1 (bytesA l)), (6, .lit (.int .i64 l.length)), (7, .lit (.int .i64 i))]) (fun _ => σ) (fun i => l.length - i) 0 (by kernel_rfl) (by simp) (by simp) (Store.sub_refl _) fun i hi => ?_
  obtain ⟨hi, hk⟩ := hi
  by_cases hlt : i < l.length
  · have hw : IntKind.i64.wrap ((i : Int) + 1) = ((i + 1 : Nat) : Int) := wrap_i64 (by omega) (by omega)
    have hlt' : (i : Int) < l.length := by omega
    obtain ⟨b, hb⟩ : ∃ b, l[i]? = some b := ⟨_, List.getElem?_eq_getElem hlt⟩
    have hg : ∀ h : i < (bytesA l).length, (bytesA l)[i]'h = .lit (.int .u8 b.toNat) := fun h => by
      rw [List.getElem_eq_iff, bytesA_get, hb]; rfl
    have hat : riseAt l i ↔ b.toNat ≤ 4 ∧ (0 < i → (l[i - 1]?.getD 0).toNat < b.toNat) := by unfold riseAt; rw [hb]; rfl
    have hyes : riseAt l i → ∀ j, j < i + 1 → riseAt l j := fun h j hj => by
      by_cases e : j = i
      · subst e; exact h
      · exact hk j (by omega)
    have hno : ¬ riseAt l i → ¬ Rises l := fun h hr => h (hr i hlt)
    by_cases h4 : b.toNat ≤ 4
    · have h4' : ¬ (4 : Int) < (b.toNat : Int) := by omega
      by_cases h0 : i = 0
      · subst h0
        simp [hlt, hg, h4, h4']
        exact ⟨1, ⟨by omega, hyes (hat.2 ⟨h4, by omega⟩)⟩, by omega, by rw [show (1 : Int) = ((0 + 1 : Nat) : Int) from rfl]; exact AV.le_refl _⟩
      · have h0' : (0 : Int) < (i : Int) := by omega
        have hw2 : IntKind.i64.wrap ((i : Int) - 1) = ((i - 1 : Nat) : Int) := by rw [wrap_i64 (by omega) (by omega)]; omega
        obtain ⟨d, hd⟩ : ∃ d, l[i - 1]? = some d := ⟨_, List.getElem?_eq_getElem (by omega)⟩
        have hg2 : ∀ h : i - 1 < (bytesA l).length, (bytesA l)[i - 1]'h = .lit (.int .u8 d.toNat) := fun h => by
          rw [List.getElem_eq_iff, bytesA_get, hd]; rfl
        rw [hd] at hat
        have hil : i - 1 < l.length := by omega
        by_cases h5 : d.toNat < b.toNat
        · have h5' : ¬ (b.toNat : Int) ≤ (d.toNat : Int) := by omega
          simp [hlt, hlt', hg, h4, h4', h0', show 0 < i by omega, hw2, hg2, hil, h5']
          exact ⟨i + 1, ⟨by omega, hyes (hat.2 ⟨h4, fun _ => h5⟩)⟩, by omega, by rw [hw]; exact AV.le_refl _⟩
        · have h5' : (b.toNat : Int) ≤ (d.toNat : Int) := by omega
          have hn := hno fun h => h5 ((hat.1 h).2 (by omega))
          simp [hlt, hlt', hg, h4, h4', h0', show 0 < i by omega, hw2, hg2, hil, h5', hn]
    · have h4' : (4 : Int) < (b.toNat : Int) := by omega
      have hn := hno fun h => h4 (hat.1 h).1
      simp [hlt, hlt', hg, h4', show 4 < b.toNat by omega, hn]
  · obtain rfl : i = l.length := by omega
    have hr : Rises l := hk
    simp [hr]
end Go.Proofs.YteaidaolablegaaGreatDoor
