/-
  Maps of numbers to texts, as lists of pairs.
-/
import Derived.Test.YtkjcdnmjdanmpaaVPart13
set_option linter.unusedSimpArgs false
set_option linter.unusedVariables false
namespace Go.Proofs.Ytkjcdnmjdanmpaa
open Go Go.AL

def mapI (l : List (Int × ByteArray)) : List (Value × AV) := l.map fun p => (.int .i64 p.1, .lit (.string p.2))
@[simp] theorem mapI_length (l : List (Int × ByteArray)) : (mapI l).length = l.length := by simp [mapI]
theorem findI_none (s : Int) : ∀ (l : List (Int × ByteArray)) (i : Nat), (∀ p ∈ l, p.1 ≠ s) → findA (.int .i64) (.int .i64 s) (mapI l) i = some none
  | [], _, _ => rfl
  | p :: l, i, h => by
    have h1 : (s == p.1) = false := by simpa using fun e => h p (by simp) e.symm
    have ih := findI_none s l (i + 1) fun q hq => h q (by simp [hq])
    simp only [mapI, List.map_cons, findA, Instr.sameNow, if_true, h1] at ih ⊢
    exact ih
theorem findI_at (s : Int) (t : ByteArray) : ∀ (l m : List (Int × ByteArray)) (i : Nat), (∀ p ∈ l, p.1 ≠ s) → findA (.int .i64) (.int .i64 s) (mapI (l ++ (s, t) :: m)) i = some (some (i + l.length, .lit (.string t)))
  | [], m, i, _ => by simp [mapI, findA, Instr.sameNow]
  | p :: l, m, i, h => by
    have h1 : (s == p.1) = false := by simpa using fun e => h p (by simp) e.symm
    have ih := findI_at s t l m (i + 1) fun q hq => h q (by simp [hq])
    simp only [mapI, List.cons_append, List.map_cons, findA, Instr.sameNow, if_true, h1] at ih ⊢
    rw [ih]
    simp; omega
theorem setI_new {l : List (Int × ByteArray)} {s : Int} (t : ByteArray) (h : ∀ p ∈ l, p.1 ≠ s) : setA (.int .i64) (mapI l) (.int .i64 s) (.lit (.string t)) = some (mapI (l ++ [(s, t)])) := by
  rw [setA, findI_none s l 0 h]
  simp [mapI]
theorem getI_at {P : Program} {et : TypeId} {l m : List (Int × ByteArray)} {s : Int} (t : ByteArray) (h : ∀ p ∈ l, p.1 ≠ s) : getA P et false (.int .i64) (.int .i64 s) (mapI (l ++ (s, t) :: m)) = some (.lit (.string t)) := by
  rw [getA, findI_at s t l m 0 h]
  rfl
theorem getI_mem {P : Program} {et : TypeId} {l : List (Int × ByteArray)} (hd : l.Pairwise fun p q => p.1 ≠ q.1) {i : Nat} {p : Int × ByteArray} (hi : l[i]? = some p) : getA P et false (.int .i64) (.int .i64 p.1) (mapI l) = some (.lit (.string p.2)) := by
  have hlt : i < l.length := (List.getElem?_eq_some_iff.1 hi).1
  have hp : l[i] = p := (List.getElem?_eq_some_iff.1 hi).2
  have hsplit : l = l.take i ++ (p.1, p.2) :: l.drop (i + 1) := by
    have := List.take_append_drop i l
    rw [List.drop_eq_getElem_cons hlt, hp] at this
    exact this.symm
  rw [hsplit]
  refine getI_at p.2 fun q hq => ?_
  rw [hsplit, List.pairwise_append] at hd
  exact hd.2.2 q hq _ (by simp)
/-- What is there behind the first k. -/
def ansP (f : Nat → Option (List UInt8)) : Nat → List (Int × ByteArray)
  | 0 => []
  | k + 1 => ansP f k ++ (match f k with | none => [] | some t => [((k : Int), toB t)])
/-- The last entry's text that stands there. -/
def ansE (n : Int) (at0 : Int) : List (Int × List UInt8) → Option (List UInt8) → Option (List UInt8)
  | [], a => a
  | e :: l, a => ansE n at0 l (if e.1 = at0 then some (txtB n e.2) else a)
def optP (k : Int) : Option (List UInt8) → List (Int × ByteArray)
  | none => []
  | some t => [(k, toB t)]
end Go.Proofs.Ytkjcdnmjdanmpaa
/-
  Small things.
-/
namespace Go.Proofs.Ytkjcdnmjdanmpaa
open Go Go.AL

def entA (e : Int × List UInt8) : AV := .agg [.lit (.int .i64 e.1), .list false 1 (bytesA e.2)]
def entsA (l : List (Int × List UInt8)) : List AV := l.map entA
@[simp] theorem entsA_length (l : List (Int × List UInt8)) : (entsA l).length = l.length := by simp [entsA]
theorem put_mono {σ τ : Store} {g : Nat} {B : List AV} (h : Store.sub σ τ) : Store.sub (σ.put g B) (τ.put g B) := by
  refine Store.sub2 (fun o => by simpa using h (o : Int)) (fun i => ?_)
  by_cases e : i = g
  · subst e; right; simp
  · have := h (mkey i)
    simpa [e] using this
theorem put_same (σ : Store) (g : Nat) (A B : List AV) : (σ.put g A).put g B = σ.put g B := by
  refine Store.ext2 (fun o => by simp) (fun i => ?_)
  by_cases e : i = g <;> simp [e]
theorem encode_sg (r : Nat) (h : r < 55296) : Utf8.encode (r : Int) = toB (sgBytes r) := by
  have hv : Utf8.valid (r : Int) = true := by
    unfold Utf8.valid
    simp; omega
  unfold Utf8.encode
  rw [hv]
  simp only [if_true, Int.toNat_natCast]
  unfold sgBytes
  by_cases c : r ≤ 127
  · rw [if_pos (by omega), if_pos c]; rfl
  · by_cases d : r ≤ 2047
    · rw [if_neg (by omega), if_pos (by omega), if_neg c, if_pos d]; rfl
    · rw [if_neg (by omega), if_neg (by omega), if_pos (by omega), if_neg c, if_neg d]; rfl
theorem toB_app (l m : List UInt8) : toB l ++ toB m = toB (l ++ m) := by
  apply ByteArray.ext
  simp [toB]
def leftN (n : Nat) (seen : List Nat) : Nat := ((List.range n).filter fun i => decide (i ∉ seen)).length
theorem filter_le {α : Type} {p q : α → Bool} (h : ∀ x, q x = true → p x = true) : ∀ m : List α, (m.filter q).length ≤ (m.filter p).length
  | [] => Nat.le_refl _
  | y :: m => by
    have ih := filter_le h m
    cases hy : q y
    · cases hp : p y
      · rw [List.filter_cons_of_neg (by rw [hy]; simp), List.filter_cons_of_neg (by rw [hp]; simp)]; exact ih
      · rw [List.filter_cons_of_neg (by rw [hy]; simp), List.filter_cons_of_pos hp, List.length_cons]; omega
    · rw [List.filter_cons_of_pos hy, List.filter_cons_of_pos (h y hy), List.length_cons, List.length_cons]; omega
theorem filter_less {α : Type} {p q : α → Bool} (h : ∀ x, q x = true → p x = true) {a : α} : ∀ {l : List α}, a ∈ l → p a = true → q a = false → (l.filter q).length < (l.filter p).length
  | x :: l, hm, hp, hq => by
    rcases List.mem_cons.1 hm with rfl | hm
    · rw [List.filter_cons_of_neg (by rw [hq]; simp), List.filter_cons_of_pos hp, List.length_cons]
      have := filter_le h l
      omega
    · have ih := filter_less h hm hp hq
      cases hy : q x
      · cases hpx : p x
        · rw [List.filter_cons_of_neg (by rw [hy]; simp), List.filter_cons_of_neg (by rw [hpx]; simp)]; exact ih
        · rw [List.filter_cons_of_neg (by rw [hy]; simp), List.filter_cons_of_pos hpx, List.length_cons]; omega
      · rw [List.filter_cons_of_pos hy, List.filter_cons_of_pos (h x hy), List.length_cons, List.length_cons]; omega
theorem leftN_less {n i : Nat} {seen : List Nat} (hi : i < n) (hs : i ∉ seen) : leftN n (seen ++ [i]) < leftN n seen := by
  unfold leftN
  refine filter_less (a := i) (fun x hx => ?_) (by simpa using hi) (by simpa using hs) (by simp)
  simp only [decide_eq_true_eq, List.mem_append, not_or] at hx ⊢
  exact hx.1
def cutE (e : Int × List UInt8) : Int × List UInt8 := (e.1, e.2.take 30)
end Go.Proofs.Ytkjcdnmjdanmpaa
/-
  Answers that there are none of; a text's first bytes.
-/
namespace Go.Proofs.Ytkjcdnmjdanmpaa
open Go Go.AL

set_option maxRecDepth 8000 in
theorem rcopy_calls (o : Bool) (l : List UInt8) (hl : l.length ≤ 140737488355328) (σ : Store) : ACalls Try.prog 13 [.list o 1 (bytesA l)] σ fun v σ' => v = .list true 1 (bytesA l) ∧ σ' = σ := by
  refine ACalls.of_awp follows (st := st13) (plans := pl13) (n := 6) Try.func13 rfl (by kernel_rfl) (by kernel_rfl) (by kernel_rfl) ?_
  simp
  omega
set_option maxRecDepth 8000 in
theorem rcut_calls (l : List UInt8) (hl : l.length ≤ 9223372036854775807) (σ : Store) : ACalls Try.prog 5 [.list false 1 (bytesA l), .lit (.int .i64 30)] σ fun v σ' => v = .list true 1 (bytesA (l.take 30)) ∧ σ' = σ := by
  have hcp := fun (m : List UInt8) h τ => rcopy_calls false m h τ
  refine ACalls.of_awp follows (st := st5) (plans := pl5) (n := 14) Try.func5 rfl (by kernel_rfl) (by kernel_rfl) (by kernel_rfl) ?_
  by_cases h : 30 < l.length
  · have h' : (30 : Int) < l.length := by omega
    have h2 : 30 ≤ l.length := by omega
    have ht : (bytesA l).take 30 = bytesA (l.take 30) := by simp [bytesA, List.map_take]
    simp [h, h', h2, ht]
    refine callK.eq (hcp (l.take 30) (by rw [List.length_take]; omega) _) ?_
    simp
  · have h' : ¬ (30 : Int) < l.length := by omega
    have ht : l.take 30 = l := List.take_of_length_le (by omega)
    rw [ht]
    simp [h, h']
    refine callK.eq (hcp l (by omega) _) ?_
    simp
end Go.Proofs.Ytkjcdnmjdanmpaa
/-
  Entries as texts, in plain words.
-/
namespace Go.Proofs.Ytkjcdnmjdanmpaa
open Go Go.AL

def putI : List (Int × ByteArray) → Int → ByteArray → List (Int × ByteArray)
  | [], k, t => [(k, t)]
  | p :: l, k, t => if p.1 = k then (k, t) :: l else p :: putI l k t
theorem putI_new (k : Int) (t : ByteArray) : ∀ l : List (Int × ByteArray), (∀ p ∈ l, p.1 ≠ k) → putI l k t = l ++ [(k, t)]
  | [], _ => rfl
  | p :: l, h => by
    rw [putI, if_neg (h p (by simp)), putI_new k t l fun q hq => h q (by simp [hq])]
    rfl
theorem putI_old (k : Int) (t t0 : ByteArray) (m : List (Int × ByteArray)) : ∀ l : List (Int × ByteArray), (∀ p ∈ l, p.1 ≠ k) → putI (l ++ (k, t0) :: m) k t = l ++ (k, t) :: m
  | [], _ => by simp [putI]
  | p :: l, h => by
    rw [List.cons_append, putI, if_neg (h p (by simp)), putI_old k t t0 m l fun q hq => h q (by simp [hq])]
    rfl
theorem key_split (k : Int) : ∀ l : List (Int × ByteArray), (∀ p ∈ l, p.1 ≠ k) ∨ ∃ a t0 m, l = a ++ (k, t0) :: m ∧ ∀ p ∈ a, p.1 ≠ k
  | [] => .inl (by simp)
  | p :: l => by
    by_cases h : p.1 = k
    · exact .inr ⟨[], p.2, l, by rw [← h]; rfl, by simp⟩
    · rcases key_split k l with h1 | ⟨a, t0, m, rfl, h2⟩
      · exact .inl fun q hq => by
          rcases List.mem_cons.1 hq with rfl | hq
          · exact h
          · exact h1 q hq
      · exact .inr ⟨p :: a, t0, m, rfl, fun q hq => by
          rcases List.mem_cons.1 hq with rfl | hq
          · exact h
          · exact h2 q hq⟩
theorem setI_put (l : List (Int × ByteArray)) (k : Int) (t : ByteArray) : setA (.int .i64) (mapI l) (.int .i64 k) (.lit (.string t)) = some (mapI (putI l k t)) := by
  rcases key_split k l with h | ⟨a, t0, m, rfl, h⟩
  · rw [putI_new k t l h]; exact setI_new t h
  · rw [putI_old k t t0 m a h, setA, findI_at k t0 a m 0 h]
    simp [mapI]
theorem putI_apart (k : Int) (t : ByteArray) (l : List (Int × ByteArray)) (hd : l.Pairwise fun p q => p.1 ≠ q.1) : (putI l k t).Pairwise fun p q => p.1 ≠ q.1 := by
  rcases key_split k l with h | ⟨a, t0, m, rfl, h⟩
  · rw [putI_new k t l h, List.pairwise_append]
    exact ⟨hd, by simp, fun p hp q hq => by simp at hq; subst hq; exact h p hp⟩
  · rw [putI_old k t t0 m a h]
    rw [List.pairwise_append, List.pairwise_cons] at hd ⊢
    refine ⟨hd.1, ⟨hd.2.1.1, hd.2.1.2⟩, fun p hp q hq => ?_⟩
    rcases List.mem_cons.1 hq with rfl | hq
    · exact h p hp
    · exact hd.2.2 p hp q (by simp [hq])
/-- What is told of entries. -/
def valsP (n : Int) (es : List En) : List (Int × ByteArray) := es.foldl (fun l e => putI l e.addr (toB (txtB n e.text))) []
theorem valsP_snoc (n : Int) (es : List En) (i : Nat) (h : i < es.length) : valsP n (es.take (i + 1)) = putI (valsP n (es.take i)) es[i].addr (toB (txtB n es[i].text)) := by
  rw [valsP, List.take_succ_eq_append_getElem h, List.foldl_append]; rfl
theorem valsP_apart (n : Int) (es : List En) : (valsP n es).Pairwise fun p q => p.1 ≠ q.1 := by
  unfold valsP
  have : ∀ (l : List En) (A : List (Int × ByteArray)), (A.Pairwise fun p q => p.1 ≠ q.1) → (l.foldl (fun l e => putI l e.addr (toB (txtB n e.text))) A).Pairwise fun p q => p.1 ≠ q.1 := fun l => by
    induction l with
    | nil => exact fun A h => h
    | cons e l ih => exact fun A h => ih _ (putI_apart _ _ A h)
  exact this es [] (by simp)
def cutN (e : En) : En := ⟨e.addr, e.text.take 30⟩
def fewN (es : List En) (i : Nat) : List En := ((es.take 6).take i).map cutN
theorem ensA_get (l : List En) (i : Nat) (h : i < l.length) (h' : i < (ensA l).length) : (ensA l)[i]'h' = enA l[i] := by simp [ensA]
theorem fewN_succ (es : List En) (i : Nat) (h : i < es.length) : ensA (fewN es (i + 1)) = if i < 6 then ensA (fewN es i) ++ [enA (cutN es[i])] else ensA (fewN es i) := by
  unfold fewN
  split
  · rename_i h6
    have hlt : i < (es.take 6).length := by rw [List.length_take]; omega
    rw [List.take_succ_eq_append_getElem hlt, List.map_append, ensA, List.map_append, List.getElem_take]
    rfl
  · rw [List.take_take, List.take_take, Nat.min_eq_right (by omega), Nat.min_eq_right (by omega)]
theorem fewN_len (es : List En) (i : Nat) : (fewN es i).length ≤ 6 := by simp [fewN]; omega
theorem fewN_txt (es : List En) (i : Nat) : ∀ e ∈ fewN es i, e.text.length ≤ 30 := fun e he => by
  obtain ⟨x, _, rfl⟩ := List.mem_map.1 he
  simp [cutN]; omega
end Go.Proofs.Ytkjcdnmjdanmpaa
/-
  A report as the program has it.
-/
namespace Go.Proofs.Ytkjcdnmjdanmpaa
open Go Go.AL

theorem ensA_snoc (l : List En) (i : Nat) (h : i < l.length) : ensA (l.take (i + 1)) = ensA (l.take i) ++ [enA l[i]] := by
  rw [List.take_succ_eq_append_getElem h, ensA, ensA, List.map_append]; rfl
def rpC (r : Rp) : List AV := [byteA r.aid, .lit (.bool r.short), .lit (.int .i64 r.cursor), .list false 2 (ensA r.es)]
set_option maxHeartbeats 2000000 in
set_option maxRecDepth 8000 in
theorem own_calls (R : Rp) (hl : R.es.length ≤ 6) (hx : ∀ e ∈ R.es, e.text.length ≤ 30) (σ : Store) : ACalls Try.prog 9 [.agg (rpC R)] σ fun v σ' => v = .agg (rpC R) ∧ σ' = σ := by
  obtain ⟨aid, short, cur, es⟩ := R
  dsimp only at *
  unfold rpC byteA
  dsimp only
  refine ACalls.of_awp follows (st := st9) (plans := pl9) (n := 33) Try.func9 rfl (by kernel_rfl) (by kernel_rfl) (by kernel_rfl) ?_
  simp +contextual [ite_free]
  intro p1 hp1 p2 e1 e2 hp2 p3 e3 e4 e5 e6 hp3
  generalize hY : (σ.upd p1 _).upd p2 _ = Y
  have hsub : Store.sub σ Y := by rw [← hY]; exact Store.sub_upd (by simp [e1, e2, hp2]) (Store.sub_upd hp1 (Store.sub_refl _))
  have y2 : Y p2 = some [.lit (.int .u8 0), .lit (.bool false), .lit (.int .i64 0), .list true 2 []] := by rw [← hY]; simp
  have y3 : Y p3 = none := by rw [← hY]; simp [e3, e5, hp3]
  have s2 : σ p2 = none := hp2
  have s3 : σ p3 = none := hp3
  clear hY hp1 hp2 hp3 e1 e2 e5 e6
  refine codeK.loop follows (st := st9) (plans := pl9) (X := Nat) (fun i => i ≤ es.length)
    (fun i => [(2, .lit (.pointer (some ⟨p2, 0, none⟩))), (3, .lit (.pointer (some ⟨p3, 0, none⟩))), (14, .list false 2 (ensA es)), (15, .lit (.int .i64 es.length)), (16, .lit (.int .i64 i))]) (fun i => Y.upd p3 [.lit (.int .u8 (aid.toNat : Int)), .lit (.bool short), .lit (.int .i64 cur), .list true 2 (ensA (es.take i))]) (fun i => es.length - i) 0 (by kernel_rfl) (by simp) (by simp) (by simp [ensA]) fun i hi => ?_
  by_cases hlt : i < es.length
  · have hw : IntKind.i64.wrap ((i : Int) + 1) = ((i + 1 : Nat) : Int) := wrap_i64 (by omega) (by omega)
    have ha := ensA_get es i hlt
    have hsn := ensA_snoc es i hlt
    have hxl := hx _ (List.getElem_mem hlt)
    have hcp := fun τ => rcopy_calls false es[i].text (by omega) τ
    generalize es[i] = z at *
    obtain ⟨za, zt⟩ := z
    dsimp only at hxl hcp
    simp only [enA] at ha hsn
    simp +contextual [hlt, ha, ite_free]
    intro p5 a1 a2 hp5
    have hp5' : Y p5 = none := hp5
    repeat' first
      | with_reducible apply And.intro
      | (refine callK.eq (hcp _) ?_; simp [a1, a2])
    all_goals first
      | omega
      | exact ⟨i + 1, by omega, by omega, by rw [hw]; exact AV.le_refl _, by rw [hsn]; exact sub_box2 hp5' (by assumption)⟩
  · obtain rfl : i = es.length := by omega
    simp [y2, e3, e4]
    exact Store.sub_upd s2 (Store.sub_upd s3 hsub)
end Go.Proofs.Ytkjcdnmjdanmpaa
/-
  What is told of entries: the program's.
-/
namespace Go.Proofs.Ytkjcdnmjdanmpaa
open Go Go.AL

theorem upd_put (σ : Store) (a c : Nat) (A C : List AV) : (σ.upd a A).put c C = (σ.put c C).upd a A := by
  funext o
  unfold Store.put Store.upd
  by_cases h1 : o = mkey c
  · subst h1
    have : ¬ mkey c = (a : Int) := mkey_ne _ _
    simp [this]
  · simp [h1]
theorem pgS_mput {b g : Nat} {n : Int} {x : Option Nat} {σ : Store} (hx : ¬ x = some g) (X : List AV) : (pgS b n x σ).put g X = pgS b n x (σ.put g X) := by
  cases x with
  | none => exact Store.ext2 (fun o => by simp [pgS]) (fun i => by simp [pgS])
  | some p =>
    have hp : ¬ g = p := fun e => hx (by rw [e])
    refine Store.ext2 (fun o => by simp [pgS]) (fun i => ?_)
    by_cases e : i = g
    · subst e; simp [pgS, hp]
    · simp [pgS, e]
/-- The page's map beside another one. -/
structure PvO (σ : Store) (g : Nat) (x x1 : Option Nat) : Prop where
  nx : NxP σ x x1
  key : KeyP σ x1
  ne : ¬ x1 = some g
theorem PvO.next {σ τ : Store} {g : Nat} {x x1 x2 : Option Nat} (h : PvO σ g x x1) (hn : NxP τ x1 x2) (ht : ∀ k, τ (mkey k) = none → ¬ k = g ∧ σ (mkey k) = none) : PvO σ g x x2 := by
  rcases hn with rfl | ⟨k, rfl, hk⟩
  · exact h
  · obtain ⟨q1, q2⟩ := ht k hk
    exact ⟨.inr ⟨k, rfl, q2⟩, fun k' e => by obtain rfl := Option.some.inj e; exact q2, fun e => q1 (Option.some.inj e)⟩
structure VlSt where
  i : Nat
  x : Option Nat
/-- A page that is not built yet, or none. -/
def PgAt (a : Option Addr) (n : Int) (τ : Store) : Prop := (a = none ∧ n = 37) ∨ ∃ b, a = some ⟨b, 0, none⟩ ∧ isPage n ∧ τ (b : Nat) = some (pgA (.new n))
set_option maxHeartbeats 2000000 in
set_option maxRecDepth 8000 in
theorem vals_calls (a : Option Addr) (n : Int) (R : Rp) (hR : R.es.length ≤ 6 ∧ ∀ e ∈ R.es, e.text.length ≤ 30) (τ : Store) (hp : PgAt a n τ) :
    ACalls Try.prog 8 [.agg (rpC R), .lit (.pointer a)] τ fun v σ' => ∃ (g : Nat), v = .lit (.map (some g)) ∧ σ' (mkey g) = some (mapA (mapI (valsP n R.es))) ∧ ∀ (k : Nat) cs, τ (mkey k) = some cs → σ' (mkey k) = some cs := by
  obtain ⟨hR1, hR2⟩ := hR
  obtain ⟨aid, short, cur, es⟩ := R
  dsimp only at *
  unfold rpC byteA
  refine ACalls.of_awp follows (st := st8) (plans := pl8) (n := 31) Try.func8 rfl (by kernel_rfl) (by kernel_rfl) (by kernel_rfl) ?_
  have hA : valsP n es = valsP n (es.take es.length) := by rw [List.take_length]
  generalize valsP n es = A at *
  rcases hp with ⟨rfl, rfl⟩ | ⟨b, rfl, hn, hb⟩
  case' inl =>
    simp
    intro p2 hp2
    refine callK.of (page_new 37 (.inl rfl) _) ?_
    rintro v τ' ⟨b, hb, rfl, rfl⟩
    have hn : isPage 37 := .inl rfl
    generalize (37 : Int) = n at *
    have pb2 : ¬ p2 = b := fun e => by subst e; simp at hb
    generalize hS : τ.upd p2 _ = S
    have s2 : S p2 = some [.lit (.int .u8 (aid.toNat : Int)), .lit (.bool short), .lit (.int .i64 cur), .list false 2 (ensA es)] := by rw [← hS]; simp
    have sm : ∀ k, S (mkey k) = τ (mkey k) := fun k => by rw [← hS]; simp
    clear hS
    simp [pgS_other pb2, s2]
    intro g hg
    obtain ⟨xg, sg⟩ := pgS_key hg
    rw [sm] at sg
    rw [pgS_mput xg]
    have hm0 : mapA [] = mapA (mapI (valsP n (es.take 0))) := rfl
    rw [hm0]
  case' inr =>
    have hτ : τ = pgS b n none τ := (upd_back hb).symm
    simp
    intro p2 hp2 g hg
    have pb2 : ¬ p2 = b := fun e => by subst e; rw [hb] at hp2; cases hp2
    have hτ2 : τ.upd p2 [.lit (.int .u8 (aid.toNat : Int)), .lit (.bool short), .lit (.int .i64 cur), .list false 2 (ensA es)] = pgS b n none (τ.upd p2 [.lit (.int .u8 (aid.toNat : Int)), .lit (.bool short), .lit (.int .i64 cur), .list false 2 (ensA es)]) := by
      rw [← pgS_upd pb2, ← hτ]
    rw [hτ2]
    clear hτ2
    generalize hS : τ.upd p2 _ = S
    have s2 : S p2 = some [.lit (.int .u8 (aid.toNat : Int)), .lit (.bool short), .lit (.int .i64 cur), .list false 2 (ensA es)] := by rw [← hS]; simp
    have sm : ∀ k, S (mkey k) = τ (mkey k) := fun k => by rw [← hS]; simp
    clear hS
    have sg := hg
    have xg : ¬ (none : Option Nat) = some g := by simp
    rw [pgS_mput xg]
    have hm0 : mapA [] = mapA (mapI (valsP n (es.take 0))) := rfl
    rw [hm0]
  all_goals
    refine codeK.loop follows (st := st8) (plans := pl8) (X := VlSt) (fun y => y.i ≤ es.length ∧ PvO τ g none y.x)
      (fun y => [(1, pgP b), (5, .lit (.map (some g))), (16, .list false 2 (ensA es)), (17, .lit (.int .i64 es.length)), (18, .lit (.int .i64 y.i))]) (fun y => pgS b n y.x (S.put g (mapA (mapI (valsP n (es.take y.i)))))) (fun y => es.length - y.i) ⟨0, none⟩ (by kernel_rfl)
      ⟨by simp, .inl rfl, fun _ e => (by cases e), by simp⟩ (by simp) (Store.sub_refl _) fun y hy => ?_
    obtain ⟨i, x1⟩ := y
    obtain ⟨hi, hx1⟩ := hy
    dsimp only at hi hx1 ⊢
    by_cases hlt : i < es.length
    · have hw : IntKind.i64.wrap ((i : Int) + 1) = ((i + 1 : Nat) : Int) := wrap_i64 (by omega) (by omega)
      have ge := ensA_get es i hlt
      have hel := hR2 _ (List.getElem_mem hlt)
      have hst := valsP_snoc n es i hlt
      generalize es[i] = e at *
      obtain ⟨ea, et⟩ := e
      dsimp only at hel hst
      simp only [enA] at ge
      simp [hlt, ge]
      intro p7 hp7
      obtain ⟨pb7, f7⟩ := pgS_fresh hp7
      rw [put_nat] at f7
      rw [pgS_upd pb7, ← upd_put]
      generalize hU : S.upd p7 _ = U
      have subU : Store.sub S U := by rw [← hU]; exact Store.sub_upd f7 (Store.sub_refl _)
      have um : ∀ k, U (mkey k) = τ (mkey k) := fun k => by rw [← hU]; simp [sm]
      have u7 : U p7 = some [.lit (.int .i64 ea), .list false 1 (bytesA et)] := by rw [← hU]; simp
      clear hU
      have d7 : ∀ x1 M, (pgS b n x1 (U.put g M)) (p7 : Int) = some [.lit (.int .i64 ea), .list false 1 (bytesA et)] := fun x1 M => by rw [pgS_other pb7]; simp [u7]
      have hkey : ∀ M, KeyP (U.put g M) x1 := fun M k e => by
        have : ¬ k = g := fun e' => hx1.ne (by rw [e, e'])
        simp [this, um, hx1.key k e]
      have hread : ∀ x3 M, PvO τ g none x3 → (pgS b n x3 (U.put g M)) (mkey g) = some M := fun x3 M h => by rw [pgS_mkey h.ne]; simp
      have hput : ∀ x3 M B, PvO τ g none x3 → (pgS b n x3 (U.put g M)).put g B = pgS b n x3 (U.put g B) := fun x3 M B h => by rw [pgS_mput h.ne, put_same]
      have htx := fun M => ptext_calls b n hn x1 et (by omega) (U.put g M) (hkey M)
      have hset := setI_put (valsP n (es.take i)) ea (toB (txtB n et))
      repeat' first
        | with_reducible apply And.intro
        | (refine callK.of (htx _) ?_; rintro v τ' ⟨rfl, x3, hx3, rfl⟩; have hx3' : PvO τ g none x3 := hx1.next hx3 (fun k hk => by
            have hkg : ¬ k = g := fun e => by subst e; simp at hk
            exact ⟨hkg, by simpa [hkg, um] using hk⟩); simp [d7, hread _ _ hx3', hput _ _ _ hx3', hset]; exact ⟨⟨i + 1, x3⟩, ⟨by show i + 1 ≤ _; omega, hx3'⟩, by show es.length - (i + 1) < _; omega, by rw [hw]; exact AV.le_refl _, by rw [hst]; exact pgS_mono (put_mono subU)⟩)
    · obtain rfl : i = es.length := by omega
      simp
      refine ⟨_, AV.le_refl _, _, Store.sub_refl _, g, rfl, by rw [pgS_mkey hx1.ne, hA]; simp, fun k cs hk => ?_⟩
      have h1 : ¬ x1 = some k := fun e => by rw [hx1.key k e] at hk; cases hk
      have h2 : ¬ k = g := fun e => by subst e; rw [sg] at hk; cases hk
      rw [pgS_mkey h1]
      simp [h2, sm, hk]
end Go.Proofs.Ytkjcdnmjdanmpaa
/-
  Attributes with their places.
-/
namespace Go.Proofs.Ytkjcdnmjdanmpaa
open Go Go.AL

structure Ce where
  ch : UInt8
  attr : Bool
  a : UInt8
  b : UInt8
  c : UInt8
  d : UInt8
def ceC (x : Ce) : List AV := [byteA x.ch, .lit (.bool x.attr), byteA x.a, byteA x.b, byteA x.c, byteA x.d]
def cesA (l : List Ce) : List AV := l.map fun x => .agg (ceC x)
@[simp] theorem cesA_length (l : List Ce) : (cesA l).length = l.length := by simp [cesA]
theorem cesA_get (l : List Ce) (i : Nat) (h : i < l.length) (h' : i < (cesA l).length) : (cesA l)[i]'h' = .agg (ceC l[i]) := by simp [cesA]
def mkA (x : Nat × Ce) : AV := .agg (.lit (.int .i64 (x.1 : Nat)) :: ceC x.2)
def marksP (l : List Ce) : Nat → List AV
  | 0 => []
  | k + 1 => marksP l k ++ (match l[k]? with | some c => (if c.attr = true then [mkA (k, c)] else []) | none => [])
theorem marksP_succ (l : List Ce) (k : Nat) (h : k < l.length) : marksP l (k + 1) = if l[k].attr = true then marksP l k ++ [mkA (k, l[k])] else marksP l k := by
  rw [marksP, List.getElem?_eq_getElem h]
  dsimp only
  split <;> simp
theorem marksP_len (l : List Ce) : ∀ k, (marksP l k).length ≤ k
  | 0 => by simp [marksP]
  | k + 1 => by
    have := marksP_len l k
    rw [marksP, List.length_append]
    split
    · split <;> simp <;> omega
    · simp; omega
theorem marksP_mem (l : List Ce) : ∀ k, ∀ x ∈ marksP l k, ∃ y, x = mkA y
  | 0, x, h => by simp [marksP] at h
  | k + 1, x, h => by
    rw [marksP, List.mem_append] at h
    rcases h with h | h
    · exact marksP_mem l k x h
    · split at h
      · split at h
        · simp at h; exact ⟨_, h⟩
        · simp at h
      · simp at h
set_option maxHeartbeats 1000000 in
set_option maxRecDepth 8000 in
theorem fields_calls (l : List Ce) (hl : l.length ≤ 50) (σ : Store) : ACalls Try.prog 11 [.list false 6 (cesA l)] σ fun v σ' => v = .list true 7 (marksP l l.length) ∧ σ' = σ := by
  refine ACalls.of_awp follows (st := st11) (plans := pl11) (n := 23) Try.func11 rfl (by kernel_rfl) (by kernel_rfl) (by kernel_rfl) ?_
  simp
  refine codeK.loop follows (st := st11) (plans := pl11) (X := Nat) (fun i => i ≤ l.length)
    (fun i => [(3, .list true 7 (marksP l i)), (6, .list false 6 (cesA l)), (7, .lit (.int .i64 l.length)), (8, .lit (.int .i64 i))]) (fun _ => σ) (fun i => l.length - i) 0 (by kernel_rfl) (by simp) (by simp [marksP]) (Store.sub_refl _) fun i hi => ?_
  have hml := marksP_len l i
  by_cases hlt : i < l.length
  · have hw : IntKind.i64.wrap ((i : Int) + 1) = ((i + 1 : Nat) : Int) := wrap_i64 (by omega) (by omega)
    have ha := cesA_get l i hlt
    have hs := marksP_succ l i hlt
    generalize l[i] = c at *
    obtain ⟨c1, c2, c3, c4, c5, c6⟩ := c
    simp only [ceC, mkA] at ha hs
    generalize marksP l i = M at *
    simp [hlt, ha]
    intro p hp
    cases c2
    · simp at hs
      simp
      exact ⟨i + 1, by omega, by omega, ⟨by rw [hs]; exact AV.le_refl _, by rw [hw]; exact AV.le_refl _⟩, Store.sub_upd hp (Store.sub_refl _)⟩
    · simp at hs
      simp
      exact ⟨by omega, by omega, i + 1, by omega, by omega, ⟨by rw [hs]; exact AV.le_refl _, by rw [hw]; exact AV.le_refl _⟩, Store.sub_upd hp (Store.sub_refl _)⟩
  · obtain rfl : i = l.length := by omega
    simp
set_option maxHeartbeats 1000000 in
set_option maxRecDepth 8000 in
theorem equal_calls (M : List AV) (hM : ∀ x ∈ M, ∃ y, x = mkA y) (hl : M.length ≤ 50) (σ : Store) : ACalls Try.prog 10 [.list false 7 M, .list false 7 M] σ fun v σ' => v = .lit (.bool true) ∧ σ' = σ := by
  refine ACalls.of_awp follows (st := st10) (plans := pl10) (n := 26) Try.func10 rfl (by kernel_rfl) (by kernel_rfl) (by kernel_rfl) ?_
  simp
  refine codeK.loop follows (st := st10) (plans := pl10) (X := Nat) (fun i => i ≤ M.length)
    (fun i => [(0, .list false 7 M), (1, .list false 7 M), (12, .lit (.int .i64 M.length)), (13, .lit (.int .i64 i))]) (fun _ => σ) (fun i => M.length - i) 0 (by kernel_rfl) (by simp) (by simp) (Store.sub_refl _) fun i hi => ?_
  by_cases hlt : i < M.length
  · have hw : IntKind.i64.wrap ((i : Int) + 1) = ((i + 1 : Nat) : Int) := wrap_i64 (by omega) (by omega)
    obtain ⟨⟨y0, y1, y2, y3, y4, y5, y6⟩, hy⟩ := hM _ (List.getElem_mem hlt)
    simp only [mkA, ceC, byteA] at hy
    simp [hlt, hy]
    exact ⟨i + 1, by omega, by omega, by rw [hw]; exact AV.le_refl _⟩
  · obtain rfl : i = M.length := by omega
    simp
end Go.Proofs.Ytkjcdnmjdanmpaa
