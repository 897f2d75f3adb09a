/-
  A report of bytes: all of it.
-/
import Derived.Test.YtnlggjbcdienfaaPart12
namespace Go.Proofs.Ytnlggjbcdienfaa
open Go Go.AL

theorem le1_agg {xs ys : List AV} (h : AllLe1 xs ys) : (AV.agg xs).le1 (.agg ys) := fun F v hv => ⟨(AV.le_agg h F v hv).1, fun _ _ _ _ => by cases v <;> simp [Own1]⟩
theorem esO_flat (l : List En) : flat (l.map enO) = esO l := by simp [flat, esO, List.flatMap_map]
theorem esO_le (l : List En) : AllLe1 (flat (l.map enO)) (flat (ensA l)) := by
  induction l with
  | nil => exact trivial
  | cons e l ih => exact ⟨AV.le1_refl _, AV.le1_list true 1 (bytesA e.text), ih⟩
/-- What comes of bytes. -/
def ParS (p : List UInt8) (r : Rp) (e : Nat) : Prop := match p with
  | [a] => r = ⟨a, true, 0, []⟩ ∧ e = 0
  | a :: x :: y :: rest => if (decM x y).2 ≠ 0 then e = (decM x y).2 else TailS a false (decM x y).1 rest r e
  | _ => e = 2

theorem parse_tail2 (o ob : Bool) (p : List UInt8) (aid : UInt8) (short : Bool) (n : Nat) (rest : List UInt8) (hl : rest.length ≤ 500000000) (σ : Store)
    (hb : ∀ σ, ACalls Try.prog 53 [.list false 1 (bytesA p)] σ fun v σ' => v = .tuple [hdA aid short n, .list ob 1 (bytesA rest), .lit (.int .i64 0)] ∧ σ' = σ) :
    ACalls Try.prog 26 [.list o 1 (bytesA p)] σ (PaR (TailS aid short n rest) σ) := by
  refine (parse_tail o ob p aid short n rest hl σ hb).shiftAgg fun v σ' h => ?_
  rcases h with h | ⟨p, cap, es, rest', rfl, hT, h0, h1⟩
  · exact .inl ⟨v, σ', AV.le_refl _, Store.sub_refl _, h⟩
  · by_cases hne : es = []
    · subst hne
      obtain rfl := h0 rfl
      refine .inl ⟨_, σ', ?_, Store.sub_refl _, false, ⟨aid, short, n, []⟩, 0, rfl, rfl, hT⟩
      exact AV.le_tuple ⟨le1_agg ⟨AV.le1_refl _, AV.le1_refl _, AV.le1_refl _, AV.le1_nil false 2, trivial⟩, AV.le1_refl _, trivial⟩
    · obtain ⟨h2, h3, h4, rfl⟩ := h1 hne
      have hfl := esO_flat es
      have hlen : (es.map enO).length = es.length := by simp
      have hd : (σ.upd p (esO es ++ rest')).del p = σ := by
        funext k; simp only [Store.del, Store.upd]; split
        · rename_i h; subst h; exact h2.symm
        · rfl
      refine .inr ⟨p, cap, 2, es.map enO, rest', [byteA aid, .lit (.bool short), .lit (.int .i64 n)], [], [.lit (.int .i64 0)], ?_, rfl, ?_, ?_, h4, ?_, ?_, ensA es, ?_, ?_⟩
      · simp [rowT, hne, rowN]
      · rw [hfl]; simp [Store.upd]
      · rw [hfl]; exact h3
      · rw [hlen]; rw [List.length_append, esO_length] at h3; omega
      · intro v hv
        obtain ⟨e, _, rfl⟩ := List.mem_map.1 hv; rfl
      · refine AV.le_els (by simp) (fun v hv => ?_) (esO_le es)
        obtain ⟨e, _, rfl⟩ := List.mem_map.1 hv; rfl
      · rw [hd]
        exact ⟨false, ⟨aid, short, n, es⟩, 0, rfl, rfl, hT⟩

set_option maxRecDepth 4000 in
theorem parse_err (o : Bool) (p : List UInt8) (e : Nat) (he : e ≠ 0) (σ : Store)
    (hb : ∀ σ, ACalls Try.prog 53 [.list false 1 (bytesA p)] σ fun v σ' => v = .tuple [hdA 0 false 0, .list true 1 [], .lit (.int .i64 e)] ∧ σ' = σ) :
    ACalls Try.prog 26 [.list o 1 (bytesA p)] σ fun v σ' => v = .tuple [rpO false ⟨0, false, 0, []⟩, .lit (.int .i64 e)] ∧ σ' = σ := by
  have hh : hdA 0 false 0 = .agg [byteA 0, .lit (.bool false), .lit (.int .i64 0), .lit (.slice none 0 0)] := rfl
  have he' : ¬ (e : Int) = 0 := by omega
  refine ACalls.of_awp follows (st := st26) (plans := pl26) (n := 65) Try.func26 rfl (by kernel_rfl) (by kernel_rfl) (by kernel_rfl) ?_
  simp
  intro r0 hr0
  refine callK.of (hb _) ?_
  rintro v σ' ⟨rfl, rfl⟩
  simp [-Bool.exists_bool, hh]
  intro q hq
  simp only [ite_none] at hq
  obtain ⟨hqr, hq⟩ := hq
  have hrq := Ne.symm hqr
  simp [-Bool.exists_bool, hrq, he]
  exact ⟨AV.le_refl _, by (intro q; simp only [Store.upd, Store.del]; (repeat' split) <;> first | exact Or.inr rfl | exact Or.inl rfl | (exfalso; omega) | (left; subst_vars; assumption) | simp_all)⟩
/-- What comes of bytes, and how. -/
theorem parse_calls (o : Bool) (p : List UInt8) (hl : p.length ≤ 500000000) (σ : Store) : ACalls Try.prog 26 [.list o 1 (bytesA p)] σ (PaR (ParS p) σ) := by
  have err : ∀ e : Nat, e ≠ 0 → ParS p ⟨0, false, 0, []⟩ e → (∀ σ, ACalls Try.prog 53 [.list false 1 (bytesA p)] σ fun v σ' => v = .tuple [hdA 0 false 0, .list true 1 [], .lit (.int .i64 e)] ∧ σ' = σ) →
      ACalls Try.prog 26 [.list o 1 (bytesA p)] σ (PaR (ParS p) σ) := fun e he hs hb =>
    (parse_err o p e he σ hb).mono fun v σ' ⟨h1, h2⟩ => ⟨false, ⟨0, false, 0, []⟩, e, h1, h2, hs⟩
  have hb := fun σ => begin_calls false p (by omega) σ
  rcases p with _ | ⟨a, _ | ⟨x, _ | ⟨y, rest⟩⟩⟩
  · exact err 2 (by simp) rfl hb
  · refine (parse_tail2 o true [a] a true 0 [] (by simp) σ hb).mono fun v σ' ⟨ow, r, e, h1, h2, os, e2, h3, h4, h5⟩ => ⟨ow, r, e, h1, h2, ?_⟩
    have hos : os = [] := List.eq_nil_of_length_eq_zero (by simpa using h4)
    subst hos
    have he2 : e2 = 0 := by
      cases h3 with
      | nil => rfl
      | bad h => have := h.len; simp at this
    subst he2
    show r = _ ∧ e = 0
    simpa [entsS] using h5
  · exact err 2 (by simp) rfl hb
  · have h : ∀ σ, ACalls Try.prog 53 [.list false 1 (bytesA (a :: x :: y :: rest))] σ fun v σ' => v = (if (decM x y).2 ≠ 0 then .tuple [hdA 0 false 0, .list true 1 [], .lit (.int .i64 (decM x y).2)] else .tuple [hdA a false (decM x y).1, .list false 1 (bytesA rest), .lit (.int .i64 0)]) ∧ σ' = σ := hb
    by_cases he : (decM x y).2 ≠ 0
    · rw [if_pos he] at h
      exact err _ he (by show if _ then _ else _; rw [if_pos he]) h
    · rw [if_neg he] at h
      refine (parse_tail2 o false _ a false _ rest (by simp at hl; omega) σ h).mono fun v σ' ⟨ow, r, e, h1, h2, h3⟩ => ⟨ow, r, e, h1, h2, ?_⟩
      show if _ then _ else _
      rw [if_neg he]; exact h3
end Go.Proofs.Ytnlggjbcdienfaa
/-
  All orders of bytes, as a function; the entries that they make.
-/
namespace Go.Proofs.Ytnlggjbcdienfaa
open Go Go.AL

def allN : Nat → List UInt8 → List Op × Nat
  | 0, _ => ([], 0)
  | _ + 1, [] => ([], 0)
  | n + 1, c :: tl => if (opF (c :: tl)).1 = 0 then ((opF (c :: tl)).2.1 :: (allN n (opF (c :: tl)).2.2).1, (allN n (opF (c :: tl)).2.2).2) else ([], (opF (c :: tl)).1)
theorem opF_len {l : List UInt8} (h : l ≠ []) : (opF l).2.2.length < l.length := (step_of h rfl).len
theorem AllS.allN {l : List UInt8} {os : List Op} {e : Nat} (h : AllS l os e) : ∀ n, l.length ≤ n → allN n l = (os, e) := by
  induction h with
  | nil => intro n _; cases n <;> rfl
  | @ok l l' o os e h1 h2 ih =>
    intro n hn
    have hlen := h1.len
    have hfn := h1.fn
    rcases l with _ | ⟨c, tl⟩
    · simp at hlen
    cases n with
    | zero => simp at hn
    | succ n =>
      have := ih n (by omega)
      simp only [Go.Proofs.Ytnlggjbcdienfaa.allN, hfn, if_true, this]
  | @bad l l' o e h1 h2 =>
    intro n hn
    have hlen := h1.len
    have hfn := h1.fn
    rcases l with _ | ⟨c, tl⟩
    · simp at hlen
    cases n with
    | zero => simp at hn
    | succ n => simp only [Go.Proofs.Ytnlggjbcdienfaa.allN, hfn, if_neg h2]
theorem allN_more : ∀ (n : Nat) (l : List UInt8), l.length ≤ n → allN n l = allN l.length l := by
  intro n
  induction n using Nat.strongRecOn with
  | _ n ih =>
    intro l hl
    rcases l with _ | ⟨c, tl⟩
    · cases n <;> rfl
    cases n with
    | zero => simp at hl
    | succ n =>
      simp only [List.length_cons] at hl ⊢
      have h1 := opF_len (l := c :: tl) (by simp)
      simp only [List.length_cons] at h1
      have e1 := ih n (by omega) (opF (c :: tl)).2.2 (by omega)
      have e2 := ih tl.length (by omega) (opF (c :: tl)).2.2 (by omega)
      simp only [allN, e1, e2]
def allF (l : List UInt8) : List Op × Nat := allN l.length l
theorem AllS.fn {l : List UInt8} {os : List Op} {e : Nat} (h : AllS l os e) : allF l = (os, e) := h.allN _ (Nat.le_refl _)
theorem allF_nil : allF [] = ([], 0) := rfl
theorem allF_cons {c : UInt8} {tl : List UInt8} : allF (c :: tl) = if (opF (c :: tl)).1 = 0 then ((opF (c :: tl)).2.1 :: (allF (opF (c :: tl)).2.2).1, (allF (opF (c :: tl)).2.2).2) else ([], (opF (c :: tl)).1) := by
  have h1 := opF_len (l := c :: tl) (by simp)
  simp only [List.length_cons] at h1
  rw [allF, List.length_cons, allN, allN_more tl.length _ (by omega)]; rfl

/-- The entries that bytes make, behind some. -/
def entF (es : List En) (l : List UInt8) : Option (List En) := if (allF l).2 = 0 then (allF l).1.foldlM entS es else none
theorem entF_nil (es : List En) : entF es [] = some es := rfl
theorem entF_cons {es : List En} {c : UInt8} {tl : List UInt8} {o : Op} {l' : List UInt8} (h : opF (c :: tl) = (0, o, l')) : entF es (c :: tl) = (entS es o).bind fun es' => entF es' l' := by
  unfold entF
  rw [allF_cons, h]
  simp only [if_true]
  by_cases h0 : (allF l').2 = 0
  · simp [h0]
  · simp [h0]
theorem entF_sba {es : List En} {x y : UInt8} {l : List UInt8} {n : Nat} (h : decM x y = (n, 0)) : entF es (17 :: x :: y :: l) = entF (es ++ [⟨n, []⟩]) l := by
  have : opF (17 :: x :: y :: l) = (0, sbaOp n, l) := by rw [opF_17]; simp [adE, adN, adL, h, sbaOp]
  rw [entF_cons this]
  simp [entS, sbaOp]
theorem entF_ge {es : List En} {c : UInt8} {l : List UInt8} (h : isOrd c = false) : entF es (8 :: c :: l) = entF (addE es [c]) l := by
  have : opF (8 :: c :: l) = (0, { kind := 8, code := c }, l) := by rw [opF_8]; simp [chE, h]
  rw [entF_cons this]
  simp [entS]
theorem entF_sa {es : List En} {t v : UInt8} {l : List UInt8} (h : chkE t v = 0) : entF es (40 :: t :: v :: l) = entF es l := by
  have : opF (40 :: t :: v :: l) = (0, { kind := 40, pairs := [(t, v)] }, l) := by rw [opF_40]; simp [prE, prP, prL, h]
  rw [entF_cons this]
  simp [entS]
theorem addE_addE (es : List En) (t u : List UInt8) : addE (addE es t) u = addE es (t ++ u) := by
  rcases List.eq_nil_or_concat es with rfl | ⟨init, last, rfl⟩
  · rw [addE_nil, addE_nil]; exact addE_more [] ⟨0, t⟩ u
  · rw [List.concat_eq_append, addE_more, addE_more, addE_more]; simp
theorem untilO_cons {c : UInt8} {l : List UInt8} (h : isOrd c = false) : untilO (c :: l) = c :: untilO l := by simp [untilO, h]
theorem fromO_cons {c : UInt8} {l : List UInt8} (h : isOrd c = false) : fromO (c :: l) = fromO l := by simp [fromO, h]
theorem entF_text {es : List En} {c : UInt8} {l : List UInt8} (h : isOrd c = false) : entF es (c :: l) = entF (addE es [c]) l := by
  have h1 := opF_text c l h
  rw [entF_cons h1]
  have e1 : entS es (txtOp (untilO (c :: l))) = some (addE es (c :: untilO l)) := by simp [entS, txtOp, untilO_cons h]
  rw [e1, Option.bind_some, fromO_cons h]
  rcases l with _ | ⟨d, tl⟩
  · rfl
  · by_cases hd : isOrd d = false
    · have h2 := opF_text d tl hd
      rw [entF_cons h2]
      have e2 : entS (addE es [c]) (txtOp (untilO (d :: tl))) = some (addE (addE es [c]) (untilO (d :: tl))) := by simp [entS, txtOp]
      rw [e2, Option.bind_some, addE_addE]; rfl
    · have hd' : isOrd d = true := by simpa using hd
      have e3 : untilO (d :: tl) = [] := by simp [untilO, hd']
      have e4 : fromO (d :: tl) = d :: tl := by simp [fromO, hd']
      rw [e3, e4]
theorem entF_some {es : List En} {l : List UInt8} {r : List En} (h : entF es l = some r) : (allF l).2 = 0 ∧ (allF l).1.foldlM entS es = some r := by
  unfold entF at h; split at h
  · exact ⟨by assumption, h⟩
  · cases h
end Go.Proofs.Ytnlggjbcdienfaa
/-
  The screen as the document has it: cells, fields; in plain Lean.
-/
namespace Go.Sp

structure Cell where
  char : UInt8 := 0
  attr : Bool := false
  fa : UInt8 := 0
  high : UInt8 := 0
  color : UInt8 := 0
  set : UInt8 := 0
  deriving DecidableEq, Inhabited
def Cell.zero : Cell := {}
/-- Six bits of an attribute, without the one that means nothing. -/
def six (b : UInt8) : UInt8 := b &&& 0x3d
def fit (c : Cell) : Cell := if c.attr = true then { c with char := 0, fa := six c.fa } else { c with fa := 0 }
theorem six_six (b : UInt8) : six (six b) = six b := by simp [six, UInt8.and_assoc]
theorem fit_fit (c : Cell) : fit (fit c) = fit c := by
  unfold fit
  by_cases h : c.attr = true <;> simp [h, six_six]
def fitted (c : Cell) : Prop := fit c = c
theorem fitted_fit (c : Cell) : fitted (fit c) := fit_fit c
theorem fitted_zero : fitted .zero := rfl

/-- The place of a number. -/
def wrap (n : Nat) (k : Int) : Nat := (k % (n : Int)).toNat
theorem wrap_lt {n : Nat} (h : 0 < n) (k : Int) : wrap n k < n := by
  unfold wrap
  have h1 := Int.emod_nonneg k (show (n : Int) ≠ 0 by omega)
  have h2 := Int.emod_lt_of_pos k (show (0 : Int) < n by omega)
  omega
theorem wrap_of_lt {n k : Nat} (h : k < n) : wrap n k = k := by
  unfold wrap
  rw [Int.emod_eq_of_lt (by omega) (by omega)]; simp

/-- Rows and columns of a model, of the usual size or of its own. -/
def dims (model : Nat) (alt : Bool) : Nat × Nat := if alt = true then (if model = 3 then (32, 80) else if model = 4 then (43, 80) else if model = 5 then (27, 132) else (24, 80)) else (24, 80)
structure Sp where
  model : Nat
  alt : Bool
  cells : List Cell
  cursor : Nat
def Sp.rows (s : Sp) : Nat := (dims s.model s.alt).1
def Sp.cols (s : Sp) : Nat := (dims s.model s.alt).2
def Sp.n (s : Sp) : Nat := s.rows * s.cols
structure Sp.good (s : Sp) : Prop where
  model : 2 ≤ s.model ∧ s.model ≤ 5
  len : s.cells.length = s.n
  cursor : s.cursor < s.n
  fit : ∀ c ∈ s.cells, fitted c
theorem dims_bound (m : Nat) (a : Bool) : 24 ≤ (dims m a).1 ∧ (dims m a).1 ≤ 43 ∧ 80 ≤ (dims m a).2 ∧ (dims m a).2 ≤ 132 ∧ 1920 ≤ (dims m a).1 * (dims m a).2 ∧ (dims m a).1 * (dims m a).2 ≤ 3564 := by
  unfold dims
  cases a <;> simp
  (repeat' split) <;> simp
theorem Sp.n_pos (s : Sp) : 0 < s.n := by have := dims_bound s.model s.alt; unfold Sp.n Sp.rows Sp.cols; omega
theorem Sp.n_le (s : Sp) : s.n ≤ 3564 := by have := dims_bound s.model s.alt; unfold Sp.n Sp.rows Sp.cols; omega
def Sp.clear (s : Sp) (alt : Bool) : Sp := { s with alt := alt, cells := List.replicate ((dims s.model alt).1 * (dims s.model alt).2) .zero, cursor := 0 }
def Sp.new (model : Nat) : Sp := Sp.clear ⟨model, false, [], 0⟩ false
def Sp.at (s : Sp) (k : Int) : Cell := s.cells[wrap s.n k]?.getD .zero
def Sp.put1 (s : Sp) (i : Nat) (c : Cell) : Sp := { s with cells := s.cells.set i c }
def Sp.set (s : Sp) (k : Int) (c : Cell) : Sp := s.put1 (wrap s.n k) (Sp.fit c)
def Sp.put (s : Sp) (k : Int) (code : UInt8) : Sp := if (s.at k).attr = true then s else s.set k { s.at k with char := code }
def Sp.place (s : Sp) (k : Int) : Sp := { s with cursor := wrap s.n k }
/-- How many attributes. -/
def Sp.count (s : Sp) : Nat := s.cells.countP (·.attr)
def Sp.attrs (s : Sp) : List Nat := (List.range s.cells.length).filter fun i => (s.cells[i]?.getD .zero).attr
theorem Sp.clear_good {s : Sp} (h : 2 ≤ s.model ∧ s.model ≤ 5) (alt : Bool) : (s.clear alt).good := by
  have := dims_bound s.model alt
  refine ⟨h, by simp [Sp.clear, Sp.n, Sp.rows, Sp.cols], ?_, fun c hc => ?_⟩
  · show 0 < (dims s.model alt).1 * (dims s.model alt).2; omega
  · simp [Sp.clear] at hc; rw [hc.2]; exact fitted_zero
theorem Sp.n_put1 (s : Sp) (i : Nat) (c : Cell) : (s.put1 i c).n = s.n := rfl
theorem Sp.good.put1 {s : Sp} (h : s.good) (i : Nat) {c : Cell} (hc : fitted c) : (s.put1 i c).good := by
  refine ⟨h.model, by rw [Sp.n_put1]; simp [Sp.put1, h.len], h.cursor, fun d hd => ?_⟩
  rcases List.mem_or_eq_of_mem_set hd with h' | h'
  · exact h.fit d h'
  · rw [h']; exact hc
theorem Sp.good.set {s : Sp} (h : s.good) (k : Int) (c : Cell) : (s.set k c).good := Sp.good.put1 h _ (fitted_fit c)
theorem Sp.good.place {s : Sp} (h : s.good) (k : Int) : (s.place k).good := ⟨h.model, h.len, wrap_lt s.n_pos k, h.fit⟩
theorem Sp.good.put {s : Sp} (h : s.good) (k : Int) (code : UInt8) : (s.put k code).good := by
  unfold Sp.put; split
  · exact h
  · exact Sp.good.set h _ _

/-! ### Ways to make a screen -/
structure Act where
  what : UInt8
  n : Int
  on : Bool
  code : UInt8
  c : Cell
  text : List UInt8
def putAll (s : Sp) (k : Int) : Nat → List UInt8 → Sp
  | _, [] => s
  | i, c :: l => putAll (s.put (k + i) c) k (i + 1) l
def Sp.act (s : Sp) (a : Act) : Sp :=
  if a.what.toNat % 6 = 0 then s.clear a.on else if a.what.toNat % 6 = 1 then s.place a.n else if a.what.toNat % 6 = 2 then s.put a.n a.code else
  if a.what.toNat % 6 = 3 then s.set a.n { attr := true, fa := a.code } else if a.what.toNat % 6 = 4 then s.set a.n a.c else putAll s (wrap s.n a.n) 0 (a.text.take 200)
theorem Sp.model_put (s : Sp) (k : Int) (c : UInt8) : (s.put k c).model = s.model ∧ (s.put k c).alt = s.alt := by
  unfold Sp.put; split <;> exact ⟨rfl, rfl⟩
theorem putAll_good (k : Int) : ∀ (l : List UInt8) (i : Nat) {s : Sp}, s.good → (putAll s k i l).good
  | [], _, _, h => h
  | _ :: l, i, _, h => putAll_good k l (i + 1) (Sp.good.put h _ _)
theorem putAll_model (k : Int) : ∀ (l : List UInt8) (i : Nat) (s : Sp), (putAll s k i l).model = s.model
  | [], _, _ => rfl
  | c :: l, i, s => (putAll_model k l (i + 1) _).trans (s.model_put _ c).1
theorem putAll_alt (k : Int) : ∀ (l : List UInt8) (i : Nat) (s : Sp), (putAll s k i l).alt = s.alt
  | [], _, _ => rfl
  | c :: l, i, s => (putAll_alt k l (i + 1) _).trans (s.model_put _ c).2
theorem putAll_n (k : Int) (l : List UInt8) (i : Nat) (s : Sp) : (putAll s k i l).n = s.n := by
  simp only [Sp.n, Sp.rows, Sp.cols, putAll_model, putAll_alt]
theorem Sp.good.act {s : Sp} (h : s.good) (a : Act) : (s.act a).good := by
  unfold Sp.act
  (repeat' split)
  · exact Sp.clear_good h.model _
  · exact h.place _
  · exact Sp.good.put h _ _
  · exact Sp.good.set h _ _
  · exact Sp.good.set h _ _
  · exact putAll_good _ _ _ h
theorem Sp.model_act (s : Sp) (a : Act) : (s.act a).model = s.model := by
  unfold Sp.act
  (repeat' split) <;> first | rfl | exact (s.model_put _ _).1 | exact putAll_model _ _ _ _
def lays (model : UInt8) (acts : List Act) : Sp := (acts.take 30).foldl Sp.act (Sp.new (2 + model.toNat % 4))
theorem new_good {m : Nat} (h : 2 ≤ m ∧ m ≤ 5) : (Sp.new m).good := Sp.clear_good h false
theorem foldl_good : ∀ (l : List Act) {s : Sp}, s.good → (l.foldl Sp.act s).good
  | [], _, h => h
  | a :: l, _, h => foldl_good l (h.act a)
theorem lays_good (model : UInt8) (acts : List Act) : (lays model acts).good := foldl_good _ (new_good ⟨by omega, by omega⟩)
end Go.Sp
/-
  Fields of the screen, as the document has them and as one goes from place to place; in plain Lean.
-/
namespace Go.Sp

def attrAt (l : List Cell) (i : Nat) : Bool := (l[i]?.getD .zero).attr
/-- The last attribute ahead of m, or what there was. -/
def lastA (l : List Cell) (init : Int) : Nat → Int
  | 0 => init
  | m + 1 => if attrAt l m = true then (m : Int) else lastA l init m
theorem lastA_none {l : List Cell} {init : Int} : ∀ {m : Nat}, (∀ i, i < m → attrAt l i = false) → lastA l init m = init
  | 0, _ => rfl
  | m + 1, h => by
    rw [lastA, if_neg (by rw [h m (by omega)]; simp)]
    exact lastA_none fun i hi => h i (by omega)
theorem lastA_at {l : List Cell} {init : Int} {a : Nat} (ha : attrAt l a = true) : ∀ {m : Nat}, a < m → (∀ i, a < i → i < m → attrAt l i = false) → lastA l init m = a
  | m + 1, hm, h => by
    by_cases hma : m = a
    · subst hma; rw [lastA, if_pos ha]
    · rw [lastA, if_neg (by rw [h m (by omega) (by omega)]; simp)]
      exact lastA_at ha (by omega) fun i h1 h2 => h i h1 (by omega)
/-- Of each place the place of its field's attribute. -/
def startS (l : List Cell) (n : Nat) : Int := lastA l (lastA l (-1) l.length) (n + 1)
theorem startS_attr {l : List Cell} {n : Nat} (h : attrAt l n = true) : startS l n = n := by
  rw [startS, lastA, if_pos h]
theorem startS_in {l : List Cell} {a i : Nat} (ha : attrAt l a = true) (hal : a < l.length) (hi : i < l.length) (h : ∀ j, 1 ≤ j → j ≤ i → attrAt l ((a + j) % l.length) = false) : startS l ((a + i) % l.length) = a := by
  have at_ : ∀ x, a < x → x ≤ a + i → x < l.length → attrAt l x = false := fun x h1 h2 h3 => by
    have := h (x - a) (by omega) (by omega)
    rwa [show a + (x - a) = x by omega, Nat.mod_eq_of_lt h3] at this
  by_cases hc : a + i < l.length
  · rw [Nat.mod_eq_of_lt hc]
    exact lastA_at ha (by omega) fun x h1 h2 => at_ x h1 (by omega) (by omega)
  · have hm : (a + i) % l.length = a + i - l.length := by rw [Nat.mod_eq_sub_mod (by omega), Nat.mod_eq_of_lt (by omega)]
    rw [hm, startS, lastA_none fun x hx => ?_]
    · exact lastA_at ha hal fun x h1 h2 => at_ x h1 (by omega) h2
    · have := h (x + l.length - a) (by omega) (by omega)
      rwa [show a + (x + l.length - a) = x + l.length by omega, Nat.add_mod_right, Nat.mod_eq_of_lt (by omega)] at this

/-- The places of the field behind an attribute: as many as come ahead of the next one. -/
def run (l : List Cell) (a : Nat) : Nat → Nat
  | 0 => 0
  | m + 1 => if run l a m = m ∧ attrAt l ((a + m + 1) % l.length) = false then m + 1 else run l a m
theorem run_le (l : List Cell) (a : Nat) : ∀ m, run l a m ≤ m
  | 0 => Nat.le_refl _
  | m + 1 => by rw [run]; split <;> have := run_le l a m <;> omega
theorem run_free {l : List Cell} {a : Nat} : ∀ {m j : Nat}, 1 ≤ j → j ≤ run l a m → attrAt l ((a + j) % l.length) = false
  | 0, j, h1, h2 => by simp [run] at h2; omega
  | m + 1, j, h1, h2 => by
    rw [run] at h2
    split at h2
    · rename_i hc
      by_cases hj : j = m + 1
      · subst hj; exact hc.2
      · exact run_free (m := m) h1 (by omega)
    · exact run_free (m := m) h1 h2
theorem run_stop {l : List Cell} {a : Nat} : ∀ {m : Nat}, run l a m < m → attrAt l ((a + run l a m + 1) % l.length) = true
  | m + 1, h => by
    rw [run] at h ⊢
    split at h
    · omega
    · rename_i hc
      rw [if_neg hc]
      by_cases hm : run l a m = m
      · have : ¬ attrAt l ((a + m + 1) % l.length) = false := fun hf => hc ⟨hm, hf⟩
        rw [hm]; simpa using this
      · exact run_stop (by have := run_le l a m; omega)
def len (l : List Cell) (a : Nat) : Nat := run l a (l.length - 1)
def places (l : List Cell) (a : Nat) : List Nat := (List.range (len l a)).map fun i => (a + i + 1) % l.length
theorem len_lt {l : List Cell} {a : Nat} (h : a < l.length) : len l a < l.length := by have := run_le l a (l.length - 1); unfold len; omega
/-- Behind the places of a field there is an attribute. -/
theorem len_stop {l : List Cell} {a : Nat} (ha : attrAt l a = true) (hal : a < l.length) : attrAt l ((a + len l a + 1) % l.length) = true := by
  by_cases h : run l a (l.length - 1) < l.length - 1
  · exact run_stop h
  · have := run_le l a (l.length - 1)
    have e : len l a = l.length - 1 := by unfold len; omega
    rw [e, show a + (l.length - 1) + 1 = a + l.length by omega, Nat.add_mod_right, Nat.mod_eq_of_lt hal]; exact ha
theorem len_free {l : List Cell} {a j : Nat} (h1 : 1 ≤ j) (h2 : j ≤ len l a) : attrAt l ((a + j) % l.length) = false := run_free h1 h2
/-- The document's way of telling a field's places comes to the same. -/
theorem startS_places {l : List Cell} {a i : Nat} (ha : attrAt l a = true) (hal : a < l.length) (h1 : 1 ≤ i) (hi : i < l.length) (hall : i ≤ len l a + 1) : startS l ((a + i) % l.length) = a ↔ i ≤ len l a := by
  constructor
  · intro h
    rcases Nat.lt_or_ge (len l a) i with hlt | hge
    · have hi' : i = len l a + 1 := by omega
      have hs := len_stop ha hal
      rw [show a + len l a + 1 = a + i by omega] at hs
      rw [startS_attr hs] at h
      have h2 : (a + i) % l.length = a := by omega
      have h3 : (a + i) % l.length = if a + i < l.length then a + i else a + i - l.length := by
        split
        · exact Nat.mod_eq_of_lt (by assumption)
        · rw [Nat.mod_eq_sub_mod (by omega), Nat.mod_eq_of_lt (by omega)]
      rw [h3] at h2
      split at h2 <;> omega
    · exact hge
  · intro h
    exact startS_in ha hal hi fun j h1 h2 => len_free h1 (by omega)

/-- The cells behind a place, once round. -/
def rot (l : List Cell) (a : Nat) : List Cell := l.drop (a + 1) ++ l.take a
def fieldCells (l : List Cell) (a : Nat) : List Cell := (rot l a).takeWhile fun c => !c.attr
theorem rot_length {l : List Cell} {a : Nat} (h : a < l.length) : (rot l a).length = l.length - 1 := by simp [rot]; omega
theorem rot_get {l : List Cell} {a j : Nat} (h : a < l.length) (hj : j < l.length - 1) : (rot l a)[j]? = l[(a + j + 1) % l.length]? := by
  unfold rot
  by_cases hc : a + 1 + j < l.length
  · rw [List.getElem?_append_left (by simp; omega), List.getElem?_drop, show a + 1 + j = a + j + 1 by omega, Nat.mod_eq_of_lt (by omega)]
  · rw [List.getElem?_append_right (by simp; omega), List.getElem?_take_of_lt (by simp; omega), Nat.mod_eq_sub_mod (by omega), Nat.mod_eq_of_lt (by omega)]
    congr 1; simp; omega
theorem takeWhile_cut {α : Type} {p : α → Bool} : ∀ {L : List α} {k : Nat}, k ≤ L.length → (∀ i x, i < k → L[i]? = some x → p x = true) → (∀ x, L[k]? = some x → p x = false) → L.takeWhile p = L.take k
  | [], k, h, _, _ => by simp
  | x :: L, 0, h, _, h2 => by
    have := h2 x rfl
    simp [this]
  | x :: L, k + 1, h, h1, h2 => by
    have hx := h1 0 x (by omega) rfl
    rw [List.takeWhile_cons, if_pos hx, List.take_succ_cons]
    rw [takeWhile_cut (k := k) (by simpa using h) (fun i y hi hy => h1 (i + 1) y (by omega) (by simpa using hy)) (fun y hy => h2 y (by simpa using hy))]
theorem fieldCells_eq {l : List Cell} {a : Nat} (ha : attrAt l a = true) (hal : a < l.length) : (places l a).map (fun i => l[i]?.getD .zero) = fieldCells l a := by
  have hlt := len_lt hal
  have hrl := rot_length hal
  have e : fieldCells l a = (rot l a).take (len l a) := by
    refine takeWhile_cut (by omega) (fun i x hi hx => ?_) (fun x hx => ?_)
    · rw [rot_get hal (by omega)] at hx
      have := len_free (l := l) (a := a) (j := i + 1) (by omega) (by omega)
      rw [show a + (i + 1) = a + i + 1 by omega] at this
      simp only [attrAt, hx, Option.getD_some] at this
      simp [this]
    · have hk : len l a < l.length - 1 := by
        have := (List.getElem?_eq_some_iff.1 hx).1; omega
      rw [rot_get hal hk] at hx
      have := len_stop ha hal
      simp only [attrAt, hx, Option.getD_some] at this
      simp [this]
  rw [e]
  refine List.ext_getElem? fun i => ?_
  simp only [places, List.map_map]
  by_cases hi : i < len l a
  · have hx : (a + i + 1) % l.length < l.length := Nat.mod_lt _ (by omega)
    rw [List.getElem?_take_of_lt hi, rot_get hal (by omega), List.getElem?_map, List.getElem?_range hi]
    simp [List.getElem?_eq_getElem hx]
  · rw [List.getElem?_eq_none (by simp; omega), List.getElem?_eq_none (by simp; omega)]

/-! ### What is told of fields -/
def Sp.modified (s : Sp) : List Nat := s.attrs.filter fun a => (s.cells[a]?.getD .zero).fa &&& 1 == 1
theorem mem_attrs {s : Sp} {a : Nat} (h : a ∈ s.attrs) : a < s.cells.length ∧ attrAt s.cells a = true := by
  simp only [Sp.attrs, List.mem_filter, List.mem_range] at h
  exact h
theorem mem_modified {s : Sp} {a : Nat} (h : a ∈ s.modified) : a ∈ s.attrs := (List.mem_filter.1 h).1
end Go.Sp
/-
  Sizes of screens, places, models: the program's and the document's.
-/
namespace Go.Proofs.Ytnlggjbcdienfaa
open Go Go.AL Go.Sp

/-- Rows and columns, as they may be. -/
structure Dim (r c : Nat) : Prop where
  r1 : 1 ≤ r
  r2 : r ≤ 43
  c1 : 1 ≤ c
  c2 : c ≤ 132
  m : r * c ≤ 3564
  p : 0 < r * c
theorem dim_of (m : Nat) (a : Bool) : Dim (dims m a).1 (dims m a).2 := by
  have := dims_bound m a
  exact ⟨by omega, by omega, by omega, by omega, by omega, by omega⟩
theorem mul_wrap {r c : Nat} (h : Dim r c) : IntKind.i64.wrap ((r : Int) * (c : Int)) = ((r * c : Nat) : Int) := by
  have := h.m
  rw [← Int.natCast_mul, wrap_i64 (by omega) (by omega)]
def dimA (r c : Nat) : AV := .agg [.lit (.int .i64 r), .lit (.int .i64 c)]

theorem tmod_wrap (n : Int) (m : Nat) (h : 0 < m) : n.tmod m = (wrap m n : Int) - if n.tmod m < 0 then (m : Int) else 0 := by
  unfold wrap
  have h1 := Int.emod_nonneg n (show (m : Int) ≠ 0 by omega)
  have h2 := Int.emod_lt_of_pos n (show (0 : Int) < m by omega)
  have h3 := Int.tmod_eq_emod (a := n) (b := m)
  have h4 : ((n % (m : Int)).toNat : Int) = n % m := Int.toNat_of_nonneg h1
  rw [h4]
  rw [h3]
  split
  · simp; omega
  · rename_i hc
    have h5 : ¬ n % (m : Int) = 0 := fun he => hc (.inr (Int.dvd_of_emod_eq_zero he))
    have h6 : (m : Int).natAbs = m := by simp
    rw [h6]
    rw [if_pos (by omega)]

set_option maxRecDepth 4000 in
theorem rest_calls (n : Int) (m : Nat) (h : 0 < m) (hm : m ≤ 1000000) (σ : Store) : ACalls Try.prog 88 [.lit (.int .i64 n), .lit (.int .i64 m)] σ fun v σ' => v = .lit (.int .i64 (wrap m n)) ∧ σ' = σ := by
  have ht := tmod_wrap n m h
  have hw := wrap_lt h n
  have h0 : ¬ m = 0 := by omega
  refine ACalls.of_awp follows (st := st88) (plans := pl88) (n := 14) Try.func88 rfl (by kernel_rfl) (by kernel_rfl) (by kernel_rfl) ?_
  by_cases hc : n.tmod m < 0
  · rw [if_pos hc] at ht
    have hs : IntKind.i64.wrap (n.tmod m + (m : Int)) = (wrap m n : Int) := by rw [wrap_i64 (by omega) (by omega)]; omega
    simp [h0, hc, hs]
  · rw [if_neg hc] at ht
    have hs : n.tmod m = (wrap m n : Int) := by omega
    rw [hs] at hc
    simp [h0, hc, hs]

set_option maxRecDepth 4000 in
theorem valid_calls {r c : Nat} (h : Dim r c) (σ : Store) : ACalls Try.prog 83 [dimA r c] σ fun v σ' => v = .lit (.bool true) ∧ σ' = σ := by
  have hm := mul_wrap h
  obtain ⟨h1, h2, h3, h4, h5, h6⟩ := h
  have k1 : (1 : Int) ≤ r := by omega
  have k2 : (r : Int) ≤ 43 := by omega
  have k3 : (1 : Int) ≤ c := by omega
  have k4 : (c : Int) ≤ 132 := by omega
  have k5 : (((r * c : Nat) : Int)) ≤ 3564 := by omega
  generalize r * c = m at *
  refine ACalls.of_awp follows (st := st83) (plans := pl83) (n := 29) Try.func83 rfl (by kernel_rfl) (by kernel_rfl) (by kernel_rfl) ?_
  simp +contextual [dimA, k1, k2, k3, k4, k5, hm]
set_option maxRecDepth 4000 in
theorem cells_calls {r c : Nat} (h : Dim r c) (σ : Store) : ACalls Try.prog 52 [dimA r c] σ fun v σ' => v = .lit (.int .i64 ((r * c : Nat) : Int)) ∧ σ' = σ := by
  have hm := mul_wrap h
  have hv := valid_calls h
  unfold dimA at hv
  generalize r * c = m at *
  refine ACalls.of_awp follows (st := st52) (plans := pl52) (n := 11) Try.func52 rfl (by kernel_rfl) (by kernel_rfl) (by kernel_rfl) ?_
  simp [dimA]
  intro p hp
  refine callK.of (hv _) ?_
  rintro v σ' ⟨rfl, rfl⟩
  simp [hm, hp]
set_option maxRecDepth 4000 in
theorem wrap_calls {r c : Nat} (h : Dim r c) (n : Int) (σ : Store) : ACalls Try.prog 64 [dimA r c, .lit (.int .i64 n)] σ fun v σ' => v = .lit (.int .i64 (wrap (r * c) n)) ∧ σ' = σ := by
  have hv := valid_calls h
  have hc := cells_calls h
  have hr := rest_calls n (r * c) h.p (by have := h.m; omega)
  unfold dimA at hv hc
  generalize r * c = m at *
  refine ACalls.of_awp follows (st := st64) (plans := pl64) (n := 12) Try.func64 rfl (by kernel_rfl) (by kernel_rfl) (by kernel_rfl) ?_
  simp [dimA]
  intro p hp
  refine callK.of (hv _) ?_
  rintro v σ' ⟨rfl, rfl⟩
  simp
  refine callK.of (hc _) ?_
  rintro v σ' ⟨rfl, rfl⟩
  simp
  refine callK.of (hr _) ?_
  rintro v σ' ⟨rfl, rfl⟩
  simp [hp]
end Go.Proofs.Ytnlggjbcdienfaa
/-
  The document's sizes, places, models; its six bits.
-/
namespace Go.Proofs.Ytnlggjbcdienfaa
open Go Go.AL Go.Sp

theorem tmod_abs (n : Int) (m : Nat) (h : 0 < m) : -(m : Int) < n.tmod m ∧ n.tmod m < m := by
  have h1 : (n.tmod m).natAbs = n.natAbs % m := by rw [Int.natAbs_tmod]; simp
  have h2 := Nat.mod_lt n.natAbs h
  omega
set_option maxRecDepth 4000 in
theorem rmod_calls (n : Int) (m : Nat) (h : 0 < m) (hm : m ≤ 1000000) (σ : Store) : ACalls Try.prog 44 [.lit (.int .i64 n), .lit (.int .i64 m)] σ fun v σ' => v = .lit (.int .i64 (wrap m n)) ∧ σ' = σ := by
  have ht := tmod_abs n m h
  have h0 : ¬ m = 0 := by omega
  have h1 : ¬ (m : Int) < 1 := by omega
  have hs : IntKind.i64.wrap (n.tmod m + (m : Int)) = n.tmod m + m := wrap_i64 (by omega) (by omega)
  have he : (n.tmod m + (m : Int)).tmod m = (wrap m n : Int) := by
    have h2 := tmod_wrap n m h
    have h3 := wrap_lt h n
    rw [Int.tmod_eq_emod_of_nonneg (by omega)]
    split at h2
    · rw [h2, show ((wrap m n : Int) - m + m) = (wrap m n : Int) by omega]
      exact Int.emod_eq_of_lt (by omega) (by omega)
    · rw [h2, show ((wrap m n : Int) - 0 + m) = (wrap m n : Int) + m by omega, Int.add_emod_right]
      exact Int.emod_eq_of_lt (by omega) (by omega)
  refine ACalls.of_awp follows (st := st44) (plans := pl44) (n := 14) Try.func44 rfl (by kernel_rfl) (by kernel_rfl) (by kernel_rfl) ?_
  simp [h0, h1, hs, he]
set_option maxRecDepth 4000 in
theorem rvalid_calls {r c : Nat} (h : Dim r c) (σ : Store) : ACalls Try.prog 93 [dimA r c] σ fun v σ' => v = .lit (.bool true) ∧ σ' = σ := by
  have hm := mul_wrap h
  obtain ⟨h1, h2, h3, h4, h5, h6⟩ := h
  have k1 : (1 : Int) ≤ r := by omega
  have k2 : (r : Int) ≤ 43 := by omega
  have k3 : (1 : Int) ≤ c := by omega
  have k4 : (c : Int) ≤ 132 := by omega
  have k5 : (((r * c : Nat) : Int)) ≤ 3564 := by omega
  generalize r * c = m at *
  refine ACalls.of_awp follows (st := st93) (plans := pl93) (n := 29) Try.func93 rfl (by kernel_rfl) (by kernel_rfl) (by kernel_rfl) ?_
  simp +contextual [dimA, k1, k2, k3, k4, k5, hm]
set_option maxRecDepth 4000 in
theorem rcells_calls {r c : Nat} (h : Dim r c) (σ : Store) : ACalls Try.prog 75 [dimA r c] σ fun v σ' => v = .lit (.int .i64 ((r * c : Nat) : Int)) ∧ σ' = σ := by
  have hm := mul_wrap h
  have hv := rvalid_calls h
  unfold dimA at hv
  generalize r * c = m at *
  refine ACalls.of_awp follows (st := st75) (plans := pl75) (n := 11) Try.func75 rfl (by kernel_rfl) (by kernel_rfl) (by kernel_rfl) ?_
  simp [dimA]
  intro p hp
  refine callK.of (hv _) ?_
  rintro v σ' ⟨rfl, rfl⟩
  simp [hm, hp]
set_option maxRecDepth 4000 in
theorem rwrap_calls {r c : Nat} (h : Dim r c) (n : Int) (σ : Store) : ACalls Try.prog 42 [dimA r c, .lit (.int .i64 n)] σ fun v σ' => v = .lit (.int .i64 (wrap (r * c) n)) ∧ σ' = σ := by
  have hc := rcells_calls h
  have hr := rmod_calls n (r * c) h.p (by have := h.m; omega)
  unfold dimA at hc
  generalize r * c = m at *
  refine ACalls.of_awp follows (st := st42) (plans := pl42) (n := 9) Try.func42 rfl (by kernel_rfl) (by kernel_rfl) (by kernel_rfl) ?_
  simp [dimA]
  intro p hp
  refine callK.of (hc _) ?_
  rintro v σ' ⟨rfl, rfl⟩
  simp
  refine callK.of (hr _) ?_
  rintro v σ' ⟨rfl, rfl⟩
  simp [hp]

@[simp] theorem wr3 : IntKind.i64.wrap 3 = 3 := by decide
/-! ### Models -/
theorem model_cases {m : Nat} (h : 2 ≤ m ∧ m ≤ 5) : m = 2 ∨ m = 3 ∨ m = 4 ∨ m = 5 := by omega
def dimM (m : Nat) : AV := dimA (dims m true).1 (dims m true).2
set_option maxRecDepth 4000 in
theorem model_calls {m : Nat} (h : 2 ≤ m ∧ m ≤ 5) (σ : Store) : ACalls Try.prog 59 [.lit (.int .i64 m)] σ fun v σ' => v = .tuple [dimM m, .lit (.int .i64 0)] ∧ σ' = σ := by
  refine ACalls.of_awp follows (st := st59) (plans := pl59) (n := 18) Try.func59 rfl (by kernel_rfl) (by kernel_rfl) (by kernel_rfl) ?_
  rcases model_cases h with rfl | rfl | rfl | rfl <;>
    (simp +contextual [dimM, dimA, dims])
set_option maxRecDepth 4000 in
theorem rmodel_calls {m : Nat} (h : 2 ≤ m ∧ m ≤ 5) (σ : Store) : ACalls Try.prog 60 [.lit (.int .i64 m)] σ fun v σ' => v = .tuple [dimM m, .lit (.bool true)] ∧ σ' = σ := by
  refine ACalls.of_awp follows (st := st60) (plans := pl60) (n := 20) Try.func60 rfl (by kernel_rfl) (by kernel_rfl) (by kernel_rfl) ?_
  rcases model_cases h with rfl | rfl | rfl | rfl <;>
    (simp +contextual [dimM, dimA, dims]; try decide)
end Go.Proofs.Ytnlggjbcdienfaa
