/-
  Sizes: any.
-/
import Derived.Test.YtbeohjinefaaoaaDoorAPart15
set_option linter.unusedSimpArgs false
set_option linter.unusedVariables false
namespace Go.Proofs.YtbeohjinefaaoaaDoor
open Go Go.AL
def okSz (r c : Int) : Bool := decide (1 ≤ r ∧ r ≤ 43 ∧ 1 ≤ c ∧ c ≤ 132 ∧ r * c ≤ 3564)
set_option maxHeartbeats 1000000 in
set_option maxRecDepth 8000 in
theorem validZ_calls (r c : Int) (σ : Store) : ACalls Tryd.prog 17 [.agg [.lit (.int .i64 r), .lit (.int .i64 c)]] σ fun v σ' => v = .lit (.bool (okSz r c)) ∧ σ' = σ := by
  have fin : ∀ {p : Nat} {C : List AV}, σ p = none → Store.sub σ (σ.upd p C) := fun h => Store.sub_upd h (Store.sub_refl _)
  unfold okSz
  refine ACalls.of_awp follows (st := st17) (plans := pl17) (n := 29) Tryd.func17 rfl (by kernel_rfl) (by kernel_rfl) (by kernel_rfl) ?_
  by_cases h1 : 1 ≤ r
  · by_cases h2 : r ≤ 43
    · by_cases h3 : 1 ≤ c
      · by_cases h4 : c ≤ 132
        · have hb : r * c ≤ 43 * 132 := Int.mul_le_mul h2 h4 (by omega) (by omega)
          have hb0 : 0 ≤ r * c := Int.mul_nonneg (by omega) (by omega)
          have hw : IntKind.i64.wrap (r * c) = r * c := wrap_i64 (by omega) (by omega)
          by_cases h5 : r * c ≤ 3564
          · simp [h1, h2, h3, h4, h5, hw]; exact fun p hp => fin hp
          · simp [h1, h2, h3, h4, h5, hw]; exact fun p hp => fin hp
        · simp [h1, h2, h3, h4]; exact fun p hp => fin hp
      · simp [h1, h2, h3]; exact fun p hp => fin hp
    · simp [h1, h2]; exact fun p hp => fin hp
  · simp [h1]; exact fun p hp => fin hp
set_option maxHeartbeats 1000000 in
set_option maxRecDepth 8000 in
theorem rvalidZ_calls (r c : Int) (σ : Store) : ACalls Tryd.prog 22 [.agg [.lit (.int .i64 r), .lit (.int .i64 c)]] σ fun v σ' => v = .lit (.bool (okSz r c)) ∧ σ' = σ := by
  have fin : ∀ {p : Nat} {C : List AV}, σ p = none → Store.sub σ (σ.upd p C) := fun h => Store.sub_upd h (Store.sub_refl _)
  unfold okSz
  refine ACalls.of_awp follows (st := st22) (plans := pl22) (n := 29) Tryd.func22 rfl (by kernel_rfl) (by kernel_rfl) (by kernel_rfl) ?_
  by_cases h1 : 1 ≤ r
  · by_cases h2 : r ≤ 43
    · by_cases h3 : 1 ≤ c
      · by_cases h4 : c ≤ 132
        · have hb : r * c ≤ 43 * 132 := Int.mul_le_mul h2 h4 (by omega) (by omega)
          have hb0 : 0 ≤ r * c := Int.mul_nonneg (by omega) (by omega)
          have hw : IntKind.i64.wrap (r * c) = r * c := wrap_i64 (by omega) (by omega)
          by_cases h5 : r * c ≤ 3564
          · simp [h1, h2, h3, h4, h5, hw]; exact fun p hp => fin hp
          · simp [h1, h2, h3, h4, h5, hw]; exact fun p hp => fin hp
        · simp [h1, h2, h3, h4]; exact fun p hp => fin hp
      · simp [h1, h2, h3]; exact fun p hp => fin hp
    · simp [h1, h2]; exact fun p hp => fin hp
  · simp [h1]; exact fun p hp => fin hp
end Go.Proofs.YtbeohjinefaaoaaDoor
/-
  No page; the pages' numbers.
-/
namespace Go.Proofs.YtbeohjinefaaoaaDoor
open Go Go.AL
set_option maxRecDepth 8000 in
theorem page_none (n : Int) (hn : ¬ isPage n) (σ : Store) : ACalls Tryd.prog 7 [.lit (.int .i64 n)] σ fun v σ' => v = .tuple [.lit (.pointer none), .lit (.int .i64 5)] ∧ σ' = σ := by
  have hoth := fun τ => others_calls n τ
  rw [decide_eq_false hn] at hoth
  refine ACalls.of_awp follows (st := st7) (plans := pl7) (n := 16) Tryd.func7 rfl (by kernel_rfl) (by kernel_rfl) (by kernel_rfl) ?_
  simp
  refine callK.of (hoth _) ?_
  rintro v σ1 ⟨rfl, rfl⟩
  simp
set_option maxRecDepth 8000 in
theorem ris_calls (n : Int) (hn : isPage n) (σ : Store) : ACalls Tryd.prog 21 [.lit (.int .i64 n)] σ fun v σ' => v = .lit (.bool true) ∧ σ' = σ := by
  refine ACalls.of_awp follows (st := st21) (plans := pl21) (n := 11) Tryd.func21 rfl (by kernel_rfl) (by kernel_rfl) (by kernel_rfl) ?_
  simp
  refine callK.eq (roth_calls n hn _) ?_
  simp
theorem bytesOf_bytesA (l : List UInt8) : bytesOf (bytesA l) = some l := by
  induction l with
  | nil => rfl
  | cons b l ih =>
    have hb : AL.byteOf (byteA b) = some b := by simp [byteA, AL.byteOf]
    simp only [bytesOf, bytesA, List.map_cons, List.mapM_cons] at ih ⊢
    rw [hb, ih]; rfl
set_option maxRecDepth 8000 in
theorem same11_calls (l : List UInt8) (o1 o2 : Bool) (hl : l.length ≤ 1000000) (σ : Store) : ACalls Tryd.prog 11 [.list o1 1 (bytesA l), .list o2 1 (bytesA l)] σ fun v σ' => v = .lit (.bool true) ∧ σ' = σ := by
  have hb := bytesOf_bytesA l
  refine ACalls.of_awp follows (st := st11) (plans := pl11) (n := 10) Tryd.func11 rfl (by kernel_rfl) (by kernel_rfl) (by kernel_rfl) ?_
  simp [hb]
end Go.Proofs.YtbeohjinefaaoaaDoor
/-
  Rows, columns, moves.
-/
namespace Go.Proofs.YtbeohjinefaaoaaDoor
open Go Go.AL Go.Sp

theorem small_i64 {n : Nat} (h : n ≤ 1000000000) : IntKind.i64.wrap (n : Int) = n := wrap_i64 (by omega) (by omega)
def addrAt (r c : Nat) (row col : Int) : Nat := wrap r row * c + wrap c col
theorem addrAt_lt {r c : Nat} (h : Dim r c) (row col : Int) : addrAt r c row col < r * c := by
  have h1 := wrap_lt h.r1 row
  have h2 := wrap_lt h.c1 col
  unfold addrAt
  have : (wrap r row + 1) * c ≤ r * c := Nat.mul_le_mul_right _ h1
  rw [Nat.succ_mul] at this
  omega
set_option maxRecDepth 4000 in
theorem addrAt_calls {r c : Nat} (h : Dim r c) (row col : Int) (σ : Store) : ACalls Tryd.prog 26 [dimA r c, .lit (.int .i64 row), .lit (.int .i64 col)] σ fun v σ' => v = .lit (.int .i64 (addrAt r c row col)) ∧ σ' = σ := by
  have hv := valid_calls h
  have hr := rest_calls row r h.r1 (by have := h.r2; omega)
  have hc := rest_calls col c h.c1 (by have := h.c2; omega)
  have hlt := addrAt_lt h row col
  have hm := h.m
  have h1 := wrap_lt h.r1 row
  have h2 := wrap_lt h.c1 col
  have hr2 := h.r2
  have hc2 := h.c2
  unfold dimA at hv
  unfold addrAt at *
  generalize wrap r row = a at *
  generalize wrap c col = b at *
  have hac : a * c ≤ r * c := Nat.mul_le_mul_right _ (Nat.le_of_lt h1)
  have hw1 : IntKind.i64.wrap ((a : Int) * (c : Int)) = ((a * c : Nat) : Int) := by rw [← Int.natCast_mul]; exact small_i64 (by omega)
  have hw2 : IntKind.i64.wrap (((a * c : Nat) : Int) + (b : Int)) = ((a * c + b : Nat) : Int) := by rw [← Int.natCast_add]; exact small_i64 (by omega)
  generalize a * c + b = z at *
  generalize a * c = y at *
  refine ACalls.of_awp follows (st := st26) (plans := pl26) (n := 22) Tryd.func26 rfl (by kernel_rfl) (by kernel_rfl) (by kernel_rfl) ?_
  simp [dimA]
  intro p hp
  refine callK.of (hv _) ?_
  rintro v σ' ⟨rfl, rfl⟩
  simp
  repeat' first
    | with_reducible apply And.intro
    | (refine callK.of (hr _) ?_; rintro v σ1 ⟨rfl, rfl⟩; simp [hw1])
    | (refine callK.of (hc _) ?_; rintro v σ1 ⟨rfl, rfl⟩; simp [hw1, hw2, hp])
def lineN (r c : Nat) (n : Int) : Nat := addrAt r c ((wrap (r * c) n / c + 1 : Nat) : Int) 0
end Go.Proofs.YtbeohjinefaaoaaDoor
/-
  An item's bytes, in plain words.
-/
namespace Go.Proofs.YtbeohjinefaaoaaDoor
open Go Go.AL

theorem pgS_other {b o : Nat} (h : ¬ o = b) (n : Int) (x : Option Nat) (σ : Store) : (pgS b n x σ) (o : Int) = σ o := by
  cases x <;> simp [pgS, h]
theorem pgS_upd {b o : Nat} (h : ¬ o = b) (n : Int) (x : Option Nat) (σ : Store) (Y : List AV) : (pgS b n x σ).upd o Y = pgS b n x (σ.upd o Y) := by
  cases x with
  | none => exact supd_swap _ (fun e => h e.symm) _ _
  | some q =>
    unfold pgS
    dsimp only
    rw [sput_upd, supd_swap _ (fun e => h e.symm)]
theorem pgS_fresh {b z : Nat} {n : Int} {x : Option Nat} {σ : Store} (hz : (pgS b n x σ) (z : Int) = none) : ¬ z = b ∧ σ (z : Int) = none := by
  have h1 : ¬ z = b := by rintro rfl; rw [pgS_cell] at hz; cases hz
  rw [pgS_other h1] at hz; exact ⟨h1, hz⟩
theorem pgS_mono {b : Nat} {n : Int} {x : Option Nat} {σ τ : Store} (h : Store.sub σ τ) : Store.sub (pgS b n x σ) (pgS b n x τ) := by
  cases x with
  | none =>
    refine Store.sub2 (fun o => ?_) (fun i => by simpa [pgS] using h (mkey i))
    by_cases e : o = b
    · subst e; right; simp [pgS]
    · have := h (o : Int)
      simpa [pgS, e] using this
  | some q =>
    refine Store.sub2 (fun o => ?_) (fun i => ?_)
    · by_cases e : o = b
      · subst e; right; simp [pgS]
      · have := h (o : Int)
        simpa [pgS, e] using this
    · by_cases e : i = q
      · subst e; right; simp [pgS]
      · have := h (mkey i)
        simpa [pgS, e] using this
theorem codesF_len (n : Int) (t : ByteArray) : ∀ (f pos : Nat) (acc : List UInt8), (codesF n t f pos acc).1.length ≤ acc.length + f
  | 0, _, acc => by simp [codesF]
  | f + 1, pos, acc => by
    rw [codesF]
    split
    · split
      · simp
      · split
        · simp
        · have := codesF_len n t f (pos + (Utf8.decode t pos).2) (acc ++ [UInt8.ofNat (by assumption)])
          simp at this ⊢
          omega
    · simp
def opsI (i : It) (at0 : Nat) (cs : List UInt8) : List Op := [{ kind := 17, addr := (at0 : Int) }, (lookR i).1] ++ ((if i.cur = true then [{ kind := 19 }] else []) ++ (if cs = [] then [] else [{ text := cs }]))
def lookB (i : It) : List UInt8 := if i.ext = [] then [29, six (bitsF i.f)] else 41 :: UInt8.ofNat (1 + i.ext.length) :: 192 :: six (bitsF i.f) :: flatP i.ext
def itemB (rows cols : Nat) (i : It) (cs : List UInt8) : List UInt8 := 17 :: encM (addrAt rows cols i.row i.col) ++ (lookB i ++ ((if i.cur = true then [19] else []) ++ cs))
def itemR (n : Int) (rows cols : Nat) (i : It) : List UInt8 × Nat :=
  if ¬ (0 ≤ i.row ∧ i.row < rows ∧ 0 ≤ i.col ∧ i.col < cols) then ([], 1) else if (lookR i).2 ≠ 0 then ([], (lookR i).2)
  else if (codesF n i.text i.text.size 0 []).2 ≠ 0 then ([], (codesF n i.text i.text.size 0 []).2)
  else if hasOrd (codesF n i.text i.text.size 0 []).1 = true then ([], 10) else if 254 < i.ext.length then ([], 3)
  else (itemB rows cols i (codesF n i.text i.text.size 0 []).1, 0)
theorem look_ok (i : It) (hl : (lookR i).2 = 0) (hx : i.ext.length ≤ 254) : opG (lookR i).1 = (lookB i, 0) ∧ goodG (lookR i).1 := by
  unfold lookR at hl ⊢
  by_cases h1 : okD i.f = false
  · rw [if_pos h1] at hl; simp at hl
  · rw [if_neg h1] at hl ⊢
    by_cases h2 : i.ext = []
    · rw [if_pos h2]
      exact ⟨by simp [opG, lookB, h2], .inr (.inr (.inl rfl))⟩
    · rw [if_neg h2] at hl ⊢
      by_cases h3 : i.ext.any wrongP = true
      · rw [if_pos h3] at hl; simp at hl
      · rw [if_neg h3]
        have hall : ((192, six (bitsF i.f)) :: i.ext).all rightP = true := by
          rw [List.all_eq_true]
          intro p hp
          rcases List.mem_cons.1 hp with rfl | hp
          · simp [rightP, rightN]
          · have := List.any_eq_false.1 (by simpa using h3) p hp
            unfold wrongP at this
            cases hr : rightP p
            · rw [hr] at this; simp at this
            · rfl
        refine ⟨?_, .inr (.inr (.inr ⟨rfl, by simp; omega⟩))⟩
        have e : prB ((192, six (bitsF i.f)) :: i.ext) = (UInt8.ofNat (1 + i.ext.length) :: 192 :: six (bitsF i.f) :: flatP i.ext, 0) := by
          unfold prB
          rw [if_neg (by simp; omega), if_pos hall, List.length_cons, Nat.add_comm]
          rfl
        simp [opG, lookB, h2, e]
theorem opsI_ok {rows cols : Nat} (hD : Dim rows cols) (i : It) (cs : List UInt8) (hl : (lookR i).2 = 0) (ho : hasOrd cs = false) (hx : i.ext.length ≤ 254) (hc : cs.length ≤ 1000000) :
    seqB opG (opsI i (addrAt rows cols i.row i.col) cs) = (itemB rows cols i cs, 0) ∧ ∀ o ∈ opsI i (addrAt rows cols i.row i.col) cs, goodG o := by
  obtain ⟨k1, k2⟩ := look_ok i hl hx
  have ha := addrAt_lt hD i.row i.col
  have h35 : rows * cols ≤ 3564 := hD.m
  have hok : okAddr ((addrAt rows cols i.row i.col : Nat) : Int) := ⟨by omega, by omega⟩
  have e1 : opG { kind := 17, addr := ((addrAt rows cols i.row i.col : Nat) : Int) } = (17 :: encM (addrAt rows cols i.row i.col), 0) := by
    simp [opG, opB, hok]
  have e2 : opG { kind := 19 } = ([19], 0) := by simp [opG]
  have e3 : cs ≠ [] → opG { text := cs } = (cs, 0) := fun h => by simp [opG, opB, h, ho]
  have g1 : goodG { kind := 17, addr := ((addrAt rows cols i.row i.col : Nat) : Int) } := .inl (.inr rfl)
  have g2 : goodG { kind := 19 } := .inr (.inl rfl)
  have g3 : goodG { text := cs } := .inl (.inl ⟨rfl, hc⟩)
  unfold opsI itemB
  generalize (lookR i).1 = L at *
  cases hcu : i.cur
  · by_cases hcs : cs = []
    · refine ⟨?_, by simp [hcs, g1, k2]⟩
      simp [seqB, e1, k1, hcs]
    · have e3 := e3 hcs
      refine ⟨?_, by simp [hcs, g1, k2, g3]⟩
      simp [seqB, e1, k1, hcs, e3]
  · by_cases hcs : cs = []
    · refine ⟨?_, by simp [hcs, g1, k2, g2]⟩
      simp [seqB, e1, k1, hcs, e2]
    · have e3 := e3 hcs
      refine ⟨?_, by simp [hcs, g1, k2, g3, g2]⟩
      simp [seqB, e1, k1, hcs, e3, e2]
end Go.Proofs.YtbeohjinefaaoaaDoor
/-
  A text by a page: the program's.
-/
namespace Go.Proofs.YtbeohjinefaaoaaDoor
open Go Go.AL Go.Sp
variable {σ Y Z τ : Store} {q p b x y z : Nat} {n : Int} {l : List UInt8} {X : Bst}

theorem put_put (σ : Store) {a c : Nat} (h : ¬ a = c) (A C : List AV) : (σ.put a A).put c C = (σ.put c C).put a A := by
  funext o
  unfold Store.put
  by_cases h1 : o = mkey c
  · subst h1
    have : ¬ mkey c = mkey a := by simp; exact fun e => h e.symm
    simp [this]
  · simp [h1]
theorem upd_put (σ : Store) (a c : Nat) (A C : List AV) : (σ.upd a A).put c C = (σ.put c C).upd a A := by
  funext o
  unfold Store.put Store.upd
  by_cases h1 : o = mkey c
  · subst h1
    have : ¬ mkey c = (a : Int) := mkey_ne _ _
    simp [this]
  · simp [h1]
theorem bldS_upd (z : Nat) (X : Bst) (σ : Store) (a : Nat) (A : List AV) : bldS z X (σ.upd a A) = (bldS z X σ).upd a A := by
  cases X <;> simp [bldS]
theorem bldS_key {g : Nat} (h : (bldS z X Y) (mkey g) = none) : ¬ g = z ∧ (∀ r m cap cur, X = .row r m cap cur → ¬ g = r) ∧ Y (mkey g) = none := by
  cases X with
  | nil p =>
    simp only [bldS, put_mkey] at h
    split at h
    · cases h
    · rename_i h1; exact ⟨h1, fun _ _ _ _ e => (by cases e), h⟩
  | row r m cap cur =>
    simp only [bldS, put_mkey] at h
    split at h
    · cases h
    · rename_i h1
      split at h
      · cases h
      · rename_i h2
        exact ⟨h1, fun _ _ _ _ e => by cases e; exact h2, h⟩
theorem bldS_put {g : Nat} (h1 : ¬ g = z) (h2 : ∀ r m cap cur, X = .row r m cap cur → ¬ g = r) (C : List AV) : (bldS z X Y).put g C = bldS z X (Y.put g C) := by
  cases X with
  | nil p => simp only [bldS]; rw [put_put _ (fun e => h1 e.symm)]
  | row r m cap cur => simp only [bldS]; rw [put_put _ (fun e => h1 e.symm), put_put _ (fun e => h2 _ _ _ _ rfl e.symm)]
theorem pgS_bld {b : Nat} {xx : Option Nat} (h : ∀ g, xx = some g → (bldS z X Y) (mkey g) = none) : pgS b n xx (bldS z X Y) = bldS z X (pgS b n xx Y) := by
  cases xx with
  | none => simp only [pgS, bldS_upd]
  | some g =>
    obtain ⟨h1, h2, _⟩ := bldS_key (h g rfl)
    simp only [pgS]
    rw [← bldS_upd, bldS_put h1 h2]

/-- The page's map is at a key of its own. -/
def KeyP (σ : Store) (x : Option Nat) : Prop := ∀ g, x = some g → σ (mkey g) = none
theorem KeyP.next {σ : Store} {x x' : Option Nat} (h : KeyP σ x) (hn : NxP σ x x') : KeyP σ x' := fun g e => by
  rcases hn with hn | ⟨g', e', hg⟩
  · exact h g (hn ▸ e)
  · rw [e'] at e; obtain rfl := Option.some.inj e; exact hg
/-- The builder's blocks are not the page's map. -/
def Apt (z : Nat) (X : Bst) (x : Option Nat) : Prop := ∀ g, x = some g → ¬ g = z ∧ ∀ r m cap cur, X = .row r m cap cur → ¬ g = r
theorem pgS_key {k : Nat} {xx : Option Nat} (h : (pgS b n xx σ) (mkey k) = none) : ¬ xx = some k ∧ σ (mkey k) = none := by
  have h1 : ¬ xx = some k := by
    rintro rfl
    simp [pgS] at h
  exact ⟨h1, by rw [pgS_mkey h1] at h; exact h⟩
theorem bldOk_pg {xx : Option Nat} : BldOk z l (pgS b n xx σ) X ↔ BldOk z l σ X ∧ Apt z X xx := by
  cases X with
  | nil p =>
    constructor
    · rintro ⟨h1, h2, h3⟩
      obtain ⟨q1, q2⟩ := pgS_key h3
      exact ⟨⟨h1, h2, q2⟩, fun g e => ⟨fun e' => q1 (by rw [e, e']), fun _ _ _ _ e => by cases e⟩⟩
    · rintro ⟨⟨h1, h2, h3⟩, ha⟩
      exact ⟨h1, h2, by rw [pgS_mkey (fun e => (ha z e).1 rfl)]; exact h3⟩
  | row r m cap cur =>
    constructor
    · rintro ⟨h1, h2, h3, h4, h5, h6, h7, h8, h9⟩
      obtain ⟨q1, q2⟩ := pgS_key h7
      obtain ⟨q3, q4⟩ := pgS_key h8
      exact ⟨⟨h1, h2, h3, h4, h5, h6, q2, q4, h9⟩, fun g e => ⟨fun e' => q1 (by rw [e, e']), fun _ _ _ _ e2 e' => by cases e2; exact q3 (by rw [e, e'])⟩⟩
    · rintro ⟨⟨h1, h2, h3, h4, h5, h6, h7, h8, h9⟩, ha⟩
      exact ⟨h1, h2, h3, h4, h5, h6, by rw [pgS_mkey (fun e => (ha z e).1 rfl)]; exact h7, by rw [pgS_mkey (fun e => (ha r e).2 _ _ _ _ rfl rfl)]; exact h8, h9⟩
theorem bldS_none {g : Nat} (h1 : ¬ g = z) (h2 : ∀ r m cap cur, X = .row r m cap cur → ¬ g = r) (h3 : σ (mkey g) = none) : (bldS z X σ) (mkey g) = none := by
  cases X with
  | nil p => simp [bldS, h1, h3]
  | row r m cap cur => simp [bldS, h1, h2 _ _ _ _ rfl, h3]
theorem Apt.bld {xx : Option Nat} (ha : Apt z X xx) (hk : KeyP σ xx) : ∀ g, xx = some g → (bldS z X σ) (mkey g) = none := fun g e =>
  bldS_none (ha g e).1 (ha g e).2 (hk g e)
def txtB (n : Int) (l : List UInt8) : List UInt8 := l.flatMap fun c => sgBytes (sgF n c.toNat)
theorem sgBytes_len (r : Nat) : (sgBytes r).length ≤ 3 := by
  unfold sgBytes
  split
  · simp
  · split <;> simp
theorem txtB_len (n : Int) (l : List UInt8) : (txtB n l).length ≤ 3 * l.length := by
  induction l with
  | nil => simp [txtB]
  | cons c l ih =>
    have := sgBytes_len (sgF n c.toNat)
    simp only [txtB, List.flatMap_cons, List.length_append, List.length_cons] at ih ⊢
    omega
theorem txtB_snoc (n : Int) (l : List UInt8) (i : Nat) (h : i < l.length) : txtB n (l.take (i + 1)) = txtB n (l.take i) ++ sgBytes (sgF n l[i].toNat) := by
  rw [txtB, txtB, List.take_succ_eq_append_getElem h, List.flatMap_append]; simp
end Go.Proofs.YtbeohjinefaaoaaDoor
/-
  A text by a page: the program's, walked.
-/
namespace Go.Proofs.YtbeohjinefaaoaaDoor
open Go Go.AL Go.Sp

theorem sgF_lt {n : Int} (hn : isPage n) (c : Nat) : sgF n c < 55296 := by
  have key : ∀ L : List Nat, (L.all fun x => decide (x < 55296)) = true → L.getD c 0 < 55296 := fun L h => by
    rw [List.getD_eq_getElem?_getD]
    cases hc : L[c]? with
    | none => simp
    | some x => simpa using List.all_eq_true.1 h x (List.mem_of_getElem? hc)
  unfold sgF
  rcases hn with rfl | rfl | rfl | rfl | rfl | rfl <;> exact key _ (by decide +kernel)
structure TxSt where
  i : Nat
  x : Option Nat
  X : Bst
@[simp] def st27r : List Nat := 2000005 :: st27
set_option maxHeartbeats 2000000 in
set_option maxRecDepth 8000 in
theorem ptext_calls (b : Nat) (n : Int) (hn : isPage n) (x : Option Nat) (l : List UInt8) (hl : l.length ≤ 1000) (σ : Store) (hk : KeyP σ x) : ACalls Tryd.prog 27 [pgP b, .list false 1 (bytesA l)] (pgS b n x σ) fun v σ' =>
    v = .lit (.string (toB (txtB n l))) ∧ ∃ x', NxP σ x x' ∧ σ' = pgS b n x' σ := by
  refine ACalls.of_awp follows (st := st27r) (plans := pl27) (n := 22) Tryd.func27 rfl (by kernel_rfl) (by kernel_rfl) (by kernel_rfl) ?_
  simp
  intro z hz hzk
  have e0 : (pgS b n x σ).put z (rawA 128 (Value.agg #[.pointer none, .slice none 0 0]).cells) = bldS z (.nil (.pointer none)) (pgS b n x σ) := rfl
  rw [e0]
  clear e0
  simp
  obtain ⟨k1, k2⟩ := pgS_key hzk
  refine codeK.loop follows (st := st27r) (plans := pl27) (X := TxSt) (fun y => y.i ≤ l.length ∧ NxP σ x y.x ∧ KeyP σ y.x ∧ BldOk z (txtB n (l.take y.i)) σ y.X ∧ Apt z y.X y.x)
    (fun y => [(0, pgP b), (5, ptrA z), (10, .list false 1 (bytesA l)), (11, .lit (.int .i64 l.length)), (12, .lit (.int .i64 y.i))]) (fun y => bldS z y.X (pgS b n y.x σ)) (fun y => l.length - y.i) ⟨0, x, .nil (.pointer none)⟩ (by kernel_rfl)
    ⟨by simp, .inl rfl, hk, ⟨rfl, .inl rfl, k2⟩, fun g e => ⟨fun e' => k1 (by subst e'; exact e), fun _ _ _ _ e => by cases e⟩⟩ (by simp) (Store.sub_refl _) fun y hy => ?_
  obtain ⟨i, x1, X⟩ := y
  obtain ⟨hi, hx1, hk1, hO, hA⟩ := hy
  dsimp only at hi hx1 hk1 hO hA ⊢
  have hlen := txtB_len n (l.take i)
  rw [List.length_take] at hlen
  by_cases hlt : i < l.length
  · have hw : IntKind.i64.wrap ((i : Int) + 1) = ((i + 1 : Nat) : Int) := wrap_i64 (by omega) (by omega)
    have ha := bytesA_at l i hlt
    have hsn := txtB_snoc n l i hlt
    have hsg := sgF_lt hn l[i].toNat
    have hs := fun τ => sign_calls b n hn x1 l[i] τ
    generalize l[i] = c at *
    have hru := fun (x2 : Option Nat) h => rune_calls z X (txtB n (l.take i)) (sgF n c.toNat) hsg (pgS b n x2 σ) h (by omega)
    generalize sgF n c.toNat = r at *
    simp only [byteA] at ha hs
    rw [← pgS_bld (hA.bld hk1)]
    simp [hlt, ha]
    refine callK.of (hs _) ?_
    rintro v τ ⟨rfl, q, hq, rfl⟩
    have hq2 : KeyP σ (some q) ∧ NxP σ x (some q) ∧ Apt z X (some q) := by
      rcases hq with e | ⟨g, e, hg⟩
      · rw [e]; exact ⟨hk1, hx1, hA⟩
      · obtain ⟨q1, q2, q3⟩ := bldS_key hg
        have hng : NxP σ x1 (some q) := .inr ⟨g, e, q3⟩
        refine ⟨hk1.next hng, hx1.trans hng, fun g' e' => ?_⟩
        rw [e] at e'
        obtain rfl := Option.some.inj e'
        exact ⟨q1, q2⟩
    obtain ⟨kq, nq, aq⟩ := hq2
    rw [pgS_bld (aq.bld kq)]
    simp
    refine callK.of (hru (some q) (bldOk_pg.2 ⟨hO, aq⟩)) ?_
    rintro v τ ⟨⟨kk, rfl⟩, X', hX', rfl⟩
    obtain ⟨o1, o2⟩ := bldOk_pg.1 hX'
    simp
    exact ⟨⟨i + 1, some q, X'⟩, ⟨by show i + 1 ≤ _; omega, nq, kq, by show BldOk z (txtB n (l.take (i + 1))) σ X'; rw [hsn]; exact o1, o2⟩, by show l.length - (i + 1) < _; omega, by rw [hw]; exact AV.le_refl _, Store.sub_refl _⟩
  · obtain rfl : i = l.length := by omega
    rw [List.take_length] at hO hlen
    have hO2 : BldOk z (txtB n l) (pgS b n x1 σ) X := bldOk_pg.2 ⟨hO, hA⟩
    simp
    by_cases he : txtB n l = []
    · rw [he] at hO2 ⊢
      cases X with
      | row r m cap cur => exact absurd rfl hO2.1
      | nil p =>
        refine callK.eq (bstr0_calls z p _ hO2) ?_
        simp
        exact ⟨_, AV.le_refl _, _, Store.sub_refl _, rfl, x1, hx1, rfl⟩
    · refine callK.eq (bstr_calls z X _ _ hO2 he) ?_
      simp
      exact ⟨_, AV.le_refl _, _, Store.sub_refl _, rfl, x1, hx1, rfl⟩
end Go.Proofs.YtbeohjinefaaoaaDoor
/-
  Maps of numbers to texts, as lists of pairs.
-/
namespace Go.Proofs.YtbeohjinefaaoaaDoor
open Go Go.AL Go.Sp

def mapI (l : List (Int × ByteArray)) : List (Value × AV) := l.map fun p => (.int .i64 p.1, .lit (.string p.2))
@[simp] theorem mapI_length (l : List (Int × ByteArray)) : (mapI l).length = l.length := by simp [mapI]
theorem findI_none (s : Int) : ∀ (l : List (Int × ByteArray)) (i : Nat), (∀ p ∈ l, p.1 ≠ s) → findA (.int .i64) (.int .i64 s) (mapI l) i = some none
  | [], _, _ => rfl
  | p :: l, i, h => by
    have h1 : (s == p.1) = false := by simpa using fun e => h p (by simp) e.symm
    have ih := findI_none s l (i + 1) fun q hq => h q (by simp [hq])
    simp only [mapI, List.map_cons, findA, Instr.sameNow, if_true, h1] at ih ⊢
    exact ih
theorem findI_at (s : Int) (t : ByteArray) : ∀ (l m : List (Int × ByteArray)) (i : Nat), (∀ p ∈ l, p.1 ≠ s) → findA (.int .i64) (.int .i64 s) (mapI (l ++ (s, t) :: m)) i = some (some (i + l.length, .lit (.string t)))
  | [], m, i, _ => by simp [mapI, findA, Instr.sameNow]
  | p :: l, m, i, h => by
    have h1 : (s == p.1) = false := by simpa using fun e => h p (by simp) e.symm
    have ih := findI_at s t l m (i + 1) fun q hq => h q (by simp [hq])
    simp only [mapI, List.cons_append, List.map_cons, findA, Instr.sameNow, if_true, h1] at ih ⊢
    rw [ih]
    simp; omega
theorem setI_new {l : List (Int × ByteArray)} {s : Int} (t : ByteArray) (h : ∀ p ∈ l, p.1 ≠ s) : setA (.int .i64) (mapI l) (.int .i64 s) (.lit (.string t)) = some (mapI (l ++ [(s, t)])) := by
  rw [setA, findI_none s l 0 h]
  simp [mapI]
theorem setI_old {l : List (Int × ByteArray)} {s : Int} (t0 t : ByteArray) (h : ∀ p ∈ l, p.1 ≠ s) : setA (.int .i64) (mapI (l ++ [(s, t0)])) (.int .i64 s) (.lit (.string t)) = some (mapI (l ++ [(s, t)])) := by
  rw [setA, findI_at s t0 l [] 0 h]
  simp [mapI]
theorem getI_at {P : Program} {et : TypeId} {l m : List (Int × ByteArray)} {s : Int} (t : ByteArray) (h : ∀ p ∈ l, p.1 ≠ s) : getA P et false (.int .i64) (.int .i64 s) (mapI (l ++ (s, t) :: m)) = some (.lit (.string t)) := by
  rw [getA, findI_at s t l m 0 h]
  rfl
theorem getI_mem {P : Program} {et : TypeId} {l : List (Int × ByteArray)} (hd : l.Pairwise fun p q => p.1 ≠ q.1) {i : Nat} {p : Int × ByteArray} (hi : l[i]? = some p) : getA P et false (.int .i64) (.int .i64 p.1) (mapI l) = some (.lit (.string p.2)) := by
  have hlt : i < l.length := (List.getElem?_eq_some_iff.1 hi).1
  have hp : l[i] = p := (List.getElem?_eq_some_iff.1 hi).2
  have hsplit : l = l.take i ++ (p.1, p.2) :: l.drop (i + 1) := by
    have := List.take_append_drop i l
    rw [List.drop_eq_getElem_cons hlt, hp] at this
    exact this.symm
  rw [hsplit]
  refine getI_at p.2 fun q hq => ?_
  rw [hsplit, List.pairwise_append] at hd
  exact hd.2.2 q hq _ (by simp)
/-- What is there behind the first k. -/
def ansP (f : Nat → Option (List UInt8)) : Nat → List (Int × ByteArray)
  | 0 => []
  | k + 1 => ansP f k ++ (match f k with | none => [] | some t => [((k : Int), toB t)])
theorem ansP_key (f : Nat → Option (List UInt8)) : ∀ k, ∀ p ∈ ansP f k, 0 ≤ p.1 ∧ p.1 < k
  | 0, p, h => by simp [ansP] at h
  | k + 1, p, h => by
    rw [ansP, List.mem_append] at h
    rcases h with h | h
    · have := ansP_key f k p h; omega
    · cases hf : f k with
      | none => rw [hf] at h; simp at h
      | some t => rw [hf] at h; simp at h; subst h; simp; omega
theorem ansP_ne (f : Nat → Option (List UInt8)) (k : Nat) : ∀ p ∈ ansP f k, p.1 ≠ (k : Int) := fun p h => by
  have := ansP_key f k p h; omega
theorem ansP_apart (f : Nat → Option (List UInt8)) : ∀ k, (ansP f k).Pairwise fun p q => p.1 ≠ q.1
  | 0 => by simp [ansP]
  | k + 1 => by
    rw [ansP, List.pairwise_append]
    refine ⟨ansP_apart f k, ?_, fun p hp q hq => ?_⟩
    · cases f k <;> simp
    · have h1 := ansP_key f k p hp
      cases hf : f k with
      | none => rw [hf] at hq; simp at hq
      | some t => rw [hf] at hq; simp at hq; subst hq; simp; omega
/-- The last entry's text that stands there. -/
def ansE (n : Int) (at0 : Int) : List (Int × List UInt8) → Option (List UInt8) → Option (List UInt8)
  | [], a => a
  | e :: l, a => ansE n at0 l (if e.1 = at0 then some (txtB n e.2) else a)
theorem ansE_snoc (n at0 : Int) : ∀ (l : List (Int × List UInt8)) (e : Int × List UInt8) (a : Option (List UInt8)), ansE n at0 (l ++ [e]) a = if e.1 = at0 then some (txtB n e.2) else ansE n at0 l a
  | [], e, a => rfl
  | x :: l, e, a => by simp only [List.cons_append, ansE]; exact ansE_snoc n at0 l e _
def optP (k : Int) : Option (List UInt8) → List (Int × ByteArray)
  | none => []
  | some t => [(k, toB t)]
theorem setI_opt {l : List (Int × ByteArray)} {s : Int} (o : Option (List UInt8)) (t : ByteArray) (h : ∀ p ∈ l, p.1 ≠ s) : setA (.int .i64) (mapI (l ++ optP s o)) (.int .i64 s) (.lit (.string t)) = some (mapI (l ++ [(s, t)])) := by
  cases o with
  | none => simpa [optP] using setI_new t h
  | some t0 => exact setI_old (toB t0) t h
theorem ansP_succ (f : Nat → Option (List UInt8)) (k : Nat) : ansP f (k + 1) = ansP f k ++ optP (k : Int) (f k) := by
  rw [ansP]; cases f k <;> rfl
end Go.Proofs.YtbeohjinefaaoaaDoor
/-
  An item's bytes: the program's.
-/
namespace Go.Proofs.YtbeohjinefaaoaaDoor
open Go Go.AL Go.Sp

set_option maxHeartbeats 2000000 in
set_option maxRecDepth 8000 in
theorem pitem_calls {rows cols : Nat} (hD : Dim rows cols) (b : Nat) (n : Int) (hn : isPage n) (x : Option Nat) (i : It) (hx : i.ext.length ≤ 1000) (ht : i.text.size ≤ 1000000) (σ : Store) :
    ACalls Tryd.prog 20 [.agg (itC i), dimA rows cols, pgP b] (pgS b n x σ) fun v σ' => v = .tuple [.list true 1 (bytesA (itemR n rows cols i).1), .lit (.int .i64 (itemR n rows cols i).2)] ∧ ∃ x', NxP σ x x' ∧ σ' = pgS b n x' σ := by
  by_cases hin : 0 ≤ i.row ∧ i.row < rows ∧ 0 ≤ i.col ∧ i.col < cols
  · have hlk := fun τ => plooks_calls i hx τ
    have hcd := fun x' τ => pcodes_calls b n hn x' i.text ht τ
    have hRI : itemR n rows cols i = if (lookR i).2 ≠ 0 then ([], (lookR i).2) else if (codesF n i.text i.text.size 0 []).2 ≠ 0 then ([], (codesF n i.text i.text.size 0 []).2)
      else if hasOrd (codesF n i.text i.text.size 0 []).1 = true then ([], 10) else if 254 < i.ext.length then ([], 3)
      else (itemB rows cols i (codesF n i.text i.text.size 0 []).1, 0) := by unfold itemR; rw [if_neg (fun h => h hin)]
    by_cases hl : (lookR i).2 = 0
    · rw [if_neg (fun h => h hl)] at hRI
      have hops := fun cs ho hx2 hc => opsI_ok hD i cs hl ho hx2 hc
      have hat := fun τ => addrAt_calls hD i.row i.col τ
      obtain ⟨row, col, f, ext, text, cur⟩ := i
      have hclen := codesF_len n text text.size 0 []
      dsimp only at ht hclen
      generalize codesF n text text.size 0 [] = CC at *
      obtain ⟨cs, ec⟩ := CC
      simp only [List.length_nil, Nat.zero_add] at hclen
      unfold opsI at hops
      generalize lookR ⟨row, col, f, ext, text, cur⟩ = LR at *
      obtain ⟨o, er⟩ := LR
      dsimp only at *
      subst hl
      obtain ⟨g1, g2, g3, g4⟩ := hin
      have k1 : ¬ row < 0 := by omega
      have k2 : ¬ (rows : Int) ≤ row := by omega
      have k3 : ¬ col < 0 := by omega
      have k4 : ¬ (cols : Int) ≤ col := by omega
      unfold itC at hlk ⊢
      unfold opA opC at hlk
      refine ACalls.of_awp follows (st := st20) (plans := pl20) (n := 90) Tryd.func20 rfl (by kernel_rfl) (by kernel_rfl) (by kernel_rfl) ?_
      unfold dimA
      simp +contextual [ite_free, k1, k2, k3, k4]
      intro p hp p2 e1 e2 hp2
      refine callK.eq (hlk _) ?_
      simp [bytesA_nil]
      intro p3 h3
      simp only [ite_none] at h3
      obtain ⟨h3a, h3b, h3c⟩ := h3
      obtain ⟨pb1, f1⟩ := pgS_fresh hp
      obtain ⟨pb2, f2⟩ := pgS_fresh hp2
      obtain ⟨pb3, f3⟩ := pgS_fresh h3c
      have h3a' : ¬ p2 = p3 := fun e => h3a e.symm
      have h3b' : ¬ p = p3 := fun e => h3b e.symm
      simp only [if_neg h3b', if_neg e1, if_neg e2]
      rw [pgS_upd pb1, pgS_upd pb2, pgS_upd pb3]
      generalize hS : ((σ.upd p _).upd p2 _).upd p3 _ = S at *
      have sub0 : Store.sub σ S := by
        rw [← hS]
        exact Store.sub_upd (by simp [h3a, h3b, f3]) (Store.sub_upd (by simp [e1, e2, f2]) (Store.sub_upd f1 (Store.sub_refl _)))
      have sm : ∀ g, S (mkey g) = σ (mkey g) := fun g => by rw [← hS]; simp
      have c1 : ∀ x', (pgS b n x' S) (p : Int) = some (itC ⟨row, col, f, ext, text, cur⟩) := fun x' => by
        rw [pgS_other pb1, ← hS]; simp [h3b', e1, e2, itC]
      have c2 : ∀ x', (pgS b n x' S) (p2 : Int) = some [.lit (.int .i64 rows), .lit (.int .i64 cols)] := fun x' => by
        rw [pgS_other pb2, ← hS]; simp [h3a', e1, e2]
      have c3 : ∀ x', (pgS b n x' S) (p3 : Int) = some (opC o) := fun x' => by
        rw [pgS_other pb3, ← hS]; simp [opC]
      unfold itC at c1
      unfold opC at c3
      simp [c1]
      refine callK.of (hcd x S) ?_
      rintro v τ ⟨⟨kk, rfl⟩, x', hx', rfl⟩
      have hx1 : NxP σ x x' := hx'.imp id (fun ⟨g, e, hg⟩ => ⟨g, e, by rw [← sm g]; exact hg⟩)
      have hsub := pgS_mono (b := b) (n := n) (x := x') sub0
      by_cases he : ec = 0
      · subst he
        rw [if_neg (fun h => h rfl)] at hRI
        have hcon := fun τ => contains_calls false cs τ (by omega)
        simp
        refine callK.eq (hcon _) ?_
        cases ho : hasOrd cs
        · rw [if_neg (by rw [ho]; simp)] at hRI
          by_cases hx2 : 254 < ext.length
          · rw [if_pos hx2] at hRI
            rw [hRI]
            have hx3 : (254 : Int) < ext.length := by omega
            simp [c1, hx2, hx3, bytesA_nil]
            exact ⟨_, AV.le_refl _, _, hsub, rfl, x', hx1, rfl⟩
          · rw [if_neg hx2] at hRI
            obtain ⟨m1, m2⟩ := hops cs ho (by omega) (by omega)
            have hob := fun τ => obytesG_calls false _ m2 (by split <;> split <;> simp) τ
            rw [m1, ← hRI] at hob
            clear hops hcd hlk m1 m2
            generalize itemR n rows cols ⟨row, col, f, ext, text, cur⟩ = IR at *
            have hx3 : ¬ (254 : Int) < ext.length := by omega
            unfold dimA at hat
            have hz : byteA 0 = .lit (.int .u8 0) := rfl
            have hfin : ∀ (L : List Op) (A : List AV) (R' : AV → Store → Prop), A = opsA L → (∀ τ, ACalls Tryd.prog 37 [.list false 7 (opsA L)] τ fun v σ' => v = .tuple [.list true 1 (bytesA IR.1), .lit (.int .i64 IR.2)] ∧ σ' = τ) → R' (.tuple [.list true 1 (bytesA IR.1), .lit (.int .i64 IR.2)]) (pgS b n x' S) →
                callK Tryd.prog 37 [.list false 7 A] (pgS b n x' S) R' := fun L A R' e h hk => by subst e; exact callK.eq (h _) hk
            clear hRI hcon
            have hlt : (0 < cs.length) = (¬ cs = []) := by simp [List.length_pos_iff]
            cases cur
            all_goals by_cases hcs : cs = []
            all_goals simp [c1, c2, c3, hx2, hx3]
            all_goals (repeat' first | with_reducible apply And.intro | (refine callK.eq (hat _) ?_; simp [hcs, hlt, c1, c2, c3]))
            all_goals refine hfin _ _ _ ?_ hob ?_
            all_goals first
              | (simp [hcs, opsA, opA, opC, pairsA, bytesA_nil, hz]; done)
              | (simp; exact ⟨_, AV.le_refl _, _, hsub, rfl, x', hx1, rfl⟩)
        · rw [if_pos ho] at hRI
          rw [hRI]
          simp [bytesA_nil]
          exact ⟨_, AV.le_refl _, _, hsub, rfl, x', hx1, rfl⟩
      · rw [if_pos he] at hRI
        rw [hRI]
        have he' : ¬ (ec : Int) = 0 := by omega
        simp [he, he', bytesA_nil]
        exact ⟨_, AV.le_refl _, _, hsub, rfl, x', hx1, rfl⟩
    · have hR : itemR n rows cols i = ([], (lookR i).2) := by rw [hRI, if_pos hl]
      rw [hR]
      have hl' : ¬ ((lookR i).2 : Int) = 0 := by omega
      obtain ⟨row, col, f, ext, text, cur⟩ := i
      generalize lookR ⟨row, col, f, ext, text, cur⟩ = LR at *
      obtain ⟨o, er⟩ := LR
      dsimp only at *
      obtain ⟨g1, g2, g3, g4⟩ := hin
      have k1 : ¬ row < 0 := by omega
      have k2 : ¬ (rows : Int) ≤ row := by omega
      have k3 : ¬ col < 0 := by omega
      have k4 : ¬ (cols : Int) ≤ col := by omega
      unfold itC at hlk ⊢
      unfold opA opC at hlk
      refine ACalls.of_awp follows (st := st20) (plans := pl20) (n := 90) Tryd.func20 rfl (by kernel_rfl) (by kernel_rfl) (by kernel_rfl) ?_
      unfold dimA
      simp +contextual [ite_free, k1, k2, k3, k4]
      intro p hp p2 e1 e2 hp2
      refine callK.eq (hlk _) ?_
      simp [hl, hl', bytesA_nil]
      intro p3 h3
      simp only [ite_none] at h3
      exact ⟨_, AV.le_refl _, _, Store.sub_upd h3.2.2 (Store.sub_upd hp2 (Store.sub_upd hp (Store.sub_refl _))), rfl, x, .inl rfl, rfl⟩
  · have hR : itemR n rows cols i = ([], 1) := by unfold itemR; rw [if_pos hin]
    rw [hR]
    obtain ⟨row, col, f, ext, text, cur⟩ := i
    dsimp only at hin
    refine ACalls.of_awp follows (st := st20) (plans := pl20) (n := 90) Tryd.func20 rfl (by kernel_rfl) (by kernel_rfl) (by kernel_rfl) ?_
    unfold itC dimA
    by_cases h1 : row < 0
    · simp +contextual [ite_free, h1, bytesA_nil]
      exact fun p hp p2 _ _ hp2 => ⟨_, AV.le_refl _, _, Store.sub_upd hp2 (Store.sub_upd hp (Store.sub_refl _)), rfl, x, .inl rfl, rfl⟩
    · by_cases h2 : (rows : Int) ≤ row
      · simp +contextual [ite_free, h1, h2, bytesA_nil]
        exact fun p hp p2 _ _ hp2 => ⟨_, AV.le_refl _, _, Store.sub_upd hp2 (Store.sub_upd hp (Store.sub_refl _)), rfl, x, .inl rfl, rfl⟩
      · by_cases h3 : col < 0
        · simp +contextual [ite_free, h1, h2, h3, bytesA_nil]
          exact fun p hp p2 _ _ hp2 => ⟨_, AV.le_refl _, _, Store.sub_upd hp2 (Store.sub_upd hp (Store.sub_refl _)), rfl, x, .inl rfl, rfl⟩
        · have h4 : (cols : Int) ≤ col := by omega
          simp +contextual [ite_free, h1, h2, h3, h4, bytesA_nil]
          exact fun p hp p2 _ _ hp2 => ⟨_, AV.le_refl _, _, Store.sub_upd hp2 (Store.sub_upd hp (Store.sub_refl _)), rfl, x, .inl rfl, rfl⟩
end Go.Proofs.YtbeohjinefaaoaaDoor
/-
  The document's place of a row and a column.
-/
namespace Go.Proofs.YtbeohjinefaaoaaDoor
open Go Go.AL Go.Sp

set_option maxRecDepth 4000 in
theorem rat_calls {r c : Nat} (h : Dim r c) (row col : Int) (σ : Store) : ACalls Tryd.prog 29 [dimA r c, .lit (.int .i64 row), .lit (.int .i64 col)] σ fun v σ' => v = .lit (.int .i64 (addrAt r c row col)) ∧ σ' = σ := by
  have hv := fun τ => rvalid_calls h τ
  have hr := fun τ => rmod_calls row r h.r1 (by have := h.r2; omega) τ
  have hc := fun τ => rmod_calls col c h.c1 (by have := h.c2; omega) τ
  have hlt := addrAt_lt h row col
  have hm := h.m
  have h1 := wrap_lt h.r1 row
  have h2 := wrap_lt h.c1 col
  have hr2 := h.r2
  have hc2 := h.c2
  unfold dimA at hv
  unfold addrAt at *
  generalize wrap r row = a at *
  generalize wrap c col = b at *
  have hac : a * c ≤ r * c := Nat.mul_le_mul_right _ (Nat.le_of_lt h1)
  have hw1 : IntKind.i64.wrap ((c : Int) * (a : Int)) = ((a * c : Nat) : Int) := by rw [← Int.natCast_mul, Nat.mul_comm]; exact small_i64 (by omega)
  have hw2 : IntKind.i64.wrap (((a * c : Nat) : Int) + (b : Int)) = ((a * c + b : Nat) : Int) := by rw [← Int.natCast_add]; exact small_i64 (by omega)
  generalize a * c + b = z at *
  generalize a * c = y at *
  refine ACalls.of_awp follows (st := st29) (plans := pl29) (n := 22) Tryd.func29 rfl (by kernel_rfl) (by kernel_rfl) (by kernel_rfl) ?_
  simp [dimA]
  intro p hp
  refine callK.eq (hv _) ?_
  simp
  repeat' first
    | with_reducible apply And.intro
    | (refine callK.eq (hr _) ?_; simp [hw1])
    | (refine callK.eq (hc _) ?_; simp [hw1, hw2, hp])
end Go.Proofs.YtbeohjinefaaoaaDoor
/-
  An item's bytes: the document's.
-/
namespace Go.Proofs.YtbeohjinefaaoaaDoor
open Go Go.AL Go.Sp

end Go.Proofs.YtbeohjinefaaoaaDoor
