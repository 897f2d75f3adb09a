/-
  Sizes: any.
-/
import Derived.Test.YtegpebaoghmgiaaGreatDoorSPart13
set_option linter.unusedSimpArgs false
set_option linter.unusedVariables false
namespace Go.Proofs.YtegpebaoghmgiaaGreatDoor
open Go Go.AL
def okSz (r c : Int) : Bool := decide (1 ≤ r ∧ r ≤ 43 ∧ 1 ≤ c ∧ c ≤ 132 ∧ r * c ≤ 3564)
end Go.Proofs.YtegpebaoghmgiaaGreatDoor
/-
  No page; the pages' numbers.
-/
namespace Go.Proofs.YtegpebaoghmgiaaGreatDoor
open Go Go.AL
theorem bytesOf_bytesA (l : List UInt8) : bytesOf (bytesA l) = some l := by
  induction l with
  | nil => rfl
  | cons b l ih =>
    have hb : AL.byteOf (byteA b) = some b := by simp [byteA, AL.byteOf]
    simp only [bytesOf, bytesA, List.map_cons, List.mapM_cons] at ih ⊢
    rw [hb, ih]; rfl
set_option maxRecDepth 8000 in
theorem same11_calls (l : List UInt8) (o1 o2 : Bool) (hl : l.length ≤ 1000000) (σ : Store) : ACalls Tryz.prog 7 [.list o1 1 (bytesA l), .list o2 1 (bytesA l)] σ fun v σ' => v = .lit (.bool true) ∧ σ' = σ := by
  have hb := bytesOf_bytesA l
  refine ACalls.of_awp follows (st := st7) (plans := pl7) (n := 10) Tryz.func7 rfl (by kernel_rfl) (by kernel_rfl) (by kernel_rfl) ?_
  simp [hb]
end Go.Proofs.YtegpebaoghmgiaaGreatDoor
/-
  Rows, columns, moves.
-/
namespace Go.Proofs.YtegpebaoghmgiaaGreatDoor
open Go Go.AL Go.Sp

theorem small_i64 {n : Nat} (h : n ≤ 1000000000) : IntKind.i64.wrap (n : Int) = n := wrap_i64 (by omega) (by omega)
def addrAt (r c : Nat) (row col : Int) : Nat := wrap r row * c + wrap c col
theorem addrAt_lt {r c : Nat} (h : Dim r c) (row col : Int) : addrAt r c row col < r * c := by
  have h1 := wrap_lt h.r1 row
  have h2 := wrap_lt h.c1 col
  unfold addrAt
  have : (wrap r row + 1) * c ≤ r * c := Nat.mul_le_mul_right _ h1
  rw [Nat.succ_mul] at this
  omega
set_option maxRecDepth 4000 in
theorem addrAt_calls {r c : Nat} (h : Dim r c) (row col : Int) (σ : Store) : ACalls Tryz.prog 42 [dimA r c, .lit (.int .i64 row), .lit (.int .i64 col)] σ fun v σ' => v = .lit (.int .i64 (addrAt r c row col)) ∧ σ' = σ := by
  have hv := valid_calls h
  have hr := rest_calls row r h.r1 (by have := h.r2; omega)
  have hc := rest_calls col c h.c1 (by have := h.c2; omega)
  have hlt := addrAt_lt h row col
  have hm := h.m
  have h1 := wrap_lt h.r1 row
  have h2 := wrap_lt h.c1 col
  have hr2 := h.r2
  have hc2 := h.c2
  unfold dimA at hv
  unfold addrAt at *
  generalize wrap r row = a at *
  generalize wrap c col = b at *
  have hac : a * c ≤ r * c := Nat.mul_le_mul_right _ (Nat.le_of_lt h1)
  have hw1 : IntKind.i64.wrap ((a : Int) * (c : Int)) = ((a * c : Nat) : Int) := by rw [← Int.natCast_mul]; exact small_i64 (by omega)
  have hw2 : IntKind.i64.wrap (((a * c : Nat) : Int) + (b : Int)) = ((a * c + b : Nat) : Int) := by rw [← Int.natCast_add]; exact small_i64 (by omega)
  generalize a * c + b = z at *
  generalize a * c = y at *
  refine ACalls.of_awp follows (st := st42) (plans := pl42) (n := 22) Tryz.func42 rfl (by kernel_rfl) (by kernel_rfl) (by kernel_rfl) ?_
  simp [dimA]
  intro p hp
  refine callK.of (hv _) ?_
  rintro v σ' ⟨rfl, rfl⟩
  simp
  repeat' first
    | with_reducible apply And.intro
    | (refine callK.of (hr _) ?_; rintro v σ1 ⟨rfl, rfl⟩; simp [hw1])
    | (refine callK.of (hc _) ?_; rintro v σ1 ⟨rfl, rfl⟩; simp [hw1, hw2, hp])
def lineN (r c : Nat) (n : Int) : Nat := addrAt r c ((wrap (r * c) n / c + 1 : Nat) : Int) 0
end Go.Proofs.YtegpebaoghmgiaaGreatDoor
/-
  An item's bytes, in plain words.
-/
namespace Go.Proofs.YtegpebaoghmgiaaGreatDoor
open Go Go.AL

theorem pgS_other {b o : Nat} (h : ¬ o = b) (n : Int) (x : Option Nat) (σ : Store) : (pgS b n x σ) (o : Int) = σ o := by
  cases x <;> simp [pgS, h]
theorem pgS_upd {b o : Nat} (h : ¬ o = b) (n : Int) (x : Option Nat) (σ : Store) (Y : List AV) : (pgS b n x σ).upd o Y = pgS b n x (σ.upd o Y) := by
  cases x with
  | none => exact supd_swap _ (fun e => h e.symm) _ _
  | some q =>
    unfold pgS
    dsimp only
    rw [sput_upd, supd_swap _ (fun e => h e.symm)]
theorem pgS_fresh {b z : Nat} {n : Int} {x : Option Nat} {σ : Store} (hz : (pgS b n x σ) (z : Int) = none) : ¬ z = b ∧ σ (z : Int) = none := by
  have h1 : ¬ z = b := by rintro rfl; rw [pgS_cell] at hz; cases hz
  rw [pgS_other h1] at hz; exact ⟨h1, hz⟩
theorem pgS_mono {b : Nat} {n : Int} {x : Option Nat} {σ τ : Store} (h : Store.sub σ τ) : Store.sub (pgS b n x σ) (pgS b n x τ) := by
  cases x with
  | none =>
    refine Store.sub2 (fun o => ?_) (fun i => by simpa [pgS] using h (mkey i))
    by_cases e : o = b
    · subst e; right; simp [pgS]
    · have := h (o : Int)
      simpa [pgS, e] using this
  | some q =>
    refine Store.sub2 (fun o => ?_) (fun i => ?_)
    · by_cases e : o = b
      · subst e; right; simp [pgS]
      · have := h (o : Int)
        simpa [pgS, e] using this
    · by_cases e : i = q
      · subst e; right; simp [pgS]
      · have := h (mkey i)
        simpa [pgS, e] using this
theorem codesF_len (n : Int) (t : ByteArray) : ∀ (f pos : Nat) (acc : List UInt8), (codesF n t f pos acc).1.length ≤ acc.length + f
  | 0, _, acc => by simp [codesF]
  | f + 1, pos, acc => by
    rw [codesF]
    split
    · split
      · simp
      · split
        · simp
        · have := codesF_len n t f (pos + (Utf8.decode t pos).2) (acc ++ [UInt8.ofNat (by assumption)])
          simp at this ⊢
          omega
    · simp
def opsI (i : It) (at0 : Nat) (cs : List UInt8) : List Op := [{ kind := 17, addr := (at0 : Int) }, (lookR i).1] ++ ((if i.cur = true then [{ kind := 19 }] else []) ++ (if cs = [] then [] else [{ text := cs }]))
def lookB (i : It) : List UInt8 := if i.ext = [] then [29, six (bitsF i.f)] else 41 :: UInt8.ofNat (1 + i.ext.length) :: 192 :: six (bitsF i.f) :: flatP i.ext
def itemB (rows cols : Nat) (i : It) (cs : List UInt8) : List UInt8 := 17 :: encM (addrAt rows cols i.row i.col) ++ (lookB i ++ ((if i.cur = true then [19] else []) ++ cs))
def itemR (n : Int) (rows cols : Nat) (i : It) : List UInt8 × Nat :=
  if ¬ (0 ≤ i.row ∧ i.row < rows ∧ 0 ≤ i.col ∧ i.col < cols) then ([], 1) else if (lookR i).2 ≠ 0 then ([], (lookR i).2)
  else if (codesF n i.text i.text.size 0 []).2 ≠ 0 then ([], (codesF n i.text i.text.size 0 []).2)
  else if hasOrd (codesF n i.text i.text.size 0 []).1 = true then ([], 10) else if 254 < i.ext.length then ([], 3)
  else (itemB rows cols i (codesF n i.text i.text.size 0 []).1, 0)
theorem look_ok (i : It) (hl : (lookR i).2 = 0) (hx : i.ext.length ≤ 254) : opG (lookR i).1 = (lookB i, 0) ∧ goodG (lookR i).1 := by
  unfold lookR at hl ⊢
  by_cases h1 : okD i.f = false
  · rw [if_pos h1] at hl; simp at hl
  · rw [if_neg h1] at hl ⊢
    by_cases h2 : i.ext = []
    · rw [if_pos h2]
      exact ⟨by simp [opG, lookB, h2], .inr (.inr (.inl rfl))⟩
    · rw [if_neg h2] at hl ⊢
      by_cases h3 : i.ext.any wrongP = true
      · rw [if_pos h3] at hl; simp at hl
      · rw [if_neg h3]
        have hall : ((192, six (bitsF i.f)) :: i.ext).all rightP = true := by
          rw [List.all_eq_true]
          intro p hp
          rcases List.mem_cons.1 hp with rfl | hp
          · simp [rightP, rightN]
          · have := List.any_eq_false.1 (by simpa using h3) p hp
            unfold wrongP at this
            cases hr : rightP p
            · rw [hr] at this; simp at this
            · rfl
        refine ⟨?_, .inr (.inr (.inr ⟨rfl, by simp; omega⟩))⟩
        have e : prB ((192, six (bitsF i.f)) :: i.ext) = (UInt8.ofNat (1 + i.ext.length) :: 192 :: six (bitsF i.f) :: flatP i.ext, 0) := by
          unfold prB
          rw [if_neg (by simp; omega), if_pos hall, List.length_cons, Nat.add_comm]
          rfl
        simp [opG, lookB, h2, e]
theorem opsI_ok {rows cols : Nat} (hD : Dim rows cols) (i : It) (cs : List UInt8) (hl : (lookR i).2 = 0) (ho : hasOrd cs = false) (hx : i.ext.length ≤ 254) (hc : cs.length ≤ 1000000) :
    seqB opG (opsI i (addrAt rows cols i.row i.col) cs) = (itemB rows cols i cs, 0) ∧ ∀ o ∈ opsI i (addrAt rows cols i.row i.col) cs, goodG o := by
  obtain ⟨k1, k2⟩ := look_ok i hl hx
  have ha := addrAt_lt hD i.row i.col
  have h35 : rows * cols ≤ 3564 := hD.m
  have hok : okAddr ((addrAt rows cols i.row i.col : Nat) : Int) := ⟨by omega, by omega⟩
  have e1 : opG { kind := 17, addr := ((addrAt rows cols i.row i.col : Nat) : Int) } = (17 :: encM (addrAt rows cols i.row i.col), 0) := by
    simp [opG, opB, hok]
  have e2 : opG { kind := 19 } = ([19], 0) := by simp [opG]
  have e3 : cs ≠ [] → opG { text := cs } = (cs, 0) := fun h => by simp [opG, opB, h, ho]
  have g1 : goodG { kind := 17, addr := ((addrAt rows cols i.row i.col : Nat) : Int) } := .inl (.inr rfl)
  have g2 : goodG { kind := 19 } := .inr (.inl rfl)
  have g3 : goodG { text := cs } := .inl (.inl ⟨rfl, hc⟩)
  unfold opsI itemB
  generalize (lookR i).1 = L at *
  cases hcu : i.cur
  · by_cases hcs : cs = []
    · refine ⟨?_, by simp [hcs, g1, k2]⟩
      simp [seqB, e1, k1, hcs]
    · have e3 := e3 hcs
      refine ⟨?_, by simp [hcs, g1, k2, g3]⟩
      simp [seqB, e1, k1, hcs, e3]
  · by_cases hcs : cs = []
    · refine ⟨?_, by simp [hcs, g1, k2, g2]⟩
      simp [seqB, e1, k1, hcs, e2]
    · have e3 := e3 hcs
      refine ⟨?_, by simp [hcs, g1, k2, g3, g2]⟩
      simp [seqB, e1, k1, hcs, e3, e2]
end Go.Proofs.YtegpebaoghmgiaaGreatDoor
/-
  An item's bytes: the program's.
-/
namespace Go.Proofs.YtegpebaoghmgiaaGreatDoor
open Go Go.AL Go.Sp

set_option maxHeartbeats 2000000 in
set_option maxRecDepth 8000 in
theorem pitem_calls {rows cols : Nat} (hD : Dim rows cols) (b : Nat) (n : Int) (hn : isPage n) (x : Option Nat) (i : It) (hx : i.ext.length ≤ 1000) (ht : i.text.size ≤ 1000000) (σ : Store) :
    ACalls Tryz.prog 30 [.agg (itC i), dimA rows cols, pgP b] (pgS b n x σ) fun v σ' => v = .tuple [.list true 1 (bytesA (itemR n rows cols i).1), .lit (.int .i64 (itemR n rows cols i).2)] ∧ ∃ x', NxP σ x x' ∧ σ' = pgS b n x' σ := by
  by_cases hin : 0 ≤ i.row ∧ i.row < rows ∧ 0 ≤ i.col ∧ i.col < cols
  · have hlk := fun τ => plooks_calls i hx τ
    have hcd := fun x' τ => pcodes_calls b n hn x' i.text ht τ
    have hRI : itemR n rows cols i = if (lookR i).2 ≠ 0 then ([], (lookR i).2) else if (codesF n i.text i.text.size 0 []).2 ≠ 0 then ([], (codesF n i.text i.text.size 0 []).2)
      else if hasOrd (codesF n i.text i.text.size 0 []).1 = true then ([], 10) else if 254 < i.ext.length then ([], 3)
      else (itemB rows cols i (codesF n i.text i.text.size 0 []).1, 0) := by unfold itemR; rw [if_neg (fun h => h hin)]
    by_cases hl : (lookR i).2 = 0
    · rw [if_neg (fun h => h hl)] at hRI
      have hops := fun cs ho hx2 hc => opsI_ok hD i cs hl ho hx2 hc
      have hat := fun τ => addrAt_calls hD i.row i.col τ
      obtain ⟨row, col, f, ext, text, cur⟩ := i
      have hclen := codesF_len n text text.size 0 []
      dsimp only at ht hclen
      generalize codesF n text text.size 0 [] = CC at *
      obtain ⟨cs, ec⟩ := CC
      simp only [List.length_nil, Nat.zero_add] at hclen
      unfold opsI at hops
      generalize lookR ⟨row, col, f, ext, text, cur⟩ = LR at *
      obtain ⟨o, er⟩ := LR
      dsimp only at *
      subst hl
      obtain ⟨g1, g2, g3, g4⟩ := hin
      have k1 : ¬ row < 0 := by omega
      have k2 : ¬ (rows : Int) ≤ row := by omega
      have k3 : ¬ col < 0 := by omega
      have k4 : ¬ (cols : Int) ≤ col := by omega
      unfold itC at hlk ⊢
      unfold opA opC at hlk
      refine ACalls.of_awp follows (st := st30) (plans := pl30) (n := 90) Tryz.func30 rfl (by kernel_rfl) (by kernel_rfl) (by kernel_rfl) ?_
      unfold dimA
      simp +contextual [ite_free, k1, k2, k3, k4]
      intro p hp p2 e1 e2 hp2
      refine callK.eq (hlk _) ?_
      simp [bytesA_nil]
      intro p3 h3
      simp only [ite_none] at h3
      obtain ⟨h3a, h3b, h3c⟩ := h3
      obtain ⟨pb1, f1⟩ := pgS_fresh hp
      obtain ⟨pb2, f2⟩ := pgS_fresh hp2
      obtain ⟨pb3, f3⟩ := pgS_fresh h3c
      have h3a' : ¬ p2 = p3 := fun e => h3a e.symm
      have h3b' : ¬ p = p3 := fun e => h3b e.symm
      simp only [if_neg h3b', if_neg e1, if_neg e2]
      rw [pgS_upd pb1, pgS_upd pb2, pgS_upd pb3]
      generalize hS : ((σ.upd p _).upd p2 _).upd p3 _ = S at *
      have sub0 : Store.sub σ S := by
        rw [← hS]
        exact Store.sub_upd (by simp [h3a, h3b, f3]) (Store.sub_upd (by simp [e1, e2, f2]) (Store.sub_upd f1 (Store.sub_refl _)))
      have sm : ∀ g, S (mkey g) = σ (mkey g) := fun g => by rw [← hS]; simp
      have c1 : ∀ x', (pgS b n x' S) (p : Int) = some (itC ⟨row, col, f, ext, text, cur⟩) := fun x' => by
        rw [pgS_other pb1, ← hS]; simp [h3b', e1, e2, itC]
      have c2 : ∀ x', (pgS b n x' S) (p2 : Int) = some [.lit (.int .i64 rows), .lit (.int .i64 cols)] := fun x' => by
        rw [pgS_other pb2, ← hS]; simp [h3a', e1, e2]
      have c3 : ∀ x', (pgS b n x' S) (p3 : Int) = some (opC o) := fun x' => by
        rw [pgS_other pb3, ← hS]; simp [opC]
      unfold itC at c1
      unfold opC at c3
      simp [c1]
      refine callK.of (hcd x S) ?_
      rintro v τ ⟨⟨kk, rfl⟩, x', hx', rfl⟩
      have hx1 : NxP σ x x' := hx'.imp id (fun ⟨g, e, hg⟩ => ⟨g, e, by rw [← sm g]; exact hg⟩)
      have hsub := pgS_mono (b := b) (n := n) (x := x') sub0
      by_cases he : ec = 0
      · subst he
        rw [if_neg (fun h => h rfl)] at hRI
        have hcon := fun τ => contains_calls false cs τ (by omega)
        simp
        refine callK.eq (hcon _) ?_
        cases ho : hasOrd cs
        · rw [if_neg (by rw [ho]; simp)] at hRI
          by_cases hx2 : 254 < ext.length
          · rw [if_pos hx2] at hRI
            rw [hRI]
            have hx3 : (254 : Int) < ext.length := by omega
            simp [c1, hx2, hx3, bytesA_nil]
            exact ⟨_, AV.le_refl _, _, hsub, rfl, x', hx1, rfl⟩
          · rw [if_neg hx2] at hRI
            obtain ⟨m1, m2⟩ := hops cs ho (by omega) (by omega)
            have hob := fun τ => obytesG_calls false _ m2 (by split <;> split <;> simp) τ
            rw [m1, ← hRI] at hob
            clear hops hcd hlk m1 m2
            generalize itemR n rows cols ⟨row, col, f, ext, text, cur⟩ = IR at *
            have hx3 : ¬ (254 : Int) < ext.length := by omega
            unfold dimA at hat
            have hz : byteA 0 = .lit (.int .u8 0) := rfl
            have hfin : ∀ (L : List Op) (A : List AV) (R' : AV → Store → Prop), A = opsA L → (∀ τ, ACalls Tryz.prog 43 [.list false 7 (opsA L)] τ fun v σ' => v = .tuple [.list true 1 (bytesA IR.1), .lit (.int .i64 IR.2)] ∧ σ' = τ) → R' (.tuple [.list true 1 (bytesA IR.1), .lit (.int .i64 IR.2)]) (pgS b n x' S) →
                callK Tryz.prog 43 [.list false 7 A] (pgS b n x' S) R' := fun L A R' e h hk => by subst e; exact callK.eq (h _) hk
            clear hRI hcon
            have hlt : (0 < cs.length) = (¬ cs = []) := by simp [List.length_pos_iff]
            cases cur
            all_goals by_cases hcs : cs = []
            all_goals simp [c1, c2, c3, hx2, hx3]
            all_goals (repeat' first | with_reducible apply And.intro | (refine callK.eq (hat _) ?_; simp [hcs, hlt, c1, c2, c3]))
            all_goals refine hfin _ _ _ ?_ hob ?_
            all_goals first
              | (simp [hcs, opsA, opA, opC, pairsA, bytesA_nil, hz]; done)
              | (simp; exact ⟨_, AV.le_refl _, _, hsub, rfl, x', hx1, rfl⟩)
        · rw [if_pos ho] at hRI
          rw [hRI]
          simp [bytesA_nil]
          exact ⟨_, AV.le_refl _, _, hsub, rfl, x', hx1, rfl⟩
      · rw [if_pos he] at hRI
        rw [hRI]
        have he' : ¬ (ec : Int) = 0 := by omega
        simp [he, he', bytesA_nil]
        exact ⟨_, AV.le_refl _, _, hsub, rfl, x', hx1, rfl⟩
    · have hR : itemR n rows cols i = ([], (lookR i).2) := by rw [hRI, if_pos hl]
      rw [hR]
      have hl' : ¬ ((lookR i).2 : Int) = 0 := by omega
      obtain ⟨row, col, f, ext, text, cur⟩ := i
      generalize lookR ⟨row, col, f, ext, text, cur⟩ = LR at *
      obtain ⟨o, er⟩ := LR
      dsimp only at *
      obtain ⟨g1, g2, g3, g4⟩ := hin
      have k1 : ¬ row < 0 := by omega
      have k2 : ¬ (rows : Int) ≤ row := by omega
      have k3 : ¬ col < 0 := by omega
      have k4 : ¬ (cols : Int) ≤ col := by omega
      unfold itC at hlk ⊢
      unfold opA opC at hlk
      refine ACalls.of_awp follows (st := st30) (plans := pl30) (n := 90) Tryz.func30 rfl (by kernel_rfl) (by kernel_rfl) (by kernel_rfl) ?_
      unfold dimA
      simp +contextual [ite_free, k1, k2, k3, k4]
      intro p hp p2 e1 e2 hp2
      refine callK.eq (hlk _) ?_
      simp [hl, hl', bytesA_nil]
      intro p3 h3
      simp only [ite_none] at h3
      exact ⟨_, AV.le_refl _, _, Store.sub_upd h3.2.2 (Store.sub_upd hp2 (Store.sub_upd hp (Store.sub_refl _))), rfl, x, .inl rfl, rfl⟩
  · have hR : itemR n rows cols i = ([], 1) := by unfold itemR; rw [if_pos hin]
    rw [hR]
    obtain ⟨row, col, f, ext, text, cur⟩ := i
    dsimp only at hin
    refine ACalls.of_awp follows (st := st30) (plans := pl30) (n := 90) Tryz.func30 rfl (by kernel_rfl) (by kernel_rfl) (by kernel_rfl) ?_
    unfold itC dimA
    by_cases h1 : row < 0
    · simp +contextual [ite_free, h1, bytesA_nil]
      exact fun p hp p2 _ _ hp2 => ⟨_, AV.le_refl _, _, Store.sub_upd hp2 (Store.sub_upd hp (Store.sub_refl _)), rfl, x, .inl rfl, rfl⟩
    · by_cases h2 : (rows : Int) ≤ row
      · simp +contextual [ite_free, h1, h2, bytesA_nil]
        exact fun p hp p2 _ _ hp2 => ⟨_, AV.le_refl _, _, Store.sub_upd hp2 (Store.sub_upd hp (Store.sub_refl _)), rfl, x, .inl rfl, rfl⟩
      · by_cases h3 : col < 0
        · simp +contextual [ite_free, h1, h2, h3, bytesA_nil]
          exact fun p hp p2 _ _ hp2 => ⟨_, AV.le_refl _, _, Store.sub_upd hp2 (Store.sub_upd hp (Store.sub_refl _)), rfl, x, .inl rfl, rfl⟩
        · have h4 : (cols : Int) ≤ col := by omega
          simp +contextual [ite_free, h1, h2, h3, h4, bytesA_nil]
          exact fun p hp p2 _ _ hp2 => ⟨_, AV.le_refl _, _, Store.sub_upd hp2 (Store.sub_upd hp (Store.sub_refl _)), rfl, x, .inl rfl, rfl⟩
end Go.Proofs.YtegpebaoghmgiaaGreatDoor
/-
  The document's place of a row and a column.
-/
namespace Go.Proofs.YtegpebaoghmgiaaGreatDoor
open Go Go.AL Go.Sp

end Go.Proofs.YtegpebaoghmgiaaGreatDoor
/-
  An item's bytes: the document's.
-/
namespace Go.Proofs.YtegpebaoghmgiaaGreatDoor
open Go Go.AL Go.Sp

end Go.Proofs.YtegpebaoghmgiaaGreatDoor
/-
  A form's record: the program's.
-/
namespace Go.Proofs.YtegpebaoghmgiaaGreatDoor
open Go Go.AL Go.Sp

structure Fm where
  items : List It
  er : Bool
  al : Bool
  re : Bool
  am : Bool
  un : Bool
def itsA (l : List It) : List AV := l.map fun i => .agg (itC i)
@[simp] theorem itsA_length (l : List It) : (itsA l).length = l.length := by simp [itsA]
theorem itsA_get (l : List It) (i : Nat) (h : i < l.length) (h' : i < (itsA l).length) : (itsA l)[i]'h' = .agg (itC l[i]) := by simp [itsA]
def formC (F : Fm) : List AV := [.list false 9 (itsA F.items), .lit (.bool F.er), .lit (.bool F.al), .lit (.bool F.re), .lit (.bool F.am), .lit (.bool F.un)]
def FOk (F : Fm) : Prop := F.items.length ≤ 8 ∧ ∀ i ∈ F.items, i.ext.length ≤ 1000 ∧ i.text.size ≤ 1000
def cmdB (F : Fm) : UInt8 := cmdK (if F.er = true then (if F.al = true then 3 else 2) else 1)
def ctlB (F : Fm) : UInt8 := UInt8.ofNat (ctlN F.re F.am F.un 3)
theorem ctlB_nat (F : Fm) : (ctlB F).toNat = ctlN F.re F.am F.un 3 := by
  unfold ctlB ctlN
  cases F.re <;> cases F.am <;> cases F.un <;> rfl
def recR (n : Int) (rows cols : Nat) (F : Fm) : List UInt8 × Nat :=
  if (seqB (itemR n rows cols) F.items).2 ≠ 0 then ([], (seqB (itemR n rows cols) F.items).2)
  else if 8192 < 2 + (seqB (itemR n rows cols) F.items).1.length then ([], 3)
  else (cmdB F :: ctlB F :: (seqB (itemR n rows cols) F.items).1, 0)
theorem itemR_len (n : Int) (rows cols : Nat) (i : It) (hx : i.ext.length ≤ 1000) (ht : i.text.size ≤ 1000) : (itemR n rows cols i).1.length ≤ 2000 := by
  have hc := codesF_len n i.text i.text.size 0 []
  have hf := flatP_len i.ext
  unfold itemR
  split
  · simp
  · split
    · simp
    · split
      · simp
      · split
        · simp
        · split
          · simp
          · have he : (encM (addrAt rows cols i.row i.col)).length = 2 := rfl
            simp only [List.length_nil, Nat.zero_add] at hc
            unfold itemB lookB
            simp only [List.length_append, List.length_cons, he]
            split <;> split <;> simp <;> omega
def sumI (n : Int) (rows cols : Nat) (l : List It) (i : Nat) : List UInt8 := (l.take i).flatMap fun o => (itemR n rows cols o).1
theorem sumI_succ (n : Int) (rows cols : Nat) (l : List It) (i : Nat) (h : i < l.length) : sumI n rows cols l (i + 1) = sumI n rows cols l i ++ (itemR n rows cols l[i]).1 := by
  rw [sumI, sumI, List.take_succ_eq_append_getElem h, List.flatMap_append]; simp
theorem sumI_len (n : Int) (rows cols : Nat) (l : List It) (hg : ∀ i ∈ l, i.ext.length ≤ 1000 ∧ i.text.size ≤ 1000) (i : Nat) (h : i ≤ l.length) : (sumI n rows cols l i).length ≤ i * 2000 := by
  induction i with
  | zero => simp [sumI]
  | succ i ih =>
    rw [sumI_succ n rows cols l i (by omega), List.length_append]
    have := ih (by omega)
    have := itemR_len n rows cols l[i] (hg _ (List.getElem_mem _)).1 (hg _ (List.getElem_mem _)).2
    omega
set_option maxHeartbeats 2000000 in
set_option maxRecDepth 8000 in
theorem prec_calls {rows cols : Nat} (hD : Dim rows cols) (b : Nat) (n : Int) (hn : isPage n) (x : Option Nat) (F : Fm) (hF : FOk F) (σ : Store) :
    ACalls Tryz.prog 16 [.agg (formC F), dimA rows cols, pgP b] (pgS b n x σ) fun v σ' => v = .tuple [.list true 1 (bytesA (recR n rows cols F).1), .lit (.int .i64 (recR n rows cols F).2)] ∧ ∃ x', NxP σ x x' ∧ σ' = pgS b n x' σ := by
  obtain ⟨hF1, hF2⟩ := hF
  have hcm := fun τ => command_calls (itsA F.items) F.er F.al F.re F.am F.un τ
  have hct := fun τ => control_calls (itsA F.items) F.er F.al F.re F.am F.un τ
  rw [← ctlB_nat] at hct
  have hval := fun τ => valid_calls hD τ
  have hRR : recR n rows cols F = if (seqB (itemR n rows cols) F.items).2 ≠ 0 then ([], (seqB (itemR n rows cols) F.items).2)
    else if 8192 < 2 + (seqB (itemR n rows cols) F.items).1.length then ([], 3)
    else (cmdB F :: ctlB F :: (seqB (itemR n rows cols) F.items).1, 0) := rfl
  have hcb : cmdK (if F.er = true then (if F.al = true then 3 else 2) else 1) = cmdB F := rfl
  rw [hcb] at hcm
  generalize cmdB F = cb at *
  generalize ctlB F = tb at *
  generalize recR n rows cols F = RR at *
  obtain ⟨items, er, al, re, am, un⟩ := F
  dsimp only at *
  unfold formC dimA
  unfold dimA at hval
  refine ACalls.of_awp follows (st := st16) (plans := pl16) (n := 50) Tryz.func16 rfl (by kernel_rfl) (by kernel_rfl) (by kernel_rfl) ?_
  simp +contextual [ite_free]
  intro p hp p2 e1 e2 hp2
  refine callK.eq (hval _) ?_
  simp [e1, e2]
  obtain ⟨pb1, f1⟩ := pgS_fresh hp
  obtain ⟨pb2, f2⟩ := pgS_fresh hp2
  rw [pgS_upd pb1, pgS_upd pb2]
  generalize hS : (σ.upd p _).upd p2 _ = S
  have sub0 : Store.sub σ S := by
    rw [← hS]
    exact Store.sub_upd (by simp [e1, e2, f2]) (Store.sub_upd f1 (Store.sub_refl _))
  have sm : ∀ g, S (mkey g) = σ (mkey g) := fun g => by rw [← hS]; simp
  have c1 : ∀ x', (pgS b n x' S) (p : Int) = some (formC ⟨items, er, al, re, am, un⟩) := fun x' => by
    rw [pgS_other pb1, ← hS]; simp [e1, e2, formC]
  have c2 : ∀ x', (pgS b n x' S) (p2 : Int) = some [.lit (.int .i64 rows), .lit (.int .i64 cols)] := fun x' => by
    rw [pgS_other pb2, ← hS]; simp
  unfold formC at c1
  clear hS
  repeat' first
    | with_reducible apply And.intro
    | (refine callK.eq (hcm _) ?_; simp [c1, c2])
    | (refine callK.eq (hct _) ?_; simp [c1, c2])
  all_goals
    refine codeK.loop follows (st := st16) (plans := pl16) (X := Nat × Option Nat) (fun y => y.1 ≤ items.length ∧ NxP σ x y.2 ∧ ∀ j (hj : j < items.length), j < y.1 → (itemR n rows cols items[j]).2 = 0)
      (fun y => [(2, pgP b), (4, .lit (.pointer (some ⟨p2, 0, none⟩))), (8, .list true 1 (bytesA (cb :: tb :: sumI n rows cols items y.1))), (26, .list false 9 (itsA items)), (27, .lit (.int .i64 items.length)), (28, .lit (.int .i64 y.1))]) (fun y => pgS b n y.2 S) (fun y => items.length - y.1) (0, x) (by kernel_rfl) ⟨by simp, .inl rfl, by simp⟩ (by simp [sumI, bytesA, byteA]) (Store.sub_refl _) fun y hy => ?_
    obtain ⟨i, x1⟩ := y
    obtain ⟨hi, hx1, hk⟩ := hy
    dsimp only at hi hx1 hk ⊢
    have hlen := sumI_len n rows cols items hF2 i hi
    by_cases hlt : i < items.length
    · have hw : IntKind.i64.wrap ((i : Int) + 1) = ((i + 1 : Nat) : Int) := wrap_i64 (by omega) (by omega)
      have ha := itsA_get items i hlt
      obtain ⟨hg1, hg2⟩ := hF2 _ (List.getElem_mem hlt)
      have hit := fun x' τ => pitem_calls hD b n hn x' items[i] hg1 (by omega) τ
      have hyes := fun h => seqB_bad (f := itemR n rows cols) hlt hk h
      have hno : (itemR n rows cols items[i]).2 = 0 → ∀ j (hj : j < items.length), j < i + 1 → (itemR n rows cols items[j]).2 = 0 := fun h j hj hji => by
        by_cases e : j = i
        · subst e; exact h
        · exact hk j hj (by omega)
      have hsucc := sumI_succ n rows cols items i hlt
      have hlen1 := itemR_len n rows cols items[i] hg1 hg2
      generalize items[i] = z at *
      obtain ⟨zr, zc, zf, ze, zt, zu⟩ := z
      generalize itemR n rows cols ⟨zr, zc, zf, ze, zt, zu⟩ = IR at *
      obtain ⟨bs, er1⟩ := IR
      dsimp only at hlen1
      unfold itC at ha hit
      unfold dimA at hit
      simp [hlt, ha]
      intro p3 hp3
      obtain ⟨pb3, f3⟩ := pgS_fresh hp3
      have n2 : ¬ p2 = p3 := fun e => by subst e; rw [c2] at hp3; cases hp3
      simp [n2, c2]
      rw [pgS_upd pb3]
      refine callK.of (hit x1 _) ?_
      rintro v τ ⟨rfl, x2, hx2, rfl⟩
      have hx3 : NxP σ x x2 := hx1.trans (hx2.imp id (fun ⟨g, e, hg⟩ => ⟨g, e, by rw [← sm g]; simpa using hg⟩))
      have hsb : Store.sub (pgS b n x2 S) (pgS b n x2 (S.upd p3 (itC ⟨zr, zc, zf, ze, zt, zu⟩))) := pgS_mono (Store.sub_upd f3 (Store.sub_refl _))
      unfold itC at hsb
      by_cases he : er1 = 0
      · subst he
        simp
        refine ⟨by omega, by omega, i + 1, x2, ⟨by omega, hx3, hno rfl⟩, by omega, ⟨le_of_eq ?_, by rw [hw]; exact AV.le_refl _⟩, hsb⟩
        rw [hsucc]
        simp [bytesA]
      · have hy := hyes he
        rw [if_pos (by rw [hy]; exact he), hy] at hRR
        subst hRR
        have he' : ¬ (er1 : Int) = 0 := by omega
        simp [he, he', bytesA_nil]
        exact ⟨_, AV.le_refl _, _, Store.sub_trans (pgS_mono sub0) hsb, rfl, x2, hx3, rfl⟩
    · obtain rfl : i = items.length := by omega
      have hz := seqB_ok (f := itemR n rows cols) (l := items) fun o ho => by
        obtain ⟨j, hj, rfl⟩ := List.mem_iff_getElem.1 ho
        exact hk j hj hj
      have hse : sumI n rows cols items items.length = (seqB (itemR n rows cols) items).1 := by rw [hz, sumI, List.take_length]
      rw [if_neg (by rw [hz]; simp), ← hse] at hRR
      generalize sumI n rows cols items items.length = W at *
      by_cases h8 : 8192 < 2 + W.length
      · rw [if_pos h8] at hRR
        subst hRR
        have h8' : (8192 : Int) < (W.length : Int) + 1 + 1 := by omega
        simp [h8', bytesA_nil]
        exact ⟨_, AV.le_refl _, _, pgS_mono sub0, rfl, x1, hx1, rfl⟩
      · rw [if_neg h8] at hRR
        subst hRR
        have h8' : ¬ (8192 : Int) < (W.length : Int) + 1 + 1 := by omega
        simp [h8']
        exact ⟨_, AV.le_refl _, _, pgS_mono sub0, rfl, x1, hx1, rfl⟩
end Go.Proofs.YtegpebaoghmgiaaGreatDoor
/-
  A form's record: the document's.
-/
namespace Go.Proofs.YtegpebaoghmgiaaGreatDoor
open Go Go.AL Go.Sp

@[simp] def st10x : List Nat := [69, 70, 77, 1000019]
end Go.Proofs.YtegpebaoghmgiaaGreatDoor
/-
  Records that there are none of.
-/
namespace Go.Proofs.YtegpebaoghmgiaaGreatDoor
open Go Go.AL Go.Sp

end Go.Proofs.YtegpebaoghmgiaaGreatDoor
/-
  A form as the program has it.
-/
namespace Go.Proofs.YtegpebaoghmgiaaGreatDoor
open Go Go.AL Go.Sp

end Go.Proofs.YtegpebaoghmgiaaGreatDoor
/-
  A form that is not too great.
-/
namespace Go.Proofs.YtegpebaoghmgiaaGreatDoor
open Go Go.AL Go.Sp

def cutT (t : ByteArray) : ByteArray := if 60 < t.size then toB (t.data.toList.take 60) else t
def cutI (i : It) : It := { i with ext := i.ext.take 258, text := cutT i.text }
def fewF (F : Fm) : Fm := { F with items := (F.items.take 8).map cutI }
end Go.Proofs.YtegpebaoghmgiaaGreatDoor
/-
  HostForms.
-/
namespace Go.Proofs.YtegpebaoghmgiaaGreatDoor
open Go Go.AL Go.Sp

theorem pgS_sub {b : Nat} {n : Int} {x : Option Nat} {σ : Store} (hb : σ b = none) (hx : NxP σ none x) : Store.sub σ (pgS b n x σ) := by
  rcases hx with rfl | ⟨g, rfl, hg⟩
  · exact Store.sub_upd hb (Store.sub_refl _)
  · exact Store.sub_trans (Store.sub_upd hb (Store.sub_refl _)) (sub_put (by simpa using hg) _)
def awF : Fm := { items := [{ row := 0, col := 0, f := { prot := false, num := false, disp := 0, mod := false }, ext := [], text := ⟨#[65]⟩, cur := false }], er := true, al := false, re := true, am := false, un := false }
theorem aw_rec : recR 37 24 80 awF = ([245, 66, 17, 64, 64, 29, 64, 193], 0) := by decide +kernel
theorem dim24 : Dim 24 80 := ⟨by omega, by omega, by omega, by omega, by omega, by omega⟩
theorem aw_ok : FOk awF := ⟨by decide, by intro i hi; simp [awF] at hi; subst hi; exact ⟨by simp, by decide⟩⟩
set_option maxHeartbeats 1000000 in
set_option maxRecDepth 8000 in
theorem awake_calls (σ : Store) : ACalls Tryz.prog 4 [] σ fun v σ' => v = .lit (.bool true) ∧ σ' = σ := by
  have hpn := fun τ => page_new 37 (.inl rfl) τ
  have hrec := fun b x τ => prec_calls dim24 b 37 (.inl rfl) x awF aw_ok τ
  rw [aw_rec] at hrec
  have hf : formC awF = [.list false 9 [.agg [.lit (.int .i64 0), .lit (.int .i64 0), .lit (.bool false), .lit (.bool false), .lit (.int .i64 0), .lit (.bool false), .list false 2 [], .lit (.string ⟨#[65]⟩), .lit (.bool false)]], .lit (.bool true), .lit (.bool false), .lit (.bool true), .lit (.bool false), .lit (.bool false)] := rfl
  rw [hf] at hrec
  unfold dimA at hrec
  have hsm := fun τ => same11_calls [245, 66, 17, 64, 64, 29, 64, 193] false true (by simp) τ
  have hl8 : bytesA [245, 66, 17, 64, 64, 29, 64, 193] = [.lit (.int .u8 245), .lit (.int .u8 66), .lit (.int .u8 17), .lit (.int .u8 64), .lit (.int .u8 64), .lit (.int .u8 29), .lit (.int .u8 64), .lit (.int .u8 193)] := rfl
  rw [hl8] at hsm hrec
  clear hl8 hf
  refine ACalls.of_awp follows (st := st4) (plans := pl4) (n := 25) Tryz.func4 rfl (by kernel_rfl) (by kernel_rfl) (by kernel_rfl) ?_
  simp
  refine callK.of (hpn _) ?_
  rintro v τ ⟨b, hb, rfl, rfl⟩
  simp
  refine callK.of (hrec b none σ) ?_
  rintro v τ ⟨rfl, x', hx', rfl⟩
  simp
  refine callK.eq (hsm _) ?_
  simp
  exact pgS_sub hb hx'
end Go.Proofs.YtegpebaoghmgiaaGreatDoor
