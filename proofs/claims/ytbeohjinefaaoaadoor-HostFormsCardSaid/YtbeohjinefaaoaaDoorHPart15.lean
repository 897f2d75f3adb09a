/-
  An item's looks, as an order.
-/
import Derived.Test.YtbeohjinefaaoaaDoorHPart14
set_option linter.unusedSimpArgs false
set_option linter.unusedVariables false
namespace Go.Proofs.YtbeohjinefaaoaaDoor
open Go Go.AL

structure It where
  row : Int
  col : Int
  f : Fd
  ext : List (UInt8 × UInt8)
  text : ByteArray
  cur : Bool
def itC (i : It) : List AV := [.lit (.int .i64 i.row), .lit (.int .i64 i.col), .lit (.bool i.f.prot), .lit (.bool i.f.num), .lit (.int .i64 i.f.disp), .lit (.bool i.f.mod), .list false 2 (pairsA i.ext), .lit (.string i.text), .lit (.bool i.cur)]
def wrongP (p : UInt8 × UInt8) : Bool := decide (p.1 = 192) || !rightP p
def lookR (i : It) : Op × Nat := if okD i.f = false then ({}, 1) else if i.ext = [] then ({ kind := 29, fa := six (bitsF i.f) }, 0) else if i.ext.any wrongP = true then ({}, 10) else ({ kind := 41, pairs := (192, six (bitsF i.f)) :: i.ext }, 0)
set_option maxHeartbeats 1000000 in
set_option maxRecDepth 8000 in
theorem plooks_calls (i : It) (hx : i.ext.length ≤ 1000) (σ : Store) : ACalls Tryd.prog 33 [.agg (itC i)] σ fun v σ' => v = .tuple [opA (lookR i).1, .lit (.int .i64 (lookR i).2)] ∧ σ' = σ := by
  obtain ⟨row, col, f, ext, text, cur⟩ := i
  dsimp only at hx
  have hb := fun τ => fbyte_calls f τ
  have hfa : fdA f = .agg [.lit (.bool f.prot), .lit (.bool f.num), .lit (.int .i64 f.disp), .lit (.bool f.mod)] := rfl
  rw [hfa] at hb
  unfold itC
  cases hk : okD f
  · have hL : lookR ⟨row, col, f, ext, text, cur⟩ = ({}, 1) := by simp [lookR, hk]
    rw [hL]
    rw [hk] at hb
    refine ACalls.of_awp follows (st := st33) (plans := pl33) (n := 52) Tryd.func33 rfl (by kernel_rfl) (by kernel_rfl) (by kernel_rfl) ?_
    simp +contextual [ite_free]
    intro p hp p2 h1 h2 h3
    refine callK.eq (hb _) ?_
    simp [h1, h2]
    exact ⟨AV.le_refl _, Store.sub_upd h3 (Store.sub_upd hp (Store.sub_refl _))⟩
  · rw [hk] at hb
    simp only [if_true] at hb
    have e6 : byteA (six (bitsF f)) = .lit (.int .u8 ((six (bitsF f)).toNat : Int)) := rfl
    rw [e6] at hb
    by_cases he : ext = []
    · have hL : lookR ⟨row, col, f, ext, text, cur⟩ = ({ kind := 29, fa := six (bitsF f) }, 0) := by simp [lookR, hk, he]
      rw [hL]
      subst he
      have hp0 : pairsA [] = [] := rfl
      generalize six (bitsF f) = SX at *
      refine ACalls.of_awp follows (st := st33) (plans := pl33) (n := 52) Tryd.func33 rfl (by kernel_rfl) (by kernel_rfl) (by kernel_rfl) ?_
      simp +contextual [ite_free]
      intro p hp p2 h1 h2 h3
      refine callK.eq (hb _) ?_
      simp [h1, h2, hp0]
      exact ⟨AV.le_refl _, Store.sub_upd h3 (Store.sub_upd hp (Store.sub_refl _))⟩
    · have hL : lookR ⟨row, col, f, ext, text, cur⟩ = if ext.any wrongP = true then ({}, 10) else ({ kind := 41, pairs := (192, six (bitsF f)) :: ext }, 0) := by simp [lookR, hk, he]
      rw [hL]
      have hel : ¬ ext.length = 0 := fun e => he (List.eq_nil_of_length_eq_zero e)
      generalize six (bitsF f) = SX at *
      refine ACalls.of_awp follows (st := st33) (plans := pl33) (n := 52) Tryd.func33 rfl (by kernel_rfl) (by kernel_rfl) (by kernel_rfl) ?_
      simp +contextual [ite_free]
      intro p hp p2 h1 h2 h3
      refine callK.eq (hb _) ?_
      simp [h1, h2, he, hel]
      have hsub : Store.sub σ ((σ.upd p [.lit (.int .i64 row), .lit (.int .i64 col), .lit (.bool f.prot), .lit (.bool f.num), .lit (.int .i64 f.disp), .lit (.bool f.mod), .list false 2 (pairsA ext), .lit (.string text), .lit (.bool cur)]).upd p2 [.lit (.int .i64 0), .lit (.int .i64 0), .lit (.int .u8 0), .lit (.bool false), .lit (.int .u8 0), .list true 2 [], .list true 1 []]) := Store.sub_upd h3 (Store.sub_upd hp (Store.sub_refl _))
      have y1 : ((σ.upd p [.lit (.int .i64 row), .lit (.int .i64 col), .lit (.bool f.prot), .lit (.bool f.num), .lit (.int .i64 f.disp), .lit (.bool f.mod), .list false 2 (pairsA ext), .lit (.string text), .lit (.bool cur)]).upd p2 [.lit (.int .i64 0), .lit (.int .i64 0), .lit (.int .u8 0), .lit (.bool false), .lit (.int .u8 0), .list true 2 [], .list true 1 []]) p = some [.lit (.int .i64 row), .lit (.int .i64 col), .lit (.bool f.prot), .lit (.bool f.num), .lit (.int .i64 f.disp), .lit (.bool f.mod), .list false 2 (pairsA ext), .lit (.string text), .lit (.bool cur)] := by simp [h1, h2]
      have y2 : ((σ.upd p [.lit (.int .i64 row), .lit (.int .i64 col), .lit (.bool f.prot), .lit (.bool f.num), .lit (.int .i64 f.disp), .lit (.bool f.mod), .list false 2 (pairsA ext), .lit (.string text), .lit (.bool cur)]).upd p2 [.lit (.int .i64 0), .lit (.int .i64 0), .lit (.int .u8 0), .lit (.bool false), .lit (.int .u8 0), .list true 2 [], .list true 1 []]) p2 = some [.lit (.int .i64 0), .lit (.int .i64 0), .lit (.int .u8 0), .lit (.bool false), .lit (.int .u8 0), .list true 2 [], .list true 1 []] := by simp
      generalize ((σ.upd p [.lit (.int .i64 row), .lit (.int .i64 col), .lit (.bool f.prot), .lit (.bool f.num), .lit (.int .i64 f.disp), .lit (.bool f.mod), .list false 2 (pairsA ext), .lit (.string text), .lit (.bool cur)]).upd p2 [.lit (.int .i64 0), .lit (.int .i64 0), .lit (.int .u8 0), .lit (.bool false), .lit (.int .u8 0), .list true 2 [], .list true 1 []]) = Y at *
      have fromY : ∀ c : Nat, Y c = none → σ c = none := fun c hc => by
        rcases hsub c with h | h
        · exact h
        · rw [h]; exact hc
      refine codeK.loop follows (st := st33) (plans := pl33) (X := Nat) (fun i => i ≤ ext.length ∧ ∀ j (hj : j < ext.length), j < i → wrongP ext[j] = false)
        (fun i => [(1, .lit (.pointer (some ⟨p, 0, none⟩))), (2, .lit (.pointer (some ⟨p2, 0, none⟩))), (6, .list true 2 [.agg [.lit (.int .u8 192), .lit (.int .u8 (SX.toNat : Int))]]), (31, .list false 2 (pairsA ext)), (32, .lit (.int .i64 ext.length)), (33, .lit (.int .i64 i))]) (fun _ => Y) (fun i => ext.length - i) 0 (by kernel_rfl) (by simp) (by simp) (Store.sub_refl _) fun i hi => ?_
      obtain ⟨hi, hkk⟩ := hi
      by_cases hlt : i < ext.length
      · have hw : IntKind.i64.wrap ((i : Int) + 1) = ((i + 1 : Nat) : Int) := wrap_i64 (by omega) (by omega)
        have hs := fun τ => check_calls ext[i] τ
        have ha := pairsA_get ext i hlt
        have hga : ∀ h : i < (pairsA ext).length, (pairsA ext)[i]'h = .agg [byteA ext[i].1, byteA ext[i].2] := fun h => by rw [List.getElem?_eq_getElem h] at ha; exact Option.some.inj ha
        have hbad : wrongP ext[i] = true → ext.any wrongP = true := fun h => List.any_eq_true.2 ⟨_, List.getElem_mem hlt, h⟩
        have hno : wrongP ext[i] = false → ∀ j (hj : j < ext.length), j < i + 1 → wrongP ext[j] = false := fun h j hj hji => by
          by_cases e : j = i
          · subst e; exact h
          · exact hkk j hj (by omega)
        generalize ext[i] = z at *
        obtain ⟨z1, z2⟩ := z
        simp only [byteA] at hs ha hga
        by_cases hz : z1 = 192
        · subst hz
          have hwr : wrongP (192, z2) = true := by simp [wrongP]
          rw [hbad hwr]
          simp [hlt, ha, hga]
          intro c hc
          have c2 : ¬ p2 = c := fun e => by subst e; rw [y2] at hc; cases hc
          simp [y2, c2]
          exact ⟨AV.le_refl _, Store.sub_upd h3 (Store.sub_upd (fromY c hc) hsub)⟩
        · have hz' : ¬ (z1.toNat : Int) = 192 := fun e => hz (UInt8.toNat_inj.1 (by show z1.toNat = 192; omega))
          have hzN : ¬ z1.toNat = 192 := fun e => hz' (by omega)
          simp [hlt, ha, hga, hz', hzN]
          intro c hc
          have c2 : ¬ p2 = c := fun e => by subst e; rw [y2] at hc; cases hc
          refine callK.eq (hs _) ?_
          cases hr : rightP (z1, z2)
          · have hwr : wrongP (z1, z2) = true := by simp [wrongP, hr]
            rw [hbad hwr]
            simp [errN, y2, c2, hz', hzN]
            exact ⟨AV.le_refl _, Store.sub_upd h3 (Store.sub_upd (fromY c hc) hsub)⟩
          · have hwr : wrongP (z1, z2) = false := by simp [wrongP, hr, hz]
            simp [errN, hz', hzN]
            exact ⟨i + 1, ⟨by omega, hno hwr⟩, by omega, by rw [hw]; exact AV.le_refl _, Store.sub_upd hc (Store.sub_refl _)⟩
      · obtain rfl : i = ext.length := by omega
        have hall : ext.any wrongP = false := by
          rw [List.any_eq_false]
          intro x hx
          obtain ⟨j, hj, rfl⟩ := List.mem_iff_getElem.1 hx
          rw [hkk j hj hj]; simp
        rw [hall]
        simp [y1, y2]
        refine ⟨by omega, by omega, AV.le_refl _, ?_⟩
        exact Store.sub_upd h3 hsub
end Go.Proofs.YtbeohjinefaaoaaDoor
/-
  A form's control byte.
-/
namespace Go.Proofs.YtbeohjinefaaoaaDoor
open Go Go.AL

def ctlN (r a u : Bool) (i : Nat) : Nat := 64 + (if u = true ∧ 0 < i then 1 else 0) + (if r = true ∧ 1 < i then 2 else 0) + (if a = true ∧ 2 < i then 4 else 0)
set_option maxHeartbeats 4000000 in
set_option maxRecDepth 8000 in
theorem control_calls (vs : List AV) (e al r a u : Bool) (σ : Store) : ACalls Tryd.prog 19 [.agg [.list false 9 vs, .lit (.bool e), .lit (.bool al), .lit (.bool r), .lit (.bool a), .lit (.bool u)]] σ fun v σ' => v = .lit (.int .u8 (ctlN r a u 3 : Nat)) ∧ σ' = σ := by
  have fin : ∀ {p : Nat} {C : List AV}, σ p = none → Store.sub σ (σ.upd p C) := fun h => Store.sub_upd h (Store.sub_refl _)
  refine ACalls.of_awp follows (st := st19) (plans := pl19) (n := 29) Tryd.func19 rfl (by kernel_rfl) (by kernel_rfl) (by kernel_rfl) ?_
  simp
  intro p hp
  refine codeK.loop follows (st := st19) (plans := pl19) (X := Nat) (fun i => i ≤ 3)
    (fun i => [(3, .lit (.int .u8 (ctlN r a u i : Nat))), (15, .list false 2 [.agg [.lit (.bool u), .lit (.int .u8 1)], .agg [.lit (.bool r), .lit (.int .u8 2)], .agg [.lit (.bool a), .lit (.int .u8 4)]]), (16, .lit (.int .i64 3)), (17, .lit (.int .i64 (i : Nat)))]) (fun _ => σ) (fun i => 3 - i) 0 (by kernel_rfl) (by simp) (by simp [ctlN]) (fin hp) fun i hi => ?_
  have hi4 : i = 0 ∨ i = 1 ∨ i = 2 ∨ i = 3 := by omega
  rcases hi4 with rfl | rfl | rfl | rfl
  · cases r <;> cases a <;> cases u <;> simp [ctlN] <;> exact fun c hc => ⟨1, by omega, by omega, by first | exact ⟨le_of_eq rfl, le_of_eq rfl⟩ | exact le_of_eq rfl, Store.sub_upd hc (Store.sub_refl _)⟩
  · cases r <;> cases a <;> cases u <;> simp [ctlN] <;> exact fun c hc => ⟨2, by omega, by omega, by first | exact ⟨le_of_eq rfl, le_of_eq rfl⟩ | exact le_of_eq rfl, Store.sub_upd hc (Store.sub_refl _)⟩
  · cases r <;> cases a <;> cases u <;> simp [ctlN] <;> exact fun c hc => ⟨3, by omega, by omega, by first | exact ⟨le_of_eq rfl, le_of_eq rfl⟩ | exact le_of_eq rfl, Store.sub_upd hc (Store.sub_refl _)⟩
  · simp
end Go.Proofs.YtbeohjinefaaoaaDoor
/-
  A form's command.
-/
namespace Go.Proofs.YtbeohjinefaaoaaDoor
open Go Go.AL
def cmdK (k : Nat) : UInt8 := if k = 1 then 241 else if k = 2 then 245 else 126
set_option maxHeartbeats 1000000 in
set_option maxRecDepth 8000 in
theorem wof_calls (k : Nat) (hk : k = 1 ∨ k = 2 ∨ k = 3) (σ : Store) : ACalls Tryd.prog 51 [.lit (.int .i64 k)] σ fun v σ' => (∃ (s : ByteArray) (z : Int), v = .tuple [.agg [.lit (.string s), .lit (.int .u8 z), .lit (.int .u8 ((cmdK k).toNat : Int))], .lit (.bool true)]) ∧ σ' = σ := by
  refine ACalls.of_awp follows (st := st51) (plans := pl51) (n := 14) Tryd.func51 rfl (by kernel_rfl) (by kernel_rfl) (by kernel_rfl) ?_
  rcases hk with rfl | rfl | rfl
  all_goals
    simp [cmdsO, cmdNames, cmdC]
    exact fun p hp => ⟨_, AV.le_refl _, Store.sub_upd hp (Store.sub_refl _), _, _, rfl⟩
set_option maxRecDepth 8000 in
theorem wbyte_calls (k : Nat) (hk : k = 1 ∨ k = 2 ∨ k = 3) (σ : Store) : ACalls Tryd.prog 32 [.lit (.int .i64 k)] σ fun v σ' => v = .lit (.int .u8 ((cmdK k).toNat : Int)) ∧ σ' = σ := by
  have hw := fun τ => wof_calls k hk τ
  generalize cmdK k = c at *
  refine ACalls.of_awp follows (st := st32) (plans := pl32) (n := 12) Tryd.func32 rfl (by kernel_rfl) (by kernel_rfl) (by kernel_rfl) ?_
  simp
  refine callK.of (hw _) ?_
  rintro v τ ⟨⟨s, z, rfl⟩, rfl⟩
  simp
  exact fun p hp => Store.sub_upd hp (Store.sub_refl _)
set_option maxRecDepth 8000 in
theorem command_calls (vs : List AV) (e al r a u : Bool) (σ : Store) : ACalls Tryd.prog 18 [.agg [.list false 9 vs, .lit (.bool e), .lit (.bool al), .lit (.bool r), .lit (.bool a), .lit (.bool u)]] σ fun v σ' => v = .lit (.int .u8 ((cmdK (if e = true then (if al = true then 3 else 2) else 1)).toNat : Int)) ∧ σ' = σ := by
  have h1 := fun τ => wbyte_calls 1 (.inl rfl) τ
  have h2 := fun τ => wbyte_calls 2 (.inr (.inl rfl)) τ
  have h3 := fun τ => wbyte_calls 3 (.inr (.inr rfl)) τ
  cases e <;> cases al
  all_goals
    simp only [if_true, if_false, Bool.false_eq_true]
    generalize cmdK 1 = c1 at *
    generalize cmdK 2 = c2 at *
    generalize cmdK 3 = c3 at *
    refine ACalls.of_awp follows (st := st18) (plans := pl18) (n := 16) Tryd.func18 rfl (by kernel_rfl) (by kernel_rfl) (by kernel_rfl) ?_
    simp
    intro p hp
    first
      | refine callK.eq (h1 _) ?_
      | refine callK.eq (h2 _) ?_
      | refine callK.eq (h3 _) ?_
    simp
    exact Store.sub_upd hp (Store.sub_refl _)
end Go.Proofs.YtbeohjinefaaoaaDoor
/-
  Sizes: any.
-/
namespace Go.Proofs.YtbeohjinefaaoaaDoor
open Go Go.AL
def okSz (r c : Int) : Bool := decide (1 ≤ r ∧ r ≤ 43 ∧ 1 ≤ c ∧ c ≤ 132 ∧ r * c ≤ 3564)
set_option maxHeartbeats 1000000 in
set_option maxRecDepth 8000 in
theorem validZ_calls (r c : Int) (σ : Store) : ACalls Tryd.prog 17 [.agg [.lit (.int .i64 r), .lit (.int .i64 c)]] σ fun v σ' => v = .lit (.bool (okSz r c)) ∧ σ' = σ := by
  have fin : ∀ {p : Nat} {C : List AV}, σ p = none → Store.sub σ (σ.upd p C) := fun h => Store.sub_upd h (Store.sub_refl _)
  unfold okSz
  refine ACalls.of_awp follows (st := st17) (plans := pl17) (n := 29) Tryd.func17 rfl (by kernel_rfl) (by kernel_rfl) (by kernel_rfl) ?_
  by_cases h1 : 1 ≤ r
  · by_cases h2 : r ≤ 43
    · by_cases h3 : 1 ≤ c
      · by_cases h4 : c ≤ 132
        · have hb : r * c ≤ 43 * 132 := Int.mul_le_mul h2 h4 (by omega) (by omega)
          have hb0 : 0 ≤ r * c := Int.mul_nonneg (by omega) (by omega)
          have hw : IntKind.i64.wrap (r * c) = r * c := wrap_i64 (by omega) (by omega)
          by_cases h5 : r * c ≤ 3564
          · simp [h1, h2, h3, h4, h5, hw]; exact fun p hp => fin hp
          · simp [h1, h2, h3, h4, h5, hw]; exact fun p hp => fin hp
        · simp [h1, h2, h3, h4]; exact fun p hp => fin hp
      · simp [h1, h2, h3]; exact fun p hp => fin hp
    · simp [h1, h2]; exact fun p hp => fin hp
  · simp [h1]; exact fun p hp => fin hp
set_option maxHeartbeats 1000000 in
set_option maxRecDepth 8000 in
theorem rvalidZ_calls (r c : Int) (σ : Store) : ACalls Tryd.prog 22 [.agg [.lit (.int .i64 r), .lit (.int .i64 c)]] σ fun v σ' => v = .lit (.bool (okSz r c)) ∧ σ' = σ := by
  have fin : ∀ {p : Nat} {C : List AV}, σ p = none → Store.sub σ (σ.upd p C) := fun h => Store.sub_upd h (Store.sub_refl _)
  unfold okSz
  refine ACalls.of_awp follows (st := st22) (plans := pl22) (n := 29) Tryd.func22 rfl (by kernel_rfl) (by kernel_rfl) (by kernel_rfl) ?_
  by_cases h1 : 1 ≤ r
  · by_cases h2 : r ≤ 43
    · by_cases h3 : 1 ≤ c
      · by_cases h4 : c ≤ 132
        · have hb : r * c ≤ 43 * 132 := Int.mul_le_mul h2 h4 (by omega) (by omega)
          have hb0 : 0 ≤ r * c := Int.mul_nonneg (by omega) (by omega)
          have hw : IntKind.i64.wrap (r * c) = r * c := wrap_i64 (by omega) (by omega)
          by_cases h5 : r * c ≤ 3564
          · simp [h1, h2, h3, h4, h5, hw]; exact fun p hp => fin hp
          · simp [h1, h2, h3, h4, h5, hw]; exact fun p hp => fin hp
        · simp [h1, h2, h3, h4]; exact fun p hp => fin hp
      · simp [h1, h2, h3]; exact fun p hp => fin hp
    · simp [h1, h2]; exact fun p hp => fin hp
  · simp [h1]; exact fun p hp => fin hp
end Go.Proofs.YtbeohjinefaaoaaDoor
/-
  No page; the pages' numbers.
-/
namespace Go.Proofs.YtbeohjinefaaoaaDoor
open Go Go.AL
set_option maxRecDepth 8000 in
theorem page_none (n : Int) (hn : ¬ isPage n) (σ : Store) : ACalls Tryd.prog 7 [.lit (.int .i64 n)] σ fun v σ' => v = .tuple [.lit (.pointer none), .lit (.int .i64 5)] ∧ σ' = σ := by
  have hoth := fun τ => others_calls n τ
  rw [decide_eq_false hn] at hoth
  refine ACalls.of_awp follows (st := st7) (plans := pl7) (n := 16) Tryd.func7 rfl (by kernel_rfl) (by kernel_rfl) (by kernel_rfl) ?_
  simp
  refine callK.of (hoth _) ?_
  rintro v σ1 ⟨rfl, rfl⟩
  simp
set_option maxRecDepth 8000 in
theorem ris_calls (n : Int) (hn : isPage n) (σ : Store) : ACalls Tryd.prog 21 [.lit (.int .i64 n)] σ fun v σ' => v = .lit (.bool true) ∧ σ' = σ := by
  refine ACalls.of_awp follows (st := st21) (plans := pl21) (n := 11) Tryd.func21 rfl (by kernel_rfl) (by kernel_rfl) (by kernel_rfl) ?_
  simp
  refine callK.eq (roth_calls n hn _) ?_
  simp
theorem bytesOf_bytesA (l : List UInt8) : bytesOf (bytesA l) = some l := by
  induction l with
  | nil => rfl
  | cons b l ih =>
    have hb : AL.byteOf (byteA b) = some b := by simp [byteA, AL.byteOf]
    simp only [bytesOf, bytesA, List.map_cons, List.mapM_cons] at ih ⊢
    rw [hb, ih]; rfl
set_option maxRecDepth 8000 in
theorem same11_calls (l : List UInt8) (o1 o2 : Bool) (hl : l.length ≤ 1000000) (σ : Store) : ACalls Tryd.prog 11 [.list o1 1 (bytesA l), .list o2 1 (bytesA l)] σ fun v σ' => v = .lit (.bool true) ∧ σ' = σ := by
  have hb := bytesOf_bytesA l
  refine ACalls.of_awp follows (st := st11) (plans := pl11) (n := 10) Tryd.func11 rfl (by kernel_rfl) (by kernel_rfl) (by kernel_rfl) ?_
  simp [hb]
end Go.Proofs.YtbeohjinefaaoaaDoor
/-
  Rows, columns, moves.
-/
namespace Go.Proofs.YtbeohjinefaaoaaDoor
open Go Go.AL Go.Sp

theorem small_i64 {n : Nat} (h : n ≤ 1000000000) : IntKind.i64.wrap (n : Int) = n := wrap_i64 (by omega) (by omega)
def addrAt (r c : Nat) (row col : Int) : Nat := wrap r row * c + wrap c col
theorem addrAt_lt {r c : Nat} (h : Dim r c) (row col : Int) : addrAt r c row col < r * c := by
  have h1 := wrap_lt h.r1 row
  have h2 := wrap_lt h.c1 col
  unfold addrAt
  have : (wrap r row + 1) * c ≤ r * c := Nat.mul_le_mul_right _ h1
  rw [Nat.succ_mul] at this
  omega
set_option maxRecDepth 4000 in
theorem addrAt_calls {r c : Nat} (h : Dim r c) (row col : Int) (σ : Store) : ACalls Tryd.prog 26 [dimA r c, .lit (.int .i64 row), .lit (.int .i64 col)] σ fun v σ' => v = .lit (.int .i64 (addrAt r c row col)) ∧ σ' = σ := by
  have hv := valid_calls h
  have hr := rest_calls row r h.r1 (by have := h.r2; omega)
  have hc := rest_calls col c h.c1 (by have := h.c2; omega)
  have hlt := addrAt_lt h row col
  have hm := h.m
  have h1 := wrap_lt h.r1 row
  have h2 := wrap_lt h.c1 col
  have hr2 := h.r2
  have hc2 := h.c2
  unfold dimA at hv
  unfold addrAt at *
  generalize wrap r row = a at *
  generalize wrap c col = b at *
  have hac : a * c ≤ r * c := Nat.mul_le_mul_right _ (Nat.le_of_lt h1)
  have hw1 : IntKind.i64.wrap ((a : Int) * (c : Int)) = ((a * c : Nat) : Int) := by rw [← Int.natCast_mul]; exact small_i64 (by omega)
  have hw2 : IntKind.i64.wrap (((a * c : Nat) : Int) + (b : Int)) = ((a * c + b : Nat) : Int) := by rw [← Int.natCast_add]; exact small_i64 (by omega)
  generalize a * c + b = z at *
  generalize a * c = y at *
  refine ACalls.of_awp follows (st := st26) (plans := pl26) (n := 22) Tryd.func26 rfl (by kernel_rfl) (by kernel_rfl) (by kernel_rfl) ?_
  simp [dimA]
  intro p hp
  refine callK.of (hv _) ?_
  rintro v σ' ⟨rfl, rfl⟩
  simp
  repeat' first
    | with_reducible apply And.intro
    | (refine callK.of (hr _) ?_; rintro v σ1 ⟨rfl, rfl⟩; simp [hw1])
    | (refine callK.of (hc _) ?_; rintro v σ1 ⟨rfl, rfl⟩; simp [hw1, hw2, hp])
def lineN (r c : Nat) (n : Int) : Nat := addrAt r c ((wrap (r * c) n / c + 1 : Nat) : Int) 0
end Go.Proofs.YtbeohjinefaaoaaDoor
/-
  An item's bytes, in plain words.
-/
namespace Go.Proofs.YtbeohjinefaaoaaDoor
open Go Go.AL

theorem pgS_other {b o : Nat} (h : ¬ o = b) (n : Int) (x : Option Nat) (σ : Store) : (pgS b n x σ) (o : Int) = σ o := by
  cases x <;> simp [pgS, h]
theorem pgS_upd {b o : Nat} (h : ¬ o = b) (n : Int) (x : Option Nat) (σ : Store) (Y : List AV) : (pgS b n x σ).upd o Y = pgS b n x (σ.upd o Y) := by
  cases x with
  | none => exact supd_swap _ (fun e => h e.symm) _ _
  | some q =>
    unfold pgS
    dsimp only
    rw [sput_upd, supd_swap _ (fun e => h e.symm)]
theorem pgS_fresh {b z : Nat} {n : Int} {x : Option Nat} {σ : Store} (hz : (pgS b n x σ) (z : Int) = none) : ¬ z = b ∧ σ (z : Int) = none := by
  have h1 : ¬ z = b := by rintro rfl; rw [pgS_cell] at hz; cases hz
  rw [pgS_other h1] at hz; exact ⟨h1, hz⟩
theorem pgS_mono {b : Nat} {n : Int} {x : Option Nat} {σ τ : Store} (h : Store.sub σ τ) : Store.sub (pgS b n x σ) (pgS b n x τ) := by
  cases x with
  | none =>
    refine Store.sub2 (fun o => ?_) (fun i => by simpa [pgS] using h (mkey i))
    by_cases e : o = b
    · subst e; right; simp [pgS]
    · have := h (o : Int)
      simpa [pgS, e] using this
  | some q =>
    refine Store.sub2 (fun o => ?_) (fun i => ?_)
    · by_cases e : o = b
      · subst e; right; simp [pgS]
      · have := h (o : Int)
        simpa [pgS, e] using this
    · by_cases e : i = q
      · subst e; right; simp [pgS]
      · have := h (mkey i)
        simpa [pgS, e] using this
theorem codesF_len (n : Int) (t : ByteArray) : ∀ (f pos : Nat) (acc : List UInt8), (codesF n t f pos acc).1.length ≤ acc.length + f
  | 0, _, acc => by simp [codesF]
  | f + 1, pos, acc => by
    rw [codesF]
    split
    · split
      · simp
      · split
        · simp
        · have := codesF_len n t f (pos + (Utf8.decode t pos).2) (acc ++ [UInt8.ofNat (by assumption)])
          simp at this ⊢
          omega
    · simp
def opsI (i : It) (at0 : Nat) (cs : List UInt8) : List Op := [{ kind := 17, addr := (at0 : Int) }, (lookR i).1] ++ ((if i.cur = true then [{ kind := 19 }] else []) ++ (if cs = [] then [] else [{ text := cs }]))
def lookB (i : It) : List UInt8 := if i.ext = [] then [29, six (bitsF i.f)] else 41 :: UInt8.ofNat (1 + i.ext.length) :: 192 :: six (bitsF i.f) :: flatP i.ext
def itemB (rows cols : Nat) (i : It) (cs : List UInt8) : List UInt8 := 17 :: encM (addrAt rows cols i.row i.col) ++ (lookB i ++ ((if i.cur = true then [19] else []) ++ cs))
def itemR (n : Int) (rows cols : Nat) (i : It) : List UInt8 × Nat :=
  if ¬ (0 ≤ i.row ∧ i.row < rows ∧ 0 ≤ i.col ∧ i.col < cols) then ([], 1) else if (lookR i).2 ≠ 0 then ([], (lookR i).2)
  else if (codesF n i.text i.text.size 0 []).2 ≠ 0 then ([], (codesF n i.text i.text.size 0 []).2)
  else if hasOrd (codesF n i.text i.text.size 0 []).1 = true then ([], 10) else if 254 < i.ext.length then ([], 3)
  else (itemB rows cols i (codesF n i.text i.text.size 0 []).1, 0)
theorem look_ok (i : It) (hl : (lookR i).2 = 0) (hx : i.ext.length ≤ 254) : opG (lookR i).1 = (lookB i, 0) ∧ goodG (lookR i).1 := by
  unfold lookR at hl ⊢
  by_cases h1 : okD i.f = false
  · rw [if_pos h1] at hl; simp at hl
  · rw [if_neg h1] at hl ⊢
    by_cases h2 : i.ext = []
    · rw [if_pos h2]
      exact ⟨by simp [opG, lookB, h2], .inr (.inr (.inl rfl))⟩
    · rw [if_neg h2] at hl ⊢
      by_cases h3 : i.ext.any wrongP = true
      · rw [if_pos h3] at hl; simp at hl
      · rw [if_neg h3]
        have hall : ((192, six (bitsF i.f)) :: i.ext).all rightP = true := by
          rw [List.all_eq_true]
          intro p hp
          rcases List.mem_cons.1 hp with rfl | hp
          · simp [rightP, rightN]
          · have := List.any_eq_false.1 (by simpa using h3) p hp
            unfold wrongP at this
            cases hr : rightP p
            · rw [hr] at this; simp at this
            · rfl
        refine ⟨?_, .inr (.inr (.inr ⟨rfl, by simp; omega⟩))⟩
        have e : prB ((192, six (bitsF i.f)) :: i.ext) = (UInt8.ofNat (1 + i.ext.length) :: 192 :: six (bitsF i.f) :: flatP i.ext, 0) := by
          unfold prB
          rw [if_neg (by simp; omega), if_pos hall, List.length_cons, Nat.add_comm]
          rfl
        simp [opG, lookB, h2, e]
theorem opsI_ok {rows cols : Nat} (hD : Dim rows cols) (i : It) (cs : List UInt8) (hl : (lookR i).2 = 0) (ho : hasOrd cs = false) (hx : i.ext.length ≤ 254) (hc : cs.length ≤ 1000000) :
    seqB opG (opsI i (addrAt rows cols i.row i.col) cs) = (itemB rows cols i cs, 0) ∧ ∀ o ∈ opsI i (addrAt rows cols i.row i.col) cs, goodG o := by
  obtain ⟨k1, k2⟩ := look_ok i hl hx
  have ha := addrAt_lt hD i.row i.col
  have h35 : rows * cols ≤ 3564 := hD.m
  have hok : okAddr ((addrAt rows cols i.row i.col : Nat) : Int) := ⟨by omega, by omega⟩
  have e1 : opG { kind := 17, addr := ((addrAt rows cols i.row i.col : Nat) : Int) } = (17 :: encM (addrAt rows cols i.row i.col), 0) := by
    simp [opG, opB, hok]
  have e2 : opG { kind := 19 } = ([19], 0) := by simp [opG]
  have e3 : cs ≠ [] → opG { text := cs } = (cs, 0) := fun h => by simp [opG, opB, h, ho]
  have g1 : goodG { kind := 17, addr := ((addrAt rows cols i.row i.col : Nat) : Int) } := .inl (.inr rfl)
  have g2 : goodG { kind := 19 } := .inr (.inl rfl)
  have g3 : goodG { text := cs } := .inl (.inl ⟨rfl, hc⟩)
  unfold opsI itemB
  generalize (lookR i).1 = L at *
  cases hcu : i.cur
  · by_cases hcs : cs = []
    · refine ⟨?_, by simp [hcs, g1, k2]⟩
      simp [seqB, e1, k1, hcs]
    · have e3 := e3 hcs
      refine ⟨?_, by simp [hcs, g1, k2, g3]⟩
      simp [seqB, e1, k1, hcs, e3]
  · by_cases hcs : cs = []
    · refine ⟨?_, by simp [hcs, g1, k2, g2]⟩
      simp [seqB, e1, k1, hcs, e2]
    · have e3 := e3 hcs
      refine ⟨?_, by simp [hcs, g1, k2, g3, g2]⟩
      simp [seqB, e1, k1, hcs, e3, e2]
end Go.Proofs.YtbeohjinefaaoaaDoor
/-
  An item's bytes: the program's.
-/
namespace Go.Proofs.YtbeohjinefaaoaaDoor
open Go Go.AL Go.Sp

set_option maxHeartbeats 2000000 in
set_option maxRecDepth 8000 in
theorem pitem_calls {rows cols : Nat} (hD : Dim rows cols) (b : Nat) (n : Int) (hn : isPage n) (x : Option Nat) (i : It) (hx : i.ext.length ≤ 1000) (ht : i.text.size ≤ 1000000) (σ : Store) :
    ACalls Tryd.prog 20 [.agg (itC i), dimA rows cols, pgP b] (pgS b n x σ) fun v σ' => v = .tuple [.list true 1 (bytesA (itemR n rows cols i).1), .lit (.int .i64 (itemR n rows cols i).2)] ∧ ∃ x', NxP σ x x' ∧ σ' = pgS b n x' σ := by
  by_cases hin : 0 ≤ i.row ∧ i.row < rows ∧ 0 ≤ i.col ∧ i.col < cols
  · have hlk := fun τ => plooks_calls i hx τ
    have hcd := fun x' τ => pcodes_calls b n hn x' i.text ht τ
    have hRI : itemR n rows cols i = if (lookR i).2 ≠ 0 then ([], (lookR i).2) else if (codesF n i.text i.text.size 0 []).2 ≠ 0 then ([], (codesF n i.text i.text.size 0 []).2)
      else if hasOrd (codesF n i.text i.text.size 0 []).1 = true then ([], 10) else if 254 < i.ext.length then ([], 3)
      else (itemB rows cols i (codesF n i.text i.text.size 0 []).1, 0) := by unfold itemR; rw [if_neg (fun h => h hin)]
    by_cases hl : (lookR i).2 = 0
    · rw [if_neg (fun h => h hl)] at hRI
      have hops := fun cs ho hx2 hc => opsI_ok hD i cs hl ho hx2 hc
      have hat := fun τ => addrAt_calls hD i.row i.col τ
      obtain ⟨row, col, f, ext, text, cur⟩ := i
      have hclen := codesF_len n text text.size 0 []
      dsimp only at ht hclen
      generalize codesF n text text.size 0 [] = CC at *
      obtain ⟨cs, ec⟩ := CC
      simp only [List.length_nil, Nat.zero_add] at hclen
      unfold opsI at hops
      generalize lookR ⟨row, col, f, ext, text, cur⟩ = LR at *
      obtain ⟨o, er⟩ := LR
      dsimp only at *
      subst hl
      obtain ⟨g1, g2, g3, g4⟩ := hin
      have k1 : ¬ row < 0 := by omega
      have k2 : ¬ (rows : Int) ≤ row := by omega
      have k3 : ¬ col < 0 := by omega
      have k4 : ¬ (cols : Int) ≤ col := by omega
      unfold itC at hlk ⊢
      unfold opA opC at hlk
      refine ACalls.of_awp follows (st := st20) (plans := pl20) (n := 90) Tryd.func20 rfl (by kernel_rfl) (by kernel_rfl) (by kernel_rfl) ?_
      unfold dimA
      simp +contextual [ite_free, k1, k2, k3, k4]
      intro p hp p2 e1 e2 hp2
      refine callK.eq (hlk _) ?_
      simp [bytesA_nil]
      intro p3 h3
      simp only [ite_none] at h3
      obtain ⟨h3a, h3b, h3c⟩ := h3
      obtain ⟨pb1, f1⟩ := pgS_fresh hp
      obtain ⟨pb2, f2⟩ := pgS_fresh hp2
      obtain ⟨pb3, f3⟩ := pgS_fresh h3c
      have h3a' : ¬ p2 = p3 := fun e => h3a e.symm
      have h3b' : ¬ p = p3 := fun e => h3b e.symm
      simp only [if_neg h3b', if_neg e1, if_neg e2]
      rw [pgS_upd pb1, pgS_upd pb2, pgS_upd pb3]
      generalize hS : ((σ.upd p _).upd p2 _).upd p3 _ = S at *
      have sub0 : Store.sub σ S := by
        rw [← hS]
        exact Store.sub_upd (by simp [h3a, h3b, f3]) (Store.sub_upd (by simp [e1, e2, f2]) (Store.sub_upd f1 (Store.sub_refl _)))
      have sm : ∀ g, S (mkey g) = σ (mkey g) := fun g => by rw [← hS]; simp
      have c1 : ∀ x', (pgS b n x' S) (p : Int) = some (itC ⟨row, col, f, ext, text, cur⟩) := fun x' => by
        rw [pgS_other pb1, ← hS]; simp [h3b', e1, e2, itC]
      have c2 : ∀ x', (pgS b n x' S) (p2 : Int) = some [.lit (.int .i64 rows), .lit (.int .i64 cols)] := fun x' => by
        rw [pgS_other pb2, ← hS]; simp [h3a', e1, e2]
      have c3 : ∀ x', (pgS b n x' S) (p3 : Int) = some (opC o) := fun x' => by
        rw [pgS_other pb3, ← hS]; simp [opC]
      unfold itC at c1
      unfold opC at c3
      simp [c1]
      refine callK.of (hcd x S) ?_
      rintro v τ ⟨⟨kk, rfl⟩, x', hx', rfl⟩
      have hx1 : NxP σ x x' := hx'.imp id (fun ⟨g, e, hg⟩ => ⟨g, e, by rw [← sm g]; exact hg⟩)
      have hsub := pgS_mono (b := b) (n := n) (x := x') sub0
      by_cases he : ec = 0
      · subst he
        rw [if_neg (fun h => h rfl)] at hRI
        have hcon := fun τ => contains_calls false cs τ (by omega)
        simp
        refine callK.eq (hcon _) ?_
        cases ho : hasOrd cs
        · rw [if_neg (by rw [ho]; simp)] at hRI
          by_cases hx2 : 254 < ext.length
          · rw [if_pos hx2] at hRI
            rw [hRI]
            have hx3 : (254 : Int) < ext.length := by omega
            simp [c1, hx2, hx3, bytesA_nil]
            exact ⟨_, AV.le_refl _, _, hsub, rfl, x', hx1, rfl⟩
          · rw [if_neg hx2] at hRI
            obtain ⟨m1, m2⟩ := hops cs ho (by omega) (by omega)
            have hob := fun τ => obytesG_calls false _ m2 (by split <;> split <;> simp) τ
            rw [m1, ← hRI] at hob
            clear hops hcd hlk m1 m2
            generalize itemR n rows cols ⟨row, col, f, ext, text, cur⟩ = IR at *
            have hx3 : ¬ (254 : Int) < ext.length := by omega
            unfold dimA at hat
            have hz : byteA 0 = .lit (.int .u8 0) := rfl
            have hfin : ∀ (L : List Op) (A : List AV) (R' : AV → Store → Prop), A = opsA L → (∀ τ, ACalls Tryd.prog 37 [.list false 7 (opsA L)] τ fun v σ' => v = .tuple [.list true 1 (bytesA IR.1), .lit (.int .i64 IR.2)] ∧ σ' = τ) → R' (.tuple [.list true 1 (bytesA IR.1), .lit (.int .i64 IR.2)]) (pgS b n x' S) →
                callK Tryd.prog 37 [.list false 7 A] (pgS b n x' S) R' := fun L A R' e h hk => by subst e; exact callK.eq (h _) hk
            clear hRI hcon
            have hlt : (0 < cs.length) = (¬ cs = []) := by simp [List.length_pos_iff]
            cases cur
            all_goals by_cases hcs : cs = []
            all_goals simp [c1, c2, c3, hx2, hx3]
            all_goals (repeat' first | with_reducible apply And.intro | (refine callK.eq (hat _) ?_; simp [hcs, hlt, c1, c2, c3]))
            all_goals refine hfin _ _ _ ?_ hob ?_
            all_goals first
              | (simp [hcs, opsA, opA, opC, pairsA, bytesA_nil, hz]; done)
              | (simp; exact ⟨_, AV.le_refl _, _, hsub, rfl, x', hx1, rfl⟩)
        · rw [if_pos ho] at hRI
          rw [hRI]
          simp [bytesA_nil]
          exact ⟨_, AV.le_refl _, _, hsub, rfl, x', hx1, rfl⟩
      · rw [if_pos he] at hRI
        rw [hRI]
        have he' : ¬ (ec : Int) = 0 := by omega
        simp [he, he', bytesA_nil]
        exact ⟨_, AV.le_refl _, _, hsub, rfl, x', hx1, rfl⟩
    · have hR : itemR n rows cols i = ([], (lookR i).2) := by rw [hRI, if_pos hl]
      rw [hR]
      have hl' : ¬ ((lookR i).2 : Int) = 0 := by omega
      obtain ⟨row, col, f, ext, text, cur⟩ := i
      generalize lookR ⟨row, col, f, ext, text, cur⟩ = LR at *
      obtain ⟨o, er⟩ := LR
      dsimp only at *
      obtain ⟨g1, g2, g3, g4⟩ := hin
      have k1 : ¬ row < 0 := by omega
      have k2 : ¬ (rows : Int) ≤ row := by omega
      have k3 : ¬ col < 0 := by omega
      have k4 : ¬ (cols : Int) ≤ col := by omega
      unfold itC at hlk ⊢
      unfold opA opC at hlk
      refine ACalls.of_awp follows (st := st20) (plans := pl20) (n := 90) Tryd.func20 rfl (by kernel_rfl) (by kernel_rfl) (by kernel_rfl) ?_
      unfold dimA
      simp +contextual [ite_free, k1, k2, k3, k4]
      intro p hp p2 e1 e2 hp2
      refine callK.eq (hlk _) ?_
      simp [hl, hl', bytesA_nil]
      intro p3 h3
      simp only [ite_none] at h3
      exact ⟨_, AV.le_refl _, _, Store.sub_upd h3.2.2 (Store.sub_upd hp2 (Store.sub_upd hp (Store.sub_refl _))), rfl, x, .inl rfl, rfl⟩
  · have hR : itemR n rows cols i = ([], 1) := by unfold itemR; rw [if_pos hin]
    rw [hR]
    obtain ⟨row, col, f, ext, text, cur⟩ := i
    dsimp only at hin
    refine ACalls.of_awp follows (st := st20) (plans := pl20) (n := 90) Tryd.func20 rfl (by kernel_rfl) (by kernel_rfl) (by kernel_rfl) ?_
    unfold itC dimA
    by_cases h1 : row < 0
    · simp +contextual [ite_free, h1, bytesA_nil]
      exact fun p hp p2 _ _ hp2 => ⟨_, AV.le_refl _, _, Store.sub_upd hp2 (Store.sub_upd hp (Store.sub_refl _)), rfl, x, .inl rfl, rfl⟩
    · by_cases h2 : (rows : Int) ≤ row
      · simp +contextual [ite_free, h1, h2, bytesA_nil]
        exact fun p hp p2 _ _ hp2 => ⟨_, AV.le_refl _, _, Store.sub_upd hp2 (Store.sub_upd hp (Store.sub_refl _)), rfl, x, .inl rfl, rfl⟩
      · by_cases h3 : col < 0
        · simp +contextual [ite_free, h1, h2, h3, bytesA_nil]
          exact fun p hp p2 _ _ hp2 => ⟨_, AV.le_refl _, _, Store.sub_upd hp2 (Store.sub_upd hp (Store.sub_refl _)), rfl, x, .inl rfl, rfl⟩
        · have h4 : (cols : Int) ≤ col := by omega
          simp +contextual [ite_free, h1, h2, h3, h4, bytesA_nil]
          exact fun p hp p2 _ _ hp2 => ⟨_, AV.le_refl _, _, Store.sub_upd hp2 (Store.sub_upd hp (Store.sub_refl _)), rfl, x, .inl rfl, rfl⟩
end Go.Proofs.YtbeohjinefaaoaaDoor
/-
  The document's place of a row and a column.
-/
namespace Go.Proofs.YtbeohjinefaaoaaDoor
open Go Go.AL Go.Sp

set_option maxRecDepth 4000 in
theorem rat_calls {r c : Nat} (h : Dim r c) (row col : Int) (σ : Store) : ACalls Tryd.prog 29 [dimA r c, .lit (.int .i64 row), .lit (.int .i64 col)] σ fun v σ' => v = .lit (.int .i64 (addrAt r c row col)) ∧ σ' = σ := by
  have hv := fun τ => rvalid_calls h τ
  have hr := fun τ => rmod_calls row r h.r1 (by have := h.r2; omega) τ
  have hc := fun τ => rmod_calls col c h.c1 (by have := h.c2; omega) τ
  have hlt := addrAt_lt h row col
  have hm := h.m
  have h1 := wrap_lt h.r1 row
  have h2 := wrap_lt h.c1 col
  have hr2 := h.r2
  have hc2 := h.c2
  unfold dimA at hv
  unfold addrAt at *
  generalize wrap r row = a at *
  generalize wrap c col = b at *
  have hac : a * c ≤ r * c := Nat.mul_le_mul_right _ (Nat.le_of_lt h1)
  have hw1 : IntKind.i64.wrap ((c : Int) * (a : Int)) = ((a * c : Nat) : Int) := by rw [← Int.natCast_mul, Nat.mul_comm]; exact small_i64 (by omega)
  have hw2 : IntKind.i64.wrap (((a * c : Nat) : Int) + (b : Int)) = ((a * c + b : Nat) : Int) := by rw [← Int.natCast_add]; exact small_i64 (by omega)
  generalize a * c + b = z at *
  generalize a * c = y at *
  refine ACalls.of_awp follows (st := st29) (plans := pl29) (n := 22) Tryd.func29 rfl (by kernel_rfl) (by kernel_rfl) (by kernel_rfl) ?_
  simp [dimA]
  intro p hp
  refine callK.eq (hv _) ?_
  simp
  repeat' first
    | with_reducible apply And.intro
    | (refine callK.eq (hr _) ?_; simp [hw1])
    | (refine callK.eq (hc _) ?_; simp [hw1, hw2, hp])
end Go.Proofs.YtbeohjinefaaoaaDoor
