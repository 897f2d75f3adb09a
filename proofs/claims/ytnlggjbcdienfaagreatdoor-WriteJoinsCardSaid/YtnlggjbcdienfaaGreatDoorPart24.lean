/-
  One order, as the document reads it.
-/
import Derived.Test.YtnlggjbcdienfaaGreatDoorPart23
namespace Go.Proofs.YtnlggjbcdienfaaGreatDoor
open Go Go.AL Go.Sp

/-- What the document says of the first piece: if there is no error it is the program's. -/
def NextR (l : List UInt8) (σ : Store) (v : AV) (σ' : Store) : Prop := ∃ (op : Op) (n e : Nat), v = .tuple [opA op, .lit (.int .i64 n), .lit (.int .i64 e)] ∧ σ' = σ ∧ n ≤ l.length ∧
  (e = 0 → (opF l).1 = 0 ∧ op.kind = (opF l).2.1.kind ∧ (opF l).2.2 = l.drop n)
theorem next_fin {l : List UInt8} {σ ρ : Store} {v : AV} (op : Op) (n e : Nat) (hle : v.le (.tuple [opA op, .lit (.int .i64 n), .lit (.int .i64 e)])) (hs : Store.sub σ ρ) (hn : n ≤ l.length)
    (he : e = 0 → (opF l).1 = 0 ∧ op.kind = (opF l).2.1.kind ∧ (opF l).2.2 = l.drop n) : ∃ v', v.le v' ∧ ∃ x, Store.sub x ρ ∧ NextR l σ v' x :=
  ⟨_, hle, σ, hs, op, n, e, rfl, rfl, hn, he⟩
theorem next_bad {l : List UInt8} {σ ρ : Store} {v : AV} (e : Nat) (he : e ≠ 0) (hle : v.le (.tuple [opA {}, .lit (.int .i64 0), .lit (.int .i64 e)])) (hs : Store.sub σ ρ) : ∃ v', v.le v' ∧ ∃ x, Store.sub x ρ ∧ NextR l σ v' x :=
  next_fin {} 0 e hle hs (Nat.zero_le _) fun h => absurd h he
theorem is16_true {c : UInt8} (h : isOrd c = true) (σ : Store) : ACalls Tryz.prog 56 [byteA c] σ fun v σ' => v = .lit (.bool true) ∧ σ' = σ := by
  have := is16_calls c σ; rwa [h] at this
theorem htake (l : List UInt8) : (bytesA l).take l.length = bytesA l := by rw [← bytesA_length l, List.take_length]
theorem sub2 {σ : Store} {p q : Nat} (hp : σ p = none) (hq : σ q = none) (a b c : List AV) : Store.sub σ (((σ.upd p a).upd q b).upd p c) := fun o => by
  by_cases h1 : o = p
  · left; rw [h1]; exact hp
  · by_cases h2 : o = q
    · left; rw [h2]; exact hq
    · right; simp [h1, h2]
theorem sub3 {σ : Store} {p q : Nat} (hp : σ p = none) (hq : σ q = none) (a b c d : List AV) : Store.sub σ ((((σ.upd p a).upd q b).upd q c).upd p d) := by
  rw [supd_supd]; exact sub2 hp hq a c d
theorem attrN_le (l : List UInt8) : attrN l ≤ l.length := by
  unfold attrN
  split
  · rename_i h
    rcases l with _ | ⟨c, tl⟩
    · simp [attrF] at h
    · by_cases hl : (c :: tl).length < 1 + 2 * c.toNat
      · have : attrF (c :: tl) = (2, []) := if_pos hl
        rw [this] at h; cases h
      · show 1 + 2 * c.toNat ≤ _
        omega
  · omega
set_option maxRecDepth 8000 in
set_option maxHeartbeats 1000000 in
theorem rnext_5 (o : Bool) (tl : List UInt8) (σ : Store) : ACalls Tryz.prog 33 [.list o 1 (bytesA (5 :: tl))] σ (NextR (5 :: tl) σ) := by
  have his : ∀ τ, ACalls Tryz.prog 56 [.lit (.int .u8 5)] τ fun v σ' => v = .lit (.bool true) ∧ σ' = τ := fun τ => is16_true (c := 5) (by decide) τ
  have hw : IntKind.i64.wrap 5 = 5 := by decide
  have hc : bytesA (5 :: tl) = .lit (.int .u8 5) :: bytesA tl := rfl
  refine ACalls.of_awp follows (st := st33) (plans := pl33) (n := 161) Tryz.func33 rfl (by kernel_rfl) (by kernel_rfl) (by kernel_rfl) ?_
  simp +contextual [hc, ite_free, hw]
  intro p hp q n1 n2 hq
  refine callK.of (his _) ?_
  rintro v σ' ⟨rfl, rfl⟩
  have hlt : ¬ ((tl.length : Int) + 1 < 1) := by omega
  simp [n1, n2, hlt]
  exact next_fin { kind := 5 } 1 0 (by simp [opA, opC, byteA, bytesA, pairsA]) (sub2 hp hq _ _ _) (by simp) fun _ => ⟨rfl, rfl, rfl⟩
set_option maxRecDepth 8000 in
set_option maxHeartbeats 1000000 in
theorem rnext_19 (o : Bool) (tl : List UInt8) (σ : Store) : ACalls Tryz.prog 33 [.list o 1 (bytesA (19 :: tl))] σ (NextR (19 :: tl) σ) := by
  have his : ∀ τ, ACalls Tryz.prog 56 [.lit (.int .u8 19)] τ fun v σ' => v = .lit (.bool true) ∧ σ' = τ := fun τ => is16_true (c := 19) (by decide) τ
  have hw : IntKind.i64.wrap 19 = 19 := by decide
  have hc : bytesA (19 :: tl) = .lit (.int .u8 19) :: bytesA tl := rfl
  refine ACalls.of_awp follows (st := st33) (plans := pl33) (n := 161) Tryz.func33 rfl (by kernel_rfl) (by kernel_rfl) (by kernel_rfl) ?_
  simp +contextual [hc, ite_free, hw]
  intro p hp q n1 n2 hq
  refine callK.of (his _) ?_
  rintro v σ' ⟨rfl, rfl⟩
  have hlt : ¬ ((tl.length : Int) + 1 < 1) := by omega
  simp [n1, n2, hlt]
  exact next_fin { kind := 19 } 1 0 (by simp [opA, opC, byteA, bytesA, pairsA]) (sub2 hp hq _ _ _) (by simp) fun _ => ⟨rfl, rfl, rfl⟩
set_option maxRecDepth 8000 in
set_option maxHeartbeats 1000000 in
theorem rnext_29 (o : Bool) (tl : List UInt8) (σ : Store) : ACalls Tryz.prog 33 [.list o 1 (bytesA (29 :: tl))] σ (NextR (29 :: tl) σ) := by
  have his : ∀ τ, ACalls Tryz.prog 56 [.lit (.int .u8 29)] τ fun v σ' => v = .lit (.bool true) ∧ σ' = τ := fun τ => is16_true (c := 29) (by decide) τ
  have hw : IntKind.i64.wrap 29 = 29 := by decide
  rcases tl with _ | ⟨x, tl⟩
  · have hc : bytesA [29] = [.lit (.int .u8 29)] := rfl
    refine ACalls.of_awp follows (st := st33) (plans := pl33) (n := 161) Tryz.func33 rfl (by kernel_rfl) (by kernel_rfl) (by kernel_rfl) ?_
    simp +contextual [hc, ite_free, hw]
    intro p hp q n1 n2 hq
    refine callK.of (his _) ?_
    rintro v σ' ⟨rfl, rfl⟩
    simp [n1, n2]
    exact next_bad 2 (by decide) (by simp [opA, opC, byteA, bytesA, pairsA]) (sub2 hp hq _ _ _)
  · have hc : bytesA (29 :: x :: tl) = .lit (.int .u8 29) :: .lit (.int .u8 x.toNat) :: bytesA tl := rfl
    refine ACalls.of_awp follows (st := st33) (plans := pl33) (n := 161) Tryz.func33 rfl (by kernel_rfl) (by kernel_rfl) (by kernel_rfl) ?_
    have hlt : ¬ ((tl.length : Int) + 1 + 1 < 2) := by omega
    simp +contextual [hc, ite_free, hw]
    intro p hp q n1 n2 hq
    refine callK.of (his _) ?_
    rintro v σ' ⟨rfl, rfl⟩
    simp [n1, n2, hlt]
    exact next_fin { kind := 29, fa := x } 2 0 (by simp [opA, opC, byteA, bytesA, pairsA]) (sub2 hp hq _ _ _) (by simp) fun _ => ⟨rfl, rfl, rfl⟩
set_option maxRecDepth 8000 in
set_option maxHeartbeats 1000000 in
theorem rnext_8 (o : Bool) (tl : List UInt8) (σ : Store) : ACalls Tryz.prog 33 [.list o 1 (bytesA (8 :: tl))] σ (NextR (8 :: tl) σ) := by
  have his : ∀ τ, ACalls Tryz.prog 56 [.lit (.int .u8 8)] τ fun v σ' => v = .lit (.bool true) ∧ σ' = τ := fun τ => is16_true (c := 8) (by decide) τ
  have hw : IntKind.i64.wrap 8 = 8 := by decide
  rcases tl with _ | ⟨x, tl⟩
  · have hc : bytesA [8] = [.lit (.int .u8 8)] := rfl
    refine ACalls.of_awp follows (st := st33) (plans := pl33) (n := 161) Tryz.func33 rfl (by kernel_rfl) (by kernel_rfl) (by kernel_rfl) ?_
    simp +contextual [hc, ite_free, hw]
    intro p hp q n1 n2 hq
    refine callK.of (his _) ?_
    rintro v σ' ⟨rfl, rfl⟩
    simp [n1, n2]
    exact next_bad 2 (by decide) (by simp [opA, opC, byteA, bytesA, pairsA]) (sub2 hp hq _ _ _)
  · have hc : bytesA (8 :: x :: tl) = .lit (.int .u8 8) :: .lit (.int .u8 x.toNat) :: bytesA tl := rfl
    have hix : ∀ τ, ACalls Tryz.prog 56 [.lit (.int .u8 x.toNat)] τ fun v σ' => v = .lit (.bool (isOrd x)) ∧ σ' = τ := fun τ => is16_calls x τ
    refine ACalls.of_awp follows (st := st33) (plans := pl33) (n := 161) Tryz.func33 rfl (by kernel_rfl) (by kernel_rfl) (by kernel_rfl) ?_
    have hlt : ¬ ((tl.length : Int) + 1 + 1 < 2) := by omega
    simp +contextual [hc, ite_free, hw]
    intro p hp q n1 n2 hq
    refine callK.of (his _) ?_
    rintro v σ' ⟨rfl, rfl⟩
    simp [n1, n2, hlt]
    refine callK.of (hix _) ?_
    rintro v σ' ⟨rfl, rfl⟩
    cases hx : isOrd x
    · simp [n1, n2]
      exact next_fin { kind := 8, code := x } 2 0 (by simp [opA, opC, byteA, bytesA, pairsA]) (sub2 hp hq _ _ _) (by simp) fun _ => ⟨by rw [opF_8]; simp [chE, hx], rfl, rfl⟩
    · simp [n1, n2]
      exact next_bad 10 (by decide) (by simp [opA, opC, byteA, bytesA, pairsA]) (sub2 hp hq _ _ _)
set_option maxRecDepth 8000 in
set_option maxHeartbeats 1000000 in
theorem rnext_17 (o : Bool) (tl : List UInt8) (σ : Store) : ACalls Tryz.prog 33 [.list o 1 (bytesA (17 :: tl))] σ (NextR (17 :: tl) σ) := by
  have his : ∀ τ, ACalls Tryz.prog 56 [.lit (.int .u8 17)] τ fun v σ' => v = .lit (.bool true) ∧ σ' = τ := fun τ => is16_true (c := 17) (by decide) τ
  have hw : IntKind.i64.wrap 17 = 17 := by decide
  have hc : bytesA (17 :: tl) = .lit (.int .u8 17) :: bytesA tl := rfl
  have htk := htake tl
  have hd := fun τ => rdec_calls false tl τ
  have hop : opF (17 :: tl) = (adE tl, { kind := 17, addr := adN tl }, adL tl) := opF_17 tl
  refine ACalls.of_awp follows (st := st33) (plans := pl33) (n := 161) Tryz.func33 rfl (by kernel_rfl) (by kernel_rfl) (by kernel_rfl) ?_
  simp +contextual [hc, ite_free, hw, htk]
  intro p hp q n1 n2 hq
  refine callK.of (his _) ?_
  rintro v σ' ⟨rfl, rfl⟩
  simp [n1, n2, htk]
  refine callK.of (hd _) ?_
  rintro v σ' ⟨rfl, rfl⟩
  by_cases he : adE tl = 0
  · obtain ⟨x, y, t, rfl⟩ := ad_some he
    have hlt : ¬ ((t.length : Int) + 1 + 1 + 1 < 3) := by omega
    simp [n1, n2, he, hlt]
    exact next_fin { kind := 17, addr := adN (x :: y :: t) } 3 0 (by simp [opA, opC, byteA, bytesA, pairsA]) (sub2 hp hq _ _ _) (by simp) fun _ => by rw [hop]; exact ⟨he, rfl, rfl⟩
  · simp [n1, n2, he]
    exact next_bad (adE tl) he (by simp [opA, opC, byteA, bytesA, pairsA]) (sub2 hp hq _ _ _)
set_option maxRecDepth 8000 in
set_option maxHeartbeats 1000000 in
theorem rnext_18 (o : Bool) (tl : List UInt8) (σ : Store) : ACalls Tryz.prog 33 [.list o 1 (bytesA (18 :: tl))] σ (NextR (18 :: tl) σ) := by
  have his : ∀ τ, ACalls Tryz.prog 56 [.lit (.int .u8 18)] τ fun v σ' => v = .lit (.bool true) ∧ σ' = τ := fun τ => is16_true (c := 18) (by decide) τ
  have hw : IntKind.i64.wrap 18 = 18 := by decide
  have hc : bytesA (18 :: tl) = .lit (.int .u8 18) :: bytesA tl := rfl
  have htk := htake tl
  have hd := fun τ => rdec_calls false tl τ
  have hop : opF (18 :: tl) = (adE tl, { kind := 18, addr := adN tl }, adL tl) := opF_18 tl
  refine ACalls.of_awp follows (st := st33) (plans := pl33) (n := 161) Tryz.func33 rfl (by kernel_rfl) (by kernel_rfl) (by kernel_rfl) ?_
  simp +contextual [hc, ite_free, hw, htk]
  intro p hp q n1 n2 hq
  refine callK.of (his _) ?_
  rintro v σ' ⟨rfl, rfl⟩
  simp [n1, n2, htk]
  refine callK.of (hd _) ?_
  rintro v σ' ⟨rfl, rfl⟩
  by_cases he : adE tl = 0
  · obtain ⟨x, y, t, rfl⟩ := ad_some he
    have hlt : ¬ ((t.length : Int) + 1 + 1 + 1 < 3) := by omega
    simp [n1, n2, he, hlt]
    exact next_fin { kind := 18, addr := adN (x :: y :: t) } 3 0 (by simp [opA, opC, byteA, bytesA, pairsA]) (sub2 hp hq _ _ _) (by simp) fun _ => by rw [hop]; exact ⟨he, rfl, rfl⟩
  · simp [n1, n2, he]
    exact next_bad (adE tl) he (by simp [opA, opC, byteA, bytesA, pairsA]) (sub2 hp hq _ _ _)
set_option maxRecDepth 8000 in
set_option maxHeartbeats 1000000 in
theorem rnext_40 (o : Bool) (tl : List UInt8) (σ : Store) : ACalls Tryz.prog 33 [.list o 1 (bytesA (40 :: tl))] σ (NextR (40 :: tl) σ) := by
  have his : ∀ τ, ACalls Tryz.prog 56 [.lit (.int .u8 40)] τ fun v σ' => v = .lit (.bool true) ∧ σ' = τ := fun τ => is16_true (c := 40) (by decide) τ
  have hw : IntKind.i64.wrap 40 = 40 := by decide
  have hop : opF (40 :: tl) = (prE tl 0, { kind := 40, pairs := prP tl }, prL tl) := opF_40 tl
  rcases tl with _ | ⟨x, _ | ⟨y, t⟩⟩
  · have hc : bytesA [40] = [.lit (.int .u8 40)] := rfl
    refine ACalls.of_awp follows (st := st33) (plans := pl33) (n := 161) Tryz.func33 rfl (by kernel_rfl) (by kernel_rfl) (by kernel_rfl) ?_
    simp +contextual [hc, ite_free, hw]
    intro p hp q n1 n2 hq
    refine callK.of (his _) ?_
    rintro v σ' ⟨rfl, rfl⟩
    simp [n1, n2]
    exact next_bad 2 (by decide) (by simp [opA, opC, byteA, bytesA, pairsA]) (sub2 hp hq _ _ _)
  · have hc : bytesA [40, x] = [.lit (.int .u8 40), .lit (.int .u8 x.toNat)] := rfl
    refine ACalls.of_awp follows (st := st33) (plans := pl33) (n := 161) Tryz.func33 rfl (by kernel_rfl) (by kernel_rfl) (by kernel_rfl) ?_
    simp +contextual [hc, ite_free, hw]
    intro p hp q n1 n2 hq
    refine callK.of (his _) ?_
    rintro v σ' ⟨rfl, rfl⟩
    simp [n1, n2]
    exact next_bad 2 (by decide) (by simp [opA, opC, byteA, bytesA, pairsA]) (sub2 hp hq _ _ _)
  · have hc : bytesA (40 :: x :: y :: t) = .lit (.int .u8 40) :: .lit (.int .u8 x.toNat) :: .lit (.int .u8 y.toNat) :: bytesA t := rfl
    have hr := fun τ => right_calls x y τ
    simp only [byteA_lit] at hr
    refine ACalls.of_awp follows (st := st33) (plans := pl33) (n := 161) Tryz.func33 rfl (by kernel_rfl) (by kernel_rfl) (by kernel_rfl) ?_
    have hlt : ¬ ((t.length : Int) + 1 + 1 + 1 < 3) := by omega
    simp +contextual [hc, ite_free, hw]
    intro p hp q n1 n2 hq
    refine callK.of (his _) ?_
    rintro v σ' ⟨rfl, rfl⟩
    simp +contextual [n1, n2, hlt, ite_free]
    intro r m1 m2 m3 m4 hrr
    refine callK.of (hr _) ?_
    rintro v σ' ⟨rfl, rfl⟩
    have hck := chkE_okP x y
    by_cases h : okP x.toNat y.toNat
    · simp [h, n1, n2, m1, m2, m3, m4]
      refine next_fin { kind := 40, pairs := [(x, y)] } 3 0 (by simp [opA, opC, byteA, bytesA, pairsA]) (by (intro q; simp only [Store.upd, Store.del]; (repeat' split) <;> first | exact Or.inr rfl | exact Or.inl rfl | (exfalso; omega) | (left; subst_vars; assumption) | simp_all)) (by simp) fun _ => ?_
      rw [hop]
      exact ⟨by simp [prE, hck.2 h], rfl, rfl⟩
    · simp [h, n1, n2, m1, m2, m3, m4]
      exact next_bad 10 (by decide) (by simp [opA, opC, byteA, bytesA, pairsA]) (by (intro q; simp only [Store.upd, Store.del]; (repeat' split) <;> first | exact Or.inr rfl | exact Or.inl rfl | (exfalso; omega) | (left; subst_vars; assumption) | simp_all))

set_option maxRecDepth 8000 in
set_option maxHeartbeats 1000000 in
theorem rnext_41 (o : Bool) (tl : List UInt8) (hl : tl.length ≤ 1000000000) (σ : Store) : ACalls Tryz.prog 33 [.list o 1 (bytesA (41 :: tl))] σ (NextR (41 :: tl) σ) := by
  have his : ∀ τ, ACalls Tryz.prog 56 [.lit (.int .u8 41)] τ fun v σ' => v = .lit (.bool true) ∧ σ' = τ := fun τ => is16_true (c := 41) (by decide) τ
  have hw : IntKind.i64.wrap 41 = 41 := by decide
  have hc : bytesA (41 :: tl) = .lit (.int .u8 41) :: bytesA tl := rfl
  have htk := htake tl
  have hd := fun τ => rparse_calls false tl hl τ
  unfold parR at hd
  have hop : opF (41 :: tl) = ((attrF tl).1, { kind := 41, pairs := (attrF tl).2 }, tl.drop (attrN tl)) := opF_41 tl
  have hn : attrN tl ≤ tl.length := attrN_le tl
  have hw2 : IntKind.i64.wrap (1 + (attrN tl : Int)) = ((attrN tl + 1 : Nat) : Int) := by rw [wrap_i64 (by omega) (by omega)]; omega
  refine ACalls.of_awp follows (st := st33) (plans := pl33) (n := 161) Tryz.func33 rfl (by kernel_rfl) (by kernel_rfl) (by kernel_rfl) ?_
  simp +contextual [hc, ite_free, hw, htk]
  intro p hp q n1 n2 hq
  refine callK.of (his _) ?_
  rintro v σ' ⟨rfl, rfl⟩
  simp [n1, n2, htk]
  refine callK.of (hd _) ?_
  rintro v σ' ⟨rfl, rfl⟩
  simp [n1, n2, hw2]
  refine next_fin { kind := 41, pairs := (attrF tl).2 } (attrN tl + 1) (attrF tl).1 (by simp [opA, opC, byteA, bytesA, pairsA]) (by (intro q; simp only [Store.upd, Store.del]; (repeat' split) <;> first | exact Or.inr rfl | exact Or.inl rfl | (exfalso; omega) | (left; subst_vars; assumption) | simp_all)) (by simp; omega) fun h => ?_
  rw [hop]
  exact ⟨h, rfl, rfl⟩
set_option maxRecDepth 8000 in
set_option maxHeartbeats 1000000 in
theorem rnext_44 (o : Bool) (tl : List UInt8) (hl : tl.length ≤ 1000000000) (σ : Store) : ACalls Tryz.prog 33 [.list o 1 (bytesA (44 :: tl))] σ (NextR (44 :: tl) σ) := by
  have his : ∀ τ, ACalls Tryz.prog 56 [.lit (.int .u8 44)] τ fun v σ' => v = .lit (.bool true) ∧ σ' = τ := fun τ => is16_true (c := 44) (by decide) τ
  have hw : IntKind.i64.wrap 44 = 44 := by decide
  have hc : bytesA (44 :: tl) = .lit (.int .u8 44) :: bytesA tl := rfl
  have htk := htake tl
  have hd := fun τ => rparse_calls false tl hl τ
  unfold parR at hd
  have hop : opF (44 :: tl) = ((attrF tl).1, { kind := 44, pairs := (attrF tl).2 }, tl.drop (attrN tl)) := opF_44 tl
  have hn : attrN tl ≤ tl.length := attrN_le tl
  have hw2 : IntKind.i64.wrap (1 + (attrN tl : Int)) = ((attrN tl + 1 : Nat) : Int) := by rw [wrap_i64 (by omega) (by omega)]; omega
  refine ACalls.of_awp follows (st := st33) (plans := pl33) (n := 161) Tryz.func33 rfl (by kernel_rfl) (by kernel_rfl) (by kernel_rfl) ?_
  simp +contextual [hc, ite_free, hw, htk]
  intro p hp q n1 n2 hq
  refine callK.of (his _) ?_
  rintro v σ' ⟨rfl, rfl⟩
  simp [n1, n2, htk]
  refine callK.of (hd _) ?_
  rintro v σ' ⟨rfl, rfl⟩
  simp [n1, n2, hw2]
  refine next_fin { kind := 44, pairs := (attrF tl).2 } (attrN tl + 1) (attrF tl).1 (by simp [opA, opC, byteA, bytesA, pairsA]) (by (intro q; simp only [Store.upd, Store.del]; (repeat' split) <;> first | exact Or.inr rfl | exact Or.inl rfl | (exfalso; omega) | (left; subst_vars; assumption) | simp_all)) (by simp; omega) fun h => ?_
  rw [hop]
  exact ⟨h, rfl, rfl⟩
set_option maxRecDepth 8000 in
set_option maxHeartbeats 1000000 in
theorem rnext_60 (o : Bool) (tl : List UInt8) (σ : Store) : ACalls Tryz.prog 33 [.list o 1 (bytesA (60 :: tl))] σ (NextR (60 :: tl) σ) := by
  have his : ∀ τ, ACalls Tryz.prog 56 [.lit (.int .u8 60)] τ fun v σ' => v = .lit (.bool true) ∧ σ' = τ := fun τ => is16_true (c := 60) (by decide) τ
  have hw : IntKind.i64.wrap 60 = 60 := by decide
  have hc : bytesA (60 :: tl) = .lit (.int .u8 60) :: bytesA tl := rfl
  have htk := htake tl
  have hd := fun τ => rdec_calls false tl τ
  have hop : opF (60 :: tl) = (chE (raL tl) (adE tl), { kind := 60, addr := adN tl, graph := raG tl, code := (raL tl).headD 0 }, (raL tl).tail) := opF_60 tl
  by_cases he : adE tl = 0
  · obtain ⟨x, y, t, rfl⟩ := ad_some he
    rcases t with _ | ⟨z, r⟩
    · refine ACalls.of_awp follows (st := st33) (plans := pl33) (n := 161) Tryz.func33 rfl (by kernel_rfl) (by kernel_rfl) (by kernel_rfl) ?_
      simp +contextual [hc, ite_free, hw, htk]
      intro p hp q n1 n2 hq
      refine callK.of (his _) ?_
      rintro v σ' ⟨rfl, rfl⟩
      simp [n1, n2]
      simp only [List.length_cons, List.length_nil] at htk
      simp [htk]
      refine callK.of (hd _) ?_
      rintro v σ' ⟨rfl, rfl⟩
      simp [n1, n2, he]
      exact next_bad 2 (by decide) (by simp [opA, opC, byteA, bytesA, pairsA]) (by (intro q; simp only [Store.upd, Store.del]; (repeat' split) <;> first | exact Or.inr rfl | exact Or.inl rfl | (exfalso; omega) | (left; subst_vars; assumption) | simp_all))
    · have g2 : ∀ h : 2 < (bytesA (x :: y :: z :: r)).length, (bytesA (x :: y :: z :: r))[2]'h = .lit (.int .u8 z.toNat) := fun _ => rfl
      have hz0 : bytesA (x :: y :: z :: r) ≠ [] := by simp [bytesA]
      have hlen : (bytesA (x :: y :: z :: r)).length = r.length + 3 := by simp
      have htk' : (bytesA (x :: y :: z :: r)).take (r.length + 1 + 1 + 1) = bytesA (x :: y :: z :: r) := by have := htk; simpa using this
      by_cases hz : z = 8
      · subst hz
        have hG : raG (x :: y :: 8 :: r) = true := rfl
        have hL : raL (x :: y :: 8 :: r) = r := rfl
        rw [hG, hL, he] at hop
        rcases r with _ | ⟨w, r⟩
        · refine ACalls.of_awp follows (st := st33) (plans := pl33) (n := 161) Tryz.func33 rfl (by kernel_rfl) (by kernel_rfl) (by kernel_rfl) ?_
          have g2' : ∀ h : 2 < (bytesA [x, y, 8]).length, (bytesA [x, y, 8])[2]'h = .lit (.int .u8 8) := fun _ => rfl
          simp +contextual [hc, ite_free, hw, htk, htk']
          intro p hp q n1 n2 hq
          refine callK.of (his _) ?_
          rintro v σ' ⟨rfl, rfl⟩
          simp only [List.length_nil, Nat.zero_add] at htk'
          simp [n1, n2, htk']
          refine callK.of (hd _) ?_
          rintro v σ' ⟨rfl, rfl⟩
          simp [n1, n2, he, g2']
          exact next_bad 2 (by decide) (by simp [opA, opC, byteA, bytesA, pairsA]) (by (intro q; simp only [Store.upd, Store.del]; (repeat' split) <;> first | exact Or.inr rfl | exact Or.inl rfl | (exfalso; omega) | (left; subst_vars; assumption) | simp_all))
        · have g3 : ∀ h : 3 < (bytesA (x :: y :: 8 :: w :: r)).length, (bytesA (x :: y :: 8 :: w :: r))[3]'h = .lit (.int .u8 w.toNat) := fun _ => rfl
          have g2' : ∀ h : 2 < (bytesA (x :: y :: 8 :: w :: r)).length, (bytesA (x :: y :: 8 :: w :: r))[2]'h = .lit (.int .u8 8) := fun _ => rfl
          have hlt : ¬ ((r.length : Int) + 1 + 1 + 1 + 1 + 1 < 4) := by omega
          have hlt5 : ¬ ((r.length : Int) + 1 + 1 + 1 + 1 + 1 < 5) := by omega
          have hix : ∀ τ, ACalls Tryz.prog 56 [.lit (.int .u8 w.toNat)] τ fun v σ' => v = .lit (.bool (isOrd w)) ∧ σ' = τ := fun τ => is16_calls w τ
          refine ACalls.of_awp follows (st := st33) (plans := pl33) (n := 161) Tryz.func33 rfl (by kernel_rfl) (by kernel_rfl) (by kernel_rfl) ?_
          simp +contextual [hc, ite_free, hw, htk, htk']
          intro p hp q n1 n2 hq
          refine callK.of (his _) ?_
          rintro v σ' ⟨rfl, rfl⟩
          simp only [List.length_cons] at htk'
          simp [n1, n2, htk']
          refine callK.of (hd _) ?_
          rintro v σ' ⟨rfl, rfl⟩
          simp [n1, n2, he, g2', g3, hlt, hlt5]
          refine callK.of (hix _) ?_
          rintro v σ' ⟨rfl, rfl⟩
          cases hx : isOrd w
          · simp [n1, n2]
            refine next_fin { kind := 60, addr := adN (x :: y :: 8 :: w :: r), code := w, graph := true } 5 0 (by simp [opA, opC, byteA, bytesA, pairsA]) (by (intro q; simp only [Store.upd, Store.del]; (repeat' split) <;> first | exact Or.inr rfl | exact Or.inl rfl | (exfalso; omega) | (left; subst_vars; assumption) | simp_all)) (by simp) fun _ => ?_
            rw [hop]
            exact ⟨by simp [chE, hx], rfl, rfl⟩
          · simp [n1, n2]
            exact next_bad 10 (by decide) (by simp [opA, opC, byteA, bytesA, pairsA]) (by (intro q; simp only [Store.upd, Store.del]; (repeat' split) <;> first | exact Or.inr rfl | exact Or.inl rfl | (exfalso; omega) | (left; subst_vars; assumption) | simp_all))
      · have hzi : ¬ (z.toNat : Int) = 8 := fun h => hz (UInt8.toNat_inj.1 (by have : (8 : UInt8).toNat = 8 := rfl; omega))
        have hzn : ¬ z.toNat = 8 := by omega
        have hG : raG (x :: y :: z :: r) = false := by unfold raG; simp [adL, hz]
        have hL : raL (x :: y :: z :: r) = z :: r := by unfold raL; rw [hG]; rfl
        rw [hG, hL, he] at hop
        have hlt : ¬ ((r.length : Int) + 1 + 1 + 1 + 1 < 4) := by omega
        have hix : ∀ τ, ACalls Tryz.prog 56 [.lit (.int .u8 z.toNat)] τ fun v σ' => v = .lit (.bool (isOrd z)) ∧ σ' = τ := fun τ => is16_calls z τ
        refine ACalls.of_awp follows (st := st33) (plans := pl33) (n := 161) Tryz.func33 rfl (by kernel_rfl) (by kernel_rfl) (by kernel_rfl) ?_
        simp +contextual [hc, ite_free, hw, htk, htk']
        intro p hp q n1 n2 hq
        refine callK.of (his _) ?_
        rintro v σ' ⟨rfl, rfl⟩
        simp [n1, n2, htk']
        refine callK.of (hd _) ?_
        rintro v σ' ⟨rfl, rfl⟩
        simp [n1, n2, he, g2, hlt, hzi, hzn]
        refine callK.of (hix _) ?_
        rintro v σ' ⟨rfl, rfl⟩
        cases hx : isOrd z
        · simp [n1, n2]
          refine next_fin { kind := 60, addr := adN (x :: y :: z :: r), code := z } 4 0 (by simp [opA, opC, byteA, bytesA, pairsA]) (by (intro q; simp only [Store.upd, Store.del]; (repeat' split) <;> first | exact Or.inr rfl | exact Or.inl rfl | (exfalso; omega) | (left; subst_vars; assumption) | simp_all)) (by simp) fun _ => ?_
          rw [hop]
          exact ⟨by simp [chE, hx], rfl, rfl⟩
        · simp [n1, n2]
          exact next_bad 10 (by decide) (by simp [opA, opC, byteA, bytesA, pairsA]) (by (intro q; simp only [Store.upd, Store.del]; (repeat' split) <;> first | exact Or.inr rfl | exact Or.inl rfl | (exfalso; omega) | (left; subst_vars; assumption) | simp_all))
  · refine ACalls.of_awp follows (st := st33) (plans := pl33) (n := 161) Tryz.func33 rfl (by kernel_rfl) (by kernel_rfl) (by kernel_rfl) ?_
    simp +contextual [hc, ite_free, hw, htk]
    intro p hp q n1 n2 hq
    refine callK.of (his _) ?_
    rintro v σ' ⟨rfl, rfl⟩
    simp [n1, n2, htk]
    refine callK.of (hd _) ?_
    rintro v σ' ⟨rfl, rfl⟩
    simp [n1, n2, he]
    exact next_bad (adE tl) he (by simp [opA, opC, byteA, bytesA, pairsA]) (by (intro q; simp only [Store.upd, Store.del]; (repeat' split) <;> first | exact Or.inr rfl | exact Or.inl rfl | (exfalso; omega) | (left; subst_vars; assumption) | simp_all))
end Go.Proofs.YtnlggjbcdienfaaGreatDoor
/-
  The program writes at all.
-/
namespace Go.Proofs.YtnlggjbcdienfaaGreatDoor
open Go Go.AL Go.Sp

theorem begin_good {s : Sp} (h : s.good) (k : Nat) (c : UInt8) : (beginS s k c).good := by
  unfold beginS
  split
  · split
    · exact h
    · exact (unmodS_same h).1
  · exact Sp.clear_good h.model _
theorem penF_good {s : Sp} (h : s.good) (k : Nat) (l : List UInt8) : (penF s k l).1.s.good :=
  (PenOk.ordN _ _ _ ⟨SameN.refl (begin_good h k (ctlOf l)), pen0_lt _ _⟩).same.1
theorem unprot_good {s : Sp} (h : s.good) : (unprotS s).good := by
  unfold unprotS
  split
  · exact (keep_null h _).same.1.place _
  · have := (keep_unprotTo h s.attrs.length).same.1
    unfold unprotTo at this
    rw [List.take_length] at this
    exact this.place _
theorem run_good {s : Sp} (h : s.good) (l : List UInt8) : (runS s l).s.good := by
  rcases l with _ | ⟨c, l⟩
  · exact h
  · show (if (cmdF c).2 = true then ranCmd s (cmdF c).1 l else (⟨s, ⟨0, false, false, false, 0⟩, [], 11⟩ : Ran)).s.good
    split
    · unfold ranCmd
      split
      · exact penF_good h _ _
      · split
        · exact unprot_good h
        · split <;> exact h
    · exact h
/-- Where the screen lies then. -/
theorem RanR.at {σ σ' : Store} {q r : Nat} {s : Sp} {l : List UInt8} {v : AV} (h : Prg σ q r s) (hr : RanR σ q r (runS s l) v σ') :
    v = ranA (runS s l) ∧ ∃ r', (r' = r ∨ σ r' = none) ∧ σ' = putS spO σ q r' (runS s l).s ∧ Prg σ' q r' (runS s l).s := by
  obtain ⟨hv, r', h1, rfl⟩ := hr
  refine ⟨hv, r', h1, rfl, Scr.of_put ?_ (run_good h.good l)⟩
  rcases h1 with e | e
  · rw [e]; exact h.ne
  · exact (h.fresh e).1
def exW : List UInt8 := [245, 195, 17, 64, 64, 29, 96, 193]
def exR : Ran := runS (Sp.new 2) exW
theorem ex_run : exR.err = 0 ∧ exR.x.cmd = 2 ∧ exR.x.restore = true ∧ exR.x.alarm = false ∧ exR.x.reset = true ∧ exR.x.pieces = 3 ∧ exR.fields = [] ∧
    (exR.s.at 0).attr = true ∧ (exR.s.at 0).fa = 32 ∧ (exR.s.at 1).char = 193 := by decide +kernel
set_option maxRecDepth 8000 in
theorem awake_calls (σ : Store) : ACalls Tryz.prog 5 [] σ fun v σ' => v = .lit (.bool true) ∧ σ' = σ := by
  have hnw := fun τ => new_calls (m := 2) ⟨by omega, by omega⟩ τ
  obtain ⟨x1, x2, x3, x4, x5, x6, x7, x8, x9, x10⟩ := ex_run
  have hgd := new_good (m := 2) ⟨by omega, by omega⟩
  have hrun := fun τ (q p : Nat) (h : Prg τ q p (Sp.new 2)) => run_calls h false exW (by decide)
  refine ACalls.of_awp follows (st := st5) (plans := pl5) (n := 57) Tryz.func5 rfl (by kernel_rfl) (by kernel_rfl) (by kernel_rfl) ?_
  simp
  refine callK.of (hnw _) ?_
  rintro v σ' ⟨q, p, rfl, hq, hp, hne, rfl⟩
  have hP : Prg (putS spO σ q p (Sp.new 2)) q p (Sp.new 2) := Scr.of_put hne hgd
  have hra : ranA (runS (Sp.new 2) exW) = .tuple [.agg [.lit (.int .i64 2), .lit (.bool true), .lit (.bool false), .lit (.bool true), .lit (.int .i64 3), .list false 1 []], .lit (.int .i64 0)] := by
    show ranA exR = _
    simp only [ranA, resC, x1, x2, x3, x4, x5, x6, x7]
    rfl
  simp
  refine callK.le (args' := [ptrA q, .list false 1 (bytesA exW)]) ⟨AV.le_refl _, AV.le_list _ _ _, trivial⟩ (hrun _ q p hP) ?_
  rintro v σ' hr
  obtain ⟨rfl, r', hr', hσ, hP2⟩ := RanR.at hP hr
  rw [hra]
  have hsub : Store.sub σ σ' := by
    intro o
    by_cases o1 : o = q
    · left; rw [o1]; exact hq
    by_cases o2 : o = r'
    · left
      rw [o2]
      rcases hr' with e | e
      · rw [e]; exact hp
      · by_cases o3 : r' = p
        · rw [o3]; exact hp
        · rwa [putS_at (by rw [← o2]; exact o1) o3] at e
    · by_cases o3 : o = p
      · left; rw [o3]; exact hp
      · right; rw [hσ, putS_at o1 o2, putS_at o1 o3]
  clear hσ hr'
  change Prg σ' q r' exR.s at hP2
  generalize exR.s = t at *
  have ha0 := fun τ (hτ : Prg τ q r' t) => at_calls hτ 0
  have ha1 := fun τ (hτ : Prg τ q r' t) => at_calls hτ 1
  rw [cellA_eq, x8] at ha0
  rw [cellA_eq] at ha1
  have y9 := byteA_lit (t.at 0).fa
  have y10 := byteA_lit (t.at 1).char
  rw [x9] at y9
  rw [x10] at y10
  rw [x9, y9] at ha0
  rw [x10, y10] at ha1
  simp
  intro b hb
  refine callK.of (ha0 _ (hP2.new hb _)) ?_
  rintro v σ2 ⟨rfl, rfl⟩
  simp
  refine callK.of (ha0 _ (hP2.new hb _)) ?_
  rintro v σ2 ⟨rfl, rfl⟩
  simp
  refine callK.of (ha1 _ (hP2.new hb _)) ?_
  rintro v σ2 ⟨rfl, rfl⟩
  simp
  exact Store.sub_trans hsub (Store.sub_upd hb (Store.sub_refl _))
end Go.Proofs.YtnlggjbcdienfaaGreatDoor
/-
  Answers, screens and bytes that are the same.
-/
namespace Go.Proofs.YtnlggjbcdienfaaGreatDoor
open Go Go.AL Go.Sp

theorem copy_calls (o : Bool) (l : List UInt8) (σ : Store) (hl : l.length ≤ 140737488355328) :
    ACalls Tryz.prog 11 [.list o 1 (bytesA l)] σ fun v σ' => v = .list true 1 (bytesA l) ∧ σ' = σ := by
  refine ACalls.of_awp follows (st := st11) (plans := pl11) (n := 6) Tryz.func11 rfl (by kernel_rfl) (by kernel_rfl) (by kernel_rfl) ?_
  simp
  omega
set_option maxRecDepth 8000 in
theorem cut_calls (o : Bool) (l : List UInt8) (n : Nat) (σ : Store) (hn : n ≤ 100000000) :
    ACalls Tryz.prog 8 [.list o 1 (bytesA l), .lit (.int .i64 n)] σ fun v σ' => v = .list true 1 (bytesA (l.take n)) ∧ σ' = σ := by
  refine ACalls.of_awp follows (st := st8) (plans := pl8) (n := 14) Tryz.func8 rfl (by kernel_rfl) (by kernel_rfl) (by kernel_rfl) ?_
  by_cases h : n < l.length
  · simp [h, show n ≤ l.length by omega, bytesA_take]
    refine callK.of (copy_calls false (l.take n) σ (by simp; omega)) ?_
    rintro v σ' ⟨rfl, rfl⟩
    simp
  · simp [h]
    refine callK.of (copy_calls false l σ (by omega)) ?_
    rintro v σ' ⟨rfl, rfl⟩
    simp [List.take_of_length_le (show l.length ≤ n by omega)]
theorem alt_calls {q p : Nat} {s : Sp} {σ : Store} (h : Prg σ q p s) : ACalls Tryz.prog 25 [ptrA q] σ fun v σ' => v = .lit (.bool s.alt) ∧ σ' = σ := by
  have ho := h.obj
  unfold spO at ho
  refine ACalls.of_awp follows (st := st25) (plans := pl25) (n := 11) Tryz.func25 rfl (by kernel_rfl) (by kernel_rfl) (by kernel_rfl) ?_
  simp [ho]
set_option maxRecDepth 8000 in
theorem equal_calls {q p q2 p2 : Nat} {s : Sp} {σ : Store} (h : Prg σ q p s) (h2 : Prg σ q2 p2 s) : ACalls Tryz.prog 38 [rowC p s.n, rowC p2 s.n] σ fun v σ' => v = .lit (.bool true) ∧ σ' = σ := by
  have hr := h.row
  have hr2 := h2.row
  have hln := h.good.len
  have hnl := s.n_le
  refine ACalls.of_awp follows (st := st38) (plans := pl38) (n := 26) Tryz.func38 rfl (by kernel_rfl) (by kernel_rfl) (by kernel_rfl) ?_
  simp [rowC]
  refine codeK.loop follows (st := st38) (plans := pl38) (X := Nat) (fun k => k ≤ s.n)
    (fun k => [(0, rowC p s.n), (1, rowC p2 s.n), (12, .lit (.int .i64 s.n)), (13, .lit (.int .i64 k))]) (fun _ => σ) (fun k => s.n - k) 0 (by kernel_rfl) (by simp) (by simp [rowC]) (Store.sub_refl _) fun k hk => ?_
  by_cases hlt : k < s.n
  · have hw : IntKind.i64.wrap ((k : Int) + 1) = ((k + 1 : Nat) : Int) := wrap_i64 (by omega) (by omega)
    have hic : k < s.cells.length := by omega
    have hgi := cellsO_get hic
    have hle : k * 6 + 6 ≤ (cellsO s.cells).length := by rw [cellsO_length]; omega
    generalize s.cells[k] = c at *
    have hcx : cellC c = [.lit (.int .u8 c.char.toNat), .lit (.bool c.attr), .lit (.int .u8 c.fa.toNat), .lit (.int .u8 c.high.toNat), .lit (.int .u8 c.color.toNat), .lit (.int .u8 c.set.toNat)] := rfl
    rw [hcx] at hgi
    simp [hlt, rowC, hr, hr2, hle, hgi, hw]
    exact ⟨k + 1, by omega, by omega, AV.le_refl _⟩
  · obtain rfl : k = s.n := by omega
    simp
set_option maxRecDepth 8000 in
theorem ssame_calls {q p q2 p2 : Nat} {s : Sp} {σ : Store} (h : Prg σ q p s) (h2 : Prg σ q2 p2 s) : ACalls Tryz.prog 12 [ptrA q, ptrA q2] σ fun v σ' => v = .lit (.bool true) ∧ σ' = σ := by
  have ho := h.obj
  have ho2 := h2.obj
  have heq := equal_calls h h2
  unfold spO at ho ho2
  unfold rowC at heq
  refine ACalls.of_awp follows (st := st12) (plans := pl12) (n := 56) Tryz.func12 rfl (by kernel_rfl) (by kernel_rfl) (by kernel_rfl) ?_
  simp [ho, ho2, rowC]
  refine callK.of heq ?_
  rintro v σ' ⟨rfl, rfl⟩
  simp
end Go.Proofs.YtnlggjbcdienfaaGreatDoor
/-
  All orders, as the document reads them.
-/
namespace Go.Proofs.YtnlggjbcdienfaaGreatDoor
open Go Go.AL Go.Sp

theorem untilO_take (l : List UInt8) : l.take (untilO l).length = untilO l ∧ l.drop (untilO l).length = fromO l := by
  induction l with
  | nil => exact ⟨rfl, rfl⟩
  | cons c l ih =>
    unfold untilO fromO at *
    by_cases hc : isOrd c = true
    · simp [hc]
    · have hc' : isOrd c = false := by simpa using hc
      simp [hc', ih]
theorem untilO_at : ∀ (l : List UInt8) (i : Nat), i < (untilO l).length → ∃ c, l[i]? = some c ∧ isOrd c = false
  | [], i, h => by simp [untilO] at h
  | c :: l, i, h => by
    unfold untilO at h
    by_cases hc : isOrd c = true
    · simp [hc] at h
    · have hc' : isOrd c = false := by simpa using hc
      simp [hc'] at h
      cases i with
      | zero => exact ⟨c, rfl, hc'⟩
      | succ i => exact untilO_at l i (by unfold untilO; omega)
theorem untilO_end : ∀ (l : List UInt8), (untilO l).length = l.length ∨ ∃ c, l[(untilO l).length]? = some c ∧ isOrd c = true
  | [] => .inl rfl
  | c :: l => by
    unfold untilO
    by_cases hc : isOrd c = true
    · right; exact ⟨c, by simp [hc], hc⟩
    · have hc' : isOrd c = false := by simpa using hc
      simp only [hc', Bool.not_false, List.takeWhile_cons_of_pos, List.length_cons]
      rcases untilO_end l with h | h
      · left; unfold untilO at h; omega
      · right; unfold untilO at h; simpa using h
set_option maxRecDepth 8000 in
set_option maxHeartbeats 1000000 in
theorem rnext_text (o : Bool) (c : UInt8) (tl : List UInt8) (h : isOrd c = false) (hl : tl.length ≤ 1000000000) (σ : Store) : ACalls Tryz.prog 33 [.list o 1 (bytesA (c :: tl))] σ (NextR (c :: tl) σ) := by
  have hop := opF_text c tl h
  have his := fun τ => is16_calls c τ
  rw [h] at his
  simp only [byteA_lit] at his
  have hc0 : ∀ h : 0 < (bytesA (c :: tl)).length, (bytesA (c :: tl))[0]'h = byteA c := fun _ => rfl
  have hll : (c :: tl).length ≤ 1000000001 := by simp; omega
  have hpos : 0 < (c :: tl).length := by simp
  have hnil : c :: tl ≠ [] := by simp
  obtain ⟨ht, hdr⟩ := untilO_take (c :: tl)
  have hat := untilO_at (c :: tl)
  have hen := untilO_end (c :: tl)
  have hun : (untilO (c :: tl)).length ≤ (c :: tl).length := (List.takeWhile_sublist _).length_le
  generalize c :: tl = l at *
  have wc := wrapB c
  refine ACalls.of_awp follows (st := st33) (plans := pl33) (n := 161) Tryz.func33 rfl (by kernel_rfl) (by kernel_rfl) (by kernel_rfl) ?_
  simp +contextual [ite_free, hc0, hpos, hnil, byteA_lit, wc]
  intro p hp q n1 n2 hq
  refine callK.of (his _) ?_
  rintro v σ' ⟨rfl, rfl⟩
  simp
  have hρp : ((σ.upd p [.lit (.int .i64 0), .lit (.int .i64 0), .lit (.int .u8 0), .lit (.bool false), .lit (.int .u8 0), .list true 2 [], .list true 1 []]).upd q [.lit (.int .i64 c.toNat), .lit (.int .i64 0), .lit (.int .u8 0), .lit (.bool false), .lit (.int .u8 0), .list true 2 [], .list true 1 []]) p = some [.lit (.int .i64 0), .lit (.int .i64 0), .lit (.int .u8 0), .lit (.bool false), .lit (.int .u8 0), .list true 2 [], .list true 1 []] := by simp [n2]
  have hsub : ∀ X, Store.sub σ ((((σ.upd p [.lit (.int .i64 0), .lit (.int .i64 0), .lit (.int .u8 0), .lit (.bool false), .lit (.int .u8 0), .list true 2 [], .list true 1 []]).upd q [.lit (.int .i64 c.toNat), .lit (.int .i64 0), .lit (.int .u8 0), .lit (.bool false), .lit (.int .u8 0), .list true 2 [], .list true 1 []])).upd p X) := fun X => sub2 hp hq _ _ _
  generalize ((σ.upd p _).upd q _) = ρ at *
  refine codeK.loop follows (st := st33) (plans := pl33) (X := Nat) (fun i => i ≤ (untilO l).length)
    (fun i => [(0, .list o 1 (bytesA l)), (2, ptrA p), (6, .lit (.int .i64 i))]) (fun _ => ρ) (fun i => (untilO l).length - i) 0 (by kernel_rfl) (by simp) (by simp) (Store.sub_refl _) fun i hi => ?_
  have hdone : i = (untilO l).length → (opF l).1 = 0 ∧ (txtOp (untilO l)).kind = (opF l).2.1.kind ∧ (opF l).2.2 = l.drop i := fun e => by
    rw [hop, e, hdr]; exact ⟨rfl, rfl, rfl⟩
  have hcp := fun τ => copy_calls false (untilO l) τ (by omega)
  by_cases hlt : i < (untilO l).length
  · have hw : IntKind.i64.wrap ((i : Int) + 1) = ((i + 1 : Nat) : Int) := wrap_i64 (by omega) (by omega)
    obtain ⟨d, hd, hdo⟩ := hat i hlt
    have hil : i < l.length := by omega
    have hg : ∀ h : i < (bytesA l).length, (bytesA l)[i]'h = .lit (.int .u8 d.toNat) := fun h => by
      rw [List.getElem_eq_iff, bytesA_get, hd]; rfl
    have hid : ∀ τ, ACalls Tryz.prog 56 [.lit (.int .u8 d.toNat)] τ fun v σ' => v = .lit (.bool false) ∧ σ' = τ := fun τ => by
      have := is16_calls d τ; rw [hdo] at this; exact this
    have hil' : (i : Int) < l.length := by omega
    simp [hil, hg]
    refine callK.of (hid _) ?_
    rintro v σ' ⟨rfl, rfl⟩
    simp
    exact ⟨i + 1, by omega, by omega, by rw [hw]; exact AV.le_refl _⟩
  · have he : i = (untilO l).length := by omega
    have hdn := hdone he
    have hle : i ≤ l.length := by omega
    rcases hen with hen | ⟨d, hd, hdo⟩
    · have hnl : ¬ i < l.length := by omega
      have htk : (bytesA l).take i = bytesA (untilO l) := by rw [he, bytesA_take, ht]
      simp [hnl, htk, hle]
      refine callK.of (hcp _) ?_
      rintro v σ' ⟨rfl, rfl⟩
      simp [hρp]
      exact next_fin (txtOp (untilO l)) i 0 (by simp [opA, opC, txtOp, byteA, pairsA]) (hsub _) hle fun _ => hdn
    · have hil : i < l.length := by rw [he]; exact (List.getElem?_eq_some_iff.1 hd).1
      have hg : ∀ h : i < (bytesA l).length, (bytesA l)[i]'h = .lit (.int .u8 d.toNat) := fun h => by
        rw [List.getElem_eq_iff, bytesA_get, he, hd]; rfl
      have hid : ∀ τ, ACalls Tryz.prog 56 [.lit (.int .u8 d.toNat)] τ fun v σ' => v = .lit (.bool true) ∧ σ' = τ := fun τ => by
        have := is16_calls d τ; rw [hdo] at this; exact this
      have htk : (bytesA l).take i = bytesA (untilO l) := by rw [he, bytesA_take, ht]
      simp [hil, hg]
      refine callK.of (hid _) ?_
      rintro v σ' ⟨rfl, rfl⟩
      simp [htk, hle]
      refine callK.of (hcp _) ?_
      rintro v σ' ⟨rfl, rfl⟩
      simp [hρp]
      exact next_fin (txtOp (untilO l)) i 0 (by simp [opA, opC, txtOp, byteA, pairsA]) (hsub _) hle fun _ => hdn
end Go.Proofs.YtnlggjbcdienfaaGreatDoor
