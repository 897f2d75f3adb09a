/-
  The document's link is made; what is told of bytes is gathered.
-/
import Derived.Test.YteaidaolablegaaGreatDoorSPart17
set_option linter.unusedSimpArgs false
set_option linter.unusedVariables false
namespace Go.Proofs.YteaidaolablegaaGreatDoor
open Go Go.AL

def refZ : List AV := List.replicate 512 (.lit (.int .i64 0)) ++ List.replicate 512 (.lit (.bool false))
@[simp] theorem azero154 : azero Tryz.prog 154 = some refZ := nr (by kernel_rfl)
theorem refZ_len : refZ.length = 1024 := by
  unfold refZ
  rw [List.length_append, List.length_replicate, List.length_replicate]
set_option maxRecDepth 8000 in
set_option maxHeartbeats 1000000 in
theorem r8new_calls (o o' : Bool) (us him : List UInt8) (h1 : us.length ≤ 1000) (h2 : him.length ≤ 1000) (σ : Store) :
    ACalls Tryz.prog 59 [.list o 1 (bytesA us), .list o' 1 (bytesA him)] σ fun v σ' => (∃ q, v = ptrA q) ∧ σ' = σ := by
  have hz := refZ_len
  refine ACalls.of_awp follows (st := st59) (plans := pl59) (n := 39) Tryz.func59 rfl (by kernel_rfl) (by kernel_rfl) (by kernel_rfl) ?_
  simp
  intro q hq
  refine codeK.loop follows (st := st59) (plans := pl59) (X := Nat × List AV) (fun x => x.1 ≤ us.length ∧ x.2.length = 1024)
    (fun x => [(1, .list false 1 (bytesA him)), (5, ptrA q), (12, .list false 1 (bytesA us)), (13, .lit (.int .i64 us.length)), (14, .lit (.int .i64 x.1))]) (fun x => σ.upd q x.2) (fun x => us.length - x.1) (0, refZ) (by kernel_rfl) (by simp [hz]) (by simp) (by simp) ?_
  rintro ⟨i, C⟩ ⟨hi, hC⟩
  dsimp only at hi hC ⊢
  by_cases hlt : i < us.length
  · have hw : IntKind.i64.wrap ((i : Int) + 1) = ((i + 1 : Nat) : Int) := wrap_i64 (by omega) (by omega)
    have hlt' : (i : Int) < us.length := by omega
    obtain ⟨x, hx⟩ : ∃ x, us[i] = x := ⟨_, rfl⟩
    have hg : ∀ h : i < (bytesA us).length, (bytesA us)[i]'h = .lit (.int .u8 x.toNat) := fun h => by
      rw [List.getElem_eq_iff, bytesA_get, List.getElem?_eq_getElem hlt, hx]; rfl
    have hx8 := x.toNat_lt
    have hx8' : (x.toNat : Int) < 256 := by omega
    simp [hlt, hlt', hg, hx8', hx8, hC]
    exact ⟨by omega, i + 1, _, ⟨by omega, by rw [List.length_set]; exact hC⟩, by omega, by rw [hw]; exact AV.le_refl _, Store.sub_refl _⟩
  · obtain rfl : i = us.length := by omega
    simp
    refine codeK.loop follows (st := st59) (plans := pl59) (X := Nat × List AV) (fun x => x.1 ≤ him.length ∧ x.2.length = 1024)
      (fun x => [(5, ptrA q), (25, .list false 1 (bytesA him)), (26, .lit (.int .i64 him.length)), (27, .lit (.int .i64 x.1))]) (fun x => σ.upd q x.2) (fun x => him.length - x.1) (0, C) (by kernel_rfl) (by simp [hC]) (by simp) (by simp) ?_
    rintro ⟨i, C⟩ ⟨hi, hC⟩
    dsimp only at hi hC ⊢
    by_cases hlt : i < him.length
    · have hw : IntKind.i64.wrap ((i : Int) + 1) = ((i + 1 : Nat) : Int) := wrap_i64 (by omega) (by omega)
      have hlt' : (i : Int) < him.length := by omega
      obtain ⟨x, hx⟩ : ∃ x, him[i] = x := ⟨_, rfl⟩
      have hg : ∀ h : i < (bytesA him).length, (bytesA him)[i]'h = .lit (.int .u8 x.toNat) := fun h => by
        rw [List.getElem_eq_iff, bytesA_get, List.getElem?_eq_getElem hlt, hx]; rfl
      have hx8 := x.toNat_lt
      have hx8' : (x.toNat : Int) < 256 := by omega
      simp [hlt, hlt', hg, hx8', hx8, hC]
      exact ⟨by omega, i + 1, _, ⟨by omega, by rw [List.length_set]; exact hC⟩, by omega, by rw [hw]; exact AV.le_refl _, Store.sub_refl _⟩
    · obtain rfl : i = him.length := by omega
      simp
      exact ⟨_, AV.le_refl _, sub_upd_self _ _ _ hq, q, rfl⟩
/-- A pointer and a number. -/
def PK (σ : Store) (v : AV) (σ' : Store) : Prop := (∃ (x : Option Addr) (k : Int), v = .tuple [.lit (.pointer x), .lit (.int .i64 k)] ∧ (∀ a, x = some a → ∃ q, a = ⟨q, 0, none⟩)) ∧ σ' = σ
set_option maxRecDepth 8000 in
set_option maxHeartbeats 1000000 in
theorem r10new_calls (e : Ng) (o : Bool) (hs : Small e) (σ : Store) : ACalls Tryz.prog 58 [confA e o] σ (PK σ) := by
  have h1 := hs.ty
  have h2 := hs.dev
  have h3 := hs.fns
  have n1 := fun τ => rname_calls e.ty (by omega) τ
  have n2 := fun τ => rname_calls e.dev (by omega) τ
  have hz2 := str_size e.dev
  unfold confA
  refine ACalls.of_awp follows (st := st58) (plans := pl58) (n := 44) Tryz.func58 rfl (by kernel_rfl) (by kernel_rfl) (by kernel_rfl) ?_
  simp
  intro p hp
  have herr : ∀ k : Int, ∃ v', (AV.tuple [.lit (.pointer Option.none), .lit (.int .i64 k)]).le v' ∧ ∃ x, x.sub (σ.upd p [strS e.ty, strS e.dev, .list o 1 (bytesA e.fns)]) ∧ PK σ v' x := fun k =>
    ⟨_, AV.le_refl _, σ, sub_upd_self _ _ _ hp, ⟨_, k, rfl, fun _ h => by cases h⟩, rfl⟩
  have hloop : True := trivial
  refine callK.of (n1 _) ?_
  rintro v σ1 ⟨rfl, rfl⟩
  cases e1 : nameS e.ty
  · simp
    exact herr 4
  · by_cases hd : e.dev = []
    · have hd0 : e.dev.length = 0 := by rw [hd]; rfl
      rw [hd0] at hz2
      simp [hz2]
      refine codeK.loop follows (st := st58) (plans := pl58) (X := Nat × Int) (fun x => x.1 ≤ e.fns.length)
        (fun x => [(1, ptrA p), (4, .lit (.int .i64 x.2)), (24, .list false 1 (bytesA e.fns)), (25, .lit (.int .i64 e.fns.length)), (26, .lit (.int .i64 x.1))]) (fun x => σ.upd p [strS e.ty, strS e.dev, .list o 1 (bytesA e.fns)]) (fun x => e.fns.length - x.1) (0, -1) (by kernel_rfl) (by simp) (by simp) (by simp) ?_
      rintro ⟨i, z⟩ hi
      dsimp only at hi ⊢
      by_cases hlt : i < e.fns.length
      · have hw : IntKind.i64.wrap ((i : Int) + 1) = ((i + 1 : Nat) : Int) := wrap_i64 (by omega) (by omega)
        have hlt' : (i : Int) < e.fns.length := by omega
        obtain ⟨x, hx⟩ : ∃ x, e.fns[i] = x := ⟨_, rfl⟩
        have hg : ∀ h : i < (bytesA e.fns).length, (bytesA e.fns)[i]'h = .lit (.int .u8 x.toNat) := fun h => by
          rw [List.getElem_eq_iff, bytesA_get, List.getElem?_eq_getElem hlt, hx]; rfl
        have hx8 := x.toNat_lt
        have hwx : IntKind.i64.wrap (x.toNat : Int) = (x.toNat : Int) := wrap_i64 (by omega) (by omega)
        by_cases c1 : (x.toNat : Int) ≤ z
        · simp [hlt, hlt', hg, hwx, c1]
          exact herr 1
        by_cases c2 : (4 : Int) < (x.toNat : Int)
        · simp [hlt, hlt', hg, hwx, c1, c2, show 4 < x.toNat by omega]
          exact herr 1
        · simp [hlt, hlt', hg, hwx, c1, c2, show ¬ 4 < x.toNat by omega]
          exact ⟨i + 1, by omega, by omega, ⟨_, AV.le_refl _⟩, by rw [hw]; exact AV.le_refl _⟩
      · obtain rfl : i = e.fns.length := by omega
        simp
        intro q hq
        rw [ite_none] at hq
        exact ⟨_, AV.le_refl _, σ, by (intro q; simp only [Store.upd, Store.del]; (repeat' split) <;> first | exact Or.inr rfl | exact Or.inl rfl | (exfalso; omega) | (left; subst_vars; assumption) | simp_all), ⟨_, 0, rfl, fun a h => ⟨q, by cases h; rfl⟩⟩, rfl⟩
    · have hd1 : (0 : Int) < (e.dev.length : Int) := by
        have : e.dev.length ≠ 0 := fun h => hd (List.eq_nil_of_length_eq_zero h)
        omega
      have hd2 : 0 < e.dev.length := by omega
      simp [hz2, hd, hd1, hd2]
      refine callK.of (n2 _) ?_
      rintro v σ2 ⟨rfl, rfl⟩
      cases e2 : nameS e.dev
      · simp
        exact herr 4
      · simp
        refine codeK.loop follows (st := st58) (plans := pl58) (X := Nat × Int) (fun x => x.1 ≤ e.fns.length)
          (fun x => [(1, ptrA p), (4, .lit (.int .i64 x.2)), (24, .list false 1 (bytesA e.fns)), (25, .lit (.int .i64 e.fns.length)), (26, .lit (.int .i64 x.1))]) (fun x => σ.upd p [strS e.ty, strS e.dev, .list o 1 (bytesA e.fns)]) (fun x => e.fns.length - x.1) (0, -1) (by kernel_rfl) (by simp) (by simp) (by simp) ?_
        rintro ⟨i, z⟩ hi
        dsimp only at hi ⊢
        by_cases hlt : i < e.fns.length
        · have hw : IntKind.i64.wrap ((i : Int) + 1) = ((i + 1 : Nat) : Int) := wrap_i64 (by omega) (by omega)
          have hlt' : (i : Int) < e.fns.length := by omega
          obtain ⟨x, hx⟩ : ∃ x, e.fns[i] = x := ⟨_, rfl⟩
          have hg : ∀ h : i < (bytesA e.fns).length, (bytesA e.fns)[i]'h = .lit (.int .u8 x.toNat) := fun h => by
            rw [List.getElem_eq_iff, bytesA_get, List.getElem?_eq_getElem hlt, hx]; rfl
          have hx8 := x.toNat_lt
          have hwx : IntKind.i64.wrap (x.toNat : Int) = (x.toNat : Int) := wrap_i64 (by omega) (by omega)
          by_cases c1 : (x.toNat : Int) ≤ z
          · simp [hlt, hlt', hg, hwx, c1]
            exact herr 1
          by_cases c2 : (4 : Int) < (x.toNat : Int)
          · simp [hlt, hlt', hg, hwx, c1, c2, show 4 < x.toNat by omega]
            exact herr 1
          · simp [hlt, hlt', hg, hwx, c1, c2, show ¬ 4 < x.toNat by omega]
            exact ⟨i + 1, by omega, by omega, ⟨_, AV.le_refl _⟩, by rw [hw]; exact AV.le_refl _⟩
        · obtain rfl : i = e.fns.length := by omega
          simp
          intro q hq
          rw [ite_none] at hq
          exact ⟨_, AV.le_refl _, σ, by (intro q; simp only [Store.upd, Store.del]; (repeat' split) <;> first | exact Or.inr rfl | exact Or.inl rfl | (exfalso; omega) | (left; subst_vars; assumption) | simp_all), ⟨_, 0, rfl, fun a h => ⟨q, by cases h; rfl⟩⟩, rfl⟩
set_option maxRecDepth 8000 in
set_option maxHeartbeats 1000000 in
theorem r11new_calls (e : Ng) (o x : Bool) (hs : Small e) (σ : Store) : ACalls Tryz.prog 33 [confA e o, .lit (.bool x)] σ (PK σ) := by
  have hn := fun τ => r10new_calls e false hs τ
  have hm := fun us τ (h : us.length ≤ 1000) => r8new_calls false true us [0, 25] h (by simp) τ
  have b3 : bytesA [0, 24, 25] = [.lit (.int .u8 0), .lit (.int .u8 24), .lit (.int .u8 25)] := rfl
  have b4 : bytesA [0, 24, 25, 40] = [.lit (.int .u8 0), .lit (.int .u8 24), .lit (.int .u8 25), .lit (.int .u8 40)] := rfl
  have b2 : bytesA [0, 25] = [.lit (.int .u8 0), .lit (.int .u8 25)] := rfl
  have h3 := fun τ => hm [0, 24, 25] τ (by simp)
  have h4 := fun τ => hm [0, 24, 25, 40] τ (by simp)
  rw [b3, b2] at h3
  rw [b4, b2] at h4
  unfold confA at *
  refine ACalls.of_awp follows (st := st33) (plans := pl33) (n := 28) Tryz.func33 rfl (by kernel_rfl) (by kernel_rfl) (by kernel_rfl) ?_
  simp
  intro p hp
  refine callK.of (hn _) ?_
  rintro v σ1 ⟨⟨ad, k, rfl, had⟩, rfl⟩
  by_cases hk : k = 0
  · subst hk
    cases x
    · simp
      refine callK.of (h3 _) ?_
      rintro v σ2 ⟨⟨q, rfl⟩, rfl⟩
      simp
      intro r hr
      rw [ite_none] at hr
      exact ⟨_, AV.le_refl _, σ, by (intro q; simp only [Store.upd, Store.del]; (repeat' split) <;> first | exact Or.inr rfl | exact Or.inl rfl | (exfalso; omega) | (left; subst_vars; assumption) | simp_all), ⟨_, 0, rfl, fun a h => ⟨r, by cases h; rfl⟩⟩, rfl⟩
    · simp
      refine callK.of (h4 _) ?_
      rintro v σ2 ⟨⟨q, rfl⟩, rfl⟩
      simp
      intro r hr
      rw [ite_none] at hr
      exact ⟨_, AV.le_refl _, σ, by (intro q; simp only [Store.upd, Store.del]; (repeat' split) <;> first | exact Or.inr rfl | exact Or.inl rfl | (exfalso; omega) | (left; subst_vars; assumption) | simp_all), ⟨_, 0, rfl, fun a h => ⟨r, by cases h; rfl⟩⟩, rfl⟩
  · simp [hk]
    exact ⟨_, AV.le_refl _, σ, sub_upd_self _ _ _ hp, ⟨_, k, rfl, fun _ h => by cases h⟩, rfl⟩
/-- A link, and the document's. -/
def LayR (e : Ng) (x : Bool) (σ : Store) (v : AV) (σ' : Store) : Prop := ∃ (ad : Option Addr) (f : Int), (∀ a, ad = some a → ∃ q, a = ⟨q, 0, none⟩) ∧
  ((¬ okC e ∧ (∃ k : Nat, k ≠ 0 ∧ v = .tuple [.lit (.pointer none), .lit (.pointer ad), .lit (.int .i64 k), .lit (.int .i64 f)]) ∧ σ' = σ) ∨
  (okC e ∧ ∃ kb : Bk, kb.Ok ∧ (σ kb.l = none ∧ σ kb.r = none ∧ σ kb.o = none ∧ σ kb.e = none ∧ σ kb.m = none) ∧ v = .tuple [ptrA kb.l, .lit (.pointer ad), .lit (.int .i64 0), .lit (.int .i64 f)] ∧ LkTo kb (.init e x) σ σ'))
set_option maxRecDepth 8000 in
set_option maxHeartbeats 1000000 in
theorem lay_calls (c : Ng) (o x : Bool) (σ : Store) : ACalls Tryz.prog 9 [confA c o, .lit (.bool x)] σ (LayR c.few x σ) := by
  have hfw := fun τ => few_calls c false τ
  have hfs := few_small c
  have hln := fun τ => lnew_calls c.few false x hfs τ
  have hrn := fun τ => r11new_calls c.few false x hfs τ
  have hcp := fun τ => copy_calls false c.few.fns τ (by have := hfs.fns; omega)
  unfold confA lconfA at *
  refine ACalls.of_awp follows (st := st9) (plans := pl9) (n := 37) Tryz.func9 rfl (by kernel_rfl) (by kernel_rfl) (by kernel_rfl) ?_
  simp
  intro p hp
  refine callK.of (hfw _) ?_
  rintro v σ1 ⟨rfl, rfl⟩
  simp
  repeat' with_reducible apply And.intro
  all_goals
    refine callK.of (hcp _) ?_
    rintro v σ2 ⟨rfl, rfl⟩
    simp
    repeat' with_reducible apply And.intro
  all_goals
    refine callK.of (hln _) ?_
    rintro v σ3 (⟨hno, ⟨k, hk, rfl⟩, rfl⟩ | ⟨hok, kb, hkb, hfr, rfl, a, b, rfl⟩)
    · simp
      repeat' with_reducible apply And.intro
      all_goals
        refine callK.of (hrn _) ?_
        rintro v σ4 ⟨⟨ad, f, rfl, had⟩, rfl⟩
        simp
        exact ⟨_, AV.le_refl _, σ, sub_upd_self _ _ _ hp, ad, f, had, .inl ⟨hno, ⟨k, hk, rfl⟩, rfl⟩⟩
    · obtain ⟨f1, f2, f3, f4, f5⟩ := hfr
      rw [supd_apply, ite_none] at f1 f2 f3 f4 f5
      have hpp : ∀ L a b X, (putL kb L a b (σ.upd p X)) p = some X := fun L a b X => by
        rw [putL_apply, if_neg fun e => f5.1 e.symm, if_neg fun e => f4.1 e.symm, if_neg fun e => f3.1 e.symm, if_neg fun e => f2.1 e.symm, if_neg fun e => f1.1 e.symm]; simp
      simp [hpp]
      repeat' with_reducible apply And.intro
      all_goals
        refine callK.of (hrn _) ?_
        rintro v σ4 ⟨⟨ad, f, rfl, had⟩, rfl⟩
        simp
        exact ⟨_, AV.le_refl _, _, putL_sub (sub_upd_self _ _ _ hp), ad, f, had, .inr ⟨hok, kb, hkb, ⟨f1.2, f2.2, f3.2, f4.2, f5.2⟩, rfl, a, b, rfl⟩⟩
end Go.Proofs.YteaidaolablegaaGreatDoor
/-
  The link: its runs, how they go on.
-/
namespace Go.Proofs.YteaidaolablegaaGreatDoor
open Go Go.AL

def Lk.fin (L : Lk) (r : List Ev) : Lk := r.foldl (fun L ev => (L.take ev).2.2) L
theorem adv_cons {L : Lk} {r : List Ev} {x : LE} {r' : List Ev} {T : List (LE × List Ev)} (h : L.tlr r = (x, r') :: T) (hok : LOk L r) :
    (L.adv r).tlr r' = T ∧ LOk (L.adv r) r' ∧ (L.adv r).fin r' = L.fin r ∧ (L.adv r).rd = L.rd := by
  induction r generalizing L with
  | nil => cases h
  | cons ev r ih =>
    obtain ⟨hk, hr⟩ := take_ok hok
    simp only [Lk.tlr] at h
    simp only [Lk.adv]
    split at h
    · rename_i ht
      rw [if_pos ht]
      obtain ⟨e1, e2⟩ := List.cons.inj h
      obtain ⟨_, rfl⟩ := Prod.mk.inj e1
      exact ⟨e2, hk, rfl, hr⟩
    · rename_i ht
      rw [if_neg ht]
      obtain ⟨q1, q2, q3, q4⟩ := ih h hk
      exact ⟨q1, q2, q3, q4.trans hr⟩
theorem adv_nil {L : Lk} {r : List Ev} (h : L.tlr r = []) (hok : LOk L r) : L.adv r = L.fin r ∧ LOk (L.fin r) [] ∧ (L.fin r).rd = L.rd := by
  induction r generalizing L with
  | nil => exact ⟨rfl, hok, rfl⟩
  | cons ev r ih =>
    obtain ⟨hk, hr⟩ := take_ok hok
    simp only [Lk.tlr] at h
    simp only [Lk.adv]
    split at h
    · cases h
    · rename_i ht
      rw [if_neg ht]
      obtain ⟨q1, q2, q3⟩ := ih h hk
      exact ⟨q1, q2, q3.trans hr⟩
theorem fin_ok {L : Lk} {r : List Ev} (hok : LOk L r) : LOk (L.fin r) [] ∧ (L.fin r).rd = L.rd := by
  induction r generalizing L with
  | nil => exact ⟨hok, rfl⟩
  | cons ev r ih =>
    obtain ⟨hk, hr⟩ := take_ok hok
    obtain ⟨q1, q2⟩ := ih hk
    exact ⟨q1, q2.trans hr⟩
/-! ### What a reader makes of bytes -/
structure RdOk (r : Rd) : Prop where
  out : r.out = []
  data : r.data = []
  sub : r.sub.length ≤ 256
/-- Data that are told, and data that wait. -/
def Rd.weight (r : Rd) : Nat := sumD r.out + r.data.length
theorem sumD_append (a b : List Ev) : sumD (a ++ b) = sumD a + sumD b := by simp [sumD]
structure RdB (r : Rd) (n : Nat) : Prop where
  weight : r.weight ≤ n
  sub : r.sub.length ≤ 256
  each : ∀ ev ∈ r.out, ev.data.length ≤ n + 256
theorem flush_b {r : Rd} {n : Nat} (h : RdB r n) : RdB r.flush n ∧ r.flush.data = [] := by
  obtain ⟨h1, h2, h3⟩ := h
  unfold Rd.weight at h1
  refine ⟨⟨?_, h2, ?_⟩, rfl⟩
  · simp only [Rd.weight, Rd.flush]
    split
    · rw [sumD_append]; simp [sumD]; simp [sumD] at h1; omega
    · simp; omega
  · intro ev hev
    simp only [Rd.flush] at hev
    split at hev
    · rcases List.mem_append.1 hev with h | h
      · exact h3 ev h
      · simp at h; subst h; simp; omega
    · exact h3 ev hev
theorem tell_b {r : Rd} {n : Nat} (h : RdB r n) (e : Ev) (hk : ¬ e.kind = 0) (hd : e.data.length ≤ 256) : RdB (r.tell e) n ∧ (r.tell e).data = [] := by
  obtain ⟨⟨h1, h2, h3⟩, h4⟩ := flush_b h
  refine ⟨⟨?_, h2, ?_⟩, h4⟩
  · unfold Rd.weight at h1 ⊢
    show sumD (r.flush.out ++ [e]) + r.flush.data.length ≤ n
    rw [sumD_append]
    simp [sumD, hk]; simp [sumD] at h1; omega
  · intro ev hev
    have hev' : ev ∈ r.flush.out ++ [e] := hev
    rcases List.mem_append.1 hev' with h | h
    · exact h3 ev h
    · simp at h; subst h; omega
theorem more_b {r : Rd} {n : Nat} (h : RdB r n) : RdB r (n + 1) := ⟨by have := h.weight; omega, h.sub, fun ev hev => by have := h.each ev hev; omega⟩
theorem keep_b {r : Rd} {n : Nat} (h : RdB r n) (b : UInt8) : RdB (r.keep b) n := by
  unfold Rd.keep
  split
  · exact ⟨h.weight, h.sub, h.each⟩
  · rename_i hs
    exact ⟨h.weight, by simp; omega, h.each⟩
theorem fin_b {r : Rd} {n : Nat} (h : RdB r n) (x : Bool) : RdB (r.fin x) n := by
  obtain ⟨⟨h1, h2, h3⟩, h4⟩ := tell_b h ⟨3, 0, r.opt, r.sub, r.long, x⟩ (by simp) h.sub
  exact ⟨h1, by simp [Rd.fin], h3⟩
theorem command_b {r : Rd} {n : Nat} (h : RdB r n) (b : UInt8) : RdB (r.command b) (n + 1) := by
  have hm := more_b h
  unfold Rd.command
  split
  · refine ⟨?_, hm.sub, hm.each⟩
    have := h.weight
    unfold Rd.weight at *
    simp; omega
  split
  · exact ⟨hm.weight, hm.sub, hm.each⟩
  split
  · exact ⟨hm.weight, hm.sub, hm.each⟩
  · exact (tell_b hm ⟨1, b, 0, [], false, false⟩ (by simp) (by simp)).1
theorem take_b {r : Rd} {n : Nat} (h : RdB r n) (b : UInt8) : RdB (r.take b) (n + 1) := by
  have hm := more_b h
  unfold Rd.take
  split
  · exact command_b h b
  split
  · exact (tell_b hm ⟨2, r.verb, b, [], false, false⟩ (by simp) (by simp)).1
  split
  · exact ⟨hm.weight, hm.sub, hm.each⟩
  split
  · split
    · exact ⟨hm.weight, hm.sub, hm.each⟩
    · exact keep_b hm b
  split
  · split
    · exact keep_b hm b
    split
    · exact fin_b hm false
    · exact command_b (fin_b h true) b
  split
  · exact ⟨hm.weight, hm.sub, hm.each⟩
  · refine ⟨?_, hm.sub, hm.each⟩
    have := h.weight
    unfold Rd.weight at *
    simp; omega
theorem feed_b (p : List UInt8) : ∀ {r : Rd} {n : Nat}, RdB r n → RdB (r.feed p) (n + p.length) := by
  induction p with
  | nil => intro r n h; exact h
  | cons b p ih =>
    intro r n h
    have := ih (take_b h b)
    simp only [Rd.feed, List.foldl_cons, List.length_cons] at this ⊢
    rw [show n + (p.length + 1) = n + 1 + p.length by omega]
    exact this
/-- What bytes are read as: short. -/
theorem fed_b {r : Rd} (h : RdOk r) (p : List UInt8) : sumD (r.fed p) ≤ p.length ∧ (∀ ev ∈ r.fed p, ev.data.length ≤ p.length + 256) ∧ (r.fed p).length ≤ 4 * p.length + 1 ∧ RdOk (r.after p) := by
  have h0 : RdB r 0 := ⟨by simp [Rd.weight, h.out, h.data, sumD], h.sub, by simp [h.out]⟩
  have h1 := feed_b p h0
  rw [Nat.zero_add] at h1
  obtain ⟨⟨w1, w2, w3⟩, w4⟩ := flush_b h1
  have hl := feed_len r p
  have hf := flush_len (r.feed p)
  have ho : r.out.length = 0 := by rw [h.out]; rfl
  unfold Rd.weight at w1
  exact ⟨by unfold Rd.fed; omega, w3, by unfold Rd.fed; omega, ⟨rfl, w4, w2⟩⟩
/-- Room for bytes. -/
structure LkOk (L : Lk) (n : Nat) : Prop where
  out : L.out.length ≤ n * 1000000
  mp : L.mp.length ≤ n
  small : Small L.e
  ok : EOk L.e
  rd : RdOk L.rd
theorem fed_room {L : Lk} {n : Nat} (h : LkOk L n) (p : List UInt8) (hn : n + p.length ≤ 8000) : LOk (L.fed p) (L.rd.fed p) := by
  obtain ⟨h1, h2, h3, h4, h5⟩ := h
  obtain ⟨f1, f2, f3, f4⟩ := fed_b h5 p
  refine ⟨?_, fun ev hev => by have := f2 ev hev; omega, ?_, h3, h4⟩
  · show L.out.length + _ ≤ _
    have : n * 1000000 ≤ 8000 * 1000000 := Nat.mul_le_mul_right _ (by omega)
    omega
  · show L.mp.length + _ ≤ _
    omega
theorem take_grow (L : Lk) (ev : Ev) (hs : Small L.e) (hd : ev.data.length ≤ 9000) : (L.take ev).2.2.out.length ≤ L.out.length + 30000 ∧ (L.take ev).2.2.mp.length ≤ L.mp.length + (if ev.kind = 0 then ev.data.length else 0) := by
  have so := sub_out L ev hs hd
  have ho := hear_out L ev.verb ev.opt
  unfold Lk.take
  split
  · obtain ⟨q1, q2, q3, q4, _⟩ := settle_e (L.hear ev.verb ev.opt)
    obtain ⟨p1, p2, p3⟩ := hear_e L ev.verb ev.opt
    dsimp only
    rw [p2] at q3
    exact ⟨by rw [q2]; omega, by omega⟩
  split
  · obtain ⟨q1, q2, q3, q4, _⟩ := settle_e (L.sub ev)
    obtain ⟨p1, p2, p3⟩ := sub_e L ev
    dsimp only
    rw [p2] at q3
    exact ⟨by rw [q2]; omega, by omega⟩
  split
  · dsimp only; exact ⟨by omega, by omega⟩
  split
  · rename_i k0
    obtain ⟨q1, q2, q3, q4, _⟩ := settle_e { L with mp := L.mp ++ ev.data }
    dsimp only
    have q3' : (Lk.settle { L with mp := L.mp ++ ev.data }).mp.length ≤ (L.mp ++ ev.data).length := q3
    have q2' : (Lk.settle { L with mp := L.mp ++ ev.data }).out = L.out := q2
    rw [List.length_append] at q3'
    exact ⟨by rw [q2']; omega, q3'⟩
  split
  · exact ⟨by show L.out.length ≤ _; omega, by show 0 ≤ _; omega⟩
  · obtain ⟨q1, q2, q3, q4, _⟩ := settle_e L
    dsimp only
    exact ⟨by rw [q2]; omega, by omega⟩
theorem fin_grow {L : Lk} {r : List Ev} (hok : LOk L r) : (L.fin r).out.length ≤ L.out.length + 30000 * r.length ∧ (L.fin r).mp.length ≤ L.mp.length + sumD r := by
  induction r generalizing L with
  | nil => exact ⟨Nat.le_refl _, Nat.le_refl _⟩
  | cons ev r ih =>
    obtain ⟨hk, _⟩ := take_ok hok
    obtain ⟨g1, g2⟩ := take_grow L ev hok.small (hok.data ev (by simp))
    obtain ⟨q1, q2⟩ := ih hk
    have hsum : sumD (ev :: r) = (if ev.kind = 0 then ev.data.length else 0) + sumD r := by simp [sumD]
    have e1 : (L.fin (ev :: r)) = (L.take ev).2.2.fin r := rfl
    rw [e1, hsum]
    simp only [List.length_cons]
    exact ⟨by omega, by omega⟩
/-- All that comes of bytes. -/
def Lk.all (L : Lk) (p : List UInt8) : Lk := (L.fed p).fin (L.rd.fed p)
def Lk.said (L : Lk) (p : List UInt8) : List LE := ((L.fed p).tlr (L.rd.fed p)).map (·.1)
theorem fed_nil {r : Rd} (h : RdOk r) : r.fed [] = [] ∧ r.after [] = r := by
  have hd := h.data
  have ho := h.out
  obtain ⟨s, v, o, d, sb, lg, ou⟩ := r
  dsimp only at hd ho
  subst hd ho
  exact ⟨rfl, rfl⟩
theorem all_ok {L : Lk} {n : Nat} (h : LkOk L n) (p : List UInt8) (hn : n + 2 * p.length ≤ 8000) : LkOk (L.all p) (n + 2 * p.length) := by
  have hr := fed_room h p (by omega)
  obtain ⟨f1, f2, f3, f4⟩ := fed_b h.rd p
  obtain ⟨k1, k2⟩ := fin_ok hr
  obtain ⟨g1, g2⟩ := fin_grow hr
  have ho := h.out
  have hm := h.mp
  have e1 : (L.fed p).out = L.out := rfl
  have e2 : (L.fed p).mp = L.mp := rfl
  rw [e1] at g1
  rw [e2] at g2
  refine ⟨?_, ?_, k1.small, k1.ok, ?_⟩
  · by_cases hp : p = []
    · subst hp
      rw [(fed_nil h.rd).1] at g1
      simp at g1
      show (L.all []).out.length ≤ _
      unfold Lk.all
      rw [(fed_nil h.rd).1]
      simpa using Nat.le_trans g1 ho
    · have : p.length ≠ 0 := fun e => hp (List.eq_nil_of_length_eq_zero e)
      show ((L.fed p).fin (L.rd.fed p)).out.length ≤ _
      rw [Nat.add_mul]
      omega
  · show ((L.fed p).fin (L.rd.fed p)).mp.length ≤ _
    omega
  · show RdOk ((L.fed p).fin (L.rd.fed p)).rd
    rw [k2]; exact f4
end Go.Proofs.YteaidaolablegaaGreatDoor
/-
  What is told of bytes, gathered.
-/
namespace Go.Proofs.YteaidaolablegaaGreatDoor
open Go Go.AL

def lesA (l : List LE) : List AV := l.map leA
@[simp] theorem lesA_length (l : List LE) : (lesA l).length = l.length := by simp [lesA]
set_option maxRecDepth 8000 in
theorem iter_calls (kb : Bk) (o : Bool) (p : List UInt8) (σ : Store) : ACalls Tryz.prog 34 [ptrA kb.l, .list o 1 (bytesA p)] σ fun v σ' => ∃ (c1 c2 : Nat), σ c1 = none ∧ σ c2 = none ∧ ¬ c1 = c2 ∧ v = .func (.func 60) [] [ptrA c1, ptrA c2] ∧ σ' = (σ.upd c1 [ptrA kb.l]).upd c2 [.list o 1 (bytesA p)] := by
  refine ACalls.of_awp follows (st := st34) (plans := pl34) (n := 6) Tryz.func34 rfl (by kernel_rfl) (by kernel_rfl) (by kernel_rfl) ?_
  simp
  intro c1 h1 c2 h2
  rw [ite_none] at h2
  exact ⟨_, AV.le_refl _, _, Store.sub_refl _, c1, h1, c2, h2.2, fun e => h2.1 e.symm, rfl, rfl⟩
set_option maxRecDepth 8000 in
theorem lback_calls (e : LE) (σ : Store) : ACalls Tryz.prog 38 [leA e] σ fun v σ' => v = leA e ∧ σ' = σ := by
  obtain ⟨k, d, ⟨ty, req, resp, seq⟩, h⟩ := e
  refine ACalls.of_awp follows (st := st38) (plans := pl38) (n := 12) Tryz.func38 rfl (by kernel_rfl) (by kernel_rfl) (by kernel_rfl) ?_
  simp [leA, hdL, byteA]
  intro p hp q hq
  rw [ite_none] at hq
  obtain ⟨hqp, hq⟩ := hq
  have hpq : ¬ p = q := fun e => hqp e.symm
  simp [hqp, hpq]
  (intro q; simp only [Store.upd, Store.del]; (repeat' split) <;> first | exact Or.inr rfl | exact Or.inl rfl | (exfalso; omega) | (left; subst_vars; assumption) | simp_all)
theorem lesA_append (a b : List LE) : lesA (a ++ b) = lesA a ++ lesA b := by simp [lesA]
/-- The link's blocks, a block beside them. -/
theorem putL_comm {k : Bk} (L : Lk) (a b : Bool) (σ : Store) {p : Nat} (X : List AV) (h : ¬ p = k.m ∧ ¬ p = k.e ∧ ¬ p = k.o ∧ ¬ p = k.r ∧ ¬ p = k.l) : putL k L a b (σ.upd p X) = (putL k L a b σ).upd p X := by
  obtain ⟨h1, h2, h3, h4, h5⟩ := h
  refine Store.ext2 (fun y => ?_) (fun g => by simp [putL])
  rw [supd_apply, putL_apply, putL_apply, supd_apply]
  by_cases hy : y = p
  · subst hy; simp [h1, h2, h3, h4, h5]
  · simp [hy]
set_option maxRecDepth 8000 in
set_option maxHeartbeats 1000000 in
theorem ltk_calls (kb : Bk) (hk : kb.Ok) (L : Lk) (a b o : Bool) (n : Nat) (p : List UInt8) (hn : n + 2 * p.length ≤ 8000) (hL : LkOk L n) (σ : Store) (h : LkAt kb L a b σ) :
    ACalls Tryz.prog 12 [ptrA kb.l, .list o 1 (bytesA p)] σ fun v σ' => v = .list false 7 (lesA (L.said p)) ∧ LkTo kb (L.all p) σ σ' := by
  have hroom := fed_room hL p (by omega)
  obtain ⟨f1, f2, f3, f4⟩ := fed_b hL.rd p
  generalize hT : (L.fed p).tlr (L.rd.fed p) = T at *
  have hsaid : L.said p = T.map (·.1) := by unfold Lk.said; rw [hT]
  have hUk : ∀ k x, T[k]? = some x → (T.map (·.1)).take (k + 1) = (T.map (·.1)).take k ++ [x.1] := fun k x hx => by
    obtain ⟨h1, h2⟩ := List.getElem?_eq_some_iff.1 hx
    rw [List.take_succ_eq_append_getElem (by simpa using h1)]; simp [h2]
  have hUl : (T.map (·.1)).length = T.length := by simp
  rw [hsaid]
  generalize T.map (·.1) = U at *
  have hTl : T.length ≤ 100000 := by
    have : ∀ (r : List Ev) (M : Lk), (M.tlr r).length ≤ r.length := fun r => by
      induction r with
      | nil => intro M; exact Nat.le_refl _
      | cons ev r ih =>
        intro M
        simp only [Lk.tlr]
        split
        · simp only [List.length_cons]; have := ih (M.take ev).2.2; omega
        · simp only [List.length_cons]; have := ih (M.take ev).2.2; omega
    have := this (L.rd.fed p) (L.fed p)
    rw [hT] at this
    omega
  have hit := fun τ => iter_calls kb false p τ
  refine ACalls.of_awpY follows (st := st12) (plans := pl12) (n := 17) Tryz.func12 rfl (by kernel_rfl) (by kernel_rfl) (by kernel_rfl) ?_
  simp
  intro q hq
  refine callK.of (hit _) ?_
  rintro v σ1 ⟨c1, c2, hc1, hc2, hcc, rfl, rfl⟩
  rw [supd_apply, ite_none] at hc1 hc2
  obtain ⟨hc1q, hc1⟩ := hc1
  obtain ⟨hc2q, hc2⟩ := hc2
  obtain ⟨n1, n2, n3, n4, n5⟩ := h.ne hq
  have hqk : ¬ q = kb.m ∧ ¬ q = kb.e ∧ ¬ q = kb.o ∧ ¬ q = kb.r ∧ ¬ q = kb.l := ⟨fun e => n5 e.symm, fun e => n4 e.symm, fun e => n3 e.symm, fun e => n2 e.symm, fun e => n1 e.symm⟩
  have hqc1 : ¬ q = c1 := fun e => hc1q e.symm
  have hqc2 : ¬ q = c2 := fun e => hc2q e.symm
  -- the store, by what has been gathered
  let W : List LE → Store := fun l => ((σ.upd q [.list true 7 (lesA l)]).upd c1 [ptrA kb.l]).upd c2 [.list false 1 (bytesA p)]
  have hWat : ∀ l, LkAt kb L a b (W l) := fun l => ((h.other hq _).other (by rw [supd_apply, if_neg hc1q]; exact hc1) _).other (by rw [supd_apply, if_neg fun e => hcc e.symm, supd_apply, if_neg hc2q]; exact hc2) _
  have hWσ : ∀ l, Store.sub σ (W l) := fun l => by
    refine Store.sub2 (fun x => ?_) (fun g => .inr (by simp [W]))
    show σ x = none ∨ σ x = W l x
    by_cases x2 : x = c2
    · left; rw [x2]; exact hc2
    by_cases x1 : x = c1
    · left; rw [x1]; exact hc1
    by_cases x0 : x = q
    · left; rw [x0]; exact hq
    · right; simp [W, x1, x2, x0]
  have hW1 : ∀ l, W l c1 = some [ptrA kb.l] := fun l => by simp [W, hcc]
  have hW2 : ∀ l, W l c2 = some [.list false 1 (bytesA p)] := fun l => by simp [W]
  have hWq : ∀ l, W l q = some [.list true 7 (lesA l)] := fun l => by simp [W, hqc1, hqc2]
  have hPq : ∀ L' a b l, (putL kb L' a b (W l)) q = some [.list true 7 (lesA l)] := fun L' a b l => by
    rw [putL_apply, if_neg hqk.1, if_neg hqk.2.1, if_neg hqk.2.2.1, if_neg hqk.2.2.2.1, if_neg hqk.2.2.2.2, hWq]
  have hWup : ∀ L' a b l l', (putL kb L' a b (W l)).upd q [.list true 7 (lesA l')] = putL kb L' a b (W l') := fun L' a b l l' => by
    rw [← putL_comm L' a b (W l) _ hqk]
    congr 1
    refine Store.ext2 (fun x => ?_) (fun g => by simp [W])
    simp only [W, supd_apply]
    by_cases x0 : x = q
    · subst x0; simp [hqc1, hqc2]
    · simp [x0]
  have hWe : ((σ.upd q [.list true 7 []]).upd c1 [ptrA kb.l]).upd c2 [.list false 1 (bytesA p)] = W [] := rfl
  simp only [hWe]
  have hP0 : PreL kb c1 c2 false p T 0 (L, .none) (W []) := ⟨⟨a, b, hWat _⟩, hW1 _, hW2 _, hT, hroom, by simp, (fun r h => by cases h), (by rw [hL.rd.out]; simp), (by rw [hL.rd.data]; simp), Nat.le_trans hL.rd.sub (by omega)⟩
  simp
  refine codeYK.rangeL follows (st := st12) (plans := pl12) (take_iter kb hk c1 c2 false p (by omega) T (W [])) (by simp) (by simp) ?_ (by kernel_rfl) (by kernel_rfl) (by kernel_rfl)
    (fun k g τ _ => k ≤ T.length ∧ PreL kb c1 c2 false p T k g τ ∧ (g.now p).fin (g.rest p) = L.all p ∧ (g.now p).rd = L.rd.after p ∧ ∃ f : Fl, τ = putL kb g.1 f.a f.b (W (U.take k)))
    (fun k g τ _ => k ≤ T.length ∧ (∃ τ0, PreL kb c1 c2 false p T k g τ0) ∧ (g.now p).fin (g.rest p) = L.all p ∧ (g.now p).rd = L.rd.after p ∧ ∃ f : Fl, τ = putL kb ((g.now p).adv (g.rest p)) f.a f.b (W (U.take k)))
    (fun _ _ _ => False) (L, .none) (W []) ⟨Nat.zero_le _, hP0, rfl, rfl, ⟨a, b⟩, (putL_self (hWat _)).symm⟩ (Store.sub_refl _) ?_ ?_ ?_ ?_ ?_
  · intro k hk1
    rw [argL_some (List.getElem?_eq_getElem hk1)]; rfl
  · rintro k g τ E _ ⟨_, h1, _⟩
    exact h1
  · rintro k g τ τ' E hkn ⟨h0, h1, h2, h3, f, rfl⟩ ⟨a', b', rfl⟩
    exact ⟨h0, ⟨_, h1⟩, h2, h3, ⟨a', b'⟩, putL_putL ..⟩
  · rintro k g hk1 τ E ⟨h0, ⟨τ0, h1⟩, h2, h3, f, rfl⟩
    have hTd := List.drop_eq_getElem_cons hk1
    obtain ⟨x, hx⟩ : ∃ x, T[k] = x := ⟨_, rfl⟩
    have htold := h1.told
    rw [hTd, hx] at htold
    obtain ⟨q1, q2, q3, q4⟩ := adv_cons htold h1.room
    rw [argL_some (x := x) (by rw [List.getElem?_eq_getElem hk1, hx])]
    have hTk : T[k]? = some x := by rw [List.getElem?_eq_getElem hk1, hx]
    have hacc := hUk k x hTk
    have hbk := fun τ => lback_calls x.1 τ
    have hlk : (U.take k).length ≤ 100000 := by simp; omega
    have hnext : ∀ f : Fl, ∃ g' : LG, k + 1 ≤ T.length ∧ PreL kb c1 c2 false p T (k + 1) g' (putL kb ((g.now p).adv (g.rest p)) f.a f.b (W (U.take (k + 1)))) ∧ (g'.now p).fin (g'.rest p) = L.all p ∧ (g'.now p).rd = L.rd.after p ∧ ∃ f' : Fl, putL kb ((g.now p).adv (g.rest p)) f.a f.b (W (U.take (k + 1))) = putL kb g'.1 f'.a f'.b (W (U.take (k + 1))) := fun f =>
      ⟨((g.now p).adv (g.rest p), some x.2), hk1, ⟨⟨f.a, f.b, putL_at hk ..⟩, putL_c1 (hWat _) (hW1 _) .., by
        have := putL_c1 (hWat (U.take (k + 1))) (hW2 _) ((g.now p).adv (g.rest p)) f.a f.b
        exact this, q1, q2, by simp, fun r hr => ⟨x.1, by cases hr; rw [Nat.add_sub_cancel]; exact hTk⟩, by
        show ((g.now p).adv (g.rest p)).rd.out.length ≤ 100 ∧ ((g.now p).adv (g.rest p)).rd.data.length ≤ 100000 ∧ ((g.now p).adv (g.rest p)).rd.sub.length ≤ 100000
        rw [q4, h3]
        exact ⟨by rw [f4.out]; simp, by rw [f4.data]; simp, Nat.le_trans f4.sub (by omega)⟩⟩, q3.trans h2, q4.trans h3, f, rfl⟩
    rw [hacc] at hnext
    generalize (g.now p).adv (g.rest p) = L2 at *
    have hat2 := putL_at hk L2 f.a f.b (W (U.take k))
    obtain ⟨⟨xk, xd, ⟨ty, req, resp, seq⟩, xh⟩, xr⟩ := x
    simp only [leA, hdL, byteA_lit, List.cons_append, List.nil_append] at hbk
    simp [leA, hdL, byteA]
    intro r hr
    have hrq : ¬ r = q := fun e => by rw [e, hPq] at hr; cases hr
    have hqr : ¬ q = r := fun e => hrq e.symm
    have hfin : ∀ Y l', Store.sub (putL kb L2 f.a f.b (W l')) (((putL kb L2 f.a f.b (W (U.take k))).upd r Y).upd q [.list true 7 (lesA l')]) := fun Y l' => by
      have e1 := hWup L2 f.a f.b (U.take k) l'
      refine Store.sub2 (fun y => ?_) (fun g => .inr (by have := congrFun e1 (mkey g); simpa using this.symm))
      have e2 := congrFun e1 y
      rw [supd_apply] at e2
      rw [supd_apply, supd_apply]
      by_cases hy : y = q
      · rw [if_pos hy] at e2 ⊢; right; exact e2.symm
      · rw [if_neg hy] at e2 ⊢
        by_cases hy2 : y = r
        · left; rw [← e2, hy2]; exact hr
        · rw [if_neg hy2]; right; exact e2.symm
    simp [hqr, hrq, hPq]
    repeat' with_reducible apply And.intro
    all_goals
      refine callK.of (hbk _) ?_
      rintro v σ2 ⟨rfl, rfl⟩
      simp [hqr, hrq, hPq]
      obtain ⟨g', e1, e2, e3, e4, f', e5⟩ := hnext f
      have hfn := hfin [.lit (.int .i64 xk), .list false 1 (bytesA xd), .lit (.int .u8 ty.toNat), .lit (.int .u8 req.toNat), .lit (.int .u8 resp.toNat), .lit (.int .u16 seq), .lit (.bool xh)] (U.take k ++ [⟨xk, xd, ⟨ty, req, resp, seq⟩, xh⟩])
      rw [lesA_append] at hfn
      exact ⟨by omega, by omega, _, hfn, e1, g'.1, g'.2, e2, e3, e4, f', by rw [hacc]; exact e5⟩
  · rintro g τ E σ' hs ⟨h0, ⟨τ0, h1⟩, h2, h3, f, rfl⟩
    have ht := h1.told
    rw [List.drop_length] at ht
    obtain ⟨q1, _, _⟩ := adv_nil ht h1.room
    rw [q1, h2] at hs
    have e2 : σ' q = some [.list true 7 (lesA U)] := by
      have e0 := hPq (L.all p) f.a f.b (U.take T.length)
      rw [List.take_of_length_le (by omega)] at e0
      rcases hs q with h | h
      · rw [List.take_of_length_le (by omega)] at h; rw [e0] at h; cases h
      · rw [← h, List.take_of_length_le (by omega)]; exact e0
    simp [e2]
    exact ⟨_, AV.le_refl _, _, Store.sub_trans (putL_sub (hWσ _)) hs, rfl, ⟨f.a, f.b, rfl⟩⟩
  · rintro c τ E σ' hs h
    exact h.elim
end Go.Proofs.YteaidaolablegaaGreatDoor
/-
  What a link is asked; and no link at all.
-/
namespace Go.Proofs.YteaidaolablegaaGreatDoor
open Go Go.AL

def nilP : AV := .lit (.pointer none)
set_option maxRecDepth 8000 in
theorem lout_calls (k : Bk) (hk : k.Ok) (L : Lk) (a b : Bool) (σ : Store) (h : LkAt k L a b σ) :
    ACalls Tryz.prog 13 [ptrA k.l] σ fun v σ' => v = .list false 1 (bytesA L.out) ∧ σ' = putL k { L with out := [] } a b σ := by
  have hl0 := h.l
  unfold lkO at hl0
  have hp := put_l hk h [] L.seq L.mode
  unfold lkO at hp
  simp only [bytesA_nil] at hp
  refine ACalls.of_awp follows (st := st13) (plans := pl13) (n := 14) Tryz.func13 rfl (by kernel_rfl) (by kernel_rfl) (by kernel_rfl) ?_
  simp [hl0]
  rw [← hp]
  exact Store.sub_refl _
def Lk.waits (L : Lk) : Bool := L.rd.state != 0 || decide (0 < L.mp.length)
/-! ### No link -/
end Go.Proofs.YteaidaolablegaaGreatDoor
