/-
  The end: what it is, how far, what it got.
-/
import Derived.Test.YteaidaolablegaaGreatDoorPart10
namespace Go.Proofs.YteaidaolablegaaGreatDoor
open Go Go.AL

structure Ng where
  ty : List UInt8
  dev : List UInt8
  fns : List UInt8
  st : Nat := 0
  name : List UInt8 := []
  agreed : List UInt8 := []
def endO (e : Ng) (o1 o2 : Bool) : List AV := [strS e.ty, strS e.dev, .list o1 1 (bytesA e.fns), .lit (.int .i64 e.st), strS e.name, .list o2 1 (bytesA e.agreed)]
structure Small (e : Ng) : Prop where
  ty : e.ty.length ≤ 1000
  dev : e.dev.length ≤ 1000
  fns : e.fns.length ≤ 1000
  agreed : e.agreed.length ≤ 1000
/-- The end is so from now on. -/
def Up (σ : Store) (q : Nat) (e : Ng) (σ' : Store) : Prop := ∃ o1 o2, σ' = σ.upd q (endO e o1 o2)
def askB (e : Ng) : List UInt8 := 2 :: 7 :: e.ty ++ (if e.dev = [] then [] else 1 :: e.dev)
def Ng.asked (e : Ng) : Ng := { e with st := 1, name := [], agreed := [] }
def Ng.offered (e : Ng) : Ng := { e with st := 2, agreed := [] }
theorem str_nil (l : List UInt8) : ((ByteArray.mk l.toArray) == ⟨#[]⟩) = decide (l = []) := by
  cases l <;> rfl
set_option maxRecDepth 8000 in
theorem asks_calls (q : Nat) (e : Ng) (o1 o2 : Bool) (hs : Small e) (σ : Store) (h : σ q = some (endO e o1 o2)) :
    ACalls Tryz.prog 111 [ptrA q] σ fun v σ' => v = .list true 1 (bytesA (askB e)) ∧ Up σ q e.asked σ' := by
  obtain ⟨ty, dev, fns, st, name, agreed⟩ := e
  have h1 := hs.ty
  have h2 := hs.dev
  have hz1 := str_size ty
  have hz2 := str_size dev
  have hv1 := bytesV_mk ty
  have hv2 := bytesV_mk dev
  simp only at h1 h2
  unfold endO at h
  refine ACalls.of_awp follows (st := st111) (plans := pl111) (n := 36) Tryz.func111 rfl (by kernel_rfl) (by kernel_rfl) (by kernel_rfl) ?_
  simp [ptrA, h, hz1, hz2, hv1, hv2]
  refine ⟨by omega, by omega, ?_⟩
  by_cases hd : dev = []
  · subst hd
    simp
    exact ⟨_, AV.le_refl _, _, Store.sub_refl _, by simp [askB, bytesA, byteA_lit], o1, true, rfl⟩
  · simp [hd]
    refine ⟨by omega, by omega, by omega, by omega, _, AV.le_refl _, _, Store.sub_refl _, ?_, o1, true, rfl⟩
    simp [askB, hd, bytesA, byteA_lit]
set_option maxRecDepth 8000 in
theorem state_calls (q : Nat) (e : Ng) (o1 o2 : Bool) (σ : Store) (h : σ q = some (endO e o1 o2)) : ACalls Tryz.prog 27 [ptrA q] σ fun v σ' => v = .lit (.int .i64 e.st) ∧ σ' = σ := by
  unfold endO at h
  refine ACalls.of_awp follows (st := st27) (plans := pl27) (n := 9) Tryz.func27 rfl (by kernel_rfl) (by kernel_rfl) (by kernel_rfl) ?_
  simp [ptrA, h]
set_option maxRecDepth 8000 in
theorem ready_calls (q : Nat) (e : Ng) (o1 o2 : Bool) (σ : Store) (h : σ q = some (endO e o1 o2)) : ACalls Tryz.prog 37 [ptrA q] σ fun v σ' => v = .lit (.bool (decide (e.st = 3))) ∧ σ' = σ := by
  have hst := state_calls q e o1 o2 σ h
  unfold ptrA at hst
  have hd : ((e.st : Int) == 3) = decide (e.st = 3) := by rw [Bool.eq_iff_iff]; simp; omega
  refine ACalls.of_awp follows (st := st37) (plans := pl37) (n := 6) Tryz.func37 rfl (by kernel_rfl) (by kernel_rfl) (by kernel_rfl) ?_
  simp [ptrA]
  refine callK.of hst ?_
  rintro v σ' ⟨rfl, rfl⟩
  simp [hd]
set_option maxRecDepth 8000 in
theorem functions_calls (q : Nat) (e : Ng) (o1 o2 : Bool) (hs : Small e) (σ : Store) (h : σ q = some (endO e o1 o2)) :
    ACalls Tryz.prog 65 [ptrA q] σ fun v σ' => v = .list true 1 (bytesA (if e.st = 3 then e.agreed else [])) ∧ σ' = σ := by
  have hr := ready_calls q e o1 o2 σ h
  have hcl := fun τ => clone_calls false e.agreed τ (by have := hs.agreed; omega)
  unfold ptrA at hr
  unfold endO at h
  refine ACalls.of_awp follows (st := st65) (plans := pl65) (n := 11) Tryz.func65 rfl (by kernel_rfl) (by kernel_rfl) (by kernel_rfl) ?_
  simp [ptrA]
  refine callK.of hr ?_
  rintro v σ' ⟨rfl, rfl⟩
  by_cases h3 : e.st = 3
  · simp [h3, h]
    refine callK.of (hcl _) ?_
    rintro v σ' ⟨rfl, rfl⟩
    simp
  · simp [h3, bytesA]
def Ng.reset (e : Ng) : Ng := { e with st := 0, name := [], agreed := [] }
set_option maxRecDepth 8000 in
theorem reset_calls (q : Nat) (e : Ng) (o1 o2 : Bool) (σ : Store) (h : σ q = some (endO e o1 o2)) : ACalls Tryz.prog 94 [ptrA q] σ fun v σ' => v = .tuple [] ∧ Up σ q e.reset σ' := by
  unfold endO at h
  refine ACalls.of_awp follows (st := st94) (plans := pl94) (n := 13) Tryz.func94 rfl (by kernel_rfl) (by kernel_rfl) (by kernel_rfl) ?_
  simp [ptrA, h]
  exact ⟨_, AV.le_refl _, _, Store.sub_refl _, rfl, o1, true, rfl⟩
set_option maxRecDepth 8000 in
theorem offer_calls (q : Nat) (e : Ng) (o1 o2 o : Bool) (l : List UInt8) (hl : l.length ≤ 1000000) (σ : Store) (h : σ q = some (endO e o1 o2)) :
    ACalls Tryz.prog 125 [ptrA q, .list o 1 (bytesA l)] σ fun v σ' => v = .list true 1 (bytesA (3 :: 7 :: l)) ∧ Up σ q e.offered σ' := by
  unfold endO at h
  refine ACalls.of_awp follows (st := st125) (plans := pl125) (n := 14) Tryz.func125 rfl (by kernel_rfl) (by kernel_rfl) (by kernel_rfl) ?_
  simp [ptrA, h]
  exact ⟨by omega, by omega, _, AV.le_refl _, _, Store.sub_refl _, rfl, o1, true, rfl⟩
/-- A config that may be an end's: of what it is made. -/
def okC (e : Ng) : Prop := nameS e.ty = true ∧ (e.dev = [] ∨ nameS e.dev = true) ∧ Rises e.fns
instance (e : Ng) : Decidable (okC e) := by unfold okC; infer_instance
def confA (e : Ng) (o : Bool) : AV := .agg [strS e.ty, strS e.dev, .list o 1 (bytesA e.fns)]
def NewR (e : Ng) (σ : Store) (v : AV) (σ' : Store) : Prop :=
  (¬ okC e ∧ (∃ k : Nat, k ≠ 0 ∧ v = .tuple [.lit (.pointer none), .lit (.int .i64 k)]) ∧ σ' = σ) ∨
  (okC e ∧ ∃ q, σ q = none ∧ v = .tuple [ptrA q, .lit (.int .i64 0)] ∧ Up σ q { ty := e.ty, dev := e.dev, fns := e.fns } σ')
set_option maxRecDepth 8000 in
theorem nnew_calls (e : Ng) (o : Bool) (hs : Small e) (σ : Store) : ACalls Tryz.prog 54 [confA e o] σ (NewR e σ) := by
  obtain ⟨ty, dev, fns, st, name, agreed⟩ := e
  have h1 := hs.ty
  have h2 := hs.dev
  have h3 := hs.fns
  simp only at h1 h2 h3
  have n1 := fun τ => name_calls ty (by omega) τ
  have n2 := fun τ => name_calls dev (by omega) τ
  have nr := fun τ => rises_calls false fns (by omega) τ
  have ncl := fun τ => clone_calls false fns τ (by omega)
  have hz2 := str_nil dev
  have hoc : okC ⟨ty, dev, fns, st, name, agreed⟩ ↔ nameS ty = true ∧ (dev = [] ∨ nameS dev = true) ∧ Rises fns := Iff.rfl
  unfold confA
  refine ACalls.of_awp follows (st := st54) (plans := pl54) (n := 32) Tryz.func54 rfl (by kernel_rfl) (by kernel_rfl) (by kernel_rfl) ?_
  simp
  intro p hp
  refine callK.of (n1 _) ?_
  rintro v σ' ⟨rfl, rfl⟩
  cases e1 : nameS ty
  · simp
    exact ⟨_, AV.le_refl _, _, sub_upd_self _ _ _ hp, .inl ⟨fun h => by rw [hoc, e1] at h; simp at h, ⟨4, by decide, rfl⟩, rfl⟩⟩
  · by_cases hd : dev = []
    · simp [hd]
      refine callK.of (nr _) ?_
      rintro v σ' ⟨rfl, rfl⟩
      by_cases hr : Rises fns
      · simp [hr]
        refine callK.of (ncl _) ?_
        rintro v σ' ⟨rfl, rfl⟩
        simp
        intro r hr0
        rw [ite_none] at hr0
        refine ⟨_, AV.le_refl _, _, ?_, .inr ⟨⟨e1, .inl rfl, hr⟩, r, hr0.2, rfl, false, true, rfl⟩⟩
        unfold endO
        (intro q; simp only [Store.upd, Store.del]; (repeat' split) <;> first | exact Or.inr rfl | exact Or.inl rfl | (exfalso; omega) | (left; subst_vars; assumption) | simp_all)
      · simp [hr]
        exact ⟨_, AV.le_refl _, _, sub_upd_self _ _ _ hp, .inl ⟨fun h => hr h.2.2, ⟨1, by decide, rfl⟩, rfl⟩⟩
    · simp [hd]
      refine callK.of (n2 _) ?_
      rintro v σ' ⟨rfl, rfl⟩
      cases e2 : nameS dev
      · simp [hd]
        exact ⟨_, AV.le_refl _, _, sub_upd_self _ _ _ hp, .inl ⟨fun h => by rw [hoc, e2] at h; simp [hd] at h, ⟨4, by decide, rfl⟩, rfl⟩⟩
      · simp [hd]
        refine callK.of (nr _) ?_
        rintro v σ' ⟨rfl, rfl⟩
        by_cases hr : Rises fns
        · simp [hr]
          refine callK.of (ncl _) ?_
          rintro v σ' ⟨rfl, rfl⟩
          simp
          intro r hr0
          rw [ite_none] at hr0
          refine ⟨_, AV.le_refl _, _, ?_, .inr ⟨⟨e1, .inr e2, hr⟩, r, hr0.2, rfl, false, true, rfl⟩⟩
          unfold endO
          (intro q; simp only [Store.upd, Store.del]; (repeat' split) <;> first | exact Or.inr rfl | exact Or.inl rfl | (exfalso; omega) | (left; subst_vars; assumption) | simp_all)
        · simp [hr]
          exact ⟨_, AV.le_refl _, _, sub_upd_self _ _ _ hp, .inl ⟨fun h => hr h.2.2, ⟨1, by decide, rfl⟩, rfl⟩⟩
end Go.Proofs.YteaidaolablegaaGreatDoor
/-
  Arguments opened.
-/
namespace Go.Proofs.YteaidaolablegaaGreatDoor
open Go Go.AL
theorem open_str : Opens Tryz.prog 9 (fun l : List UInt8 => [strS l]) (fun _ => True) :=
  (Opens.string Tryz.underlying9).by (fun s => s.data.toList) fun s _ => ⟨trivial, by cases s; simp⟩
theorem open_bytes : Opens Tryz.prog 22 (fun l : List UInt8 => [.list false 1 (bytesA l)]) (fun l => l.length ≤ maxLen) :=
  (Opens.slice Tryz.underlying22 (sz := 1) (by kernel_rfl) (by omega) (Opens.u8 Tryz.underlying5) byteA (fun _ => rfl) (fun _ => rfl)).by id fun _ h => ⟨h.1, rfl⟩
theorem open_conf : Opens Tryz.prog 24 (fun c : Ng => [strS c.ty, strS c.dev, .list false 1 (bytesA c.fns)]) (fun _ => True) :=
  (Opens.struct (total := 3) Tryz.underlying24 (by kernel_rfl)
    (.cons (k := 1) rfl (by kernel_rfl) (by omega) open_str (.cons (k := 1) rfl (by kernel_rfl) (by omega) open_str (.cons (k := 1) rfl (by kernel_rfl) (by omega) open_bytes .nil)))).by
    (fun x => ⟨x.1, x.2.1, x.2.2.1, 0, [], []⟩) fun _ _ => ⟨trivial, rfl⟩
theorem open_lists : Opens Tryz.prog 25 (fun l : List (List UInt8) => [.list false 1 (l.map fun p => .list false 1 (bytesA p))]) (fun l => l.length ≤ maxLen) :=
  (Opens.slice Tryz.underlying25 (sz := 1) (by kernel_rfl) (by omega) open_bytes (fun p => .list false 1 (bytesA p)) (fun _ => rfl) (fun _ => rfl)).by id fun _ h => ⟨h.1, rfl⟩
end Go.Proofs.YteaidaolablegaaGreatDoor
/-
  Are all of a list its own?
-/
namespace Go.Proofs.YteaidaolablegaaGreatDoor
open Go Go.AL

set_option maxRecDepth 8000 in
theorem own1_calls (q b : Nat) (e : Ng) (o1 o2 : Bool) (c : UInt8) (σ : Store) (h : σ q = some (endO e o1 o2)) (hb : σ b = some [ptrA q]) :
    ACalls Tryz.prog 133 [byteA c, ptrA b] σ fun v σ' => v = .lit (.bool (decide (c ∉ e.fns))) ∧ σ' = σ := by
  have hix := fun τ => indexByte_calls false e.fns c τ
  obtain ⟨h1, h2⟩ := ixByte_mem e.fns c
  unfold endO at h
  unfold ptrA at hb
  refine ACalls.of_awp follows (st := st133) (plans := pl133) (n := 12) Tryz.func133 rfl (by kernel_rfl) (by kernel_rfl) (by kernel_rfl) ?_
  simp [ptrA, h, hb]
  refine callK.of (hix _) ?_
  rintro v σ' ⟨rfl, rfl⟩
  by_cases hm : c ∈ e.fns
  · have h3 : ¬ Lib.indexByte e.fns c < 0 := fun h => h1.1 h hm
    simp [h3, hm]
  · have h3 := h2 hm
    simp [h3, hm]
def ownS (e : Ng) (l : List UInt8) : Bool := l.all fun c => decide (c ∈ e.fns)
set_option maxRecDepth 8000 in
theorem ixf_calls (q b : Nat) (e : Ng) (o1 o2 o : Bool) (l : List UInt8) (hl : l.length ≤ 1000000) (σ : Store) (h : σ q = some (endO e o1 o2)) (hb : σ b = some [ptrA q]) :
    ACalls Tryz.prog 136 [.list o 1 (bytesA l), .func (.func 133) [] [ptrA b]] σ fun v σ' => ∃ n : Int, v = .lit (.int .i64 n) ∧ (n < 0 ↔ ownS e l = true) ∧ σ' = σ := by
  have ho := fun c => own1_calls q b e o1 o2 c σ h hb
  refine ACalls.of_awp follows (st := st136) (plans := pl136) (n := 19) Tryz.func136 rfl (by kernel_rfl) (by kernel_rfl) (by kernel_rfl) ?_
  simp
  refine codeK.loop follows (st := st136) (plans := pl136) (X := Nat) (fun i => i ≤ l.length ∧ ∀ j (hj : j < l.length), j < i → l[j] ∈ e.fns)
    (fun i => [(0, .list false 1 (bytesA l)), (1, .func (.func 133) [] [ptrA b]), (6, .list false 1 (bytesA l)), (7, .lit (.int .i64 l.length)), (8, .lit (.int .i64 i))]) (fun _ => σ) (fun i => l.length - i) 0 (by kernel_rfl) (by simp) (by simp) (Store.sub_refl _) fun i hi => ?_
  obtain ⟨hi, hk⟩ := hi
  by_cases hlt : i < l.length
  · have hw : IntKind.i64.wrap ((i : Int) + 1) = ((i + 1 : Nat) : Int) := wrap_i64 (by omega) (by omega)
    have hlt' : (i : Int) < l.length := by omega
    obtain ⟨c, hc⟩ : ∃ c, l[i] = c := ⟨_, rfl⟩
    have hg : ∀ h : i < (bytesA l).length, (bytesA l)[i]'h = .lit (.int .u8 c.toNat) := fun h => by
      rw [List.getElem_eq_iff, bytesA_get, List.getElem?_eq_getElem hlt, hc]; rfl
    have hnx : c ∈ e.fns → ∀ j (hj : j < l.length), j < i + 1 → l[j] ∈ e.fns := fun hm j hj hji => by
      by_cases ej : j = i
      · subst ej; rw [hc]; exact hm
      · exact hk j hj (by omega)
    have hno : c ∉ e.fns → ¬ ownS e l = true := fun hm ha => hm (by
      have := List.all_eq_true.1 ha c (hc ▸ List.getElem_mem hlt)
      simpa using this)
    have hoc := ho c
    unfold ptrA at hoc
    rw [byteA_lit] at hoc
    simp [hlt, hlt', hg, ptrA]
    refine callK.of hoc ?_
    rintro v σ' ⟨rfl, rfl⟩
    by_cases hm : c ∈ e.fns
    · simp [hm]
      exact ⟨i + 1, ⟨by omega, hnx hm⟩, by omega, by rw [hw]; exact AV.le_refl _⟩
    · simp [hm]
      exact ⟨_, AV.le_refl _, _, Store.sub_refl _, i, rfl, ⟨fun h => by omega, fun h => absurd h (hno hm)⟩, rfl⟩
  · obtain rfl : i = l.length := by omega
    have ha : ownS e l = true := by
      unfold ownS
      rw [List.all_eq_true]
      intro x hx
      obtain ⟨j, hj, rfl⟩ := List.getElem_of_mem hx
      simpa using hk j hj hj
    simp
    exact ⟨_, AV.le_refl _, _, Store.sub_refl _, -1, rfl, ⟨fun _ => ha, fun _ => by omega⟩, rfl⟩
set_option maxRecDepth 8000 in
theorem own_calls (q : Nat) (e : Ng) (o1 o2 o : Bool) (l : List UInt8) (hl : l.length ≤ 1000000) (σ : Store) (h : σ q = some (endO e o1 o2)) :
    ACalls Tryz.prog 127 [ptrA q, .list o 1 (bytesA l)] σ fun v σ' => v = .lit (.bool (ownS e l)) ∧ σ' = σ := by
  have hix := fun b τ h hb => ixf_calls q b e o1 o2 false l hl τ h hb
  have hcf : ∀ b τ, τ q = some (endO e o1 o2) → τ b = some [ptrA q] → ACalls Tryz.prog 132 [.list false 1 (bytesA l), .func (.func 133) [] [ptrA b]] τ fun v σ' => v = .lit (.bool (!ownS e l)) ∧ σ' = τ := fun b τ h hb => by
    refine ACalls.of_awp follows (st := st132) (plans := pl132) (n := 9) Tryz.func132 rfl (by kernel_rfl) (by kernel_rfl) (by kernel_rfl) ?_
    simp
    refine callK.of (hix b τ h hb) ?_
    rintro v σ' ⟨n, rfl, hn, rfl⟩
    cases ho : ownS e l
    · have h0 : 0 ≤ n := by have := mt hn.1 (by simp [ho]); omega
      simp [h0]
    · have h0 : ¬ 0 ≤ n := by have := hn.2 ho; omega
      simp [h0]
  refine ACalls.of_awp follows (st := st127) (plans := pl127) (n := 9) Tryz.func127 rfl (by kernel_rfl) (by kernel_rfl) (by kernel_rfl) ?_
  simp [ptrA]
  intro b hb
  have hqb : ¬ q = b := by rintro rfl; rw [h] at hb; cases hb
  have := hcf b (σ.upd b [ptrA q]) (by simp [hqb, h]) (by simp)
  unfold ptrA at this
  refine callK.of this ?_
  rintro v σ' ⟨rfl, rfl⟩
  simp
  exact sub_upd_self _ _ _ hb
end Go.Proofs.YteaidaolablegaaGreatDoor
/-
  What an end hears.
-/
namespace Go.Proofs.YteaidaolablegaaGreatDoor
open Go Go.AL

/-- An answer, its error, the end. -/
def HearR (q : Nat) (σ : Store) (r : List UInt8 × Nat × Ng) (v : AV) (σ' : Store) : Prop := v = .tuple [.list true 1 (bytesA r.1), .lit (.int .i64 r.2.1)] ∧ Up σ q r.2.2 σ'
theorem hear_same {q : Nat} {σ : Store} {e : Ng} {o1 o2 : Bool} (h : σ q = some (endO e o1 o2)) (n : Nat) {v : AV} (hv : v.le (.tuple [.list true 1 [], .lit (.int .i64 n)])) : ∃ v', v.le v' ∧ ∃ x, Store.sub x σ ∧ HearR q σ ([], n, e) v' x :=
  ⟨_, hv, σ, Store.sub_refl _, rfl, o1, o2, (upd_back h).symm⟩
def devF (e : Ng) : List UInt8 → List UInt8 × Nat × Ng
  | [] => ([], 4, e)
  | a :: k => if k.length = 2 ∧ a = 6 ∧ k.head? = some 5 then (if e.st = 1 then ([], 0, { e with st := 4 }) else ([], 6, e))
    else if ¬ a = 4 ∨ (gotF k).2 = false then ([], 4, e) else if ¬ e.st = 1 then ([], 6, e) else (3 :: 7 :: e.fns, 0, { e with st := 2, name := (gotF k).1, agreed := [] })
theorem htake (l : List UInt8) : (bytesA l).take l.length = bytesA l := by rw [← bytesA_length l, List.take_length]
theorem u8_ne {a : UInt8} {n : Nat} (hn : n < 256) (h : ¬ a = UInt8.ofNat n) : ¬ (a.toNat : Int) = (n : Int) := fun e => h (by
  have : a.toNat = n := by omega
  rw [← this]; simp)
set_option maxRecDepth 8000 in
set_option maxHeartbeats 1000000 in
theorem dev_calls (q : Nat) (e : Ng) (o1 o2 o : Bool) (l : List UInt8) (hl : l.length ≤ 1000000) (hs : Small e) (σ : Store) (h : σ q = some (endO e o1 o2)) :
    ACalls Tryz.prog 112 [ptrA q, .list o 1 (bytesA l)] σ (HearR q σ (devF e l)) := by
  have hf := hs.fns
  have hsame := fun n v hv => hear_same (v := v) h n hv
  rcases l with _ | ⟨a, k⟩
  · refine ACalls.of_awp follows (st := st112) (plans := pl112) (n := 68) Tryz.func112 rfl (by kernel_rfl) (by kernel_rfl) (by kernel_rfl) ?_
    simp [bytesA]
    exact hsame 4 _ (AV.le_refl _)
  have hc : bytesA (a :: k) = .lit (.int .u8 a.toNat) :: bytesA k := rfl
  have htk := htake k
  have hkl : k.length ≤ 1000000 := by simp at hl; omega
  have hgo := fun τ => got_calls false k hkl τ
  have hoff := fun τ o1 o2 (e' : Ng) (he : e'.fns = e.fns) (ht : τ q = some (endO e' o1 o2)) => offer_calls q e' o1 o2 false e.fns (by omega) τ ht
  have h0 := h
  unfold endO at h
  by_cases hr : k.length = 2 ∧ a = 6 ∧ k.head? = some 5
  · obtain ⟨hr1, rfl, hr2⟩ := hr
    obtain ⟨x, y, rfl⟩ : ∃ x y, k = [x, y] := by
      rcases k with _ | ⟨x, _ | ⟨y, _ | ⟨z, t⟩⟩⟩ <;> simp at hr1
      exact ⟨x, y, rfl⟩
    obtain rfl : x = 5 := by simpa using hr2
    have hc2 : bytesA [6, 5, y] = [.lit (.int .u8 6), .lit (.int .u8 5), .lit (.int .u8 y.toNat)] := rfl
    refine ACalls.of_awp follows (st := st112) (plans := pl112) (n := 68) Tryz.func112 rfl (by kernel_rfl) (by kernel_rfl) (by kernel_rfl) ?_
    by_cases hst : e.st = 1
    · have hd : devF e [6, 5, y] = ([], 0, { e with st := 4 }) := by simp [devF, hst]
      rw [hd]
      simp [hc2, ptrA, h, hst]
      exact ⟨_, AV.le_refl _, _, Store.sub_refl _, rfl, o1, o2, rfl⟩
    · have hd : devF e [6, 5, y] = ([], 6, e) := by simp [devF, hst]
      have hst' : ¬ (e.st : Int) = 1 := by omega
      rw [hd]
      simp [hc2, ptrA, h, hst, hst']
      exact hsame 6 _ (AV.le_refl _)
  · have hdev : devF e (a :: k) = if ¬ a = 4 ∨ (gotF k).2 = false then ([], 4, e) else if ¬ e.st = 1 then ([], 6, e) else (3 :: 7 :: e.fns, 0, { e with st := 2, name := (gotF k).1, agreed := [] }) := if_neg hr
    have hcase : (¬ (k.length : Int) + 1 = 3) ∨ ((k.length : Int) + 1 = 3 ∧ ¬ (a.toNat : Int) = 6) ∨ (∃ y z, k = [y, z] ∧ (a.toNat : Int) = 6 ∧ ¬ (y.toNat : Int) = 5) := by
      by_cases h2 : k.length = 2
      · by_cases h6 : a = 6
        · right; right
          obtain ⟨x, y, rfl⟩ : ∃ x y, k = [x, y] := by
            rcases k with _ | ⟨x, _ | ⟨y, _ | ⟨z, t⟩⟩⟩ <;> simp at h2
            exact ⟨x, y, rfl⟩
          refine ⟨x, y, rfl, by rw [h6]; rfl, u8_ne (n := 5) (by omega) fun h5 => hr ⟨h2, h6, by rw [h5]; rfl⟩⟩
        · exact .inr (.inl ⟨by omega, u8_ne (n := 6) (by omega) h6⟩)
      · exact .inl (by omega)
    rcases hcase with h3 | ⟨h3, h6⟩ | ⟨y, z, rfl, h6, h5⟩
    case inr.inr =>
      have h4 : ¬ a = 4 := fun h4 => by rw [h4] at h6; cases h6
      have h4' : ¬ (a.toNat : Int) = 4 := by omega
      rw [hdev, if_pos (.inl h4)]
      have hc2 : bytesA [a, y, z] = [.lit (.int .u8 a.toNat), .lit (.int .u8 y.toNat), .lit (.int .u8 z.toNat)] := rfl
      refine ACalls.of_awp follows (st := st112) (plans := pl112) (n := 68) Tryz.func112 rfl (by kernel_rfl) (by kernel_rfl) (by kernel_rfl) ?_
      simp [hc2, h6, h5, h4']
      exact hsame 4 _ (AV.le_refl _)
    all_goals
      have hpos : ¬ (k.length : Int) + 1 < 1 := by omega
      refine ACalls.of_awp follows (st := st112) (plans := pl112) (n := 68) Tryz.func112 rfl (by kernel_rfl) (by kernel_rfl) (by kernel_rfl) ?_
      by_cases h4 : a = 4
      case neg =>
        have h4' : ¬ (a.toNat : Int) = 4 := u8_ne (n := 4) (by omega) h4
        rw [hdev, if_pos (.inl h4)]
        first | simp [hc, h3, h6, h4', hpos] | simp [hc, h3, h4', hpos]
        exact hsame 4 _ (AV.le_refl _)
      case pos =>
        have h4' : (a.toNat : Int) = 4 := by rw [h4]; rfl
        first | simp [hc, h3, h6, h4', hpos, htk] | simp [hc, h3, h4', hpos, htk]
        refine callK.of (hgo _) ?_
        rintro v σ' ⟨rfl, rfl⟩
        cases hg : (gotF k).2
        · have hd : devF e (a :: k) = ([], 4, e) := by rw [hdev, hg]; simp
          rw [hd]
          simp
          exact hsame 4 _ (AV.le_refl _)
        · by_cases hst : e.st = 1
          · have hd : devF e (a :: k) = (3 :: 7 :: e.fns, 0, { e with st := 2, name := (gotF k).1, agreed := [] }) := by rw [hdev, hg]; simp [h4, hst]
            rw [hd]
            simp [ptrA, h, hst]
            have := hoff (σ'.upd q (endO { e with st := 1, name := (gotF k).1 } o1 o2)) o1 o2 { e with st := 1, name := (gotF k).1 } rfl (by simp)
            unfold endO ptrA at this
            refine callK.of this ?_
            rintro v σ2 ⟨rfl, p1, p2, rfl⟩
            simp
            refine ⟨_, AV.le_refl _, _, Store.sub_refl _, rfl, p1, p2, rfl⟩
          · have hd : devF e (a :: k) = ([], 6, e) := by rw [hdev, hg]; simp [h4, hst]
            rw [hd]
            have hst' : ¬ (e.st : Int) = 1 := by omega
            simp [ptrA, h, hst']
            exact hsame 6 _ (AV.le_refl _)
end Go.Proofs.YteaidaolablegaaGreatDoor
/-
  What an end hears of functions.
-/
namespace Go.Proofs.YteaidaolablegaaGreatDoor
open Go Go.AL

def fnF (e : Ng) : List UInt8 → List UInt8 × Nat × Ng
  | [] => ([], 4, e)
  | a :: k => if (¬ a = 4 ∧ ¬ a = 7) ∨ ¬ k.Nodup then ([], 4, e) else if ¬ e.st = 2 ∧ (a = 4 ∨ ¬ e.st = 3) then ([], 6, e)
    else if ownS e k = true then (if a = 4 then [] else 3 :: 4 :: k, 0, { e with st := 3, agreed := sortL k })
    else if a = 4 then ([], 0, { e with st := 4 }) else (3 :: 7 :: k.filter (fun c => decide (c ∈ e.fns)), 0, e.offered)
set_option maxRecDepth 8000 in
set_option maxHeartbeats 1000000 in
theorem fn_calls (q : Nat) (e : Ng) (o1 o2 o : Bool) (l : List UInt8) (hl : l.length ≤ 1000000) (σ : Store) (h : σ q = some (endO e o1 o2))
    (hag : ∀ τ p1 p2, (e.st = 2 ∨ e.st = 3) → ownS e l.tail = true → l.tail.Nodup → τ q = some (endO e p1 p2) → ACalls Tryz.prog 128 [ptrA q, .list false 1 (bytesA l.tail)] τ fun v σ' => v = .tuple [] ∧ Up τ q { e with st := 3, agreed := sortL l.tail } σ') :
    ACalls Tryz.prog 113 [ptrA q, .list o 1 (bytesA l)] σ (HearR q σ (fnF e l)) := by
  have hsame := fun n v hv => hear_same (v := v) h n hv
  rcases l with _ | ⟨a, k⟩
  · refine ACalls.of_awp follows (st := st113) (plans := pl113) (n := 101) Tryz.func113 rfl (by kernel_rfl) (by kernel_rfl) (by kernel_rfl) ?_
    simp [bytesA]
    exact hsame 4 _ (AV.le_refl _)
  have hc : bytesA (a :: k) = .lit (.int .u8 a.toNat) :: bytesA k := rfl
  have htk := htake k
  have hkl : k.length ≤ 1000000 := by simp at hl; omega
  have hon := fun τ => once_calls false k hkl τ
  have how := fun τ p1 p2 (ht : τ q = some (endO e p1 p2)) => own_calls q e p1 p2 false k hkl τ ht
  have hpos : ¬ (k.length : Int) + 1 < 1 := by omega
  simp only [List.tail_cons] at hag
  have h0 := h
  unfold endO at h
  by_cases ha : ¬ a = 4 ∧ ¬ a = 7
  · have hd : fnF e (a :: k) = ([], 4, e) := if_pos (.inl ha)
    have h4 : ¬ (a.toNat : Int) = 4 := u8_ne (n := 4) (by omega) ha.1
    have h7 : ¬ (a.toNat : Int) = 7 := u8_ne (n := 7) (by omega) ha.2
    rw [hd]
    refine ACalls.of_awp follows (st := st113) (plans := pl113) (n := 101) Tryz.func113 rfl (by kernel_rfl) (by kernel_rfl) (by kernel_rfl) ?_
    simp [hc, hpos, h4, h7]
    exact hsame 4 _ (AV.le_refl _)
  by_cases hn : k.Nodup
  case neg =>
    have hd : fnF e (a :: k) = ([], 4, e) := if_pos (.inr hn)
    have h47 : (a.toNat : Int) = 4 ∨ (¬ (a.toNat : Int) = 4 ∧ (a.toNat : Int) = 7) := by
      by_cases e4 : a = 4
      · left; rw [e4]; rfl
      · right; exact ⟨u8_ne (n := 4) (by omega) e4, by rw [show a = 7 from Classical.byContradiction fun e7 => ha ⟨e4, e7⟩]; rfl⟩
    rw [hd]
    rcases h47 with h4 | ⟨h4, h7⟩
    all_goals
      refine ACalls.of_awp follows (st := st113) (plans := pl113) (n := 101) Tryz.func113 rfl (by kernel_rfl) (by kernel_rfl) (by kernel_rfl) ?_
      first | simp [hc, hpos, h4, h7, htk] | simp [hc, hpos, h4, htk]
      refine callK.of (hon _) ?_
      rintro v σ' ⟨rfl, rfl⟩
      simp [hn]
      exact hsame 4 _ (AV.le_refl _)
  have hfn : fnF e (a :: k) = if ¬ e.st = 2 ∧ (a = 4 ∨ ¬ e.st = 3) then ([], 6, e)
    else if ownS e k = true then (if a = 4 then [] else 3 :: 4 :: k, 0, { e with st := 3, agreed := sortL k })
    else if a = 4 then ([], 0, { e with st := 4 }) else (3 :: 7 :: k.filter (fun c => decide (c ∈ e.fns)), 0, e.offered) := if_neg (by simp [hn, ha])
  by_cases h4 : a = 4
  · subst h4
    have hc4 : bytesA (4 :: k) = .lit (.int .u8 4) :: bytesA k := rfl
    refine ACalls.of_awp follows (st := st113) (plans := pl113) (n := 101) Tryz.func113 rfl (by kernel_rfl) (by kernel_rfl) (by kernel_rfl) ?_
    by_cases h2 : e.st = 2
    · simp [hc4, hpos, htk, ptrA, h, h2]
      refine callK.of (hon _) ?_
      rintro v σ' ⟨rfl, rfl⟩
      simp [hn, h, h2, htk, hc4]
      have := how σ' o1 o2 h0
      unfold ptrA at this
      refine callK.of this ?_
      rintro v σ' ⟨rfl, rfl⟩
      cases ho : ownS e k
      · have hd : fnF e (4 :: k) = ([], 0, { e with st := 4 }) := by rw [hfn]; simp [h2, ho]
        rw [hd]
        simp [h]
        exact ⟨_, AV.le_refl _, _, Store.sub_refl _, rfl, o1, o2, rfl⟩
      · have hd : fnF e (4 :: k) = ([], 0, { e with st := 3, agreed := sortL k }) := by rw [hfn]; simp [h2, ho]
        rw [hd]
        simp
        have := hag σ' o1 o2 (.inl h2) ho hn h0
        unfold ptrA at this
        refine callK.of this ?_
        rintro v σ2 ⟨rfl, p1, p2, rfl⟩
        simp
        exact ⟨_, AV.le_refl _, _, Store.sub_refl _, rfl, p1, p2, rfl⟩
    · have hd : fnF e (4 :: k) = ([], 6, e) := by rw [hfn]; simp [h2]
      have h2' : ¬ (e.st : Int) = 2 := by omega
      rw [hd]
      simp [hc4, hpos, htk]
      refine callK.of (hon _) ?_
      rintro v σ' ⟨rfl, rfl⟩
      simp [hn, h, h2', htk, hc4, ptrA]
      exact hsame 6 _ (AV.le_refl _)
  · have h7 : a = 7 := Classical.byContradiction fun e7 => ha ⟨h4, e7⟩
    subst h7
    have hc7 : bytesA (7 :: k) = .lit (.int .u8 7) :: bytesA k := rfl
    refine ACalls.of_awp follows (st := st113) (plans := pl113) (n := 101) Tryz.func113 rfl (by kernel_rfl) (by kernel_rfl) (by kernel_rfl) ?_
    have hcase : e.st = 2 ∨ (¬ e.st = 2 ∧ e.st = 3) ∨ (¬ e.st = 2 ∧ ¬ e.st = 3) := by omega
    rcases hcase with h2 | ⟨h2, h3⟩ | ⟨h2, h3⟩
    case inr.inr =>
      have hd : fnF e (7 :: k) = ([], 6, e) := by rw [hfn]; simp [h2, h3]
      have h2' : ¬ (e.st : Int) = 2 := by omega
      have h3' : ¬ (e.st : Int) = 3 := by omega
      rw [hd]
      simp [hc7, hpos, htk]
      refine callK.of (hon _) ?_
      rintro v σ' ⟨rfl, rfl⟩
      simp [hn, h, h2', h3', htk, hc7, ptrA]
      exact hsame 6 _ (AV.le_refl _)
    all_goals
      have h23 : e.st = 2 ∨ e.st = 3 := by omega
      simp [hc7, hpos, htk]
      refine callK.of (hon _) ?_
      rintro v σ' ⟨rfl, rfl⟩
      first | simp [hn, h, h2, h3, htk, hc7, ptrA] | simp [hn, h, h2, htk, hc7, ptrA]
      have := how σ' o1 o2 h0
      unfold ptrA at this
      refine callK.of this ?_
      rintro v σ' ⟨rfl, rfl⟩
      cases ho : ownS e k
      case true =>
        have hd : fnF e (7 :: k) = (3 :: 4 :: k, 0, { e with st := 3, agreed := sortL k }) := by rw [hfn]; simp [ho]; omega
        rw [hd]
        simp
        have := hag σ' o1 o2 h23 ho hn h0
        unfold ptrA at this
        refine callK.of this ?_
        rintro v σ2 ⟨rfl, p1, p2, rfl⟩
        simp
        exact ⟨by omega, by omega, _, AV.le_refl _, _, Store.sub_refl _, rfl, p1, p2, rfl⟩
      case false =>
        have hd : fnF e (7 :: k) = (3 :: 7 :: k.filter (fun c => decide (c ∈ e.fns)), 0, e.offered) := by rw [hfn]; simp [ho]; omega
        rw [hd]
        simp
        refine codeK.loop follows (st := st113) (plans := pl113) (X := Nat) (fun i => i ≤ k.length)
          (fun i => [(0, ptrA q), (7, .list true 1 (bytesA ((k.take i).filter (fun c => decide (c ∈ e.fns))))), (83, .list false 1 (bytesA k)), (84, .lit (.int .i64 k.length)), (85, .lit (.int .i64 i))]) (fun _ => σ') (fun i => k.length - i) 0 (by kernel_rfl) (by simp) (by simp [ptrA, bytesA]) (Store.sub_refl _) fun i hi => ?_
        by_cases hlt : i < k.length
        · have hw : IntKind.i64.wrap ((i : Int) + 1) = ((i + 1 : Nat) : Int) := wrap_i64 (by omega) (by omega)
          have hlt' : (i : Int) < k.length := by omega
          obtain ⟨c, hc⟩ : ∃ c, k[i] = c := ⟨_, rfl⟩
          have hg : ∀ h : i < (bytesA k).length, (bytesA k)[i]'h = .lit (.int .u8 c.toNat) := fun h => by
            rw [List.getElem_eq_iff, bytesA_get, List.getElem?_eq_getElem hlt, hc]; rfl
          have hts := List.take_succ_eq_append_getElem hlt
          rw [hc] at hts
          have hfl : ((k.take i).filter (fun c => decide (c ∈ e.fns))).length ≤ i := Nat.le_trans (List.length_filter_le _ _) (by simp; omega)
          have hoc := own_calls q e o1 o2 true [c] (by simp) σ' h0
          have hoc1 : ownS e [c] = decide (c ∈ e.fns) := by simp [ownS]
          have hb1 : bytesA [c] = [.lit (.int .u8 c.toNat)] := rfl
          rw [hoc1, hb1] at hoc
          unfold ptrA at hoc
          simp [hlt, hlt', hg, ptrA]
          refine callK.of hoc ?_
          rintro v σ2 ⟨rfl, rfl⟩
          by_cases hm : c ∈ e.fns
          · have hf : (k.take (i + 1)).filter (fun c => decide (c ∈ e.fns)) = (k.take i).filter (fun c => decide (c ∈ e.fns)) ++ [c] := by rw [hts, List.filter_append]; simp [hm]
            simp [hm]
            refine ⟨by omega, by omega, i + 1, by omega, by omega, ⟨?_, ?_⟩⟩
            · rw [hf, bytesA_append]; exact AV.le_refl _
            · rw [hw]; exact AV.le_refl _
          · have hf : (k.take (i + 1)).filter (fun c => decide (c ∈ e.fns)) = (k.take i).filter (fun c => decide (c ∈ e.fns)) := by rw [hts, List.filter_append]; simp [hm]
            simp [hm]
            refine ⟨i + 1, by omega, by omega, ⟨?_, ?_⟩⟩
            · rw [hf]; exact AV.le_refl _
            · rw [hw]; exact AV.le_refl _
        · obtain rfl : i = k.length := by omega
          rw [List.take_length]
          have hfl := List.length_filter_le (fun c => decide (c ∈ e.fns)) k
          have := offer_calls q e o1 o2 false (k.filter (fun c => decide (c ∈ e.fns))) (by omega) σ' h0
          unfold ptrA at this
          simp [ptrA]
          refine callK.of this ?_
          rintro v σ2 ⟨rfl, p1, p2, rfl⟩
          simp
          exact ⟨_, AV.le_refl _, _, Store.sub_refl _, rfl, p1, p2, rfl⟩
end Go.Proofs.YteaidaolablegaaGreatDoor
/-
  What an end hears; the program wakes.
-/
namespace Go.Proofs.YteaidaolablegaaGreatDoor
open Go Go.AL

set_option maxRecDepth 8000 in
theorem bequal_calls (o o' : Bool) (l k : List UInt8) (σ : Store) :
    ACalls Tryz.prog 110 [.list o 1 (bytesA l), .list o' 1 (bytesA k)] σ fun v σ' => v = .lit (.bool (l == k)) ∧ σ' = σ := by
  refine ACalls.of_awp follows (st := st110) (plans := pl110) (n := 10) Tryz.func110 rfl (by kernel_rfl) (by kernel_rfl) (by kernel_rfl) ?_
  simp [bytesOf_bytesA]
def hearF (e : Ng) : List UInt8 → List UInt8 × Nat × Ng
  | [] => ([], 4, e)
  | a :: k => if a = 8 ∧ k = [2] then (if e.st = 4 then ([], 6, e) else (askB e, 0, e.asked)) else if a = 2 then devF e k else if a = 3 then fnF e k else ([], 4, e)
set_option maxRecDepth 8000 in
set_option maxHeartbeats 1000000 in
theorem hear_calls (q : Nat) (e : Ng) (o1 o2 o : Bool) (l : List UInt8) (hl : l.length ≤ 1000000) (hs : Small e) (σ : Store) (h : σ q = some (endO e o1 o2))
    (hag : ∀ k τ p1 p2, l.tail.tail = k → (e.st = 2 ∨ e.st = 3) → ownS e k = true → k.Nodup → τ q = some (endO e p1 p2) → ACalls Tryz.prog 128 [ptrA q, .list false 1 (bytesA k)] τ fun v σ' => v = .tuple [] ∧ Up τ q { e with st := 3, agreed := sortL k } σ') :
    ACalls Tryz.prog 95 [ptrA q, .lit (.int .u8 40), .list o 1 (bytesA l)] σ (HearR q σ (hearF e l)) := by
  have hsame := fun n v hv => hear_same (v := v) h n hv
  have heq := fun τ => bequal_calls false true l [8, 2] τ
  have hb82 : bytesA [8, 2] = [.lit (.int .u8 8), .lit (.int .u8 2)] := rfl
  rw [hb82] at heq
  have h0 := h
  unfold endO at h
  refine ACalls.of_awp follows (st := st95) (plans := pl95) (n := 76) Tryz.func95 rfl (by kernel_rfl) (by kernel_rfl) (by kernel_rfl) ?_
  simp [ptrA]
  refine callK.of (heq _) ?_
  rintro v σ' ⟨rfl, rfl⟩
  by_cases h82 : l = [8, 2]
  · subst h82
    by_cases h4 : e.st = 4
    · have hd : hearF e [8, 2] = ([], 6, e) := by simp [hearF, h4]
      rw [hd]
      simp [h, h4]
      exact hsame 6 _ (AV.le_refl _)
    · have hd : hearF e [8, 2] = (askB e, 0, e.asked) := by simp [hearF, h4]
      have h4' : ¬ (e.st : Int) = 4 := by omega
      rw [hd]
      simp [h, h4']
      have := asks_calls q e o1 o2 hs σ' h0
      unfold ptrA at this
      refine callK.of this ?_
      rintro v σ2 ⟨rfl, p1, p2, rfl⟩
      simp
      exact ⟨_, AV.le_refl _, _, Store.sub_refl _, rfl, p1, p2, rfl⟩
  · have hne : (l == [8, 2]) = false := by simpa using h82
    rw [hne]
    rcases l with _ | ⟨a, k⟩
    · simp [bytesA]
      exact hsame 4 _ (AV.le_refl _)
    have hc : bytesA (a :: k) = .lit (.int .u8 a.toNat) :: bytesA k := rfl
    have htk := htake k
    have hkl : k.length ≤ 1000000 := by simp at hl; omega
    have hh : hearF e (a :: k) = if a = 2 then devF e k else if a = 3 then fnF e k else ([], 4, e) := if_neg fun ⟨e1, e2⟩ => h82 (by rw [e1, e2])
    have hpos : (0 : Int) < (k.length : Int) + 1 := by omega
    by_cases h2 : a = 2
    · have h2' : (a.toNat : Int) = 2 := by rw [h2]; rfl
      rw [hh, if_pos h2]
      simp [hc, hpos, h2', htk]
      have := dev_calls q e o1 o2 false k hkl hs σ' h0
      unfold ptrA at this
      refine callK.of this ?_
      rintro v σ2 ⟨rfl, p1, p2, rfl⟩
      simp
      exact ⟨_, AV.le_refl _, _, Store.sub_refl _, rfl, p1, p2, rfl⟩
    · have h2' : ¬ (a.toNat : Int) = 2 := u8_ne (n := 2) (by omega) h2
      by_cases h3 : a = 3
      · have h3' : (a.toNat : Int) = 3 := by rw [h3]; rfl
        rw [hh, if_neg h2, if_pos h3]
        simp [hc, hpos, h3', htk]
        have := fn_calls q e o1 o2 false k hkl σ' h0 (hag k.tail · · · rfl)
        unfold ptrA at this
        refine callK.of this ?_
        rintro v σ2 ⟨rfl, p1, p2, rfl⟩
        simp
        exact ⟨_, AV.le_refl _, _, Store.sub_refl _, rfl, p1, p2, rfl⟩
      · have h3' : ¬ (a.toNat : Int) = 3 := u8_ne (n := 3) (by omega) h3
        rw [hh, if_neg h2, if_neg h3]
        simp [hc, hpos, h2', h3']
        exact hsame 4 _ (AV.le_refl _)
end Go.Proofs.YteaidaolablegaaGreatDoor
/-
  Arguments that are cut; the program wakes.
-/
namespace Go.Proofs.YteaidaolablegaaGreatDoor
open Go Go.AL

theorem str_cut (l : List UInt8) (n : Nat) : (ByteArray.mk l.toArray).extract 0 n = ⟨(l.take n).toArray⟩ := by
  apply ByteArray.ext
  simp [ByteArray.data_extract]
set_option maxRecDepth 8000 in
theorem ctext_calls (l : List UInt8) (n : Nat) (σ : Store) (hn : n ≤ 100000000) : ACalls Tryz.prog 53 [strS l, .lit (.int .i64 n)] σ fun v σ' => v = strS (l.take n) ∧ σ' = σ := by
  have hz := str_size l
  have hx := str_cut l n
  refine ACalls.of_awp follows (st := st53) (plans := pl53) (n := 13) Tryz.func53 rfl (by kernel_rfl) (by kernel_rfl) (by kernel_rfl) ?_
  by_cases h : n < l.length
  · have h2 : n ≤ l.length := by omega
    simp [hz, h, h2, hx]
  · simp [hz, h, List.take_of_length_le (show l.length ≤ n by omega)]
def Ng.few (e : Ng) : Ng := { ty := e.ty.take 45, dev := e.dev.take 45, fns := e.fns.take 8 }
set_option maxRecDepth 8000 in
theorem few_small (e : Ng) : Small e.few := ⟨by simp [Ng.few]; omega, by simp [Ng.few]; omega, by simp [Ng.few]; omega, by simp [Ng.few]⟩
set_option maxRecDepth 8000 in
theorem few_calls (e : Ng) (o : Bool) (σ : Store) : ACalls Tryz.prog 30 [confA e o] σ fun v σ' => v = confA e.few false ∧ σ' = σ := by
  have h1 := fun τ => ctext_calls e.ty 45 τ (by omega)
  have h2 := fun τ => ctext_calls e.dev 45 τ (by omega)
  have h3 := fun τ => cut_calls false e.fns 8 τ (by omega)
  unfold confA
  refine ACalls.of_awp follows (st := st30) (plans := pl30) (n := 13) Tryz.func30 rfl (by kernel_rfl) (by kernel_rfl) (by kernel_rfl) ?_
  simp +contextual [ite_free]
  intro p hp q n1 n2 hq
  have hfin : ∀ Y : List AV, Store.sub σ ((σ.upd p [strS e.ty, strS e.dev, .list o 1 (bytesA e.fns)]).upd q Y) := fun Y => by (intro q; simp only [Store.upd, Store.del]; (repeat' split) <;> first | exact Or.inr rfl | exact Or.inl rfl | (exfalso; omega) | (left; subst_vars; assumption) | simp_all)
  repeat' first
    | with_reducible apply And.intro
    | (refine callK.of (h1 _) ?_; rintro v σ' ⟨rfl, rfl⟩; simp [n1, n2])
    | (refine callK.of (h2 _) ?_; rintro v σ' ⟨rfl, rfl⟩; simp [n1, n2])
    | (refine callK.of (h3 _) ?_; rintro v σ' ⟨rfl, rfl⟩; simp [n1, n2])
  all_goals first | exact AV.le_refl _ | exact hfin _
end Go.Proofs.YteaidaolablegaaGreatDoor
