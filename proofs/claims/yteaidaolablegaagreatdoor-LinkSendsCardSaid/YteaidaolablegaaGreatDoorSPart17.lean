/-
  The link: an event of the line.
-/
import Derived.Test.YteaidaolablegaaGreatDoorSPart16
set_option linter.unusedSimpArgs false
set_option linter.unusedVariables false
namespace Go.Proofs.YteaidaolablegaaGreatDoor
open Go Go.AL

theorem sub_out (L : Lk) (ev : Ev) (hs : Small L.e) (hd : ev.data.length ≤ 9000) : (L.sub ev).out.length ≤ L.out.length + 24020 := by
  have hg := hearG_len L.e hs ev.opt ev.data hd
  have he := esc_length (hearG L.e ev.opt ev.data).1
  have hb : (subBytes ev.opt (hearG L.e ev.opt ev.data).1).length ≤ 24005 := by simp [subBytes]; omega
  have h1 : (L.sub1 ev).out.length ≤ L.out.length + 24005 := by
    unfold Lk.sub1
    dsimp only
    split
    · simp; omega
    · omega
  have ha := oask_len L.o 40
  unfold Lk.sub
  split
  · omega
  split
  · rw [say_out]
    show (L.sub1 ev).out.length + _ ≤ _
    omega
  · omega
theorem hear_out (L : Lk) (v o : UInt8) : (L.hear v o).out.length ≤ L.out.length + 3 := by
  have hh := ohear_len L.o v o
  unfold Lk.hear
  split
  · rw [say_out]; show L.out.length + _ ≤ _; omega
  · show (Lk.out (Lk.say _ _)).length ≤ _
    rw [say_out]; show L.out.length + _ ≤ _; omega
set_option maxRecDepth 8000 in
set_option maxHeartbeats 2000000 in
theorem ltake_calls (k : Bk) (hk : k.Ok) (L : Lk) (a b : Bool) (ev : Ev) (hl : L.out.length ≤ 100000000000) (hd : ev.data.length ≤ 9000) (hmp : ev.kind = 0 → L.mp.length + ev.data.length ≤ 8192) (hmp8 : L.mp.length ≤ 8192) (hs : Small L.e) (hok : EOk L.e) (σ : Store) (h : LkAt k L a b σ) :
    ACalls Tryz.prog 62 [ptrA k.l, evA ev] σ fun v σ' => v = .tuple [leA (L.take ev).1, .lit (.bool (L.take ev).2.1)] ∧ LkTo k (L.take ev).2.2 σ σ' := by
  have hl0 := h.l
  unfold lkO at hl0
  have hz : leA LE.none = .agg [.lit (.int .i64 0), .list false 1 [], .lit (.int .u8 0), .lit (.int .u8 0), .lit (.int .u8 0), .lit (.int .u16 0), .lit (.bool false)] := rfl
  have hse := fun L' c d τ (ht : LkAt k L' c d τ) => settle_calls k hk L' c d τ ht
  refine ACalls.of_awp follows (st := st62) (plans := pl62) (n := 57) Tryz.func62 rfl (by kernel_rfl) (by kernel_rfl) (by kernel_rfl) ?_
  simp [evA, byteA]
  intro p hp
  obtain ⟨n1, n2, n3, n4, n5⟩ := h.ne hp
  have n1' : ¬ p = k.l := fun e => n1 e.symm
  have hev : evA ev = .agg [.lit (.int .i64 ev.kind), .lit (.int .u8 ev.verb.toNat), .lit (.int .u8 ev.opt.toNat), .list false 1 (bytesA ev.data), .lit (.bool ev.long), .lit (.bool ev.broken)] := rfl
  generalize hX : [AV.lit (.int .i64 ev.kind), .lit (.int .u8 ev.verb.toNat), .lit (.int .u8 ev.opt.toNat), .list false 1 (bytesA ev.data), .lit (.bool ev.long), .lit (.bool ev.broken)] = X at *
  have hX0 : X[0]? = some (AV.lit (.int .i64 ev.kind)) := by rw [← hX]; rfl
  have hX1 : X[1]? = some (AV.lit (.int .u8 ev.verb.toNat)) := by rw [← hX]; rfl
  have hX3 : X[3]? = some (AV.list false 1 (bytesA ev.data)) := by rw [← hX]; rfl
  have hXl : 6 ≤ X.length := by rw [← hX]; exact Nat.le_refl 6
  have hXt : X.take 6 = X := by rw [← hX]; rfl
  have hmk : mkAV true X = some (.agg X) := by rw [← hX]; rfl
  have hXs : (AV.agg X).share = .agg X := by rw [← hX]; rfl
  have hp1 := h.other hp X
  intro q hq
  rw [ite_none] at hq
  obtain ⟨hqp, hq⟩ := hq
  have hpq : ¬ p = q := fun e => hqp e.symm
  obtain ⟨m1, m2, m3, m4, m5⟩ := h.ne hq
  have m1' : ¬ q = k.l := fun e => m1 e.symm
  have hZ : [AV.lit (.int .i64 0), .list true 1 [], .lit (.int .u8 0), .lit (.int .u8 0), .lit (.int .u8 0), .lit (.int .u16 0), .lit (.bool false)].length = 7 := rfl
  generalize hZd : [AV.lit (.int .i64 0), .list true 1 [], .lit (.int .u8 0), .lit (.int .u8 0), .lit (.int .u8 0), .lit (.int .u16 0), .lit (.bool false)] = Z at *
  have hZl : 7 ≤ Z.length := by omega
  have hp2 := hp1.other (p := q) (by rw [supd_apply, if_neg hqp]; exact hq) Z
  have hsub : ∀ Y, Store.sub σ (((σ.upd p X).upd q Z).upd q Y) := fun Y => by (intro q; simp only [Store.upd, Store.del]; (repeat' split) <;> first | exact Or.inr rfl | exact Or.inl rfl | (exfalso; omega) | (left; subst_vars; assumption) | simp_all)
  have hsub0 : Store.sub σ ((σ.upd p X).upd q Z) := by (intro q; simp only [Store.upd, Store.del]; (repeat' split) <;> first | exact Or.inr rfl | exact Or.inl rfl | (exfalso; omega) | (left; subst_vars; assumption) | simp_all)
  -- the end: nothing is told
  have hend : ∀ (V : AV) L' c d Y, ∃ v', V.le v' ∧ ∃ x, x.sub ((putL k L' c d ((σ.upd p X).upd q Z)).upd q Y) ∧ v' = V ∧ LkTo k L' σ x := fun V L' c d Y =>
    ⟨_, AV.le_refl _, putL k L' c d σ, by
      refine Store.sub2 (fun x => ?_) (fun g => by simp [putL])
      rw [supd_apply]
      by_cases hx : x = q
      · left
        rw [hx, putL_apply, if_neg fun e => m5 e.symm, if_neg fun e => m4 e.symm, if_neg fun e => m3 e.symm, if_neg fun e => m2 e.symm, if_neg m1', hq]
      · rw [if_neg hx]
        exact putL_sub hsub0 x, rfl, c, d, rfl⟩
  have hqat : ∀ L' c d, (putL k L' c d ((σ.upd p X).upd q Z)) q = some Z := fun L' c d => by
    rw [putL_apply, if_neg fun e => m5 e.symm, if_neg fun e => m4 e.symm, if_neg fun e => m3 e.symm, if_neg fun e => m2 e.symm, if_neg m1', supd_apply, if_pos rfl]
  by_cases k2 : ev.kind = 2
  · have ht : L.take ev = (.none, false, (L.hear ev.verb ev.opt).settle) := by unfold Lk.take; rw [if_pos k2]
    have hlh := lhear_calls k hk L a b ev (by omega) _ hp2
    rw [hev] at hlh
    rw [ht]
    simp [hpq, hqp, hX0, k2, hXl, hXt, hmk, hXs]
    refine callK.of hlh ?_
    rintro v σ1 ⟨rfl, c, d, rfl⟩
    simp
    refine callK.of (hse _ _ _ _ (putL_at hk _ c d _)) ?_
    rintro v σ2 ⟨rfl, c2, d2, rfl⟩
    rw [putL_putL]
    subst hZd
    simp [hqat]
    exact hend _ _ _ _ _
  by_cases k3 : ev.kind = 3
  · have ht : L.take ev = (.none, false, (L.sub ev).settle) := by unfold Lk.take; rw [if_neg k2, if_pos k3]
    have hlh := lsub_calls k hk L a b ev hl hd hs hok _ hp2
    rw [hev] at hlh
    rw [ht]
    simp [hpq, hqp, hX0, k2, k3, hXl, hXt, hmk, hXs]
    refine callK.of hlh ?_
    rintro v σ1 ⟨rfl, c, d, rfl⟩
    simp
    refine callK.of (hse _ _ _ _ (putL_at hk _ c d _)) ?_
    rintro v σ2 ⟨rfl, c2, d2, rfl⟩
    rw [putL_putL]
    subst hZd
    simp [hqat]
    exact hend _ _ _ _ _
  by_cases m0 : L.mode = 0
  · have ht : L.take ev = (⟨2, ev.data, .zero, false⟩, decide (ev.kind = 0), L) := by unfold Lk.take; rw [if_neg k2, if_neg k3, if_pos m0]
    rw [ht]
    subst hZd
    simp [hpq, hqp, hX0, k2, k3, m0, hXl, hXt, hmk, hXs, hl0, n1, m1, hX3]
    exact ⟨_, le_of_eq rfl, σ, by (intro q; simp only [Store.upd, Store.del]; (repeat' split) <;> first | exact Or.inr rfl | exact Or.inl rfl | (exfalso; omega) | (left; subst_vars; assumption) | simp_all), rfl, a, b, (putL_self h).symm⟩
  have m0' : ¬ (L.mode : Int) = 0 := by omega
  by_cases k0 : ev.kind = 0
  · have ht : L.take ev = (.none, false, ({ L with mp := L.mp ++ ev.data } : Lk).settle) := by unfold Lk.take; rw [if_neg k2, if_neg k3, if_neg m0, if_pos k0]
    have hma := madd_calls k.m L.mp false ev.data (hmp k0) _ hp2.m
    rw [ht]
    simp [hpq, hqp, hX0, k0, m0, m0', hXl, hXt, hmk, hXs, hl0, n1, m1, hX3]
    repeat' with_reducible apply And.intro
    all_goals
      refine callK.of hma ?_
      rintro v σ1 ⟨rfl, rfl⟩
      rw [put_m hk hp2]
      simp
      refine callK.of (hse _ _ _ _ (putL_at hk _ a b _)) ?_
      rintro v σ2 ⟨rfl, c2, d2, rfl⟩
      rw [putL_putL]
      subst hZd
      simp [hqat]
      exact hend _ _ _ _ _
  by_cases kv : ev.verb = 239
  · have ht : L.take ev = (toldF L.mode L.mp, true, { L with mp := [] }) := by unfold Lk.take; rw [if_neg k2, if_neg k3, if_neg m0, if_neg k0, if_pos kv]
    have hme := mend_calls k.m L.mp false _ hp2.m
    have hv : (ev.verb.toNat : Int) = 239 := by rw [kv]; rfl
    have hto := fun c d τ (htt : LkAt k { L with mp := [] } c d τ) => told_calls k { L with mp := [] } c d L.mp (by omega) τ htt
    rw [ht]
    simp [hpq, hqp, hX0, hX1, k0, k2, k3, m0, m0', hv, hXl, hXt, hmk, hXs, hl0, n1, m1, hX3]
    refine callK.of hme ?_
    rintro v σ1 ⟨rfl, rfl⟩
    rw [put_m hk hp2]
    simp
    refine callK.of (hto _ _ _ (putL_at hk _ a b _)) ?_
    rintro v σ2 ⟨rfl, rfl⟩
    generalize toldF L.mode L.mp = te
    obtain ⟨tk, td, ⟨ty, req, resp, seq⟩, th⟩ := te
    subst hZd
    simp [hqat, leA, hdL, byteA]
    exact hend _ _ _ _ _
  · have ht : L.take ev = (.none, false, L.settle) := by unfold Lk.take; rw [if_neg k2, if_neg k3, if_neg m0, if_neg k0, if_neg kv]
    have hv : ¬ (ev.verb.toNat : Int) = 239 := u8_ne (n := 239) (by omega) kv
    rw [ht]
    simp [hpq, hqp, hX0, hX1, k0, k2, k3, m0, m0', hv, hXl, hXt, hmk, hXs, hl0, n1, m1, hX3]
    refine callK.of (hse _ _ _ _ hp2) ?_
    rintro v σ2 ⟨rfl, c2, d2, rfl⟩
    subst hZd
    simp [hqat]
    exact hend _ _ _ _ _
end Go.Proofs.YteaidaolablegaaGreatDoor
/-
  The link: all events of some bytes.
-/
namespace Go.Proofs.YteaidaolablegaaGreatDoor
open Go Go.AL

namespace Lk
/-- What is told of these events, each with the events behind it. -/
def tlr (L : Lk) : List Ev → List (LE × List Ev)
  | [] => []
  | ev :: r => if (L.take ev).2.1 = true then ((L.take ev).1, r) :: tlr (L.take ev).2.2 r else tlr (L.take ev).2.2 r
/-- The link behind the next event that is told, or behind all. -/
def adv (L : Lk) : List Ev → Lk
  | [] => L
  | ev :: r => if (L.take ev).2.1 = true then (L.take ev).2.2 else adv (L.take ev).2.2 r
def withOut (L : Lk) (x : List UInt8) : Lk := { L with out := x }
end Lk
/-- What an end becomes. -/
theorem hearG_ok (e : Ng) (hs : Small e) (hk : EOk e) (o : UInt8) (l : List UInt8) : Small (hearG e o l).2.2 ∧ EOk (hearG e o l).2.2 := by
  have key : ∀ e' : Ng, e'.ty = e.ty → e'.dev = e.dev → e'.fns = e.fns → e'.agreed.length ≤ 1000 → Small e' ∧ EOk e' := fun e' h1 h2 h3 h4 =>
    ⟨⟨h1 ▸ hs.ty, h2 ▸ hs.dev, h3 ▸ hs.fns, h4⟩, fun x hx => hk x (h3 ▸ hx)⟩
  have same := key e rfl rfl rfl hs.agreed
  unfold hearG
  split
  · split <;> exact same
  split
  · unfold hearF
    split
    · exact same
    · split
      · split
        · exact same
        · exact key _ rfl rfl rfl (Nat.zero_le _)
      split
      · unfold devF
        split
        · exact same
        · repeat' split
          all_goals first | exact same | exact key _ rfl rfl rfl hs.agreed | exact key _ rfl rfl rfl (Nat.zero_le _)
      split
      · unfold fnF
        split
        · exact same
        · rename_i k2 _
          have := sortL_len k2
          repeat' split
          all_goals first | exact same | exact key _ rfl rfl rfl hs.agreed | exact key _ rfl rfl rfl (Nat.zero_le _) | exact key _ rfl rfl rfl (show (sortL k2).length ≤ 1000 by omega)
      · exact same
  · exact same
def sumD (r : List Ev) : Nat := (r.map fun ev => if ev.kind = 0 then ev.data.length else 0).sum
/-- Room enough for these events. -/
structure LOk (L : Lk) (r : List Ev) : Prop where
  out : L.out.length + 30000 * r.length ≤ 90000000000
  data : ∀ ev ∈ r, ev.data.length ≤ 9000
  mp : L.mp.length + sumD r ≤ 8192
  small : Small L.e
  ok : EOk L.e
theorem settle_e (L : Lk) : L.settle.e = L.e ∧ L.settle.out = L.out ∧ L.settle.mp.length ≤ L.mp.length ∧ L.settle.rd = L.rd ∧ L.settle.seq = L.seq := by
  unfold Lk.settle
  split <;> simp
theorem hear_e (L : Lk) (v o : UInt8) : ((L.hear v o).e = L.e ∨ (L.hear v o).e = L.e.reset) ∧ (L.hear v o).mp = L.mp ∧ (L.hear v o).rd = L.rd := by
  unfold Lk.hear
  split
  · exact ⟨.inl rfl, rfl, rfl⟩
  · exact ⟨.inr rfl, rfl, rfl⟩
theorem sub_e (L : Lk) (ev : Ev) : ((L.sub ev).e = L.e ∨ (L.sub ev).e = (hearG L.e ev.opt ev.data).2.2) ∧ (L.sub ev).mp = L.mp ∧ (L.sub ev).rd = L.rd := by
  unfold Lk.sub
  split
  · exact ⟨.inl rfl, rfl, rfl⟩
  split
  · exact ⟨.inr rfl, rfl, rfl⟩
  · exact ⟨.inr rfl, rfl, rfl⟩
theorem take_ok {L : Lk} {ev : Ev} {r : List Ev} (h : LOk L (ev :: r)) : LOk (L.take ev).2.2 r ∧ (L.take ev).2.2.rd = L.rd := by
  obtain ⟨h1, h2, h3, h4, h5⟩ := h
  have hd := h2 ev (by simp)
  have h2' : ∀ ev ∈ r, ev.data.length ≤ 9000 := fun x hx => h2 x (by simp [hx])
  have hsum : sumD (ev :: r) = (if ev.kind = 0 then ev.data.length else 0) + sumD r := by simp [sumD]
  rw [hsum] at h3
  simp only [List.length_cons] at h1
  have so := sub_out L ev h4 hd
  have ho := hear_out L ev.verb ev.opt
  unfold Lk.take
  split
  · dsimp only
    obtain ⟨q1, q2, q3, q4, _⟩ := settle_e (L.hear ev.verb ev.opt)
    obtain ⟨p1, p2, p3⟩ := hear_e L ev.verb ev.opt
    refine ⟨⟨by rw [q2]; omega, h2', by rw [p2] at q3; omega, ?_, ?_⟩, by rw [q4, p3]⟩
    · rw [q1]; rcases p1 with e | e <;> rw [e]
      · exact h4
      · exact h4.ofReset
    · rw [q1]; rcases p1 with e | e <;> rw [e]
      · exact h5
      · exact h5
  split
  · dsimp only
    obtain ⟨q1, q2, q3, q4, _⟩ := settle_e (L.sub ev)
    obtain ⟨p1, p2, p3⟩ := sub_e L ev
    have hg := hearG_ok L.e h4 h5 ev.opt ev.data
    refine ⟨⟨by rw [q2]; omega, h2', by rw [p2] at q3; omega, ?_, ?_⟩, by rw [q4, p3]⟩
    · rw [q1]; rcases p1 with e | e <;> rw [e]
      · exact h4
      · exact hg.1
    · rw [q1]; rcases p1 with e | e <;> rw [e]
      · exact h5
      · exact hg.2
  split
  · dsimp only
    exact ⟨⟨by omega, h2', by omega, h4, h5⟩, rfl⟩
  split
  · dsimp only
    rename_i k0
    rw [if_pos k0] at h3
    obtain ⟨q1, q2, q3, q4, _⟩ := settle_e { L with mp := L.mp ++ ev.data }
    have q3' : (Lk.settle { L with mp := L.mp ++ ev.data }).mp.length ≤ (L.mp ++ ev.data).length := q3
    rw [List.length_append] at q3'
    have q2' : (Lk.settle { L with mp := L.mp ++ ev.data }).out = L.out := q2
    exact ⟨⟨by rw [q2']; omega, h2', by omega, by rw [q1]; exact h4, by rw [q1]; exact h5⟩, by rw [q4]⟩
  split
  · dsimp only
    exact ⟨⟨by show L.out.length + 30000 * r.length ≤ _; omega, h2', by simp; omega, h4, h5⟩, rfl⟩
  · dsimp only
    obtain ⟨q1, q2, q3, q4, _⟩ := settle_e L
    exact ⟨⟨by rw [q2]; omega, h2', by omega, by rw [q1]; exact h4, by rw [q1]; exact h5⟩, q4⟩
end Go.Proofs.YteaidaolablegaaGreatDoor
/-
  The link: what comes of bytes, one event at a time.
-/
namespace Go.Proofs.YteaidaolablegaaGreatDoor
open Go Go.AL

structure Fl where
  a : Bool
  b : Bool
/-- The bytes are read. -/
def Lk.fed (L : Lk) (p : List UInt8) : Lk := { L with rd := L.rd.after p }
/-- What is known of the link within its iterator: the link, and the events that are still to come (none: nothing has been read yet). -/
abbrev LG := Lk × Option (List Ev)
def LG.rest (g : LG) (p : List UInt8) : List Ev := match g.2 with | some r => r | .none => g.1.rd.fed p
def LG.now (g : LG) (p : List UInt8) : Lk := match g.2 with | some _ => g.1 | .none => g.1.fed p
structure PreL (kb : Bk) (c1 c2 : Nat) (oc : Bool) (p : List UInt8) (T : List (LE × List Ev)) (k : Nat) (g : LG) (τ : Store) : Prop where
  at_ : ∃ a b, LkAt kb g.1 a b τ
  c1 : τ c1 = some [ptrA kb.l]
  c2 : τ c2 = some [.list oc 1 (bytesA p)]
  told : (g.now p).tlr (g.rest p) = T.drop k
  room : LOk (g.now p) (g.rest p)
  zero : g.2 = .none ↔ k = 0
  pos : ∀ r, g.2 = some r → ∃ x, T[k - 1]? = some (x, r)
  rd : g.1.rd.out.length ≤ 100 ∧ g.1.rd.data.length ≤ 100000 ∧ g.1.rd.sub.length ≤ 100000
def StepL (kb : Bk) (p : List UInt8) (_k : Nat) (g : LG) (τ τ' : Store) : Prop := ∃ a b, τ' = putL kb ((g.now p).adv (g.rest p)) a b τ
/-- What the k-th round is given. -/
def argL (T : List (LE × List Ev)) (k : Nat) : List AV := match T[k]? with | some x => [leA x.1] | .none => [.top]
theorem argL_some {T : List (LE × List Ev)} {k : Nat} {x : LE × List Ev} (h : T[k]? = some x) : argL T k = [leA x.1] := by unfold argL; rw [h]
theorem putL_c1 {kb : Bk} {L : Lk} {a b : Bool} {τ : Store} (h : LkAt kb L a b τ) {c : Nat} {x : AV} (hc : τ c = some [x]) (L' : Lk) (a' b' : Bool) : (putL kb L' a' b' τ) c = some [x] := by
  have ne : ∀ (q : Nat) cs, τ q = some cs → cs.length ≠ 1 → ¬ c = q := fun q cs hq hl e => by
    rw [← e, hc] at hq
    cases hq; exact hl rfl
  rw [putL_apply, if_neg (ne _ _ h.m (by simp [mkA])), if_neg (ne _ _ h.e (by simp [endO])), if_neg (ne _ _ h.o (by simp)), if_neg (ne _ _ h.r (by simp [rdA])), if_neg (ne _ _ h.l (by simp [lkO])), hc]
set_option maxRecDepth 8000 in
set_option maxHeartbeats 2000000 in
theorem take_iter (kb : Bk) (hk : kb.Ok) (c1 c2 : Nat) (oc : Bool) (p : List UInt8) (hp : p.length ≤ 10000) (T : List (LE × List Ev)) (σ : Store) :
    IterL Tryz.prog (Γ := LG) 60 [ptrA c1, ptrA c2] σ T.length (PreL kb c1 c2 oc p T) (StepL kb p) (argL T) := by
  refine ⟨fun k g τ1 τ _ h hs => ?_, ?_⟩
  · have n : ∀ (q : Nat) cs, τ1 q = some cs → τ q = some cs := fun q cs hq => by
      rcases hs q with h' | h'
      · rw [h'] at hq; cases hq
      · rw [← h']; exact hq
    refine ⟨⟨?_, n _ _ h.c1, n _ _ h.c2, h.told, h.room, h.zero, h.pos, h.rd⟩, ?_⟩
    · obtain ⟨a, b, hat⟩ := h.at_
      exact ⟨a, b, hat.more hs⟩
    · rintro τ' ⟨a, b, rfl⟩
      exact ⟨_, putL_sub hs, a, b, rfl⟩
  · intro X l M I J hpre hstep hyield g τ E hM hsub
    have hP := hpre 0 g τ E (Nat.zero_le _) hM
    obtain ⟨a, b, hat⟩ := hP.at_
    have hg2 := hP.zero.2 rfl
    obtain ⟨L0, o0⟩ := g
    dsimp only at hg2 hat
    subst hg2
    refine ACallsY.of_awp follows (st := st60) (plans := pl60) (n := 35) Tryz.func60 rfl (by kernel_rfl) (by kernel_rfl) (by kernel_rfl) ?_
    have n : ∀ (q : Nat) cs, τ q = some cs → σ q = some cs := fun q cs hq => by
      rcases hsub q with h' | h'
      · rw [h'] at hq; cases hq
      · rw [← h']; exact hq
    have hatσ := hat.more hsub
    have hc1 := n _ _ hP.c1
    have hc2 := n _ _ hP.c2
    have hl0 := hatσ.l
    unfold lkO at hl0
    obtain ⟨rd1, rd2, rd3⟩ := hP.rd
    dsimp only at rd1 rd2 rd3
    have hfeed := feed_calls false kb.r L0.rd p σ hatσ.r rd1 rd2 rd3 (by omega)
    have hpr := put_r hk hatσ (L0.rd.after p)
    have hroom := hP.room
    have htold := hP.told
    simp only [LG.now, LG.rest, List.drop_zero] at hroom htold
    generalize hev : L0.rd.fed p = evs at *
    have hevl : evs.length ≤ 3000000 := by
      have := hroom.out
      omega
    have hL1 : ({ L0 with rd := L0.rd.after p } : Lk) = L0.fed p := rfl
    rw [hL1] at hpr
    simp [hc1, hc2, hl0]
    refine callK.of hfeed ?_
    rintro v σ1 ⟨rfl, rfl⟩
    rw [hpr]
    simp
    refine codeYK.loop follows (st := st60) (plans := pl60) (S := Nat × Nat × LG × Lk × Fl × Store) (fun x => x.1 ≤ evs.length)
      (fun x => [(0, .func (.yield l) [] []), (1, ptrA c1), (15, .list false 6 (evsA evs)), (16, .lit (.int .i64 evs.length)), (17, .lit (.int .i64 x.1))]) (fun x => putL kb x.2.2.2.1 x.2.2.2.2.1.a x.2.2.2.2.1.b x.2.2.2.2.2)
      (fun x E => x.2.1 ≤ T.length ∧ M x.2.1 x.2.2.1 x.2.2.2.2.2 E ∧ x.2.2.2.1.tlr (evs.drop x.1) = T.drop x.2.1 ∧ (x.2.2.1.now p).adv (x.2.2.1.rest p) = x.2.2.2.1.adv (evs.drop x.1) ∧ LOk x.2.2.2.1 (evs.drop x.1))
      (fun x => evs.length - x.1) (0, 0, (L0, .none), L0.fed p, ⟨a, b⟩, τ) (by kernel_rfl) (by simp) (by simp) (putL_sub hsub) ⟨Nat.zero_le _, hM, by simpa using htold, by simp [LG.now, LG.rest, hev], by simpa using hroom⟩ ?_
    rintro ⟨j, k, g, Lc, ⟨fa, fb⟩, τc⟩ E1 hj ⟨hkN, hMk, htl, hadv, hok⟩
    dsimp only at hj hkN hMk htl hadv hok ⊢
    have hPk := hpre k g τc E1 hkN hMk
    obtain ⟨ga, gb, hatk⟩ := hPk.at_
    have hat1 := putL_at hk Lc fa fb τc
    by_cases hlt : j < evs.length
    · have hw : IntKind.i64.wrap ((j : Int) + 1) = ((j + 1 : Nat) : Int) := wrap_i64 (by omega) (by omega)
      have hlt' : (j : Int) < evs.length := by omega
      obtain ⟨ev, hevj⟩ : ∃ ev, evs[j] = ev := ⟨_, rfl⟩
      have hdrop : evs.drop j = ev :: evs.drop (j + 1) := by rw [List.drop_eq_getElem_cons hlt, hevj]
      have hg : ∀ h : j < (evsA evs).length, (evsA evs)[j]'h = evA ev := fun h => by
        rw [List.getElem_eq_iff, evsA_get, List.getElem?_eq_getElem hlt, hevj]; rfl
      unfold evA at hg
      rw [hdrop] at htl hadv hok
      have hd := hok.data ev (by simp)
      have hout := hok.out
      have hmp := hok.mp
      have hsum : sumD (ev :: evs.drop (j + 1)) = (if ev.kind = 0 then ev.data.length else 0) + sumD (evs.drop (j + 1)) := by simp [sumD]
      obtain ⟨hok1, hrd1⟩ := take_ok hok
      have hta := fun τ (ht : LkAt kb Lc fa fb τ) => ltake_calls kb hk Lc fa fb ev (by omega) hd (fun h0 => by rw [if_pos h0] at hsum; omega) (by omega) hok.small hok.ok τ ht
      unfold evA at hta
      have hcc := putL_c1 hatk hPk.c1 Lc fa fb
      simp only [byteA_lit] at hg hta
      have htl' : Lc.tlr (ev :: evs.drop (j + 1)) = if (Lc.take ev).2.1 = true then ((Lc.take ev).1, evs.drop (j + 1)) :: (Lc.take ev).2.2.tlr (evs.drop (j + 1)) else (Lc.take ev).2.2.tlr (evs.drop (j + 1)) := rfl
      have hadv' : Lc.adv (ev :: evs.drop (j + 1)) = if (Lc.take ev).2.1 = true then (Lc.take ev).2.2 else (Lc.take ev).2.2.adv (evs.drop (j + 1)) := rfl
      rw [htl'] at htl
      rw [hadv'] at hadv
      generalize Lc.take ev = tk at *
      obtain ⟨x, ok, L2⟩ := tk
      dsimp only at hok1 hrd1 hta htl hadv
      have hfresh : ∀ (q : Nat) Y (q2 : Nat) Y2 c d, (putL kb Lc fa fb τc) q = none → (putL kb L2 c d ((putL kb Lc fa fb τc).upd q Y)) q2 = none → Store.sub (putL kb L2 c d τc) ((putL kb L2 c d ((putL kb Lc fa fb τc).upd q Y)).upd q2 Y2) := fun q Y q2 Y2 c d h1 h2 => by
        have e1 := putL_putL kb Lc L2 fa fb c d τc
        rw [← e1]
        exact Store.sub_trans (putL_sub (sub_upd_self _ _ _ h1)) (sub_upd_self _ _ _ h2)
      cases ok
      · simp only [Bool.false_eq_true, if_false] at htl hadv
        obtain ⟨xk, xd, ⟨ty, req, resp, seq⟩, xh⟩ := x
        simp only [leA, hdL, byteA_lit, List.cons_append, List.nil_append] at hta
        simp [hlt, hlt', hg]
        intro q hq
        obtain ⟨n1, n2, n3, n4, n5⟩ := hat1.ne hq
        have hc1q : ¬ c1 = q := fun e => by rw [e] at hcc; rw [hcc] at hq; cases hq
        simp [hcc, hc1q]
        refine callK.of (hta _ (hat1.other hq _)) ?_
        rintro v σ2 ⟨rfl, fa2, fb2, rfl⟩
        simp
        intro q2 hq2
        refine ⟨j + 1, by omega, by omega, by rw [hw]; exact AV.le_refl _, k, g.1, g.2, L2, ⟨fa2, fb2⟩, τc, hfresh _ _ _ _ _ _ hq hq2, hkN, hMk, htl, hadv, hok1⟩
      · simp only [if_true] at htl hadv
        have hkl : k < T.length := by
          have := congrArg List.length htl
          simp at this; omega
        have hTd := List.drop_eq_getElem_cons hkl
        rw [hTd] at htl
        obtain ⟨ht1, ht2⟩ := List.cons.inj htl
        have hTk : T[k]? = some (x, evs.drop (j + 1)) := by rw [List.getElem?_eq_getElem hkl, ← ht1]
        have hy := fun c d => hyield k g hkl (putL kb L2 c d τc) E1 (hstep k g τc _ E1 hkN hMk ⟨c, d, by rw [hadv]⟩)
        rw [argL_some hTk] at hy
        obtain ⟨xk, xd, ⟨ty, req, resp, seq⟩, xh⟩ := x
        simp only [leA, hdL, byteA_lit, List.cons_append, List.nil_append] at hta hy
        simp [hlt, hlt', hg]
        intro q hq
        obtain ⟨n1, n2, n3, n4, n5⟩ := hat1.ne hq
        have hc1q : ¬ c1 = q := fun e => by rw [e] at hcc; rw [hcc] at hq; cases hq
        simp [hcc, hc1q]
        refine callK.of (hta _ (hat1.other hq _)) ?_
        rintro v σ2 ⟨rfl, fa2, fb2, rfl⟩
        simp
        intro q2 hq2
        refine yieldK.of (by simp) (hy fa2 fb2) (hfresh _ _ _ _ _ _ hq hq2) ?_
        intro b τ' E' hR hap
        cases b
        · simp
          exact ⟨⟨_, AV.le_refl _⟩, _, Store.sub_over _ _ _, τ', Store.sub_refl _, .inr (by simpa using hR)⟩
        · simp only [if_true] at hR
          obtain ⟨g', hM'⟩ := hR
          have hP' := hpre (k + 1) g' τ' E' (by omega) hM'
          obtain ⟨a', b', hat'⟩ := hP'.at_
          obtain ⟨L', r'⟩ := g'
          cases r' with
          | none => exact absurd (hP'.zero.1 rfl) (by omega)
          | some r' =>
            obtain ⟨x', hx'⟩ := hP'.pos r' rfl
            rw [Nat.add_sub_cancel, hTk] at hx'
            obtain rfl : evs.drop (j + 1) = r' := (Prod.mk.inj (Option.some.inj hx')).2
            have ht' := hP'.told
            have hr' := hP'.room
            simp only [LG.now, LG.rest] at ht' hr'
            simp
            exact ⟨j + 1, by omega, by omega, by rw [hw]; exact AV.le_refl _, k + 1, L', some (evs.drop (j + 1)), L', ⟨a', b'⟩, τ', by rw [putL_self hat']; exact Store.sub_over _ _ _, by omega, hM', ht', rfl, hr'⟩
    · obtain rfl : j = evs.length := by omega
      rw [List.drop_length] at htl hadv
      have hkk : k = T.length := by
        have : (T.drop k).length = 0 := by rw [← htl]; rfl
        simp at this; omega
      subst hkk
      simp
      exact ⟨⟨_, AV.le_refl _⟩, _, Store.sub_refl _, _, Store.sub_refl _, .inl ⟨g.1, g.2, hstep _ g _ _ _ hkN hMk ⟨fa, fb, by rw [hadv]; rfl⟩⟩⟩
end Go.Proofs.YteaidaolablegaaGreatDoor
/-
  The link: made; the document's, too.
-/
namespace Go.Proofs.YteaidaolablegaaGreatDoor
open Go Go.AL

/-- Options that one agrees to. -/
def Om.agree (m : Om) (s : Nat) (l : List UInt8) : Om := l.foldl (fun m o => m.setAg s o.toNat true) m
theorem agree_snoc (m : Om) (s : Nat) (l : List UInt8) (x : UInt8) : m.agree s (l ++ [x]) = (m.agree s l).setAg s x.toNat true := by simp [Om.agree]
theorem omag0 (m : Om) (o : UInt8) (b : Bool) : (omA m).set (256 + o.toNat) (.lit (.bool b)) = omA (m.setAg 0 o.toNat b) := by
  have := omA_setAg m 0 b o.toNat_lt
  simpa using this
theorem omag1 (m : Om) (o : UInt8) (b : Bool) : (omA m).set (512 + 256 + o.toNat) (.lit (.bool b)) = omA (m.setAg 1 o.toNat b) := by
  have := omA_setAg m 1 b o.toNat_lt
  simpa using this
set_option maxRecDepth 8000 in
set_option maxHeartbeats 1000000 in
theorem onew_calls (o o' : Bool) (us him : List UInt8) (h1 : us.length ≤ 1000) (h2 : him.length ≤ 1000) (σ : Store) :
    ACalls Tryz.prog 56 [.list o 1 (bytesA us), .list o' 1 (bytesA him)] σ fun v σ' => ∃ q : Nat, σ q = none ∧ v = ptrA q ∧ σ' = σ.upd q (omA ((Om.zero.agree 0 us).agree 1 him)) := by
  refine ACalls.of_awp follows (st := st56) (plans := pl56) (n := 41) Tryz.func56 rfl (by kernel_rfl) (by kernel_rfl) (by kernel_rfl) ?_
  simp
  intro q hq
  refine codeK.loop follows (st := st56) (plans := pl56) (X := Nat) (fun i => i ≤ us.length)
    (fun i => [(1, .list false 1 (bytesA him)), (5, ptrA q), (12, .list false 1 (bytesA us)), (13, .lit (.int .i64 us.length)), (14, .lit (.int .i64 i))]) (fun i => σ.upd q (omA (Om.zero.agree 0 (us.take i)))) (fun i => us.length - i) 0 (by kernel_rfl) (by simp) (by simp) (by simp [Om.agree]) fun i hi => ?_
  by_cases hlt : i < us.length
  · have hw : IntKind.i64.wrap ((i : Int) + 1) = ((i + 1 : Nat) : Int) := wrap_i64 (by omega) (by omega)
    have hlt' : (i : Int) < us.length := by omega
    obtain ⟨x, hx⟩ : ∃ x, us[i] = x := ⟨_, rfl⟩
    have hg : ∀ h : i < (bytesA us).length, (bytesA us)[i]'h = .lit (.int .u8 x.toNat) := fun h => by
      rw [List.getElem_eq_iff, bytesA_get, List.getElem?_eq_getElem hlt, hx]; rfl
    have hts : Om.zero.agree 0 (us.take (i + 1)) = (Om.zero.agree 0 (us.take i)).setAg 0 x.toNat true := by
      rw [List.take_succ_eq_append_getElem hlt, hx, agree_snoc]
    have hx8 := x.toNat_lt
    have hx8' : (x.toNat : Int) < 256 := by omega
    simp [hlt, hlt', hg, hx8', hx8, -e_setRange_1, -e_setRange_2, setRange_one, omag0]
    exact ⟨by omega, i + 1, by omega, by omega, by rw [hw]; exact AV.le_refl _, by rw [hts]; exact Store.sub_refl _⟩
  · obtain rfl : i = us.length := by omega
    rw [List.take_length]
    simp
    generalize Om.zero.agree 0 us = m0
    refine codeK.loop follows (st := st56) (plans := pl56) (X := Nat) (fun i => i ≤ him.length)
      (fun i => [(5, ptrA q), (26, .list false 1 (bytesA him)), (27, .lit (.int .i64 him.length)), (28, .lit (.int .i64 i))]) (fun i => σ.upd q (omA (m0.agree 1 (him.take i)))) (fun i => him.length - i) 0 (by kernel_rfl) (by simp) (by simp) (by simp [Om.agree]) fun i hi => ?_
    by_cases hlt : i < him.length
    · have hw : IntKind.i64.wrap ((i : Int) + 1) = ((i + 1 : Nat) : Int) := wrap_i64 (by omega) (by omega)
      have hlt' : (i : Int) < him.length := by omega
      obtain ⟨x, hx⟩ : ∃ x, him[i] = x := ⟨_, rfl⟩
      have hg : ∀ h : i < (bytesA him).length, (bytesA him)[i]'h = .lit (.int .u8 x.toNat) := fun h => by
        rw [List.getElem_eq_iff, bytesA_get, List.getElem?_eq_getElem hlt, hx]; rfl
      have hts : m0.agree 1 (him.take (i + 1)) = (m0.agree 1 (him.take i)).setAg 1 x.toNat true := by
        rw [List.take_succ_eq_append_getElem hlt, hx, agree_snoc]
      have hx8 := x.toNat_lt
      have hx8' : (x.toNat : Int) < 256 := by omega
      have hs1 := fun m => omag1 m x true
      simp only [show 512 + 256 = 768 from rfl] at hs1
      simp [hlt, hlt', hg, hx8', hx8, -e_setRange_1, -e_setRange_2, setRange_one, hs1]
      exact ⟨by omega, i + 1, by omega, by omega, by rw [hw]; exact AV.le_refl _, by rw [hts]; exact Store.sub_refl _⟩
    · obtain rfl : i = him.length := by omega
      rw [List.take_length]
      simp
      exact ⟨_, AV.le_refl _, _, Store.sub_refl _, q, hq, rfl, rfl⟩
/-- The config of a link. -/
def lconfA (e : Ng) (o x : Bool) : AV := .agg [strS e.ty, strS e.dev, .list o 1 (bytesA e.fns), .lit (.bool x)]
def usL (x : Bool) : List UInt8 := [0, 24, 25] ++ if x = true then [40] else []
def Lk.init (e : Ng) (x : Bool) : Lk := ⟨.init, (Om.zero.agree 0 (usL x)).agree 1 [0, 25], { ty := e.ty, dev := e.dev, fns := e.fns }, [], [], 0, 0⟩
def LNewR (e : Ng) (x : Bool) (σ : Store) (v : AV) (σ' : Store) : Prop :=
  (¬ okC e ∧ (∃ k : Nat, k ≠ 0 ∧ v = .tuple [.lit (.pointer none), .lit (.int .i64 k)]) ∧ σ' = σ) ∨
  (okC e ∧ ∃ kb : Bk, kb.Ok ∧ (σ kb.l = none ∧ σ kb.r = none ∧ σ kb.o = none ∧ σ kb.e = none ∧ σ kb.m = none) ∧ v = .tuple [ptrA kb.l, .lit (.int .i64 0)] ∧ LkTo kb (.init e x) σ σ')
set_option maxRecDepth 8000 in
set_option maxHeartbeats 1000000 in
theorem lnew_calls (e : Ng) (o x : Bool) (hs : Small e) (σ : Store) : ACalls Tryz.prog 31 [lconfA e o x] σ (LNewR e x σ) := by
  have hn := fun τ => nnew_calls e false hs τ
  have hrd := fun τ => new_calls τ
  have hom := fun us τ (h : us.length ≤ 1000) => onew_calls false true us [0, 25] h (by simp) τ
  have hmk := fun τ => mnew_calls τ
  unfold lconfA
  simp only [confA] at hn
  refine ACalls.of_awp follows (st := st31) (plans := pl31) (n := 35) Tryz.func31 rfl (by kernel_rfl) (by kernel_rfl) (by kernel_rfl) ?_
  simp
  intro p hp
  refine callK.of (hn _) ?_
  rintro v σ1 (⟨hno, ⟨k, hk, rfl⟩, rfl⟩ | ⟨hok, q, hq, rfl, o1, o2, rfl⟩)
  · simp [hk]
    exact ⟨_, AV.le_refl _, _, sub_upd_self _ _ _ hp, .inl ⟨hno, ⟨k, hk, rfl⟩, rfl⟩⟩
  · simp only [supd_apply, ite_none] at hq
    obtain ⟨hqp, hq⟩ := hq
    have hpq : ¬ p = q := fun e => hqp e.symm
    have b3 : bytesA [0, 24, 25] = [.lit (.int .u8 0), .lit (.int .u8 24), .lit (.int .u8 25)] := rfl
    have b4 : bytesA [0, 24, 25, 40] = [.lit (.int .u8 0), .lit (.int .u8 24), .lit (.int .u8 25), .lit (.int .u8 40)] := rfl
    have b2 : bytesA [0, 25] = [.lit (.int .u8 0), .lit (.int .u8 25)] := rfl
    have hfin : True := trivial
    cases x
    case' false =>
      have hu : usL false = [0, 24, 25] := rfl
      have ho2 := fun τ => hom [0, 24, 25] τ (by simp)
      rw [b3, b2, ← hu] at ho2
    case' true =>
      have hu : usL true = [0, 24, 25, 40] := rfl
      have ho2 := fun τ => hom [0, 24, 25, 40] τ (by simp)
      rw [b4, b2, ← hu] at ho2
    all_goals
      simp [hpq, hqp]
      refine callK.of (hrd _) ?_
      rintro v σ2 ⟨r, hr, rfl, rfl⟩
      simp [hpq, hqp]
      refine callK.of (ho2 _) ?_
      rintro v σ3 ⟨om, hm, rfl, rfl⟩
      simp [hpq, hqp]
      refine callK.of (hmk _) ?_
      rintro v σ4 ⟨mm, hmm, rfl, rfl⟩
      simp [hpq, hqp]
      intro l hl
      simp only [supd_apply, ite_none] at hr hm hmm hl
      obtain ⟨r1, r2, hr⟩ := hr
      obtain ⟨m1, m2, m3, hm⟩ := hm
      obtain ⟨mm1, mm2, mm3, mm4, hmm⟩ := hmm
      obtain ⟨l1, l2, l3, l4, l5, hl⟩ := hl
      refine ⟨_, AV.le_refl _, putL ⟨l, r, om, q, mm⟩ (.init e _) o1 o2 σ, ?_, .inr ⟨hok, ⟨l, r, om, q, mm⟩, ?_, ⟨hl, hr, hm, hq, hmm⟩, rfl, o1, o2, rfl⟩⟩
      · refine Store.sub2 (fun y => ?_) (fun g => .inr (by simp [putL]))
        rw [putL_apply]
        simp only [supd_apply]
        by_cases y1 : y = l
        · right; subst y1; simp [l1, l2, l3, l4]; rfl
        by_cases y2 : y = mm
        · right; subst y2; simp [y1]; rfl
        by_cases y3 : y = om
        · right; subst y3; simp [y1, y2, m1, m2]; rfl
        by_cases y4 : y = r
        · right; subst y4; simp [y1, y2, y3, r1]; rfl
        by_cases y5 : y = q
        · right; subst y5; simp [y1, y2, y3, y4]; rfl
        by_cases y6 : y = p
        · left; subst y6; simp [y1, y2, y3, y4, y5, hp]
        · right; simp [y1, y2, y3, y4, y5, y6]
      · exact ⟨l3, l2, l4, l1, fun e => m1 e.symm, r1, fun e => mm2 e.symm, m2, fun e => mm1 e.symm, fun e => mm3 e.symm⟩
end Go.Proofs.YteaidaolablegaaGreatDoor
/-
  Names as the document has them; functions that both have.
-/
namespace Go.Proofs.YteaidaolablegaaGreatDoor
open Go Go.AL

set_option maxRecDepth 8000 in
theorem rname_calls (l : List UInt8) (hl : l.length ≤ 1000000) (σ : Store) : ACalls Tryz.prog 75 [strS l] σ fun v σ' => v = .lit (.bool (nameS l)) ∧ σ' = σ := by
  have hsz := str_size l
  refine ACalls.of_awp follows (st := st75) (plans := pl75) (n := 28) Tryz.func75 rfl (by kernel_rfl) (by kernel_rfl) (by kernel_rfl) ?_
  simp
  refine codeK.loop follows (st := st75) (plans := pl75) (X := Nat) (fun i => i ≤ l.length ∧ ∀ j (hj : j < l.length), j < i → okN l[j] = true)
    (fun i => [(0, strS l), (3, .lit (.int .i64 i))]) (fun _ => σ) (fun i => l.length - i) 0 (by kernel_rfl) (by simp) (by simp) (Store.sub_refl _) fun i hi => ?_
  obtain ⟨hi, hk⟩ := hi
  by_cases hlt : i < l.length
  · have hw : IntKind.i64.wrap ((i : Int) + 1) = ((i + 1 : Nat) : Int) := wrap_i64 (by omega) (by omega)
    have hlt' : (i : Int) < l.length := by omega
    have hnx : okN l[i] = true → ∀ j (hj : j < l.length), j < i + 1 → okN l[j] = true := fun h j hj hji => by
      by_cases e : j = i
      · subst e; exact h
      · exact hk j hj (by omega)
    have hno : okN l[i] = false → nameS l = false := fun h => by
      have : l.all okN = false := by rw [List.all_eq_false]; exact ⟨_, List.getElem_mem hlt, by simp [h]⟩
      simp [nameS, this]
    obtain ⟨b, hb⟩ : ∃ b, l[i] = b := ⟨_, rfl⟩
    have hgg : ∀ h : i < l.length, l[i]'h = b := fun _ => hb
    rw [hb] at hnx hno
    by_cases h1 : (b.toNat : Int) < 33
    · have := hno (by unfold okN; simp; omega)
      simp [hlt, hlt', hgg, h1, this, hsz]
    · have h1' : (33 : Int) ≤ (b.toNat : Int) := by omega
      by_cases h2 : (126 : Int) < (b.toNat : Int)
      · have := hno (by unfold okN; simp; omega)
        simp [hlt, hlt', hgg, h1, h2, this, hsz]
      · have h2' : (b.toNat : Int) ≤ 126 := by omega
        have := hnx (by unfold okN; simp; omega)
        simp [hlt, hlt', hgg, h1, h2, hsz]
        exact ⟨i + 1, ⟨by omega, this⟩, by omega, by rw [hw]; exact AV.le_refl _⟩
  · obtain rfl : i = l.length := by omega
    have hall : l.all okN = true := by
      rw [List.all_eq_true]
      intro x hx
      obtain ⟨j, hj, rfl⟩ := List.getElem_of_mem hx
      exact hk j hj hj
    by_cases hnil : l = []
    · subst hnil; simp [nameS, hsz]
    · have he : l.isEmpty = false := by simpa using hnil
      have h40 : decide ((l.length : Int) ≤ 40) = decide (l.length ≤ 40) := by rw [decide_eq_decide]; omega
      have hnm : nameS l = decide (l.length ≤ 40) := by simp [nameS, hall, he]
      have hpos : (1 : Int) ≤ l.length := by
        have : l.length ≠ 0 := fun h => hnil (List.eq_nil_of_length_eq_zero h)
        omega
      rw [hnm]
      simp [hsz, h40, hpos]
end Go.Proofs.YteaidaolablegaaGreatDoor
