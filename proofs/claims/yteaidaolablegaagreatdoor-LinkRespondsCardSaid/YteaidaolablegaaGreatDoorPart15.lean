/-
  The link: a subnegotiation.
-/
import Derived.Test.YteaidaolablegaaGreatDoorPart14
namespace Go.Proofs.YteaidaolablegaaGreatDoor
open Go Go.AL

/-- What the answers of an end may be as long as. -/
theorem hearG_len (e : Ng) (hs : Small e) (o : UInt8) (l : List UInt8) (hl : l.length ≤ 9000) : (hearG e o l).1.length ≤ 12000 := by
  have h1 := hs.ty
  have h2 := hs.dev
  have h3 := hs.fns
  have hfl : ∀ k : List UInt8, (k.filter fun c => decide (c ∈ e.fns)).length ≤ k.length := fun k => List.length_filter_le _ _
  unfold hearG
  split
  · split
    · simp; omega
    · simp
  split
  · unfold hearF
    split
    · simp
    · rename_i a k
      simp only [List.length_cons] at hl
      split
      · split
        · simp
        · simp only [askB]
          split <;> simp <;> omega
      split
      · unfold devF
        split
        · simp
        · repeat' split
          all_goals first | (simp; done) | (simp; omega)
      split
      · unfold fnF
        split
        · simp
        · rename_i k2 _
          have := hfl k2
          simp only [List.length_cons] at hl
          repeat' split
          all_goals first | (simp; done) | (simp only [List.length_cons, List.length_nil]; omega)
      · simp
  · simp
set_option maxRecDepth 8000 in
set_option maxHeartbeats 2000000 in
theorem lsub_calls (k : Bk) (hk : k.Ok) (L : Lk) (a b : Bool) (ev : Ev) (hl : L.out.length ≤ 100000000000) (hd : ev.data.length ≤ 9000) (hs : Small L.e) (hok : EOk L.e) (σ : Store) (h : LkAt k L a b σ) :
    ACalls Tryz.prog 79 [ptrA k.l, evA ev] σ fun v σ' => v = .tuple [] ∧ LkTo k (L.sub ev) σ σ' := by
  have hl0 := h.l
  unfold lkO at hl0
  have hfin0 : ∀ p X, σ p = none → ∃ v', (AV.tuple []).le v' ∧ ∃ x, x.sub (σ.upd p X) ∧ v' = AV.tuple [] ∧ LkTo k L σ x := fun p X hp =>
    ⟨_, AV.le_refl _, σ, sub_upd_self _ _ _ hp, rfl, a, b, (putL_self h).symm⟩
  refine ACalls.of_awp follows (st := st79) (plans := pl79) (n := 72) Tryz.func79 rfl (by kernel_rfl) (by kernel_rfl) (by kernel_rfl) ?_
  cases hlong : ev.long
  case true =>
    have hsb : L.sub ev = L := by unfold Lk.sub; rw [if_pos (.inl hlong)]
    rw [hsb]
    simp [evA, byteA, hlong]
    intro p hp
    exact hfin0 p _ hp
  cases hbr : ev.broken
  case true =>
    have hsb : L.sub ev = L := by unfold Lk.sub; rw [if_pos (.inr (.inl hbr))]
    rw [hsb]
    simp [evA, byteA, hlong, hbr]
    intro p hp
    exact hfin0 p _ hp
  simp [evA, byteA, hlong, hbr]
  intro p hp
  obtain ⟨n1, n2, n3, n4, n5⟩ := h.ne hp
  have n1' : ¬ p = k.l := fun e => n1 e.symm
  generalize hX : [AV.lit (.int .i64 ev.kind), .lit (.int .u8 ev.verb.toNat), .lit (.int .u8 ev.opt.toNat), .list false 1 (bytesA ev.data), .lit (.bool false), .lit (.bool false)] = X
  have hX0 : X.length = 6 := by rw [← hX]; rfl
  have hX2 : X[2]? = some (AV.lit (.int .u8 ev.opt.toNat)) := by rw [← hX]; rfl
  have hX3 : X[3]? = some (AV.list false 1 (bytesA ev.data)) := by rw [← hX]; rfl
  have hX4 : X[4]? = some (AV.lit (.bool false)) := by rw [← hX]; rfl
  have hX5 : X[5]? = some (AV.lit (.bool false)) := by rw [← hX]; rfl
  have hp1 := h.other hp X
  have hsub := sub_upd_self σ p X hp
  have hon := oon_calls k.o 0 L.o ev.opt (.inl rfl) _ hp1.o
  rw [byteA_lit] at hon
  simp [n1, n1', hl0, hX2, hX3, hX4, hX5]
  refine callK.of hon ?_
  rintro v σ1 ⟨rfl, rfl⟩
  by_cases h1 : L.o.st 0 ev.opt.toNat = 1
  case neg =>
    have hsb : L.sub ev = L := by unfold Lk.sub; rw [if_pos (.inr (.inr h1))]
    rw [hsb]
    simp [h1]
    exact hfin0 p X hp
  have hsb : L.sub ev = if (L.sub1 ev).e.st = 4 then ({ L.sub1 ev with o := (L.o.ask 40).1 } : Lk).say (L.o.ask 40).2 else L.sub1 ev := by unfold Lk.sub; rw [if_neg (by simp [hlong, hbr, h1])]
  rw [hsb]
  have hgl := hearG_len L.e hs ev.opt ev.data hd
  have hhe := hearG_calls k.e L.e a b false ev.opt ev.data (by omega) hs hok _ hp1.e
  rw [byteA_lit] at hhe
  unfold Lk.sub1
  generalize hearG L.e ev.opt ev.data = F at *
  obtain ⟨ans, code, e'⟩ := F
  dsimp only at hgl hhe ⊢
  have hol := oask_len L.o 40
  have hesc := esc_length ans
  have hsbl : (subBytes ev.opt ans).length ≤ 24005 := by simp [subBytes]; omega
  have hsbc := fun τ => subBytes_calls false ev.opt ans τ (by omega)
  rw [byteA_lit] at hsbc
  generalize subBytes ev.opt ans = sb at *
  -- the end's answer is sent, if there is one
  have hb40 : byteA 40 = .lit (.int .u8 40) := rfl
  have hst := fun L3 c d τ (ht : LkAt k L3 c d τ) => state_calls k.e L3.e c d τ ht.e
  have hak := fun L3 c d τ (ht : LkAt k L3 c d τ) => oask_calls k.o L3.o 40 τ ht.o
  rw [hb40] at hak
  have hpe := put_e hk hp1 e'
  obtain ⟨L2, hL2⟩ : ∃ L2, L2 = ({ L with e := e' } : Lk) := ⟨_, rfl⟩
  have hl2o : lkO k L2 = lkO k L := by rw [hL2]; rfl
  by_cases hc : code = 0 ∧ 0 < ans.length
  · rw [if_pos hc]
    obtain ⟨L3, hL3⟩ : ∃ L3, L3 = ({ L with e := e', out := L.out ++ sb } : Lk) := ⟨_, rfl⟩
    have q1 : L3.e = e' := by rw [hL3]
    have q2 : L3.o = L.o := by rw [hL3]
    have q3 : L3.out.length ≤ 1000000000000 := by rw [hL3]; simp; omega
    have hpl := fun c d => put_l hk (L := L2) (putL_at hk L2 c d (σ.upd p X)) (L.out ++ sb) L2.seq L2.mode
    have hL23 : ({ L2 with out := L.out ++ sb, seq := L2.seq, mode := L2.mode } : Lk) = L3 := by rw [hL2, hL3]
    rw [hL23] at hpl
    have hlk3 : lkO k L3 = [ptrA k.r, ptrA k.o, ptrA k.e, ptrA k.m, .list true 1 (bytesA (L.out ++ sb)), .lit (.int .u16 L.seq), .lit (.int .i64 L.mode)] := by rw [hL3]; rfl
    have hgoal : (if e'.st = 4 then ({ ({ L with e := e', out := L.out ++ sb } : Lk) with o := (L.o.ask 40).1 } : Lk).say (L.o.ask 40).2 else ({ L with e := e', out := L.out ++ sb } : Lk)) = if e'.st = 4 then ({ L3 with o := (L3.o.ask 40).1 } : Lk).say (L3.o.ask 40).2 else L3 := by rw [hL3]
    rw [hgoal]
    rw [← q2] at hol
    simp [h1, n1, n1', hl0, hX2, hX3]
    refine callK.of hhe ?_
    rintro v σ2 ⟨rfl, c, d, rfl⟩
    rw [hpe, ← hL2]
    have hl2 := (putL_at hk L2 c d (σ.upd p X)).l
    rw [hl2o] at hl2
    unfold lkO at hl2
    have hX2p : (putL k L2 c d (σ.upd p X)) p = some X := by rw [putL_apply, if_neg fun e => n5 e.symm, if_neg fun e => n4 e.symm, if_neg fun e => n3 e.symm, if_neg fun e => n2 e.symm, if_neg n1']; simp
    simp [hc.1, hc.2, hl2, hX2p, hX2, n1, n1']
    repeat' with_reducible apply And.intro
    all_goals
      refine callK.of (hsbc _) ?_
      rintro v σ3 ⟨rfl, rfl⟩
      simp [hl2, n1, n1']
      refine ⟨by omega, by omega, ?_⟩
      rw [← bytesA_append, ← hlk3, hpl, putL_putL]
      have hat3 := putL_at hk L3 c d (σ.upd p X)
      have hl3 := hat3.l
      unfold lkO at hl3
      refine callK.of (hst L3 c d _ hat3) ?_
      rintro v σ4 ⟨rfl, rfl⟩
      rw [q1]
      by_cases h4 : e'.st = 4
      · rw [if_pos h4]
        simp [h4, hl3]
        refine callK.of (hak L3 c d _ hat3) ?_
        rintro v σ5 ⟨⟨kk, rfl⟩, rfl⟩
        rw [put_o hk hat3, putL_putL]
        simp
        refine callK.of (lsay_calls k hk { L3 with o := (L3.o.ask 40).1 } c d false (L3.o.ask 40).2 q3 (by omega) _ (putL_at hk { L3 with o := (L3.o.ask 40).1 } c d (σ.upd p X))) ?_
        rintro v σ6 ⟨rfl, c2, d2, rfl⟩
        rw [putL_putL]
        simp
        exact ⟨_, AV.le_refl _, _, putL_sub hsub, rfl, c2, d2, by rw [q1]⟩
      · have h4' : ¬ (e'.st : Int) = 4 := by omega
        rw [if_neg h4]
        simp [h4']
        exact ⟨_, AV.le_refl _, _, putL_sub hsub, rfl, c, d, rfl⟩
  · rw [if_neg hc]
    obtain ⟨L3, hL3⟩ : ∃ L3, L3 = ({ L with e := e' } : Lk) := ⟨_, rfl⟩
    have q1 : L3.e = e' := by rw [hL3]
    have q2 : L3.o = L.o := by rw [hL3]
    have q3 : L3.out.length ≤ 1000000000000 := by rw [hL3]; show L.out.length ≤ _; omega
    have hgoal : (if e'.st = 4 then ({ ({ L with e := e', out := L.out } : Lk) with o := (L.o.ask 40).1 } : Lk).say (L.o.ask 40).2 else ({ L with e := e', out := L.out } : Lk)) = if e'.st = 4 then ({ L3 with o := (L3.o.ask 40).1 } : Lk).say (L3.o.ask 40).2 else L3 := by rw [hL3]
    rw [hgoal]
    rw [← q2] at hol
    simp [h1, n1, n1', hl0, hX2, hX3]
    refine callK.of hhe ?_
    rintro v σ2 ⟨rfl, c, d, rfl⟩
    rw [hpe, ← hL3]
    have hl2 := (putL_at hk L3 c d (σ.upd p X)).l
    unfold lkO at hl2
    by_cases hc0 : code = 0
    · have ha0 : ans = [] := List.eq_nil_of_length_eq_zero (by
        by_cases h0 : 0 < ans.length
        · exact absurd ⟨hc0, h0⟩ hc
        · omega)
      subst ha0
      simp [hc0, hl2, n1, n1', bytesA_nil]
      repeat' with_reducible apply And.intro
      all_goals
        have hat3 := putL_at hk L3 c d (σ.upd p X)
        have hl3 := hat3.l
        unfold lkO at hl3
        refine callK.of (hst L3 c d _ hat3) ?_
        rintro v σ4 ⟨rfl, rfl⟩
        rw [q1]
        by_cases h4 : e'.st = 4
        · rw [if_pos h4]
          simp [h4, hl3]
          refine callK.of (hak L3 c d _ hat3) ?_
          rintro v σ5 ⟨⟨kk, rfl⟩, rfl⟩
          rw [put_o hk hat3, putL_putL]
          simp
          refine callK.of (lsay_calls k hk { L3 with o := (L3.o.ask 40).1 } c d false (L3.o.ask 40).2 q3 (by omega) _ (putL_at hk { L3 with o := (L3.o.ask 40).1 } c d (σ.upd p X))) ?_
          rintro v σ6 ⟨rfl, c2, d2, rfl⟩
          rw [putL_putL]
          simp
          exact ⟨_, AV.le_refl _, _, putL_sub hsub, rfl, c2, d2, by rw [q1]⟩
        · have h4' : ¬ (e'.st : Int) = 4 := by omega
          rw [if_neg h4]
          simp [h4']
          exact ⟨_, AV.le_refl _, _, putL_sub hsub, rfl, c, d, rfl⟩
    · have hc0' : ¬ (code : Int) = 0 := by omega
      simp [hc0, hc0', hl2, n1, n1']
      repeat' with_reducible apply And.intro
      all_goals
        have hat3 := putL_at hk L3 c d (σ.upd p X)
        have hl3 := hat3.l
        unfold lkO at hl3
        refine callK.of (hst L3 c d _ hat3) ?_
        rintro v σ4 ⟨rfl, rfl⟩
        rw [q1]
        by_cases h4 : e'.st = 4
        · rw [if_pos h4]
          simp [h4, hl3]
          refine callK.of (hak L3 c d _ hat3) ?_
          rintro v σ5 ⟨⟨kk, rfl⟩, rfl⟩
          rw [put_o hk hat3, putL_putL]
          simp
          refine callK.of (lsay_calls k hk { L3 with o := (L3.o.ask 40).1 } c d false (L3.o.ask 40).2 q3 (by omega) _ (putL_at hk { L3 with o := (L3.o.ask 40).1 } c d (σ.upd p X))) ?_
          rintro v σ6 ⟨rfl, c2, d2, rfl⟩
          rw [putL_putL]
          simp
          exact ⟨_, AV.le_refl _, _, putL_sub hsub, rfl, c2, d2, by rw [q1]⟩
        · have h4' : ¬ (e'.st : Int) = 4 := by omega
          rw [if_neg h4]
          simp [h4']
          exact ⟨_, AV.le_refl _, _, putL_sub hsub, rfl, c, d, rfl⟩
end Go.Proofs.YteaidaolablegaaGreatDoor
/-
  The link: its mode; what comes.
-/
namespace Go.Proofs.YteaidaolablegaaGreatDoor
open Go Go.AL

theorem ready_d (n : Nat) : decide ((n : Int) = 3) = decide (n = 3) := by rw [decide_eq_decide]; omega
set_option maxRecDepth 8000 in
theorem both1_calls (k : Bk) (L : Lk) (a b : Bool) (p : Nat) (o : UInt8) (σ : Store) (h : LkAt k L a b σ) (hp : σ p = some [ptrA k.l]) :
    ACalls Tryz.prog 116 [byteA o, ptrA p] σ fun v σ' => v = .lit (.bool (decide (L.o.st 0 o.toNat = 1) && decide (L.o.st 1 o.toNat = 1))) ∧ σ' = σ := by
  have hl0 := h.l
  unfold lkO at hl0
  have h0 := oon_calls k.o 0 L.o o (.inl rfl) σ h.o
  have h1 := oon_calls k.o 1 L.o o (.inr rfl) σ h.o
  rw [byteA_lit] at h0 h1
  refine ACalls.of_awp follows (st := st116) (plans := pl116) (n := 18) Tryz.func116 rfl (by kernel_rfl) (by kernel_rfl) (by kernel_rfl) ?_
  simp [byteA, hp, hl0]
  refine callK.of h0 ?_
  rintro v σ1 ⟨rfl, rfl⟩
  by_cases c0 : L.o.st 0 o.toNat = 1
  · simp [c0, hp, hl0]
    refine callK.of h1 ?_
    rintro v σ2 ⟨rfl, rfl⟩
    simp [c0]
  · simp [c0]
set_option maxRecDepth 8000 in
set_option maxHeartbeats 1000000 in
theorem modeNow_calls (k : Bk) (L : Lk) (a b : Bool) (σ : Store) (h : LkAt k L a b σ) :
    ACalls Tryz.prog 102 [ptrA k.l] σ fun v σ' => v = .lit (.int .i64 L.modeNow) ∧ σ' = σ := by
  have hl0 := h.l
  unfold lkO at hl0
  refine ACalls.of_awp follows (st := st102) (plans := pl102) (n := 30) Tryz.func102 rfl (by kernel_rfl) (by kernel_rfl) (by kernel_rfl) ?_
  simp
  intro p hp
  obtain ⟨n1, n2, n3, n4, n5⟩ := h.ne hp
  have hp1 := h.other hp [.lit (.pointer (some ⟨k.l, 0, none⟩))]
  have hsub := sub_upd_self σ p [.lit (.pointer (some ⟨k.l, 0, none⟩))] hp
  have h40 := oon_calls k.o 0 L.o 40 (.inl rfl) _ hp1.o
  have h24 := oon_calls k.o 0 L.o 24 (.inl rfl) _ hp1.o
  have hr := ready_calls k.e L.e a b _ hp1.e
  have b0 := both1_calls k L a b p 0 _ hp1 (by simp)
  have b25 := both1_calls k L a b p 25 _ hp1 (by simp)
  have e40 : (40 : UInt8).toNat = 40 := rfl
  have e24 : (24 : UInt8).toNat = 24 := rfl
  have e25 : (25 : UInt8).toNat = 25 := rfl
  have e0 : (0 : UInt8).toNat = 0 := rfl
  rw [byteA_lit, e40] at h40
  rw [byteA_lit, e24] at h24
  rw [byteA_lit, e0] at b0
  rw [byteA_lit, e25] at b25
  unfold Lk.modeNow
  simp [hl0, n1]
  refine callK.of h40 ?_
  rintro v σ1 ⟨rfl, rfl⟩
  by_cases c40 : L.o.st 0 40 = 1
  · simp [c40, hl0, n1]
    refine callK.of hr ?_
    rintro v σ2 ⟨rfl, rfl⟩
    by_cases c3 : L.e.st = 3
    · simp [c3]
      exact hsub
    · simp [c3]
      exact hsub
  · simp [c40]
    refine callK.of b0 ?_
    rintro v σ2 ⟨rfl, rfl⟩
    by_cases c0 : L.o.st 0 0 = 1 ∧ L.o.st 1 0 = 1
    case neg =>
      have hf : (decide (L.o.st 0 0 = 1) && decide (L.o.st 1 0 = 1)) = false := by simpa using c0
      rw [hf, if_neg (fun h => c0 ⟨h.1, h.2.1⟩)]
      simp
      exact hsub
    have hf0 : (decide (L.o.st 0 0 = 1) && decide (L.o.st 1 0 = 1)) = true := by simp [c0.1, c0.2]
    rw [hf0]
    simp
    refine callK.of b25 ?_
    rintro v σ2 ⟨rfl, rfl⟩
    by_cases c25 : L.o.st 0 25 = 1 ∧ L.o.st 1 25 = 1
    case neg =>
      have hf : (decide (L.o.st 0 25 = 1) && decide (L.o.st 1 25 = 1)) = false := by simpa using c25
      rw [hf, if_neg (fun h => c25 ⟨h.2.2.1, h.2.2.2.1⟩)]
      simp
      exact hsub
    have hf25 : (decide (L.o.st 0 25 = 1) && decide (L.o.st 1 25 = 1)) = true := by simp [c25.1, c25.2]
    rw [hf25]
    simp [hl0, n1]
    refine callK.of h24 ?_
    rintro v σ2 ⟨rfl, rfl⟩
    by_cases c24 : L.o.st 0 24 = 1
    · rw [if_pos ⟨c0.1, c0.2, c25.1, c25.2, c24⟩]
      simp [c24]
      exact hsub
    · simp [c24]
      exact hsub
set_option maxRecDepth 8000 in
theorem settle_calls (k : Bk) (hk : k.Ok) (L : Lk) (a b : Bool) (σ : Store) (h : LkAt k L a b σ) :
    ACalls Tryz.prog 83 [ptrA k.l] σ fun v σ' => v = .tuple [] ∧ LkTo k L.settle σ σ' := by
  have hl0 := h.l
  unfold lkO at hl0
  have hm := modeNow_calls k L a b σ h
  unfold Lk.settle
  refine ACalls.of_awp follows (st := st83) (plans := pl83) (n := 20) Tryz.func83 rfl (by kernel_rfl) (by kernel_rfl) (by kernel_rfl) ?_
  simp
  refine callK.of hm ?_
  rintro v σ1 ⟨rfl, rfl⟩
  by_cases c : L.modeNow = L.mode
  · rw [if_pos c]
    simp [hl0, c]
    exact ⟨_, AV.le_refl _, _, Store.sub_refl _, rfl, a, b, (putL_self h).symm⟩
  · have c' : ¬ (L.modeNow : Int) = (L.mode : Int) := by omega
    rw [if_neg c]
    have hpl := put_l hk h L.out L.seq L.modeNow
    unfold lkO at hpl
    have hat := putL_at hk { L with mode := L.modeNow } a b σ1
    simp [hl0, c']
    rw [hpl]
    have hdr := mdrop_calls k.m L.mp false _ hat.m
    refine callK.of hdr ?_
    rintro v σ2 ⟨rfl, rfl⟩
    rw [put_m hk hat, putL_putL]
    simp
    exact ⟨_, AV.le_refl _, _, Store.sub_refl _, rfl, a, b, rfl⟩
theorem kind_eq (c : UInt8) (hc : c.toNat ≤ 8) : (namesL.getD c.toNat [] == [51, 50, 55, 48, 45, 68, 65, 84, 65]) = decide (kindOf c = 1) ∧ (namesL.getD c.toNat [] == [78, 86, 84, 45, 68, 65, 84, 65]) = decide (kindOf c = 2) ∧ (namesL.getD c.toNat [] == [82, 69, 83, 80, 79, 78, 83, 69]) = decide (kindOf c = 3) := by
  have hx : c = UInt8.ofNat c.toNat := by simp
  have h9 : c.toNat = 0 ∨ c.toNat = 1 ∨ c.toNat = 2 ∨ c.toNat = 3 ∨ c.toNat = 4 ∨ c.toNat = 5 ∨ c.toNat = 6 ∨ c.toNat = 7 ∨ c.toNat = 8 := by omega
  rcases h9 with h | h | h | h | h | h | h | h | h <;> rw [h] at hx <;> subst hx <;> decide
theorem kindOf_cases (c : UInt8) : kindOf c = 1 ∨ kindOf c = 2 ∨ kindOf c = 3 ∨ kindOf c = 4 := by
  unfold kindOf
  repeat' split
  all_goals simp
theorem parseF_right {l : List UInt8} {h : Hd} {r : List UInt8} (e : parseF l = some (h, r)) : h.right = true ∧ h.ty.toNat ≤ 8 := by
  have hr : h.right = true := by
    unfold parseF at e
    split at e
    · split at e
      · rename_i hh
        simp only [Option.some.injEq, Prod.mk.injEq] at e
        rw [← e.1]; exact hh
      · cases e
    · cases e
  refine ⟨hr, ?_⟩
  unfold Hd.right at hr
  simp at hr
  exact hr.1
set_option maxRecDepth 8000 in
set_option maxHeartbeats 1000000 in
theorem told_calls (k : Bk) (L : Lk) (a b : Bool) (p : List UInt8) (hp8 : p.length ≤ 100000) (σ : Store) (h : LkAt k L a b σ) :
    ACalls Tryz.prog 81 [ptrA k.l, .agg [.list false 1 (bytesA p), .lit (.bool false)]] σ fun v σ' => v = leA (toldF L.mode p) ∧ σ' = σ := by
  have hl0 := h.l
  unfold lkO at hl0
  have hpa := fun τ => parse_calls false p (by omega) τ
  refine ACalls.of_awp follows (st := st81) (plans := pl81) (n := 50) Tryz.func81 rfl (by kernel_rfl) (by kernel_rfl) (by kernel_rfl) ?_
  simp
  intro q hq
  obtain ⟨n1, n2, n3, n4, n5⟩ := h.ne hq
  intro r hr
  rw [ite_none] at hr
  obtain ⟨hrq, hr⟩ := hr
  have hqr : ¬ q = r := fun e => hrq e.symm
  obtain ⟨m1, m2, m3, m4, m5⟩ := h.ne hr
  by_cases c1 : L.mode = 1
  · have ht : toldF L.mode p = ⟨1, p, .zero, false⟩ := by unfold toldF; rw [if_pos c1]
    rw [ht]
    simp [hl0, n1, m1, c1, hqr, hrq]
    exact ⟨le_of_eq rfl, by (intro q; simp only [Store.upd, Store.del]; (repeat' split) <;> first | exact Or.inr rfl | exact Or.inl rfl | (exfalso; omega) | (left; subst_vars; assumption) | simp_all)⟩
  have c1' : ¬ (L.mode : Int) = 1 := by omega
  have ht : toldF L.mode p = match parseF p with
    | some (h, r) => ⟨kindOf h.ty, r, h, true⟩
    | Option.none => ⟨6, p, .zero, false⟩ := by unfold toldF; rw [if_neg c1]; rfl
  rw [ht]
  simp [hl0, n1, m1, c1', hqr, hrq]
  refine callK.of (hpa _) ?_
  rintro v σ1 ⟨rfl, hv⟩
  cases hpf : parseF p with
  | none =>
    rw [hpf] at hv
    obtain ⟨kk, hk0, rfl⟩ := hv
    simp [hk0, hdL, byteA, Hd.zero]
    intro s hs
    simp only [ite_none] at hs
    obtain ⟨hsr, hsq, hs⟩ := hs
    have hrs : ¬ r = s := fun e => hsr e.symm
    have hqs : ¬ q = s := fun e => hsq e.symm
    simp [hsr, hsq, hrs, hqs, hqr, hrq]
    exact ⟨le_of_eq rfl, by (intro q; simp only [Store.upd, Store.del]; (repeat' split) <;> first | exact Or.inr rfl | exact Or.inl rfl | (exfalso; omega) | (left; subst_vars; assumption) | simp_all)⟩
  | some x =>
    obtain ⟨⟨ty, req, resp, seq⟩, rr⟩ := x
    rw [hpf] at hv
    simp only at hv
    subst hv
    obtain ⟨_, h8⟩ := parseF_right hpf
    dsimp only at h8
    have hnm := fun τ => hname_calls ty h8 τ
    rw [byteA_lit] at hnm
    obtain ⟨k1, k2, k3⟩ := kind_eq ty h8
    have hbt := fun X Y : List UInt8 => toList_mk X
    simp [hdL, byteA]
    intro s hs
    simp only [ite_none] at hs
    obtain ⟨hsr, hsq, hs⟩ := hs
    have hrs : ¬ r = s := fun e => hsr e.symm
    have hqs : ¬ q = s := fun e => hsq e.symm
    refine callK.of (hnm _) ?_
    rintro v σ2 ⟨rfl, rfl⟩
    have kc := kindOf_cases ty
    generalize namesL.getD ty.toNat [] = nm at *
    generalize hkd : kindOf ty = kd at *
    rcases kc with rfl | rfl | rfl | rfl
    all_goals
      simp [toList_mk, k1, k2, k3, hsr, hsq, hrs, hqs, hqr, hrq]
      exact ⟨le_of_eq rfl, by (intro q; simp only [Store.upd, Store.del]; (repeat' split) <;> first | exact Or.inr rfl | exact Or.inl rfl | (exfalso; omega) | (left; subst_vars; assumption) | simp_all)⟩
end Go.Proofs.YteaidaolablegaaGreatDoor
/-
  The link: an event of the line.
-/
namespace Go.Proofs.YteaidaolablegaaGreatDoor
open Go Go.AL

theorem sub_out (L : Lk) (ev : Ev) (hs : Small L.e) (hd : ev.data.length ≤ 9000) : (L.sub ev).out.length ≤ L.out.length + 24020 := by
  have hg := hearG_len L.e hs ev.opt ev.data hd
  have he := esc_length (hearG L.e ev.opt ev.data).1
  have hb : (subBytes ev.opt (hearG L.e ev.opt ev.data).1).length ≤ 24005 := by simp [subBytes]; omega
  have h1 : (L.sub1 ev).out.length ≤ L.out.length + 24005 := by
    unfold Lk.sub1
    dsimp only
    split
    · simp; omega
    · omega
  have ha := oask_len L.o 40
  unfold Lk.sub
  split
  · omega
  split
  · rw [say_out]
    show (L.sub1 ev).out.length + _ ≤ _
    omega
  · omega
theorem hear_out (L : Lk) (v o : UInt8) : (L.hear v o).out.length ≤ L.out.length + 3 := by
  have hh := ohear_len L.o v o
  unfold Lk.hear
  split
  · rw [say_out]; show L.out.length + _ ≤ _; omega
  · show (Lk.out (Lk.say _ _)).length ≤ _
    rw [say_out]; show L.out.length + _ ≤ _; omega
set_option maxRecDepth 8000 in
set_option maxHeartbeats 2000000 in
theorem ltake_calls (k : Bk) (hk : k.Ok) (L : Lk) (a b : Bool) (ev : Ev) (hl : L.out.length ≤ 100000000000) (hd : ev.data.length ≤ 9000) (hmp : ev.kind = 0 → L.mp.length + ev.data.length ≤ 8192) (hmp8 : L.mp.length ≤ 8192) (hs : Small L.e) (hok : EOk L.e) (σ : Store) (h : LkAt k L a b σ) :
    ACalls Tryz.prog 62 [ptrA k.l, evA ev] σ fun v σ' => v = .tuple [leA (L.take ev).1, .lit (.bool (L.take ev).2.1)] ∧ LkTo k (L.take ev).2.2 σ σ' := by
  have hl0 := h.l
  unfold lkO at hl0
  have hz : leA LE.none = .agg [.lit (.int .i64 0), .list false 1 [], .lit (.int .u8 0), .lit (.int .u8 0), .lit (.int .u8 0), .lit (.int .u16 0), .lit (.bool false)] := rfl
  have hse := fun L' c d τ (ht : LkAt k L' c d τ) => settle_calls k hk L' c d τ ht
  refine ACalls.of_awp follows (st := st62) (plans := pl62) (n := 57) Tryz.func62 rfl (by kernel_rfl) (by kernel_rfl) (by kernel_rfl) ?_
  simp [evA, byteA]
  intro p hp
  obtain ⟨n1, n2, n3, n4, n5⟩ := h.ne hp
  have n1' : ¬ p = k.l := fun e => n1 e.symm
  have hev : evA ev = .agg [.lit (.int .i64 ev.kind), .lit (.int .u8 ev.verb.toNat), .lit (.int .u8 ev.opt.toNat), .list false 1 (bytesA ev.data), .lit (.bool ev.long), .lit (.bool ev.broken)] := rfl
  generalize hX : [AV.lit (.int .i64 ev.kind), .lit (.int .u8 ev.verb.toNat), .lit (.int .u8 ev.opt.toNat), .list false 1 (bytesA ev.data), .lit (.bool ev.long), .lit (.bool ev.broken)] = X at *
  have hX0 : X[0]? = some (AV.lit (.int .i64 ev.kind)) := by rw [← hX]; rfl
  have hX1 : X[1]? = some (AV.lit (.int .u8 ev.verb.toNat)) := by rw [← hX]; rfl
  have hX3 : X[3]? = some (AV.list false 1 (bytesA ev.data)) := by rw [← hX]; rfl
  have hXl : 6 ≤ X.length := by rw [← hX]; exact Nat.le_refl 6
  have hXt : X.take 6 = X := by rw [← hX]; rfl
  have hmk : mkAV true X = some (.agg X) := by rw [← hX]; rfl
  have hXs : (AV.agg X).share = .agg X := by rw [← hX]; rfl
  have hp1 := h.other hp X
  intro q hq
  rw [ite_none] at hq
  obtain ⟨hqp, hq⟩ := hq
  have hpq : ¬ p = q := fun e => hqp e.symm
  obtain ⟨m1, m2, m3, m4, m5⟩ := h.ne hq
  have m1' : ¬ q = k.l := fun e => m1 e.symm
  have hZ : [AV.lit (.int .i64 0), .list true 1 [], .lit (.int .u8 0), .lit (.int .u8 0), .lit (.int .u8 0), .lit (.int .u16 0), .lit (.bool false)].length = 7 := rfl
  generalize hZd : [AV.lit (.int .i64 0), .list true 1 [], .lit (.int .u8 0), .lit (.int .u8 0), .lit (.int .u8 0), .lit (.int .u16 0), .lit (.bool false)] = Z at *
  have hZl : 7 ≤ Z.length := by omega
  have hp2 := hp1.other (p := q) (by rw [supd_apply, if_neg hqp]; exact hq) Z
  have hsub : ∀ Y, Store.sub σ (((σ.upd p X).upd q Z).upd q Y) := fun Y => by (intro q; simp only [Store.upd, Store.del]; (repeat' split) <;> first | exact Or.inr rfl | exact Or.inl rfl | (exfalso; omega) | (left; subst_vars; assumption) | simp_all)
  have hsub0 : Store.sub σ ((σ.upd p X).upd q Z) := by (intro q; simp only [Store.upd, Store.del]; (repeat' split) <;> first | exact Or.inr rfl | exact Or.inl rfl | (exfalso; omega) | (left; subst_vars; assumption) | simp_all)
  -- the end: nothing is told
  have hend : ∀ (V : AV) L' c d Y, ∃ v', V.le v' ∧ ∃ x, x.sub ((putL k L' c d ((σ.upd p X).upd q Z)).upd q Y) ∧ v' = V ∧ LkTo k L' σ x := fun V L' c d Y =>
    ⟨_, AV.le_refl _, putL k L' c d σ, by
      intro x
      rw [supd_apply]
      by_cases hx : x = q
      · left
        rw [hx, putL_apply, if_neg fun e => m5 e.symm, if_neg fun e => m4 e.symm, if_neg fun e => m3 e.symm, if_neg fun e => m2 e.symm, if_neg m1', hq]
      · rw [if_neg hx]
        exact putL_sub hsub0 x, rfl, c, d, rfl⟩
  have hqat : ∀ L' c d, (putL k L' c d ((σ.upd p X).upd q Z)) q = some Z := fun L' c d => by
    rw [putL_apply, if_neg fun e => m5 e.symm, if_neg fun e => m4 e.symm, if_neg fun e => m3 e.symm, if_neg fun e => m2 e.symm, if_neg m1', supd_apply, if_pos rfl]
  by_cases k2 : ev.kind = 2
  · have ht : L.take ev = (.none, false, (L.hear ev.verb ev.opt).settle) := by unfold Lk.take; rw [if_pos k2]
    have hlh := lhear_calls k hk L a b ev (by omega) _ hp2
    rw [hev] at hlh
    rw [ht]
    simp [hpq, hqp, hX0, k2, hXl, hXt, hmk, hXs]
    refine callK.of hlh ?_
    rintro v σ1 ⟨rfl, c, d, rfl⟩
    simp
    refine callK.of (hse _ _ _ _ (putL_at hk _ c d _)) ?_
    rintro v σ2 ⟨rfl, c2, d2, rfl⟩
    rw [putL_putL]
    subst hZd
    simp [hqat]
    exact hend _ _ _ _ _
  by_cases k3 : ev.kind = 3
  · have ht : L.take ev = (.none, false, (L.sub ev).settle) := by unfold Lk.take; rw [if_neg k2, if_pos k3]
    have hlh := lsub_calls k hk L a b ev hl hd hs hok _ hp2
    rw [hev] at hlh
    rw [ht]
    simp [hpq, hqp, hX0, k2, k3, hXl, hXt, hmk, hXs]
    refine callK.of hlh ?_
    rintro v σ1 ⟨rfl, c, d, rfl⟩
    simp
    refine callK.of (hse _ _ _ _ (putL_at hk _ c d _)) ?_
    rintro v σ2 ⟨rfl, c2, d2, rfl⟩
    rw [putL_putL]
    subst hZd
    simp [hqat]
    exact hend _ _ _ _ _
  by_cases m0 : L.mode = 0
  · have ht : L.take ev = (⟨2, ev.data, .zero, false⟩, decide (ev.kind = 0), L) := by unfold Lk.take; rw [if_neg k2, if_neg k3, if_pos m0]
    rw [ht]
    subst hZd
    simp [hpq, hqp, hX0, k2, k3, m0, hXl, hXt, hmk, hXs, hl0, n1, m1, hX3]
    exact ⟨_, le_of_eq rfl, σ, by (intro q; simp only [Store.upd, Store.del]; (repeat' split) <;> first | exact Or.inr rfl | exact Or.inl rfl | (exfalso; omega) | (left; subst_vars; assumption) | simp_all), rfl, a, b, (putL_self h).symm⟩
  have m0' : ¬ (L.mode : Int) = 0 := by omega
  by_cases k0 : ev.kind = 0
  · have ht : L.take ev = (.none, false, ({ L with mp := L.mp ++ ev.data } : Lk).settle) := by unfold Lk.take; rw [if_neg k2, if_neg k3, if_neg m0, if_pos k0]
    have hma := madd_calls k.m L.mp false ev.data (hmp k0) _ hp2.m
    rw [ht]
    simp [hpq, hqp, hX0, k0, m0, m0', hXl, hXt, hmk, hXs, hl0, n1, m1, hX3]
    repeat' with_reducible apply And.intro
    all_goals
      refine callK.of hma ?_
      rintro v σ1 ⟨rfl, rfl⟩
      rw [put_m hk hp2]
      simp
      refine callK.of (hse _ _ _ _ (putL_at hk _ a b _)) ?_
      rintro v σ2 ⟨rfl, c2, d2, rfl⟩
      rw [putL_putL]
      subst hZd
      simp [hqat]
      exact hend _ _ _ _ _
  by_cases kv : ev.verb = 239
  · have ht : L.take ev = (toldF L.mode L.mp, true, { L with mp := [] }) := by unfold Lk.take; rw [if_neg k2, if_neg k3, if_neg m0, if_neg k0, if_pos kv]
    have hme := mend_calls k.m L.mp false _ hp2.m
    have hv : (ev.verb.toNat : Int) = 239 := by rw [kv]; rfl
    have hto := fun c d τ (htt : LkAt k { L with mp := [] } c d τ) => told_calls k { L with mp := [] } c d L.mp (by omega) τ htt
    rw [ht]
    simp [hpq, hqp, hX0, hX1, k0, k2, k3, m0, m0', hv, hXl, hXt, hmk, hXs, hl0, n1, m1, hX3]
    refine callK.of hme ?_
    rintro v σ1 ⟨rfl, rfl⟩
    rw [put_m hk hp2]
    simp
    refine callK.of (hto _ _ _ (putL_at hk _ a b _)) ?_
    rintro v σ2 ⟨rfl, rfl⟩
    generalize toldF L.mode L.mp = te
    obtain ⟨tk, td, ⟨ty, req, resp, seq⟩, th⟩ := te
    subst hZd
    simp [hqat, leA, hdL, byteA]
    exact hend _ _ _ _ _
  · have ht : L.take ev = (.none, false, L.settle) := by unfold Lk.take; rw [if_neg k2, if_neg k3, if_neg m0, if_neg k0, if_neg kv]
    have hv : ¬ (ev.verb.toNat : Int) = 239 := u8_ne (n := 239) (by omega) kv
    rw [ht]
    simp [hpq, hqp, hX0, hX1, k0, k2, k3, m0, m0', hv, hXl, hXt, hmk, hXs, hl0, n1, m1, hX3]
    refine callK.of (hse _ _ _ _ hp2) ?_
    rintro v σ2 ⟨rfl, c2, d2, rfl⟩
    subst hZd
    simp [hqat]
    exact hend _ _ _ _ _
end Go.Proofs.YteaidaolablegaaGreatDoor
/-
  The link: all events of some bytes.
-/
namespace Go.Proofs.YteaidaolablegaaGreatDoor
open Go Go.AL

namespace Lk
/-- What is told of these events, each with the events behind it. -/
def tlr (L : Lk) : List Ev → List (LE × List Ev)
  | [] => []
  | ev :: r => if (L.take ev).2.1 = true then ((L.take ev).1, r) :: tlr (L.take ev).2.2 r else tlr (L.take ev).2.2 r
/-- The link behind the next event that is told, or behind all. -/
def adv (L : Lk) : List Ev → Lk
  | [] => L
  | ev :: r => if (L.take ev).2.1 = true then (L.take ev).2.2 else adv (L.take ev).2.2 r
def withOut (L : Lk) (x : List UInt8) : Lk := { L with out := x }
end Lk
theorem say_with (L : Lk) (x : List UInt8) (ms) : ∃ y, (L.withOut x).say ms = (L.say ms).withOut y := ⟨_, rfl⟩
theorem hear_with (L : Lk) (x : List UInt8) (v o : UInt8) : ∃ y, (L.withOut x).hear v o = (L.hear v o).withOut y := by
  unfold Lk.hear
  show ∃ y, (if (L.o.hear v o).1.st 0 40 = 1 then _ else _) = _
  by_cases h : (L.o.hear v o).1.st 0 40 = 1
  · rw [if_pos h, if_pos h]; exact ⟨_, rfl⟩
  · rw [if_neg h, if_neg h]; exact ⟨_, rfl⟩
theorem sub1_with (L : Lk) (x : List UInt8) (ev : Ev) : ∃ y, (L.withOut x).sub1 ev = (L.sub1 ev).withOut y := ⟨_, rfl⟩
theorem sub_with (L : Lk) (x : List UInt8) (ev : Ev) : ∃ y, (L.withOut x).sub ev = (L.sub ev).withOut y := by
  obtain ⟨y, hy⟩ := sub1_with L x ev
  unfold Lk.sub
  rw [hy]
  show ∃ y', (if ev.long = true ∨ ev.broken = true ∨ ¬ L.o.st 0 ev.opt.toNat = 1 then _ else if (L.sub1 ev).e.st = 4 then _ else _) = _
  by_cases h : ev.long = true ∨ ev.broken = true ∨ ¬ L.o.st 0 ev.opt.toNat = 1
  · rw [if_pos h, if_pos h]; exact ⟨_, rfl⟩
  · rw [if_neg h, if_neg h]
    by_cases h2 : (L.sub1 ev).e.st = 4
    · rw [if_pos h2, if_pos h2]; exact ⟨_, rfl⟩
    · rw [if_neg h2, if_neg h2]; exact ⟨_, rfl⟩
theorem settle_with (L : Lk) (x : List UInt8) : (L.withOut x).settle = L.settle.withOut x := by
  unfold Lk.settle
  show (if L.modeNow = L.mode then _ else _) = _
  by_cases h : L.modeNow = L.mode
  · rw [if_pos h, if_pos h]
  · rw [if_neg h, if_neg h]; rfl
theorem take_with (L : Lk) (x : List UInt8) (ev : Ev) : ∃ y, (L.withOut x).take ev = ((L.take ev).1, (L.take ev).2.1, (L.take ev).2.2.withOut y) := by
  unfold Lk.take
  split
  · obtain ⟨y, hy⟩ := hear_with L x ev.verb ev.opt
    rw [hy, settle_with]; exact ⟨y, rfl⟩
  split
  · obtain ⟨y, hy⟩ := sub_with L x ev
    rw [hy, settle_with]; exact ⟨y, rfl⟩
  show ∃ y, (if L.mode = 0 then _ else if ev.kind = 0 then _ else if ev.verb = 239 then _ else _) = _
  split
  · exact ⟨x, rfl⟩
  split
  · refine ⟨x, ?_⟩
    show (_, _, Lk.settle (Lk.withOut { L with mp := L.mp ++ ev.data } x)) = _
    rw [settle_with]
  split
  · exact ⟨x, rfl⟩
  · refine ⟨x, ?_⟩
    rw [settle_with]
theorem tlr_with (r : List Ev) : ∀ (L : Lk) (x : List UInt8), (L.withOut x).tlr r = L.tlr r := by
  induction r with
  | nil => intros; rfl
  | cons ev r ih =>
    intro L x
    obtain ⟨y, hy⟩ := take_with L x ev
    simp only [Lk.tlr, hy]
    rw [ih]
/-- What an end becomes. -/
theorem hearG_ok (e : Ng) (hs : Small e) (hk : EOk e) (o : UInt8) (l : List UInt8) : Small (hearG e o l).2.2 ∧ EOk (hearG e o l).2.2 := by
  have key : ∀ e' : Ng, e'.ty = e.ty → e'.dev = e.dev → e'.fns = e.fns → e'.agreed.length ≤ 1000 → Small e' ∧ EOk e' := fun e' h1 h2 h3 h4 =>
    ⟨⟨h1 ▸ hs.ty, h2 ▸ hs.dev, h3 ▸ hs.fns, h4⟩, fun x hx => hk x (h3 ▸ hx)⟩
  have same := key e rfl rfl rfl hs.agreed
  unfold hearG
  split
  · split <;> exact same
  split
  · unfold hearF
    split
    · exact same
    · split
      · split
        · exact same
        · exact key _ rfl rfl rfl (Nat.zero_le _)
      split
      · unfold devF
        split
        · exact same
        · repeat' split
          all_goals first | exact same | exact key _ rfl rfl rfl hs.agreed | exact key _ rfl rfl rfl (Nat.zero_le _)
      split
      · unfold fnF
        split
        · exact same
        · rename_i k2 _
          have := sortL_len k2
          repeat' split
          all_goals first | exact same | exact key _ rfl rfl rfl hs.agreed | exact key _ rfl rfl rfl (Nat.zero_le _) | exact key _ rfl rfl rfl (show (sortL k2).length ≤ 1000 by omega)
      · exact same
  · exact same
def sumD (r : List Ev) : Nat := (r.map fun ev => if ev.kind = 0 then ev.data.length else 0).sum
/-- Room enough for these events. -/
structure LOk (L : Lk) (r : List Ev) : Prop where
  out : L.out.length + 30000 * r.length ≤ 90000000000
  data : ∀ ev ∈ r, ev.data.length ≤ 9000
  mp : L.mp.length + sumD r ≤ 8192
  small : Small L.e
  ok : EOk L.e
theorem settle_e (L : Lk) : L.settle.e = L.e ∧ L.settle.out = L.out ∧ L.settle.mp.length ≤ L.mp.length ∧ L.settle.rd = L.rd ∧ L.settle.seq = L.seq := by
  unfold Lk.settle
  split <;> simp
theorem hear_e (L : Lk) (v o : UInt8) : ((L.hear v o).e = L.e ∨ (L.hear v o).e = L.e.reset) ∧ (L.hear v o).mp = L.mp ∧ (L.hear v o).rd = L.rd := by
  unfold Lk.hear
  split
  · exact ⟨.inl rfl, rfl, rfl⟩
  · exact ⟨.inr rfl, rfl, rfl⟩
theorem sub_e (L : Lk) (ev : Ev) : ((L.sub ev).e = L.e ∨ (L.sub ev).e = (hearG L.e ev.opt ev.data).2.2) ∧ (L.sub ev).mp = L.mp ∧ (L.sub ev).rd = L.rd := by
  unfold Lk.sub
  split
  · exact ⟨.inl rfl, rfl, rfl⟩
  split
  · exact ⟨.inr rfl, rfl, rfl⟩
  · exact ⟨.inr rfl, rfl, rfl⟩
theorem take_ok {L : Lk} {ev : Ev} {r : List Ev} (h : LOk L (ev :: r)) : LOk (L.take ev).2.2 r ∧ (L.take ev).2.2.rd = L.rd := by
  obtain ⟨h1, h2, h3, h4, h5⟩ := h
  have hd := h2 ev (by simp)
  have h2' : ∀ ev ∈ r, ev.data.length ≤ 9000 := fun x hx => h2 x (by simp [hx])
  have hsum : sumD (ev :: r) = (if ev.kind = 0 then ev.data.length else 0) + sumD r := by simp [sumD]
  rw [hsum] at h3
  simp only [List.length_cons] at h1
  have so := sub_out L ev h4 hd
  have ho := hear_out L ev.verb ev.opt
  unfold Lk.take
  split
  · dsimp only
    obtain ⟨q1, q2, q3, q4, _⟩ := settle_e (L.hear ev.verb ev.opt)
    obtain ⟨p1, p2, p3⟩ := hear_e L ev.verb ev.opt
    refine ⟨⟨by rw [q2]; omega, h2', by rw [p2] at q3; omega, ?_, ?_⟩, by rw [q4, p3]⟩
    · rw [q1]; rcases p1 with e | e <;> rw [e]
      · exact h4
      · exact h4.ofReset
    · rw [q1]; rcases p1 with e | e <;> rw [e]
      · exact h5
      · exact h5
  split
  · dsimp only
    obtain ⟨q1, q2, q3, q4, _⟩ := settle_e (L.sub ev)
    obtain ⟨p1, p2, p3⟩ := sub_e L ev
    have hg := hearG_ok L.e h4 h5 ev.opt ev.data
    refine ⟨⟨by rw [q2]; omega, h2', by rw [p2] at q3; omega, ?_, ?_⟩, by rw [q4, p3]⟩
    · rw [q1]; rcases p1 with e | e <;> rw [e]
      · exact h4
      · exact hg.1
    · rw [q1]; rcases p1 with e | e <;> rw [e]
      · exact h5
      · exact hg.2
  split
  · dsimp only
    exact ⟨⟨by omega, h2', by omega, h4, h5⟩, rfl⟩
  split
  · dsimp only
    rename_i k0
    rw [if_pos k0] at h3
    obtain ⟨q1, q2, q3, q4, _⟩ := settle_e { L with mp := L.mp ++ ev.data }
    have q3' : (Lk.settle { L with mp := L.mp ++ ev.data }).mp.length ≤ (L.mp ++ ev.data).length := q3
    rw [List.length_append] at q3'
    have q2' : (Lk.settle { L with mp := L.mp ++ ev.data }).out = L.out := q2
    exact ⟨⟨by rw [q2']; omega, h2', by omega, by rw [q1]; exact h4, by rw [q1]; exact h5⟩, by rw [q4]⟩
  split
  · dsimp only
    exact ⟨⟨by show L.out.length + 30000 * r.length ≤ _; omega, h2', by simp; omega, h4, h5⟩, rfl⟩
  · dsimp only
    obtain ⟨q1, q2, q3, q4, _⟩ := settle_e L
    exact ⟨⟨by rw [q2]; omega, h2', by omega, by rw [q1]; exact h4, by rw [q1]; exact h5⟩, q4⟩
end Go.Proofs.YteaidaolablegaaGreatDoor
