/-
  Headers and records.
-/
import Derived.Test.YteaidaolablegaaGreatDoorPart13
namespace Go.Proofs.YteaidaolablegaaGreatDoor
open Go Go.AL

structure Hd where
  ty : UInt8
  req : UInt8
  resp : UInt8
  seq : Nat
  deriving DecidableEq
def hdL (h : Hd) : List AV := [byteA h.ty, byteA h.req, byteA h.resp, .lit (.int .u16 h.seq)]
def Hd.zero : Hd := ⟨0, 0, 0, 0⟩
def Hd.right (h : Hd) : Bool := decide (h.ty.toNat ≤ 8) && decide (h.resp.toNat ≤ if h.ty = 2 then 1 else 2)
set_option maxRecDepth 8000 in
theorem right_calls (h : Hd) (σ : Store) : ACalls Tryz.prog 66 [.agg (hdL h)] σ fun v σ' => v = .lit (.bool h.right) ∧ σ' = σ := by
  obtain ⟨ty, req, resp, seq⟩ := h
  have t1 := ty.toNat_lt
  have hw : IntKind.i64.wrap (ty.toNat : Int) = (ty.toNat : Int) := wrap_i64 (by omega) (by omega)
  have hw1 : IntKind.u8.wrap 1 = 1 := by decide
  refine ACalls.of_awp follows (st := st66) (plans := pl66) (n := 19) Tryz.func66 rfl (by kernel_rfl) (by kernel_rfl) (by kernel_rfl) ?_
  have h9 : ((ty.toNat : Int) < 9) ↔ ty.toNat ≤ 8 := by omega
  by_cases h2 : ty = 2
  · subst h2
    have hr : Hd.right ⟨2, req, resp, seq⟩ = decide ((resp.toNat : Int) ≤ 1) := by
      unfold Hd.right
      rw [Bool.eq_iff_iff]
      simp
      omega
    rw [hr]
    have hw2 : IntKind.i64.wrap 2 = 2 := by decide
    simp [hdL, byteA, hw1, hw2]
    intro p hp
    exact sub_upd_self _ _ _ hp
  · have n2 : ¬ (ty.toNat : Int) = 2 := u8_ne (n := 2) (by omega) h2
    by_cases h8 : ty.toNat ≤ 8
    · have hr : Hd.right ⟨ty, req, resp, seq⟩ = decide ((resp.toNat : Int) ≤ 2) := by
        unfold Hd.right
        rw [Bool.eq_iff_iff]
        simp [h2, h8]
        omega
      rw [hr]
      simp [hdL, byteA, n2, hw, h9.2 h8, h8]
      intro p hp
      exact sub_upd_self _ _ _ hp
    · have hr : Hd.right ⟨ty, req, resp, seq⟩ = false := by
        unfold Hd.right
        simp [h8]
      have h8' : ¬ ((ty.toNat : Int) < 9) := by omega
      rw [hr]
      simp [hdL, byteA, n2, hw, h8', h8]
      intro p hp
      exact sub_upd_self _ _ _ hp
theorem shl_u8 (a : UInt8) : IntKind.u16.wrap ((a.toNat : Int) * 2 ^ min 8 IntKind.u16.bits) = ((a.toNat * 256 : Nat) : Int) := by
  have := a.toNat_lt
  have hp : (2 : Int) ^ min 8 IntKind.u16.bits = 256 := by decide
  rw [hp]
  unfold IntKind.wrap
  simp [IntKind.signed, IntKind.bits]
  omega
theorem or_u16 (a b : UInt8) : pureBin .or (.int .u16 ((a.toNat * 256 : Nat) : Int)) (.int .u16 (b.toNat : Int)) = some (.int .u16 ((a.toNat * 256 + b.toNat : Nat) : Int)) := by
  have h1 := a.toNat_lt
  have h2 := b.toNat_lt
  have hor : a.toNat * 256 ||| b.toNat = a.toNat * 256 + b.toNat := by
    have := Nat.two_pow_add_eq_or_of_lt (i := 8) h2 a.toNat
    rw [Nat.mul_comm]
    exact this.symm
  have h : IntKind.u16.wrap ((BitVec.ofInt IntKind.u16.bits ((a.toNat * 256 : Nat) : Int) ||| BitVec.ofInt IntKind.u16.bits (b.toNat : Int)).toNat : Int) = ((a.toNat * 256 + b.toNat : Nat) : Int) := by
    have e : (BitVec.ofInt IntKind.u16.bits ((a.toNat * 256 : Nat) : Int) ||| BitVec.ofInt IntKind.u16.bits (b.toNat : Int)).toNat = a.toNat * 256 + b.toNat := by
      show (BitVec.ofInt 16 ((a.toNat * 256 : Nat) : Int) ||| BitVec.ofInt 16 (b.toNat : Int)).toNat = _
      rw [BitVec.ofInt_natCast, BitVec.ofInt_natCast, BitVec.toNat_or, BitVec.toNat_ofNat, BitVec.toNat_ofNat, Nat.mod_eq_of_lt (by omega), Nat.mod_eq_of_lt (by omega)]
      exact hor
    rw [e]
    unfold IntKind.wrap
    simp [IntKind.signed, IntKind.bits]
    omega
  unfold pureBin
  simp only [if_pos]
  rw [h]
/-- The header in front, and what stands behind it. -/
def parseF : List UInt8 → Option (Hd × List UInt8)
  | a :: b :: c :: d :: e :: l => if Hd.right ⟨a, b, c, d.toNat * 256 + e.toNat⟩ = true then some (⟨a, b, c, d.toNat * 256 + e.toNat⟩, l) else none
  | _ => none
def ParseR (l : List UInt8) (σ : Store) (v : AV) (σ' : Store) : Prop := σ' = σ ∧ match parseF l with
  | some (h, r) => v = .tuple [.agg (hdL h), .list true 1 (bytesA r), .lit (.int .i64 0)]
  | none => ∃ k : Nat, k ≠ 0 ∧ v = .tuple [.agg (hdL .zero), .list true 1 [], .lit (.int .i64 k)]
set_option maxRecDepth 8000 in
set_option maxHeartbeats 1000000 in
theorem parse_calls (o : Bool) (l : List UInt8) (hl : l.length ≤ 1000000) (σ : Store) : ACalls Tryz.prog 99 [.list o 1 (bytesA l)] σ (ParseR l σ) := by
  have hz : Hd.zero = ⟨0, 0, 0, 0⟩ := rfl
  by_cases h5 : l.length < 5
  · have hn : parseF l = none := by
      rcases l with _ | ⟨a, _ | ⟨b, _ | ⟨c, _ | ⟨d, _ | ⟨e, l⟩⟩⟩⟩⟩ <;> first | rfl | (simp at h5; omega)
    have h5' : (l.length : Int) < 5 := by omega
    refine ACalls.of_awp follows (st := st99) (plans := pl99) (n := 38) Tryz.func99 rfl (by kernel_rfl) (by kernel_rfl) (by kernel_rfl) ?_
    unfold ParseR
    rw [hn]
    simp [h5']
    intro p hp
    exact ⟨_, AV.le_refl _, _, sub_upd_self _ _ _ hp, rfl, 1, rfl⟩
  · obtain ⟨a, b, c, d, e, r, rfl⟩ : ∃ a b c d e r, l = a :: b :: c :: d :: e :: r := by
      rcases l with _ | ⟨a, _ | ⟨b, _ | ⟨c, _ | ⟨d, _ | ⟨e, l⟩⟩⟩⟩⟩ <;> first | exact ⟨_, _, _, _, _, _, rfl⟩ | (simp at h5; try omega)
    have hc : bytesA (a :: b :: c :: d :: e :: r) = .lit (.int .u8 a.toNat) :: .lit (.int .u8 b.toNat) :: .lit (.int .u8 c.toNat) :: .lit (.int .u8 d.toNat) :: .lit (.int .u8 e.toNat) :: bytesA r := rfl
    have h5' : ¬ ((r.length : Int) + 1 + 1 + 1 + 1 + 1 < 5) := by omega
    have hri := fun τ => right_calls ⟨a, b, c, d.toNat * 256 + e.toNat⟩ τ
    have hcl := fun τ => clone_calls false r τ (by simp at hl; omega)
    have hs := shl_u8 d
    have ho := or_u16 d e
    have hwd : IntKind.u16.wrap (d.toNat : Int) = (d.toNat : Int) := by
      have := d.toNat_lt
      unfold IntKind.wrap
      simp [IntKind.signed, IntKind.bits]; omega
    have hwe : IntKind.u16.wrap (e.toNat : Int) = (e.toNat : Int) := by
      have := e.toNat_lt
      unfold IntKind.wrap
      simp [IntKind.signed, IntKind.bits]; omega
    have htk := htake r
    unfold ParseR
    simp only [parseF]
    simp only [hdL, byteA] at hri
    generalize hS : d.toNat * 256 + e.toNat = S at *
    generalize hT : ((d.toNat * 256 : Nat) : Int) = T at *
    refine ACalls.of_awp follows (st := st99) (plans := pl99) (n := 38) Tryz.func99 rfl (by kernel_rfl) (by kernel_rfl) (by kernel_rfl) ?_
    simp +contextual [ite_free, hc, h5', hwd, hwe, hs, ho, -e_pureBin_9, htk]
    intro p hp q n1 n2 hq
    have hfin : ∀ X Y : List AV, Store.sub σ ((σ.upd p X).upd q Y) := fun X Y => by (intro q; simp only [Store.upd, Store.del]; (repeat' split) <;> first | exact Or.inr rfl | exact Or.inl rfl | (exfalso; omega) | (left; subst_vars; assumption) | simp_all)
    have hfin2 : ∀ X Y Z : List AV, Store.sub σ (((σ.upd p X).upd q Y).upd p Z) := fun X Y Z => by (intro q; simp only [Store.upd, Store.del]; (repeat' split) <;> first | exact Or.inr rfl | exact Or.inl rfl | (exfalso; omega) | (left; subst_vars; assumption) | simp_all)
    refine callK.of (hri _) ?_
    rintro v σ' ⟨rfl, rfl⟩
    cases hr : Hd.right ⟨a, b, c, S⟩
    · simp [n1, n2]
      exact ⟨_, AV.le_refl _, _, hfin2 _ _ _, rfl, 0, rfl⟩
    · simp [n1, n2, hc, htk]
      repeat' with_reducible apply And.intro
      all_goals first
        | omega
        | (refine callK.of (hcl _) ?_
           rintro v σ2 ⟨rfl, rfl⟩
           simp [n1, n2]
           exact ⟨_, AV.le_refl _, _, hfin2 _ _ _, rfl, rfl⟩)
/-! ### What a record's type is called; data up to a mark -/
set_option maxRecDepth 8000 in
theorem hname_calls (c : UInt8) (hc : c.toNat ≤ 8) (σ : Store) : ACalls Tryz.prog 100 [byteA c] σ fun v σ' => v = strS (namesL.getD c.toNat []) ∧ σ' = σ := by
  have w0 : IntKind.i64.wrap 0 = 0 := by decide
  have w1 : IntKind.i64.wrap 1 = 1 := by decide
  have w2 : IntKind.i64.wrap 2 = 2 := by decide
  have w3 : IntKind.i64.wrap 3 = 3 := by decide
  have w4 : IntKind.i64.wrap 4 = 4 := by decide
  have w5 : IntKind.i64.wrap 5 = 5 := by decide
  have w6 : IntKind.i64.wrap 6 = 6 := by decide
  have w7 : IntKind.i64.wrap 7 = 7 := by decide
  have w8 : IntKind.i64.wrap 8 = 8 := by decide
  have hx : c = UInt8.ofNat c.toNat := by simp
  have h9 : c.toNat = 0 ∨ c.toNat = 1 ∨ c.toNat = 2 ∨ c.toNat = 3 ∨ c.toNat = 4 ∨ c.toNat = 5 ∨ c.toNat = 6 ∨ c.toNat = 7 ∨ c.toNat = 8 := by omega
  refine ACalls.of_awp follows (st := st100) (plans := pl100) (n := 9) Tryz.func100 rfl (by kernel_rfl) (by kernel_rfl) (by kernel_rfl) ?_
  rcases h9 with h | h | h | h | h | h | h | h | h <;> rw [h] at hx <;> subst hx
  all_goals
    simp [byteA, w0, w1, w2, w3, w4, w5, w6, w7, w8, namesO]
    exact le_of_eq rfl
/-- Data since the last mark. -/
def mkA (p : List UInt8) (long : Bool) : List AV := [.list true 1 (bytesA p), .lit (.bool long)]
set_option maxRecDepth 8000 in
theorem madd_calls (b : Nat) (p : List UInt8) (o : Bool) (l : List UInt8) (hl : p.length + l.length ≤ 8192) (σ : Store) (hb : σ b = some (mkA p false)) :
    ACalls Tryz.prog 80 [ptrA b, .list o 1 (bytesA l)] σ fun v σ' => v = .tuple [] ∧ σ' = σ.upd b (mkA (p ++ l) false) := by
  unfold mkA at hb
  have hw : IntKind.i64.wrap ((p.length : Int) + (l.length : Int)) = ((p.length + l.length : Nat) : Int) := by rw [wrap_i64 (by omega) (by omega)]; omega
  have hn : ¬ (8192 : Int) < ((p.length + l.length : Nat) : Int) := by omega
  obtain ⟨T, hT⟩ : ∃ T, p.length + l.length = T := ⟨_, rfl⟩
  rw [hT] at hw hn
  have hn2 : ¬ 8192 < T := by omega
  refine ACalls.of_awp follows (st := st80) (plans := pl80) (n := 45) Tryz.func80 rfl (by kernel_rfl) (by kernel_rfl) (by kernel_rfl) ?_
  simp [hb, hw, hn, hn2]
  refine ⟨by omega, by omega, ?_⟩
  rw [← bytesA_append]
  exact Store.sub_refl _
set_option maxRecDepth 8000 in
theorem mdrop_calls (b : Nat) (p : List UInt8) (lg : Bool) (σ : Store) (hb : σ b = some (mkA p lg)) :
    ACalls Tryz.prog 101 [ptrA b] σ fun v σ' => v = .tuple [] ∧ σ' = σ.upd b (mkA [] false) := by
  unfold mkA at hb
  refine ACalls.of_awp follows (st := st101) (plans := pl101) (n := 10) Tryz.func101 rfl (by kernel_rfl) (by kernel_rfl) (by kernel_rfl) ?_
  simp [hb]
  exact Store.sub_refl _
set_option maxRecDepth 8000 in
theorem mend_calls (b : Nat) (p : List UInt8) (lg : Bool) (σ : Store) (hb : σ b = some (mkA p lg)) :
    ACalls Tryz.prog 82 [ptrA b] σ fun v σ' => v = .agg [.list false 1 (bytesA p), .lit (.bool lg)] ∧ σ' = σ.upd b (mkA [] false) := by
  have hb0 := hb
  unfold mkA at hb
  refine ACalls.of_awp follows (st := st82) (plans := pl82) (n := 19) Tryz.func82 rfl (by kernel_rfl) (by kernel_rfl) (by kernel_rfl) ?_
  simp [hb]
  intro q hq
  have hbq : ¬ b = q := by rintro rfl; rw [hb] at hq; cases hq
  simp [hbq, hb]
  intro r hr
  rw [ite_none] at hr
  obtain ⟨hrq, hr⟩ := hr
  have hbr : ¬ b = r := by rintro rfl; rw [hb] at hr; cases hr
  have hqr : ¬ q = r := fun e => hrq e.symm
  have hrb : ¬ r = b := fun e => hbr e.symm
  have hqb : ¬ q = b := fun e => hbq e.symm
  have hdr := mdrop_calls b p lg ((σ.upd q [AV.list true 1 [], AV.lit (Value.bool false)]).upd r [AV.list false 1 (bytesA p), AV.lit (Value.bool lg)]) (by simp [hbq, hbr, hb0])
  refine callK.of hdr ?_
  rintro v σ' ⟨rfl, rfl⟩
  simp [hbq, hbr, hqr, hrq, hrb, hqb]
  (intro q; simp only [Store.upd, Store.del]; (repeat' split) <;> first | exact Or.inr rfl | exact Or.inl rfl | (exfalso; omega) | (left; subst_vars; assumption) | simp_all)
set_option maxRecDepth 8000 in
theorem msize_calls (b : Nat) (p : List UInt8) (σ : Store) (hb : σ b = some (mkA p false)) :
    ACalls Tryz.prog 51 [ptrA b] σ fun v σ' => v = .lit (.int .i64 p.length) ∧ σ' = σ := by
  unfold mkA at hb
  refine ACalls.of_awp follows (st := st51) (plans := pl51) (n := 16) Tryz.func51 rfl (by kernel_rfl) (by kernel_rfl) (by kernel_rfl) ?_
  simp [hb]
theorem mnew_calls (σ : Store) : ACalls Tryz.prog 57 [] σ fun v σ' => ∃ q, σ q = none ∧ v = ptrA q ∧ σ' = σ.upd q (mkA [] false) := by
  refine ACalls.of_awp follows (st := st57) (plans := pl57) (n := 3) Tryz.func57 rfl (by kernel_rfl) (by kernel_rfl) (by kernel_rfl) ?_
  simp
  exact fun p hp => ⟨_, AV.le_refl _, _, Store.sub_refl _, p, hp, rfl, rfl⟩
end Go.Proofs.YteaidaolablegaaGreatDoor
/-
  What an end hears, of any option.
-/
namespace Go.Proofs.YteaidaolablegaaGreatDoor
open Go Go.AL

/-- Lists without doubles of bytes up to 4 are short. -/
theorem nodup_short {l : List UInt8} (hn : l.Nodup) (h4 : ∀ x ∈ l, x.toNat ≤ 4) : l.length ≤ 5 := by
  have hS : (sortL l).Nodup := (show ([0, 1, 2, 3, 4] : List UInt8).Nodup by decide).filter _
  have hm : ∀ x, x ∈ l ↔ x ∈ sortL l := fun x => by
    unfold sortL
    rw [List.mem_filter]
    constructor
    · intro hx
      refine ⟨?_, by simpa using hx⟩
      have h := h4 x hx
      have hx2 : x = UInt8.ofNat x.toNat := by simp
      have hc : x.toNat = 0 ∨ x.toNat = 1 ∨ x.toNat = 2 ∨ x.toNat = 3 ∨ x.toNat = 4 := by omega
      rcases hc with h | h | h | h | h <;> rw [h] at hx2 <;> rw [hx2] <;> decide
    · rintro ⟨_, hx⟩
      simpa using hx
  have := ((List.perm_ext_iff_of_nodup hn hS).2 hm).length_eq
  have := sortL_len l
  omega
def EOk (e : Ng) : Prop := ∀ x ∈ e.fns, x.toNat ≤ 4
def hearG (e : Ng) (opt : UInt8) (l : List UInt8) : List UInt8 × Nat × Ng :=
  if opt = 24 then (if l = [1] then (0 :: e.ty, 0, e) else ([], 4, e)) else if opt = 40 then hearF e l else ([], 5, e)
set_option maxRecDepth 8000 in
set_option maxHeartbeats 1000000 in
theorem hearG_calls (q : Nat) (e : Ng) (o1 o2 o : Bool) (opt : UInt8) (l : List UInt8) (hl : l.length ≤ 1000000) (hs : Small e) (hk : EOk e) (σ : Store) (h : σ q = some (endO e o1 o2)) :
    ACalls Tryz.prog 95 [ptrA q, byteA opt, .list o 1 (bytesA l)] σ (HearR q σ (hearG e opt l)) := by
  by_cases h40 : opt = 40
  · subst h40
    have hg : hearG e 40 l = hearF e l := rfl
    rw [hg]
    refine hear_calls q e o1 o2 o l hl hs σ h fun k τ p1 p2 hkk _ ho hn hτ => ?_
    have h4 : ∀ x ∈ k, x.toNat ≤ 4 := fun x hx => hk x (by
      have := List.all_eq_true.1 ho x hx
      simpa using this)
    exact agreeG_calls q e p1 p2 false k (nodup_short hn h4) hn h4 τ hτ
  have n40 : ¬ (opt.toNat : Int) = 40 := u8_ne (n := 40) (by omega) h40
  have hsame := fun n v hv => hear_same (v := v) h n hv
  unfold endO at h
  by_cases h24 : opt = 24
  · subst h24
    have h1 := hs.ty
    have hz := str_size e.ty
    have hv := bytesV_mk e.ty
    by_cases hl1 : l = [1]
    · subst hl1
      have hg : hearG e 24 [1] = (0 :: e.ty, 0, e) := rfl
      have hb1 : bytesA [1] = [.lit (.int .u8 1)] := rfl
      rw [hg]
      refine ACalls.of_awp follows (st := st95) (plans := pl95) (n := 76) Tryz.func95 rfl (by kernel_rfl) (by kernel_rfl) (by kernel_rfl) ?_
      simp [byteA, hb1, h, hz, hv]
      refine ⟨by omega, by omega, _, AV.le_refl _, _, Store.sub_refl _, rfl, o1, o2, (upd_back (by rw [h]; rfl)).symm⟩
    · have hg : hearG e 24 l = ([], 4, e) := by unfold hearG; rw [if_pos rfl, if_neg hl1]
      rw [hg]
      refine ACalls.of_awp follows (st := st95) (plans := pl95) (n := 76) Tryz.func95 rfl (by kernel_rfl) (by kernel_rfl) (by kernel_rfl) ?_
      by_cases hln : l.length = 1
      · obtain ⟨a, rfl⟩ : ∃ a, l = [a] := by
          rcases l with _ | ⟨a, _ | ⟨b, r⟩⟩ <;> simp at hln
          exact ⟨a, rfl⟩
        have ha : ¬ (a.toNat : Int) = 1 := u8_ne (n := 1) (by omega) fun e => hl1 (by rw [e]; rfl)
        have hb1 : bytesA [a] = [.lit (.int .u8 a.toNat)] := rfl
        simp [byteA, hb1, ha]
        exact hsame 4 _ (AV.le_refl _)
      · have hln' : ¬ (l.length : Int) = 1 := by omega
        simp [byteA, hln']
        exact hsame 4 _ (AV.le_refl _)
  have n24 : ¬ (opt.toNat : Int) = 24 := u8_ne (n := 24) (by omega) h24
  have hg : hearG e opt l = ([], 5, e) := by unfold hearG; rw [if_neg h24, if_neg h40]
  rw [hg]
  refine ACalls.of_awp follows (st := st95) (plans := pl95) (n := 76) Tryz.func95 rfl (by kernel_rfl) (by kernel_rfl) (by kernel_rfl) ?_
  simp [byteA, n24, n40]
  exact hsame 5 _ (AV.le_refl _)
end Go.Proofs.YteaidaolablegaaGreatDoor
/-
  The link: what it is, what it does.
-/
namespace Go.Proofs.YteaidaolablegaaGreatDoor
open Go Go.AL

structure Lk where
  rd : Rd
  o : Om
  e : Ng
  mp : List UInt8
  out : List UInt8
  seq : Nat
  mode : Nat
/-- An event of the link. -/
structure LE where
  kind : Nat
  data : List UInt8
  hd : Hd
  headed : Bool
  deriving DecidableEq
def leA (e : LE) : AV := .agg ([.lit (.int .i64 e.kind), .list false 1 (bytesA e.data)] ++ hdL e.hd ++ [.lit (.bool e.headed)])
def LE.none : LE := ⟨0, [], .zero, false⟩
def kindOf (c : UInt8) : Nat := if c = 0 then 1 else if c = 5 then 2 else if c = 2 then 3 else 4
def toldF (mode : Nat) (p : List UInt8) : LE :=
  if mode = 1 then ⟨1, p, .zero, false⟩ else match parseF p with
    | some (h, r) => ⟨kindOf h.ty, r, h, true⟩
    | .none => ⟨6, p, .zero, false⟩
namespace Lk
def say (L : Lk) (ms : List (UInt8 × UInt8)) : Lk := { L with out := L.out ++ ms.flatMap fun x => [255, x.1, x.2] }
def hear (L : Lk) (v o : UInt8) : Lk :=
  if (L.o.hear v o).1.st 0 40 = 1 then ({ L with o := (L.o.hear v o).1 } : Lk).say (L.o.hear v o).2 else { ({ L with o := (L.o.hear v o).1 } : Lk).say (L.o.hear v o).2 with e := L.e.reset }
def sub1 (L : Lk) (ev : Ev) : Lk := { L with e := (hearG L.e ev.opt ev.data).2.2, out := if (hearG L.e ev.opt ev.data).2.1 = 0 ∧ 0 < (hearG L.e ev.opt ev.data).1.length then L.out ++ subBytes ev.opt (hearG L.e ev.opt ev.data).1 else L.out }
def sub (L : Lk) (ev : Ev) : Lk :=
  if ev.long = true ∨ ev.broken = true ∨ ¬ L.o.st 0 ev.opt.toNat = 1 then L
  else if (L.sub1 ev).e.st = 4 then ({ L.sub1 ev with o := (L.o.ask 40).1 } : Lk).say (L.o.ask 40).2 else L.sub1 ev
def modeNow (L : Lk) : Nat :=
  if L.o.st 0 40 = 1 then (if L.e.st = 3 then 2 else 0)
  else if L.o.st 0 0 = 1 ∧ L.o.st 1 0 = 1 ∧ L.o.st 0 25 = 1 ∧ L.o.st 1 25 = 1 ∧ L.o.st 0 24 = 1 then 1 else 0
def settle (L : Lk) : Lk := if L.modeNow = L.mode then L else { L with mode := L.modeNow, mp := [] }
def take (L : Lk) (ev : Ev) : LE × Bool × Lk :=
  if ev.kind = 2 then (.none, false, (L.hear ev.verb ev.opt).settle)
  else if ev.kind = 3 then (.none, false, (L.sub ev).settle)
  else if L.mode = 0 then (⟨2, ev.data, .zero, false⟩, decide (ev.kind = 0), L)
  else if ev.kind = 0 then (.none, false, ({ L with mp := L.mp ++ ev.data } : Lk).settle)
  else if ev.verb = 239 then (toldF L.mode L.mp, true, { L with mp := [] })
  else (.none, false, L.settle)
end Lk
/-- Where the link's five objects lie. -/
structure Bk where
  l : Nat
  r : Nat
  o : Nat
  e : Nat
  m : Nat
def lkO (k : Bk) (L : Lk) : List AV := [ptrA k.r, ptrA k.o, ptrA k.e, ptrA k.m, .list true 1 (bytesA L.out), .lit (.int .u16 L.seq), .lit (.int .i64 L.mode)]
structure Bk.Ok (k : Bk) : Prop where
  lr : k.l ≠ k.r
  lo : k.l ≠ k.o
  le : k.l ≠ k.e
  lm : k.l ≠ k.m
  ro : k.r ≠ k.o
  re : k.r ≠ k.e
  rm : k.r ≠ k.m
  oe : k.o ≠ k.e
  om : k.o ≠ k.m
  em : k.e ≠ k.m
structure LkAt (k : Bk) (L : Lk) (o1 o2 : Bool) (σ : Store) : Prop where
  l : σ k.l = some (lkO k L)
  r : σ k.r = some (rdA L.rd)
  o : σ k.o = some (omA L.o)
  e : σ k.e = some (endO L.e o1 o2)
  m : σ k.m = some (mkA L.mp false)
def putL (k : Bk) (L : Lk) (o1 o2 : Bool) (σ : Store) : Store := ((((σ.upd k.l (lkO k L)).upd k.r (rdA L.rd)).upd k.o (omA L.o)).upd k.e (endO L.e o1 o2)).upd k.m (mkA L.mp false)
theorem putL_apply (k : Bk) (L : Lk) (o1 o2 : Bool) (σ : Store) (p : Nat) : putL k L o1 o2 σ p = if p = k.m then some (mkA L.mp false) else if p = k.e then some (endO L.e o1 o2) else if p = k.o then some (omA L.o) else if p = k.r then some (rdA L.rd) else if p = k.l then some (lkO k L) else σ p := by
  simp only [putL, supd_apply]
theorem putL_at {k : Bk} (hk : k.Ok) (L : Lk) (o1 o2 : Bool) (σ : Store) : LkAt k L o1 o2 (putL k L o1 o2 σ) := by
  obtain ⟨h1, h2, h3, h4, h5, h6, h7, h8, h9, h10⟩ := hk
  constructor <;> rw [putL_apply] <;> simp [h1, h2, h3, h4, h5, h6, h7, h8, h9, h10]
theorem putL_putL (k : Bk) (L L' : Lk) (a b c d : Bool) (σ : Store) : putL k L' c d (putL k L a b σ) = putL k L' c d σ := by
  funext p
  simp only [putL_apply]
  repeat' split
  all_goals rfl
theorem putL_self {k : Bk} {L : Lk} {o1 o2 : Bool} {σ : Store} (h : LkAt k L o1 o2 σ) : putL k L o1 o2 σ = σ := by
  funext p
  simp only [putL_apply]
  split
  · rename_i e; rw [e, h.m]
  split
  · rename_i e; rw [e, h.e]
  split
  · rename_i e; rw [e, h.o]
  split
  · rename_i e; rw [e, h.r]
  split
  · rename_i e; rw [e, h.l]
  rfl
/-- One object turns. -/
theorem put_l {k : Bk} (hk : k.Ok) {L : Lk} {o1 o2 : Bool} {σ : Store} (h : LkAt k L o1 o2 σ) (out : List UInt8) (seq mode : Nat) : σ.upd k.l (lkO k { L with out := out, seq := seq, mode := mode }) = putL k { L with out := out, seq := seq, mode := mode } o1 o2 σ := by
  obtain ⟨h1, h2, h3, h4, h5, h6, h7, h8, h9, h10⟩ := hk
  funext p
  simp only [putL_apply, supd_apply]
  split
  · rename_i e; subst e; simp [h1, h2, h3, h4]
  repeat' split
  all_goals first | rfl | (rename_i e; rw [e]; first | exact h.m | exact h.e | exact h.o | exact h.r)
theorem put_o {k : Bk} (hk : k.Ok) {L : Lk} {o1 o2 : Bool} {σ : Store} (h : LkAt k L o1 o2 σ) (o : Om) : σ.upd k.o (omA o) = putL k { L with o := o } o1 o2 σ := by
  obtain ⟨h1, h2, h3, h4, h5, h6, h7, h8, h9, h10⟩ := hk
  funext p
  simp only [putL_apply, supd_apply]
  split
  · rename_i e; subst e; simp [h8, h9]
  repeat' split
  all_goals first | rfl | (rename_i e; rw [e]; first | exact h.m | exact h.e | exact h.l | exact h.r)
theorem put_r {k : Bk} (hk : k.Ok) {L : Lk} {o1 o2 : Bool} {σ : Store} (h : LkAt k L o1 o2 σ) (rd : Rd) : σ.upd k.r (rdA rd) = putL k { L with rd := rd } o1 o2 σ := by
  obtain ⟨h1, h2, h3, h4, h5, h6, h7, h8, h9, h10⟩ := hk
  funext p
  simp only [putL_apply, supd_apply]
  split
  · rename_i e; subst e; simp [h5, h6, h7]
  repeat' split
  all_goals first | rfl | (rename_i e; rw [e]; first | exact h.m | exact h.e | exact h.l | exact h.o)
theorem put_e {k : Bk} (hk : k.Ok) {L : Lk} {o1 o2 : Bool} {σ : Store} (h : LkAt k L o1 o2 σ) (e' : Ng) (p1 p2 : Bool) : σ.upd k.e (endO e' p1 p2) = putL k { L with e := e' } p1 p2 σ := by
  obtain ⟨h1, h2, h3, h4, h5, h6, h7, h8, h9, h10⟩ := hk
  funext p
  simp only [putL_apply, supd_apply]
  split
  · rename_i e; subst e; simp [h10]
  repeat' split
  all_goals first | rfl | (rename_i e; rw [e]; first | exact h.m | exact h.o | exact h.l | exact h.r)
theorem put_m {k : Bk} (hk : k.Ok) {L : Lk} {o1 o2 : Bool} {σ : Store} (h : LkAt k L o1 o2 σ) (mp : List UInt8) : σ.upd k.m (mkA mp false) = putL k { L with mp := mp } o1 o2 σ := by
  obtain ⟨h1, h2, h3, h4, h5, h6, h7, h8, h9, h10⟩ := hk
  funext p
  simp only [putL_apply, supd_apply]
  split
  · rename_i e; subst e; simp
  repeat' split
  all_goals first | rfl | (rename_i e; rw [e]; first | exact h.e | exact h.o | exact h.l | exact h.r)
theorem LkAt.other {k : Bk} {L : Lk} {o1 o2 : Bool} {σ : Store} (h : LkAt k L o1 o2 σ) {p : Nat} (hp : σ p = none) (X : List AV) : LkAt k L o1 o2 (σ.upd p X) := by
  have n : ∀ q cs, σ q = some cs → ¬ q = p := fun q cs hq e => by rw [e, hp] at hq; cases hq
  refine ⟨?_, ?_, ?_, ?_, ?_⟩ <;> rw [supd_apply, if_neg]
  · exact h.l
  · exact n _ _ h.l
  · exact h.r
  · exact n _ _ h.r
  · exact h.o
  · exact n _ _ h.o
  · exact h.e
  · exact n _ _ h.e
  · exact h.m
  · exact n _ _ h.m
theorem LkAt.ne {k : Bk} {L : Lk} {o1 o2 : Bool} {σ : Store} (h : LkAt k L o1 o2 σ) {p : Nat} (hp : σ p = none) : ¬ k.l = p ∧ ¬ k.r = p ∧ ¬ k.o = p ∧ ¬ k.e = p ∧ ¬ k.m = p := by
  have n : ∀ q cs, σ q = some cs → ¬ q = p := fun q cs hq e => by rw [e, hp] at hq; cases hq
  exact ⟨n _ _ h.l, n _ _ h.r, n _ _ h.o, n _ _ h.e, n _ _ h.m⟩
/-- The same of stores, where one knows less. -/
theorem putL_sub {k : Bk} {L : Lk} {o1 o2 : Bool} {σ τ : Store} (h : Store.sub σ τ) : Store.sub (putL k L o1 o2 σ) (putL k L o1 o2 τ) := by
  intro p
  rw [putL_apply, putL_apply]
  repeat' split
  all_goals first | exact .inr rfl | exact h p
theorem LkAt.more {k : Bk} {L : Lk} {o1 o2 : Bool} {σ τ : Store} (h : LkAt k L o1 o2 σ) (hs : Store.sub σ τ) : LkAt k L o1 o2 τ := by
  have n : ∀ q cs, σ q = some cs → τ q = some cs := fun q cs hq => by
    rcases hs q with h' | h'
    · rw [h'] at hq; cases hq
    · rw [← h']; exact hq
  exact ⟨n _ _ h.l, n _ _ h.r, n _ _ h.o, n _ _ h.e, n _ _ h.m⟩
/-- The link is so from now on; nothing else has turned. -/
def LkTo (k : Bk) (L : Lk) (σ σ' : Store) : Prop := ∃ a b, σ' = putL k L a b σ
theorem LkTo.at {k : Bk} (hk : k.Ok) {L : Lk} {σ σ' : Store} (h : LkTo k L σ σ') : ∃ a b, LkAt k L a b σ' := by
  obtain ⟨a, b, rfl⟩ := h; exact ⟨a, b, putL_at hk ..⟩
theorem LkTo.trans {k : Bk} {L L' : Lk} {σ σ' σ2 : Store} (h : LkTo k L σ σ') (h2 : LkTo k L' σ' σ2) : LkTo k L' σ σ2 := by
  obtain ⟨a, b, rfl⟩ := h; obtain ⟨c, d, rfl⟩ := h2; exact ⟨c, d, putL_putL ..⟩
end Go.Proofs.YteaidaolablegaaGreatDoor
/-
  The link: what it says, hears, settles.
-/
namespace Go.Proofs.YteaidaolablegaaGreatDoor
open Go Go.AL

theorem msgsA_get (l : List (UInt8 × UInt8)) (i : Nat) : (msgsA l)[i]? = (l[i]?).map msgA := by simp [msgsA]
@[simp] theorem msgsA_length (l : List (UInt8 × UInt8)) : (msgsA l).length = l.length := by simp [msgsA]
theorem say_out (L : Lk) (ms : List (UInt8 × UInt8)) : (L.say ms).out.length = L.out.length + 3 * ms.length := by
  simp only [Lk.say, List.length_append]
  congr 1
  induction ms with
  | nil => rfl
  | cons x l ih => simp only [List.flatMap_cons, List.length_append, ih, List.length_cons, List.length_nil]; omega
theorem say_snoc (L : Lk) (ms : List (UInt8 × UInt8)) (x : UInt8 × UInt8) : L.say (ms ++ [x]) = { L.say ms with out := (L.say ms).out ++ [255, x.1, x.2] } := by
  simp [Lk.say]
theorem say_nil (L : Lk) : L.say [] = L := by simp [Lk.say]
set_option maxRecDepth 8000 in
set_option maxHeartbeats 1000000 in
theorem lsay_calls (k : Bk) (hk : k.Ok) (L : Lk) (a b o : Bool) (ms : List (UInt8 × UInt8)) (hl : L.out.length ≤ 1000000000000) (hm : ms.length ≤ 1000) (σ : Store) (h : LkAt k L a b σ) :
    ACalls Tryz.prog 93 [ptrA k.l, .list o 2 (msgsA ms)] σ fun v σ' => v = .tuple [] ∧ LkTo k (L.say ms) σ σ' := by
  refine ACalls.of_awp follows (st := st93) (plans := pl93) (n := 23) Tryz.func93 rfl (by kernel_rfl) (by kernel_rfl) (by kernel_rfl) ?_
  simp
  refine codeK.loop follows (st := st93) (plans := pl93) (X := Nat) (fun i => i ≤ ms.length)
    (fun i => [(0, ptrA k.l), (6, .list false 2 (msgsA ms)), (7, .lit (.int .i64 ms.length)), (8, .lit (.int .i64 i))]) (fun i => putL k (L.say (ms.take i)) a b σ) (fun i => ms.length - i) 0 (by kernel_rfl) (by simp) (by simp)
    (by rw [List.take_zero, say_nil, putL_self h]; exact Store.sub_refl _) fun i hi => ?_
  by_cases hlt : i < ms.length
  · have hw : IntKind.i64.wrap ((i : Int) + 1) = ((i + 1 : Nat) : Int) := wrap_i64 (by omega) (by omega)
    have hlt' : (i : Int) < ms.length := by omega
    obtain ⟨x, hx⟩ : ∃ x, ms[i] = x := ⟨_, rfl⟩
    have hg : ∀ h : i < (msgsA ms).length, (msgsA ms)[i]'h = .agg [.lit (.int .u8 x.1.toNat), .lit (.int .u8 x.2.toNat)] := fun h => by
      rw [List.getElem_eq_iff, msgsA_get, List.getElem?_eq_getElem hlt, hx]; rfl
    have hts : L.say (ms.take (i + 1)) = { L.say (ms.take i) with out := (L.say (ms.take i)).out ++ [255, x.1, x.2] } := by
      rw [List.take_succ_eq_append_getElem hlt, hx, say_snoc]
    have hat := putL_at hk (L.say (ms.take i)) a b σ
    have hol := say_out L (ms.take i)
    have htl : (ms.take i).length ≤ 1000 := by simp; omega
    generalize L.say (ms.take i) = L1 at *
    have hl0 := hat.l
    unfold lkO at hl0
    have hmb := fun τ => mbytes_calls x τ
    simp only [msgA, byteA_lit] at hmb
    simp [hlt, hlt', hg]
    intro p hp
    obtain ⟨n1, n2, n3, n4, n5⟩ := hat.ne hp
    have hfin : ∀ X, Store.sub (putL k { L1 with out := L1.out ++ [255, x.1, x.2] } a b σ) (((putL k L1 a b σ).upd p X).upd k.l (lkO k { L1 with out := L1.out ++ [255, x.1, x.2] })) := fun X => by
      have e1 := put_l hk (hat.other hp X) (L1.out ++ [255, x.1, x.2]) L1.seq L1.mode
      have e2 := putL_putL k L1 { L1 with out := L1.out ++ [255, x.1, x.2] } a b a b σ
      rw [e1, ← e2]
      exact putL_sub (sub_upd_self _ _ _ hp)
    have n1' : ¬ p = k.l := fun e => n1 e.symm
    simp [n1, n1', hl0]
    repeat' with_reducible apply And.intro
    all_goals
      refine callK.of (hmb _) ?_
      rintro v σ' ⟨rfl, rfl⟩
      simp [n1, n1', hl0]
      refine ⟨by omega, by omega, i + 1, by omega, by omega, by rw [hw]; exact AV.le_refl _, ?_⟩
      rw [hts, ← bytesA_append]
      exact hfin _
  · obtain rfl : i = ms.length := by omega
    rw [List.take_length]
    simp
    exact ⟨_, AV.le_refl _, _, Store.sub_refl _, rfl, a, b, rfl⟩
theorem Small.ofReset {e : Ng} (h : Small e) : Small e.reset := ⟨h.ty, h.dev, h.fns, Nat.zero_le _⟩
theorem saidF_len (side w : Nat) (o : UInt8) : (saidF side w o).length ≤ 1 := by unfold saidF; split <;> simp
theorem ohear_len (m : Om) (v o : UInt8) : (m.hear v o).2.length ≤ 1 := by
  unfold Om.hear
  repeat' split
  all_goals first | exact saidF_len .. | simp
theorem oask_len (m : Om) (o : UInt8) : (m.ask o).2.length ≤ 1 := by
  unfold Om.ask
  split
  · exact saidF_len ..
  · simp
set_option maxRecDepth 8000 in
set_option maxHeartbeats 1000000 in
theorem lhear_calls (k : Bk) (hk : k.Ok) (L : Lk) (a b : Bool) (ev : Ev) (hl : L.out.length ≤ 1000000000000) (σ : Store) (h : LkAt k L a b σ) :
    ACalls Tryz.prog 78 [ptrA k.l, evA ev] σ fun v σ' => v = .tuple [] ∧ LkTo k (L.hear ev.verb ev.opt) σ σ' := by
  have hlen := ohear_len L.o ev.verb ev.opt
  have hl0 := h.l
  unfold lkO at hl0
  have hoh := fun τ (ht : LkAt k L a b τ) => ohear_calls k.o L.o ev.verb ev.opt τ ht.o
  have hpo := fun τ (ht : LkAt k L a b τ) => put_o hk ht (L.o.hear ev.verb ev.opt).1
  unfold Lk.hear
  generalize (L.o.hear ev.verb ev.opt).2 = ms at *
  generalize (L.o.hear ev.verb ev.opt).1 = om at *
  have hL1 : ({ L with o := om } : Lk).out = L.out ∧ ({ L with o := om } : Lk).o = om ∧ ({ L with o := om } : Lk).e = L.e := ⟨rfl, rfl, rfl⟩
  generalize ({ L with o := om } : Lk) = L1 at *
  obtain ⟨q1, q2, q3⟩ := hL1
  have hL2 : (L1.say ms).o = om ∧ (L1.say ms).e = L.e := ⟨q2, q3⟩
  have hsy := fun τ (ht : LkAt k L1 a b τ) => lsay_calls k hk L1 a b false ms (by rw [q1]; exact hl) (by omega) τ ht
  generalize L1.say ms = L2 at *
  obtain ⟨q4, q5⟩ := hL2
  have hon := fun τ c d (ht : LkAt k L2 c d τ) => oon_calls k.o 0 L2.o 40 (.inl rfl) τ ht.o
  have hre := fun τ c d (ht : LkAt k L2 c d τ) => reset_calls k.e L2.e c d τ ht.e
  rw [q4] at hon
  have h40 : byteA 40 = .lit (.int .u8 40) := rfl
  rw [h40] at hon
  refine ACalls.of_awp follows (st := st78) (plans := pl78) (n := 32) Tryz.func78 rfl (by kernel_rfl) (by kernel_rfl) (by kernel_rfl) ?_
  simp [evA, byteA]
  intro p hp
  obtain ⟨n1, n2, n3, n4, n5⟩ := h.ne hp
  have n1' : ¬ p = k.l := fun e => n1 e.symm
  generalize hX : [AV.lit (.int .i64 ev.kind), .lit (.int .u8 ev.verb.toNat), .lit (.int .u8 ev.opt.toNat), .list false 1 (bytesA ev.data), .lit (.bool ev.long), .lit (.bool ev.broken)] = X
  have hp1 := h.other hp X
  have hsub := sub_upd_self σ p X hp
  have hX1 : X[1]? = some (AV.lit (.int .u8 ev.verb.toNat)) := by rw [← hX]; rfl
  have hX2 : X[2]? = some (AV.lit (.int .u8 ev.opt.toNat)) := by rw [← hX]; rfl
  simp [n1, n1', hl0, hX1, hX2]
  repeat' with_reducible apply And.intro
  all_goals
    refine callK.of (hoh _ hp1) ?_
    rintro v σ' ⟨⟨kk, rfl⟩, rfl⟩
    rw [hpo _ hp1]
    simp
    repeat' with_reducible apply And.intro
  all_goals
    refine callK.of (hsy _ (putL_at hk L1 a b _)) ?_
    rintro v σ2 ⟨rfl, c, d, rfl⟩
    rw [putL_putL]
    have hat := putL_at hk L2 c d (σ.upd p X)
    have hl2 := hat.l
    unfold lkO at hl2
    simp [hl2]
    refine callK.of (hon _ _ _ hat) ?_
    rintro v σ3 ⟨rfl, rfl⟩
    by_cases h1 : om.st 0 40 = 1
    · simp [h1]
      exact ⟨_, AV.le_refl _, _, putL_sub hsub, rfl, c, d, rfl⟩
    · simp [h1, hl2]
      refine callK.of (hre _ _ _ hat) ?_
      rintro v σ4 ⟨rfl, c2, d2, rfl⟩
      rw [put_e hk hat, putL_putL, q5]
      simp
      exact ⟨_, AV.le_refl _, _, putL_sub hsub, rfl, c2, d2, rfl⟩
end Go.Proofs.YteaidaolablegaaGreatDoor
