/-
  The link: what it is, what it does.
-/
import Derived.Test.YteaidaolablegaaGreatDoorSPart15
set_option linter.unusedSimpArgs false
set_option linter.unusedVariables false
namespace Go.Proofs.YteaidaolablegaaGreatDoor
open Go Go.AL

structure Lk where
  rd : Rd
  o : Om
  e : Ng
  mp : List UInt8
  out : List UInt8
  seq : Nat
  mode : Nat
/-- An event of the link. -/
structure LE where
  kind : Nat
  data : List UInt8
  hd : Hd
  headed : Bool
  deriving DecidableEq
def leA (e : LE) : AV := .agg ([.lit (.int .i64 e.kind), .list false 1 (bytesA e.data)] ++ hdL e.hd ++ [.lit (.bool e.headed)])
def LE.none : LE := ⟨0, [], .zero, false⟩
def kindOf (c : UInt8) : Nat := if c = 0 then 1 else if c = 5 then 2 else if c = 2 then 3 else 4
def toldF (mode : Nat) (p : List UInt8) : LE :=
  if mode = 1 then ⟨1, p, .zero, false⟩ else match parseF p with
    | some (h, r) => ⟨kindOf h.ty, r, h, true⟩
    | .none => ⟨6, p, .zero, false⟩
namespace Lk
def say (L : Lk) (ms : List (UInt8 × UInt8)) : Lk := { L with out := L.out ++ ms.flatMap fun x => [255, x.1, x.2] }
def hear (L : Lk) (v o : UInt8) : Lk :=
  if (L.o.hear v o).1.st 0 40 = 1 then ({ L with o := (L.o.hear v o).1 } : Lk).say (L.o.hear v o).2 else { ({ L with o := (L.o.hear v o).1 } : Lk).say (L.o.hear v o).2 with e := L.e.reset }
def sub1 (L : Lk) (ev : Ev) : Lk := { L with e := (hearG L.e ev.opt ev.data).2.2, out := if (hearG L.e ev.opt ev.data).2.1 = 0 ∧ 0 < (hearG L.e ev.opt ev.data).1.length then L.out ++ subBytes ev.opt (hearG L.e ev.opt ev.data).1 else L.out }
def sub (L : Lk) (ev : Ev) : Lk :=
  if ev.long = true ∨ ev.broken = true ∨ ¬ L.o.st 0 ev.opt.toNat = 1 then L
  else if (L.sub1 ev).e.st = 4 then ({ L.sub1 ev with o := (L.o.ask 40).1 } : Lk).say (L.o.ask 40).2 else L.sub1 ev
def modeNow (L : Lk) : Nat :=
  if L.o.st 0 40 = 1 then (if L.e.st = 3 then 2 else 0)
  else if L.o.st 0 0 = 1 ∧ L.o.st 1 0 = 1 ∧ L.o.st 0 25 = 1 ∧ L.o.st 1 25 = 1 ∧ L.o.st 0 24 = 1 then 1 else 0
def settle (L : Lk) : Lk := if L.modeNow = L.mode then L else { L with mode := L.modeNow, mp := [] }
def take (L : Lk) (ev : Ev) : LE × Bool × Lk :=
  if ev.kind = 2 then (.none, false, (L.hear ev.verb ev.opt).settle)
  else if ev.kind = 3 then (.none, false, (L.sub ev).settle)
  else if L.mode = 0 then (⟨2, ev.data, .zero, false⟩, decide (ev.kind = 0), L)
  else if ev.kind = 0 then (.none, false, ({ L with mp := L.mp ++ ev.data } : Lk).settle)
  else if ev.verb = 239 then (toldF L.mode L.mp, true, { L with mp := [] })
  else (.none, false, L.settle)
end Lk
/-- Where the link's five objects lie. -/
structure Bk where
  l : Nat
  r : Nat
  o : Nat
  e : Nat
  m : Nat
def lkO (k : Bk) (L : Lk) : List AV := [ptrA k.r, ptrA k.o, ptrA k.e, ptrA k.m, .list true 1 (bytesA L.out), .lit (.int .u16 L.seq), .lit (.int .i64 L.mode)]
structure Bk.Ok (k : Bk) : Prop where
  lr : k.l ≠ k.r
  lo : k.l ≠ k.o
  le : k.l ≠ k.e
  lm : k.l ≠ k.m
  ro : k.r ≠ k.o
  re : k.r ≠ k.e
  rm : k.r ≠ k.m
  oe : k.o ≠ k.e
  om : k.o ≠ k.m
  em : k.e ≠ k.m
structure LkAt (k : Bk) (L : Lk) (o1 o2 : Bool) (σ : Store) : Prop where
  l : σ k.l = some (lkO k L)
  r : σ k.r = some (rdA L.rd)
  o : σ k.o = some (omA L.o)
  e : σ k.e = some (endO L.e o1 o2)
  m : σ k.m = some (mkA L.mp false)
def putL (k : Bk) (L : Lk) (o1 o2 : Bool) (σ : Store) : Store := ((((σ.upd k.l (lkO k L)).upd k.r (rdA L.rd)).upd k.o (omA L.o)).upd k.e (endO L.e o1 o2)).upd k.m (mkA L.mp false)
theorem putL_apply (k : Bk) (L : Lk) (o1 o2 : Bool) (σ : Store) (p : Nat) : putL k L o1 o2 σ p = if p = k.m then some (mkA L.mp false) else if p = k.e then some (endO L.e o1 o2) else if p = k.o then some (omA L.o) else if p = k.r then some (rdA L.rd) else if p = k.l then some (lkO k L) else σ p := by
  simp only [putL, supd_apply]
theorem putL_at {k : Bk} (hk : k.Ok) (L : Lk) (o1 o2 : Bool) (σ : Store) : LkAt k L o1 o2 (putL k L o1 o2 σ) := by
  obtain ⟨h1, h2, h3, h4, h5, h6, h7, h8, h9, h10⟩ := hk
  constructor <;> rw [putL_apply] <;> simp [h1, h2, h3, h4, h5, h6, h7, h8, h9, h10]
theorem putL_putL (k : Bk) (L L' : Lk) (a b c d : Bool) (σ : Store) : putL k L' c d (putL k L a b σ) = putL k L' c d σ := by
  refine Store.ext2 (fun p => ?_) (fun g => by simp [putL])
  simp only [putL_apply]
  repeat' split
  all_goals rfl
theorem putL_self {k : Bk} {L : Lk} {o1 o2 : Bool} {σ : Store} (h : LkAt k L o1 o2 σ) : putL k L o1 o2 σ = σ := by
  refine Store.ext2 (fun p => ?_) (fun g => by simp [putL])
  simp only [putL_apply]
  split
  · rename_i e; rw [e, h.m]
  split
  · rename_i e; rw [e, h.e]
  split
  · rename_i e; rw [e, h.o]
  split
  · rename_i e; rw [e, h.r]
  split
  · rename_i e; rw [e, h.l]
  rfl
/-- One object turns. -/
theorem put_l {k : Bk} (hk : k.Ok) {L : Lk} {o1 o2 : Bool} {σ : Store} (h : LkAt k L o1 o2 σ) (out : List UInt8) (seq mode : Nat) : σ.upd k.l (lkO k { L with out := out, seq := seq, mode := mode }) = putL k { L with out := out, seq := seq, mode := mode } o1 o2 σ := by
  obtain ⟨h1, h2, h3, h4, h5, h6, h7, h8, h9, h10⟩ := hk
  refine Store.ext2 (fun p => ?_) (fun g => by simp [putL])
  simp only [putL_apply, supd_apply]
  split
  · rename_i e; subst e; simp [h1, h2, h3, h4]
  repeat' split
  all_goals first | rfl | (rename_i e; rw [e]; first | exact h.m | exact h.e | exact h.o | exact h.r)
theorem put_o {k : Bk} (hk : k.Ok) {L : Lk} {o1 o2 : Bool} {σ : Store} (h : LkAt k L o1 o2 σ) (o : Om) : σ.upd k.o (omA o) = putL k { L with o := o } o1 o2 σ := by
  obtain ⟨h1, h2, h3, h4, h5, h6, h7, h8, h9, h10⟩ := hk
  refine Store.ext2 (fun p => ?_) (fun g => by simp [putL])
  simp only [putL_apply, supd_apply]
  split
  · rename_i e; subst e; simp [h8, h9]
  repeat' split
  all_goals first | rfl | (rename_i e; rw [e]; first | exact h.m | exact h.e | exact h.l | exact h.r)
theorem put_r {k : Bk} (hk : k.Ok) {L : Lk} {o1 o2 : Bool} {σ : Store} (h : LkAt k L o1 o2 σ) (rd : Rd) : σ.upd k.r (rdA rd) = putL k { L with rd := rd } o1 o2 σ := by
  obtain ⟨h1, h2, h3, h4, h5, h6, h7, h8, h9, h10⟩ := hk
  refine Store.ext2 (fun p => ?_) (fun g => by simp [putL])
  simp only [putL_apply, supd_apply]
  split
  · rename_i e; subst e; simp [h5, h6, h7]
  repeat' split
  all_goals first | rfl | (rename_i e; rw [e]; first | exact h.m | exact h.e | exact h.l | exact h.o)
theorem put_e {k : Bk} (hk : k.Ok) {L : Lk} {o1 o2 : Bool} {σ : Store} (h : LkAt k L o1 o2 σ) (e' : Ng) (p1 p2 : Bool) : σ.upd k.e (endO e' p1 p2) = putL k { L with e := e' } p1 p2 σ := by
  obtain ⟨h1, h2, h3, h4, h5, h6, h7, h8, h9, h10⟩ := hk
  refine Store.ext2 (fun p => ?_) (fun g => by simp [putL])
  simp only [putL_apply, supd_apply]
  split
  · rename_i e; subst e; simp [h10]
  repeat' split
  all_goals first | rfl | (rename_i e; rw [e]; first | exact h.m | exact h.o | exact h.l | exact h.r)
theorem put_m {k : Bk} (hk : k.Ok) {L : Lk} {o1 o2 : Bool} {σ : Store} (h : LkAt k L o1 o2 σ) (mp : List UInt8) : σ.upd k.m (mkA mp false) = putL k { L with mp := mp } o1 o2 σ := by
  obtain ⟨h1, h2, h3, h4, h5, h6, h7, h8, h9, h10⟩ := hk
  refine Store.ext2 (fun p => ?_) (fun g => by simp [putL])
  simp only [putL_apply, supd_apply]
  split
  · rename_i e; subst e; simp
  repeat' split
  all_goals first | rfl | (rename_i e; rw [e]; first | exact h.e | exact h.o | exact h.l | exact h.r)
theorem LkAt.other {k : Bk} {L : Lk} {o1 o2 : Bool} {σ : Store} (h : LkAt k L o1 o2 σ) {p : Nat} (hp : σ p = none) (X : List AV) : LkAt k L o1 o2 (σ.upd p X) := by
  have n : ∀ (q : Nat) cs, σ q = some cs → ¬ q = p := fun q cs hq e => by rw [e, hp] at hq; cases hq
  refine ⟨?_, ?_, ?_, ?_, ?_⟩ <;> rw [supd_apply, if_neg]
  · exact h.l
  · exact n _ _ h.l
  · exact h.r
  · exact n _ _ h.r
  · exact h.o
  · exact n _ _ h.o
  · exact h.e
  · exact n _ _ h.e
  · exact h.m
  · exact n _ _ h.m
theorem LkAt.ne {k : Bk} {L : Lk} {o1 o2 : Bool} {σ : Store} (h : LkAt k L o1 o2 σ) {p : Nat} (hp : σ p = none) : ¬ k.l = p ∧ ¬ k.r = p ∧ ¬ k.o = p ∧ ¬ k.e = p ∧ ¬ k.m = p := by
  have n : ∀ (q : Nat) cs, σ q = some cs → ¬ q = p := fun q cs hq e => by rw [e, hp] at hq; cases hq
  exact ⟨n _ _ h.l, n _ _ h.r, n _ _ h.o, n _ _ h.e, n _ _ h.m⟩
/-- The same of stores, where one knows less. -/
theorem putL_sub {k : Bk} {L : Lk} {o1 o2 : Bool} {σ τ : Store} (h : Store.sub σ τ) : Store.sub (putL k L o1 o2 σ) (putL k L o1 o2 τ) := by
  refine Store.sub2 (fun p => ?_) (fun g => by simpa [putL] using h (mkey g))
  rw [putL_apply, putL_apply]
  repeat' split
  all_goals first | exact .inr rfl | exact h p
theorem LkAt.more {k : Bk} {L : Lk} {o1 o2 : Bool} {σ τ : Store} (h : LkAt k L o1 o2 σ) (hs : Store.sub σ τ) : LkAt k L o1 o2 τ := by
  have n : ∀ (q : Nat) cs, σ q = some cs → τ q = some cs := fun q cs hq => by
    rcases hs q with h' | h'
    · rw [h'] at hq; cases hq
    · rw [← h']; exact hq
  exact ⟨n _ _ h.l, n _ _ h.r, n _ _ h.o, n _ _ h.e, n _ _ h.m⟩
/-- The link is so from now on; nothing else has turned. -/
def LkTo (k : Bk) (L : Lk) (σ σ' : Store) : Prop := ∃ a b, σ' = putL k L a b σ
theorem LkTo.at {k : Bk} (hk : k.Ok) {L : Lk} {σ σ' : Store} (h : LkTo k L σ σ') : ∃ a b, LkAt k L a b σ' := by
  obtain ⟨a, b, rfl⟩ := h; exact ⟨a, b, putL_at hk ..⟩
theorem LkTo.trans {k : Bk} {L L' : Lk} {σ σ' σ2 : Store} (h : LkTo k L σ σ') (h2 : LkTo k L' σ' σ2) : LkTo k L' σ σ2 := by
  obtain ⟨a, b, rfl⟩ := h; obtain ⟨c, d, rfl⟩ := h2; exact ⟨c, d, putL_putL ..⟩
end Go.Proofs.YteaidaolablegaaGreatDoor
/-
  The link: what it says, hears, settles.
-/
namespace Go.Proofs.YteaidaolablegaaGreatDoor
open Go Go.AL

theorem msgsA_get (l : List (UInt8 × UInt8)) (i : Nat) : (msgsA l)[i]? = (l[i]?).map msgA := by simp [msgsA]
@[simp] theorem msgsA_length (l : List (UInt8 × UInt8)) : (msgsA l).length = l.length := by simp [msgsA]
theorem say_out (L : Lk) (ms : List (UInt8 × UInt8)) : (L.say ms).out.length = L.out.length + 3 * ms.length := by
  simp only [Lk.say, List.length_append]
  congr 1
  induction ms with
  | nil => rfl
  | cons x l ih => simp only [List.flatMap_cons, List.length_append, ih, List.length_cons, List.length_nil]; omega
theorem say_snoc (L : Lk) (ms : List (UInt8 × UInt8)) (x : UInt8 × UInt8) : L.say (ms ++ [x]) = { L.say ms with out := (L.say ms).out ++ [255, x.1, x.2] } := by
  simp [Lk.say]
theorem say_nil (L : Lk) : L.say [] = L := by simp [Lk.say]
set_option maxRecDepth 8000 in
set_option maxHeartbeats 1000000 in
theorem lsay_calls (k : Bk) (hk : k.Ok) (L : Lk) (a b o : Bool) (ms : List (UInt8 × UInt8)) (hl : L.out.length ≤ 1000000000000) (hm : ms.length ≤ 1000) (σ : Store) (h : LkAt k L a b σ) :
    ACalls Tryz.prog 93 [ptrA k.l, .list o 2 (msgsA ms)] σ fun v σ' => v = .tuple [] ∧ LkTo k (L.say ms) σ σ' := by
  refine ACalls.of_awp follows (st := st93) (plans := pl93) (n := 23) Tryz.func93 rfl (by kernel_rfl) (by kernel_rfl) (by kernel_rfl) ?_
  simp
  refine codeK.loop follows (st := st93) (plans := pl93) (X := Nat) (fun i => i ≤ ms.length)
    (fun i => [(0, ptrA k.l), (6, .list false 2 (msgsA ms)), (7, .lit (.int .i64 ms.length)), (8, .lit (.int .i64 i))]) (fun i => putL k (L.say (ms.take i)) a b σ) (fun i => ms.length - i) 0 (by kernel_rfl) (by simp) (by simp)
    (by rw [List.take_zero, say_nil, putL_self h]; exact Store.sub_refl _) fun i hi => ?_
  by_cases hlt : i < ms.length
  · have hw : IntKind.i64.wrap ((i : Int) + 1) = ((i + 1 : Nat) : Int) := wrap_i64 (by omega) (by omega)
    have hlt' : (i : Int) < ms.length := by omega
    obtain ⟨x, hx⟩ : ∃ x, ms[i] = x := ⟨_, rfl⟩
    have hg : ∀ h : i < (msgsA ms).length, (msgsA ms)[i]'h = .agg [.lit (.int .u8 x.1.toNat), .lit (.int .u8 x.2.toNat)] := fun h => by
      rw [List.getElem_eq_iff, msgsA_get, List.getElem?_eq_getElem hlt, hx]; rfl
    have hts : L.say (ms.take (i + 1)) = { L.say (ms.take i) with out := (L.say (ms.take i)).out ++ [255, x.1, x.2] } := by
      rw [List.take_succ_eq_append_getElem hlt, hx, say_snoc]
    have hat := putL_at hk (L.say (ms.take i)) a b σ
    have hol := say_out L (ms.take i)
    have htl : (ms.take i).length ≤ 1000 := by simp; omega
    generalize L.say (ms.take i) = L1 at *
    have hl0 := hat.l
    unfold lkO at hl0
    have hmb := fun τ => mbytes_calls x τ
    simp only [msgA, byteA_lit] at hmb
    simp [hlt, hlt', hg]
    intro p hp
    obtain ⟨n1, n2, n3, n4, n5⟩ := hat.ne hp
    have hfin : ∀ X, Store.sub (putL k { L1 with out := L1.out ++ [255, x.1, x.2] } a b σ) (((putL k L1 a b σ).upd p X).upd k.l (lkO k { L1 with out := L1.out ++ [255, x.1, x.2] })) := fun X => by
      have e1 := put_l hk (hat.other hp X) (L1.out ++ [255, x.1, x.2]) L1.seq L1.mode
      have e2 := putL_putL k L1 { L1 with out := L1.out ++ [255, x.1, x.2] } a b a b σ
      rw [e1, ← e2]
      exact putL_sub (sub_upd_self _ _ _ hp)
    have n1' : ¬ p = k.l := fun e => n1 e.symm
    simp [n1, n1', hl0]
    repeat' with_reducible apply And.intro
    all_goals
      refine callK.of (hmb _) ?_
      rintro v σ' ⟨rfl, rfl⟩
      simp [n1, n1', hl0]
      refine ⟨by omega, by omega, i + 1, by omega, by omega, by rw [hw]; exact AV.le_refl _, ?_⟩
      rw [hts, ← bytesA_append]
      exact hfin _
  · obtain rfl : i = ms.length := by omega
    rw [List.take_length]
    simp
    exact ⟨_, AV.le_refl _, _, Store.sub_refl _, rfl, a, b, rfl⟩
theorem Small.ofReset {e : Ng} (h : Small e) : Small e.reset := ⟨h.ty, h.dev, h.fns, Nat.zero_le _⟩
theorem saidF_len (side w : Nat) (o : UInt8) : (saidF side w o).length ≤ 1 := by unfold saidF; split <;> simp
theorem ohear_len (m : Om) (v o : UInt8) : (m.hear v o).2.length ≤ 1 := by
  unfold Om.hear
  repeat' split
  all_goals first | exact saidF_len .. | simp
theorem oask_len (m : Om) (o : UInt8) : (m.ask o).2.length ≤ 1 := by
  unfold Om.ask
  split
  · exact saidF_len ..
  · simp
set_option maxRecDepth 8000 in
set_option maxHeartbeats 1000000 in
theorem lhear_calls (k : Bk) (hk : k.Ok) (L : Lk) (a b : Bool) (ev : Ev) (hl : L.out.length ≤ 1000000000000) (σ : Store) (h : LkAt k L a b σ) :
    ACalls Tryz.prog 78 [ptrA k.l, evA ev] σ fun v σ' => v = .tuple [] ∧ LkTo k (L.hear ev.verb ev.opt) σ σ' := by
  have hlen := ohear_len L.o ev.verb ev.opt
  have hl0 := h.l
  unfold lkO at hl0
  have hoh := fun τ (ht : LkAt k L a b τ) => ohear_calls k.o L.o ev.verb ev.opt τ ht.o
  have hpo := fun τ (ht : LkAt k L a b τ) => put_o hk ht (L.o.hear ev.verb ev.opt).1
  unfold Lk.hear
  generalize (L.o.hear ev.verb ev.opt).2 = ms at *
  generalize (L.o.hear ev.verb ev.opt).1 = om at *
  have hL1 : ({ L with o := om } : Lk).out = L.out ∧ ({ L with o := om } : Lk).o = om ∧ ({ L with o := om } : Lk).e = L.e := ⟨rfl, rfl, rfl⟩
  generalize ({ L with o := om } : Lk) = L1 at *
  obtain ⟨q1, q2, q3⟩ := hL1
  have hL2 : (L1.say ms).o = om ∧ (L1.say ms).e = L.e := ⟨q2, q3⟩
  have hsy := fun τ (ht : LkAt k L1 a b τ) => lsay_calls k hk L1 a b false ms (by rw [q1]; exact hl) (by omega) τ ht
  generalize L1.say ms = L2 at *
  obtain ⟨q4, q5⟩ := hL2
  have hon := fun τ c d (ht : LkAt k L2 c d τ) => oon_calls k.o 0 L2.o 40 (.inl rfl) τ ht.o
  have hre := fun τ c d (ht : LkAt k L2 c d τ) => reset_calls k.e L2.e c d τ ht.e
  rw [q4] at hon
  have h40 : byteA 40 = .lit (.int .u8 40) := rfl
  rw [h40] at hon
  refine ACalls.of_awp follows (st := st78) (plans := pl78) (n := 32) Tryz.func78 rfl (by kernel_rfl) (by kernel_rfl) (by kernel_rfl) ?_
  simp [evA, byteA]
  intro p hp
  obtain ⟨n1, n2, n3, n4, n5⟩ := h.ne hp
  have n1' : ¬ p = k.l := fun e => n1 e.symm
  generalize hX : [AV.lit (.int .i64 ev.kind), .lit (.int .u8 ev.verb.toNat), .lit (.int .u8 ev.opt.toNat), .list false 1 (bytesA ev.data), .lit (.bool ev.long), .lit (.bool ev.broken)] = X
  have hp1 := h.other hp X
  have hsub := sub_upd_self σ p X hp
  have hX1 : X[1]? = some (AV.lit (.int .u8 ev.verb.toNat)) := by rw [← hX]; rfl
  have hX2 : X[2]? = some (AV.lit (.int .u8 ev.opt.toNat)) := by rw [← hX]; rfl
  simp [n1, n1', hl0, hX1, hX2]
  repeat' with_reducible apply And.intro
  all_goals
    refine callK.of (hoh _ hp1) ?_
    rintro v σ' ⟨⟨kk, rfl⟩, rfl⟩
    rw [hpo _ hp1]
    simp
    repeat' with_reducible apply And.intro
  all_goals
    refine callK.of (hsy _ (putL_at hk L1 a b _)) ?_
    rintro v σ2 ⟨rfl, c, d, rfl⟩
    rw [putL_putL]
    have hat := putL_at hk L2 c d (σ.upd p X)
    have hl2 := hat.l
    unfold lkO at hl2
    simp [hl2]
    refine callK.of (hon _ _ _ hat) ?_
    rintro v σ3 ⟨rfl, rfl⟩
    by_cases h1 : om.st 0 40 = 1
    · simp [h1]
      exact ⟨_, AV.le_refl _, _, putL_sub hsub, rfl, c, d, rfl⟩
    · simp [h1, hl2]
      refine callK.of (hre _ _ _ hat) ?_
      rintro v σ4 ⟨rfl, c2, d2, rfl⟩
      rw [put_e hk hat, putL_putL, q5]
      simp
      exact ⟨_, AV.le_refl _, _, putL_sub hsub, rfl, c2, d2, rfl⟩
end Go.Proofs.YteaidaolablegaaGreatDoor
/-
  The link: a subnegotiation.
-/
namespace Go.Proofs.YteaidaolablegaaGreatDoor
open Go Go.AL

/-- What the answers of an end may be as long as. -/
theorem hearG_len (e : Ng) (hs : Small e) (o : UInt8) (l : List UInt8) (hl : l.length ≤ 9000) : (hearG e o l).1.length ≤ 12000 := by
  have h1 := hs.ty
  have h2 := hs.dev
  have h3 := hs.fns
  have hfl : ∀ k : List UInt8, (k.filter fun c => decide (c ∈ e.fns)).length ≤ k.length := fun k => List.length_filter_le _ _
  unfold hearG
  split
  · split
    · simp; omega
    · simp
  split
  · unfold hearF
    split
    · simp
    · rename_i a k
      simp only [List.length_cons] at hl
      split
      · split
        · simp
        · simp only [askB]
          split <;> simp <;> omega
      split
      · unfold devF
        split
        · simp
        · repeat' split
          all_goals first | (simp; done) | (simp; omega)
      split
      · unfold fnF
        split
        · simp
        · rename_i k2 _
          have := hfl k2
          simp only [List.length_cons] at hl
          repeat' split
          all_goals first | (simp; done) | (simp only [List.length_cons, List.length_nil]; omega)
      · simp
  · simp
set_option maxRecDepth 8000 in
set_option maxHeartbeats 2000000 in
theorem lsub_calls (k : Bk) (hk : k.Ok) (L : Lk) (a b : Bool) (ev : Ev) (hl : L.out.length ≤ 100000000000) (hd : ev.data.length ≤ 9000) (hs : Small L.e) (hok : EOk L.e) (σ : Store) (h : LkAt k L a b σ) :
    ACalls Tryz.prog 79 [ptrA k.l, evA ev] σ fun v σ' => v = .tuple [] ∧ LkTo k (L.sub ev) σ σ' := by
  have hl0 := h.l
  unfold lkO at hl0
  have hfin0 : ∀ (p : Nat) X, σ p = none → ∃ v', (AV.tuple []).le v' ∧ ∃ x, x.sub (σ.upd p X) ∧ v' = AV.tuple [] ∧ LkTo k L σ x := fun p X hp =>
    ⟨_, AV.le_refl _, σ, sub_upd_self _ _ _ hp, rfl, a, b, (putL_self h).symm⟩
  refine ACalls.of_awp follows (st := st79) (plans := pl79) (n := 72) Tryz.func79 rfl (by kernel_rfl) (by kernel_rfl) (by kernel_rfl) ?_
  cases hlong : ev.long
  case true =>
    have hsb : L.sub ev = L := by unfold Lk.sub; rw [if_pos (.inl hlong)]
    rw [hsb]
    simp [evA, byteA, hlong]
    intro p hp
    exact hfin0 p _ hp
  cases hbr : ev.broken
  case true =>
    have hsb : L.sub ev = L := by unfold Lk.sub; rw [if_pos (.inr (.inl hbr))]
    rw [hsb]
    simp [evA, byteA, hlong, hbr]
    intro p hp
    exact hfin0 p _ hp
  simp [evA, byteA, hlong, hbr]
  intro p hp
  obtain ⟨n1, n2, n3, n4, n5⟩ := h.ne hp
  have n1' : ¬ p = k.l := fun e => n1 e.symm
  generalize hX : [AV.lit (.int .i64 ev.kind), .lit (.int .u8 ev.verb.toNat), .lit (.int .u8 ev.opt.toNat), .list false 1 (bytesA ev.data), .lit (.bool false), .lit (.bool false)] = X
  have hX0 : X.length = 6 := by rw [← hX]; rfl
  have hX2 : X[2]? = some (AV.lit (.int .u8 ev.opt.toNat)) := by rw [← hX]; rfl
  have hX3 : X[3]? = some (AV.list false 1 (bytesA ev.data)) := by rw [← hX]; rfl
  have hX4 : X[4]? = some (AV.lit (.bool false)) := by rw [← hX]; rfl
  have hX5 : X[5]? = some (AV.lit (.bool false)) := by rw [← hX]; rfl
  have hp1 := h.other hp X
  have hsub := sub_upd_self σ p X hp
  have hon := oon_calls k.o 0 L.o ev.opt (.inl rfl) _ hp1.o
  rw [byteA_lit] at hon
  simp [n1, n1', hl0, hX2, hX3, hX4, hX5]
  refine callK.of hon ?_
  rintro v σ1 ⟨rfl, rfl⟩
  by_cases h1 : L.o.st 0 ev.opt.toNat = 1
  case neg =>
    have hsb : L.sub ev = L := by unfold Lk.sub; rw [if_pos (.inr (.inr h1))]
    rw [hsb]
    simp [h1]
    exact hfin0 p X hp
  have hsb : L.sub ev = if (L.sub1 ev).e.st = 4 then ({ L.sub1 ev with o := (L.o.ask 40).1 } : Lk).say (L.o.ask 40).2 else L.sub1 ev := by unfold Lk.sub; rw [if_neg (by simp [hlong, hbr, h1])]
  rw [hsb]
  have hgl := hearG_len L.e hs ev.opt ev.data hd
  have hhe := hearG_calls k.e L.e a b false ev.opt ev.data (by omega) hs hok _ hp1.e
  rw [byteA_lit] at hhe
  unfold Lk.sub1
  generalize hearG L.e ev.opt ev.data = F at *
  obtain ⟨ans, code, e'⟩ := F
  dsimp only at hgl hhe ⊢
  have hol := oask_len L.o 40
  have hesc := esc_length ans
  have hsbl : (subBytes ev.opt ans).length ≤ 24005 := by simp [subBytes]; omega
  have hsbc := fun τ => subBytes_calls false ev.opt ans τ (by omega)
  rw [byteA_lit] at hsbc
  generalize subBytes ev.opt ans = sb at *
  -- the end's answer is sent, if there is one
  have hb40 : byteA 40 = .lit (.int .u8 40) := rfl
  have hst := fun L3 c d τ (ht : LkAt k L3 c d τ) => state_calls k.e L3.e c d τ ht.e
  have hak := fun L3 c d τ (ht : LkAt k L3 c d τ) => oask_calls k.o L3.o 40 τ ht.o
  rw [hb40] at hak
  have hpe := put_e hk hp1 e'
  obtain ⟨L2, hL2⟩ : ∃ L2, L2 = ({ L with e := e' } : Lk) := ⟨_, rfl⟩
  have hl2o : lkO k L2 = lkO k L := by rw [hL2]; rfl
  by_cases hc : code = 0 ∧ 0 < ans.length
  · rw [if_pos hc]
    obtain ⟨L3, hL3⟩ : ∃ L3, L3 = ({ L with e := e', out := L.out ++ sb } : Lk) := ⟨_, rfl⟩
    have q1 : L3.e = e' := by rw [hL3]
    have q2 : L3.o = L.o := by rw [hL3]
    have q3 : L3.out.length ≤ 1000000000000 := by rw [hL3]; simp; omega
    have hpl := fun c d => put_l hk (L := L2) (putL_at hk L2 c d (σ.upd p X)) (L.out ++ sb) L2.seq L2.mode
    have hL23 : ({ L2 with out := L.out ++ sb, seq := L2.seq, mode := L2.mode } : Lk) = L3 := by rw [hL2, hL3]
    rw [hL23] at hpl
    have hlk3 : lkO k L3 = [ptrA k.r, ptrA k.o, ptrA k.e, ptrA k.m, .list true 1 (bytesA (L.out ++ sb)), .lit (.int .u16 L.seq), .lit (.int .i64 L.mode)] := by rw [hL3]; rfl
    have hgoal : (if e'.st = 4 then ({ ({ L with e := e', out := L.out ++ sb } : Lk) with o := (L.o.ask 40).1 } : Lk).say (L.o.ask 40).2 else ({ L with e := e', out := L.out ++ sb } : Lk)) = if e'.st = 4 then ({ L3 with o := (L3.o.ask 40).1 } : Lk).say (L3.o.ask 40).2 else L3 := by rw [hL3]
    rw [hgoal]
    rw [← q2] at hol
    simp [h1, n1, n1', hl0, hX2, hX3]
    refine callK.of hhe ?_
    rintro v σ2 ⟨rfl, c, d, rfl⟩
    rw [hpe, ← hL2]
    have hl2 := (putL_at hk L2 c d (σ.upd p X)).l
    rw [hl2o] at hl2
    unfold lkO at hl2
    have hX2p : (putL k L2 c d (σ.upd p X)) p = some X := by rw [putL_apply, if_neg fun e => n5 e.symm, if_neg fun e => n4 e.symm, if_neg fun e => n3 e.symm, if_neg fun e => n2 e.symm, if_neg n1']; simp
    simp [hc.1, hc.2, hl2, hX2p, hX2, n1, n1']
    repeat' with_reducible apply And.intro
    all_goals
      refine callK.of (hsbc _) ?_
      rintro v σ3 ⟨rfl, rfl⟩
      simp [hl2, n1, n1']
      refine ⟨by omega, by omega, ?_⟩
      rw [← bytesA_append, ← hlk3, hpl, putL_putL]
      have hat3 := putL_at hk L3 c d (σ.upd p X)
      have hl3 := hat3.l
      unfold lkO at hl3
      refine callK.of (hst L3 c d _ hat3) ?_
      rintro v σ4 ⟨rfl, rfl⟩
      rw [q1]
      by_cases h4 : e'.st = 4
      · rw [if_pos h4]
        simp [h4, hl3]
        refine callK.of (hak L3 c d _ hat3) ?_
        rintro v σ5 ⟨⟨kk, rfl⟩, rfl⟩
        rw [put_o hk hat3, putL_putL]
        simp
        refine callK.of (lsay_calls k hk { L3 with o := (L3.o.ask 40).1 } c d false (L3.o.ask 40).2 q3 (by omega) _ (putL_at hk { L3 with o := (L3.o.ask 40).1 } c d (σ.upd p X))) ?_
        rintro v σ6 ⟨rfl, c2, d2, rfl⟩
        rw [putL_putL]
        simp
        exact ⟨_, AV.le_refl _, _, putL_sub hsub, rfl, c2, d2, by rw [q1]⟩
      · have h4' : ¬ (e'.st : Int) = 4 := by omega
        rw [if_neg h4]
        simp [h4']
        exact ⟨_, AV.le_refl _, _, putL_sub hsub, rfl, c, d, rfl⟩
  · rw [if_neg hc]
    obtain ⟨L3, hL3⟩ : ∃ L3, L3 = ({ L with e := e' } : Lk) := ⟨_, rfl⟩
    have q1 : L3.e = e' := by rw [hL3]
    have q2 : L3.o = L.o := by rw [hL3]
    have q3 : L3.out.length ≤ 1000000000000 := by rw [hL3]; show L.out.length ≤ _; omega
    have hgoal : (if e'.st = 4 then ({ ({ L with e := e', out := L.out } : Lk) with o := (L.o.ask 40).1 } : Lk).say (L.o.ask 40).2 else ({ L with e := e', out := L.out } : Lk)) = if e'.st = 4 then ({ L3 with o := (L3.o.ask 40).1 } : Lk).say (L3.o.ask 40).2 else L3 := by rw [hL3]
    rw [hgoal]
    rw [← q2] at hol
    simp [h1, n1, n1', hl0, hX2, hX3]
    refine callK.of hhe ?_
    rintro v σ2 ⟨rfl, c, d, rfl⟩
    rw [hpe, ← hL3]
    have hl2 := (putL_at hk L3 c d (σ.upd p X)).l
    unfold lkO at hl2
    by_cases hc0 : code = 0
    · have ha0 : ans = [] := List.eq_nil_of_length_eq_zero (by
        by_cases h0 : 0 < ans.length
        · exact absurd ⟨hc0, h0⟩ hc
        · omega)
      subst ha0
      simp [hc0, hl2, n1, n1', bytesA_nil]
      repeat' with_reducible apply And.intro
      all_goals
        have hat3 := putL_at hk L3 c d (σ.upd p X)
        have hl3 := hat3.l
        unfold lkO at hl3
        refine callK.of (hst L3 c d _ hat3) ?_
        rintro v σ4 ⟨rfl, rfl⟩
        rw [q1]
        by_cases h4 : e'.st = 4
        · rw [if_pos h4]
          simp [h4, hl3]
          refine callK.of (hak L3 c d _ hat3) ?_
          rintro v σ5 ⟨⟨kk, rfl⟩, rfl⟩
          rw [put_o hk hat3, putL_putL]
          simp
          refine callK.of (lsay_calls k hk { L3 with o := (L3.o.ask 40).1 } c d false (L3.o.ask 40).2 q3 (by omega) _ (putL_at hk { L3 with o := (L3.o.ask 40).1 } c d (σ.upd p X))) ?_
          rintro v σ6 ⟨rfl, c2, d2, rfl⟩
          rw [putL_putL]
          simp
          exact ⟨_, AV.le_refl _, _, putL_sub hsub, rfl, c2, d2, by rw [q1]⟩
        · have h4' : ¬ (e'.st : Int) = 4 := by omega
          rw [if_neg h4]
          simp [h4']
          exact ⟨_, AV.le_refl _, _, putL_sub hsub, rfl, c, d, rfl⟩
    · have hc0' : ¬ (code : Int) = 0 := by omega
      simp [hc0, hc0', hl2, n1, n1']
      repeat' with_reducible apply And.intro
      all_goals
        have hat3 := putL_at hk L3 c d (σ.upd p X)
        have hl3 := hat3.l
        unfold lkO at hl3
        refine callK.of (hst L3 c d _ hat3) ?_
        rintro v σ4 ⟨rfl, rfl⟩
        rw [q1]
        by_cases h4 : e'.st = 4
        · rw [if_pos h4]
          simp [h4, hl3]
          refine callK.of (hak L3 c d _ hat3) ?_
          rintro v σ5 ⟨⟨kk, rfl⟩, rfl⟩
          rw [put_o hk hat3, putL_putL]
          simp
          refine callK.of (lsay_calls k hk { L3 with o := (L3.o.ask 40).1 } c d false (L3.o.ask 40).2 q3 (by omega) _ (putL_at hk { L3 with o := (L3.o.ask 40).1 } c d (σ.upd p X))) ?_
          rintro v σ6 ⟨rfl, c2, d2, rfl⟩
          rw [putL_putL]
          simp
          exact ⟨_, AV.le_refl _, _, putL_sub hsub, rfl, c2, d2, by rw [q1]⟩
        · have h4' : ¬ (e'.st : Int) = 4 := by omega
          rw [if_neg h4]
          simp [h4']
          exact ⟨_, AV.le_refl _, _, putL_sub hsub, rfl, c, d, rfl⟩
end Go.Proofs.YteaidaolablegaaGreatDoor
/-
  The link: its mode; what comes.
-/
namespace Go.Proofs.YteaidaolablegaaGreatDoor
open Go Go.AL

set_option maxRecDepth 8000 in
theorem both1_calls (k : Bk) (L : Lk) (a b : Bool) (p : Nat) (o : UInt8) (σ : Store) (h : LkAt k L a b σ) (hp : σ p = some [ptrA k.l]) :
    ACalls Tryz.prog 116 [byteA o, ptrA p] σ fun v σ' => v = .lit (.bool (decide (L.o.st 0 o.toNat = 1) && decide (L.o.st 1 o.toNat = 1))) ∧ σ' = σ := by
  have hl0 := h.l
  unfold lkO at hl0
  have h0 := oon_calls k.o 0 L.o o (.inl rfl) σ h.o
  have h1 := oon_calls k.o 1 L.o o (.inr rfl) σ h.o
  rw [byteA_lit] at h0 h1
  refine ACalls.of_awp follows (st := st116) (plans := pl116) (n := 18) Tryz.func116 rfl (by kernel_rfl) (by kernel_rfl) (by kernel_rfl) ?_
  simp [byteA, hp, hl0]
  refine callK.of h0 ?_
  rintro v σ1 ⟨rfl, rfl⟩
  by_cases c0 : L.o.st 0 o.toNat = 1
  · simp [c0, hp, hl0]
    refine callK.of h1 ?_
    rintro v σ2 ⟨rfl, rfl⟩
    simp [c0]
  · simp [c0]
set_option maxRecDepth 8000 in
set_option maxHeartbeats 1000000 in
theorem modeNow_calls (k : Bk) (L : Lk) (a b : Bool) (σ : Store) (h : LkAt k L a b σ) :
    ACalls Tryz.prog 102 [ptrA k.l] σ fun v σ' => v = .lit (.int .i64 L.modeNow) ∧ σ' = σ := by
  have hl0 := h.l
  unfold lkO at hl0
  refine ACalls.of_awp follows (st := st102) (plans := pl102) (n := 30) Tryz.func102 rfl (by kernel_rfl) (by kernel_rfl) (by kernel_rfl) ?_
  simp
  intro p hp
  obtain ⟨n1, n2, n3, n4, n5⟩ := h.ne hp
  have hp1 := h.other hp [.lit (.pointer (some ⟨k.l, 0, none⟩))]
  have hsub := sub_upd_self σ p [.lit (.pointer (some ⟨k.l, 0, none⟩))] hp
  have h40 := oon_calls k.o 0 L.o 40 (.inl rfl) _ hp1.o
  have h24 := oon_calls k.o 0 L.o 24 (.inl rfl) _ hp1.o
  have hr := ready_calls k.e L.e a b _ hp1.e
  have b0 := both1_calls k L a b p 0 _ hp1 (by simp)
  have b25 := both1_calls k L a b p 25 _ hp1 (by simp)
  have e40 : (40 : UInt8).toNat = 40 := rfl
  have e24 : (24 : UInt8).toNat = 24 := rfl
  have e25 : (25 : UInt8).toNat = 25 := rfl
  have e0 : (0 : UInt8).toNat = 0 := rfl
  rw [byteA_lit, e40] at h40
  rw [byteA_lit, e24] at h24
  rw [byteA_lit, e0] at b0
  rw [byteA_lit, e25] at b25
  unfold Lk.modeNow
  simp [hl0, n1]
  refine callK.of h40 ?_
  rintro v σ1 ⟨rfl, rfl⟩
  by_cases c40 : L.o.st 0 40 = 1
  · simp [c40, hl0, n1]
    refine callK.of hr ?_
    rintro v σ2 ⟨rfl, rfl⟩
    by_cases c3 : L.e.st = 3
    · simp [c3]
      exact hsub
    · simp [c3]
      exact hsub
  · simp [c40]
    refine callK.of b0 ?_
    rintro v σ2 ⟨rfl, rfl⟩
    by_cases c0 : L.o.st 0 0 = 1 ∧ L.o.st 1 0 = 1
    case neg =>
      have hf : (decide (L.o.st 0 0 = 1) && decide (L.o.st 1 0 = 1)) = false := by simpa using c0
      rw [hf, if_neg (fun h => c0 ⟨h.1, h.2.1⟩)]
      simp
      exact hsub
    have hf0 : (decide (L.o.st 0 0 = 1) && decide (L.o.st 1 0 = 1)) = true := by simp [c0.1, c0.2]
    rw [hf0]
    simp
    refine callK.of b25 ?_
    rintro v σ2 ⟨rfl, rfl⟩
    by_cases c25 : L.o.st 0 25 = 1 ∧ L.o.st 1 25 = 1
    case neg =>
      have hf : (decide (L.o.st 0 25 = 1) && decide (L.o.st 1 25 = 1)) = false := by simpa using c25
      rw [hf, if_neg (fun h => c25 ⟨h.2.2.1, h.2.2.2.1⟩)]
      simp
      exact hsub
    have hf25 : (decide (L.o.st 0 25 = 1) && decide (L.o.st 1 25 = 1)) = true := by simp [c25.1, c25.2]
    rw [hf25]
    simp [hl0, n1]
    refine callK.of h24 ?_
    rintro v σ2 ⟨rfl, rfl⟩
    by_cases c24 : L.o.st 0 24 = 1
    · rw [if_pos ⟨c0.1, c0.2, c25.1, c25.2, c24⟩]
      simp [c24]
      exact hsub
    · simp [c24]
      exact hsub
set_option maxRecDepth 8000 in
theorem settle_calls (k : Bk) (hk : k.Ok) (L : Lk) (a b : Bool) (σ : Store) (h : LkAt k L a b σ) :
    ACalls Tryz.prog 83 [ptrA k.l] σ fun v σ' => v = .tuple [] ∧ LkTo k L.settle σ σ' := by
  have hl0 := h.l
  unfold lkO at hl0
  have hm := modeNow_calls k L a b σ h
  unfold Lk.settle
  refine ACalls.of_awp follows (st := st83) (plans := pl83) (n := 20) Tryz.func83 rfl (by kernel_rfl) (by kernel_rfl) (by kernel_rfl) ?_
  simp
  refine callK.of hm ?_
  rintro v σ1 ⟨rfl, rfl⟩
  by_cases c : L.modeNow = L.mode
  · rw [if_pos c]
    simp [hl0, c]
    exact ⟨_, AV.le_refl _, _, Store.sub_refl _, rfl, a, b, (putL_self h).symm⟩
  · have c' : ¬ (L.modeNow : Int) = (L.mode : Int) := by omega
    rw [if_neg c]
    have hpl := put_l hk h L.out L.seq L.modeNow
    unfold lkO at hpl
    have hat := putL_at hk { L with mode := L.modeNow } a b σ1
    simp [hl0, c']
    rw [hpl]
    have hdr := mdrop_calls k.m L.mp false _ hat.m
    refine callK.of hdr ?_
    rintro v σ2 ⟨rfl, rfl⟩
    rw [put_m hk hat, putL_putL]
    simp
    exact ⟨_, AV.le_refl _, _, Store.sub_refl _, rfl, a, b, rfl⟩
theorem kind_eq (c : UInt8) (hc : c.toNat ≤ 8) : (namesL.getD c.toNat [] == [51, 50, 55, 48, 45, 68, 65, 84, 65]) = decide (kindOf c = 1) ∧ (namesL.getD c.toNat [] == [78, 86, 84, 45, 68, 65, 84, 65]) = decide (kindOf c = 2) ∧ (namesL.getD c.toNat [] == [82, 69, 83, 80, 79, 78, 83, 69]) = decide (kindOf c = 3) := by
  have hx : c = UInt8.ofNat c.toNat := by simp
  have h9 : c.toNat = 0 ∨ c.toNat = 1 ∨ c.toNat = 2 ∨ c.toNat = 3 ∨ c.toNat = 4 ∨ c.toNat = 5 ∨ c.toNat = 6 ∨ c.toNat = 7 ∨ c.toNat = 8 := by omega
  rcases h9 with h | h | h | h | h | h | h | h | h <;> rw [h] at hx <;> subst hx <;> decide
theorem kindOf_cases (c : UInt8) : kindOf c = 1 ∨ kindOf c = 2 ∨ kindOf c = 3 ∨ kindOf c = 4 := by
  unfold kindOf
  repeat' split
  all_goals simp
theorem parseF_right {l : List UInt8} {h : Hd} {r : List UInt8} (e : parseF l = some (h, r)) : h.right = true ∧ h.ty.toNat ≤ 8 := by
  have hr : h.right = true := by
    unfold parseF at e
    split at e
    · split at e
      · rename_i hh
        simp only [Option.some.injEq, Prod.mk.injEq] at e
        rw [← e.1]; exact hh
      · cases e
    · cases e
  refine ⟨hr, ?_⟩
  unfold Hd.right at hr
  simp at hr
  exact hr.1
set_option maxRecDepth 8000 in
set_option maxHeartbeats 1000000 in
theorem told_calls (k : Bk) (L : Lk) (a b : Bool) (p : List UInt8) (hp8 : p.length ≤ 100000) (σ : Store) (h : LkAt k L a b σ) :
    ACalls Tryz.prog 81 [ptrA k.l, .agg [.list false 1 (bytesA p), .lit (.bool false)]] σ fun v σ' => v = leA (toldF L.mode p) ∧ σ' = σ := by
  have hl0 := h.l
  unfold lkO at hl0
  have hpa := fun τ => parse_calls false p (by omega) τ
  refine ACalls.of_awp follows (st := st81) (plans := pl81) (n := 50) Tryz.func81 rfl (by kernel_rfl) (by kernel_rfl) (by kernel_rfl) ?_
  simp
  intro q hq
  obtain ⟨n1, n2, n3, n4, n5⟩ := h.ne hq
  intro r hr
  rw [ite_none] at hr
  obtain ⟨hrq, hr⟩ := hr
  have hqr : ¬ q = r := fun e => hrq e.symm
  obtain ⟨m1, m2, m3, m4, m5⟩ := h.ne hr
  by_cases c1 : L.mode = 1
  · have ht : toldF L.mode p = ⟨1, p, .zero, false⟩ := by unfold toldF; rw [if_pos c1]
    rw [ht]
    simp [hl0, n1, m1, c1, hqr, hrq]
    exact ⟨le_of_eq rfl, by (intro q; simp only [Store.upd, Store.del]; (repeat' split) <;> first | exact Or.inr rfl | exact Or.inl rfl | (exfalso; omega) | (left; subst_vars; assumption) | simp_all)⟩
  have c1' : ¬ (L.mode : Int) = 1 := by omega
  have ht : toldF L.mode p = match parseF p with
    | some (h, r) => ⟨kindOf h.ty, r, h, true⟩
    | Option.none => ⟨6, p, .zero, false⟩ := by unfold toldF; rw [if_neg c1] <;> rfl
  rw [ht]
  simp [hl0, n1, m1, c1', hqr, hrq]
  refine callK.of (hpa _) ?_
  rintro v σ1 ⟨rfl, hv⟩
  cases hpf : parseF p with
  | none =>
    rw [hpf] at hv
    obtain ⟨kk, hk0, rfl⟩ := hv
    simp [hk0, hdL, byteA, Hd.zero]
    intro s hs
    simp only [ite_none] at hs
    obtain ⟨hsr, hsq, hs⟩ := hs
    have hrs : ¬ r = s := fun e => hsr e.symm
    have hqs : ¬ q = s := fun e => hsq e.symm
    simp [hsr, hsq, hrs, hqs, hqr, hrq]
    exact ⟨le_of_eq rfl, by (intro q; simp only [Store.upd, Store.del]; (repeat' split) <;> first | exact Or.inr rfl | exact Or.inl rfl | (exfalso; omega) | (left; subst_vars; assumption) | simp_all)⟩
  | some x =>
    obtain ⟨⟨ty, req, resp, seq⟩, rr⟩ := x
    rw [hpf] at hv
    simp only at hv
    subst hv
    obtain ⟨_, h8⟩ := parseF_right hpf
    dsimp only at h8
    have hnm := fun τ => hname_calls ty h8 τ
    rw [byteA_lit] at hnm
    obtain ⟨k1, k2, k3⟩ := kind_eq ty h8
    have hbt := fun X Y : List UInt8 => toList_mk X
    simp [hdL, byteA]
    intro s hs
    simp only [ite_none] at hs
    obtain ⟨hsr, hsq, hs⟩ := hs
    have hrs : ¬ r = s := fun e => hsr e.symm
    have hqs : ¬ q = s := fun e => hsq e.symm
    refine callK.of (hnm _) ?_
    rintro v σ2 ⟨rfl, rfl⟩
    have kc := kindOf_cases ty
    generalize namesL.getD ty.toNat [] = nm at *
    generalize hkd : kindOf ty = kd at *
    rcases kc with rfl | rfl | rfl | rfl
    all_goals
      simp [toList_mk, k1, k2, k3, hsr, hsq, hrs, hqs, hqr, hrq]
      exact ⟨le_of_eq rfl, by (intro q; simp only [Store.upd, Store.del]; (repeat' split) <;> first | exact Or.inr rfl | exact Or.inl rfl | (exfalso; omega) | (left; subst_vars; assumption) | simp_all)⟩
end Go.Proofs.YteaidaolablegaaGreatDoor
