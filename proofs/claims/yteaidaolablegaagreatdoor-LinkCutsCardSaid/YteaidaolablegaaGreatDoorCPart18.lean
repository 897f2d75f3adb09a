/-
  A link is made; the document's example.
-/
import Derived.Test.YteaidaolablegaaGreatDoorCPart17
set_option linter.unusedSimpArgs false
set_option linter.unusedVariables false
namespace Go.Proofs.YteaidaolablegaaGreatDoor
open Go Go.AL

theorem rises_le {l : List UInt8} (h : Rises l) : ∀ x ∈ l, x.toNat ≤ 4 := fun x hx => by
  obtain ⟨i, hi, rfl⟩ := List.getElem_of_mem hx
  have h1 := (h i hi).1
  rw [List.getElem?_eq_getElem hi] at h1
  exact h1
/-- Five new blocks. -/
theorem putL_new {k : Bk} {σ : Store} (h1 : σ k.l = none) (h2 : σ k.r = none) (h3 : σ k.o = none) (h4 : σ k.e = none) (h5 : σ k.m = none) (L : Lk) (a b : Bool) : Store.sub σ (putL k L a b σ) := by
  refine Store.sub2 (fun x => ?_) (fun g => .inr (by simp [putL]))
  rw [putL_apply]
  split
  · rename_i e; left; rw [e]; exact h5
  split
  · rename_i e; left; rw [e]; exact h4
  split
  · rename_i e; left; rw [e]; exact h3
  split
  · rename_i e; left; rw [e]; exact h2
  split
  · rename_i e; left; rw [e]; exact h1
  · right; rfl
theorem init_ok {e : Ng} {x : Bool} (hs : Small e) (hk : okC e) : LkOk (.init e x) 0 :=
  ⟨by simp [Lk.init], by simp [Lk.init], ⟨hs.ty, hs.dev, hs.fns, by simp [Lk.init]⟩, rises_le hk.2.2, ⟨rfl, rfl, by simp [Lk.init, Rd.init]⟩⟩
def Lk.emptied (L : Lk) : Lk := { L with out := [] }
theorem emptied_ok {L : Lk} {n : Nat} (h : LkOk L n) : LkOk L.emptied n := ⟨Nat.zero_le _, h.mp, h.small, h.ok, h.rd⟩
def ngT : Ng := { ty := [84], dev := [], fns := [] }
def awP : List UInt8 := [255, 253, 40]
def awQ : List UInt8 := [255, 250, 40, 8, 2, 255, 240]
def awL : Lk := (Lk.init ngT true).all awP
theorem awL_out : awL.out = [255, 251, 40] := by decide +kernel
theorem awL_out2 : (awL.emptied.all awQ).out = [255, 250, 40, 2, 7, 84, 255, 240] := by decide +kernel
theorem ngT_ok : okC ngT := by decide +kernel
theorem ngT_few : ngT.few = ngT := rfl
theorem awL_ex : ∃ L0, Lk.init ngT true = L0 ∧ LkOk L0 0 ∧ (L0.all awP).out = [255, 251, 40] ∧ ((L0.all awP).emptied.all awQ).out = [255, 250, 40, 2, 7, 84, 255, 240] :=
  ⟨_, rfl, init_ok ⟨by simp [ngT], by simp [ngT], by simp [ngT], by simp [ngT]⟩ ngT_ok, awL_out, awL_out2⟩
/-- A link that is made. -/
def LaidR (L : Lk) (σ : Store) (v : AV) (σ' : Store) : Prop := ∃ (ad : Option Addr) (f : Int) (kb : Bk) (a b : Bool), kb.Ok ∧ (∀ L a b, Store.sub σ (putL kb L a b σ)) ∧ v = .tuple [ptrA kb.l, .lit (.pointer ad), .lit (.int .i64 0), .lit (.int .i64 f)] ∧ σ' = putL kb L a b σ
theorem laid_calls {e : Ng} (h : okC e.few) (o x : Bool) (σ : Store) : ACalls Tryz.prog 9 [confA e o, .lit (.bool x)] σ (LaidR (.init e.few x) σ) := by
  refine (lay_calls e o x σ).mono fun v σ' hh => ?_
  obtain ⟨ad, f, _, h1 | ⟨_, kb, hk, ⟨n1, n2, n3, n4, n5⟩, hv, a, b, hs⟩⟩ := hh
  · exfalso; exact h1.1 h
  · exact ⟨ad, f, kb, a, b, hk, putL_new n1 n2 n3 n4 n5, hv, hs⟩
set_option maxRecDepth 8000 in
set_option maxHeartbeats 1000000 in
theorem awake_calls (σ : Store) : ACalls Tryz.prog 8 [] σ fun v σ' => v = .lit (.bool true) ∧ σ' = σ := by
  have hlay := laid_calls (e := ngT) ngT_ok true true σ
  rw [ngT_few] at hlay
  obtain ⟨L0, hL0, hok0, ho1, ho2⟩ := awL_ex
  rw [hL0] at hlay
  clear hL0
  have hlay : ACalls Tryz.prog 9 [.agg [.lit (.string { data := #[84] }), .lit (.string ByteArray.empty), .list true 1 []], .lit (.bool true)] σ (LaidR L0 σ) := hlay
  refine ACalls.of_awp follows (st := st8) (plans := pl8) (n := 36) Tryz.func8 rfl (by kernel_rfl) (by kernel_rfl) (by kernel_rfl) ?_
  simp
  refine callK.of hlay ?_
  rintro v σ1 ⟨ad, f, kb, a1, b1, hk, hsub, rfl, rfl⟩
  have hok1 := all_ok hok0 awP (by simp [awP])
  generalize hL1 : L0.all awP = L1 at *
  have hok2 := emptied_ok hok1
  have hat1 := putL_at hk L0 a1 b1 σ
  have h1 := ltk_calls kb hk _ _ _ true 0 awP (by simp [awP]) hok0 _ hat1
  rw [hL1] at h1
  have h2 := fun a b => ltk_calls kb hk _ _ _ true _ awQ (by simp [awP, awQ]) hok2 _ (putL_at hk L1.emptied a b σ)
  have e1 : bytesA awP = [.lit (.int .u8 255), .lit (.int .u8 253), .lit (.int .u8 40)] := rfl
  have e2 : bytesA awQ = [.lit (.int .u8 255), .lit (.int .u8 250), .lit (.int .u8 40), .lit (.int .u8 8), .lit (.int .u8 2), .lit (.int .u8 255), .lit (.int .u8 240)] := rfl
  rw [e1] at h1
  rw [e2] at h2
  generalize hL2 : L1.emptied.all awQ = L2 at *
  have c1 := fun τ => same_calls false true L1.out [255, 251, 40] τ
  have c2 := fun τ => same_calls false true L2.out [255, 250, 40, 2, 7, 84, 255, 240] τ
  have e3 : bytesA [255, 251, 40] = [.lit (.int .u8 255), .lit (.int .u8 251), .lit (.int .u8 40)] := rfl
  have e4 : bytesA [255, 250, 40, 2, 7, 84, 255, 240] = [.lit (.int .u8 255), .lit (.int .u8 250), .lit (.int .u8 40), .lit (.int .u8 2), .lit (.int .u8 7), .lit (.int .u8 84), .lit (.int .u8 255), .lit (.int .u8 240)] := rfl
  rw [e3] at c1
  rw [e4] at c2
  rw [ho1] at c1
  rw [ho2] at c2
  have o1 := fun a b => lout_calls kb hk L1 a b _ (putL_at hk L1 a b σ)
  have o2 := fun a b => lout_calls kb hk L2 a b _ (putL_at hk L2 a b σ)
  rw [ho1] at o1
  rw [ho2] at o2
  simp
  refine callK.of h1 ?_
  rintro v σ1 ⟨rfl, a2, b2, rfl⟩
  rw [putL_putL]
  simp
  refine callK.of (o1 a2 b2) ?_
  rintro v σ1 ⟨rfl, rfl⟩
  rw [putL_putL]
  simp
  refine callK.of (h2 a2 b2) ?_
  rintro v σ1 ⟨rfl, a3, b3, rfl⟩
  rw [putL_putL]
  simp
  refine callK.of (c1 _) ?_
  rintro v σ1 ⟨rfl, rfl⟩
  simp
  refine callK.of (o2 a3 b3) ?_
  rintro v σ1 ⟨rfl, rfl⟩
  rw [putL_putL]
  simp
  refine callK.of (c2 _) ?_
  rintro v σ1 ⟨rfl, rfl⟩
  simp
  exact hsub _ _ _
end Go.Proofs.YteaidaolablegaaGreatDoor
/-
  The responses: the program's and the document's.
-/
namespace Go.Proofs.YteaidaolablegaaGreatDoor
open Go Go.AL

/-- The code of an error. -/
def codeF (n : Nat) : UInt8 := if n = 11 then 0 else if n = 6 ∨ n = 8 then 1 else if n = 3 ∨ n = 7 then 3 else 2
set_option maxRecDepth 8000 in
theorem hcode_calls (n : Nat) (σ : Store) : ACalls Tryz.prog 69 [.lit (.int .i64 n)] σ fun v σ' => v = byteA (codeF n) ∧ σ' = σ := by
  refine ACalls.of_awp follows (st := st69) (plans := pl69) (n := 12) Tryz.func69 rfl (by kernel_rfl) (by kernel_rfl) (by kernel_rfl) ?_
  unfold codeF
  by_cases h1 : n = 11
  · subst h1; simp [byteA]
  by_cases h2 : n = 6
  · subst h2; simp [byteA]
  by_cases h3 : n = 8
  · subst h3; simp [byteA]
  by_cases h4 : n = 3
  · subst h4; simp [byteA]
  by_cases h5 : n = 7
  · subst h5; simp [byteA]
  have g1 : ¬ (n : Int) = 11 := by omega
  have g2 : ¬ (n : Int) = 6 := by omega
  have g3 : ¬ (n : Int) = 8 := by omega
  have g4 : ¬ (n : Int) = 3 := by omega
  have g5 : ¬ (n : Int) = 7 := by omega
  simp [byteA, h1, h2, h3, h4, h5, g1, g2, g3, g4, g5]
/-- A response. -/
def answerL (seq : Nat) (bad code : UInt8) : List UInt8 := [2, 0, bad, UInt8.ofNat (seq / 256), UInt8.ofNat seq, code]
set_option maxRecDepth 8000 in
theorem answer_calls (seq : Nat) (_hs : seq < 65536) (bad code : UInt8) (σ : Store) : ACalls Tryz.prog 68 [.lit (.int .u16 seq), byteA bad, byteA code] σ fun v σ' => v = .list true 1 (bytesA (answerL seq bad code)) ∧ σ' = σ := by
  refine ACalls.of_awp follows (st := st68) (plans := pl68) (n := 15) Tryz.func68 rfl (by kernel_rfl) (by kernel_rfl) (by kernel_rfl) ?_
  simp [byteA, answerL, bytesA]
  have hp : (2 : Int) ^ min 8 IntKind.u16.bits = 256 := by decide
  have e1 : IntKind.u8.wrap ((seq : Int).fdiv (2 ^ min 8 IntKind.u16.bits)) = (seq : Int) / 256 % 256 := by
    rw [hp, Int.fdiv_eq_ediv_of_nonneg _ (by omega)]
    unfold IntKind.wrap
    simp [IntKind.signed, IntKind.bits]
  have e2 : IntKind.u8.wrap (seq : Int) = (seq : Int) % 256 := by
    unfold IntKind.wrap
    simp [IntKind.signed, IntKind.bits]
  rw [e1, e2]
  exact AV.le_refl _
end Go.Proofs.YteaidaolablegaaGreatDoor
/-
  The program's answer to a record.
-/
namespace Go.Proofs.YteaidaolablegaaGreatDoor
open Go Go.AL

/-- The answer to a record with this header. -/
def answerF (h : Hd) (code : Nat) : Option (List UInt8) :=
  if h.ty = 2 ∨ h.ty = 6 ∨ h.resp = 0 ∨ 2 < h.resp.toNat then none
  else if code ≠ 0 then some (answerL h.seq 1 (codeF code))
  else if h.resp = 2 then some (answerL h.seq 0 0) else none
def AnsR (h : Hd) (code : Nat) (σ : Store) (v : AV) (σ' : Store) : Prop := σ' = σ ∧ match answerF h code with
  | some l => v = .tuple [.list true 1 (bytesA l), .lit (.bool true)]
  | none => v = .tuple [.list true 1 [], .lit (.bool false)]
set_option maxRecDepth 8000 in
theorem positive_calls (seq : Nat) (hs : seq < 65536) (σ : Store) : ACalls Tryz.prog 70 [.lit (.int .u16 seq)] σ fun v σ' => v = .list true 1 (bytesA (answerL seq 0 0)) ∧ σ' = σ := by
  have h := fun τ => answer_calls seq hs 0 0 τ
  simp only [byteA_lit] at h
  refine ACalls.of_awp follows (st := st70) (plans := pl70) (n := 5) Tryz.func70 rfl (by kernel_rfl) (by kernel_rfl) (by kernel_rfl) ?_
  simp
  refine callK.of (h _) ?_
  rintro v σ1 ⟨rfl, rfl⟩
  simp
set_option maxRecDepth 8000 in
set_option maxHeartbeats 1000000 in
theorem hanswer_calls (h : Hd) (hs : h.seq < 65536) (code : Nat) (σ : Store) : ACalls Tryz.prog 45 [.agg (hdL h), .lit (.int .i64 code)] σ (AnsR h code σ) := by
  obtain ⟨ty, req, resp, seq⟩ := h
  dsimp only at hs
  have hc := fun τ => hcode_calls code τ
  have ha := fun τ => answer_calls seq hs 1 (codeF code) τ
  have hp := fun τ => positive_calls seq hs τ
  simp only [byteA_lit] at ha hc
  have b2 : ∀ {b c : UInt8}, ¬ b = c → ¬ (b.toNat : Int) = (c.toNat : Int) := fun {b c} h e => h (UInt8.toNat_inj.1 (by omega))
  refine ACalls.of_awp follows (st := st45) (plans := pl45) (n := 40) Tryz.func45 rfl (by kernel_rfl) (by kernel_rfl) (by kernel_rfl) ?_
  unfold AnsR
  have r1 := resp.toNat_lt
  simp [hdL, byteA]
  intro p hp0
  have hsub := fun X => sub_upd_self σ p X hp0
  by_cases c1 : ty = 2
  · have e : answerF ⟨ty, req, resp, seq⟩ code = none := by unfold answerF; rw [if_pos (.inl c1)]
    rw [e]; subst c1
    simp
    exact ⟨_, AV.le_refl _, σ, hsub _, rfl, rfl⟩
  by_cases c2 : ty = 6
  · have e : answerF ⟨ty, req, resp, seq⟩ code = none := by unfold answerF; rw [if_pos (.inr (.inl c2))]
    rw [e]; subst c2
    simp
    exact ⟨_, AV.le_refl _, σ, hsub _, rfl, rfl⟩
  have g1 : ¬ (ty.toNat : Int) = 2 := b2 (c := 2) c1
  have g2 : ¬ (ty.toNat : Int) = 6 := b2 (c := 6) c2
  by_cases c3 : resp = 0
  · have e : answerF ⟨ty, req, resp, seq⟩ code = none := by unfold answerF; rw [if_pos (.inr (.inr (.inl c3)))]
    rw [e]; subst c3
    simp [g1, g2]
    exact ⟨_, AV.le_refl _, σ, hsub _, rfl, rfl⟩
  have g3 : ¬ (resp.toNat : Int) = 0 := b2 (c := 0) c3
  have g3n : ¬ resp.toNat = 0 := by omega
  by_cases c4 : 2 < resp.toNat
  · have e : answerF ⟨ty, req, resp, seq⟩ code = none := by unfold answerF; rw [if_pos (.inr (.inr (.inr c4)))]
    have g4 : 2 < (resp.toNat : Int) := by omega
    rw [e]
    simp [g1, g2, g3n, g4]
    exact ⟨_, AV.le_refl _, σ, hsub _, rfl, rfl⟩
  have g4 : ¬ 2 < (resp.toNat : Int) := by omega
  have e0 : answerF ⟨ty, req, resp, seq⟩ code = if code ≠ 0 then some (answerL seq 1 (codeF code)) else if resp = 2 then some (answerL seq 0 0) else none := by
    unfold answerF; rw [if_neg (by rintro (h | h | h | h) <;> contradiction)]
  rw [e0]
  by_cases c5 : code = 0
  · subst c5
    by_cases c6 : resp = 2
    · subst c6
      simp [g1, g2]
      refine callK.of (hp _) ?_
      rintro v σ1 ⟨rfl, rfl⟩
      simp
      exact ⟨_, AV.le_refl _, σ, hsub _, rfl, rfl⟩
    · have g6 : ¬ (resp.toNat : Int) = 2 := b2 (c := 2) c6
      simp [g1, g2, g3n, g4, g6, c6]
      exact ⟨_, AV.le_refl _, σ, hsub _, rfl, rfl⟩
  · have g5 : ¬ (code : Int) = 0 := by omega
    rw [if_pos c5]
    simp [g1, g2, g3n, g4, c5]
    repeat' with_reducible apply And.intro
    all_goals
      refine callK.of (hc _) ?_
      rintro v σ1 ⟨rfl, rfl⟩
      simp
      refine callK.of (ha _) ?_
      rintro v σ1 ⟨rfl, rfl⟩
      simp
      exact ⟨_, AV.le_refl _, σ, hsub _, rfl, rfl⟩
end Go.Proofs.YteaidaolablegaaGreatDoor
/-
  The link responds.
-/
namespace Go.Proofs.YteaidaolablegaaGreatDoor
open Go Go.AL

set_option maxRecDepth 8000 in
theorem rbytes_calls (o : Bool) (l : List UInt8) (σ : Store) (hl : l.length ≤ 1000000) : ACalls Tryz.prog 42 [.list o 1 (bytesA l)] σ fun v σ' => v = .list true 1 (bytesA (esc l ++ [255, 239])) ∧ σ' = σ := by
  have h1 := esc_length l
  have he := fun τ => escape_calls false l τ hl
  generalize esc l = k at *
  refine ACalls.of_awp follows (st := st42) (plans := pl42) (n := 7) Tryz.func42 rfl (by kernel_rfl) (by kernel_rfl) (by kernel_rfl) ?_
  simp
  refine callK.of (he _) ?_
  rintro v σ1 ⟨rfl, rfl⟩
  simp
  refine ⟨by omega, by omega, ?_⟩
  simp [bytesA, byteA]
def Ng.has (e : Ng) (c : UInt8) : Bool := decide (e.st = 3) && decide (c ∈ e.agreed)
set_option maxRecDepth 8000 in
theorem has_calls (q : Nat) (e : Ng) (o1 o2 : Bool) (c : UInt8) (hs : Small e) (σ : Store) (h : σ q = some (endO e o1 o2)) :
    ACalls Tryz.prog 39 [ptrA q, byteA c] σ fun v σ' => v = .lit (.bool (e.has c)) ∧ σ' = σ := by
  have h1 := functions_calls q e o1 o2 hs σ h
  have h2 := fun τ => indexByte_calls true (if e.st = 3 then e.agreed else []) c τ
  have h3 := ixByte_mem (if e.st = 3 then e.agreed else []) c
  have h4 : e.has c = decide (c ∈ (if e.st = 3 then e.agreed else [])) := by
    unfold Ng.has
    by_cases c3 : e.st = 3 <;> simp [c3]
  rw [h4]
  generalize (if e.st = 3 then e.agreed else []) = l at *
  rw [byteA_lit] at h2
  refine ACalls.of_awp follows (st := st39) (plans := pl39) (n := 10) Tryz.func39 rfl (by kernel_rfl) (by kernel_rfl) (by kernel_rfl) ?_
  simp [byteA]
  refine callK.of h1 ?_
  rintro v σ1 ⟨rfl, rfl⟩
  simp
  refine callK.of (h2 _) ?_
  rintro v σ1 ⟨rfl, rfl⟩
  by_cases hc : c ∈ l
  · have : 0 ≤ Lib.indexByte l c := by
      have := mt h3.1.1 (by simpa using hc)
      omega
    simp [hc, this]
  · have := h3.2 hc
    simp [hc, this]
/-- What the link does when a record is answered. -/
def Lk.respond (L : Lk) (e : LE) (code : Nat) : Lk × Bool :=
  if e.headed = true ∧ L.mode = 2 ∧ L.e.has 2 = true then
    match answerF e.hd code with
    | some a => ({ L with out := L.out ++ (esc a ++ [255, 239]) }, true)
    | .none => (L, false)
  else (L, false)
theorem answerF_length {h : Hd} {code : Nat} {a : List UInt8} (e : answerF h code = some a) : a.length = 6 := by
  unfold answerF at e
  repeat' split at e
  all_goals first | (cases e; done) | (cases e; rfl)
set_option maxRecDepth 8000 in
set_option maxHeartbeats 2000000 in
theorem respond_calls (kb : Bk) (hk : kb.Ok) (L : Lk) (a b : Bool) (e : LE) (hs : e.hd.seq < 65536) (code : Nat) (hsm : Small L.e) (hl : L.out.length ≤ 100000000000) (σ : Store) (h : LkAt kb L a b σ) :
    ACalls Tryz.prog 20 [ptrA kb.l, leA e, .lit (.int .i64 code)] σ fun v σ' => v = .lit (.bool (L.respond e code).2) ∧ LkTo kb (L.respond e code).1 σ σ' := by
  obtain ⟨k, d, hd, xh⟩ := e
  dsimp only at hs
  have han := fun τ => hanswer_calls hd hs code τ
  obtain ⟨ty, req, resp, seq⟩ := hd
  simp only [hdL, byteA_lit] at han
  unfold leA hdL
  refine ACalls.of_awp follows (st := st20) (plans := pl20) (n := 50) Tryz.func20 rfl (by kernel_rfl) (by kernel_rfl) (by kernel_rfl) ?_
  simp [byteA]
  intro p hp
  have hp1 := h.other hp [.lit (.int .i64 k), .list false 1 (bytesA d), .lit (.int .u8 ty.toNat), .lit (.int .u8 req.toNat), .lit (.int .u8 resp.toNat), .lit (.int .u16 seq), .lit (.bool xh)]
  have hsub := sub_upd_self σ p [.lit (.int .i64 k), .list false 1 (bytesA d), .lit (.int .u8 ty.toNat), .lit (.int .u8 req.toNat), .lit (.int .u8 resp.toNat), .lit (.int .u16 seq), .lit (.bool xh)] hp
  have hno : ∀ L', L' = L → LkTo kb L' σ σ := fun L' e => ⟨a, b, by rw [e]; exact (putL_self h).symm⟩
  obtain ⟨n1, n2, n3, n4, n5⟩ := h.ne hp
  have n1' : ¬ p = kb.l := fun e => n1 e.symm
  have hl0 := h.l
  unfold lkO at hl0
  have hhas := has_calls kb.e L.e a b 2 hsm _ hp1.e
  have e2 : (2 : UInt8).toNat = 2 := rfl
  rw [byteA_lit, e2] at hhas
  unfold Lk.respond
  dsimp only
  cases xh
  · simp
    exact ⟨_, AV.le_refl _, σ, hsub, rfl, hno _ rfl⟩
  by_cases hm : L.mode = 2
  · have hm' : (L.mode : Int) = 2 := by omega
    simp [n1, hl0, hm]
    refine callK.of hhas ?_
    rintro v σ1 ⟨rfl, rfl⟩
    cases hh : L.e.has 2
    · simp
      exact ⟨_, AV.le_refl _, σ, hsub, rfl, hno _ rfl⟩
    · simp
      refine callK.of (han _) ?_
      rintro v σ1 ⟨rfl, hv⟩
      cases ha : answerF ⟨ty, req, resp, seq⟩ code with
      | none =>
        rw [ha] at hv
        subst hv
        simp
        exact ⟨_, AV.le_refl _, σ, hsub, rfl, hno _ rfl⟩
      | some r =>
        rw [ha] at hv
        dsimp only at hv
        subst hv
        have hrl := answerF_length ha
        have hel := esc_length r
        have hb := fun τ => rbytes_calls false r τ (by omega)
        have hbl : (esc r ++ [255, 239]).length = (esc r).length + 2 := by simp
        dsimp only
        generalize esc r ++ [255, 239] = w at *
        have hpl := put_l hk hp1 (L.out ++ w) L.seq L.mode
        unfold lkO at hpl
        simp only [bytesA_append] at hpl
        have hfin := putL_sub (k := kb) (L := { L with out := L.out ++ w }) (o1 := a) (o2 := b) hsub
        rw [← hpl, hm] at hfin
        simp [n1, hl0, hm]
        repeat' with_reducible apply And.intro
        all_goals
          refine callK.of (hb _) ?_
          rintro v σ1 ⟨rfl, rfl⟩
          simp [n1, hl0, hm]
        all_goals exact ⟨by omega, by omega, _, AV.le_refl _, _, hfin, rfl, a, b, rfl⟩
  · have hm' : ¬ (L.mode : Int) = 2 := by omega
    simp [n1, hl0, hm, hm']
    exact ⟨_, AV.le_refl _, σ, hsub, rfl, hno _ rfl⟩
end Go.Proofs.YteaidaolablegaaGreatDoor
/-
  LinkCuts: the plain law: what is told and sent hangs on the stream alone.
-/
namespace Go.Proofs.YteaidaolablegaaGreatDoor
open Go Go.AL

def Lk.withRd (L : Lk) (r : Rd) : Lk := { L with rd := r }
theorem settle_rd (L : Lk) (r : Rd) : (L.withRd r).settle = L.settle.withRd r := by
  unfold Lk.settle
  show (if L.modeNow = L.mode then _ else _) = _
  by_cases h : L.modeNow = L.mode
  · rw [if_pos h, if_pos h]
  · rw [if_neg h, if_neg h]; rfl
theorem hear_rd (L : Lk) (r : Rd) (v o : UInt8) : (L.withRd r).hear v o = (L.hear v o).withRd r := by
  unfold Lk.hear
  show (if (L.o.hear v o).1.st 0 40 = 1 then _ else _) = _
  by_cases h : (L.o.hear v o).1.st 0 40 = 1
  · rw [if_pos h, if_pos h]; rfl
  · rw [if_neg h, if_neg h]; rfl
theorem sub_rd (L : Lk) (r : Rd) (ev : Ev) : (L.withRd r).sub ev = (L.sub ev).withRd r := by
  unfold Lk.sub
  show (if ev.long = true ∨ ev.broken = true ∨ ¬ L.o.st 0 ev.opt.toNat = 1 then _ else if (L.sub1 ev).e.st = 4 then _ else _) = _
  by_cases h : ev.long = true ∨ ev.broken = true ∨ ¬ L.o.st 0 ev.opt.toNat = 1
  · rw [if_pos h, if_pos h]
  · rw [if_neg h, if_neg h]
    by_cases h2 : (L.sub1 ev).e.st = 4
    · rw [if_pos h2, if_pos h2]; rfl
    · rw [if_neg h2, if_neg h2]; rfl
theorem take_rd (L : Lk) (r : Rd) (ev : Ev) : (L.withRd r).take ev = ((L.take ev).1, (L.take ev).2.1, (L.take ev).2.2.withRd r) := by
  unfold Lk.take
  split
  · rw [hear_rd, settle_rd]
  split
  · rw [sub_rd, settle_rd]
  show (if L.mode = 0 then _ else if ev.kind = 0 then _ else if ev.verb = 239 then _ else _) = _
  split
  · rfl
  split
  · show (_, _, Lk.settle (Lk.withRd { L with mp := L.mp ++ ev.data } r)) = _
    rw [settle_rd]
  split
  · rfl
  · rw [settle_rd]
theorem respond_rd (L : Lk) (r : Rd) (x : LE) (code : Nat) : ((L.withRd r).respond x code).1 = ((L.respond x code).1).withRd r := by
  unfold Lk.respond
  show (Prod.fst (if x.headed = true ∧ L.mode = 2 ∧ L.e.has 2 = true then _ else _)) = _
  split
  · cases answerF x.hd code <;> rfl
  · rfl

/-- The code that the n-th record comes to. -/
def codeAt (codes : List UInt8) (n : Nat) : Nat := if codes.length = 0 then 0 else (codes.getD (n % codes.length) 0).toNat % 16
/-- A link, how many records were answered, what was told. -/
structure Cs where
  L : Lk
  n : Nat
  out : List LE
namespace Cs
def one (codes : List UInt8) (s : Cs) (x : LE) : Cs := if x.kind = 2 then { s with out := s.out ++ [x] } else ⟨(s.L.respond x (codeAt codes s.n)).1, s.n + 1, s.out ++ [x]⟩
def step (codes : List UInt8) (s : Cs) (ev : Ev) : Cs := if (s.L.take ev).2.1 = true then one codes ⟨(s.L.take ev).2.2, s.n, s.out⟩ (s.L.take ev).1 else ⟨(s.L.take ev).2.2, s.n, s.out⟩
def run (codes : List UInt8) (s : Cs) (E : List Ev) : Cs := E.foldl (step codes) s
def withRd (s : Cs) (r : Rd) : Cs := { s with L := s.L.withRd r }
def pre (s : Cs) (o : List LE) : Cs := { s with out := o ++ s.out }
end Cs
theorem one_rd (codes : List UInt8) (s : Cs) (r : Rd) (x : LE) : (s.withRd r).one codes x = (s.one codes x).withRd r := by
  unfold Cs.one
  split
  · rfl
  · show Cs.mk ((s.L.withRd r).respond x (codeAt codes s.n)).1 _ _ = _
    rw [respond_rd]; rfl
theorem step_rd (codes : List UInt8) (s : Cs) (r : Rd) (ev : Ev) : (s.withRd r).step codes ev = (s.step codes ev).withRd r := by
  unfold Cs.step
  have e : (s.withRd r).L.take ev = ((s.L.take ev).1, (s.L.take ev).2.1, (s.L.take ev).2.2.withRd r) := take_rd s.L r ev
  rw [e]
  dsimp only
  split
  · exact one_rd codes ⟨(s.L.take ev).2.2, s.n, s.out⟩ r _
  · rfl
theorem run_rd (codes : List UInt8) (E : List Ev) : ∀ (s : Cs) (r : Rd), (s.withRd r).run codes E = (s.run codes E).withRd r := by
  induction E with
  | nil => intros; rfl
  | cons e E ih => intro s r; show ((s.withRd r).step codes e).run codes E = _; rw [step_rd, ih]; rfl
theorem one_pre (codes : List UInt8) (s : Cs) (o : List LE) (x : LE) : (s.pre o).one codes x = (s.one codes x).pre o := by
  unfold Cs.one Cs.pre
  split <;> simp
theorem step_pre (codes : List UInt8) (s : Cs) (o : List LE) (ev : Ev) : (s.pre o).step codes ev = (s.step codes ev).pre o := by
  unfold Cs.step
  show (if (s.L.take ev).2.1 = true then Cs.one codes (Cs.pre ⟨(s.L.take ev).2.2, s.n, s.out⟩ o) (s.L.take ev).1 else _) = _
  split
  · rw [one_pre]
  · rfl
theorem run_pre (codes : List UInt8) (E : List Ev) : ∀ (s : Cs) (o : List LE), (s.pre o).run codes E = (s.run codes E).pre o := by
  induction E with
  | nil => intros; rfl
  | cons e E ih => intro s r; show ((s.pre r).step codes e).run codes E = _; rw [step_pre, ih]; rfl
theorem run_append (codes : List UInt8) (s : Cs) (E F : List Ev) : s.run codes (E ++ F) = (s.run codes E).run codes F := by simp [Cs.run]
/-! ### Texts that follow one another -/
def mstepL (m : List LE) (e : LE) : List LE :=
  if ¬ e.kind = 2 ∨ e.headed = true then m ++ [e]
  else if e.data = [] then m
  else match m.getLast? with
    | some l => if l.kind = 2 ∧ l.headed = false then m.dropLast ++ [⟨2, l.data ++ e.data, .zero, false⟩] else m ++ [e]
    | none => m ++ [e]
def mergeL (l : List LE) : List LE := l.foldl mstepL []
theorem mergeL_snoc (l : List LE) (e : LE) : mergeL (l ++ [e]) = mstepL (mergeL l) e := by simp [mergeL]
def textE (d : List UInt8) : LE := ⟨2, d, .zero, false⟩
theorem mstepL_text (m : List LE) (a b : List UInt8) : mstepL (mstepL m (textE a)) (textE b) = mstepL m (textE (a ++ b)) := by
  by_cases ha : a = []
  · subst ha
    have h0 : ∀ x, mstepL x (textE []) = x := fun x => by simp [mstepL, textE]
    rw [h0, List.nil_append]
  by_cases hb : b = []
  · subst hb
    have h0 : ∀ x, mstepL x (textE []) = x := fun x => by simp [mstepL, textE]
    rw [h0, List.append_nil]
  have hab : a ++ b ≠ [] := by simp [ha]
  cases hm : m.getLast? with
  | none =>
    have : m = [] := by simpa using hm
    subst this
    simp [mstepL, textE, ha, hb]
  | some l =>
    by_cases hl : l.kind = 2 ∧ l.headed = false
    · simp [mstepL, textE, ha, hb, hm, hl]
    · simp [mstepL, textE, ha, hb, hm, hl]
theorem mstepL_size (m : List LE) (e : LE) : (mstepL m e).length ≤ m.length + 1 ∧ ((mstepL m e).map fun x => x.data.length).sum ≤ (m.map fun x => x.data.length).sum + e.data.length := by
  unfold mstepL
  split
  · simp
  split
  · simp
  split
  · rename_i last hl
    have ho : m = m.dropLast ++ [last] := by
      have hne : m ≠ [] := fun e => by subst e; simp at hl
      rw [List.getLast?_eq_some_getLast hne] at hl
      simp only [Option.some.injEq] at hl; subst hl; exact (List.dropLast_concat_getLast hne).symm
    split
    · generalize m.dropLast = init at ho
      subst ho
      simp; omega
    · simp
  · simp
/-! ### Cut or not -/
def Settled (L : Lk) : Prop := L.modeNow = L.mode
theorem settle_settled (L : Lk) : Settled L.settle := by
  unfold Settled Lk.settle
  split
  · assumption
  · rfl
theorem settled_same {L : Lk} (h : Settled L) : L.settle = L := by unfold Lk.settle; exact if_pos h
theorem take_settled {L : Lk} (h : Settled L) (ev : Ev) : Settled (L.take ev).2.2 := by
  unfold Lk.take
  split
  · exact settle_settled _
  split
  · exact settle_settled _
  split
  · exact h
  split
  · exact settle_settled _
  split
  · exact h
  · exact settle_settled _
theorem respond_settled {L : Lk} (h : Settled L) (x : LE) (code : Nat) : Settled (L.respond x code).1 := by
  unfold Lk.respond
  split
  · cases answerF x.hd code <;> exact h
  · exact h
theorem one_settled {codes : List UInt8} {s : Cs} (h : Settled s.L) (x : LE) : Settled (s.one codes x).L := by
  unfold Cs.one
  split
  · exact h
  · exact respond_settled h ..
theorem step_settled {codes : List UInt8} {s : Cs} (h : Settled s.L) (ev : Ev) : Settled (s.step codes ev).L := by
  unfold Cs.step
  split
  · exact one_settled (s := ⟨(s.L.take ev).2.2, s.n, s.out⟩) (take_settled h ev) _
  · exact take_settled h ev
theorem run_settled {codes : List UInt8} (E : List Ev) : ∀ {s : Cs}, Settled s.L → Settled (s.run codes E).L := by
  induction E with
  | nil => intro s h; exact h
  | cons e E ih => intro s h; exact ih (step_settled h e)
/-- Alike but for the reader, and for how texts are cut. -/
structure CsEq (s t : Cs) : Prop where
  L : t.L = s.L.withRd t.L.rd
  n : s.n = t.n
  out : mergeL s.out = mergeL t.out
theorem CsEq.refl (s : Cs) : CsEq s s := ⟨rfl, rfl, rfl⟩
theorem CsEq.trans {s t u : Cs} (h : CsEq s t) (k : CsEq t u) : CsEq s u := ⟨by rw [k.L, h.L]; rfl, h.n.trans k.n, h.out.trans k.out⟩
theorem CsEq.symm {s t : Cs} (h : CsEq s t) : CsEq t s := ⟨by rw [h.L]; rfl, h.n.symm, h.out.symm⟩
theorem CsEq.one {s t : Cs} (h : CsEq s t) (codes : List UInt8) (x : LE) : CsEq (s.one codes x) (t.one codes x) := by
  unfold Cs.one
  split
  · exact ⟨h.L, h.n, by rw [mergeL_snoc, mergeL_snoc, h.out]⟩
  · refine ⟨?_, by rw [h.n], by rw [mergeL_snoc, mergeL_snoc, h.out]⟩
    dsimp only
    rw [h.L, h.n, respond_rd]; rfl
theorem CsEq.step {s t : Cs} (h : CsEq s t) (codes : List UInt8) (ev : Ev) : CsEq (s.step codes ev) (t.step codes ev) := by
  have e : t.L.take ev = ((s.L.take ev).1, (s.L.take ev).2.1, (s.L.take ev).2.2.withRd t.L.rd) := by rw [h.L]; exact take_rd s.L _ ev
  have k : CsEq ⟨(s.L.take ev).2.2, s.n, s.out⟩ ⟨(t.L.take ev).2.2, t.n, t.out⟩ := ⟨by dsimp only; rw [e]; rfl, h.n, h.out⟩
  unfold Cs.step
  have e1 : (t.L.take ev).1 = (s.L.take ev).1 := by rw [e]
  have e2 : (t.L.take ev).2.1 = (s.L.take ev).2.1 := by rw [e]
  rw [e1, e2]
  split
  · exact k.one codes _
  · exact k
/-- An event of data, by its data. -/
theorem take_data0 (L : Lk) (ev : Ev) (h : ev.kind = 0) : L.take ev = if L.mode = 0 then (textE ev.data, true, L) else (.none, false, ({ L with mp := L.mp ++ ev.data } : Lk).settle) := by
  unfold Lk.take
  rw [if_neg (by omega), if_neg (by omega)]
  split
  · simp [textE, h]
  · first | rfl | rw [if_pos h]
theorem step_data0 (codes : List UInt8) (s : Cs) (hs : Settled s.L) (ev : Ev) (h : ev.kind = 0) : s.step codes ev = if s.L.mode = 0 then { s with out := s.out ++ [textE ev.data] } else { s with L := { s.L with mp := s.L.mp ++ ev.data } } := by
  unfold Cs.step
  rw [take_data0 _ _ h]
  by_cases hm : s.L.mode = 0
  · rw [if_pos hm, if_pos hm, if_pos rfl]
    unfold Cs.one
    exact if_pos rfl
  · rw [if_neg hm, if_neg hm, if_neg (by simp)]
    have : Settled { s.L with mp := s.L.mp ++ ev.data } := hs
    rw [settled_same this]
theorem step_two (codes : List UInt8) (s : Cs) (hs : Settled s.L) (a b c : Ev) (ha : a.kind = 0) (hb : b.kind = 0) (hc : c.kind = 0) (h : c.data = a.data ++ b.data) : CsEq (s.step codes c) ((s.step codes a).step codes b) := by
  rw [step_data0 _ _ (step_settled hs a) _ hb, step_data0 _ _ hs _ ha, step_data0 _ _ hs _ hc, h]
  by_cases hm : s.L.mode = 0
  · rw [if_pos hm, if_pos hm, if_pos hm]
    refine ⟨rfl, rfl, ?_⟩
    show mergeL (s.out ++ [textE (a.data ++ b.data)]) = mergeL (s.out ++ [textE a.data] ++ [textE b.data])
    rw [mergeL_snoc, mergeL_snoc, mergeL_snoc, mstepL_text]
  · rw [if_neg hm, if_neg hm, if_neg hm]
    refine ⟨?_, rfl, rfl⟩
    show ({ s.L with mp := s.L.mp ++ a.data ++ b.data } : Lk) = _
    rw [List.append_assoc]; rfl
theorem step_none (codes : List UInt8) (s : Cs) (hs : Settled s.L) (a : Ev) (ha : a.kind = 0) (h : a.data = []) : CsEq s (s.step codes a) := by
  rw [step_data0 _ _ hs _ ha, h]
  split
  · refine ⟨rfl, rfl, ?_⟩
    show _ = mergeL (s.out ++ [textE []])
    rw [mergeL_snoc]; simp [mstepL, textE]
  · refine ⟨?_, rfl, rfl⟩
    show ({ s.L with mp := s.L.mp ++ [] } : Lk) = _
    rw [List.append_nil]; rfl
theorem run_mergeStep (codes : List UInt8) (s : Cs) (hs : Settled s.L) (m : List Ev) (e : Ev) : CsEq (s.run codes (mergeStep m e)) ((s.run codes m).step codes e) := by
  unfold mergeStep
  split
  · rw [run_append]; exact CsEq.refl _
  rename_i hk
  have hk : e.kind = 0 := by simpa using hk
  split
  · exact step_none codes _ (run_settled m hs) e hk ‹_›
  · split
    · rename_i last hl
      have ho : m = m.dropLast ++ [last] := by
        have hne : m ≠ [] := fun e => by subst e; simp at hl
        rw [List.getLast?_eq_some_getLast hne] at hl
        simp only [Option.some.injEq] at hl; subst hl; exact (List.dropLast_concat_getLast hne).symm
      split
      · rename_i hl0
        rw [run_append]
        have e1 : s.run codes m = (s.run codes m.dropLast).step codes last := by
          have := run_append codes s m.dropLast [last]
          rw [← ho] at this; exact this
        rw [e1]
        exact step_two codes _ (run_settled _ hs) last e ⟨last.kind, last.verb, last.opt, last.data ++ e.data, last.long, last.broken⟩ hl0 hk hl0 rfl
      · rw [run_append]
        exact (step_two codes _ (run_settled m hs) ⟨0, 0, 0, [], false, false⟩ e (dataEv e.data) rfl hk rfl rfl).trans ((step_none codes _ (run_settled m hs) ⟨0, 0, 0, [], false, false⟩ rfl rfl).symm.step codes e)
    · rename_i hm
      have : m = [] := by simpa using hm
      subst this
      exact (step_two codes s hs ⟨0, 0, 0, [], false, false⟩ e (dataEv e.data) rfl hk rfl rfl).trans ((step_none codes s hs ⟨0, 0, 0, [], false, false⟩ rfl rfl).symm.step codes e)
theorem run_merge (codes : List UInt8) (s : Cs) (hs : Settled s.L) (E : List Ev) : CsEq (s.run codes (merge E)) (s.run codes E) := by
  have key : ∀ n (E : List Ev), E.length = n → CsEq (s.run codes (merge E)) (s.run codes E) := by
    intro n
    induction n with
    | zero =>
      intro E hE
      obtain rfl := List.eq_nil_of_length_eq_zero hE
      exact CsEq.refl _
    | succ n ih =>
      intro E hE
      rcases List.eq_nil_or_concat E with h | ⟨I, e, h⟩
      · subst h; simp at hE
      · have h' : E = I ++ [e] := by rw [h]; simp
        rw [h', merge_snoc, run_append]
        have hI := ih I (by rw [h'] at hE; simp at hE; exact hE)
        exact (run_mergeStep codes s hs (merge I) e).trans (hI.step codes e)
  exact key E.length E rfl
/-- Any two ways of cutting. -/
theorem cuts_alike (codes : List UInt8) (L : Lk) (hs : Settled L) (p one two : List UInt8) : CsEq ((Cs.mk L 0 []).run codes (fedAll p one)) ((Cs.mk L 0 []).run codes (fedAll p two)) := by
  have h1 := run_merge codes ⟨L, 0, []⟩ hs (fedAll p one)
  have h2 := run_merge codes ⟨L, 0, []⟩ hs (fedAll p two)
  rw [(merge_fedAll p one).1] at h1
  rw [(merge_fedAll p two).1] at h2
  exact h1.symm.trans h2
/-! ### The events that are told, one by one -/
theorem run_cons (codes : List UInt8) (r : List Ev) : ∀ {L : Lk} {n : Nat} {o : List LE} {x : LE} {r' : List Ev} {T : List (LE × List Ev)}, L.tlr r = (x, r') :: T → (Cs.mk L n o).run codes r = (Cs.one codes ⟨L.adv r, n, o⟩ x).run codes r' := by
  induction r with
  | nil => intro L n o x r' T h; cases h
  | cons ev r ih =>
    intro L n o x r' T h
    simp only [Lk.tlr] at h
    simp only [Lk.adv]
    show (Cs.step codes ⟨L, n, o⟩ ev).run codes r = _
    unfold Cs.step
    dsimp only
    split at h
    · rename_i ht
      rw [if_pos ht, if_pos ht]
      obtain ⟨e1, e2⟩ := List.cons.inj h
      obtain ⟨e3, rfl⟩ := Prod.mk.inj e1
      rw [e3]
    · rename_i ht
      rw [if_neg ht, if_neg ht]
      exact ih h
theorem run_nil (codes : List UInt8) (r : List Ev) : ∀ {L : Lk} {n : Nat} {o : List LE}, L.tlr r = [] → (Cs.mk L n o).run codes r = ⟨L.adv r, n, o⟩ := by
  induction r with
  | nil => intro L n o _; rfl
  | cons ev r ih =>
    intro L n o h
    simp only [Lk.tlr] at h
    simp only [Lk.adv]
    show (Cs.step codes ⟨L, n, o⟩ ev).run codes r = _
    unfold Cs.step
    dsimp only
    split at h
    · cases h
    · rename_i ht
      rw [if_neg ht, if_neg ht]
      exact ih h
/-! ### Room -/
theorem take_told {L : Lk} {ev : Ev} (h : (L.take ev).2.1 = true) : (L.take ev).2.2.out = L.out := by
  revert h
  unfold Lk.take
  split
  · intro h; cases h
  split
  · intro h; cases h
  split
  · intro _; rfl
  split
  · intro h; cases h
  split
  · intro _; rfl
  · intro h; cases h
/-- Where an event is told, there is room for its answer. -/
theorem adv_slack {r : List Ev} : ∀ {L : Lk} {x : LE} {r' : List Ev} {T : List (LE × List Ev)}, L.tlr r = (x, r') :: T → LOk L r → (L.adv r).out.length + 30000 * (r'.length + 1) ≤ 90000000000 := by
  induction r with
  | nil => intro L x r' T h _; cases h
  | cons ev r ih =>
    intro L x r' T h hok
    obtain ⟨hk, _⟩ := take_ok hok
    simp only [Lk.tlr] at h
    simp only [Lk.adv]
    split at h
    · rename_i ht
      rw [if_pos ht, take_told ht]
      obtain ⟨e1, _⟩ := List.cons.inj h
      obtain ⟨_, rfl⟩ := Prod.mk.inj e1
      exact hok.out
    · rename_i ht
      rw [if_neg ht]
      exact ih h hk
theorem respond_grow (L : Lk) (x : LE) (code : Nat) : ∃ y, (L.respond x code).1 = L.withOut y ∧ y.length ≤ L.out.length + 14 := by
  unfold Lk.respond
  split
  · cases h : answerF x.hd code with
    | none => exact ⟨L.out, rfl, by omega⟩
    | some a =>
      refine ⟨L.out ++ (esc a ++ [255, 239]), rfl, ?_⟩
      have h1 := answerF_length h
      have h2 := (esc_length a).2
      simp only [List.length_append, List.length_cons, List.length_nil]
      omega
  · exact ⟨L.out, rfl, by omega⟩
theorem one_grow (codes : List UInt8) (s : Cs) (x : LE) : ∃ y, (s.one codes x).L = s.L.withOut y ∧ y.length ≤ s.L.out.length + 14 ∧ (s.one codes x).n ≤ s.n + 1 ∧ (s.one codes x).out = s.out ++ [x] := by
  unfold Cs.one
  split
  · exact ⟨s.L.out, rfl, by omega, by dsimp only; omega, rfl⟩
  · obtain ⟨y, h1, h2⟩ := respond_grow s.L x (codeAt codes s.n)
    exact ⟨y, h1, h2, Nat.le_refl _, rfl⟩
/-- All but the room for what goes. -/
structure ROk (L : Lk) (r : List Ev) : Prop where
  data : ∀ ev ∈ r, ev.data.length ≤ 9000
  mp : L.mp.length + sumD r ≤ 8192
  small : Small L.e
  ok : EOk L.e
theorem LOk.rok {L : Lk} {r : List Ev} (h : LOk L r) : ROk L r := ⟨h.data, h.mp, h.small, h.ok⟩
theorem step_rok (codes : List UInt8) {s : Cs} {ev : Ev} {r : List Ev} (h : ROk s.L (ev :: r)) : ROk (s.step codes ev).L r ∧ (s.step codes ev).L.rd = s.L.rd ∧ (s.step codes ev).L.out.length ≤ s.L.out.length + 30014 ∧ (s.step codes ev).L.mp.length ≤ s.L.mp.length + (if ev.kind = 0 then ev.data.length else 0) ∧ (s.step codes ev).n ≤ s.n + 1 ∧ (s.step codes ev).out.length ≤ s.out.length + 1 := by
  obtain ⟨g1, g2⟩ := take_grow s.L ev h.small (h.data ev (by simp))
  have hrd : (s.L.take ev).2.2.rd = s.L.rd := by
    have := take_rd s.L s.L.rd ev
    have e : s.L.withRd s.L.rd = s.L := rfl
    rw [e] at this
    have := congrArg (fun x => x.2.2.rd) this
    exact this
  have hk : ROk (s.L.take ev).2.2 r := by
    have h0 : LOk (s.L.withOut []) [ev] := ⟨by simp [Lk.withOut], fun x hx => by simp at hx; subst hx; exact h.data _ (by simp), by
      have h1 := h.mp
      have h2 : sumD (ev :: r) = sumD [ev] + sumD r := by simp [sumD]
      show s.L.mp.length + sumD [ev] ≤ 8192
      omega, h.small, h.ok⟩
    obtain ⟨k, _⟩ := take_ok h0
    obtain ⟨y, hy⟩ := take_with s.L [] ev
    rw [hy] at k
    refine ⟨fun x hx => h.data x (by simp [hx]), ?_, k.small, k.ok⟩
    have h1 := h.mp
    have h2 : sumD (ev :: r) = (if ev.kind = 0 then ev.data.length else 0) + sumD r := by simp [sumD]
    omega
  unfold Cs.step
  split
  · obtain ⟨y, h1, h2, h3, h4⟩ := one_grow codes ⟨(s.L.take ev).2.2, s.n, s.out⟩ (s.L.take ev).1
    dsimp only at h1 h2 h3
    rw [h1]
    exact ⟨⟨hk.data, hk.mp, hk.small, hk.ok⟩, hrd, by show y.length ≤ _; omega, g2, h3, by rw [h4]; simp⟩
  · exact ⟨hk, hrd, by dsimp only; omega, g2, by dsimp only; omega, by dsimp only; omega⟩
theorem run_rok (codes : List UInt8) (r : List Ev) : ∀ {s : Cs}, ROk s.L r → ROk (s.run codes r).L [] ∧ (s.run codes r).L.rd = s.L.rd ∧ (s.run codes r).L.out.length ≤ s.L.out.length + 30014 * r.length ∧ (s.run codes r).L.mp.length ≤ s.L.mp.length + sumD r ∧ (s.run codes r).n ≤ s.n + r.length ∧ (s.run codes r).out.length ≤ s.out.length + r.length := by
  induction r with
  | nil => intro s h; exact ⟨h, rfl, Nat.le_refl _, Nat.le_refl _, Nat.le_refl _, Nat.le_refl _⟩
  | cons ev r ih =>
    intro s h
    obtain ⟨h1, h2, h3, h4, h5, h6⟩ := step_rok codes h
    obtain ⟨k1, k2, k3, k4, k5, k6⟩ := ih h1
    have hs : sumD (ev :: r) = (if ev.kind = 0 then ev.data.length else 0) + sumD r := by simp [sumD]
    show ROk ((s.step codes ev).run codes r).L [] ∧ ((s.step codes ev).run codes r).L.rd = _ ∧ ((s.step codes ev).run codes r).L.out.length ≤ _ ∧ ((s.step codes ev).run codes r).L.mp.length ≤ _ ∧ ((s.step codes ev).run codes r).n ≤ _ ∧ ((s.step codes ev).run codes r).out.length ≤ _
    simp only [List.length_cons]
    exact ⟨k1, k2.trans h2, by omega, by omega, by omega, by omega⟩
/-- All that comes of bytes, answered. -/
def Lk.ans (L : Lk) (codes : List UInt8) (n : Nat) (p : List UInt8) : Cs := (Cs.mk (L.fed p) n []).run codes (L.rd.fed p)
theorem ans_ok (codes : List UInt8) {L : Lk} {n k : Nat} (h : LkOk L n) (p : List UInt8) (hn : n + 2 * p.length ≤ 8000) : LkOk (L.ans codes k p).L (n + 2 * p.length) ∧ (L.ans codes k p).n ≤ k + 5 * p.length ∧ (L.ans codes k p).out.length ≤ 5 * p.length ∧ (L.ans codes k p).L.rd = L.rd.after p := by
  have hr := fed_room h p (by omega)
  obtain ⟨f1, f2, f3, f4⟩ := fed_b h.rd p
  obtain ⟨k1, k2, k3, k4, k5, k6⟩ := run_rok codes (s := ⟨L.fed p, k, []⟩) (L.rd.fed p) hr.rok
  obtain ⟨s1, _⟩ := fed_size L.rd p h.rd.out h.rd.data
  have ho := h.out
  have hm := h.mp
  have e1 : (L.fed p).out = L.out := rfl
  have e2 : (L.fed p).mp = L.mp := rfl
  dsimp only at k3 k4 k5 k6
  rw [e1] at k3
  rw [e2] at k4
  have k2' : (L.ans codes k p).L.rd = L.rd.after p := k2
  refine ⟨⟨?_, ?_, k1.small, k1.ok, ?_⟩, ?_, ?_, k2'⟩
  · show (Cs.run codes ⟨L.fed p, k, []⟩ (L.rd.fed p)).L.out.length ≤ _
    rw [Nat.add_mul]
    omega
  · show (Cs.run codes ⟨L.fed p, k, []⟩ (L.rd.fed p)).L.mp.length ≤ _
    omega
  · rw [k2']; exact f4
  · show (Cs.run codes ⟨L.fed p, k, []⟩ (L.rd.fed p)).n ≤ _
    omega
  · show (Cs.run codes ⟨L.fed p, k, []⟩ (L.rd.fed p)).out.length ≤ _
    simp at k6
    omega
end Go.Proofs.YteaidaolablegaaGreatDoor
