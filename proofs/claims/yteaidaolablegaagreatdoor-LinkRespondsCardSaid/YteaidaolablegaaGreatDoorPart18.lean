/-
  The responses: the program's and the document's.
-/
import Derived.Test.YteaidaolablegaaGreatDoorPart17
namespace Go.Proofs.YteaidaolablegaaGreatDoor
open Go Go.AL

theorem esc_snoc (l : List UInt8) (b : UInt8) : esc (l ++ [b]) = esc l ++ (if (b.toNat : Int) = 255 then [b, b] else [b]) := by
  rw [esc, escOf_append]
  congr 1
  by_cases h : b = 255
  · subst h; rfl
  · have : ¬ (b.toNat : Int) = 255 := fun e => h (UInt8.toNat_inj.1 (by show b.toNat = 255; omega))
    simp [escOf, h, this]
set_option maxRecDepth 4000 in
theorem lesc_calls (o : Bool) (l : List UInt8) (σ : Store) (hl : l.length ≤ 1000000) :
    ACalls Tryz.prog 19 [.list o 1 (bytesA l)] σ fun v σ' => v = .list true 1 (bytesA (esc l)) ∧ σ' = σ := by
  refine ACalls.of_awp follows (st := st19) (plans := pl19) (n := 24) Tryz.func19 rfl (by kernel_rfl) (by kernel_rfl) (by kernel_rfl) ?_
  simp
  refine codeK.loop follows (st := st19) (plans := pl19) (X := Nat) (fun i => i ≤ l.length)
    (fun i => [(3, .list true 1 (bytesA (esc (l.take i)))), (6, .list false 1 (bytesA l)), (7, .lit (.int .i64 l.length)), (8, .lit (.int .i64 i))]) (fun _ => σ) (fun i => l.length - i) 0 (by kernel_rfl) (by omega) (by simp [esc, escOf, bytesA]) (by simp) fun i hi => ?_
  by_cases hlt : i < l.length
  · have h1 := esc_length (l.take i)
    have h2 : (l.take i).length ≤ l.length := by simp; omega
    have h3 := esc_snoc (l.take i) l[i]
    rw [← List.take_succ_eq_append_getElem hlt] at h3
    have hwr : IntKind.i64.wrap ((i : Int) + 1) = ((i + 1 : Nat) : Int) := wrap_i64 (by omega) (by omega)
    have hlt' : (i : Int) < l.length := by omega
    obtain ⟨x, hx⟩ : ∃ x, l[i] = x := ⟨_, rfl⟩
    have hg : ∀ h : i < (bytesA l).length, (bytesA l)[i]'h = .lit (.int .u8 x.toNat) := fun h => by
      rw [List.getElem_eq_iff, bytesA_get, List.getElem?_eq_getElem hlt, hx]; rfl
    rw [hx] at h3
    generalize hE : esc (l.take i) = E at *
    by_cases hb : (x.toNat : Int) = 255
    · simp [hlt, hlt', hg, hb]
      refine ⟨by omega, by omega, by omega, by omega, i + 1, by omega, by omega, ?_, by rw [hwr]; exact AV.le_refl _⟩
      rw [h3, if_pos hb]; simp [bytesA, byteA, hb]
    · simp [hlt, hlt', hg, hb]
      refine ⟨by omega, by omega, i + 1, by omega, by omega, ?_, by rw [hwr]; exact AV.le_refl _⟩
      rw [h3, if_neg hb]; simp [bytesA, byteA]
  · obtain rfl : i = l.length := by omega
    simp
/-- The code of an error. -/
def codeF (n : Nat) : UInt8 := if n = 11 then 0 else if n = 6 ∨ n = 8 then 1 else if n = 3 ∨ n = 7 then 3 else 2
set_option maxRecDepth 8000 in
theorem hcode_calls (n : Nat) (σ : Store) : ACalls Tryz.prog 69 [.lit (.int .i64 n)] σ fun v σ' => v = byteA (codeF n) ∧ σ' = σ := by
  refine ACalls.of_awp follows (st := st69) (plans := pl69) (n := 12) Tryz.func69 rfl (by kernel_rfl) (by kernel_rfl) (by kernel_rfl) ?_
  unfold codeF
  by_cases h1 : n = 11
  · subst h1; simp [byteA]
  by_cases h2 : n = 6
  · subst h2; simp [byteA]
  by_cases h3 : n = 8
  · subst h3; simp [byteA]
  by_cases h4 : n = 3
  · subst h4; simp [byteA]
  by_cases h5 : n = 7
  · subst h5; simp [byteA]
  have g1 : ¬ (n : Int) = 11 := by omega
  have g2 : ¬ (n : Int) = 6 := by omega
  have g3 : ¬ (n : Int) = 8 := by omega
  have g4 : ¬ (n : Int) = 3 := by omega
  have g5 : ¬ (n : Int) = 7 := by omega
  simp [byteA, h1, h2, h3, h4, h5, g1, g2, g3, g4, g5]
set_option maxRecDepth 8000 in
theorem rcode_calls (n : Nat) (σ : Store) : ACalls Tryz.prog 47 [.lit (.int .i64 n)] σ fun v σ' => v = byteA (codeF n) ∧ σ' = σ := by
  refine ACalls.of_awp follows (st := st47) (plans := pl47) (n := 12) Tryz.func47 rfl (by kernel_rfl) (by kernel_rfl) (by kernel_rfl) ?_
  unfold codeF
  by_cases h1 : n = 11
  · subst h1; simp [byteA]
  by_cases h2 : n = 6
  · subst h2; simp [byteA]
  by_cases h3 : n = 8
  · subst h3; simp [byteA]
  by_cases h4 : n = 3
  · subst h4; simp [byteA]
  by_cases h5 : n = 7
  · subst h5; simp [byteA]
  have g1 : ¬ (n : Int) = 11 := by omega
  have g2 : ¬ (n : Int) = 6 := by omega
  have g3 : ¬ (n : Int) = 8 := by omega
  have g4 : ¬ (n : Int) = 3 := by omega
  have g5 : ¬ (n : Int) = 7 := by omega
  simp [byteA, h1, h2, h3, h4, h5, g1, g2, g3, g4, g5]
/-- An event of the document is one of the program. -/
theorem lown_calls (e : LE) (o : Bool) (σ : Store) : ACalls Tryz.prog 21 [leA e] σ fun v σ' => v = leA e ∧ σ' = σ := by
  obtain ⟨k, d, ⟨ty, req, resp, seq⟩, h⟩ := e
  refine ACalls.of_awp follows (st := st21) (plans := pl21) (n := 12) Tryz.func21 rfl (by kernel_rfl) (by kernel_rfl) (by kernel_rfl) ?_
  simp [leA, hdL, byteA]
  intro p hp q hq
  rw [ite_none] at hq
  obtain ⟨hqp, hq⟩ := hq
  have hpq : ¬ p = q := fun e => hqp e.symm
  simp [hpq]
  (intro q; simp only [Store.upd, Store.del]; (repeat' split) <;> first | exact Or.inr rfl | exact Or.inl rfl | (exfalso; omega) | (left; subst_vars; assumption) | simp_all)
/-- A response. -/
def answerL (seq : Nat) (bad code : UInt8) : List UInt8 := [2, 0, bad, UInt8.ofNat (seq / 256), UInt8.ofNat seq, code]
set_option maxRecDepth 8000 in
theorem answer_calls (seq : Nat) (_hs : seq < 65536) (bad code : UInt8) (σ : Store) : ACalls Tryz.prog 68 [.lit (.int .u16 seq), byteA bad, byteA code] σ fun v σ' => v = .list true 1 (bytesA (answerL seq bad code)) ∧ σ' = σ := by
  refine ACalls.of_awp follows (st := st68) (plans := pl68) (n := 15) Tryz.func68 rfl (by kernel_rfl) (by kernel_rfl) (by kernel_rfl) ?_
  simp [byteA, answerL, bytesA]
  have hp : (2 : Int) ^ min 8 IntKind.u16.bits = 256 := by decide
  have e1 : IntKind.u8.wrap ((seq : Int).fdiv (2 ^ min 8 IntKind.u16.bits)) = (seq : Int) / 256 % 256 := by
    rw [hp, Int.fdiv_eq_ediv_of_nonneg _ (by omega)]
    unfold IntKind.wrap
    simp [IntKind.signed, IntKind.bits]
  have e2 : IntKind.u8.wrap (seq : Int) = (seq : Int) % 256 := by
    unfold IntKind.wrap
    simp [IntKind.signed, IntKind.bits]
  rw [e1, e2]
  exact AV.le_refl _
end Go.Proofs.YteaidaolablegaaGreatDoor
/-
  The program's answer to a record.
-/
namespace Go.Proofs.YteaidaolablegaaGreatDoor
open Go Go.AL

/-- The answer to a record with this header. -/
def answerF (h : Hd) (code : Nat) : Option (List UInt8) :=
  if h.ty = 2 ∨ h.ty = 6 ∨ h.resp = 0 ∨ 2 < h.resp.toNat then none
  else if code ≠ 0 then some (answerL h.seq 1 (codeF code))
  else if h.resp = 2 then some (answerL h.seq 0 0) else none
def AnsR (h : Hd) (code : Nat) (σ : Store) (v : AV) (σ' : Store) : Prop := σ' = σ ∧ match answerF h code with
  | some l => v = .tuple [.list true 1 (bytesA l), .lit (.bool true)]
  | none => v = .tuple [.list true 1 [], .lit (.bool false)]
set_option maxRecDepth 8000 in
theorem positive_calls (seq : Nat) (hs : seq < 65536) (σ : Store) : ACalls Tryz.prog 70 [.lit (.int .u16 seq)] σ fun v σ' => v = .list true 1 (bytesA (answerL seq 0 0)) ∧ σ' = σ := by
  have h := fun τ => answer_calls seq hs 0 0 τ
  simp only [byteA_lit] at h
  refine ACalls.of_awp follows (st := st70) (plans := pl70) (n := 5) Tryz.func70 rfl (by kernel_rfl) (by kernel_rfl) (by kernel_rfl) ?_
  simp
  refine callK.of (h _) ?_
  rintro v σ1 ⟨rfl, rfl⟩
  simp
set_option maxRecDepth 8000 in
set_option maxHeartbeats 1000000 in
theorem hanswer_calls (h : Hd) (hs : h.seq < 65536) (code : Nat) (σ : Store) : ACalls Tryz.prog 45 [.agg (hdL h), .lit (.int .i64 code)] σ (AnsR h code σ) := by
  obtain ⟨ty, req, resp, seq⟩ := h
  dsimp only at hs
  have hc := fun τ => hcode_calls code τ
  have ha := fun τ => answer_calls seq hs 1 (codeF code) τ
  have hp := fun τ => positive_calls seq hs τ
  simp only [byteA_lit] at ha hc
  have b2 : ∀ {b c : UInt8}, ¬ b = c → ¬ (b.toNat : Int) = (c.toNat : Int) := fun {b c} h e => h (UInt8.toNat_inj.1 (by omega))
  refine ACalls.of_awp follows (st := st45) (plans := pl45) (n := 40) Tryz.func45 rfl (by kernel_rfl) (by kernel_rfl) (by kernel_rfl) ?_
  unfold AnsR
  have r1 := resp.toNat_lt
  simp [hdL, byteA]
  intro p hp0
  have hsub := fun X => sub_upd_self σ p X hp0
  by_cases c1 : ty = 2
  · have e : answerF ⟨ty, req, resp, seq⟩ code = none := by unfold answerF; rw [if_pos (.inl c1)]
    rw [e]; subst c1
    simp
    exact ⟨_, AV.le_refl _, σ, hsub _, rfl, rfl⟩
  by_cases c2 : ty = 6
  · have e : answerF ⟨ty, req, resp, seq⟩ code = none := by unfold answerF; rw [if_pos (.inr (.inl c2))]
    rw [e]; subst c2
    simp
    exact ⟨_, AV.le_refl _, σ, hsub _, rfl, rfl⟩
  have g1 : ¬ (ty.toNat : Int) = 2 := b2 (c := 2) c1
  have g2 : ¬ (ty.toNat : Int) = 6 := b2 (c := 6) c2
  by_cases c3 : resp = 0
  · have e : answerF ⟨ty, req, resp, seq⟩ code = none := by unfold answerF; rw [if_pos (.inr (.inr (.inl c3)))]
    rw [e]; subst c3
    simp [g1, g2]
    exact ⟨_, AV.le_refl _, σ, hsub _, rfl, rfl⟩
  have g3 : ¬ (resp.toNat : Int) = 0 := b2 (c := 0) c3
  have g3n : ¬ resp.toNat = 0 := by omega
  by_cases c4 : 2 < resp.toNat
  · have e : answerF ⟨ty, req, resp, seq⟩ code = none := by unfold answerF; rw [if_pos (.inr (.inr (.inr c4)))]
    have g4 : 2 < (resp.toNat : Int) := by omega
    rw [e]
    simp [g1, g2, g3n, g4]
    exact ⟨_, AV.le_refl _, σ, hsub _, rfl, rfl⟩
  have g4 : ¬ 2 < (resp.toNat : Int) := by omega
  have e0 : answerF ⟨ty, req, resp, seq⟩ code = if code ≠ 0 then some (answerL seq 1 (codeF code)) else if resp = 2 then some (answerL seq 0 0) else none := by
    unfold answerF; rw [if_neg (by rintro (h | h | h | h) <;> contradiction)]
  rw [e0]
  by_cases c5 : code = 0
  · subst c5
    by_cases c6 : resp = 2
    · subst c6
      simp [g1, g2]
      refine callK.of (hp _) ?_
      rintro v σ1 ⟨rfl, rfl⟩
      simp
      exact ⟨_, AV.le_refl _, σ, hsub _, rfl, rfl⟩
    · have g6 : ¬ (resp.toNat : Int) = 2 := b2 (c := 2) c6
      simp [g1, g2, g3n, g4, g6, c6]
      exact ⟨_, AV.le_refl _, σ, hsub _, rfl, rfl⟩
  · have g5 : ¬ (code : Int) = 0 := by omega
    rw [if_pos c5]
    simp [g1, g2, g3n, g4, c5]
    repeat' with_reducible apply And.intro
    all_goals
      refine callK.of (hc _) ?_
      rintro v σ1 ⟨rfl, rfl⟩
      simp
      refine callK.of (ha _) ?_
      rintro v σ1 ⟨rfl, rfl⟩
      simp
      exact ⟨_, AV.le_refl _, σ, hsub _, rfl, rfl⟩
end Go.Proofs.YteaidaolablegaaGreatDoor
/-
  The link responds.
-/
namespace Go.Proofs.YteaidaolablegaaGreatDoor
open Go Go.AL

set_option maxRecDepth 8000 in
theorem rbytes_calls (o : Bool) (l : List UInt8) (σ : Store) (hl : l.length ≤ 1000000) : ACalls Tryz.prog 42 [.list o 1 (bytesA l)] σ fun v σ' => v = .list true 1 (bytesA (esc l ++ [255, 239])) ∧ σ' = σ := by
  have h1 := esc_length l
  have he := fun τ => escape_calls false l τ hl
  generalize esc l = k at *
  refine ACalls.of_awp follows (st := st42) (plans := pl42) (n := 7) Tryz.func42 rfl (by kernel_rfl) (by kernel_rfl) (by kernel_rfl) ?_
  simp
  refine callK.of (he _) ?_
  rintro v σ1 ⟨rfl, rfl⟩
  simp
  refine ⟨by omega, by omega, ?_⟩
  simp [bytesA, byteA]
def Ng.has (e : Ng) (c : UInt8) : Bool := decide (e.st = 3) && decide (c ∈ e.agreed)
set_option maxRecDepth 8000 in
theorem has_calls (q : Nat) (e : Ng) (o1 o2 : Bool) (c : UInt8) (hs : Small e) (σ : Store) (h : σ q = some (endO e o1 o2)) :
    ACalls Tryz.prog 39 [ptrA q, byteA c] σ fun v σ' => v = .lit (.bool (e.has c)) ∧ σ' = σ := by
  have h1 := functions_calls q e o1 o2 hs σ h
  have h2 := fun τ => indexByte_calls true (if e.st = 3 then e.agreed else []) c τ
  have h3 := ixByte_mem (if e.st = 3 then e.agreed else []) c
  have h4 : e.has c = decide (c ∈ (if e.st = 3 then e.agreed else [])) := by
    unfold Ng.has
    by_cases c3 : e.st = 3 <;> simp [c3]
  rw [h4]
  generalize (if e.st = 3 then e.agreed else []) = l at *
  rw [byteA_lit] at h2
  refine ACalls.of_awp follows (st := st39) (plans := pl39) (n := 10) Tryz.func39 rfl (by kernel_rfl) (by kernel_rfl) (by kernel_rfl) ?_
  simp [byteA]
  refine callK.of h1 ?_
  rintro v σ1 ⟨rfl, rfl⟩
  simp
  refine callK.of (h2 _) ?_
  rintro v σ1 ⟨rfl, rfl⟩
  by_cases hc : c ∈ l
  · have : 0 ≤ Lib.indexByte l c := by
      have := mt h3.1.1 (by simpa using hc)
      omega
    simp [hc, this]
  · have := h3.2 hc
    simp [hc, this]
/-- What the link does when a record is answered. -/
def Lk.respond (L : Lk) (e : LE) (code : Nat) : Lk × Bool :=
  if e.headed = true ∧ L.mode = 2 ∧ L.e.has 2 = true then
    match answerF e.hd code with
    | some a => ({ L with out := L.out ++ (esc a ++ [255, 239]) }, true)
    | .none => (L, false)
  else (L, false)
theorem answerL_length (seq : Nat) (b c : UInt8) : (answerL seq b c).length = 6 := rfl
theorem answerF_length {h : Hd} {code : Nat} {a : List UInt8} (e : answerF h code = some a) : a.length = 6 := by
  unfold answerF at e
  repeat' split at e
  all_goals first | (cases e; done) | (cases e; rfl)
set_option maxRecDepth 8000 in
set_option maxHeartbeats 2000000 in
theorem respond_calls (kb : Bk) (hk : kb.Ok) (L : Lk) (a b : Bool) (e : LE) (hs : e.hd.seq < 65536) (code : Nat) (hsm : Small L.e) (hl : L.out.length ≤ 100000000000) (σ : Store) (h : LkAt kb L a b σ) :
    ACalls Tryz.prog 20 [ptrA kb.l, leA e, .lit (.int .i64 code)] σ fun v σ' => v = .lit (.bool (L.respond e code).2) ∧ LkTo kb (L.respond e code).1 σ σ' := by
  obtain ⟨k, d, hd, xh⟩ := e
  dsimp only at hs
  have han := fun τ => hanswer_calls hd hs code τ
  obtain ⟨ty, req, resp, seq⟩ := hd
  simp only [hdL, byteA_lit] at han
  unfold leA hdL
  refine ACalls.of_awp follows (st := st20) (plans := pl20) (n := 50) Tryz.func20 rfl (by kernel_rfl) (by kernel_rfl) (by kernel_rfl) ?_
  simp [byteA]
  intro p hp
  have hp1 := h.other hp [.lit (.int .i64 k), .list false 1 (bytesA d), .lit (.int .u8 ty.toNat), .lit (.int .u8 req.toNat), .lit (.int .u8 resp.toNat), .lit (.int .u16 seq), .lit (.bool xh)]
  have hsub := sub_upd_self σ p [.lit (.int .i64 k), .list false 1 (bytesA d), .lit (.int .u8 ty.toNat), .lit (.int .u8 req.toNat), .lit (.int .u8 resp.toNat), .lit (.int .u16 seq), .lit (.bool xh)] hp
  have hno : ∀ L', L' = L → LkTo kb L' σ σ := fun L' e => ⟨a, b, by rw [e]; exact (putL_self h).symm⟩
  obtain ⟨n1, n2, n3, n4, n5⟩ := h.ne hp
  have n1' : ¬ p = kb.l := fun e => n1 e.symm
  have hl0 := h.l
  unfold lkO at hl0
  have hhas := has_calls kb.e L.e a b 2 hsm _ hp1.e
  have e2 : (2 : UInt8).toNat = 2 := rfl
  rw [byteA_lit, e2] at hhas
  unfold Lk.respond
  dsimp only
  cases xh
  · simp
    exact ⟨_, AV.le_refl _, σ, hsub, rfl, hno _ rfl⟩
  by_cases hm : L.mode = 2
  · have hm' : (L.mode : Int) = 2 := by omega
    simp [n1, hl0, hm]
    refine callK.of hhas ?_
    rintro v σ1 ⟨rfl, rfl⟩
    cases hh : L.e.has 2
    · simp
      exact ⟨_, AV.le_refl _, σ, hsub, rfl, hno _ rfl⟩
    · simp
      refine callK.of (han _) ?_
      rintro v σ1 ⟨rfl, hv⟩
      cases ha : answerF ⟨ty, req, resp, seq⟩ code with
      | none =>
        rw [ha] at hv
        subst hv
        simp
        exact ⟨_, AV.le_refl _, σ, hsub, rfl, hno _ rfl⟩
      | some r =>
        rw [ha] at hv
        dsimp only at hv
        subst hv
        have hrl := answerF_length ha
        have hel := esc_length r
        have hb := fun τ => rbytes_calls false r τ (by omega)
        have hbl : (esc r ++ [255, 239]).length = (esc r).length + 2 := by simp
        dsimp only
        generalize esc r ++ [255, 239] = w at *
        have hpl := put_l hk hp1 (L.out ++ w) L.seq L.mode
        unfold lkO at hpl
        simp only [bytesA_append] at hpl
        have hfin := putL_sub (k := kb) (L := { L with out := L.out ++ w }) (o1 := a) (o2 := b) hsub
        rw [← hpl, hm] at hfin
        simp [n1, hl0, hm]
        repeat' with_reducible apply And.intro
        all_goals
          refine callK.of (hb _) ?_
          rintro v σ1 ⟨rfl, rfl⟩
          simp [n1, hl0, hm]
        all_goals exact ⟨by omega, by omega, _, AV.le_refl _, _, hfin, rfl, a, b, rfl⟩
  · have hm' : ¬ (L.mode : Int) = 2 := by omega
    simp [n1, hl0, hm, hm']
    exact ⟨_, AV.le_refl _, σ, hsub, rfl, hno _ rfl⟩
end Go.Proofs.YteaidaolablegaaGreatDoor
/-
  The document's responses.
-/
namespace Go.Proofs.YteaidaolablegaaGreatDoor
open Go Go.AL

@[simp] def st18o : List Nat := [1000036]
@[simp] def pl18o : List (Nat × Plan) := []
/-- The five bytes of a header. -/
def headL (h : Hd) : List UInt8 := [h.ty, h.req, h.resp, UInt8.ofNat (h.seq / 256), UInt8.ofNat h.seq]
def headOk (h : Hd) : Prop := ¬ (8 < h.ty.toNat ∨ 2 < h.resp.toNat ∨ (h.ty = 2 ∧ h.resp = 2))
instance (h : Hd) : Decidable (headOk h) := by unfold headOk; infer_instance
def HBytesR (h : Hd) (σ : Store) (v : AV) (σ' : Store) : Prop := σ' = σ ∧ ((headOk h ∧ v = .tuple [.list true 1 (bytesA (headL h)), .lit (.int .i64 0)]) ∨ (¬ headOk h ∧ v = .tuple [.list true 1 [], .lit (.int .i64 1)]))
set_option maxRecDepth 8000 in
set_option maxHeartbeats 1000000 in
theorem r9bytes_calls (h : Hd) (hs : h.seq < 65536) (σ : Store) : ACalls Tryz.prog 18 [.agg (hdL h)] σ (HBytesR h σ) := by
  obtain ⟨ty, req, resp, seq⟩ := h
  dsimp only at hs
  have b2 : ∀ {b c : UInt8}, ¬ b = c → ¬ (b.toNat : Int) = (c.toNat : Int) := fun {b c} h e => h (UInt8.toNat_inj.1 (by omega))
  have e1 : IntKind.u8.wrap (IntKind.u16.wrap ((seq : Int) / 256)) = (seq : Int) / 256 % 256 := by
    unfold IntKind.wrap
    simp [IntKind.signed, IntKind.bits]
  have e2 : IntKind.u8.wrap ((seq : Int).tmod 256) = (seq : Int) % 256 := by
    rw [Int.tmod_eq_emod_of_nonneg (by omega)]
    unfold IntKind.wrap
    simp [IntKind.signed, IntKind.bits]
  refine ACalls.of_awp follows (st := st18) (plans := pl18) (n := 37) Tryz.func18 rfl (by kernel_rfl) (by kernel_rfl) (by kernel_rfl) ?_
  unfold HBytesR headOk
  simp [hdL, byteA]
  intro p hp
  have hsub := fun X => sub_upd_self σ p X hp
  have hbad : ∀ X, ¬ (ty.toNat ≤ 8 ∧ resp.toNat ≤ 2 ∧ (ty = 2 → ¬ resp = 2)) → ∃ v', (AV.tuple [.list true 1 [], .lit (.int .i64 1)]).le v' ∧ ∃ x, x.sub (σ.upd p X) ∧ x = σ ∧ ((ty.toNat ≤ 8 ∧ resp.toNat ≤ 2 ∧ (ty = 2 → ¬ resp = 2)) ∧ v' = .tuple [.list true 1 (bytesA (headL ⟨ty, req, resp, seq⟩)), .lit (.int .i64 0)] ∨ (ty.toNat ≤ 8 → resp.toNat ≤ 2 → ty = 2 ∧ resp = 2) ∧ v' = .tuple [.list true 1 [], .lit (.int .i64 1)]) := fun X h =>
    ⟨_, AV.le_refl _, σ, hsub _, rfl, .inr ⟨fun h1 h2 => by
      by_cases h3 : ty = 2
      · by_cases h4 : resp = 2
        · exact ⟨h3, h4⟩
        · exact (h ⟨h1, h2, fun _ => h4⟩).elim
      · exact (h ⟨h1, h2, fun h => (h3 h).elim⟩).elim, rfl⟩⟩
  have hgood : ∀ X, ty.toNat ≤ 8 → resp.toNat ≤ 2 → (ty = 2 → ¬ resp = 2) → ∃ v', (AV.tuple [.list true 1 [.lit (.int .u8 ty.toNat), .lit (.int .u8 req.toNat), .lit (.int .u8 resp.toNat), .lit (.int .u8 ((seq : Int) / 256 % 256)), .lit (.int .u8 ((seq : Int) % 256))], .lit (.int .i64 0)]).le v' ∧ ∃ x, x.sub (σ.upd p X) ∧ x = σ ∧ ((ty.toNat ≤ 8 ∧ resp.toNat ≤ 2 ∧ (ty = 2 → ¬ resp = 2)) ∧ v' = .tuple [.list true 1 (bytesA (headL ⟨ty, req, resp, seq⟩)), .lit (.int .i64 0)] ∨ (ty.toNat ≤ 8 → resp.toNat ≤ 2 → ty = 2 ∧ resp = 2) ∧ v' = .tuple [.list true 1 [], .lit (.int .i64 1)]) := fun X h1 h2 h3 =>
    ⟨_, AV.le_refl _, σ, hsub _, rfl, .inl ⟨⟨h1, h2, h3⟩, by simp [headL, bytesA, byteA]⟩⟩
  by_cases c1 : ty.toNat ≤ 8
  · have g1 : (ty.toNat : Int) ≤ 8 := by omega
    by_cases c2 : resp.toNat ≤ 2
    · have g2 : (resp.toNat : Int) ≤ 2 := by omega
      have g2' : ¬ 2 < (resp.toNat : Int) := by omega
      have g1' : ¬ 8 < (ty.toNat : Int) := by omega
      by_cases c3 : ty = 2
      · by_cases c4 : resp = 2
        · have h := fun X => hbad X fun h => h.2.2 c3 c4
          subst c3 c4
          simp at h ⊢
          exact h _
        · have h := fun X => hgood X c1 c2 fun _ => c4
          have g4 : ¬ (resp.toNat : Int) = 2 := b2 (c := 2) c4
          subst c3
          simp [g2, g2', g4] at h ⊢
          rw [e1, e2]
          exact h _
      · have g3 : ¬ (ty.toNat : Int) = 2 := b2 (c := 2) c3
        have h := fun X => hgood X c1 c2 fun h => (c3 h).elim
        simp [g1, g2, g1', g2', g3]
        rw [e1, e2]
        exact h _
    · have h := fun X => hbad X fun h => c2 h.2.1
      have g2 : ¬ (resp.toNat : Int) ≤ 2 := by omega
      have g2' : 2 < (resp.toNat : Int) := by omega
      have g1' : ¬ 8 < (ty.toNat : Int) := by omega
      simp [g1, g2, g1', g2']
      exact h _
  · have h := fun X => hbad X fun h => c1 h.1
    have g1 : ¬ (ty.toNat : Int) ≤ 8 := by omega
    have g1' : 8 < (ty.toNat : Int) := by omega
    simp [g1, g1']
    exact h _
end Go.Proofs.YteaidaolablegaaGreatDoor
/-
  The document's answer, where its responses are known.
-/
namespace Go.Proofs.YteaidaolablegaaGreatDoor
open Go Go.AL

set_option maxRecDepth 8000 in
set_option maxHeartbeats 1000000 in
theorem r9answer_of (hresp : ∀ (seq : Nat) (good : Bool) (code : UInt8) (τ : Store), seq < 65536 → ACalls Tryz.prog 46 [.lit (.int .u16 seq), .lit (.bool good), byteA code] τ fun v τ' => v = .list true 1 (bytesA (if good = true then answerL seq 0 0 else answerL seq 1 code)) ∧ τ' = τ)
    (h : Hd) (hs : h.seq < 65536) (hok : headOk h) (code : Nat) (σ : Store) : ACalls Tryz.prog 22 [.agg (hdL h), .lit (.int .i64 code)] σ fun v σ' => v = .list true 1 (bytesA ((answerF h code).getD [])) ∧ σ' = σ := by
  obtain ⟨ty, req, resp, seq⟩ := h
  dsimp only at hs
  have hc := fun τ => rcode_calls code τ
  have hp := fun τ => hresp seq true 0 τ hs
  have hn := fun τ => hresp seq false (codeF code) τ hs
  have e0 : (0 : UInt8).toNat = 0 := rfl
  simp only [byteA_lit, e0] at hc hp hn
  have b2 : ∀ {b c : UInt8}, ¬ b = c → ¬ (b.toNat : Int) = (c.toNat : Int) := fun {b c} h e => h (UInt8.toNat_inj.1 (by omega))
  have hr : resp = 0 ∨ resp = 1 ∨ resp = 2 := by
    unfold headOk at hok
    dsimp only at hok
    have : resp.toNat ≤ 2 := Nat.le_of_not_lt fun h => hok (.inr (.inl h))
    rcases (show resp.toNat = 0 ∨ resp.toNat = 1 ∨ resp.toNat = 2 by omega) with h | h | h
    · exact .inl (UInt8.toNat_inj.1 h)
    · exact .inr (.inl (UInt8.toNat_inj.1 h))
    · exact .inr (.inr (UInt8.toNat_inj.1 h))
  refine ACalls.of_awp follows (st := st22) (plans := pl22) (n := 40) Tryz.func22 rfl (by kernel_rfl) (by kernel_rfl) (by kernel_rfl) ?_
  simp [hdL, byteA]
  intro p hp0
  have hsub := fun X => sub_upd_self σ p X hp0
  by_cases c1 : ty = 2
  · have e : answerF ⟨ty, req, resp, seq⟩ code = none := by unfold answerF; rw [if_pos (.inl c1)]
    rw [e]; subst c1
    simp [bytesA_nil]
    exact hsub _
  by_cases c2 : ty = 6
  · have e : answerF ⟨ty, req, resp, seq⟩ code = none := by unfold answerF; rw [if_pos (.inr (.inl c2))]
    rw [e]; subst c2
    simp [bytesA_nil]
    exact hsub _
  have g1 : ¬ (ty.toNat : Int) = 2 := b2 (c := 2) c1
  have g2 : ¬ (ty.toNat : Int) = 6 := b2 (c := 6) c2
  rcases hr with rfl | rfl | rfl
  · have e : answerF ⟨ty, req, 0, seq⟩ code = none := by unfold answerF; rw [if_pos (.inr (.inr (.inl rfl)))]
    rw [e]
    simp [g1, g2, bytesA_nil]
    exact hsub _
  · have e : answerF ⟨ty, req, 1, seq⟩ code = if code ≠ 0 then some (answerL seq 1 (codeF code)) else none := by
      unfold answerF; rw [if_neg (by rintro (h | h | h | h) <;> first | contradiction | (dsimp only at h; revert h; decide))]; rfl
    rw [e]
    by_cases c5 : code = 0
    · subst c5
      simp [g1, g2, bytesA_nil]
      exact hsub _
    · have g5 : ¬ (code : Int) = 0 := by omega
      rw [if_pos c5]
      simp [g1, g2, c5]
      repeat' with_reducible apply And.intro
      all_goals
        refine callK.of (hc _) ?_
        rintro v σ1 ⟨rfl, rfl⟩
        simp
        refine callK.of (hn _) ?_
        rintro v σ1 ⟨rfl, rfl⟩
        simp
        exact hsub _
  · have e : answerF ⟨ty, req, 2, seq⟩ code = if code ≠ 0 then some (answerL seq 1 (codeF code)) else some (answerL seq 0 0) := by
      unfold answerF; rw [if_neg (by rintro (h | h | h | h) <;> first | contradiction | (dsimp only at h; revert h; decide))]; rfl
    rw [e]
    by_cases c5 : code = 0
    · subst c5
      simp [g1, g2]
      refine callK.of (hp _) ?_
      rintro v σ1 ⟨rfl, rfl⟩
      simp
      exact hsub _
    · have g5 : ¬ (code : Int) = 0 := by omega
      rw [if_pos c5]
      simp [g1, g2, c5]
      repeat' with_reducible apply And.intro
      all_goals
        refine callK.of (hc _) ?_
        rintro v σ1 ⟨rfl, rfl⟩
        simp
        refine callK.of (hn _) ?_
        rintro v σ1 ⟨rfl, rfl⟩
        simp
        exact hsub _
end Go.Proofs.YteaidaolablegaaGreatDoor
/-
  The document's response: the header's row is an object, since a byte of it is stored anew.
-/
namespace Go.Proofs.YteaidaolablegaaGreatDoor
open Go Go.AL

@[simp] def st46o : List Nat := [1000022, 1000025]
@[simp] def pl46o : List (Nat × Plan) := []
def HRowR (h : Hd) (σ : Store) (v : AV) (σ' : Store) : Prop := ∃ p, σ p = none ∧ v = .tuple [.lit (.slice (some ⟨p, 0, none⟩) 5 5), .lit (.int .i64 0)] ∧ σ' = σ.upd p (bytesA (headL h))
set_option maxRecDepth 8000 in
set_option maxHeartbeats 1000000 in
theorem r9row_calls (seq : Nat) (hs : seq < 65536) (σ : Store) : ACalls Tryz.prog 18 [.agg (hdL ⟨2, 0, 0, seq⟩)] σ (HRowR ⟨2, 0, 0, seq⟩ σ) := by
  have e1 : IntKind.u8.wrap (IntKind.u16.wrap ((seq : Int) / 256)) = (seq : Int) / 256 % 256 := by
    unfold IntKind.wrap
    simp [IntKind.signed, IntKind.bits]
  have e2 : IntKind.u8.wrap ((seq : Int).tmod 256) = (seq : Int) % 256 := by
    rw [Int.tmod_eq_emod_of_nonneg (by omega)]
    unfold IntKind.wrap
    simp [IntKind.signed, IntKind.bits]
  refine ACalls.of_awp follows (st := st18o) (plans := pl18o) (n := 37) Tryz.func18 rfl (by kernel_rfl) (by kernel_rfl) (by kernel_rfl) ?_
  unfold HRowR
  simp [hdL, byteA]
  intro p hp
  simp +contextual [e1, e2, ite_free]
  intro q hpq _ hq
  refine ⟨_, AV.le_refl _, _, ?_, q, hq, rfl, rfl⟩
  simp [headL, bytesA, byteA, flat, AV.cells, AV.drop1]
  (intro q; simp only [Store.upd, Store.del]; (repeat' split) <;> first | exact Or.inr rfl | exact Or.inl rfl | (exfalso; omega) | (left; subst_vars; assumption) | simp_all)
theorem headL_length (h : Hd) : (headL h).length = 5 := rfl
def RespR (seq : Nat) (good : Bool) (code : UInt8) (σ : Store) (v : AV) (σ' : Store) : Prop := ∃ p cap rest, σ p = none ∧ v = .lit (.slice (some ⟨p, 0, none⟩) 6 cap) ∧ cap ≤ maxLen ∧ 6 ≤ cap ∧ rest.length + 6 = cap ∧
  σ' = σ.upd p (bytesA (if good = true then answerL seq 0 0 else answerL seq 1 code) ++ rest)
set_option maxRecDepth 8000 in
set_option maxHeartbeats 1000000 in
theorem response_calls (seq : Nat) (good : Bool) (code : UInt8) (hs : seq < 65536) (σ : Store) : ACalls Tryz.prog 46 [.lit (.int .u16 seq), .lit (.bool good), byteA code] σ (RespR seq good code σ) := by
  have hr := fun τ => r9row_calls seq hs τ
  refine ACalls.of_awp follows (st := st46o) (plans := pl46o) (n := 26) Tryz.func46 rfl (by kernel_rfl) (by kernel_rfl) (by kernel_rfl) ?_
  unfold RespR
  simp [hdL, byteA] at hr ⊢
  refine callK.of (hr _) ?_
  rintro v σ1 ⟨p, hp, rfl, rfl⟩
  have hfresh : ∀ (q : Nat) (X : List AV), (p = q ∨ (if q = p then some X else σ q) = none) → σ q = none := by
    rintro q X (rfl | h)
    · exact hp
    · split at h
      · cases h
      · exact h
  cases good
  · simp [headL, bytesA, byteA]
    intro q cap hq h6 hm
    refine ⟨_, AV.le_refl _, _, ?_, q, hfresh _ _ hq, cap, rfl, hm, h6, List.replicate (cap - 6) .top, by simp; omega, rfl⟩
    simp [answerL, byteA, flat, AV.cells, AV.drop1]
    (intro q; simp only [Store.upd, Store.del]; (repeat' split) <;> first | exact Or.inr rfl | exact Or.inl rfl | (exfalso; omega) | (left; subst_vars; assumption) | simp_all)
  · simp [headL, bytesA, byteA]
    intro q cap hq h6 hm
    refine ⟨_, AV.le_refl _, _, ?_, q, hfresh _ _ hq, cap, rfl, hm, h6, List.replicate (cap - 6) .top, by simp; omega, rfl⟩
    simp [answerL, byteA, flat, AV.cells, AV.drop1]
    (intro q; simp only [Store.upd, Store.del]; (repeat' split) <;> first | exact Or.inr rfl | exact Or.inl rfl | (exfalso; omega) | (left; subst_vars; assumption) | simp_all)
theorem resp_calls (seq : Nat) (good : Bool) (code : UInt8) (hs : seq < 65536) (σ : Store) : ACalls Tryz.prog 46 [.lit (.int .u16 seq), .lit (.bool good), byteA code] σ fun v σ' => v = .list true 1 (bytesA (if good = true then answerL seq 0 0 else answerL seq 1 code)) ∧ σ' = σ := by
  refine ACalls.shift (response_calls seq good code hs σ) ?_
  rintro v σ1 ⟨p, cap, rest, hp, rfl, hm, h6, hr, rfl⟩
  generalize hL : (if good = true then answerL seq 0 0 else answerL seq 1 code) = L
  have hlen : L.length = 6 := by subst hL; cases good <;> rfl
  refine .inr ⟨p, cap, 1, bytesA L, rest, by simp [hlen], by rw [flat_bytesA]; simp [Store.upd], by rw [flat_bytesA]; simp [hlen]; omega, hm, by simp [hlen]; omega, ?_, _, AV.le_refl _, rfl, ?_⟩
  · intro v hv
    obtain ⟨b, _, rfl⟩ := List.mem_map.1 hv
    rfl
  · funext q
    simp only [Store.del, Store.upd]
    split
    · rename_i hq; rw [hq, hp]
    · rfl
theorem r9answer_calls (h : Hd) (hs : h.seq < 65536) (hok : headOk h) (code : Nat) (σ : Store) : ACalls Tryz.prog 22 [.agg (hdL h), .lit (.int .i64 code)] σ fun v σ' => v = .list true 1 (bytesA ((answerF h code).getD [])) ∧ σ' = σ :=
  r9answer_of (fun seq good c τ hq => resp_calls seq good c hq τ) h hs hok code σ
end Go.Proofs.YteaidaolablegaaGreatDoor
/-
  Nothing but text unless it is agreed: the plain law; one lot of bytes.
-/
namespace Go.Proofs.YteaidaolablegaaGreatDoor
open Go Go.AL

/-- May an event be told, as the link is? -/
def MayTell (e : LE) (L : Lk) : Prop := (e.kind ≠ 2 → L.modeNow = 1 ∨ L.modeNow = 2) ∧ (e.kind = 2 → e.headed = false → L.modeNow = 0)
theorem modeNow_le (L : Lk) : L.modeNow = 0 ∨ L.modeNow = 1 ∨ L.modeNow = 2 := by
  unfold Lk.modeNow
  repeat' split
  all_goals simp
theorem settle_mode (L : Lk) : L.settle.mode = L.settle.modeNow := by
  unfold Lk.settle
  split
  · rename_i h; exact h.symm
  · rfl
theorem kindOf_le (c : UInt8) : kindOf c ≠ 0 := by
  unfold kindOf
  repeat' split
  all_goals decide
theorem take_mode {L : Lk} {ev : Ev} (h : L.mode = L.modeNow) : (L.take ev).2.2.mode = (L.take ev).2.2.modeNow ∧ ((L.take ev).2.1 = true → MayTell (L.take ev).1 (L.take ev).2.2) := by
  have hm := modeNow_le L
  unfold Lk.take
  split
  · exact ⟨settle_mode _, fun h => by cases h⟩
  split
  · exact ⟨settle_mode _, fun h => by cases h⟩
  split
  · rename_i h0
    exact ⟨h, fun _ => ⟨fun h => absurd rfl h, fun _ _ => h ▸ h0⟩⟩
  split
  · exact ⟨settle_mode _, fun h => by cases h⟩
  split
  · rename_i h0 _ _
    have hn : L.modeNow = 1 ∨ L.modeNow = 2 := by omega
    have e2 : ({ L with mp := [] } : Lk).modeNow = L.modeNow := rfl
    refine ⟨h, fun _ => ⟨fun _ => e2 ▸ hn, fun h1 h2 => ?_⟩⟩
    exfalso
    revert h1 h2
    unfold toldF
    split
    · intro h1; exact absurd h1 (by simp)
    · split
      · intro _ h2; cases h2
      · intro h1; exact absurd h1 (by simp)
  · exact ⟨settle_mode _, fun h => by cases h⟩
theorem adv_mode {L : Lk} {r : List Ev} {x : LE} {r' : List Ev} {T : List (LE × List Ev)} (h : L.tlr r = (x, r') :: T) (hm : L.mode = L.modeNow) :
    (L.adv r).mode = (L.adv r).modeNow ∧ MayTell x (L.adv r) := by
  induction r generalizing L with
  | nil => cases h
  | cons ev r ih =>
    obtain ⟨h1, h2⟩ := take_mode (ev := ev) hm
    simp only [Lk.tlr] at h
    simp only [Lk.adv]
    split at h
    · rename_i ht
      rw [if_pos ht]
      obtain ⟨e1, e2⟩ := List.cons.inj h
      obtain ⟨rfl, rfl⟩ := Prod.mk.inj e1
      exact ⟨h1, h2 ht⟩
    · rename_i ht
      rw [if_neg ht]
      exact ih h h1
theorem fin_mode {L : Lk} {r : List Ev} (hm : L.mode = L.modeNow) : (L.fin r).mode = (L.fin r).modeNow := by
  induction r generalizing L with
  | nil => exact hm
  | cons ev r ih => exact ih (take_mode hm).1
theorem all_mode {L : Lk} (hm : L.mode = L.modeNow) (p : List UInt8) : (L.all p).mode = (L.all p).modeNow := fin_mode (L := L.fed p) hm
theorem init_mode (e : Ng) (x : Bool) : (Lk.init e x).mode = (Lk.init e x).modeNow := by
  cases x <;> rfl
set_option maxRecDepth 8000 in
theorem on1_calls (m : Om) (k c : Nat) (s : Nat) (o : UInt8) (hs : s = 0 ∨ s = 1) (σ : Store) (h : σ k = some (omA m)) (hc : σ c = some [ptrA k]) :
    ACalls Tryz.prog 35 [.lit (.int .i64 s), byteA o, ptrA c] σ fun v σ' => v = .lit (.bool (decide (m.st s o.toNat = 1))) ∧ σ' = σ := by
  have h0 := oon_calls k s m o hs σ h
  rw [byteA_lit] at h0
  refine ACalls.of_awp follows (st := st35) (plans := pl35) (n := 10) Tryz.func35 rfl (by kernel_rfl) (by kernel_rfl) (by kernel_rfl) ?_
  simp [byteA, hc]
  refine callK.of h0 ?_
  rintro v σ1 ⟨rfl, rfl⟩
  simp
end Go.Proofs.YteaidaolablegaaGreatDoor
/-
  A record that is sent is one that is told.
-/
namespace Go.Proofs.YteaidaolablegaaGreatDoor
open Go Go.AL

theorem esc_cons (b : UInt8) (l : List UInt8) : esc (b :: l) = (if (b.toNat : Int) = 255 then [b, b] else [b]) ++ esc l := by
  have : b :: l = [b] ++ l := rfl
  rw [this, esc, escOf_append]
  congr 1
  exact esc_snoc [] b
theorem feed_app (r : Rd) (p q : List UInt8) : r.feed (p ++ q) = (r.feed p).feed q := by simp [Rd.feed]
theorem feed_esc (V : Rd) (hs : V.state = 0) (d : List UInt8) : V.feed (esc d) = { V with data := V.data ++ d, state := 0 } := by
  induction d generalizing V with
  | nil => simp [esc, escOf, Rd.feed, ← hs]
  | cons b d ih =>
    rw [esc_cons, feed_app]
    by_cases hb : (b.toNat : Int) = 255
    · rw [if_pos hb]
      show ((V.take b).take b).feed (esc d) = _
      rw [show V.take b = { V with state := 1 } by simp [Rd.take, hs, hb]]
      rw [show ({ V with state := 1 } : Rd).take b = { V with data := V.data ++ [b], state := 0 } by simp [Rd.take, Rd.command, hb], ih _ rfl]
      simp
    · rw [if_neg hb]
      show (V.take b).feed (esc d) = _
      rw [show V.take b = { V with data := V.data ++ [b], state := 0 } by simp [Rd.take, hs, hb], ih _ rfl]
      simp
/-- A record's end, behind its bytes. -/
theorem feed_rec (V : Rd) (hs : V.state = 0) (hd : V.data = []) (ho : V.out = []) (d : List UInt8) (h : 0 < d.length) :
    V.feed (esc d ++ [255, 239]) = { V with data := [], state := 0, out := [⟨0, 0, 0, d, false, false⟩, ⟨1, 239, 0, [], false, false⟩] } := by
  rw [feed_app, feed_esc V hs d, hd, List.nil_append]
  show ((({ V with data := d, state := 0 } : Rd).take 255).take 239) = _
  rw [show ({ V with data := d, state := 0 } : Rd).take 255 = { V with data := d, state := 1 } by simp [Rd.take]]
  rw [show ({ V with data := d, state := 1 } : Rd).take 239 = ({ V with data := d, state := 1 } : Rd).command 239 by simp [Rd.take]]
  simp [Rd.command, Rd.tell, Rd.flush, ho, h]
/-- A record that comes whole, in a mode with records: it is told, and the link is as it was. -/
theorem rec_told {L : Lk} (hr : RdOk L.rd) (hs : L.rd.state = 0) (hmp : L.mp = []) (hm : L.mode = L.modeNow) (h0 : ¬ L.mode = 0) (d : List UInt8) (h : 0 < d.length) :
    L.said (esc d ++ [255, 239]) = [toldF L.mode d] ∧ L.all (esc d ++ [255, 239]) = L := by
  have hf := feed_rec L.rd hs hr.data hr.out d h
  have e1 : L.rd.fed (esc d ++ [255, 239]) = [⟨0, 0, 0, d, false, false⟩, ⟨1, 239, 0, [], false, false⟩] := by
    unfold Rd.fed; rw [hf]; rfl
  have e2 : L.rd.after (esc d ++ [255, 239]) = L.rd := by
    unfold Rd.after
    rw [hf]
    have a := hr.data
    have b := hr.out
    obtain ⟨⟨s, v, o, dd, sb, lg, ou⟩, o', e', mp', out', seq', mode'⟩ := L
    dsimp only at a b hs
    subst a b hs
    rfl
  have e3 : L.fed (esc d ++ [255, 239]) = L := by unfold Lk.fed; rw [e2]
  have t1 : L.take ⟨0, 0, 0, d, false, false⟩ = (.none, false, { L with mp := d }) := by
    have hst : ({ L with mp := d } : Lk).settle = { L with mp := d } := by
      unfold Lk.settle
      rw [if_pos (show ({ L with mp := d } : Lk).modeNow = ({ L with mp := d } : Lk).mode from hm.symm)]
    unfold Lk.take
    rw [if_neg (by simp), if_neg (by simp), if_neg h0, if_pos rfl]
    dsimp only
    rw [hmp, List.nil_append, hst]
  have t2 : ({ L with mp := d } : Lk).take ⟨1, 239, 0, [], false, false⟩ = (toldF L.mode d, true, L) := by
    unfold Lk.take
    simp [h0]
    rw [← hmp]
  unfold Lk.said Lk.all
  rw [e1, e3]
  constructor
  · simp only [Lk.tlr, t1, t2]; rfl
  · simp only [Lk.fin, List.foldl_cons, List.foldl_nil, t1, t2]
end Go.Proofs.YteaidaolablegaaGreatDoor
/-
  LinkResponds: its link; what a record of its own gives, and what it answers.
-/
namespace Go.Proofs.YteaidaolablegaaGreatDoor
open Go Go.AL

def ngR : Ng := { ty := [84], dev := [], fns := [2] }
def helloR : List UInt8 := [255, 253, 40, 255, 250, 40, 8, 2, 255, 240, 255, 250, 40, 2, 4, 84, 1, 76, 255, 240, 255, 250, 40, 3, 4, 2, 255, 240]
theorem ngR_few : ngR.few = ngR := rfl
theorem ngR_ok : okC ngR := by decide +kernel
def respL0 : Lk := (Lk.init ngR true).all helloR
theorem respL0_facts : respL0.mode = 2 ∧ respL0.mp = [] ∧ respL0.rd.state = 0 ∧ respL0.e.has 2 = true := by decide +kernel
/-- What stays so of this law's link. -/
structure RespOk (L : Lk) : Prop where
  ok : LkOk L 56
  mode : L.mode = 2
  now : L.mode = L.modeNow
  mp : L.mp = []
  state : L.rd.state = 0
  has : L.e.has 2 = true
  out : L.out = []
theorem resp_of {L1 : Lk} (h : LkOk L1 56) (h1 : L1.mode = 2) (hm : L1.mode = L1.modeNow) (h2 : L1.mp = []) (h3 : L1.rd.state = 0) (h4 : L1.e.has 2 = true) : RespOk L1.emptied :=
  ⟨emptied_ok h, h1, hm, h2, h3, h4, rfl⟩
theorem resp_ok : LkOk (Lk.init ngR true) 0 := init_ok ⟨by simp [ngR], by simp [ngR], by simp [ngR], by simp [ngR]⟩ ngR_ok
theorem respL0_ok : LkOk respL0 56 := all_ok resp_ok helloR (by simp [helloR])
theorem respL0_mode : respL0.mode = respL0.modeNow := all_mode (init_mode ..) helloR
theorem resp_ex : ∃ L0 L1, Lk.init ngR true = L0 ∧ LkOk L0 0 ∧ L0.all helloR = L1 ∧ RespOk L1.emptied :=
  ⟨_, respL0, rfl, resp_ok, rfl, resp_of respL0_ok respL0_facts.1 respL0_mode respL0_facts.2.1 respL0_facts.2.2.1 respL0_facts.2.2.2⟩
/-- The header and one byte. -/
theorem parse_head {h : Hd} (hs : h.seq < 65536) (hok : headOk h) (l : List UInt8) : parseF (headL h ++ l) = some (h, l) := by
  obtain ⟨ty, req, resp, seq⟩ := h
  dsimp only at hs
  have e : (UInt8.ofNat (seq / 256)).toNat * 256 + (UInt8.ofNat seq).toNat = seq := by
    rw [UInt8.toNat_ofNat', UInt8.toNat_ofNat']; omega
  show parseF (ty :: req :: resp :: UInt8.ofNat (seq / 256) :: UInt8.ofNat seq :: l) = _
  simp only [parseF]
  rw [e, if_pos]
  unfold headOk at hok
  dsimp only at hok
  have hc : ty.toNat ≤ 8 ∧ resp.toNat ≤ 2 ∧ ¬ (ty = 2 ∧ resp = 2) := by
    refine ⟨?_, ?_, ?_⟩
    · exact Nat.le_of_not_lt fun h => hok (.inl h)
    · exact Nat.le_of_not_lt fun h => hok (.inr (.inl h))
    · exact fun h => hok (.inr (.inr h))
  obtain ⟨c1, c2, c3⟩ := hc
  unfold Hd.right
  simp only [Bool.and_eq_true, decide_eq_true_eq]
  refine ⟨c1, ?_⟩
  split
  · rename_i h2
    have : ¬ resp.toNat = 2 := fun h => c3 ⟨h2, UInt8.toNat_inj.1 h⟩
    omega
  · exact c2
end Go.Proofs.YteaidaolablegaaGreatDoor
