/-
  A key is pressed: the walk.
-/
import Derived.Test.YtlmdbcgceijlnaaGreatSPart19
set_option linter.unusedSimpArgs false
set_option linter.unusedVariables false
namespace Go.Proofs.YtlmdbcgceijlnaaGreat
open Go Go.AL Go.Sp
variable {σ : Store} {k q r b : Nat} {n : Int} {B : Bd}

theorem aidN_lt {K : Key} {j : Nat} (h : aidN K = some j) : j < 256 := by
  have h1 : ∀ j ∈ pfT, j < 256 := by decide
  have h2 : ∀ j ∈ paT, j < 256 := by decide
  unfold aidN at h
  repeat' split at h
  · cases h; omega
  · cases h; omega
  · exact h1 _ (List.mem_of_getElem? h)
  · exact h2 _ (List.mem_of_getElem? h)
  · cases h
theorem KOk.row (h : KOk σ k q r b n B) {p : Nat} (f : Free σ k q r b p) {B2 : Bd} (hg : B2.s.good) : KOk σ k q p b n B2 :=
  ⟨h.kq, fun e => f.k e.symm, h.kb, fun e => f.q e.symm, h.qb, fun e => f.b e, f.free, h.page, hg⟩
theorem kclear_calls (h : KOk σ k q r b n B) (x : Option Nat) : ACalls Tryz.prog 41 [ptrA q, .lit (.bool false)] (kS σ k q r b n x B) fun v σ' => v = .tuple [] ∧ ∃ p : Nat, Free σ k q r b p ∧ σ' = kS σ k q p b n x { B with s := B.s.clear false } := by
  have hq := kS_q h x
  unfold spO at hq
  refine (clear_calls false h.good.model hq).shift ?_
  rintro v τ ⟨rfl, p, hp, rfl⟩
  have f := kS_free h hp
  exact .inl ⟨_, _, AV.le_refl _, kS_clear h x f _, rfl, p, f, rfl⟩
set_option maxHeartbeats 2000000 in
set_option maxRecDepth 8000 in
theorem press_calls (h : KOk σ k q r b n B) (x : Option Nat) (K : Key) : ACalls Tryz.prog 12 [ptrA k, keyA K] (kS σ k q r b n x B) fun v σ' => v = .tuple [.lit (.bool (pressB n B K).2.1), .lit (.int .i64 (pressB n B K).2.2)] ∧
    ∃ (r' : Nat) (x' : Option Nat), KOk σ k q r' b n (pressB n B K).1 ∧ NxP σ x x' ∧ σ' = kS σ k q r' b n x' (pressB n B K).1 := by
  have hgood := pressB_good (n := n) h.good K
  have haid := fun τ => aid_calls K τ
  have hlt := @aidN_lt K
  have hE : ∀ o, aidN K = o → pressB n B K = if K.kind < 1 ∨ 22 < K.kind then (B, false, 1)
    else if K.kind = 17 then (resetB B, false, 0)
    else if ¬ B.lock = 0 then (B, false, 8)
    else if K.kind = 18 then chooseB n B
    else if o.isSome = true then
      ({ s := if K.kind = 22 then B.s.clear false else B.s, lock := 1, ins := false, aid := UInt8.ofNat (o.getD 0) }, true, 0)
    else if K.kind = 20 ∨ K.kind = 21 then (B, false, 1)
    else if (movK B.s K.kind).2 = true then ({ B with s := (movK B.s K.kind).1 }, false, 0)
    else ((enteredB n B K).1, false, (enteredB n B K).2) := by rintro _ rfl; rfl
  have hE := hE _ rfl
  have hen := fun (σ1 : Store) (h1 : KOk σ1 k q r b n B) (x : Option Nat) => entered_calls h1 x K
  generalize hP : pressB n B K = P at *
  generalize hao : aidN K = ao at *
  generalize hen0 : enteredB n B K = en at *
  obtain ⟨kind, sg, num⟩ := K
  dsimp only at hE
  simp only [keyA, keyC] at haid hen
  refine ACalls.of_awp follows (st := st12) (plans := pl12) (n := 75) Tryz.func12 rfl (by kernel_rfl) (by kernel_rfl) (by kernel_rfl) ?_
  simp [keyA, keyC]
  intro z hz
  have fz := kS_free h hz
  simp only [kS_new fz]
  have h1 := fz.ok h [.lit (.int .i64 kind), .lit (.int .i32 sg), .lit (.int .i64 num)]
  have hzv := fun x2 B2 => kS_other (n := n) fz x2 B2 [.lit (.int .i64 kind), .lit (.int .i32 sg), .lit (.int .i64 num)]
  have hdr := fun x2 B2 => fz.drop (n := n) x2 B2 [.lit (.int .i64 kind), .lit (.int .i32 sg), .lit (.int .i64 num)]
  have hmk : ∀ g : Nat, (σ.upd z [.lit (.int .i64 kind), .lit (.int .i32 sg), .lit (.int .i64 num)]) (mkey g) = σ (mkey g) := fun g => by simp
  have hσz : (σ.upd z [.lit (.int .i64 kind), .lit (.int .i32 sg), .lit (.int .i64 num)]) z = some [.lit (.int .i64 kind), .lit (.int .i32 sg), .lit (.int .i64 num)] := by simp
  have hdrp : ∀ p : Nat, ¬ z = p → ∀ x2 B2, Store.sub (kS σ k q p b n x2 B2) (kS (σ.upd z [.lit (.int .i64 kind), .lit (.int .i32 sg), .lit (.int .i64 num)]) k q p b n x2 B2) := fun p hp x2 B2 =>
    Free.drop (r := p) (n := n) ⟨fz.k, fz.q, hp, fz.b, fz.free⟩ x2 B2 [.lit (.int .i64 kind), .lit (.int .i32 sg), .lit (.int .i64 num)]
  have hσ1 : ∀ o : Nat, ¬ o = z → (σ.upd z [.lit (.int .i64 kind), .lit (.int .i32 sg), .lit (.int .i64 num)]) o = σ o := fun o ho => by simp [ho]
  generalize σ.upd z [.lit (.int .i64 kind), .lit (.int .i32 sg), .lit (.int .i64 num)] = σ1 at *
  have hk1 := fun xc => kS_k' h1 xc
  simp only [byteA] at hk1
  have hz1 := hzv x B
  have fin : ∀ (x2 : Option Nat) (B2 : Bd), NxP σ1 x x2 → P.1 = B2 → ∃ r' : Nat, KOk σ k q r' b n P.1 ∧ ∃ x', NxP σ x x' ∧ kS σ k q r b n x2 B2 = kS σ k q r' b n x' P.1 := fun x2 B2 nx e => ⟨r, h.s hgood, x2, nx.of hmk, by rw [e]⟩
  refine callK.of (haid _) ?_
  rintro v τ ⟨rfl, rfl⟩
  simp [hz1]
  by_cases c1 : kind < 1 ∨ 22 < kind
  · rw [if_pos c1] at hE
    have e1 : P.1 = B := by rw [hE]
    by_cases c2 : kind < 1
    · have c3 : ¬ 1 ≤ kind := by omega
      simp [c2, c3]
      refine ⟨_, AV.le_refl _, _, hdr x B, by rw [hE], fin x B (.inl rfl) e1⟩
    · have c3 : 1 ≤ kind := by omega
      have c4 : 22 < kind := by omega
      have c5 : ¬ kind ≤ 22 := by omega
      simp [c2, c3, c4]
      refine ⟨_, AV.le_refl _, _, hdr x B, by rw [hE], fin x B (.inl rfl) e1⟩
  rw [if_neg c1] at hE
  have c2 : ¬ kind < 1 := by omega
  have c3 : 1 ≤ kind := by omega
  have c4 : ¬ 22 < kind := by omega
  have c5 : kind ≤ 22 := by omega
  by_cases e17 : kind = 17
  · subst e17
    rw [if_pos rfl] at hE
    simp
    refine callK.of (reset_calls h1 x) ?_
    rintro v τ ⟨rfl, rfl⟩
    simp
    refine ⟨_, AV.le_refl _, _, hdr _ _, by rw [hE], fin x _ (.inl rfl) (by rw [hE])⟩
  rw [if_neg e17] at hE
  by_cases hl : B.lock = 0
  · rw [if_neg (by simp [hl])] at hE
    simp [hz1, c2, c3, c4, e17, hk1, hl]
    by_cases e18 : kind = 18
    · subst e18
      rw [if_pos rfl] at hE
      simp
      refine callK.of (choose_calls h1 x) ?_
      rintro v τ ⟨rfl, xc, nx, rfl⟩
      rw [← hE]
      simp
      refine ⟨_, AV.le_refl _, _, hdr _ _, rfl, fin xc _ nx rfl⟩
    rw [if_neg e18] at hE
    cases ao with
    | some a =>
      have ha := hlt rfl
      have hu : (UInt8.ofNat a).toNat = a := by simp; omega
      rw [if_pos (by simp)] at hE
      by_cases e22 : kind = 22
      · subst e22
        rw [if_pos rfl] at hE
        simp [e18]
        refine callK.of (kclear_calls h1 x) ?_
        rintro v τ ⟨rfl, p, f, rfl⟩
        have hpz : ¬ p = z := by
          rintro rfl
          have := f.free
          rw [hσz] at this; cases this
        have f0 : Free σ k q r b p := ⟨f.k, f.q, f.r, f.b, by rw [← hσ1 p hpz]; exact f.free⟩
        have hg : (B.s.clear false).good := Sp.clear_good h.good.model false
        have H2 : KOk σ1 k q p b n { B with s := B.s.clear false } := h1.row f hg
        have hsn := send_calls H2 x (UInt8.ofNat a)
        simp only [byteA, hu] at hsn
        simp
        refine callK.of hsn ?_
        rintro v τ ⟨rfl, rfl⟩
        simp
        refine ⟨_, AV.le_refl _, _, hdrp p (fun e => hpz e.symm) _ _, by rw [hE], p, h.row f0 hgood, x, .inl rfl, by rw [hE]; rfl⟩
      · rw [if_neg e22] at hE
        have hsn := send_calls h1 x (UInt8.ofNat a)
        simp only [byteA, hu] at hsn
        simp [e18, e22]
        refine callK.of hsn ?_
        rintro v τ ⟨rfl, rfl⟩
        simp
        refine ⟨_, AV.le_refl _, _, hdr _ _, by rw [hE], fin x _ (.inl rfl) (by rw [hE]; rfl)⟩
    | none =>
      rw [if_neg (by simp)] at hE
      by_cases e20 : kind = 20
      · rw [if_pos (.inl e20)] at hE
        simp [e20]
        refine ⟨_, AV.le_refl _, _, hdr _ _, by rw [hE], fin x _ (.inl rfl) (by rw [hE])⟩
      by_cases e21 : kind = 21
      · rw [if_pos (.inr e21)] at hE
        simp [e21]
        refine ⟨_, AV.le_refl _, _, hdr _ _, by rw [hE], fin x _ (.inl rfl) (by rw [hE])⟩
      rw [if_neg (by simp [e20, e21])] at hE
      simp [e18, e20, e21]
      refine callK.of (bmove_calls h1 x kind) ?_
      rintro v τ ⟨rfl, rfl⟩
      cases hmv : (movK B.s kind).2
      · rw [if_neg (by simp [hmv])] at hE
        have hms : (movK B.s kind).1 = B.s := by
          unfold movK at hmv ⊢
          repeat' split at hmv
          all_goals first | cases hmv | skip
          simp [*]
        rw [hms]
        simp [hz1]
        refine callK.of (hen σ1 h1 x) ?_
        rintro v τ ⟨rfl, xc, nx, rfl⟩
        simp
        refine ⟨_, AV.le_refl _, _, hdr _ _, by rw [hE], fin xc _ nx (by rw [hE])⟩
      · rw [if_pos hmv] at hE
        simp
        refine ⟨_, AV.le_refl _, _, hdr _ _, by rw [hE], fin x _ (.inl rfl) (by rw [hE])⟩
  · rw [if_pos hl] at hE
    have hl2 : ¬ (0 : Int) = B.lock := fun e => hl e.symm
    simp [c2, c3, c4, e17, hk1, hl]
    refine ⟨_, AV.le_refl _, _, hdr x B, by rw [hE], fin x B (.inl rfl) (by rw [hE])⟩
end Go.Proofs.YtlmdbcgceijlnaaGreat
/-
  Answers, screens and bytes that are the same.
-/
namespace Go.Proofs.YtlmdbcgceijlnaaGreat
open Go Go.AL Go.Sp

theorem alt_calls {q p : Nat} {s : Sp} {σ : Store} (h : Prg σ q p s) : ACalls Tryz.prog 28 [ptrA q] σ fun v σ' => v = .lit (.bool s.alt) ∧ σ' = σ := by
  have ho := h.obj
  unfold spO at ho
  refine ACalls.of_awp follows (st := st28) (plans := pl28) (n := 11) Tryz.func28 rfl (by kernel_rfl) (by kernel_rfl) (by kernel_rfl) ?_
  simp [ho]
end Go.Proofs.YtlmdbcgceijlnaaGreat
/-
  A screen's copy.
-/
namespace Go.Proofs.YtlmdbcgceijlnaaGreat
open Go Go.AL Go.Sp

end Go.Proofs.YtlmdbcgceijlnaaGreat
/-
  A screen is laid, a board stands on it.
-/
namespace Go.Proofs.YtlmdbcgceijlnaaGreat
open Go Go.AL Go.Sp

def pagesL : List Nat := [37, 273, 297, 500, 1047, 1140]
def pageN (u : UInt8) : Int := ((pagesL[u.toNat % 6]?.getD 0 : Nat) : Int)
theorem pageN_ok (u : UInt8) : isPage (pageN u) := all_bytes (p := fun u => isPage (pageN u)) (by decide +kernel) u
theorem pages_calls (σ : Store) : ACalls Tryz.prog 38 [] σ fun v σ' => v = .list true 1 (natsA pagesL) ∧ σ' = σ := by
  refine ACalls.of_awp follows (st := st38) (plans := pl38) (n := 2) Tryz.func38 rfl (by kernel_rfl) (by kernel_rfl) (by kernel_rfl) ?_
  simp [natsA, natA, pagesL]
def newB (s : Sp) : Bd := { s := s, lock := 0, ins := false, aid := 0x60 }
def LayK (σ : Store) (n : Int) (s : Sp) (v : AV) (σ' : Store) : Prop := ∃ (k q p b c : Nat) (base : Store), v = .tuple [ptrA k, ptrA q, ptrA c] ∧ Store.sub σ base ∧ base k = none ∧ base q = none ∧ base b = none ∧ KOk base k q p b n (newB s) ∧ σ' = kS base k q p b n none (newB s)
/-- The document's keyboard, in a store. -/
def rbdO (x : Nat) (n lock : Int) (ins : Bool) (aid : UInt8) : List AV := [ptrA x, .lit (.int .i64 n), .lit (.int .i64 lock), .lit (.bool ins), byteA aid]
/-- The same, and the document's keyboard on its screen. -/
def LayD (σ : Store) (n : Int) (s : Sp) (v : AV) (σ' : Store) : Prop := ∃ (k q p b c : Nat) (base : Store), v = .tuple [ptrA k, ptrA q, ptrA c] ∧ Store.sub σ base ∧ base k = none ∧ base q = none ∧ base b = none ∧ KOk base k q p b n (newB s) ∧ σ' = kS base k q p b n none (newB s) ∧
  ∃ (x y : Nat), base c = some (rbdO x n 0 false 0x60) ∧ Ref base x y s ∧ σ c = none
theorem lay_sub {σ : Store} {b k q p x y c : Nat} (X K PG SQ CS RX CY SQ0 CS0 : List AV) (hbk : ¬ b = k) (hbq : ¬ b = q) (hbp : ¬ b = p) (hbx : ¬ b = x) (hby : ¬ b = y) (hbc : ¬ b = c) (hkq : ¬ k = q) (hkp : ¬ k = p) (hkx : ¬ k = x) (hky : ¬ k = y) (hkc : ¬ k = c) (hqp : ¬ q = p) (hqx : ¬ q = x) (hqy : ¬ q = y) (hqc : ¬ q = c) (hpx : ¬ p = x) (hpy : ¬ p = y) (hpc : ¬ p = c) (hxy : ¬ x = y) (hxc : ¬ x = c) (hyc : ¬ y = c) :
    Store.sub (((((((σ.upd x RX).upd y CY).upd c X).upd q SQ).upd p CS).upd k K).upd b PG) (((((((((σ.upd b PG).upd x RX).upd y CY).upd q SQ0).upd p CS0).upd q SQ).upd p CS).upd k K).upd c X) := by
  refine Store.sub2 (fun o => .inr ?_) (fun i => by simp)
  simp only [supd_apply]
  by_cases eb : o = b
  · subst eb
    simp [hbk, hbq, hbp, hbx, hby, hbc]
  by_cases ek : o = k
  · subst ek
    simp [Ne.symm hbk, hkc]
  by_cases eq : o = q
  · subst eq
    simp [Ne.symm hbq, Ne.symm hkq, hqp, hqc]
  by_cases ep : o = p
  · subst ep
    simp [Ne.symm hbp, Ne.symm hkp, hpc]
  by_cases ex : o = x
  · subst ex
    simp [Ne.symm hbx, Ne.symm hkx, Ne.symm hqx, Ne.symm hpx, hxy, hxc]
  by_cases ey : o = y
  · subst ey
    simp [Ne.symm hby, Ne.symm hky, Ne.symm hqy, Ne.symm hpy, hyc]
  by_cases ec : o = c
  · subst ec
    simp [Ne.symm hbc, Ne.symm hkc, Ne.symm hqc, Ne.symm hpc]
  simp only [if_neg eb, if_neg ek, if_neg eq, if_neg ep, if_neg ex, if_neg ey, if_neg ec]
theorem knew_calls (q b : Nat) (σ : Store) : ACalls Tryz.prog 44 [ptrA q, ptrA b] σ fun v σ' => ∃ k : Nat, σ k = none ∧ v = .tuple [ptrA k, .lit (.int .i64 0)] ∧ σ' = σ.upd k [ptrA q, ptrA b, .lit (.int .i64 0), .lit (.bool false), byteA 0x60] := by
  refine ACalls.of_awp follows (st := st44) (plans := pl44) (n := 16) Tryz.func44 rfl (by kernel_rfl) (by kernel_rfl) (by kernel_rfl) ?_
  simp
  intro k hk
  exact ⟨_, AV.le_refl _, _, Store.sub_refl _, k, hk, rfl, rfl⟩
theorem rfnew_calls (x : Nat) (n : Int) (σ : Store) : ACalls Tryz.prog 45 [ptrA x, .lit (.int .i64 n)] σ fun v σ' => ∃ (c : Nat), σ c = none ∧ v = ptrA c ∧ σ' = σ.upd c (rbdO x n 0 false 0x60) := by
  refine ACalls.of_awp follows (st := st45) (plans := pl45) (n := 9) Tryz.func45 rfl (by kernel_rfl) (by kernel_rfl) (by kernel_rfl) ?_
  simp
  intro k hk
  exact ⟨_, AV.le_refl _, _, Store.sub_refl _, k, hk, rfl, rfl⟩
set_option maxHeartbeats 2000000 in
set_option maxRecDepth 8000 in
theorem layD_calls (m u : UInt8) (l : List Sp.Act) (hl : l.length ≤ 9223372036854775807) (ht : ∀ a ∈ l, a.text.length ≤ 9223372036854775807) (σ : Store) : ACalls Tryz.prog 10 [byteA m, byteA u, .list false 11 (actsA l)] σ (LayD σ (pageN u) (Sp.lays m l)) := by
  have hm : 2 ≤ 2 + m.toNat % 4 ∧ 2 + m.toNat % 4 ≤ 5 := by omega
  have hmw : IntKind.i64.wrap (2 + IntKind.i64.wrap ((m.toNat : Int).tmod 4)) = ((2 + m.toNat % 4 : Nat) : Int) := by
    have e : (m.toNat : Int).tmod 4 = ((m.toNat % 4 : Nat) : Int) := rfl
    rw [e, wrap_i64 (n := ((m.toNat % 4 : Nat) : Int)) (by omega) (by omega), wrap_i64 (by omega) (by omega)]; simp
  have hstep := lays_step m l
  have hS : Sp.lays m l = ((l.take 30).take l.length).foldl Sp.act (Sp.new (2 + m.toNat % 4)) := by
    rw [List.take_of_length_le (show (l.take 30).length ≤ l.length by simp; omega)]; rfl
  have hn1 := new_calls hm
  have hn2 := rnew_calls hm
  have hgood := fun k => Sp.foldl_good ((l.take 30).take k) (Sp.new_good hm)
  have hmod : (Sp.lays m l).model = 2 + m.toNat % 4 := (foldl_model _ _).trans rfl
  have hng := Sp.new_good hm
  refine ACalls.of_awp follows (st := st10) (plans := pl10) (n := 97) Tryz.func10 rfl (by kernel_rfl) (by kernel_rfl) (by kernel_rfl) ?_
  generalize hN : Sp.new (2 + m.toNat % 4) = N0 at *
  simp [byteA, hmw]
  have h6 : (u.toNat : Int).tmod 6 = ((u.toNat % 6 : Nat) : Int) := rfl
  have hi6 : u.toNat % 6 < pagesL.length := Nat.mod_lt _ (by decide)
  have hpv : ((pagesL[u.toNat % 6] : Nat) : Int) = pageN u := by unfold pageN; rw [List.getElem?_eq_getElem hi6]; rfl
  have hok := pageN_ok u
  refine callK.of (pages_calls _) ?_
  rintro v τ ⟨rfl, eτ⟩
  rw [h6, eτ]
  generalize u.toNat % 6 = j6 at *
  generalize hL6 : pagesL = L6 at *
  have h60 : ¬ (j6 : Int) < 0 := by omega
  simp [hi6, hpv]
  generalize hnn : pageN u = nn at *
  refine callK.of (hn1 _) ?_
  rintro v σ' ⟨q, p, rfl, hq, hp, hqp, rfl⟩
  simp
  refine callK.of (page_new nn hok _) ?_
  rintro v σ' ⟨b0, hb0, rfl, rfl⟩
  simp
  have hb1 : σ b0 = none ∧ ¬ q = b0 ∧ ¬ p = b0 := by
    simp only [putS, supd_apply, ite_none] at hb0; exact ⟨hb0.2.2, fun e => hb0.2.1 e.symm, fun e => hb0.1 e.symm⟩
  have hpe : pgS b0 nn none (putS spO σ q p N0) = putS spO (pgS b0 nn none σ) q p N0 := by
    unfold putS; rw [pgS_upd hb1.2.1, pgS_upd hb1.2.2]
  rw [hpe]
  have hq1 : (pgS b0 nn none σ) q = none := by rw [pgS_other hb1.2.1]; exact hq
  have hp1 : (pgS b0 nn none σ) p = none := by rw [pgS_other hb1.2.2]; exact hp
  obtain ⟨σp, hσp⟩ : ∃ σp, σp = pgS b0 nn none σ := ⟨_, rfl⟩
  rw [← hσp] at hq1 hp1 ⊢
  refine callK.of (hn2 _) ?_
  rintro v σ' ⟨x, y0, rfl, hx, hy, hxy, rfl⟩
  simp
  have hx' : σp x = none ∧ x ≠ q ∧ x ≠ p := by
    simp only [putS, supd_apply, ite_none] at hx; exact ⟨hx.2.2, hx.2.1, hx.1⟩
  have hy' : σp y0 = none ∧ y0 ≠ q ∧ y0 ≠ p := by
    simp only [putS, supd_apply, ite_none] at hy; exact ⟨hy.2.2, hy.2.1, hy.1⟩
  refine codeK.cut (fun e A σ' => e = .exit 0 ∧ ∃ y, Four σp q p x y ∧ LeL A [(10, .lit (.int .i64 nn)), (13, pgP b0), (11, ptrA q), (15, ptrA x)] ∧ Store.sub (both σp q p x y N0 (Sp.lays m l)) σ') ?_ ?_
  · refine codeK.loop follows (st := st10) (plans := pl10) (X := Nat × Nat) (fun k => k.1 ≤ l.length ∧ Four σp q p x k.2)
      (fun k => [(10, .lit (.int .i64 nn)), (13, pgP b0), (11, ptrA q), (15, ptrA x), (43, .list false 11 (actsA l)), (44, .lit (.int .i64 l.length)), (45, .lit (.int .i64 k.1))])
      (fun k => both σp q p x k.2 N0 (((l.take 30).take k.1).foldl Sp.act N0)) (fun k => l.length - k.1) (0, y0) (by kernel_rfl) ⟨by simp, ⟨hq1, hp1, hx'.1, hy'.1, hqp, Ne.symm hx'.2.1, Ne.symm hy'.2.1, Ne.symm hx'.2.2, Ne.symm hy'.2.2, hxy⟩⟩ (by simp) ?_ fun k hk => ?_
    · simp only [List.take_zero, List.foldl_nil]
      have h1 := hx'.2; have h2 := hy'.2
      simp only [both, putS]
      (intro q; simp only [Store.upd, Store.del]; (repeat' split) <;> first | exact Or.inr rfl | exact Or.inl rfl | (exfalso; omega) | (left; subst_vars; assumption) | simp_all)
    · obtain ⟨i, y⟩ := k
      obtain ⟨hi, h4⟩ := hk
      dsimp only at hi h4 ⊢
      by_cases hlt : i < l.length
      · have hw : IntKind.i64.wrap ((i : Int) + 1) = ((i + 1 : Nat) : Int) := wrap_i64 (by omega) (by omega)
        have ha := actsA_at l i hlt
        have hst := hstep i hlt
        have htx := ht l[i] (List.getElem_mem hlt)
        have hg := hgood i
        have hg2 := hgood (i + 1)
        by_cases h30 : i < 30
        · have h30i : (i : Int) < 30 := by omega
          rw [hst h30] at hg2
          have hst2 := hst h30
          generalize ((l.take 30).take i).foldl Sp.act N0 = t at *
          generalize l[i] = a at *
          have hdo := fun τ (hτ : Ref τ x y t) => rdo_calls hτ a htx
          have hac : actA a = .agg [byteA a.what, .lit (.int .i64 a.n), .lit (.bool a.on), byteA a.code, byteA a.c.char, .lit (.bool a.c.attr), byteA a.c.fa, byteA a.c.high, byteA a.c.color, byteA a.c.set, .list false 1 (bytesA a.text)] := rfl
          rw [hac] at hdo ha
          have hR := both_ref (s := N0) h4 hg
          simp +contextual [hlt, h30i, ha]
          intro b hb
          obtain ⟨m1, m2, m3, m4⟩ := hR.fresh hb
          refine callK.of (hdo _ (hR.new hb _)) ?_
          rintro v σ' ⟨rfl, y', hy2, rfl⟩
          have hb2 : σp b = none ∧ ¬ b = q ∧ ¬ b = p := by
            simp only [both, putS, supd_apply, ite_none] at hb; exact ⟨hb.2.2.2.2, hb.2.1, hb.1⟩
          have hy3 : ¬ y' = b ∧ ¬ y' = x ∧ ¬ y' = p ∧ ¬ y' = q ∧ σp y' = none := by
            rcases hy2 with rfl | hy2
            · exact ⟨m2, Ne.symm h4.xy, Ne.symm h4.py, Ne.symm h4.qy, h4.y0⟩
            · simp only [both, putS, supd_apply, ite_none] at hy2
              exact ⟨hy2.1, hy2.2.2.2.2.1, hy2.2.1, hy2.2.2.1, hy2.2.2.2.2.2⟩
          obtain ⟨y1, y2, y3, y4, y5⟩ := hy3
          obtain ⟨b1, b2, b3⟩ := hb2
          simp
          refine ⟨i + 1, y', ⟨by omega, ⟨h4.q0, h4.p0, h4.x0, y5, h4.qp, h4.qx, Ne.symm y4, h4.px, Ne.symm y3, Ne.symm y2⟩⟩, by omega, by rw [hw]; exact AV.le_refl _, ?_⟩
          rw [hst2]
          obtain ⟨_, _, _, _, f1, f2, f3, f4, f5, f6⟩ := h4
          simp only [both, putS]
          (intro q; simp only [Store.upd, Store.del]; (repeat' split) <;> first | exact Or.inr rfl | exact Or.inl rfl | (exfalso; omega) | (left; subst_vars; assumption) | simp_all)
        · have h30i : ¬ (i : Int) < 30 := by omega
          have hl30 : (l.take 30).length ≤ 30 := by simp; omega
          have hsame : (l.take 30).take (i + 1) = (l.take 30).take i :=
            (List.take_of_length_le (show (l.take 30).length ≤ i + 1 by omega)).trans (List.take_of_length_le (show (l.take 30).length ≤ i by omega)).symm
          have hac : ∀ a, actA a = .agg [byteA a.what, .lit (.int .i64 a.n), .lit (.bool a.on), byteA a.code, byteA a.c.char, .lit (.bool a.c.attr), byteA a.c.fa, byteA a.c.high, byteA a.c.color, byteA a.c.set, .list false 1 (bytesA a.text)] := fun _ => rfl
          rw [hac] at ha
          simp +contextual [hlt, h30i, ha]
          intro b hb
          refine ⟨i + 1, y, ⟨by omega, h4⟩, by omega, by rw [hw]; exact AV.le_refl _, ?_⟩
          rw [hsame]
          exact sub_upd_self _ _ _ hb
      · obtain rfl : i = l.length := by omega
        rw [← hS]
        simp
        exact ⟨y, h4, Store.sub_refl _⟩
  · rintro e A' σ2 ⟨rfl, y, h4, hA, hσp⟩
    refine View.leL hA (View.sub hσp (View.here ?_))
    clear hA hσp hstep
    have hg := hgood l.length
    rw [← hS] at hg
    clear hS hgood
    generalize hSS : Sp.lays m l = S at *
    have hRo := fun p' (h4 : Four σp q p' x y) t => (both_ref (s := t) h4 hg).obj
    have hRr := fun p' (h4 : Four σp q p' x y) t => (both_ref (s := t) h4 hg).row
    unfold rfO at hRo
    have hcl := fun τ (hτ : Prg τ q p N0) => clear_calls (σ := τ) true hτ.good.model hτ.obj
    have hN0 : N0 = Sp.clear ⟨2 + m.toNat % 4, false, [], 0⟩ false := hN.symm
    have hN1 : N0.clear true = Sp.clear ⟨2 + m.toNat % 4, false, [], 0⟩ true := by rw [hN0]; rfl
    have hz := upTo_zero S
    rw [hmod] at hz
    have hen : ∀ (j : Nat) (hj : j < S.cells.length), ((cellsO S.cells).drop (j * 6)).take 6 = cellC S.cells[j] := fun j hj => cellsO_get hj
    have hcl6 := cellsO_length S.cells
    have hSl := hg.len
    have hSn := S.n_le
    have hmain : ∀ p', Four σp q p' x y → True := fun _ _ => trivial
    by_cases halt : S.alt = true
    · rw [halt] at hz
      rw [← hN1] at hz
      simp [hRo p h4, halt]
      refine callK.of (hcl _ (both_prg h4 hng)) ?_
      rintro v σ' ⟨rfl, p', hp', rfl⟩
      have h4' : Four σp q p' x y := by
        simp only [both, putS, supd_apply, ite_none] at hp'
        obtain ⟨f1, f2, f3, f4, f5, f6, f7, f8, f9, f10⟩ := h4
        exact ⟨f1, hp'.2.2.2.2, f3, f4, Ne.symm hp'.2.1, f6, f7, hp'.2.2.2.1, hp'.2.2.1, f10⟩
      rw [← hz]
      have hsub : Store.sub (both σp q p' x y (upTo S 0) S) (putS spO (both σp q p x y N0 S) q p' (upTo S 0)) := by
        have h10 := h4'
        obtain ⟨f1, f2, f3, f4, f5, f6, f7, f8, f9, f10⟩ := h4
        obtain ⟨g1, g2, g3, g4, g5, g6, g7, g8, g9, g10⟩ := h4'
        simp only [both, putS]
        (intro q; simp only [Store.upd, Store.del]; (repeat' split) <;> first | exact Or.inr rfl | exact Or.inl rfl | (exfalso; omega) | (left; subst_vars; assumption) | simp_all)
      have e1 : putS spO (both σp q p x y N0 S) q p' (upTo S 0) x = some (rfO S y) := by
        obtain ⟨f1, f2, f3, f4, f5, f6, f7, f8, f9, f10⟩ := h4
        obtain ⟨g1, g2, g3, g4, g5, g6, g7, g8, g9, g10⟩ := h4'
        simp [both, putS, Ne.symm f6, Ne.symm f8, Ne.symm g8, f10]
      unfold rfO at e1
      simp [e1, rowC]
      clear e1
      refine codeK.loop follows (st := st10) (plans := pl10) (X := Nat) (fun j => j ≤ S.n)
        (fun j => [(10, .lit (.int .i64 nn)), (13, pgP b0), (11, ptrA q), (15, ptrA x), (65, rowC y S.n), (66, .lit (.int .i64 S.n)), (67, .lit (.int .i64 j))])
        (fun j => both σp q p' x y (upTo S j) S) (fun j => S.n - j) 0 (by kernel_rfl) (by simp) (by simp [rowC]) hsub fun j hj => ?_
      by_cases hlt : j < S.n
      · have hw : IntKind.i64.wrap ((j : Int) + 1) = ((j + 1 : Nat) : Int) := wrap_i64 (by omega) (by omega)
        have hjc : j < S.cells.length := by omega
        have hnx := upTo_next hg hlt hjc
        have hsm := upTo_same hg hlt hjc
        have hgj := hen j hjc
        have hP := both_prg (t := S) h4' (upTo_good hg hj)
        have hst := fun τ (hτ : Prg τ q p' (upTo S j)) => set_calls hτ (j : Int) S.cells[j]
        rw [← hnx] at hst
        have hz0 := eqLits_zero S.cells[j]
        have hcx : cellC S.cells[j] = [byteA S.cells[j].char, .lit (.bool S.cells[j].attr), byteA S.cells[j].fa, byteA S.cells[j].high, byteA S.cells[j].color, byteA S.cells[j].set] := rfl
        rw [hcx] at hgj
        rw [cellA_eq] at hst
        have hrow := hRr p' h4' (upTo S j)
        generalize S.cells[j] = c at *
        have hle : j * 6 + 6 ≤ (cellsO S.cells).length := by omega
        by_cases hc : c = .zero
        · have hsm := hsm hc
          have hz1 := hz0.trans (congrArg some (decide_eq_true hc))
          clear hc
          simp +contextual [-e_eqLits_2, rowC, hlt, hrow, hle, hgj, hz1]
          intro b hb
          refine ⟨j + 1, by omega, by omega, by rw [hw]; exact AV.le_refl _, ?_⟩
          rw [hsm]
          exact sub_upd_self _ _ _ hb
        · have hz1 := hz0.trans (congrArg some (decide_eq_false hc))
          simp +contextual [-e_eqLits_2, rowC, hlt, hrow, hle, hgj, hz1]
          intro b hb
          refine callK.of (hst _ (hP.new hb _)) ?_
          rintro v σ' ⟨rfl, rfl⟩
          obtain ⟨m1, m2, m3, m4⟩ := hP.fresh hb
          simp
          refine ⟨j + 1, by omega, by omega, by rw [hw]; exact AV.le_refl _, ?_⟩
          simp only [both, putS] at hb ⊢
          simp only [supd_apply, ite_none] at hb
          obtain ⟨b1, b2, b3, b4, b5⟩ := hb
          clear hrow hst hP hnx hsm hgj hcx hz0
          (intro q; simp only [Store.upd, Store.del]; (repeat' split) <;> first | exact Or.inr rfl | exact Or.inl rfl | (exfalso; omega) | (left; subst_vars; assumption) | simp_all)
      · obtain rfl : j = S.n := by omega
        have hP := both_prg (t := S) h4' (upTo_good hg (Nat.le_refl _))
        have hpl := fun τ (hτ : Prg τ q p' (upTo S S.n)) => place_calls hτ (S.cursor : Int)
        rw [upTo_all hg] at hpl
        simp [hRo p' h4' (upTo S S.n)]
        refine callK.of (hpl _ hP) ?_
        rintro v σ' ⟨rfl, rfl⟩
        simp
        obtain ⟨g1, g2, g3, g4, g5, g6, g7, g8, g9, g10⟩ := h4'
        refine callK.of (knew_calls q b0 _) ?_
        rintro v σ' ⟨k, hk0, rfl, rfl⟩
        simp
        refine callK.of (rfnew_calls x nn _) ?_
        rintro v σ' ⟨c, hc0, rfl, rfl⟩
        generalize hX : rbdO x nn 0 false 0x60 = X at *
        simp
        have hbb : ¬ q = b0 ∧ ¬ p' = b0 ∧ ¬ x = b0 ∧ ¬ y = b0 := by
          have h0 : ∀ z : Nat, σp z = none → ¬ z = b0 := fun z hz e => by rw [e, hσp, pgS_cell] at hz; cases hz
          exact ⟨h0 _ g1, h0 _ g2, h0 _ g3, h0 _ g4⟩
        simp only [both, putS, supd_apply, ite_none] at hk0 hc0
        have hk1 : σp k = none ∧ ¬ k = q ∧ ¬ k = p' ∧ ¬ k = x ∧ ¬ k = y := by simp_all
        have hc1 : σp c = none ∧ ¬ c = q ∧ ¬ c = p' ∧ ¬ c = x ∧ ¬ c = y ∧ ¬ c = k := by simp_all
        have h0 : ∀ z : Nat, σp z = none → ¬ z = b0 ∧ σ z = none := fun z hz => by
          have e : ¬ z = b0 := fun e => by rw [e, hσp, pgS_cell] at hz; cases hz
          rw [hσp, pgS_other e] at hz
          exact ⟨e, hz⟩
        have q0 := h0 _ g1
        have p0 := h0 _ g2
        have x0 := h0 _ g3
        have y0' := h0 _ g4
        have k0 := h0 _ hk1.1
        have c0 := h0 _ hc1.1
        have hgB : (newB S).s.good := hg
        have hσ2 : σp = σ.upd b0 (pgA (.new nn)) := hσp
        refine ⟨_, AV.le_refl _, kS ((putS rfO σ x y S).upd c X) k q p' b0 nn none (newB S), ?_, k, q, p', b0, c, (putS rfO σ x y S).upd c X, rfl, ?_, by simp [putS, hk1.2.2.2.1, hk1.2.2.2.2, Ne.symm hc1.2.2.2.2.2, k0.2], by simp [putS, g6, g7, Ne.symm hc1.2.1, q0.2], by simp [putS, Ne.symm x0.1, Ne.symm y0'.1, Ne.symm c0.1, hb1.1], ⟨hk1.2.1, hk1.2.2.1, k0.1, g5, q0.1, p0.1, ?_, hok, hgB⟩, rfl, x, y, by rw [hX]; simp, ⟨?_, ?_, g10, hg⟩, c0.2⟩
        · have hnb : bdO q b0 (newB S) = [ptrA q, ptrA b0, .lit (.int .i64 0), .lit (.bool false), byteA 0x60] := rfl
          have hns : (newB S).s = S := rfl
          rw [hσ2]
          unfold kS pgS
          rw [hnb, hns]
          dsimp only
          obtain ⟨hk1a, hk1b, hk1c, hk1d, hk1e⟩ := hk1
          obtain ⟨hc1a, hc1b, hc1c, hc1d, hc1e, hc1f⟩ := hc1
          obtain ⟨q01, q02⟩ := q0
          obtain ⟨p01, p02⟩ := p0
          obtain ⟨x01, x02⟩ := x0
          obtain ⟨y01, y02⟩ := y0'
          obtain ⟨k01, k02⟩ := k0
          obtain ⟨c01, c02⟩ := c0
          simp only [both, putS]
          exact lay_sub X _ _ _ _ _ _ _ _ (fun e => k01 e.symm) (fun e => q01 e.symm) (fun e => p01 e.symm) (fun e => x01 e.symm) (fun e => y01 e.symm) (fun e => c01 e.symm) hk1b hk1c hk1d hk1e (fun e => hc1f e.symm) g5 g6 g7 (fun e => hc1b e.symm) g8 g9 (fun e => hc1c e.symm) g10 (fun e => hc1d e.symm) (fun e => hc1e e.symm)
        · unfold putS
          refine Store.sub_trans (Store.sub_upd x0.2 (Store.sub_refl _)) (Store.sub_trans (Store.sub_upd ?_ (Store.sub_refl _)) (Store.sub_upd ?_ (Store.sub_refl _)))
          · simp [Ne.symm g10, y0'.2]
          · simp [hc1.2.2.2.1, hc1.2.2.2.2.1, c0.2]
        · simp [putS, Ne.symm hc1.2.2.1, g8, g9, p0.2]
        · simp [putS, Ne.symm hc1.2.2.2.1, g10]
        · simp [putS, Ne.symm hc1.2.2.2.2.1]
    · have halt' : S.alt = false := by simpa using halt
      rw [halt'] at hz
      rw [← hN0] at hz
      rw [← hz]
      have h4' := h4
      have hsub := Store.sub_refl (both σp q p x y (upTo S 0) S)
      obtain ⟨p', hpp⟩ : ∃ p', p' = p := ⟨_, rfl⟩
      have e1 := hRo p h4 (upTo S 0)
      rw [halt'] at e1
      simp [e1]
      rw [← hpp] at h4' hsub e1 ⊢
      simp [rowC]
      clear e1
      refine codeK.loop follows (st := st10) (plans := pl10) (X := Nat) (fun j => j ≤ S.n)
        (fun j => [(10, .lit (.int .i64 nn)), (13, pgP b0), (11, ptrA q), (15, ptrA x), (65, rowC y S.n), (66, .lit (.int .i64 S.n)), (67, .lit (.int .i64 j))])
        (fun j => both σp q p' x y (upTo S j) S) (fun j => S.n - j) 0 (by kernel_rfl) (by simp) (by simp [rowC]) hsub fun j hj => ?_
      by_cases hlt : j < S.n
      · have hw : IntKind.i64.wrap ((j : Int) + 1) = ((j + 1 : Nat) : Int) := wrap_i64 (by omega) (by omega)
        have hjc : j < S.cells.length := by omega
        have hnx := upTo_next hg hlt hjc
        have hsm := upTo_same hg hlt hjc
        have hgj := hen j hjc
        have hP := both_prg (t := S) h4' (upTo_good hg hj)
        have hst := fun τ (hτ : Prg τ q p' (upTo S j)) => set_calls hτ (j : Int) S.cells[j]
        rw [← hnx] at hst
        have hz0 := eqLits_zero S.cells[j]
        have hcx : cellC S.cells[j] = [byteA S.cells[j].char, .lit (.bool S.cells[j].attr), byteA S.cells[j].fa, byteA S.cells[j].high, byteA S.cells[j].color, byteA S.cells[j].set] := rfl
        rw [hcx] at hgj
        rw [cellA_eq] at hst
        have hrow := hRr p' h4' (upTo S j)
        generalize S.cells[j] = c at *
        have hle : j * 6 + 6 ≤ (cellsO S.cells).length := by omega
        by_cases hc : c = .zero
        · have hsm := hsm hc
          have hz1 := hz0.trans (congrArg some (decide_eq_true hc))
          clear hc
          simp +contextual [-e_eqLits_2, rowC, hlt, hrow, hle, hgj, hz1]
          intro b hb
          refine ⟨j + 1, by omega, by omega, by rw [hw]; exact AV.le_refl _, ?_⟩
          rw [hsm]
          exact sub_upd_self _ _ _ hb
        · have hz1 := hz0.trans (congrArg some (decide_eq_false hc))
          simp +contextual [-e_eqLits_2, rowC, hlt, hrow, hle, hgj, hz1]
          intro b hb
          refine callK.of (hst _ (hP.new hb _)) ?_
          rintro v σ' ⟨rfl, rfl⟩
          obtain ⟨m1, m2, m3, m4⟩ := hP.fresh hb
          simp
          refine ⟨j + 1, by omega, by omega, by rw [hw]; exact AV.le_refl _, ?_⟩
          simp only [both, putS] at hb ⊢
          simp only [supd_apply, ite_none] at hb
          obtain ⟨b1, b2, b3, b4, b5⟩ := hb
          clear hrow hst hP hnx hsm hgj hcx hz0
          (intro q; simp only [Store.upd, Store.del]; (repeat' split) <;> first | exact Or.inr rfl | exact Or.inl rfl | (exfalso; omega) | (left; subst_vars; assumption) | simp_all)
      · obtain rfl : j = S.n := by omega
        have hP := both_prg (t := S) h4' (upTo_good hg (Nat.le_refl _))
        have hpl := fun τ (hτ : Prg τ q p' (upTo S S.n)) => place_calls hτ (S.cursor : Int)
        rw [upTo_all hg] at hpl
        simp [hRo p' h4' (upTo S S.n)]
        refine callK.of (hpl _ hP) ?_
        rintro v σ' ⟨rfl, rfl⟩
        simp
        obtain ⟨g1, g2, g3, g4, g5, g6, g7, g8, g9, g10⟩ := h4'
        refine callK.of (knew_calls q b0 _) ?_
        rintro v σ' ⟨k, hk0, rfl, rfl⟩
        simp
        refine callK.of (rfnew_calls x nn _) ?_
        rintro v σ' ⟨c, hc0, rfl, rfl⟩
        generalize hX : rbdO x nn 0 false 0x60 = X at *
        simp
        have hbb : ¬ q = b0 ∧ ¬ p' = b0 ∧ ¬ x = b0 ∧ ¬ y = b0 := by
          have h0 : ∀ z : Nat, σp z = none → ¬ z = b0 := fun z hz e => by rw [e, hσp, pgS_cell] at hz; cases hz
          exact ⟨h0 _ g1, h0 _ g2, h0 _ g3, h0 _ g4⟩
        simp only [both, putS, supd_apply, ite_none] at hk0 hc0
        have hk1 : σp k = none ∧ ¬ k = q ∧ ¬ k = p' ∧ ¬ k = x ∧ ¬ k = y := by simp_all
        have hc1 : σp c = none ∧ ¬ c = q ∧ ¬ c = p' ∧ ¬ c = x ∧ ¬ c = y ∧ ¬ c = k := by simp_all
        have h0 : ∀ z : Nat, σp z = none → ¬ z = b0 ∧ σ z = none := fun z hz => by
          have e : ¬ z = b0 := fun e => by rw [e, hσp, pgS_cell] at hz; cases hz
          rw [hσp, pgS_other e] at hz
          exact ⟨e, hz⟩
        have q0 := h0 _ g1
        have p0 := h0 _ g2
        have x0 := h0 _ g3
        have y0' := h0 _ g4
        have k0 := h0 _ hk1.1
        have c0 := h0 _ hc1.1
        have hgB : (newB S).s.good := hg
        have hσ2 : σp = σ.upd b0 (pgA (.new nn)) := hσp
        refine ⟨_, AV.le_refl _, kS ((putS rfO σ x y S).upd c X) k q p' b0 nn none (newB S), ?_, k, q, p', b0, c, (putS rfO σ x y S).upd c X, rfl, ?_, by simp [putS, hk1.2.2.2.1, hk1.2.2.2.2, Ne.symm hc1.2.2.2.2.2, k0.2], by simp [putS, g6, g7, Ne.symm hc1.2.1, q0.2], by simp [putS, Ne.symm x0.1, Ne.symm y0'.1, Ne.symm c0.1, hb1.1], ⟨hk1.2.1, hk1.2.2.1, k0.1, g5, q0.1, p0.1, ?_, hok, hgB⟩, rfl, x, y, by rw [hX]; simp, ⟨?_, ?_, g10, hg⟩, c0.2⟩
        · have hnb : bdO q b0 (newB S) = [ptrA q, ptrA b0, .lit (.int .i64 0), .lit (.bool false), byteA 0x60] := rfl
          have hns : (newB S).s = S := rfl
          rw [hσ2]
          unfold kS pgS
          rw [hnb, hns]
          dsimp only
          obtain ⟨hk1a, hk1b, hk1c, hk1d, hk1e⟩ := hk1
          obtain ⟨hc1a, hc1b, hc1c, hc1d, hc1e, hc1f⟩ := hc1
          obtain ⟨q01, q02⟩ := q0
          obtain ⟨p01, p02⟩ := p0
          obtain ⟨x01, x02⟩ := x0
          obtain ⟨y01, y02⟩ := y0'
          obtain ⟨k01, k02⟩ := k0
          obtain ⟨c01, c02⟩ := c0
          simp only [both, putS]
          exact lay_sub X _ _ _ _ _ _ _ _ (fun e => k01 e.symm) (fun e => q01 e.symm) (fun e => p01 e.symm) (fun e => x01 e.symm) (fun e => y01 e.symm) (fun e => c01 e.symm) hk1b hk1c hk1d hk1e (fun e => hc1f e.symm) g5 g6 g7 (fun e => hc1b e.symm) g8 g9 (fun e => hc1c e.symm) g10 (fun e => hc1d e.symm) (fun e => hc1e e.symm)
        · unfold putS
          refine Store.sub_trans (Store.sub_upd x0.2 (Store.sub_refl _)) (Store.sub_trans (Store.sub_upd ?_ (Store.sub_refl _)) (Store.sub_upd ?_ (Store.sub_refl _)))
          · simp [Ne.symm g10, y0'.2]
          · simp [hc1.2.2.2.1, hc1.2.2.2.2.1, c0.2]
        · simp [putS, Ne.symm hc1.2.2.1, g8, g9, p0.2]
        · simp [putS, Ne.symm hc1.2.2.2.1, g10]
        · simp [putS, Ne.symm hc1.2.2.2.2.1]
theorem lay_calls (m u : UInt8) (l : List Sp.Act) (hl : l.length ≤ 9223372036854775807) (ht : ∀ a ∈ l, a.text.length ≤ 9223372036854775807) (σ : Store) : ACalls Tryz.prog 10 [byteA m, byteA u, .list false 11 (actsA l)] σ (LayK σ (pageN u) (Sp.lays m l)) := by
  refine ACalls.mono (layD_calls m u l hl ht σ) ?_
  rintro v τ ⟨k, q, p, b, c, base, h1, h2, h3, h4, h5, h6, h7, _⟩
  exact ⟨k, q, p, b, c, base, h1, h2, h3, h4, h5, h6, h7⟩
end Go.Proofs.YtlmdbcgceijlnaaGreat
