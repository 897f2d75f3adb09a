/-
  A key is pressed: the walk.
-/
import Derived.Test.YtlmdbcgceijlnaaGreatDoorPart20
import Derived.Laws.RangeString
import Derived.Laws.RangeAny
set_option linter.unusedSimpArgs false
set_option linter.unusedVariables false
namespace Go.Proofs.YtlmdbcgceijlnaaGreatDoor
open Go Go.AL Go.Sp
variable {σ : Store} {k q r b : Nat} {n : Int} {B : Bd}

theorem aidN_lt {K : Key} {j : Nat} (h : aidN K = some j) : j < 256 := by
  have h1 : ∀ j ∈ pfT, j < 256 := by decide
  have h2 : ∀ j ∈ paT, j < 256 := by decide
  unfold aidN at h
  repeat' split at h
  · cases h; omega
  · cases h; omega
  · exact h1 _ (List.mem_of_getElem? h)
  · exact h2 _ (List.mem_of_getElem? h)
  · cases h
theorem KOk.row (h : KOk σ k q r b n B) {p : Nat} (f : Free σ k q r b p) {B2 : Bd} (hg : B2.s.good) : KOk σ k q p b n B2 :=
  ⟨h.kq, fun e => f.k e.symm, h.kb, fun e => f.q e.symm, h.qb, fun e => f.b e, f.free, h.page, hg⟩
theorem kclear_calls (h : KOk σ k q r b n B) (x : Option Nat) : ACalls Tryz.prog 52 [ptrA q, .lit (.bool false)] (kS σ k q r b n x B) fun v σ' => v = .tuple [] ∧ ∃ p : Nat, Free σ k q r b p ∧ σ' = kS σ k q p b n x { B with s := B.s.clear false } := by
  have hq := kS_q h x
  unfold spO at hq
  refine (clear_calls false h.good.model hq).shift ?_
  rintro v τ ⟨rfl, p, hp, rfl⟩
  have f := kS_free h hp
  exact .inl ⟨_, _, AV.le_refl _, kS_clear h x f _, rfl, p, f, rfl⟩
set_option maxHeartbeats 2000000 in
set_option maxRecDepth 8000 in
theorem press_calls (h : KOk σ k q r b n B) (x : Option Nat) (K : Key) : ACalls Tryz.prog 30 [ptrA k, keyA K] (kS σ k q r b n x B) fun v σ' => v = .tuple [.lit (.bool (pressB n B K).2.1), .lit (.int .i64 (pressB n B K).2.2)] ∧
    ∃ (r' : Nat) (x' : Option Nat), KOk σ k q r' b n (pressB n B K).1 ∧ NxP σ x x' ∧ σ' = kS σ k q r' b n x' (pressB n B K).1 := by
  have hgood := pressB_good (n := n) h.good K
  have haid := fun τ => aid_calls K τ
  have hlt := @aidN_lt K
  have hE : ∀ o, aidN K = o → pressB n B K = if K.kind < 1 ∨ 22 < K.kind then (B, false, 1)
    else if K.kind = 17 then (resetB B, false, 0)
    else if ¬ B.lock = 0 then (B, false, 8)
    else if K.kind = 18 then chooseB n B
    else if o.isSome = true then
      ({ s := if K.kind = 22 then B.s.clear false else B.s, lock := 1, ins := false, aid := UInt8.ofNat (o.getD 0) }, true, 0)
    else if K.kind = 20 ∨ K.kind = 21 then (B, false, 1)
    else if (movK B.s K.kind).2 = true then ({ B with s := (movK B.s K.kind).1 }, false, 0)
    else ((enteredB n B K).1, false, (enteredB n B K).2) := by rintro _ rfl; rfl
  have hE := hE _ rfl
  have hen := fun (σ1 : Store) (h1 : KOk σ1 k q r b n B) (x : Option Nat) => entered_calls h1 x K
  generalize hP : pressB n B K = P at *
  generalize hao : aidN K = ao at *
  generalize hen0 : enteredB n B K = en at *
  obtain ⟨kind, sg, num⟩ := K
  dsimp only at hE
  simp only [keyA, keyC] at haid hen
  refine ACalls.of_awp follows (st := st30) (plans := pl30) (n := 75) Tryz.func30 rfl (by kernel_rfl) (by kernel_rfl) (by kernel_rfl) ?_
  simp [keyA, keyC]
  intro z hz
  have fz := kS_free h hz
  simp only [kS_new fz]
  have h1 := fz.ok h [.lit (.int .i64 kind), .lit (.int .i32 sg), .lit (.int .i64 num)]
  have hzv := fun x2 B2 => kS_other (n := n) fz x2 B2 [.lit (.int .i64 kind), .lit (.int .i32 sg), .lit (.int .i64 num)]
  have hdr := fun x2 B2 => fz.drop (n := n) x2 B2 [.lit (.int .i64 kind), .lit (.int .i32 sg), .lit (.int .i64 num)]
  have hmk : ∀ g : Nat, (σ.upd z [.lit (.int .i64 kind), .lit (.int .i32 sg), .lit (.int .i64 num)]) (mkey g) = σ (mkey g) := fun g => by simp
  have hσz : (σ.upd z [.lit (.int .i64 kind), .lit (.int .i32 sg), .lit (.int .i64 num)]) z = some [.lit (.int .i64 kind), .lit (.int .i32 sg), .lit (.int .i64 num)] := by simp
  have hdrp : ∀ p : Nat, ¬ z = p → ∀ x2 B2, Store.sub (kS σ k q p b n x2 B2) (kS (σ.upd z [.lit (.int .i64 kind), .lit (.int .i32 sg), .lit (.int .i64 num)]) k q p b n x2 B2) := fun p hp x2 B2 =>
    Free.drop (r := p) (n := n) ⟨fz.k, fz.q, hp, fz.b, fz.free⟩ x2 B2 [.lit (.int .i64 kind), .lit (.int .i32 sg), .lit (.int .i64 num)]
  have hσ1 : ∀ o : Nat, ¬ o = z → (σ.upd z [.lit (.int .i64 kind), .lit (.int .i32 sg), .lit (.int .i64 num)]) o = σ o := fun o ho => by simp [ho]
  generalize σ.upd z [.lit (.int .i64 kind), .lit (.int .i32 sg), .lit (.int .i64 num)] = σ1 at *
  have hk1 := fun xc => kS_k' h1 xc
  simp only [byteA] at hk1
  have hz1 := hzv x B
  have fin : ∀ (x2 : Option Nat) (B2 : Bd), NxP σ1 x x2 → P.1 = B2 → ∃ r' : Nat, KOk σ k q r' b n P.1 ∧ ∃ x', NxP σ x x' ∧ kS σ k q r b n x2 B2 = kS σ k q r' b n x' P.1 := fun x2 B2 nx e => ⟨r, h.s hgood, x2, nx.of hmk, by rw [e]⟩
  refine callK.of (haid _) ?_
  rintro v τ ⟨rfl, rfl⟩
  simp [hz1]
  by_cases c1 : kind < 1 ∨ 22 < kind
  · rw [if_pos c1] at hE
    have e1 : P.1 = B := by rw [hE]
    by_cases c2 : kind < 1
    · have c3 : ¬ 1 ≤ kind := by omega
      simp [c2, c3]
      refine ⟨_, AV.le_refl _, _, hdr x B, by rw [hE], fin x B (.inl rfl) e1⟩
    · have c3 : 1 ≤ kind := by omega
      have c4 : 22 < kind := by omega
      have c5 : ¬ kind ≤ 22 := by omega
      simp [c2, c3, c4]
      refine ⟨_, AV.le_refl _, _, hdr x B, by rw [hE], fin x B (.inl rfl) e1⟩
  rw [if_neg c1] at hE
  have c2 : ¬ kind < 1 := by omega
  have c3 : 1 ≤ kind := by omega
  have c4 : ¬ 22 < kind := by omega
  have c5 : kind ≤ 22 := by omega
  by_cases e17 : kind = 17
  · subst e17
    rw [if_pos rfl] at hE
    simp
    refine callK.of (reset_calls h1 x) ?_
    rintro v τ ⟨rfl, rfl⟩
    simp
    refine ⟨_, AV.le_refl _, _, hdr _ _, by rw [hE], fin x _ (.inl rfl) (by rw [hE])⟩
  rw [if_neg e17] at hE
  by_cases hl : B.lock = 0
  · rw [if_neg (by simp [hl])] at hE
    simp [hz1, c2, c3, c4, e17, hk1, hl]
    by_cases e18 : kind = 18
    · subst e18
      rw [if_pos rfl] at hE
      simp
      refine callK.of (choose_calls h1 x) ?_
      rintro v τ ⟨rfl, xc, nx, rfl⟩
      rw [← hE]
      simp
      refine ⟨_, AV.le_refl _, _, hdr _ _, rfl, fin xc _ nx rfl⟩
    rw [if_neg e18] at hE
    cases ao with
    | some a =>
      have ha := hlt rfl
      have hu : (UInt8.ofNat a).toNat = a := by simp; omega
      rw [if_pos (by simp)] at hE
      by_cases e22 : kind = 22
      · subst e22
        rw [if_pos rfl] at hE
        simp [e18]
        refine callK.of (kclear_calls h1 x) ?_
        rintro v τ ⟨rfl, p, f, rfl⟩
        have hpz : ¬ p = z := by
          rintro rfl
          have := f.free
          rw [hσz] at this; cases this
        have f0 : Free σ k q r b p := ⟨f.k, f.q, f.r, f.b, by rw [← hσ1 p hpz]; exact f.free⟩
        have hg : (B.s.clear false).good := Sp.clear_good h.good.model false
        have H2 : KOk σ1 k q p b n { B with s := B.s.clear false } := h1.row f hg
        have hsn := send_calls H2 x (UInt8.ofNat a)
        simp only [byteA, hu] at hsn
        simp
        refine callK.of hsn ?_
        rintro v τ ⟨rfl, rfl⟩
        simp
        refine ⟨_, AV.le_refl _, _, hdrp p (fun e => hpz e.symm) _ _, by rw [hE], p, h.row f0 hgood, x, .inl rfl, by rw [hE]; rfl⟩
      · rw [if_neg e22] at hE
        have hsn := send_calls h1 x (UInt8.ofNat a)
        simp only [byteA, hu] at hsn
        simp [e18, e22]
        refine callK.of hsn ?_
        rintro v τ ⟨rfl, rfl⟩
        simp
        refine ⟨_, AV.le_refl _, _, hdr _ _, by rw [hE], fin x _ (.inl rfl) (by rw [hE]; rfl)⟩
    | none =>
      rw [if_neg (by simp)] at hE
      by_cases e20 : kind = 20
      · rw [if_pos (.inl e20)] at hE
        simp [e20]
        refine ⟨_, AV.le_refl _, _, hdr _ _, by rw [hE], fin x _ (.inl rfl) (by rw [hE])⟩
      by_cases e21 : kind = 21
      · rw [if_pos (.inr e21)] at hE
        simp [e21]
        refine ⟨_, AV.le_refl _, _, hdr _ _, by rw [hE], fin x _ (.inl rfl) (by rw [hE])⟩
      rw [if_neg (by simp [e20, e21])] at hE
      simp [e18, e20, e21]
      refine callK.of (bmove_calls h1 x kind) ?_
      rintro v τ ⟨rfl, rfl⟩
      cases hmv : (movK B.s kind).2
      · rw [if_neg (by simp [hmv])] at hE
        have hms : (movK B.s kind).1 = B.s := by
          unfold movK at hmv ⊢
          repeat' split at hmv
          all_goals first | cases hmv | skip
          simp [*]
        rw [hms]
        simp [hz1]
        refine callK.of (hen σ1 h1 x) ?_
        rintro v τ ⟨rfl, xc, nx, rfl⟩
        simp
        refine ⟨_, AV.le_refl _, _, hdr _ _, by rw [hE], fin xc _ nx (by rw [hE])⟩
      · rw [if_pos hmv] at hE
        simp
        refine ⟨_, AV.le_refl _, _, hdr _ _, by rw [hE], fin x _ (.inl rfl) (by rw [hE])⟩
  · rw [if_pos hl] at hE
    have hl2 : ¬ (0 : Int) = B.lock := fun e => hl e.symm
    simp [c2, c3, c4, e17, hk1, hl]
    refine ⟨_, AV.le_refl _, _, hdr x B, by rw [hE], fin x B (.inl rfl) (by rw [hE])⟩
end Go.Proofs.YtlmdbcgceijlnaaGreatDoor
/-
  A text is typed.
-/
namespace Go.Proofs.YtlmdbcgceijlnaaGreatDoor
open Go Go.AL Go.Sp
variable {σ : Store} {k q r b : Nat} {n : Int} {B : Bd}

theorem widthK_pos (s : ByteArray) (pos : Nat) (h : pos < s.size) : 1 ≤ (Utf8.decode s pos).2 := by
  by_cases ha : (s[pos]'h).toNat < 128
  · rw [decode_ascii s pos h ha]
    exact Nat.le_refl _
  · exact (decode_high s pos h (by omega)).2
def runeK (s : ByteArray) (pos : Nat) : Key := ⟨1, ((Utf8.decode s pos).1 : Nat), 0⟩
def typeF (n : Int) (s : ByteArray) : Nat → Nat → Int → Bd → Bd × Int × Int
  | 0, _, c, B => (B, c, 0)
  | f + 1, pos, c, B =>
    if pos < s.size then
      (if (pressB n B (runeK s pos)).2.2 = 0 then typeF n s f (pos + (Utf8.decode s pos).2) (c + 1) (pressB n B (runeK s pos)).1
       else ((pressB n B (runeK s pos)).1, c, (pressB n B (runeK s pos)).2.2))
    else (B, c, 0)
theorem kS_mput {g : Nat} {x : Option Nat} (hx : ¬ x = some g) (X : List AV) : (kS σ k q r b n x B).put g X = kS (σ.put g X) k q r b n x B := by
  unfold kS putS pgS
  cases x with
  | none =>
    refine Store.ext2 (fun o => by simp) (fun i => by simp)
  | some p =>
    have hp : ¬ p = g := fun e => hx (by rw [e])
    refine Store.ext2 (fun o => by simp) (fun i => ?_)
    by_cases e1 : i = g
    · subst e1; simp [Ne.symm hp]
    · by_cases e2 : i = p
      · subst e2; simp [hp]
      · simp [e1, e2]
theorem KOk.mput (h : KOk σ k q r b n B) (g : Nat) (X : List AV) : KOk (σ.put g X) k q r b n B := { h with none := by simpa using h.none }
theorem kS_mdrop {g : Nat} {x : Option Nat} (hx : ¬ x = some g) (hg : σ (mkey g) = none) (X : List AV) : Store.sub (kS σ k q r b n x B) (kS (σ.put g X) k q r b n x B) := by
  rw [← kS_mput hx]
  have h0 : (kS σ k q r b n x B) (mkey g) = none := by
    cases x with
    | none => simpa [kS, pgS, putS] using hg
    | some p =>
      have hp : ¬ g = p := fun e => hx (by rw [e])
      simpa [kS, pgS, putS, hp] using hg
  refine Store.sub2 (fun o => .inr (by simp)) (fun i => ?_)
  by_cases e : i = g
  · subst e; exact .inl h0
  · right; simp [e]
structure TySt where
  f : Nat
  pos : Nat
  c : Nat
  r : Nat
  x : Option Nat
  B : Bd
set_option maxHeartbeats 1000000 in
set_option maxRecDepth 8000 in
theorem type_calls (h : KOk σ k q r b n B) (x : Option Nat) (s : ByteArray) (hs : s.size ≤ 1000000000) : ACalls Tryz.prog 31 [ptrA k, .lit (.string s)] (kS σ k q r b n x B) fun v σ' => v = .tuple [.lit (.int .i64 (typeF n s s.size 0 0 B).2.1), .lit (.int .i64 (typeF n s s.size 0 0 B).2.2)] ∧
    ∃ (r' : Nat) (x' : Option Nat), KOk σ k q r' b n (typeF n s s.size 0 0 B).1 ∧ NxP σ x x' ∧ σ' = kS σ k q r' b n x' (typeF n s s.size 0 0 B).1 := by
  generalize hT : typeF n s s.size 0 0 B = T at *
  refine ACalls.of_awp follows (st := st31) (plans := pl31) (n := 32) Tryz.func31 rfl (by kernel_rfl) (by kernel_rfl) (by kernel_rfl) ?_
  simp
  intro g hg
  have hxg : ¬ x = some g := by
    rintro rfl
    simp [kS, pgS] at hg
  have hσg : σ (mkey g) = none := by
    cases x with
    | none => simpa [kS, pgS, putS] using hg
    | some p => 
      have hp : ¬ g = p := fun e => hxg (by rw [e])
      simpa [kS, pgS, putS, hp] using hg
  rw [kS_mput hxg]
  refine codeK.loop follows (st := st31) (plans := pl31) (X := TySt) (fun y => s.size - y.pos ≤ y.f ∧ y.c ≤ y.pos ∧ KOk σ k q y.r b n y.B ∧ NxP σ x y.x ∧ ¬ y.x = some g ∧ typeF n s y.f y.pos y.c y.B = T)
    (fun y => [(0, ptrA k), (6, .lit (.int .i64 y.c)), (14, .lit (.pointer (some ⟨g, 0, none⟩)))]) (fun y => kS (σ.put g (iterA s y.pos)) k q y.r b n y.x y.B) (fun y => s.size - y.pos) ⟨s.size, 0, 0, r, x, B⟩ (by kernel_rfl) ⟨by simp, by simp, h, .inl rfl, hxg, by simpa using hT⟩ (by simp) (Store.sub_refl _) fun y hy => ?_
  obtain ⟨f, pos, c, r1, x1, B1⟩ := y
  obtain ⟨h1, h2, hK, hnx, hx1, hTy⟩ := hy
  dsimp only at h1 h2 hK hnx hx1 hTy ⊢
  have hread : (kS (σ.put g (iterA s pos)) k q r1 b n x1 B1) (mkey g) = some (iterA s pos) := by
    cases x1 with
    | none => simp [kS, pgS, putS]
    | some p =>
      have hp : ¬ g = p := fun e => hx1 (by rw [e])
      simp [kS, pgS, putS, hp]
  have hput : ∀ A2, (kS (σ.put g (iterA s pos)) k q r1 b n x1 B1).put g A2 = kS (σ.put g A2) k q r1 b n x1 B1 := fun A2 => by
    rw [kS_mput hx1]
    congr 1
    refine Store.ext2 (fun o => by simp) (fun i => ?_)
    by_cases e : i = g <;> simp [e]
  by_cases hlt : pos < s.size
  · have hw := widthK_pos s pos hlt
    have hc1 : IntKind.i64.wrap ((c : Int) + 1) = ((c + 1 : Nat) : Int) := wrap_i64 (by omega) (by omega)
    obtain ⟨f, rfl⟩ : ∃ f', f = f' + 1 := ⟨f - 1, by omega⟩
    have hpr := press_calls (hK.mput g (iterA s (pos + (Utf8.decode s pos).2))) x1 (runeK s pos)
    have hty : T = (if (pressB n B1 (runeK s pos)).2.2 = 0 then typeF n s f (pos + (Utf8.decode s pos).2) (c + 1) (pressB n B1 (runeK s pos)).1
       else ((pressB n B1 (runeK s pos)).1, (c : Int), (pressB n B1 (runeK s pos)).2.2)) := by
      rw [← hTy, typeF, if_pos hlt]
    have hka : keyA (runeK s pos) = .agg [.lit (.int .i64 1), .lit (.int .i32 ((Utf8.decode s pos).1 : Nat)), .lit (.int .i64 0)] := rfl
    rw [hka] at hpr
    generalize pressB n B1 (runeK s pos) = P at *
    simp [hread, hlt, hput]
    generalize (Utf8.decode s pos).2 = w at *
    refine callK.of hpr ?_
    rintro v τ ⟨rfl, r2, x2, hK2, nx2, rfl⟩
    have hK3 : KOk σ k q r2 b n P.1 := { hK2 with none := by simpa using hK2.none }
    have hx2 : ¬ x2 = some g ∧ NxP σ x x2 := by
      rcases nx2 with rfl | ⟨g2, rfl, hg2⟩
      · exact ⟨hx1, hnx⟩
      · have e : ¬ g2 = g := by rintro rfl; simp at hg2
        refine ⟨fun e2 => e (Option.some.inj e2), .inr ⟨g2, rfl, ?_⟩⟩
        simpa [e] using hg2
    by_cases hz : P.2.2 = 0
    · rw [if_pos hz] at hty
      simp [hz, hc1]
      exact ⟨⟨f, pos + w, c + 1, r2, x2, P.1⟩, ⟨by show s.size ≤ f + (pos + w); omega, by show c + 1 ≤ pos + w; omega, hK3, hx2.2, hx2.1, by rw [hty]; simp⟩, by show s.size - (pos + w) < s.size - pos; omega, by simp, Store.sub_refl _⟩
    · rw [if_neg hz] at hty
      have hz2 : ¬ (0 : Int) = P.2.2 := fun e => hz e.symm
      simp [hz]
      refine ⟨_, AV.le_refl _, kS σ k q r2 b n x2 P.1, ?_, by rw [hty], r2, by rw [hty]; exact hK3, x2, hx2.2, by rw [hty]⟩
      exact kS_mdrop hx2.1 hσg _
  · have hty : T = (B1, (c : Int), 0) := by
      rw [← hTy]
      cases f with
      | zero => rfl
      | succ f => rw [typeF, if_neg hlt]
    simp [hread, hlt]
    exact ⟨_, AV.le_refl _, kS σ k q r1 b n x1 B1, kS_mdrop hx1 hσg _, by rw [hty], r1, by rw [hty]; exact hK, x1, hnx, by rw [hty]⟩
end Go.Proofs.YtlmdbcgceijlnaaGreatDoor
/-
  Answers, screens and bytes that are the same.
-/
namespace Go.Proofs.YtlmdbcgceijlnaaGreatDoor
open Go Go.AL Go.Sp

end Go.Proofs.YtlmdbcgceijlnaaGreatDoor
/-
  A screen's copy.
-/
namespace Go.Proofs.YtlmdbcgceijlnaaGreatDoor
open Go Go.AL Go.Sp

end Go.Proofs.YtlmdbcgceijlnaaGreatDoor
