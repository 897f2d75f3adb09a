/-
  LinkResponds: each record that asks has its response.
-/
import Derived.Test.YteaidaolablegaaGreatDoorPart18
import Derived.Test.YteaidaolablegaaGreatDoorRows
import Derived.Lay
import Derived.LaidMore
namespace Go.Proofs.YteaidaolablegaaGreatDoor
open Go Go.AL

theorem putL_comm2 {k : Bk} {L L' : Lk} {a b a' b' : Bool} {σ : Store} (_hk : k.Ok) {q : Nat} (hq : (putL k L a b σ) q = none) (X : List AV) : putL k L' a' b' (σ.upd q X) = (putL k L' a' b' σ).upd q X := by
  rw [putL_apply] at hq
  funext p
  rw [putL_apply, supd_apply, supd_apply, putL_apply]
  split at hq
  · cases hq
  split at hq
  · cases hq
  split at hq
  · cases hq
  split at hq
  · cases hq
  split at hq
  · cases hq
  rename_i n1 n2 n3 n4 n5
  by_cases h : p = q
  · subst h; simp [n1, n2, n3, n4, n5]
  · simp only [h, if_false]
theorem putL_none {k : Bk} {L L' : Lk} {a b a' b' : Bool} {σ : Store} {q : Nat} (hq : (putL k L a b σ) q = none) : (putL k L' a' b' σ) q = none := by
  rw [putL_apply] at *
  split at hq
  · cases hq
  split at hq
  · cases hq
  split at hq
  · cases hq
  split at hq
  · cases hq
  split at hq
  · cases hq
  rename_i n1 n2 n3 n4 n5
  simp only [n1, n2, n3, n4, n5, if_false]; exact hq
theorem putL_free {k : Bk} {L : Lk} {a b : Bool} {σ : Store} {q : Nat} (hq : (putL k L a b σ) q = none) : σ q = none := by
  rw [putL_apply] at hq
  (repeat' split at hq) <;> first | cases hq | exact hq
def hdsA (l : List Hd) : List AV := l.map fun h => .agg (hdL h)
@[simp] theorem hdsA_length (l : List Hd) : (hdsA l).length = l.length := by simp [hdsA]
/-- What goes. -/
def respB (h : Hd) (code : Nat) : List UInt8 := match answerF h code with
  | some a => esc a ++ [255, 239]
  | none => []
theorem respB_of {L : Lk} (hR : RespOk L) (k : Nat) (d : List UInt8) (h : Hd) (code : Nat) : (L.respond ⟨k, d, h, true⟩ code).1 = { L with out := respB h code } := by
  unfold Lk.respond respB
  rw [if_pos ⟨rfl, hR.mode, hR.has⟩]
  have ho := hR.out
  dsimp only
  cases answerF h code with
  | none => obtain ⟨rd, o, e, mp, out, seq, mode⟩ := L; dsimp only at ho ⊢; rw [ho]
  | some a => dsimp only; rw [ho, List.nil_append]
theorem respB_get (h : Hd) (code : Nat) : respB h code = if 0 < ((answerF h code).getD []).length then esc ((answerF h code).getD []) ++ [255, 239] else (answerF h code).getD [] := by
  unfold respB
  cases hc : answerF h code with
  | none => rfl
  | some a => simp only [Option.getD_some]; rw [if_pos (by rw [answerF_length hc]; omega)]
@[simp] def st5s : List Nat := [46, 49, 64, 81]
structure RsS where
  i : Nat
  a : Bool
  b : Bool
set_option maxRecDepth 8000 in
set_option maxHeartbeats 2000000 in
theorem linkResponds_calls (l : List Hd) (hl : ∀ h ∈ l, h.seq < 65536) (codes : List UInt8) (σ : Store) : ACalls Tryz.prog 5 [.list false 4 (hdsA l), .list false 1 (bytesA codes)] σ fun v _ => v = .lit (.bool true) := by
  have haw := fun τ => awake_calls τ
  have hlay := fun τ => laid_calls (e := ngR) ngR_ok false true τ
  rw [ngR_few] at hlay
  obtain ⟨L0, L1, hL0, hok0, hL1, hR⟩ := resp_ex
  rw [hL0] at hlay
  clear hL0
  have hlay : ∀ τ, ACalls Tryz.prog 9 [.agg [.lit (.string { data := #[84] }), .lit (.string ByteArray.empty), .list false 1 [.lit (.int .u8 2)]], .lit (.bool true)] τ (LaidR L0 τ) := hlay
  refine ACalls.of_awp follows (st := st5s) (plans := pl5) (n := 101) Tryz.func5 rfl (by kernel_rfl) (by kernel_rfl) (by kernel_rfl) ?_
  simp
  refine callK.of (haw _) ?_
  rintro v σ ⟨rfl, rfl⟩
  simp
  refine callK.of (hlay _) ?_
  rintro v σ1 ⟨ad, f, kb, a1, b1, hk, hsub, rfl, rfl⟩
  have h1 := ltk_calls kb hk _ _ _ false 0 helloR (by simp [helloR]) hok0 _ (putL_at hk L0 a1 b1 σ)
  rw [hL1] at h1
  have e1 : bytesA helloR = [.lit (.int .u8 255), .lit (.int .u8 253), .lit (.int .u8 40), .lit (.int .u8 255), .lit (.int .u8 250), .lit (.int .u8 40), .lit (.int .u8 8), .lit (.int .u8 2), .lit (.int .u8 255), .lit (.int .u8 240), .lit (.int .u8 255), .lit (.int .u8 250), .lit (.int .u8 40), .lit (.int .u8 2), .lit (.int .u8 4), .lit (.int .u8 84), .lit (.int .u8 1), .lit (.int .u8 76), .lit (.int .u8 255), .lit (.int .u8 240), .lit (.int .u8 255), .lit (.int .u8 250), .lit (.int .u8 40), .lit (.int .u8 3), .lit (.int .u8 4), .lit (.int .u8 2), .lit (.int .u8 255), .lit (.int .u8 240)] := rfl
  rw [e1] at h1
  simp
  refine callK.of h1 ?_
  rintro v σ1 ⟨rfl, a2, b2, rfl⟩
  rw [putL_putL]
  simp
  have ho : ∀ {R : AV → Store → Prop}, (∀ v σ', v = .list false 1 (bytesA L1.out) ∧ σ' = putL kb L1.emptied a2 b2 σ → R v σ') → ACalls Tryz.prog 13 [ptrA kb.l] (putL kb L1 a2 b2 σ) R := fun h => (lout_calls kb hk L1 a2 b2 _ (putL_at hk L1 a2 b2 σ)).mono fun v σ' ⟨e1, e2⟩ => h v σ' ⟨e1, by rw [e2, putL_putL]; rfl⟩
  generalize L1.emptied = L at *
  refine callK.of (ho (R := fun v σ' => v = .list false 1 (bytesA L1.out) ∧ σ' = putL kb L a2 b2 σ) fun _ _ h => h) ?_
  rintro v σ1 ⟨rfl, rfl⟩
  simp
  refine callK.of (lmode_calls kb L a2 b2 _ (putL_at hk L a2 b2 σ)) ?_
  rintro v σ1 ⟨rfl, rfl⟩
  rw [hR.mode]
  simp
  have hLe : ({ L with out := [] } : Lk) = L := by
    have ho := hR.out
    obtain ⟨rd, o, e, mp, out, seq, mode⟩ := L
    dsimp only at ho ⊢
    rw [ho]
  refine codeK.loop follows (st := st5s) (plans := pl5) (X := RsS) (fun s => s.i ≤ l.length ∧ s.i ≤ 10)
    (fun s => [(1, .list false 1 (bytesA codes)), (5, ptrA kb.l), (37, .list false 4 (hdsA l)), (38, .lit (.int .i64 l.length)), (39, .lit (.int .i64 s.i))]) (fun s => putL kb L s.a s.b σ) (fun s => l.length - s.i) ⟨0, a2, b2⟩ (by kernel_rfl) ⟨Nat.zero_le _, Nat.zero_le _⟩ (by simp) (Store.sub_refl _) ?_
  rintro ⟨i, a, b⟩ ⟨hi, hi10⟩
  dsimp only at hi hi10 ⊢
  by_cases hlt : i < l.length
  · have hlt' : (i : Int) < l.length := by omega
    obtain ⟨h, hh⟩ : ∃ h, l[i] = h := ⟨_, rfl⟩
    have hs : h.seq < 65536 := by rw [← hh]; exact hl _ (List.getElem_mem ..)
    have hg : ∀ q : i < (hdsA l).length, (hdsA l)[i]'q = .agg (hdL h) := fun q => by simp [hdsA, hh]
    have hby := fun τ => r9bytes_calls h hs τ
    have hlen : ∀ t, (esc (headL h ++ t)).length ≤ 2 * (5 + t.length) := fun t => by
      have := (esc_length (headL h ++ t)).2
      rw [List.length_append] at this
      exact this
    have hd := rec_told hR.ok.rd hR.state hR.mp hR.now (by rw [hR.mode]; decide) (headL h ++ [241]) (by simp [headL])
    have hE : headOk h → toldF L.mode (headL h ++ [241]) = ⟨kindOf h.ty, [241], h, true⟩ := fun ok => by
      unfold toldF
      rw [if_neg (by rw [hR.mode]; decide), parse_head hs ok]
    have hres := fun code => respB_of hR (kindOf h.ty) [241] h code
    have hget := fun code => respB_get h code
    have hans := fun (ok : headOk h) code τ => r9answer_calls h hs ok code τ
    have hrs := fun τ a b code => respond_calls kb hk L a b ⟨kindOf h.ty, [241], h, true⟩ hs code hR.ok.small (by rw [hR.out]; simp) τ
    have hown := fun τ => lown_calls ⟨kindOf h.ty, [241], h, true⟩ false τ
    simp only [hres] at hrs
    have halen : ∀ code, ((answerF h code).getD []).length ≤ 6 := fun code => by
      cases hc : answerF h code with
      | none => simp
      | some a => simp only [Option.getD_some]; rw [answerF_length hc]; omega
    generalize kindOf h.ty = kd at *
    obtain ⟨ty, req, resp, seq⟩ := h
    simp only [hdL, byteA_lit, leA, List.cons_append, List.nil_append] at hg hby hrs hown hans
    have hhl : (headL ⟨ty, req, resp, seq⟩).length = 5 := rfl
    by_cases h10 : i = 10
    · subst h10
      have hlt10 : (10 : Int) < l.length := by omega
      simp [hlt, hlt10, hg]
      exact fun p hp => ⟨_, Store.sub_refl _⟩
    · have h10' : ¬ (10 : Int) ≤ i := by omega
      have hw : IntKind.i64.wrap ((i : Int) + 1) = ((i + 1 : Nat) : Int) := wrap_i64 (by omega) (by omega)
      simp [hlt, hlt', hg, h10']
      intro q hq
      have eqq := fun X => putL_comm2 hk (L := L) (L' := L) (a' := a) (b' := b) hq X
      have hσq : σ q = none := putL_free hq
      rw [← eqq]
      have hqX : ∀ a b, putL kb L a b (σ.upd q [.lit (.int .u8 ty.toNat), .lit (.int .u8 req.toNat), .lit (.int .u8 resp.toNat), .lit (.int .u16 seq)]) q = some [.lit (.int .u8 ty.toNat), .lit (.int .u8 req.toNat), .lit (.int .u8 resp.toNat), .lit (.int .u16 seq)] := fun a' b' => by
        rw [putL_comm2 hk hq, supd_apply, if_pos rfl]
      have hsq : ∀ a b, Store.sub (putL kb L a b σ) (putL kb L a b (σ.upd q [.lit (.int .u8 ty.toNat), .lit (.int .u8 req.toNat), .lit (.int .u8 resp.toNat), .lit (.int .u16 seq)])) := fun a b => putL_sub (sub_upd_self _ _ _ hσq)
      generalize σ.upd q [.lit (.int .u8 ty.toNat), .lit (.int .u8 req.toNat), .lit (.int .u8 resp.toNat), .lit (.int .u16 seq)] = σq at *
      have hat := putL_at hk L a b σq
      refine callK.of (hby _) ?_
      rintro v σ1 ⟨rfl, ⟨hok, rfl⟩ | ⟨hok, rfl⟩⟩
      · rw [hE hok] at hd
        generalize headL ⟨ty, req, resp, seq⟩ = hd5 at *
        have htk := fun (τ' : Store) (hq' : LkAt kb L a b τ') => ltk_calls kb hk L a b true 56 (esc (hd5 ++ [241]) ++ [255, 239]) (by rw [List.length_append]; have := hlen [241]; simp at this ⊢; omega) hR.ok _ hq'
        rw [hd.1, hd.2] at htk
        have hle := fun τ => lesc_calls true (hd5 ++ [241]) τ (by simp; omega)
        have e2 : bytesA (hd5 ++ [241]) = bytesA hd5 ++ [.lit (.int .u8 241)] := by simp [bytesA, byteA]
        have e3 : bytesA (esc (hd5 ++ [241]) ++ [255, 239]) = bytesA (esc (hd5 ++ [241])) ++ [.lit (.int .u8 255), .lit (.int .u8 239)] := by simp [bytesA, byteA]
        have hll := hlen [241]
        simp only [List.length_cons, List.length_nil] at hll
        rw [e2] at hle
        rw [e3] at htk
        generalize hEE : esc (hd5 ++ [241]) = EE at *
        by_cases hci : i < codes.length
        · obtain ⟨c, hc⟩ : ∃ c, codes[i] = c := ⟨_, rfl⟩
          have hcg : ∀ q : i < (bytesA codes).length, (bytesA codes)[i]'q = .lit (.int .u8 c.toNat) := fun q => by simp [bytesA, hc, byteA]
          have hci' : (i : Int) < codes.length := by omega
          obtain ⟨code, hcode⟩ : ∃ code : Nat, IntKind.i64.wrap ((c.toNat : Int).tmod 16) = (code : Int) := by
            have : (c.toNat : Int).tmod 16 = ((c.toNat % 16 : Nat) : Int) := rfl
            rw [this]
            exact ⟨_, wrap_i64 (by omega) (by omega)⟩
          simp [hci, hci', hcg]
          refine ⟨by omega, by omega, ?_⟩
          refine callK.of (hle _) ?_
          rintro v σ1 ⟨rfl, rfl⟩
          simp
          refine ⟨by omega, by omega, ?_⟩
          refine callK.of (htk _ hat) ?_
          rintro v σ1 ⟨rfl, a3, b3, rfl⟩
          rw [putL_putL]
          have hgl : ∀ q : 0 < (lesA [⟨kd, [241], ⟨ty, req, resp, seq⟩, true⟩]).length, (lesA [⟨kd, [241], ⟨ty, req, resp, seq⟩, true⟩])[0]'q = .agg [.lit (.int .i64 kd), .list false 1 (bytesA [241]), .lit (.int .u8 ty.toNat), .lit (.int .u8 req.toNat), .lit (.int .u8 resp.toNat), .lit (.int .u16 seq), .lit (.bool true)] := fun _ => rfl
          generalize hZ : (lesA [⟨kd, [241], ⟨ty, req, resp, seq⟩, true⟩]) = Z at *
          have hZl : Z.length = 1 := by rw [← hZ]; rfl
          simp
          refine codeK.loop follows (st := st5s) (plans := pl5) (X := RsS) (fun s => s.i ≤ 1)
            (fun s => [(1, .list false 1 (bytesA codes)), (5, ptrA kb.l), (10, ptrA q), (13, .lit (.int .i64 code)), (14, .list true 1 (bytesA (if s.i = 0 then [] else respB ⟨ty, req, resp, seq⟩ code))), (37, .list false 4 (hdsA l)), (38, .lit (.int .i64 l.length)), (39, .lit (.int .i64 i)), (70, .list false 7 Z), (71, .lit (.int .i64 1)), (72, .lit (.int .i64 s.i))])
            (fun s => putL kb L s.a s.b σq) (fun s => 1 - s.i) ⟨0, a3, b3⟩ (by kernel_rfl) (Nat.zero_le _) (by simp [hcode, hZl, bytesA_nil]) (Store.sub_refl _) ?_
          rintro ⟨j, a4, b4⟩ hj
          dsimp only at hj ⊢
          have hrl : ((answerF ⟨ty, req, resp, seq⟩ code).getD []).length ≤ 6 := halen code
          have hrb := hget code
          have hrbl : (respB ⟨ty, req, resp, seq⟩ code).length ≤ 14 := by
            have := (esc_length ((answerF ⟨ty, req, resp, seq⟩ code).getD [])).2
            rw [hrb]
            split
            · rw [List.length_append]; simp only [List.length_cons, List.length_nil]; omega
            · omega
          by_cases hj0 : j = 0
          · subst hj0
            simp [hgl, hZl]
            intro p hp
            have eqp := fun X => putL_comm2 hk (L := L) (L' := L) (a' := a4) (b' := b4) hp X
            refine callK.of (hown _) ?_
            rintro v σ1 ⟨rfl, rfl⟩
            simp
            rw [← eqp]
            refine callK.of (hrs _ a4 b4 code (putL_at hk L a4 b4 _)) ?_
            rintro v σ1 ⟨rfl, a5, b5, rfl⟩
            rw [putL_putL]
            simp
            refine callK.of (lout_calls kb hk _ a5 b5 _ (putL_at hk _ a5 b5 _)) ?_
            rintro v σ1 ⟨rfl, rfl⟩
            rw [putL_putL]
            simp
            refine ⟨by omega, by omega, ⟨1, a5, b5⟩, Nat.le_refl _, rfl, ⟨?_, AV.le_refl _⟩, ?_⟩
            · rw [if_neg (Nat.succ_ne_zero 0), bytesA_nil, List.nil_append]; exact AV.le_refl _
            · rw [hLe]; exact putL_sub (sub_upd_self _ _ _ (putL_free hp))
          · obtain rfl : j = 1 := by omega
            simp [hqX]
            refine callK.of (hans hok code _) ?_
            rintro v σ1 ⟨rfl, rfl⟩
            simp
            generalize respB ⟨ty, req, resp, seq⟩ code = rb at *
            generalize (answerF ⟨ty, req, resp, seq⟩ code).getD [] = an at *
            by_cases h0 : 0 < an.length
            · have e4 : bytesA (esc an ++ [255, 239]) = bytesA (esc an) ++ [.lit (.int .u8 255), .lit (.int .u8 239)] := by simp [bytesA, byteA]
              have hel := (esc_length an).2
              rw [if_pos h0] at hrb
              rw [if_pos h0]
              refine callK.of (lesc_calls false an _ (by omega)) ?_
              rintro v σ1 ⟨rfl, rfl⟩
              simp
              refine ⟨by omega, by omega, ?_⟩
              rw [hrb, ← e4]
              refine callK.of (same_calls false false _ _ _) ?_
              rintro v σ1 ⟨rfl, rfl⟩
              simp
              exact ⟨⟨i + 1, a4, b4⟩, ⟨by dsimp only; omega, by dsimp only; omega⟩, by dsimp only; omega, by dsimp only; rw [hw]; exact AV.le_refl _, hsq _ _⟩
            · rw [if_neg h0] at hrb
              rw [if_neg h0]
              subst hrb
              refine callK.of (same_calls false false _ _ _) ?_
              rintro v σ1 ⟨rfl, rfl⟩
              simp
              exact ⟨⟨i + 1, a4, b4⟩, ⟨by dsimp only; omega, by dsimp only; omega⟩, by dsimp only; omega, by dsimp only; rw [hw]; exact AV.le_refl _, hsq _ _⟩
        · have hci' : ¬ (i : Int) < codes.length := by omega
          obtain ⟨code, hcode⟩ : ∃ code : Nat, (0 : Int) = code := ⟨0, rfl⟩
          simp [hci']
          refine ⟨by omega, by omega, ?_⟩
          refine callK.of (hle _) ?_
          rintro v σ1 ⟨rfl, rfl⟩
          simp
          refine ⟨by omega, by omega, ?_⟩
          refine callK.of (htk _ hat) ?_
          rintro v σ1 ⟨rfl, a3, b3, rfl⟩
          rw [putL_putL]
          have hgl : ∀ q : 0 < (lesA [⟨kd, [241], ⟨ty, req, resp, seq⟩, true⟩]).length, (lesA [⟨kd, [241], ⟨ty, req, resp, seq⟩, true⟩])[0]'q = .agg [.lit (.int .i64 kd), .list false 1 (bytesA [241]), .lit (.int .u8 ty.toNat), .lit (.int .u8 req.toNat), .lit (.int .u8 resp.toNat), .lit (.int .u16 seq), .lit (.bool true)] := fun _ => rfl
          generalize hZ : (lesA [⟨kd, [241], ⟨ty, req, resp, seq⟩, true⟩]) = Z at *
          have hZl : Z.length = 1 := by rw [← hZ]; rfl
          simp
          refine codeK.loop follows (st := st5s) (plans := pl5) (X := RsS) (fun s => s.i ≤ 1)
            (fun s => [(1, .list false 1 (bytesA codes)), (5, ptrA kb.l), (10, ptrA q), (13, .lit (.int .i64 code)), (14, .list true 1 (bytesA (if s.i = 0 then [] else respB ⟨ty, req, resp, seq⟩ code))), (37, .list false 4 (hdsA l)), (38, .lit (.int .i64 l.length)), (39, .lit (.int .i64 i)), (70, .list false 7 Z), (71, .lit (.int .i64 1)), (72, .lit (.int .i64 s.i))])
            (fun s => putL kb L s.a s.b σq) (fun s => 1 - s.i) ⟨0, a3, b3⟩ (by kernel_rfl) (Nat.zero_le _) (by simp [hcode, hZl, bytesA_nil]) (Store.sub_refl _) ?_
          rintro ⟨j, a4, b4⟩ hj
          dsimp only at hj ⊢
          have hrl : ((answerF ⟨ty, req, resp, seq⟩ code).getD []).length ≤ 6 := halen code
          have hrb := hget code
          have hrbl : (respB ⟨ty, req, resp, seq⟩ code).length ≤ 14 := by
            have := (esc_length ((answerF ⟨ty, req, resp, seq⟩ code).getD [])).2
            rw [hrb]
            split
            · rw [List.length_append]; simp only [List.length_cons, List.length_nil]; omega
            · omega
          by_cases hj0 : j = 0
          · subst hj0
            simp [hgl, hZl]
            intro p hp
            have eqp := fun X => putL_comm2 hk (L := L) (L' := L) (a' := a4) (b' := b4) hp X
            refine callK.of (hown _) ?_
            rintro v σ1 ⟨rfl, rfl⟩
            simp
            rw [← eqp]
            refine callK.of (hrs _ a4 b4 code (putL_at hk L a4 b4 _)) ?_
            rintro v σ1 ⟨rfl, a5, b5, rfl⟩
            rw [putL_putL]
            simp
            refine callK.of (lout_calls kb hk _ a5 b5 _ (putL_at hk _ a5 b5 _)) ?_
            rintro v σ1 ⟨rfl, rfl⟩
            rw [putL_putL]
            simp
            refine ⟨by omega, by omega, ⟨1, a5, b5⟩, Nat.le_refl _, rfl, ⟨?_, AV.le_refl _⟩, ?_⟩
            · rw [if_neg (Nat.succ_ne_zero 0), bytesA_nil, List.nil_append]; exact AV.le_refl _
            · rw [hLe]; exact putL_sub (sub_upd_self _ _ _ (putL_free hp))
          · obtain rfl : j = 1 := by omega
            simp [hqX]
            refine callK.of (hans hok code _) ?_
            rintro v σ1 ⟨rfl, rfl⟩
            simp
            generalize respB ⟨ty, req, resp, seq⟩ code = rb at *
            generalize (answerF ⟨ty, req, resp, seq⟩ code).getD [] = an at *
            by_cases h0 : 0 < an.length
            · have e4 : bytesA (esc an ++ [255, 239]) = bytesA (esc an) ++ [.lit (.int .u8 255), .lit (.int .u8 239)] := by simp [bytesA, byteA]
              have hel := (esc_length an).2
              rw [if_pos h0] at hrb
              rw [if_pos h0]
              refine callK.of (lesc_calls false an _ (by omega)) ?_
              rintro v σ1 ⟨rfl, rfl⟩
              simp
              refine ⟨by omega, by omega, ?_⟩
              rw [hrb, ← e4]
              refine callK.of (same_calls false false _ _ _) ?_
              rintro v σ1 ⟨rfl, rfl⟩
              simp
              exact ⟨⟨i + 1, a4, b4⟩, ⟨by dsimp only; omega, by dsimp only; omega⟩, by dsimp only; omega, by dsimp only; rw [hw]; exact AV.le_refl _, hsq _ _⟩
            · rw [if_neg h0] at hrb
              rw [if_neg h0]
              subst hrb
              refine callK.of (same_calls false false _ _ _) ?_
              rintro v σ1 ⟨rfl, rfl⟩
              simp
              exact ⟨⟨i + 1, a4, b4⟩, ⟨by dsimp only; omega, by dsimp only; omega⟩, by dsimp only; omega, by dsimp only; rw [hw]; exact AV.le_refl _, hsq _ _⟩
      · simp
        refine ⟨⟨i + 1, a, b⟩, ⟨by dsimp only; omega, by dsimp only; omega⟩, by dsimp only; omega, by dsimp only; rw [hw]; exact AV.le_refl _, ?_⟩
        exact hsq _ _
  · obtain rfl : i = l.length := by omega
    simp
    exact ⟨_, Store.sub_refl _⟩
end Go.Proofs.YteaidaolablegaaGreatDoor
/-
  Headers opened.
-/
namespace Go.Proofs.YteaidaolablegaaGreatDoor
open Go Go.AL
theorem open_seq : Opens Tryz.prog 47 (fun n : Nat => [.lit (.int .u16 n)]) (fun n => n < 65536) := by
  refine (Opens.int Tryz.underlying47).by Int.toNat fun n hn => ?_
  have : 0 ≤ n ∧ n ≤ 65535 := by simpa [Lit.wf, IntKind.min, IntKind.max, IntKind.bits, IntKind.signed] using hn
  refine ⟨by omega, ?_⟩
  have : ((n.toNat : Nat) : Int) = n := by omega
  rw [this]
theorem open_b : Opens Tryz.prog 5 (fun b : UInt8 => [byteA b]) (fun _ => True) := (Opens.u8 Tryz.underlying5).by id fun _ _ => ⟨trivial, rfl⟩
theorem open_hd : Opens Tryz.prog 49 hdL (fun h => h.seq < 65536) :=
  (Opens.struct (total := 4) Tryz.underlying49 (by kernel_rfl)
    (.cons (k := 1) rfl (by kernel_rfl) (by omega) open_b (.cons (k := 1) rfl (by kernel_rfl) (by omega) open_b (.cons (k := 1) rfl (by kernel_rfl) (by omega) open_b (.cons (k := 1) rfl (by kernel_rfl) (by omega) open_seq .nil))))).by
    (fun x => ⟨x.1, x.2.1, x.2.2.1, x.2.2.2.1⟩) fun _ h => ⟨h.2.2.2.1, rfl⟩
theorem open_hds : Opens Tryz.prog 45 (fun l : List Hd => [.list false 4 (hdsA l)]) (fun l => ∀ h ∈ l, h.seq < 65536) :=
  (Opens.slice Tryz.underlying45 (sz := 4) (by kernel_rfl) (by omega) open_hd (fun h => .agg (hdL h)) (fun _ => rfl) (fun _ => rfl)).by id fun _ h => ⟨h.2, rfl⟩
end Go.Proofs.YteaidaolablegaaGreatDoor
/-
  What the table of the names reads as.
-/
namespace Go.Proofs.YteaidaolablegaaGreatDoor
open Go Go.AL Go.ChangeShapes Go.WideShapes Go.ChangeAt Go.RowKit Go.Lib

def laid1 : List (String × DataW Unit) := [("unicode/utf8.acceptRanges", Rows.laid_unicode_utf8_acceptRanges), ("vitrine/header.names", Rows.laid_vitrine_header_names), ("unicode/utf8.first", Rows.laid_unicode_utf8_first)]
def nameV (x : List UInt8) : Value := .string ⟨x.toArray⟩
def nameD (x : List UInt8) : DataW Unit := .lit (.string x)
theorem laid_names : (Rows.laid_vitrine_header_names : DataW Unit) = .agg (namesL.map nameD) := rfl
theorem laid_vr {W : World} (h : laidMetH Tryz.prog laid1 W) : ∀ g cs, GL.tab g = some cs → VR (allFrz W) (.fptr cs) (.pointer (some ⟨g, 0, none⟩)) := by
  rw [MakeChecks.laidMetH_plain _ _ _ (by kernel_rfl)] at h
  obtain ⟨ps, ⟨_, _, _, _, _, _, _, _, _, _, ⟨g, t, cs, fuel, p, q, hg, ht, hv, hd, _, _⟩, _⟩, _, _⟩ := h
  obtain rfl := Option.some.inj ((show Tryz.prog.globalNamed "vitrine/header.names" = some 1 by kernel_rfl).symm.trans hg)
  obtain rfl := Option.some.inj ((show (Tryz.prog.globals[1]?).map (·.type) = some 189 by kernel_rfl).symm.trans ht)
  obtain ⟨xs, m, _, ex, hc, hl, hel⟩ := DataW.trod_array Tryz.underlying189 hd
  have c9 : Tryz.prog.cellsOf 9 = 1 := by kernel_rfl
  have c189 : Tryz.prog.cellsOf 189 = 9 := by kernel_rfl
  rw [c189] at hc
  have e3 : xs.map (·.1) = namesL.map nameD := (DataW.agg.inj ((Prod.mk.inj ex).1.symm.trans laid_names)).symm ▸ rfl
  have hcs : cs.toList = namesL.map nameV := by
    refine List.ext_getElem? fun r => ?_
    by_cases hr : r < 9
    · have he := hel r hr
      rw [c9] at he
      have e4 : (xs.map (·.1))[r]? = (namesL.map nameD)[r]? := by rw [e3]
      rw [List.getElem?_map, List.getElem?_map] at e4
      have hx : r < namesL.length := hr
      rw [List.getElem?_map, List.getElem?_eq_getElem hx] at *
      cases hxr : xs[r]? with
      | none => rw [hxr] at e4; cases e4
      | some y =>
        rw [hxr] at e4 he
        obtain ⟨d, p⟩ := y
        simp only [Option.map_some, Option.some.injEq] at e4
        subst e4
        obtain ⟨s, g0, d0, _⟩ := DataW.trod_string Tryz.underlying9 (he.trans rfl)
        have hs : namesL[r] = s.data.toList := by
          have := d0
          simp only [nameD, DataW.lit.injEq, Lit.string.injEq] at this
          simp at this; exact this.1
        rw [Nat.mul_one] at g0
        have hlr : r < cs.toList.length := by omega
        have g1 : cs.toList[r]? = some (Value.string s) := by
          have := congrArg (·[0]?) g0
          simpa [List.getElem?_take, List.getElem?_drop] using this
        rw [g1, Option.map_some, nameV, hs]
    · rw [List.getElem?_eq_none (by omega), List.getElem?_eq_none (by rw [List.length_map]; exact Nat.le_of_not_lt hr)]
  intro g cs2 hg2
  have : g = 1 ∧ cs2 = namesO := by
    have hg3 : (if g = 1 then some namesO else none) = some cs2 := hg2
    split at hg3
    · exact ⟨‹_›, (Option.some.inj hg3).symm⟩
    · cases hg3
  obtain ⟨rfl, rfl⟩ := this
  have hlit : namesO = (namesL.map nameV).map .lit := rfl
  refine .fptr _ _ _ (namesL.map nameV) rfl (fun i u hu => ⟨?_, ?_⟩) fun i c u hc hu => ?_
  · rw [Nat.zero_add]
    refine cell_back ?_
    rw [World.var?_cell hg hv i, ← Array.getElem?_toList, hcs]; exact hu
  · have : (namesL.map nameV).all Value.oneCell' = true := by decide
    exact List.all_eq_true.1 this u (List.mem_of_getElem? hu)
  · rw [hlit, List.getElem?_map, hu] at hc
    obtain rfl := Option.some.inj hc
    exact .lit _
end Go.Proofs.YteaidaolablegaaGreatDoor
/-
  LinkResponds: for every input the law returns true, and the arguments read as they did.
-/
namespace Go.Proofs.YteaidaolablegaaGreatDoor
open Go Go.AL Go.ChangeShapes Go.WideShapes Go.ChangeAt Go.RowKit Go.Lib

theorem own_linkResponds : ownKnob Tryz.prog.godebug = none := by kernel_rfl
theorem laid_linkResponds : laidOutB Tryz.prog = true := by kernel_rfl
theorem rec22_linkResponds : Tryz.prog.readableRec 22 = true := by kernel_rfl
theorem row22_linkResponds : (22 : TypeId) < Tryz.prog.types.size := of_decide_eq_true (by kernel_rfl)
theorem rec45_linkResponds : Tryz.prog.readableRec 45 = true := by kernel_rfl
theorem row45_linkResponds : (45 : TypeId) < Tryz.prog.types.size := of_decide_eq_true (by kernel_rfl)

set_option maxRecDepth 100000 in
theorem linkResponds_lifted (os : Os) (started : os.Started) (H : Type) (enc : TypeId × Value → H) :
    ReturnsInHanded {} Tryz.checked os 5 .any (fun w args => (Rows.linkRespondsSpec.pre enc Tryz.prog Tryz.f5 [] false w args ∧ laidMetH Tryz.prog laid1 w) ∧ sizedMet enc Tryz.prog Tryz.f5 (OpenSpec.ofChange Rows.linkRespondsSpec) false w args) (Rows.linkRespondsSpec.post enc Tryz.prog Tryz.f5 false true false false) := by
  refine returnsInHanded_of_change_and (C := Tryz.checked) (X := fun w _ => laidMetH Tryz.prog laid1 w) (fun _ _ _ hh h => h.of_heap hh) own_linkResponds started (by kernel_rfl) Tryz.func5
    (ChangeSpec.witness_shaped (enc := enc) (C := Tryz.checked) (os := os) (X := fun w _ => laidMetH Tryz.prog laid1 w) false (World.laidAll Tryz.prog os laid1) #[.slice none 0 0, .slice none 0 0] 8 (World.laidAll_os _ _ _)
      (World.shaped_of_ZipB (by kernel_rfl) (by kernel_rfl)) (by kernel_rfl) (by kernel_rfl) (by kernel_rfl)
      (by rw [MakeChecks.laidMetH_plain _ _ _ (by kernel_rfl)]; exact laidMet_laidAll _ (by kernel_rfl) (by kernel_rfl))) ?_
  intro W base args ds gs before hval0 hW _ _ hL _
  have hval : ∀ (j : Nat) t v, Tryz.f5.params[j]? = some t → args[j]? = some v → Value.okWide Tryz.prog W .any base t v := hval0
  have hW' := hW
  obtain ⟨p, q, hA0, hV, rfl, hfz, hnd⟩ := hW
  have hA : DataW.TrodAll enc Tryz.prog W 0 (fun _ => true) true Tryz.f5.params.toList args.toList ds p := hA0
  rw [Tryz.params5] at hA hval
  obtain ⟨v0, v1, d0, d1, p0, p1, rfl, rfl, rfl, h0, h1⟩ := trodAll_two hA
  obtain ⟨rfl, rfl⟩ := trodVars_none hV
  obtain ⟨_, _, _, hv0⟩ := okWide_slice Tryz.underlying45 (hval 0 45 v0 rfl rfl)
  obtain ⟨a0, m0, w0⟩ := (open_hds).arg _ (fun _ => rfl) (by rw [hv0]; rfl) h0
  obtain ⟨_, _, _, hv1⟩ := okWide_slice Tryz.underlying22 (hval 1 22 v1 rfl rfl)
  obtain ⟨a1, m1, w1⟩ := (open_bytes).arg _ (fun _ => rfl) (by rw [hv1]; rfl) h1
  clear hA0 hval0
  simp only [List.append_nil] at hW'
  have hlt : ∀ x ∈ p0 ++ p1, x.block < W.heap.size := fun x hx => hW'.lt x hx
  refine (law_calls (linkResponds_calls a0 m0 a1 _) W #[v0, v1] rfl (fun i c u hc hu => ?_) (laid_vr hL)).mono fun e W' ⟨he, hb⟩ => ?_
  · match i with
    | 0 => simp at hc hu; subst hc hu; exact ⟨w0, rfl⟩
    | 1 => simp at hc hu; subst hc hu; exact ⟨w1, rfl⟩
    | n + 2 => simp at hc
  subst he
  refine ⟨_, rfl, [d0, d1], [], p0 ++ p1, [], p0 ++ p1, [], hW', ?_, ?_, rfl, hb.frame _, fun h => (by cases h)⟩
  · exact trodAll_mk1 (shut_bool Tryz.underlying4 true)
  · refine trodAll_mk2 (Below.trod laid_linkResponds rec45_linkResponds row45_linkResponds h0 hb fun x hx => hlt x (by simp [hx])) (Below.trod laid_linkResponds rec22_linkResponds row22_linkResponds h1 hb fun x hx => hlt x (by simp [hx]))

theorem linkResponds_holds : Rows.LinkRespondsSaid :=
  OpenClaim.holds_of_wide 5 Tryz.f5 rfl rfl rfl rfl rfl rfl rfl ⟨rfl, rfl, rfl, rfl, rfl⟩ rfl rfl rfl rfl rfl (by kernel_rfl) Tryz.func5 (by kernel_rfl)
    (of_decide_eq_true (by kernel_rfl)) (by unfold Func.isWrapper; first | (rw [if_pos (by decide +kernel)]; kernel_rfl) | (rw [if_neg (by decide +kernel)]; exact ⟨rfl, rfl⟩))
    (fun os started H enc _ => linkResponds_lifted os started H enc)
end Go.Proofs.YteaidaolablegaaGreatDoor
