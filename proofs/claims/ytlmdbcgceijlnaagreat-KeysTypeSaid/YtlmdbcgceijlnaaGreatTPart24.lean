/-
  The document's sign of a code, and the code of a sign.
-/
import Derived.Test.YtlmdbcgceijlnaaGreatTPart23
namespace Go.Proofs.YtlmdbcgceijlnaaGreat
open Go Go.AL

theorem numS_le {s : ByteArray} (h : s.size ≤ 4) : numS s ≤ 1200000 := numTo_le s _ h
theorem mk_base (a : Array UInt8) (h : a = rbaseL.toArray) : ByteArray.mk a = toB rbaseL := by rw [h]; rfl
theorem wrap32 {x : Int} (h0 : 0 ≤ x) (h1 : x ≤ 2147483647) : IntKind.i32.wrap x = x := by
  unfold IntKind.wrap
  simp [IntKind.bits, IntKind.signed]
  omega
theorem nums_calls (s : ByteArray) (hs : s.size ≤ 4) (σ : Store) : ACalls Tryz.prog 100 [.lit (.string s)] σ fun v σ' => v = .lit (.int .i64 (numS s : Nat)) ∧ σ' = σ := num_calls s hs σ
set_option maxRecDepth 8000 in
theorem rsign_calls (n : Int) (hn : isPage n) (b : UInt8) (σ : Store) : ACalls Tryz.prog 56 [.lit (.int .i64 n), byteA b] σ fun v σ' => v = .lit (.int .i32 (sgF n b.toNat : Nat)) ∧ σ' = σ := by
  have hro := fun τ => roth_calls n hn τ
  obtain ⟨ho1, ho2, ho3⟩ := hex_oth hn
  have hb := b.toNat_lt
  have hrs := rsign_eq hn hb
  unfold rsign at hrs
  have hnum := fun τ s h => nums_calls s h τ
  have hat := fun c h => hex6_at c (rothL n) h
  have hpt := fun i m h => numS_part (rothL n) i m h
  rw [ho1] at hat
  have hsz := toB_size (rothL n)
  refine ACalls.of_awp follows (st := st56) (plans := pl56) (n := 46) Tryz.func56 rfl (by kernel_rfl) (by kernel_rfl) (by kernel_rfl) ?_
  generalize rothL n = L at *
  generalize othersF n = O at *
  simp [byteA]
  refine callK.of (hro _) ?_
  rintro v τ ⟨rfl, rfl⟩
  simp
  refine codeK.loop follows (st := st56) (plans := pl56) (X := Nat) (fun j => j ≤ O.length ∧ (((O.drop j).find? (fun o => o.1 == b.toNat)).map (·.2)).getD (baseL.getD b.toNat 0) = sgF n b.toNat)
    (fun j => [(1, byteA b), (5, .lit (.string (toB L))), (7, .lit (.int .i64 (6 * j : Nat)))]) (fun _ => τ) (fun j => O.length - j) 0 (by kernel_rfl) ⟨by simp, hrs⟩ (by simp [byteA]) (Store.sub_refl _) fun j hj => ?_
  obtain ⟨hjl, hres⟩ := hj
  by_cases hlt : j < O.length
  · have h6 : 6 * j + 6 ≤ L.length := by omega
    have ha := hat j h6
    obtain ⟨p1, p2⟩ := hpt (6 * j) 2 (by omega)
    obtain ⟨q1, q2⟩ := hpt (6 * j + 2) 4 (by omega)
    have hnx : (((O.drop (j + 1)).find? (fun o => o.1 == b.toNat)).map (·.2)).getD (baseL.getD b.toNat 0) = if O[j].1 = b.toNat then (((O.drop (j + 1)).find? (fun o => o.1 == b.toNat)).map (·.2)).getD (baseL.getD b.toNat 0) else sgF n b.toNat := by
      split
      · rfl
      · next hne =>
        rw [List.drop_eq_getElem_cons hlt, List.find?_cons_of_neg (by simpa using hne)] at hres
        exact hres
    have hhit : O[j].1 = b.toNat → O[j].2 = sgF n b.toNat := fun he => by
      rw [List.drop_eq_getElem_cons hlt, List.find?_cons_of_pos (by simpa using he)] at hres
      exact hres
    rw [List.getElem?_eq_getElem hlt] at ha
    have ha := Option.some.inj ha
    have k1 : numS ((toB L).extract (6 * j) (6 * j + 2)) = O[j].1 := by rw [p2, ha]
    have k2 : numS ((toB L).extract (6 * j + 2) (6 * j + 6)) = O[j].2 := by
      have e : 6 * j + 6 = 6 * j + 2 + 4 := by omega
      rw [e, q2, ha]
    have q1' : ((toB L).extract (6 * j + 2) (6 * j + 6)).size = 4 := by
      have e : 6 * j + 6 = 6 * j + 2 + 4 := by omega
      rw [e, q1]
    have hn1 := hnum τ _ (by rw [p1]; omega : ((toB L).extract (6 * j) (6 * j + 2)).size ≤ 4)
    have hn2 := hnum τ _ (by rw [q1']; omega : ((toB L).extract (6 * j + 2) (6 * j + 6)).size ≤ 4)
    have hle2 := numS_le (by rw [q1']; omega : ((toB L).extract (6 * j + 2) (6 * j + 6)).size ≤ 4)
    rw [k1] at hn1
    rw [k2] at hn2 hle2
    have h6j : 6 * (j + 1) = 6 * j + 6 := by omega
    generalize hi : 6 * j = i at hn1 hn2 hle2 h6 h6j ⊢
    have hlt' : i < (toB L).size := by omega
    have hltI : (i : Int) < ((toB L).size : Int) := by omega
    have s2 : i + 2 ≤ (toB L).size := by omega
    have s6 : i + 6 ≤ (toB L).size := by omega
    have t2 : ((i : Int) + 2).toNat = i + 2 := by omega
    have t6 : ((i : Int) + 6).toNat = i + 6 := by omega
    have g2 : (0 : Int) ≤ (i : Int) + 2 := by omega
    have g6 : (0 : Int) ≤ (i : Int) + 6 := by omega
    have l6 : i + 2 ≤ i + 6 := by omega
    have hw2 : IntKind.i64.wrap ((i : Int) + 2) = (i : Int) + 2 := wrap_i64 (by omega) (by omega)
    have hw6 : IntKind.i64.wrap ((i : Int) + 6) = (i : Int) + 6 := wrap_i64 (by omega) (by omega)
    have hwb : IntKind.i64.wrap (b.toNat : Int) = (b.toNat : Int) := wrap_i64 (by omega) (by omega)
    simp [hlt', hltI, hw2, hw6, byteA, s2, s6, t2, t6, g2, g6, l6]
    refine callK.of hn1 ?_
    rintro v τ ⟨rfl, rfl⟩
    generalize hO1 : O[j].1 = o1 at *
    by_cases he : o1 = b.toNat
    · have hv := hhit he
      simp [he, hlt', hltI, hw2, hw6, byteA, s2, s6, t2, t6, g2, g6, l6, hwb]
      refine callK.of hn2 ?_
      rintro v τ ⟨rfl, rfl⟩
      have hwi : IntKind.i32.wrap (O[j].2 : Int) = (sgF n b.toNat : Nat) := by rw [wrap32 (by omega) (by omega), hv]
      simp [hwi]
    · have he' : ¬ (o1 : Int) = (b.toNat : Int) := by omega
      rw [if_neg he] at hnx
      simp [he, he', hwb, hw6]
      refine ⟨j + 1, ⟨by omega, hnx⟩, by omega, ?_⟩
      rw [show (6 * ((j + 1 : Nat) : Int)) = (i : Int) + 6 from by omega]
      exact AV.le_refl _
  · have hb4 : 4 * b.toNat + 4 ≤ rbaseL.length := by
      have : rbaseL.length = 1024 := by decide +kernel
      omega
    obtain ⟨p1, p2⟩ := numS_part rbaseL (4 * b.toNat) 4 hb4
    have h4 := hex4_at b.toNat rbaseL hb4
    rw [hex_base] at h4
    rw [List.drop_eq_nil_of_le (by omega)] at hres
    have hv : baseL.getD b.toNat 0 = sgF n b.toNat := hres
    rw [List.getD_eq_getElem?_getD, h4] at hv
    have hv : numS ((toB rbaseL).extract (4 * b.toNat) (4 * b.toNat + 4)) = sgF n b.toNat := by rw [p2]; exact hv
    have hnl : ¬ (6 * (j : Int)) < ((toB L).size : Int) := by omega
    have hn1 := hnum τ _ (by rw [p1]; omega : ((toB rbaseL).extract (4 * b.toNat) (4 * b.toNat + 4)).size ≤ 4)
    have hle := numS_le (by rw [p1]; omega : ((toB rbaseL).extract (4 * b.toNat) (4 * b.toNat + 4)).size ≤ 4)
    rw [hv] at hn1 hle
    have hwb : IntKind.i64.wrap (b.toNat : Int) = (b.toNat : Int) := wrap_i64 (by omega) (by omega)
    have hw4 : IntKind.i64.wrap (4 * (b.toNat : Int)) = 4 * (b.toNat : Int) := wrap_i64 (by omega) (by omega)
    have hw8 : IntKind.i64.wrap (4 * (b.toNat : Int) + 4) = 4 * (b.toNat : Int) + 4 := wrap_i64 (by omega) (by omega)
    simp [hnl, byteA, hwb, hw4, hw8]
    rw [mk_base]
    rotate_left
    · kernel_rfl
    have hsB := toB_size rbaseL
    have g0 : (0 : Int) ≤ 4 * (b.toNat : Int) := by omega
    have g4 : (0 : Int) ≤ 4 * (b.toNat : Int) + 4 := by omega
    have t0 : (4 * (b.toNat : Int)).toNat = 4 * b.toNat := by omega
    have t4 : (4 * (b.toNat : Int) + 4).toNat = 4 * b.toNat + 4 := by omega
    have l4 : 4 * b.toNat ≤ 4 * b.toNat + 4 ∧ 4 * b.toNat + 4 ≤ (toB rbaseL).size := by omega
    rw [if_pos g0, if_pos g4, t0, t4]
    dsimp only
    rw [if_pos l4]
    have hwi : IntKind.i32.wrap ((sgF n b.toNat : Nat) : Int) = (sgF n b.toNat : Nat) := wrap32 (by omega) (by omega)
    simp
    refine callK.of hn1 ?_
    rintro v τ ⟨rfl, rfl⟩
    simp [hwi]
theorem codeIx_none {n s : Int} (h : codeIx n s = none) : ∀ c, c < 256 → ¬ ((sgF n c : Nat) : Int) = s := fun c hc e => by
  have := List.findIdx?_eq_none_iff.1 h c (List.mem_range.2 hc)
  simp [e] at this
theorem codeIx_first {n s : Int} {j : Nat} (h : codeIx n s = some j) : ∀ c, c < j → ¬ ((sgF n c : Nat) : Int) = s := fun c hc e => by
  obtain ⟨h1, h2, h3⟩ := List.findIdx?_eq_some_iff_getElem.1 h
  have := h3 c hc
  simp [e] at this
/-- A sign's code, or none. -/
def codeZ (n s : Int) : Int := match codeIx n s with | some j => (j : Nat) | none => -1
set_option maxRecDepth 8000 in
theorem rcode_calls (n : Int) (hn : isPage n) (s : Int) (σ : Store) : ACalls Tryz.prog 17 [.lit (.int .i64 n), .lit (.int .i32 s)] σ fun v σ' => v = .lit (.int .i64 (codeZ n s)) ∧ σ' = σ := by
  have hrs := fun τ (b : UInt8) => rsign_calls n hn b τ
  simp only [byteA] at hrs
  refine ACalls.of_awp follows (st := st17) (plans := pl17) (n := 17) Tryz.func17 rfl (by kernel_rfl) (by kernel_rfl) (by kernel_rfl) ?_
  simp
  refine codeK.loop follows (st := st17) (plans := pl17) (X := Nat) (fun c => c ≤ 256 ∧ ∀ j, codeIx n s = some j → c ≤ j)
    (fun c => [(0, .lit (.int .i64 n)), (1, .lit (.int .i32 s)), (5, .lit (.int .i64 c))]) (fun _ => σ) (fun c => 256 - c) 0 (by kernel_rfl) ⟨by simp, by simp⟩ (by simp) (Store.sub_refl _) fun c hc => ?_
  obtain ⟨hc, hj⟩ := hc
  by_cases hlt : c < 256
  · have hlt' : (c : Int) < 256 := by omega
    have hw1 : IntKind.i64.wrap ((c : Int) + 1) = ((c + 1 : Nat) : Int) := wrap_i64 (by omega) (by omega)
    have hwc : IntKind.u8.wrap (c : Int) = (c : Int) := wrap_u8 (by omega) (by omega)
    have hcn : (UInt8.ofNat c).toNat = c := by simp; omega
    have hr := fun τ => hrs τ (UInt8.ofNat c)
    rw [hcn] at hr
    simp [hlt', hwc]
    refine callK.of (hr _) ?_
    rintro v τ ⟨rfl, rfl⟩
    by_cases he : ((sgF n c : Nat) : Int) = s
    · have hix : codeIx n s = some c := by
        cases hx : codeIx n s with
        | none => exact absurd he (codeIx_none hx c hlt)
        | some j =>
          have h1 := hj j hx
          rcases Nat.lt_or_ge c j with h2 | h2
          · exact absurd he (codeIx_first hx c h2)
          · rw [show j = c from by omega]
      have hz : codeZ n s = (c : Nat) := by unfold codeZ; rw [hix]
      rw [hz]
      simp [he]
    · simp [he]
      refine ⟨c + 1, ⟨by omega, fun j hx => ?_⟩, by omega, by rw [hw1]; exact AV.le_refl _⟩
      have h1 := hj j hx
      have h2 := (codeIx_lt hx).2
      rcases Nat.lt_or_ge c j with h3 | h3
      · exact h3
      · exact absurd (by rw [show c = j from by omega]; exact h2) he
  · obtain rfl : c = 256 := by omega
    have hz : codeZ n s = -1 := by
      unfold codeZ
      cases hx : codeIx n s with
      | none => rfl
      | some j => have := hj j hx; have := (codeIx_lt hx).1; omega
    rw [hz]
    simp
end Go.Proofs.YtlmdbcgceijlnaaGreat
/-
  KeysType: the walk.
-/
namespace Go.Proofs.YtlmdbcgceijlnaaGreat
open Go Go.AL Go.Sp
variable {σ : Store} {k q r b : Nat} {n : Int} {B : Bd}

def cutS (s : ByteArray) (m : Nat) : ByteArray := if m < s.size then s.extract 0 m else s
theorem cutS_size (s : ByteArray) (m : Nat) : (cutS s m).size ≤ m := by
  unfold cutS
  split
  · simp only [ByteArray.size_extract]; omega
  · omega
set_option maxRecDepth 8000 in
theorem cut_calls (s : ByteArray) (m : Nat) (hm : m < 1000) (σ : Store) : ACalls Tryz.prog 15 [.lit (.string s), .lit (.int .i64 m)] σ fun v σ' => v = .lit (.string (cutS s m)) ∧ σ' = σ := by
  refine ACalls.of_awp follows (st := st15) (plans := pl15) (n := 13) Tryz.func15 rfl (by kernel_rfl) (by kernel_rfl) (by kernel_rfl) ?_
  unfold cutS
  by_cases h : m < s.size
  · have h' : (m : Int) < s.size := by omega
    have h2 : m ≤ s.size := by omega
    simp [h, h', h2]
  · have h' : ¬ (m : Int) < s.size := by omega
    simp [h, h']
def tyActs (k : Nat) : List Sp.Act := [{ what := 3, n := 0, on := false, code := 0, c := .zero, text := [] }, { what := 3, n := ((k + 1 : Nat) : Int), on := false, code := 0x30, c := .zero, text := [] }, { what := 1, n := 1, on := false, code := 0, c := .zero, text := [] }]
theorem tpd_lays {k : Nat} (h1 : 1 ≤ k) (h20 : k ≤ 20) : Tpd k [] (Sp.lays 0 (tyActs k)) := by
  have hg := Sp.new_good (m := 2) (by omega)
  have hm : (Sp.new 2).model = 2 ∧ (Sp.new 2).alt = false := ⟨rfl, rfl⟩
  have hz : ∀ i, cellAt (Sp.new 2) i = .zero := fun i => by
    unfold cellAt Sp.new Sp.clear
    rw [List.getElem?_replicate]
    split <;> rfl
  have hn : (Sp.new 2).n = 1920 := rfl
  have e : Sp.lays 0 (tyActs k) = (((Sp.new 2).set (0 : Nat) { attr := true, fa := 0 }).set ((k + 1 : Nat) : Int) { attr := true, fa := 0x30 }).place 1 := rfl
  rw [e]
  generalize Sp.new 2 = N0 at *
  have g1 := hg.set (0 : Nat) { attr := true, fa := 0 }
  have g2 := g1.set ((k + 1 : Nat) : Int) { attr := true, fa := 0x30 }
  have hn2 : (((N0.set (0 : Nat) { attr := true, fa := 0 }).set ((k + 1 : Nat) : Int) { attr := true, fa := 0x30 }).place 1).n = 1920 := hn
  have hc : ∀ i, cellAt (((N0.set (0 : Nat) { attr := true, fa := 0 }).set ((k + 1 : Nat) : Int) { attr := true, fa := 0x30 }).place 1) i = if i = k + 1 then { attr := true, fa := 0x30 } else if i = 0 then { attr := true, fa := 0 } else .zero := fun i => by
    show cellAt ((N0.set (0 : Nat) { attr := true, fa := 0 }).set ((k + 1 : Nat) : Int) { attr := true, fa := 0x30 }) i = _
    rw [cellAt_set g1 (by show k + 1 < N0.n; omega), cellAt_set hg (by omega), hz]
    rfl
  have hcur : (((N0.set (0 : Nat) { attr := true, fa := 0 }).set ((k + 1 : Nat) : Int) { attr := true, fa := 0x30 }).place 1).cursor = 1 := by
    show wrap N0.n ((1 : Nat) : Int) = 1
    rw [wrap_of_lt (by omega)]
  have hgp := g2.place 1
  have hmt : (((N0.set (0 : Nat) { attr := true, fa := 0 }).set ((k + 1 : Nat) : Int) { attr := true, fa := 0x30 }).place 1).model = 2 ∧ (((N0.set (0 : Nat) { attr := true, fa := 0 }).set ((k + 1 : Nat) : Int) { attr := true, fa := 0x30 }).place 1).alt = false := hm
  generalize (((N0.set (0 : Nat) { attr := true, fa := 0 }).set ((k + 1 : Nat) : Int) { attr := true, fa := 0x30 }).place 1) = t at *
  have ha : ∀ i, attrAt t.cells i = (cellAt t i).attr := fun _ => rfl
  have hf : ∀ i, fldAt t i = fld (cellAt t i).fa := fun _ => rfl
  refine ⟨h1, h20, hgp, hmt, fun i _ => ?_, ?_, ?_, by simp, fun i hi => ?_, by simp, ?_, ?_⟩
  · rw [ha, hc]
    by_cases h3 : i = k + 1
    · simp [h3]
    · by_cases h4 : i = 0
      · simp [h4]
      · simp [h3, h4, Cell.zero]
  · rw [hf, hc, if_neg (by omega), if_pos rfl]; decide
  · rw [hf, hc, if_pos rfl]; decide
  · rw [hc, if_neg (by omega), if_neg (by omega)]; rfl
  · rw [hcur]; simp
  · rw [if_pos rfl, hc, if_neg (by omega), if_pos rfl]
theorem press_ins (hl : B.lock = 0) : pressB n B ⟨16, 0, 0⟩ = ({ B with ins := !B.ins }, false, 0) := by
  unfold pressB
  rw [if_neg (by simp), if_neg (by simp), if_neg (by simp [hl]), if_neg (by simp), if_neg (by simp [aidN]), if_neg (by simp), if_neg (by simp [movK])]
  simp [enteredB]
theorem good_code (n sg : Int) : (codeZ n sg < 64 ∨ 254 < codeZ n sg) ∧ goodC n sg = false ∨ (64 ≤ codeZ n sg ∧ codeZ n sg ≤ 254) ∧ goodC n sg = true ∧ codeZ n sg = ((codeU n sg).toNat : Int) := by
  unfold codeZ goodC codeU
  cases hx : codeIx n sg with
  | none => left; exact ⟨.inl (by decide), rfl⟩
  | some j =>
    have hj := (codeIx_lt hx).1
    have hn : (UInt8.ofNat j).toNat = j := by simp; omega
    simp only [Option.getD_some, Option.isSome_some, Bool.true_and]
    by_cases h1 : 64 ≤ j ∧ j < 255
    · right
      refine ⟨⟨by omega, by omega⟩, ?_, by rw [hn]⟩
      unfold dataB; rw [hn]; simp [h1.1, h1.2]
    · left
      refine ⟨by omega, ?_⟩
      unfold dataB; rw [hn]
      by_cases h2 : 64 ≤ j
      · have : ¬ j < 255 := fun h => h1 ⟨h2, h⟩
        simp [this]
      · simp [h2]
structure TyW where
  f : Nat
  pos : Nat
  w : List UInt8
set_option maxHeartbeats 4000000 in
set_option maxRecDepth 8000 in
theorem keysType_law (u : UInt8) (s : ByteArray) (room : UInt8) (ins : Bool) (σ : Store) :
    ACalls Tryz.prog 4 [byteA u, .lit (.string s), byteA room, .lit (.bool ins)] σ fun v _ => v = .lit (.bool true) := by
  have haw := fun τ => awake_calls τ
  have hk : 1 ≤ room.toNat % 20 + 1 ∧ room.toNat % 20 + 1 ≤ 20 := by omega
  have hkw : IntKind.i64.wrap (1 + IntKind.i64.wrap ((room.toNat : Int).tmod 20)) = ((room.toNat % 20 + 1 : Nat) : Int) := by
    have e : (room.toNat : Int).tmod 20 = ((room.toNat % 20 : Nat) : Int) := rfl
    rw [e, wrap_i64 (n := ((room.toNat % 20 : Nat) : Int)) (by omega) (by omega), wrap_i64 (by omega) (by omega)]; omega
  generalize room.toNat % 20 + 1 = kk at *
  have hlay := fun τ => layD_calls 0 u (tyActs kk) (by simp [tyActs]) (by simp [tyActs]) τ
  have hpg := pageN_ok u
  have hT0 := tpd_lays hk.1 hk.2
  have hcs := cutS_size s 60
  have hcut := fun τ => cut_calls s 60 (by omega) τ
  refine ACalls.of_awp follows (st := st4) (plans := pl4) (n := 129) Tryz.func4 rfl (by kernel_rfl) (by kernel_rfl) (by kernel_rfl) ?_
  generalize pageN u = pn at *
  generalize Sp.lays 0 (tyActs kk) = S0 at *
  generalize cutS s 60 = s2 at *
  have hkw2 : IntKind.i64.wrap (1 + (kk : Int)) = ((kk + 1 : Nat) : Int) := by rw [wrap_i64 (by omega) (by omega)]; omega
  have hu := u.toNat_lt
  simp [byteA]
  refine callK.of (haw _) ?_
  rintro v τ ⟨rfl, rfl⟩
  simp [hkw, hkw2]
  refine callK.le (args' := [byteA 0, byteA u, .list false 11 (actsA (tyActs kk))]) ?_ (hlay _) ?_
  · simp [AllLe, tyActs, actsA, actA, actC, cellC, byteA, bytesA, Cell.zero, hkw2]
  rintro v τ ⟨k, q, p, b, c, base, rfl, _, n1, n2, n3, hK0, rfl, xr, yr, hc, _⟩
  have c1 : ¬ c = k := fun e => by subst e; rw [n1] at hc; cases hc
  have c2 : ¬ c = q := fun e => by subst e; rw [n2] at hc; cases hc
  have c3 : ¬ c = b := fun e => by subst e; rw [n3] at hc; cases hc
  unfold rbdO at hc
  have hTB : Tpd kk [] (newB S0).s := hT0
  have hlB : (newB S0).lock = 0 := rfl
  generalize newB S0 = B0 at *
  simp
  refine callK.of (hcut _) ?_
  rintro v τ ⟨rfl, rfl⟩
  simp
  have hi := press_calls hK0 none ⟨16, 0, 0⟩
  rw [press_ins hlB] at hi
  simp only [keyA, keyC] at hi
  cases ins
  case' true =>
    simp
    refine callK.of hi ?_
    rintro v τ ⟨rfl, p1, x1, hK1, nx1, rfl⟩
    have hT1 : Tpd kk [] ({ B0 with ins := !B0.ins } : Bd).s := hTB
    have hl1 : ({ B0 with ins := !B0.ins } : Bd).lock = 0 := hlB
    clear hi
    generalize ({ B0 with ins := !B0.ins } : Bd) = B1 at *
    simp
  case' false =>
    simp
    obtain ⟨p1, hp1⟩ : ∃ p1, p1 = p := ⟨_, rfl⟩
    obtain ⟨x1, hx1⟩ : ∃ x1 : Option Nat, x1 = none := ⟨_, rfl⟩
    have nx1 : NxP base none x1 := .inl hx1
    have hks : kS base k q p b pn none B0 = kS base k q p1 b pn x1 B0 := by rw [hp1, hx1]
    rw [hks]
    clear hks
    have hK1 : KOk base k q p1 b pn B0 := hp1 ▸ hK0
    have hT1 := hTB
    have hl1 := hlB
    clear hi
    generalize B0 = B1 at *
  all_goals
    have hty := type_calls hK1 x1 s2 (by omega)
    have hTy := typed (n := pn) s2 s2.size 0 [] B1 hT1 hl1 (by omega)
    have e0 : (([] : List UInt8).length : Int) = 0 := rfl
    rw [e0] at hTy
    generalize typeF pn s2 s2.size 0 0 B1 = T at *
    refine callK.of hty ?_
    rintro v τ ⟨rfl, r2, x2, hK2, nx2, rfl⟩
    simp
    intro g hg
    have hxg : ¬ x2 = some g := by
      rintro rfl
      simp [kS, pgS] at hg
    have hbg : base (mkey g) = none := by
      cases x2 with
      | none => simpa [kS, pgS, putS] using hg
      | some p =>
        have hp : ¬ g = p := fun e => hxg (by rw [e])
        simpa [kS, pgS, putS, hp] using hg
    rw [kS_mput hxg]
    have hrd : ∀ pos, (kS (base.put g (iterA s2 pos)) k q r2 b pn x2 T.1) (mkey g) = some (iterA s2 pos) := fun pos => by
      rw [← kS_mput hxg]; simp
    have hput : ∀ pos A2, (kS (base.put g (iterA s2 pos)) k q r2 b pn x2 T.1).put g A2 = kS (base.put g A2) k q r2 b pn x2 T.1 := fun pos A2 => by
      rw [kS_mput hxg]
      congr 1
      refine Store.ext2 (fun o => by simp) (fun i => ?_)
      by_cases e : i = g <;> simp [e]
    have hcc : ∀ pos, (kS (base.put g (iterA s2 pos)) k q r2 b pn x2 T.1) c = some [ptrA xr, .lit (.int .i64 pn), .lit (.int .i64 0), .lit (.bool false), byteA 96] := fun pos =>
      kS_base (hK2.mput g _) x2 (by simpa using hc) c1 c2 c3
    have hdrop : ∀ pos, Store.sub (kS base k q r2 b pn x2 T.1) (kS (base.put g (iterA s2 pos)) k q r2 b pn x2 T.1) := fun pos => kS_mdrop hxg hbg _
    have hrc := fun τ sg => rcode_calls pn hpg sg τ
    have hW : wantF pn kk s2 s2.size 0 [] = wantF pn kk s2 s2.size 0 [] := rfl
    generalize hWW : wantF pn kk s2 s2.size 0 [] = W at hTy hW
    have hat := fun j => at_calls (kS_prg hK2 x2) j
    have hgd := hK2.good
    clear hty hK2 nx2 hK1 nx1 hlay haw hcut
    obtain ⟨B2, N2, e2⟩ := T
    dsimp only at *
    refine codeK.cut (fun e A σ' => e = .exit 0 ∧ LeL A [(9, .lit (.int .i64 kk)), (11, ptrA q), (13, .lit (.int .i64 N2)), (14, .lit (.int .i64 e2)), (15, .list true 1 (bytesA W))] ∧ Store.sub (kS base k q r2 b pn x2 B2) σ') ?_ ?_
    · refine codeK.loop follows (st := st4) (plans := pl4) (X := TyW) (fun y => s2.size ≤ y.pos + y.f ∧ y.w.length ≤ kk ∧ wantF pn kk s2 y.f y.pos y.w = W)
        (fun y => [(9, .lit (.int .i64 kk)), (11, ptrA q), (12, ptrA c), (13, .lit (.int .i64 N2)), (14, .lit (.int .i64 e2)), (15, .list true 1 (bytesA y.w)), (16, .lit (.int .i64 0)), (52, .lit (.pointer (some ⟨g, 0, none⟩)))])
        (fun y => kS (base.put g (iterA s2 y.pos)) k q r2 b pn x2 B2) (fun y => s2.size - y.pos) ⟨s2.size, 0, []⟩ (by kernel_rfl) ⟨by simp, by simp, hWW⟩ (by simp [bytesA]) (Store.sub_refl _) fun y hy => ?_
      obtain ⟨f, pos, w⟩ := y
      obtain ⟨h1, h2, h3⟩ := hy
      dsimp only at h1 h2 h3 ⊢
      have hr := hrd pos
      have hp := hput pos
      have hc0 := hcc
      by_cases hlt : pos < s2.size
      · have hw := widthK_pos s2 pos hlt
        obtain ⟨f, rfl⟩ : ∃ f', f = f' + 1 := ⟨f - 1, by omega⟩
        unfold wantF at h3
        rcases good_code pn ((Utf8.decode s2 pos).1 : Nat) with ⟨g1, g2⟩ | ⟨⟨g1, g1'⟩, g2, g3⟩
        · rw [if_neg (by rw [g2]; simp)] at h3
          have hc1 := hcc (pos + (Utf8.decode s2 pos).2)
          have hrc1 := fun τ => hrc τ ((Utf8.decode s2 pos).1 : Nat)
          have hdr1 := hdrop (pos + (Utf8.decode s2 pos).2)
          generalize codeZ pn ((Utf8.decode s2 pos).1 : Nat) = cz at *
          simp [hr, hlt, hp, hc1]
          refine callK.of (hrc1 _) ?_
          rintro v τ ⟨rfl, rfl⟩
          rcases g1 with g1 | g1
          · simp [g1, h3]
            exact hdr1
          · have g1n : ¬ cz < 64 := by omega
            simp [g1, g1n, h3]
            exact hdr1
        · have hc1 := hcc (pos + (Utf8.decode s2 pos).2)
          have hrc1 := fun τ => hrc τ ((Utf8.decode s2 pos).1 : Nat)
          have hdr1 := hdrop (pos + (Utf8.decode s2 pos).2)
          have e1 : ¬ codeZ pn ((Utf8.decode s2 pos).1 : Nat) < 64 := by omega
          have e2' : ¬ 254 < codeZ pn ((Utf8.decode s2 pos).1 : Nat) := by omega
          have hcl := (codeU pn ((Utf8.decode s2 pos).1 : Nat)).toNat_lt
          have hwu : IntKind.u8.wrap (codeZ pn ((Utf8.decode s2 pos).1 : Nat)) = ((codeU pn ((Utf8.decode s2 pos).1 : Nat)).toNat : Int) := by rw [g3]; exact wrap_u8 (by omega) (by omega)
          simp [hr, hlt, hp, hc1]
          refine callK.of (hrc1 _) ?_
          rintro v τ ⟨rfl, rfl⟩
          by_cases hfull : w.length < kk
          · rw [if_pos ⟨hlt, g2, hfull⟩] at h3
            have hf1 : ¬ (kk : Int) ≤ w.length := by omega
            have hf2 : ¬ kk ≤ w.length := by omega
            simp [e1, e2', hf1, hf2, hwu]
            refine ⟨by omega, by omega, ⟨f, pos + (Utf8.decode s2 pos).2, w ++ [codeU pn ((Utf8.decode s2 pos).1 : Nat)]⟩, ⟨by show s2.size ≤ pos + (Utf8.decode s2 pos).2 + f; omega, by simp; omega, h3⟩, by show s2.size - (pos + (Utf8.decode s2 pos).2) < s2.size - pos; omega, ?_, Store.sub_refl _⟩
            rw [bytesA_append]
            exact AV.le_refl _
          · rw [if_neg (by omega)] at h3
            have hf1 : (kk : Int) ≤ w.length := by omega
            have hf2 : kk ≤ w.length := by omega
            have hf3 : kk ≤ W.length := by rw [← h3]; exact hf2
            simp [e1, e2', hf1, hf2, h3, hf3]
            exact hdr1
      · have hw : w = W := by
          rw [← h3]
          cases f with
          | zero => rfl
          | succ f => unfold wantF; rw [if_neg (by omega)]
        rw [hw]
        simp [hr, hlt]
        exact hdrop pos
    rintro e A' σ2 ⟨rfl, hA, hσp⟩
    refine View.leL hA (View.sub hσp (View.here ?_))
    clear hA hσp hrd hput hcc hdrop hrc hW hWW
    generalize kS base k q r2 b pn x2 B2 = ρ at *
    obtain ⟨t1, t2, t3, t4⟩ := hTy
    dsimp only at t1 t2 t3 t4
    obtain ⟨M, hM⟩ : ∃ M, (if (kk : Int) < N2 then (kk : Int) else N2) = M := ⟨_, rfl⟩
    have hM1 : M ≤ N2 ∧ M ≤ kk := by rw [← hM]; split <;> omega
    have hwl := W.length
    have hcases : (¬ e2 = 0) ∨ (e2 = 0 ∧ N2 < kk ∧ (W.length : Int) = N2) ∨ (e2 = 0 ∧ ¬ N2 < kk ∧ N2 = W.length) ∨ (e2 = 0 ∧ ¬ N2 < kk ∧ ¬ N2 = W.length) := by
      by_cases he : e2 = 0
      · by_cases hn : N2 < kk
        · exact .inr (.inl ⟨he, hn, (t1 he hn).symm⟩)
        · by_cases hN : N2 = W.length
          · exact .inr (.inr (.inl ⟨he, hn, hN⟩))
          · exact .inr (.inr (.inr ⟨he, hn, hN⟩))
      · exact .inl he
    rcases hcases with he | ⟨he, hn, hWN⟩ | ⟨he, hn, hN⟩ | ⟨he, hn, hN⟩
    case' inl =>
      have he' : ¬ (0 : Int) = e2 := fun x => he x.symm
      simp [he, he', hM]
    case' inr.inl =>
      simp [he, hn, hWN, hM]
    case' inr.inr.inl =>
      have hn2 : ¬ (W.length : Int) < kk := by omega
      have hM2 : (if kk < W.length then (kk : Int) else (W.length : Int)) = M := by
        rw [← hM]
        split
        · rw [if_pos (by omega)]
        · rw [if_neg (by omega)]; omega
      simp [he, hn, hN, hn2]
      rw [hM2]
    case' inr.inr.inr =>
      have hN' : ¬ (W.length : Int) = N2 := fun x => hN x.symm
      simp [he, hn, hN, hN', hM]
    all_goals
      refine codeK.cut (fun e A σ' => e = .exit 2 ∧ LeL A [(9, .lit (.int .i64 kk)), (11, ptrA q), (13, .lit (.int .i64 N2))] ∧ Store.sub ρ σ') ?_ ?_
      · refine codeK.loop follows (st := st4) (plans := pl4) (X := Nat) (fun i => i ≤ M.toNat)
          (fun i => [(9, .lit (.int .i64 kk)), (11, ptrA q), (13, .lit (.int .i64 N2)), (15, .list true 1 (bytesA W)), (100, .lit (.int .i64 M)), (101, .lit (.int .i64 i))])
          (fun _ => ρ) (fun i => M.toNat - i) 0 (by kernel_rfl) (by simp) (by first | (simp; done) | simp [hN]) (Store.sub_refl _) fun i hi => ?_
        by_cases hlt : (i : Int) < M
        · have hw1 : IntKind.i64.wrap ((i : Int) + 1) = ((i + 1 : Nat) : Int) := wrap_i64 (by omega) (by omega)
          have hw2 : IntKind.i64.wrap (1 + (i : Int)) = ((i + 1 : Nat) : Int) := by rw [wrap_i64 (by omega) (by omega)]; omega
          by_cases hle : N2 ≤ kk
          · obtain ⟨x, hx1, hx2⟩ := t2 hle i (by omega)
            have hca : B2.s.at ((i + 1 : Nat) : Int) = cellAt B2.s (i + 1) := cellAt_at (by have := n_big B2.s; omega)
            have hai := hat ((i + 1 : Nat) : Int)
            rw [hca] at hai
            simp only [cellA_eq, byteA, hx2] at hai
            obtain ⟨hil, hxi⟩ := List.getElem?_eq_some_iff.1 hx1
            have hbx := bytesA_at W i hil
            rw [hxi] at hbx
            simp [hlt, hle, hw2, hil, hbx, byteA]
            repeat' first
              | with_reducible apply And.intro
              | (refine callK.of hai ?_; rintro v σ1 ⟨rfl, rfl⟩; simp [hlt, hle, hw1, hil, hbx, byteA]; exact ⟨i + 1, by omega, by omega, by first | exact AV.le_refl _ | (rw [hw1]; exact AV.le_refl _)⟩)
          · simp [hlt, hle]
            exact ⟨i + 1, by omega, by omega, by rw [hw1]; exact AV.le_refl _⟩
        · simp [hlt]
      rintro e A' σ2 ⟨rfl, hA, hσp⟩
      refine View.leL hA (View.sub hσp (View.here ?_))
      clear hA hσp
      by_cases hle : N2 ≤ kk
      · simp [hle]
        exact ⟨_, Store.sub_refl _⟩
      · have h1 := t3 (by omega)
        have hca : B2.s.at ((0 : Nat) : Int) = cellAt B2.s 0 := cellAt_at (by have := n_big B2.s; omega)
        have hai := hat ((0 : Nat) : Int)
        rw [hca] at hai
        simp only [cellA_eq, byteA, h1] at hai
        simp [hle]
        refine callK.of hai ?_
        rintro v τ ⟨rfl, rfl⟩
        simp
        exact ⟨_, Store.sub_refl _⟩
end Go.Proofs.YtlmdbcgceijlnaaGreat
/-
  Arguments opened.
-/
namespace Go.Proofs.YtlmdbcgceijlnaaGreat
open Go Go.AL Go.Sp
end Go.Proofs.YtlmdbcgceijlnaaGreat
