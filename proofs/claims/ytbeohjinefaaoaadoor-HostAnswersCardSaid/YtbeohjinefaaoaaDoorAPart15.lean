/-
  Does a text begin with the three bytes of U+FFFD?
-/
import Derived.Test.YtbeohjinefaaoaaDoorAPart14
import Derived.Laws.RangeString
import Derived.Laws.RangeAny
set_option linter.unusedSimpArgs false
set_option linter.unusedVariables false
namespace Go.Proofs.YtbeohjinefaaoaaDoor
open Go Go.AL

def fffd : ByteArray := ⟨#[239, 191, 189]⟩
def beg3 (t : ByteArray) : Bool := decide (3 ≤ t.size) && decide (t.extract 0 3 = fffd)
set_option maxRecDepth 8000 in
theorem pfx66_calls (t : ByteArray) (ht : t.size ≤ 9223372036854775807) (σ : Store) : ACalls Tryd.prog 66 [.lit (.string t), .lit (.string ⟨#[239, 191, 189]⟩)] σ fun v σ' => v = .lit (.bool (beg3 t)) ∧ σ' = σ := by
  have h3 : (⟨#[239, 191, 189]⟩ : ByteArray).size = 3 := rfl
  refine ACalls.of_awp follows (st := []) (plans := []) (n := 18) Tryd.func66 rfl (by kernel_rfl) (by kernel_rfl) (by kernel_rfl) ?_
  by_cases h : 3 ≤ t.size
  · have h' : (3 : Int) ≤ t.size := by omega
    have e : ((t.extract 0 3).toList == [239, 191, 189]) = beg3 t := by
      rw [Bool.eq_iff_iff]
      unfold beg3 fffd
      simp [h]
      constructor
      · intro q
        apply ByteArray.ext
        rw [ByteArray.toList_eq] at q
        apply Array.ext'
        exact q
      · intro q
        rw [q, ByteArray.toList_eq]
    simp [h3, h, h', e]
    try exact AV.le_refl _
  · have h' : ¬ (3 : Int) ≤ t.size := by omega
    simp [h3, h, h', beg3]
@[simp] theorem callable66 : callable Tryd.prog 66 = true := nr (by kernel_rfl)
set_option maxRecDepth 8000 in
theorem pfx_calls (t : ByteArray) (ht : t.size ≤ 9223372036854775807) (σ : Store) : ACalls Tryd.prog 54 [.lit (.string t), .lit (.string ⟨#[239, 191, 189]⟩)] σ fun v σ' => v = .lit (.bool (beg3 t)) ∧ σ' = σ := by
  refine ACalls.of_awp follows (st := []) (plans := []) (n := 8) Tryd.func54 rfl (by kernel_rfl) (by kernel_rfl) (by kernel_rfl) ?_
  simp
  refine callK.eq (pfx66_calls t ht _) ?_
  simp
end Go.Proofs.YtbeohjinefaaoaaDoor
/-
  What a page is asked: signs and codes, whether it is built yet or not.
-/
namespace Go.Proofs.YtbeohjinefaaoaaDoor
open Go Go.AL

/-- A page in a store: as it was made, or built. -/
def pgS (b : Nat) (n : Int) (x : Option Nat) (σ : Store) : Store := match x with
  | none => σ.upd b (pgA (.new n))
  | some q => (σ.upd b (pgA (.built n q))).put q (mapA (codesN n 256))
theorem pgS_cell (b : Nat) (n : Int) (x : Option Nat) (σ : Store) : (pgS b n x σ) (b : Int) = some (pgA (match x with | none => .new n | some q => .built n q)) := by
  cases x <;> simp [pgS]
@[simp] theorem callable170' : callable Tryd.prog 80 = false := nr (by kernel_rfl)
theorem ext170 (b i : Nat) (d : Int) (cs : List AV) (σ : Store) (hb : σ b = some cs) (hi : cs[i]? = some (.lit (.int .u32 d))) : AExt Tryd.prog 80 [.lit (.pointer (some ⟨b, i, none⟩))] σ fun v σ' => v = .lit (.int .u32 d) ∧ σ' = σ := by
  intro D G w cargs hl hargs hW
  obtain ⟨c0, rfl⟩ : ∃ c0, cargs = #[c0] := ⟨cargs[0]'(by simp at hl; omega), by
    apply Array.ext
    · simpa using hl.symm
    · intro i h1 h2
      match i with
      | 0 => rfl
      | _ + 1 => simp at h2⟩
  have h0 := (hargs 0 _ c0 rfl rfl).lit_eq rfl
  subst h0
  obtain ⟨d1, _⟩ := obj_cell hW hb hi
  exact ⟨_, _, run_call_load (P := Tryd.prog) Tryd.func80 (by kernel_rfl) (by kernel_rfl) (by kernel_rfl) .u32 (by kernel_rfl) d1, rfl, .lit _, rfl, rfl⟩
set_option maxRecDepth 8000 in
theorem oload_calls (b : Nat) (d : Int) (cs : List AV) (σ : Store) (hb : σ b = some cs) (hi : cs[1]? = some (.lit (.int .u32 d))) : ACalls Tryd.prog 77 [.lit (.pointer (some ⟨b, 1, none⟩))] σ fun v σ' => v = .lit (.bool (d != 0)) ∧ σ' = σ := by
  refine ACalls.of_awp follows (st := st77) (plans := pl77) (n := 8) Tryd.func77 rfl (by kernel_rfl) (by kernel_rfl) (by kernel_rfl) ?_
  simp
  refine extK.of (ext170 b 1 d cs σ hb hi) ?_
  rintro v σ1 ⟨rfl, rfl⟩
  simp
/-- The page's map is the one it had, or a new one. -/
def NxP (σ : Store) (x x' : Option Nat) : Prop := x' = x ∨ ∃ g, x' = some g ∧ σ (mkey g) = none
theorem NxP.trans {σ : Store} {x y z : Option Nat} (h : NxP σ x y) (k : NxP σ y z) : NxP σ x z := by
  rcases k with rfl | k
  · exact h
  · exact .inr k
set_option maxRecDepth 8000 in
theorem odo_calls (b : Nat) (n : Int) (hn : isPage n) (x : Option Nat) (σ : Store) : ACalls Tryd.prog 72 [.lit (.pointer (some ⟨b, 1, none⟩)), .func (.func 73) [pgP b] []] (pgS b n x σ) fun v σ' => v = .tuple [] ∧ ∃ q, NxP σ x (some q) ∧ σ' = pgS b n (some q) σ := by
  refine ACalls.of_awp follows (st := st72) (plans := pl72) (n := 12) Tryd.func72 rfl (by kernel_rfl) (by kernel_rfl) (by kernel_rfl) ?_
  cases x with
  | none =>
    have hl := oload_calls b 0 _ (pgS b n none σ) (pgS_cell b n none σ) rfl
    have hs := slow_calls b n hn (pgS b n none σ) (pgS_cell b n none σ)
    simp
    refine callK.of hl ?_
    rintro v σ1 ⟨rfl, rfl⟩
    simp
    refine callK.of hs ?_
    rintro v σ1 ⟨rfl, q, hq, rfl⟩
    simp
    refine ⟨_, AV.le_refl _, _, Store.sub_refl _, rfl, q, .inr ⟨q, rfl, by simpa [pgS] using hq⟩, ?_⟩
    unfold pgS
    dsimp only
    rw [supd_supd]
  | some q =>
    have hl := oload_calls b 1 _ (pgS b n (some q) σ) (pgS_cell b n (some q) σ) rfl
    simp
    refine callK.of hl ?_
    rintro v σ1 ⟨rfl, rfl⟩
    simp
    exact ⟨_, AV.le_refl _, _, Store.sub_refl _, rfl, q, .inl rfl, rfl⟩
set_option maxRecDepth 8000 in
theorem built_calls (b : Nat) (n : Int) (hn : isPage n) (x : Option Nat) (σ : Store) : ACalls Tryd.prog 63 [pgP b] (pgS b n x σ) fun v σ' => v = pgP b ∧ ∃ q, NxP σ x (some q) ∧ σ' = pgS b n (some q) σ := by
  refine ACalls.of_awp follows (st := st63) (plans := pl63) (n := 10) Tryd.func63 rfl (by kernel_rfl) (by kernel_rfl) (by kernel_rfl) ?_
  simp
  refine callK.of (odo_calls b n hn x σ) ?_
  rintro v σ1 ⟨rfl, q, nx, rfl⟩
  simp
  exact ⟨_, AV.le_refl _, _, Store.sub_refl _, rfl, q, nx, rfl⟩
set_option maxRecDepth 8000 in
theorem sign_calls (b : Nat) (n : Int) (hn : isPage n) (x : Option Nat) (c : UInt8) (σ : Store) : ACalls Tryd.prog 48 [pgP b, byteA c] (pgS b n x σ) fun v σ' => v = .lit (.int .i32 ((sgF n c.toNat : Nat) : Int)) ∧ ∃ q, NxP σ x (some q) ∧ σ' = pgS b n (some q) σ := by
  have hc := c.toNat_lt
  refine ACalls.of_awp follows (st := st48) (plans := pl48) (n := 14) Tryd.func48 rfl (by kernel_rfl) (by kernel_rfl) (by kernel_rfl) ?_
  simp [byteA]
  refine callK.of (built_calls b n hn x σ) ?_
  rintro v σ1 ⟨rfl, q, nx, rfl⟩
  have hcell := pgS_cell b n (some q) σ
  dsimp only at hcell
  have hl := signsF_length n
  have hg := pgA_sg (p := Pgs.built n q) (i := c.toNat) (by show _ < (signsF n).length; omega)
  have hpl := pgA_length (p := Pgs.built n q) hl
  have e : (Pgs.built n q).sg[c.toNat]'(by show _ < (signsF n).length; omega) = sgF n c.toNat := by
    unfold sgF
    rw [List.getD_eq_getElem?_getD, List.getElem?_eq_getElem (by omega)]
    rfl
  rw [e] at hg
  have hc' : (c.toNat : Int) < 256 := by omega
  simp [hcell, hg, hc']
  exact ⟨_, AV.le_refl _, _, Store.sub_refl _, rfl, q, nx, rfl⟩
set_option maxRecDepth 8000 in
theorem code_calls (b : Nat) (n : Int) (hn : isPage n) (x : Option Nat) (s : Int) (σ : Store) : ACalls Tryd.prog 55 [pgP b, .lit (.int .i32 s)] (pgS b n x σ) fun v σ' => v = .tuple [.lit (.int .u8 (((codeIx n s).getD 0 : Nat) : Int)), .lit (.bool (codeIx n s).isSome)] ∧ ∃ q, NxP σ x (some q) ∧ σ' = pgS b n (some q) σ := by
  refine ACalls.of_awp follows (st := st55) (plans := pl55) (n := 23) Tryd.func55 rfl (by kernel_rfl) (by kernel_rfl) (by kernel_rfl) ?_
  simp
  refine callK.of (built_calls b n hn x σ) ?_
  rintro v σ1 ⟨rfl, q, nx, rfl⟩
  have hcell := pgS_cell b n (some q) σ
  dsimp only at hcell
  have hpl := pgA_length (p := Pgs.built n q) (signsF_length n)
  have hcd := pgA_cd (p := Pgs.built n q) (signsF_length n)
  have e : (Pgs.built n q).cd = .lit (.map (some q)) := rfl
  rw [e] at hcd
  have hcd : ∀ h : 260 < (pgA (.built n q)).length, (pgA (.built n q))[260]'h = .lit (.map (some q)) := fun h => by
    rw [List.getElem?_eq_getElem h] at hcd
    exact Option.some.inj hcd
  have hmap : (pgS b n (some q) σ) (mkey q) = some (mapA (codesN n 256)) := by simp [pgS]
  have hget := get_codes Tryd.prog 5 n s zeroV85_5
  simp [hcell, hpl, hcd, hmap, hget]
  cases hx : codeIx n s with
  | none =>
    simp
    exact ⟨_, AV.le_refl _, _, Store.sub_refl _, rfl, q, nx, rfl⟩
  | some j =>
    simp
    exact ⟨_, AV.le_refl _, _, Store.sub_refl _, rfl, q, nx, rfl⟩
set_option maxRecDepth 8000 in
theorem page_new (n : Int) (hn : isPage n) (σ : Store) : ACalls Tryd.prog 7 [.lit (.int .i64 n)] σ fun v σ' => ∃ b : Nat, σ b = none ∧ v = .tuple [pgP b, .lit (.int .i64 0)] ∧ σ' = pgS b n none σ := by
  have hoth := fun τ => others_calls n τ
  rw [decide_eq_true hn] at hoth
  refine ACalls.of_awp follows (st := st7) (plans := pl7) (n := 16) Tryd.func7 rfl (by kernel_rfl) (by kernel_rfl) (by kernel_rfl) ?_
  simp
  refine callK.of (hoth _) ?_
  rintro v σ1 ⟨rfl, rfl⟩
  have hpl := pgA_new_length 0
  have hset := pgA_new_set n
  have hpl2 := pgA_new_length n
  simp [hpl, hset]
  intro b hb
  exact ⟨_, AV.le_refl _, _, Store.sub_refl _, b, hb, rfl, rfl⟩
end Go.Proofs.YtbeohjinefaaoaaDoor
/-
  The document's sign of a code, and the code of a sign.
-/
namespace Go.Proofs.YtbeohjinefaaoaaDoor
open Go Go.AL

theorem numS_le {s : ByteArray} (h : s.size ≤ 4) : numS s ≤ 1200000 := numTo_le s _ h
theorem mk_base (a : Array UInt8) (h : a = rbaseL.toArray) : ByteArray.mk a = toB rbaseL := by rw [h]; rfl
theorem wrap32 {x : Int} (h0 : 0 ≤ x) (h1 : x ≤ 2147483647) : IntKind.i32.wrap x = x := by
  unfold IntKind.wrap
  simp [IntKind.bits, IntKind.signed]
  omega
theorem nums_calls (s : ByteArray) (hs : s.size ≤ 4) (σ : Store) : ACalls Tryd.prog 50 [.lit (.string s)] σ fun v σ' => v = .lit (.int .i64 (numS s : Nat)) ∧ σ' = σ := num_calls s hs σ
set_option maxRecDepth 8000 in
theorem rsign_calls (n : Int) (hn : isPage n) (b : UInt8) (σ : Store) : ACalls Tryd.prog 31 [.lit (.int .i64 n), byteA b] σ fun v σ' => v = .lit (.int .i32 (sgF n b.toNat : Nat)) ∧ σ' = σ := by
  have hro := fun τ => roth_calls n hn τ
  obtain ⟨ho1, ho2, ho3⟩ := hex_oth hn
  have hb := b.toNat_lt
  have hrs := rsign_eq hn hb
  unfold rsign at hrs
  have hnum := fun τ s h => nums_calls s h τ
  have hat := fun c h => hex6_at c (rothL n) h
  have hpt := fun i m h => numS_part (rothL n) i m h
  rw [ho1] at hat
  have hsz := toB_size (rothL n)
  refine ACalls.of_awp follows (st := st31) (plans := pl31) (n := 46) Tryd.func31 rfl (by kernel_rfl) (by kernel_rfl) (by kernel_rfl) ?_
  generalize rothL n = L at *
  generalize othersF n = O at *
  simp [byteA]
  refine callK.of (hro _) ?_
  rintro v τ ⟨rfl, rfl⟩
  simp
  refine codeK.loop follows (st := st31) (plans := pl31) (X := Nat) (fun j => j ≤ O.length ∧ (((O.drop j).find? (fun o => o.1 == b.toNat)).map (·.2)).getD (baseL.getD b.toNat 0) = sgF n b.toNat)
    (fun j => [(1, byteA b), (5, .lit (.string (toB L))), (7, .lit (.int .i64 (6 * j : Nat)))]) (fun _ => τ) (fun j => O.length - j) 0 (by kernel_rfl) ⟨by simp, hrs⟩ (by simp [byteA]) (Store.sub_refl _) fun j hj => ?_
  obtain ⟨hjl, hres⟩ := hj
  by_cases hlt : j < O.length
  · have h6 : 6 * j + 6 ≤ L.length := by omega
    have ha := hat j h6
    obtain ⟨p1, p2⟩ := hpt (6 * j) 2 (by omega)
    obtain ⟨q1, q2⟩ := hpt (6 * j + 2) 4 (by omega)
    have hnx : (((O.drop (j + 1)).find? (fun o => o.1 == b.toNat)).map (·.2)).getD (baseL.getD b.toNat 0) = if O[j].1 = b.toNat then (((O.drop (j + 1)).find? (fun o => o.1 == b.toNat)).map (·.2)).getD (baseL.getD b.toNat 0) else sgF n b.toNat := by
      split
      · rfl
      · next hne =>
        rw [List.drop_eq_getElem_cons hlt, List.find?_cons_of_neg (by simpa using hne)] at hres
        exact hres
    have hhit : O[j].1 = b.toNat → O[j].2 = sgF n b.toNat := fun he => by
      rw [List.drop_eq_getElem_cons hlt, List.find?_cons_of_pos (by simpa using he)] at hres
      exact hres
    rw [List.getElem?_eq_getElem hlt] at ha
    have ha := Option.some.inj ha
    have k1 : numS ((toB L).extract (6 * j) (6 * j + 2)) = O[j].1 := by rw [p2, ha]
    have k2 : numS ((toB L).extract (6 * j + 2) (6 * j + 6)) = O[j].2 := by
      have e : 6 * j + 6 = 6 * j + 2 + 4 := by omega
      rw [e, q2, ha]
    have q1' : ((toB L).extract (6 * j + 2) (6 * j + 6)).size = 4 := by
      have e : 6 * j + 6 = 6 * j + 2 + 4 := by omega
      rw [e, q1]
    have hn1 := hnum τ _ (by rw [p1]; omega : ((toB L).extract (6 * j) (6 * j + 2)).size ≤ 4)
    have hn2 := hnum τ _ (by rw [q1']; omega : ((toB L).extract (6 * j + 2) (6 * j + 6)).size ≤ 4)
    have hle2 := numS_le (by rw [q1']; omega : ((toB L).extract (6 * j + 2) (6 * j + 6)).size ≤ 4)
    rw [k1] at hn1
    rw [k2] at hn2 hle2
    have h6j : 6 * (j + 1) = 6 * j + 6 := by omega
    generalize hi : 6 * j = i at hn1 hn2 hle2 h6 h6j ⊢
    have hlt' : i < (toB L).size := by omega
    have hltI : (i : Int) < ((toB L).size : Int) := by omega
    have s2 : i + 2 ≤ (toB L).size := by omega
    have s6 : i + 6 ≤ (toB L).size := by omega
    have t2 : ((i : Int) + 2).toNat = i + 2 := by omega
    have t6 : ((i : Int) + 6).toNat = i + 6 := by omega
    have g2 : (0 : Int) ≤ (i : Int) + 2 := by omega
    have g6 : (0 : Int) ≤ (i : Int) + 6 := by omega
    have l6 : i + 2 ≤ i + 6 := by omega
    have hw2 : IntKind.i64.wrap ((i : Int) + 2) = (i : Int) + 2 := wrap_i64 (by omega) (by omega)
    have hw6 : IntKind.i64.wrap ((i : Int) + 6) = (i : Int) + 6 := wrap_i64 (by omega) (by omega)
    have hwb : IntKind.i64.wrap (b.toNat : Int) = (b.toNat : Int) := wrap_i64 (by omega) (by omega)
    simp [hlt', hltI, hw2, hw6, byteA, s2, s6, t2, t6, g2, g6, l6]
    refine callK.of hn1 ?_
    rintro v τ ⟨rfl, rfl⟩
    generalize hO1 : O[j].1 = o1 at *
    by_cases he : o1 = b.toNat
    · have hv := hhit he
      simp [he, hlt', hltI, hw2, hw6, byteA, s2, s6, t2, t6, g2, g6, l6, hwb]
      refine callK.of hn2 ?_
      rintro v τ ⟨rfl, rfl⟩
      have hwi : IntKind.i32.wrap (O[j].2 : Int) = (sgF n b.toNat : Nat) := by rw [wrap32 (by omega) (by omega), hv]
      simp [hwi]
    · have he' : ¬ (o1 : Int) = (b.toNat : Int) := by omega
      rw [if_neg he] at hnx
      simp [he, he', hwb, hw6]
      refine ⟨j + 1, ⟨by omega, hnx⟩, by omega, ?_⟩
      rw [show (6 * ((j + 1 : Nat) : Int)) = (i : Int) + 6 from by omega]
      exact AV.le_refl _
  · have hb4 : 4 * b.toNat + 4 ≤ rbaseL.length := by
      have : rbaseL.length = 1024 := by decide +kernel
      omega
    obtain ⟨p1, p2⟩ := numS_part rbaseL (4 * b.toNat) 4 hb4
    have h4 := hex4_at b.toNat rbaseL hb4
    rw [hex_base] at h4
    rw [List.drop_eq_nil_of_le (by omega)] at hres
    have hv : baseL.getD b.toNat 0 = sgF n b.toNat := hres
    rw [List.getD_eq_getElem?_getD, h4] at hv
    have hv : numS ((toB rbaseL).extract (4 * b.toNat) (4 * b.toNat + 4)) = sgF n b.toNat := by rw [p2]; exact hv
    have hnl : ¬ (6 * (j : Int)) < ((toB L).size : Int) := by omega
    have hn1 := hnum τ _ (by rw [p1]; omega : ((toB rbaseL).extract (4 * b.toNat) (4 * b.toNat + 4)).size ≤ 4)
    have hle := numS_le (by rw [p1]; omega : ((toB rbaseL).extract (4 * b.toNat) (4 * b.toNat + 4)).size ≤ 4)
    rw [hv] at hn1 hle
    have hwb : IntKind.i64.wrap (b.toNat : Int) = (b.toNat : Int) := wrap_i64 (by omega) (by omega)
    have hw4 : IntKind.i64.wrap (4 * (b.toNat : Int)) = 4 * (b.toNat : Int) := wrap_i64 (by omega) (by omega)
    have hw8 : IntKind.i64.wrap (4 * (b.toNat : Int) + 4) = 4 * (b.toNat : Int) + 4 := wrap_i64 (by omega) (by omega)
    simp [hnl, byteA, hwb, hw4, hw8]
    rw [mk_base]
    rotate_left
    · kernel_rfl
    have hsB := toB_size rbaseL
    have g0 : (0 : Int) ≤ 4 * (b.toNat : Int) := by omega
    have g4 : (0 : Int) ≤ 4 * (b.toNat : Int) + 4 := by omega
    have t0 : (4 * (b.toNat : Int)).toNat = 4 * b.toNat := by omega
    have t4 : (4 * (b.toNat : Int) + 4).toNat = 4 * b.toNat + 4 := by omega
    have l4 : 4 * b.toNat ≤ 4 * b.toNat + 4 ∧ 4 * b.toNat + 4 ≤ (toB rbaseL).size := by omega
    rw [if_pos g0, if_pos g4, t0, t4]
    dsimp only
    rw [if_pos l4]
    have hwi : IntKind.i32.wrap ((sgF n b.toNat : Nat) : Int) = (sgF n b.toNat : Nat) := wrap32 (by omega) (by omega)
    simp
    refine callK.of hn1 ?_
    rintro v τ ⟨rfl, rfl⟩
    simp [hwi]
/-- A sign's code, or none. -/
def codeZ (n s : Int) : Int := match codeIx n s with | some j => (j : Nat) | none => -1
end Go.Proofs.YtbeohjinefaaoaaDoor
/-
  A text's codes: the document's.
-/
namespace Go.Proofs.YtbeohjinefaaoaaDoor
open Go Go.AL

theorem widthK_pos (s : ByteArray) (pos : Nat) (h : pos < s.size) : 1 ≤ (Utf8.decode s pos).2 := by
  by_cases ha : (s[pos]'h).toNat < 128
  · rw [decode_ascii s pos h ha]
    exact Nat.le_refl _
  · exact (decode_high s pos h (by omega)).2
theorem sub_put {σ : Store} {g : Nat} (h : σ (mkey g) = none) (X : List AV) : Store.sub σ (σ.put g X) :=
  Store.sub2 (fun o => .inr (by simp)) (fun i => by
    by_cases e : i = g
    · subst e; exact .inl h
    · right; simp [e])
def codesF (n : Int) (t : ByteArray) : Nat → Nat → List UInt8 → List UInt8 × Nat
  | 0, _, acc => (acc, 0)
  | f + 1, pos, acc => if pos < t.size then
      (if (Utf8.decode t pos).1 = 65533 ∧ beg3 (t.extract pos t.size) = false then ([], 4)
       else match codeIx n ((Utf8.decode t pos).1 : Nat) with
        | none => ([], 12)
        | some j => codesF n t f (pos + (Utf8.decode t pos).2) (acc ++ [UInt8.ofNat j]))
    else (acc, 0)
structure CdSt where
  f : Nat
  pos : Nat
  acc : List UInt8
end Go.Proofs.YtbeohjinefaaoaaDoor
/-
  A text's codes by a page.
-/
namespace Go.Proofs.YtbeohjinefaaoaaDoor
open Go Go.AL

theorem pgS_mkey {b g : Nat} {n : Int} {x : Option Nat} {σ : Store} (hx : ¬ x = some g) : (pgS b n x σ) (mkey g) = σ (mkey g) := by
  cases x with
  | none => simp [pgS]
  | some p =>
    have hp : ¬ g = p := fun e => hx (by rw [e])
    simp [pgS, hp]
theorem pgS_mput {b g : Nat} {n : Int} {x : Option Nat} {σ : Store} (hx : ¬ x = some g) (X : List AV) : (pgS b n x σ).put g X = pgS b n x (σ.put g X) := by
  cases x with
  | none => exact Store.ext2 (fun o => by simp [pgS]) (fun i => by simp [pgS])
  | some p =>
    have hp : ¬ g = p := fun e => hx (by rw [e])
    refine Store.ext2 (fun o => by simp [pgS]) (fun i => ?_)
    by_cases e : i = g
    · subst e; simp [pgS, hp]
    · simp [pgS, e]
theorem pgS_mdrop {b g : Nat} {n : Int} {x : Option Nat} {σ : Store} (hx : ¬ x = some g) (hg : σ (mkey g) = none) (X : List AV) : Store.sub (pgS b n x σ) (pgS b n x (σ.put g X)) := by
  rw [← pgS_mput hx]
  exact sub_put (by rw [pgS_mkey hx]; exact hg) X
structure CpSt where
  f : Nat
  pos : Nat
  acc : List UInt8
  x : Option Nat
set_option maxHeartbeats 1000000 in
set_option maxRecDepth 8000 in
theorem pcodes_calls (b : Nat) (n : Int) (hn : isPage n) (x : Option Nat) (t : ByteArray) (ht : t.size ≤ 1000000) (σ : Store) : ACalls Tryd.prog 34 [pgP b, .lit (.string t)] (pgS b n x σ) fun v σ' =>
    (∃ k : Int, v = .tuple [.list true 1 (bytesA (codesF n t t.size 0 []).1), .lit (.int .i64 k), .lit (.int .i64 (codesF n t t.size 0 []).2)]) ∧ ∃ x', NxP σ x x' ∧ σ' = pgS b n x' σ := by
  generalize hT : codesF n t t.size 0 [] = T at *
  refine ACalls.of_awp follows (st := st34) (plans := pl34) (n := 48) Tryd.func34 rfl (by kernel_rfl) (by kernel_rfl) (by kernel_rfl) ?_
  simp
  intro g hg
  have hxg : ¬ x = some g := by
    rintro rfl
    simp [pgS] at hg
  have hσg : σ (mkey g) = none := by rw [pgS_mkey hxg] at hg; exact hg
  rw [pgS_mput hxg]
  refine codeK.loop follows (st := st34) (plans := pl34) (X := CpSt) (fun y => t.size - y.pos ≤ y.f ∧ y.acc.length ≤ y.pos ∧ NxP σ x y.x ∧ ¬ y.x = some g ∧ codesF n t y.f y.pos y.acc = T)
    (fun y => [(0, pgP b), (1, .lit (.string t)), (7, .list true 1 (bytesA y.acc)), (15, .lit (.pointer (some ⟨g, 0, none⟩)))]) (fun y => pgS b n y.x (σ.put g (iterA t y.pos))) (fun y => t.size - y.pos) ⟨t.size, 0, [], x⟩ (by kernel_rfl) ⟨by simp, by simp, .inl rfl, hxg, by simpa using hT⟩ (by simp [bytesA_nil]) (Store.sub_refl _) fun y hy => ?_
  obtain ⟨f, pos, acc, x1⟩ := y
  obtain ⟨h1, h2, hnx, hx1, hTy⟩ := hy
  dsimp only at h1 h2 hnx hx1 hTy ⊢
  have hread : (pgS b n x1 (σ.put g (iterA t pos))) (mkey g) = some (iterA t pos) := by rw [pgS_mkey hx1]; simp
  have hput : ∀ A2, (pgS b n x1 (σ.put g (iterA t pos))).put g A2 = pgS b n x1 (σ.put g A2) := fun A2 => by
    rw [pgS_mput hx1]
    congr 1
    refine Store.ext2 (fun o => by simp) (fun i => ?_)
    by_cases e : i = g <;> simp [e]
  by_cases hlt : pos < t.size
  · have hw := widthK_pos t pos hlt
    obtain ⟨f, rfl⟩ : ∃ f', f = f' + 1 := ⟨f - 1, by omega⟩
    rw [codesF, if_pos hlt] at hTy
    have hcc := code_calls b n hn x1 ((Utf8.decode t pos).1 : Nat) (σ.put g (iterA t (pos + (Utf8.decode t pos).2)))
    have hpf := fun τ => pfx_calls (t.extract pos t.size) (by rw [ByteArray.size_extract]; omega) τ
    have nx2 : ∀ q, NxP (σ.put g (iterA t (pos + (Utf8.decode t pos).2))) x1 (some q) → NxP σ x (some q) ∧ ¬ (some q : Option Nat) = some g := fun q hq => by
      rcases hq with e | ⟨g2, e, hg2⟩
      · rw [e]; exact ⟨hnx, hx1⟩
      · have e2 : q = g2 := Option.some.inj e
        subst e2
        have ne : ¬ q = g := by rintro rfl; simp at hg2
        exact ⟨hnx.trans (.inr ⟨q, rfl, by simpa [ne] using hg2⟩), fun e => ne (Option.some.inj e)⟩
    generalize hdec : (Utf8.decode t pos).1 = r at *
    by_cases hr : r = 65533
    · have hr' : (r : Int) = 65533 := by omega
      have hle : pos ≤ t.size := by omega
      simp [hread, hput, hlt, hdec, hr, hr', hle]
      refine callK.eq (hpf _) ?_
      cases hb : beg3 (t.extract pos t.size)
      · rw [if_pos ⟨hr, hb⟩] at hTy
        rw [← hTy]
        simp [bytesA_nil]
        exact ⟨_, AV.le_refl _, _, pgS_mdrop hx1 hσg _, ⟨_, rfl⟩, x1, hnx, rfl⟩
      · rw [if_neg (fun e => by rw [hb] at e; cases e.2)] at hTy
        subst hr
        simp
        refine callK.of hcc ?_
        rintro v τ ⟨rfl, q, hq, rfl⟩
        obtain ⟨a1, a2⟩ := nx2 q hq
        cases hcx : codeIx n (65533 : Nat) with
        | none =>
          rw [hcx] at hTy
          simp only at hTy
          rw [← hTy]
          simp [bytesA_nil]
          exact ⟨_, AV.le_refl _, _, pgS_mdrop a2 hσg _, ⟨_, rfl⟩, some q, a1, rfl⟩
        | some j =>
          obtain ⟨j1, _⟩ := codeIx_lt hcx
          rw [hcx] at hTy
          simp only at hTy
          have hj : (j : Int) = ((UInt8.ofNat j).toNat : Int) := by rw [UInt8.toNat_ofNat']; omega
          have hap : bytesA (acc ++ [UInt8.ofNat j]) = bytesA acc ++ [.lit (.int .u8 (j : Int))] := by rw [bytesA_append, hj]; rfl
          simp
          refine ⟨by omega, by omega, ⟨f, pos + (Utf8.decode t pos).2, acc ++ [UInt8.ofNat j], some q⟩, ⟨?_, ?_, a1, a2, hTy⟩, ?_, by rw [hap]; exact AV.le_refl _, Store.sub_refl _⟩
          · show t.size ≤ f + (pos + (Utf8.decode t pos).2); omega
          · show (acc ++ [UInt8.ofNat j]).length ≤ pos + (Utf8.decode t pos).2; simp; omega
          · show t.size - (pos + (Utf8.decode t pos).2) < t.size - pos; omega
    · have hr' : ¬ (r : Int) = 65533 := by omega
      rw [if_neg (fun e => hr e.1)] at hTy
      simp [hread, hput, hlt, hdec, hr, hr']
      refine callK.of hcc ?_
      rintro v τ ⟨rfl, q, hq, rfl⟩
      obtain ⟨a1, a2⟩ := nx2 q hq
      cases hcx : codeIx n (r : Nat) with
      | none =>
        rw [hcx] at hTy
        simp only at hTy
        rw [← hTy]
        simp [bytesA_nil]
        exact ⟨_, AV.le_refl _, _, pgS_mdrop a2 hσg _, ⟨_, rfl⟩, some q, a1, rfl⟩
      | some j =>
        obtain ⟨j1, _⟩ := codeIx_lt hcx
        rw [hcx] at hTy
        simp only at hTy
        have hj : (j : Int) = ((UInt8.ofNat j).toNat : Int) := by rw [UInt8.toNat_ofNat']; omega
        have hap : bytesA (acc ++ [UInt8.ofNat j]) = bytesA acc ++ [.lit (.int .u8 (j : Int))] := by rw [bytesA_append, hj]; rfl
        simp
        refine ⟨by omega, by omega, ⟨f, pos + (Utf8.decode t pos).2, acc ++ [UInt8.ofNat j], some q⟩, ⟨?_, ?_, a1, a2, hTy⟩, ?_, by rw [hap]; exact AV.le_refl _, Store.sub_refl _⟩
        · show t.size ≤ f + (pos + (Utf8.decode t pos).2); omega
        · show (acc ++ [UInt8.ofNat j]).length ≤ pos + (Utf8.decode t pos).2; simp; omega
        · show t.size - (pos + (Utf8.decode t pos).2) < t.size - pos; omega
  · have hz : T = (acc, 0) := by
      rw [← hTy]
      cases f with
      | zero => rfl
      | succ f => rw [codesF, if_neg hlt]
    rw [hz]
    simp [hread, hlt]
    exact ⟨_, AV.le_refl _, _, pgS_mdrop hx1 hσg _, ⟨_, rfl⟩, x1, hnx, rfl⟩
end Go.Proofs.YtbeohjinefaaoaaDoor
/-
  An item's looks, as an order.
-/
namespace Go.Proofs.YtbeohjinefaaoaaDoor
open Go Go.AL

structure It where
  row : Int
  col : Int
  f : Fd
  ext : List (UInt8 × UInt8)
  text : ByteArray
  cur : Bool
def itC (i : It) : List AV := [.lit (.int .i64 i.row), .lit (.int .i64 i.col), .lit (.bool i.f.prot), .lit (.bool i.f.num), .lit (.int .i64 i.f.disp), .lit (.bool i.f.mod), .list false 2 (pairsA i.ext), .lit (.string i.text), .lit (.bool i.cur)]
def wrongP (p : UInt8 × UInt8) : Bool := decide (p.1 = 192) || !rightP p
def lookR (i : It) : Op × Nat := if okD i.f = false then ({}, 1) else if i.ext = [] then ({ kind := 29, fa := six (bitsF i.f) }, 0) else if i.ext.any wrongP = true then ({}, 10) else ({ kind := 41, pairs := (192, six (bitsF i.f)) :: i.ext }, 0)
set_option maxHeartbeats 1000000 in
set_option maxRecDepth 8000 in
theorem plooks_calls (i : It) (hx : i.ext.length ≤ 1000) (σ : Store) : ACalls Tryd.prog 33 [.agg (itC i)] σ fun v σ' => v = .tuple [opA (lookR i).1, .lit (.int .i64 (lookR i).2)] ∧ σ' = σ := by
  obtain ⟨row, col, f, ext, text, cur⟩ := i
  dsimp only at hx
  have hb := fun τ => fbyte_calls f τ
  have hfa : fdA f = .agg [.lit (.bool f.prot), .lit (.bool f.num), .lit (.int .i64 f.disp), .lit (.bool f.mod)] := rfl
  rw [hfa] at hb
  unfold itC
  cases hk : okD f
  · have hL : lookR ⟨row, col, f, ext, text, cur⟩ = ({}, 1) := by simp [lookR, hk]
    rw [hL]
    rw [hk] at hb
    refine ACalls.of_awp follows (st := st33) (plans := pl33) (n := 52) Tryd.func33 rfl (by kernel_rfl) (by kernel_rfl) (by kernel_rfl) ?_
    simp +contextual [ite_free]
    intro p hp p2 h1 h2 h3
    refine callK.eq (hb _) ?_
    simp [h1, h2]
    exact ⟨AV.le_refl _, Store.sub_upd h3 (Store.sub_upd hp (Store.sub_refl _))⟩
  · rw [hk] at hb
    simp only [if_true] at hb
    have e6 : byteA (six (bitsF f)) = .lit (.int .u8 ((six (bitsF f)).toNat : Int)) := rfl
    rw [e6] at hb
    by_cases he : ext = []
    · have hL : lookR ⟨row, col, f, ext, text, cur⟩ = ({ kind := 29, fa := six (bitsF f) }, 0) := by simp [lookR, hk, he]
      rw [hL]
      subst he
      have hp0 : pairsA [] = [] := rfl
      generalize six (bitsF f) = SX at *
      refine ACalls.of_awp follows (st := st33) (plans := pl33) (n := 52) Tryd.func33 rfl (by kernel_rfl) (by kernel_rfl) (by kernel_rfl) ?_
      simp +contextual [ite_free]
      intro p hp p2 h1 h2 h3
      refine callK.eq (hb _) ?_
      simp [h1, h2, hp0]
      exact ⟨AV.le_refl _, Store.sub_upd h3 (Store.sub_upd hp (Store.sub_refl _))⟩
    · have hL : lookR ⟨row, col, f, ext, text, cur⟩ = if ext.any wrongP = true then ({}, 10) else ({ kind := 41, pairs := (192, six (bitsF f)) :: ext }, 0) := by simp [lookR, hk, he]
      rw [hL]
      have hel : ¬ ext.length = 0 := fun e => he (List.eq_nil_of_length_eq_zero e)
      generalize six (bitsF f) = SX at *
      refine ACalls.of_awp follows (st := st33) (plans := pl33) (n := 52) Tryd.func33 rfl (by kernel_rfl) (by kernel_rfl) (by kernel_rfl) ?_
      simp +contextual [ite_free]
      intro p hp p2 h1 h2 h3
      refine callK.eq (hb _) ?_
      simp [h1, h2, he, hel]
      have hsub : Store.sub σ ((σ.upd p [.lit (.int .i64 row), .lit (.int .i64 col), .lit (.bool f.prot), .lit (.bool f.num), .lit (.int .i64 f.disp), .lit (.bool f.mod), .list false 2 (pairsA ext), .lit (.string text), .lit (.bool cur)]).upd p2 [.lit (.int .i64 0), .lit (.int .i64 0), .lit (.int .u8 0), .lit (.bool false), .lit (.int .u8 0), .list true 2 [], .list true 1 []]) := Store.sub_upd h3 (Store.sub_upd hp (Store.sub_refl _))
      have y1 : ((σ.upd p [.lit (.int .i64 row), .lit (.int .i64 col), .lit (.bool f.prot), .lit (.bool f.num), .lit (.int .i64 f.disp), .lit (.bool f.mod), .list false 2 (pairsA ext), .lit (.string text), .lit (.bool cur)]).upd p2 [.lit (.int .i64 0), .lit (.int .i64 0), .lit (.int .u8 0), .lit (.bool false), .lit (.int .u8 0), .list true 2 [], .list true 1 []]) p = some [.lit (.int .i64 row), .lit (.int .i64 col), .lit (.bool f.prot), .lit (.bool f.num), .lit (.int .i64 f.disp), .lit (.bool f.mod), .list false 2 (pairsA ext), .lit (.string text), .lit (.bool cur)] := by simp [h1, h2]
      have y2 : ((σ.upd p [.lit (.int .i64 row), .lit (.int .i64 col), .lit (.bool f.prot), .lit (.bool f.num), .lit (.int .i64 f.disp), .lit (.bool f.mod), .list false 2 (pairsA ext), .lit (.string text), .lit (.bool cur)]).upd p2 [.lit (.int .i64 0), .lit (.int .i64 0), .lit (.int .u8 0), .lit (.bool false), .lit (.int .u8 0), .list true 2 [], .list true 1 []]) p2 = some [.lit (.int .i64 0), .lit (.int .i64 0), .lit (.int .u8 0), .lit (.bool false), .lit (.int .u8 0), .list true 2 [], .list true 1 []] := by simp
      generalize ((σ.upd p [.lit (.int .i64 row), .lit (.int .i64 col), .lit (.bool f.prot), .lit (.bool f.num), .lit (.int .i64 f.disp), .lit (.bool f.mod), .list false 2 (pairsA ext), .lit (.string text), .lit (.bool cur)]).upd p2 [.lit (.int .i64 0), .lit (.int .i64 0), .lit (.int .u8 0), .lit (.bool false), .lit (.int .u8 0), .list true 2 [], .list true 1 []]) = Y at *
      have fromY : ∀ c : Nat, Y c = none → σ c = none := fun c hc => by
        rcases hsub c with h | h
        · exact h
        · rw [h]; exact hc
      refine codeK.loop follows (st := st33) (plans := pl33) (X := Nat) (fun i => i ≤ ext.length ∧ ∀ j (hj : j < ext.length), j < i → wrongP ext[j] = false)
        (fun i => [(1, .lit (.pointer (some ⟨p, 0, none⟩))), (2, .lit (.pointer (some ⟨p2, 0, none⟩))), (6, .list true 2 [.agg [.lit (.int .u8 192), .lit (.int .u8 (SX.toNat : Int))]]), (31, .list false 2 (pairsA ext)), (32, .lit (.int .i64 ext.length)), (33, .lit (.int .i64 i))]) (fun _ => Y) (fun i => ext.length - i) 0 (by kernel_rfl) (by simp) (by simp) (Store.sub_refl _) fun i hi => ?_
      obtain ⟨hi, hkk⟩ := hi
      by_cases hlt : i < ext.length
      · have hw : IntKind.i64.wrap ((i : Int) + 1) = ((i + 1 : Nat) : Int) := wrap_i64 (by omega) (by omega)
        have hs := fun τ => check_calls ext[i] τ
        have ha := pairsA_get ext i hlt
        have hga : ∀ h : i < (pairsA ext).length, (pairsA ext)[i]'h = .agg [byteA ext[i].1, byteA ext[i].2] := fun h => by rw [List.getElem?_eq_getElem h] at ha; exact Option.some.inj ha
        have hbad : wrongP ext[i] = true → ext.any wrongP = true := fun h => List.any_eq_true.2 ⟨_, List.getElem_mem hlt, h⟩
        have hno : wrongP ext[i] = false → ∀ j (hj : j < ext.length), j < i + 1 → wrongP ext[j] = false := fun h j hj hji => by
          by_cases e : j = i
          · subst e; exact h
          · exact hkk j hj (by omega)
        generalize ext[i] = z at *
        obtain ⟨z1, z2⟩ := z
        simp only [byteA] at hs ha hga
        by_cases hz : z1 = 192
        · subst hz
          have hwr : wrongP (192, z2) = true := by simp [wrongP]
          rw [hbad hwr]
          simp [hlt, ha, hga]
          intro c hc
          have c2 : ¬ p2 = c := fun e => by subst e; rw [y2] at hc; cases hc
          simp [y2, c2]
          exact ⟨AV.le_refl _, Store.sub_upd h3 (Store.sub_upd (fromY c hc) hsub)⟩
        · have hz' : ¬ (z1.toNat : Int) = 192 := fun e => hz (UInt8.toNat_inj.1 (by show z1.toNat = 192; omega))
          have hzN : ¬ z1.toNat = 192 := fun e => hz' (by omega)
          simp [hlt, ha, hga, hz', hzN]
          intro c hc
          have c2 : ¬ p2 = c := fun e => by subst e; rw [y2] at hc; cases hc
          refine callK.eq (hs _) ?_
          cases hr : rightP (z1, z2)
          · have hwr : wrongP (z1, z2) = true := by simp [wrongP, hr]
            rw [hbad hwr]
            simp [errN, y2, c2, hz', hzN]
            exact ⟨AV.le_refl _, Store.sub_upd h3 (Store.sub_upd (fromY c hc) hsub)⟩
          · have hwr : wrongP (z1, z2) = false := by simp [wrongP, hr, hz]
            simp [errN, hz', hzN]
            exact ⟨i + 1, ⟨by omega, hno hwr⟩, by omega, by rw [hw]; exact AV.le_refl _, Store.sub_upd hc (Store.sub_refl _)⟩
      · obtain rfl : i = ext.length := by omega
        have hall : ext.any wrongP = false := by
          rw [List.any_eq_false]
          intro x hx
          obtain ⟨j, hj, rfl⟩ := List.mem_iff_getElem.1 hx
          rw [hkk j hj hj]; simp
        rw [hall]
        simp [y1, y2]
        refine ⟨by omega, by omega, AV.le_refl _, ?_⟩
        exact Store.sub_upd h3 hsub
end Go.Proofs.YtbeohjinefaaoaaDoor
/-
  A form's control byte.
-/
namespace Go.Proofs.YtbeohjinefaaoaaDoor
open Go Go.AL

def ctlN (r a u : Bool) (i : Nat) : Nat := 64 + (if u = true ∧ 0 < i then 1 else 0) + (if r = true ∧ 1 < i then 2 else 0) + (if a = true ∧ 2 < i then 4 else 0)
set_option maxHeartbeats 4000000 in
set_option maxRecDepth 8000 in
theorem control_calls (vs : List AV) (e al r a u : Bool) (σ : Store) : ACalls Tryd.prog 19 [.agg [.list false 9 vs, .lit (.bool e), .lit (.bool al), .lit (.bool r), .lit (.bool a), .lit (.bool u)]] σ fun v σ' => v = .lit (.int .u8 (ctlN r a u 3 : Nat)) ∧ σ' = σ := by
  have fin : ∀ {p : Nat} {C : List AV}, σ p = none → Store.sub σ (σ.upd p C) := fun h => Store.sub_upd h (Store.sub_refl _)
  refine ACalls.of_awp follows (st := st19) (plans := pl19) (n := 29) Tryd.func19 rfl (by kernel_rfl) (by kernel_rfl) (by kernel_rfl) ?_
  simp
  intro p hp
  refine codeK.loop follows (st := st19) (plans := pl19) (X := Nat) (fun i => i ≤ 3)
    (fun i => [(3, .lit (.int .u8 (ctlN r a u i : Nat))), (15, .list false 2 [.agg [.lit (.bool u), .lit (.int .u8 1)], .agg [.lit (.bool r), .lit (.int .u8 2)], .agg [.lit (.bool a), .lit (.int .u8 4)]]), (16, .lit (.int .i64 3)), (17, .lit (.int .i64 (i : Nat)))]) (fun _ => σ) (fun i => 3 - i) 0 (by kernel_rfl) (by simp) (by simp [ctlN]) (fin hp) fun i hi => ?_
  have hi4 : i = 0 ∨ i = 1 ∨ i = 2 ∨ i = 3 := by omega
  rcases hi4 with rfl | rfl | rfl | rfl
  · cases r <;> cases a <;> cases u <;> simp [ctlN] <;> exact fun c hc => ⟨1, by omega, by omega, by first | exact ⟨le_of_eq rfl, le_of_eq rfl⟩ | exact le_of_eq rfl, Store.sub_upd hc (Store.sub_refl _)⟩
  · cases r <;> cases a <;> cases u <;> simp [ctlN] <;> exact fun c hc => ⟨2, by omega, by omega, by first | exact ⟨le_of_eq rfl, le_of_eq rfl⟩ | exact le_of_eq rfl, Store.sub_upd hc (Store.sub_refl _)⟩
  · cases r <;> cases a <;> cases u <;> simp [ctlN] <;> exact fun c hc => ⟨3, by omega, by omega, by first | exact ⟨le_of_eq rfl, le_of_eq rfl⟩ | exact le_of_eq rfl, Store.sub_upd hc (Store.sub_refl _)⟩
  · simp
end Go.Proofs.YtbeohjinefaaoaaDoor
/-
  A form's command.
-/
namespace Go.Proofs.YtbeohjinefaaoaaDoor
open Go Go.AL
def cmdK (k : Nat) : UInt8 := if k = 1 then 241 else if k = 2 then 245 else 126
set_option maxHeartbeats 1000000 in
set_option maxRecDepth 8000 in
theorem wof_calls (k : Nat) (hk : k = 1 ∨ k = 2 ∨ k = 3) (σ : Store) : ACalls Tryd.prog 51 [.lit (.int .i64 k)] σ fun v σ' => (∃ (s : ByteArray) (z : Int), v = .tuple [.agg [.lit (.string s), .lit (.int .u8 z), .lit (.int .u8 ((cmdK k).toNat : Int))], .lit (.bool true)]) ∧ σ' = σ := by
  refine ACalls.of_awp follows (st := st51) (plans := pl51) (n := 14) Tryd.func51 rfl (by kernel_rfl) (by kernel_rfl) (by kernel_rfl) ?_
  rcases hk with rfl | rfl | rfl
  all_goals
    simp [cmdsO, cmdNames, cmdC]
    exact fun p hp => ⟨_, AV.le_refl _, Store.sub_upd hp (Store.sub_refl _), _, _, rfl⟩
set_option maxRecDepth 8000 in
theorem wbyte_calls (k : Nat) (hk : k = 1 ∨ k = 2 ∨ k = 3) (σ : Store) : ACalls Tryd.prog 32 [.lit (.int .i64 k)] σ fun v σ' => v = .lit (.int .u8 ((cmdK k).toNat : Int)) ∧ σ' = σ := by
  have hw := fun τ => wof_calls k hk τ
  generalize cmdK k = c at *
  refine ACalls.of_awp follows (st := st32) (plans := pl32) (n := 12) Tryd.func32 rfl (by kernel_rfl) (by kernel_rfl) (by kernel_rfl) ?_
  simp
  refine callK.of (hw _) ?_
  rintro v τ ⟨⟨s, z, rfl⟩, rfl⟩
  simp
  exact fun p hp => Store.sub_upd hp (Store.sub_refl _)
set_option maxRecDepth 8000 in
theorem command_calls (vs : List AV) (e al r a u : Bool) (σ : Store) : ACalls Tryd.prog 18 [.agg [.list false 9 vs, .lit (.bool e), .lit (.bool al), .lit (.bool r), .lit (.bool a), .lit (.bool u)]] σ fun v σ' => v = .lit (.int .u8 ((cmdK (if e = true then (if al = true then 3 else 2) else 1)).toNat : Int)) ∧ σ' = σ := by
  have h1 := fun τ => wbyte_calls 1 (.inl rfl) τ
  have h2 := fun τ => wbyte_calls 2 (.inr (.inl rfl)) τ
  have h3 := fun τ => wbyte_calls 3 (.inr (.inr rfl)) τ
  cases e <;> cases al
  all_goals
    simp only [if_true, if_false, Bool.false_eq_true]
    generalize cmdK 1 = c1 at *
    generalize cmdK 2 = c2 at *
    generalize cmdK 3 = c3 at *
    refine ACalls.of_awp follows (st := st18) (plans := pl18) (n := 16) Tryd.func18 rfl (by kernel_rfl) (by kernel_rfl) (by kernel_rfl) ?_
    simp
    intro p hp
    first
      | refine callK.eq (h1 _) ?_
      | refine callK.eq (h2 _) ?_
      | refine callK.eq (h3 _) ?_
    simp
    exact Store.sub_upd hp (Store.sub_refl _)
end Go.Proofs.YtbeohjinefaaoaaDoor
