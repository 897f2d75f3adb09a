/-
 A sign is typed; a field is chosen.
-/
import Derived.Test.YtlmdbcgceijlnaaGreatPPart18
set_option linter.unusedSimpArgs false
set_option linter.unusedVariables false
set_option maxRecDepth 8000
set_option maxHeartbeats 8000000

namespace Go.Proofs.YtlmdbcgceijlnaaGreat
open Go Go.AL Go.Sp
variable {σ : Store} {k q r b : Nat} {n : Int} {B : Bd}
def codeU (n s : Int) : UInt8 := UInt8.ofNat ((codeIx n s).getD 0)
theorem codeU_nat (n s : Int) : (codeU n s).toNat = (codeIx n s).getD 0 := by
 unfold codeU
 cases h : codeIx n s with
 | none => rfl
 | some j => have := (codeIx_lt h).1; simp; omega
theorem codeK_calls (h : KOk σ k q r b n B) (x : Option Nat) (sg : Int) : ACalls Tryz.prog 123 [ptrA b, .lit (.int .i32 sg)] (kS σ k q r b n x B) fun v σ' => v = .tuple [.lit (.int .u8 (codeU n sg).toNat), .lit (.bool (codeIx n sg).isSome)] ∧ ∃ x', NxP σ x x' ∧ σ' = kS σ k q r b n x' B := by
 rw [codeU_nat]
 have := code_calls b n h.page x sg ((putS spO σ q r B.s).upd k (bdO q b B))
 exact this.mono fun v σ' ⟨h1, x', h2, h3⟩ => ⟨h1, some x', h2.base, h3⟩
def charB (n : Int) (B : Bd) (sg : Int) : Bd × Int := if ((codeIx n sg).isSome && dataB (codeU n sg)) = true then enterB n B (codeU n sg) else (B, 12)
theorem char_calls (h : KOk σ k q r b n B) (x : Option Nat) (sg : Int) : ACalls Tryz.prog 90 [ptrA k, .lit (.int .i32 sg)] (kS σ k q r b n x B) fun v σ' => v = .lit (.int .i64 (charB n B sg).2) ∧ ∃ x', NxP σ x x' ∧ σ' = kS σ k q r b n x' (charB n B sg).1 := by
 have hk := kS_k' h x
 have hco := codeK_calls h x sg
 have hda := fun τ => data_calls (codeU n sg) τ
 have hen := fun xc => enter_calls h xc (codeU n sg)
 have hE : ∀ o d, (codeIx n sg).isSome = o → dataB (codeU n sg) = d → charB n B sg = if (o && d) = true then enterB n B (codeU n sg) else (B, 12) := by rintro _ _ rfl rfl; rfl
 generalize codeU n sg = c at *
 generalize (codeIx n sg).isSome = o at *
 generalize dataB c = d at *
 have hE := hE o d rfl rfl
 simp only [byteA] at hk hda hen
 refine aw st90 pl90 26 Tryz.func90 rfl ?_
 simp [hk]
 refine callK.of hco ?_
 rintro v τ ⟨rfl, xc, nx, rfl⟩
 cases o
 ·simp [hE]
  exact ⟨_, AV.le_refl _, _, Store.sub_refl _, rfl, xc, nx, rfl⟩
 ·simp
  refine callK.of (hda _) ?_
  rintro v τ ⟨rfl, rfl⟩
  cases d
  ·simp [hE]
   exact ⟨_, AV.le_refl _, _, Store.sub_refl _, rfl, xc, nx, rfl⟩
  ·simp
   refine callK.of (hen _) ?_
   rintro v τ ⟨rfl, x2, nx2, rfl⟩
   simp [hE]
   exact ⟨_, AV.le_refl _, _, Store.sub_refl _, rfl, x2, nx.trans nx2, rfl⟩
theorem designate_calls (h : KOk σ k q r b n B) (x : Option Nat) (sg : Int) (a : Nat) (ha : a < B.s.n) : ACalls Tryz.prog 83 [ptrA k, .lit (.int .i32 sg), .lit (.int .i64 a)] (kS σ k q r b n x B) fun v σ' => v = .tuple [] ∧ ∃ x', NxP σ x x' ∧ σ' = kS σ k q r b n x' { B with s := B.s.put ((a : Int) + 1) (codeU n sg) } := by
 have hk := fun xc => kS_k' h xc
 have hco := codeK_calls h x sg
 have hpu := fun xc => pput_calls (kS_prg h xc) ((a : Int) + 1) (codeU n sg)
 have hnl := B.s.n_le
 have hw : IntKind.i64.wrap ((a : Int) + 1) = (a : Int) + 1 := wrap_i64 (by omega) (by omega)
 generalize codeU n sg = c at *
 simp only [byteA, kS_put h] at hk hpu
 refine aw st83 pl83 25 Tryz.func83 rfl ?_
 simp [hk]
 refine callK.of hco ?_
 rintro v τ ⟨rfl, xc, nx, rfl⟩
 simp [hk, hw]
 refine callK.of (hpu _) ?_
 rintro v τ ⟨rfl, rfl⟩
 simp
 exact ⟨_, AV.le_refl _, _, Store.sub_refl _, rfl, xc, nx, rfl⟩
def chooseB (n : Int) (B : Bd) : Bd × Bool × Int :=
 if (!okF B.s B.s.cursor || (B.s.at (B.s.cursor : Nat)).attr || !detB (fofF B.s B.s.cursor)) = true then ({ B with lock := 2 }, false, 13)
 else
  let a : Int := startS B.s.cells B.s.cursor
  let d := desigN n (B.s.at (a + 1)).char
  if d = 0 ∨ d < 3 ∧ (fofF B.s B.s.cursor).prot = true then ({ B with lock := 2 }, false, 13)
  else if d = 1 then ({ B with s := modS (B.s.put (a + 1) (codeU n 62)) B.s.cursor }, false, 0)
  else if d = 2 then ({ B with s := B.s.put (a + 1) (codeU n 63) }, false, 0)
  else ({ B with s := modS B.s B.s.cursor, lock := 1, ins := false, aid := if d = 3 then 126 else 125 }, true, 0)
end Go.Proofs.YtlmdbcgceijlnaaGreat
namespace Go.Proofs.YtlmdbcgceijlnaaGreat
open Go Go.AL Go.Sp
variable {σ : Store} {k q r b : Nat} {n : Int} {B : Bd}
theorem desigN_le (n : Int) (c : UInt8) : desigN n c ≤ 4 := by
 unfold desigN
 repeat' split
 all_goals omega
theorem desigK_calls (h : KOk σ k q r b n B) (x : Option Nat) (c : UInt8) : ACalls Tryz.prog 82 [ptrA b, byteA c] (kS σ k q r b n x B) fun v σ' => v = .lit (.int .i64 (desigN n c)) ∧ ∃ x', NxP σ x x' ∧ σ' = kS σ k q r b n x' B :=
 (desig_calls b n h.page x c _).mono fun _v _σ' ⟨e1, x', e2, e3⟩ => ⟨e1, x', e2.base, e3⟩
theorem start_lt {s : Sp} (h : s.good) {n : Nat} (hn : n < s.n) (ho : okF s n = true) : ∃ a, startS s.cells n = (a : Nat) ∧ a < s.n := by
 unfold okF at ho
 simp at ho
 by_cases hc : s.count = 0
 ·rw [startS_none hc] at ho; omega
 ·obtain ⟨h1, h2⟩ := startS_at h hn hc
  exact ⟨(startS s.cells n).toNat, by omega, h2⟩
theorem choose_calls (h : KOk σ k q r b n B) (x : Option Nat) : ACalls Tryz.prog 49 [ptrA k] (kS σ k q r b n x B) fun v σ' => v = .tuple [.lit (.bool (chooseB n B).2.1), .lit (.int .i64 (chooseB n B).2.2)] ∧ ∃ x', NxP σ x x' ∧ σ' = kS σ k q r b n x' (chooseB n B).1 := by
 have hn := h.good.cursor
 have hk := kS_k' h x
 have hP := kS_prg h x
 have hcu := cursor_calls hP
 have hst := start_calls hP hn
 have hfo := fofF_calls hP hn
 have hsl := start_lt h.good hn
 have hCE : chooseB n B = if (!okF B.s B.s.cursor || (B.s.at (B.s.cursor : Nat)).attr || !detB (fofF B.s B.s.cursor)) = true then ({ B with lock := 2 }, false, 13)
  else if desigN n (B.s.at (startS B.s.cells B.s.cursor + 1)).char = 0 ∨ desigN n (B.s.at (startS B.s.cells B.s.cursor + 1)).char < 3 ∧ (fofF B.s B.s.cursor).prot = true then ({ B with lock := 2 }, false, 13)
  else if desigN n (B.s.at (startS B.s.cells B.s.cursor + 1)).char = 1 then ({ B with s := modS (B.s.put (startS B.s.cells B.s.cursor + 1) (codeU n 62)) B.s.cursor }, false, 0)
  else if desigN n (B.s.at (startS B.s.cells B.s.cursor + 1)).char = 2 then ({ B with s := B.s.put (startS B.s.cells B.s.cursor + 1) (codeU n 63) }, false, 0)
  else ({ B with s := modS B.s B.s.cursor, lock := 1, ins := false, aid := if desigN n (B.s.at (startS B.s.cells B.s.cursor + 1)).char = 3 then 126 else 125 }, true, 0) := rfl
 generalize hm : B.s.cursor = m at *
 generalize hff : fofF B.s m = ff at *
 generalize hok : okF B.s m = okk at *
 generalize hst0 : startS B.s.cells m = st at *
 have hfa : ∀ f : Fld, fldA f = .agg [.lit (.bool f.prot), .lit (.bool f.num), .lit (.int .i64 f.disp), .lit (.bool f.mod)] := fun _ => rfl
 have hdet := fun τ => det_calls ff τ
 rw [hfa] at hdet
 generalize hdb : detB ff = db at *
 simp only [byteA] at hk
 refine aw st49 pl49 97 Tryz.func49 rfl ?_
 simp [hk]
 refine callK.of hcu ?_
 rintro v τ ⟨rfl, rfl⟩
 simp [hk]
 refine callK.of hst ?_
 rintro v τ ⟨rfl, rfl⟩
 simp [hk]
 refine callK.of hfo ?_
 rintro v τ ⟨rfl, rfl⟩
 simp
 intro z hz
 have fz := kS_free h hz
 have h1 := fz.ok h [.lit (.bool ff.prot), .lit (.bool ff.num), .lit (.int .i64 ff.disp), .lit (.bool ff.mod)]
 have hzv := fun x2 B2 => kS_other (n := n) fz x2 B2 [.lit (.bool ff.prot), .lit (.bool ff.num), .lit (.int .i64 ff.disp), .lit (.bool ff.mod)]
 have hdr := fun x2 B2 => fz.drop (n := n) x2 B2 [.lit (.bool ff.prot), .lit (.bool ff.num), .lit (.int .i64 ff.disp), .lit (.bool ff.mod)]
 have hkz : ¬ k = z := fun e => fz.k e.symm
 simp [hkz, hk]
 have hmk : ∀ g : Nat, (σ.upd z [.lit (.bool ff.prot), .lit (.bool ff.num), .lit (.int .i64 ff.disp), .lit (.bool ff.mod)]) (mkey g) = σ (mkey g) := fun g => by simp
 simp only [kS_new fz]
 have hk1 := fun xc => kS_k' h1 xc
 simp only [byteA] at hk1
 generalize σ.upd z [.lit (.bool ff.prot), .lit (.bool ff.num), .lit (.int .i64 ff.disp), .lit (.bool ff.mod)] = σ1 at *
 have hat := at_calls (kS_prg h1 x) (m : Int)
 simp only [cellA_eq] at hat
 generalize B.s.at (m : Int) = cc at *
 have hrf := fun xc => refuse_calls h1 xc 2 (.inl rfl)
 cases okk
 ·simp
  refine callK.of (hrf _) ?_
  rintro v τ ⟨rfl, rfl⟩
  simp at hCE
  simp [hCE, refE]
  exact ⟨_, AV.le_refl _, _, hdr _ _, rfl, x, .inl rfl, rfl⟩
 obtain ⟨a, rfl, ha⟩ := hsl rfl
 simp
 refine callK.of hat ?_
 rintro v τ ⟨rfl, rfl⟩
 cases hca : cc.attr
 ·simp
  have hz1 := hzv x B
  simp [hz1]
  refine callK.of (hdet _) ?_
  rintro v τ ⟨rfl, rfl⟩
  cases db
  ·simp
   refine callK.of (hrf _) ?_
   rintro v τ ⟨rfl, rfl⟩
   simp at hCE
   simp [hCE, refE]
   exact ⟨_, AV.le_refl _, _, hdr _ _, rfl, x, .inl rfl, rfl⟩
  have hnl := B.s.n_le
  have hw : IntKind.i64.wrap ((a : Int) + 1) = (a : Int) + 1 := wrap_i64 (by omega) (by omega)
  have hat2 := at_calls (kS_prg h1 x) ((a : Int) + 1)
  generalize hc2 : B.s.at ((a : Int) + 1) = c2 at *
  simp only [cellA_eq, byteA] at hat2
  have hdk := desigK_calls h1 x c2.char
  simp only [byteA] at hdk
  have hdl := desigN_le n c2.char
  generalize desigN n c2.char = d at *
  rw [if_neg (by simp [hca])] at hCE
  have hdes := fun xc sg => designate_calls h1 xc sg a ha
  have hsn := fun xc (aid : UInt8) => send_calls h1 xc aid
  simp only [byteA] at hsn
  have hmod := fun xc (B2 : Bd) (H : KOk σ1 k q r b n B2) (e : m < B2.s.n) => modify_calls (kS_prg H xc) e
  simp [hk1, hw]
  repeat' first
   | with_reducible apply And.intro
   | (refine callK.of hat2 ?_; rintro v τ ⟨rfl, rfl⟩; simp [hk1])
  all_goals
   refine callK.of hdk ?_
   rintro v τ ⟨rfl, xc, nx, rfl⟩
   have hz2 := hzv xc B
   have h5 : d = 0 ∨ d = 1 ∨ d = 2 ∨ d = 3 ∨ d = 4 := by omega
   rcases h5 with rfl | rfl | rfl | rfl | rfl
   ·simp
    refine callK.of (hrf _) ?_
    rintro v τ ⟨rfl, rfl⟩
    simp at hCE
    simp [hCE, refE]
    exact ⟨_, AV.le_refl _, _, hdr _ _, rfl, xc, nx.of hmk, rfl⟩
   ·cases hp : ff.prot
    ·rw [hp] at hz2
     simp [hz2]
     refine callK.of (hdes _ _) ?_
     rintro v τ ⟨rfl, x2, nx2, rfl⟩
     have hg : SameN B.s (B.s.put ((a : Int) + 1) (codeU n 62)) := (SameN.refl h.good).put _ _
     have H2 : KOk σ1 k q r b n { B with s := B.s.put ((a : Int) + 1) (codeU n 62) } := h1.s hg.1
     have hk2 := kS_k' H2 x2
     simp only [byteA] at hk2
     simp [hk2]
     refine callK.of (hmod x2 _ H2 (by rw [hg.n]; exact hn)) ?_
     rintro v τ ⟨rfl, rfl⟩
     rw [kS_put H2]
     simp [hp] at hCE
     simp [hCE]
     exact ⟨_, AV.le_refl _, _, hdr _ _, rfl, x2, (nx.trans nx2).of hmk, rfl⟩
    ·rw [hp] at hz2
     simp [hz2]
     refine callK.of (hrf _) ?_
     rintro v τ ⟨rfl, rfl⟩
     simp [hp] at hCE
     simp [hCE, refE]
     exact ⟨_, AV.le_refl _, _, hdr _ _, rfl, xc, nx.of hmk, rfl⟩
   ·cases hp : ff.prot
    ·rw [hp] at hz2
     simp [hz2]
     refine callK.of (hdes _ _) ?_
     rintro v τ ⟨rfl, x2, nx2, rfl⟩
     simp [hp] at hCE
     simp [hCE]
     exact ⟨_, AV.le_refl _, _, hdr _ _, rfl, x2, (nx.trans nx2).of hmk, rfl⟩
    ·rw [hp] at hz2
     simp [hz2]
     refine callK.of (hrf _) ?_
     rintro v τ ⟨rfl, rfl⟩
     simp [hp] at hCE
     simp [hCE, refE]
     exact ⟨_, AV.le_refl _, _, hdr _ _, rfl, xc, nx.of hmk, rfl⟩
   ·simp
    refine callK.of (hsn xc 126) ?_
    rintro v τ ⟨rfl, rfl⟩
    have H2 : KOk σ1 k q r b n { B with lock := 1, ins := false, aid := 126 } := h1.s h.good
    have hk2 := kS_k' H2 xc
    simp only [byteA] at hk2
    simp [hk2]
    refine callK.of (hmod xc _ H2 hn) ?_
    rintro v τ ⟨rfl, rfl⟩
    rw [kS_put H2]
    simp at hCE
    simp [hCE]
    exact ⟨_, AV.le_refl _, _, hdr _ _, rfl, xc, nx.of hmk, rfl⟩
   ·simp
    refine callK.of (hsn xc 125) ?_
    rintro v τ ⟨rfl, rfl⟩
    have H2 : KOk σ1 k q r b n { B with lock := 1, ins := false, aid := 125 } := h1.s h.good
    have hk2 := kS_k' H2 xc
    simp only [byteA] at hk2
    simp [hk2]
    refine callK.of (hmod xc _ H2 hn) ?_
    rintro v τ ⟨rfl, rfl⟩
    rw [kS_put H2]
    simp at hCE
    simp [hCE]
    exact ⟨_, AV.le_refl _, _, hdr _ _, rfl, xc, nx.of hmk, rfl⟩
 ·simp
  refine callK.of (hrf _) ?_
  rintro v τ ⟨rfl, rfl⟩
  simp [hca] at hCE
  simp [hCE, refE]
  exact ⟨_, AV.le_refl _, _, hdr _ _, rfl, x, .inl rfl, rfl⟩
end Go.Proofs.YtlmdbcgceijlnaaGreat
namespace Go.Proofs.YtlmdbcgceijlnaaGreat
open Go Go.AL Go.Sp
variable {σ : Store} {k q r b : Nat} {n : Int} {B : Bd}
def movK (s : Sp) (kind : Int) : Sp × Bool :=
 if kind = 5 then (tabS s, true) else if kind = 6 then (btabS s, true) else if kind = 7 then (newlineS s, true) else if kind = 8 then (homeS s, true)
 else if kind = 9 then (moveS s (-1) 0, true) else if kind = 10 then (moveS s 1 0, true) else if kind = 11 then (moveS s 0 (-1), true) else if kind = 12 then (moveS s 0 1, true) else (s, false)
theorem bmove_calls (h : KOk σ k q r b n B) (x : Option Nat) (kind : Int) : ACalls Tryz.prog 51 [ptrA k, .lit (.int .i64 kind)] (kS σ k q r b n x B) fun v σ' => v = .lit (.bool (movK B.s kind).2) ∧ σ' = kS σ k q r b n x { B with s := (movK B.s kind).1 } := by
 have hk := kS_k' h x
 have hP := kS_prg h x
 have h5 := tab_calls hP
 have h6 := btab_calls hP
 have h7 := newline_calls hP
 have h8 := home_calls hP
 have h9 := fun a c => cmove_calls hP a c
 simp only [kS_put h] at h5 h6 h7 h8 h9
 simp only [byteA] at hk
 refine aw st51 pl51 62 Tryz.func51 rfl ?_
 by_cases e5 : kind = 5
 ·subst e5; simp [hk, movK]
  refine callK.of h5 ?_
  rintro v τ ⟨rfl, rfl⟩
  simp
 by_cases e6 : kind = 6
 ·subst e6; simp [hk, movK]
  refine callK.of h6 ?_
  rintro v τ ⟨rfl, rfl⟩
  simp
 by_cases e7 : kind = 7
 ·subst e7; simp [hk, movK]
  refine callK.of h7 ?_
  rintro v τ ⟨rfl, rfl⟩
  simp
 by_cases e8 : kind = 8
 ·subst e8; simp [hk, movK]
  refine callK.of h8 ?_
  rintro v τ ⟨rfl, rfl⟩
  simp
 by_cases e9 : kind = 9
 ·subst e9; simp [hk, movK]
  refine callK.of (h9 _ _) ?_
  rintro v τ ⟨rfl, rfl⟩
  simp
 by_cases e10 : kind = 10
 ·subst e10; simp [hk, movK]
  refine callK.of (h9 _ _) ?_
  rintro v τ ⟨rfl, rfl⟩
  simp
 by_cases e11 : kind = 11
 ·subst e11; simp [hk, movK]
  refine callK.of (h9 _ _) ?_
  rintro v τ ⟨rfl, rfl⟩
  simp
 by_cases e12 : kind = 12
 ·subst e12; simp [hk, movK]
  refine callK.of (h9 _ _) ?_
  rintro v τ ⟨rfl, rfl⟩
  simp
 simp [movK, e5, e6, e7, e8, e9, e10, e11, e12]
structure Key where
 kind : Int
 sign : Int
 num : Int
def keyC (K : Key) : List AV := [.lit (.int .i64 K.kind), .lit (.int .i32 K.sign), .lit (.int .i64 K.num)]
def keyA (K : Key) : AV := .agg (keyC K)
def enteredB (n : Int) (B : Bd) (K : Key) : Bd × Int :=
 if K.kind = 1 then charB n B K.sign
 else if K.kind = 2 then (if 0 ≤ K.num ∧ K.num ≤ 255 ∧ dataB (UInt8.ofNat K.num.toNat) = true then enterB n B (UInt8.ofNat K.num.toNat) else (B, 1))
 else if K.kind = 3 then enterB n B 28
 else if K.kind = 4 then enterB n B 30
 else if K.kind = 13 then (if openS B.s B.s.cursor = true then ({ B with s := delS B.s B.s.cursor }, 0) else ({ B with lock := 2 }, 13))
 else if K.kind = 14 then (if openS B.s B.s.cursor = true then ({ B with s := endS B.s B.s.cursor }, 0) else ({ B with lock := 2 }, 13))
 else if K.kind = 15 then ({ B with s := unprotS B.s }, 0)
 else if K.kind = 16 then ({ B with ins := !B.ins }, 0)
 else (B, 0)
theorem delS_same {s : Sp} (h : s.good) (m : Nat) : SameN s (delS s m) := by
 unfold delS; split
 ·have h1 := delTo_same h (rowL s m) (rowL s m).length
  exact h1.trans (modS_same h1.1 m)
 ·exact .refl h
theorem endS_same {s : Sp} (h : s.good) (m : Nat) : SameN s (endS s m) := by
 unfold endS; split
 ·have h1 := (SameN.refl h).nullS (restL s m)
  exact h1.trans (modS_same h1.1 m)
 ·exact .refl h
theorem entered_calls (h : KOk σ k q r b n B) (x : Option Nat) (K : Key) : ACalls Tryz.prog 52 [ptrA k, keyA K] (kS σ k q r b n x B) fun v σ' => v = .lit (.int .i64 (enteredB n B K).2) ∧ ∃ x', NxP σ x x' ∧ σ' = kS σ k q r b n x' (enteredB n B K).1 := by
 obtain ⟨kind, sg, num⟩ := K
 have hE : enteredB n B ⟨kind, sg, num⟩ = if kind = 1 then charB n B sg
   else if kind = 2 then (if 0 ≤ num ∧ num ≤ 255 ∧ dataB (UInt8.ofNat num.toNat) = true then enterB n B (UInt8.ofNat num.toNat) else (B, 1))
   else if kind = 3 then enterB n B 28
   else if kind = 4 then enterB n B 30
   else if kind = 13 then (if openS B.s B.s.cursor = true then ({ B with s := delS B.s B.s.cursor }, 0) else ({ B with lock := 2 }, 13))
   else if kind = 14 then (if openS B.s B.s.cursor = true then ({ B with s := endS B.s B.s.cursor }, 0) else ({ B with lock := 2 }, 13))
   else if kind = 15 then ({ B with s := unprotS B.s }, 0)
   else if kind = 16 then ({ B with ins := !B.ins }, 0)
   else (B, 0) := rfl
 have hn := h.good.cursor
 have hk := kS_k' h x
 have hcu := cursor_calls (kS_prg h x)
 generalize hm : B.s.cursor = m at *
 simp only [byteA] at hk
 refine aw st52 pl52 86 Tryz.func52 rfl ?_
 simp [keyA, keyC]
 intro z hz
 have fz := kS_free h hz
 have hkz : ¬ k = z := fun e => fz.k e.symm
 simp [hkz, hk]
 simp only [kS_new fz]
 have hmk : ∀ g : Nat, (σ.upd z [.lit (.int .i64 kind), .lit (.int .i32 sg), .lit (.int .i64 num)]) (mkey g) = σ (mkey g) := fun g => by simp
 have h1 := fz.ok h [.lit (.int .i64 kind), .lit (.int .i32 sg), .lit (.int .i64 num)]
 have hzv := fun x2 B2 => kS_other (n := n) fz x2 B2 [.lit (.int .i64 kind), .lit (.int .i32 sg), .lit (.int .i64 num)]
 have hdr := fun x2 B2 => fz.drop (n := n) x2 B2 [.lit (.int .i64 kind), .lit (.int .i32 sg), .lit (.int .i64 num)]
 generalize σ.upd z [.lit (.int .i64 kind), .lit (.int .i32 sg), .lit (.int .i64 num)] = σ1 at *
 have hk1 := fun xc => kS_k' h1 xc
 simp only [byteA] at hk1
 have hcu1 := cursor_calls (kS_prg h1 x)
 rw [hm] at hcu1
 have hz1 := hzv x B
 refine callK.of hcu1 ?_
 rintro v τ ⟨rfl, rfl⟩
 simp [hz1]
 by_cases e1 : kind = 1
 ·subst e1
  simp at hE
  simp
  refine callK.of (char_calls h1 x sg) ?_
  rintro v τ ⟨rfl, xc, nx, rfl⟩
  simp [hE]
  exact ⟨_, AV.le_refl _, _, hdr _ _, rfl, xc, nx.of hmk, rfl⟩
 by_cases e2 : kind = 2
 ·subst e2
  simp at hE
  by_cases hn0 : num < 0
  ·rw [if_neg (by omega)] at hE
   have hn0' : ¬ 0 ≤ num := by omega
   simp [hn0, hn0']
   simp [hE]
   exact ⟨_, AV.le_refl _, _, hdr _ _, rfl, x, .inl rfl, rfl⟩
  by_cases hn1 : 255 < num
  ·rw [if_neg (by omega)] at hE
   have hn0' : 0 ≤ num := by omega
   have hn1' : ¬ num ≤ 255 := by omega
   simp [hn0, hn1, hn0', hn1']
   simp [hE]
   exact ⟨_, AV.le_refl _, _, hdr _ _, rfl, x, .inl rfl, rfl⟩
  obtain ⟨c, rfl⟩ : ∃ c : UInt8, num = (c.toNat : Int) := ⟨UInt8.ofNat num.toNat, by simp; omega⟩
  have hda := fun τ => data_calls c τ
  have hen := enter_calls h1 x c
  have hcc : UInt8.ofNat (c.toNat : Int).toNat = c := by simp
  have hwc : IntKind.u8.wrap (c.toNat : Int) = c.toNat := by
   have := all_bytes (p := fun c => IntKind.u8.wrap (c.toNat : Int) = c.toNat) (by decide +kernel) c
   exact this
  rw [hcc] at hE
  simp only [byteA] at hda hen
  have hn2 : c.toNat ≤ 255 := by omega
  have hn3 : (c.toNat : Int) ≤ 255 := by omega
  have hn4 : 0 ≤ (c.toNat : Int) := by omega
  simp [hn0, hwc, hn3, hn4]
  refine callK.of (hda _) ?_
  rintro v τ ⟨rfl, rfl⟩
  cases hd : dataB c
  ·rw [if_neg (by simp [hd])] at hE
   simp [hn0, hn1]
   simp [hE]
   exact ⟨_, AV.le_refl _, _, hdr _ _, rfl, x, .inl rfl, rfl⟩
  ·rw [if_pos ⟨by omega, by omega, hd⟩] at hE
   simp [hz1, hwc, hn0, hn1]
   refine callK.of hen ?_
   rintro v τ ⟨rfl, xc, nx, rfl⟩
   simp [hE]
   exact ⟨_, AV.le_refl _, _, hdr _ _, rfl, xc, nx.of hmk, rfl⟩
 by_cases e3 : kind = 3
 ·subst e3
  simp at hE
  simp
  refine callK.of (enter_calls h1 x 28) ?_
  rintro v τ ⟨rfl, xc, nx, rfl⟩
  simp [hE]
  exact ⟨_, AV.le_refl _, _, hdr _ _, rfl, xc, nx.of hmk, rfl⟩
 by_cases e4 : kind = 4
 ·subst e4
  simp at hE
  simp
  refine callK.of (enter_calls h1 x 30) ?_
  rintro v τ ⟨rfl, xc, nx, rfl⟩
  simp [hE]
  exact ⟨_, AV.le_refl _, _, hdr _ _, rfl, xc, nx.of hmk, rfl⟩
 by_cases e13 : kind = 13
 ·subst e13
  have hdl := delete_calls (kS_prg h1 x) hn
  rw [kS_put h1] at hdl
  have hsm := delS_same h.good m
  have H2 : KOk σ1 k q r b n { B with s := delS B.s m } := h1.s hsm.1
  simp at hE
  simp [hk1]
  refine callK.of hdl ?_
  rintro v τ ⟨rfl, rfl⟩
  simp
  refine callK.of (done_calls H2 x _) ?_
  rintro v τ ⟨rfl, rfl⟩
  cases ho : openS B.s m
  ·have hd : delS B.s m = B.s := by unfold delS; rw [if_neg (by simp [ho])]
   rw [if_neg (by simp [ho])] at hE
   simp [hE, hd]
   exact ⟨_, AV.le_refl _, _, hdr _ _, rfl, x, .inl rfl, rfl⟩
  ·rw [if_pos ho] at hE
   simp [hE]
   exact ⟨_, AV.le_refl _, _, hdr _ _, rfl, x, .inl rfl, rfl⟩
 by_cases e14 : kind = 14
 ·subst e14
  have hdl := end_calls (kS_prg h1 x) hn
  rw [kS_put h1] at hdl
  have hsm := endS_same h.good m
  have H2 : KOk σ1 k q r b n { B with s := endS B.s m } := h1.s hsm.1
  simp at hE
  simp [hk1]
  refine callK.of hdl ?_
  rintro v τ ⟨rfl, rfl⟩
  simp
  refine callK.of (done_calls H2 x _) ?_
  rintro v τ ⟨rfl, rfl⟩
  cases ho : openS B.s m
  ·have hd : endS B.s m = B.s := by unfold endS; rw [if_neg (by simp [ho])]
   rw [if_neg (by simp [ho])] at hE
   simp [hE, hd]
   exact ⟨_, AV.le_refl _, _, hdr _ _, rfl, x, .inl rfl, rfl⟩
  ·rw [if_pos ho] at hE
   simp [hE]
   exact ⟨_, AV.le_refl _, _, hdr _ _, rfl, x, .inl rfl, rfl⟩
 by_cases e15 : kind = 15
 ·subst e15
  have hun := unprotected_calls (kS_prg h1 x)
  rw [kS_put h1] at hun
  simp at hE
  simp [hk1]
  refine callK.of hun ?_
  rintro v τ ⟨rfl, rfl⟩
  simp [hE]
  exact ⟨_, AV.le_refl _, _, hdr _ _, rfl, x, .inl rfl, rfl⟩
 by_cases e16 : kind = 16
 ·subst e16
  have hbd := kS_bd h1 x B.lock (!B.ins) B.aid
  simp only [byteA] at hbd
  simp at hE
  simp [hk1, hbd]
  simp [hE]
  exact ⟨_, AV.le_refl _, _, hdr _ _, rfl, x, .inl rfl, rfl⟩
 simp [e1, e2, e3, e4, e13, e14, e15, e16] at hE
 simp [e1, e2, e3, e4, e13, e14, e15, e16]
 simp [hE]
 exact ⟨_, AV.le_refl _, _, hdr _ _, rfl, x, .inl rfl, rfl⟩
end Go.Proofs.YtlmdbcgceijlnaaGreat
namespace Go.Proofs.YtlmdbcgceijlnaaGreat
open Go Go.AL Go.Sp
variable {σ : Store} {k q r b : Nat} {n : Int} {B : Bd}
def pfT : List Nat := [241, 242, 243, 244, 245, 246, 247, 248, 249, 122, 123, 124, 193, 194, 195, 196, 197, 198, 199, 200, 201, 74, 75, 76]
def paT : List Nat := [108, 110, 107]
def aidN (K : Key) : Option Nat :=
 if K.kind = 19 then some 125 else if K.kind = 22 then some 109
 else if K.kind = 20 ∧ 1 ≤ K.num ∧ K.num ≤ 24 then pfT[(K.num - 1).toNat]?
 else if K.kind = 21 ∧ 1 ≤ K.num ∧ K.num ≤ 3 then paT[(K.num - 1).toNat]? else none
theorem w0 : IntKind.i64.wrap 0 = 0 := by decide
theorem w1 : IntKind.i64.wrap 1 = 1 := by decide
theorem w2 : IntKind.i64.wrap 2 = 2 := by decide
theorem w3 : IntKind.i64.wrap 3 = 3 := by decide
theorem w4 : IntKind.i64.wrap 4 = 4 := by decide
theorem w5 : IntKind.i64.wrap 5 = 5 := by decide
theorem w6 : IntKind.i64.wrap 6 = 6 := by decide
theorem w7 : IntKind.i64.wrap 7 = 7 := by decide
theorem w8 : IntKind.i64.wrap 8 = 8 := by decide
theorem w9 : IntKind.i64.wrap 9 = 9 := by decide
theorem w10 : IntKind.i64.wrap 10 = 10 := by decide
theorem w11 : IntKind.i64.wrap 11 = 11 := by decide
theorem w12 : IntKind.i64.wrap 12 = 12 := by decide
theorem w13 : IntKind.i64.wrap 13 = 13 := by decide
theorem w14 : IntKind.i64.wrap 14 = 14 := by decide
theorem w15 : IntKind.i64.wrap 15 = 15 := by decide
theorem w16 : IntKind.i64.wrap 16 = 16 := by decide
theorem w17 : IntKind.i64.wrap 17 = 17 := by decide
theorem w18 : IntKind.i64.wrap 18 = 18 := by decide
theorem w19 : IntKind.i64.wrap 19 = 19 := by decide
theorem w20 : IntKind.i64.wrap 20 = 20 := by decide
theorem w21 : IntKind.i64.wrap 21 = 21 := by decide
theorem w22 : IntKind.i64.wrap 22 = 22 := by decide
theorem w23 : IntKind.i64.wrap 23 = 23 := by decide
theorem aid_calls (K : Key) (σ : Store) : ACalls Tryz.prog 47 [keyA K] σ fun v σ' => v = .tuple [.lit (.int .u8 ((aidN K).getD 0 : Nat)), .lit (.bool (aidN K).isSome)] ∧ σ' = σ := by
 obtain ⟨kind, sg, num⟩ := K
 refine aw st47 pl47 48 Tryz.func47 rfl ?_
 simp [keyA, keyC]
 intro z hz
 by_cases e19 : kind = 19
 ·subst e19
  simp [aidN]
  exact sub_upd_self _ _ _ hz
 by_cases e22 : kind = 22
 ·subst e22
  simp [aidN]
  exact sub_upd_self _ _ _ hz
 by_cases e20 : kind = 20
 ·subst e20
  by_cases hn : 1 ≤ num ∧ num ≤ 24
  ·obtain ⟨h1, h2⟩ := hn
   have h3 : num = 1 ∨ num = 2 ∨ num = 3 ∨ num = 4 ∨ num = 5 ∨ num = 6 ∨ num = 7 ∨ num = 8 ∨ num = 9 ∨ num = 10 ∨ num = 11 ∨ num = 12 ∨ num = 13 ∨ num = 14 ∨ num = 15 ∨ num = 16 ∨ num = 17 ∨ num = 18 ∨ num = 19 ∨ num = 20 ∨ num = 21 ∨ num = 22 ∨ num = 23 ∨ num = 24 := by omega
   rcases h3 with rfl | rfl | rfl | rfl | rfl | rfl | rfl | rfl | rfl | rfl | rfl | rfl | rfl | rfl | rfl | rfl | rfl | rfl | rfl | rfl | rfl | rfl | rfl | rfl <;>
    (simp [aidN, pfT, w4, w5, w6, w7, w8, w9, w10, w11, w12, w13, w14, w15, w16, w17, w18, w19, w20, w21, w22, w23]; exact sub_upd_self _ _ _ hz)
  ·have hf : aidN ⟨20, sg, num⟩ = none := by simp [aidN]; omega
   by_cases h1 : 1 ≤ num
   ·have h2 : ¬ num ≤ 24 := by omega
    simp [h1, h2, hf]
    exact sub_upd_self _ _ _ hz
   ·simp [h1, hf]
    exact ⟨by omega, sub_upd_self _ _ _ hz⟩
 by_cases e21 : kind = 21
 ·subst e21
  by_cases hn : 1 ≤ num ∧ num ≤ 3
  ·obtain ⟨h1, h2⟩ := hn
   have h3 : num = 1 ∨ num = 2 ∨ num = 3 := by omega
   rcases h3 with rfl | rfl | rfl <;>
    (simp [aidN, paT]; exact sub_upd_self _ _ _ hz)
  ·have hf : aidN ⟨21, sg, num⟩ = none := by simp [aidN]; omega
   by_cases h1 : 1 ≤ num
   ·have h2 : ¬ num ≤ 3 := by omega
    simp [h1, h2, hf]
    exact sub_upd_self _ _ _ hz
   ·simp [h1, hf]
    exact ⟨by omega, sub_upd_self _ _ _ hz⟩
 have hf : aidN ⟨kind, sg, num⟩ = none := by simp [aidN, e19, e22, e20, e21]
 simp [e19, e22, e20, e21, hf]
 exact sub_upd_self _ _ _ hz
end Go.Proofs.YtlmdbcgceijlnaaGreat
namespace Go.Proofs.YtlmdbcgceijlnaaGreat
open Go Go.AL Go.Sp
variable {σ : Store} {k q r b : Nat} {n : Int} {B : Bd}
def pressB (n : Int) (B : Bd) (K : Key) : Bd × Bool × Int :=
 if K.kind < 1 ∨ 22 < K.kind then (B, false, 1)
 else if K.kind = 17 then (resetB B, false, 0)
 else if ¬ B.lock = 0 then (B, false, 8)
 else if K.kind = 18 then chooseB n B
 else if (aidN K).isSome = true then
  ({ s := if K.kind = 22 then B.s.clear false else B.s, lock := 1, ins := false, aid := UInt8.ofNat ((aidN K).getD 0) }, true, 0)
 else if K.kind = 20 ∨ K.kind = 21 then (B, false, 1)
 else if (movK B.s K.kind).2 = true then ({ B with s := (movK B.s K.kind).1 }, false, 0)
 else ((enteredB n B K).1, false, (enteredB n B K).2)
theorem afterS_good {s : Sp} (h : s.good) : (afterS s).good := by
 unfold afterS
 split
 ·exact h.place _
 ·split
  ·exact (h.place _).place _
  ·exact (h.place _).place _
theorem entS_good {s : Sp} (h : s.good) (m : Nat) (c : UInt8) : (entS s m c).good := by
 have h1 : (setE s m c).good := h.set _ _
 have h2 := (modS_same h1 m).1
 unfold entS
 split
 ·exact h2.place _
 ·exact afterS_good h2
theorem enterB_good (h : B.s.good) (c : UInt8) : (enterB n B c).1.s.good := by
 unfold enterB
 split
 ·exact h
 ·split
  ·exact h
  ·split
   ·split
    ·exact h
    ·exact entS_good (insS_same h _ _).1 _ _
   ·exact entS_good h _ _
theorem charB_good (h : B.s.good) (sg : Int) : (charB n B sg).1.s.good := by
 unfold charB
 split
 ·exact enterB_good h _
 ·exact h
theorem unprotS_good {s : Sp} (h : s.good) : (unprotS s).good := by
 unfold unprotS
 split
 ·exact ((SameN.refl h).nullS _).1.place 0
 ·have hkp := (keep_unprotTo h s.attrs.length).same.1
  unfold unprotTo at hkp
  rw [List.take_length] at hkp
  exact hkp.place _
theorem enteredB_good (h : B.s.good) (K : Key) : (enteredB n B K).1.s.good := by
 unfold enteredB
 repeat' split
 all_goals first | exact h | exact charB_good h _ | exact enterB_good h _ | exact (delS_same h _).1 | exact (endS_same h _).1 | exact unprotS_good h
theorem movK_good {s : Sp} (h : s.good) (kind : Int) : (movK s kind).1.good := by
 unfold movK
 repeat' split
 all_goals first | exact h | exact h.place _
theorem chooseB_good (h : B.s.good) : (chooseB n B).1.s.good := by
 unfold chooseB
 dsimp only
 repeat' split
 all_goals first | exact h | exact (modS_same (h.put _ _) _).1 | exact h.put _ _ | exact (modS_same h _).1
theorem pressB_good (h : B.s.good) (K : Key) : (pressB n B K).1.s.good := by
 unfold pressB
 split
 ·exact h
 ·split
  ·exact h
  ·split
   ·exact h
   ·split
    ·exact chooseB_good h
    ·split
     ·dsimp only
      split
      ·exact Sp.clear_good h.model false
      ·exact h
     ·split
      ·exact h
      ·split
       ·exact movK_good h _
       ·exact enteredB_good h K
theorem pgS_sub {σ τ : Store} (h : Store.sub σ τ) (b : Nat) (n : Int) (x : Option Nat) : Store.sub (pgS b n x σ) (pgS b n x τ) := by
 have h1 : ∀ Y, Store.sub (σ.upd b Y) (τ.upd b Y) := fun Y => by
  refine Store.sub2 (fun o => ?_) (fun i => by simpa using h (mkey i))
  simp only [supd_apply]
  by_cases e : o = b
  ·right; simp [e]
  ·simp only [if_neg e]; exact h o
 cases x with
 | none => exact h1 _
 | some q =>
  unfold pgS
  dsimp only
  refine Store.sub2 (fun o => by simpa using h1 (pgA (.built n q)) o) (fun i => ?_)
  by_cases e : i = q
  ·right; simp [e]
  ·have := h1 (pgA (.built n q)) (mkey i)
   simpa [e] using this
theorem kS_clear {p : Nat} (h : KOk σ k q r b n B) (x : Option Nat) (f : Free σ k q r b p) (s : Sp) : Store.sub (kS σ k q p b n x { B with s := s }) (putS spO (kS σ k q r b n x B) q p s) := by
 have h1 : ¬ q = p := fun e => f.q e.symm
 have h2 : ¬ k = p := fun e => f.k e.symm
 have h4 : ¬ b = p := fun e => f.b e.symm
 unfold kS putS bdO
 rw [pgS_upd h.qb, pgS_upd f.b]
 have key : Store.sub (((σ.upd q (spO s p)).upd p (cellsO s.cells)).upd k [ptrA q, ptrA b, .lit (.int .i64 B.lock), .lit (.bool B.ins), byteA B.aid])
   ((((((σ.upd q (spO B.s r)).upd r (cellsO B.s.cells)).upd k [ptrA q, ptrA b, .lit (.int .i64 B.lock), .lit (.bool B.ins), byteA B.aid]).upd q (spO s p)).upd p (cellsO s.cells))) := by
  refine Store.sub2 (fun o => ?_) (fun i => by simp)
  simp only [supd_apply]
  by_cases e1 : o = p
  ·subst e1; right; simp [f.k]
  ·by_cases e2 : o = q
   ·subst e2; right; simp [e1, Ne.symm h.kq]
   ·by_cases e3 : o = k
    ·subst e3; right; simp [e1, e2]
    ·by_cases e4 : o = r
     ·subst e4; left; simp [e1, e2, e3, h.none]
     ·right; simp [e1, e2, e3, e4]
 exact pgS_sub key b n x
end Go.Proofs.YtlmdbcgceijlnaaGreat
namespace Go.Proofs.YtlmdbcgceijlnaaGreat
open Go Go.AL Go.Sp
variable {σ : Store} {k q r b : Nat} {n : Int} {B : Bd}
theorem aidN_lt {K : Key} {j : Nat} (h : aidN K = some j) : j < 256 := by
 have h1 : ∀ j ∈ pfT, j < 256 := by decide
 have h2 : ∀ j ∈ paT, j < 256 := by decide
 unfold aidN at h
 repeat' split at h
 ·cases h; omega
 ·cases h; omega
 ·exact h1 _ (List.mem_of_getElem? h)
 ·exact h2 _ (List.mem_of_getElem? h)
 ·cases h
theorem KOk.row (h : KOk σ k q r b n B) {p : Nat} (f : Free σ k q r b p) {B2 : Bd} (hg : B2.s.good) : KOk σ k q p b n B2 :=
 ⟨h.kq, fun e => f.k e.symm, h.kb, fun e => f.q e.symm, h.qb, fun e => f.b e, f.free, h.page, hg⟩
theorem kclear_calls (h : KOk σ k q r b n B) (x : Option Nat) : ACalls Tryz.prog 41 [ptrA q, .lit (.bool false)] (kS σ k q r b n x B) fun v σ' => v = .tuple [] ∧ ∃ p : Nat, Free σ k q r b p ∧ σ' = kS σ k q p b n x { B with s := B.s.clear false } := by
 have hq := kS_q h x
 unfold spO at hq
 refine (clear_calls false h.good.model hq).shift ?_
 rintro v τ ⟨rfl, p, hp, rfl⟩
 have f := kS_free h hp
 exact .inl ⟨_, _, AV.le_refl _, kS_clear h x f _, rfl, p, f, rfl⟩
theorem press_calls (h : KOk σ k q r b n B) (x : Option Nat) (K : Key) : ACalls Tryz.prog 12 [ptrA k, keyA K] (kS σ k q r b n x B) fun v σ' => v = .tuple [.lit (.bool (pressB n B K).2.1), .lit (.int .i64 (pressB n B K).2.2)] ∧
  ∃ (r' : Nat) (x' : Option Nat), KOk σ k q r' b n (pressB n B K).1 ∧ NxP σ x x' ∧ σ' = kS σ k q r' b n x' (pressB n B K).1 := by
 have hgood := pressB_good (n := n) h.good K
 have haid := fun τ => aid_calls K τ
 have hlt := @aidN_lt K
 have hE : ∀ o, aidN K = o → pressB n B K = if K.kind < 1 ∨ 22 < K.kind then (B, false, 1)
  else if K.kind = 17 then (resetB B, false, 0)
  else if ¬ B.lock = 0 then (B, false, 8)
  else if K.kind = 18 then chooseB n B
  else if o.isSome = true then
   ({ s := if K.kind = 22 then B.s.clear false else B.s, lock := 1, ins := false, aid := UInt8.ofNat (o.getD 0) }, true, 0)
  else if K.kind = 20 ∨ K.kind = 21 then (B, false, 1)
  else if (movK B.s K.kind).2 = true then ({ B with s := (movK B.s K.kind).1 }, false, 0)
  else ((enteredB n B K).1, false, (enteredB n B K).2) := by rintro _ rfl; rfl
 have hE := hE _ rfl
 have hen := fun (σ1 : Store) (h1 : KOk σ1 k q r b n B) (x : Option Nat) => entered_calls h1 x K
 generalize hP : pressB n B K = P at *
 generalize hao : aidN K = ao at *
 generalize hen0 : enteredB n B K = en at *
 obtain ⟨kind, sg, num⟩ := K
 dsimp only at hE
 simp only [keyA, keyC] at haid hen
 refine aw st12 pl12 75 Tryz.func12 rfl ?_
 simp [keyA, keyC]
 intro z hz
 have fz := kS_free h hz
 simp only [kS_new fz]
 have h1 := fz.ok h [.lit (.int .i64 kind), .lit (.int .i32 sg), .lit (.int .i64 num)]
 have hzv := fun x2 B2 => kS_other (n := n) fz x2 B2 [.lit (.int .i64 kind), .lit (.int .i32 sg), .lit (.int .i64 num)]
 have hdr := fun x2 B2 => fz.drop (n := n) x2 B2 [.lit (.int .i64 kind), .lit (.int .i32 sg), .lit (.int .i64 num)]
 have hmk : ∀ g : Nat, (σ.upd z [.lit (.int .i64 kind), .lit (.int .i32 sg), .lit (.int .i64 num)]) (mkey g) = σ (mkey g) := fun g => by simp
 have hσz : (σ.upd z [.lit (.int .i64 kind), .lit (.int .i32 sg), .lit (.int .i64 num)]) z = some [.lit (.int .i64 kind), .lit (.int .i32 sg), .lit (.int .i64 num)] := by simp
 have hdrp : ∀ p : Nat, ¬ z = p → ∀ x2 B2, Store.sub (kS σ k q p b n x2 B2) (kS (σ.upd z [.lit (.int .i64 kind), .lit (.int .i32 sg), .lit (.int .i64 num)]) k q p b n x2 B2) := fun p hp x2 B2 =>
  Free.drop (r := p) (n := n) ⟨fz.k, fz.q, hp, fz.b, fz.free⟩ x2 B2 [.lit (.int .i64 kind), .lit (.int .i32 sg), .lit (.int .i64 num)]
 have hσ1 : ∀ o : Nat, ¬ o = z → (σ.upd z [.lit (.int .i64 kind), .lit (.int .i32 sg), .lit (.int .i64 num)]) o = σ o := fun o ho => by simp [ho]
 generalize σ.upd z [.lit (.int .i64 kind), .lit (.int .i32 sg), .lit (.int .i64 num)] = σ1 at *
 have hk1 := fun xc => kS_k' h1 xc
 simp only [byteA] at hk1
 have hz1 := hzv x B
 have fin : ∀ (x2 : Option Nat) (B2 : Bd), NxP σ1 x x2 → P.1 = B2 → ∃ r' : Nat, KOk σ k q r' b n P.1 ∧ ∃ x', NxP σ x x' ∧ kS σ k q r b n x2 B2 = kS σ k q r' b n x' P.1 := fun x2 B2 nx e => ⟨r, h.s hgood, x2, nx.of hmk, by rw [e]⟩
 refine callK.of (haid _) ?_
 rintro v τ ⟨rfl, rfl⟩
 simp [hz1]
 by_cases c1 : kind < 1 ∨ 22 < kind
 ·rw [if_pos c1] at hE
  have e1 : P.1 = B := by rw [hE]
  by_cases c2 : kind < 1
  ·have c3 : ¬ 1 ≤ kind := by omega
   simp [c2, c3]
   refine ⟨_, AV.le_refl _, _, hdr x B, by rw [hE], fin x B (.inl rfl) e1⟩
  ·have c3 : 1 ≤ kind := by omega
   have c4 : 22 < kind := by omega
   have c5 : ¬ kind ≤ 22 := by omega
   simp [c2, c3, c4]
   refine ⟨_, AV.le_refl _, _, hdr x B, by rw [hE], fin x B (.inl rfl) e1⟩
 rw [if_neg c1] at hE
 have c2 : ¬ kind < 1 := by omega
 have c3 : 1 ≤ kind := by omega
 have c4 : ¬ 22 < kind := by omega
 have c5 : kind ≤ 22 := by omega
 by_cases e17 : kind = 17
 ·subst e17
  rw [if_pos rfl] at hE
  simp
  refine callK.of (reset_calls h1 x) ?_
  rintro v τ ⟨rfl, rfl⟩
  simp
  refine ⟨_, AV.le_refl _, _, hdr _ _, by rw [hE], fin x _ (.inl rfl) (by rw [hE])⟩
 rw [if_neg e17] at hE
 by_cases hl : B.lock = 0
 ·rw [if_neg (by simp [hl])] at hE
  simp [hz1, c2, c3, c4, e17, hk1, hl]
  by_cases e18 : kind = 18
  ·subst e18
   rw [if_pos rfl] at hE
   simp
   refine callK.of (choose_calls h1 x) ?_
   rintro v τ ⟨rfl, xc, nx, rfl⟩
   rw [← hE]
   simp
   refine ⟨_, AV.le_refl _, _, hdr _ _, rfl, fin xc _ nx rfl⟩
  rw [if_neg e18] at hE
  cases ao with
  | some a =>
   have ha := hlt rfl
   have hu : (UInt8.ofNat a).toNat = a := by simp; omega
   rw [if_pos (by simp)] at hE
   by_cases e22 : kind = 22
   ·subst e22
    rw [if_pos rfl] at hE
    simp [e18]
    refine callK.of (kclear_calls h1 x) ?_
    rintro v τ ⟨rfl, p, f, rfl⟩
    have hpz : ¬ p = z := by
     rintro rfl
     have := f.free
     rw [hσz] at this; cases this
    have f0 : Free σ k q r b p := ⟨f.k, f.q, f.r, f.b, by rw [← hσ1 p hpz]; exact f.free⟩
    have hg : (B.s.clear false).good := Sp.clear_good h.good.model false
    have H2 : KOk σ1 k q p b n { B with s := B.s.clear false } := h1.row f hg
    have hsn := send_calls H2 x (UInt8.ofNat a)
    simp only [byteA, hu] at hsn
    simp
    refine callK.of hsn ?_
    rintro v τ ⟨rfl, rfl⟩
    simp
    refine ⟨_, AV.le_refl _, _, hdrp p (fun e => hpz e.symm) _ _, by rw [hE], p, h.row f0 hgood, x, .inl rfl, by rw [hE]; rfl⟩
   ·rw [if_neg e22] at hE
    have hsn := send_calls h1 x (UInt8.ofNat a)
    simp only [byteA, hu] at hsn
    simp [e18, e22]
    refine callK.of hsn ?_
    rintro v τ ⟨rfl, rfl⟩
    simp
    refine ⟨_, AV.le_refl _, _, hdr _ _, by rw [hE], fin x _ (.inl rfl) (by rw [hE]; rfl)⟩
  | none =>
   rw [if_neg (by simp)] at hE
   by_cases e20 : kind = 20
   ·rw [if_pos (.inl e20)] at hE
    simp [e20]
    refine ⟨_, AV.le_refl _, _, hdr _ _, by rw [hE], fin x _ (.inl rfl) (by rw [hE])⟩
   by_cases e21 : kind = 21
   ·rw [if_pos (.inr e21)] at hE
    simp [e21]
    refine ⟨_, AV.le_refl _, _, hdr _ _, by rw [hE], fin x _ (.inl rfl) (by rw [hE])⟩
   rw [if_neg (by simp [e20, e21])] at hE
   simp [e18, e20, e21]
   refine callK.of (bmove_calls h1 x kind) ?_
   rintro v τ ⟨rfl, rfl⟩
   cases hmv : (movK B.s kind).2
   ·rw [if_neg (by simp [hmv])] at hE
    have hms : (movK B.s kind).1 = B.s := by
     unfold movK at hmv ⊢
     repeat' split at hmv
     all_goals first | cases hmv | skip
     simp [*]
    rw [hms]
    simp [hz1]
    refine callK.of (hen σ1 h1 x) ?_
    rintro v τ ⟨rfl, xc, nx, rfl⟩
    simp
    refine ⟨_, AV.le_refl _, _, hdr _ _, by rw [hE], fin xc _ nx (by rw [hE])⟩
   ·rw [if_pos hmv] at hE
    simp
    refine ⟨_, AV.le_refl _, _, hdr _ _, by rw [hE], fin x _ (.inl rfl) (by rw [hE])⟩
 ·rw [if_pos hl] at hE
  have hl2 : ¬ (0 : Int) = B.lock := fun e => hl e.symm
  simp [c2, c3, c4, e17, hk1, hl]
  refine ⟨_, AV.le_refl _, _, hdr x B, by rw [hE], fin x B (.inl rfl) (by rw [hE])⟩
end Go.Proofs.YtlmdbcgceijlnaaGreat
namespace Go.Proofs.YtlmdbcgceijlnaaGreat
open Go Go.AL Go.Sp
theorem alt_calls {q p : Nat} {s : Sp} {σ : Store} (h : Prg σ q p s) : ACalls Tryz.prog 28 [ptrA q] σ fun v σ' => v = .lit (.bool s.alt) ∧ σ' = σ := by
 have ho := h.obj
 unfold spO at ho
 refine aw st28 pl28 11 Tryz.func28 rfl ?_
 simp [ho]
end Go.Proofs.YtlmdbcgceijlnaaGreat
