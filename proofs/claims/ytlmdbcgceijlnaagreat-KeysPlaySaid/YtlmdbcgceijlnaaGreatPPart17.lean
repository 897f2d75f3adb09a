/-
 The keyboard: its state in a store; its small functions.
-/
import Derived.Test.YtlmdbcgceijlnaaGreatPPart16
set_option linter.unusedSimpArgs false
set_option linter.unusedVariables false
set_option maxRecDepth 8000
set_option maxHeartbeats 8000000

namespace Go.Proofs.YtlmdbcgceijlnaaGreat
open Go Go.AL Go.Sp
def skipF (f : Fld) : Bool := f.prot && f.num
theorem skipF_calls (f : Fld) (σ : Store) : ACalls Tryz.prog 151 [fldA f] σ fun v σ' => v = .lit (.bool (skipF f)) ∧ σ' = σ := skip_calls f σ
def afterS (s : Sp) : Sp :=
 if ((moveS s 0 1).at ((moveS s 0 1).cursor : Nat)).attr = false then moveS s 0 1
 else if skipF (fld ((moveS s 0 1).at ((moveS s 0 1).cursor : Nat)).fa) = true then tabS (moveS s 0 1) else moveS (moveS s 0 1) 0 1
theorem moveS_good {s : Sp} (h : s.good) (a b : Int) : (moveS s a b).good := h.place _
theorem after_calls {q r : Nat} {s : Sp} {σ : Store} (h : Prg σ q r s) : ACalls Tryz.prog 131 [ptrA q] σ fun v σ' => v = .tuple [] ∧ σ' = putS spO σ q r (afterS s) := by
 have hm := cmove_calls h 0 1
 have hne := h.ne
 have hP : Prg (putS spO σ q r (moveS s 0 1)) q r (moveS s 0 1) := Scr.of_put hne (moveS_good h.good 0 1)
 unfold afterS
 generalize moveS s 0 1 = t at *
 have hcu := cursor_calls hP
 have hat := at_calls hP (t.cursor : Int)
 have htab := fun τ (hτ : Prg τ q r t) => tab_calls hτ
 have hmo := fun τ (hτ : Prg τ q r t) => cmove_calls hτ 0 1
 have hof := fun (c : UInt8) τ => of_calls c τ
 have hsk := fun (f : Fld) τ => skipF_calls f τ
 have hfa : ∀ f : Fld, fldA f = .agg [.lit (.bool f.prot), .lit (.bool f.num), .lit (.int .i64 f.disp), .lit (.bool f.mod)] := fun _ => rfl
 generalize hc : t.at (t.cursor : Int) = c at *
 simp only [cellA_eq] at hat
 have hupd : ∀ (b : Nat) X (t2 : Sp), (putS spO σ q r t) b = none → Store.sub (putS spO σ q r t2) (putS spO ((putS spO σ q r t).upd b X) q r t2) := fun b X t2 hb => by
  have hf := hP.fresh hb
  rw [putS_upd _ _ hf.2.2.1 hf.2.2.2, putS_put hne]
  exact sub_upd_self _ _ _ (by rw [putS_at hf.2.2.1 hf.2.2.2] at hb ⊢; exact hb)
 refine aw st131 pl131 22 Tryz.func131 rfl ?_
 simp
 refine callK.of hm ?_
 rintro v σ' ⟨rfl, rfl⟩
 simp
 refine callK.of hcu ?_
 rintro v σ' ⟨rfl, rfl⟩
 simp
 refine callK.of hat ?_
 rintro v σ' ⟨rfl, rfl⟩
 simp [byteA] at hof ⊢
 intro b hb
 cases ha : c.attr
 ·simp
  exact sub_upd_self _ _ _ hb
 ·simp
  refine callK.of (hof c.fa _) ?_
  rintro v σ' ⟨rfl, rfl⟩
  generalize fld c.fa = f at *
  simp only [hfa] at hsk ⊢
  simp
  refine callK.of (hsk f _) ?_
  rintro v σ' ⟨rfl, rfl⟩
  generalize skipF f = z at *
  cases z
  ·simp
   refine callK.of (hmo _ (hP.new hb _)) ?_
   rintro v σ' ⟨rfl, rfl⟩
   simp
   exact hupd b _ _ hb
  ·simp
   refine callK.of (htab _ (hP.new hb _)) ?_
   rintro v σ' ⟨rfl, rfl⟩
   simp
   exact hupd b _ _ hb
structure Bd where
 s : Sp
 lock : Int
 ins : Bool
 aid : UInt8
def bdO (q pb : Nat) (B : Bd) : List AV := [ptrA q, ptrA pb, .lit (.int .i64 B.lock), .lit (.bool B.ins), byteA B.aid]
def kS (σ : Store) (k q r b : Nat) (n : Int) (x : Option Nat) (B : Bd) : Store := pgS b n x ((putS spO σ q r B.s).upd k (bdO q b B))
structure KOk (σ : Store) (k q r b : Nat) (n : Int) (B : Bd) : Prop where
 kq : ¬ k = q
 kr : ¬ k = r
 kb : ¬ k = b
 qr : ¬ q = r
 qb : ¬ q = b
 rb : ¬ r = b
 none : σ r = none
 page : isPage n
 good : B.s.good
variable {σ : Store} {k q r b : Nat} {n : Int} {B : Bd}
theorem kS_k (h : KOk σ k q r b n B) (x : Option Nat) : (kS σ k q r b n x B) k = some (bdO q b B) := by
 unfold kS; rw [pgS_other h.kb]; simp
theorem kS_k' (h : KOk σ k q r b n B) (x : Option Nat) : (kS σ k q r b n x B) k = some [ptrA q, ptrA b, .lit (.int .i64 B.lock), .lit (.bool B.ins), byteA B.aid] := kS_k h x
theorem kS_q (h : KOk σ k q r b n B) (x : Option Nat) : (kS σ k q r b n x B) q = some (spO B.s r) := by
 unfold kS; rw [pgS_other h.qb]; simp [putS, Ne.symm h.kq, h.qr]
theorem kS_r (h : KOk σ k q r b n B) (x : Option Nat) : (kS σ k q r b n x B) r = some (cellsO B.s.cells) := by
 unfold kS; rw [pgS_other h.rb]; simp [putS]
 intro e; exact absurd e.symm h.kr
theorem kS_prg (h : KOk σ k q r b n B) (x : Option Nat) : Prg (kS σ k q r b n x B) q r B.s := ⟨kS_q h x, kS_r h x, h.qr, h.good⟩
theorem kS_put (h : KOk σ k q r b n B) (x : Option Nat) (s : Sp) : putS spO (kS σ k q r b n x B) q r s = kS σ k q r b n x { B with s := s } := by
 unfold kS putS bdO
 rw [pgS_upd h.qb, pgS_upd h.rb]
 congr 1
 refine Store.ext2 (fun o => ?_) (fun i => by simp)
 simp only [supd_apply]
 by_cases h1 : o = r
 ·subst h1; simp [Ne.symm h.kr]
 ·by_cases h2 : o = q
  ·subst h2; simp [h1, Ne.symm h.kq]
  ·simp [h1, h2]
theorem kS_bd (h : KOk σ k q r b n B) (x : Option Nat) (lock : Int) (ins : Bool) (aid : UInt8) : (kS σ k q r b n x B).upd k [ptrA q, ptrA b, .lit (.int .i64 lock), .lit (.bool ins), byteA aid] = kS σ k q r b n x { B with lock := lock, ins := ins, aid := aid } := by
 unfold kS bdO
 rw [pgS_upd h.kb]
 congr 1
 refine Store.ext2 (fun o => ?_) (fun i => by simp)
 simp only [supd_apply]
 by_cases h1 : o = k <;> simp [h1]
theorem KOk.s (h : KOk σ k q r b n B) {B2 : Bd} (hs : B2.s.good) : KOk σ k q r b n B2 := { h with good := hs }
end Go.Proofs.YtlmdbcgceijlnaaGreat
namespace Go.Proofs.YtlmdbcgceijlnaaGreat
open Go Go.AL Go.Sp
variable {σ : Store} {k q r b : Nat} {n : Int} {B : Bd}
def refE (lock : Int) : Int := if lock = 3 then 14 else if lock = 4 then 7 else 13
theorem refuse_calls (h : KOk σ k q r b n B) (x : Option Nat) (lock : Int) (hl : lock = 2 ∨ lock = 3 ∨ lock = 4) : ACalls Tryz.prog 81 [ptrA k, .lit (.int .i64 lock)] (kS σ k q r b n x B) fun v σ' => v = .lit (.int .i64 (refE lock)) ∧ σ' = kS σ k q r b n x { B with lock := lock } := by
 have hk := kS_k' h x
 have hb := fun l => kS_bd h x l B.ins B.aid
 simp only [byteA] at hb hk
 generalize kS σ k q r b n x B = ρ at *
 refine aw st81 pl81 14 Tryz.func81 rfl ?_
 rcases hl with rfl | rfl | rfl <;> simp [hk, hb, refE]
theorem done_calls (h : KOk σ k q r b n B) (x : Option Nat) (ok : Bool) : ACalls Tryz.prog 92 [ptrA k, .lit (.bool ok)] (kS σ k q r b n x B) fun v σ' => v = .lit (.int .i64 (if ok = true then 0 else 13)) ∧ σ' = kS σ k q r b n x (if ok = true then B else { B with lock := 2 }) := by
 have hr := refuse_calls h x 2 (.inl rfl)
 refine aw st92 pl92 9 Tryz.func92 rfl ?_
 cases ok
 ·simp
  refine callK.of hr ?_
  rintro v σ' ⟨rfl, rfl⟩
  simp [refE]
 ·simp
theorem send_calls (h : KOk σ k q r b n B) (x : Option Nat) (aid : UInt8) : ACalls Tryz.prog 50 [ptrA k, byteA aid] (kS σ k q r b n x B) fun v σ' => v = .tuple [] ∧ σ' = kS σ k q r b n x { B with lock := 1, ins := false, aid := aid } := by
 have hk := kS_k' h x
 have hb := fun l => kS_bd h x l false aid
 simp only [byteA] at hb hk
 generalize kS σ k q r b n x B = ρ at *
 refine aw st50 pl50 14 Tryz.func50 rfl ?_
 simp [byteA, hk, hb]
def resetB (B : Bd) : Bd := { B with lock := if B.lock = 1 then 1 else 0, ins := false }
theorem reset_calls (h : KOk σ k q r b n B) (x : Option Nat) : ACalls Tryz.prog 48 [ptrA k] (kS σ k q r b n x B) fun v σ' => v = .tuple [] ∧ σ' = kS σ k q r b n x (resetB B) := by
 have hk := kS_k' h x
 have hb := fun l => kS_bd h x l false B.aid
 unfold resetB
 simp only [byteA] at hb hk
 refine aw st48 pl48 13 Tryz.func48 rfl ?_
 by_cases hl : B.lock = 1
 ·rw [hl] at hk
  rw [if_pos hl]
  generalize kS σ k q r b n x B = ρ at *
  simp [hk, hb]
 ·have hl2 : ¬ (1 : Int) = B.lock := fun e => hl e.symm
  rw [if_neg hl]
  generalize kS σ k q r b n x B = ρ at *
  simp [hk, hb, hl]
theorem lock_calls (h : KOk σ k q r b n B) (x : Option Nat) : ACalls Tryz.prog 34 [ptrA k] (kS σ k q r b n x B) fun v σ' => v = .lit (.int .i64 B.lock) ∧ σ' = kS σ k q r b n x B := by
 have hk := kS_k' h x
 simp only [byteA] at hk
 refine aw st34 pl34 9 Tryz.func34 rfl ?_
 generalize kS σ k q r b n x B = ρ at *
 simp [hk]
theorem wait_calls (h : KOk σ k q r b n B) (x : Option Nat) : ACalls Tryz.prog 33 [ptrA k] (kS σ k q r b n x B) fun v σ' => v = .tuple [] ∧ σ' = kS σ k q r b n x { B with lock := 1 } := by
 have hk := kS_k' h x
 have hb := fun l => kS_bd h x l B.ins B.aid
 simp only [byteA] at hk hb
 refine aw st33 pl33 7 Tryz.func33 rfl ?_
 generalize kS σ k q r b n x B = ρ at *
 simp [hk, hb]
theorem restore_calls (h : KOk σ k q r b n B) (x : Option Nat) : ACalls Tryz.prog 32 [ptrA k] (kS σ k q r b n x B) fun v σ' => v = .tuple [] ∧ σ' = kS σ k q r b n x { B with lock := 0, aid := 0x60 } := by
 have hk := kS_k' h x
 have hb := fun l => kS_bd h x l B.ins 0x60
 have e96 : byteA 0x60 = .lit (.int .u8 96) := rfl
 simp only [e96] at hb
 simp only [byteA] at hk
 refine aw st32 pl32 10 Tryz.func32 rfl ?_
 generalize kS σ k q r b n x B = ρ at *
 simp [hk, hb]
theorem inserts_calls (h : KOk σ k q r b n B) (x : Option Nat) : ACalls Tryz.prog 35 [ptrA k] (kS σ k q r b n x B) fun v σ' => v = .lit (.bool B.ins) ∧ σ' = kS σ k q r b n x B := by
 have hk := kS_k' h x
 refine aw st35 pl35 11 Tryz.func35 rfl ?_
 generalize kS σ k q r b n x B = ρ at *
 simp [hk]
theorem baid_calls (h : KOk σ k q r b n B) (x : Option Nat) : ACalls Tryz.prog 25 [ptrA k] (kS σ k q r b n x B) fun v σ' => v = byteA B.aid ∧ σ' = kS σ k q r b n x B := by
 have hk := kS_k' h x
 refine aw st25 pl25 9 Tryz.func25 rfl ?_
 generalize kS σ k q r b n x B = ρ at *
 simp [hk]
theorem NxP.base {σ : Store} {q r k : Nat} {s : Sp} {X : List AV} {x y : Option Nat} (h : NxP ((putS spO σ q r s).upd k X) x y) : NxP σ x y := by
 rcases h with h | ⟨g, h1, h2⟩
 ·exact .inl h
 ·exact .inr ⟨g, h1, by simpa [putS] using h2⟩
theorem NxP.of {σ σ1 : Store} {x y : Option Nat} (h : NxP σ1 x y) (hm : ∀ g : Nat, σ1 (mkey g) = σ (mkey g)) : NxP σ x y := by
 rcases h with h | ⟨g, h1, h2⟩
 ·exact .inl h
 ·exact .inr ⟨g, h1, by rw [← hm]; exact h2⟩
structure Free (σ : Store) (k q r b z : Nat) : Prop where
 k : ¬ z = k
 q : ¬ z = q
 r : ¬ z = r
 b : ¬ z = b
 free : σ z = none
theorem kS_free {z : Nat} (h : KOk σ k q r b n B) {x : Option Nat} (hz : (kS σ k q r b n x B) z = none) : Free σ k q r b z := by
 have h1 : ¬ z = k := by rintro rfl; rw [kS_k h x] at hz; cases hz
 have h2 : ¬ z = q := by rintro rfl; rw [kS_q h x] at hz; cases hz
 have h3 : ¬ z = r := by rintro rfl; rw [kS_r h x] at hz; cases hz
 have h4 : ¬ z = b := by rintro rfl; unfold kS at hz; rw [pgS_cell] at hz; cases hz
 refine ⟨h1, h2, h3, h4, ?_⟩
 unfold kS at hz
 rw [pgS_other h4] at hz
 simpa [putS, h1, h2, h3] using hz
theorem Free.at {z : Nat} (f : Free σ k q r b z) (x : Option Nat) (B : Bd) : (kS σ k q r b n x B) z = none := by
 unfold kS
 rw [pgS_other f.b]
 simp [putS, f.k, f.q, f.r, f.free]
theorem kS_new {z : Nat} (f : Free σ k q r b z) (x : Option Nat) (B : Bd) (X : List AV) : (kS σ k q r b n x B).upd z X = kS (σ.upd z X) k q r b n x B := by
 unfold kS putS
 rw [pgS_upd f.b]
 congr 1
 refine Store.ext2 (fun o => ?_) (fun i => by simp)
 simp only [supd_apply]
 by_cases h1 : o = z
 ·subst h1; simp [f.k, f.q, f.r]
 ·simp [h1]
theorem Free.ok {z : Nat} (f : Free σ k q r b z) (h : KOk σ k q r b n B) (X : List AV) : KOk (σ.upd z X) k q r b n B := { h with none := by have := f.r; simp [Ne.symm this, h.none] }
theorem Free.drop {z : Nat} (f : Free σ k q r b z) (x : Option Nat) (B : Bd) (X : List AV) : Store.sub (kS σ k q r b n x B) (kS (σ.upd z X) k q r b n x B) := by
 rw [← kS_new f]
 exact Store.sub_upd (f.at x B) (Store.sub_refl _)
end Go.Proofs.YtlmdbcgceijlnaaGreat
