/-
 No key changes what is protected: the plain law.
-/
import Derived.Test.YtlmdbcgceijlnaaGreatPPart21
set_option linter.unusedSimpArgs false
set_option linter.unusedVariables false
set_option maxRecDepth 8000
set_option maxHeartbeats 8000000

namespace Go.Proofs.YtlmdbcgceijlnaaGreat
open Go Go.AL Go.Sp
def cellAt (s : Sp) (i : Nat) : Cell := s.cells[i]?.getD .zero
theorem cellAt_fit {s : Sp} (h : s.good) (i : Nat) : Sp.fit (cellAt s i) = cellAt s i := by
 unfold cellAt
 cases hx : s.cells[i]? with
 | none => rfl
 | some c => exact h.fit c (List.mem_of_getElem? hx)
theorem cellAt_at {s : Sp} {k : Nat} (hk : k < s.n) : s.at (k : Int) = cellAt s k := by
 unfold Sp.at cellAt
 rw [show wrap s.n (k : Int) = k from wrap_of_lt hk]
theorem cellAt_set {s : Sp} (h : s.good) {k : Nat} (hk : k < s.n) (c : Cell) (i : Nat) : cellAt (s.set (k : Int) c) i = if i = k then Sp.fit c else cellAt s i := by
 have hw : wrap s.n (k : Int) = k := wrap_of_lt hk
 have hl := h.len
 unfold cellAt Sp.set Sp.put1
 rw [hw]
 simp only
 rw [List.getElem?_set]
 by_cases e : k = i
 ·subst e; simp [show k < s.cells.length by omega]
 ·rw [if_neg e, if_neg (fun x => e x.symm)]
theorem cellAt_put {s : Sp} (h : s.good) {k : Nat} (hk : k < s.n) (hat : attrAt s.cells k = false) (x : UInt8) (i : Nat) : cellAt (s.put (k : Int) x) i = if i = k then { cellAt s i with char := x } else cellAt s i := by
 have hf := cellAt_fit h k
 have ha : ¬ (cellAt s k).attr = true := by have e : attrAt s.cells k = (cellAt s k).attr := rfl; rw [← e, hat]; simp
 unfold Sp.put
 rw [cellAt_at hk, if_neg ha, cellAt_set h hk]
 by_cases e : i = k
 ·rw [if_pos e, if_pos e, e]
  unfold Sp.fit at hf ⊢
  rw [if_neg ha] at hf
  simp only
  rw [if_neg ha]
  have : (cellAt s k).fa = 0 := by rw [← hf]
  rw [this]
 ·rw [if_neg e, if_neg e]
theorem keep_put {s t : Sp} (h : KeepA s t) (i : Int) (x : UInt8) : KeepA s (t.put i x) := by
 refine ⟨h.same.put _ _, fun j => ?_⟩
 unfold Sp.put
 split
 ·exact h.attr j
 ·next ha =>
  rw [attrAt_set h.same.1]
  split
  ·next e => rw [← h.attr j, e]; unfold Sp.at attrAt; rfl
  ·exact h.attr j
theorem six_or1 (b : UInt8) : Sp.six b = b → Sp.six (b ||| 1) = b ||| 1 := all_bytes (p := fun b => Sp.six b = b → Sp.six (b ||| 1) = b ||| 1) (by decide +kernel) b
theorem mk1_fit {c : Cell} (h : Sp.fit c = c) (ha : c.attr = true) : Sp.fit (mk1 c) = mk1 c := by
 unfold Sp.fit at h ⊢
 rw [if_pos ha] at h
 have hc : (mk1 c).attr = true := ha
 rw [if_pos hc]
 have h1 : c.char = 0 := by rw [← h]
 have h2 : Sp.six c.fa = c.fa := congrArg Cell.fa h
 unfold mk1
 simp only
 rw [six_or1 _ h2, h1]
theorem clr_fit {c : Cell} (h : Sp.fit c = c) (ha : c.attr = true) : Sp.fit (clr c) = clr c := by
 unfold Sp.fit at h ⊢
 rw [if_pos ha] at h
 have hc : (clr c).attr = true := ha
 rw [if_pos hc]
 have h1 : c.char = 0 := by rw [← h]
 have h2 : Sp.six c.fa = c.fa := congrArg Cell.fa h
 have h3 : Sp.six (c.fa &&& 0xfe) = c.fa &&& 0xfe := by
  conv => rhs; rw [← h2]
  generalize c.fa = b
  revert b; apply all_bytes; decide +kernel
 unfold clr
 simp only
 rw [h3, h1]
theorem cellAt_unmod {s : Sp} (h : s.good) {a : Nat} (ha : a < s.n) (hat : attrAt s.cells a = true) (i : Nat) : cellAt (unmod1 s a) i = if i = a then clr (cellAt s i) else cellAt s i := by
 unfold unmod1
 rw [cellAt_at ha, cellAt_set h ha]
 by_cases e : i = a
 ·rw [if_pos e, if_pos e, e, clr_fit (cellAt_fit h a) hat]
 ·rw [if_neg e, if_neg e]
theorem start_attr {s : Sp} (h : s.good) {n : Nat} (hn : n < s.n) (hc : ¬ startS s.cells n = -1) : ∃ a, startS s.cells n = (a : Nat) ∧ a < s.n ∧ attrAt s.cells a = true := by
 have h0 : ¬ s.count = 0 := fun e => hc (startS_none e n)
 cases hat : attrAt s.cells n
 ·obtain ⟨a, ha⟩ := in_field h hn h0 hat
  exact ⟨a, ha.start, ha.lt, ha.attr⟩
 ·exact ⟨n, startS_attr hat, hn, hat⟩
theorem cellAt_mod {s : Sp} (h : s.good) {n : Nat} (hn : n < s.n) (i : Nat) : cellAt (modS s n) i = if startS s.cells n = (i : Nat) then mk1 (cellAt s i) else cellAt s i := by
 unfold modS
 by_cases hc : startS s.cells n = -1
 ·rw [if_pos hc, hc, if_neg (by omega)]
 ·rw [if_neg hc]
  obtain ⟨a, e, ha, hat⟩ := start_attr h hn hc
  rw [e, cellAt_at ha, cellAt_set h ha]
  by_cases e2 : i = a
  ·rw [if_pos e2, if_pos (by rw [e2]), e2, mk1_fit (cellAt_fit h a) hat]
  ·rw [if_neg e2, if_neg (by omega)]
theorem keep_mod {s t : Sp} (h : KeepA s t) (hs : s.good) {n : Nat} (hn : n < s.n) : KeepA s (modS t n) := by
 refine ⟨h.same.trans (modS_same h.same.1 n), fun j => ?_⟩
 rw [← h.attr j]
 have e : ∀ (u : Sp) j, attrAt u.cells j = (cellAt u j).attr := fun _ _ => rfl
 rw [e, e, cellAt_mod h.same.1 (by rw [h.same.n]; exact hn)]
 split <;> rfl
theorem prot_mk1 (c : Cell) : (fld (mk1 c).fa).prot = (fld c.fa).prot := all_bytes (p := fun b => (fld (b ||| 1)).prot = (fld b).prot) (by decide +kernel) c.fa
theorem prot_clr (c : Cell) : (fld (clr c).fa).prot = (fld c.fa).prot := all_bytes (p := fun b => (fld (b &&& 0xfe)).prot = (fld b).prot) (by decide +kernel) c.fa
def bit1 (c : Cell) : Bool := c.fa &&& 1 == 1
structure Safe (s : Sp) (er : Prop) (t : Sp) : Prop where
 keep : KeepA s t
 attr : ∀ a, a < s.n → attrAt s.cells a = true → mk1 (cellAt t a) = mk1 (cellAt s a)
 grew : ∀ a, a < s.n → attrAt s.cells a = true → bit1 (cellAt s a) = false → bit1 (cellAt t a) = true → startS s.cells s.cursor = (a : Nat)
 fell : ∀ a, a < s.n → attrAt s.cells a = true → bit1 (cellAt s a) = true → bit1 (cellAt t a) = false → er ∧ (fldAt s a).prot = false
 safe : ∀ i, i < s.n → attrAt s.cells i = false → openS s i = false → cellAt t i = cellAt s i
theorem Safe.refl {s : Sp} (h : s.good) (er : Prop) : Safe s er s := ⟨KeepA.refl h, fun _ _ _ => rfl, fun _ _ _ h1 h2 => (by rw [h1] at h2; cases h2), fun _ _ _ h1 h2 => (by rw [h1] at h2; cases h2), fun _ _ _ _ => rfl⟩
theorem Safe.one {s t u : Sp} {er : Prop} (h : Safe s er t) {i : Nat} (hk : KeepA s u) (ho : openS s i = true) (hc : ∀ j, ¬ j = i → cellAt u j = cellAt t j) : Safe s er u := by
 have hat := open_attr ho
 have ne : ∀ a, attrAt s.cells a = true → ¬ a = i := fun a ha e => by subst e; rw [hat] at ha; cases ha
 refine ⟨hk, fun a h1 h2 => ?_, fun a h1 h2 h3 h4 => ?_, fun a h1 h2 h3 h4 => ?_, fun j h1 h2 h3 => ?_⟩
 ·rw [hc a (ne a h2)]; exact h.attr a h1 h2
 ·rw [hc a (ne a h2)] at h4; exact h.grew a h1 h2 h3 h4
 ·rw [hc a (ne a h2)] at h4; exact h.fell a h1 h2 h3 h4
 ·rw [hc j (fun e => by subst e; rw [ho] at h3; cases h3)]; exact h.safe j h1 h2 h3
variable {σ : Store} {c x y : Nat} {n : Int} {D : Bd}
theorem or1_at {b x : UInt8} (h : b ||| 1 = x) : pureBin .or (.int .u8 (b.toNat : Int)) (.int .u8 1) = some (.int .u8 (x.toNat : Int)) := by rw [← h]; exact or_u8 b 1
theorem rstart_calls {s : Sp} (h : Ref σ x y s) {i : Nat} (hi : i < s.n) : ACalls Tryz.prog 103 [ptrA x, .lit (.int .i64 i)] σ fun v σ' => v = .lit (.int .i64 (startS s.cells i)) ∧ σ' = σ := by
 have hst := starts_calls h
 have hwr := fun τ (hτ : Ref τ x y s) => rswrap_calls hτ (i : Int)
 have hat := starts_at (s := s) hi
 refine aw st103 pl103 12 Tryz.func103 rfl ?_
 simp
 refine callK.of hst ?_
 rintro v τ ⟨p, hp, rfl, rfl⟩
 simp
 refine callK.of (hwr _ (h.new hp _)) ?_
 rintro v τ ⟨rfl, rfl⟩
 rw [wrap_of_lt hi]
 simp [rowC, hi, hat]
 exact Store.sub_upd hp (Store.sub_refl _)
theorem rdesig_calls (hn : isPage n) (b : UInt8) (σ : Store) : ACalls Tryz.prog 116 [.lit (.int .i64 n), byteA b] σ fun v σ' => v = .lit (.int .i64 (desigN n b)) ∧ σ' = σ := by
 have hs := rsign_calls n hn b σ
 have h0 : sgF n 0 = 0 := by rcases hn with rfl | rfl | rfl | rfl | rfl | rfl <;> decide +kernel
 have hb : ∀ b' : UInt8, b'.toNat = 0 → b' = 0 := fun b' e => UInt8.toNat_inj.1 e
 refine aw st116 pl116 25 Tryz.func116 rfl ?_
 simp only [byteA] at hs ⊢
 simp
 refine callK.of hs ?_
 rintro v τ ⟨rfl, rfl⟩
 unfold desigN
 by_cases hz : b = 0
 ·subst hz
  have e0 : (0 : UInt8).toNat = 0 := rfl
  rw [e0, h0, if_pos rfl]
  simp
 ·have hz' : ¬ b.toNat = 0 := fun e => hz (hb b e)
  have hz2 : ¬ (b.toNat : Int) = 0 := by omega
  rw [if_neg hz]
  generalize sgF n b.toNat = sg at *
  by_cases h1 : sg = 63
  ·subst h1; simp
  ·have h1' : ¬ (sg : Int) = 63 := by omega
   by_cases h2 : sg = 62
   ·subst h2; simp
   ·have h2' : ¬ (sg : Int) = 62 := by omega
    by_cases h3 : sg = 32
    ·subst h3; simp [hz', hz2]
    ·have h3' : ¬ (sg : Int) = 32 := by omega
     by_cases h4 : sg = 38
     ·subst h4; simp [hz', hz2]
     ·have h4' : ¬ (sg : Int) = 38 := by omega
      simp [h1, h2, h3, h4, h1', h2', h3', h4', hz', hz2]
theorem rmodify_calls {s : Sp} (h : Ref σ x y s) {i : Nat} (hi : i < s.n) : ACalls Tryz.prog 106 [ptrA x, .lit (.int .i64 i)] σ fun v σ' => v = .lit (.bool (decide (0 ≤ startS s.cells i))) ∧ σ' = putS rfO σ x y (modS s i) := by
 have hst := rstart_calls h hi
 have ho := h.obj
 have hr := h.row
 unfold rfO at ho
 by_cases hc : startS s.cells i = -1
 ·unfold modS
  rw [if_pos hc, h.put_self]
  rw [hc] at hst
  rw [hc]
  refine aw st106 pl106 27 Tryz.func106 rfl ?_
  simp
  refine callK.of hst ?_
  rintro v τ ⟨rfl, rfl⟩
  simp
 ·obtain ⟨a, ha, hal, hat⟩ := start_attr h.good hi hc
  have hse := fun τ (hτ : Ref τ x y s) cc => rset_calls hτ (a : Int) cc
  have hln := h.good.len
  have hac : a < s.cells.length := by omega
  have hgj := cellsO_get hac
  have hce : s.cells[a] = cellAt s a := by unfold cellAt; rw [List.getElem?_eq_getElem hac]; rfl
  have hms : modS s i = s.set (a : Nat) (mk1 (cellAt s a)) := by unfold modS; rw [if_neg hc, ha, cellAt_at hal]
  rw [hms]
  have hcx : cellC (cellAt s a) = [byteA (cellAt s a).char, .lit (.bool (cellAt s a).attr), byteA (cellAt s a).fa, byteA (cellAt s a).high, byteA (cellAt s a).color, byteA (cellAt s a).set] := rfl
  rw [hce, hcx] at hgj
  have hcl6 := cellsO_length s.cells
  have hle6 : a * 6 + 6 ≤ (cellsO s.cells).length := by omega
  rw [ha] at hst ⊢
  have hse1 : ∀ τ, Ref τ x y s → ACalls Tryz.prog 58 [ptrA x, .lit (.int .i64 a), .agg [.lit (.int .u8 ((cellAt s a).char.toNat : Int)), .lit (.bool (cellAt s a).attr), .lit (.int .u8 (((cellAt s a).fa ||| 1).toNat : Int)), .lit (.int .u8 ((cellAt s a).high.toNat : Int)), .lit (.int .u8 ((cellAt s a).color.toNat : Int)), .lit (.int .u8 ((cellAt s a).set.toNat : Int))]] τ
    (fun v σ' => v = .tuple [] ∧ σ' = putS rfO τ x y (s.set a (mk1 (cellAt s a)))) := fun τ hτ => by
   have := hse τ hτ (mk1 (cellAt s a))
   rw [cellA_eq] at this
   exact this
  simp only [byteA] at hgj
  have hor := or1_at (rfl : (cellAt s a).fa ||| 1 = (cellAt s a).fa ||| 1)
  refine aw st106 pl106 27 Tryz.func106 rfl ?_
  generalize hm1 : mk1 (cellAt s a) = mc at *
  generalize (cellAt s a).fa ||| 1 = w at *
  generalize cellAt s a = cl at *
  simp
  refine callK.of hst ?_
  rintro v τ ⟨rfl, rfl⟩
  simp [-e_pureBin_8, -e_pureBin_9, ho, hr, rowC, hal, hle6, hgj, hor]
  intro b hb
  obtain ⟨b1, b2, b3, b4⟩ := h.fresh hb
  refine callK.of (hse1 _ (h.new hb _)) ?_
  rintro v τ2 ⟨rfl, rfl⟩
  simp
  rw [putS_upd _ _ b3 b4]
  refine Store.sub_upd ?_ (Store.sub_refl _)
  simp [putS, b3, b4, hb]
end Go.Proofs.YtlmdbcgceijlnaaGreat
namespace Go.Proofs.YtlmdbcgceijlnaaGreat
open Go Go.AL Go.Sp
def nmActs : List Sp.Act := [{ what := 3, n := 0, on := false, code := 0x10, c := .zero, text := [] }, { what := 3, n := 30, on := false, code := 0x30, c := .zero, text := [] }, { what := 1, n := 1, on := false, code := 0, c := .zero, text := [] }]
structure Numr (n : Int) (s : Sp) : Prop where
 good : s.good
 attr : ∀ i, i < s.n → (attrAt s.cells i = true ↔ i = 0 ∨ i = 30)
 f0 : (fldAt s 0).num = true ∧ (fldAt s 0).disp = 0 ∧ (fldAt s 0).prot = false
 f30 : (fldAt s 30).prot = true ∧ (fldAt s 30).disp = 0
 char : ∀ i, 1 ≤ i → i < 30 → (cellAt s i).char = 0 ∨ numB n (cellAt s i).char = true
theorem n_big (s : Sp) : 1920 ≤ s.n := by have := dims_bound s.model s.alt; unfold Sp.n Sp.rows Sp.cols; omega
theorem Numr.lo {n : Int} {s : Sp} (h : Numr n s) {i : Nat} (hi : i < 30) : startS s.cells i = 0 := by
 have hb := n_big s
 have h0 : attrAt s.cells 0 = true := (h.attr 0 (by omega)).2 (.inl rfl)
 have := lastA_at (l := s.cells) (init := lastA s.cells (-1) s.cells.length) h0 (m := i + 1) (by omega) fun j h1 h2 => by
  cases e : attrAt s.cells j
  ·rfl
  ·have := (h.attr j (by omega)).1 e; omega
 exact this
theorem Numr.hi {n : Int} {s : Sp} (h : Numr n s) {i : Nat} (h1 : 30 ≤ i) (hi : i < s.n) : startS s.cells i = 30 := by
 have hb := n_big s
 have h0 : attrAt s.cells 30 = true := (h.attr 30 (by omega)).2 (.inr rfl)
 have := lastA_at (l := s.cells) (init := lastA s.cells (-1) s.cells.length) h0 (m := i + 1) (by omega) fun j h1 h2 => by
  cases e : attrAt s.cells j
  ·rfl
  ·have := (h.attr j (by omega)).1 e; omega
 exact this
theorem num_mk1 (c : Cell) : (fld (mk1 c).fa).num = (fld c.fa).num ∧ (fld (mk1 c).fa).disp = (fld c.fa).disp := all_bytes (p := fun b => (fld (b ||| 1)).num = (fld b).num ∧ (fld (b ||| 1)).disp = (fld b).disp) (by decide +kernel) c.fa
theorem num_clr (c : Cell) : (fld (clr c).fa).num = (fld c.fa).num ∧ (fld (clr c).fa).disp = (fld c.fa).disp := all_bytes (p := fun b => (fld (b &&& 0xfe)).num = (fld b).num ∧ (fld (b &&& 0xfe)).disp = (fld b).disp) (by decide +kernel) c.fa
theorem Numr.one {n : Int} {t u : Sp} (h : Numr n t) {i : Nat} (hk : KeepA t u) (hi : attrAt t.cells i = false) (hit : i < t.n) (hc : ∀ j, ¬ j = i → cellAt u j = cellAt t j)
  (hx : 1 ≤ i → i < 30 → (cellAt u i).char = 0 ∨ numB n (cellAt u i).char = true) : Numr n u := by
 have hb := n_big t
 have hz : ∀ j, attrAt t.cells j = true → fldAt u j = fldAt t j := fun j ha => by
  show fld (cellAt u j).fa = fld (cellAt t j).fa
  rw [hc j fun e => by subst e; rw [hi] at ha; cases ha]
 refine ⟨hk.same.1, fun j hj => ?_, ?_, ?_, fun j h1 h2 => ?_⟩
 ·rw [hk.attr]; exact h.attr j (by rw [← hk.same.n]; exact hj)
 ·rw [hz 0 ((h.attr 0 (by omega)).2 (.inl rfl))]; exact h.f0
 ·rw [hz 30 ((h.attr 30 (by omega)).2 (.inr rfl))]; exact h.f30
 ·by_cases e : j = i
  ·subst e; exact hx h1 h2
  ·rw [hc j e]; exact h.char j h1 h2
theorem Numr.fa {n : Int} {t u : Sp} (h : Numr n t) (hk : KeepA t u) (hc : ∀ j, cellAt u j = cellAt t j ∨ attrAt t.cells j = true ∧ (cellAt u j = mk1 (cellAt t j) ∨ cellAt u j = clr (cellAt t j))) : Numr n u := by
 have hb := n_big t
 have hz : ∀ j, (fldAt u j).num = (fldAt t j).num ∧ (fldAt u j).disp = (fldAt t j).disp ∧ (fldAt u j).prot = (fldAt t j).prot := fun j => by
  show (fld (cellAt u j).fa).num = (fld (cellAt t j).fa).num ∧ (fld (cellAt u j).fa).disp = (fld (cellAt t j).fa).disp ∧ (fld (cellAt u j).fa).prot = (fld (cellAt t j).fa).prot
  rcases hc j with e | ⟨_, e | e⟩
  ·rw [e]; exact ⟨rfl, rfl, rfl⟩
  ·rw [e]; exact ⟨(num_mk1 _).1, (num_mk1 _).2, prot_mk1 _⟩
  ·rw [e]; exact ⟨(num_clr _).1, (num_clr _).2, prot_clr _⟩
 refine ⟨hk.same.1, fun j hj => ?_, ?_, ?_, fun j h1 h2 => ?_⟩
 ·rw [hk.attr]; exact h.attr j (by rw [← hk.same.n]; exact hj)
 ·rw [(hz 0).1, (hz 0).2.1, (hz 0).2.2]; exact h.f0
 ·rw [(hz 30).2.2, (hz 30).2.1]; exact h.f30
 ·rcases hc j with e | ⟨e, _⟩
  ·rw [e]; exact h.char j h1 h2
  ·have := (h.attr j (by omega)).1 e; omega
theorem Numr.place {n : Int} {t : Sp} (h : Numr n t) (k : Int) : Numr n (t.place k) := ⟨h.good.place k, h.attr, h.f0, h.f30, h.char⟩
theorem Numr.okF {n : Int} {s : Sp} (h : Numr n s) : okF s s.cursor = true ∧ detB (fofF s s.cursor) = false ∧ (s.cursor < 30 → (fofF s s.cursor).num = true) := by
 have hc := h.good.cursor
 by_cases h3 : s.cursor < 30
 ·have e := h.lo h3
  unfold Go.Proofs.YtlmdbcgceijlnaaGreat.okF fofF
  rw [e]
  refine ⟨rfl, ?_, fun _ => h.f0.1⟩
  show detB (fldAt s 0) = false
  unfold detB; rw [h.f0.2.1]; rfl
 ·have e := h.hi (by omega) hc
  unfold Go.Proofs.YtlmdbcgceijlnaaGreat.okF fofF
  rw [e]
  refine ⟨rfl, ?_, fun h => absurd h h3⟩
  show detB (fldAt s 30) = false
  unfold detB; rw [h.f30.2]; rfl
theorem Numr.acc {n : Int} {s : Sp} (h : Numr n s) {x : UInt8} (ha : Acc n s x) (hc : s.cursor < 30) : numB n x = true := by
 obtain ⟨h1, h2, h3⟩ := h.okF
 rcases ha with ha | ha
 ·rw [h1, h3 hc] at ha; simpa using ha
 ·rw [h2] at ha; cases ha
end Go.Proofs.YtlmdbcgceijlnaaGreat
