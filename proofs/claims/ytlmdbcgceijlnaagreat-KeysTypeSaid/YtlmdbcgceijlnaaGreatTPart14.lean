/-
  Screens of one size.
-/
import Derived.Test.YtlmdbcgceijlnaaGreatTPart13
namespace Go.Proofs.YtlmdbcgceijlnaaGreat
open Go Go.AL Go.Sp

theorem foldl_inv {α β : Type} {P : β → Prop} (f : β → α → β) (h : ∀ b a, P b → P (f b a)) : ∀ (l : List α) (b : β), P b → P (l.foldl f b)
  | [], _, hb => hb
  | a :: l, b, hb => foldl_inv f h l (f b a) (h b a hb)
/-- A screen of the same size. -/
def SameN (s t : Sp) : Prop := t.good ∧ t.model = s.model ∧ t.alt = s.alt
theorem SameN.refl {s : Sp} (h : s.good) : SameN s s := ⟨h, rfl, rfl⟩
theorem SameN.n {s t : Sp} (h : SameN s t) : t.n = s.n := by unfold Sp.n Sp.rows Sp.cols; rw [h.2.1, h.2.2]
theorem SameN.trans {a b c : Sp} (h : SameN a b) (k : SameN b c) : SameN a c := ⟨k.1, k.2.1.trans h.2.1, k.2.2.trans h.2.2⟩
theorem SameN.set {s t : Sp} (h : SameN s t) (k : Int) (c : Cell) : SameN s (t.set k c) := ⟨h.1.set k c, h.2.1, h.2.2⟩
theorem SameN.put {s t : Sp} (h : SameN s t) (k : Int) (c : UInt8) : SameN s (t.put k c) := ⟨h.1.put k c, (t.model_put k c).1.trans h.2.1, (t.model_put k c).2.trans h.2.2⟩
theorem SameN.place {s t : Sp} (h : SameN s t) (k : Int) : SameN s (t.place k) := ⟨h.1.place k, h.2.1, h.2.2⟩
theorem SameN.rangeS {s t : Sp} (h : SameN s t) (l : List Nat) : SameN s (rangeS t l) :=
  foldl_inv (P := SameN s) _ (fun b a hb => by split; exact hb.put _ _; exact hb) l t h
theorem SameN.repeatS {s t : Sp} (h : SameN s t) (l : List Nat) (c : Cell) : SameN s (repeatS t l c) :=
  foldl_inv (P := SameN s) _ (fun _b _a hb => hb.set _ _) l t h
theorem SameN.nullS {s t : Sp} (h : SameN s t) (l : List Nat) : SameN s (nullS t l) :=
  foldl_inv (P := SameN s) _ (fun _b _a hb => hb.put _ _) l t h
theorem attrAt_put {s : Sp} (h : s.good) (k : Int) (b : UInt8) (i : Nat) : attrAt (s.put k b).cells i = attrAt s.cells i := by
  by_cases hc : (s.at k).attr = true
  · unfold Sp.put; rw [if_pos hc]
  · have hc' : (s.at k).attr = false := by simpa using hc
    obtain ⟨h1, _⟩ := put_cells h k b hc'
    rw [h1]
    have hlt := wrap_lt s.n_pos k
    have hlt' : wrap s.n k < s.cells.length := by rw [h.len]; exact hlt
    unfold attrAt
    rw [List.getElem?_set]
    split
    · rename_i hi
      subst hi
      have e : s.cells[wrap s.n k] = s.at k := by simp [Sp.at, hlt']
      simp [hlt', e, hc']
    · rfl
theorem putS_put {f : Sp → Nat → List AV} {σ : Store} {q p : Nat} (hne : q ≠ p) (s s2 : Sp) : putS f (putS f σ q p s) q p s2 = putS f σ q p s2 := putS_twice s s2 hne
/-- The screen is such within a store that knows more. -/
structure Lv (σ ρ : Store) (q r : Nat) (s : Sp) : Prop where
  prg : Prg ρ q r s
  sub : Store.sub (putS spO σ q r s) ρ
theorem putS_at {f : Sp → Nat → List AV} {σ : Store} {q r o : Nat} {s : Sp} (h1 : ¬ o = q) (h2 : ¬ o = r) : putS f σ q r s o = σ o := by simp [putS, h1, h2]
theorem Lv.put {σ ρ : Store} {q r : Nat} {s : Sp} (h : Lv σ ρ q r s) {s2 : Sp} (hg : s2.good) : Lv σ (putS spO ρ q r s2) q r s2 := by
  refine ⟨Scr.of_put h.prg.ne hg, Store.sub2 (fun o => ?_) (fun i => by simpa [putS] using h.sub (mkey i))⟩
  by_cases h1 : o = q
  · subst h1; right; simp [putS]
  · by_cases h2 : o = r
    · subst h2; right; simp [putS]
    · rw [putS_at h1 h2, putS_at h1 h2]
      have := h.sub o
      rwa [putS_at h1 h2] at this
theorem Lv.new {σ ρ : Store} {q r : Nat} {s : Sp} (h : Lv σ ρ q r s) {b : Nat} (hb : ρ b = none) (X : List AV) : Lv σ (ρ.upd b X) q r s :=
  ⟨h.prg.new hb X, Store.sub_trans h.sub (Store.sub_upd hb (Store.sub_refl _))⟩
theorem Lv.refl {σ : Store} {q r : Nat} {s : Sp} (h : Prg σ q r s) : Lv σ σ q r s := ⟨h, by rw [h.put_self]; exact Store.sub_refl _⟩
theorem Lv.mono {σ ρ ρ' : Store} {q r : Nat} {s : Sp} (h : Lv σ ρ q r s) (hs : Store.sub ρ ρ') : Lv σ ρ' q r s := ⟨prg_mono h.prg hs, Store.sub_trans h.sub hs⟩
theorem NeedB.put {b1 b2 b3 : Nat} {s : Sp} {f t : Nat} {τ : Store} (h : NeedB b1 b2 b3 s f t τ) {q r : Nat} (g1 : ¬ b1 = q ∧ ¬ b1 = r) (g2 : ¬ b2 = q ∧ ¬ b2 = r) (g3 : ¬ b3 = q ∧ ¬ b3 = r) (s2 : Sp) : NeedB b1 b2 b3 s f t (putS spO τ q r s2) :=
  ⟨by rw [putS_at g1.1 g1.2]; exact h.1, by rw [putS_at g2.1 g2.2]; exact h.2.1, by rw [putS_at g3.1 g3.2]; exact h.2.2⟩
end Go.Proofs.YtlmdbcgceijlnaaGreat
/-
  No field is modified; all that is not protected goes.
-/
namespace Go.Proofs.YtlmdbcgceijlnaaGreat
open Go Go.AL Go.Sp

theorem andNot1 (b : UInt8) : pureBin .andNot (.int .u8 (b.toNat : Int)) (.int .u8 1) = some (.int .u8 ((b &&& 0xfe).toNat : Int)) := by
  have h : IntKind.u8.wrap ((BitVec.ofInt IntKind.u8.bits (b.toNat : Int) &&& ~~~BitVec.ofInt IntKind.u8.bits 1).toNat : Int) = ((b &&& 0xfe).toNat : Int) :=
    all_bytes (p := fun b => IntKind.u8.wrap ((BitVec.ofInt IntKind.u8.bits (b.toNat : Int) &&& ~~~BitVec.ofInt IntKind.u8.bits 1).toNat : Int) = ((b &&& 0xfe).toNat : Int)) (by decide +kernel) b
  unfold pureBin
  simp only [if_true]
  rw [h]
def clr (c : Cell) : Cell := { c with fa := c.fa &&& 0xfe }
def unmod1 (s : Sp) (a : Nat) : Sp := s.set a (clr (s.at a))
def unmodTo (s : Sp) (k : Nat) : Sp := (s.attrs.take k).foldl unmod1 s
def unmodS (s : Sp) : Sp := s.attrs.foldl unmod1 s
def unprot1 (s : Sp) (a : Nat) : Sp := if (fldAt s a).prot = true then s else unmod1 (nullS s (Sp.places s.cells a)) a
def unprotTo (s : Sp) (k : Nat) : Sp := (s.attrs.take k).foldl unprot1 s
def unprotS (s : Sp) : Sp := if s.count = 0 then (nullS s (List.range s.n)).place 0 else
  (s.attrs.foldl unprot1 s).place (max (nextS (s.attrs.foldl unprot1 s) (s.n - 1)) 0)
theorem fit_attr (c : Cell) : (Sp.fit c).attr = c.attr := by unfold Sp.fit; split <;> rfl
theorem attrAt_set {s : Sp} (h : s.good) (k : Int) (c : Cell) (i : Nat) : attrAt (s.set k c).cells i = if i = wrap s.n k then c.attr else attrAt s.cells i := by
  have hlt := wrap_lt s.n_pos k
  have hlt' : wrap s.n k < s.cells.length := by rw [h.len]; exact hlt
  unfold attrAt Sp.set Sp.put1
  simp only [List.getElem?_set]
  by_cases hi : i = wrap s.n k
  · subst hi; simp [hlt', fit_attr]
  · rw [if_neg hi, if_neg (Ne.symm hi)]
theorem nullS_attr {s : Sp} (h : s.good) (l : List Nat) (i : Nat) : attrAt (nullS s l).cells i = attrAt s.cells i := by
  have : ∀ (l : List Nat) (t : Sp), t.good → attrAt (nullS t l).cells i = attrAt t.cells i := by
    intro l
    induction l with
    | nil => intro t _; rfl
    | cons a l ih => intro t ht; exact (ih _ (ht.put _ _)).trans (attrAt_put ht _ _ _)
  exact this l s h
/-- What keeps the attributes where they are. -/
structure KeepA (s t : Sp) : Prop where
  same : SameN s t
  attr : ∀ i, attrAt t.cells i = attrAt s.cells i
theorem KeepA.refl {s : Sp} (h : s.good) : KeepA s s := ⟨SameN.refl h, fun _ => rfl⟩
theorem KeepA.trans {a b c : Sp} (h : KeepA a b) (k : KeepA b c) : KeepA a c := ⟨h.same.trans k.same, fun i => (k.attr i).trans (h.attr i)⟩
theorem KeepA.attrs {s t : Sp} (h : KeepA s t) (hs : s.good) : t.attrs = s.attrs := by
  rw [attrs_eq _ h.same.1, attrs_eq _ hs, h.same.n]
  congr 1
  funext i; exact h.attr i
theorem keep_unmod1 {s : Sp} (h : s.good) {a : Nat} (ha : a < s.n) (hat : attrAt s.cells a = true) : KeepA s (unmod1 s a) := by
  refine ⟨(SameN.refl h).set _ _, fun i => ?_⟩
  unfold unmod1
  rw [attrAt_set h, wrap_of_lt ha]
  split
  · rename_i hi; subst hi
    show (s.at (i : Int)).attr = _
    rw [attrAt_at ha]
  · rfl
theorem keep_null {s : Sp} (h : s.good) (l : List Nat) : KeepA s (nullS s l) := ⟨(SameN.refl h).nullS l, nullS_attr h l⟩
theorem keep_unprot1 {s : Sp} (h : s.good) {a : Nat} (ha : a < s.n) (hat : attrAt s.cells a = true) : KeepA s (unprot1 s a) := by
  unfold unprot1
  split
  · exact KeepA.refl h
  · have h1 := keep_null h (Sp.places s.cells a)
    exact h1.trans (keep_unmod1 h1.same.1 (by rw [h1.same.n]; exact ha) (by rw [h1.attr]; exact hat))
theorem keep_fold (f : Sp → Nat → Sp) (hf : ∀ s : Sp, s.good → ∀ a, a < s.n → attrAt s.cells a = true → KeepA s (f s a)) {s : Sp} (h : s.good) : ∀ (l : List Nat) (t : Sp), KeepA s t → (∀ a ∈ l, a < s.n ∧ attrAt s.cells a = true) → KeepA s (l.foldl f t)
  | [], _, ht, _ => ht
  | a :: l, t, ht, hl => keep_fold f hf h l (f t a) (ht.trans (hf t ht.same.1 a (by rw [ht.same.n]; exact (hl a (by simp)).1) (by rw [ht.attr]; exact (hl a (by simp)).2))) fun b hb => hl b (List.mem_cons_of_mem _ hb)
theorem attr_mem {s : Sp} (h : s.good) : ∀ a ∈ s.attrs, a < s.n ∧ attrAt s.cells a = true := fun a ha => by
  obtain ⟨h1, h2⟩ := mem_attrs ha
  rw [h.len] at h1; exact ⟨h1, h2⟩
theorem keep_unprotTo {s : Sp} (h : s.good) (k : Nat) : KeepA s (unprotTo s k) := keep_fold _ (fun _s h _a h1 h2 => keep_unprot1 h h1 h2) h _ _ (KeepA.refl h) fun a ha => attr_mem h a (List.mem_of_mem_take ha)
theorem fam_unprot {s : Sp} (h : s.good) : Fam (unprotTo s) := ⟨fun k => (keep_unprotTo h k).same.1, fun k => (keep_unprotTo h k).same.n, fun k i => (keep_unprotTo h k).attr i⟩
theorem unprotTo_succ (s : Sp) (k : Nat) (h : k < s.attrs.length) : unprotTo s (k + 1) = unprot1 (unprotTo s k) s.attrs[k] := by
  unfold unprotTo; rw [List.take_succ_eq_append_getElem h, List.foldl_append]; rfl
theorem nullS_range (s : Sp) (k : Nat) : nullS s (List.range (k + 1)) = (nullS s (List.range k)).put (k : Int) 0 := by
  unfold nullS; rw [List.range_succ, List.foldl_append]; rfl
set_option maxRecDepth 8000 in
theorem nullall_calls {q r : Nat} {s : Sp} {σ : Store} (h : Prg σ q r s) : ACalls Tryz.prog 135 [ptrA q] σ fun v σ' => v = .tuple [] ∧ σ' = putS spO σ q r (nullS s (List.range s.n)) := by
  have hsz := fun τ (hτ : Prg τ q r s) => size_calls hτ
  have hcl := fun τ => scells_calls s τ
  have hnl := s.n_le
  refine ACalls.of_awp follows (st := st135) (plans := pl135) (n := 13) Tryz.func135 rfl (by kernel_rfl) (by kernel_rfl) (by kernel_rfl) ?_
  simp
  refine callK.of (hsz _ h) ?_
  rintro v σ' ⟨rfl, rfl⟩
  simp
  refine callK.of (hcl _) ?_
  rintro v σ2 ⟨rfl, rfl⟩
  simp
  refine codeK.loop follows (st := st135) (plans := pl135) (X := Nat) (fun k => k ≤ s.n)
    (fun k => [(0, ptrA q), (5, .lit (.int .i64 s.n)), (6, .lit (.int .i64 k))]) (fun k => putS spO σ2 q r (nullS s (List.range k))) (fun k => s.n - k) 0 (by kernel_rfl) (by simp) (by simp) (by
      have hz0 : nullS s (List.range 0) = s := rfl
      rw [hz0, h.put_self]; exact Store.sub_refl _) fun k hk => ?_
  have hkp := keep_null h.good (List.range k)
  have hP : Prg (putS spO σ2 q r (nullS s (List.range k))) q r (nullS s (List.range k)) := Scr.of_put h.ne hkp.same.1
  by_cases hlt : k < s.n
  · have hw : IntKind.i64.wrap ((k : Int) + 1) = ((k + 1 : Nat) : Int) := wrap_i64 (by omega) (by omega)
    have hpu := pput_calls hP (k : Int) 0
    rw [putS_twice _ _ h.ne, ← nullS_range] at hpu
    simp [hlt]
    refine callK.of hpu ?_
    rintro v σ3 ⟨rfl, rfl⟩
    simp
    exact ⟨k + 1, by omega, by omega, by rw [hw]; exact AV.le_refl _, Store.sub_refl _⟩
  · obtain rfl : k = s.n := by omega
    simp
theorem wrap_neg {n : Nat} (h : 0 < n) : wrap n (-1) = n - 1 := by
  have := wrap_pred h h
  have e : (((0 : Nat) : Int) - 1) = -1 := rfl
  rw [e] at this
  rw [this, Nat.zero_add, Nat.mod_eq_of_lt (by omega)]
set_option maxRecDepth 8000 in
theorem fnext0_calls {q r : Nat} {s : Sp} {σ : Store} (h : Prg σ q r s) : ACalls Tryz.prog 124 [ptrA q, .lit (.int .i64 (-1))] σ fun v σ' => v = .lit (.int .i64 (nextS s (s.n - 1))) ∧ σ' = σ := by
  have hsz := fun τ (hτ : Prg τ q r s) => size_calls hτ
  have hw := fun τ => swrap_calls s (-1) τ
  have hpos := s.n_pos
  rw [wrap_neg hpos] at hw
  refine ACalls.of_awp follows (st := st124) (plans := pl124) (n := 11) Tryz.func124 rfl (by kernel_rfl) (by kernel_rfl) (by kernel_rfl) ?_
  simp
  refine callK.of (hsz _ h) ?_
  rintro v σ' ⟨rfl, rfl⟩
  simp
  refine callK.of (hw _) ?_
  rintro v σ' ⟨rfl, rfl⟩
  simp
  refine callK.of (find_calls h (by omega)) ?_
  rintro v σ' ⟨rfl, rfl⟩
  simp
end Go.Proofs.YtlmdbcgceijlnaaGreat
/-
  All that is not protected goes.
-/
namespace Go.Proofs.YtlmdbcgceijlnaaGreat
open Go Go.AL Go.Sp

theorem places_length' (l : List Cell) (a : Nat) : (Sp.places l a).length = Sp.len l a := by simp [Sp.places]
theorem places_get' (l : List Cell) (a k : Nat) (h : k < (Sp.places l a).length) : (Sp.places l a)[k] = (a + k + 1) % l.length := by simp [Sp.places]
def nullP (t : Sp) (a j : Nat) : Sp := nullS t ((Sp.places t.cells a).take j)
theorem nullP_succ (t : Sp) (a j : Nat) (h : j < Sp.len t.cells a) (hl : t.cells.length = t.n) : nullP t a (j + 1) = (nullP t a j).put (((a + j + 1) % t.n : Nat) : Int) 0 := by
  have hj : j < (Sp.places t.cells a).length := by rw [places_length']; exact h
  unfold nullP nullS
  rw [List.take_succ_eq_append_getElem hj, List.foldl_append, places_get', hl]; rfl
theorem nullP_all (t : Sp) (a : Nat) : nullP t a (Sp.len t.cells a) = nullS t (Sp.places t.cells a) := by
  unfold nullP; rw [← places_length', List.take_length]
theorem fam_null {t : Sp} (h : t.good) (a : Nat) : Fam (nullP t a) := ⟨fun _k => (keep_null h _).same.1, fun _k => (keep_null h _).same.n, fun _k i => (keep_null h _).attr i⟩
set_option maxRecDepth 8000 in
set_option maxHeartbeats 1000000 in
theorem unprotected_calls {q r : Nat} {s : Sp} {σ : Store} (h : Prg σ q r s) : ACalls Tryz.prog 95 [ptrA q] σ fun v σ' => v = .tuple [] ∧ σ' = putS spO σ q r (unprotS s) := by
  have hfo := fun τ (hτ : Prg τ q r s) => formatted_calls hτ
  by_cases hc : s.count = 0
  · have hna := fun τ (hτ : Prg τ q r s) => nullall_calls hτ
    have hkp := keep_null h.good (List.range s.n)
    have hpl := fun τ (hτ : Prg τ q r (nullS s (List.range s.n))) => place_calls hτ 0
    unfold unprotS
    rw [if_pos hc]
    refine ACalls.of_awpY follows (st := st95) (plans := pl95) (n := 42) Tryz.func95 rfl (by kernel_rfl) (by kernel_rfl) (by kernel_rfl) ?_
    simp
    intro b hb
    have hb0 := h.fresh hb
    refine callK.of (hfo _ (h.new hb _)) ?_
    rintro v σ' ⟨rfl, rfl⟩
    simp [hc]
    refine callK.of (hna _ (h.new hb _)) ?_
    rintro v σ2 ⟨rfl, rfl⟩
    have hL := ((Lv.refl h).new hb [ptrA q]).put hkp.same.1
    have hbv : putS spO (σ.upd b [ptrA q]) q r (nullS s (List.range s.n)) b = some [ptrA q] := by rw [putS_at hb0.2.2.1 hb0.2.2.2]; simp
    simp [hbv]
    refine callK.of (hpl _ hL.prg) ?_
    rintro v σ3 ⟨rfl, rfl⟩
    simp
    exact (hL.put (hkp.same.1.place 0)).sub
  · have hfc := fun τ => fields_calls2 q τ
    have hfam := fam_unprot h.good
    have hz0 : unprotTo s 0 = s := rfl
    have hat0 : (unprotTo s 0).attrs = s.attrs := rfl
    have hall : unprotTo s s.attrs.length = s.attrs.foldl unprot1 s := by unfold unprotTo; rw [List.take_length]
    unfold unprotS
    rw [if_neg hc, ← hall]
    have hc' : 0 < s.count := by omega
    refine ACalls.of_awpY follows (st := st95) (plans := pl95) (n := 42) Tryz.func95 rfl (by kernel_rfl) (by kernel_rfl) (by kernel_rfl) ?_
    simp
    intro b hb
    have hb0 := h.fresh hb
    refine callK.of (hfo _ (h.new hb _)) ?_
    rintro v σ' ⟨rfl, rfl⟩
    simp [hc']
    refine callK.of (hfc _) ?_
    rintro v σ2 ⟨b2, f2, rfl, rfl⟩
    simp only [supd_apply, ite_none] at f2
    have g2 := h.fresh f2.2
    simp
    refine codeYK.rangeG follows (st := st95) (plans := pl95) (fields_iterF b2 q r (unprotTo s) hfam _) (by simp) (by simp) (by simp) (by kernel_rfl) (by kernel_rfl) (by kernel_rfl)
      (fun k ρ E => Lv σ ρ q r (unprotTo s k) ∧ ρ b = some [ptrA q] ∧ ρ b2 = some [ptrA q]) (fun c ρ E => False)
      _ ⟨?_, ?_, ?_⟩ (Store.sub_refl _) ?_ ?_ ?_ ?_
    · rw [hz0]
      exact ((Lv.refl h).new hb [ptrA q]).new (b := b2) (by simp [f2]) [ptrA q]
    · simp [Ne.symm f2.1]
    · simp
    · rintro k ρ E hk ⟨hL, _, h2⟩
      exact ⟨h2, hL.prg⟩
    · rintro k hk ρ E ⟨hL, hρb, hρ2⟩
      rw [hat0] at hk
      have hkp := keep_unprotTo h.good k
      have hsucc := unprotTo_succ s k hk
      obtain ⟨m1, m2⟩ := attr_mem h.good _ (List.getElem_mem hk)
      have hget : (unprotTo s 0).attrs[k]?.getD 0 = s.attrs[k] := by rw [hat0, List.getElem?_eq_getElem hk]; rfl
      have ha1 : (atFldF (unprotTo s) k).1 = s.attrs[k] := hget
      have ha2 : (atFldF (unprotTo s) k).2 = fldAt (unprotTo s k) s.attrs[k] := by unfold atFldF fldAt; rw [hget]
      rw [ha1, ha2, hsucc]
      generalize s.attrs[k] = a at *
      generalize unprotTo s k = t at *
      have m3 : a < t.n := by rw [hkp.same.n]; exact m1
      have m4 : attrAt t.cells a = true := by rw [hkp.attr]; exact m2
      have htg := hkp.same.1
      have hun : unprot1 t a = if (fldAt t a).prot = true then t else unmod1 (nullS t (Sp.places t.cells a)) a := rfl
      rw [hun]
      have hfa : ∀ f : Fld, fldA f = .agg [.lit (.bool f.prot), .lit (.bool f.num), .lit (.int .i64 f.disp), .lit (.bool f.mod)] := fun _ => rfl
      rw [hfa]
      generalize fldAt t a = f at *
      by_cases hpr : f.prot = true
      · rw [hpr]
        simp
        intro t3 ht3
        have k1 : ¬ b = t3 := by rintro rfl; rw [hρb] at ht3; cases ht3
        have k2 : ¬ b2 = t3 := by rintro rfl; rw [hρ2] at ht3; cases ht3
        exact ⟨_, Store.sub_refl _, hL.new ht3 _, by simp [k1, hρb], by simp [k2, hρ2]⟩
      · have hpr' : f.prot = false := by simpa using hpr
        rw [hpr']
        simp
        intro t3 ht3
        have k1 : ¬ b = t3 := by rintro rfl; rw [hρb] at ht3; cases ht3
        have k2 : ¬ b2 = t3 := by rintro rfl; rw [hρ2] at ht3; cases ht3
        simp [k1, hρb]
        have hL1 := hL.new ht3 [.lit (.bool false), .lit (.bool f.num), .lit (.int .i64 f.disp), .lit (.bool f.mod)]
        have c1 : (ρ.upd t3 [.lit (.bool false), .lit (.bool f.num), .lit (.int .i64 f.disp), .lit (.bool f.mod)]) b = some [ptrA q] := by simp [k1, hρb]
        have c2 : (ρ.upd t3 [.lit (.bool false), .lit (.bool f.num), .lit (.int .i64 f.disp), .lit (.bool f.mod)]) b2 = some [ptrA q] := by simp [k2, hρ2]
        have hsubρ : Store.sub ρ (ρ.upd t3 [.lit (.bool false), .lit (.bool f.num), .lit (.int .i64 f.disp), .lit (.bool f.mod)]) := Store.sub_upd ht3 (Store.sub_refl _)
        have c3 : (ρ.upd t3 [.lit (.bool false), .lit (.bool f.num), .lit (.int .i64 f.disp), .lit (.bool f.mod)]) t3 = some [.lit (.bool false), .lit (.bool f.num), .lit (.int .i64 f.disp), .lit (.bool f.mod)] := by simp
        generalize ρ.upd t3 [.lit (.bool false), .lit (.bool f.num), .lit (.int .i64 f.disp), .lit (.bool f.mod)] = ρ1 at *
        refine callK.of (places_calls2 q (a : Int) _) ?_
        rintro v σ2 ⟨pb, pc, hpb, hpc, hne, rfl, rfl⟩
        have gpb := hL1.prg.fresh hpb
        have gpc := hL1.prg.fresh hpc
        have n1 : ¬ b = pb := by rintro rfl; rw [c1] at hpb; cases hpb
        have n2 : ¬ b = pc := by rintro rfl; rw [c1] at hpc; cases hpc
        have n3 : ¬ b2 = pb := by rintro rfl; rw [c2] at hpb; cases hpb
        have n4 : ¬ b2 = pc := by rintro rfl; rw [c2] at hpc; cases hpc
        have hfn := fam_null htg a
        have hnz : nullP t a 0 = t := rfl
        have hln := htg.len
        simp
        refine codeYK.rangeG follows (st := st95) (plans := pl95) (places_iterF pb pc q r (nullP t a) hfn a m3 m4 _) (by simp) (by simp) (by simp) (by kernel_rfl) (by kernel_rfl) (by kernel_rfl)
          (fun j ρ E => Lv σ ρ q r (nullP t a j) ∧ ρ b = some [ptrA q] ∧ ρ b2 = some [ptrA q] ∧ ρ pb = some [ptrA q] ∧ ρ pc = some [.lit (.int .i64 a)]) (fun c ρ E => False)
          _ ⟨?_, ?_, ?_, ?_, ?_⟩ (Store.sub_refl _) ?_ ?_ ?_ ?_
        · rw [hnz]
          exact (hL1.new hpb [ptrA q]).new (b := pc) (by simp [Ne.symm hne, hpc]) [.lit (.int .i64 a)]
        · simp [n1, n2, c1]
        · simp [n3, n4, c2]
        · simp [hne]
        · simp
        · rintro j ρ E hj ⟨hLj, _, _, h4, h5⟩
          exact ⟨h4, h5, hLj.prg⟩
        · rintro j hj ρ E ⟨hLj, h1, h2, h4, h5⟩
          have hj' : j < Sp.len t.cells a := hj
          have hsu := nullP_succ t a j hj' hln
          have hgj := hfn.good j
          have hnj : (nullP t a 0).n = t.n := rfl
          rw [hnj, hsu]
          generalize (a + j + 1) % t.n = m at *
          generalize nullP t a j = u at *
          have hpu := pput_calls hLj.prg (m : Int) 0
          simp [h1]
          refine callK.of hpu ?_
          rintro v σ3 ⟨rfl, rfl⟩
          simp
          refine ⟨_, Store.sub_refl _, hLj.put (hgj.put _ _), ?_, ?_, ?_, ?_⟩
          · rw [putS_at hb0.2.2.1 hb0.2.2.2]; exact h1
          · rw [putS_at g2.2.2.1 g2.2.2.2]; exact h2
          · rw [putS_at gpb.2.2.1 gpb.2.2.2]; exact h4
          · rw [putS_at gpc.2.2.1 gpc.2.2.2]; exact h5
        · rintro ρ2 E2 σ2 hs2 ⟨hLj, h1, h2, _, _⟩
          have hend : nullP t a (Sp.len (nullP t a 0).cells a) = nullS t (Sp.places t.cells a) := nullP_all t a
          rw [hend] at hLj
          have hL2 := hLj.mono hs2
          have j1 := sub_at h1 hs2
          have j2 := sub_at h2 hs2
          have hkn := keep_null htg (Sp.places t.cells a)
          generalize nullS t (Sp.places t.cells a) = u at *
          have hat := fun τ (hτ : Prg τ q r u) => at_calls hτ (a : Int)
          have hse := fun τ (hτ : Prg τ q r u) => set_calls hτ (a : Int) (clr (u.at (a : Int)))
          have hk2 := keep_unmod1 hkn.same.1 (a := a) (by rw [hkn.same.n]; exact m3) (by rw [hkn.attr]; exact m4)
          have hun2 : unmod1 u a = u.set (a : Int) (clr (u.at (a : Int))) := rfl
          rw [hun2] at hk2 ⊢
          generalize hcc : u.at (a : Int) = c at *
          have hcl : cellA (clr c) = .agg [byteA c.char, .lit (.bool c.attr), byteA (c.fa &&& 0xfe), byteA c.high, byteA c.color, byteA c.set] := rfl
          rw [cellA_eq c] at hat
          rw [hcl] at hse
          have e1 := byteA_lit c.fa
          have e2 := byteA_lit (c.fa &&& 0xfe)
          have han := andNot1 c.fa
          rw [e1] at hat
          rw [e2] at hse
          simp [j1]
          refine callK.of (hat _ hL2.prg) ?_
          rintro v σ3 ⟨rfl, rfl⟩
          simp [-e_pureBin_11, han]
          intro t5 ht5
          have k3 : ¬ b = t5 := by rintro rfl; rw [j1] at ht5; cases ht5
          have k4 : ¬ b2 = t5 := by rintro rfl; rw [j2] at ht5; cases ht5
          simp [k3, j1]
          refine callK.of (hse _ (hL2.new ht5 _).prg) ?_
          rintro v σ4 ⟨rfl, rfl⟩
          simp
          refine ⟨_, Store.sub_refl _, (hL2.new ht5 _).put hk2.same.1, ?_, ?_⟩
          · rw [putS_at hb0.2.2.1 hb0.2.2.2]; simp [k3, j1]
          · rw [putS_at g2.2.2.1 g2.2.2.2]; simp [k4, j2]
        · rintro c ρ E2 σ2 hs2 hF
          exact hF.elim
    · rintro ρ E2 σ2 hs2 ⟨hL, h1, _⟩
      rw [hat0] at hL
      have hL2 := hL.mono hs2
      have j1 := sub_at h1 hs2
      have hnn : (unprotTo s s.attrs.length).n = s.n := (keep_unprotTo h.good _).same.n
      generalize unprotTo s s.attrs.length = t at *
      have hnx := fun τ (hτ : Prg τ q r t) => fnext0_calls hτ
      have hpl := fun τ (hτ : Prg τ q r t) => place_calls hτ (max (nextS t (t.n - 1)) 0)
      have hmx : max (nextS t (t.n - 1)) 0 = if nextS t (t.n - 1) < 0 then 0 else nextS t (t.n - 1) := by split <;> omega
      rw [hmx] at hpl
      rw [← hnn, hmx]
      have hgood := hL2.prg.good
      simp [j1]
      refine ⟨?_, ?_⟩
      all_goals
        refine callK.of (hnx _ hL2.prg) ?_
        rintro v σ3 ⟨rfl, rfl⟩
        simp [j1]
        refine callK.of (hpl _ hL2.prg) ?_
        rintro v σ4 ⟨rfl, rfl⟩
        simp
        exact (hL2.put (hgood.place _)).sub
    · rintro c ρ E2 σ2 hs2 hF
      exact hF.elim
end Go.Proofs.YtlmdbcgceijlnaaGreat
/-
  Slices of places: collected, looked into.
-/
namespace Go.Proofs.YtlmdbcgceijlnaaGreat
open Go Go.AL Go.Sp

def natA (n : Nat) : AV := .lit (.int .i64 n)
def natsA (L : List Nat) : List AV := L.map natA
@[simp] theorem natsA_len (L : List Nat) : (natsA L).length = L.length := by simp [natsA]
theorem natsA_append (a b : List Nat) : natsA (a ++ b) = natsA a ++ natsA b := by simp [natsA]
@[simp] theorem natsA_get (L : List Nat) (i : Nat) (h : i < (natsA L).length) : (natsA L)[i] = .lit (.int .i64 (L[i]'(by simpa using h) : Nat)) := by simp [natsA, natA]
set_option maxRecDepth 8000 in
theorem appseqG {fi : Nat} {fr : List AV} {L : List Nat} {Need : Nat → Store → Prop} (hN2 : L.length ≤ 1000000) (σ : Store) (_hsh : fr.map AV.share = fr)
    (hi : ∀ τ, IterG Tryz.prog fi fr τ L.length Need fun k _ => [.lit (.int .i64 (L[k]?.getD 0 : Nat))]) (hneed : ∀ k τ, Store.sub σ τ → Need k τ) (hc : callable Tryz.prog fi = true) :
    ACalls Tryz.prog 152 [.list true 1 [], .func (.func fi) [] fr] σ fun v σ' => v = .list false 1 (natsA L) ∧ σ' = σ := by
  refine ACalls.of_awpY follows (st := st152) (plans := pl152) (n := 13) Tryz.func152 rfl (by kernel_rfl) (by kernel_rfl) (by kernel_rfl) ?_
  simp
  intro q hq
  refine codeYK.rangeG follows (st := st152) (plans := pl152) (hi (σ.upd q [.list true 1 []])) (by simp) hc (by simp) (by kernel_rfl) (by kernel_rfl) (by kernel_rfl)
    (fun k τ _ => τ = σ.upd q [.list true 1 (natsA (L.take k))]) (fun _ _ _ => False)
    (σ.upd q [.list true 1 []]) (by simp [natsA]) (Store.sub_refl _) ?_ ?_ ?_ ?_
  · rintro k τ E hk rfl
    exact hneed k _ (Store.sub_upd hq (Store.sub_refl _))
  · rintro k hk τ E rfl
    obtain ⟨c, hc⟩ : ∃ c, L[k] = c := ⟨_, rfl⟩
    have ht : L.take (k + 1) = L.take k ++ [c] := by rw [List.take_succ_eq_append_getElem hk, hc]
    have hlk : (L.take k).length ≤ 1000000 := by simp; omega
    have hx : L[k]?.getD 0 = c := by simp [hk, hc]
    rw [hx]
    simp
    refine ⟨by omega, by omega, ?_⟩
    rw [ht, natsA_append]
    exact Store.sub_refl _
  · rintro τ E σ' hs rfl
    have e2 : σ' q = some [.list true 1 (natsA L)] := by
      rcases hs q with h | h
      · simp at h
      · rw [← h]; simp
    simp [e2]
    refine Store.sub_trans ?_ hs
    (intro q; simp only [Store.upd, Store.del]; (repeat' split) <;> simp_all)
  · rintro c τ E σ' hs h
    exact h.elim
set_option maxRecDepth 8000 in
theorem collectG {fi : Nat} {fr : List AV} {L : List Nat} {Need : Nat → Store → Prop} (hN2 : L.length ≤ 1000000) (σ : Store) (hsh : fr.map AV.share = fr)
    (hi : ∀ τ, IterG Tryz.prog fi fr τ L.length Need fun k _ => [.lit (.int .i64 (L[k]?.getD 0 : Nat))]) (hneed : ∀ k τ, Store.sub σ τ → Need k τ) (hc : callable Tryz.prog fi = true) :
    ACalls Tryz.prog 132 [.func (.func fi) [] fr] σ fun v σ' => v = .list false 1 (natsA L) ∧ σ' = σ := by
  have ha := appseqG hN2 σ hsh hi hneed hc
  refine ACalls.of_awp follows (st := st132) (plans := pl132) (n := 5) Tryz.func132 rfl (by kernel_rfl) (by kernel_rfl) (by kernel_rfl) ?_
  simp
  refine callK.of ha ?_
  rintro v σ' ⟨rfl, rfl⟩
  simp
theorem idxOf_get {L : List Nat} {i : Nat} (h : i < L.length) (hn : ∀ j, (hj : j < i) → L[j]'(by omega) ≠ L[i]) : L.idxOf L[i] = i := by
  induction L generalizing i with
  | nil => simp at h
  | cons a l ih =>
    cases i with
    | zero => simp
    | succ i =>
      have h0 := hn 0 (by omega)
      simp only [List.getElem_cons_zero, List.getElem_cons_succ] at h0 ⊢
      have h1 := ih (by simpa using h) fun j hj => by simpa using hn (j + 1) (by omega)
      have h2 : (a == l[i]'(by simpa using h)) = false := by simpa using h0
      rw [List.idxOf_cons, h1, h2]
      rfl
set_option maxRecDepth 8000 in
theorem index_calls (o : Bool) (L : List Nat) (hN2 : L.length ≤ 1000000) (x : Nat) (hx : x ∈ L) (σ : Store) : ACalls Tryz.prog 155 [.list o 1 (natsA L), .lit (.int .i64 x)] σ fun v σ' => v = .lit (.int .i64 (L.idxOf x : Nat)) ∧ σ' = σ := by
  refine ACalls.of_awp follows (st := st155) (plans := pl155) (n := 19) Tryz.func155 rfl (by kernel_rfl) (by kernel_rfl) (by kernel_rfl) ?_
  simp
  refine codeK.loop follows (st := st155) (plans := pl155) (X := Nat) (fun i => i ≤ L.length ∧ ∀ j, (hj : j < L.length) → j < i → L[j] ≠ x)
    (fun i => [(0, .list false 1 (natsA L)), (1, .lit (.int .i64 x)), (6, .list false 1 (natsA L)), (7, .lit (.int .i64 L.length)), (8, .lit (.int .i64 i))]) (fun _ => σ) (fun i => L.length - i) 0 (by kernel_rfl) (by simp) (by simp) (Store.sub_refl _) fun i hi => ?_
  obtain ⟨hi, hj⟩ := hi
  by_cases hlt : i < L.length
  · have hw : IntKind.i64.wrap ((i : Int) + 1) = ((i + 1 : Nat) : Int) := wrap_i64 (by omega) (by omega)
    simp [hlt]
    by_cases he : L[i] = x
    · have hix := idxOf_get hlt fun j hj2 => by rw [he]; exact hj j (by omega) hj2
      rw [he] at hix
      simp [he, hix]
    · have hne : ¬ (x : Int) = ((L[i] : Nat) : Int) := fun e => he (by omega)
      simp [hne, hw]
      refine ⟨i + 1, ⟨by omega, fun j hj2 hji => ?_⟩, by omega, by simp⟩
      by_cases e : j = i
      · subst e; exact he
      · exact hj j hj2 (by omega)
  · obtain ⟨i2, hi2, he⟩ := List.getElem_of_mem hx
    exact absurd he (hj i2 hi2 (by omega))
end Go.Proofs.YtlmdbcgceijlnaaGreat
/-
  The places from one on to the end of its field.
-/
namespace Go.Proofs.YtlmdbcgceijlnaaGreat
open Go Go.AL Go.Sp

theorem least (P : Nat → Bool) {j : Nat} (h : P j = true) : ∃ i, i ≤ j ∧ P i = true ∧ ∀ k, k < i → P k = false := by
  induction j using Nat.strongRecOn with
  | ind j ih =>
    by_cases hx : ∃ k, k < j ∧ P k = true
    · obtain ⟨k, hk, hp⟩ := hx
      obtain ⟨i, h1, h2⟩ := ih k hk hp
      exact ⟨i, by omega, h2⟩
    · refine ⟨j, Nat.le_refl _, h, fun k hk => ?_⟩
      cases e : P k
      · rfl
      · exact absurd ⟨k, hk, e⟩ hx
theorem back_at {N n a : Nat} (hn : n < N) (ha : a < N) : (n + N - (n + N - a) % N) % N = a := by
  rcases Nat.lt_or_ge n a with h2 | h2
  · rw [Nat.mod_eq_of_lt (by omega : n + N - a < N), show n + N - (n + N - a) = a from by omega, Nat.mod_eq_of_lt ha]
  · rw [show n + N - a = (n - a) + N from by omega, Nat.add_mod_right, Nat.mod_eq_of_lt (by omega : n - a < N), show n + N - (n - a) = a + N from by omega, Nat.add_mod_right, Nat.mod_eq_of_lt ha]
/-- A place that is no attribute lies in the field that begins ahead of it. -/
structure InField (s : Sp) (n a : Nat) : Prop where
  start : startS s.cells n = (a : Nat)
  lt : a < s.n
  attr : attrAt s.cells a = true
  mem : n ∈ Sp.places s.cells a
theorem in_field {s : Sp} (h : s.good) {n : Nat} (hn : n < s.n) (hc : ¬ s.count = 0) (hat : attrAt s.cells n = false) : ∃ a, InField s n a := by
  obtain ⟨b, hb, hbt⟩ := count_some (by omega : 0 < s.count)
  have hl := h.len
  rw [hl] at hb
  have hpos := s.n_pos
  have hm := Nat.mod_lt (n + s.n - b) hpos
  obtain ⟨j, hj, hP, hfree⟩ := least (fun j => attrAt s.cells ((n + s.n - j) % s.n)) (j := (n + s.n - b) % s.n) (by rw [back_at hn hb]; exact hbt)
  have hj2 : j < s.n := by omega
  have hbs := back_start h hn hj2 hfree hP
  have hj1 : 0 < j := by
    rcases Nat.eq_zero_or_pos j with rfl | h1
    · simp [Nat.mod_eq_of_lt hn] at hP; rw [hat] at hP; cases hP
    · exact h1
  refine ⟨(n + s.n - j) % s.n, hbs, Nat.mod_lt _ hpos, hP, ?_⟩
  have hi : ∀ i, i ≤ j → ((n + s.n - j) % s.n + i) % s.n = (n + s.n - (j - i)) % s.n := fun i hi => by
    rw [Nat.mod_add_mod, show n + s.n - j + i = n + s.n - (j - i) from by omega]
  have hlen : j ≤ Sp.len s.cells ((n + s.n - j) % s.n) := by
    rcases Nat.lt_or_ge (Sp.len s.cells ((n + s.n - j) % s.n)) j with h1 | h1
    · have h2 := Sp.len_stop hP (by rw [hl]; exact Nat.mod_lt _ hpos)
      rw [hl, Nat.add_assoc, hi _ (by omega), hfree _ (by omega)] at h2
      cases h2
    · exact h1
  unfold Sp.places
  rw [List.mem_map]
  refine ⟨j - 1, by simp; omega, ?_⟩
  rw [hl, show (n + s.n - j) % s.n + (j - 1) + 1 = (n + s.n - j) % s.n + j from by omega, hi j (Nat.le_refl _)]
  simp [Nat.mod_eq_of_lt hn]
theorem IterG.congr {P : Program} {f : Nat} {caps : List AV} {σ : Store} {N : Nat} {Need : Nat → Store → Prop} {arg : Nat → Store → List AV} (h : IterG P f caps σ N Need arg) (arg' : Nat → List AV) (he : ∀ k τ, k < N → arg k τ = arg' k) :
    IterG P f caps σ N Need fun k _ => arg' k :=
  ⟨fun k τ τ' hn hs => ⟨(h.mono k τ τ' hn hs).1, rfl⟩, fun X l I J h1 h2 τ E h3 hs => h.run X l I J h1 (fun k hk τ E hI => by rw [he k τ hk]; exact h2 k hk τ E hI) τ E h3 hs⟩
theorem spanL_len (N f t : Nat) : (spanL N f t).length = spanLen N f t := by simp [spanL]
set_option maxRecDepth 8000 in
theorem cspan_calls {q r : Nat} {s : Sp} {σ : Store} {b1 b2 b3 : Nat} {f t : Nat} (hf : f < s.n) (ht : t < s.n) (h : NeedB b1 b2 b3 s f t σ) : ACalls Tryz.prog 132 [.func (.func 162) [] [ptrA b1, ptrA b2, ptrA b3]] σ fun v σ' => v = .list false 1 (natsA (spanL s.n f t)) ∧ σ' = σ := by
  have hl := spanL_len s.n f t
  have hN := (spanLen_pos (N := s.n) (f := f) (t := t) s.n_pos).2
  have hnl := s.n_le
  refine collectG (L := spanL s.n f t) (Need := fun _ => NeedB b1 b2 b3 s f t) (by omega) σ rfl (fun τ => ?_) (fun k τ hs => h.mono hs) (by kernel_rfl)
  rw [hl]
  refine IterG.congr (span_iter b1 b2 b3 s hf ht τ) _ fun k τ hk => ?_
  simp [spanL, hk]
set_option maxRecDepth 8000 in
theorem cplaces_calls {q r : Nat} {s : Sp} {σ : Store} {b c a : Nat} (ha : a < s.n) (hat : attrAt s.cells a = true) (hb : σ b = some [ptrA q]) (hc : σ c = some [.lit (.int .i64 a)]) (h : Prg σ q r s) : ACalls Tryz.prog 132 [.func (.func 158) [] [ptrA b, ptrA c]] σ fun v σ' => v = .list false 1 (natsA (Sp.places s.cells a)) ∧ σ' = σ := by
  have hl := places_length' s.cells a
  have hN := Sp.len_lt (l := s.cells) (a := a) (by rw [h.good.len]; exact ha)
  have hnl := s.n_le
  have hcl := h.good.len
  refine collectG (L := Sp.places s.cells a) (Need := NeedP b c q r s a) (by omega) σ rfl (fun τ => ?_) (fun k τ hs => needP_mono (k := k) ⟨hb, hc, h⟩ hs) (by kernel_rfl)
  rw [hl]
  refine IterG.congr (places_iter b c q r s a ha hat τ) _ fun k τ hk => ?_
  have hk2 : k < (Sp.places s.cells a).length := by rw [hl]; exact hk
  rw [List.getElem?_eq_getElem hk2, places_get' _ _ _ hk2, hcl]
  rfl
def restL (s : Sp) (n : Nat) : List Nat := if s.count = 0 then spanL s.n n 0 else (Sp.places s.cells (startS s.cells n).toNat).drop ((Sp.places s.cells (startS s.cells n).toNat).idxOf n)
set_option maxRecDepth 8000 in
theorem erest_calls {q r : Nat} {s : Sp} {σ : Store} (h : Prg σ q r s) {n : Nat} (hn : n < s.n) (hat : attrAt s.cells n = false) : ACalls Tryz.prog 134 [ptrA q, .lit (.int .i64 n)] σ fun v σ' => v = .list false 1 (natsA (restL s n)) ∧ σ' = σ := by
  have hsz := fun τ (hτ : Prg τ q r s) => size_calls hτ
  have hw := fun τ => swrap_calls s (n : Int) τ
  rw [wrap_of_lt hn] at hw
  have hst := start_calls h hn
  have hpos := s.n_pos
  have hnl := s.n_le
  unfold restL
  refine ACalls.of_awp follows (st := st134) (plans := pl134) (n := 30) Tryz.func134 rfl (by kernel_rfl) (by kernel_rfl) (by kernel_rfl) ?_
  simp
  refine callK.of (hsz _ h) ?_
  rintro v σ' ⟨rfl, rfl⟩
  simp
  refine callK.of (hw _) ?_
  rintro v σ' ⟨rfl, rfl⟩
  simp
  refine callK.of hst ?_
  rintro v σ' ⟨rfl, rfl⟩
  by_cases hc : s.count = 0
  · have hs := startS_none hc n
    rw [hs]
    simp [hc]
    refine callK.of (hsz _ h) ?_
    rintro v σ' ⟨rfl, rfl⟩
    simp
    refine callK.of (span_calls2 s n 0 _) ?_
    rintro v σ2 ⟨b1, b2, b3, rfl, h1, h2, h3, e1, e2, e3, rfl⟩
    simp
    refine callK.of (cspan_calls (q := q) (r := r) hn hpos ⟨?_, ?_, ?_⟩) ?_
    · simp [e1, e2]
    · simp [e3]
    · simp
    rintro v σ2 ⟨rfl, rfl⟩
    simp
    (intro q; simp only [Store.upd, Store.del]; (repeat' split) <;> first | exact Or.inr rfl | exact Or.inl rfl | (exfalso; omega) | (left; subst_vars; assumption) | simp_all)
  · obtain ⟨a, hf⟩ := in_field h.good hn hc hat
    have hs := hf.start
    have hm := hf.mem
    have ha := hf.lt
    have haa := hf.attr
    have hix := index_calls
    have hpl := Sp.len_lt (l := s.cells) (a := a) (by rw [h.good.len]; exact ha)
    have hl := places_length' s.cells a
    have hcl := h.good.len
    have hneg : ¬ (a : Int) < 0 := by omega
    rw [hs]
    simp [hc, hneg]
    refine callK.of (places_calls2 q (a : Int) _) ?_
    rintro v σ2 ⟨b, c, h1, h2, e1, rfl, rfl⟩
    simp
    have e2 := h.fresh h1
    have e3 := h.fresh h2
    refine callK.of (cplaces_calls (q := q) (r := r) (s := s) ha haa ?_ ?_ ?_) ?_
    · simp [e1]
    · simp
    · exact (h.new h1 _).upd ⟨e3.1, e3.2.1⟩ _
    rintro v σ2 ⟨rfl, rfl⟩
    have hL : (Sp.places s.cells a).length ≤ 1000000 := by omega
    generalize Sp.places s.cells a = L at *
    have hio := List.idxOf_lt_length_of_mem hm
    have hi := index_calls false L hL n hm
    generalize L.idxOf n = i at *
    simp
    refine callK.of (hi _) ?_
    rintro v σ2 ⟨rfl, rfl⟩
    have hle : i ≤ L.length := by omega
    simp [hle]
    exact ⟨le_of_eq (by rw [List.take_of_length_le (by simp), natsA, natsA, List.map_drop]), by (intro q; simp only [Store.upd, Store.del]; (repeat' split) <;> first | exact Or.inr rfl | exact Or.inl rfl | (exfalso; omega) | (left; subst_vars; assumption) | simp_all)⟩
end Go.Proofs.YtlmdbcgceijlnaaGreat
