/-
  A report's entries as a row that is an object; characters of the last one.
-/
import Derived.Test.YtkjcdnmjdanmpaaVPart16
set_option linter.unusedSimpArgs false
set_option linter.unusedVariables false
namespace Go.Proofs.Ytkjcdnmjdanmpaa
open Go Go.AL

/-- An entry whose text may be appended to. -/
def enO (e : En) : AV := .agg [.lit (.int .i64 e.addr), .list true 1 (bytesA e.text)]
def esO (l : List En) : List AV := l.flatMap fun e => (enO e).cells
theorem esO_length (l : List En) : (esO l).length = l.length * 2 := by
  induction l with
  | nil => rfl
  | cons e l ih => simp only [esO, List.flatMap_cons, List.length_append, List.length_cons] at *; rw [ih]; simp [enO, AV.cells]; omega
theorem esO_append (l k : List En) : esO (l ++ k) = esO l ++ esO k := by simp [esO]
theorem esO_one (e : En) : esO [e] = [.lit (.int .i64 e.addr), .list true 1 (bytesA e.text)] := by simp [esO, enO]
theorem mid_get {X Y : List AV} (j : Nat) : (X ++ Y)[X.length + j]? = Y[j]? := by
  rw [List.getElem?_append_right (by omega)]; congr 1; omega
theorem last_get (init : List En) (last : En) (rest : List AV) : (esO (init ++ [last]) ++ rest)[init.length * 2 + 1]? = some (.list true 1 (bytesA last.text)) := by
  rw [esO_append, esO_one, List.append_assoc]
  have h1 := mid_get (X := esO init) (Y := [AV.lit (.int .i64 last.addr), .list true 1 (bytesA last.text)] ++ rest) 1
  rw [esO_length] at h1
  exact h1
theorem last_set (init : List En) (last : En) (rest : List AV) (d : List UInt8) : (esO (init ++ [last]) ++ rest).set (init.length * 2 + 1) (.list true 1 (bytesA d)) = esO (init ++ [{ last with text := d }]) ++ rest := by
  rw [esO_append, esO_append, esO_one, esO_one, List.append_assoc, List.append_assoc, List.set_append_right _ _ (by rw [esO_length]; omega), esO_length]
  congr 1
  rw [show init.length * 2 + 1 - init.length * 2 = 1 by omega]
  rfl
theorem take_esO (l : List En) (rest : List AV) : (esO l ++ rest).take (l.length * 2) = esO l := by
  rw [← esO_length, List.take_left]

theorem sub_of_eq {σ τ : Store} (h : σ = τ) : Store.sub σ τ := h ▸ Store.sub_refl _
def rowN (p cap n : Nat) : AV := .lit (.slice (some ⟨p, 0, none⟩) n cap)

set_option maxRecDepth 8000 in
theorem add_nil (q : Nat) (A B C : AV) (o : Bool) (t : List UInt8) (ht : t.length ≤ 1000000) (σ : Store) (hq : σ q = some [A, B, C, .lit (.slice none 0 0)]) :
    ACalls Try.prog 20 [ptrA q, .list o 1 (bytesA t)] σ fun v σ' => ∃ p : Nat, v = .tuple [] ∧ σ p = none ∧ σ' = (σ.upd p (esO [⟨0, t⟩])).upd q [A, B, C, rowN p 1 1] := by
  refine ACalls.of_awp follows (st := st20) (plans := pl20) (n := 36) Try.func20 rfl (by kernel_rfl) (by kernel_rfl) (by kernel_rfl) ?_
  simp [hq]
  intro p hp
  have hpq : q ≠ p := fun h => by subst h; rw [hq] at hp; cases hp
  have hw : IntKind.i64.wrap 0 = 0 := by decide
  simp [hpq, Ne.symm hpq, hw]
  refine ⟨by omega, by omega, _, AV.le_refl _, _, ?_, rfl, p, hp, rfl⟩
  refine sub_of_eq ?_
  refine Store.ext2 (fun k => ?_) (fun g => by simp)
  simp only [supd_apply, esO_one, rowN]
  by_cases h1 : k = p
  · subst h1; simp [Ne.symm hpq]
  · by_cases h2 : k = q
    · subst h2; simp [hpq]
    · simp [h1, h2]

set_option maxRecDepth 8000 in
theorem add_more (q p cap : Nat) (A B C : AV) (o : Bool) (init : List En) (last : En) (rest : List AV) (t : List UInt8) (ht : last.text.length + t.length ≤ 1000000) (hil : init.length ≤ 1000000) (hcap : init.length + 1 ≤ cap) (hcm : cap ≤ 9223372036854775807) (hlen : (esO (init ++ [last]) ++ rest).length = cap * 2)
    (σ : Store) (hpq : p ≠ q) (hq : σ q = some [A, B, C, rowN p cap (init.length + 1)]) (hp : σ p = some (esO (init ++ [last]) ++ rest)) :
    ACalls Try.prog 20 [ptrA q, .list o 1 (bytesA t)] σ fun v σ' => v = .tuple [] ∧ σ' = σ.upd p (esO (init ++ [{ last with text := last.text ++ t }]) ++ rest) := by
  have hn1 : IntKind.i64.wrap (((init.length + 1 : Nat) : Int) - 1) = (init.length : Int) := by
    rw [wrap_i64 (by omega) (by omega)]; omega
  have hn2 : IntKind.i64.wrap ((init.length : Int) + 1 - 1) = (init.length : Int) := by
    rw [wrap_i64 (by omega) (by omega)]; omega
  have hw : IntKind.i64.wrap ((init.length : Int)) = (init.length : Int) := by
    rw [wrap_i64 (by omega) (by omega)]
  have g1 := last_get init last rest
  have hs := last_set init last rest (last.text ++ t)
  have hlb : init.length * 2 + 1 < (esO (init ++ [last]) ++ rest).length := (List.getElem?_eq_some_iff.1 g1).1
  have h0 : ¬ ((init.length : Int) + 1 = 0) := by omega
  have hlt : (init.length : Int) < (init.length : Int) + 1 := by omega
  rw [bytesA_append] at hs
  unfold rowN at hq
  generalize esO (init ++ [last]) ++ rest = L at *
  generalize esO (init ++ [{ last with text := last.text ++ t }]) ++ rest = M at *
  refine ACalls.of_awp follows (st := st20) (plans := pl20) (n := 36) Try.func20 rfl (by kernel_rfl) (by kernel_rfl) (by kernel_rfl) ?_
  simp [hq, hp, hw, h0, hlt, g1]
  exact ⟨by omega, by omega, by omega, sub_eq hs.symm⟩
end Go.Proofs.Ytkjcdnmjdanmpaa
/-
  A report of bytes.
-/
namespace Go.Proofs.Ytkjcdnmjdanmpaa
open Go Go.AL

def addE (es : List En) (t : List UInt8) : List En := match es.getLast? with
  | none => [⟨0, t⟩]
  | some last => es.dropLast ++ [{ last with text := last.text ++ t }]
def entS (es : List En) (o : Op) : Option (List En) :=
  if o.kind = 17 then some (es ++ [⟨o.addr, []⟩]) else if o.kind = 0 then some (addE es o.text) else if o.kind = 8 then some (addE es [o.code]) else if o.kind = 40 then some es else none
def entsS (os : List Op) : Option (List En) := os.foldlM entS []
theorem addE_more (init : List En) (last : En) (t : List UInt8) : addE (init ++ [last]) t = init ++ [{ last with text := last.text ++ t }] := by
  simp [addE]
theorem entsS_take {os : List Op} {i : Nat} (h : i < os.length) {es : List En} (he : entsS (os.take i) = some es) : entsS (os.take (i + 1)) = entS es os[i] := by
  rw [entsS, List.take_succ_eq_append_getElem h, List.foldlM_append]
  rw [entsS] at he
  simp [he]
theorem entsS_none {os : List Op} {i : Nat} (h : entsS (os.take i) = none) : entsS os = none := by
  rw [entsS, ← List.take_append_drop i os, List.foldlM_append]
  rw [entsS] at h
  simp [h]

/-- How much text an order brings. -/
def grow (o : Op) : Nat := if o.kind = 0 then o.text.length else 1
def textIn (l : List En) : Nat := (l.map fun e => e.text.length).sum
theorem textIn_append (l k : List En) : textIn (l ++ k) = textIn l + textIn k := by simp [textIn]
theorem entS_size {es es' : List En} {o : Op} (h : entS es o = some es') : textIn es' ≤ textIn es + grow o ∧ es'.length ≤ es.length + 1 := by
  have hadd : ∀ t, textIn (addE es t) ≤ textIn es + t.length ∧ (addE es t).length ≤ es.length + 1 := fun t => by
    rcases List.eq_nil_or_concat es with rfl | ⟨init, last, rfl⟩
    · simp [addE, textIn]
    · rw [List.concat_eq_append, addE_more, textIn_append, textIn_append]
      simp [textIn]; omega
  unfold entS at h
  unfold grow
  split at h
  · simp at h; subst h; rw [textIn_append]; simp [textIn]
  · split at h
    · rename_i hk; simp at h; subst h; rw [if_pos hk]; exact hadd _
    · split at h
      · simp at h; subst h
        rw [if_neg (by assumption)]; exact hadd _
      · split at h
        · simp at h; subst h; omega
        · cases h
def growS (os : List Op) : Nat := (os.map grow).sum
theorem entsS_size {os : List Op} {es es' : List En} (h : os.foldlM entS es = some es') : textIn es' ≤ textIn es + growS os ∧ es'.length ≤ es.length + os.length := by
  induction os generalizing es with
  | nil => simp at h; subst h; simp [growS]
  | cons o os ih =>
    rw [List.foldlM_cons] at h
    cases ho : entS es o with
    | none => simp [ho] at h
    | some es1 =>
      simp [ho] at h
      have h1 := entS_size ho
      have h2 := ih h
      simp only [growS, List.map_cons, List.sum_cons, List.length_cons] at *
      omega
theorem grow_take (os : List Op) (i : Nat) : growS (os.take i) ≤ growS os := by
  have : os = os.take i ++ os.drop i := (List.take_append_drop i os).symm
  have h : growS os = growS (os.take i) + growS (os.drop i) := by
    have h2 : ∀ a b : List Op, growS (a ++ b) = growS a + growS b := fun a b => by simp [growS]
    rw [← h2, ← this]
  omega
theorem grow_le {os : List Op} {i : Nat} (h : i < os.length) : growS (os.take i) + grow os[i] ≤ growS os := by
  have h1 := grow_take os (i + 1)
  have h2 : ∀ a b : List Op, growS (a ++ b) = growS a + growS b := fun a b => by simp [growS]
  rw [List.take_succ_eq_append_getElem h, h2] at h1
  exact h1
theorem Step.grow {l l' : List UInt8} {o : Op} (h : Step l o l' 0) : grow o + l'.length ≤ l.length := by
  have h1 := h.len
  have h2 := (h.wf rfl).2.2
  unfold Ytkjcdnmjdanmpaa.grow
  split <;> omega
theorem AllS.grow {l : List UInt8} {os : List Op} (h : AllS l os 0) : growS os ≤ l.length := by
  generalize he : 0 = e at h
  induction h with
  | nil => simp [growS]
  | ok h1 h2 ih => have := h1.grow; have := ih he; simp only [growS, List.map_cons, List.sum_cons] at *; omega
  | bad h1 h2 => exact absurd he.symm h2

def rowT (p cap : Nat) (es : List En) : AV := if es = [] then .lit (.slice none 0 0) else rowN p cap es.length
def objS (τ : Store) (q : Nat) (A B C : AV) (p cap : Nat) (es : List En) (rest : List AV) : Store := if es = [] then τ.upd q [A, B, C, .lit (.slice none 0 0)] else (τ.upd q [A, B, C, rowN p cap es.length]).upd p (esO es ++ rest)

/-- What is left to say behind the head. -/
def TailS (aid : UInt8) (short : Bool) (n : Nat) (rest : List UInt8) (r : Rp) (e : Nat) : Prop :=
  ∃ os e2, AllS rest os e2 ∧ os.length ≤ rest.length ∧ if e2 ≠ 0 then e = e2 else match entsS os with
    | some es => r = ⟨aid, short, n, es⟩ ∧ e = 0
    | none => e = 4
def PaR (S : Rp → Nat → Prop) (σ : Store) (v : AV) (σ' : Store) : Prop := ∃ ow r e, v = .tuple [rpO ow r, .lit (.int .i64 (e : Nat))] ∧ σ' = σ ∧ S r e
/-- The same, the entries being an object yet. -/
def PaO (aid : UInt8) (short : Bool) (n : Nat) (rest : List UInt8) (σ : Store) (v : AV) (σ' : Store) : Prop :=
  PaR (TailS aid short n rest) σ v σ' ∨ ∃ p cap es rest', v = .tuple [.agg [byteA aid, .lit (.bool short), .lit (.int .i64 (n : Nat)), rowT p cap es], .lit (.int .i64 0)] ∧ TailS aid short n rest ⟨aid, short, n, es⟩ 0 ∧
    (es = [] → σ' = σ) ∧ (es ≠ [] → σ p = none ∧ (esO es ++ rest').length = cap * 2 ∧ cap ≤ maxLen ∧ σ' = σ.upd p (esO es ++ rest'))

set_option maxRecDepth 8000 in
set_option maxHeartbeats 4000000 in
theorem parse_tail (o ob : Bool) (p : List UInt8) (aid : UInt8) (short : Bool) (n : Nat) (rest : List UInt8) (hl : rest.length ≤ 100000) (σ : Store)
    (hb : ∀ σ, ACalls Try.prog 18 [.list false 1 (bytesA p)] σ fun v σ' => v = .tuple [hdA aid short n, .list ob 1 (bytesA rest), .lit (.int .i64 0)] ∧ σ' = σ) :
    ACalls Try.prog 12 [.list o 1 (bytesA p)] σ (PaO aid short n rest σ) := by
  have hh : hdA aid short n = .agg [byteA aid, .lit (.bool short), .lit (.int .i64 n), .lit (.slice none 0 0)] := rfl
  refine ACalls.of_awp follows (st := st12) (plans := pl12) (n := 65) Try.func12 rfl (by kernel_rfl) (by kernel_rfl) (by kernel_rfl) ?_
  simp
  intro r0 hr0
  refine callK.of (hb _) ?_
  rintro v σ' ⟨rfl, rfl⟩
  simp [-Bool.exists_bool, hh]
  intro q hq
  simp only [ite_none] at hq
  obtain ⟨hqr, hq⟩ := hq
  have hrq := Ne.symm hqr
  refine callK.of (all_calls false rest _ hl) ?_
  rintro v σ' ⟨ow, os, m, e2, rfl, rfl, hall, hol⟩
  by_cases h2 : e2 = 0
  · subst h2
    have hos : os.length ≤ 100000 := by omega
    have hgr := hall.grow
    simp [-Bool.exists_bool]
    refine codeK.loop follows (st := st12) (plans := pl12) (X := Nat × Nat × Nat × List En × List AV) (fun x => x.1 ≤ os.length ∧ entsS (os.take x.1) = some x.2.2.2.1 ∧
        (x.2.2.2.1 ≠ [] → σ x.2.1 = none ∧ x.2.1 ≠ r0 ∧ x.2.1 ≠ q ∧ (esO x.2.2.2.1 ++ x.2.2.2.2).length = x.2.2.1 * 2 ∧ x.2.2.1 ≤ maxLen))
      (fun x => [(2, ptrA r0), (4, ptrA q), (31, .list false 7 (opsA os)), (32, .lit (.int .i64 os.length)), (33, .lit (.int .i64 x.1))])
      (fun x => objS (σ.upd r0 [.lit (.int .u8 0), .lit (.bool false), .lit (.int .i64 0), .list true 2 []]) q (byteA aid) (.lit (.bool short)) (.lit (.int .i64 n)) x.2.1 x.2.2.1 x.2.2.2.1 x.2.2.2.2)
      (fun x => os.length - x.1) (0, 0, 0, [], []) (by kernel_rfl) (by simp [entsS]) (by simp) (by simp [objS]) fun x hx => ?_
    obtain ⟨i, pp, cap, es, rr⟩ := x
    obtain ⟨hi, hes, hrow⟩ := hx
    dsimp only at hi hes hrow ⊢
    by_cases hlt : i < os.length
    · have hsz := entsS_size (by simpa [entsS] using hes)
      have hg := grow_le hlt
      have hg2 := opsA_get os i hlt
      have hnx := entsS_take hlt hes
      have hw : IntKind.i64.wrap ((i : Int) + 1) = ((i + 1 : Nat) : Int) := wrap_i64 (by omega) (by omega)
      have hnone := fun h => entsS_none (os := os) (i := i + 1) h
      obtain ⟨op, hop⟩ : ∃ op, os[i] = op := ⟨_, rfl⟩
      rw [hop] at hg hg2 hnx
      have hopc : opA op = .agg (opC op) := rfl
      by_cases hne : es = []
      · subst hne
        have hfr : ∀ c : Nat, (if c = q then some [byteA aid, AV.lit (.bool short), AV.lit (.int .i64 (n : Int)), AV.lit (.slice none 0 0)] else if c = r0 then some [AV.lit (.int .u8 0), AV.lit (.bool false), AV.lit (.int .i64 0), AV.list true 2 []] else σ c) = none → c ≠ q ∧ q ≠ c ∧ c ≠ r0 ∧ r0 ≠ c ∧ σ c = none := fun c hc => by
          simp only [ite_none] at hc; exact ⟨hc.1, Ne.symm hc.1, hc.2.1, Ne.symm hc.2.1, hc.2.2⟩
        have hfin : ∀ {es' : List En} {p1 cap1 : Nat} {rr1 : List AV} {τ : Store}, entS [] op = some es' → (es' ≠ [] → σ p1 = none ∧ ¬p1 = r0 ∧ ¬p1 = q ∧ (esO es').length + rr1.length = cap1 * 2 ∧ cap1 ≤ 9223372036854775807) →
            Store.sub (objS (σ.upd r0 [.lit (.int .u8 0), .lit (.bool false), .lit (.int .i64 0), .list true 2 []]) q (byteA aid) (.lit (.bool short)) (.lit (.int .i64 n)) p1 cap1 es' rr1) τ →
            ∃ (a a_1 a_2 : Nat) (a_3 : List En) (b : List AV), (a ≤ os.length ∧ entsS (os.take a) = some a_3 ∧ (¬a_3 = [] → σ a_1 = none ∧ ¬a_1 = r0 ∧ ¬a_1 = q ∧ (esO a_3).length + b.length = a_2 * 2 ∧ a_2 ≤ 9223372036854775807)) ∧ os.length - a < os.length - i ∧
              (AV.lit (.int .i64 (IntKind.i64.wrap ((i : Int) + 1)))).le (.lit (.int .i64 (a : Nat))) ∧ Store.sub (objS (σ.upd r0 [.lit (.int .u8 0), .lit (.bool false), .lit (.int .i64 0), .list true 2 []]) q (byteA aid) (.lit (.bool short)) (.lit (.int .i64 n)) a_1 a_2 a_3 b) τ := fun h1 h2 h3 =>
          ⟨i + 1, _, _, _, _, ⟨by omega, by rw [hnx]; exact h1, h2⟩, by omega, by rw [hw]; exact AV.le_refl _, h3⟩
        simp only [objS] at hfin
        by_cases k17 : op.kind = 17
        · have hes' : entS [] op = some [⟨op.addr, []⟩] := by simp [entS, k17]
          simp [hlt, hg2, hopc, opC, objS, k17]
          intro c hc
          obtain ⟨c1, c2, c3, c4, c5⟩ := hfr c hc
          simp [c2, rowOf, srcOf]
          intro b hb p1 cap1 hp1 h1 h3
          simp only [ite_none] at hb hp1
          obtain ⟨b1, b2, b3, b4⟩ := hb
          obtain ⟨p0, p1', p2, p3, p4⟩ := hp1
          simp [Ne.symm b2, Ne.symm p2]
          refine hfin (p1 := p1) (cap1 := cap1) (rr1 := List.replicate ((cap1 - 1) * 2) .top) hes' (fun _ => ⟨p4, p3, p2, by simp [esO_one]; omega, h3⟩) ?_
          rw [if_neg (by simp)]
          simp [esO_one, rowN]
          (intro q; simp only [Store.upd, Store.del]; (repeat' split) <;> first | exact Or.inr rfl | exact Or.inl rfl | (exfalso; omega) | (left; subst_vars; assumption) | simp_all)
        · by_cases k0 : op.kind = 0
          · have hes' : entS [] op = some [⟨0, op.text⟩] := by simp [entS, k0, addE]
            have htl : op.text.length ≤ 1000000 := by simp only [grow, k0, if_true] at hg; omega
            simp [hlt, hg2, hopc, opC, objS, k0]
            intro c hc
            obtain ⟨c1, c2, c3, c4, c5⟩ := hfr c hc
            refine callK.of (add_nil q (byteA aid) (.lit (.bool short)) (.lit (.int .i64 n)) false op.text htl _ (by simp [c2])) ?_
            rintro v σ' ⟨p1, rfl, hp1, rfl⟩
            simp only [supd_apply, ite_none] at hp1
            obtain ⟨p1', p2, p3, p4⟩ := hp1
            simp
            refine hfin (p1 := p1) (cap1 := 1) (rr1 := []) hes' (fun _ => ⟨p4, p3, p2, by simp [esO_one], by omega⟩) ?_
            rw [if_neg (by simp)]
            simp [esO_one, rowN]
            (intro q; simp only [Store.upd, Store.del]; (repeat' split) <;> first | exact Or.inr rfl | exact Or.inl rfl | (exfalso; omega) | (left; subst_vars; assumption) | simp_all)
          · by_cases k8 : op.kind = 8
            · have hes' : entS [] op = some [⟨0, [op.code]⟩] := by simp [entS, k8, addE]
              simp [hlt, hg2, hopc, opC, objS, k8]
              intro c hc
              obtain ⟨c1, c2, c3, c4, c5⟩ := hfr c hc
              refine callK.of (add_nil q (byteA aid) (.lit (.bool short)) (.lit (.int .i64 n)) true [op.code] (by simp) _ (by simp [c2])) ?_
              rintro v σ' ⟨p1, rfl, hp1, rfl⟩
              simp only [supd_apply, ite_none] at hp1
              obtain ⟨p1', p2, p3, p4⟩ := hp1
              simp
              refine hfin (p1 := p1) (cap1 := 1) (rr1 := []) hes' (fun _ => ⟨p4, p3, p2, by simp [esO_one], by omega⟩) ?_
              rw [if_neg (by simp)]
              simp [esO_one, rowN]
              (intro q; simp only [Store.upd, Store.del]; (repeat' split) <;> first | exact Or.inr rfl | exact Or.inl rfl | (exfalso; omega) | (left; subst_vars; assumption) | simp_all)
            · by_cases k40 : op.kind = 40
              · have hes' : entS [] op = some [] := by simp [entS, k40]
                simp [hlt, hg2, hopc, opC, objS, k40]
                intro c hc
                obtain ⟨c1, c2, c3, c4, c5⟩ := hfr c hc
                refine hfin (p1 := 0) (cap1 := 0) (rr1 := []) hes' (fun h => absurd rfl h) ?_
                rw [if_pos rfl]
                (intro q; simp only [Store.upd, Store.del]; (repeat' split) <;> first | exact Or.inr rfl | exact Or.inl rfl | (exfalso; omega) | (left; subst_vars; assumption) | simp_all)
              · have k17' : ¬ (op.kind : Int) = 17 := by omega
                have k0' : ¬ (op.kind : Int) = 0 := by omega
                have k8' : ¬ (op.kind : Int) = 8 := by omega
                have k40' : ¬ (op.kind : Int) = 40 := by omega
                have hes' : entS [] op = none := by simp [entS, k17, k0, k8, k40]
                have hT : TailS aid short n rest ⟨0, false, 0, []⟩ 4 := ⟨os, 0, hall, hol, by simp [hnone (hnx.trans hes')]⟩
                simp [hlt, hg2, hopc, opC, objS, k0, k17', k8', k40', hrq]
                intro c hc
                obtain ⟨c1, c2, c3, c4, c5⟩ := hfr c hc
                simp [c4]
                refine ⟨_, AV.le_refl _, σ, ?_, .inl ⟨false, ⟨0, false, 0, []⟩, 4, rfl, rfl, hT⟩⟩
                (intro q; simp only [Store.upd, Store.del]; (repeat' split) <;> first | exact Or.inr rfl | exact Or.inl rfl | (exfalso; omega) | (left; subst_vars; assumption) | simp_all)
      · obtain ⟨init, last, hil⟩ : ∃ init last, es = init ++ [last] := by
          rcases List.eq_nil_or_concat es with h | ⟨init, last, h⟩
          · exact absurd h hne
          · exact ⟨init, last, by rw [h, List.concat_eq_append]⟩
        subst hil
        obtain ⟨p1, p2, p3, p4, p5⟩ := hrow hne
        have hesl : (init ++ [last]).length = init.length + 1 := by simp
        have h2r := Ne.symm p2
        have h3r := Ne.symm p3
        have hti : last.text.length ≤ 100000 := by
          have := hsz.1; rw [textIn_append] at this; simp [textIn] at this; omega
        have hil : init.length ≤ 100000 := by
          have := hsz.2; simp at this; omega
        have hcl : init.length + 1 ≤ cap := by
          rw [List.length_append, esO_length, hesl] at p4; omega
        have hfr : ∀ c : Nat, (if c = pp then some (esO (init ++ [last]) ++ rr) else if c = q then some [byteA aid, AV.lit (.bool short), AV.lit (.int .i64 (n : Int)), rowN pp cap (init.length + 1)] else if c = r0 then some [AV.lit (.int .u8 0), AV.lit (.bool false), AV.lit (.int .i64 0), AV.list true 2 []] else σ c) = none → c ≠ pp ∧ c ≠ q ∧ c ≠ r0 ∧ σ c = none ∧ pp ≠ c ∧ q ≠ c ∧ r0 ≠ c := fun c hc => by
          simp only [ite_none] at hc; exact ⟨hc.1, hc.2.1, hc.2.2.1, hc.2.2.2, Ne.symm hc.1, Ne.symm hc.2.1, Ne.symm hc.2.2.1⟩
        have hfin : ∀ {es' : List En} {p1 cap1 : Nat} {rr1 : List AV} {τ : Store}, entS (init ++ [last]) op = some es' → (es' ≠ [] → σ p1 = none ∧ ¬p1 = r0 ∧ ¬p1 = q ∧ (esO es').length + rr1.length = cap1 * 2 ∧ cap1 ≤ 9223372036854775807) →
            Store.sub (objS (σ.upd r0 [.lit (.int .u8 0), .lit (.bool false), .lit (.int .i64 0), .list true 2 []]) q (byteA aid) (.lit (.bool short)) (.lit (.int .i64 n)) p1 cap1 es' rr1) τ →
            ∃ (a a_1 a_2 : Nat) (a_3 : List En) (b : List AV), (a ≤ os.length ∧ entsS (os.take a) = some a_3 ∧ (¬a_3 = [] → σ a_1 = none ∧ ¬a_1 = r0 ∧ ¬a_1 = q ∧ (esO a_3).length + b.length = a_2 * 2 ∧ a_2 ≤ 9223372036854775807)) ∧ os.length - a < os.length - i ∧
              (AV.lit (.int .i64 (IntKind.i64.wrap ((i : Int) + 1)))).le (.lit (.int .i64 (a : Nat))) ∧ Store.sub (objS (σ.upd r0 [.lit (.int .u8 0), .lit (.bool false), .lit (.int .i64 0), .list true 2 []]) q (byteA aid) (.lit (.bool short)) (.lit (.int .i64 n)) a_1 a_2 a_3 b) τ := fun h1 h2 h3 =>
          ⟨i + 1, _, _, _, _, ⟨by omega, by rw [hnx]; exact h1, h2⟩, by omega, by rw [hw]; exact AV.le_refl _, h3⟩
        have hobj : objS (σ.upd r0 [.lit (.int .u8 0), .lit (.bool false), .lit (.int .i64 0), .list true 2 []]) q (byteA aid) (.lit (.bool short)) (.lit (.int .i64 n)) pp cap (init ++ [last]) rr =
            ((σ.upd r0 [.lit (.int .u8 0), .lit (.bool false), .lit (.int .i64 0), .list true 2 []]).upd q [byteA aid, .lit (.bool short), .lit (.int .i64 n), rowN pp cap (init.length + 1)]).upd pp (esO (init ++ [last]) ++ rr) := by
          rw [objS, if_neg hne, hesl]
        rw [hobj]
        have htk : (esO (init ++ [last]) ++ rr).take ((init.length + 1) * 2) = esO (init ++ [last]) := by
          have := take_esO (init ++ [last]) rr; rwa [hesl] at this
        have hlb : (esO (init ++ [last]) ++ rr).length = cap * 2 := p4
        have p5' : cap ≤ 9223372036854775807 := p5
        have hrN : rowN pp cap (init.length + 1) = .lit (.slice (some ⟨pp, 0, none⟩) (init.length + 1) cap) := rfl
        by_cases k17 : op.kind = 17
        · have hes' : entS (init ++ [last]) op = some ((init ++ [last]) ++ [⟨op.addr, []⟩]) := by simp [entS, k17]
          rw [hrN]
          generalize hL : esO (init ++ [last]) ++ rr = L at *
          simp [hlt, hg2, hopc, opC, k17, h3r]
          intro c hc
          obtain ⟨c1, c2, c3, c4, c5, c6, c7⟩ := hfr c (by simpa [hrN] using hc)
          simp [c5, c6]
          intro b hb
          simp only [ite_none] at hb
          obtain ⟨b1, b2, b3, b4, b5⟩ := hb
          simp [h3r, c6, hlb, hcl, htk, p5', srcOf, Ne.symm b2, Ne.symm b3]
          refine ⟨by omega, by omega, fun d cap1 hd h1 h3 => ?_⟩
          have hd' : ¬ d = b ∧ ¬ d = c ∧ ¬ d = q ∧ ¬ d = r0 ∧ σ d = none := by
            rcases hd with rfl | hd
            · exact ⟨Ne.symm b2, c5, p3, p2, p1⟩
            · simp only [ite_none] at hd
              exact ⟨hd.1, hd.2.1, hd.2.2.2.1, hd.2.2.2.2.1, hd.2.2.2.2.2⟩
          obtain ⟨d1, d2, d3, d4, d5⟩ := hd'
          simp [Ne.symm d3]
          refine hfin (p1 := d) (cap1 := cap1) (rr1 := List.replicate ((cap1 - (init.length + 1 + 1)) * 2) .top) hes' (fun _ => ⟨d5, d4, d3, by rw [esO_length]; simp; omega, h3⟩) ?_
          rw [objS, if_neg (by simp)]
          rw [esO_append (init ++ [last]), esO_one]
          simp only [rowN, List.append_assoc, List.cons_append, List.nil_append, List.length_append, List.length_cons, List.length_nil]
          (intro q; simp only [Store.upd, Store.del]; (repeat' split) <;> first | exact Or.inr rfl | exact Or.inl rfl | (exfalso; omega) | (left; subst_vars; assumption) | simp_all)
        · by_cases k0 : op.kind = 0
          · have hes' : entS (init ++ [last]) op = some (init ++ [{ last with text := last.text ++ op.text }]) := by simp [entS, k0, addE_more]
            have htl : op.text.length ≤ 100000 := by simp only [grow, k0, if_true] at hg; omega
            simp [hlt, hg2, hopc, opC, k0]
            intro c hc
            obtain ⟨c1, c2, c3, c4, c5, c6, c7⟩ := hfr c (by simpa [hrN] using hc)
            refine callK.of (add_more q pp cap (byteA aid) (.lit (.bool short)) (.lit (.int .i64 n)) false init last rr op.text (by omega) (by omega) hcl p5' hlb _ p3 (by simp [h3r, c6]) (by simp [c5])) ?_
            rintro v σ' ⟨rfl, rfl⟩
            simp
            refine hfin (p1 := pp) (cap1 := cap) (rr1 := rr) hes' (fun _ => ⟨p1, p2, p3, by rw [List.length_append, esO_length, hesl] at p4; rw [esO_length]; simp; omega, p5'⟩) ?_
            rw [objS, if_neg (by simp)]
            simp only [rowN, List.length_append, List.length_cons, List.length_nil]
            (intro q; simp only [Store.upd, Store.del]; (repeat' split) <;> first | exact Or.inr rfl | exact Or.inl rfl | (exfalso; omega) | (left; subst_vars; assumption) | simp_all)
          · by_cases k8 : op.kind = 8
            · have hes' : entS (init ++ [last]) op = some (init ++ [{ last with text := last.text ++ [op.code] }]) := by simp [entS, k8, addE_more]
              simp [hlt, hg2, hopc, opC, k8]
              intro c hc
              obtain ⟨c1, c2, c3, c4, c5, c6, c7⟩ := hfr c (by simpa [hrN] using hc)
              refine callK.of (add_more q pp cap (byteA aid) (.lit (.bool short)) (.lit (.int .i64 n)) true init last rr [op.code] (by simp; omega) (by omega) hcl p5' hlb _ p3 (by simp [h3r, c6]) (by simp [c5])) ?_
              rintro v σ' ⟨rfl, rfl⟩
              simp
              refine hfin (p1 := pp) (cap1 := cap) (rr1 := rr) hes' (fun _ => ⟨p1, p2, p3, by rw [List.length_append, esO_length, hesl] at p4; rw [esO_length]; simp; omega, p5'⟩) ?_
              rw [objS, if_neg (by simp)]
              simp only [rowN, List.length_append, List.length_cons, List.length_nil]
              (intro q; simp only [Store.upd, Store.del]; (repeat' split) <;> first | exact Or.inr rfl | exact Or.inl rfl | (exfalso; omega) | (left; subst_vars; assumption) | simp_all)
            · by_cases k40 : op.kind = 40
              · have hes' : entS (init ++ [last]) op = some (init ++ [last]) := by simp [entS, k40]
                simp [hlt, hg2, hopc, opC, k40]
                intro c hc
                obtain ⟨c1, c2, c3, c4, c5, c6, c7⟩ := hfr c (by simpa [hrN] using hc)
                refine hfin (p1 := pp) (cap1 := cap) (rr1 := rr) hes' (fun _ => ⟨p1, p2, p3, by rw [List.length_append, esO_length, hesl] at p4; rw [esO_length]; simp; omega, p5'⟩) ?_
                rw [objS, if_neg (by simp)]
                simp only [rowN, List.length_append, List.length_cons, List.length_nil]
                (intro q; simp only [Store.upd, Store.del]; (repeat' split) <;> first | exact Or.inr rfl | exact Or.inl rfl | (exfalso; omega) | (left; subst_vars; assumption) | simp_all)
              · have k17' : ¬ (op.kind : Int) = 17 := by omega
                have k0' : ¬ (op.kind : Int) = 0 := by omega
                have k8' : ¬ (op.kind : Int) = 8 := by omega
                have k40' : ¬ (op.kind : Int) = 40 := by omega
                have hes' : entS (init ++ [last]) op = none := by simp [entS, k17, k0, k8, k40]
                have hT : TailS aid short n rest ⟨0, false, 0, []⟩ 4 := ⟨os, 0, hall, hol, by simp [hnone (hnx.trans hes')]⟩
                simp [hlt, hg2, hopc, opC, k0, k17', k8', k40', hrq, h2r]
                intro c hc
                obtain ⟨c1, c2, c3, c4, c5, c6, c7⟩ := hfr c (by simpa [hrN] using hc)
                simp [c7]
                refine ⟨_, AV.le_refl _, σ, ?_, .inl ⟨false, ⟨0, false, 0, []⟩, 4, rfl, rfl, hT⟩⟩
                (intro q; simp only [Store.upd, Store.del]; (repeat' split) <;> first | exact Or.inr rfl | exact Or.inl rfl | (exfalso; omega) | (left; subst_vars; assumption) | simp_all)
    · obtain rfl : i = os.length := by omega
      have hT : TailS aid short n rest ⟨aid, short, n, es⟩ 0 := ⟨os, 0, hall, hol, by simp at hes; simp [hes]⟩
      by_cases hne : es = []
      · subst hne
        simp [objS, hrq]
        refine ⟨_, AV.le_refl _, σ, ?_, .inr ⟨0, 0, [], [], rfl, hT, fun _ => rfl, fun h => absurd rfl h⟩⟩
        (intro q; simp only [Store.upd, Store.del]; (repeat' split) <;> first | exact Or.inr rfl | exact Or.inl rfl | (exfalso; omega) | (left; subst_vars; assumption) | simp_all)
      · obtain ⟨p1, p2, p3, p4, p5⟩ := hrow hne
        simp [objS, hne, hrq, Ne.symm p2, Ne.symm p3]
        refine ⟨_, AV.le_refl _, σ.upd pp (esO es ++ rr), ?_, .inr ⟨pp, cap, es, rr, ?_, hT, fun h => absurd h hne, fun _ => ⟨p1, p4, p5, rfl⟩⟩⟩
        · (intro q; simp only [Store.upd, Store.del]; (repeat' split) <;> first | exact Or.inr rfl | exact Or.inl rfl | (exfalso; omega) | (left; subst_vars; assumption) | simp_all)
        · simp [rowT, hne, rowN]
  · have h2' : ¬ (e2 : Int) = 0 := by omega
    simp [-Bool.exists_bool, hrq, h2]
    refine ⟨_, AV.le_refl _, σ, ?_, .inl ⟨false, ⟨0, false, 0, []⟩, e2, rfl, rfl, os, e2, hall, hol, by rw [if_pos h2]⟩⟩
    (intro q; simp only [Store.upd, Store.del]; (repeat' split) <;> first | exact Or.inr rfl | exact Or.inl rfl | (exfalso; omega) | (left; subst_vars; assumption) | simp_all)
end Go.Proofs.Ytkjcdnmjdanmpaa
/-
  A report of bytes: all of it.
-/
namespace Go.Proofs.Ytkjcdnmjdanmpaa
open Go Go.AL

theorem le1_agg {xs ys : List AV} (h : AllLe1 xs ys) : (AV.agg xs).le1 (.agg ys) := fun F v hv => ⟨(AV.le_agg h F v hv).1, fun _ _ _ _ => by cases v <;> simp [Own1]⟩
theorem esO_flat (l : List En) : flat (l.map enO) = esO l := by simp [flat, esO, List.flatMap_map]
theorem esO_le (l : List En) : AllLe1 (flat (l.map enO)) (flat (ensA l)) := by
  induction l with
  | nil => exact trivial
  | cons e l ih => exact ⟨AV.le1_refl _, AV.le1_list true 1 (bytesA e.text), ih⟩
/-- What comes of bytes. -/
def ParS (p : List UInt8) (r : Rp) (e : Nat) : Prop := match p with
  | [a] => r = ⟨a, true, 0, []⟩ ∧ e = 0
  | a :: x :: y :: rest => if (decM x y).2 ≠ 0 then e = (decM x y).2 else TailS a false (decM x y).1 rest r e
  | _ => e = 2

theorem parse_tail2 (o ob : Bool) (p : List UInt8) (aid : UInt8) (short : Bool) (n : Nat) (rest : List UInt8) (hl : rest.length ≤ 100000) (σ : Store)
    (hb : ∀ σ, ACalls Try.prog 18 [.list false 1 (bytesA p)] σ fun v σ' => v = .tuple [hdA aid short n, .list ob 1 (bytesA rest), .lit (.int .i64 0)] ∧ σ' = σ) :
    ACalls Try.prog 12 [.list o 1 (bytesA p)] σ (PaR (TailS aid short n rest) σ) := by
  refine (parse_tail o ob p aid short n rest hl σ hb).shiftAgg fun v σ' h => ?_
  rcases h with h | ⟨p, cap, es, rest', rfl, hT, h0, h1⟩
  · exact .inl ⟨v, σ', AV.le_refl _, Store.sub_refl _, h⟩
  · by_cases hne : es = []
    · subst hne
      obtain rfl := h0 rfl
      refine .inl ⟨_, σ', ?_, Store.sub_refl _, false, ⟨aid, short, n, []⟩, 0, rfl, rfl, hT⟩
      exact AV.le_tuple ⟨le1_agg ⟨AV.le1_refl _, AV.le1_refl _, AV.le1_refl _, AV.le1_nil false 2, trivial⟩, AV.le1_refl _, trivial⟩
    · obtain ⟨h2, h3, h4, rfl⟩ := h1 hne
      have hfl := esO_flat es
      have hlen : (es.map enO).length = es.length := by simp
      have hd : (σ.upd p (esO es ++ rest')).del p = σ := by
        funext k; simp only [Store.del, Store.upd]; split
        · rename_i h; subst h; exact h2.symm
        · rfl
      refine .inr ⟨p, cap, 2, es.map enO, rest', [byteA aid, .lit (.bool short), .lit (.int .i64 n)], [], [.lit (.int .i64 0)], ?_, rfl, ?_, ?_, h4, ?_, ?_, ensA es, ?_, ?_⟩
      · simp [rowT, hne, rowN]
      · rw [hfl]; simp [Store.upd]
      · rw [hfl]; exact h3
      · rw [hlen]; rw [List.length_append, esO_length] at h3; omega
      · intro v hv
        obtain ⟨e, _, rfl⟩ := List.mem_map.1 hv; rfl
      · refine AV.le_els (by simp) (fun v hv => ?_) (esO_le es)
        obtain ⟨e, _, rfl⟩ := List.mem_map.1 hv; rfl
      · rw [hd]
        exact ⟨false, ⟨aid, short, n, es⟩, 0, rfl, rfl, hT⟩

set_option maxRecDepth 8000 in
theorem parse_err (o : Bool) (p : List UInt8) (e : Nat) (he : e ≠ 0) (σ : Store)
    (hb : ∀ σ, ACalls Try.prog 18 [.list false 1 (bytesA p)] σ fun v σ' => v = .tuple [hdA 0 false 0, .list true 1 [], .lit (.int .i64 e)] ∧ σ' = σ) :
    ACalls Try.prog 12 [.list o 1 (bytesA p)] σ fun v σ' => v = .tuple [rpO false ⟨0, false, 0, []⟩, .lit (.int .i64 e)] ∧ σ' = σ := by
  have hh : hdA 0 false 0 = .agg [byteA 0, .lit (.bool false), .lit (.int .i64 0), .lit (.slice none 0 0)] := rfl
  have he' : ¬ (e : Int) = 0 := by omega
  refine ACalls.of_awp follows (st := st12) (plans := pl12) (n := 65) Try.func12 rfl (by kernel_rfl) (by kernel_rfl) (by kernel_rfl) ?_
  simp
  intro r0 hr0
  refine callK.of (hb _) ?_
  rintro v σ' ⟨rfl, rfl⟩
  simp [-Bool.exists_bool, hh]
  intro q hq
  simp only [ite_none] at hq
  obtain ⟨hqr, hq⟩ := hq
  have hrq := Ne.symm hqr
  simp [-Bool.exists_bool, hrq, he]
  exact ⟨AV.le_refl _, by (intro q; simp only [Store.upd, Store.del]; (repeat' split) <;> first | exact Or.inr rfl | exact Or.inl rfl | (exfalso; omega) | (left; subst_vars; assumption) | simp_all)⟩
/-- What comes of bytes, and how. -/
theorem parse_calls (o : Bool) (p : List UInt8) (hl : p.length ≤ 100000) (σ : Store) : ACalls Try.prog 12 [.list o 1 (bytesA p)] σ (PaR (ParS p) σ) := by
  have err : ∀ e : Nat, e ≠ 0 → ParS p ⟨0, false, 0, []⟩ e → (∀ σ, ACalls Try.prog 18 [.list false 1 (bytesA p)] σ fun v σ' => v = .tuple [hdA 0 false 0, .list true 1 [], .lit (.int .i64 e)] ∧ σ' = σ) →
      ACalls Try.prog 12 [.list o 1 (bytesA p)] σ (PaR (ParS p) σ) := fun e he hs hb =>
    (parse_err o p e he σ hb).mono fun v σ' ⟨h1, h2⟩ => ⟨false, ⟨0, false, 0, []⟩, e, h1, h2, hs⟩
  have hb := fun σ => begin_calls false p (by omega) σ
  rcases p with _ | ⟨a, _ | ⟨x, _ | ⟨y, rest⟩⟩⟩
  · exact err 2 (by simp) rfl hb
  · refine (parse_tail2 o true [a] a true 0 [] (by simp) σ hb).mono fun v σ' ⟨ow, r, e, h1, h2, os, e2, h3, h4, h5⟩ => ⟨ow, r, e, h1, h2, ?_⟩
    have hos : os = [] := List.eq_nil_of_length_eq_zero (by simpa using h4)
    subst hos
    have he2 : e2 = 0 := by
      cases h3 with
      | nil => rfl
      | bad h => have := h.len; simp at this
    subst he2
    show r = _ ∧ e = 0
    simpa [entsS] using h5
  · exact err 2 (by simp) rfl hb
  · have h : ∀ σ, ACalls Try.prog 18 [.list false 1 (bytesA (a :: x :: y :: rest))] σ fun v σ' => v = (if (decM x y).2 ≠ 0 then .tuple [hdA 0 false 0, .list true 1 [], .lit (.int .i64 (decM x y).2)] else .tuple [hdA a false (decM x y).1, .list false 1 (bytesA rest), .lit (.int .i64 0)]) ∧ σ' = σ := hb
    by_cases he : (decM x y).2 ≠ 0
    · rw [if_pos he] at h
      exact err _ he (by show if _ then _ else _; rw [if_pos he]) h
    · rw [if_neg he] at h
      refine (parse_tail2 o false _ a false _ rest (by simp at hl; omega) σ h).mono fun v σ' ⟨ow, r, e, h1, h2, h3⟩ => ⟨ow, r, e, h1, h2, ?_⟩
      show if _ then _ else _
      rw [if_neg he]; exact h3
end Go.Proofs.Ytkjcdnmjdanmpaa
