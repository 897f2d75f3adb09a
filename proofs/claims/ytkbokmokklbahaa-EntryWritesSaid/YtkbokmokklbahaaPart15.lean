/-
  What is parsed of a report's bytes is the report; the plain law.
-/
import Derived.Test.YtkbokmokklbahaaPart14
namespace Go.Proofs.Ytkbokmokklbahaa
open Go Go.AL

theorem AllS.sba {x y : UInt8} {tl : List UInt8} {os : List Op} {e : Nat} (h : AllS (17 :: x :: y :: tl) os e) (hd : (decM x y).2 = 0) : ∃ os', os = sbaOp (decM x y).1 :: os' ∧ AllS tl os' e := by
  cases h with
  | ok h1 h2 => obtain ⟨rfl, rfl, _⟩ := h1.sba _ _ _ rfl; exact ⟨_, rfl, h2⟩
  | bad h1 h2 => obtain ⟨_, _, h3⟩ := h1.sba _ _ _ rfl; exact absurd (h3.trans hd) h2
theorem until_all {t tl : List UInt8} (ht : hasOrd t = false) (htl : tl = [] ∨ ∃ c tl', tl = c :: tl' ∧ isOrd c = true) : untilO (t ++ tl) = t ∧ fromO (t ++ tl) = tl := by
  have h : ∀ c ∈ t, (!isOrd c) = true := fun c hc => by
    rw [hasOrd, List.any_eq_false] at ht
    simpa using ht c hc
  have h2 : tl.takeWhile (fun c => !isOrd c) = [] ∧ tl.dropWhile (fun c => !isOrd c) = tl := by
    rcases htl with rfl | ⟨c, tl', rfl, hc⟩
    · exact ⟨rfl, rfl⟩
    · simp [hc]
  simp only [untilO, fromO]
  rw [List.takeWhile_append_of_pos h, List.dropWhile_append_of_pos h, h2.1, h2.2]
  simp
theorem AllS.text {t tl : List UInt8} {os : List Op} {e : Nat} (h : AllS (t ++ tl) os e) (ht : hasOrd t = false) (hne : t ≠ []) (htl : tl = [] ∨ ∃ c tl', tl = c :: tl' ∧ isOrd c = true) : ∃ os', os = txtOp t :: os' ∧ AllS tl os' e := by
  obtain ⟨u1, u2⟩ := until_all ht htl
  obtain ⟨c, t', rfl⟩ := List.exists_cons_of_ne_nil hne
  have hc : isOrd c = false := by
    rw [hasOrd, List.any_eq_false] at ht
    simpa using ht c (by simp)
  generalize hl : (c :: t') ++ tl = l at *
  cases h with
  | nil => cases hl
  | ok h1 h2 =>
    obtain ⟨rfl, rfl, _⟩ := h1.text c (t' ++ tl) hl.symm hc
    rw [u1]; rw [u2] at h2; exact ⟨_, rfl, h2⟩
  | bad h1 h2 => obtain ⟨_, _, h3⟩ := h1.text c (t' ++ tl) hl.symm hc; exact absurd h3 h2

def encE (e : En) : List UInt8 := 17 :: encM e.addr.toNat ++ e.text
def fine (e : En) : Prop := okAddr e.addr ∧ hasOrd e.text = false
theorem dec_addr {n : Int} (h : okAddr n) : ∃ x y, encM n.toNat = [x, y] ∧ decM x y = (n.toNat, 0) ∧ ((n.toNat : Nat) : Int) = n :=
  ⟨_, _, rfl, dec_enc (by have := h.1; have := h.2; omega), by have := h.1; omega⟩
theorem enc_all : ∀ {es : List En} {os : List Op} {e : Nat}, (∀ x ∈ es, fine x) → AllS (es.flatMap encE) os e → e = 0 ∧ os = es.flatMap (opsE false)
  | [], os, e, _, h => by
    cases h with
    | nil => exact ⟨rfl, rfl⟩
    | ok h1 h2 => have := h1.len; simp at this
    | bad h1 h2 => have := h1.len; simp at this
  | x :: es, os, e, hf, h => by
    obtain ⟨f1, f2⟩ := hf x (by simp)
    obtain ⟨a, b, h1, h2, h3⟩ := dec_addr f1
    have hl : (x :: es).flatMap encE = 17 :: a :: b :: (x.text ++ es.flatMap encE) := by simp [encE, h1]
    rw [hl] at h
    obtain ⟨os1, rfl, k⟩ := h.sba (by rw [h2])
    have hd : (((decM a b).1 : Nat) : Int) = x.addr := by rw [h2]; exact h3
    have htl : es.flatMap encE = [] ∨ ∃ c tl', es.flatMap encE = c :: tl' ∧ isOrd c = true := by
      cases es with
      | nil => exact .inl rfl
      | cons z es => exact .inr ⟨17, encM z.addr.toNat ++ z.text ++ es.flatMap encE, by simp [encE], by decide⟩
    by_cases ht : x.text = []
    · rw [ht, List.nil_append] at k
      obtain ⟨r1, r2⟩ := enc_all (fun z hz => hf z (by simp [hz])) k
      exact ⟨r1, by simp [opsE, ht, hd, r2]⟩
    · obtain ⟨os2, rfl, k2⟩ := k.text f2 ht htl
      obtain ⟨r1, r2⟩ := enc_all (fun z hz => hf z (by simp [hz])) k2
      exact ⟨r1, by simp [opsE, ht, hd, r2]⟩

theorem entS_sba (es : List En) (n : Int) : entS es (sbaOp n) = some (es ++ [⟨n, []⟩]) := rfl
theorem entS_txt (es : List En) (t : List UInt8) : entS es (txtOp t) = some (addE es t) := rfl
theorem ents_enc (es : List En) : ∀ acc : List En, (es.flatMap (opsE false)).foldlM entS acc = some (acc ++ es) := by
  induction es with
  | nil => simp
  | cons e es ih =>
    intro acc
    obtain ⟨a, t⟩ := e
    by_cases ht : t = []
    · subst ht
      simp [opsE, entS_sba, ih]
    · simp [opsE, ht, entS_sba, entS_txt, addE_more, ih]

theorem seqB_zero {α : Type} {f : α → List UInt8 × Nat} : ∀ {l : List α}, (seqB f l).2 = 0 → (∀ o ∈ l, (f o).2 = 0) ∧ (seqB f l).1 = l.flatMap fun o => (f o).1
  | [], _ => ⟨by simp, rfl⟩
  | o :: l, h => by
    by_cases h1 : (f o).2 = 0
    · by_cases h2 : (seqB f l).2 = 0
      · obtain ⟨k1, k2⟩ := seqB_zero h2
        refine ⟨fun x hx => ?_, ?_⟩
        · rcases List.mem_cons.1 hx with rfl | hx
          · exact h1
          · exact k1 x hx
        · simp [seqB, h1, h2, k2]
      · simp [seqB, h1, h2] at h
    · simp [seqB, h1] at h
theorem entB_fine {e : En} (h : (entB false e).2 = 0) : fine e ∧ (entB false e).1 = encE e := by
  rw [entB_false] at h ⊢
  by_cases h1 : okAddr e.addr
  · by_cases h2 : hasOrd e.text = true
    · simp [h1, h2] at h
    · exact ⟨⟨h1, by simpa using h2⟩, by simp [h1, h2, encE]⟩
  · simp [h1] at h

/-- What a report's bytes are parsed to. -/
theorem par_rep {r r' : Rp} {e : Nat} (hz : (repB r).2 = 0) (h : ParS (repB r).1 r' e) : e = 0 ∧ r' = if r.short = true then ⟨r.aid, true, 0, []⟩ else r := by
  obtain ⟨aid, short, cursor, es⟩ := r
  by_cases hs : short = true
  · subst hs
    simp only [repB, if_true] at h
    exact ⟨h.2, by rw [h.1]; rfl⟩
  · have hs' : short = false := by simpa using hs
    subst hs'
    by_cases hc : okAddr cursor
    · by_cases hq : (seqB (entB (aloneL es)) es).2 = 0
      · obtain ⟨k1, k2⟩ := seqB_zero hq
        obtain ⟨x, y, h1, h2, h3⟩ := dec_addr hc
        have hr : (repB ⟨aid, false, cursor, es⟩).1 = aid :: x :: y :: es.flatMap fun o => (entB (aloneL es) o).1 := by
          simp [repB, hc, hq, k2, h1]
        rw [hr] at h
        have h' : if (decM x y).2 ≠ 0 then e = (decM x y).2 else TailS aid false (decM x y).1 (es.flatMap fun o => (entB (aloneL es) o).1) r' e := h
        rw [h2, if_neg (by simp)] at h'
        obtain ⟨os, e2, g1, _, g2⟩ := h'
        have fin : e2 = 0 → entsS os = some es → e = 0 ∧ r' = ⟨aid, false, cursor, es⟩ := fun q1 q2 => by
          subst q1
          rw [if_neg (by simp), q2] at g2
          obtain ⟨q3, q4⟩ := g2
          exact ⟨q4, by rw [q3]; simp [h3]⟩
        simp only [Bool.false_eq_true, if_false]
        by_cases ha : aloneL es = true
        · rcases aloneL_cases es with ⟨_, h⟩ | ⟨x, rfl, ⟨_, h⟩ | ⟨_, _, h⟩ | ⟨a1, a2, _⟩⟩
          · rw [h] at ha; cases ha
          · rw [h] at ha; cases ha
          · rw [h] at ha; cases ha
          · rw [ha] at g1 k1
            have hx := k1 x (by simp)
            rw [entB_true x a2] at hx
            have ho : hasOrd x.text = false := by
              by_cases h : hasOrd x.text = true
              · simp [h] at hx
              · simpa using h
            have hb : (entB true x).1 = x.text := by rw [entB_true x a2]; simp [ho]
            simp only [List.flatMap_cons, List.flatMap_nil, hb] at g1
            obtain ⟨os', rfl, k⟩ := g1.text ho (List.length_pos_iff.1 a2) (.inl rfl)
            obtain ⟨rfl, rfl⟩ := enc_all (es := []) (by simp) k
            refine fin rfl ?_
            obtain ⟨xa, xt⟩ := x
            simp only at a1; subst a1
            simp [entsS, entS_txt, addE]
        · have ha' : aloneL es = false := by simpa using ha
          rw [ha'] at g1 k1
          have hfl : (es.flatMap fun o => (entB false o).1) = es.flatMap encE := by
            have : ∀ l : List En, (∀ o ∈ l, (entB false o).2 = 0) → (l.flatMap fun o => (entB false o).1) = l.flatMap encE := fun l => by
              induction l with
              | nil => intro _; rfl
              | cons o l ih => intro hl; simp only [List.flatMap_cons]; rw [ih fun x hx => hl x (by simp [hx]), (entB_fine (hl o (by simp))).2]
            exact this es k1
          rw [hfl] at g1
          obtain ⟨rfl, rfl⟩ := enc_all (fun x hx => (entB_fine (k1 x hx)).1) g1
          exact fin rfl (ents_enc es [])
      · simp [repB, hc, hq] at hz
    · simp [repB, hc] at hz

/-- How many bytes a report has. -/
theorem rep_len (r : Rp) : (repB r).1.length ≤ 3 + textIn r.es + 3 * r.es.length := by
  obtain ⟨aid, short, cursor, es⟩ := r
  have key : ∀ al, ∀ l : List En, (seqB (entB al) l).1.length ≤ textIn l + 3 * l.length := fun al l => by
    induction l with
    | nil => simp [seqB]
    | cons e l ih =>
      have := entB_len al e
      simp only [seqB]
      split
      · simp
      · split
        · simp
        · simp [textIn] at ih ⊢; omega
  have := key (aloneL es) es
  by_cases hs : short = true
  · simp [repB, hs]; omega
  · by_cases hc : okAddr cursor
    · by_cases hq : (seqB (entB (aloneL es)) es).2 = 0
      · simp [repB, hs, hc, hq, encM]; omega
      · simp [repB, hs, hc, hq]
    · simp [repB, hs, hc]

/-- Texts that were read have no order's code. -/
def clean (es : List En) : Prop := ∀ e ∈ es, hasOrd e.text = false
theorem hasOrd_append (l k : List UInt8) : hasOrd (l ++ k) = (hasOrd l || hasOrd k) := by simp [hasOrd]
theorem entS_clean {l l' : List UInt8} {es es' : List En} {o : Op} (h : Step l o l' 0) (hc : clean es) (he : entS es o = some es') : clean es' := by
  obtain ⟨w1, w2, _⟩ := h.wf rfl
  have hadd : ∀ t, hasOrd t = false → clean (addE es t) := fun t ht => by
    rcases List.eq_nil_or_concat es with rfl | ⟨init, last, rfl⟩
    · intro e he; simp [addE] at he; subst he; exact ht
    · rw [List.concat_eq_append] at hc ⊢
      rw [addE_more]
      intro e he
      rcases List.mem_append.1 he with he | he
      · exact hc e (by simp [he])
      · simp at he; subst he
        simp only; rw [hasOrd_append, hc last (by simp), ht]; rfl
  unfold entS at he
  split at he
  · simp at he; subst he
    intro e he
    rcases List.mem_append.1 he with he | he
    · exact hc e he
    · simp at he; subst he; rfl
  · split at he
    · rename_i hk; simp at he; subst he; exact hadd _ (w1 hk).2
    · split at he
      · rename_i hk; simp at he; subst he; exact hadd _ (by simp [hasOrd, w2 hk])
      · split at he
        · simp at he; subst he; exact hc
        · cases he
theorem AllS.clean {l : List UInt8} {os : List Op} (h : AllS l os 0) : ∀ {es es' : List En}, clean es → os.foldlM entS es = some es' → clean es' := by
  generalize hz : 0 = e at h
  induction h with
  | nil => intro es es' hc he; simp at he; subst he; exact hc
  | ok h1 h2 ih =>
    intro es es' hc he
    rw [List.foldlM_cons] at he
    rename_i o os e
    cases ho : entS es o with
    | none => simp [ho] at he
    | some es1 =>
      simp [ho] at he
      exact ih hz (entS_clean h1 hc ho) he
  | bad h1 h2 => exact absurd hz.symm h2

theorem seqB_errs {α : Type} {f : α → List UInt8 × Nat} {c : Nat} : ∀ {l : List α}, (∀ o ∈ l, (f o).2 = 0 ∨ (f o).2 = c) → (seqB f l).2 = 0 ∨ (seqB f l).2 = c
  | [], _ => .inl rfl
  | o :: l, h => by
    by_cases h1 : (f o).2 = 0
    · have ih := seqB_errs (l := l) fun x hx => h x (by simp [hx])
      by_cases h2 : (seqB f l).2 = 0
      · exact .inl (by simp [seqB, h1, h2])
      · exact .inr (by simpa [seqB, h1, h2] using ih)
    · refine .inr ?_
      have := (h o (by simp)).resolve_left h1
      rw [show (seqB f (o :: l)).2 = (f o).2 by simp [seqB, h1]]; exact this
/-- What was parsed has its bytes, or an address that has none. -/
theorem par_again {p : List UInt8} {r : Rp} (hp : p.length ≤ 1000) (h : ParS p r 0) : (r.es.length ≤ 1000 ∧ textIn r.es ≤ 1000) ∧ small r ∧ ((repB r).2 = 0 ∨ (repB r).2 = 9) ∧ (if r.short = true then (⟨r.aid, true, 0, []⟩ : Rp) else r) = r := by
  have main : ∀ a n rest, rest.length ≤ 1000 → TailS a false n rest r 0 → (r.es.length ≤ 1000 ∧ textIn r.es ≤ 1000) ∧ small r ∧ ((repB r).2 = 0 ∨ (repB r).2 = 9) ∧ (if r.short = true then (⟨r.aid, true, 0, []⟩ : Rp) else r) = r := by
    rintro a n rest hl ⟨os, e2, h1, h2, h3⟩
    by_cases he : e2 = 0
    · subst he
      rw [if_neg (by simp)] at h3
      cases hes : entsS os with
      | none => rw [hes] at h3; cases h3
      | some es =>
        rw [hes] at h3
        obtain ⟨rfl, _⟩ := h3
        have hsz := entsS_size hes
        have hg := h1.grow
        have hcl := h1.clean (es := []) (by intro e he; cases he) hes
        refine ⟨⟨by simp at hsz ⊢; omega, by simp [textIn] at hsz ⊢; omega⟩, ⟨by simp at hsz ⊢; omega, fun e he => ?_⟩, ?_, rfl⟩
        · have : e.text.length ≤ textIn es := by
            obtain ⟨s, t, rfl⟩ := List.append_of_mem he
            rw [textIn_append]; simp [textIn]; omega
          simp [textIn] at hsz
          simp only [textIn] at this
          omega
        · have hent : ∀ al, (al = true → aloneL es = true) → ∀ o ∈ es, (entB al o).2 = 0 ∨ (entB al o).2 = 9 := by
            intro al hal o ho
            cases al with
            | false =>
              rw [entB_false]
              by_cases h1 : okAddr o.addr
              · simp [h1, hcl o ho]
              · simp [h1]
            | true =>
              have ha := hal rfl
              rcases aloneL_cases es with ⟨_, h⟩ | ⟨x, rfl, ⟨_, h⟩ | ⟨_, _, h⟩ | ⟨a1, a2, _⟩⟩
              · rw [h] at ha; cases ha
              · rw [h] at ha; cases ha
              · rw [h] at ha; cases ha
              · simp at ho; subst ho
                rw [entB_true _ a2]; simp [hcl o (by simp)]
          have := seqB_errs (hent (aloneL es) id)
          by_cases hc : okAddr (n : Int)
          · by_cases hq : (seqB (entB (aloneL es)) es).2 = 0
            · simp [repB, hc, hq]
            · simpa [repB, hc, hq] using this
          · simp [repB, hc]
    · rw [if_pos he] at h3; exact absurd h3.symm he
  rcases p with _ | ⟨a, _ | ⟨x, _ | ⟨y, rest⟩⟩⟩
  · cases h
  · obtain ⟨rfl, _⟩ := h
    exact ⟨⟨by simp, by simp [textIn]⟩, ⟨by simp, by simp⟩, .inl rfl, rfl⟩
  · cases h
  · have h' : if (decM x y).2 ≠ 0 then 0 = (decM x y).2 else TailS a false (decM x y).1 rest r 0 := h
    by_cases he : (decM x y).2 = 0
    · rw [if_neg (by simpa using he)] at h'
      exact main a _ rest (by simp at hp; omega) h'
    · rw [if_pos he] at h'; exact absurd h'.symm he

/-- The document's example. -/
def exR : Rp := ⟨0x7d, false, 2, [⟨1, [0xc1, 0xc2]⟩]⟩
theorem exB : repB exR = ([0x7d, 0x40, 0xc2, 0x11, 0x40, 0xc1, 0xc1, 0xc2], 0) := by decide +kernel
end Go.Proofs.Ytkbokmokklbahaa
/-
  Reports from the document's form to the program's and back; when two are the same.
-/
namespace Go.Proofs.Ytkbokmokklbahaa
open Go Go.AL

theorem ensA_take_succ (l : List En) (i : Nat) (h : i < l.length) : ensA (l.take (i + 1)) = ensA (l.take i) ++ [enA l[i]] := by
  rw [List.take_succ_eq_append_getElem h, ensA_append]; rfl

set_option maxRecDepth 4000 in
theorem own_calls (o : Bool) (r : Rp) (h : small r) (σ : Store) : ACalls Try.prog 8 [rpO o r] σ fun v σ' => v = rpO false r ∧ σ' = σ := by
  obtain ⟨aid, short, cursor, es⟩ := r
  obtain ⟨h1, h2⟩ := h
  dsimp only at h1 h2
  have hrp : ∀ o, rpO o ⟨aid, short, cursor, es⟩ = .agg [byteA aid, .lit (.bool short), .lit (.int .i64 cursor), .list o 2 (ensA es)] := fun _ => rfl
  rw [hrp, hrp]
  refine ACalls.of_awp follows (st := st8) (plans := pl8) (n := 33) Try.func8 rfl (by kernel_rfl) (by kernel_rfl) (by kernel_rfl) ?_
  simp +contextual [ite_free]
  intro p hp r0 n1 n2 _ q n3 n4 n5 n6 _
  refine codeK.loop follows (st := st8) (plans := pl8) (X := Nat) (fun i => i ≤ es.length)
    (fun i => [(2, ptrA r0), (3, ptrA q), (14, .list false 2 (ensA es)), (15, .lit (.int .i64 es.length)), (16, .lit (.int .i64 i))])
    (fun i => (σ.upd r0 [.lit (.int .u8 0), .lit (.bool false), .lit (.int .i64 0), .list true 2 []]).upd q [byteA aid, .lit (.bool short), .lit (.int .i64 cursor), .list true 2 (ensA (es.take i))])
    (fun i => es.length - i) 0 (by kernel_rfl) (by simp) (by simp) (by simp [ensA]; (intro q; simp only [Store.upd, Store.del]; (repeat' split) <;> first | exact Or.inr rfl | exact Or.inl rfl | (exfalso; omega) | (left; subst_vars; assumption) | simp_all)) fun i hi => ?_
  by_cases hlt : i < es.length
  · have hw : IntKind.i64.wrap ((i : Int) + 1) = ((i + 1 : Nat) : Int) := wrap_i64 (by omega) (by omega)
    have ha := ensA_at es i hlt
    have ht := h2 es[i] (List.getElem_mem _)
    have hs := ensA_take_succ es i hlt
    have hcp := fun σ => copy_calls false es[i].text σ (by omega)
    generalize es[i] = e at *
    obtain ⟨ad, tx⟩ := e
    simp +contextual [hlt, ha, enA, ite_free]
    intro c c1 c2 c3 c4 c5
    repeat' apply And.intro
    all_goals
      refine callK.of (hcp _) ?_
      rintro v σ' ⟨rfl, rfl⟩
      simp +contextual [c1, c2]
      refine ⟨by omega, by omega, i + 1, by omega, by omega, by rw [hw]; exact AV.le_refl _, ?_⟩
      rw [hs]
      (intro q; simp only [Store.upd, Store.del]; (repeat' split) <;> first | exact Or.inr rfl | exact Or.inl rfl | (exfalso; omega) | (left; subst_vars; assumption) | simp_all)
  · obtain rfl : i = es.length := by omega
    simp [n4]
    (intro q; simp only [Store.upd, Store.del]; (repeat' split) <;> first | exact Or.inr rfl | exact Or.inl rfl | (exfalso; omega) | (left; subst_vars; assumption) | simp_all)

set_option maxRecDepth 4000 in
theorem back_calls (o : Bool) (r : Rp) (h1 : r.es.length ≤ 1000000) (σ : Store) : ACalls Try.prog 13 [rpO o r] σ fun v σ' => v = rpO false r ∧ σ' = σ := by
  obtain ⟨aid, short, cursor, es⟩ := r
  dsimp only at h1
  have hrp : ∀ o, rpO o ⟨aid, short, cursor, es⟩ = .agg [byteA aid, .lit (.bool short), .lit (.int .i64 cursor), .list o 2 (ensA es)] := fun _ => rfl
  rw [hrp, hrp]
  refine ACalls.of_awp follows (st := st13) (plans := pl13) (n := 28) Try.func13 rfl (by kernel_rfl) (by kernel_rfl) (by kernel_rfl) ?_
  simp +contextual [ite_free]
  intro p hp r0 n1 n2 _ q n3 n4 n5 n6 _
  refine codeK.loop follows (st := st13) (plans := pl13) (X := Nat) (fun i => i ≤ es.length)
    (fun i => [(2, ptrA r0), (3, ptrA q), (14, .list false 2 (ensA es)), (15, .lit (.int .i64 es.length)), (16, .lit (.int .i64 i))])
    (fun i => (σ.upd r0 [.lit (.int .u8 0), .lit (.bool false), .lit (.int .i64 0), .list true 2 []]).upd q [byteA aid, .lit (.bool short), .lit (.int .i64 cursor), .list true 2 (ensA (es.take i))])
    (fun i => es.length - i) 0 (by kernel_rfl) (by simp) (by simp) (by simp [ensA]; (intro q; simp only [Store.upd, Store.del]; (repeat' split) <;> first | exact Or.inr rfl | exact Or.inl rfl | (exfalso; omega) | (left; subst_vars; assumption) | simp_all)) fun i hi => ?_
  by_cases hlt : i < es.length
  · have hw : IntKind.i64.wrap ((i : Int) + 1) = ((i + 1 : Nat) : Int) := wrap_i64 (by omega) (by omega)
    have ha := ensA_at es i hlt
    have hs := ensA_take_succ es i hlt
    generalize es[i] = e at *
    obtain ⟨ad, tx⟩ := e
    simp +contextual [hlt, ha, enA, ite_free]
    intro c c1 c2 c3 c4 c5
    refine ⟨by omega, by omega, i + 1, by omega, by omega, by rw [hw]; exact AV.le_refl _, ?_⟩
    rw [hs]
    (intro q; simp only [Store.upd, Store.del]; (repeat' split) <;> first | exact Or.inr rfl | exact Or.inl rfl | (exfalso; omega) | (left; subst_vars; assumption) | simp_all)
  · obtain rfl : i = es.length := by omega
    simp [n4]
    (intro q; simp only [Store.upd, Store.del]; (repeat' split) <;> first | exact Or.inr rfl | exact Or.inl rfl | (exfalso; omega) | (left; subst_vars; assumption) | simp_all)

def sameE (x y : En) : Bool := decide (x.addr = y.addr) && (x.text == y.text)
theorem sameE_iff {x y : En} : sameE x y = true ↔ x = y := by
  obtain ⟨a, t⟩ := x; obtain ⟨b, u⟩ := y
  simp [sameE]
set_option maxRecDepth 4000 in
theorem rsame_calls (o o' : Bool) (r s : Rp) (h1 : r.es.length ≤ 1000000) (σ : Store) : ACalls Try.prog 12 [rpO o r, rpO o' s] σ fun v σ' => v = .lit (.bool (decide (r = s))) ∧ σ' = σ := by
  obtain ⟨aid, short, cursor, es⟩ := r
  obtain ⟨aid', short', cursor', fs⟩ := s
  dsimp only at h1
  have hrp : ∀ o aid short cursor es, rpO o ⟨aid, short, cursor, es⟩ = .agg [byteA aid, .lit (.bool short), .lit (.int .i64 cursor), .list o 2 (ensA es)] := fun _ _ _ _ _ => rfl
  rw [hrp, hrp]
  refine ACalls.of_awp follows (st := st12) (plans := pl12) (n := 70) Try.func12 rfl (by kernel_rfl) (by kernel_rfl) (by kernel_rfl) ?_
  by_cases e1 : aid = aid'
  case neg =>
    have e1' : ¬ (aid.toNat : Int) = aid'.toNat := fun h => e1 (UInt8.toNat_inj.1 (by omega))
    simp +contextual [ite_free, byteA, e1, e1']
    intros; (intro q; simp only [Store.upd, Store.del]; (repeat' split) <;> first | exact Or.inr rfl | exact Or.inl rfl | (exfalso; omega) | (left; subst_vars; assumption) | simp_all)
  subst e1
  by_cases e2 : short = short'
  case neg =>
    simp +contextual [ite_free, byteA, e2]
    intros; (intro q; simp only [Store.upd, Store.del]; (repeat' split) <;> first | exact Or.inr rfl | exact Or.inl rfl | (exfalso; omega) | (left; subst_vars; assumption) | simp_all)
  subst e2
  by_cases e3 : cursor = cursor'
  case neg =>
    simp +contextual [ite_free, byteA, e3]
    intros; (intro q; simp only [Store.upd, Store.del]; (repeat' split) <;> first | exact Or.inr rfl | exact Or.inl rfl | (exfalso; omega) | (left; subst_vars; assumption) | simp_all)
  subst e3
  by_cases e4 : es.length = fs.length
  case neg =>
    have e4' : ¬ (es.length : Int) = fs.length := by omega
    have e5 : ¬ es = fs := fun h => e4 (h ▸ rfl)
    simp +contextual [ite_free, byteA, e4', e5]
    intros; (intro q; simp only [Store.upd, Store.del]; (repeat' split) <;> first | exact Or.inr rfl | exact Or.inl rfl | (exfalso; omega) | (left; subst_vars; assumption) | simp_all)
  simp +contextual [ite_free, byteA, e4]
  intro p hp q n1 n2 _
  refine codeK.loop follows (st := st12) (plans := pl12) (X := Nat) (fun i => i ≤ es.length ∧ ∀ j, (h : j < es.length) → j < i → sameE es[j] (fs[j]'(by omega)) = true)
    (fun i => [(2, ptrA p), (3, ptrA q), (36, .lit (.int .i64 es.length)), (37, .lit (.int .i64 i))])
    (fun i => (σ.upd p [byteA aid, .lit (.bool short), .lit (.int .i64 cursor), .list o 2 (ensA es)]).upd q [byteA aid, .lit (.bool short), .lit (.int .i64 cursor), .list o' 2 (ensA fs)])
    (fun i => es.length - i) 0 (by kernel_rfl) (by simp) (by simp [e4]) (by simp [byteA]) fun i ⟨hi, hk⟩ => ?_
  by_cases hlt : i < es.length
  · have hw : IntKind.i64.wrap ((i : Int) + 1) = ((i + 1 : Nat) : Int) := wrap_i64 (by omega) (by omega)
    have hlt' : i < fs.length := by omega
    have ha := ensA_at es i hlt
    have hb := ensA_at fs i hlt'
    have hno : sameE es[i] fs[i] = true → ∀ j, (h : j < es.length) → j < i + 1 → sameE es[j] (fs[j]'(by omega)) = true := fun h j hj hji => by
      by_cases e : j = i
      · subst e; exact h
      · exact hk j hj (by omega)
    have hyes : sameE es[i] fs[i] = false → ¬ es = fs := fun h e => by
      subst e
      rw [sameE_iff.2 rfl] at h; cases h
    have hcp := fun σ => same_calls false false es[i].text fs[i].text σ
    generalize es[i] = x at *
    generalize fs[i] = y at *
    obtain ⟨a, t⟩ := x; obtain ⟨b, u⟩ := y
    simp only [sameE] at hno hyes
    by_cases e5 : a = b
    · subst e5
      simp +contextual [hlt, hlt', ha, hb, enA, n2]
      refine callK.of (hcp _) ?_
      rintro v σ' ⟨rfl, rfl⟩
      by_cases e6 : (t == u) = true
      · simp [e6]
        exact ⟨i + 1, ⟨by omega, hno (by simp [e6])⟩, by omega, by rw [hw]; exact AV.le_refl _⟩
      · have e7 := hyes (by simpa using e6)
        simp [e6, e7]
        (intro q; simp only [Store.upd, Store.del]; (repeat' split) <;> first | exact Or.inr rfl | exact Or.inl rfl | (exfalso; omega) | (left; subst_vars; assumption) | simp_all)
    · have e7 := hyes (by simp [e5])
      simp +contextual [hlt, hlt', ha, hb, enA, n2, e5, e7]
      (intro q; simp only [Store.upd, Store.del]; (repeat' split) <;> first | exact Or.inr rfl | exact Or.inl rfl | (exfalso; omega) | (left; subst_vars; assumption) | simp_all)
  · obtain rfl : i = es.length := by omega
    have heq : es = fs := by
      refine List.ext_getElem e4 fun j h1 h2 => ?_
      exact sameE_iff.1 (hk j h1 h1)
    simp [heq]
    (intro q; simp only [Store.upd, Store.del]; (repeat' split) <;> first | exact Or.inr rfl | exact Or.inl rfl | (exfalso; omega) | (left; subst_vars; assumption) | simp_all)

set_option maxRecDepth 4000 in
/-- The document's example. -/
theorem awake_calls (σ : Store) : ACalls Try.prog 5 [] σ fun v σ' => v = .lit (.bool true) ∧ σ' = σ := by
  have hp : ∀ σ, ACalls Try.prog 11 [.list true 1 (bytesA (repB exR).1)] σ fun v σ' => (∃ ow, v = .tuple [rpO ow exR, .lit (.int .i64 0)]) ∧ σ' = σ := fun σ =>
    (parse_calls true (repB exR).1 (by rw [exB]; simp) σ).mono fun v σ' ⟨ow, r, e, h1, h2, h3⟩ => by
      obtain ⟨rfl, rfl⟩ := par_rep (by rw [exB]) h3
      exact ⟨⟨ow, h1⟩, h2⟩
  rw [exB] at hp
  simp only [bytesA, byteA, List.map_cons, List.map_nil] at hp
  have hc : ∀ ow, rpO ow exR = .agg [.lit (.int .u8 125), .lit (.bool false), .lit (.int .i64 2), .list ow 2 [.agg [.lit (.int .i64 1), .list false 1 (bytesA [0xc1, 0xc2])]]] := fun _ => rfl
  refine ACalls.of_awp follows (st := st5) (plans := pl5) (n := 43) Try.func5 rfl (by kernel_rfl) (by kernel_rfl) (by kernel_rfl) ?_
  simp
  refine callK.of (hp _) ?_
  rintro v σ' ⟨⟨ow, rfl⟩, rfl⟩
  simp +contextual [hc, bytesOf_bytesA]
end Go.Proofs.Ytkbokmokklbahaa
/-
  Every report has its bytes, of which it is parsed again, or it is said why not.
-/
namespace Go.Proofs.Ytkbokmokklbahaa
open Go Go.AL

def cutE (e : En) : En := ⟨e.addr, e.text.take 30⟩
def cutR (r : Rp) : Rp := { r with es := (r.es.take 6).map cutE }

def firstE (es : List En) (i : Nat) : List En := ((es.take i).take 6).map cutE
theorem firstE_succ (es : List En) (i : Nat) (h : i < es.length) (h6 : i < 6) : ensA (firstE es (i + 1)) = ensA (firstE es i) ++ [enA (cutE es[i])] := by
  have e1 : ∀ k, k ≤ 6 → (es.take k).take 6 = es.take k := fun k hk => by rw [List.take_take, Nat.min_eq_right hk]
  rw [firstE, firstE, e1 _ (by omega), e1 _ (by omega), List.take_succ_eq_append_getElem h, List.map_append, ensA_append]; rfl
theorem firstE_more (es : List En) (i : Nat) (h6 : 6 ≤ i) : firstE es (i + 1) = firstE es i := by
  simp only [firstE, List.take_take]
  rw [Nat.min_eq_left (by omega), Nat.min_eq_left h6]
theorem firstE_len (es : List En) (i : Nat) : (firstE es i).length ≤ 6 := by simp [firstE]; omega
theorem firstE_all (es : List En) : firstE es es.length = (es.take 6).map cutE := by simp [firstE]

set_option maxRecDepth 4000 in
theorem writes_law (r : Rp) (hr : r.es.length ≤ 9223372036854775807) (σ : Store) : ACalls Try.prog 3 [rpO false r] σ fun v _ => v = .lit (.bool true) := by
  have hrp : ∀ o r, rpO o r = .agg [byteA r.aid, .lit (.bool r.short), .lit (.int .i64 r.cursor), .list o 2 (ensA r.es)] := fun _ _ => rfl
  rw [hrp]
  refine ACalls.of_awp follows (st := st3) (plans := pl3) (n := 75) Try.func3 rfl (by kernel_rfl) (by kernel_rfl) (by kernel_rfl) ?_
  simp
  intro p hp
  refine callK.of (awake_calls _) ?_
  rintro v σ' ⟨rfl, rfl⟩
  simp
  refine codeK.loop follows (st := st3) (plans := pl3) (X := Nat) (fun i => i ≤ r.es.length)
    (fun i => [(1, ptrA p), (3, .list true 2 (ensA (firstE r.es i))), (15, .list false 2 (ensA r.es)), (16, .lit (.int .i64 r.es.length)), (17, .lit (.int .i64 i))])
    (fun i => σ.upd p [byteA r.aid, .lit (.bool r.short), .lit (.int .i64 r.cursor), .list false 2 (ensA r.es)])
    (fun i => r.es.length - i) 0 (by kernel_rfl) (by simp) (by simp [firstE, ensA]) (by simp) fun i hi => ?_
  by_cases hlt : i < r.es.length
  · have hw : IntKind.i64.wrap ((i : Int) + 1) = ((i + 1 : Nat) : Int) := wrap_i64 (by omega) (by omega)
    have ha := ensA_at r.es i hlt
    have hs := firstE_succ r.es i hlt
    have hm := firstE_more r.es i
    have hl := firstE_len r.es i
    generalize r.es[i] = e at *
    obtain ⟨ad, tx⟩ := e
    have hcp := fun σ => cut_calls false tx 30 σ (by simp)
    by_cases h6 : i < 6
    · have h6i : (i : Int) < 6 := by omega
      simp +contextual [hlt, h6i, ha, enA, ite_free]
      intro c c1 c2 c3
      repeat' apply And.intro
      all_goals
        refine callK.of (hcp _) ?_
        rintro v σ' ⟨rfl, rfl⟩
        simp +contextual
        refine ⟨by omega, by omega, i + 1, by omega, by omega, ⟨by rw [hs h6]; exact AV.le_refl _, by rw [hw]; exact AV.le_refl _⟩, ?_⟩
        (intro q; simp only [Store.upd, Store.del]; (repeat' split) <;> first | exact Or.inr rfl | exact Or.inl rfl | (exfalso; omega) | (left; subst_vars; assumption) | simp_all)
    · have h6i : ¬ (i : Int) < 6 := by omega
      simp +contextual [hlt, h6i, ha, enA, ite_free]
      intro c c1 c2 c3
      exact ⟨i + 1, by omega, by omega, by rw [hm (by omega)]; exact AV.le_refl _, by rw [hw]; exact AV.le_refl _⟩
  · obtain rfl : i = r.es.length := by omega
    have hsm : small (cutR r) := ⟨by simp [cutR]; omega, fun e he => by
      simp only [cutR, List.mem_map] at he
      obtain ⟨x, _, rfl⟩ := he
      simp [cutE]; omega⟩
    have hti : textIn (cutR r).es ≤ 180 := by
      have : ∀ l : List En, textIn (l.map cutE) ≤ 30 * l.length := fun l => by
        induction l with
        | nil => simp [textIn]
        | cons e l ih => simp [textIn, cutE] at ih ⊢; omega
      have := this (r.es.take 6)
      simp [cutR] at this ⊢; omega
    have hln : (cutR r).es.length ≤ 6 := by simp [cutR]; omega
    have hes : firstE r.es r.es.length = (cutR r).es := firstE_all r.es
    rw [hes]
    have h1 : r.aid = (cutR r).aid := rfl
    have h2 : r.short = (cutR r).short := rfl
    have h3 : r.cursor = (cutR r).cursor := rfl
    rw [h1, h2, h3]
    generalize cutR r = s at *
    have how := fun σ => own_calls false s hsm σ
    have heb := fun σ => ebytes_calls false s hsm σ
    have hrb := fun σ => rbytes_calls false s hsm σ
    have hrr := fun e r' => par_rep (r := s) (r' := r') (e := e)
    have hbl : (repB s).1.length ≤ 100000 := by have := rep_len s; omega
    rw [hrp] at how heb hrb
    simp +contextual
    refine callK.of (how _) ?_
    rintro v σ' ⟨rfl, rfl⟩
    simp +contextual
    refine callK.of (heb _) ?_
    rintro v σ' ⟨rfl, rfl⟩
    simp +contextual [outA]
    refine callK.of (hrb _) ?_
    rintro v σ' ⟨rfl, rfl⟩
    simp +contextual [outA]
    refine callK.of (same_calls _ _ _ _ _) ?_
    rintro v σ' ⟨rfl, rfl⟩
    by_cases hz : (repB s).2 = 0
    · simp +contextual [hz]
      refine callK.of (parse_calls false _ hbl _) ?_
      rintro v σ' ⟨ow2, r2, e2, rfl, rfl, hpar2⟩
      obtain ⟨rfl, rfl⟩ := hrr _ _ hz hpar2
      have hbk := fun r2 h σ => back_calls false r2 h σ
      have hsa := fun r2 r3 h σ => rsame_calls false false r2 r3 h σ
      simp only [hrp] at hbk hsa
      by_cases hsh : s.short = true
      · simp +contextual [hsh, hrp, ite_free]
        intro q n1 n2 _
        have hb2 := fun σ => hbk ⟨s.aid, true, 0, []⟩ (by simp) σ
        have hs2 := fun σ => hsa ⟨s.aid, true, 0, []⟩ ⟨s.aid, true, 0, []⟩ (by simp) σ
        constructor <;>
          (refine callK.of (hb2 _) ?_
           rintro v σ' ⟨rfl, rfl⟩
           simp +contextual
           refine callK.of (hs2 _) ?_
           rintro v σ' ⟨rfl, rfl⟩
           simp
           exact ⟨_, Store.sub_refl _⟩)
      · simp +contextual [hsh, hrp, ite_free]
        intro q n1 n2 _
        have hb2 := fun σ => hbk s (by omega) σ
        have hs2 := fun σ => hsa s s (by omega) σ
        have hsf : s.short = false := by simpa using hsh
        rw [hsf] at hb2 hs2
        constructor <;>
          (refine callK.of (hb2 _) ?_
           rintro v σ' ⟨rfl, rfl⟩
           simp +contextual [n2]
           refine callK.of (hs2 _) ?_
           rintro v σ' ⟨rfl, rfl⟩
           simp
           exact ⟨_, Store.sub_refl _⟩)
    · have hz' : ¬ ((repB s).2 : Int) = 0 := by omega
      simp +contextual [hz]
      exact ⟨_, Store.sub_refl _⟩
end Go.Proofs.Ytkbokmokklbahaa
/-
  Arguments opened.
-/
namespace Go.Proofs.Ytkbokmokklbahaa
open Go Go.AL
theorem open_bytes : Opens Try.prog 26 (fun l : List UInt8 => [.list false 1 (bytesA l)]) (fun _ => True) :=
  (Opens.slice Try.underlying26 (sz := 1) (by kernel_rfl) (by omega) (Opens.u8 Try.underlying5) byteA (fun _ => rfl) (fun _ => rfl)).by id fun _ _ => ⟨trivial, rfl⟩
theorem open_en : Opens Try.prog 28 (fun e : En => (enA e).cells) (fun _ => True) :=
  (Opens.struct (total := 2) Try.underlying28 (by kernel_rfl)
    (.cons (k := 1) rfl (by kernel_rfl) (by omega) (Opens.i64 Try.underlying3) (.cons (k := 1) rfl (by kernel_rfl) (by omega) open_bytes .nil))).by
    (fun x => ⟨x.1, x.2.1⟩) fun _ _ => ⟨trivial, rfl⟩
theorem open_ens : Opens Try.prog 22 (fun l : List En => [.list false 2 (ensA l)]) (fun l => l.length ≤ maxLen ∧ ∀ e ∈ l, True) :=
  Opens.slice Try.underlying22 (by kernel_rfl) (by omega) open_en enA (fun _ => rfl) (fun _ => rfl)
theorem open_rp : Opens Try.prog 24 (fun r : Rp => [byteA r.aid, .lit (.bool r.short), .lit (.int .i64 r.cursor), .list false 2 (ensA r.es)]) (fun r => r.es.length ≤ maxLen) :=
  (Opens.struct (total := 4) Try.underlying24 (by kernel_rfl)
    (.cons (k := 1) rfl (by kernel_rfl) (by omega) (Opens.u8 Try.underlying5) (.cons (k := 1) rfl (by kernel_rfl) (by omega) (Opens.bool Try.underlying4) (.cons (k := 1) rfl (by kernel_rfl) (by omega) (Opens.i64 Try.underlying3)
      (.cons (k := 1) rfl (by kernel_rfl) (by omega) open_ens .nil))))).by
    (fun x => ⟨x.1, x.2.1, x.2.2.1, x.2.2.2.1⟩) fun _ h => ⟨h.2.2.2.1.1, rfl⟩
end Go.Proofs.Ytkbokmokklbahaa
