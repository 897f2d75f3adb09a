/-
  What is parsed of a report's bytes is the report; the plain law.
-/
import Derived.Test.YtkjcdnmjdanmpaaVPart17
set_option linter.unusedSimpArgs false
set_option linter.unusedVariables false
namespace Go.Proofs.Ytkjcdnmjdanmpaa
open Go Go.AL

theorem AllS.sba {x y : UInt8} {tl : List UInt8} {os : List Op} {e : Nat} (h : AllS (17 :: x :: y :: tl) os e) (hd : (decM x y).2 = 0) : ∃ os', os = sbaOp (decM x y).1 :: os' ∧ AllS tl os' e := by
  cases h with
  | ok h1 h2 => obtain ⟨rfl, rfl, _⟩ := h1.sba _ _ _ rfl; exact ⟨_, rfl, h2⟩
  | bad h1 h2 => obtain ⟨_, _, h3⟩ := h1.sba _ _ _ rfl; exact absurd (h3.trans hd) h2
theorem until_all {t tl : List UInt8} (ht : hasOrd t = false) (htl : tl = [] ∨ ∃ c tl', tl = c :: tl' ∧ isOrd c = true) : untilO (t ++ tl) = t ∧ fromO (t ++ tl) = tl := by
  have h : ∀ c ∈ t, (!isOrd c) = true := fun c hc => by
    rw [hasOrd, List.any_eq_false] at ht
    simpa using ht c hc
  have h2 : tl.takeWhile (fun c => !isOrd c) = [] ∧ tl.dropWhile (fun c => !isOrd c) = tl := by
    rcases htl with rfl | ⟨c, tl', rfl, hc⟩
    · exact ⟨rfl, rfl⟩
    · simp [hc]
  simp only [untilO, fromO]
  rw [List.takeWhile_append_of_pos h, List.dropWhile_append_of_pos h, h2.1, h2.2]
  simp
theorem AllS.text {t tl : List UInt8} {os : List Op} {e : Nat} (h : AllS (t ++ tl) os e) (ht : hasOrd t = false) (hne : t ≠ []) (htl : tl = [] ∨ ∃ c tl', tl = c :: tl' ∧ isOrd c = true) : ∃ os', os = txtOp t :: os' ∧ AllS tl os' e := by
  obtain ⟨u1, u2⟩ := until_all ht htl
  obtain ⟨c, t', rfl⟩ := List.exists_cons_of_ne_nil hne
  have hc : isOrd c = false := by
    rw [hasOrd, List.any_eq_false] at ht
    simpa using ht c (by simp)
  generalize hl : (c :: t') ++ tl = l at *
  cases h with
  | nil => cases hl
  | ok h1 h2 =>
    obtain ⟨rfl, rfl, _⟩ := h1.text c (t' ++ tl) hl.symm hc
    rw [u1]; rw [u2] at h2; exact ⟨_, rfl, h2⟩
  | bad h1 h2 => obtain ⟨_, _, h3⟩ := h1.text c (t' ++ tl) hl.symm hc; exact absurd h3 h2

def encE (e : En) : List UInt8 := 17 :: encM e.addr.toNat ++ e.text
def fine (e : En) : Prop := okAddr e.addr ∧ hasOrd e.text = false
theorem dec_addr {n : Int} (h : okAddr n) : ∃ x y, encM n.toNat = [x, y] ∧ decM x y = (n.toNat, 0) ∧ ((n.toNat : Nat) : Int) = n :=
  ⟨_, _, rfl, dec_enc (by have := h.1; have := h.2; omega), by have := h.1; omega⟩
theorem enc_all : ∀ {es : List En} {os : List Op} {e : Nat}, (∀ x ∈ es, fine x) → AllS (es.flatMap encE) os e → e = 0 ∧ os = es.flatMap (opsE false)
  | [], os, e, _, h => by
    cases h with
    | nil => exact ⟨rfl, rfl⟩
    | ok h1 h2 => have := h1.len; simp at this
    | bad h1 h2 => have := h1.len; simp at this
  | x :: es, os, e, hf, h => by
    obtain ⟨f1, f2⟩ := hf x (by simp)
    obtain ⟨a, b, h1, h2, h3⟩ := dec_addr f1
    have hl : (x :: es).flatMap encE = 17 :: a :: b :: (x.text ++ es.flatMap encE) := by simp [encE, h1]
    rw [hl] at h
    obtain ⟨os1, rfl, k⟩ := h.sba (by rw [h2])
    have hd : (((decM a b).1 : Nat) : Int) = x.addr := by rw [h2]; exact h3
    have htl : es.flatMap encE = [] ∨ ∃ c tl', es.flatMap encE = c :: tl' ∧ isOrd c = true := by
      cases es with
      | nil => exact .inl rfl
      | cons z es => exact .inr ⟨17, encM z.addr.toNat ++ z.text ++ es.flatMap encE, by simp [encE], by decide⟩
    by_cases ht : x.text = []
    · rw [ht, List.nil_append] at k
      obtain ⟨r1, r2⟩ := enc_all (fun z hz => hf z (by simp [hz])) k
      exact ⟨r1, by simp [opsE, ht, hd, r2]⟩
    · obtain ⟨os2, rfl, k2⟩ := k.text f2 ht htl
      obtain ⟨r1, r2⟩ := enc_all (fun z hz => hf z (by simp [hz])) k2
      exact ⟨r1, by simp [opsE, ht, hd, r2]⟩

theorem entS_sba (es : List En) (n : Int) : entS es (sbaOp n) = some (es ++ [⟨n, []⟩]) := rfl
theorem entS_txt (es : List En) (t : List UInt8) : entS es (txtOp t) = some (addE es t) := rfl
theorem ents_enc (es : List En) : ∀ acc : List En, (es.flatMap (opsE false)).foldlM entS acc = some (acc ++ es) := by
  induction es with
  | nil => simp
  | cons e es ih =>
    intro acc
    obtain ⟨a, t⟩ := e
    by_cases ht : t = []
    · subst ht
      simp [opsE, entS_sba, ih]
    · simp [opsE, ht, entS_sba, entS_txt, addE_more, ih]

theorem seqB_zero {α : Type} {f : α → List UInt8 × Nat} : ∀ {l : List α}, (seqB f l).2 = 0 → (∀ o ∈ l, (f o).2 = 0) ∧ (seqB f l).1 = l.flatMap fun o => (f o).1
  | [], _ => ⟨by simp, rfl⟩
  | o :: l, h => by
    by_cases h1 : (f o).2 = 0
    · by_cases h2 : (seqB f l).2 = 0
      · obtain ⟨k1, k2⟩ := seqB_zero h2
        refine ⟨fun x hx => ?_, ?_⟩
        · rcases List.mem_cons.1 hx with rfl | hx
          · exact h1
          · exact k1 x hx
        · simp [seqB, h1, h2, k2]
      · simp [seqB, h1, h2] at h
    · simp [seqB, h1] at h
theorem entB_fine {e : En} (h : (entB false e).2 = 0) : fine e ∧ (entB false e).1 = encE e := by
  rw [entB_false] at h ⊢
  by_cases h1 : okAddr e.addr
  · by_cases h2 : hasOrd e.text = true
    · simp [h1, h2] at h
    · exact ⟨⟨h1, by simpa using h2⟩, by simp [h1, h2, encE]⟩
  · simp [h1] at h

/-- What a report's bytes are parsed to. -/
theorem par_rep {r r' : Rp} {e : Nat} (hz : (repB r).2 = 0) (h : ParS (repB r).1 r' e) : e = 0 ∧ r' = if r.short = true then ⟨r.aid, true, 0, []⟩ else r := by
  obtain ⟨aid, short, cursor, es⟩ := r
  by_cases hs : short = true
  · subst hs
    simp only [repB, if_true] at h
    exact ⟨h.2, by rw [h.1]; rfl⟩
  · have hs' : short = false := by simpa using hs
    subst hs'
    by_cases hc : okAddr cursor
    · by_cases hq : (seqB (entB (aloneL es)) es).2 = 0
      · obtain ⟨k1, k2⟩ := seqB_zero hq
        obtain ⟨x, y, h1, h2, h3⟩ := dec_addr hc
        have hr : (repB ⟨aid, false, cursor, es⟩).1 = aid :: x :: y :: es.flatMap fun o => (entB (aloneL es) o).1 := by
          simp [repB, hc, hq, k2, h1]
        rw [hr] at h
        have h' : if (decM x y).2 ≠ 0 then e = (decM x y).2 else TailS aid false (decM x y).1 (es.flatMap fun o => (entB (aloneL es) o).1) r' e := h
        rw [h2, if_neg (by simp)] at h'
        obtain ⟨os, e2, g1, _, g2⟩ := h'
        have fin : e2 = 0 → entsS os = some es → e = 0 ∧ r' = ⟨aid, false, cursor, es⟩ := fun q1 q2 => by
          subst q1
          rw [if_neg (by simp), q2] at g2
          obtain ⟨q3, q4⟩ := g2
          exact ⟨q4, by rw [q3]; simp [h3]⟩
        simp only [Bool.false_eq_true, if_false]
        by_cases ha : aloneL es = true
        · rcases aloneL_cases es with ⟨_, h⟩ | ⟨x, rfl, ⟨_, h⟩ | ⟨_, _, h⟩ | ⟨a1, a2, _⟩⟩
          · rw [h] at ha; cases ha
          · rw [h] at ha; cases ha
          · rw [h] at ha; cases ha
          · rw [ha] at g1 k1
            have hx := k1 x (by simp)
            rw [entB_true x a2] at hx
            have ho : hasOrd x.text = false := by
              by_cases h : hasOrd x.text = true
              · simp [h] at hx
              · simpa using h
            have hb : (entB true x).1 = x.text := by rw [entB_true x a2]; simp [ho]
            simp only [List.flatMap_cons, List.flatMap_nil, hb] at g1
            obtain ⟨os', rfl, k⟩ := g1.text ho (List.length_pos_iff.1 a2) (.inl rfl)
            obtain ⟨rfl, rfl⟩ := enc_all (es := []) (by simp) k
            refine fin rfl ?_
            obtain ⟨xa, xt⟩ := x
            simp only at a1; subst a1
            simp [entsS, entS_txt, addE]
        · have ha' : aloneL es = false := by simpa using ha
          rw [ha'] at g1 k1
          have hfl : (es.flatMap fun o => (entB false o).1) = es.flatMap encE := by
            have : ∀ l : List En, (∀ o ∈ l, (entB false o).2 = 0) → (l.flatMap fun o => (entB false o).1) = l.flatMap encE := fun l => by
              induction l with
              | nil => intro _; rfl
              | cons o l ih => intro hl; simp only [List.flatMap_cons]; rw [ih fun x hx => hl x (by simp [hx]), (entB_fine (hl o (by simp))).2]
            exact this es k1
          rw [hfl] at g1
          obtain ⟨rfl, rfl⟩ := enc_all (fun x hx => (entB_fine (k1 x hx)).1) g1
          exact fin rfl (ents_enc es [])
      · simp [repB, hc, hq] at hz
    · simp [repB, hc] at hz

/-- Texts that were read have no order's code. -/
def clean (es : List En) : Prop := ∀ e ∈ es, hasOrd e.text = false
theorem hasOrd_append (l k : List UInt8) : hasOrd (l ++ k) = (hasOrd l || hasOrd k) := by simp [hasOrd]
theorem entS_clean {l l' : List UInt8} {es es' : List En} {o : Op} (h : Step l o l' 0) (hc : clean es) (he : entS es o = some es') : clean es' := by
  obtain ⟨w1, w2, _⟩ := h.wf rfl
  have hadd : ∀ t, hasOrd t = false → clean (addE es t) := fun t ht => by
    rcases List.eq_nil_or_concat es with rfl | ⟨init, last, rfl⟩
    · intro e he; simp [addE] at he; subst he; exact ht
    · rw [List.concat_eq_append] at hc ⊢
      rw [addE_more]
      intro e he
      rcases List.mem_append.1 he with he | he
      · exact hc e (by simp [he])
      · simp at he; subst he
        simp only; rw [hasOrd_append, hc last (by simp), ht]; rfl
  unfold entS at he
  split at he
  · simp at he; subst he
    intro e he
    rcases List.mem_append.1 he with he | he
    · exact hc e he
    · simp at he; subst he; rfl
  · split at he
    · rename_i hk; simp at he; subst he; exact hadd _ (w1 hk).2
    · split at he
      · rename_i hk; simp at he; subst he; exact hadd _ (by simp [hasOrd, w2 hk])
      · split at he
        · simp at he; subst he; exact hc
        · cases he
theorem AllS.clean {l : List UInt8} {os : List Op} (h : AllS l os 0) : ∀ {es es' : List En}, clean es → os.foldlM entS es = some es' → clean es' := by
  generalize hz : 0 = e at h
  induction h with
  | nil => intro es es' hc he; simp at he; subst he; exact hc
  | ok h1 h2 ih =>
    intro es es' hc he
    rw [List.foldlM_cons] at he
    rename_i o os e
    cases ho : entS es o with
    | none => simp [ho] at he
    | some es1 =>
      simp [ho] at he
      exact ih hz (entS_clean h1 hc ho) he
  | bad h1 h2 => exact absurd hz.symm h2

/-- The document's example. -/
def exR : Rp := ⟨0x7d, false, 2, [⟨1, [0xc1, 0xc2]⟩]⟩
theorem exB : repB exR = ([0x7d, 0x40, 0xc2, 0x11, 0x40, 0xc1, 0xc1, 0xc2], 0) := by decide +kernel
end Go.Proofs.Ytkjcdnmjdanmpaa
/-
  Reports from the document's form to the program's and back; when two are the same.
-/
namespace Go.Proofs.Ytkjcdnmjdanmpaa
open Go Go.AL

def sameE (x y : En) : Bool := decide (x.addr = y.addr) && (x.text == y.text)
set_option maxRecDepth 8000 in
/-- The document's example. -/
theorem awake_calls (σ : Store) : ACalls Try.prog 4 [] σ fun v σ' => v = .lit (.bool true) ∧ σ' = σ := by
  have hp : ∀ σ, ACalls Try.prog 12 [.list true 1 (bytesA (repB exR).1)] σ fun v σ' => (∃ ow, v = .tuple [rpO ow exR, .lit (.int .i64 0)]) ∧ σ' = σ := fun σ =>
    (parse_calls true (repB exR).1 (by rw [exB]; simp) σ).mono fun v σ' ⟨ow, r, e, h1, h2, h3⟩ => by
      obtain ⟨rfl, rfl⟩ := par_rep (by rw [exB]) h3
      exact ⟨⟨ow, h1⟩, h2⟩
  rw [exB] at hp
  simp only [bytesA, byteA, List.map_cons, List.map_nil] at hp
  have hc : ∀ ow, rpO ow exR = .agg [.lit (.int .u8 125), .lit (.bool false), .lit (.int .i64 2), .list ow 2 [.agg [.lit (.int .i64 1), .list false 1 (bytesA [0xc1, 0xc2])]]] := fun _ => rfl
  refine ACalls.of_awp follows (st := st4) (plans := pl4) (n := 43) Try.func4 rfl (by kernel_rfl) (by kernel_rfl) (by kernel_rfl) ?_
  simp
  refine callK.of (hp _) ?_
  rintro v σ' ⟨⟨ow, rfl⟩, rfl⟩
  simp +contextual [hc, bytesOf_bytesA]
end Go.Proofs.Ytkjcdnmjdanmpaa
/-
  EntryValues.
-/
namespace Go.Proofs.Ytkjcdnmjdanmpaa
open Go Go.AL

@[simp] def st3x : List Nat := [37, 118, 1000088, 1000090]
theorem page_gen (n : Int) (τ : Store) : ACalls Try.prog 6 [.lit (.int .i64 n)] τ fun v σ' => ∃ a e k, v = .tuple [.lit (.pointer a), .lit (.int .i64 e)] ∧ k = (if e = 0 then n else 37) ∧ isPage k ∧ PgAt a k σ' ∧ (∀ (o : Nat) cs, τ o = some cs → σ' o = some cs) ∧ ∀ g, σ' (mkey g) = τ (mkey g) := by
  by_cases hn : isPage n
  · refine (page_new n hn τ).mono ?_
    rintro v σ' ⟨b, hb, rfl, rfl⟩
    refine ⟨_, 0, n, rfl, rfl, hn, .inr ⟨b, rfl, hn, pgS_cell b n none τ⟩, fun o cs ho => ?_, fun g => by simp [pgS]⟩
    have : ¬ o = b := fun e => by subst e; rw [hb] at ho; cases ho
    rw [pgS_other this]; exact ho
  · refine (page_none n hn τ).mono ?_
    rintro v σ' ⟨rfl, rfl⟩
    exact ⟨none, 5, 37, rfl, by simp, .inl rfl, .inl ⟨rfl, rfl⟩, fun _ _ h => h, fun _ => rfl⟩
set_option maxHeartbeats 4000000 in
set_option maxRecDepth 8000 in
theorem entryValues_law (R : Rp) (n : Int) (l : List Ce) (hes : R.es.length ≤ 9223372036854775807) (hel : ∀ e ∈ R.es, e.text.length ≤ 9223372036854775807) (hl : l.length ≤ 9223372036854775807) (σ : Store) :
    ACalls Try.prog 3 [.agg (rpC R), .lit (.int .i64 n), .list false 6 (cesA l)] σ fun v _ => v = .lit (.bool true) := by
  have haw := fun τ => awake_calls τ
  obtain ⟨aid, short, cur, es⟩ := R
  dsimp only at hes hel
  unfold rpC byteA
  refine ACalls.of_awp follows (st := st3x) (plans := pl3) (n := 129) Try.func3 rfl (by kernel_rfl) (by kernel_rfl) (by kernel_rfl) ?_
  simp
  intro p3 hp3
  refine callK.eq (haw _) ?_
  simp
  generalize hY : σ.upd p3 _ = Y
  have y3 : Y p3 = some [.lit (.int .u8 (aid.toNat : Int)), .lit (.bool short), .lit (.int .i64 cur), .list false 2 (ensA es)] := by rw [← hY]; simp
  clear hY hp3
  refine codeK.loop follows (st := st3x) (plans := pl3) (X := Nat) (fun i => i ≤ es.length)
    (fun i => [(1, .lit (.int .i64 n)), (2, .list false 6 (cesA l)), (3, .lit (.pointer (some ⟨p3, 0, none⟩))), (7, .list true 2 (ensA (fewN es i))), (28, .list false 2 (ensA es)), (29, .lit (.int .i64 es.length)), (30, .lit (.int .i64 i))])
    (fun _ => Y) (fun i => es.length - i) 0 (by kernel_rfl) (by simp) (by simp [fewN, ensA]) (Store.sub_refl _) fun i hi => ?_
  by_cases hlt : i < es.length
  · have hw : IntKind.i64.wrap ((i : Int) + 1) = ((i + 1 : Nat) : Int) := wrap_i64 (by omega) (by omega)
    have ge := ensA_get es i hlt
    have hs := fewN_succ es i hlt
    have hfl := fewN_len es i
    have hel1 := hel _ (List.getElem_mem hlt)
    have hct := fun τ => rcut_calls es[i].text hel1 τ
    generalize es[i] = e at *
    obtain ⟨ea, et⟩ := e
    simp only [enA, cutN] at ge hs hct
    generalize fewN es i = fw at *
    simp [hlt, ge]
    intro p9 hp9
    by_cases h6 : i < 6
    · have h6' : (i : Int) < 6 := by omega
      rw [if_pos h6] at hs
      simp [h6, h6']
      repeat' first
        | with_reducible apply And.intro
        | (refine callK.eq (hct _) ?_; simp)
      all_goals first
        | omega
        | exact ⟨i + 1, by omega, by omega, ⟨by rw [hs]; exact AV.le_refl _, by rw [hw]; exact AV.le_refl _⟩, Store.sub_upd hp9 (Store.sub_refl _)⟩
    · have h6' : ¬ (i : Int) < 6 := by omega
      rw [if_neg h6] at hs
      simp [h6, h6']
      exact ⟨i + 1, by omega, by omega, ⟨by rw [hs]; exact AV.le_refl _, by rw [hw]; exact AV.le_refl _⟩, Store.sub_upd hp9 (Store.sub_refl _)⟩
  · obtain rfl : i = es.length := by omega
    have hfl := fewN_len es es.length
    have hft := fewN_txt es es.length
    generalize fewN es es.length = fw at *
    simp [y3]
    refine callK.of (page_gen n _) ?_
    rintro v τ ⟨a, e, k, rfl, hke, hk, hpg, hold, hmk⟩
    have w3 : τ p3 = some [.lit (.int .u8 (aid.toNat : Int)), .lit (.bool short), .lit (.int .i64 cur), .list false 2 (ensA fw)] := hold p3 _ (by simp)
    clear hold
    by_cases he : e = 0
    case' pos =>
      rw [if_pos he] at hke
      subst he
      simp
      rw [← hke]
    case' neg =>
      rw [if_neg he] at hke
      simp [he]
      rw [← hke]
    all_goals
      clear hke
      intro g hg
      have hm0 : mapA [] = mapA (mapI (valsP k (fw.take 0))) := rfl
      rw [hm0]
      clear hm0
      refine codeK.loop follows (st := st3x) (plans := pl3) (X := Nat) (fun i => i ≤ fw.length)
        (fun i => [(2, .list false 6 (cesA l)), (3, .lit (.pointer (some ⟨p3, 0, none⟩))), (10, .lit (.pointer a)), (12, .lit (.int .i64 k)), (13, .lit (.map (some g))), (58, .list false 2 (ensA fw)), (59, .lit (.int .i64 fw.length)), (60, .lit (.int .i64 i))])
        (fun i => τ.put g (mapA (mapI (valsP k (fw.take i))))) (fun i => fw.length - i) 0 (by kernel_rfl) (by simp) (by simp) (Store.sub_refl _) fun i hi => ?_
      by_cases hlt : i < fw.length
      · have hw : IntKind.i64.wrap ((i : Int) + 1) = ((i + 1 : Nat) : Int) := wrap_i64 (by omega) (by omega)
        have ge := ensA_get fw i hlt
        have hel1 := hft _ (List.getElem_mem hlt)
        have hst := valsP_snoc k fw i hlt
        generalize fw[i] = z at *
        obtain ⟨ea, et⟩ := z
        dsimp only at hel1 hst
        simp only [enA] at ge
        simp [hlt, ge]
        intro p15 f15
        generalize hU : τ.upd p15 _ = U
        have subU : Store.sub τ U := by rw [← hU]; exact Store.sub_upd f15 (Store.sub_refl _)
        have u15 : U p15 = some [.lit (.int .i64 ea), .list false 1 (bytesA et)] := by rw [← hU]; simp
        clear hU
        have hset0 := setI_put (valsP k (fw.take i)) ea (toB (txtB k et))
        have e0 : (ByteArray.mk #[]) = toB (txtB k (et.take 0)) := rfl
        try rw [e0]
        refine codeK.loop follows (st := st3x) (plans := pl3) (X := Nat) (fun y => y ≤ et.length)
          (fun y => [(2, .list false 6 (cesA l)), (3, .lit (.pointer (some ⟨p3, 0, none⟩))), (10, .lit (.pointer a)), (12, .lit (.int .i64 k)), (13, .lit (.map (some g))), (15, .lit (.pointer (some ⟨p15, 0, none⟩))), (16, .lit (.string (toB (txtB k (et.take y))))), (58, .list false 2 (ensA fw)), (59, .lit (.int .i64 fw.length)), (60, .lit (.int .i64 i)), (65, .list false 1 (bytesA et)), (66, .lit (.int .i64 et.length)), (67, .lit (.int .i64 y))])
          (fun _ => U.put g (mapA (mapI (valsP k (fw.take i))))) (fun y => et.length - y) 0 (by kernel_rfl) (by simp) (by simp [u15]) (Store.sub_refl _) fun m hm => ?_
        by_cases hlm : m < et.length
        · have hwm : IntKind.i64.wrap ((m : Int) + 1) = ((m + 1 : Nat) : Int) := wrap_i64 (by omega) (by omega)
          have gb := bytesA_at et m hlm
          have hsn := txtB_snoc k et m hlm
          have hsg := sgF_lt hk et[m].toNat
          have hs := fun τ => rsign_calls k hk et[m] τ
          have hl1 := txtB_len k (et.take m)
          rw [List.length_take] at hl1
          generalize et[m] = c at *
          generalize sgF k c.toNat = r at *
          have hen := encode_sg r hsg
          have hl2 := sgBytes_len r
          have hz1 := toB_size (txtB k (et.take m))
          have hz2 := toB_size (sgBytes r)
          have hfit : ¬ (9223372036854775807 : Int) < ((txtB k (et.take m)).length : Int) + ((sgBytes r).length : Int) := by omega
          simp only [byteA] at gb hs
          simp [hlm, gb]
          refine callK.eq (hs _) ?_
          simp [hen, toB_app, hz1, hz2, toB_size, hfit]
          exact ⟨m + 1, by omega, by omega, by rw [hsn]; exact AV.le_refl _, by rw [hwm]; exact AV.le_refl _⟩
        · obtain rfl : m = et.length := by omega
          simp [u15, hset0, put_same]
          exact ⟨i + 1, by omega, by omega, by rw [hw]; exact AV.le_refl _, by rw [hst]; exact put_mono subU⟩
      · obtain rfl : i = fw.length := by omega
        have hown := fun τ => own_calls ⟨aid, short, cur, fw⟩ hfl hft τ
        have hpg2 : ∀ M, PgAt a k (τ.put g M) := fun M => by
          rcases hpg with h | ⟨b, h1, h2, h3⟩
          · exact .inl h
          · exact .inr ⟨b, h1, h2, by rw [put_nat]; exact h3⟩
        have hvl := fun M => vals_calls a k ⟨aid, short, cur, fw⟩ ⟨hfl, hft⟩ (τ.put g M) (hpg2 M)
        have hap := valsP_apart k fw
        unfold rpC byteA at hown hvl
        dsimp only at hown hvl
        simp [w3]
        generalize valsP k fw = A at *
        refine callK.eq (hown _) ?_
        simp
        refine callK.of (hvl _) ?_
        rintro v Z ⟨g1, rfl, z1, hkeep⟩
        have z2 := hkeep g (mapA (mapI A)) (by simp)
        clear hkeep hvl hpg2 hown
        simp [z1, z2]
        intro q hq
        have q1 : ¬ g1 = q := fun e => by subst e; rw [z1] at hq; cases hq
        have q2 : ¬ g = q := fun e => by subst e; rw [z2] at hq; cases hq
        refine codeK.loop follows (st := st3x) (plans := pl3) (X := List Nat) (fun seen => ∀ i ∈ seen, i < A.length)
          (fun _ => [(2, .list false 6 (cesA l)), (19, .lit (.map (some g1))), (93, .lit (.pointer (some ⟨q, 0, none⟩)))]) (fun seen => Z.put q (miterA g A.length seen)) (fun seen => leftN A.length seen) [] (by kernel_rfl) (by simp) (by simp) (Store.sub_refl _) fun seen hseen => ?_
        simp [q1, q2, z1, z2]
        refine ⟨by simp, fun i kv hi hs => ?_, fun hall => ?_⟩
        · obtain ⟨x, hx, rfl⟩ : ∃ x, A[i]? = some x ∧ kv = (.int .i64 x.1, .lit (.string x.2)) := by
            simp only [mapI, List.getElem?_map, Option.map_eq_some_iff] at hi
            obtain ⟨x, h1, h2⟩ := hi
            exact ⟨x, h1, h2.symm⟩
          have hget := getI_mem (P := Try.prog) (et := 9) hap hx
          have hlt : i < A.length := (List.getElem?_eq_some_iff.1 hx).1
          rw [put_same]
          simp [q1, q2, z1, z2, hi, hget]
          refine ⟨seen ++ [i], fun j hj => ?_, leftN_less hlt hs, Store.sub_refl _⟩
          rcases List.mem_append.1 hj with hj | hj
          · exact hseen j hj
          · simp at hj; omega
        · clear hall hq q1 q2 z1 z2 hap
          generalize Z.put q (miterA g A.length seen) = V
          have hL : ∃ L : List Ce, L.length ≤ 50 ∧ (if 50 < l.length then (cesA l).take 50 else cesA l) = cesA L ∧ L.length = min l.length 50 := by
            by_cases h50 : 50 < l.length
            · exact ⟨l.take 50, by rw [List.length_take]; omega, by rw [if_pos h50]; simp [cesA, List.map_take], by rw [List.length_take]; omega⟩
            · exact ⟨l, by omega, by rw [if_neg h50], by omega⟩
          obtain ⟨L, hL1, hL2, hL3⟩ := hL
          have htake : ∀ m, m = L.length → (cesA l).take m = cesA L := fun m hm => by
            rw [← hL2, hm, hL3]
            split
            · rename_i h; rw [Nat.min_eq_right (by omega)]
            · rename_i h; rw [Nat.min_eq_left (by omega)]; exact List.take_of_length_le (by simp)
          have hfi := fun τ => fields_calls L hL1 τ
          have hml := marksP_len L L.length
          have heq := fun τ => equal_calls (marksP L L.length) (marksP_mem L L.length) (by omega) τ
          by_cases h50 : 50 < l.length
          case' pos =>
            have h50' : (50 : Int) < l.length := by omega
            have h50b : 50 ≤ l.length := by omega
            simp [h50', h50b, htake 50 (by omega)]
          case' neg =>
            have h50' : ¬ (50 : Int) < l.length := by omega
            simp [h50', htake l.length (by omega)]
          all_goals
            refine codeK.loop follows (st := st3x) (plans := pl3) (X := Nat) (fun i => i ≤ L.length)
              (fun i => [(2, .list false 6 (cesA L)), (22, .list true 7 (marksP L i)), (109, .list false 6 (cesA L)), (110, .lit (.int .i64 L.length)), (111, .lit (.int .i64 i))]) (fun _ => V) (fun i => L.length - i) 0 (by kernel_rfl) (by simp) (by simp [marksP]) (Store.sub_refl _) fun i hi => ?_
            have hmi := marksP_len L i
            by_cases hlt : i < L.length
            · have hw : IntKind.i64.wrap ((i : Int) + 1) = ((i + 1 : Nat) : Int) := wrap_i64 (by omega) (by omega)
              have ha := cesA_get L i hlt
              have hs := marksP_succ L i hlt
              generalize L[i] = c at *
              obtain ⟨c1, c2, c3, c4, c5, c6⟩ := c
              simp only [ceC, mkA] at ha hs
              generalize marksP L i = M at *
              simp [hlt, ha]
              intro p hp
              cases c2
              · simp at hs
                simp
                exact ⟨i + 1, by omega, by omega, ⟨by rw [hs]; exact AV.le_refl _, by rw [hw]; exact AV.le_refl _⟩, Store.sub_upd hp (Store.sub_refl _)⟩
              · simp at hs
                simp
                exact ⟨by omega, by omega, i + 1, by omega, by omega, ⟨by rw [hs]; exact AV.le_refl _, by rw [hw]; exact AV.le_refl _⟩, Store.sub_upd hp (Store.sub_refl _)⟩
            · obtain rfl : i = L.length := by omega
              simp
              refine callK.eq (hfi _) ?_
              simp
              refine callK.le (args' := [.list false 7 (marksP L L.length), .list false 7 (marksP L L.length)]) (by simp [AllLe]) (heq _) ?_
              rintro v σ2 ⟨rfl, rfl⟩
              simp
              exact ⟨_, Store.sub_refl _⟩
end Go.Proofs.Ytkjcdnmjdanmpaa
/-
  Arguments opened.
-/
namespace Go.Proofs.Ytkjcdnmjdanmpaa
open Go Go.AL
theorem open_bytes : Opens Try.prog 27 (fun l : List UInt8 => [.list false 1 (bytesA l)]) (fun l => l.length ≤ maxLen) :=
  (Opens.slice Try.underlying27 (sz := 1) (by kernel_rfl) (by omega) (Opens.u8 Try.underlying5) byteA (fun _ => rfl) (fun _ => rfl)).by id fun _ h => ⟨h.1, rfl⟩
theorem open_en : Opens Try.prog 29 (fun e : En => [.lit (.int .i64 e.addr), .list false 1 (bytesA e.text)]) (fun e => e.text.length ≤ maxLen) :=
  (Opens.struct (total := 2) Try.underlying29 (by kernel_rfl)
    (.cons (k := 1) rfl (by kernel_rfl) (by omega) (Opens.i64 Try.underlying3) (.cons (k := 1) rfl (by kernel_rfl) (by omega) open_bytes .nil))).by
    (fun x => ⟨x.1, x.2.1⟩) fun _ h => ⟨h.2.1, rfl⟩
theorem open_ens : Opens Try.prog 22 (fun l : List En => [.list false 2 (ensA l)]) (fun l => l.length ≤ maxLen ∧ ∀ e ∈ l, e.text.length ≤ maxLen) :=
  Opens.slice Try.underlying22 (by kernel_rfl) (by omega) open_en enA (fun _ => rfl) (fun _ => rfl)
theorem open_rp : Opens Try.prog 24 (fun R : Rp => rpC R) (fun R => R.es.length ≤ maxLen ∧ ∀ e ∈ R.es, e.text.length ≤ maxLen) :=
  (Opens.struct (total := 4) Try.underlying24 (by kernel_rfl)
    (.cons (k := 1) rfl (by kernel_rfl) (by omega) (Opens.u8 Try.underlying5) (.cons (k := 1) rfl (by kernel_rfl) (by omega) (Opens.bool Try.underlying4) (.cons (k := 1) rfl (by kernel_rfl) (by omega) (Opens.i64 Try.underlying3)
      (.cons (k := 1) rfl (by kernel_rfl) (by omega) open_ens .nil))))).by
    (fun x => ⟨x.1, x.2.1, x.2.2.1, x.2.2.2.1⟩) fun _ h => ⟨h.2.2.2.1, rfl⟩
theorem open_ce : Opens Try.prog 44 (fun c : Ce => ceC c) (fun _ => True) :=
  (Opens.struct (total := 6) Try.underlying44 (by kernel_rfl)
    (.cons (k := 1) rfl (by kernel_rfl) (by omega) (Opens.u8 Try.underlying5) (.cons (k := 1) rfl (by kernel_rfl) (by omega) (Opens.bool Try.underlying4) (.cons (k := 1) rfl (by kernel_rfl) (by omega) (Opens.u8 Try.underlying5)
      (.cons (k := 1) rfl (by kernel_rfl) (by omega) (Opens.u8 Try.underlying5) (.cons (k := 1) rfl (by kernel_rfl) (by omega) (Opens.u8 Try.underlying5) (.cons (k := 1) rfl (by kernel_rfl) (by omega) (Opens.u8 Try.underlying5) .nil))))))).by
    (fun x => ⟨x.1, x.2.1, x.2.2.1, x.2.2.2.1, x.2.2.2.2.1, x.2.2.2.2.2.1⟩) fun _ _ => ⟨trivial, rfl⟩
theorem open_ces : Opens Try.prog 25 (fun l : List Ce => [.list false 6 (cesA l)]) (fun l => l.length ≤ maxLen) :=
  (Opens.slice Try.underlying25 (by kernel_rfl) (by omega) open_ce (fun c => .agg (ceC c)) (fun _ => rfl) (fun _ => rfl)).by id fun _ h => ⟨h.1, rfl⟩
end Go.Proofs.Ytkjcdnmjdanmpaa
