/-
  Merge, and what it computes.
-/
import Derived.Test.YtkfhpnfgnjmdbaaPFeed
namespace Go.Proofs.Ytkfhpnfgnjmdbaa
open Go Go.AL

def dataEv (d : List UInt8) : Ev := ⟨0, 0, 0, d, false, false⟩
def mergeStep (out : List Ev) (e : Ev) : List Ev :=
  if e.kind ≠ 0 then out ++ [e]
  else if e.data = [] then out
  else match out.getLast? with
    | some last => if last.kind = 0 then out.dropLast ++ [{ last with data := last.data ++ e.data }] else out ++ [dataEv e.data]
    | none => [dataEv e.data]
def merge (l : List Ev) : List Ev := l.foldl mergeStep []
theorem merge_take (l : List Ev) (i : Nat) (h : i < l.length) : mergeStep (merge (l.take i)) l[i] = merge (l.take (i + 1)) := by
  simp only [merge]
  rw [List.take_succ_eq_append_getElem h, List.foldl_append]; rfl

/-- All bytes of data. -/
def bytesIn (l : List Ev) : Nat := (l.map fun e => e.data.length).sum
theorem mergeStep_size (out : List Ev) (e : Ev) : (mergeStep out e).length ≤ out.length + 1 ∧ bytesIn (mergeStep out e) ≤ bytesIn out + e.data.length := by
  simp only [mergeStep]
  split
  · simp [bytesIn]
  · split
    · simp [bytesIn]
    · split
      · rename_i last hl
        have ho : out = out.dropLast ++ [last] := (by
        have hne : out ≠ [] := fun e => by subst e; simp at hl
        rw [List.getLast?_eq_some_getLast hne] at hl
        simp only [Option.some.injEq] at hl; subst hl; exact (List.dropLast_concat_getLast hne).symm)
        split
        · generalize out.dropLast = init at ho
          subst ho
          simp [bytesIn]; omega
        · simp [bytesIn, dataEv]
      · simp [bytesIn, dataEv]
theorem merge_size (l : List Ev) : (merge l).length ≤ l.length ∧ bytesIn (merge l) ≤ bytesIn l := by
  have key : ∀ (l out : List Ev), (l.foldl mergeStep out).length ≤ out.length + l.length ∧ bytesIn (l.foldl mergeStep out) ≤ bytesIn out + bytesIn l := by
    intro l
    induction l with
    | nil => intro out; simp [bytesIn]
    | cons e l ih =>
      intro out
      have h1 := mergeStep_size out e
      have h2 := ih (mergeStep out e)
      simp only [List.foldl_cons, List.length_cons, bytesIn, List.map_cons, List.sum_cons] at *
      omega
  have := key l []
  simpa [merge, bytesIn] using this
theorem bytesIn_take (l : List Ev) (i : Nat) : bytesIn (l.take i) ≤ bytesIn l := by
  induction l generalizing i with
  | nil => simp
  | cons e l ih =>
    cases i with
    | zero => simp [bytesIn]
    | succ i => have := ih i; simp only [bytesIn, List.take_succ_cons, List.map_cons, List.sum_cons] at *; omega
theorem bytesIn_le {l : List Ev} {e : Ev} (h : e ∈ l) : e.data.length ≤ bytesIn l := by
  induction l with
  | nil => cases h
  | cons x l ih =>
    simp only [bytesIn, List.map_cons, List.sum_cons] at *
    rcases List.mem_cons.1 h with rfl | h
    · omega
    · have := ih h; omega

/-- An event whose data may be appended to. -/
def evO (e : Ev) : AV := .agg [.lit (.int .i64 e.kind), byteA e.verb, byteA e.opt, .list true 1 (bytesA e.data), .lit (.bool e.long), .lit (.bool e.broken)]
def evsO (l : List Ev) : List AV := l.flatMap fun e => (evO e).cells
theorem evsO_length (l : List Ev) : (evsO l).length = l.length * 6 := by
  induction l with
  | nil => rfl
  | cons e l ih => simp only [evsO, List.flatMap_cons, List.length_append, List.length_cons] at *; rw [ih]; simp [evO, AV.cells]; omega
theorem evsO_append (l k : List Ev) : evsO (l ++ k) = evsO l ++ evsO k := by simp [evsO]
theorem evsO_one (e : Ev) : evsO [e] = [.lit (.int .i64 e.kind), byteA e.verb, byteA e.opt, .list true 1 (bytesA e.data), .lit (.bool e.long), .lit (.bool e.broken)] := by simp [evsO, evO]

def rowE (p cap : Nat) (out : List Ev) : AV := if out = [] then .lit (.slice none 0 0) else .lit (.slice (some ⟨p, 0, none⟩) out.length cap)
def storeE (σ : Store) (p : Nat) (out : List Ev) (rest : List AV) : Store := if out = [] then σ else σ.upd p (evsO out ++ rest)

@[simp] theorem rowE_share (p cap : Nat) (out : List Ev) : (rowE p cap out).share = rowE p cap out := by unfold rowE; split <;> rfl
theorem mid_get {X Y : List AV} (j : Nat) : (X ++ Y)[X.length + j]? = Y[j]? := by
  rw [List.getElem?_append_right (by omega)]; congr 1; omega
theorem last_get (init : List Ev) (last : Ev) (rest : List AV) : (evsO (init ++ [last]) ++ rest)[init.length * 6]? = some (.lit (.int .i64 last.kind)) ∧ (evsO (init ++ [last]) ++ rest)[init.length * 6 + 3]? = some (.list true 1 (bytesA last.data)) := by
  rw [evsO_append, evsO_one, List.append_assoc]
  have h0 := mid_get (X := evsO init) (Y := [AV.lit (.int .i64 last.kind), byteA last.verb, byteA last.opt, .list true 1 (bytesA last.data), .lit (.bool last.long), .lit (.bool last.broken)] ++ rest) 0
  have h3 := mid_get (X := evsO init) (Y := [AV.lit (.int .i64 last.kind), byteA last.verb, byteA last.opt, .list true 1 (bytesA last.data), .lit (.bool last.long), .lit (.bool last.broken)] ++ rest) 3
  rw [evsO_length] at h0 h3
  exact ⟨h0, h3⟩
theorem last_set (init : List Ev) (last : Ev) (rest : List AV) (d : List UInt8) : (evsO (init ++ [last]) ++ rest).set (init.length * 6 + 3) (.list true 1 (bytesA d)) = evsO (init ++ [{ last with data := d }]) ++ rest := by
  rw [evsO_append, evsO_append, evsO_one, evsO_one, List.append_assoc, List.append_assoc, List.set_append_right _ _ (by rw [evsO_length]; omega), evsO_length]
  congr 1
  rw [show init.length * 6 + 3 - init.length * 6 = 3 by omega]
  rfl
theorem take_evsO (l : List Ev) (rest : List AV) : (evsO l ++ rest).take (l.length * 6) = evsO l := by
  rw [← evsO_length, List.take_left]

set_option maxRecDepth 4000 in
set_option maxHeartbeats 2000000 in
theorem merge_calls (o : Bool) (l : List Ev) (σ : Store) (hl : l.length ≤ 1000000) (hb : bytesIn l ≤ 1000000) :
    ACalls Try.prog 16 [.list o 6 (evsA l)] σ fun v σ' => v = .list true 6 (evsA (merge l)) ∧ σ' = σ := by
  refine ACalls.shift (R := fun v σ' => ∃ p cap rest, v = rowE p cap (merge l) ∧ σ' = storeE σ p (merge l) rest ∧ (merge l ≠ [] → σ p = none ∧ (evsO (merge l) ++ rest).length = cap * 6 ∧ cap ≤ maxLen)) ?_ ?_
  · refine ACalls.of_awp follows (st := st16) (plans := pl16) (n := 67) Try.func16 rfl (by kernel_rfl) (by kernel_rfl) (by kernel_rfl) ?_
    simp
    refine codeK.loop follows (st := st16) (plans := pl16) (X := Nat × Nat × Nat × List AV) (fun x => x.1 ≤ l.length ∧ (merge (l.take x.1) ≠ [] → σ x.2.1 = none ∧ (evsO (merge (l.take x.1)) ++ x.2.2.2).length = x.2.2.1 * 6 ∧ x.2.2.1 ≤ maxLen))
      (fun x => [(3, rowE x.2.1 x.2.2.1 (merge (l.take x.1))), (7, .list false 6 (evsA l)), (8, .lit (.int .i64 l.length)), (9, .lit (.int .i64 x.1))]) (fun x => storeE σ x.2.1 (merge (l.take x.1)) x.2.2.2) (fun x => l.length - x.1) (0, 0, 0, []) (by kernel_rfl) (by simp [merge]) (by simp [rowE, merge]) (by simp [storeE, merge]) fun x hx => ?_
    obtain ⟨i, p, cap, rest⟩ := x
    obtain ⟨hi, hrow⟩ := hx
    dsimp only at hi hrow ⊢
    by_cases hlt : i < l.length
    · have hms := merge_size (l.take i)
      have hmt := merge_take l i hlt
      have hbi : l[i].data.length ≤ bytesIn l := bytesIn_le (List.getElem_mem hlt)
      have htl : (l.take i).length ≤ i := by simp; omega
      have hbt : bytesIn (l.take i) ≤ bytesIn l := bytesIn_take l i
      have hwr : IntKind.i64.wrap ((i : Int) + 1) = ((i + 1 : Nat) : Int) := wrap_i64 (by omega) (by omega)
      generalize merge (l.take i) = out at *
      rcases List.eq_nil_or_concat out with ho | ⟨init, last, ho⟩
      · subst ho
        by_cases hk : l[i].kind = 0
        · by_cases hd : l[i].data = []
          · have hnew : merge (l.take (i + 1)) = [] := by rw [← hmt]; simp [mergeStep, hk, hd]
            simp [hlt, evsA, evA, byteA, rowE, storeE, hk, hd, bytesA_nil]
            intro q hq
            refine ⟨i + 1, p, cap, rest, ⟨by omega, ?_⟩, by omega, ⟨?_, ?_⟩, ?_⟩
            · rw [hnew]; simp
            · rw [hnew]; simp
            · rw [hwr]; exact AV.le_refl _
            · rw [hnew]; simp; (intro q; simp only [Store.upd, Store.del]; (repeat' split) <;> simp_all)
          · have hnew : merge (l.take (i + 1)) = [dataEv l[i].data] := by rw [← hmt]; simp [mergeStep, hk, hd]
            simp [hlt, evsA, evA, byteA, rowE, storeE, hk, hd]
            intro q hq
            refine callK.of (clone_calls _ _ _ (by omega)) ?_
            rintro v σ' ⟨rfl, rfl⟩
            simp [hk, hd, byteA, rowOf, srcOf, pty, tPart]
            intro q2 hq2 q3 cap3 hq3 h1 h3
            simp only [ite_none] at hq2 hq3
            refine ⟨i + 1, q3, cap3, List.replicate ((cap3 - 1) * 6) .top, ⟨by omega, ?_⟩, by omega, ⟨?_, ?_⟩, ?_⟩
            · rw [hnew]; simp [evsO_one]; exact ⟨hq3.2.2, by omega, h3⟩
            · rw [hnew]; simp
            · rw [hwr]; exact AV.le_refl _
            · rw [hnew]; simp [evsO_one, byteA, dataEv]; (intro q; simp only [Store.upd, Store.del]; (repeat' split) <;> simp_all)
        · have hnew : merge (l.take (i + 1)) = [l[i]] := by rw [← hmt]; simp [mergeStep, hk]
          simp [hlt, evsA, evA, byteA, rowE, storeE, hk]
          intro q hq
          refine callK.of (clone_calls _ _ _ (by omega)) ?_
          rintro v σ' ⟨rfl, rfl⟩
          simp [hk, byteA, rowOf, srcOf]
          intro q2 hq2 q3 cap3 hq3 h1 h3
          simp only [ite_none] at hq2 hq3
          refine ⟨i + 1, q3, cap3, List.replicate ((cap3 - 1) * 6) .top, ⟨by omega, ?_⟩, by omega, ⟨?_, ?_⟩, ?_⟩
          · rw [hnew]; simp [evsO_one]; exact ⟨hq3.2.2, by omega, h3⟩
          · rw [hnew]; simp
          · rw [hwr]; exact AV.le_refl _
          · rw [hnew]; simp [evsO_one, byteA]; (intro q; simp only [Store.upd, Store.del]; (repeat' split) <;> simp_all)
      · have hon : out ≠ [] := by rw [ho]; simp
        obtain ⟨hσp, hlen, hcm⟩ := hrow hon
        have hlen' := hlen
        rw [List.length_append] at hlen'
        have hcm' : cap ≤ 9223372036854775807 := by simpa using hcm
        have hol : out.length ≤ cap := by rw [evsO_length] at hlen'; omega
        have hql : ∀ q (x : List AV), (if q = p then some x else σ q) = none → q ≠ p ∧ p ≠ q ∧ σ q = none := fun q x h => by rw [ite_none] at h; exact ⟨h.1, Ne.symm h.1, h.2⟩
        by_cases hk : l[i].kind = 0
        · by_cases hd : l[i].data = []
          · have hnew : merge (l.take (i + 1)) = out := by rw [← hmt]; simp [mergeStep, hk, hd]
            simp [hlt, evsA, evA, byteA, rowE, storeE, hk, hd, bytesA_nil, hon]
            intro q hq
            obtain ⟨n1, n2, n3⟩ := hql _ _ hq
            refine ⟨i + 1, p, cap, rest, ⟨by omega, ?_⟩, by omega, ⟨?_, ?_⟩, ?_⟩
            · rw [hnew]; exact fun _ => ⟨hσp, hlen', hcm'⟩
            · rw [hnew]; simp [hon]
            · rw [hwr]; exact AV.le_refl _
            · rw [hnew]; simp [hon]; (intro q; simp only [Store.upd, Store.del]; (repeat' split) <;> simp_all)
          · have hlast : out.getLast? = some last := by rw [ho]; simp
            have hn1 : IntKind.i64.wrap ((out.length : Int) - 1) = (init.length : Int) := by
              have : out.length = init.length + 1 := by rw [ho]; simp
              rw [this, wrap_i64 (by omega) (by omega)]; omega
            have hpos : 0 < out.length := by rw [ho]; simp
            have hil : init.length < out.length := by rw [ho]; simp
            have ho' : out = init ++ [last] := by rw [ho]; simp
            obtain ⟨g0, g3⟩ : (evsO out ++ rest)[init.length * 6]? = some (.lit (.int .i64 last.kind)) ∧ (evsO out ++ rest)[init.length * 6 + 3]? = some (.list true 1 (bytesA last.data)) := by rw [ho']; exact last_get ..
            have hlb : init.length * 6 + 3 < (evsO out ++ rest).length := (List.getElem?_eq_some_iff.1 g3).1
            have hld : last.data.length ≤ 1000000 := by
              have := bytesIn_le (l := out) (e := last) (by rw [ho']; simp)
              omega
            simp [hlt, evsA, evA, byteA, rowE, storeE, hk, hd, hon, hn1, hpos, hil]
            intro q hq
            obtain ⟨n1, n2, n3⟩ := hql _ _ hq
            by_cases hk2 : last.kind = 0
            · have hnew : merge (l.take (i + 1)) = init ++ [{ last with data := last.data ++ l[i].data }] := by rw [← hmt]; simp [mergeStep, hk, hd, hlast, hk2, ho]
              simp [n1, n2, g0, g3, hk2, hn1, hil, hpos]
              refine ⟨by omega, by omega, by rw [← List.length_append]; exact hlb, i + 1, p, cap, rest, ⟨by omega, ?_⟩, by omega, ⟨?_, ?_⟩, ?_⟩
              · rw [hnew]
                have : out.length = init.length + 1 := by rw [ho']; simp
                rw [evsO_length] at hlen'
                simp [evsO_length]; exact ⟨hσp, by omega, hcm'⟩
              · rw [hnew]; simp [ho']
              · rw [hwr]; exact AV.le_refl _
              · rw [hnew, if_neg (by simp)]
                have := last_set init last rest (last.data ++ l[i].data)
                rw [← ho', bytesA_append] at this
                rw [this]; (intro q; simp only [Store.upd, Store.del]; (repeat' split) <;> simp_all)
            · have hnew : merge (l.take (i + 1)) = out ++ [dataEv l[i].data] := by rw [← hmt]; simp [mergeStep, hk, hd, hlast, hk2]
              simp [n1, n2, g0, hk2, hn1, hil, hpos]
              refine callK.of (clone_calls _ _ _ (by omega)) ?_
              rintro v σ' ⟨rfl, rfl⟩
              simp [pty, tPart, n1, n2]
              intro q2 hq2
              simp only [ite_none] at hq2
              obtain ⟨m2, m3, m4⟩ := hq2
              simp [n1, n2, m2, m3, Ne.symm m2, Ne.symm m3, rowOf, srcOf, hlen', hol, hcm', take_evsO]
              refine ⟨by omega, by omega, fun q3 cap3 hq3 h1 h3 => ?_⟩
              have hf : σ q3 = none ∧ q3 ≠ q ∧ q3 ≠ q2 := by
                rcases hq3 with rfl | h
                · exact ⟨hσp, n2, Ne.symm m3⟩
                · simp only [ite_none] at h; exact ⟨h.2.2.2, h.2.1, h.1⟩
              obtain ⟨f1, f2, f3⟩ := hf
              refine ⟨i + 1, q3, cap3, List.replicate ((cap3 - (out.length + 1)) * 6) .top, ⟨by omega, ?_⟩, by omega, ⟨?_, ?_⟩, ?_⟩
              · rw [hnew]; simp [evsO_append, evsO_one, evsO_length]; exact ⟨f1, by omega, h3⟩
              · rw [hnew]; simp
              · rw [hwr]; exact AV.le_refl _
              · rw [hnew]; simp [evsO_append, evsO_one, byteA, dataEv]; (intro q; simp only [Store.upd, Store.del]; (repeat' split) <;> simp_all)
        · have hnew : merge (l.take (i + 1)) = out ++ [l[i]] := by rw [← hmt]; simp [mergeStep, hk]
          simp [hlt, evsA, evA, byteA, rowE, storeE, hk, hon]
          intro q hq
          obtain ⟨n1, n2, n3⟩ := hql _ _ hq
          refine callK.of (clone_calls _ _ _ (by omega)) ?_
          rintro v σ' ⟨rfl, rfl⟩
          simp [hk, byteA, n1, n2]
          intro q2 hq2
          simp only [ite_none] at hq2
          obtain ⟨m1, m2, m3, m4⟩ := hq2
          simp [hk, byteA, n1, n2, m1, m2, m3, Ne.symm m2, Ne.symm m3, rowOf, srcOf, hlen', hol, hcm', take_evsO]
          refine ⟨by omega, by omega, fun q3 cap3 hq3 h1 h3 => ?_⟩
          have hf : σ q3 = none ∧ q3 ≠ q ∧ q3 ≠ q2 := by
            rcases hq3 with rfl | h
            · exact ⟨hσp, n2, Ne.symm m3⟩
            · simp only [ite_none] at h; exact ⟨h.2.2.2, h.2.1, h.1⟩
          obtain ⟨f1, f2, f3⟩ := hf
          refine ⟨i + 1, q3, cap3, List.replicate ((cap3 - (out.length + 1)) * 6) .top, ⟨by omega, ?_⟩, by omega, ⟨?_, ?_⟩, ?_⟩
          · rw [hnew]; simp [evsO_append, evsO_one, evsO_length]; exact ⟨f1, by omega, h3⟩
          · rw [hnew]; simp
          · rw [hwr]; exact AV.le_refl _
          · rw [hnew]; simp [evsO_append, evsO_one, byteA, dataEv]; (intro q; simp only [Store.upd, Store.del]; (repeat' split) <;> simp_all)
    · obtain rfl : i = l.length := by omega
      simp
      exact ⟨_, AV.le_refl _, _, Store.sub_refl _, p, cap, rfl, rest, rfl, by simpa using hrow⟩
  · rintro v σ' ⟨p, cap, rest, rfl, rfl, hr⟩
    by_cases ho : merge l = []
    · exact .inl ⟨.list true 6 [], σ, by rw [rowE, if_pos ho]; exact AV.le_nil _ _, by rw [storeE, if_pos ho]; exact Store.sub_refl _, by rw [ho]; exact ⟨rfl, rfl⟩⟩
    · obtain ⟨h1, h2, h3⟩ := hr ho
      have hfl : ∀ l : List Ev, flat (l.map evO) = evsO l := fun l => by
        induction l with
        | nil => rfl
        | cons e l ih => simp only [flat, evsO, List.map_cons, List.flatMap_cons] at ih ⊢; rw [ih]
      have hle : ∀ l : List Ev, AllLe1 (evsO l) (flat (evsA l)) := fun l => by
        induction l with
        | nil => trivial
        | cons e l ih =>
          rw [show evsO (e :: l) = evsO [e] ++ evsO l from by rw [← evsO_append]; rfl, show flat (evsA (e :: l)) = flat (evsA [e]) ++ flat (evsA l) by simp [flat, evsA]]
          refine AllLe1.append ?_ ih
          rw [evsO_one]
          simp [flat, evsA, evA]
      rw [List.length_append, evsO_length] at h2
      refine .inr ⟨p, cap, 6, (merge l).map evO, rest, by rw [rowE, if_neg ho]; simp, by rw [storeE, if_neg ho, hfl]; simp [Store.upd], by rw [hfl]; simp [evsO_length]; omega, h3, by simp; omega, ?_, .list true 6 (evsA (merge l)), ?_, ?_⟩
      · intro v hv
        obtain ⟨e, _, rfl⟩ := List.mem_map.1 hv
        rfl
      · refine AV.le_els (by simp) ?_ (by rw [hfl]; exact hle _)
        intro v hv
        obtain ⟨e, _, rfl⟩ := List.mem_map.1 hv
        rfl
      · refine ⟨rfl, ?_⟩
        rw [storeE, if_neg ho]
        funext q
        simp only [Store.del, Store.upd]
        split
        · rename_i hq; rw [hq, h1]
        · rfl
end Go.Proofs.Ytkfhpnfgnjmdbaa
