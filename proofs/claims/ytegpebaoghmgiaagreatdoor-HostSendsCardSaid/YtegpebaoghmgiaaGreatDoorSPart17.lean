/-
  HostSends: the events of a stream, one by one; its records, one by one.
-/
import Derived.Test.YtegpebaoghmgiaaGreatDoorSPart16
set_option linter.unusedSimpArgs false
set_option linter.unusedVariables false
namespace Go.Proofs.YtegpebaoghmgiaaGreatDoor
open Go Go.AL

theorem fed_len (p : List UInt8) : (Rd.init.fed p).length ≤ 4 * p.length + 1 := by
  have h1 := feed_len Rd.init p
  have h2 := flush_len (Rd.init.feed p)
  have h3 : Rd.init.out.length = 0 := rfl
  unfold Rd.fed; omega
@[simp] theorem evA_share (e : Ev) : (evA e).share = evA e := nr rfl
set_option maxRecDepth 8000 in
set_option maxHeartbeats 1000000 in
theorem ev_iter (p : List UInt8) (hp : p.length ≤ 100000) (b : Nat) (o : Bool) (σ : Store) (hb : σ b = some [.list o 1 (bytesA p)]) :
    Iter Tryz.prog 61 [ptrA b] σ ((Rd.init.fed p).map fun e => [evA e]) := by
  intro X l I J hy τ E h0 hs
  have hlen : (Rd.init.fed p).length ≤ 1000000 := by have := fed_len p; omega
  have hfeed := fun (r : Nat) (hr : σ r = none) => feed_calls false r .init p (σ.upd r (rdA .init)) (by simp) (by decide) (by decide) (by decide) (by omega)
  generalize hL : Rd.init.fed p = L at *
  have hy' : ∀ (k : Nat) (h : k < L.length) (τ : Store) (E : Env X), I k τ E → AYields Tryz.prog l [evA L[k]] τ E fun b τ' E' => if b = true then I (k + 1) τ' E' else J τ' E' := by
    intro k h τ E hI
    have := hy k (by simpa using h) τ E hI
    rwa [List.getElem_map] at this
  refine ACallsY.of_awp follows (st := st61) (plans := pl61) (n := 18) Tryz.func61 rfl (by kernel_rfl) (by kernel_rfl) (by kernel_rfl) ?_
  simp [hb]
  refine ⟨?_, ?_⟩ <;>
  · refine callK.of (new_calls σ) ?_
    rintro v σ' ⟨r, hr, rfl, rfl⟩
    have hbr : ¬ b = r := fun e => by subst e; rw [hb] at hr; cases hr
    have hτr : τ r = none := by
      rcases hs r with h | h
      · exact h
      · rw [h, hr]
    simp [hb, hbr]
    refine callK.of (hfeed r hr) ?_
    rintro v σ' ⟨rfl, rfl⟩
    simp
    refine codeYK.loop follows (st := st61) (plans := pl61) (S := Nat × Store) (fun x => x.1 ≤ L.length)
      (fun x => [(0, .func (.yield l) [] []), (7, .list true 6 (evsA L)), (8, .lit (.int .i64 L.length)), (9, .lit (.int .i64 x.1))]) (fun x => x.2) (fun x E => I x.1 x.2 E) (fun x => L.length - x.1) (0, τ) (by kernel_rfl) (by simp) (by simp) ?_ h0 ?_
    · dsimp only
      exact Store.sub_trans hs (sub_upd_self _ _ _ hr)
    rintro ⟨k, τ1⟩ E1 hk hI
    dsimp only at hk hI ⊢
    by_cases hlt : k < L.length
    · have hyk := hy' k hlt τ1 E1 hI
      obtain ⟨e, he⟩ : ∃ e, L[k] = e := ⟨_, rfl⟩
      have hg : ∀ q : k < (evsA L).length, (evsA L)[k]'q = evA e := fun q => by simp [evsA, he]
      rw [he] at hyk
      have hlt' : (k : Int) < L.length := by omega
      simp only [evA, byteA_lit] at hg hyk
      simp [hlt, hlt', hg]
      intro q hq
      refine yieldK.of (by simp) hyk (sub_upd_self _ _ _ hq) ?_
      intro b2 τ' E' hR hap
      cases b2
      · simp
        exact ⟨⟨_, AV.le_refl _⟩, _, Store.sub_over _ _ _, τ', Store.sub_refl _, .inr (by simpa using hR)⟩
      · simp
        refine ⟨k + 1, by omega, by omega, ?_, τ', Store.sub_over _ _ _, by simpa using hR⟩
        rw [wrap_i64 (by omega) (by omega)]; exact le_of_eq rfl
    · obtain rfl : k = L.length := by omega
      simp
      exact ⟨⟨_, AV.le_refl _⟩, _, Store.sub_refl _, τ1, Store.sub_refl _, .inl hI⟩
set_option maxRecDepth 8000 in
theorem events_calls (o : Bool) (p : List UInt8) (σ : Store) :
    ACalls Tryz.prog 47 [.list o 1 (bytesA p)] σ fun v σ' => ∃ b : Nat, σ b = none ∧ v = .func (.func 61) [] [ptrA b] ∧ σ' = σ.upd b [.list o 1 (bytesA p)] := by
  refine ACalls.of_awp follows (st := st47) (plans := pl47) (n := 4) Tryz.func47 rfl (by kernel_rfl) (by kernel_rfl) (by kernel_rfl) ?_
  simp
  exact fun b hb => ⟨_, AV.le_refl _, _, Store.sub_refl _, b, hb, rfl, rfl⟩
/-! ### Records -/
def recStep (s : List (List UInt8) × List UInt8) (e : Ev) : List (List UInt8) × List UInt8 :=
  if e.kind = 0 then (s.1, s.2 ++ e.data) else if e.kind = 1 ∧ e.verb = 239 then (s.1 ++ [s.2], []) else s
theorem recs_wire (ds : List (List UInt8)) : ∀ a, (recEvs ds).foldl recStep (a, []) = (a ++ ds, []) := by
  induction ds with
  | nil => intro a; simp [recEvs]
  | cons d ds ih =>
    intro a
    have e2 : recEvs (d :: ds) = recEvs1 d ++ recEvs ds := rfl
    have e3 : (recEvs1 d).foldl recStep (a, []) = (a ++ [d], []) := by
      unfold recEvs1
      split
      · simp [recStep, dataEv, eorEv]
      · rename_i h
        have : d = [] := List.eq_nil_of_length_eq_zero (by omega)
        subst this
        simp [recStep, eorEv]
    rw [e2, List.foldl_append, e3, ih]
    simp
theorem bytesIn_takes (l : List Ev) (i : Nat) : bytesIn (l.take i) ≤ bytesIn l := by
  induction l generalizing i with
  | nil => simp
  | cons e l ih =>
    cases i with
    | zero => simp [bytesIn]
    | succ i => have := ih i; simp only [bytesIn, List.take_succ_cons, List.map_cons, List.sum_cons] at *; omega
theorem recs_sizes (l : List Ev) : ∀ s, (l.foldl recStep s).2.length ≤ s.2.length + bytesIn l := by
  induction l with
  | nil => intro s; simp
  | cons e l ih =>
    intro s
    have h := ih (recStep s e)
    have hb : bytesIn (e :: l) = e.data.length + bytesIn l := by simp [bytesIn]
    simp only [List.foldl_cons, hb]
    have h1 : (recStep s e).2.length ≤ s.2.length + e.data.length := by
      unfold recStep
      split
      · simp
      · split <;> simp
    omega
theorem recStep_takes (E : List Ev) (i : Nat) (h : i < E.length) (s : List (List UInt8) × List UInt8) : (E.take (i + 1)).foldl recStep s = recStep ((E.take i).foldl recStep s) E[i] := by
  rw [List.take_succ_eq_append_getElem h, List.foldl_append]; rfl
/-- What was told stays. -/
theorem recs_pre (l : List Ev) : ∀ s, ∃ t, (l.foldl recStep s).1 = s.1 ++ t := by
  induction l with
  | nil => intro s; exact ⟨[], by simp⟩
  | cons e l ih =>
    intro s
    obtain ⟨t, ht⟩ := ih (recStep s e)
    simp only [List.foldl_cons, ht]
    unfold recStep
    split
    · exact ⟨t, rfl⟩
    split
    · exact ⟨[s.2] ++ t, by simp⟩
    · exact ⟨t, rfl⟩
theorem recs_each (l : List Ev) : ∀ s, ∀ d ∈ (l.foldl recStep s).1, d ∈ s.1 ∨ d.length ≤ s.2.length + bytesIn l := by
  induction l with
  | nil => intro s d hd; exact .inl hd
  | cons e l ih =>
    intro s d hd
    have hb : bytesIn (e :: l) = e.data.length + bytesIn l := by simp [bytesIn]
    have h := ih (recStep s e) d hd
    rw [hb]
    unfold recStep at h
    split at h
    · rcases h with h | h
      · exact .inl h
      · right; simp at h; omega
    split at h
    · rcases h with h | h
      · rcases List.mem_append.1 h with h | h
        · exact .inl h
        · right; simp at h; subst h; omega
      · right; simp at h; omega
    · rcases h with h | h
      · exact .inl h
      · right; omega
def recsOf (E : List Ev) : List (List UInt8) := (E.foldl recStep ([], [])).1
def recA (d : List UInt8) : AV := .agg [.list false 1 (bytesA d), .lit (.bool false)]
structure Bes (τ ρ : Store) (m : Nat) (cs : List AV) : Prop where
  m0 : τ m = none
  eq : ρ = τ.upd m cs
theorem Bes.sub {τ ρ : Store} {m : Nat} {cs : List AV} (h : Bes τ ρ m cs) : Store.sub τ ρ := by
  rw [h.eq]; exact sub_upd_self _ _ _ h.m0
/-- Behind a round. -/
theorem Bes.next {τ τ' cur : Store} {m : Nat} {cs : List AV} (hm : τ m = none) (hc : cur m = some cs) (hap : Apart τ' τ cur) : ∃ ρ', Store.sub ρ' (Store.over τ' τ cur) ∧ Bes τ' ρ' m cs := by
  have d1 := hap m hm (by rw [hc]; simp)
  refine ⟨τ'.upd m cs, Store.sub2 (fun o => ?_) (fun i => by simpa using Store.sub_over τ' τ cur (mkey i)), ⟨d1, rfl⟩⟩
  by_cases h1 : o = m
  · subst h1; right; simp [Store.over, d1, hm, hc]
  · simp only [supd_apply, if_neg h1]
    exact Store.sub_over τ' τ cur o
@[simp] def st45x : List Nat := [5000002, 4000027, 5000003, 4000013, 4000028, 5000004, 4000011, 4000015, 4000023]
set_option maxRecDepth 8000 in
set_option maxHeartbeats 2000000 in
theorem rec_iter (p : List UInt8) (hp : p.length ≤ 100000) (hE : bytesIn (Rd.init.fed p) ≤ 8000) (b : Nat) (o : Bool) (σ : Store) (hb : σ b = some [.list o 1 (bytesA p)]) :
    Iter Tryz.prog 45 [ptrA b] σ ((recsOf (Rd.init.fed p)).map fun d => [recA d]) := by
  intro X l I J hy τ E h0 hs
  have hit := fun (b' : Nat) σ' hb' => ev_iter p hp b' false σ' hb'
  have hlen : (Rd.init.fed p).length ≤ 1000000 := by have := fed_len p; omega
  have hev := fun τ => events_calls false p τ
  generalize hL : Rd.init.fed p = L at *
  refine ACallsY.of_awp follows (st := st45x) (plans := pl45) (n := 33) Tryz.func45 rfl (by kernel_rfl) (by kernel_rfl) (by kernel_rfl) ?_
  simp [hb]
  refine callK.of (mnew_calls _) ?_
  rintro v σ1 ⟨mm, hmm, rfl, rfl⟩
  have hbm : ¬ b = mm := fun e => by subst e; rw [hb] at hmm; cases hmm
  have tn : ∀ o : Nat, σ o = none → τ o = none := fun o ho => by
    rcases hs o with h | h
    · exact h
    · rw [h, ho]
  simp [hb, hbm]
  intro q3 hq3
  have hbq3 : ¬ b = q3 := fun e => by
    subst e
    rw [if_neg hbm, hb] at hq3; cases hq3
  rw [del_upd_new (p := q3) (by rw [supd_apply]; exact hq3)]
  simp [hbq3, hb, hbm]
  clear hq3 hbq3
  refine callK.of (hev _) ?_
  rintro v σ1 ⟨b2, hb2, rfl, rfl⟩
  rw [supd_apply, ite_none] at hb2
  obtain ⟨hb2m, hb2⟩ := hb2
  simp
  refine codeYK.range follows (st := st45x) (plans := pl45) (hit b2 _ (by simp)) (by simp) (by simp) (by simp) (by kernel_rfl) (by kernel_rfl) (by kernel_rfl)
    (fun k ρ E => k ≤ L.length ∧ ∃ τ, I ((L.take k).foldl recStep ([], [])).1.length τ E ∧ Bes τ ρ mm (mkA ((L.take k).foldl recStep ([], [])).2 false)) (fun c ρ E => c = .ret ∧ ∃ τ, J τ E ∧ Store.sub τ ρ)
    _ ⟨Nat.zero_le _, τ, h0, tn _ hmm, rfl⟩ ?_ ?_ ?_ ?_
  · refine Store.sub2 (fun x => ?_) (fun g => by simpa using hs (mkey g))
    simp only [supd_apply]
    by_cases e1 : x = mm
    · subst e1
      right
      rw [if_pos rfl, if_neg (fun e => hb2m e.symm), if_pos rfl]; rfl
    · rw [if_neg e1]
      by_cases e2 : x = b2
      · left; rw [e2]; exact tn _ hb2
      · rw [if_neg e2, if_neg e1]; exact hs x
  · rintro k hk ρ E ⟨hk0, τ1, hI, hB⟩
    have hk' : k < L.length := by simpa using hk
    obtain ⟨e, he⟩ : ∃ e, L[k] = e := ⟨_, rfl⟩
    have hst := recStep_takes L k hk' ([], [])
    have hsz := recs_sizes (L.take k) ([], [])
    have hbt := bytesIn_takes L k
    have hbt2 := bytesIn_takes L (k + 1)
    have hbe : bytesIn (L.take (k + 1)) = bytesIn (L.take k) + e.data.length := by
      rw [List.take_succ_eq_append_getElem hk', he, bytesIn_append]; simp [bytesIn]
    obtain ⟨t, ht⟩ := recs_pre (L.drop (k + 1)) ((L.take (k + 1)).foldl recStep ([], []))
    rw [← List.foldl_append, List.take_append_drop] at ht
    have hR0 : recsOf L = ((L.take (k + 1)).foldl recStep ([], [])).1 ++ t := ht
    rw [he] at hst
    have hge : ∀ q : k < ((L.map fun e => [evA e])).length, ((L.map fun e => [evA e]))[k]'q = [evA e] := fun q => by simp [he]
    rw [hge]
    generalize hS : (L.take k).foldl recStep ([], []) = S at *
    obtain ⟨done, buf⟩ := S
    dsimp only at hsz hI hB
    have hρm : ρ mm = some (mkA buf false) := by rw [hB.eq]; simp
    have hadd := fun τ' (h : τ' mm = some (mkA buf false)) => madd_calls mm buf false e.data (by simp at hsz; omega) τ' h
    have hend := fun τ' (h : τ' mm = some (mkA buf false)) => mend_calls mm buf false τ' h
    by_cases hk0 : e.kind = 0
    · have hst' : (L.take (k + 1)).foldl recStep ([], []) = (done, buf ++ e.data) := by rw [hst]; unfold recStep; rw [if_pos hk0]
      rw [hst']
      obtain ⟨ek, ev, eo, ed, el, ebr⟩ := e
      dsimp only at hk0 hadd
      subst hk0
      simp [evA, byteA]
      intro y hy0
      rw [del_upd_new hy0]
      refine callK.of (hadd _ hρm) ?_
      rintro v σ3 ⟨rfl, rfl⟩
      simp
      exact ⟨_, Store.sub_refl _, hk', τ1, hI, hB.m0, by rw [hB.eq, supd_supd]⟩
    · by_cases hk1 : e.kind = 1 ∧ e.verb = 239
      · have hst' : (L.take (k + 1)).foldl recStep ([], []) = (done ++ [buf], []) := by rw [hst]; unfold recStep; rw [if_neg hk0, if_pos hk1]
        rw [hst'] at hR0 ⊢
        have hdl : done.length < ((recsOf L).map fun d => [recA d]).length := by rw [hR0]; simp
        have hyk := hy done.length hdl τ1 E hI
        have hyx : ((recsOf L).map fun d => [recA d])[done.length] = [recA buf] := by
          rw [List.getElem_map]
          congr 2
          simp [hR0]
        rw [hyx] at hyk
        obtain ⟨ek, ev, eo, ed, el, ebr⟩ := e
        dsimp only at hk1 hadd
        obtain ⟨rfl, rfl⟩ := hk1
        simp only [recA] at hyk
        simp [evA, byteA]
        intro y hy0
        rw [del_upd_new hy0]
        have hcm : (ρ.upd mm (mkA [] false)) mm = some (mkA [] false) := by simp
        have hsub : Store.sub τ1 (ρ.upd mm (mkA [] false)) := by rw [hB.eq, supd_supd]; exact sub_upd_self _ _ _ hB.m0
        repeat' with_reducible apply And.intro
        all_goals
          refine callK.of (hend _ hρm) ?_
          rintro v σ3 ⟨rfl, rfl⟩
          simp
          refine yieldK.of (by simp) hyk hsub ?_
          intro b3 τ' E' hR hap
          cases b3
          · simp
            exact ⟨_, Store.sub_refl _, τ', by simpa using hR, Store.sub_over _ _ _⟩
          · simp
            obtain ⟨ρ', h1, h2⟩ := Bes.next hB.m0 hcm hap
            exact ⟨ρ', h1, hk', τ', by simpa using hR, h2⟩
      · have hst' : (L.take (k + 1)).foldl recStep ([], []) = (done, buf) := by rw [hst]; unfold recStep; rw [if_neg hk0, if_neg hk1]
        rw [hst']
        obtain ⟨ek, ev, eo, ed, el, ebr⟩ := e
        dsimp only at hk0 hk1 hadd
        have hfin : ∀ X (y : Nat), ρ y = none → ∃ τ : Store, τ.sub ((ρ.upd y X).del y) ∧ k + 1 ≤ L.length ∧ ∃ τ_1, I done.length τ_1 E ∧ Bes τ_1 τ mm (mkA buf false) := fun X y hy0 => ⟨_, by rw [del_upd_new hy0]; exact Store.sub_refl _, hk', τ1, hI, hB⟩
        by_cases hk2 : ek = 1
        · have hv : ¬ (ev.toNat : Int) = 239 := fun h => hk1 ⟨hk2, UInt8.toNat_inj.1 (by show ev.toNat = 239; omega)⟩
          subst hk2
          simp [evA, byteA, hv]
          exact fun y hy0 => hfin _ y hy0
        · have hk0' : ¬ (ek : Int) = 0 := by omega
          have hk2' : ¬ (ek : Int) = 1 := by omega
          simp [evA, byteA, hk0, hk2, hk0', hk2']
          exact fun y hy0 => hfin _ y hy0
  · rintro ρ E2 σ2 hs2 ⟨_, τ1, hI, hB⟩
    rw [List.length_map, List.take_of_length_le (Nat.le_refl _)] at hI hB
    simp
    exact ⟨⟨_, AV.le_refl _⟩, _, Store.sub_refl _, τ1, Store.sub_trans hB.sub hs2, .inl hI⟩
  · rintro c ρ E2 σ2 hs2 ⟨rfl, τ1, hJ, hsub⟩
    simp
    exact ⟨⟨_, AV.le_refl _⟩, _, Store.sub_refl _, τ1, Store.sub_trans hsub hs2, .inr hJ⟩
set_option maxRecDepth 8000 in
theorem records_calls (o : Bool) (p : List UInt8) (σ : Store) :
    ACalls Tryz.prog 35 [.list o 1 (bytesA p)] σ fun v σ' => ∃ b : Nat, σ b = none ∧ v = .func (.func 45) [] [ptrA b] ∧ σ' = σ.upd b [.list o 1 (bytesA p)] := by
  refine ACalls.of_awp follows (st := st35) (plans := pl35) (n := 4) Tryz.func35 rfl (by kernel_rfl) (by kernel_rfl) (by kernel_rfl) ?_
  simp
  exact fun b hb => ⟨_, AV.le_refl _, _, Store.sub_refl _, b, hb, rfl, rfl⟩
/-- A record, with its header. -/
structure Pc where
  hd : Hd
  headed : Bool
  data : List UInt8
def pcA (x : Pc) : AV := .agg (hdL x.hd ++ [.lit (.bool x.headed), .list false 1 (bytesA x.data)])
def pieceF (x : Bool) (p : List UInt8) : Pc := if x = true then (match parseF p with | some (h, r) => ⟨h, true, r⟩ | none => ⟨.zero, false, p⟩) else ⟨.zero, false, p⟩
set_option maxRecDepth 8000 in
set_option maxHeartbeats 1000000 in
theorem piece_calls (x o : Bool) (p : List UInt8) (hp : p.length ≤ 1000000) (σ : Store) : ACalls Tryz.prog 36 [.list o 1 (bytesA p), .lit (.bool x)] σ fun v σ' => v = pcA (pieceF x p) ∧ σ' = σ := by
  have hpa := fun τ => parse_calls false p hp τ
  have hz : Hd.zero = ⟨0, 0, 0, 0⟩ := rfl
  cases x with
  | false =>
    refine ACalls.of_awp follows (st := st36) (plans := pl36) (n := 22) Tryz.func36 rfl (by kernel_rfl) (by kernel_rfl) (by kernel_rfl) ?_
    simp
    exact fun y hy => ⟨AV.le_refl _, sub_upd_self _ _ _ hy⟩
  | true =>
    unfold ParseR at hpa
    cases hq : parseF p with
    | none =>
      have he : pieceF true p = ⟨.zero, false, p⟩ := by unfold pieceF; rw [if_pos rfl, hq]
      rw [he]
      simp only [hq] at hpa
      refine ACalls.of_awp follows (st := st36) (plans := pl36) (n := 22) Tryz.func36 rfl (by kernel_rfl) (by kernel_rfl) (by kernel_rfl) ?_
      simp
      intro y hy
      refine callK.of (hpa _) ?_
      rintro v σ1 ⟨rfl, k, hk, rfl⟩
      simp [hz, hdL, byteA, hk]
      intro y2 hy2
      rw [ite_none] at hy2
      obtain ⟨n1, hy2⟩ := hy2
      have n2 : ¬ y = y2 := fun e => n1 e.symm
      simp [n1, n2]
      exact ⟨AV.le_refl _, by (intro q; simp only [Store.upd, Store.del]; (repeat' split) <;> first | exact Or.inr rfl | exact Or.inl rfl | (exfalso; omega) | (left; subst_vars; assumption) | simp_all)⟩
    | some w =>
      obtain ⟨h, r⟩ := w
      have he : pieceF true p = ⟨h, true, r⟩ := by unfold pieceF; rw [if_pos rfl, hq]
      rw [he]
      simp only [hq] at hpa
      obtain ⟨ty, req, resp, seq⟩ := h
      refine ACalls.of_awp follows (st := st36) (plans := pl36) (n := 22) Tryz.func36 rfl (by kernel_rfl) (by kernel_rfl) (by kernel_rfl) ?_
      simp
      intro y hy
      refine callK.of (hpa _) ?_
      rintro v σ1 ⟨rfl, rfl⟩
      simp [hdL, byteA]
      intro y2 hy2
      rw [ite_none] at hy2
      obtain ⟨n1, hy2⟩ := hy2
      have n2 : ¬ y = y2 := fun e => n1 e.symm
      simp [n1, n2]
      exact ⟨AV.le_refl _, by (intro q; simp only [Store.upd, Store.del]; (repeat' split) <;> first | exact Or.inr rfl | exact Or.inl rfl | (exfalso; omega) | (left; subst_vars; assumption) | simp_all)⟩
@[simp] def st34x : List Nat := [5000003, 4000012, 5000004, 4000009, 4000014, 4000015]
set_option maxRecDepth 8000 in
set_option maxHeartbeats 2000000 in
theorem pieces_iter (p : List UInt8) (hp : p.length ≤ 100000) (hE : bytesIn (Rd.init.fed p) ≤ 8000) (x : Bool) (σ : Store) :
    Iter Tryz.prog 34 [.fptr [.list false 1 (bytesA p)], .fptr [.lit (.bool x)]] σ ((recsOf (Rd.init.fed p)).map fun d => [pcA (pieceF x d)]) := by
  intro X l I J hy τ E h0 hs
  have hit := fun (b' : Nat) σ' hb' => rec_iter p hp hE b' false σ' hb'
  have hrs := fun τ => records_calls false p τ
  have hsz : ∀ d ∈ recsOf (Rd.init.fed p), d.length ≤ 1000000 := fun d hd => by
    rcases recs_each _ _ d hd with h | h
    · cases h
    · simp at h; omega
  generalize hU : recsOf (Rd.init.fed p) = U at *
  refine ACallsY.of_awp follows (st := st34x) (plans := pl34) (n := 20) Tryz.func34 rfl (by kernel_rfl) (by kernel_rfl) (by kernel_rfl) ?_
  simp
  refine callK.of (hrs _) ?_
  rintro v σ1 ⟨b2, hb2, rfl, rfl⟩
  simp
  refine codeYK.range follows (st := st34x) (plans := pl34) (hit b2 _ (by simp)) (by simp) (by simp) (by simp) (by kernel_rfl) (by kernel_rfl) (by kernel_rfl)
    (fun k ρ E => I k ρ E) (fun c ρ E => c = .ret ∧ J ρ E) τ h0 (Store.sub_trans hs (sub_upd_self _ _ _ hb2)) ?_ ?_ ?_
  · intro k hk ρ E hI
    have hk' : k < U.length := by simpa using hk
    obtain ⟨d, hd⟩ : ∃ d, U[k] = d := ⟨_, rfl⟩
    have hpc := fun τ => piece_calls x false d (hsz d (by rw [← hd]; exact List.getElem_mem ..)) τ
    have hyk := hy k (by simpa using hk') ρ E hI
    have e1 : (U.map fun d => [recA d])[k] = [recA d] := by rw [List.getElem_map, hd]
    have e2 : (U.map fun d => [pcA (pieceF x d)])[k]'(by simpa using hk') = [pcA (pieceF x d)] := by rw [List.getElem_map, hd]
    rw [e2] at hyk
    rw [e1]
    generalize pieceF x d = w at *
    obtain ⟨⟨ty, req, resp, seq⟩, xh, xd⟩ := w
    simp only [pcA, hdL, byteA_lit, List.cons_append, List.nil_append] at hpc hyk
    simp [recA]
    intro y hy0
    rw [del_upd_new hy0]
    repeat' with_reducible apply And.intro
    all_goals
      refine callK.of (hpc _) ?_
      rintro v σ3 ⟨rfl, rfl⟩
      simp
      refine yieldK.of (by simp) hyk (Store.sub_refl _) ?_
      intro b3 τ' E' hR hap
      cases b3
      · simp
        exact ⟨τ', Store.sub_over _ _ _, by simpa using hR⟩
      · simp
        exact ⟨τ', Store.sub_over _ _ _, by simpa using hR⟩
  · rintro ρ E2 σ2 hs2 hI
    rw [List.length_map] at hI
    simp
    exact ⟨⟨_, AV.le_refl _⟩, _, Store.sub_refl _, ρ, hs2, .inl hI⟩
  · rintro c ρ E2 σ2 hs2 ⟨rfl, hJ⟩
    simp
    exact ⟨⟨_, AV.le_refl _⟩, _, Store.sub_refl _, ρ, hs2, .inr hJ⟩
@[simp] def st25x : List Nat := [5000002, 5000003]
set_option maxRecDepth 8000 in
theorem seq_calls (o x : Bool) (p : List UInt8) (σ : Store) :
    ACalls Tryz.prog 25 [.list o 1 (bytesA p), .lit (.bool x)] σ fun v σ' => v = .func (.func 34) [] [.fptr [.list false 1 (bytesA p)], .fptr [.lit (.bool x)]] ∧ σ' = σ := by
  refine ACalls.of_awp follows (st := st25x) (plans := pl25) (n := 6) Tryz.func25 rfl (by kernel_rfl) (by kernel_rfl) (by kernel_rfl) ?_
  simp
def pcsA (l : List Pc) : List AV := l.map pcA
@[simp] theorem pcsA_length (l : List Pc) : (pcsA l).length = l.length := by simp [pcsA]
theorem pcsA_append (a b : List Pc) : pcsA (a ++ b) = pcsA a ++ pcsA b := by simp [pcsA]
@[simp] def st14x : List Nat := [17, 5000005, 4000029, 5000009, 4000019, 4000021, 4000023]
set_option maxRecDepth 8000 in
set_option maxHeartbeats 2000000 in
theorem pieces_calls (o x : Bool) (p : List UInt8) (hp : p.length ≤ 100000) (hE : bytesIn (Rd.init.fed p) ≤ 8000) (hn : (recsOf (Rd.init.fed p)).length < 100) (σ : Store) :
    ACalls Tryz.prog 14 [.list o 1 (bytesA p), .lit (.bool x), .lit (.int .i64 100)] σ fun v σ' => v = .list false 6 (pcsA ((recsOf (Rd.init.fed p)).map (pieceF x))) ∧ σ' = σ := by
  have hi := fun σ => pieces_iter p hp hE x σ
  have hq := fun τ => seq_calls false x p τ
  have heq : ∀ c, eqNil Tryz.prog 63 (.func (.func 34) [] c) (.lit .nilFunc) = some false := fun c => by unfold eqNil; rw [Tryz.underlying63]
  generalize hU : recsOf (Rd.init.fed p) = U at *
  have hUk : ∀ k d, U[k]? = some d → (U.map (pieceF x)).take (k + 1) = (U.map (pieceF x)).take k ++ [pieceF x d] := fun k d hx => by
    obtain ⟨h1, h2⟩ := List.getElem?_eq_some_iff.1 hx
    rw [List.take_succ_eq_append_getElem (by simpa using h1)]; simp [h2]
  have hVl : (U.map (pieceF x)).length = U.length := by simp
  generalize hV : U.map (pieceF x) = V at *
  refine ACalls.of_awpY follows (st := st14x) (plans := pl14) (n := 32) Tryz.func14 rfl (by kernel_rfl) (by kernel_rfl) (by kernel_rfl) ?_
  simp
  intro q hq0
  refine callK.of (hq _) ?_
  rintro v σ1 ⟨rfl, rfl⟩
  simp [heq]
  refine codeYK.range follows (st := st14x) (plans := pl14) (hi _) (by simp) (by simp) (by simp) (by kernel_rfl) (by kernel_rfl) (by kernel_rfl)
    (fun k τ _ => k ≤ U.length ∧ τ = σ.upd q [.list true 6 (pcsA (V.take k))]) (fun _ _ _ => False) _ ⟨Nat.zero_le _, rfl⟩ ?_ ?_ ?_ ?_
  · simp [pcsA]
  · rintro k hk τ E ⟨h1, rfl⟩
    have hk' : k < U.length := by simpa using hk
    obtain ⟨d, hd⟩ : ∃ d, U[k] = d := ⟨_, rfl⟩
    have e2 : (U.map fun d => [pcA (pieceF x d)])[k] = [pcA (pieceF x d)] := by rw [List.getElem_map, hd]
    rw [e2]
    have hst := hUk k d (by rw [List.getElem?_eq_getElem hk', hd])
    rw [hst]
    have hlk : (V.take k).length = k := by rw [List.length_take]; omega
    generalize pieceF x d = w at *
    generalize V.take k = W at *
    obtain ⟨⟨ty, req, resp, seq⟩, xh, xd⟩ := w
    simp [pcA, hdL, byteA]
    intro r hr
    rw [ite_none] at hr
    obtain ⟨n1, hr⟩ := hr
    have n2 : ¬ q = r := fun e => n1 e.symm
    rw [del_upd_new (p := r) (by rw [supd_apply, if_neg n1]; exact hr)]
    simp [n1, n2]
    exact ⟨by omega, by omega, by omega, by rw [pcsA_append]; exact Store.sub_refl _, hk'⟩
  · rintro τ E σ' hs ⟨h1, rfl⟩
    rw [List.length_map, List.take_of_length_le (by omega)] at hs
    have e2 : σ' q = some [.list true 6 (pcsA V)] := by
      rcases hs q with h | h
      · simp at h
      · rw [← h]; simp
    simp [e2]
    exact Store.sub_trans (sub_upd_self _ _ _ hq0) hs
  · rintro c τ E σ' hs h
    exact h.elim
end Go.Proofs.YtegpebaoghmgiaaGreatDoor
