/-
  What is said is read again.
-/
import Derived.Test.YtkfhpnfgnjmdbaaDoorPLong
namespace Go.Proofs.YtkfhpnfgnjmdbaaDoor
open Go Go.AL

theorem feed_esc (V : Rd) (hs : V.state = 0) (d : List UInt8) : V.feed (esc d) = { V with data := V.data ++ d, state := 0 } := by
  induction d generalizing V with
  | nil => simp [esc, escOf, Rd.feed, ← hs]
  | cons b d ih =>
    rw [esc_cons, feed_app]
    by_cases hb : (b.toNat : Int) = 255
    · rw [if_pos hb]
      show ((V.take b).take b).feed (esc d) = _
      rw [take_esc V b hs hb, take_one, show V.command b = { V with data := V.data ++ [b], state := 0 } by simp [Rd.command, hb], ih _ rfl]
      simp
    · rw [if_neg hb]
      show (V.take b).feed (esc d) = _
      rw [show V.take b = { V with data := V.data ++ [b], state := 0 } by simp [Rd.take, hs, hb], ih _ rfl]
      simp
theorem told_datas (V : Rd) (d : List UInt8) (s : Int) : Rd.told { V with data := V.data ++ d, state := s } = mergeStep V.told (dataEv d) := by
  have h0 : ∀ m, mergeStep m (dataEv []) = m := fun m => by simp [mergeStep, dataEv]
  have key : ∀ n, ∀ d : List UInt8, d.length = n → Rd.told { V with data := V.data ++ d, state := s } = mergeStep V.told (dataEv d) := fun n => by
    induction n with
    | zero =>
      intro d hd
      have : d = [] := List.eq_nil_of_length_eq_zero hd
      subst this
      rw [List.append_nil, h0]; rfl
    | succ n ih =>
      intro d hd
      rcases List.eq_nil_or_concat d with rfl | ⟨i, b, rfl⟩
      · simp at hd
      · rw [List.concat_eq_append] at hd ⊢
        have h1 := ih i (by simpa using hd)
        have h2 := told_data { V with data := V.data ++ i } b s
        simp only [List.append_assoc] at h2
        rw [h2]
        have h3 : Rd.told { V with data := V.data ++ i } = Rd.told { V with data := V.data ++ i, state := s } := rfl
        rw [h3, h1]
        by_cases hi : i = []
        · subst hi; rw [h0]; rfl
        · exact mergeStep_data _ _ _ hi
  exact key d.length d rfl

def normK (k : Int) : Int := ((k.tmod 4) + 4).tmod 4
theorem tmod4 (k : Int) : -3 ≤ k.tmod 4 ∧ k.tmod 4 ≤ 3 := by
  have h1 := Int.tmod_lt_of_pos k (show (0 : Int) < 4 by omega)
  have h2 := Int.tmod_lt_of_pos (-k) (show (0 : Int) < 4 by omega)
  rw [Int.neg_tmod] at h2
  omega
theorem normK_range (k : Int) : normK k = 0 ∨ normK k = 1 ∨ normK k = 2 ∨ normK k = 3 := by
  have h := tmod4 k
  unfold normK
  rw [Int.tmod_eq_emod_of_nonneg (by omega)]
  omega
def verb9 (v : UInt8) : UInt8 := 241 + v % 9
def verb4 (v : UInt8) : UInt8 := 251 + v % 4
theorem verb9_toNat (v : UInt8) : (verb9 v).toNat = 241 + v.toNat % 9 := by
  have := v.toNat_lt
  simp only [verb9, UInt8.toNat_add, UInt8.toNat_mod]
  show (241 + v.toNat % 9) % 256 = _
  omega
theorem verb4_toNat (v : UInt8) : (verb4 v).toNat = 251 + v.toNat % 4 := by
  have := v.toNat_lt
  simp only [verb4, UInt8.toNat_add, UInt8.toNat_mod]
  show (251 + v.toNat % 4) % 256 = _
  omega
/-- An event as it can be said. -/
def normE (e : Ev) : Ev :=
  if normK e.kind = 0 then dataEv (e.data.take 256) else if normK e.kind = 1 then ⟨1, verb9 e.verb, 0, [], false, false⟩ else if normK e.kind = 2 then ⟨2, verb4 e.verb, e.opt, [], false, false⟩ else ⟨3, 0, e.opt, e.data.take 256, false, false⟩

structure Plain (V : Rd) : Prop where
  state : V.state = 0
  sub : V.sub = []
  long : V.long = false
theorem feed_norm (V : Rd) (h : Plain V) (e : Ev) : Plain (V.feed (evBytes (normE e))) ∧ (V.feed (evBytes (normE e))).told = mergeStep V.told (normE e) := by
  obtain ⟨hs, hsub, hlong⟩ := h
  rcases normK_range e.kind with hk | hk | hk | hk
  · have e1 : normE e = dataEv (e.data.take 256) := by simp [normE, hk]
    have e2 : evBytes (normE e) = esc (e.data.take 256) := by rw [e1]; simp [evBytes, dataEv]
    rw [e2, feed_esc V hs, e1]
    exact ⟨⟨rfl, hsub, hlong⟩, told_datas V _ 0⟩
  · have e1 : normE e = ⟨1, verb9 e.verb, 0, [], false, false⟩ := by simp [normE, hk]
    have e2 : evBytes (normE e) = [255, verb9 e.verb] := by rw [e1]; simp [evBytes]
    have hv := verb9_toNat e.verb
    have hm : e.verb.toNat % 9 < 9 := Nat.mod_lt _ (by omega)
    have h3 : V.feed [255, verb9 e.verb] = V.tell ⟨1, verb9 e.verb, 0, [], false, false⟩ := by
      show (V.take 255).take (verb9 e.verb) = _
      rw [take_esc V 255 hs (by decide), take_one]
      simp only [Rd.command]
      rw [if_neg (by omega), if_neg (by omega), if_neg (by omega)]
    rw [e2, h3, e1]
    exact ⟨⟨rfl, hsub, hlong⟩, told_tell _ _⟩
  · have e1 : normE e = ⟨2, verb4 e.verb, e.opt, [], false, false⟩ := by simp [normE, hk]
    have e2 : evBytes (normE e) = [255, verb4 e.verb, e.opt] := by rw [e1]; simp [evBytes]
    have hv := verb4_toNat e.verb
    have hm : e.verb.toNat % 4 < 4 := Nat.mod_lt _ (by omega)
    have h3 : V.feed [255, verb4 e.verb, e.opt] = ({ V with verb := verb4 e.verb, state := 2 } : Rd).tell ⟨2, verb4 e.verb, e.opt, [], false, false⟩ := by
      show ((V.take 255).take (verb4 e.verb)).take e.opt = _
      rw [take_esc V 255 hs (by decide), take_one]
      have : V.command (verb4 e.verb) = { V with verb := verb4 e.verb, state := 2 } := by
        simp only [Rd.command]
        rw [if_neg (by omega), if_neg (by omega), if_pos (by omega)]
      rw [this]; simp [Rd.take]
    rw [e2, h3, e1]
    exact ⟨⟨rfl, hsub, hlong⟩, told_tell _ _⟩
  · have e1 : normE e = ⟨3, 0, e.opt, e.data.take 256, false, false⟩ := by simp [normE, hk]
    have e2 : evBytes (normE e) = subBytes e.opt (e.data.take 256) := by rw [e1]; simp [evBytes]
    have h3 := told_subBytes V hs hsub hlong e.opt (e.data.take 256)
    have h4 : (e.data.take 256).take 256 = e.data.take 256 := by rw [List.take_take]; simp
    have h5 : decide (256 < (e.data.take 256).length) = false := by simp; omega
    rw [h4, h5] at h3
    rw [e2, e1]
    exact ⟨⟨h3.2.1, h3.2.2.1, h3.2.2.2⟩, h3.1⟩
def wantOf (l : List Ev) (i : Nat) : List Ev := (l.take i).map normE
def saidOf (l : List Ev) (i : Nat) : List UInt8 := (wantOf l i).flatMap evBytes
theorem want_succ (l : List Ev) (i : Nat) (h : i < l.length) : wantOf l (i + 1) = wantOf l i ++ [normE l[i]] := by
  simp only [wantOf]; rw [List.take_succ_eq_append_getElem h, List.map_append]; rfl
theorem said_succ (l : List Ev) (i : Nat) (h : i < l.length) : saidOf l (i + 1) = saidOf l i ++ evBytes (normE l[i]) := by
  simp only [saidOf, want_succ l i h, List.flatMap_append]; simp
theorem norm_len (e : Ev) : (evBytes (normE e)).length ≤ 520 ∧ (normE e).data.length ≤ 256 := by
  have h := esc_length (e.data.take 256)
  have h2 : (e.data.take 256).length ≤ 256 := by simp; omega
  rcases normK_range e.kind with hk | hk | hk | hk <;> simp [normE, hk, evBytes, dataEv, subBytes] at * <;> omega
theorem said_len (l : List Ev) (i : Nat) : (saidOf l i).length ≤ 520 * (l.take i).length := by
  have key : ∀ k : List Ev, ((k.map normE).flatMap evBytes).length ≤ 520 * k.length := fun k => by
    induction k with
    | nil => simp
    | cons e k ih =>
      have := (norm_len e).1
      simp only [List.map_cons, List.flatMap_cons, List.length_append, List.length_cons] at *
      omega
  exact key _
theorem said_told (l : List Ev) (i : Nat) : Plain (Rd.init.feed (saidOf l i)) ∧ (Rd.init.feed (saidOf l i)).told = merge (wantOf l i) := by
  have key : ∀ (k : List Ev) (V : Rd), Plain V → Plain (V.feed ((k.map normE).flatMap evBytes)) ∧ (V.feed ((k.map normE).flatMap evBytes)).told = (k.map normE).foldl mergeStep V.told := fun k => by
    induction k with
    | nil => intro V h; exact ⟨h, rfl⟩
    | cons e k ih =>
      intro V h
      have h1 := feed_norm V h e
      have h2 := ih _ h1.1
      simp only [List.map_cons, List.flatMap_cons, List.foldl_cons]
      rw [feed_app, ← h1.2]
      exact h2
  exact key (l.take i) Rd.init ⟨rfl, rfl, rfl⟩

set_option maxRecDepth 4000 in
set_option maxHeartbeats 2000000 in
theorem writes_law (l : List Ev) (σ : Store) (h1 : l.length ≤ 9223372036854775807) :
    ACalls Tryd.prog 4 [.list false 6 (evsA l)] σ fun v _ => v = .lit (.bool true) := by
  refine ACalls.of_awp follows (st := st4) (plans := pl4) (n := 114) Tryd.func4 rfl (by kernel_rfl) (by kernel_rfl) (by kernel_rfl) ?_
  simp
  refine callK.of (awake_calls _) ?_
  rintro v σ ⟨rfl, rfl⟩
  simp
  refine codeK.loop follows (st := st4) (plans := pl4) (X := Nat) (fun i => i ≤ l.length ∧ i ≤ 12)
    (fun i => [(3, .list true 1 (bytesA (saidOf l i))), (4, .list true 6 (evsA (wantOf l i))), (11, .list false 6 (evsA l)), (12, .lit (.int .i64 l.length)), (13, .lit (.int .i64 i))]) (fun _ => σ) (fun i => l.length - i) 0 (by kernel_rfl) (by simp) (by simp [saidOf, wantOf, bytesA, evsA]) (by simp) fun i hi => ?_
  obtain ⟨hi, h12⟩ := hi
  have htl : (l.take i).length ≤ 12 := by simp; omega
  have hsl := said_len l i
  have hx : (saidOf l i).length ≤ 10000 := by omega
  have hst := said_told l i
  have hm := merge_fedAll (saidOf l i) []
  have hwl : (wantOf l i).length ≤ 12 := by simp only [wantOf, List.length_map]; exact htl
  have hwb : bytesIn (wantOf l i) ≤ 1000000 := by
    have key : ∀ k : List Ev, bytesIn (k.map normE) ≤ 256 * k.length := fun k => by
      induction k with
      | nil => simp [bytesIn]
      | cons e k ih =>
        have := (norm_len e).2
        simp only [bytesIn, List.map_cons, List.sum_cons, List.length_cons] at *
        omega
    have := key (l.take i)
    simp only [wantOf]; omega
  have hml := merge_size (wantOf l i)
  by_cases hlt : i < l.length
  case neg =>
    simp [hlt]
    refine callK.le (args' := [.list false 1 (bytesA (saidOf l i)), .list true 1 (bytesA [])]) (by simp [bytesA]) (feeds_calls false true (saidOf l i) [] _ hx (by simp)) ?_
    rintro v σ' ⟨rfl, rfl⟩
    rw [hm.1, hm.2, hst.2, hst.1.state]
    simp
    refine callK.of (back_calls _ (merge (wantOf l i)) _ (by omega)) ?_
    rintro v σ' ⟨rfl, rfl⟩
    simp
    refine callK.of (merge_calls _ (wantOf l i) _ (by omega) hwb) ?_
    rintro v σ' ⟨rfl, rfl⟩
    simp
    refine callK.of (back_calls _ (merge (wantOf l i)) _ (by omega)) ?_
    rintro v σ' ⟨rfl, rfl⟩
    simp
    refine callK.of (sameEv_calls _ _ (merge (wantOf l i)) (merge (wantOf l i)) _ (by omega)) ?_
    rintro v σ' ⟨rfl, rfl⟩
    simp
    exact ⟨_, Store.sub_refl _⟩
  by_cases hlt2 : i < 12
  case neg =>
    simp [hlt, evsA, evA, byteA]
    intro q hq
    rw [if_pos (by omega)]
    refine callK.le (args' := [.list false 1 (bytesA (saidOf l i)), .list true 1 (bytesA [])]) (by simp [bytesA]) (feeds_calls false true (saidOf l i) [] _ hx (by simp)) ?_
    rintro v σ' ⟨rfl, rfl⟩
    rw [hm.1, hm.2, hst.2, hst.1.state]
    simp
    refine callK.of (back_calls _ (merge (wantOf l i)) _ (by omega)) ?_
    rintro v σ' ⟨rfl, rfl⟩
    simp
    refine callK.of (merge_calls _ (wantOf l i) _ (by omega) hwb) ?_
    rintro v σ' ⟨rfl, rfl⟩
    simp
    refine callK.of (back_calls _ (merge (wantOf l i)) _ (by omega)) ?_
    rintro v σ' ⟨rfl, rfl⟩
    simp
    refine callK.of (sameEv_calls _ _ (merge (wantOf l i)) (merge (wantOf l i)) _ (by omega)) ?_
    rintro v σ' ⟨rfl, rfl⟩
    simp
    exact ⟨_, Store.sub_refl _⟩
  have hwr : IntKind.i64.wrap ((i : Int) + 1) = ((i + 1 : Nat) : Int) := wrap_i64 (by omega) (by omega)
  have z12 : ¬ (12 ≤ (i : Int)) := by omega
  simp [hlt, evsA, evA, byteA, z12]
  intro q hq
  refine callK.of (cut_calls false l[i].data 256 _ (by omega)) ?_
  rintro v σ' ⟨rfl, rfl⟩
  have hnl := norm_len l[i]
  have hss := said_succ l i hlt
  have hws := want_succ l i hlt
  have ht4 := tmod4 l[i].kind
  have hwk : (IntKind.i64.wrap (l[i].kind.tmod 4 + 4)).tmod 4 = normK l[i].kind := by rw [wrap_i64 (by omega) (by omega)]; rfl
  have hd : (l[i].data.take 256).length ≤ 256 := by simp; omega
  generalize hD : l[i].data.take 256 = d at *
  have hwS : IntKind.i64.wrap ((saidOf l i).length : Int) = ((saidOf l i).length : Int) := wrap_i64 (by omega) (by omega)
  have hdrop : ∀ (B : List AV) (n : Nat), n = B.length → List.drop (saidOf l i).length (List.take ((saidOf l i).length + n) (bytesA (saidOf l i) ++ B)) = B := fun B n hn => by
    rw [List.take_of_length_le (by simp; omega), ← bytesA_length (saidOf l i), List.drop_left]
  rcases normK_range l[i].kind with hk | hk | hk | hk
  · have e1 : normE l[i] = dataEv d := by simp [normE, hk, hD]
    rw [hk] at hwk
    rw [e1] at hss hws hnl
    have e2 : evBytes (dataEv d) = esc d := by simp [evBytes, dataEv]
    rw [e2] at hss hnl
    have hdr := hdrop (bytesA (esc d)) (esc d).length (by simp)
    simp [hwk]
    refine callK.of (escape_calls false d _ (by omega)) ?_
    rintro v σ' ⟨rfl, rfl⟩
    simp
    refine ⟨by omega, by omega, ?_, ?_⟩
    all_goals
      refine callK.le (args' := [evA (dataEv d)]) (by simp [evA, dataEv, byteA]) (refBytes_calls (dataEv d) _ (by simp [dataEv]; omega)) ?_
      rintro v σ' ⟨rfl, rfl⟩
      rw [e2]
      simp [hwS, hdr]
      refine callK.le (args' := [evA (dataEv d)]) (by simp [evA, dataEv, byteA]) (refBytes_calls (dataEv d) _ (by simp [dataEv]; omega)) ?_
      rintro v σ' ⟨rfl, rfl⟩
      rw [e2]
      simp [hwS, hdr]
      refine callK.of (same_calls _ _ (esc d) (esc d) _) ?_
      rintro v σ' ⟨rfl, rfl⟩
      simp
      refine ⟨by omega, by omega, i + 1, ⟨by omega, by omega⟩, by omega, ⟨by rw [hss, bytesA_append]; exact AV.le_refl _, ?_, by rw [hwr]; exact AV.le_refl _⟩, by (intro q; simp only [Store.upd, Store.del]; (repeat' split) <;> simp_all)⟩
      rw [hws]; simp [evsA, evA, dataEv, byteA]
  · have hv := verb9_toNat l[i].verb
    have e1 : normE l[i] = ⟨1, verb9 l[i].verb, 0, [], false, false⟩ := by simp [normE, hk]
    rw [hk] at hwk
    rw [e1] at hss hws hnl
    have e2 : evBytes ⟨1, verb9 l[i].verb, 0, [], false, false⟩ = [255, verb9 l[i].verb] := by simp [evBytes]
    rw [e2] at hss hnl
    have hwv : IntKind.u8.wrap (241 + ((l[i].verb.toNat : Int).tmod 9)) = ((verb9 l[i].verb).toNat : Int) := by
      rw [Int.tmod_eq_emod_of_nonneg (by omega), hv]
      show (241 + (l[i].verb.toNat : Int) % 9) % 256 = _
      omega
    have hwv0 : IntKind.u8.wrap ((l[i].verb.toNat : Int).tmod 9) = (l[i].verb.toNat : Int).tmod 9 := by
      rw [Int.tmod_eq_emod_of_nonneg (by omega)]
      show ((l[i].verb.toNat : Int) % 9) % 256 = _
      omega
    generalize verb9 l[i].verb = vb at *
    have hdr := hdrop [.lit (.int .u8 255), .lit (.int .u8 (vb.toNat : Int))] 2 rfl
    simp [hwk, hwv, hwv0]
    refine ⟨by omega, by omega, ?_, ?_⟩
    all_goals
      refine callK.le (args' := [evA ⟨1, vb, 0, [], false, false⟩]) (by simp [evA, byteA, bytesA]) (refBytes_calls ⟨1, vb, 0, [], false, false⟩ _ (by simp)) ?_
      rintro v σ' ⟨rfl, rfl⟩
      rw [e2]
      simp [hwS, hdr]
      refine callK.le (args' := [evA ⟨1, vb, 0, [], false, false⟩]) (by simp [evA, byteA, bytesA]) (refBytes_calls ⟨1, vb, 0, [], false, false⟩ _ (by simp)) ?_
      rintro v σ' ⟨rfl, rfl⟩
      rw [e2]
      simp [hwS, hdr]
      refine callK.le (args' := [.list false 1 (bytesA [255, vb]), .list false 1 (bytesA [255, vb])]) (by simp [bytesA, byteA]) (same_calls _ _ [255, vb] [255, vb] _) ?_
      rintro v σ' ⟨rfl, rfl⟩
      simp
      refine ⟨by omega, by omega, i + 1, ⟨by omega, by omega⟩, by omega, ⟨by rw [hss, bytesA_append]; simp [bytesA, byteA], ?_, by rw [hwr]; exact AV.le_refl _⟩, by (intro q; simp only [Store.upd, Store.del]; (repeat' split) <;> simp_all)⟩
      rw [hws]; simp [evsA, evA, byteA, bytesA]
  · have hv := verb4_toNat l[i].verb
    have e1 : normE l[i] = ⟨2, verb4 l[i].verb, l[i].opt, [], false, false⟩ := by simp [normE, hk]
    rw [hk] at hwk
    rw [e1] at hss hws hnl
    have e2 : evBytes ⟨2, verb4 l[i].verb, l[i].opt, [], false, false⟩ = [255, verb4 l[i].verb, l[i].opt] := by simp [evBytes]
    rw [e2] at hss hnl
    have hwv : IntKind.u8.wrap (251 + ((l[i].verb.toNat : Int).tmod 4)) = ((verb4 l[i].verb).toNat : Int) := by
      rw [Int.tmod_eq_emod_of_nonneg (by omega), hv]
      show (251 + (l[i].verb.toNat : Int) % 4) % 256 = _
      omega
    have hwv0 : IntKind.u8.wrap ((l[i].verb.toNat : Int).tmod 4) = (l[i].verb.toNat : Int).tmod 4 := by
      rw [Int.tmod_eq_emod_of_nonneg (by omega)]
      show ((l[i].verb.toNat : Int) % 4) % 256 = _
      omega
    generalize verb4 l[i].verb = vb at *
    generalize l[i].opt = vo at *
    have hdr := hdrop [.lit (.int .u8 255), .lit (.int .u8 (vb.toNat : Int)), .lit (.int .u8 (vo.toNat : Int))] 3 rfl
    simp [hwk, hwv, hwv0]
    refine callK.of (say_calls vb vo _) ?_
    rintro v σ' ⟨rfl, rfl⟩
    have hsay : bytesA [255, vb, vo] = [.lit (.int .u8 255), .lit (.int .u8 (vb.toNat : Int)), .lit (.int .u8 (vo.toNat : Int))] := by simp [bytesA, byteA]
    simp [hsay]
    refine ⟨by omega, by omega, ?_, ?_⟩
    all_goals
      refine callK.le (args' := [evA ⟨2, vb, vo, [], false, false⟩]) (by simp [evA, byteA, bytesA]) (refBytes_calls ⟨2, vb, vo, [], false, false⟩ _ (by simp)) ?_
      rintro v σ' ⟨rfl, rfl⟩
      rw [e2]
      simp [hwS, hdr]
      refine callK.le (args' := [evA ⟨2, vb, vo, [], false, false⟩]) (by simp [evA, byteA, bytesA]) (refBytes_calls ⟨2, vb, vo, [], false, false⟩ _ (by simp)) ?_
      rintro v σ' ⟨rfl, rfl⟩
      rw [e2]
      simp [hwS, hdr]
      refine callK.le (args' := [.list false 1 (bytesA [255, vb, vo]), .list false 1 (bytesA [255, vb, vo])]) (by simp [bytesA, byteA]) (same_calls _ _ [255, vb, vo] [255, vb, vo] _) ?_
      rintro v σ' ⟨rfl, rfl⟩
      simp
      refine ⟨by omega, by omega, i + 1, ⟨by omega, by omega⟩, by omega, ⟨by rw [hss, bytesA_append]; simp [bytesA, byteA], ?_, by rw [hwr]; exact AV.le_refl _⟩, by (intro q; simp only [Store.upd, Store.del]; (repeat' split) <;> simp_all)⟩
      rw [hws]; simp [evsA, evA, byteA, bytesA]
  · have e1 : normE l[i] = ⟨3, 0, l[i].opt, d, false, false⟩ := by simp [normE, hk, hD]
    rw [hk] at hwk
    rw [e1] at hss hws hnl
    have e2 : evBytes ⟨3, 0, l[i].opt, d, false, false⟩ = subBytes l[i].opt d := by simp [evBytes]
    rw [e2] at hss hnl
    generalize l[i].opt = vo at *
    have hdr := hdrop (bytesA (subBytes vo d)) (subBytes vo d).length (by simp)
    simp [hwk]
    refine callK.of (subBytes_calls false vo d _ (by omega)) ?_
    rintro v σ' ⟨rfl, rfl⟩
    simp
    refine ⟨by omega, by omega, ?_, ?_⟩
    all_goals
      refine callK.le (args' := [evA ⟨3, 0, vo, d, false, false⟩]) (by simp [evA, byteA]) (refBytes_calls ⟨3, 0, vo, d, false, false⟩ _ (by show d.length ≤ _; omega)) ?_
      rintro v σ' ⟨rfl, rfl⟩
      rw [e2]
      simp [hwS, hdr]
      refine callK.le (args' := [evA ⟨3, 0, vo, d, false, false⟩]) (by simp [evA, byteA]) (refBytes_calls ⟨3, 0, vo, d, false, false⟩ _ (by show d.length ≤ _; omega)) ?_
      rintro v σ' ⟨rfl, rfl⟩
      rw [e2]
      simp [hwS, hdr]
      refine callK.le (args' := [.list false 1 (bytesA (subBytes vo d)), .list false 1 (bytesA (subBytes vo d))]) (by simp) (same_calls _ _ (subBytes vo d) (subBytes vo d) _) ?_
      rintro v σ' ⟨rfl, rfl⟩
      simp
      refine ⟨by omega, by omega, i + 1, ⟨by omega, by omega⟩, by omega, ⟨by rw [hss, bytesA_append]; simp [bytesA, byteA], ?_, by rw [hwr]; exact AV.le_refl _⟩, by (intro q; simp only [Store.upd, Store.del]; (repeat' split) <;> simp_all)⟩
      rw [hws]; simp [evsA, evA, byteA, bytesA]
end Go.Proofs.YtkfhpnfgnjmdbaaDoor
