/-
  The reference: a whole stream.
-/
import Derived.Test.YtkfhpnfgnjmdbaaPSub
namespace Go.Proofs.Ytkfhpnfgnjmdbaa
open Go Go.AL

/-- Data that stand there are nothing but data. -/
def Clean (l : List Ev) : Prop := ∀ x ∈ l, x.kind = 0 → x = dataEv x.data
theorem addEv_eq (l : List Ev) (e : Ev) (hl : Clean l) (he : e.kind = 0 → e = dataEv e.data ∧ e.data ≠ []) : addEv l e = mergeStep l e := by
  unfold addEv mergeStep
  by_cases hk : e.kind = 0
  · obtain ⟨h1, h2⟩ := he hk
    rw [if_pos hk, if_neg (by simp [hk]), if_neg h2]
    cases hm : l.getLast? with
    | none =>
      have : l = [] := by simpa using hm
      subst this
      simp [← h1]
    | some last =>
      by_cases hk2 : last.kind = 0
      · have := hl last (List.mem_of_getLast? hm) hk2
        simp only [hk2, if_true]
        rw [this]; rfl
      · simp only [hk2, if_false]; rw [← h1]
  · simp [hk]
theorem mergeStep_clean (l : List Ev) (e : Ev) (hl : Clean l) (he : e.kind = 0 → e = dataEv e.data) : Clean (mergeStep l e) := by
  unfold mergeStep
  split
  · intro x hx; rcases List.mem_append.1 hx with h | h
    · exact hl x h
    · rw [List.mem_singleton.1 h]; exact he
  · split
    · exact hl
    · split
      · rename_i last hm
        split
        · rename_i hk
          intro x hx hk'
          rcases List.mem_append.1 hx with h | h
          · exact hl x (List.dropLast_subset _ h) hk'
          · have := hl last (List.mem_of_getLast? hm) hk
            rw [List.mem_singleton.1 h]
            rw [this]; rfl
        · intro x hx; rcases List.mem_append.1 hx with h | h
          · exact hl x h
          · rw [List.mem_singleton.1 h]; intro _; rfl
      · intro x hx; rw [List.mem_singleton.1 hx]; intro _; rfl
theorem add_merge (a : Bool) (l : List Ev) (e : Ev) (σ : Store) (hl : l.length ≤ 1000000) (hb : bytesIn l ≤ 1000000) (he : e.data.length ≤ 1000000) (hc : Clean l) (hd : e.kind = 0 → e = dataEv e.data ∧ e.data ≠ []) :
    ACalls Try.prog 26 [.list true 6 (evsA l), evA e] σ fun v σ' => v = .list true 6 (evsA (mergeStep l e)) ∧ σ' = σ := by
  rw [← addEv_eq l e hc hd]; exact add_calls l e σ hl hb he
theorem told_wait (p : List UInt8) (V : Rd) (i : Nat) (h : V.feed (p.drop i) = Rd.init.feed p) (b : UInt8) (r : List UInt8) (hr : p.drop i = b :: r) : (V.take b).feed r = Rd.init.feed p := by
  rw [← h, hr, feed_cons]

theorem told_command_data (V : Rd) (b : UInt8) (h : (b.toNat : Int) = 255) : (V.command b).told = mergeStep V.told (dataEv [b]) ∧ (V.command b).state = 0 ∧ (V.command b).sub = V.sub ∧ (V.command b).long = V.long := by
  simp only [Rd.command, h, if_true]
  exact ⟨told_data V b 0, trivial, trivial, trivial⟩
theorem take_data (V : Rd) (b : UInt8) (hs : V.state = 0) (h : (b.toNat : Int) ≠ 255) : V.take b = { V with data := V.data ++ [b], state := 0 } := by
  simp [Rd.take, hs, h]
theorem command_sub (V : Rd) (b : UInt8) (h : (b.toNat : Int) = 250) : V.command b = { V with state := 3 } := by simp [Rd.command, h]
theorem command_verb (V : Rd) (b : UInt8) (h1 : (b.toNat : Int) ≠ 255) (h2 : (b.toNat : Int) ≠ 250) (h3 : 251 ≤ (b.toNat : Int) ∧ (b.toNat : Int) ≤ 254) : V.command b = { V with verb := b, state := 2 } := by simp [Rd.command, h1, h2, h3]
theorem command_tell (V : Rd) (b : UInt8) (h1 : (b.toNat : Int) ≠ 255) (h2 : (b.toNat : Int) ≠ 250) (h3 : ¬ (251 ≤ (b.toNat : Int) ∧ (b.toNat : Int) ≤ 254)) : V.command b = V.tell ⟨1, b, 0, [], false, false⟩ := by simp [Rd.command, h1, h2, h3]

/-- How far the reference is. -/
def TakeInv (p : List UInt8) (x : Nat × Rd) : Prop :=
  x.1 ≤ p.length ∧ Clean x.2.told ∧ x.2.told.length ≤ x.1 ∧ bytesIn x.2.told ≤ x.1 ∧ x.2.state = 0 ∧ x.2.sub = [] ∧ x.2.long = false ∧ x.2.feed (p.drop x.1) = Rd.init.feed p

theorem TakeInv.step {p : List UInt8} {i j : Nat} {V W : Rd} (h : TakeInv p (i, V)) (e : Ev) (hj : i < j) (hjp : j ≤ p.length) (he : e.kind = 0 → e = dataEv e.data) (hd : e.data.length + i ≤ j) (ht : W.told = mergeStep V.told e) (hs : W.state = 0) (hsub : W.sub = []) (hl : W.long = false) (hf : W.feed (p.drop j) = V.feed (p.drop i)) : TakeInv p (j, W) := by
  obtain ⟨h1, h2, h3, h4, h5, h6, h7, h8⟩ := h
  have := mergeStep_size V.told e
  dsimp only at *
  refine ⟨hjp, ?_, ?_, ?_, hs, hsub, hl, by rw [hf, h8]⟩
  · show Clean W.told
    rw [ht]; exact mergeStep_clean _ _ h2 he
  · show W.told.length ≤ j
    rw [ht]; omega
  · show bytesIn W.told ≤ j
    rw [ht]; omega

def TakeOut (p : List UInt8) (v : AV) : Prop := ∃ n : Nat, v = .tuple [.list true 6 (evsA (Rd.init.feed p).told), .lit (.int .i64 n)] ∧ (n < p.length ↔ (Rd.init.feed p).state ≠ 0)

set_option maxHeartbeats 1000000 in
set_option maxRecDepth 4000 in
theorem take_stream (a : Bool) (p : List UInt8) (σ : Store) (hp : p.length ≤ 100000) :
    ACalls Try.prog 19 [.list a 1 (bytesA p)] σ fun v σ' => TakeOut p v ∧ σ' = σ := by
  refine ACalls.of_awp follows (st := st19) (plans := pl19) (n := 100) Try.func19 rfl (by kernel_rfl) (by kernel_rfl) (by kernel_rfl) ?_
  simp
  refine codeK.loop follows (st := st19) (plans := pl19) (X := Nat × Rd) (TakeInv p)
    (fun x => [(0, .list false 1 (bytesA p)), (4, .list true 6 (evsA x.2.told)), (5, .lit (.int .i64 x.1))])
    (fun _ => σ) (fun x => p.length - x.1) (0, .init) (by kernel_rfl) ⟨by simp, by intro x hx; simp [Rd.told, Rd.init, Rd.flush, merge] at hx, by simp [Rd.told, Rd.init, Rd.flush, merge], by simp [Rd.told, Rd.init, Rd.flush, merge, bytesIn], rfl, rfl, rfl, rfl⟩ (by simp [Rd.told, Rd.init, Rd.flush, merge, evsA]) (Store.sub_refl _) fun x hx => ?_
  obtain ⟨i, V⟩ := x
  have inv := hx
  obtain ⟨h1, h2, h3, h4, h5, h6, h7, h8⟩ := hx
  dsimp only at h1 h2 h3 h4 h5 h6 h7 h8 ⊢
  have hz : ∀ W : Rd, W.told = V.told → Rd.init.feed p = W → (i < p.length ↔ W.state ≠ 0) → TakeOut p (.tuple [.list true 6 (evsA V.told), .lit (.int .i64 i)]) := fun W a b c => ⟨i, by rw [b, a], by rw [b]; exact c⟩
  by_cases hi : i < p.length
  case neg =>
    have hd : p.drop i = [] := List.drop_of_length_le (by omega)
    have hz' := hz V rfl (by rw [← h8, hd]; rfl) (by simp [hi, h5])
    simp [hi]
    exact ⟨_, AV.le_refl _, hz'⟩
  have hf := drop_cons p i hi
  have hw1 : IntKind.i64.wrap ((i : Int) + 1) = (i : Int) + 1 := by rw [wrap_i64 (by omega) (by omega)]
  have hw2 : IntKind.i64.wrap ((i : Int) + 2) = (i : Int) + 2 := by rw [wrap_i64 (by omega) (by omega)]
  have hw3 : IntKind.i64.wrap ((i : Int) + 3) = (i : Int) + 3 := by rw [wrap_i64 (by omega) (by omega)]
  have hadd : ∀ e : Ev, e.data.length ≤ 1000000 → (e.kind = 0 → e = dataEv e.data ∧ e.data ≠ []) → ACalls Try.prog 26 [.list true 6 (evsA V.told), evA e] σ fun v σ' => v = .list true 6 (evsA (mergeStep V.told e)) ∧ σ' = σ :=
    fun e a1 a2 => add_merge a V.told e σ (by omega) (by omega) a1 h2 a2
  have z0 : (0 : Int) ≤ (i : Int) + 1 := by omega
  have z3 : (0 : Int) ≤ (i : Int) + 2 := by omega
  by_cases hb : (p[i].toNat : Int) = 255
  case neg =>
    have i2 : TakeInv p (i + 1, V.take p[i]) := inv.step (dataEv [p[i]]) (by omega) (by omega) (fun _ => rfl) (by simp [dataEv]; omega) (by rw [take_data V _ h5 hb, told_data]) (by rw [take_data V _ h5 hb]) (by rw [take_data V _ h5 hb]; exact h6) (by rw [take_data V _ h5 hb]; exact h7) (by rw [hf, feed_cons])
    have ht : (V.take p[i]).told = mergeStep V.told (dataEv [p[i]]) := by rw [take_data V _ h5 hb, told_data]
    simp [hi, hb, byteA, hw1]
    refine callK.le (args' := [.list true 6 (evsA V.told), evA (dataEv [p[i]])]) (by simp [evA, dataEv, byteA, bytesA]) (hadd _ (by simp [dataEv]) (fun _ => ⟨rfl, by simp [dataEv]⟩)) ?_
    rintro v σ' ⟨rfl, rfl⟩
    simp [hw1]
    exact ⟨i + 1, V.take p[i], i2, by omega, by rw [ht]; exact AV.le_refl _, by simp⟩
  have he1 : V.take p[i] = { V with state := 1 } := take_esc V _ h5 hb
  by_cases hi1 : i + 1 < p.length
  case neg =>
    have z1 : (p.length : Int) ≤ (i : Int) + 1 := by omega
    have hd : p.drop (i + 1) = [] := List.drop_of_length_le (by omega)
    have hz' := hz { V with state := 1 } rfl (by rw [← h8, hf, feed_cons, he1, hd]; rfl) (by simp [hi])
    simp [hi, hb, byteA, hw1, z1]
    exact ⟨_, AV.le_refl _, hz'⟩
  have z1 : ¬ (p.length : Int) ≤ (i : Int) + 1 := by omega
  have hf2 := drop_cons p (i + 1) hi1
  have hg : (bytesA p)[i + 1]? = some (byteA p[i + 1]) := by rw [bytesA_get, List.getElem?_eq_getElem hi1]; rfl
  have hcom : V.feed (p.drop i) = (V.command p[i + 1]).feed (p.drop (i + 2)) := by rw [hf, feed_cons, he1, hf2, feed_cons, take_one]
  by_cases c1 : (p[i + 1].toNat : Int) = 255
  · have hc := told_command_data V p[i + 1] c1
    have i2 : TakeInv p (i + 2, V.command p[i + 1]) := inv.step (dataEv [p[i + 1]]) (by omega) (by omega) (fun _ => rfl) (by simp [dataEv]; omega) hc.1 hc.2.1 (by rw [hc.2.2.1]; exact h6) (by rw [hc.2.2.2]; exact h7) hcom.symm
    simp [hi, hb, byteA, hw1, z1, z0, hg, c1]
    refine callK.le (args' := [.list true 6 (evsA V.told), evA (dataEv [p[i + 1]])]) (by simp [evA, dataEv, byteA, bytesA, c1]) (hadd _ (by simp [dataEv]) (fun _ => ⟨rfl, by simp [dataEv]⟩)) ?_
    rintro v σ' ⟨rfl, rfl⟩
    simp [hw2]
    exact ⟨i + 2, V.command p[i + 1], i2, by omega, by rw [hc.1]; exact AV.le_refl _, by simp⟩
  by_cases c2 : (p[i + 1].toNat : Int) = 250
  · have hR := command_sub V p[i + 1] c2
    simp [hi, hb, byteA, hw1, z1, z0, hg, c2, hw2]
    refine callK.of (sub_calls false p (i + 2) (V.command p[i + 1]) (by rw [hR]) (by rw [hR]; exact h6) (by rw [hR]; exact h7) σ (by omega) (by omega)) ?_
    rintro v σ' ⟨⟨e, n, rfl, hs⟩, rfl⟩
    have hRt : (V.command p[i + 1]).told = V.told := by rw [hR]; rfl
    rcases hs with ⟨rfl, hs1, hs2⟩ | ⟨next, W, rfl, b1, b2, b3, b4, b5, b6, b7, b8, b9⟩
    · have hz' := hz ((V.command p[i + 1]).feed (p.drop (i + 2))) (by rw [hs2, hRt]) (by rw [← h8, hcom]) (by simp [hi, hs1])
      simp [evA]
      intro q hq
      exact ⟨_, AV.le_refl _, sub_upd_self _ _ _ hq, hz'⟩
    · rw [hRt] at b8
      have i2 : TakeInv p (next, W) := inv.step e (by omega) b2 (fun h => by rw [b3] at h; cases h) (by omega) b8 b5 b6 b7 (by rw [b9, hcom])
      simp [evA, byteA, b3]
      intro q hq
      rw [if_neg (by omega)]
      have hb4 := add_merge a V.told e (σ'.upd q [.lit (.int .i64 3), .lit (.int .u8 e.verb.toNat), .lit (.int .u8 e.opt.toNat), .list false 1 (bytesA e.data), .lit (.bool e.long), .lit (.bool e.broken)]) (by omega) (by omega) (by omega) h2 (fun h => by rw [b3] at h; cases h)
      refine callK.le (args' := [.list true 6 (evsA V.told), evA e]) (by simp [evA, byteA, b3]) hb4 ?_
      rintro v σ2 ⟨rfl, rfl⟩
      simp
      exact ⟨next, W, i2, by omega, ⟨by rw [b8]; exact AV.le_refl _, by simp⟩, sub_upd_self _ _ _ hq⟩
  by_cases c3 : 251 ≤ (p[i + 1].toNat : Int) ∧ (p[i + 1].toNat : Int) ≤ 254
  · have hV := command_verb V p[i + 1] c1 c2 c3
    by_cases hi2 : i + 2 < p.length
    case neg =>
      have z2 : (p.length : Int) ≤ (i : Int) + 2 := by omega
      have hd : p.drop (i + 2) = [] := List.drop_of_length_le (by omega)
      have hz' := hz { V with verb := p[i + 1], state := 2 } rfl (by rw [← h8, hcom, hd, hV]; rfl) (by simp [hi])
      simp [hi, hb, byteA, hw1, z1, z0, hg, c1, c2, c3.1, c3.2, hw2, z2]
      exact ⟨_, AV.le_refl _, hz'⟩
    have z2 : ¬ (p.length : Int) ≤ (i : Int) + 2 := by omega
    have hf3 := drop_cons p (i + 2) hi2
    have hg2 : (bytesA p)[i + 2]? = some (byteA p[i + 2]) := by rw [bytesA_get, List.getElem?_eq_getElem hi2]; rfl
    have hT : (V.command p[i + 1]).take p[i + 2] = (V.command p[i + 1]).tell ⟨2, p[i + 1], p[i + 2], [], false, false⟩ := by rw [hV]; simp [Rd.take]
    have ht : ((V.command p[i + 1]).take p[i + 2]).told = mergeStep V.told ⟨2, p[i + 1], p[i + 2], [], false, false⟩ := by rw [hT, told_tell, hV]; rfl
    have i2 : TakeInv p (i + 3, (V.command p[i + 1]).take p[i + 2]) := inv.step ⟨2, p[i + 1], p[i + 2], [], false, false⟩ (by omega) (by omega) (fun h => by cases h) (by simp) ht (by rw [hT]; rfl) (by rw [hT, (tell_sub ..).1, hV]; exact h6) (by rw [hT]; simp only [Rd.tell, Rd.flush]; rw [hV]; exact h7) (by rw [hcom, hf3, feed_cons])
    simp [hi, hb, byteA, hw1, z1, z0, hg, c1, c2, c3.1, c3.2, hw2, z2, z3, hg2, show ((i : Int) + 2).toNat = i + 2 by omega]
    refine callK.le (args' := [.list true 6 (evsA V.told), evA ⟨2, p[i + 1], p[i + 2], [], false, false⟩]) (by simp [evA, byteA, bytesA]; exact AV.le_agg (by simp)) (hadd _ (by simp) (fun h => by cases h)) ?_
    rintro v σ' ⟨rfl, rfl⟩
    simp [hw3]
    exact ⟨i + 3, _, i2, by omega, by rw [ht]; exact AV.le_refl _, by simp⟩
  · have hT := command_tell V p[i + 1] c1 c2 c3
    have ht : (V.command p[i + 1]).told = mergeStep V.told ⟨1, p[i + 1], 0, [], false, false⟩ := by rw [hT, told_tell]
    have i2 : TakeInv p (i + 2, V.command p[i + 1]) := inv.step ⟨1, p[i + 1], 0, [], false, false⟩ (by omega) (by omega) (fun h => by cases h) (by simp) ht (by rw [hT]; rfl) (by rw [hT, (tell_sub ..).1]; exact h6) (by rw [hT]; simp only [Rd.tell, Rd.flush]; exact h7) hcom.symm
    by_cases c4 : 251 ≤ (p[i + 1].toNat : Int)
    · have c5 : ¬ (p[i + 1].toNat : Int) ≤ 254 := fun h => c3 ⟨c4, h⟩
      simp [hi, hb, byteA, hw1, z1, z0, hg, c1, c2, c4, c5]
      refine callK.le (args' := [.list true 6 (evsA V.told), evA ⟨1, p[i + 1], 0, [], false, false⟩]) (by simp [evA, byteA, bytesA]; exact AV.le_agg (by simp)) (hadd _ (by simp) (fun h => by cases h)) ?_
      rintro v σ' ⟨rfl, rfl⟩
      simp [hw2]
      exact ⟨i + 2, _, i2, by omega, by rw [ht]; exact AV.le_refl _, by simp⟩
    · simp [hi, hb, byteA, hw1, z1, z0, hg, c1, c2, c4]
      refine callK.le (args' := [.list true 6 (evsA V.told), evA ⟨1, p[i + 1], 0, [], false, false⟩]) (by simp [evA, byteA, bytesA]; exact AV.le_agg (by simp)) (hadd _ (by simp) (fun h => by cases h)) ?_
      rintro v σ' ⟨rfl, rfl⟩
      simp [hw2]
      exact ⟨i + 2, _, i2, by omega, by rw [ht]; exact AV.le_refl _, by simp⟩

set_option maxRecDepth 4000 in
theorem read_calls (a : Bool) (p : List UInt8) (σ : Store) (hp : p.length ≤ 100000) :
    ACalls Try.prog 9 [.list a 1 (bytesA p)] σ fun v σ' => v = .tuple [.list false 6 (evsA (Rd.init.feed p).told), .lit (.bool ((Rd.init.feed p).state != 0))] ∧ σ' = σ := by
  refine ACalls.of_awp follows (st := st9) (plans := pl9) (n := 16) Try.func9 rfl (by kernel_rfl) (by kernel_rfl) (by kernel_rfl) ?_
  simp
  refine callK.of (take_stream false p σ hp) ?_
  rintro v σ' ⟨⟨n, rfl, hn⟩, rfl⟩
  simp
  have hd : decide (n < p.length) = ((Rd.init.feed p).state != 0) := by
    by_cases h : n < p.length
    · have := hn.1 h; simp [h, this]
    · have : ¬ (Rd.init.feed p).state ≠ 0 := fun e => h (hn.2 e)
      simp only [Decidable.not_not] at this
      simp [h, this]
  rw [hd]; exact AV.le_refl _

theorem reads_law (p cuts : List UInt8) (h1 : cuts.length ≤ 9223372036854775807) :
    ACalls Try.prog 5 [.list false 1 (bytesA p), .list false 1 (bytesA cuts)] (fun _ => none) fun v _ => v = .lit (.bool true) := by
  refine ACalls.of_awp follows (st := st5) (plans := pl5) (n := 33) Try.func5 rfl (by kernel_rfl) (by kernel_rfl) (by kernel_rfl) ?_
  simp
  refine callK.of (awake_calls _) ?_
  rintro v σ' ⟨rfl, rfl⟩
  simp
  refine callK.of (cut_calls false p 1500 _ (by omega)) ?_
  rintro v σ' ⟨rfl, rfl⟩
  have hp : (p.take 1500).length ≤ 10000 := by simp; omega
  simp
  refine callK.of (feeds_calls false false (p.take 1500) cuts _ hp h1) ?_
  rintro v σ' ⟨rfl, rfl⟩
  simp
  refine callK.of (read_calls false (p.take 1500) _ (by omega)) ?_
  rintro v σ' ⟨rfl, rfl⟩
  simp
  have hm1 := merge_fedAll (p.take 1500) cuts
  rw [hm1.1, hm1.2]
  have hl : (Rd.init.feed (p.take 1500)).told.length ≤ 1000000 := by
    rw [← hm1.1]
    have q1 := merge_size (fedAll (p.take 1500) cuts)
    have q2 := St.cuts_ok (St.start_ok (p.take 1500)) cuts
    have q3 := fed_size _ ((St.start (p.take 1500)).cuts cuts).p q2.1 q2.2.1
    have q4 := q2.2.2.1
    have q5 : (fedAll (p.take 1500) cuts).length ≤ 100000 := by simp only [fedAll, List.length_append]; omega
    omega
  generalize (Rd.init.feed (p.take 1500)).told = m at *
  refine callK.of (back_calls false m _ hl) ?_
  rintro v σ' ⟨rfl, rfl⟩
  simp
  refine callK.of (sameEv_calls true _ m m _ hl) ?_
  rintro v σ' ⟨rfl, rfl⟩
  simp
  exact ⟨_, Store.sub_refl _⟩
end Go.Proofs.Ytkfhpnfgnjmdbaa
