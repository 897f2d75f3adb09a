/-
  What is said is read again; long subnegotiations.
-/
import Derived.Test.YtkfhpnfgnjmdbaaDoorPRefEsc
namespace Go.Proofs.YtkfhpnfgnjmdbaaDoor
open Go Go.AL

theorem esc_cons (b : UInt8) (l : List UInt8) : esc (b :: l) = (if (b.toNat : Int) = 255 then [b, b] else [b]) ++ esc l := by
  have : b :: l = [b] ++ l := rfl
  rw [this, esc, escOf_append]
  congr 1
  exact esc_snoc [] b
theorem feed_app (r : Rd) (p q : List UInt8) : r.feed (p ++ q) = (r.feed p).feed q := by simp [Rd.feed]
theorem feed_esc_sub (R : Rd) (o : UInt8) (all p : List UInt8) : (subRd R o all).feed (esc p) = subRd R o (all ++ p) := by
  induction p generalizing all with
  | nil => simp [esc, escOf, Rd.feed]
  | cons b p ih =>
    rw [esc_cons, feed_app]
    by_cases hb : (b.toNat : Int) = 255
    · rw [if_pos hb]
      show (((subRd R o all).take b).take b).feed (esc p) = _
      rw [subRd_esc _ _ _ _ hb, subRd_two _ _ _ _ hb, ih]; simp
    · rw [if_neg hb]
      show ((subRd R o all).take b).feed (esc p) = _
      rw [subRd_take _ _ _ _ hb, ih]; simp
theorem feed_subBytes (V : Rd) (hs : V.state = 0) (hsub : V.sub = []) (hlong : V.long = false) (o : UInt8) (p : List UInt8) : V.feed (subBytes o p) = (subRd { V with state := 3 } o p).fin false := by
  rw [subBytes, feed_app, feed_app]
  have h1 : V.feed [255, 250, o] = subRd { V with state := 3 } o [] := by
    show ((V.take 255).take 250).take o = _
    rw [take_esc V 255 hs (by decide), take_one, show V.command 250 = { V with state := 3 } by simp [Rd.command]]
    exact subRd_start { V with state := 3 } rfl hsub hlong o
  rw [h1, feed_esc_sub]
  show ((subRd { V with state := 3 } o ([] ++ p)).take 255).take 240 = _
  rw [subRd_esc _ _ _ _ (by decide), subRd_end _ _ _ _ (by decide)]; simp
theorem told_subBytes (V : Rd) (hs : V.state = 0) (hsub : V.sub = []) (hlong : V.long = false) (o : UInt8) (p : List UInt8) :
    (V.feed (subBytes o p)).told = mergeStep V.told ⟨3, 0, o, p.take 256, decide (256 < p.length), false⟩ ∧ (V.feed (subBytes o p)).state = 0 ∧ (V.feed (subBytes o p)).sub = [] ∧ (V.feed (subBytes o p)).long = false := by
  rw [feed_subBytes V hs hsub hlong]
  exact ⟨fin_told _ _ _ _, rfl, rfl, rfl⟩

/-- The row that is filled, as far as it is. -/
def fillA1 (b : UInt8) (i n : Nat) : List AV := bytesA (List.replicate i b) ++ bytesA (List.replicate (n - i) 0)
theorem fill_set (b : UInt8) (i n : Nat) (h : i < n) : (fillA1 b i n).set i (byteA b) = fillA1 b (i + 1) n := by
  unfold fillA1
  rw [List.set_append_right _ _ (by simp)]
  have e : n - i = (n - (i + 1)) + 1 := by omega
  rw [e, List.replicate_succ, List.replicate_succ']
  simp [bytesA]

set_option maxRecDepth 4000 in
set_option maxHeartbeats 1000000 in
theorem long_law (n : Nat) (b : UInt8) (σ : Store) (hn : n < 65536) :
    ACalls Tryd.prog 3 [.lit (.int .u16 n), byteA b] σ fun v _ => v = .lit (.bool true) := by
  refine ACalls.of_awp follows (st := st3) (plans := pl3) (n := 81) Tryd.func3 rfl (by kernel_rfl) (by kernel_rfl) (by kernel_rfl) ?_
  simp
  refine callK.of (awake_calls _) ?_
  rintro v σ ⟨rfl, rfl⟩
  have hsz : IntKind.i64.wrap ((n : Int).tmod 600) = ((n % 600 : Nat) : Int) := by
    have : (n : Int).tmod 600 = ((n % 600 : Nat) : Int) := by rw [Int.tmod_eq_emod_of_nonneg (by omega)]; omega
    rw [this, wrap_i64 (by omega) (by omega)]
  have hs : n % 600 < 600 := Nat.mod_lt _ (by omega)
  generalize n % 600 = size at *
  simp [hsz, show (size : Int) ≤ 9223372036854775807 by omega, show (size : Int) ≤ 281474976710656 by omega]
  intro p hp
  refine codeK.cut (fun e A' σ2 => e = .exit 0 ∧ LeL A' [(5, .lit (.int .i64 size)), (6, rowA p size (List.replicate size b))] ∧ Store.sub (σ.upd p (bytesA (List.replicate size b))) σ2) ?_ ?_
  · refine codeK.loop follows (st := st3) (plans := pl3) (X := Nat) (fun i => i ≤ size)
      (fun i => [(1, byteA b), (5, .lit (.int .i64 size)), (6, .lit (.slice (some ⟨p, 0, none⟩) size size)), (18, .lit (.int .i64 size)), (19, .lit (.int .i64 i))]) (fun i => σ.upd p (fillA1 b i size)) (fun i => size - i) 0 (by kernel_rfl) (by omega) (by simp) ?_ fun i hi => ?_
    · refine sub_eq ?_
      simp [fillA1, bytesA, byteA]
    by_cases hlt : i < size
    · have hg : i < (fillA1 b i size).length := by simp [fillA1]; omega
      have hwr : IntKind.i64.wrap ((i : Int) + 1) = ((i + 1 : Nat) : Int) := wrap_i64 (by omega) (by omega)
      have hfs := fill_set b i size hlt
      simp [hlt, byteA] at hfs ⊢
      exact ⟨hg, i + 1, by omega, by omega, by rw [hwr]; exact AV.le_refl _, by rw [hfs]; exact Store.sub_refl _⟩
    · obtain rfl : i = size := by omega
      simp [rowA, fillA1, bytesA]
  · rintro e A' σ2 ⟨rfl, hA, hσ⟩
    refine View.leL hA (View.sub hσ ?_)
    refine View.freeze (t := 6) (p := p) (cap := size) (sz := 1) (vs := bytesA (List.replicate size b)) (rest := []) (by simp [rowA]) (by rw [flat_bytesA]; simp [Store.upd]) (by rw [flat_bytesA]; simp) (by rw [maxLen_val]; omega) (by simp) ?_ (View.here ?_)
    · intro v hv
      obtain ⟨b, _, rfl⟩ := List.mem_map.1 hv
      rfl
    · have hdel : (σ.upd p (bytesA (List.replicate size b))).del p = σ := by
        funext q
        simp only [Store.del, Store.upd]
        split
        · rename_i hq; rw [hq, hp]
        · rfl
      rw [hdel]
      have hsub := told_subBytes Rd.init rfl rfl rfl 7 (List.replicate size b)
      have hx : (subBytes 7 (List.replicate size b)).length ≤ 10000 := by
        have := (esc_length (List.replicate size b)).2
        simp [subBytes] at this ⊢; omega
      have hm := merge_fedAll (subBytes 7 (List.replicate size b)) []
      simp
      refine callK.of (subBytes_calls false 7 (List.replicate size b) σ (by simp; omega)) ?_
      rintro v σ' ⟨rfl, rfl⟩
      simp
      refine callK.le (args' := [.list false 1 (bytesA (subBytes 7 (List.replicate size b))), .list false 1 (bytesA [])]) (by simp [bytesA]) (feeds_calls false false (subBytes 7 (List.replicate size b)) [] σ' hx (by simp)) ?_
      rintro v σ' ⟨rfl, rfl⟩
      have hmer : ∀ d lg, mergeStep Rd.init.told ⟨3, 0, 7, d, lg, false⟩ = [⟨3, 0, 7, d, lg, false⟩] := fun d lg => by simp [Rd.told, Rd.init, Rd.flush, merge, mergeStep]
      rw [hm.1, hm.2, hsub.1, hsub.2.1, hmer]
      have hlg : decide (256 < (List.replicate size b).length) = decide (256 < (size : Int)) := by rw [decide_eq_decide]; simp; omega
      rw [hlg]
      have htk : (bytesA (List.replicate size b)).take (min size 256) = bytesA ((List.replicate size b).take 256) := by
        rw [bytesA_take]
        congr 1
        rcases Nat.lt_or_ge size 256 with h | h
        · rw [List.take_of_length_le (by simp; omega), List.take_of_length_le (by simp; omega)]
        · rw [show min size 256 = 256 by omega]
      have hmn : (min size 256 : Nat) ≤ size := by omega
      have hmi : (if (256 : Int) < (size : Int) then (256 : Int) else (size : Int)) = ((min size 256 : Nat) : Int) := by split <;> omega
      generalize min size 256 = mm at *
      generalize hD : (List.replicate size b).take 256 = d at *
      simp [evA, byteA, hmi, hmn, htk]
      refine callK.of (same_calls _ _ d d _) ?_
      rintro v σ' ⟨rfl, rfl⟩
      simp
      exact ⟨_, Store.sub_refl _⟩
end Go.Proofs.YtkfhpnfgnjmdbaaDoor
