/-
  The reference: an event behind others.
-/
import Derived.Test.YtkfhpnfgnjmdbaaPCuts
namespace Go.Proofs.Ytkfhpnfgnjmdbaa
open Go Go.AL

def addEv (l : List Ev) (e : Ev) : List Ev :=
  if e.kind = 0 then match l.getLast? with
    | some last => if last.kind = 0 then l.dropLast ++ [dataEv (last.data ++ e.data)] else l ++ [e]
    | none => l ++ [e]
  else l ++ [e]

set_option maxHeartbeats 1000000 in
set_option maxRecDepth 4000 in
theorem add_calls (l : List Ev) (e : Ev) (σ : Store) (hl : l.length ≤ 1000000) (hb : bytesIn l ≤ 1000000) (he : e.data.length ≤ 1000000) :
    ACalls Try.prog 26 [.list true 6 (evsA l), evA e] σ fun v σ' => v = .list true 6 (evsA (addEv l e)) ∧ σ' = σ := by
  refine ACalls.of_awp follows (st := st26) (plans := pl26) (n := 49) Try.func26 rfl (by kernel_rfl) (by kernel_rfl) (by kernel_rfl) ?_
  rcases List.eq_nil_or_concat l with ho | ⟨init, last, ho⟩
  · subst ho
    by_cases hk : e.kind = 0
    · simp [evA, byteA, evsA, hk]
      intro p hp
      exact ⟨by simp [addEv, hk, evA, byteA], by (intro q; simp only [Store.upd, Store.del]; (repeat' split) <;> simp_all)⟩
    · simp [evA, byteA, evsA, hk]
      intro p hp
      exact ⟨by simp [addEv, hk, evA, byteA], by (intro q; simp only [Store.upd, Store.del]; (repeat' split) <;> simp_all)⟩
  · have ho' : l = init ++ [last] := by rw [ho]; simp
    have hlen : l.length = init.length + 1 := by rw [ho]; simp
    have hn1 : IntKind.i64.wrap ((l.length : Int) - 1) = (init.length : Int) := by rw [hlen, wrap_i64 (by omega) (by omega)]; omega
    have hlast : l.getLast? = some last := by rw [ho]; simp
    have hgl : (evsA l)[init.length]? = some (evA last) := by rw [ho']; simp [evsA]
    have hil : init.length < l.length := by omega
    have hli : l[init.length] = last := by simp [ho']
    have hpos : 0 < l.length := by omega
    have hti : (evsA l).take init.length = evsA init := by rw [ho']; simp [evsA]
    have hld : last.data.length ≤ 1000000 := by
      have := bytesIn_le (l := l) (e := last) (by rw [ho']; simp)
      omega
    by_cases hk : e.kind = 0
    · by_cases hk2 : last.kind = 0
      · simp [evA, byteA, hk, hn1, hgl, hil, hpos, hk2, hti, hli]
        intro p hp
        have hadd : addEv l e = init ++ [dataEv (last.data ++ e.data)] := by simp [addEv, hk, hlast, hk2, ho]
        have hini : init.length < 1000000 := by omega
        have hle : init.length ≤ l.length := by omega
        repeat' apply And.intro
        all_goals repeat' (first
          | (intro q hq; rw [ite_none] at hq; obtain ⟨n1, n2⟩ := hq; have n3 := Ne.symm n1; try simp [n1, n3, hk, hn1, hgl, hil, hpos, hk2, hle, hti, hli])
          | (refine callK.of (copy_calls false last.data _ (by omega)) ?_; rintro v σ' ⟨rfl, rfl⟩; first | simp [n1, n3, hk, hn1, hil, hle, hli, hti] | simp [hk, hn1, hil, hle, hli, hti])
          | apply And.intro
          | omega
          | (rw [hadd, evsA_append]; simp [evsA, evA, dataEv, byteA, bytesA_append]; done)
          | (intro q; simp only [Store.upd, Store.del]; (repeat' split) <;> simp_all))
      · simp [evA, byteA, hk, hn1, hgl, hil, hpos, hk2, hti, hli]
        intro p hp
        refine ⟨by omega, by omega, ?_, by (intro q; simp only [Store.upd, Store.del]; (repeat' split) <;> simp_all)⟩
        have hadd : addEv l e = l ++ [e] := by simp [addEv, hk, hlast, hk2]
        rw [hadd, evsA_append]; simp [evsA, evA, byteA, hk]
    · simp [evA, byteA, hk]
      intro p hp
      refine ⟨by omega, by omega, ?_, by (intro q; simp only [Store.upd, Store.del]; (repeat' split) <;> simp_all)⟩
      have hadd : addEv l e = l ++ [e] := by simp [addEv, hk]
      rw [hadd, evsA_append]; simp [evsA, evA, byteA]
end Go.Proofs.Ytkfhpnfgnjmdbaa
