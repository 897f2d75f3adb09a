/-
  tally.New.
-/
import Derived.Test.YtgelodhkbpmlfaaNPart10
import Derived.Tactics
import Derived.Tactics2
import Derived.Defers
import Derived.Laws.Pointers
import Derived.Laws.LoneSync
import Derived.RegionTactic
import Derived.RegionCalls
import Derived.ChangeAlike
set_option linter.unusedSimpArgs false
set_option linter.unusedVariables false
namespace Go.Proofs.Ytgelodhkbpmlfaa
open Go Go.AL

/-- What was wrong with the names. -/
def newE (l : List (List UInt8)) : Int := if 64 < l.length then 3 else if badN l then 4 else if (Lib.compact (sortL l)).length ≠ l.length then 1 else 0
def u64s (xs : List Nat) : List AV := xs.map fun (n : Nat) => .lit (.int .u64 n)
@[simp] theorem u64s_length (xs : List Nat) : (u64s xs).length = xs.length := by simp [u64s]
def tA (ns : List (List UInt8)) (c : Nat) (m : Option Nat) : List AV := [.list false 1 (strsA ns), .row c ns.length, .lit (.int .u32 (if m.isSome then 1 else 0)), .lit (.int .i32 0), .lit (.int .u32 0), .lit (.map m)]
set_option maxRecDepth 8000 in
set_option maxHeartbeats 1000000 in
theorem new_calls (V : AV) (l : List (List UInt8)) (hl : l.length ≤ 1000000) (σ : Store) (hV : NV σ V l) :
    ACalls Try.prog 8 [V] σ fun v σ' => Store.sub σ σ' ∧ ((¬ newE l = 0 ∧ v = .tuple [.lit (.pointer none), .lit (.int .i64 (newE l))]) ∨
      (newE l = 0 ∧ ∃ b c : Nat, σ b = none ∧ σ c = none ∧ ¬ b = c ∧ v = .tuple [ptrA b, .lit (.int .i64 0)] ∧ σ' b = some (tA (sortL l) c none) ∧ σ' c = some (u64s (List.replicate l.length 0)))) := by
  have hV0 := hV
  have herr : ∀ z : Int, ¬ z = 0 → newE l = z → ∃ v', (AV.tuple [.lit (.pointer none), .lit (.int .i64 z)]).le v' ∧ ∃ x, Store.sub x σ ∧ Store.sub σ x ∧ ((¬ newE l = 0 ∧ v' = .tuple [.lit (.pointer none), .lit (.int .i64 (newE l))]) ∨
      (newE l = 0 ∧ ∃ b : Nat, σ b = none ∧ ∃ c : Nat, σ c = none ∧ ¬ b = c ∧ v' = .tuple [ptrA b, .lit (.int .i64 0)] ∧ x b = some (tA (sortL l) c none) ∧ x c = some (u64s (List.replicate l.length 0)))) := fun z hz h => by
    rw [h]
    exact ⟨_, AV.le_refl _, σ, Store.sub_refl _, Store.sub_refl _, .inl ⟨hz, rfl⟩⟩
  refine ACalls.of_awp follows (st := st8) (plans := pl8) (n := 40) Try.func8 rfl (by kernel_rfl) (by kernel_rfl) (by kernel_rfl) ?_
  by_cases h64 : 64 < l.length
  · have h64' : (64 : Int) < l.length := by omega
    have e : newE l = 3 := by simp [newE, h64]
    have he := herr 3 (by decide) e
    rw [e] at he ⊢
    rcases hV with ⟨o, rfl⟩ | ⟨p, cap, rest, rfl, hp⟩
    all_goals
      simp [h64, h64']
      simpa using he
  have h64' : ¬ (64 : Int) < l.length := by omega
  rcases hV with ⟨o, rfl⟩ | ⟨p, cap, rest, rfl, hp⟩
  case' inl =>
    simp [h64, h64']
    refine codeK.loop follows (st := st8) (plans := pl8) (X := Nat) (fun k => k ≤ l.length ∧ badN (l.take k) = false)
      (fun k => [(0, .list false 1 (strsA l)), (10, .list false 1 (strsA l)), (11, .lit (.int .i64 l.length)), (12, .lit (.int .i64 k))]) (fun _ => σ) (fun k => l.length - k) 0 (by kernel_rfl)
      (by simp [badN]) (by simp) (Store.sub_refl _) fun k hk => ?_
    have hvc := values_calls (.list false 1 (strsA l)) l σ (.inl ⟨_, rfl⟩)
    have hsc := fun (b : Nat) (hb : σ b = none) => sorted_calls b (.list false 1 (strsA l)) l hl (σ.upd b [.list false 1 (strsA l)]) (by simp) (.inl ⟨_, rfl⟩)
  case' inr =>
    simp [h64, h64']
    refine codeK.loop follows (st := st8) (plans := pl8) (X := Nat) (fun k => k ≤ l.length ∧ badN (l.take k) = false)
      (fun k => [(0, sliA p l.length cap), (10, sliA p l.length cap), (11, .lit (.int .i64 l.length)), (12, .lit (.int .i64 k))]) (fun _ => σ) (fun k => l.length - k) 0 (by kernel_rfl)
      (by simp [badN]) (by simp) (Store.sub_refl _) fun k hk => ?_
    have hvc := values_calls (sliA p l.length cap) l σ hV0
    have hsc := fun (b : Nat) (hb : σ b = none) => sorted_calls b (sliA p l.length cap) l hl (σ.upd b [sliA p l.length cap]) (by simp) (hV0.more (Store.sub_upd hb (Store.sub_refl _)))
  all_goals
    obtain ⟨hk, hkb⟩ := hk
    by_cases hlt : k < l.length
    · obtain ⟨x, hx⟩ : ∃ x, l[k]'hlt = x := ⟨_, rfl⟩
      have htk : l.take (k + 1) = l.take k ++ [x] := by rw [List.take_succ_eq_append_getElem hlt, hx]
      have hlw : IntKind.i64.wrap ((k : Int) + 1) = (k : Int) + 1 := wrap_i64 (by omega) (by omega)
      have hsz := toB_size x
      have hb := badN_snoc _ x hkb
      rw [← htk] at hb
      have hg1 : (strsA l)[k]? = some (.lit (.string (toB x))) := by simp [strsA, strV, hlt, hx]
      have hg2 : ∀ h : k < (strsA l).length, (strsA l)[k]'h = .lit (.string (toB x)) := fun h => by simp [strsA, strV, hx]
      have hlt' : (k : Int) < l.length := by omega
      have hfin : ∃ y, (y ≤ l.length ∧ badN (l.take y) = false) ∧ l.length - y < l.length - k ∧ (AV.lit (.int .i64 (IntKind.i64.wrap ((k : Int) + 1)))).le (.lit (.int .i64 y)) ∨ ¬ badN (l.take (k + 1)) = false := by
        by_cases hbb : badN (l.take (k + 1)) = false
        · exact ⟨k + 1, .inl ⟨⟨by omega, hbb⟩, by omega, by rw [hlw]; exact AV.le_refl _⟩⟩
        · exact ⟨k, .inr hbb⟩
      have hbl : badN (l.take (k + 1)) = true → newE l = 4 := fun h => by simp [newE, h64, badN_pre l (k + 1) h]
      by_cases hbad : x.length < 1 ∨ 40 < x.length
      · have he := herr 4 (by decide) (hbl (by rw [hb]; simpa using hbad))
        rw [hbl (by rw [hb]; simpa using hbad)] at he ⊢
        rcases hbad with h1 | h2
        · have h1 : x = [] := by simpa using h1
          first
            | have hg3 : (strsA l ++ rest)[k]? = some (.lit (.string (toB x))) := by rw [List.getElem?_append_left (by simpa using hlt)]; exact hg1
              have hln : (strsA l ++ rest).length = l.length + rest.length := by simp
              generalize strsA l ++ rest = CC at *
              have hg4 : ∀ h : k < CC.length, CC[k]'h = .lit (.string (toB x)) := fun h => by rw [List.getElem?_eq_getElem h] at hg3; exact Option.some.inj hg3
              simp [hlt, hlt', hp, hg3, hg4, hln, show k < l.length + rest.length by omega, hsz, h1, toB_toList]
            | simp [hlt, hlt', hg1, hg2, hsz, h1, toB_toList]
          simpa using he
        · have f1 : ¬ x = [] := by rintro rfl; simp at h2
          have f2 : (40 : Int) < x.length := by omega
          first
            | have hg3 : (strsA l ++ rest)[k]? = some (.lit (.string (toB x))) := by rw [List.getElem?_append_left (by simpa using hlt)]; exact hg1
              have hln : (strsA l ++ rest).length = l.length + rest.length := by simp
              generalize strsA l ++ rest = CC at *
              have hg4 : ∀ h : k < CC.length, CC[k]'h = .lit (.string (toB x)) := fun h => by rw [List.getElem?_eq_getElem h] at hg3; exact Option.some.inj hg3
              simp [hlt, hlt', hp, hg3, hg4, hln, show k < l.length + rest.length by omega, hsz, f1, f2, h2, toB_toList]
            | simp [hlt, hlt', hg1, hg2, hsz, f1, f2, h2, toB_toList]
          simpa using he
      · have hbf : badN (l.take (k + 1)) = false := by rw [hb]; simpa using hbad
        rw [not_or] at hbad
        have f1 : ¬ x = [] := by rintro rfl; simp at hbad
        have f2 : ¬ (40 : Int) < x.length := by omega
        first
          | have hg3 : (strsA l ++ rest)[k]? = some (.lit (.string (toB x))) := by rw [List.getElem?_append_left (by simpa using hlt)]; exact hg1
            have hln : (strsA l ++ rest).length = l.length + rest.length := by simp
            generalize strsA l ++ rest = CC at *
            have hg4 : ∀ h : k < CC.length, CC[k]'h = .lit (.string (toB x)) := fun h => by rw [List.getElem?_eq_getElem h] at hg3; exact Option.some.inj hg3
            simp [hlt, hlt', hp, hg3, hg4, hln, show k < l.length + rest.length by omega, hsz, f1, f2, hbad, toB_toList]
          | simp [hlt, hlt', hg1, hg2, hsz, f1, f2, hbad, toB_toList]
        exact ⟨k + 1, ⟨by omega, hbf⟩, by omega, by rw [hlw]; exact AV.le_refl _⟩
    · obtain rfl : k = l.length := by omega
      rw [List.take_of_length_le (Nat.le_refl _)] at hkb
      have hln : (sortL l).length = l.length := by simp [sortL]
      simp
      refine callK.of hvc ?_
      rintro v σ1 ⟨b0, hb0, rfl, rfl⟩
      simp
      refine callK.of (hsc b0 hb0) ?_
      rintro v σ1 ⟨rfl, rfl⟩
      have hs1 := fun x => Store.sub_upd (cs := x) hb0 (Store.sub_refl σ)
      simp
      refine callK.of (clone_calls false (sortL l) (by omega) _) ?_
      generalize hτ0 : σ.upd b0 _ = τ0 at *
      have hs1 : Store.sub σ τ0 := by rw [← hτ0]; exact hs1 _
      clear hτ0
      rintro v σ2 (⟨hn, rfl, rfl⟩ | ⟨p3, cap3, h3, hc3, hm3, rfl, hs3⟩)
      · have hl0 : l.length = 0 := by rw [← hln, hn]; rfl
        have hl1 : l = [] := List.length_eq_zero_iff.1 hl0
        have e : newE l = 0 := by subst hl1; decide +kernel
        simp
        refine callK.of (compact_none' true _) ?_
        rintro v σ3 ⟨⟨a, cap4, rfl⟩, rfl⟩
        simp [hl0, hn]
        intro c hc
        simp +contextual [ite_free]
        intro b n1 n2 hb
        refine ⟨_, AV.le_refl _, _, Store.sub_refl _, Store.sub_upd (fresh_none hs1 hb) (Store.sub_upd (fresh_none hs1 hc) hs1), .inr ⟨e, b, fresh_none hs1 hb, c, fresh_none hs1 hc, n1, rfl, ?_, ?_⟩⟩
        · skip
          simp [tA, strsA, hl0, hn]
        · simp [u64s, n1, n2]
      · have hf3 : σ2 p3 = some (strsA (sortL l) ++ tops (cap3 - (sortL l).length)) := sub_at (by rw [upd_nat, if_pos rfl]) hs3
        have hsc := compact_calls (sortL l) (by omega) p3 cap3 hc3 (tops (cap3 - (sortL l).length)) σ2 hf3
        have hs4 : Store.sub σ (σ2.del p3) := sub_del' (Store.sub_trans (Store.sub_upd (fresh_none hs1 h3) hs1) hs3) (fresh_none hs1 h3)
        simp
        refine callK.of hsc ?_
        rintro v σ3 ⟨rfl, hs5⟩
        have hs6 := Store.sub_trans hs4 hs5
        have e : newE l = if (Lib.compact (sortL l)).length ≠ l.length then 1 else 0 := by unfold newE; rw [if_neg h64, hkb]; rfl
        by_cases hcl : (Lib.compact (sortL l)).length = l.length
        · have hcl' : ((Lib.compact (sortL l)).length : Int) = l.length := by omega
          rw [if_neg (by simpa using hcl)] at e
          simp [hcl, hcl', hln]
          refine ⟨by omega, by omega, ?_⟩
          intro c hc
          simp +contextual [ite_free]
          intro b n1 n2 hb
          refine ⟨_, AV.le_refl _, _, Store.sub_refl _, Store.sub_upd (fresh_none hs6 hb) (Store.sub_upd (fresh_none hs6 hc) hs6), .inr ⟨e, b, fresh_none hs6 hb, c, fresh_none hs6 hc, n1, rfl, ?_, ?_⟩⟩
          · simp [tA, hln]
          · simp [u64s, n1, n2]
        · have hcl' : ¬ ((Lib.compact (sortL l)).length : Int) = l.length := by omega
          rw [if_pos hcl] at e
          simp [hcl, hcl', hln, e]
          exact ⟨_, AV.le_refl _, _, Store.sub_refl _, hs6, rfl⟩
end Go.Proofs.Ytgelodhkbpmlfaa
/-
  Where each name stands: a map that is made once.
-/
namespace Go.Proofs.Ytgelodhkbpmlfaa
open Go Go.AL

theorem toB_beq (a b : List UInt8) : (toB a == toB b) = (a == b) := by
  show ((toB a).data == (toB b).data) = _
  simp [toB]
/-- The first names' places. -/
def atN (ns : List (List UInt8)) (k : Nat) : List (Value × AV) := (List.range k).map fun i => (.string (toB (ns.getD i [])), .lit (.int .i64 (i : Int)))
theorem findA_atN (ns : List (List UInt8)) (s : List UInt8) : ∀ (l : List Nat) (i : Nat), findA .string (.string (toB s)) (l.map fun i => (.string (toB (ns.getD i [])), .lit (.int .i64 (i : Int)))) i =
    some ((l.findIdx? (fun c => ns.getD c [] == s)).map fun j => (i + j, .lit (.int .i64 ((l.getD j 0 : Nat) : Int)))) := by
  intro l
  induction l with
  | nil => intro i; rfl
  | cons c l ih =>
    intro i
    by_cases h : s = ns.getD c []
    · have h' : (ns.getD c [] == s) = true := by simp [h]
      have h3 : (toB s == toB (ns.getD c [])) = true := by rw [toB_beq]; simp [h]
      simp only [List.map_cons, findA, Instr.sameNow, h3, List.findIdx?_cons, h']
      simp
    · have h' : (ns.getD c [] == s) = false := by simpa using fun e => h e.symm
      have h2 : (toB s == toB (ns.getD c [])) = false := by rw [toB_beq]; simpa using h
      simp only [List.map_cons, findA, Instr.sameNow, h2, ih, List.findIdx?_cons, h', Bool.false_eq_true, if_false, Option.map_map]
      congr 1
      cases l.findIdx? (fun c => ns.getD c [] == s) with
      | none => rfl
      | some j => simp; omega
theorem setA_atN {ns : List (List UInt8)} (hn : ns.Nodup) {k : Nat} (hk : k < ns.length) : setA .string (atN ns k) (.string (toB (ns.getD k []))) (.lit (.int .i64 (k : Int))) = some (atN ns (k + 1)) := by
  have hf : (List.range k).findIdx? (fun c => ns.getD c [] == ns.getD k []) = none := by
    rw [List.findIdx?_eq_none_iff]
    intro c hc
    have hck : c < k := by simpa using hc
    have : ns.getD c [] ≠ ns.getD k [] := fun e => by
      rw [List.getD_eq_getElem?_getD, List.getD_eq_getElem?_getD, List.getElem?_eq_getElem (by omega), List.getElem?_eq_getElem hk] at e
      have := (List.getElem_inj hn).1 e
      omega
    simpa using this
  unfold setA atN
  rw [findA_atN, hf]
  simp [List.range_succ]
/-- A name's place. -/
def ixN (ns : List (List UInt8)) (s : List UInt8) : Option Nat := ns.findIdx? (· == s)
theorem ixN_range (ns : List (List UInt8)) (s : List UInt8) : (List.range ns.length).findIdx? (fun c => ns.getD c [] == s) = ixN ns s := by
  have h : ns = (List.range ns.length).map fun c => ns.getD c [] := by
    apply List.ext_getElem
    · simp
    · intro i h1 h2; simp [List.getD_eq_getElem?_getD, h1]
  unfold ixN
  conv => rhs; rw [h]
  rw [List.findIdx?_map]
  rfl
theorem get_atN (P : Program) (et : TypeId) (ns : List (List UInt8)) (s : List UInt8) (hz : zeroV P et = some (.lit (.int .i64 0))) : getA P et true .string (.string (toB s)) (atN ns ns.length) =
    some (.tuple [.lit (.int .i64 (((ixN ns s).getD 0 : Nat) : Int)), .lit (.bool (ixN ns s).isSome)]) := by
  unfold getA atN
  rw [findA_atN, ixN_range]
  cases hc : ixN ns s with
  | none => simp [hz, AV.drop1]
  | some j =>
    have hj : j < ns.length := (List.findIdx?_eq_some_iff_getElem.1 hc).1
    have : (List.range ns.length).getD j 0 = j := by simp [hj]
    simp only [Option.map_some, this]
    rfl
/-- A tally's cells. -/
def tS (ns : List (List UInt8)) (c : Nat) (done mu : Int) (m : Option Nat) : List AV := [.list false 1 (strsA ns), .row c ns.length, .lit (.int .u32 done), .lit (.int .i32 mu), .lit (.int .u32 0), .lit (.map m)]
set_option maxRecDepth 8000 in
set_option maxHeartbeats 1000000 in
theorem index_calls (b c : Nat) (ns : List (List UInt8)) (hn : ns.Nodup) (hl : ns.length ≤ 1000000) (done mu : Int) (m : Option Nat) (σ : Store) (hb : σ b = some (tS ns c done mu m)) :
    ACalls Try.prog 37 [ptrA b] σ fun v σ' => v = .tuple [] ∧ ∃ q : Nat, σ (mkey q) = none ∧ σ' = (σ.upd b (tS ns c done mu (some q))).put q (mapA (atN ns ns.length)) := by
  unfold tS at hb
  refine ACalls.of_awp follows (st := st37) (plans := pl37) (n := 30) Try.func37 rfl (by kernel_rfl) (by kernel_rfl) (by kernel_rfl) ?_
  simp [hb]
  intro q hq
  refine codeK.loop follows (st := st37) (plans := pl37) (X := Nat) (fun k => k ≤ ns.length)
    (fun k => [(0, ptrA b), (16, .list false 1 (strsA ns)), (17, .lit (.int .i64 ns.length)), (18, .lit (.int .i64 k))]) (fun k => (σ.upd b (tS ns c done mu (some q))).put q (mapA (atN ns k))) (fun k => ns.length - k) 0 (by kernel_rfl) (Nat.zero_le _) (by simp) ?_ fun k hk => ?_
  · refine Store.sub2 (fun p => ?_) (fun g => ?_)
    · right; simp [tS]
    · right; simp; rfl
  by_cases hlt : k < ns.length
  · obtain ⟨x, hx⟩ : ∃ x, ns.getD k [] = x := ⟨_, rfl⟩
    have hx2 : ns[k] = x := by rw [← hx]; simp [List.getD_eq_getElem?_getD, hlt]
    have hg1 : (strsA ns)[k]? = some (.lit (.string (toB x))) := by simp [strsA, strV, hlt, hx2]
    have hg2 : ∀ h : k < (strsA ns).length, (strsA ns)[k]'h = .lit (.string (toB x)) := fun h => by simp [strsA, strV, hx2]
    have hset := setA_atN hn hlt
    rw [hx] at hset
    have hlw : IntKind.i64.wrap ((k : Int) + 1) = ((k + 1 : Nat) : Int) := wrap_i64 (by omega) (by omega)
    simp [hlt, hg1, hg2, tS, hset]
    refine ⟨k + 1, by omega, by omega, by rw [hlw]; exact AV.le_refl _, ?_⟩
    exact Store.sub_refl _
  · obtain rfl : k = ns.length := by omega
    simp
    exact ⟨_, AV.le_refl _, _, Store.sub_refl _, rfl, q, hq, rfl⟩
end Go.Proofs.Ytgelodhkbpmlfaa
/-
  sync.Once: what it calls, step by step (turned from the kit's worked Lazy proofs): the lock, the mark, the two calls that are deferred; then doSlow, for any function whose contract is known.
-/
namespace Go.Proofs.Ytgelodhkbpmlfaa
open Go Go.AL

theorem oDisable (w : World) : (callFunc 73 #[]).run Try.prog w = .ok (.value (.tuple #[])) w := run_call_mark0 Try.func73 (by kernel_rfl) (by kernel_rfl) (by kernel_rfl) .disable (by kernel_rfl) w
theorem oEnable (w : World) : (callFunc 75 #[]).run Try.prog w = .ok (.value (.tuple #[])) w := run_call_mark0 Try.func75 (by kernel_rfl) (by kernel_rfl) (by kernel_rfl) .enable (by kernel_rfl) w
theorem oAcquire (a : Addr) (w : World) : (callFunc 76 #[.pointer (some a)]).run Try.prog w = .ok (.value (.tuple #[])) w := run_call_marked Try.func76 (by kernel_rfl) (by kernel_rfl) (by kernel_rfl) .acquire (by kernel_rfl) a w
theorem oRelease (a : Addr) (w : World) : (callFunc 78 #[.pointer (some a)]).run Try.prog w = .ok (.value (.tuple #[])) w := run_call_marked Try.func78 (by kernel_rfl) (by kernel_rfl) (by kernel_rfl) .releaseMerge (by kernel_rfl) a w

set_option maxRecDepth 100000 in
theorem oStore (a : Addr) (x : Value) (u : FrameMode) (w : World) (hc : w.cell? a = some x) (hz : w.frozen? a = false) :
    CallsD Try.prog 61 #[.pointer (some a), .bool true] u w fun e u' w' => u' = u ∧ (e = .returned (.tuple #[]) ∧ w' = w.drew.setCell a (.int .u32 1)) := by
  have hc' : w.drew.cell? a = some x := by go_simp
  have hz' : w.drew.frozen? a = false := by go_simp
  have hst := run_call_store (P := Try.prog) Try.func70 (by kernel_rfl) (by kernel_rfl) (by kernel_rfl) (by kernel_rfl) (k := .u32) (y := 1) hc' hz'
  go_enter_d Try.func61, Try.ntmps61
  go_wp2
  go_region_calls
  all_goals (go_end0; exact ⟨rfl, rfl⟩)

set_option maxRecDepth 100000 in
theorem oUnlock (a : Addr) (u : FrameMode) (w : World) (hc : w.cell? a = some (.int .i32 1)) (hz : w.frozen? a = false) :
    CallsD Try.prog 60 #[.pointer (some a)] u w fun e u' w' => u' = u ∧ (e = .returned (.tuple #[]) ∧ w' = w.setCell a (.int .i32 0)) := by
  have hd := oDisable
  have he := oEnable
  have hr := oRelease
  have hadd := run_call_add (P := Try.prog) Try.func79 (by kernel_rfl) (by kernel_rfl) (by kernel_rfl) .i32 (by kernel_rfl) (y := -1) (s := 0) hc hz (by simp [go_sem]; rfl)
  have hcv := run_convert_to_unsafe (P := Try.prog) (src := 118) (dst := 122) Try.underlying118 Try.underlying122 (by kernel_rfl) hc
  go_enter_d Try.func60, Try.ntmps60
  go_wp2
  go_end0
  go_wp2
  go_end0
  exact ⟨rfl, rfl⟩

set_option maxRecDepth 100000 in
theorem oLock (a : Addr) (w : World) (hc : w.cell? a = some (.int .i32 0)) (hz : w.frozen? a = false) :
    Calls Try.prog 59 #[.pointer (some a)] w fun e w' => e = .returned (.tuple #[]) ∧ w' = w.setCell a (.int .i32 1) := by
  have hd := oDisable
  have he := oEnable
  have ha := oAcquire
  have hcas := run_call_cas_hit (P := Try.prog) Try.func74 (by kernel_rfl) (by kernel_rfl) (by kernel_rfl) .i32 (by kernel_rfl) (y := 1) hc hz
  have hc' : (w.setCell a (.int .i32 1)).cell? a = some (.int .i32 1) := World.cell?_setCell_same w a _ hc
  have hcv := run_convert_to_unsafe (P := Try.prog) (src := 118) (dst := 122) Try.underlying118 Try.underlying122 (by kernel_rfl) hc'
  go_enter Try.func59, Try.ntmps59
  go_wp2
  first | go_end0 | (simp only [Exit.inBlock, Exit.then]; refine bodyPost_ret (results_none rfl _ _ _) rfl ?_) | refine bodyPost_ret (results_none rfl _ _ _) rfl ?_
  go_wp2
  go_end0
  exact ⟨rfl, rfl⟩
set_option maxRecDepth 100000 in
set_option maxHeartbeats 1600000 in
theorem oSlow (b : Nat) (w : World) (R : World → Prop) (h0 : w.cell? ⟨b, 2, none⟩ = some (.int .u32 0)) (h1 : w.cell? ⟨b, 3, none⟩ = some (.int .i32 0)) (f1 : w.frozen? ⟨b, 3, none⟩ = false)
    (hin : Calls Try.prog 37 #[.pointer (some ⟨b, 0, none⟩)] (w.setCell ⟨b, 3, none⟩ (.int .i32 1)) fun e w' => e = .returned (.tuple #[]) ∧ R w')
    (hR : ∀ w', R w' → w'.cell? ⟨b, 3, none⟩ = some (.int .i32 1) ∧ (∃ x, w'.cell? ⟨b, 2, none⟩ = some x) ∧ w'.frozen? ⟨b, 2, none⟩ = false ∧ w'.frozen? ⟨b, 3, none⟩ = false) :
    Calls Try.prog 46 #[.pointer (some ⟨b, 2, none⟩), .func (.func 37) #[.pointer (some ⟨b, 0, none⟩)] #[]] w fun e w' => e = .returned (.tuple #[]) ∧
      ∃ w2, R w2 ∧ w' = (w2.drew.setCell ⟨b, 2, none⟩ (.int .u32 1)).setCell ⟨b, 3, none⟩ (.int .i32 0) := by
  have hl := run_call_load (P := Try.prog) Try.func58 (by kernel_rfl) (by kernel_rfl) (by kernel_rfl) .u32 (by kernel_rfl) (w := w.setCell ⟨b, 3, none⟩ (.int .i32 1)) (a := ⟨b, 2, none⟩) (x := 0) ((World.cell?_setCell_other _ ⟨b, 3, none⟩ ⟨b, 2, none⟩ _ (by simp)).trans h0)
  have hnot : ∀ (x : Bool) (w : World), (Op.unary .not (.bool x)).run Try.prog w = .ok (.bool (!x)) w := fun _ _ => rfl
  go_enter_defers Try.func46, Try.ntmps46
  go_wp2_with (go_at_call 59; refine (oLock ⟨b, 3, none⟩ _ (by go_simp) (by go_simp)).mono ?_; rintro e w' ⟨rfl, rfl⟩)
  go_in
  go_wp2_with (go_at_call 37; refine hin.mono ?_; rintro e w' ⟨rfl, hw'⟩)
  obtain ⟨q2, ⟨x, q1⟩, z1, z2⟩ := hR _ hw'
  refine leaves_cons (f := 61) (args := #[.pointer (some ⟨b, 2, none⟩), .bool true]) (by simp) (by simp [go_sem]) ?_
  refine (oStore ⟨b, 2, none⟩ x .returning _ q1 z1).mono ?_
  rintro e u' w'' ⟨rfl, rfl, rfl⟩
  refine leaves_cons (f := 60) (args := #[.pointer (some ⟨b, 3, none⟩)]) (by simp [settle]) (by simp [go_sem]) ?_
  refine (oUnlock ⟨b, 3, none⟩ _ _ ?_ (by simp [z2])).mono ?_
  · refine (World.cell?_setCell_other _ ⟨b, 2, none⟩ ⟨b, 3, none⟩ _ (by simp)).trans ?_
    rw [World.cell?_drew]
    exact q2
  rintro e u' w'' ⟨rfl, rfl, rfl⟩
  simp [Leaves, settle, results, Try.results46]
  exact ⟨_, hw', rfl⟩
end Go.Proofs.Ytgelodhkbpmlfaa
/-
  A tally in a store; its map made once.
-/
namespace Go.Proofs.Ytgelodhkbpmlfaa
open Go Go.AL

theorem ext_setCell {D : Nat → Prop} {G : Ghost} {w : World} (b i : Nat) (u : Value) (hD : D b) : Ext D G w G (w.setCell ⟨b, i, none⟩ u) :=
  ⟨rfl, rfl, rfl, by simp [World.setCell], fun _ _ _ h => h, fun k hk => ⟨RowKit.Below.heap_setCell w _ u k (fun e => hk (e ▸ hD)), rfl, rfl⟩⟩
/-- A cell of an object that is known. -/
theorem obj_cell {D : Nat → Prop} {G : Ghost} {σ : Store} {w : World} (hW : WR D G σ w) {b : Nat} {cs : List AV} (hb : σ b = some cs) {i : Nat} {v : Value} (hi : cs[i]? = some (.lit v)) : w.cell? ⟨b, i, none⟩ = some v ∧ w.frozen? ⟨b, i, none⟩ = false := by
  obtain ⟨_, _, _, cur, e, hh, hl, hc⟩ := hW.obj b cs hb
  have hlt := (List.getElem?_eq_some_iff.1 hi).1
  have hu : cur[i]? = some (cur[i]'(by omega)) := by simp
  have := (hc i _ _ hi hu).2.1.lit_eq rfl
  refine ⟨?_, by simp [World.frozen?, hh]⟩
  simp [World.cell?, hh, show i < cur.size by omega, this]
structure TP (σ : Store) (b c : Nat) (ns : List (List UInt8)) (xs : List Nat) (m : Option Nat) : Prop where
  obj : σ b = some (tS ns c (if m.isSome then 1 else 0) 0 m)
  row : σ c = some (u64s xs)
  len : xs.length = ns.length
  ne : ¬ b = c
  map : ∀ q, m = some q → σ (mkey q) = some (mapA (atN ns ns.length))
  nd : ns.Nodup
  le : ns.length ≤ 64
/-- What lies elsewhere is kept. -/
def Fr (tv : AV) (b c : Nat) (σ σ' : Store) : Prop := ∀ (k : Int) x, (tv = .lit (.pointer none) ∨ (¬ k = b ∧ ¬ k = c)) → σ k = some x → σ' k = some x
theorem Fr.refl (tv : AV) (b c : Nat) (σ : Store) : Fr tv b c σ σ := fun _ _ _ h => h
theorem Fr.trans {tv : AV} {b c : Nat} {σ τ υ : Store} (h : Fr tv b c σ τ) (k : Fr tv b c τ υ) : Fr tv b c σ υ := fun i x h1 h3 => k i x h1 (h i x h1 h3)
theorem slow_calls (b c : Nat) (ns : List (List UInt8)) (hn : ns.Nodup) (hl : ns.length ≤ 64) (σ : Store) (hb : σ b = some (tS ns c 0 0 none)) :
    ACalls Try.prog 46 [.lit (.pointer (some ⟨b, 2, none⟩)), .func (.func 37) [ptrA b] []] σ fun v σ' => v = .tuple [] ∧ ∃ q : Nat, σ (mkey q) = none ∧ σ' = (σ.upd b (tS ns c 1 0 (some q))).put q (mapA (atN ns ns.length)) := by
  intro D G w cargs hl hargs hW hfresh
  have hsz : cargs.size = 2 := by simpa using hl.symm
  obtain ⟨c0, c1, rfl⟩ : ∃ c0 c1, cargs = #[c0, c1] := ⟨cargs[0], cargs[1], by
    apply Array.ext
    · simp [hsz]
    · intro i h1 h2
      match i with
      | 0 => rfl
      | 1 => rfl
      | _ + 2 => simp at h2; omega⟩
  have h0 := (hargs 0 _ c0 rfl rfl).1.lit_eq rfl
  have h1 := (hargs 1 _ c1 rfl rfl).1
  subst h0
  obtain rfl : c1 = .func (.func 37) #[.pointer (some ⟨b, 0, none⟩)] #[] := by
    cases h1 with
    | func _ _ _ ufs ucs e1 e2 e3 e4 =>
      have s2 : ucs = #[] := by simpa using e2.symm
      obtain ⟨u, rfl⟩ : ∃ u, ufs = #[u] := ⟨ufs[0]'(by simp at e1; omega), by
        apply Array.ext
        · simpa using e1.symm
        · intro i h1 h2
          match i with
          | 0 => rfl
          | _ + 1 => simp at h2⟩
      have := (e3 0 _ u rfl rfl).lit_eq rfl
      rw [s2, this]
  obtain ⟨hD, _, _, cur, e, hh, hlen, hcells⟩ := hW.obj b _ hb
  obtain ⟨d1, d2⟩ := obj_cell hW hb (i := 2) (v := .int .u32 0) rfl
  obtain ⟨m1, m2⟩ := obj_cell hW hb (i := 3) (v := .int .i32 0) rfl
  have hW1 := hW.setObj hb (i := 3) (by simp [tS]) (c := .lit (.int .i32 1)) (u := .int .i32 1) rfl (.lit _) trivial
  have e1 : (tS ns c 0 0 none).set 3 (.lit (.int .i32 1)) = tS ns c 0 1 none := rfl
  rw [e1] at hW1
  have hbc := index_calls b c ns hn (by omega) 0 1 none (σ.upd b (tS ns c 0 1 none)) (by simp)
  have hin := hbc D G (w.setCell ⟨b, 3, none⟩ (.int .i32 1)) #[.pointer (some ⟨b, 0, none⟩)] rfl (fun i c u hc hu => by
    match i with
    | 0 => simp at hc hu; subst hc hu; exact ⟨.lit _, OwnAt.of_plain rfl⟩
    | _ + 1 => simp at hc) hW1 (fun k hk => hfresh k (by simpa [World.setCell] using hk))
  refine (oSlow b w (fun w' => ∃ G' σ', (∃ q : Nat, σ (mkey q) = none ∧ σ' = (σ.upd b (tS ns c 0 1 (some q))).put q (mapA (atN ns ns.length))) ∧ WR D G' σ' w' ∧ Ext D G (w.setCell ⟨b, 3, none⟩ (.int .i32 1)) G' w') d1 m1 m2 (hin.mono ?_) ?_).mono ?_
  · rintro e w' ⟨v, cv, G', σ', rfl, ⟨rfl, q, hq, rfl⟩, hv, _, hW2, hx⟩
    have hcv : cv = .tuple #[] := by
      cases hv with
      | tuple _ us e1 _ => have : us = #[] := by simpa using e1.symm
                           rw [this]
    subst hcv
    exact ⟨rfl, G', _, ⟨q, by simpa using hq, by rw [supd_supd]⟩, hW2, hx⟩
  · rintro w' ⟨G', σ', ⟨q, hq, rfl⟩, hW2, hx⟩
    have hb2 : ((σ.upd b (tS ns c 0 1 (some q))).put q (mapA (atN ns ns.length))) b = some (tS ns c 0 1 (some q)) := by simp
    obtain ⟨x1, x2⟩ := obj_cell hW2 hb2 (i := 2) (v := .int .u32 0) rfl
    obtain ⟨y1, y2⟩ := obj_cell hW2 hb2 (i := 3) (v := .int .i32 1) rfl
    exact ⟨y1, ⟨_, x1⟩, x2, y2⟩
  · rintro e w' ⟨rfl, w2, ⟨G', σ', ⟨q, hq, rfl⟩, hW2, hx⟩, rfl⟩
    have hb2 : ((σ.upd b (tS ns c 0 1 (some q))).put q (mapA (atN ns ns.length))) b = some (tS ns c 0 1 (some q)) := by simp
    have hW3 := hW2.drew.setObj hb2 (i := 2) (by simp [tS]) (c := .lit (.int .u32 1)) (u := .int .u32 1) rfl (.lit _) trivial
    have e2 : (tS ns c 0 1 (some q)).set 2 (.lit (.int .u32 1)) = tS ns c 1 1 (some q) := rfl
    rw [e2] at hW3
    have hW4 := hW3.setObj (o := b) (cs := tS ns c 1 1 (some q)) (by simp) (i := 3) (by simp [tS]) (c := .lit (.int .i32 0)) (u := .int .i32 0) rfl (.lit _) trivial
    have e3 : (tS ns c 1 1 (some q)).set 3 (.lit (.int .i32 0)) = tS ns c 1 0 (some q) := rfl
    rw [e3, supd_supd] at hW4
    refine ⟨.tuple [], .tuple #[], G', _, rfl, ⟨rfl, q, hq, ?_⟩, .tuple _ _ rfl (by simp), OwnAt.of_plain rfl, hW4, (ext_setCell b 3 _ hD).trans (hx.trans (Ext.drew.trans ((ext_setCell b 2 _ hD).trans (ext_setCell b 3 _ hD))))⟩
    simp
@[simp] theorem callable58' : callable Try.prog 58 = false := nr (by kernel_rfl)
theorem ext58 (b i : Nat) (d : Int) (cs : List AV) (σ : Store) (hb : σ b = some cs) (hi : cs[i]? = some (.lit (.int .u32 d))) : AExt Try.prog 58 [.lit (.pointer (some ⟨b, i, none⟩))] σ fun v σ' => v = .lit (.int .u32 d) ∧ σ' = σ := by
  intro D G w cargs hl hargs hW
  obtain ⟨c0, rfl⟩ : ∃ c0, cargs = #[c0] := ⟨cargs[0]'(by simp at hl; omega), by
    apply Array.ext
    · simpa using hl.symm
    · intro i h1 h2
      match i with
      | 0 => rfl
      | _ + 1 => simp at h2⟩
  have h0 := (hargs 0 _ c0 rfl rfl).lit_eq rfl
  subst h0
  obtain ⟨d1, _⟩ := obj_cell hW hb hi
  exact ⟨_, _, run_call_load (P := Try.prog) Try.func58 (by kernel_rfl) (by kernel_rfl) (by kernel_rfl) .u32 (by kernel_rfl) d1, rfl, .lit _, rfl, rfl⟩
set_option maxRecDepth 8000 in
theorem oload_calls (b : Nat) (d : Int) (cs : List AV) (σ : Store) (hb : σ b = some cs) (hi : cs[2]? = some (.lit (.int .u32 d))) : ACalls Try.prog 45 [.lit (.pointer (some ⟨b, 2, none⟩))] σ fun v σ' => v = .lit (.bool (d != 0)) ∧ σ' = σ := by
  refine ACalls.of_awp follows (st := st45) (plans := pl45) (n := 8) Try.func45 rfl (by kernel_rfl) (by kernel_rfl) (by kernel_rfl) ?_
  simp
  refine extK.of (ext58 b 2 d cs σ hb hi) ?_
  rintro v σ1 ⟨rfl, rfl⟩
  simp
set_option maxRecDepth 8000 in
theorem odo_calls {σ : Store} {b c : Nat} {ns : List (List UInt8)} {xs : List Nat} {m : Option Nat} (h : TP σ b c ns xs m) :
    ACalls Try.prog 36 [.lit (.pointer (some ⟨b, 2, none⟩)), .func (.func 37) [ptrA b] []] σ fun v σ' => v = .tuple [] ∧ ∃ q, TP σ' b c ns xs (some q) ∧ Fr (ptrA b) b c σ σ' := by
  refine ACalls.of_awp follows (st := st36) (plans := pl36) (n := 12) Try.func36 rfl (by kernel_rfl) (by kernel_rfl) (by kernel_rfl) ?_
  cases m with
  | none =>
    have hl := oload_calls b 0 _ σ h.obj rfl
    have hs := slow_calls b c ns h.nd h.le σ h.obj
    simp
    refine callK.of hl ?_
    rintro v σ1 ⟨rfl, rfl⟩
    simp
    refine callK.of hs ?_
    rintro v σ2 ⟨rfl, q, hq, rfl⟩
    simp
    refine ⟨_, AV.le_refl _, _, Store.sub_refl _, rfl, ⟨q, by simp, ?_, h.len, h.ne, fun q' e => by cases e; simp, h.nd, h.le⟩, fun k x h1 h3 => ?_⟩
    · have := h.ne
      simp [h.row]
      exact fun e => absurd e.symm this
    · have h1 : ¬ k = b := by
        rcases h1 with h1 | h1
        · cases h1
        · exact h1.1
      simp only [Store.put, Store.upd]
      rw [if_neg (fun e => by subst e; rw [hq] at h3; cases h3), if_neg h1]
      exact h3
  | some q =>
    have hl := oload_calls b 1 _ σ h.obj rfl
    simp
    refine callK.of hl ?_
    rintro v σ1 ⟨rfl, rfl⟩
    simp
    exact ⟨_, AV.le_refl _, _, Store.sub_refl _, rfl, ⟨q, h⟩, Fr.refl _ b c _⟩
end Go.Proofs.Ytgelodhkbpmlfaa
/-
  Counters: one is read, added to, set, changed.
-/
namespace Go.Proofs.Ytgelodhkbpmlfaa
open Go Go.AL

/-- sync/atomic.SwapT: the number is stored, what was there handed back. -/
theorem run_call_swap {P : Program} {f : FuncId} {fn : Func} (hf : P.funcs[f]? = some fn) (hname : (fn.name == "runtime.NumGoroutine") = false) (hb : fn.body.isNone = true) (hn : Extern.findNext fn = none) (k : IntKind)
    (he : Extern.find fn = some (Extern.Atomic.swapT (.int k))) {a : Addr} {x y : Int} {w : World} (hc : w.cell? a = some (.int k x)) (hz : w.frozen? a = false) :
    (callFunc f #[.pointer (some a), .int k y]).run P w = .ok (.value (.int k x)) (w.setCell a (.int k y)) := by
  rw [run_callFunc_extern hf hname hb hn he]
  change (Sem.run P (do
    let a' ← asAddr (.pointer (some a))
    let old ← Extern.Atomic.read (.int k) a'
    store a' (.int k y) .atomic
    pure old) w).andThen _ = _
  simp [Extern.Atomic.read, asAddr, hc, hz, run_store P w a (.int k y) .atomic rfl, Result.andThen]
set_option maxRecDepth 100000 in
theorem wAdd (a : Addr) (x n : Int) (w : World) (hc : w.cell? a = some (.int .u64 x)) (hz : w.frozen? a = false) :
    Calls Try.prog 28 #[.pointer (some a), .int .u64 n] w fun e w' => e = .returned (.int .u64 (IntKind.u64.wrap (x + n))) ∧ w' = w.setCell a (.int .u64 (IntKind.u64.wrap (x + n))) := by
  have hadd := run_call_add (P := Try.prog) Try.func38 (by kernel_rfl) (by kernel_rfl) (by kernel_rfl) .u64 (by kernel_rfl) (y := n) (s := IntKind.u64.wrap (x + n)) hc hz (by simp [go_sem])
  go_enter Try.func28, Try.ntmps28
  go_wp2
  go_ret
  exact ⟨rfl, rfl⟩
set_option maxRecDepth 100000 in
theorem wSwap (a : Addr) (x n : Int) (w : World) (hc : w.cell? a = some (.int .u64 x)) (hz : w.frozen? a = false) :
    Calls Try.prog 31 #[.pointer (some a), .int .u64 n] w fun e w' => e = .returned (.int .u64 x) ∧ w' = w.setCell a (.int .u64 n) := by
  have hadd := run_call_swap (P := Try.prog) Try.func41 (by kernel_rfl) (by kernel_rfl) (by kernel_rfl) .u64 (by kernel_rfl) (y := n) hc hz
  go_enter Try.func31, Try.ntmps31
  go_wp2
  go_ret
  exact ⟨rfl, rfl⟩
set_option maxRecDepth 100000 in
theorem wCas (a : Addr) (x n : Int) (w : World) (hc : w.cell? a = some (.int .u64 x)) (hz : w.frozen? a = false) :
    Calls Try.prog 30 #[.pointer (some a), .int .u64 x, .int .u64 n] w fun e w' => e = .returned (.bool true) ∧ w' = w.setCell a (.int .u64 n) := by
  have hadd := run_call_cas_hit (P := Try.prog) Try.func40 (by kernel_rfl) (by kernel_rfl) (by kernel_rfl) .u64 (by kernel_rfl) (y := n) hc hz
  go_enter Try.func30, Try.ntmps30
  go_wp2
  go_ret
  exact ⟨rfl, rfl⟩
set_option maxRecDepth 100000 in
theorem wLoad (a : Addr) (x : Int) (w : World) (hc : w.cell? a = some (.int .u64 x)) :
    Calls Try.prog 29 #[.pointer (some a)] w fun e w' => e = .returned (.int .u64 x) ∧ w' = w := by
  have hadd := run_call_load (P := Try.prog) Try.func39 (by kernel_rfl) (by kernel_rfl) (by kernel_rfl) .u64 (by kernel_rfl) hc
  go_enter Try.func29, Try.ntmps29
  go_wp2
  go_ret
  exact ⟨rfl, rfl⟩
/-- One cell is set. -/
theorem cell_calls {f : FuncId} {rest : List Value} {c i : Nat} {x n : Int} {r : Value} {cs : List AV} {σ : Store} (hc : σ c = some cs) (hi : cs[i]? = some (.lit (.int .u64 x))) (hr : (AV.lit r).plain = true)
    (h : ∀ w : World, w.cell? ⟨c, i, none⟩ = some (.int .u64 x) → w.frozen? ⟨c, i, none⟩ = false → Calls Try.prog f (.pointer (some ⟨c, i, none⟩) :: rest).toArray w fun e w' => e = .returned r ∧ w' = w.setCell ⟨c, i, none⟩ (.int .u64 n)) :
    ACalls Try.prog f (.lit (.pointer (some ⟨c, i, none⟩)) :: rest.map .lit) σ fun v σ' => v = .lit r ∧ σ' = σ.upd c (cs.set i (.lit (.int .u64 n))) := by
  intro D G w cargs hl hargs hW hfresh
  have hca : cargs = (.pointer (some ⟨c, i, none⟩) :: rest).toArray := by
    apply Array.ext
    · simpa using hl.symm
    · intro j h1 h2
      have hj : j < (AV.lit (.pointer (some ⟨c, i, none⟩)) :: rest.map .lit).length := by rw [hl]; exact h1
      have h3 : (AV.lit (.pointer (some ⟨c, i, none⟩)) :: rest.map .lit)[j]? = some (.lit ((Value.pointer (some ⟨c, i, none⟩) :: rest)[j]'(by simpa using h2))) := by
        rw [← List.map_cons (f := AV.lit), List.getElem?_map, List.getElem?_eq_getElem (by simpa using h2)]; rfl
      have := (hargs j _ (cargs[j]) h3 (by simp [h1])).1.lit_eq rfl
      rw [this]; simp
  subst hca
  obtain ⟨d1, d2⟩ := obj_cell hW hc hi
  have hD := (hW.obj c _ hc).1
  refine (h w d1 d2).mono ?_
  rintro e w' ⟨rfl, rfl⟩
  have hil := (List.getElem?_eq_some_iff.1 hi).1
  exact ⟨_, _, G, _, rfl, ⟨rfl, rfl⟩, .lit _, OwnAt.of_plain hr, hW.setObj hc hil rfl (.lit _) trivial, ext_setCell c i _ hD⟩
theorem add_calls {c i : Nat} {x n : Int} {cs : List AV} {σ : Store} (hc : σ c = some cs) (hi : cs[i]? = some (.lit (.int .u64 x))) :
    ACalls Try.prog 28 [.lit (.pointer (some ⟨c, i, none⟩)), .lit (.int .u64 n)] σ fun v σ' => v = .lit (.int .u64 (IntKind.u64.wrap (x + n))) ∧ σ' = σ.upd c (cs.set i (.lit (.int .u64 (IntKind.u64.wrap (x + n))))) :=
  cell_calls (rest := [.int .u64 n]) hc hi rfl fun w h1 h2 => wAdd _ x n w h1 h2
theorem swap_calls {c i : Nat} {x n : Int} {cs : List AV} {σ : Store} (hc : σ c = some cs) (hi : cs[i]? = some (.lit (.int .u64 x))) :
    ACalls Try.prog 31 [.lit (.pointer (some ⟨c, i, none⟩)), .lit (.int .u64 n)] σ fun v σ' => v = .lit (.int .u64 x) ∧ σ' = σ.upd c (cs.set i (.lit (.int .u64 n))) :=
  cell_calls (rest := [.int .u64 n]) hc hi rfl fun w h1 h2 => wSwap _ x n w h1 h2
theorem cas_calls {c i : Nat} {x n : Int} {cs : List AV} {σ : Store} (hc : σ c = some cs) (hi : cs[i]? = some (.lit (.int .u64 x))) :
    ACalls Try.prog 30 [.lit (.pointer (some ⟨c, i, none⟩)), .lit (.int .u64 x), .lit (.int .u64 n)] σ fun v σ' => v = .lit (.bool true) ∧ σ' = σ.upd c (cs.set i (.lit (.int .u64 n))) :=
  cell_calls (rest := [.int .u64 x, .int .u64 n]) hc hi rfl fun w h1 h2 => wCas _ x n w h1 h2
theorem load_calls {c i : Nat} {x : Int} {cs : List AV} {σ : Store} (hc : σ c = some cs) (hi : cs[i]? = some (.lit (.int .u64 x))) :
    ACalls Try.prog 29 [.lit (.pointer (some ⟨c, i, none⟩))] σ fun v σ' => v = .lit (.int .u64 x) ∧ σ' = σ := by
  intro D G w cargs hl hargs hW hfresh
  obtain ⟨c0, rfl⟩ : ∃ a, cargs = #[a] := by
    rcases cargs with ⟨l⟩
    match l, hl with
    | [a], _ => exact ⟨a, rfl⟩
  have e0 := (hargs 0 _ c0 rfl rfl).1.lit_eq rfl
  subst e0
  obtain ⟨d1, d2⟩ := obj_cell hW hc hi
  refine (wLoad _ x w d1).mono ?_
  rintro e w' ⟨rfl, rfl⟩
  exact ⟨_, _, G, _, rfl, ⟨rfl, rfl⟩, .lit _, OwnAt.of_plain rfl, hW, Ext.refl ..⟩
end Go.Proofs.Ytgelodhkbpmlfaa
