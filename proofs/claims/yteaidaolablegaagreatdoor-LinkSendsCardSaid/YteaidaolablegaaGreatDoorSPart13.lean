/-
  What an end hears of functions.
-/
import Derived.Test.YteaidaolablegaaGreatDoorSPart12
set_option linter.unusedSimpArgs false
set_option linter.unusedVariables false
namespace Go.Proofs.YteaidaolablegaaGreatDoor
open Go Go.AL

def fnF (e : Ng) : List UInt8 → List UInt8 × Nat × Ng
  | [] => ([], 4, e)
  | a :: k => if (¬ a = 4 ∧ ¬ a = 7) ∨ ¬ k.Nodup then ([], 4, e) else if ¬ e.st = 2 ∧ (a = 4 ∨ ¬ e.st = 3) then ([], 6, e)
    else if ownS e k = true then (if a = 4 then [] else 3 :: 4 :: k, 0, { e with st := 3, agreed := sortL k })
    else if a = 4 then ([], 0, { e with st := 4 }) else (3 :: 7 :: k.filter (fun c => decide (c ∈ e.fns)), 0, e.offered)
set_option maxRecDepth 8000 in
set_option maxHeartbeats 1000000 in
theorem fn_calls (q : Nat) (e : Ng) (o1 o2 o : Bool) (l : List UInt8) (hl : l.length ≤ 1000000) (σ : Store) (h : σ q = some (endO e o1 o2))
    (hag : ∀ τ p1 p2, (e.st = 2 ∨ e.st = 3) → ownS e l.tail = true → l.tail.Nodup → τ q = some (endO e p1 p2) → ACalls Tryz.prog 128 [ptrA q, .list false 1 (bytesA l.tail)] τ fun v σ' => v = .tuple [] ∧ Up τ q { e with st := 3, agreed := sortL l.tail } σ') :
    ACalls Tryz.prog 113 [ptrA q, .list o 1 (bytesA l)] σ (HearR q σ (fnF e l)) := by
  have hsame := fun n v hv => hear_same (v := v) h n hv
  rcases l with _ | ⟨a, k⟩
  · refine ACalls.of_awp follows (st := st113) (plans := pl113) (n := 101) Tryz.func113 rfl (by kernel_rfl) (by kernel_rfl) (by kernel_rfl) ?_
    simp [bytesA]
    exact hsame 4 _ (AV.le_refl _)
  have hc : bytesA (a :: k) = .lit (.int .u8 a.toNat) :: bytesA k := rfl
  have htk := htake k
  have hkl : k.length ≤ 1000000 := by simp at hl; omega
  have hon := fun τ => once_calls false k hkl τ
  have how := fun τ p1 p2 (ht : τ q = some (endO e p1 p2)) => own_calls q e p1 p2 false k hkl τ ht
  have hpos : ¬ (k.length : Int) + 1 < 1 := by omega
  simp only [List.tail_cons] at hag
  have h0 := h
  unfold endO at h
  by_cases ha : ¬ a = 4 ∧ ¬ a = 7
  · have hd : fnF e (a :: k) = ([], 4, e) := if_pos (.inl ha)
    have h4 : ¬ (a.toNat : Int) = 4 := u8_ne (n := 4) (by omega) ha.1
    have h7 : ¬ (a.toNat : Int) = 7 := u8_ne (n := 7) (by omega) ha.2
    rw [hd]
    refine ACalls.of_awp follows (st := st113) (plans := pl113) (n := 101) Tryz.func113 rfl (by kernel_rfl) (by kernel_rfl) (by kernel_rfl) ?_
    simp [hc, hpos, h4, h7]
    exact hsame 4 _ (AV.le_refl _)
  by_cases hn : k.Nodup
  case neg =>
    have hd : fnF e (a :: k) = ([], 4, e) := if_pos (.inr hn)
    have h47 : (a.toNat : Int) = 4 ∨ (¬ (a.toNat : Int) = 4 ∧ (a.toNat : Int) = 7) := by
      by_cases e4 : a = 4
      · left; rw [e4]; rfl
      · right; exact ⟨u8_ne (n := 4) (by omega) e4, by rw [show a = 7 from Classical.byContradiction fun e7 => ha ⟨e4, e7⟩]; rfl⟩
    rw [hd]
    rcases h47 with h4 | ⟨h4, h7⟩
    all_goals
      refine ACalls.of_awp follows (st := st113) (plans := pl113) (n := 101) Tryz.func113 rfl (by kernel_rfl) (by kernel_rfl) (by kernel_rfl) ?_
      first | simp [hc, hpos, h4, h7, htk] | simp [hc, hpos, h4, htk]
      refine callK.of (hon _) ?_
      rintro v σ' ⟨rfl, rfl⟩
      simp [hn]
      exact hsame 4 _ (AV.le_refl _)
  have hfn : fnF e (a :: k) = if ¬ e.st = 2 ∧ (a = 4 ∨ ¬ e.st = 3) then ([], 6, e)
    else if ownS e k = true then (if a = 4 then [] else 3 :: 4 :: k, 0, { e with st := 3, agreed := sortL k })
    else if a = 4 then ([], 0, { e with st := 4 }) else (3 :: 7 :: k.filter (fun c => decide (c ∈ e.fns)), 0, e.offered) := if_neg (by simp [hn, ha])
  by_cases h4 : a = 4
  · subst h4
    have hc4 : bytesA (4 :: k) = .lit (.int .u8 4) :: bytesA k := rfl
    refine ACalls.of_awp follows (st := st113) (plans := pl113) (n := 101) Tryz.func113 rfl (by kernel_rfl) (by kernel_rfl) (by kernel_rfl) ?_
    by_cases h2 : e.st = 2
    · simp [hc4, hpos, htk, ptrA, h, h2]
      refine callK.of (hon _) ?_
      rintro v σ' ⟨rfl, rfl⟩
      simp [hn, h, h2, htk, hc4]
      have := how σ' o1 o2 h0
      unfold ptrA at this
      refine callK.of this ?_
      rintro v σ' ⟨rfl, rfl⟩
      cases ho : ownS e k
      · have hd : fnF e (4 :: k) = ([], 0, { e with st := 4 }) := by rw [hfn]; simp [h2, ho]
        rw [hd]
        simp [h]
        exact ⟨_, AV.le_refl _, _, Store.sub_refl _, rfl, o1, o2, rfl⟩
      · have hd : fnF e (4 :: k) = ([], 0, { e with st := 3, agreed := sortL k }) := by rw [hfn]; simp [h2, ho]
        rw [hd]
        simp
        have := hag σ' o1 o2 (.inl h2) ho hn h0
        unfold ptrA at this
        refine callK.of this ?_
        rintro v σ2 ⟨rfl, p1, p2, rfl⟩
        simp
        exact ⟨_, AV.le_refl _, _, Store.sub_refl _, rfl, p1, p2, rfl⟩
    · have hd : fnF e (4 :: k) = ([], 6, e) := by rw [hfn]; simp [h2]
      have h2' : ¬ (e.st : Int) = 2 := by omega
      rw [hd]
      simp [hc4, hpos, htk]
      refine callK.of (hon _) ?_
      rintro v σ' ⟨rfl, rfl⟩
      simp [hn, h, h2', htk, hc4, ptrA]
      exact hsame 6 _ (AV.le_refl _)
  · have h7 : a = 7 := Classical.byContradiction fun e7 => ha ⟨h4, e7⟩
    subst h7
    have hc7 : bytesA (7 :: k) = .lit (.int .u8 7) :: bytesA k := rfl
    refine ACalls.of_awp follows (st := st113) (plans := pl113) (n := 101) Tryz.func113 rfl (by kernel_rfl) (by kernel_rfl) (by kernel_rfl) ?_
    have hcase : e.st = 2 ∨ (¬ e.st = 2 ∧ e.st = 3) ∨ (¬ e.st = 2 ∧ ¬ e.st = 3) := by omega
    rcases hcase with h2 | ⟨h2, h3⟩ | ⟨h2, h3⟩
    case inr.inr =>
      have hd : fnF e (7 :: k) = ([], 6, e) := by rw [hfn]; simp [h2, h3]
      have h2' : ¬ (e.st : Int) = 2 := by omega
      have h3' : ¬ (e.st : Int) = 3 := by omega
      rw [hd]
      simp [hc7, hpos, htk]
      refine callK.of (hon _) ?_
      rintro v σ' ⟨rfl, rfl⟩
      simp [hn, h, h2', h3', htk, hc7, ptrA]
      exact hsame 6 _ (AV.le_refl _)
    all_goals
      have h23 : e.st = 2 ∨ e.st = 3 := by omega
      simp [hc7, hpos, htk]
      refine callK.of (hon _) ?_
      rintro v σ' ⟨rfl, rfl⟩
      first | simp [hn, h, h2, h3, htk, hc7, ptrA] | simp [hn, h, h2, htk, hc7, ptrA]
      have := how σ' o1 o2 h0
      unfold ptrA at this
      refine callK.of this ?_
      rintro v σ' ⟨rfl, rfl⟩
      cases ho : ownS e k
      case true =>
        have hd : fnF e (7 :: k) = (3 :: 4 :: k, 0, { e with st := 3, agreed := sortL k }) := by rw [hfn]; simp [ho]; omega
        rw [hd]
        simp
        have := hag σ' o1 o2 h23 ho hn h0
        unfold ptrA at this
        refine callK.of this ?_
        rintro v σ2 ⟨rfl, p1, p2, rfl⟩
        simp
        exact ⟨by omega, by omega, _, AV.le_refl _, _, Store.sub_refl _, rfl, p1, p2, rfl⟩
      case false =>
        have hd : fnF e (7 :: k) = (3 :: 7 :: k.filter (fun c => decide (c ∈ e.fns)), 0, e.offered) := by rw [hfn]; simp [ho]; omega
        rw [hd]
        simp
        refine codeK.loop follows (st := st113) (plans := pl113) (X := Nat) (fun i => i ≤ k.length)
          (fun i => [(0, ptrA q), (7, .list true 1 (bytesA ((k.take i).filter (fun c => decide (c ∈ e.fns))))), (83, .list false 1 (bytesA k)), (84, .lit (.int .i64 k.length)), (85, .lit (.int .i64 i))]) (fun _ => σ') (fun i => k.length - i) 0 (by kernel_rfl) (by simp) (by simp [ptrA, bytesA]) (Store.sub_refl _) fun i hi => ?_
        by_cases hlt : i < k.length
        · have hw : IntKind.i64.wrap ((i : Int) + 1) = ((i + 1 : Nat) : Int) := wrap_i64 (by omega) (by omega)
          have hlt' : (i : Int) < k.length := by omega
          obtain ⟨c, hc⟩ : ∃ c, k[i] = c := ⟨_, rfl⟩
          have hg : ∀ h : i < (bytesA k).length, (bytesA k)[i]'h = .lit (.int .u8 c.toNat) := fun h => by
            rw [List.getElem_eq_iff, bytesA_get, List.getElem?_eq_getElem hlt, hc]; rfl
          have hts := List.take_succ_eq_append_getElem hlt
          rw [hc] at hts
          have hfl : ((k.take i).filter (fun c => decide (c ∈ e.fns))).length ≤ i := Nat.le_trans (List.length_filter_le _ _) (by simp; omega)
          have hoc := own_calls q e o1 o2 true [c] (by simp) σ' h0
          have hoc1 : ownS e [c] = decide (c ∈ e.fns) := by simp [ownS]
          have hb1 : bytesA [c] = [.lit (.int .u8 c.toNat)] := rfl
          rw [hoc1, hb1] at hoc
          unfold ptrA at hoc
          simp [hlt, hlt', hg, ptrA]
          refine callK.of hoc ?_
          rintro v σ2 ⟨rfl, rfl⟩
          by_cases hm : c ∈ e.fns
          · have hf : (k.take (i + 1)).filter (fun c => decide (c ∈ e.fns)) = (k.take i).filter (fun c => decide (c ∈ e.fns)) ++ [c] := by rw [hts, List.filter_append]; simp [hm]
            simp [hm]
            refine ⟨by omega, by omega, i + 1, by omega, by omega, ⟨?_, ?_⟩⟩
            · rw [hf, bytesA_append]; exact AV.le_refl _
            · rw [hw]; exact AV.le_refl _
          · have hf : (k.take (i + 1)).filter (fun c => decide (c ∈ e.fns)) = (k.take i).filter (fun c => decide (c ∈ e.fns)) := by rw [hts, List.filter_append]; simp [hm]
            simp [hm]
            refine ⟨i + 1, by omega, by omega, ⟨?_, ?_⟩⟩
            · rw [hf]; exact AV.le_refl _
            · rw [hw]; exact AV.le_refl _
        · obtain rfl : i = k.length := by omega
          rw [List.take_length]
          have hfl := List.length_filter_le (fun c => decide (c ∈ e.fns)) k
          have := offer_calls q e o1 o2 false (k.filter (fun c => decide (c ∈ e.fns))) (by omega) σ' h0
          unfold ptrA at this
          simp [ptrA]
          refine callK.of this ?_
          rintro v σ2 ⟨rfl, p1, p2, rfl⟩
          simp
          exact ⟨_, AV.le_refl _, _, Store.sub_refl _, rfl, p1, p2, rfl⟩
end Go.Proofs.YteaidaolablegaaGreatDoor
/-
  What an end hears; the program wakes.
-/
namespace Go.Proofs.YteaidaolablegaaGreatDoor
open Go Go.AL

set_option maxRecDepth 8000 in
theorem bequal_calls (o o' : Bool) (l k : List UInt8) (σ : Store) :
    ACalls Tryz.prog 110 [.list o 1 (bytesA l), .list o' 1 (bytesA k)] σ fun v σ' => v = .lit (.bool (l == k)) ∧ σ' = σ := by
  refine ACalls.of_awp follows (st := st110) (plans := pl110) (n := 10) Tryz.func110 rfl (by kernel_rfl) (by kernel_rfl) (by kernel_rfl) ?_
  simp [bytesOf_bytesA]
def hearF (e : Ng) : List UInt8 → List UInt8 × Nat × Ng
  | [] => ([], 4, e)
  | a :: k => if a = 8 ∧ k = [2] then (if e.st = 4 then ([], 6, e) else (askB e, 0, e.asked)) else if a = 2 then devF e k else if a = 3 then fnF e k else ([], 4, e)
set_option maxRecDepth 8000 in
set_option maxHeartbeats 1000000 in
theorem hear_calls (q : Nat) (e : Ng) (o1 o2 o : Bool) (l : List UInt8) (hl : l.length ≤ 1000000) (hs : Small e) (σ : Store) (h : σ q = some (endO e o1 o2))
    (hag : ∀ k τ p1 p2, l.tail.tail = k → (e.st = 2 ∨ e.st = 3) → ownS e k = true → k.Nodup → τ q = some (endO e p1 p2) → ACalls Tryz.prog 128 [ptrA q, .list false 1 (bytesA k)] τ fun v σ' => v = .tuple [] ∧ Up τ q { e with st := 3, agreed := sortL k } σ') :
    ACalls Tryz.prog 95 [ptrA q, .lit (.int .u8 40), .list o 1 (bytesA l)] σ (HearR q σ (hearF e l)) := by
  have hsame := fun n v hv => hear_same (v := v) h n hv
  have heq := fun τ => bequal_calls false true l [8, 2] τ
  have hb82 : bytesA [8, 2] = [.lit (.int .u8 8), .lit (.int .u8 2)] := rfl
  rw [hb82] at heq
  have h0 := h
  unfold endO at h
  refine ACalls.of_awp follows (st := st95) (plans := pl95) (n := 76) Tryz.func95 rfl (by kernel_rfl) (by kernel_rfl) (by kernel_rfl) ?_
  simp [ptrA]
  refine callK.of (heq _) ?_
  rintro v σ' ⟨rfl, rfl⟩
  by_cases h82 : l = [8, 2]
  · subst h82
    by_cases h4 : e.st = 4
    · have hd : hearF e [8, 2] = ([], 6, e) := by simp [hearF, h4]
      rw [hd]
      simp [h, h4]
      exact hsame 6 _ (AV.le_refl _)
    · have hd : hearF e [8, 2] = (askB e, 0, e.asked) := by simp [hearF, h4]
      have h4' : ¬ (e.st : Int) = 4 := by omega
      rw [hd]
      simp [h, h4']
      have := asks_calls q e o1 o2 hs σ' h0
      unfold ptrA at this
      refine callK.of this ?_
      rintro v σ2 ⟨rfl, p1, p2, rfl⟩
      simp
      exact ⟨_, AV.le_refl _, _, Store.sub_refl _, rfl, p1, p2, rfl⟩
  · have hne : (l == [8, 2]) = false := by simpa using h82
    rw [hne]
    rcases l with _ | ⟨a, k⟩
    · simp [bytesA]
      exact hsame 4 _ (AV.le_refl _)
    have hc : bytesA (a :: k) = .lit (.int .u8 a.toNat) :: bytesA k := rfl
    have htk := htake k
    have hkl : k.length ≤ 1000000 := by simp at hl; omega
    have hh : hearF e (a :: k) = if a = 2 then devF e k else if a = 3 then fnF e k else ([], 4, e) := if_neg fun ⟨e1, e2⟩ => h82 (by rw [e1, e2])
    have hpos : (0 : Int) < (k.length : Int) + 1 := by omega
    by_cases h2 : a = 2
    · have h2' : (a.toNat : Int) = 2 := by rw [h2]; rfl
      rw [hh, if_pos h2]
      simp [hc, hpos, h2', htk]
      have := dev_calls q e o1 o2 false k hkl hs σ' h0
      unfold ptrA at this
      refine callK.of this ?_
      rintro v σ2 ⟨rfl, p1, p2, rfl⟩
      simp
      exact ⟨_, AV.le_refl _, _, Store.sub_refl _, rfl, p1, p2, rfl⟩
    · have h2' : ¬ (a.toNat : Int) = 2 := u8_ne (n := 2) (by omega) h2
      by_cases h3 : a = 3
      · have h3' : (a.toNat : Int) = 3 := by rw [h3]; rfl
        rw [hh, if_neg h2, if_pos h3]
        simp [hc, hpos, h3', htk]
        have := fn_calls q e o1 o2 false k hkl σ' h0 (hag k.tail · · · rfl)
        unfold ptrA at this
        refine callK.of this ?_
        rintro v σ2 ⟨rfl, p1, p2, rfl⟩
        simp
        exact ⟨_, AV.le_refl _, _, Store.sub_refl _, rfl, p1, p2, rfl⟩
      · have h3' : ¬ (a.toNat : Int) = 3 := u8_ne (n := 3) (by omega) h3
        rw [hh, if_neg h2, if_neg h3]
        simp [hc, hpos, h2', h3']
        exact hsame 4 _ (AV.le_refl _)
end Go.Proofs.YteaidaolablegaaGreatDoor
/-
  Arguments that are cut; the program wakes.
-/
namespace Go.Proofs.YteaidaolablegaaGreatDoor
open Go Go.AL

theorem str_cut (l : List UInt8) (n : Nat) : (ByteArray.mk l.toArray).extract 0 n = ⟨(l.take n).toArray⟩ := by
  apply ByteArray.ext
  simp [ByteArray.data_extract]
set_option maxRecDepth 8000 in
theorem ctext_calls (l : List UInt8) (n : Nat) (σ : Store) (hn : n ≤ 100000000) : ACalls Tryz.prog 53 [strS l, .lit (.int .i64 n)] σ fun v σ' => v = strS (l.take n) ∧ σ' = σ := by
  have hz := str_size l
  have hx := str_cut l n
  refine ACalls.of_awp follows (st := st53) (plans := pl53) (n := 13) Tryz.func53 rfl (by kernel_rfl) (by kernel_rfl) (by kernel_rfl) ?_
  by_cases h : n < l.length
  · have h2 : n ≤ l.length := by omega
    simp [hz, h, h2, hx]
  · simp [hz, h, List.take_of_length_le (show l.length ≤ n by omega)]
def Ng.few (e : Ng) : Ng := { ty := e.ty.take 45, dev := e.dev.take 45, fns := e.fns.take 8 }
set_option maxRecDepth 8000 in
theorem few_small (e : Ng) : Small e.few := ⟨by simp [Ng.few]; omega, by simp [Ng.few]; omega, by simp [Ng.few]; omega, by simp [Ng.few]⟩
set_option maxRecDepth 8000 in
theorem few_calls (e : Ng) (o : Bool) (σ : Store) : ACalls Tryz.prog 30 [confA e o] σ fun v σ' => v = confA e.few false ∧ σ' = σ := by
  have h1 := fun τ => ctext_calls e.ty 45 τ (by omega)
  have h2 := fun τ => ctext_calls e.dev 45 τ (by omega)
  have h3 := fun τ => cut_calls false e.fns 8 τ (by omega)
  unfold confA
  refine ACalls.of_awp follows (st := st30) (plans := pl30) (n := 13) Tryz.func30 rfl (by kernel_rfl) (by kernel_rfl) (by kernel_rfl) ?_
  simp +contextual [ite_free]
  intro p hp q n1 n2 hq
  have hfin : ∀ Y : List AV, Store.sub σ ((σ.upd p [strS e.ty, strS e.dev, .list o 1 (bytesA e.fns)]).upd q Y) := fun Y => by (intro q; simp only [Store.upd, Store.del]; (repeat' split) <;> first | exact Or.inr rfl | exact Or.inl rfl | (exfalso; omega) | (left; subst_vars; assumption) | simp_all)
  repeat' first
    | with_reducible apply And.intro
    | (refine callK.of (h1 _) ?_; rintro v σ' ⟨rfl, rfl⟩; simp [n1, n2])
    | (refine callK.of (h2 _) ?_; rintro v σ' ⟨rfl, rfl⟩; simp [n1, n2])
    | (refine callK.of (h3 _) ?_; rintro v σ' ⟨rfl, rfl⟩; simp [n1, n2])
  all_goals first | exact AV.le_refl _ | exact hfin _
end Go.Proofs.YteaidaolablegaaGreatDoor
/-
  The options' machine: its cells, what it hears and is asked.
-/
namespace Go.Proofs.YteaidaolablegaaGreatDoor
open Go Go.AL

/-- States and what is agreed to, by sides. -/
structure Om where
  st : Nat → Nat → UInt8
  ag : Nat → Nat → Bool
def omC (m : Om) (i : Nat) : AV := if i % 512 < 256 then byteA (m.st (i / 512) (i % 512)) else .lit (.bool (m.ag (i / 512) (i % 512 - 256)))
def omA (m : Om) : List AV := (List.range 1024).map (omC m)
@[simp] theorem omA_length (m : Om) : (omA m).length = 1024 := by simp [omA]
theorem omA_get (m : Om) {i : Nat} (h : i < 1024) : (omA m)[i]? = some (omC m i) := by simp [omA, h]
theorem omC_st (m : Om) (s : Nat) {o : Nat} (h : o < 256) : omC m (s * 512 + o) = byteA (m.st s o) := by
  unfold omC
  rw [if_pos (by omega)]
  congr 2 <;> omega
theorem omC_ag (m : Om) (s : Nat) {o : Nat} (h : o < 256) : omC m (s * 512 + 256 + o) = .lit (.bool (m.ag s o)) := by
  unfold omC
  rw [if_neg (by omega)]
  have e1 : (s * 512 + 256 + o) / 512 = s := by omega
  have e2 : (s * 512 + 256 + o) % 512 - 256 = o := by omega
  rw [e1, e2]
def Om.setSt (m : Om) (s o : Nat) (b : UInt8) : Om := { m with st := fun s' o' => if s' = s ∧ o' = o then b else m.st s' o' }
def Om.setAg (m : Om) (s o : Nat) (b : Bool) : Om := { m with ag := fun s' o' => if s' = s ∧ o' = o then b else m.ag s' o' }
theorem omA_setSt (m : Om) (s : Nat) {o : Nat} (b : UInt8) (h : o < 256) : (omA m).set (s * 512 + o) (byteA b) = omA (m.setSt s o b) := by
  apply List.ext_getElem?
  intro i
  rw [List.getElem?_set, omA_length]
  by_cases hi : i < 1024
  · rw [omA_get _ hi, omA_get _ hi]
    by_cases h1 : s * 512 + o = i
    · subst h1
      rw [if_pos rfl, if_pos hi, omC_st _ _ h]
      simp [Om.setSt]
    · rw [if_neg h1]
      unfold omC
      congr 1
      by_cases h2 : i % 512 < 256
      · rw [if_pos h2, if_pos h2]
        simp only [Om.setSt]
        rw [if_neg (by omega)]
      · rw [if_neg h2, if_neg h2]; rfl
  · rw [List.getElem?_eq_none (by simpa using hi), List.getElem?_eq_none (by simpa using hi)]
    split
    · rw [if_neg (by omega)]
    · rfl
theorem omA_setAg (m : Om) (s : Nat) {o : Nat} (b : Bool) (h : o < 256) : (omA m).set (s * 512 + 256 + o) (.lit (.bool b)) = omA (m.setAg s o b) := by
  apply List.ext_getElem?
  intro i
  rw [List.getElem?_set, omA_length]
  by_cases hi : i < 1024
  · rw [omA_get _ hi, omA_get _ hi]
    by_cases h1 : s * 512 + 256 + o = i
    · subst h1
      rw [if_pos rfl, if_pos hi, omC_ag _ _ h]
      simp [Om.setAg]
    · rw [if_neg h1]
      unfold omC
      congr 1
      by_cases h2 : i % 512 < 256
      · rw [if_pos h2, if_pos h2]; rfl
      · rw [if_neg h2, if_neg h2]
        simp only [Om.setAg]
        rw [if_neg (by omega)]
  · rw [List.getElem?_eq_none (by simpa using hi), List.getElem?_eq_none (by simpa using hi)]
    split
    · rw [if_neg (by omega)]
    · rfl
/-- He says on, off; we ask for off: the state then, and the word (0 nothing, 1 off, 2 on). -/
def onF (s : UInt8) (a : Bool) : UInt8 × Nat := if s = 0 then (if a = true then (1, 2) else (0, 1)) else if s = 2 then (0, 0) else if s = 5 then (2, 1) else (1, 0)
def offF (s : UInt8) : UInt8 × Nat := if s = 1 then (0, 1) else if s = 3 then (4, 2) else (0, 0)
def askF (s : UInt8) : UInt8 × Nat × Bool := if s = 1 then (2, 1, true) else if s = 3 then (2, 0, true) else if s = 4 then (5, 0, true) else (s, 0, false)
/-- Messages: a verb and an option. -/
def saidF (side w : Nat) (o : UInt8) : List (UInt8 × UInt8) := if w = 0 then [] else [(UInt8.ofNat ((if side = 0 then 251 else 253) + (if w = 1 then 1 else 0)), o)]
def msgA (x : UInt8 × UInt8) : AV := .agg [byteA x.1, byteA x.2]
def msgsA (l : List (UInt8 × UInt8)) : List AV := l.map msgA
/-- What is heard: the machine then, and the answer. -/
def Om.hear (m : Om) (verb o : UInt8) : Om × List (UInt8 × UInt8) :=
  if verb = 251 then ((m.setSt 1 o.toNat (onF (m.st 1 o.toNat) (m.ag 1 o.toNat)).1), saidF 1 (onF (m.st 1 o.toNat) (m.ag 1 o.toNat)).2 o)
  else if verb = 252 then ((m.setSt 1 o.toNat (offF (m.st 1 o.toNat)).1), saidF 1 (offF (m.st 1 o.toNat)).2 o)
  else if verb = 253 then ((m.setSt 0 o.toNat (onF (m.st 0 o.toNat) (m.ag 0 o.toNat)).1), saidF 0 (onF (m.st 0 o.toNat) (m.ag 0 o.toNat)).2 o)
  else if verb = 254 then ((m.setSt 0 o.toNat (offF (m.st 0 o.toNat)).1), saidF 0 (offF (m.st 0 o.toNat)).2 o)
  else (m, [])

def Om.zero : Om := ⟨fun _ _ => 0, fun _ _ => false⟩
@[simp] theorem azero147 : azero Tryz.prog 147 = some (omA .zero) := nr (by kernel_rfl)
theorem st_get (m : Om) (off : Nat) {o : Nat} (hs : off = 0 ∨ off = 512) (h : o < 256) : (omA m)[off + o]? = some (byteA (m.st (off / 512) o)) := by
  rcases hs with rfl | rfl
  · rw [omA_get _ (by omega)]
    have := omC_st m 0 h
    simp only [Nat.zero_mul] at this
    rw [this]
  · rw [omA_get _ (by omega)]
    have := omC_st m 1 h
    simp only [Nat.one_mul] at this
    rw [this]
theorem ag_get (m : Om) (off : Nat) {o : Nat} (hs : off = 0 ∨ off = 512) (h : o < 256) : (omA m)[off + 256 + o]? = some (.lit (.bool (m.ag (off / 512) o))) := by
  rcases hs with rfl | rfl
  · rw [omA_get _ (by omega)]
    have := omC_ag m 0 h
    simp only [Nat.zero_mul] at this
    rw [this]
  · rw [omA_get _ (by omega)]
    have := omC_ag m 1 h
    simp only [Nat.one_mul] at this
    rw [this]
abbrev sideA (b off : Nat) : AV := .lit (.pointer (some ⟨b, off, none⟩))
set_option maxRecDepth 8000 in
theorem on_calls (b off : Nat) (m : Om) (o : UInt8) (hs : off = 0 ∨ off = 512) (σ : Store) (hb : σ b = some (omA m)) :
    ACalls Tryz.prog 106 [sideA b off, byteA o] σ fun v σ' => v = .tuple [byteA (onF (m.st (off / 512) o.toNat) (m.ag (off / 512) o.toNat)).1, .lit (.int .u8 (onF (m.st (off / 512) o.toNat) (m.ag (off / 512) o.toNat)).2)] ∧ σ' = σ := by
  have ho := o.toNat_lt
  have h1 := st_get m off hs ho
  have h2 := ag_get m off hs ho
  have ho' : (o.toNat : Int) < 256 := by omega
  generalize m.st (off / 512) o.toNat = s at *
  generalize m.ag (off / 512) o.toNat = a at *
  refine ACalls.of_awp follows (st := st106) (plans := pl106) (n := 24) Tryz.func106 rfl (by kernel_rfl) (by kernel_rfl) (by kernel_rfl) ?_
  by_cases e0 : s = 0
  · subst e0
    cases a
    · simp [hb, byteA, ho', h1, h2, onF]
    · simp [hb, byteA, ho', h1, h2, onF]
  have n0 : ¬ (s.toNat : Int) = 0 := u8_ne (n := 0) (by omega) e0
  by_cases e2 : s = 2
  · subst e2
    simp [hb, byteA, ho', h1, h2, onF]
  have n2 : ¬ (s.toNat : Int) = 2 := u8_ne (n := 2) (by omega) e2
  by_cases e5 : s = 5
  · subst e5
    simp [hb, byteA, ho', h1, h2, onF]
  have n5 : ¬ (s.toNat : Int) = 5 := u8_ne (n := 5) (by omega) e5
  have hf : onF s a = (1, 0) := by unfold onF; rw [if_neg e0, if_neg e2, if_neg e5]
  rw [hf]
  have n0' : ¬ s.toNat = 0 := by omega
  simp [hb, byteA, ho', h1, h2, n0, n0', n2, n5]
set_option maxRecDepth 8000 in
theorem off_calls (b off : Nat) (m : Om) (o : UInt8) (hs : off = 0 ∨ off = 512) (σ : Store) (hb : σ b = some (omA m)) :
    ACalls Tryz.prog 107 [sideA b off, byteA o] σ fun v σ' => v = .tuple [byteA (offF (m.st (off / 512) o.toNat)).1, .lit (.int .u8 (offF (m.st (off / 512) o.toNat)).2)] ∧ σ' = σ := by
  have ho := o.toNat_lt
  have h1 := st_get m off hs ho
  have ho' : (o.toNat : Int) < 256 := by omega
  generalize m.st (off / 512) o.toNat = s at *
  refine ACalls.of_awp follows (st := st107) (plans := pl107) (n := 16) Tryz.func107 rfl (by kernel_rfl) (by kernel_rfl) (by kernel_rfl) ?_
  by_cases e1 : s = 1
  · subst e1
    simp [hb, byteA, ho', h1, offF]
  have n1 : ¬ (s.toNat : Int) = 1 := u8_ne (n := 1) (by omega) e1
  by_cases e3 : s = 3
  · subst e3
    simp [hb, byteA, ho', h1, offF]
  have n3 : ¬ (s.toNat : Int) = 3 := u8_ne (n := 3) (by omega) e3
  have hf : offF s = (0, 0) := by unfold offF; rw [if_neg e1, if_neg e3]
  rw [hf]
  simp [hb, byteA, ho', h1, n1, n3]
set_option maxRecDepth 8000 in
theorem ask_calls (b off : Nat) (m : Om) (o : UInt8) (hs : off = 0 ∨ off = 512) (σ : Store) (hb : σ b = some (omA m)) :
    ACalls Tryz.prog 115 [sideA b off, byteA o] σ fun v σ' => v = .tuple [byteA (askF (m.st (off / 512) o.toNat)).1, .lit (.int .u8 (askF (m.st (off / 512) o.toNat)).2.1), .lit (.bool (askF (m.st (off / 512) o.toNat)).2.2)] ∧ σ' = σ := by
  have ho := o.toNat_lt
  have h1 := st_get m off hs ho
  have ho' : (o.toNat : Int) < 256 := by omega
  generalize m.st (off / 512) o.toNat = s at *
  refine ACalls.of_awp follows (st := st115) (plans := pl115) (n := 25) Tryz.func115 rfl (by kernel_rfl) (by kernel_rfl) (by kernel_rfl) ?_
  by_cases e1 : s = 1
  · subst e1
    simp [hb, byteA, ho', h1, askF]
  have n1 : ¬ (s.toNat : Int) = 1 := u8_ne (n := 1) (by omega) e1
  by_cases e3 : s = 3
  · subst e3
    simp [hb, byteA, ho', h1, askF]
  have n3 : ¬ (s.toNat : Int) = 3 := u8_ne (n := 3) (by omega) e3
  by_cases e4 : s = 4
  · subst e4
    simp [hb, byteA, ho', h1, askF]
  have n4 : ¬ (s.toNat : Int) = 4 := u8_ne (n := 4) (by omega) e4
  have hf : askF s = (s, 0, false) := by unfold askF; rw [if_neg e1, if_neg e3, if_neg e4]
  rw [hf]
  simp [hb, byteA, ho', h1, n1, n3, n4]
set_option maxRecDepth 8000 in
theorem said_calls (side w : Nat) (o : UInt8) (hs : side = 0 ∨ side = 1) (hw : w ≤ 2) (σ : Store) :
    ACalls Tryz.prog 108 [.lit (.int .i64 side), .lit (.int .u8 w), byteA o] σ fun v σ' => v = .list true 2 (msgsA (saidF side w o)) ∧ σ' = σ := by
  refine ACalls.of_awp follows (st := st108) (plans := pl108) (n := 21) Tryz.func108 rfl (by kernel_rfl) (by kernel_rfl) (by kernel_rfl) ?_
  have hw3 : w = 0 ∨ w = 1 ∨ w = 2 := by omega
  rcases hs with rfl | rfl <;> rcases hw3 with rfl | rfl | rfl
  all_goals
    simp [byteA, saidF, msgsA, msgA]
    intro p hp
    first
      | exact ⟨_, AV.le_refl _, sub_upd_self _ _ _ hp⟩
      | exact sub_upd_self _ _ _ hp
      | skip
end Go.Proofs.YteaidaolablegaaGreatDoor
