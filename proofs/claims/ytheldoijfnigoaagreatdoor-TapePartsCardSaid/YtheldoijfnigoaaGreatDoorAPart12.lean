/-
  A line's step: tape.ReadLine.
-/
import Derived.Test.YtheldoijfnigoaaGreatDoorAPart11
set_option linter.unusedSimpArgs false
set_option linter.unusedVariables false
namespace Go.Proofs.YtheldoijfnigoaaGreatDoor
open Go Go.AL

def lineE (s : List UInt8) : Int := if (lineO s).isSome then 0 else 4
theorem splitL_cons (c : UInt8) (l : List UInt8) : ∃ w r, splitL c l = w :: r := by
  have h := splitL_len c l
  cases e : splitL c l with
  | nil => rw [e] at h; simp at h
  | cons w r => exact ⟨w, r, rfl⟩
theorem splitL_sizes (c : UInt8) : ∀ l : List UInt8, ∀ x ∈ splitL c l, x.length ≤ l.length
  | [], x, h => by simp [splitL] at h; subst h; simp
  | b :: l, x, h => by
    rw [splitL] at h
    split at h
    · rcases List.mem_cons.1 h with rfl | h
      · simp
      · have := splitL_sizes c l x h; simp; omega
    · have ih := splitL_sizes c l
      split at h
      · simp at h; subst h; simp
      · rename_i e
        rw [e] at ih
        rename_i h0 t0
        rcases List.mem_cons.1 h with rfl | h
        · have := ih h0 (by simp); simp; omega
        · have := ih x (by simp [h]); simp; omega
theorem oneL_not : ∀ r : List (List UInt8), (¬ ∃ x, r = [x]) → oneL r = none ∧ r.length ≠ 1
  | [], _ => ⟨rfl, by simp⟩
  | [x], h => absurd ⟨x, rfl⟩ h
  | a :: b :: r, _ => ⟨rfl, by simp⟩
theorem toB_toList (l : List UInt8) : (toB l).toList = l := by rw [ByteArray.toList_eq, toB_data]
variable [Errs]
set_option linter.unusedSectionVars false
set_option maxRecDepth 8000 in
set_option maxHeartbeats 1000000 in
theorem line_calls (s : List UInt8) (hs : s.length ≤ 100000) (σ : Store) :
    ACalls Tryz.prog 29 [.lit (.string (toB s))] σ fun v σ' => v = .tuple [stpA ((lineO s).getD .zero), .lit (.int .i64 (lineE s))] ∧ σ' = σ := by
  have hsp := fun τ => split_calls s (by omega) 32 τ
  have hsz := splitL_sizes 32 s
  have hcn := splitL_len 32 s
  have hcc := s.count_le_length (a := 32)
  obtain ⟨w, r, e⟩ := splitL_cons 32 s
  have hlo : lineO s = if w = [72] ∨ w = [79] then (oneL r).bind fun x => (readO x).map fun p => ⟨w.headD 0, p, .zero⟩
    else if w = [75] then (keyO r).map fun k => ⟨75, [], k⟩ else none := by unfold lineO; rw [e]
  unfold lineE
  rw [hlo]
  rw [e] at hsp hsz hcn
  have hky := fun τ => key_calls false r (fun x hx => by have := hsz x (by simp [hx]); omega) (by simp at hcn; omega) τ
  refine ACalls.of_awp follows (st := st29) (plans := pl29) (n := 51) Tryz.func29 rfl (by kernel_rfl) (by kernel_rfl) (by kernel_rfl) ?_
  simp
  intro p hp
  refine callK.of (hsp _) ?_
  rintro v σ1 ⟨rfl, rfl⟩
  have hback : ∀ X, Store.sub σ (σ.upd p X) := fun X => sub_upd_self _ _ _ hp
  by_cases hw : w = [72] ∨ w = [79]
  · by_cases hr : ∃ x, r = [x]
    · obtain ⟨x, rfl⟩ := hr
      have hrd := fun τ => read_calls x (by have := hsz x (by simp); omega) τ
      rw [if_pos hw]
      cases hx : readO x with
      | none =>
        rw [hx] at hrd
        have ho : ∀ k : UInt8, ((oneL [x]).bind fun x => (readO x).map fun p => (⟨k, p, .zero⟩ : Stp)) = none := fun k => by simp [oneL, hx]
        rw [ho]
        rcases hw with rfl | rfl
        all_goals
          simp [strsA, toB_toList]
          refine callK.of (hrd _) ?_
          rintro v σ1 ⟨⟨y, hy, rfl⟩, rfl⟩
          simp
          exact ⟨AV.le_refl _, hback _⟩
      | some b =>
        rw [hx] at hrd
        have ho : ∀ k : UInt8, ((oneL [x]).bind fun x => (readO x).map fun p => (⟨k, p, .zero⟩ : Stp)) = some ⟨k, b, .zero⟩ := fun k => by simp [oneL, hx]
        rw [ho]
        rcases hw with rfl | rfl
        all_goals
          simp [strsA, toB_toList]
          refine callK.of (hrd _) ?_
          rintro v σ1 ⟨⟨y, hy, rfl⟩, rfl⟩
          obtain rfl := hy _ rfl
          simp [toB]
          exact ⟨AV.le_refl _, hback _⟩
    · obtain ⟨hn, hl1⟩ := oneL_not r hr
      have hrl : ¬ (r.length : Int) + 1 = 2 := by omega
      rw [if_pos hw, hn]
      rcases hw with rfl | rfl
      all_goals
        simp [strsA, toB_toList, hrl]
        exact ⟨AV.le_refl _, hback _⟩
  · rw [if_neg hw]
    rw [not_or] at hw
    by_cases h3 : w = [75]
    · rw [if_pos h3]
      subst h3
      have ht : List.take r.length (List.map (fun x => AV.lit (Value.string (toB x))) r) = strsA r := List.take_of_length_le (by simp)
      simp [strsA, toB_toList, ht]
      refine callK.of (hky _) ?_
      rintro v σ1 ⟨⟨k, hk, rfl⟩, rfl⟩
      cases hx : keyO r with
      | none =>
        simp
        intro q hq
        rw [ite_none] at hq
        obtain ⟨n1, hq⟩ := hq
        have n2 : ¬ p = q := fun e => n1 e.symm
        simp [kyA, n1, n2]
        refine ⟨AV.le_refl _, ?_⟩
        (intro q; simp only [Store.upd, Store.del]; (repeat' split) <;> first | exact Or.inr rfl | exact Or.inl rfl | (exfalso; omega) | (left; subst_vars; assumption) | simp_all)
      | some k' =>
        obtain rfl := hk _ hx
        simp
        intro q hq
        rw [ite_none] at hq
        obtain ⟨n1, hq⟩ := hq
        have n2 : ¬ p = q := fun e => n1 e.symm
        simp [kyA, n1, n2]
        refine ⟨AV.le_refl _, ?_⟩
        (intro q; simp only [Store.upd, Store.del]; (repeat' split) <;> first | exact Or.inr rfl | exact Or.inl rfl | (exfalso; omega) | (left; subst_vars; assumption) | simp_all)
    · rw [if_neg h3]
      simp [strsA, toB_toList, hw.1, hw.2, h3]
      exact ⟨AV.le_refl _, hback _⟩
end Go.Proofs.YtheldoijfnigoaaGreatDoor
/-
  A text's steps: tape.Parse.
-/
namespace Go.Proofs.YtheldoijfnigoaaGreatDoor
open Go Go.AL

theorem stpsA_append (a b : List Stp) : stpsA (a ++ b) = stpsA a ++ stpsA b := by simp [stpsA]
def parseT (t : List UInt8) : List Stp × Nat × Bool := parseL (splitL 10 t) []
def parA (x : List Stp × Nat × Bool) : AV := .tuple [.list true 5 (stpsA x.1), .lit (.int .i64 x.2.1), .lit (.int .i64 (if x.2.2 then 0 else 4))]
variable [Errs]
set_option linter.unusedSectionVars false
theorem cutL_len (c : UInt8) (l : List UInt8) : (cutL c l).1.length ≤ l.length ∧ (l ≠ [] → (cutL c l).2.1.length < l.length) := by
  by_cases h : c ∈ l
  · obtain ⟨pre, post, rfl, h2, h3⟩ := indexByte_split l c (List.count_pos_iff.2 h)
    rw [cutL_some c h3]
    exact ⟨by simp, fun _ => by simp; omega⟩
  · rw [cutL_none c h]
    exact ⟨by simp, fun h => by simpa using List.length_pos_iff.2 h⟩
theorem parse_step (t : List UInt8) (acc : List Stp) (h : t ≠ []) : parseL (splitL 10 t) acc =
    if (cutL 10 t).2.2 = true ∧ (lineO (cutL 10 t).1).isSome = true then parseL (splitL 10 (cutL 10 t).2.1) (acc ++ [(lineO (cutL 10 t).1).getD .zero]) else ([], acc.length + 1, false) := by
  by_cases hc : (10 : UInt8) ∈ t
  · obtain ⟨pre, post, rfl, h2, h3⟩ := indexByte_split t 10 (List.count_pos_iff.2 hc)
    rw [cutL_some 10 h3, splitL_cut 10 post pre h2]
    obtain ⟨w, r, e⟩ := splitL_cons 10 post
    rw [e]
    show (match lineO pre with | none => ([], acc.length + 1, false) | some x => parseL (w :: r) (acc ++ [x])) = _
    cases lineO pre <;> simp
  · rw [cutL_none 10 hc, splitL_none 10 t hc]
    show (if t = [] then (acc, acc.length, true) else ([], acc.length + 1, false)) = _
    rw [if_neg h]; simp

set_option maxRecDepth 8000 in
set_option maxHeartbeats 1000000 in
theorem parse_text_calls (t : List UInt8) (ht : t.length ≤ 100000) (σ : Store) :
    ACalls Tryz.prog 16 [.lit (.string (toB t))] σ fun v σ' => v = parA (parseT t) ∧ σ' = σ := by
  refine ACalls.of_awp follows (st := st16) (plans := pl16) (n := 41) Tryz.func16 rfl (by kernel_rfl) (by kernel_rfl) (by kernel_rfl) ?_
  simp
  refine codeK.loop follows (st := st16) (plans := pl16) (X := List Stp × List UInt8) (fun x => parseL (splitL 10 x.2) x.1 = parseT t ∧ x.1.length + x.2.length ≤ t.length)
    (fun x => [(0, .lit (.string (toB x.2))), (5, .list true 5 (stpsA x.1))]) (fun _ => σ) (fun x => x.2.length) ([], t) (by kernel_rfl) ⟨rfl, by simp⟩ (by simp [stpsA]) (Store.sub_refl _) fun x hx => ?_
  obtain ⟨acc, s⟩ := x
  obtain ⟨h1, h2⟩ := hx
  dsimp only at h1 h2 ⊢
  by_cases hs : s = []
  · subst hs
    have e : parseT t = (acc, acc.length, true) := by rw [← h1]; rfl
    rw [e]
    simp [toB_toList, parA]
  · have hst := parse_step s acc hs
    rw [h1] at hst
    obtain ⟨hl1, hl2⟩ := cutL_len 10 s
    have hl2 := hl2 hs
    have hcu := fun τ => cut_calls s (by omega) 10 τ
    have hln := fun τ => line_calls (cutL 10 s).1 (by omega) τ
    simp [toB_toList, hs]
    refine callK.of (hcu _) ?_
    rintro v σ1 ⟨rfl, rfl⟩
    generalize cutL 10 s = C at *
    obtain ⟨a, b, ok⟩ := C
    dsimp only at hl1 hl2 hln hst
    simp [cutA]
    refine callK.of (hln _) ?_
    rintro v σ1 ⟨rfl, rfl⟩
    unfold lineE
    have hlw : IntKind.i64.wrap ((acc.length : Int) + 1) = (acc.length : Int) + 1 := wrap_i64 (by omega) (by omega)
    have hfr : ∀ (p : Nat) X, σ1 p = none → Store.sub σ1 (σ1.upd p X) := fun p X hp => sub_upd_self _ _ _ hp
    cases hlo : lineO a with
    | none =>
      rw [hlo] at hst
      rw [if_neg (by simp)] at hst
      rw [hst]
      cases ok <;> simp [stpA, parA, hlw]
      all_goals
        intro p hp
        exact ⟨AV.le_refl _, hfr p _ hp⟩
    | some x =>
      rw [hlo] at hst
      cases ok
      · rw [if_neg (by simp)] at hst
        rw [hst]
        simp [stpA, parA, hlw]
        intro p hp
        exact ⟨AV.le_refl _, hfr p _ hp⟩
      · rw [if_pos (by simp)] at hst
        simp [stpA, parA]
        intro p hp
        refine ⟨by omega, by omega, acc ++ [x], b, ⟨by rw [hst]; simp, by simp; omega⟩, by omega, ⟨AV.le_refl _, ?_⟩, hfr p _ hp⟩
        simp [stpsA, stpA, byteA]
        trace_state
end Go.Proofs.YtheldoijfnigoaaGreatDoor
/-
  The document's Same; the law's small helpers; its example.
-/
namespace Go.Proofs.YtheldoijfnigoaaGreatDoor
open Go Go.AL

/-- Are two steps alike? -/
def likeS (x y : Stp) : Bool := x.kind == y.kind && !(x.kind == 75 && x.key != y.key) && !((x.kind == 72 || x.kind == 79) && x.bytes != y.bytes)
def likeL : List Stp → List Stp → Bool
  | [], [] => true
  | x :: a, y :: b => likeS x y && likeL a b
  | _, _ => false
theorem likeL_len : ∀ a b : List Stp, likeL a b = true → a.length = b.length
  | [], [], _ => rfl
  | [], _ :: _, h => by simp [likeL] at h
  | _ :: _, [], h => by simp [likeL] at h
  | x :: a, y :: b, h => by simp [likeL] at h; simp [likeL_len a b h.2]
variable [Errs]
set_option linter.unusedSectionVars false
theorem bytesOf_bytesA (l : List UInt8) : bytesOf (bytesA l) = some l := by
  induction l with
  | nil => rfl
  | cons b l ih =>
    have hb : AL.byteOf (byteA b) = some b := by simp [byteA, AL.byteOf]
    simp only [bytesOf, bytesA, List.map_cons, List.mapM_cons] at ih ⊢
    rw [hb, ih]; rfl
set_option maxRecDepth 8000 in
theorem same_bytes_calls (a b : List UInt8) (o1 o2 : Bool) (ha : a.length ≤ 1000000) (hb : b.length ≤ 1000000) (σ : Store) : ACalls Tryz.prog 8 [.list o1 1 (bytesA a), .list o2 1 (bytesA b)] σ fun v σ' => v = .lit (.bool (a == b)) ∧ σ' = σ := by
  refine ACalls.of_awp follows (st := st8) (plans := pl8) (n := 10) Tryz.func8 rfl (by kernel_rfl) (by kernel_rfl) (by kernel_rfl) ?_
  have h1 := bytesOf_bytesA a
  have h2 := bytesOf_bytesA b
  simp [h1, h2]
set_option maxRecDepth 8000 in
theorem back_calls (l : List Stp) (hl : l.length ≤ 1000000) (o : Bool) (σ : Store) : ACalls Tryz.prog 11 [.list o 5 (stpsA l)] σ fun v σ' => v = .list true 5 (stpsA l) ∧ σ' = σ := by
  refine ACalls.of_awp follows (st := st11) (plans := pl11) (n := 24) Tryz.func11 rfl (by kernel_rfl) (by kernel_rfl) (by kernel_rfl) ?_
  simp
  refine codeK.loop follows (st := st11) (plans := pl11) (X := Nat) (fun k => k ≤ l.length)
    (fun k => [(3, .list true 5 (stpsA (l.take k))), (6, .list false 5 (stpsA l)), (7, .lit (.int .i64 l.length)), (8, .lit (.int .i64 k))]) (fun _ => σ) (fun k => l.length - k) 0 (by kernel_rfl)
    (by simp) (by simp [stpsA]) (Store.sub_refl _) fun k hk => ?_
  by_cases hlt : k < l.length
  · obtain ⟨x, hx⟩ : ∃ x, l[k]'hlt = x := ⟨_, rfl⟩
    have htk : l.take (k + 1) = l.take k ++ [x] := by rw [List.take_succ_eq_append_getElem hlt, hx]
    have hg : (stpsA l)[k]? = some (stpA x) := by simp [stpsA, hlt, hx]
    have hg2 : ∀ h, (stpsA l)[k]'h = stpA x := fun h => by simp [stpsA, hx]
    have hlw : IntKind.i64.wrap ((k : Int) + 1) = (k : Int) + 1 := wrap_i64 (by omega) (by omega)
    have hlk : (l.take k).length = k := by rw [List.length_take]; omega
    simp only [stpA, byteA] at hg hg2
    simp [hlt, hg, hg2]
    intro p hp
    refine ⟨by omega, by omega, k + 1, by omega, by omega, ⟨?_, by rw [hlw]; exact AV.le_refl _⟩, sub_upd_self _ _ _ hp⟩
    rw [htk, stpsA_append]
    exact AV.le_refl _
  · have : k = l.length := by omega
    subst this
    simp
set_option maxHeartbeats 1000000 in
set_option maxRecDepth 8000 in
theorem same_steps_calls (a b : List Stp) (o1 o2 : Bool) (ha : a.length ≤ 1000000) (hab : ∀ x ∈ a, x.bytes.length ≤ 1000000) (hbb : ∀ x ∈ b, x.bytes.length ≤ 1000000) (σ : Store) :
    ACalls Tryz.prog 10 [.list o1 5 (stpsA a), .list o2 5 (stpsA b)] σ fun v σ' => v = .lit (.bool (likeL a b)) ∧ σ' = σ := by
  refine ACalls.of_awp follows (st := st10) (plans := pl10) (n := 62) Tryz.func10 rfl (by kernel_rfl) (by kernel_rfl) (by kernel_rfl) ?_
  by_cases hl : a.length = b.length
  · have hli : (a.length : Int) = b.length := by omega
    simp [hli]
    refine codeK.loop follows (st := st10) (plans := pl10) (X := Nat) (fun k => k ≤ a.length ∧ likeL (a.drop k) (b.drop k) = likeL a b)
      (fun k => [(0, .list false 5 (stpsA a)), (1, .list false 5 (stpsA b)), (14, .lit (.int .i64 b.length)), (15, .lit (.int .i64 k))]) (fun _ => σ) (fun k => a.length - k) 0 (by kernel_rfl)
      ⟨by simp, by simp⟩ (by simp) (Store.sub_refl _) fun k hk => ?_
    obtain ⟨hk, hlk⟩ := hk
    by_cases hlt : k < a.length
    · have hlt2 : k < b.length := by omega
      obtain ⟨x, hx⟩ : ∃ x, a[k]'hlt = x := ⟨_, rfl⟩
      obtain ⟨y, hy⟩ : ∃ y, b[k]'hlt2 = y := ⟨_, rfl⟩
      have hga : (stpsA a)[k]? = some (stpA x) := by simp [stpsA, hlt, hx]
      have hgb : (stpsA b)[k]? = some (stpA y) := by simp [stpsA, hlt2, hy]
      have hga2 : ∀ h, (stpsA a)[k]'h = stpA x := fun h => by simp [stpsA, hx]
      have hgb2 : ∀ h, (stpsA b)[k]'h = stpA y := fun h => by simp [stpsA, hy]
      have hda : a.drop k = x :: a.drop (k + 1) := by rw [List.drop_eq_getElem_cons hlt, hx]
      have hdb : b.drop k = y :: b.drop (k + 1) := by rw [List.drop_eq_getElem_cons hlt2, hy]
      rw [hda, hdb] at hlk
      have hxm := hab x (by rw [← hx]; exact List.getElem_mem _)
      have hym := hbb y (by rw [← hy]; exact List.getElem_mem _)
      have hsb := fun τ => same_bytes_calls x.bytes y.bytes false false hxm hym τ
      have hlw : IntKind.i64.wrap ((k : Int) + 1) = (k : Int) + 1 := wrap_i64 (by omega) (by omega)
      obtain ⟨kx, bx, ⟨ax, sx, nx⟩⟩ := x
      obtain ⟨ky, by', ⟨ay, sy, ny⟩⟩ := y
      simp only [stpA, byteA] at hga hgb hga2 hgb2
      simp [hlt, hlt2, hga, hgb, hga2, hgb2]
      by_cases hkk : kx = ky
      · subst hkk
        by_cases h75 : kx = 75
        · subst h75
          by_cases hky : ax = ay ∧ sx = sy ∧ nx = ny
          · obtain ⟨rfl, rfl, rfl⟩ := hky
            have hlt9 : likeL (a.drop (k + 1)) (b.drop (k + 1)) = likeL a b := by rw [← hlk]; simp [likeL, likeS]
            refine ⟨?_, ?_⟩
            all_goals
              intro p hp q hq
              rw [ite_none] at hq
              obtain ⟨n1, hq⟩ := hq
              have n2 : ¬ p = q := fun e => n1 e.symm
              simp [n1, n2]
              refine ⟨k + 1, ⟨by omega, hlt9⟩, by omega, by rw [hlw]; exact AV.le_refl _, ?_⟩
              (intro q; simp only [Store.upd, Store.del]; (repeat' split) <;> first | exact Or.inr rfl | exact Or.inl rfl | (exfalso; omega) | (left; subst_vars; assumption) | simp_all)
          · have hlf : likeL a b = false := by
              rw [← hlk]
              have : ((⟨ax, sx, nx⟩ : Ky) != ⟨ay, sy, ny⟩) = true := by simpa using hky
              simp [likeL, likeS, this]
            have hky' : ¬ ax = ay ∨ ¬ sx = sy ∨ ¬ nx = ny := by
              by_cases e1 : ax = ay
              · by_cases e2 : sx = sy
                · exact .inr (.inr fun e3 => hky ⟨e1, e2, e3⟩)
                · exact .inr (.inl e2)
              · exact .inl e1
            rw [hlf]
            refine ⟨?_, ?_⟩
            all_goals
              intro p hp q hq
              rw [ite_none] at hq
              obtain ⟨n1, hq⟩ := hq
              have n2 : ¬ p = q := fun e => n1 e.symm
              simp [n1, n2, hky', hky]
              (intro q; simp only [Store.upd, Store.del]; (repeat' split) <;> first | exact Or.inr rfl | exact Or.inl rfl | (exfalso; omega) | (left; subst_vars; assumption) | simp_all)
        · have h75i : ¬ (kx.toNat : Int) = 75 := fun h => h75 (UInt8.toNat_inj.1 (by show kx.toNat = 75; omega))
          have h75n : ¬ kx.toNat = 75 := fun h => h75 (UInt8.toNat_inj.1 h)
          by_cases h7 : kx = 72 ∨ kx = 79
          · have hlt9 : (if bx = by' then likeL (a.drop (k + 1)) (b.drop (k + 1)) else false) = likeL a b := by
              rw [← hlk]
              rcases h7 with rfl | rfl <;> by_cases hbe : bx = by' <;> simp [likeL, likeS, hbe]
            by_cases hbe : bx = by'
            · subst hbe
              rw [if_pos rfl] at hlt9
              have hbt : (bx == bx) = true := by simp
              rw [hbt] at hsb
              rcases h7 with rfl | rfl
              all_goals
              refine ⟨?_, ?_⟩
              all_goals
                intro p hp q hq
                rw [ite_none] at hq
                obtain ⟨n1, hq⟩ := hq
                have n2 : ¬ p = q := fun e => n1 e.symm
                simp [n1, n2]
                refine callK.of (hsb _) ?_
                rintro v σ2 ⟨rfl, rfl⟩
                simp
                refine ⟨k + 1, ⟨by omega, hlt9⟩, by omega, by rw [hlw]; exact AV.le_refl _, ?_⟩
                (intro q; simp only [Store.upd, Store.del]; (repeat' split) <;> first | exact Or.inr rfl | exact Or.inl rfl | (exfalso; omega) | (left; subst_vars; assumption) | simp_all)
            · rw [if_neg hbe] at hlt9
              have hbt : (bx == by') = false := by simpa using hbe
              rw [hbt] at hsb
              rw [← hlt9]
              rcases h7 with rfl | rfl
              all_goals
              refine ⟨?_, ?_⟩
              all_goals
                intro p hp q hq
                rw [ite_none] at hq
                obtain ⟨n1, hq⟩ := hq
                have n2 : ¬ p = q := fun e => n1 e.symm
                simp [n1, n2]
                refine callK.of (hsb _) ?_
                rintro v σ2 ⟨rfl, rfl⟩
                simp
                (intro q; simp only [Store.upd, Store.del]; (repeat' split) <;> first | exact Or.inr rfl | exact Or.inl rfl | (exfalso; omega) | (left; subst_vars; assumption) | simp_all)
          · rw [not_or] at h7
            have h72i : ¬ (kx.toNat : Int) = 72 := fun h => h7.1 (UInt8.toNat_inj.1 (by show kx.toNat = 72; omega))
            have h72n : ¬ kx.toNat = 72 := fun h => h7.1 (UInt8.toNat_inj.1 h)
            have h79i : ¬ (kx.toNat : Int) = 79 := fun h => h7.2 (UInt8.toNat_inj.1 (by show kx.toNat = 79; omega))
            have h79n : ¬ kx.toNat = 79 := fun h => h7.2 (UInt8.toNat_inj.1 h)
            have hlt9 : likeL (a.drop (k + 1)) (b.drop (k + 1)) = likeL a b := by rw [← hlk]; simp [likeL, likeS, h75, h7.1, h7.2]
            refine ⟨?_, ?_⟩
            all_goals
              intro p hp q hq
              rw [ite_none] at hq
              obtain ⟨n1, hq⟩ := hq
              have n2 : ¬ p = q := fun e => n1 e.symm
              simp [n1, n2, h75i, h75n, h72i, h72n, h79i, h79n]
              refine ⟨k + 1, ⟨by omega, hlt9⟩, by omega, by rw [hlw]; exact AV.le_refl _, ?_⟩
              (intro q; simp only [Store.upd, Store.del]; (repeat' split) <;> first | exact Or.inr rfl | exact Or.inl rfl | (exfalso; omega) | (left; subst_vars; assumption) | simp_all)
      · have hkn : ¬ (kx.toNat : Int) = ky.toNat := fun h => hkk (UInt8.toNat_inj.1 (by omega))
        have hkn2 : ¬ kx.toNat = ky.toNat := fun h => hkk (UInt8.toNat_inj.1 h)
        have hlf : likeL a b = false := by rw [← hlk]; simp [likeL, likeS, hkk]
        rw [hlf]
        refine ⟨?_, ?_⟩
        all_goals
          intro p hp q hq
          rw [ite_none] at hq
          obtain ⟨n1, hq⟩ := hq
          have n2 : ¬ p = q := fun e => n1 e.symm
          simp [n1, n2, hkn, hkn2]
          (intro q; simp only [Store.upd, Store.del]; (repeat' split) <;> first | exact Or.inr rfl | exact Or.inl rfl | (exfalso; omega) | (left; subst_vars; assumption) | simp_all)
    · have hnil : a.drop k = [] := List.drop_of_length_le (by omega)
      have hnil2 : b.drop k = [] := List.drop_of_length_le (by omega)
      rw [hnil, hnil2] at hlk
      rw [← hlk]
      have hlt2 : ¬ k < b.length := by omega
      simp [hlt2, likeL]
  · have hn : likeL a b = false := by
      cases e : likeL a b with
      | false => rfl
      | true => exact absurd (likeL_len a b e) hl
    have hli : ¬ (a.length : Int) = b.length := by omega
    rw [hn]
    simp [hl, hli]
def exT : List UInt8 := [72, 32, 102, 102, 49, 97, 10, 75, 32, 49, 57, 32, 48, 32, 48, 10, 79, 32, 45, 10]
def exL : List Stp := [⟨72, [255, 26], .zero⟩, ⟨75, [], ⟨19, 0, 0⟩⟩, ⟨79, [], .zero⟩]
theorem ex_parse : parseT exT = (exL, 3, true) := by decide +kernel
set_option maxRecDepth 8000 in
set_option maxHeartbeats 1000000 in
theorem awake_calls (σ : Store) : ACalls Tryz.prog 4 [] σ fun v σ' => v = .lit (.bool true) ∧ σ' = σ := by
  have hp := parse_text_calls exT (by decide) σ
  rw [ex_parse] at hp
  have hsb := same_bytes_calls [255, 26] [255, 26] false true (by simp) (by simp) σ
  refine ACalls.of_awp follows (st := st4) (plans := pl4) (n := 50) Tryz.func4 rfl (by kernel_rfl) (by kernel_rfl) (by kernel_rfl) ?_
  simp
  refine callK.of hp ?_
  rintro v σ' ⟨rfl, rfl⟩
  simp [parA, exL, stpsA, stpA, byteA, Ky.zero]
  refine callK.of hsb ?_
  rintro v σ2 ⟨rfl, rfl⟩
  simp
end Go.Proofs.YtheldoijfnigoaaGreatDoor
/-
  TapeTexts: few steps, apart.
-/
namespace Go.Proofs.YtheldoijfnigoaaGreatDoor
open Go Go.AL

def fewS (x : Stp) : Stp := { x with bytes := x.bytes.take 400 }
def fewL (l : List Stp) : List Stp := (l.take 15).map fewS
variable [Errs]
set_option linter.unusedSectionVars false
set_option maxRecDepth 8000 in
theorem copy_calls (l : List UInt8) (hl : l.length ≤ 1000000) (o : Bool) (σ : Store) : ACalls Tryz.prog 19 [.list o 1 (bytesA l)] σ fun v σ' => v = .list true 1 (bytesA l) ∧ σ' = σ := by
  refine ACalls.of_awp follows (st := st19) (plans := pl19) (n := 6) Tryz.func19 rfl (by kernel_rfl) (by kernel_rfl) (by kernel_rfl) ?_
  simp
  exact ⟨by omega, by omega⟩
set_option maxRecDepth 8000 in
theorem cutb_calls (l : List UInt8) (m : Nat) (hm : m ≤ 1000000) (o : Bool) (σ : Store) : ACalls Tryz.prog 17 [.list o 1 (bytesA l), .lit (.int .i64 m)] σ fun v σ' => v = .list true 1 (bytesA (l.take m)) ∧ σ' = σ := by
  refine ACalls.of_awp follows (st := st17) (plans := pl17) (n := 14) Tryz.func17 rfl (by kernel_rfl) (by kernel_rfl) (by kernel_rfl) ?_
  by_cases h : m < l.length
  · have h' : (m : Int) < l.length := by omega
    have hc := fun o τ => copy_calls (l.take m) (by rw [List.length_take]; omega) o τ
    have hle : m ≤ l.length := by omega
    simp [h, h', hle, bytesA_take]
    refine callK.of (hc _ _) ?_
    rintro v σ1 ⟨rfl, rfl⟩
    simp
  · have h' : ¬ (m : Int) < l.length := by omega
    rw [List.take_of_length_le (by omega)]
    simp [h, h']
    refine callK.of (copy_calls l (by omega) _ _) ?_
    rintro v σ1 ⟨rfl, rfl⟩
    simp
set_option maxRecDepth 8000 in
set_option maxHeartbeats 1000000 in
theorem few_calls (l : List Stp) (hl : l.length ≤ 9223372036854775807) (o : Bool) (σ : Store) :
    ACalls Tryz.prog 5 [.list o 5 (stpsA l)] σ fun v σ' => v = .list true 5 (stpsA (fewL l)) ∧ σ' = σ := by
  refine ACalls.of_awp follows (st := st5) (plans := pl5) (n := 25) Tryz.func5 rfl (by kernel_rfl) (by kernel_rfl) (by kernel_rfl) ?_
  simp
  refine codeK.loop follows (st := st5) (plans := pl5) (X := Nat) (fun k => k ≤ l.length)
    (fun k => [(3, .list true 5 (stpsA (fewL (l.take k)))), (6, .list false 5 (stpsA l)), (7, .lit (.int .i64 l.length)), (8, .lit (.int .i64 k))]) (fun _ => σ) (fun k => l.length - k) 0 (by kernel_rfl)
    (by simp) (by simp [stpsA, fewL]) (Store.sub_refl _) fun k hk => ?_
  by_cases hlt : k < l.length
  · obtain ⟨x, hx⟩ : ∃ x, l[k]'hlt = x := ⟨_, rfl⟩
    have htk : l.take (k + 1) = l.take k ++ [x] := by rw [List.take_succ_eq_append_getElem hlt, hx]
    have hg : (stpsA l)[k]? = some (stpA x) := by simp [stpsA, hlt, hx]
    have hg2 : ∀ h, (stpsA l)[k]'h = stpA x := fun h => by simp [stpsA, hx]
    have hlw : IntKind.i64.wrap ((k : Int) + 1) = (k : Int) + 1 := wrap_i64 (by omega) (by omega)
    have hlk : (l.take k).length = k := by rw [List.length_take]; omega
    obtain ⟨kx, bx, ⟨ax, sx, nx⟩⟩ := x
    simp only [stpA, byteA] at hg hg2
    by_cases h15 : k < 15
    · have h15' : (k : Int) < 15 := by omega
      have hfw : fewL (l.take (k + 1)) = fewL (l.take k) ++ [fewS ⟨kx, bx, ⟨ax, sx, nx⟩⟩] := by
        unfold fewL
        rw [List.take_of_length_le (l := l.take (k + 1)) (by rw [List.length_take]; omega), List.take_of_length_le (l := l.take k) (by rw [List.length_take]; omega), htk]
        simp
      have hfl : (fewL (l.take k)).length ≤ 15 := by unfold fewL; simp; omega
      simp [hlt, hg, hg2, h15, h15']
      intro p hp
      refine callK.of (cutb_calls bx 400 (by omega) false _) ?_
      rintro v σ1 ⟨rfl, rfl⟩
      simp
      refine ⟨by omega, by omega, k + 1, by omega, by omega, ⟨?_, by rw [hlw]; exact AV.le_refl _⟩, ?_⟩
      · rw [hfw, stpsA_append]
        exact AV.le_refl _
      · (intro q; simp only [Store.upd, Store.del]; (repeat' split) <;> first | exact Or.inr rfl | exact Or.inl rfl | (exfalso; omega) | (left; subst_vars; assumption) | simp_all)
    · have h15' : ¬ (k : Int) < 15 := by omega
      have hfw : fewL (l.take (k + 1)) = fewL (l.take k) := by
        unfold fewL
        rw [List.take_take, List.take_take, Nat.min_eq_left (by omega), Nat.min_eq_left (by omega)]
      simp [hlt, hg, hg2, h15, h15']
      intro p hp
      exact ⟨k + 1, by omega, by omega, ⟨by rw [hfw]; exact AV.le_refl _, by rw [hlw]; exact AV.le_refl _⟩, sub_upd_self _ _ _ hp⟩
  · have : k = l.length := by omega
    subst this
    simp
@[simp] def st15x : List Nat := [12, 24, 5000005, 4000014, 4000016, 4000019]
@[simp] def pl15x : List (Nat × Plan) := [(5, Plan.seq [1, 2, 3, 4, 6, 7] (.alt (Plan.seq [0, 5, 8, 9, 10, 11] (.done)) (Plan.seq [5, 8] (.alt (Plan.seq [0, 9, 10, 11] (.done)) (Plan.seq [9, 0, 10, 11] (.done))))))]
set_option maxRecDepth 8000 in
set_option maxHeartbeats 1000000 in
theorem own_calls (l : List Stp) (hl : l.length ≤ 1000000) (hb : ∀ x ∈ l, x.bytes.length ≤ 1000000) (o : Bool) (σ : Store) :
    ACalls Tryz.prog 7 [.list o 5 (stpsA l)] σ fun v σ' => v = .list true 5 (stpsA l) ∧ σ' = σ := by
  refine ACalls.of_awp follows (st := st15x) (plans := pl15x) (n := 25) Tryz.func7 rfl (by kernel_rfl) (by kernel_rfl) (by kernel_rfl) ?_
  simp
  refine codeK.loop follows (st := st15x) (plans := pl15x) (X := Nat) (fun k => k ≤ l.length)
    (fun k => [(3, .list true 5 (stpsA (l.take k))), (6, .list false 5 (stpsA l)), (7, .lit (.int .i64 l.length)), (8, .lit (.int .i64 k))]) (fun _ => σ) (fun k => l.length - k) 0 (by kernel_rfl)
    (by simp) (by simp [stpsA]) (Store.sub_refl _) fun k hk => ?_
  by_cases hlt : k < l.length
  · obtain ⟨x, hx⟩ : ∃ x, l[k]'hlt = x := ⟨_, rfl⟩
    have hxm := hb x (by rw [← hx]; exact List.getElem_mem _)
    have htk : l.take (k + 1) = l.take k ++ [x] := by rw [List.take_succ_eq_append_getElem hlt, hx]
    have hg : (stpsA l)[k]? = some (stpA x) := by simp [stpsA, hlt, hx]
    have hg2 : ∀ h, (stpsA l)[k]'h = stpA x := fun h => by simp [stpsA, hx]
    have hlw : IntKind.i64.wrap ((k : Int) + 1) = (k : Int) + 1 := wrap_i64 (by omega) (by omega)
    have hlk : (l.take k).length = k := by rw [List.length_take]; omega
    obtain ⟨kx, bx, ⟨ax, sx, nx⟩⟩ := x
    have hcp := fun τ => copy_calls bx hxm false τ
    simp only [stpA, byteA] at hg hg2
    simp [hlt, hg, hg2]
    intro p hp
    rw [del_upd_new hp]
    repeat' with_reducible apply And.intro
    all_goals
      refine callK.of (hcp _) ?_
      rintro v σ1 ⟨rfl, rfl⟩
      simp
      refine ⟨by omega, by omega, k + 1, by omega, by omega, ?_, by rw [hlw]; exact AV.le_refl _⟩
      rw [htk, stpsA_append]
      exact AV.le_refl _
  · have : k = l.length := by omega
    subst this
    simp
end Go.Proofs.YtheldoijfnigoaaGreatDoor
/-
  TapeTexts: are steps alike? The program's answer.
-/
namespace Go.Proofs.YtheldoijfnigoaaGreatDoor
open Go Go.AL

@[simp] def st37x : List Nat := [5000008, 5000009, 4000021, 4000025]
@[simp] def st38x : List Nat := [5000002, 5000003]
variable [Errs]
set_option linter.unusedSectionVars false
theorem equal_calls (a b : List UInt8) (o1 o2 : Bool) (σ : Store) : ACalls Tryz.prog 22 [.list o1 1 (bytesA a), .list o2 1 (bytesA b)] σ fun v σ' => v = .lit (.bool (a == b)) ∧ σ' = σ := by
  refine ACalls.of_awp follows (st := st22) (plans := pl22) (n := 10) Tryz.func22 rfl (by kernel_rfl) (by kernel_rfl) (by kernel_rfl) ?_
  have h1 := bytesOf_bytesA a
  have h2 := bytesOf_bytesA b
  simp [h1, h2]
set_option maxRecDepth 8000 in
set_option maxHeartbeats 1000000 in
theorem alike_calls (x y : Stp) (hx : x.bytes.length ≤ 1000000) (hy : y.bytes.length ≤ 1000000) (σ : Store) : ACalls Tryz.prog 27 [stpA x, stpA y] σ fun v σ' => v = .lit (.bool (likeS x y)) ∧ σ' = σ := by
  have heq := fun τ => equal_calls x.bytes y.bytes false false τ
  obtain ⟨kx, bx, ⟨ax, sx, nx⟩⟩ := x
  obtain ⟨ky, by', ⟨ay, sy, ny⟩⟩ := y
  dsimp only at *
  refine ACalls.of_awp follows (st := st38x) (plans := pl27) (n := 34) Tryz.func27 rfl (by kernel_rfl) (by kernel_rfl) (by kernel_rfl) ?_
  by_cases hk : kx = ky
  · subst hk
    by_cases h75 : kx = 75
    · subst h75
      have hke : (!((⟨ax, sx, nx⟩ : Ky) != ⟨ay, sy, ny⟩)) = (ax == ay && (sx == sy && nx == ny)) := by rw [Bool.eq_iff_iff]; simp
      simp [stpA, byteA, likeS]
      rw [hke]
      exact AV.le_refl _
    · have f1 : ¬ (kx.toNat : Int) = 75 := fun h => h75 (UInt8.toNat_inj.1 (by show kx.toNat = 75; omega))
      have f1n : ¬ kx.toNat = 75 := fun h => h75 (UInt8.toNat_inj.1 h)
      by_cases h7 : kx = 72 ∨ kx = 79
      · rcases h7 with rfl | rfl
        all_goals
          simp [stpA, byteA, likeS]
          refine callK.of (heq _) ?_
          rintro v σ1 ⟨rfl, rfl⟩
          simp [bne]
      · rw [not_or] at h7
        have f2 : ¬ (kx.toNat : Int) = 72 := fun h => h7.1 (UInt8.toNat_inj.1 (by show kx.toNat = 72; omega))
        have f2n : ¬ kx.toNat = 72 := fun h => h7.1 (UInt8.toNat_inj.1 h)
        have f3 : ¬ (kx.toNat : Int) = 79 := fun h => h7.2 (UInt8.toNat_inj.1 (by show kx.toNat = 79; omega))
        have f3n : ¬ kx.toNat = 79 := fun h => h7.2 (UInt8.toNat_inj.1 h)
        have g1 : (kx == 75) = false := by simpa using h75
        have g2 : (kx == 72) = false := by simpa using h7.1
        have g3 : (kx == 79) = false := by simpa using h7.2
        simp [stpA, byteA, likeS, f1, f1n, f2, f2n, f3, f3n, h75, h7, g1, g2, g3]
  · have hkn : ¬ (kx.toNat : Int) = ky.toNat := fun h => hk (UInt8.toNat_inj.1 (by omega))
    have hkn2 : ¬ kx.toNat = ky.toNat := fun h => hk (UInt8.toNat_inj.1 h)
    have : (kx == ky) = false := by simpa using hk
    simp [stpA, byteA, likeS, hkn, hkn2, this]
theorem likeL_drop (a b : List Stp) {k : Nat} (h : k < a.length) (h2 : k < b.length) : likeL (a.drop k) (b.drop k) = (likeS a[k] b[k] && likeL (a.drop (k + 1)) (b.drop (k + 1))) := by
  rw [List.drop_eq_getElem_cons h, List.drop_eq_getElem_cons h2]; rfl
set_option maxRecDepth 8000 in
set_option maxHeartbeats 1000000 in
theorem eqfunc_calls (a b : List Stp) (ha : a.length ≤ 1000000) (hab : ∀ x ∈ a, x.bytes.length ≤ 1000000) (hbb : ∀ x ∈ b, x.bytes.length ≤ 1000000) (o1 o2 : Bool) (σ : Store) :
    ACalls Tryz.prog 26 [.list o1 5 (stpsA a), .list o2 5 (stpsA b), .func (.func 27) [] []] σ fun v σ' => v = .lit (.bool (likeL a b)) ∧ σ' = σ := by
  refine ACalls.of_awp follows (st := st37x) (plans := pl26) (n := 32) Tryz.func26 rfl (by kernel_rfl) (by kernel_rfl) (by kernel_rfl) ?_
  by_cases hl : a.length = b.length
  · have hli : (a.length : Int) = b.length := by omega
    simp [hli]
    refine codeK.loop follows (st := st37x) (plans := pl26) (X := Nat) (fun k => k ≤ a.length ∧ likeL (a.drop k) (b.drop k) = likeL a b)
      (fun k => [(1, .list false 5 (stpsA b)), (2, .func (.func 27) [] []), (15, .list false 5 (stpsA a)), (16, .lit (.int .i64 b.length)), (17, .lit (.int .i64 k))]) (fun _ => σ) (fun k => a.length - k) 0 (by kernel_rfl)
      ⟨by simp, by simp⟩ (by simp) (Store.sub_refl _) fun k hk => ?_
    obtain ⟨hk, hlk⟩ := hk
    by_cases hlt : k < a.length
    · have hlt2 : k < b.length := by omega
      obtain ⟨x, hx⟩ : ∃ x, a[k]'hlt = x := ⟨_, rfl⟩
      obtain ⟨y, hy⟩ : ∃ y, b[k]'hlt2 = y := ⟨_, rfl⟩
      have hga : (stpsA a)[k]? = some (stpA x) := by simp [stpsA, hlt, hx]
      have hgb : (stpsA b)[k]? = some (stpA y) := by simp [stpsA, hlt2, hy]
      have hga2 : ∀ h, (stpsA a)[k]'h = stpA x := fun h => by simp [stpsA, hx]
      have hgb2 : ∀ h, (stpsA b)[k]'h = stpA y := fun h => by simp [stpsA, hy]
      have hal := fun τ => alike_calls x y (hab x (by rw [← hx]; exact List.getElem_mem _)) (hbb y (by rw [← hy]; exact List.getElem_mem _)) τ
      rw [likeL_drop a b hlt hlt2, hx, hy] at hlk
      have hlw : IntKind.i64.wrap ((k : Int) + 1) = ((k + 1 : Nat) : Int) := wrap_i64 (by omega) (by omega)
      generalize likeS x y = r at *
      obtain ⟨kx, bx, ⟨ax, sx, nx⟩⟩ := x
      obtain ⟨ky, by', ⟨ay, sy, ny⟩⟩ := y
      simp only [stpA, byteA] at hga hgb hga2 hgb2 hal
      simp [hlt, hlt2, hga, hgb, hga2, hgb2]
      intro p hp p1 hp1
      have hp2 : σ p1 = none := by
        by_cases e : p1 = p
        · rw [e]; exact hp
        · have := hp1 e
          rwa [if_neg e] at this
      rw [del_upd_new hp, del_upd_new hp2]
      refine callK.of (hal _) ?_
      rintro v σ1 ⟨rfl, rfl⟩
      cases r with
      | true =>
        simp
        exact ⟨k + 1, ⟨by omega, by rw [← hlk]; rfl⟩, by omega, by rw [hlw]; exact AV.le_refl _⟩
      | false =>
        have e : likeL a b = false := hlk.symm
        rw [e]
        simp
    · have hnil : a.drop k = [] := List.drop_of_length_le (by omega)
      have hnil2 : b.drop k = [] := List.drop_of_length_le (by omega)
      rw [hnil, hnil2] at hlk
      rw [← hlk]
      have hlt2 : ¬ k < b.length := by omega
      simp [hlt2, likeL]
  · have hn : likeL a b = false := by
      cases e : likeL a b with
      | false => rfl
      | true => exact absurd (likeL_len a b e) hl
    have hli : ¬ (a.length : Int) = b.length := by omega
    rw [hn]
    simp [hl, hli]
set_option maxRecDepth 8000 in
theorem tsame_calls (a b : List Stp) (ha : a.length ≤ 1000000) (hab : ∀ x ∈ a, x.bytes.length ≤ 1000000) (hbb : ∀ x ∈ b, x.bytes.length ≤ 1000000) (o1 o2 : Bool) (σ : Store) :
    ACalls Tryz.prog 13 [.list o1 5 (stpsA a), .list o2 5 (stpsA b)] σ fun v σ' => v = .lit (.bool (likeL a b)) ∧ σ' = σ := by
  refine ACalls.of_awp follows (st := st13) (plans := pl13) (n := 8) Tryz.func13 rfl (by kernel_rfl) (by kernel_rfl) (by kernel_rfl) ?_
  simp
  refine callK.of (eqfunc_calls a b ha hab hbb _ _ _) ?_
  rintro v σ1 ⟨rfl, rfl⟩
  simp
end Go.Proofs.YtheldoijfnigoaaGreatDoor
