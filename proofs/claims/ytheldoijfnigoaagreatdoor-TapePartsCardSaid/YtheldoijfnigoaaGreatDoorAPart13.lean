/-
  TapeParts: bytes in parts of any size.
-/
import Derived.Test.YtheldoijfnigoaaGreatDoorAPart12
set_option linter.unusedSimpArgs false
set_option linter.unusedVariables false
namespace Go.Proofs.YtheldoijfnigoaaGreatDoor
open Go Go.AL

/-- A list in parts of so many; the last one may have fewer. -/
def chN (n : Nat) (l : List UInt8) : List (List UInt8) := (List.range ((l.length + n - 1) / n)).map fun k => (l.drop (n * k)).take n
theorem chN_lt {n k : Nat} (hn : 1 ≤ n) (l : List UInt8) : k < (chN n l).length ↔ n * k < l.length := by
  unfold chN
  rw [List.length_map, List.length_range, Nat.lt_iff_add_one_le, Nat.le_div_iff_mul_le hn, Nat.succ_mul, Nat.mul_comm n k]
  generalize k * n = q
  omega
theorem chN_at {n k : Nat} {l : List UInt8} (h : k < (chN n l).length) : (chN n l)[k] = (l.drop (n * k)).take n := by simp [chN]
theorem chN_len {n : Nat} (hn : 1 ≤ n) (l : List UInt8) : (chN n l).length ≤ l.length := by
  refine Nat.le_of_not_lt fun h => ?_
  have h1 := (chN_lt hn l).1 h
  have h2 := Nat.le_mul_of_pos_left l.length (n := n) (by omega)
  omega
variable [Errs]
set_option linter.unusedSectionVars false
theorem clone_calls (o : Bool) (l : List UInt8) (σ : Store) (hl : l.length ≤ 140737488355328) :
    ACalls Tryz.prog 24 [.list o 1 (bytesA l)] σ fun v σ' => v = .list true 1 (bytesA l) ∧ σ' = σ := by
  refine ACalls.of_awp follows (st := st24) (plans := pl24) (n := 8) Tryz.func24 rfl (by kernel_rfl) (by kernel_rfl) (by kernel_rfl) ?_
  simp
  refine ⟨⟨by omega, by omega⟩, fun h => ?_⟩
  rw [h]; exact AV.le_refl _
@[simp] def st38y : List Nat := [5000002, 5000003]
set_option maxRecDepth 8000 in
theorem chunkN_calls (o : Bool) (l : List UInt8) (n : Nat) (hn : 1 ≤ n) (σ : Store) :
    ACalls Tryz.prog 38 [.list o 1 (bytesA l), .lit (.int .i64 n)] σ fun v σ' => v = .func (.func 57) [] [.fptr [.list false 1 (bytesA l)], .fptr [.lit (.int .i64 n)]] ∧ σ' = σ := by
  refine ACalls.of_awp follows (st := st38y) (plans := pl38) (n := 9) Tryz.func38 rfl (by kernel_rfl) (by kernel_rfl) (by kernel_rfl) ?_
  have h1 : ¬ (n : Int) < 1 := by omega
  simp [h1]
set_option maxRecDepth 8000 in
set_option maxHeartbeats 1000000 in
theorem chunkN_iter (n : Nat) (hn : 1 ≤ n) (hn2 : n ≤ 9223372036854775807) (p : List UInt8) (hp : p.length ≤ 100000) (σ : Store) :
    Iter Tryz.prog 57 [.fptr [.list false 1 (bytesA p)], .fptr [.lit (.int .i64 n)]] σ ((chN n p).map fun c => [.list false 1 (bytesA c)]) := by
  intro X l I J hy τ E h0 hs
  have hcl := fun k => chN_lt (k := k) hn p
  obtain ⟨f, hf⟩ : ∃ f : Nat → Nat, ∀ k, f k = n * k := ⟨fun k => n * k, fun _ => rfl⟩
  have hf0 : f 0 = 0 := hf 0
  have hy' : ∀ (k : Nat) (h : n * k < p.length) (τ : Store) (E : Env X), I k τ E → AYields Tryz.prog l [.list false 1 (bytesA ((p.drop (n * k)).take n))] τ E fun b τ' E' => if b = true then I (k + 1) τ' E' else J τ' E' := by
    intro k h τ E hI
    have hk : k < (chN n p).length := (hcl k).2 h
    have := hy k (by simpa using hk) τ E hI
    rwa [List.getElem_map, chN_at hk] at this
  refine ACallsY.of_awp follows (st := st57) (plans := pl57) (n := 31) Tryz.func57 rfl (by kernel_rfl) (by kernel_rfl) (by kernel_rfl) ?_
  simp
  refine codeYK.loop follows (st := st57) (plans := pl57) (S := Nat × Store) (fun x => x.1 ≤ (chN n p).length)
    (fun x => [(0, .func (.yield l) [] []), (1, .fptr [.list false 1 (bytesA p)]), (2, .fptr [.lit (.int .i64 n)]), (4, .lit (.int .i64 (f x.1 : Int)))]) (fun x => x.2) (fun x E => I x.1 x.2 E) (fun x => (chN n p).length - x.1) (0, τ) (by kernel_rfl) (by simp) (by simp [hf0]) hs h0 ?_
  rintro ⟨k, τ1⟩ E1 hk hI
  dsimp only at hk hI ⊢
  have hkn : k = 0 ∨ n ≤ n * k := by
    rcases Nat.eq_zero_or_pos k with h | h
    · exact .inl h
    · exact .inr (Nat.le_mul_of_pos_right n h)
  have hk1 : f (k + 1) = n * k + n := by rw [hf]; exact Nat.mul_succ n k
  have hk0 : k = 0 → n * k = 0 := fun h => by rw [h]; rfl
  by_cases hlt0 : n * k < p.length
  · have hyk := hy' k hlt0 τ1 E1 hI
    have hkl := (hcl k).2 hlt0
    obtain ⟨i, hi⟩ : ∃ i, f k = i := ⟨_, rfl⟩
    rw [← hf k, hi] at hyk hlt0 hkn hk1 hk0
    rw [hi]
    have hlt := hlt0
    have hlt' : (i : Int) < p.length := by omega
    have hfull : (bytesA p).take p.length = bytesA p := List.take_of_length_le (by simp)
    have hle : i ≤ p.length := by omega
    obtain ⟨r, hr⟩ : ∃ r, p.length - i = r := ⟨_, rfl⟩
    have hrl : (bytesA (p.drop i)).length = r := by simp [hr]
    have hrl2 : (p.drop i).length = r := by simp [hr]
    obtain ⟨j, hj⟩ : ∃ j, i + min r n = j := ⟨_, rfl⟩
    have hw : IntKind.i64.wrap ((i : Int) + if r < n then (r : Int) else n) = (j : Int) := by
      have : ((i : Int) + if r < n then (r : Int) else n) = (j : Int) := by split <;> omega
      rw [this, wrap_i64 (by omega) (by omega)]
    have hij : i ≤ j := by omega
    have hjl : j ≤ p.length := by omega
    have hdt : List.drop i (List.take j (bytesA p)) = bytesA ((p.drop i).take n) := by
      rw [bytesA_take, bytesA_drop, List.drop_take]
      congr 1
      rw [show j - i = min r n by omega]
      rcases Nat.le_total r n with h | h
      · rw [Nat.min_eq_left h, List.take_of_length_le (by omega), List.take_of_length_le (by omega)]
      · rw [Nat.min_eq_right h]
    have hw2 : IntKind.i64.wrap ((i : Int) + n) = (f (k + 1) : Int) := by rw [wrap_i64 (by omega) (by omega)]; omega
    simp [hlt, hlt', hfull, hle, bytesA_drop, hrl, hrl2, hr, hw, hij, hjl, hdt]
    refine yieldK.of (by simp) hyk (Store.sub_refl _) ?_
    intro b2 τ' E' hR hap
    cases b2
    · simp
      exact ⟨⟨_, AV.le_refl _⟩, _, Store.sub_over _ _ _, τ', Store.sub_refl _, .inr (by simpa using hR)⟩
    · simp
      refine ⟨k + 1, by omega, by omega, ?_, τ', Store.sub_over _ _ _, by simpa using hR⟩
      rw [hw2]; exact AV.le_refl _
  · obtain rfl : k = (chN n p).length := by
      have := hcl k
      omega
    rw [← hf] at hlt0
    simp [hlt0]
    exact ⟨⟨_, AV.le_refl _⟩, _, Store.sub_refl _, τ1, Store.sub_refl _, .inl hI⟩
theorem rsplit_calls (o : Bool) (l : List UInt8) (n : Nat) (σ : Store) :
    ACalls Tryz.prog 25 [.list o 1 (bytesA l), .lit (.int .i64 n)] σ fun v σ' => v = .func (.func 37) [] [.fptr [.lit (.int .i64 n)], .fptr [.list false 1 (bytesA l)]] ∧ σ' = σ := by
  refine ACalls.of_awp follows (st := st25) (plans := pl25) (n := 6) Tryz.func25 rfl (by kernel_rfl) (by kernel_rfl) (by kernel_rfl) ?_
  simp
set_option maxRecDepth 8000 in
set_option maxHeartbeats 1000000 in
theorem split_iter (n : Nat) (hn : 1 ≤ n) (hn2 : n ≤ 9223372036854775807) (p : List UInt8) (hp : p.length ≤ 100000) (σ : Store) :
    Iter Tryz.prog 37 [.fptr [.lit (.int .i64 n)], .fptr [.list false 1 (bytesA p)]] σ ((chN n p).map fun c => [.list true 1 (bytesA c)]) := by
  intro X l I J hy τ E h0 hs
  have hit := fun σ' => chunkN_iter n hn hn2 p hp σ'
  have hch := fun o τ => chunkN_calls o p n hn τ
  have hsz : ∀ (k : Nat) (h : k < (chN n p).length), ((chN n p)[k]).length ≤ 100000 := fun k h => by
    rw [chN_at h, List.length_take, List.length_drop]; omega
  generalize chN n p = U at *
  have h1 : ¬ (n : Int) < 1 := by omega
  refine ACallsY.of_awp follows (st := st37) (plans := pl37) (n := 16) Tryz.func37 rfl (by kernel_rfl) (by kernel_rfl) (by kernel_rfl) ?_
  simp [h1]
  refine callK.of (hch _ _) ?_
  rintro v σ1 ⟨rfl, rfl⟩
  simp
  refine codeYK.range follows (st := st37) (plans := pl37) (hit _) (by simp) (by simp) (by simp) (by kernel_rfl) (by kernel_rfl) (by kernel_rfl)
    (fun k ρ E => I k ρ E) (fun c ρ E => c = .ret ∧ J ρ E) τ h0 hs ?_ ?_ ?_
  · intro k hk ρ E hI
    have hk' : k < U.length := by simpa using hk
    have hd := hsz k hk'
    have hyk := hy k (by simpa using hk') ρ E hI
    rw [List.getElem_map] at hyk ⊢
    generalize U[k] = d at *
    have hcl := fun o τ => clone_calls o d τ (by omega)
    simp
    repeat' with_reducible apply And.intro
    all_goals
      refine callK.of (hcl _ _) ?_
      rintro v σ3 ⟨rfl, rfl⟩
      simp
      refine yieldK.of (by simp) hyk (Store.sub_refl _) ?_
      intro b3 τ' E' hR hap
      cases b3
      · simp
        exact ⟨τ', Store.sub_over _ _ _, by simpa using hR⟩
      · simp
        exact ⟨τ', Store.sub_over _ _ _, by simpa using hR⟩
  · rintro ρ E2 σ2 hs2 hI
    rw [List.length_map] at hI
    simp
    exact ⟨⟨_, AV.le_refl _⟩, _, Store.sub_refl _, ρ, hs2, .inl (by simpa using hI)⟩
  · rintro c ρ E2 σ2 hs2 ⟨rfl, hJ⟩
    simp
    exact ⟨⟨_, AV.le_refl _⟩, _, Store.sub_refl _, ρ, hs2, .inr hJ⟩
end Go.Proofs.YtheldoijfnigoaaGreatDoor
/-
  TapeParts: what came, what went.
-/
namespace Go.Proofs.YtheldoijfnigoaaGreatDoor
open Go Go.AL

/-- Few steps, none of them great. -/
def Fewp (l : List Stp) : Prop := l.length ≤ 15 ∧ ∀ x ∈ l, x.bytes.length ≤ 400
def cameS (x : Stp) : List UInt8 := if x.kind = 72 then x.bytes else []
def cameL (l : List Stp) : List UInt8 := l.flatMap cameS
theorem cameL_snoc (l : List Stp) (x : Stp) : cameL (l ++ [x]) = cameL l ++ cameS x := by simp [cameL]
theorem cameL_len {l : List Stp} (h : ∀ x ∈ l, x.bytes.length ≤ 400) : (cameL l).length ≤ 400 * l.length := by
  induction l with
  | nil => simp [cameL]
  | cons x l ih =>
    have h1 := h x (by simp)
    have h2 := ih fun y hy => h y (by simp [hy])
    have h3 : (cameS x).length ≤ 400 := by
      unfold cameS
      split
      · exact h1
      · simp
    simp only [cameL, List.flatMap_cons, List.length_append, List.length_cons] at h2 ⊢
    omega
theorem fewp_take {l : List Stp} (h : Fewp l) (k : Nat) : (l.take k).length ≤ 15 ∧ ∀ x ∈ l.take k, x.bytes.length ≤ 400 :=
  ⟨by rw [List.length_take]; have := h.1; omega, fun x hx => h.2 x (List.mem_of_mem_take hx)⟩
def wentS (x : Stp) : Option (List UInt8) := if x.kind = 79 then some x.bytes else none
def wentL (l : List Stp) : List (List UInt8) := l.filterMap wentS
theorem wentL_snoc (l : List Stp) (x : Stp) : wentL (l ++ [x]) = wentL l ++ (wentS x).toList := by
  unfold wentL
  rw [List.filterMap_append]
  cases h : wentS x <;> simp [h]
theorem wentL_len (l : List Stp) : (wentL l).length ≤ l.length := List.length_filterMap_le ..
theorem wentL_at {l : List Stp} {k : Nat} (h : k < l.length) {b : List UInt8} (hb : wentS l[k] = some b) : ∃ hj : (wentL (l.take k)).length < (wentL l).length, (wentL l)[(wentL (l.take k)).length] = b := by
  have e : wentL l = wentL (l.take k) ++ b :: wentL (l.drop (k + 1)) := by
    conv => lhs; rw [← List.take_append_drop k l, List.drop_eq_getElem_cons h]
    unfold wentL
    rw [List.filterMap_append, List.filterMap_cons_some hb]
  generalize wentL (l.take k) = P at *
  refine ⟨by rw [e]; simp, ?_⟩
  simp only [e]
  simp
theorem wentL_mem {l : List Stp} (h : ∀ x ∈ l, x.bytes.length ≤ 400) : ∀ c ∈ wentL l, c.length ≤ 400 := fun c hc => by
  unfold wentL at hc
  rw [List.mem_filterMap] at hc
  obtain ⟨x, hx, e⟩ := hc
  unfold wentS at e
  split at e
  · cases e; exact h x hx
  · cases e
theorem bytesA_append (a b : List UInt8) : bytesA (a ++ b) = bytesA a ++ bytesA b := by simp [bytesA]
def rowsA (l : List (List UInt8)) : List AV := l.map fun x => .list false 1 (bytesA x)
@[simp] theorem rowsA_length (l : List (List UInt8)) : (rowsA l).length = l.length := by simp [rowsA]
theorem rowsA_append (a b : List (List UInt8)) : rowsA (a ++ b) = rowsA a ++ rowsA b := by simp [rowsA]
variable [Errs]
set_option linter.unusedSectionVars false
set_option maxRecDepth 8000 in
set_option maxHeartbeats 1000000 in
theorem came_calls (l : List Stp) (h : Fewp l) (o : Bool) (σ : Store) : ACalls Tryz.prog 14 [.list o 5 (stpsA l)] σ fun v σ' => v = .list true 1 (bytesA (cameL l)) ∧ σ' = σ := by
  refine ACalls.of_awp follows (st := st14) (plans := pl14) (n := 21) Tryz.func14 rfl (by kernel_rfl) (by kernel_rfl) (by kernel_rfl) ?_
  simp
  refine codeK.loop follows (st := st14) (plans := pl14) (X := Nat) (fun k => k ≤ l.length)
    (fun k => [(3, .list true 1 (bytesA (cameL (l.take k)))), (6, .list false 5 (stpsA l)), (7, .lit (.int .i64 l.length)), (8, .lit (.int .i64 k))]) (fun _ => σ) (fun k => l.length - k) 0 (by kernel_rfl)
    (by simp) (by simp [cameL, bytesA]) (Store.sub_refl _) fun k hk => ?_
  have hl := h.1
  by_cases hlt : k < l.length
  · obtain ⟨x, hx⟩ : ∃ x, l[k]'hlt = x := ⟨_, rfl⟩
    have hxb := h.2 x (by rw [← hx]; exact List.getElem_mem _)
    have htk : l.take (k + 1) = l.take k ++ [x] := by rw [List.take_succ_eq_append_getElem hlt, hx]
    have hg : (stpsA l)[k]? = some (stpA x) := by simp [stpsA, hlt, hx]
    have hg2 : ∀ h, (stpsA l)[k]'h = stpA x := fun h => by simp [stpsA, hx]
    have hlw : IntKind.i64.wrap ((k : Int) + 1) = ((k + 1 : Nat) : Int) := wrap_i64 (by omega) (by omega)
    have hcs := cameL_snoc (l.take k) x
    rw [← htk] at hcs
    have hcl := cameL_len (fewp_take h k).2
    have hc2 := (fewp_take h k).1
    generalize cameL (l.take k) = C at *
    obtain ⟨kx, bx, ⟨ax, sx, nx⟩⟩ := x
    simp only [stpA, byteA] at hg hg2
    dsimp only at hxb
    by_cases h72 : kx = 72
    · subst h72
      have e : cameL (l.take (k + 1)) = C ++ bx := hcs
      simp [hlt, hg, hg2]
      intro p hp
      rw [del_upd_new hp]
      exact ⟨by omega, by omega, k + 1, by omega, by omega, ⟨by rw [e, bytesA_append]; exact AV.le_refl _, by rw [hlw]; exact AV.le_refl _⟩, Store.sub_refl _⟩
    · have f1 : ¬ (kx.toNat : Int) = 72 := fun h => h72 (UInt8.toNat_inj.1 (by show kx.toNat = 72; omega))
      have f1n : ¬ kx.toNat = 72 := fun h => h72 (UInt8.toNat_inj.1 h)
      have e : cameL (l.take (k + 1)) = C := by rw [hcs]; simp [cameS, h72]
      simp [hlt, hg, hg2, f1, f1n]
      intro p hp
      rw [del_upd_new hp]
      exact ⟨k + 1, by omega, by omega, ⟨by rw [e]; exact AV.le_refl _, by rw [hlw]; exact AV.le_refl _⟩, Store.sub_refl _⟩
  · have : k = l.length := by omega
    subst this
    simp
theorem wents_calls (l : List Stp) (o : Bool) (σ : Store) : ACalls Tryz.prog 18 [.list o 5 (stpsA l)] σ fun v σ' => v = .func (.func 30) [] [.fptr [.list false 5 (stpsA l)]] ∧ σ' = σ := by
  refine ACalls.of_awp follows (st := st18) (plans := pl18) (n := 4) Tryz.func18 rfl (by kernel_rfl) (by kernel_rfl) (by kernel_rfl) ?_
  simp
set_option maxRecDepth 8000 in
set_option maxHeartbeats 1000000 in
theorem went_iter (l : List Stp) (h : Fewp l) (σ : Store) : Iter Tryz.prog 30 [.fptr [.list false 5 (stpsA l)]] σ ((wentL l).map fun c => [.list true 1 (bytesA c)]) := by
  intro X y I J hy τ E h0 hs
  have hl := h.1
  refine ACallsY.of_awp follows (st := st30) (plans := pl30) (n := 23) Tryz.func30 rfl (by kernel_rfl) (by kernel_rfl) (by kernel_rfl) ?_
  simp
  refine codeYK.loop follows (st := st30) (plans := pl30) (S := Nat × Store) (fun x => x.1 ≤ l.length)
    (fun x => [(0, .func (.yield y) [] []), (5, .list false 5 (stpsA l)), (6, .lit (.int .i64 l.length)), (7, .lit (.int .i64 x.1))]) (fun x => x.2) (fun x E => I (wentL (l.take x.1)).length x.2 E) (fun x => l.length - x.1) (0, τ) (by kernel_rfl) (by simp) (by simp) hs h0 ?_
  rintro ⟨k, τ1⟩ E1 hk hI
  dsimp only at hk hI ⊢
  by_cases hlt : k < l.length
  · obtain ⟨x, hx⟩ : ∃ x, l[k]'hlt = x := ⟨_, rfl⟩
    have hxb := h.2 x (by rw [← hx]; exact List.getElem_mem _)
    have htk : l.take (k + 1) = l.take k ++ [x] := by rw [List.take_succ_eq_append_getElem hlt, hx]
    have hg : (stpsA l)[k]? = some (stpA x) := by simp [stpsA, hlt, hx]
    have hg2 : ∀ h, (stpsA l)[k]'h = stpA x := fun h => by simp [stpsA, hx]
    have hlw : IntKind.i64.wrap ((k : Int) + 1) = ((k + 1 : Nat) : Int) := wrap_i64 (by omega) (by omega)
    have hws := wentL_snoc (l.take k) x
    rw [← htk] at hws
    have hat := fun b hb => wentL_at (l := l) (k := k) hlt (b := b) hb
    rw [hx] at hat
    have hcl := fun o τ => clone_calls o x.bytes τ (by omega)
    obtain ⟨kx, bx, ⟨ax, sx, nx⟩⟩ := x
    simp only [stpA, byteA] at hg hg2
    dsimp only at hxb hcl
    by_cases h79 : kx = 79
    · subst h79
      obtain ⟨hj, hje⟩ := hat bx rfl
      have hw2 : (wentL (l.take (k + 1))).length = (wentL (l.take k)).length + 1 := by rw [hws]; simp [wentS]
      have hyk := hy _ (by simpa using hj) τ1 E1 hI
      rw [List.getElem_map, hje] at hyk
      generalize (wentL (l.take k)).length = j at *
      simp [hlt, hg, hg2]
      intro p hp
      rw [del_upd_new hp]
      refine callK.of (hcl _ _) ?_
      rintro v σ1 ⟨rfl, rfl⟩
      simp
      refine yieldK.of (by simp) hyk (Store.sub_refl _) ?_
      intro b2 τ' E' hR hap
      rw [← hw2] at hR
      cases b2
      · simp
        exact ⟨⟨_, AV.le_refl _⟩, _, Store.sub_over _ _ _, τ', Store.sub_refl _, .inr (by simpa using hR)⟩
      · simp
        refine ⟨k + 1, by omega, by omega, ?_, τ', Store.sub_over _ _ _, by simpa using hR⟩
        rw [hlw]; exact AV.le_refl _
    · have f1 : ¬ (kx.toNat : Int) = 79 := fun h => h79 (UInt8.toNat_inj.1 (by show kx.toNat = 79; omega))
      have f1n : ¬ kx.toNat = 79 := fun h => h79 (UInt8.toNat_inj.1 h)
      have hw2 : (wentL (l.take (k + 1))).length = (wentL (l.take k)).length := by rw [hws]; simp [wentS, h79]
      rw [← hw2] at hI
      simp [hlt, hg, hg2, f1, f1n]
      intro p hp
      rw [del_upd_new hp]
      exact ⟨k + 1, by omega, by omega, by rw [hlw]; exact AV.le_refl _, τ1, Store.sub_refl _, hI⟩
  · have : k = l.length := by omega
    subst this
    rw [List.take_length] at hI
    simp
    exact ⟨⟨_, AV.le_refl _⟩, _, Store.sub_refl _, τ1, Store.sub_refl _, .inl (by simpa using hI)⟩
set_option maxRecDepth 8000 in
set_option maxHeartbeats 1000000 in
theorem outs_calls (l : List Stp) (h : Fewp l) (m : Nat) (hm : 1 ≤ m) (hm2 : m ≤ 1000000) (o : Bool) (σ : Store) :
    ACalls Tryz.prog 6 [.list o 5 (stpsA l), .lit (.int .i64 m)] σ fun v σ' => v = .list false 1 (rowsA ((wentL l).take m)) ∧ σ' = σ := by
  have hi := fun σ => went_iter l h σ
  have hq := fun o τ => wents_calls l o τ
  have hlen : (wentL l).length ≤ 15 := Nat.le_trans (wentL_len l) h.1
  generalize wentL l = L at *
  refine ACalls.of_awpY follows (st := st6) (plans := pl6) (n := 19) Tryz.func6 rfl (by kernel_rfl) (by kernel_rfl) (by kernel_rfl) ?_
  simp
  intro q1 hq1
  refine callK.of (hq _ _) ?_
  rintro v σ1 ⟨rfl, rfl⟩
  simp
  refine codeYK.range follows (st := st6) (plans := pl6) (hi _) (by simp) (by simp) (by simp) (by kernel_rfl) (by kernel_rfl) (by kernel_rfl)
    (fun k τ _ => k < m ∧ k ≤ L.length ∧ τ = σ.upd q1 [.list true 1 (rowsA (L.take k))]) (fun c τ _ => c = .exit 0 ∧ τ = σ.upd q1 [.list true 1 (rowsA (L.take m))])
    _ ⟨by omega, by omega, rfl⟩ ?_ ?_ ?_ ?_
  · simp [rowsA]
  · rintro k hk τ E ⟨h1, h2, rfl⟩
    have hk' : k < L.length := by simpa using hk
    obtain ⟨d, hd⟩ : ∃ d, L[k] = d := ⟨_, rfl⟩
    have ht : L.take (k + 1) = L.take k ++ [d] := by rw [List.take_succ_eq_append_getElem hk', hd]
    have e2 : (L.map fun d => [AV.list true 1 (bytesA d)])[k] = [.list true 1 (bytesA d)] := by rw [List.getElem_map, hd]
    rw [e2]
    have hlk : (L.take k).length = k := by rw [List.length_take]; omega
    have hrw : rowsA (L.take k) ++ [AV.list false 1 (bytesA d)] = rowsA (L.take (k + 1)) := by rw [ht, rowsA_append]; rfl
    simp [hlk]
    rw [hrw]
    refine ⟨by omega, by omega, ?_⟩
    split
    · have : m = k + 1 := by omega
      subst this
      exact Store.sub_refl _
    · exact ⟨_, Store.sub_refl _, by omega, by omega, rfl⟩
  · rintro τ E σ' hs ⟨h1, h2, rfl⟩
    rw [List.length_map] at h1 h2 hs
    have e2 : σ' q1 = some [.list true 1 (rowsA L)] := by
      rcases hs q1 with h | h
      · simp at h
      · rw [← h]; simp
    have hm : L.take m = L := List.take_of_length_le (by omega)
    simp [e2, hm]
    exact Store.sub_trans (sub_upd_self _ _ _ hq1) hs
  · rintro c τ E σ' hs ⟨rfl, rfl⟩
    have e2 : σ' q1 = some [.list true 1 (rowsA (L.take m))] := by
      rcases hs q1 with h | h
      · simp at h
      · rw [← h]; simp
    simp [e2]
    exact Store.sub_trans (sub_upd_self _ _ _ hq1) hs
end Go.Proofs.YtheldoijfnigoaaGreatDoor
/-
  TapeParts: steps cut.
-/
namespace Go.Proofs.YtheldoijfnigoaaGreatDoor
open Go Go.AL

/-- A step, cut. -/
def cutS (size : Int) (x : Stp) : List Stp := if x.kind = 72 ∧ 1 ≤ size then (chN size.toNat x.bytes).map fun c => ⟨72, c, .zero⟩ else [x]
def cutLs (size : Int) (l : List Stp) : List Stp := l.flatMap (cutS size)
theorem cutLs_snoc (size : Int) (l : List Stp) (x : Stp) : cutLs size (l ++ [x]) = cutLs size l ++ cutS size x := by simp [cutLs]
theorem cutS_len (size : Int) {x : Stp} (h : x.bytes.length ≤ 400) : (cutS size x).length ≤ 401 := by
  unfold cutS
  split
  · rename_i h1
    have := chN_len (n := size.toNat) (by omega) x.bytes
    rw [List.length_map]; omega
  · simp
theorem cutLs_len (size : Int) {l : List Stp} (h : ∀ x ∈ l, x.bytes.length ≤ 400) : (cutLs size l).length ≤ 401 * l.length := by
  induction l with
  | nil => simp [cutLs]
  | cons x l ih =>
    have h1 := cutS_len size (h x (by simp))
    have h2 := ih fun y hy => h y (by simp [hy])
    simp only [cutLs, List.flatMap_cons, List.length_append, List.length_cons] at h2 ⊢
    omega
theorem cutLs_bytes (size : Int) {l : List Stp} (h : ∀ x ∈ l, x.bytes.length ≤ 400) : ∀ y ∈ cutLs size l, y.bytes.length ≤ 400 := fun y hy => by
  unfold cutLs at hy
  rw [List.mem_flatMap] at hy
  obtain ⟨x, hx, hy⟩ := hy
  have h1 := h x hx
  unfold cutS at hy
  split at hy
  · rw [List.mem_map] at hy
    obtain ⟨c, hc, rfl⟩ := hy
    unfold chN at hc
    rw [List.mem_map] at hc
    obtain ⟨k, -, rfl⟩ := hc
    rw [List.length_take, List.length_drop]; omega
  · rw [List.mem_singleton] at hy
    subst hy; exact h1
variable [Errs]
set_option linter.unusedSectionVars false
set_option maxRecDepth 8000 in
set_option maxHeartbeats 1000000 in
theorem cut_steps_calls (l : List Stp) (h : Fewp l) (size : Int) (hs0 : -9223372036854775808 ≤ size) (hs1 : size ≤ 9223372036854775807) (o : Bool) (σ : Store) :
    ACalls Tryz.prog 12 [.list o 5 (stpsA l), .lit (.int .i64 size)] σ fun v σ' => v = .list false 5 (stpsA (cutLs size l)) ∧ σ' = σ := by
  refine ACalls.of_awpY follows (st := st12) (plans := pl12) (n := 42) Tryz.func12 rfl (by kernel_rfl) (by kernel_rfl) (by kernel_rfl) ?_
  have hl := h.1
  simp
  intro q hq
  refine codeYK.loop follows (st := st12) (plans := pl12) (S := Nat) (fun k => k ≤ l.length)
    (fun k => [(1, .lit (.int .i64 size)), (5, .lit (.pointer (some ⟨q, 0, none⟩))), (9, .list false 5 (stpsA l)), (10, .lit (.int .i64 l.length)), (11, .lit (.int .i64 k))]) (fun k => σ.upd q [.list true 5 (stpsA (cutLs size (l.take k)))]) (fun _ _ => True) (fun k => l.length - k) 0 (by kernel_rfl)
    (by simp) (by simp) (by simp [cutLs, stpsA]) trivial ?_
  intro k E hk _
  by_cases hlt : k < l.length
  · obtain ⟨x, hx⟩ : ∃ x, l[k]'hlt = x := ⟨_, rfl⟩
    have hxb := h.2 x (by rw [← hx]; exact List.getElem_mem _)
    have htk : l.take (k + 1) = l.take k ++ [x] := by rw [List.take_succ_eq_append_getElem hlt, hx]
    have hg : (stpsA l)[k]? = some (stpA x) := by simp [stpsA, hlt, hx]
    have hg2 : ∀ h, (stpsA l)[k]'h = stpA x := fun h => by simp [stpsA, hx]
    have hlw : IntKind.i64.wrap ((k : Int) + 1) = ((k + 1 : Nat) : Int) := wrap_i64 (by omega) (by omega)
    have hcs := cutLs_snoc size (l.take k) x
    rw [← htk] at hcs
    have hcl := cutLs_len size (fewp_take h k).2
    have hc2 := (fewp_take h k).1
    have hcn := fun o τ => clone_calls o x.bytes τ (by omega)
    generalize cutLs size (l.take k) = C at *
    obtain ⟨kx, bx, ⟨ax, sx, nx⟩⟩ := x
    simp only [stpA, byteA] at hg hg2
    dsimp only at hxb hcn
    by_cases hcut : kx = 72 ∧ 1 ≤ size
    · obtain ⟨rfl, hsz⟩ := hcut
      obtain ⟨n, rfl⟩ : ∃ n : Nat, size = n := ⟨size.toNat, by omega⟩
      have e : cutS n ⟨72, bx, ⟨ax, sx, nx⟩⟩ = (chN n bx).map fun c => ⟨72, c, .zero⟩ := if_pos ⟨rfl, hsz⟩
      rw [e] at hcs
      have hns : ¬ (n : Int) < 1 := by omega
      have hit := fun σ' => split_iter n (by omega) (by omega) bx (by omega) σ'
      have hsp := fun o τ => rsplit_calls o bx n τ
      have hUl := chN_len (n := n) (by omega) bx
      generalize chN n bx = U at *
      simp [hlt, hg, hg2, hns]
      intro r hr
      rw [ite_none] at hr
      obtain ⟨n1, hr⟩ := hr
      have n2 : ¬ q = r := fun e => n1 e.symm
      refine callK.of (hsp _ _) ?_
      rintro v σ1 ⟨rfl, rfl⟩
      simp [n1, n2]
      refine codeYK.range follows (st := st12) (plans := pl12) (hit _) (by simp) (by simp) (by simp) (by kernel_rfl) (by kernel_rfl) (by kernel_rfl)
        (fun j τ _ => j ≤ U.length ∧ τ = σ.upd q [.list true 5 (stpsA (C ++ (U.take j).map fun c => ⟨72, c, .zero⟩))]) (fun _ _ _ => False) _ ⟨Nat.zero_le _, rfl⟩ ?_ ?_ ?_ ?_
      · simp
        (intro q; simp only [Store.upd, Store.del]; (repeat' split) <;> first | exact Or.inr rfl | exact Or.inl rfl | (exfalso; omega) | (left; subst_vars; assumption) | simp_all)
      · rintro j hj τ E ⟨h1, rfl⟩
        have hj' : j < U.length := by simpa using hj
        obtain ⟨d, hd⟩ : ∃ d, U[j] = d := ⟨_, rfl⟩
        have ht : U.take (j + 1) = U.take j ++ [d] := by rw [List.take_succ_eq_append_getElem hj', hd]
        have e2 : (U.map fun d => [AV.list true 1 (bytesA d)])[j] = [.list true 1 (bytesA d)] := by rw [List.getElem_map, hd]
        rw [e2]
        have hlk : (U.take j).length = j := by rw [List.length_take]; omega
        rw [ht, List.map_append, ← List.append_assoc]
        have hPl : (C ++ (U.take j).map fun c => (⟨72, c, .zero⟩ : Stp)).length = C.length + j := by rw [List.length_append, List.length_map, hlk]
        generalize (C ++ (U.take j).map fun c => (⟨72, c, .zero⟩ : Stp)) = P at *
        simp
        exact ⟨by omega, by omega, by rw [stpsA_append]; exact Store.sub_refl _, by omega⟩
      · rintro τ E σ' hs ⟨h1, rfl⟩
        rw [List.length_map, List.take_of_length_le (Nat.le_refl _)] at hs
        simp
        exact ⟨k + 1, by omega, by omega, by rw [hlw]; exact AV.le_refl _, by rw [hcs]; exact hs⟩
      · exact fun _ _ _ _ _ h => h.elim
    · have e : cutS size ⟨kx, bx, ⟨ax, sx, nx⟩⟩ = [⟨kx, bx, ⟨ax, sx, nx⟩⟩] := if_neg hcut
      rw [e] at hcs
      have hc3 : stpsA (cutLs size (l.take (k + 1))) = stpsA C ++ [stpA ⟨kx, bx, ⟨ax, sx, nx⟩⟩] := by rw [hcs, stpsA_append]; rfl
      by_cases h72 : kx = 72
      · subst h72
        have hs : size < 1 := by
          rw [not_and] at hcut
          have := hcut rfl
          omega
        simp [hlt, hg, hg2, hs]
        intro r hr
        rw [ite_none] at hr
        obtain ⟨n1, hr⟩ := hr
        have n2 : ¬ q = r := fun e => n1 e.symm
        refine callK.of (hcn _ _) ?_
        rintro v σ1 ⟨rfl, rfl⟩
        simp [n1, n2]
        refine ⟨by omega, by omega, k + 1, by omega, by omega, by rw [hlw]; exact AV.le_refl _, ?_⟩
        rw [hc3]
        (intro q; simp only [Store.upd, Store.del]; (repeat' split) <;> first | exact Or.inr rfl | exact Or.inl rfl | (exfalso; omega) | (left; subst_vars; assumption) | simp_all)
      · have f1 : ¬ (kx.toNat : Int) = 72 := fun h => h72 (UInt8.toNat_inj.1 (by show kx.toNat = 72; omega))
        have f1n : ¬ kx.toNat = 72 := fun h => h72 (UInt8.toNat_inj.1 h)
        simp [hlt, hg, hg2, f1, f1n]
        intro r hr
        rw [ite_none] at hr
        obtain ⟨n1, hr⟩ := hr
        have n2 : ¬ q = r := fun e => n1 e.symm
        refine callK.of (hcn _ _) ?_
        rintro v σ1 ⟨rfl, rfl⟩
        simp [n1, n2]
        refine ⟨by omega, by omega, k + 1, by omega, by omega, by rw [hlw]; exact AV.le_refl _, ?_⟩
        rw [hc3]
        (intro q; simp only [Store.upd, Store.del]; (repeat' split) <;> first | exact Or.inr rfl | exact Or.inl rfl | (exfalso; omega) | (left; subst_vars; assumption) | simp_all)
  · have : k = l.length := by omega
    subst this
    simp
    exact sub_upd_self _ _ _ hq
end Go.Proofs.YtheldoijfnigoaaGreatDoor
