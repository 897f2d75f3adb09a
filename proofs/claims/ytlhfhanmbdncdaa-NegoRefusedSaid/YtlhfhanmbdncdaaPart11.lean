/-
  NegoRefused: who was refused is never ready.
-/
import Derived.Test.YtlhfhanmbdncdaaPart10
namespace Go.Proofs.Ytlhfhanmbdncdaa
open Go Go.AL

def exE : Ng := ⟨[73, 66, 77, 45, 51, 50, 55, 56, 45, 50, 45, 69], [], [2], 0, [], []⟩
theorem up_at {σ σ' : Store} {q : Nat} {e : Ng} (h : Up σ q e σ') : ∃ o1 o2, σ' q = some (endO e o1 o2) := by
  obtain ⟨o1, o2, rfl⟩ := h; exact ⟨o1, o2, by simp⟩
theorem up_up {σ σ' σ2 : Store} {q : Nat} {e e' : Ng} (h : Up σ q e σ') (k : Up σ' q e' σ2) : Up σ q e' σ2 := by
  obtain ⟨o1, o2, rfl⟩ := h; obtain ⟨p1, p2, rfl⟩ := k; exact ⟨p1, p2, by simp⟩
theorem up_sub {σ σ' : Store} {q : Nat} {e : Ng} (h : Up σ q e σ') (hq : σ q = none) : Store.sub σ σ' := by
  obtain ⟨o1, o2, rfl⟩ := h; exact sub_upd_self _ _ _ hq
set_option maxRecDepth 8000 in
set_option maxHeartbeats 1000000 in
theorem awake_calls (σ : Store) : ACalls Try.prog 6 [] σ fun v σ' => v = .lit (.bool true) ∧ σ' = σ := by
  have hok : okC exE := by decide
  have hsm : Small exE := ⟨by decide, by decide, by decide, by decide⟩
  have hsm2 : Small { ty := exE.ty, dev := exE.dev, fns := exE.fns } := hsm
  have hs : askB exE = [2, 7, 73, 66, 77, 45, 51, 50, 55, 56, 45, 50, 45, 69] := by decide
  have hb := bytesOf_bytesA (askB exE)
  have hh : hearF { ty := exE.ty, dev := exE.dev, fns := exE.fns } [8, 2] = (askB exE, 0, ({ ty := exE.ty, dev := exE.dev, fns := exE.fns } : Ng).asked) := rfl
  refine ACalls.of_awp follows (st := st6) (plans := pl6) (n := 33) Try.func6 rfl (by kernel_rfl) (by kernel_rfl) (by kernel_rfl) ?_
  simp
  refine callK.le (args' := [confA exE false]) ⟨AV.le_refl _, trivial⟩ (new_calls exE false hsm _) ?_
  rintro v σ' (⟨hn, _⟩ | ⟨_, q, hq, rfl, hup⟩)
  · exact absurd hok hn
  obtain ⟨o1, o2, hat⟩ := up_at hup
  have hsub := up_sub hup hq
  simp [ptrA]
  refine callK.le (args' := [ptrA q, .lit (.int .u8 40), .list true 1 (bytesA [8, 2])]) ⟨AV.le_refl _, AV.le_refl _, AV.le_refl _, trivial⟩ (hear_calls q _ o1 o2 true [8, 2] (by decide) hsm2 _ hat (fun _ _ _ _ _ h => by rcases h with h | h <;> cases h)) ?_
  rintro v σ2 ⟨rfl, hup2⟩
  rw [hh] at hup2 ⊢
  obtain ⟨p1, p2, hat2⟩ := up_at hup2
  have hsub2 := up_sub (up_up hup hup2) hq
  have hst := state_calls q _ p1 p2 _ hat2
  unfold ptrA at hst
  rw [hs] at *
  generalize hL : bytesA [2, 7, 73, 66, 77, 45, 51, 50, 55, 56, 45, 50, 45, 69] = L at *
  simp [hb]
  refine callK.of hst ?_
  rintro v σ3 ⟨rfl, rfl⟩
  simp [Ng.asked]
  exact hsub2
theorem refused_stays {e : Ng} (h : e.st = 4) (l : List UInt8) : (hearF e l).2.2 = e := by
  have h1 : ¬ e.st = 1 := by omega
  have h2 : ¬ e.st = 2 := by omega
  have h3 : ¬ e.st = 3 := by omega
  unfold hearF
  split
  · rfl
  · rename_i a k
    by_cases c1 : a = 8 ∧ k = [2]
    · rw [if_pos c1, if_pos h]
    rw [if_neg c1]
    by_cases c2 : a = 2
    · rw [if_pos c2]
      rcases k with _ | ⟨d, k⟩
      · rfl
      · show (if k.length = 2 ∧ d = 6 ∧ k.head? = some 5 then (if e.st = 1 then (([], 0, { e with st := 4 }) : List UInt8 × Nat × Ng) else ([], 6, e)) else if ¬ d = 4 ∨ (gotF k).2 = false then ([], 4, e) else if ¬ e.st = 1 then ([], 6, e) else (3 :: 7 :: e.fns, 0, { e with st := 2, name := (gotF k).1, agreed := [] })).2.2 = e
        rw [if_neg h1, if_pos h1]
        split
        · rfl
        · split <;> rfl
    rw [if_neg c2]
    by_cases c3 : a = 3
    · rw [if_pos c3]
      rcases k with _ | ⟨d, k⟩
      · rfl
      · have c4 : ¬ e.st = 2 ∧ (d = 4 ∨ ¬ e.st = 3) := ⟨h2, .inr h3⟩
        unfold fnF
        simp only [if_pos c4]
        split <;> rfl
    · rw [if_neg c3]
theorem ask_len (e : Ng) (h : nameS e.ty = true) : 3 ≤ (askB e).length := by
  have : e.ty ≠ [] := fun h0 => by rw [h0] at h; simp [nameS] at h
  cases hty : e.ty with
  | nil => exact absurd hty this
  | cons a l => simp [askB, hty]
def listsA (l : List (List UInt8)) : List AV := l.map fun p => .list false 1 (bytesA p)
theorem small_asked {e : Ng} (h : Small e) : Small e.asked := ⟨h.ty, h.dev, h.fns, Nat.zero_le _⟩
set_option maxRecDepth 8000 in
set_option maxHeartbeats 1000000 in
theorem negoRefused_law (c : Ng) (code : UInt8) (l : List (List UInt8)) (hl : l.length ≤ 9223372036854775807) (σ : Store) :
    ACalls Try.prog 3 [confA c false, byteA code, .list false 1 (listsA l)] σ fun v σ' => v = .lit (.bool true) ∧ σ' = σ := by
  have haw := fun τ => awake_calls τ
  have hfw := fun τ => few_calls c false τ
  have hfs := few_small c
  have hnew := fun τ => new_calls c.few false hfs τ
  unfold confA at *
  rw [byteA_lit code]
  refine ACalls.of_awp follows (st := st3) (plans := pl3) (n := 89) Try.func3 rfl (by kernel_rfl) (by kernel_rfl) (by kernel_rfl) ?_
  simp
  intro b hb
  refine callK.of (haw _) ?_
  rintro v σ0 ⟨rfl, rfl⟩
  simp
  refine callK.of (hfw _) ?_
  rintro v σ0 ⟨rfl, rfl⟩
  simp
  refine callK.of (hnew _) ?_
  rintro v σ1 (⟨_, ⟨k, hk, rfl⟩, rfl⟩ | ⟨hok, q, hq, rfl, hup⟩)
  · simp [hk]
    exact sub_upd_self _ _ _ hb
  simp only [supd_apply, ite_none] at hq
  obtain ⟨hqb, hq⟩ := hq
  have hsa : ∀ τ, (∃ e, Up σ1 q e τ) → Store.sub σ τ := fun τ ⟨e, hu⟩ => by
    obtain ⟨o1, o2, hu⟩ := up_up hup hu
    rw [hu]; (intro q; simp only [Store.upd, Store.del]; (repeat' split) <;> first | exact Or.inr rfl | exact Or.inl rfl | (exfalso; omega) | (left; subst_vars; assumption) | simp_all)
  obtain ⟨o1, o2, hat⟩ := up_at hup
  have hsm : Small { ty := c.few.ty, dev := c.few.dev, fns := c.few.fns } := hfs
  generalize hE : ({ ty := c.few.ty, dev := c.few.dev, fns := c.few.fns } : Ng) = e0 at *
  have hst0 : e0.st = 0 := by rw [← hE]
  have hty : nameS e0.ty = true := by rw [← hE]; exact hok.1
  clear hE
  have hsm1 := small_asked hsm
  have hh1 : hearF e0.asked [2, 6, 5, code] = ([], 0, { e0.asked with st := 4 }) := by simp [hearF, devF, Ng.asked]
  have hf0 : hearF e0 [8, 2] = (askB e0, 0, e0.asked) := by simp [hearF, hst0]
  simp [ptrA]
  refine callK.of (hear_calls q e0 o1 o2 true [8, 2] (by simp) hsm _ hat (fun _ _ _ _ _ h => by omega)) ?_
  rintro v τ1 ⟨rfl, hu1⟩
  rw [hf0] at hu1
  obtain ⟨p1, p2, hat1⟩ := up_at hu1
  simp
  refine callK.of (hear_calls q e0.asked p1 p2 true [2, 6, 5, code] (by simp) hsm1 _ hat1 (fun _ _ _ _ _ h => by rcases h with h | h <;> cases h)) ?_
  rintro v τ2 ⟨rfl, hu2⟩
  rw [hh1] at hu2 ⊢
  have hu2 := up_up hu1 hu2
  generalize hE2 : ({ e0.asked with st := 4 } : Ng) = e2 at *
  have hst2 : e2.st = 4 := by rw [← hE2]
  have hsm2 : Small e2 := by rw [← hE2]; exact ⟨hsm1.ty, hsm1.dev, hsm1.fns, hsm1.agreed⟩
  have hty2 : nameS e2.ty = true := by rw [← hE2]; exact hty
  obtain ⟨r1, r2, rfl⟩ := hu2
  have hs2 := fun a b => state_calls q e2 a b (σ1.upd q (endO e2 a b)) (by simp)
  have hr2 := fun a b => ready_calls q e2 a b (σ1.upd q (endO e2 a b)) (by simp)
  have hf2 := fun a b => functions_calls q e2 a b hsm2 (σ1.upd q (endO e2 a b)) (by simp)
  have hz2 := fun a b => reset_calls q e2 a b (σ1.upd q (endO e2 a b)) (by simp)
  rw [hst2] at hs2 hr2 hf2
  unfold ptrA at hs2 hr2 hf2 hz2
  have hstay := refused_stays hst2
  simp
  refine callK.of (hs2 r1 r2) ?_
  rintro v τ3 ⟨rfl, rfl⟩
  simp
  refine codeK.loop follows (st := st3) (plans := pl3) (X := Nat × Bool × Bool) (fun x => x.1 ≤ l.length)
    (fun x => [(7, ptrA q), (42, .list false 1 (listsA l)), (43, .lit (.int .i64 l.length)), (44, .lit (.int .i64 x.1))]) (fun x => σ1.upd q (endO e2 x.2.1 x.2.2)) (fun x => l.length - x.1) (0, r1, r2) (by kernel_rfl) (by simp) (by simp [ptrA, listsA]) (Store.sub_refl _) ?_
  rintro ⟨i, a1, a2⟩ hi
  dsimp only at hi ⊢
  by_cases hlt : i < l.length
  · have hw : IntKind.i64.wrap ((i : Int) + 1) = ((i + 1 : Nat) : Int) := wrap_i64 (by omega) (by omega)
    have hlt' : (i : Int) < l.length := by omega
    obtain ⟨c, hc⟩ : ∃ c, l[i] = c := ⟨_, rfl⟩
    have hg : ∀ h : i < (listsA l).length, (listsA l)[i]'h = .list false 1 (bytesA c) := fun h => by
      simp [listsA, hc]
    have hll : (listsA l).length = l.length := by simp [listsA]
    have hcut := fun τ => cut_calls false c 60 τ (by omega)
    by_cases h10 : i < 10
    · have h10' : (i : Int) < 10 := by omega
      have hhe := hear_calls q e2 a1 a2 true (c.take 60) (by simp; omega) hsm2 (σ1.upd q (endO e2 a1 a2)) (by simp) (fun _ _ _ _ _ h => by omega)
      unfold ptrA at hhe
      simp [hlt, hlt', hg, hll, h10', ptrA]
      refine callK.of (hcut _) ?_
      rintro v τ4 ⟨rfl, rfl⟩
      simp
      refine callK.of hhe ?_
      rintro v τ5 ⟨rfl, b1, b2, rfl⟩
      rw [hstay]
      simp
      exact ⟨i + 1, by omega, by omega, by rw [hw]; exact AV.le_refl _, by cases b1 <;> cases b2 <;> simp⟩
    · have h10' : ¬ (i : Int) < 10 := by omega
      simp [hlt, hlt', hg, hll, h10', ptrA]
      exact ⟨i + 1, by omega, by omega, by rw [hw]; exact AV.le_refl _, by cases a1 <;> cases a2 <;> simp⟩
  · obtain rfl : i = l.length := by omega
    simp [ptrA]
    refine callK.of (hs2 a1 a2) ?_
    rintro v τ4 ⟨rfl, rfl⟩
    simp
    refine callK.of (hr2 a1 a2) ?_
    rintro v τ4 ⟨rfl, rfl⟩
    simp
    refine callK.of (hf2 a1 a2) ?_
    rintro v τ4 ⟨rfl, rfl⟩
    simp [bytesA]
    refine callK.of (hz2 a1 a2) ?_
    rintro v τ5 ⟨rfl, b1, b2, rfl⟩
    have hsm3 : Small e2.reset := ⟨hsm2.ty, hsm2.dev, hsm2.fns, Nat.zero_le _⟩
    have hf3 : hearF e2.reset [8, 2] = (askB e2.reset, 0, e2.reset.asked) := by simp [hearF, Ng.reset]
    have hlen := ask_len e2.reset hty2
    simp
    refine callK.of (hear_calls q e2.reset b1 b2 true [8, 2] (by simp) hsm3 _ (by simp) (fun _ _ _ _ _ h => by rcases h with h | h <;> cases h)) ?_
    rintro v τ6 ⟨rfl, hu6⟩
    rw [hf3] at hu6 ⊢
    obtain ⟨d1, d2, hat6⟩ := up_at hu6
    have hs6 := state_calls q e2.reset.asked d1 d2 _ hat6
    unfold ptrA at hs6
    have hbl := bytesA_length (askB e2.reset)
    have h2l : (2 : Int) < (askB e2.reset).length := by omega
    simp [h2l]
    refine callK.of hs6 ?_
    rintro v τ7 ⟨rfl, rfl⟩
    simp [Ng.asked]
    refine hsa _ ⟨e2.reset.asked, ?_⟩
    obtain ⟨x1, x2, rfl⟩ := hu6
    exact ⟨x1, x2, by simp⟩
theorem negoRefused_said (c : Ng) (code : UInt8) (l : List (List UInt8)) (hl : l.length ≤ maxLen) (σ : Store) :
    ACalls Try.prog 3 [confA c false, byteA code, .list false 1 (listsA l)] σ fun v _ => v = .lit (.bool true) :=
  (negoRefused_law c code l (Nat.le_trans hl (by decide)) σ).mono fun _ _ h => h.1
end Go.Proofs.Ytlhfhanmbdncdaa
/-
  Arguments opened.
-/
namespace Go.Proofs.Ytlhfhanmbdncdaa
open Go Go.AL
theorem open_str : Opens Try.prog 9 (fun l : List UInt8 => [strS l]) (fun _ => True) :=
  (Opens.string Try.underlying9).by (fun s => s.data.toList) fun s _ => ⟨trivial, by cases s; simp⟩
theorem open_bytes : Opens Try.prog 22 (fun l : List UInt8 => [.list false 1 (bytesA l)]) (fun l => l.length ≤ maxLen) :=
  (Opens.slice Try.underlying22 (sz := 1) (by kernel_rfl) (by omega) (Opens.u8 Try.underlying5) byteA (fun _ => rfl) (fun _ => rfl)).by id fun _ h => ⟨h.1, rfl⟩
theorem open_conf : Opens Try.prog 24 (fun c : Ng => [strS c.ty, strS c.dev, .list false 1 (bytesA c.fns)]) (fun _ => True) :=
  (Opens.struct (total := 3) Try.underlying24 (by kernel_rfl)
    (.cons (k := 1) rfl (by kernel_rfl) (by omega) open_str (.cons (k := 1) rfl (by kernel_rfl) (by omega) open_str (.cons (k := 1) rfl (by kernel_rfl) (by omega) open_bytes .nil)))).by
    (fun x => ⟨x.1, x.2.1, x.2.2.1, 0, [], []⟩) fun _ _ => ⟨trivial, rfl⟩
theorem open_lists : Opens Try.prog 25 (fun l : List (List UInt8) => [.list false 1 (l.map fun p => .list false 1 (bytesA p))]) (fun l => l.length ≤ maxLen) :=
  (Opens.slice Try.underlying25 (sz := 1) (by kernel_rfl) (by omega) open_bytes (fun p => .list false 1 (bytesA p)) (fun _ => rfl) (fun _ => rfl)).by id fun _ h => ⟨h.1, rfl⟩
end Go.Proofs.Ytlhfhanmbdncdaa
