/-
  All counters, told one by one.
-/
import Derived.Test.YtgelodhkbpmlfaaSPart12
set_option linter.unusedSimpArgs false
set_option linter.unusedVariables false
namespace Go.Proofs.Ytgelodhkbpmlfaa
open Go Go.AL

theorem TV.ptr {σ : Store} {b c : Nat} {tv : AV} {ns : List (List UInt8)} {xs : List Nat} (h : TV σ b c tv ns xs) : ∃ a, tv = .lit (.pointer a) := by
  rcases h with ⟨rfl, _, _⟩ | ⟨rfl, _⟩ <;> exact ⟨_, rfl⟩
theorem TV.off {σ : Store} {b c p : Nat} {tv v : AV} {ns : List (List UInt8)} {xs : List Nat} (h : TV σ b c tv ns xs) (hp : σ p = some [v]) (hv : ∀ n : Int, ¬ v = .lit (.int .u64 n)) : tv = .lit (.pointer none) ∨ (¬ (p : Int) = b ∧ ¬ (p : Int) = c) := by
  rcases h with ⟨rfl, _, _⟩ | ⟨rfl, m, h⟩
  · exact .inl rfl
  · refine .inr ⟨fun e => ?_, fun e => ?_⟩
    · rw [e, h.obj] at hp
      simp [tS] at hp
    · rw [e, h.row] at hp
      cases xs with
      | nil => simp [u64s] at hp
      | cons x l => simp [u64s] at hp; exact hv _ hp.1.symm
def argC (ns : List (List UInt8)) (xs : List Nat) (k : Nat) : List AV := [strV (ns.getD k []), .lit (.int .u64 ((xs.getD k 0 : Nat) : Int))]
set_option maxHeartbeats 1000000 in
set_option maxRecDepth 8000 in
theorem all_iter (p b c : Nat) (a : Option Addr) (ns : List (List UInt8)) (xs : List Nat) (σ : Store) :
    IterL Try.prog (Γ := Unit) 35 [ptrA p] σ ns.length (fun _ _ τ => τ p = some [.lit (.pointer a)] ∧ TV τ b c (.lit (.pointer a)) ns xs) (fun _ _ τ τ' => TV τ' b c (.lit (.pointer a)) ns xs ∧ Fr (.lit (.pointer a)) b c τ τ') (fun k => argC ns xs k) := by
  refine ⟨fun k g τ1 τ _ h hs => ⟨⟨sub_at h.1 hs, h.2.more hs⟩, fun τ' h' => ⟨τ', Store.sub_refl _, h'.1, (Fr.of hs).trans h'.2⟩⟩, ?_⟩
  intro X l M I J hpre hstep hyield g τ E hM hsub
  obtain ⟨hp0, hT0⟩ := hpre 0 g τ E (Nat.zero_le _) hM
  have hp0 := sub_at hp0 hsub
  have hT1 := hT0.more hsub
  have hnm := names_calls hT1
  obtain ⟨hl, hn, hxl⟩ := hT0.ns
  refine ACallsY.of_awp follows (st := st35) (plans := pl35) (n := 20) Try.func35 rfl (by kernel_rfl) (by kernel_rfl) (by kernel_rfl) ?_
  simp [hp0]
  refine callK.of hnm ?_
  rintro v τ1 ⟨rfl, h1, hf1⟩
  have hp1 := hf1 p _ (hT1.off hp0 (by simp)) hp0
  simp
  refine codeYK.loop follows (st := st35) (plans := pl35) (S := Nat × Store × Store) (fun x => x.1 ≤ ns.length ∧ TV x.2.2 b c (.lit (.pointer a)) ns xs ∧ Fr (.lit (.pointer a)) b c x.2.1 x.2.2 ∧ x.2.2 p = some [.lit (.pointer a)])
    (fun x => [(0, .func (.yield l) [] []), (1, ptrA p), (6, .list true 1 (strsA ns)), (7, .lit (.int .i64 ns.length)), (8, .lit (.int .i64 x.1))]) (fun x => x.2.2)
    (fun x E => M x.1 () x.2.1 E) (fun x => ns.length - x.1) (0, τ, τ1) (by kernel_rfl) ⟨Nat.zero_le _, h1, (Fr.of hsub).trans hf1, hp1⟩ (by simp) (Store.sub_refl _) hM ?_
  rintro ⟨k, τM, τc⟩ Ek ⟨hk, hT, hF, hp⟩ hMk
  dsimp only at hk hT hF hp hMk ⊢
  by_cases hlt : k < ns.length
  · obtain ⟨x, hx⟩ : ∃ x, ns.getD k [] = x := ⟨_, rfl⟩
    have hx2 : ns[k] = x := by rw [← hx]; simp [List.getD_eq_getElem?_getD, hlt]
    have hg1 : (strsA ns)[k]? = some (.lit (.string (toB x))) := by simp [strsA, strV, hlt, hx2]
    have hg2 : ∀ h : k < (strsA ns).length, (strsA ns)[k]'h = .lit (.string (toB x)) := fun h => by simp [strsA, strV, hx2]
    have hix := ixN_self hn hlt
    rw [hx] at hix
    have htk := tget_calls x hT
    rw [hix] at htk
    have hlw : IntKind.i64.wrap ((k : Int) + 1) = ((k + 1 : Nat) : Int) := wrap_i64 (by omega) (by omega)
    have hyk := hyield k () hlt
    unfold argC strV at hyk
    rw [hx] at hyk
    simp only [Option.map_some, Option.getD_some] at htk
    simp [hlt, hg1, hg2, hp]
    generalize List.getD xs k 0 = z at *
    refine callK.of htk ?_
    rintro v τ2 ⟨rfl, h2, hf2⟩
    have hI := hstep k () τM τ2 Ek hk hMk ⟨h2, hF.trans hf2⟩
    simp
    refine yieldK.of (by simp) (hyk τ2 Ek hI) (Store.sub_refl _) ?_
    intro bb τ' E' hR hap
    cases bb
    · simp
      exact ⟨⟨_, AV.le_refl _⟩, _, Store.sub_over _ _ _, τ', Store.sub_refl _, .inr (by simpa using hR)⟩
    · obtain ⟨g', hR⟩ := (by simpa using hR : ∃ g', M (k + 1) g' τ' E')
      obtain ⟨q1, q2⟩ := hpre (k + 1) g' τ' E' (by omega) hR
      have hso := Store.sub_over τ' τ2 τ2
      simp
      exact ⟨k + 1, τ', _, ⟨by omega, q2.more hso, Fr.of hso, sub_at q1 hso⟩, by omega, by rw [hlw]; exact AV.le_refl _, Store.sub_refl _, hR⟩
  · obtain rfl : k = ns.length := by omega
    simp
    exact ⟨⟨_, AV.le_refl _⟩, _, Store.sub_refl _, τc, Store.sub_refl _, .inl ⟨(), hstep ns.length () τM τc Ek (Nat.le_refl _) hMk ⟨hT, hF⟩⟩⟩
end Go.Proofs.Ytgelodhkbpmlfaa
/-
  The law's list of all counters; where a name stands; are two lists alike?
-/
namespace Go.Proofs.Ytgelodhkbpmlfaa
open Go Go.AL

set_option maxRecDepth 8000 in
theorem mkAll_calls (a : Option Addr) (σ : Store) : ACalls Try.prog 26 [.lit (.pointer a)] σ fun v σ' => ∃ p : Nat, σ p = none ∧ v = .func (.func 35) [] [ptrA p] ∧ σ' = σ.upd p [.lit (.pointer a)] := by
  refine ACalls.of_awp follows (st := st26) (plans := pl26) (n := 4) Try.func26 rfl (by kernel_rfl) (by kernel_rfl) (by kernel_rfl) ?_
  simp
  exact fun p hp => ⟨_, AV.le_refl _, _, Store.sub_refl _, p, hp, rfl, rfl⟩
theorem zip_get {ns : List (List UInt8)} {xs : List Nat} (h : xs.length = ns.length) {k : Nat} (hk : k < ns.length) : (ns.zip xs).take (k + 1) = (ns.zip xs).take k ++ [(ns.getD k [], xs.getD k 0)] := by
  have hz : k < (ns.zip xs).length := by simp; omega
  rw [List.take_succ_eq_append_getElem hz, List.getElem_zip]
  simp [List.getD_eq_getElem?_getD, hk, show k < xs.length by omega]
set_option maxHeartbeats 1000000 in
set_option maxRecDepth 8000 in
theorem all_calls {σ : Store} {b c : Nat} {tv : AV} {ns : List (List UInt8)} {xs : List Nat} (most : Nat) (hm : 0 < most) (h : TV σ b c tv ns xs) :
    ACalls Try.prog 12 [tv, .lit (.int .i64 most)] σ fun v σ' => v = .list false 2 (ctsA ((ns.zip xs).take most)) ∧ TV σ' b c tv ns xs ∧ Fr tv b c σ σ' := by
  obtain ⟨a, rfl⟩ := h.ptr
  obtain ⟨hl, hn, hxl⟩ := h.ns
  refine ACalls.of_awpY follows (st := st12) (plans := pl12) (n := 23) Try.func12 rfl (by kernel_rfl) (by kernel_rfl) (by kernel_rfl) ?_
  simp
  intro p3 h3
  simp +contextual [ite_free]
  intro p5 n5 m5 h5
  refine callK.of (mkAll_calls a _) ?_
  rintro v σ1 ⟨p, hp, rfl, rfl⟩
  simp only [upd_nat, ite_none] at hp
  obtain ⟨k5, k3, hp⟩ := hp
  simp
  have hs1 : Store.sub σ (((σ.upd p3 [.lit (.int .i64 most)]).upd p5 [.list true 2 []]).upd p [.lit (.pointer a)]) :=
    Store.sub_upd hp (Store.sub_upd h5 (Store.sub_upd h3 (Store.sub_refl _)))
  have sw : ∀ {i j : Nat}, ¬ i = j → ¬ j = i := fun h e => h e.symm
  have e3 : (((σ.upd p3 [.lit (.int .i64 most)]).upd p5 [.list true 2 []]).upd p [.lit (.pointer a)]) p3 = some [.lit (.int .i64 most)] := by
    simp [sw k3, n5, m5]
  have e5 : (((σ.upd p3 [.lit (.int .i64 most)]).upd p5 [.list true 2 []]).upd p [.lit (.pointer a)]) p5 = some [.list true 2 []] := by
    simp [sw k5]
  have ep : (((σ.upd p3 [.lit (.int .i64 most)]).upd p5 [.list true 2 []]).upd p [.lit (.pointer a)]) p = some [.lit (.pointer a)] := by simp
  generalize hσ0 : ((σ.upd p3 [.lit (.int .i64 most)]).upd p5 [.list true 2 []]).upd p [.lit (.pointer a)] = σ0 at *
  clear hσ0
  refine codeYK.rangeL follows (st := st12) (plans := pl12) (all_iter p b c a ns xs σ0) (by simp) (by simp) (fun k h => rfl) (by kernel_rfl) (by kernel_rfl) (by kernel_rfl)
    (fun k g ρ E => k < most ∧ TV ρ b c (.lit (.pointer a)) ns xs ∧ Fr (.lit (.pointer a)) b c σ ρ ∧ ρ p3 = some [.lit (.int .i64 most)] ∧ ρ p5 = some [.list true 2 (ctsA ((ns.zip xs).take k))] ∧ ρ p = some [.lit (.pointer a)])
    (fun k g ρ E => k < most ∧ TV ρ b c (.lit (.pointer a)) ns xs ∧ Fr (.lit (.pointer a)) b c σ ρ ∧ ρ p3 = some [.lit (.int .i64 most)] ∧ ρ p5 = some [.list true 2 (ctsA ((ns.zip xs).take k))] ∧ ρ p = some [.lit (.pointer a)])
    (fun cd ρ E => cd = Code.exit 0 ∧ TV ρ b c (.lit (.pointer a)) ns xs ∧ Fr (.lit (.pointer a)) b c σ ρ ∧ ρ p5 = some [.list true 2 (ctsA ((ns.zip xs).take most))])
    () σ0 ⟨hm, h.more hs1, Fr.of hs1, e3, e5, ep⟩ (Store.sub_refl _) ?_ ?_ ?_ ?_ ?_
  · rintro k g ρ E hk ⟨_, q2, _, _, _, q6⟩
    exact ⟨q6, q2⟩
  · rintro k g ρ ρ' E hk ⟨q1, q2, q3, q4, q5, q6⟩ ⟨r1, r2⟩
    exact ⟨q1, r1, q3.trans r2, r2 _ _ (q2.off q4 (by simp)) q4, r2 _ _ (q2.off q5 (by simp)) q5, r2 _ _ (q2.off q6 (by simp)) q6⟩
  · rintro k g hk ρ E ⟨q1, q2, q3, q4, q5, q6⟩
    have hz := zip_get hxl hk
    have o5 := q2.off q5 (by simp)
    have hlt : ((ns.zip xs).take k).length = k := by rw [List.length_take, List.length_zip]; omega
    have hn35 : ¬ p3 = p5 := fun e => by rw [e] at q4; rw [q5] at q4; simp at q4
    have hn5p : ¬ p = p5 := fun e => by rw [e] at q6; rw [q5] at q6; simp at q6
    have hkw : (k : Int) + 1 = most ↔ k + 1 = most := by omega
    have hT5 : ∀ C : List AV, TV (ρ.upd p5 C) b c (.lit (.pointer a)) ns xs := fun C => by
      rcases q2 with ⟨z1, z2, z3⟩ | ⟨z1, m, z2⟩
      · exact .inl ⟨z1, z2, z3⟩
      · rcases o5 with o5 | ⟨o5, o6⟩
        · rw [o5] at z1; cases z1
        · refine .inr ⟨z1, m, ?_, ?_, z2.len, z2.ne, fun q e => by rw [upd_mkey]; exact z2.map q e, z2.nd, z2.le⟩
          · rw [upd_nat, if_neg (fun e => o5 (by rw [e]))]; exact z2.obj
          · rw [upd_nat, if_neg (fun e => o6 (by rw [e]))]; exact z2.row
    have hσ5 : σ p5 = none := h5
    have hF5 : ∀ C : List AV, Fr (.lit (.pointer a)) b c σ (ρ.upd p5 C) := fun C j x hj hx => by
      have hjp : ¬ j = p5 := fun e => by rw [e, hσ5] at hx; cases hx
      simp only [Store.upd]
      rw [if_neg hjp]
      exact q3 j x hj hx
    simp only [argC, strV]
    by_cases he : k + 1 = most
    · have hz2 : ctsA ((ns.zip xs).take most) = ctsA ((ns.zip xs).take k) ++ [.agg [.lit (.string (toB (ns.getD k []))), .lit (.int .u64 ((xs.getD k 0 : Nat) : Int))]] := by
        rw [← he, hz, ctsA_append]; rfl
      generalize List.getD ns k [] = x at *
      generalize List.getD xs k 0 = z at *
      simp [q5, q4, hn35, hlt, he, hkw]
      exact ⟨by omega, by omega, _, Store.sub_refl _, hT5 _, hF5 _, by rw [upd_nat, if_pos rfl, hz2]⟩
    · have hz2 : ctsA ((ns.zip xs).take (k + 1)) = ctsA ((ns.zip xs).take k) ++ [.agg [.lit (.string (toB (ns.getD k []))), .lit (.int .u64 ((xs.getD k 0 : Nat) : Int))]] := by
        rw [hz, ctsA_append]; rfl
      generalize List.getD ns k [] = x at *
      generalize List.getD xs k 0 = z at *
      simp [q5, q4, hn35, hlt, he, hkw]
      exact ⟨by omega, by omega, _, Store.sub_refl _, by omega, hT5 _, hF5 _, by rw [upd_nat, if_neg hn35]; exact q4, by rw [upd_nat, if_pos rfl, hz2], by rw [upd_nat, if_neg hn5p]; exact q6⟩
  · rintro g ρ E σ' hs ⟨q1, q2, q3, q4, q5, q6⟩
    have q5' := sub_at q5 hs
    have e : (ns.zip xs).take most = (ns.zip xs).take ns.length := by
      rw [List.take_of_length_le (by simp; omega), List.take_of_length_le (by simp; omega)]
    simp [q5', e]
    exact ⟨_, AV.le_refl _, σ', Store.sub_refl _, rfl, q2.more hs, q3.trans (Fr.of hs)⟩
  · rintro cd ρ E σ' hs ⟨rfl, q2, q3, q5⟩
    have q5' := sub_at q5 hs
    simp [q5']
    exact ⟨_, AV.le_refl _, σ', Store.sub_refl _, rfl, q2.more hs, q3.trans (Fr.of hs)⟩
/-- Where a name stands in a list of counters. -/
def findC (l : List Ct) (s : List UInt8) : Option Nat := l.findIdx? fun c => c.1 == s
def ixI (o : Option Nat) : Int := match o with | none => -1 | some i => i
/-- Counters: none, or a row that is an object. -/
def LW (τ : Store) (d : Nat) (V : AV) (l : List Ct) : Prop := (l = [] ∧ V = .list false 2 []) ∨ ∃ cap : Nat, V = sliA d l.length cap ∧ (¬ l = [] → ∃ rest, τ d = some (cA l ++ rest)) ∧ l.length ≤ cap
theorem cA_at (l : List Ct) (rest : List AV) {k : Nat} (h : k < l.length) : (cA l ++ rest)[k * 2]? = some (strV l[k].1) ∧ (cA l ++ rest)[k * 2 + 1]? = some (.lit (.int .u64 (l[k].2 : Int))) := by
  induction l generalizing k with
  | nil => simp at h
  | cons a l ih =>
    cases k with
    | zero => exact ⟨rfl, rfl⟩
    | succ k =>
      have := ih (k := k) (by simpa using h)
      rw [show (k + 1) * 2 = k * 2 + 2 by omega, show k * 2 + 2 + 1 = k * 2 + 1 + 2 by omega]
      exact this
theorem mkAV_true (cs : List AV) : mkAV true cs = some (.agg cs) := nr (by unfold mkAV; rfl)
theorem cA_two (l : List Ct) (rest : List AV) {k : Nat} (h : k < l.length) : ((cA l ++ rest).drop (k * 2)).take 2 = [strV l[k].1, .lit (.int .u64 (l[k].2 : Int))] := by
  induction l generalizing k with
  | nil => simp at h
  | cons a l ih =>
    cases k with
    | zero => rfl
    | succ k =>
      have := ih (k := k) (by simpa using h)
      rw [show (k + 1) * 2 = k * 2 + 2 by omega]
      exact this
set_option maxRecDepth 8000 in
set_option maxHeartbeats 1000000 in
theorem find_calls (d : Nat) (V : AV) (l : List Ct) (hl : l.length ≤ 64) (s : List UInt8) (σ : Store) (h : LW σ d V l) :
    ACalls Try.prog 13 [V, .lit (.string (toB s))] σ fun v σ' => v = .lit (.int .i64 (ixI (findC l s))) ∧ σ' = σ := by
  refine ACalls.of_awp follows (st := st13) (plans := pl13) (n := 20) Try.func13 rfl (by kernel_rfl) (by kernel_rfl) (by kernel_rfl) ?_
  rcases h with ⟨rfl, rfl⟩ | ⟨cap, rfl, hdd, hc⟩
  · simp
    refine codeK.loop follows (st := st13) (plans := pl13) (X := Unit) (fun _ => True) (fun _ => [(7, .list false 2 []), (8, .lit (.int .i64 0)), (9, .lit (.int .i64 0))]) (fun _ => σ) (fun _ => 0) () (by kernel_rfl) trivial (by simp) (Store.sub_refl _) fun _ _ => ?_
    simp [findC, ixI]
  · simp
    refine codeK.loop follows (st := st13) (plans := pl13) (X := Nat) (fun k => k ≤ l.length ∧ findC (l.take k) s = none) (fun k => [(1, .lit (.string (toB s))), (7, sliA d l.length cap), (8, .lit (.int .i64 l.length)), (9, .lit (.int .i64 k))]) (fun _ => σ) (fun k => l.length - k) 0 (by kernel_rfl) (by simp [findC]) (by simp) (Store.sub_refl _) fun k hk => ?_
    obtain ⟨hk, hn⟩ := hk
    by_cases hlt : k < l.length
    · obtain ⟨x, hx⟩ : ∃ x, l[k] = x := ⟨_, rfl⟩
      obtain ⟨rest, hd⟩ := hdd (by rintro rfl; simp at hlt)
      obtain ⟨g1, g2⟩ := cA_at l rest hlt
      have hln : (cA l ++ rest).length = l.length * 2 + rest.length := by rw [List.length_append, cA_length]
      have hlw : IntKind.i64.wrap ((k : Int) + 1) = ((k + 1 : Nat) : Int) := wrap_i64 (by omega) (by omega)
      have htk : l.take (k + 1) = l.take k ++ [x] := by rw [List.take_succ_eq_append_getElem hlt, hx]
      have g5 := cA_two l rest hlt
      have hbd : k * 2 + 2 ≤ l.length * 2 + rest.length := by omega
      rw [hx] at g1 g2 g5
      simp only [strV] at g1 g5
      have g3 : ∀ h : k * 2 < (cA l ++ rest).length, (cA l ++ rest)[k * 2]'h = .lit (.string (toB x.1)) := fun h => by rw [List.getElem?_eq_getElem h] at g1; exact Option.some.inj g1
      have g4 : ∀ h : k * 2 + 1 < (cA l ++ rest).length, (cA l ++ rest)[k * 2 + 1]'h = .lit (.int .u64 (x.2 : Int)) := fun h => by rw [List.getElem?_eq_getElem h] at g2; exact Option.some.inj g2
      generalize cA l ++ rest = CC at *
      by_cases hxs : x.1 = s
      · have hf : findC l s = some k := by
          unfold findC at hn ⊢
          rw [← List.take_append_drop k l, List.findIdx?_append, hn, List.drop_eq_getElem_cons hlt, hx]
          simp [List.findIdx?_cons, hxs]; omega
        simp [hlt, hd, hln, hf, g5, hbd, mkAV_true, hxs, toB_toList]
        exact fun p hp => ⟨by simp [ixI], sub_upd_self _ _ _ hp⟩
      · have hf : findC (l.take (k + 1)) s = none := by
          unfold findC at hn ⊢
          rw [htk, List.findIdx?_append, hn]
          simp [List.findIdx?_cons, hxs]
        simp [hlt, hd, hln, g5, hbd, mkAV_true, hxs, toB_toList]
        exact fun p hp => ⟨k + 1, ⟨by omega, hf⟩, by omega, by rw [hlw]; exact AV.le_refl _, sub_upd_self _ _ _ hp⟩
    · obtain rfl : k = l.length := by omega
      rw [List.take_length] at hn
      simp [hn, ixI]
set_option maxRecDepth 8000 in
set_option maxHeartbeats 1000000 in
theorem same_calls (d : Nat) (V : AV) (A l : List Ct) (hA : A.length ≤ 1000) (hl : l.length ≤ 64) (o : Bool) (σ : Store) (h : LW σ d V l) :
    ACalls Try.prog 11 [.list o 2 (ctsA A), V] σ fun v σ' => v = .lit (.bool (decide (A = l))) ∧ σ' = σ := by
  refine ACalls.of_awp follows (st := st11) (plans := pl11) (n := 26) Try.func11 rfl (by kernel_rfl) (by kernel_rfl) (by kernel_rfl) ?_
  rcases h with ⟨rfl, rfl⟩ | ⟨cap, rfl, hdd, hc⟩
  · cases A with
    | nil =>
      simp [ctsA]
      refine codeK.loop follows (st := st11) (plans := pl11) (X := Unit) (fun _ => True) (fun _ => [(12, .lit (.int .i64 0)), (13, .lit (.int .i64 0))]) (fun _ => σ) (fun _ => 0) () (by kernel_rfl) trivial (by simp) (Store.sub_refl _) fun _ _ => ?_
      simp
    | cons a A =>
      have : ¬ (A.length : Int) + 1 = 0 := by omega
      simp [ctsA, this]
  · by_cases hln : A.length = l.length
    · have hln' : (A.length : Int) = l.length := by omega
      simp [hln, hln']
      refine codeK.loop follows (st := st11) (plans := pl11) (X := Nat) (fun k => k ≤ l.length ∧ A.take k = l.take k) (fun k => [(0, .list false 2 (ctsA A)), (1, sliA d l.length cap), (12, .lit (.int .i64 l.length)), (13, .lit (.int .i64 k))]) (fun _ => σ) (fun k => l.length - k) 0 (by kernel_rfl) (by simp) (by simp) (Store.sub_refl _) fun k hk => ?_
      obtain ⟨hk, he⟩ := hk
      by_cases hlt : k < l.length
      · have hla : k < A.length := by omega
        obtain ⟨rest, hd⟩ := hdd (by rintro rfl; simp at hlt)
        obtain ⟨x, hx⟩ : ∃ x, l[k] = x := ⟨_, rfl⟩
        obtain ⟨y, hy⟩ : ∃ y, A[k] = y := ⟨_, rfl⟩
        have hlc : (cA l ++ rest).length = l.length * 2 + rest.length := by rw [List.length_append, cA_length]
        have hlw : IntKind.i64.wrap ((k : Int) + 1) = ((k + 1 : Nat) : Int) := wrap_i64 (by omega) (by omega)
        have htk : l.take (k + 1) = l.take k ++ [x] := by rw [List.take_succ_eq_append_getElem hlt, hx]
        have hta : A.take (k + 1) = A.take k ++ [y] := by rw [List.take_succ_eq_append_getElem hla, hy]
        have g5 := cA_two l rest hlt
        have hbd : k * 2 + 2 ≤ l.length * 2 + rest.length := by omega
        rw [hx] at g5
        simp only [strV] at g5
        generalize cA l ++ rest = CC at *
        have hg1 : (ctsA A)[k]? = some (.agg [.lit (.string (toB y.1)), .lit (.int .u64 (y.2 : Int))]) := by simp [ctsA, ctA, strV, hla, hy]
        have hg2 : ∀ h : k < (ctsA A).length, (ctsA A)[k]'h = .agg [.lit (.string (toB y.1)), .lit (.int .u64 (y.2 : Int))] := fun h => by simp [ctsA, ctA, strV, hy]
        obtain ⟨x1, x2⟩ := x
        obtain ⟨y1, y2⟩ := y
        by_cases hxy : y1 = x1 ∧ y2 = x2
        · obtain ⟨rfl, rfl⟩ := hxy
          simp [hlt, hla, hd, hlc, g5, hbd, mkAV_true, hg1, hg2, toB_toList]
          exact ⟨k + 1, ⟨by omega, by rw [hta, htk, he]⟩, by omega, by rw [hlw]; exact AV.le_refl _⟩
        · have hne : ¬ A = l := fun e => by
            subst e
            rw [hx] at hy
            exact hxy ⟨(congrArg Prod.fst hy).symm, (congrArg Prod.snd hy).symm⟩
          simp [hlt, hla, hd, hlc, g5, hbd, mkAV_true, hg1, hg2, toB_toList, hne]
          exact fun e1 e2 => absurd ⟨e1, by omega⟩ hxy
      · obtain rfl : k = l.length := by omega
        rw [List.take_length, List.take_of_length_le (by omega)] at he
        simp [he]
    · have hln' : ¬ (A.length : Int) = l.length := by omega
      have hne : ¬ A = l := fun e => hln (by rw [e])
      simp [hln, hln', hne]
end Go.Proofs.Ytgelodhkbpmlfaa
/-
  A call on both: the law's do.
-/
namespace Go.Proofs.Ytgelodhkbpmlfaa
open Go Go.AL

/-- What one call does to the numbers. -/
def doX (ns : List (List UInt8)) (xs : List Nat) (r : Nat) (s : List UInt8) (n : Nat) : List Nat :=
  if r = 2 then updX xs (ixN ns s) fun x => max x n else if r = 3 then updX xs (ixN ns s) fun _ => 0 else if r = 4 then xs else if r = 5 then xs.map fun _ => 0 else updX xs (ixN ns s) fun x => (x + n) % 18446744073709551616
theorem findC_zip (ns : List (List UInt8)) (xs : List Nat) (h : xs.length = ns.length) (s : List UInt8) : findC (ns.zip xs) s = ixN ns s := by
  unfold findC ixN
  conv => rhs; rw [show ns = (ns.zip xs).map (·.1) by rw [List.map_fst_zip]; omega]
  rw [List.findIdx?_map]
  rfl
theorem cA_set (l : List Ct) (rest : List AV) {i : Nat} (h : i < l.length) (z : Nat) : (cA l ++ rest).set (i * 2 + 1) (.lit (.int .u64 (z : Int))) = cA (l.set i (l[i].1, z)) ++ rest := by
  induction l generalizing i with
  | nil => simp at h
  | cons a l ih =>
    cases i with
    | zero => rfl
    | succ i =>
      have := ih (i := i) (by simpa using h)
      rw [show (i + 1) * 2 + 1 = i * 2 + 1 + 2 by omega]
      show strV a.1 :: .lit (.int .u64 (a.2 : Int)) :: (cA l ++ rest).set (i * 2 + 1) _ = _
      rw [this]; rfl
theorem zip_set (ns : List (List UInt8)) (xs : List Nat) {i : Nat} (h : i < (ns.zip xs).length) (z : Nat) : (ns.zip xs).set i ((ns.zip xs)[i].1, z) = ns.zip (xs.set i z) := by
  apply List.ext_getElem
  · simp
  · intro j h1 h2
    rw [List.getElem_set]
    split
    · rename_i e; subst e; simp
    · rename_i e
      simp [List.getElem_zip, List.getElem_set, e]
theorem LW.off {σ : Store} {b c d : Nat} {tv V : AV} {ns : List (List UInt8)} {xs : List Nat} {l : List Ct} (h : TV σ b c tv ns xs) (hl : LW σ d V l) : l = [] ∨ tv = .lit (.pointer none) ∨ (¬ (d : Int) = b ∧ ¬ (d : Int) = c) := by
  rcases hl with ⟨rfl, _⟩ | ⟨cap, rfl, hd, _⟩
  · exact .inl rfl
  cases l with
  | nil => exact .inl rfl
  | cons x l =>
    obtain ⟨rest, hd⟩ := hd (by simp)
    right
    rcases h with ⟨rfl, _, _⟩ | ⟨rfl, m, h⟩
    · exact .inl rfl
    · refine .inr ⟨fun e => ?_, fun e => ?_⟩
      · rw [e, h.obj] at hd
        have := (List.cons.inj (Option.some.inj hd)).1
        cases this
      · rw [e, h.row] at hd
        cases xs with
        | nil => simp [u64s, cA] at hd
        | cons y xs => have := (List.cons.inj (Option.some.inj hd)).1; cases this
/-- What lies elsewhere is kept. -/
def FrD (tv : AV) (b c d : Nat) (e : Prop) (σ σ' : Store) : Prop := ∀ (k : Int) x, (tv = .lit (.pointer none) ∨ (¬ k = b ∧ ¬ k = c)) → (e ∨ ¬ k = d) → σ k = some x → σ' k = some x
theorem Fr.d {tv : AV} {b c : Nat} {σ σ' : Store} (h : Fr tv b c σ σ') (d : Nat) (e : Prop) : FrD tv b c d e σ σ' := fun k x h1 _ h2 => h k x h1 h2
theorem FrD.trans {tv : AV} {b c d : Nat} {e : Prop} {σ τ υ : Store} (h : FrD tv b c d e σ τ) (k : FrD tv b c d e τ υ) : FrD tv b c d e σ υ := fun i x h1 h2 h3 => k i x h1 h2 (h i x h1 h2 h3)
theorem LW.fr {σ σ' : Store} {b c d : Nat} {tv V : AV} {l : List Ct} (h : LW σ d V l) (ho : l = [] ∨ tv = .lit (.pointer none) ∨ (¬ (d : Int) = b ∧ ¬ (d : Int) = c)) (hf : Fr tv b c σ σ') : LW σ' d V l := by
  rcases h with h | ⟨cap, h1, h2, h3⟩
  · exact .inl h
  · refine .inr ⟨cap, h1, fun hn => ?_, h3⟩
    obtain ⟨rest, h2⟩ := h2 hn
    rcases ho with ho | ho
    · exact absurd ho hn
    · exact ⟨rest, hf _ _ ho h2⟩
theorem TV.updD {σ : Store} {b c d : Nat} {tv : AV} {ns : List (List UInt8)} {xs : List Nat} (h : TV σ b c tv ns xs) (hd : tv = .lit (.pointer none) ∨ (¬ (d : Int) = b ∧ ¬ (d : Int) = c)) (C : List AV) : TV (σ.upd d C) b c tv ns xs := by
  rcases h with ⟨z1, z2, z3⟩ | ⟨z1, m, z2⟩
  · exact .inl ⟨z1, z2, z3⟩
  · rcases hd with o5 | ⟨o5, o6⟩
    · rw [o5] at z1; cases z1
    · refine .inr ⟨z1, m, ?_, ?_, z2.len, z2.ne, fun q e => by rw [upd_mkey]; exact z2.map q e, z2.nd, z2.le⟩
      · rw [upd_nat, if_neg (fun e => o5 (by rw [e]))]; exact z2.obj
      · rw [upd_nat, if_neg (fun e => o6 (by rw [e]))]; exact z2.row
theorem FrD.upd {tv : AV} {b c d : Nat} {e : Prop} (he : ¬ e) (σ : Store) (C : List AV) : FrD tv b c d e σ (σ.upd d C) := fun k x _ h2 h3 => by
  have : ¬ k = d := by
    rcases h2 with h | h
    · exact absurd h he
    · exact h
  simp only [Store.upd]; rw [if_neg this]; exact h3
theorem zeroTo_len (xs : List Nat) {k : Nat} (h : k ≤ xs.length) : (zeroTo xs k).length = xs.length := by simp [zeroTo]; omega
theorem zero_set (ns : List (List UInt8)) (xs : List Nat) (rest : List AV) (h : xs.length = ns.length) {k : Nat} (hk : k < ns.length) :
    (cA (ns.zip (zeroTo xs k)) ++ rest).set (k * 2 + 1) (.lit (.int .u64 0)) = cA (ns.zip (zeroTo xs (k + 1))) ++ rest := by
  have hl : k < (ns.zip (zeroTo xs k)).length := by rw [List.length_zip, zeroTo_len xs (by omega)]; omega
  have := cA_set (ns.zip (zeroTo xs k)) rest hl 0
  rw [zip_set, zeroTo_set xs (by omega)] at this
  exact this
set_option maxRecDepth 8000 in
set_option maxHeartbeats 2000000 in
theorem do_calls {σ : Store} {b c d : Nat} {tv V : AV} {ns : List (List UInt8)} {xs : List Nat} (k : UInt8) (s : List UInt8) (n : Nat) (h : TV σ b c tv ns xs) (hL : LW σ d V (ns.zip xs)) :
    ACalls Try.prog 10 [tv, V, .agg [.lit (.int .u8 k.toNat), .lit (.string (toB s)), .lit (.int .u64 n)]] σ fun v σ' => v = .lit (.bool true) ∧ TV σ' b c tv ns (doX ns xs (k.toNat % 6) (s.take 45) n) ∧
      LW σ' d V (ns.zip (doX ns xs (k.toNat % 6) (s.take 45) n)) ∧ FrD tv b c d (ns = []) σ σ' := by
  obtain ⟨a, rfl⟩ := h.ptr
  obtain ⟨hnl, hnd, hxl⟩ := h.ns
  have ho := LW.off h hL
  have hzl : (ns.zip xs).length = ns.length := by simp; omega
  have hct := fun τ => cuttext_calls s 45 (by omega) τ
  have hfi := fun t => find_calls d V (ns.zip xs) (by omega) t σ hL
  simp only [findC_zip _ _ hxl] at hfi
  generalize s.take 45 = t at *
  have hm : (k.toNat : Int).tmod 6 = ((k.toNat % 6 : Nat) : Int) := by rw [Int.tmod_eq_emod_of_nonneg (by omega)]; omega
  have hr6 : k.toNat % 6 < 6 := Nat.mod_lt _ (by decide)
  generalize k.toNat % 6 = r at *
  have hrc : r = 2 ∨ r = 3 ∨ r = 4 ∨ r = 5 ∨ r = 0 ∨ r = 1 := by omega
  have hadd := tadd_calls t n h
  have hget := tget_calls t h
  have hmost := tmost_calls t n h
  have htake := ttake_calls t h
  have hreset := treset_calls h
  refine ACalls.of_awp follows (st := st10) (plans := pl10) (n := 105) Try.func10 rfl (by kernel_rfl) (by kernel_rfl) (by kernel_rfl) ?_
  have hL0 := hL
  cases hx : ixN ns t with
  | none =>
    have hfi := hfi t
    rw [hx] at hfi hadd hget hmost htake
    simp only [ixI, Option.isSome_none, updX, Option.map_none, Option.getD_none] at hfi hadd hget hmost htake
    have hfin : ∀ τ, TV τ b c (.lit (.pointer a)) ns xs → Fr (.lit (.pointer a)) b c σ τ → TV τ b c (.lit (.pointer a)) ns xs ∧ LW τ d V (ns.zip xs) ∧ FrD (.lit (.pointer a)) b c d (ns = []) σ τ := fun τ h1 h2 => ⟨h1, hL.fr ho h2, h2.d _ _⟩
    by_cases h5 : r = 5 ∧ ¬ ns = []
    · obtain ⟨rfl, hnn⟩ := h5
      have hne : ¬ ns.zip xs = [] := fun e => by rw [e] at hzl; exact hnn (List.length_eq_zero_iff.1 hzl.symm)
      have ho2 : AV.lit (.pointer a) = .lit (.pointer none) ∨ (¬ (d : Int) = b ∧ ¬ (d : Int) = c) := by
        rcases ho with ho | ho
        · exact absurd ho hne
        · exact ho
      rcases hL with ⟨hz, rfl⟩ | ⟨cap, rfl, hdd, hcap⟩
      · exact absurd hz hne
      obtain ⟨rest, hd⟩ := hdd hne
      have hT2 := fun C => h.updD ho2 C
      have hfin : ∀ (xs' : List Nat) τ, xs'.length = ns.length → TV τ b c (.lit (.pointer a)) ns xs' → Fr (.lit (.pointer a)) b c (σ.upd d (cA (ns.zip xs') ++ rest)) τ → TV τ b c (.lit (.pointer a)) ns xs' ∧ LW τ d (sliA d (ns.zip xs).length cap) (ns.zip xs') ∧ FrD (.lit (.pointer a)) b c d (ns = []) σ τ := fun xs' τ hl' h1 h2 =>
        ⟨h1, .inr ⟨cap, by rw [hzl]; simp [hl'], fun _ => ⟨rest, h2 _ _ ho2 (by rw [upd_nat, if_pos rfl])⟩, by simp [hl'] at hcap ⊢; omega⟩, (FrD.upd hnn σ _).trans (h2.d _ _)⟩
      rw [hzl] at *
      generalize hCC : cA (ns.zip xs) ++ rest = CC at *
      simp
      refine callK.of (hct _) ?_
      rintro v σ1 ⟨rfl, rfl⟩
      simp
      refine callK.of hfi ?_
      rintro v σ1 ⟨rfl, rfl⟩
      have hz0 : ∀ k, (ns.zip (zeroTo xs k)).length = min ns.length (zeroTo xs k).length := fun k => by simp
      have hlk : ∀ k, k ≤ ns.length → (cA (ns.zip (zeroTo xs k)) ++ rest).length = ns.length * 2 + rest.length := fun k hk => by rw [List.length_append, cA_length, hz0, zeroTo_len xs (by omega)]; omega
      have hzN : zeroTo xs ns.length = xs.map fun _ => 0 := by
        unfold zeroTo
        rw [List.drop_of_length_le (by omega), ← hxl]
        simp [List.map_const']
      have hzs := fun k (hk : k < ns.length) => zero_set ns xs rest hxl hk
      simp [hm, doX, hx]
      refine codeK.loop follows (st := st10) (plans := pl10) (X := Nat) (fun k => k ≤ ns.length)
        (fun k => [(0, .lit (.pointer a)), (1, sliA d ns.length cap), (74, .lit (.int .i64 ns.length)), (75, .lit (.int .i64 k))]) (fun k => σ1.upd d (cA (ns.zip (zeroTo xs k)) ++ rest)) (fun k => ns.length - k) 0 (by kernel_rfl) (Nat.zero_le _) (by simp) ?_ fun k hk => ?_
      · rw [show zeroTo xs 0 = xs from rfl, hCC, upd_back hd]
        exact Store.sub_refl _
      by_cases hlt : k < ns.length
      · have hb5 : k * 2 + 1 < ns.length * 2 + rest.length := by omega
        have hlw : IntKind.i64.wrap ((k : Int) + 1) = ((k + 1 : Nat) : Int) := wrap_i64 (by omega) (by omega)
        have h9 := hlk k hk
        have h8 := hzs k hlt
        generalize cA (ns.zip (zeroTo xs k)) ++ rest = CK at *
        simp [hlt, h9, hb5, h8]
        exact ⟨by omega, k + 1, by omega, by omega, by rw [hlw]; exact AV.le_refl _, Store.sub_refl _⟩
      · obtain rfl : k = ns.length := by omega
        rw [hzN]
        simp
        refine callK.of (treset_calls (hT2 _)) ?_
        rintro v σ2 ⟨rfl, h2, hf⟩
        simp
        exact ⟨_, AV.le_refl _, σ2, Store.sub_refl _, rfl, hfin _ _ (by simp [hxl]) h2 hf⟩
    generalize hzz : ns.zip xs = L at *
    rcases hL with ⟨hz, rfl⟩ | ⟨cap, rfl, hdd, hcap⟩
    all_goals
      simp
      refine callK.of (hct _) ?_
      rintro v σ1 ⟨rfl, rfl⟩
      simp
      refine callK.of hfi ?_
      rintro v σ1 ⟨rfl, rfl⟩
      rcases hrc with rfl | rfl | rfl | rfl | rfl | rfl
      · simp [hm, doX, updX, hx, hzz]
        refine callK.of hmost ?_
        rintro v σ2 ⟨rfl, h2, hf⟩
        simp
        exact ⟨_, AV.le_refl _, σ2, Store.sub_refl _, rfl, hfin _ h2 hf⟩
      · simp [hm, doX, updX, hx, hzz]
        refine callK.of htake ?_
        rintro v σ2 ⟨rfl, h2, hf⟩
        simp
        exact ⟨_, AV.le_refl _, σ2, Store.sub_refl _, rfl, hfin _ h2 hf⟩
      · simp [hm, doX, updX, hx, hzz]
        refine callK.of hget ?_
        rintro v σ2 ⟨rfl, h2, hf⟩
        simp
        exact ⟨_, AV.le_refl _, σ2, Store.sub_refl _, rfl, hfin _ h2 hf⟩
      · simp [hm, doX, updX, hx, hzz]
        have hne : ns = [] := by
          cases ns with
          | nil => rfl
          | cons => exact absurd ⟨rfl, by simp⟩ h5
        have hL1 : L = [] := by rw [← hzz, hne]; rfl
        subst hne
        obtain rfl : xs = [] := List.length_eq_zero_iff.1 hxl
        subst hL1
        refine codeK.loop follows (st := st10) (plans := pl10) (X := Unit) (fun _ => True)
          (fun _ => [(0, .lit (.pointer a)), (74, .lit (.int .i64 0)), (75, .lit (.int .i64 0))]) (fun _ => σ1) (fun _ => 0) () (by kernel_rfl) trivial (by simp) (Store.sub_refl _) fun _ _ => ?_
        simp
        refine callK.of hreset ?_
        rintro v σ2 ⟨rfl, h2, hf⟩
        simp
        exact ⟨_, AV.le_refl _, σ2, Store.sub_refl _, rfl, by simpa using hfin _ h2 hf⟩
      · simp [hm, doX, updX, hx, hzz]
        refine callK.of hadd ?_
        rintro v σ2 ⟨rfl, h2, hf⟩
        simp
        exact ⟨_, AV.le_refl _, σ2, Store.sub_refl _, rfl, hfin _ h2 hf⟩
      · simp [hm, doX, updX, hx, hzz]
        refine callK.of hadd ?_
        rintro v σ2 ⟨rfl, h2, hf⟩
        simp
        exact ⟨_, AV.le_refl _, σ2, Store.sub_refl _, rfl, hfin _ h2 hf⟩
  | some i =>
    have hi := ixN_lt hx
    have hne : ¬ ns.zip xs = [] := fun e => by rw [e] at hzl; simp at hzl; omega
    have ho2 : AV.lit (.pointer a) = .lit (.pointer none) ∨ (¬ (d : Int) = b ∧ ¬ (d : Int) = c) := by
      rcases ho with ho | ho
      · exact absurd ho hne
      · exact ho
    rcases hL with ⟨hz, rfl⟩ | ⟨cap, rfl, hdd, hcap⟩
    · exact absurd hz hne
    obtain ⟨rest, hd⟩ := hdd hne
    have hiz : i < (ns.zip xs).length := by omega
    have hw2 := (cA_at (ns.zip xs) rest hiz).2
    have hset := fun z => cA_set (ns.zip xs) rest hiz z
    simp only [zip_set] at hset
    have hx2 : (ns.zip xs)[i].2 = xs.getD i 0 := by simp [List.getElem_zip, List.getD_eq_getElem?_getD, show i < xs.length by omega]
    rw [hx2] at hw2
    have hlc : (cA (ns.zip xs) ++ rest).length = ns.length * 2 + rest.length := by rw [List.length_append, cA_length, hzl]
    have hbd : i * 2 + 1 < ns.length * 2 + rest.length := by omega
    have hfi := hfi t
    rw [hx] at hfi hget
    simp only [ixI, Option.map_some, Option.getD_some] at hfi hget
    have hT2 := fun C => h.updD ho2 C
    have hmost := fun C => tmost_calls t n (hT2 C)
    have htake := fun C => ttake_calls t (hT2 C)
    have hadd := fun C => tadd_calls t n (hT2 C)
    rw [hx] at hmost htake hadd
    simp only [updX, Option.isSome_some, Option.map_some, Option.getD_some] at hmost htake hadd
    have hfin : ∀ (xs' : List Nat) τ, xs'.length = ns.length → TV τ b c (.lit (.pointer a)) ns xs' → Fr (.lit (.pointer a)) b c (σ.upd d (cA (ns.zip xs') ++ rest)) τ → TV τ b c (.lit (.pointer a)) ns xs' ∧ LW τ d (sliA d (ns.zip xs).length cap) (ns.zip xs') ∧ FrD (.lit (.pointer a)) b c d (ns = []) σ τ := fun xs' τ hl' h1 h2 =>
      ⟨h1, .inr ⟨cap, by rw [hzl]; simp [hl'], fun _ => ⟨rest, h2 _ _ ho2 (by rw [upd_nat, if_pos rfl])⟩, by simp [hl'] at hcap ⊢; omega⟩, (FrD.upd (fun e => hne (by rw [e]; rfl)) σ _).trans (h2.d _ _)⟩
    have hback : (ns.zip xs) = ns.zip (xs.set i (xs.getD i 0)) := by
      have : xs.set i (xs.getD i 0) = xs := by
        rw [List.getD_eq_getElem?_getD, List.getElem?_eq_getElem (by omega)]; simp
      rw [this]
    have hg2 : ∀ h : i * 2 + 1 < (cA (ns.zip xs) ++ rest).length, (cA (ns.zip xs) ++ rest)[i * 2 + 1]'h = .lit (.int .u64 ((xs.getD i 0 : Nat) : Int)) := fun h => by rw [List.getElem?_eq_getElem h] at hw2; exact Option.some.inj hw2
    rw [hzl] at *
    generalize hCC : cA (ns.zip xs) ++ rest = CC at *
    simp only [List.getD_eq_getElem?_getD] at hw2 hg2 hmost htake hadd hget
    have hxx : xs[i]?.getD 0 = xs.getD i 0 := (List.getD_eq_getElem?_getD ..).symm
    have hlx : ∀ z, (xs.set i z).length = ns.length := fun z => by simp [hxl]
    have e2 : updX xs (some i) (fun x => max x n) = xs.set i (max (xs[i]?.getD 0) n) := by rw [hxx]; rfl
    have e3 : updX xs (some i) (fun _ => 0) = xs.set i 0 := rfl
    have e4 : updX xs (some i) (fun x => (x + n) % 18446744073709551616) = xs.set i ((xs[i]?.getD 0 + n) % 18446744073709551616) := by rw [hxx]; rfl
    generalize xs[i]?.getD 0 = x at *
    have hmx : (if x < n then (n : Int) else x) = ((max x n : Nat) : Int) := by
      split
      · rw [Nat.max_eq_right (by omega)]
      · rw [Nat.max_eq_left (by omega)]
    have hs0 := hset 0
    simp only [Int.natCast_zero] at hs0
    have hs4 : CC.set (i * 2 + 1) (.lit (.int .u64 (IntKind.u64.wrap ((x : Int) + n)))) = cA (ns.zip (xs.set i ((x + n) % 18446744073709551616))) ++ rest := by rw [wrap_u64n]; exact hset _
    have hbd2 : i * 2 + 1 + 1 ≤ ns.length * 2 + rest.length := by omega
    simp
    refine callK.of (hct _) ?_
    rintro v σ1 ⟨rfl, rfl⟩
    simp
    refine callK.of hfi ?_
    rintro v σ1 ⟨rfl, rfl⟩
    rcases hrc with rfl | rfl | rfl | rfl | rfl | rfl
    · simp [hm, doX, hx, e2, hd, hi, hlc, hbd, hbd2, hw2, hg2, hmx, hset]
      refine callK.of (hmost _) ?_
      rintro v σ2 ⟨rfl, h2, hf⟩
      simp
      exact ⟨_, AV.le_refl _, σ2, Store.sub_refl _, rfl, hfin _ _ (hlx _) h2 hf⟩
    · simp [hm, doX, hx, e3, hd, hi, hlc, hbd, hbd2, hw2, hg2, hs0]
      refine callK.of (htake _) ?_
      rintro v σ2 ⟨rfl, h2, hf⟩
      simp
      exact ⟨_, AV.le_refl _, σ2, Store.sub_refl _, rfl, hfin _ _ (hlx _) h2 hf⟩
    · simp [hm, doX, hx, hd, hi, hlc, hbd, hbd2, hw2, hg2]
      refine callK.of hget ?_
      rintro v σ2 ⟨rfl, h2, hf⟩
      simp
      exact ⟨_, AV.le_refl _, σ2, Store.sub_refl _, rfl, h2, hL0.fr (.inr ho2) hf, hf.d _ _⟩
    · have hz0 : ∀ k, (ns.zip (zeroTo xs k)).length = min ns.length (zeroTo xs k).length := fun k => by simp
      have hlk : ∀ k, k ≤ ns.length → (cA (ns.zip (zeroTo xs k)) ++ rest).length = ns.length * 2 + rest.length := fun k hk => by rw [List.length_append, cA_length, hz0, zeroTo_len xs (by omega)]; omega
      have hzN : zeroTo xs ns.length = xs.map fun _ => 0 := by
        unfold zeroTo
        rw [List.drop_of_length_le (by omega), ← hxl]
        simp [List.map_const']
      have hzs := fun k (hk : k < ns.length) => zero_set ns xs rest hxl hk
      simp [hm, doX, hx, hd, hi, hlc, hbd, hbd2, hw2, hg2]
      refine codeK.loop follows (st := st10) (plans := pl10) (X := Nat) (fun k => k ≤ ns.length)
        (fun k => [(0, .lit (.pointer a)), (1, sliA d ns.length cap), (74, .lit (.int .i64 ns.length)), (75, .lit (.int .i64 k))]) (fun k => σ1.upd d (cA (ns.zip (zeroTo xs k)) ++ rest)) (fun k => ns.length - k) 0 (by kernel_rfl) (Nat.zero_le _) (by simp) ?_ fun k hk => ?_
      · rw [show zeroTo xs 0 = xs from rfl, hCC, upd_back hd]
        exact Store.sub_refl _
      by_cases hlt : k < ns.length
      · have hb5 : k * 2 + 1 < ns.length * 2 + rest.length := by omega
        have hlw : IntKind.i64.wrap ((k : Int) + 1) = ((k + 1 : Nat) : Int) := wrap_i64 (by omega) (by omega)
        have h9 := hlk k hk
        have h8 := hzs k hlt
        generalize cA (ns.zip (zeroTo xs k)) ++ rest = CK at *
        simp [hlt, h9, hb5, h8]
        exact ⟨by omega, k + 1, by omega, by omega, by rw [hlw]; exact AV.le_refl _, Store.sub_refl _⟩
      · obtain rfl : k = ns.length := by omega
        rw [hzN]
        simp
        refine callK.of (treset_calls (hT2 _)) ?_
        rintro v σ2 ⟨rfl, h2, hf⟩
        simp
        exact ⟨_, AV.le_refl _, σ2, Store.sub_refl _, rfl, hfin _ _ (by simp [hxl]) h2 hf⟩
    · simp [hm, doX, hx, e4, hd, hi, hlc, hbd, hbd2, hw2, hg2, hs4]
      refine callK.of (hadd _) ?_
      rintro v σ2 ⟨rfl, h2, hf⟩
      simp
      exact ⟨_, AV.le_refl _, σ2, Store.sub_refl _, rfl, hfin _ _ (hlx _) h2 hf⟩
    · simp [hm, doX, hx, e4, hd, hi, hlc, hbd, hbd2, hw2, hg2, hs4]
      refine callK.of (hadd _) ?_
      rintro v σ2 ⟨rfl, h2, hf⟩
      simp
      exact ⟨_, AV.le_refl _, σ2, Store.sub_refl _, rfl, hfin _ _ (hlx _) h2 hf⟩
end Go.Proofs.Ytgelodhkbpmlfaa
