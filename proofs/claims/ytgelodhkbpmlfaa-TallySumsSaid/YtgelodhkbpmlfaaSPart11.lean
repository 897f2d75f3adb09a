/-
  The document's counters: how one list is made.
-/
import Derived.Test.YtgelodhkbpmlfaaSPart10
set_option linter.unusedSimpArgs false
set_option linter.unusedVariables false
namespace Go.Proofs.Ytgelodhkbpmlfaa
open Go Go.AL

/-- Names and numbers. -/
abbrev Ct := List UInt8 × Nat
def ctA (c : Ct) : AV := .agg [strV c.1, .lit (.int .u64 c.2)]
def ctsA (l : List Ct) : List AV := l.map ctA
@[simp] theorem ctsA_length (l : List Ct) : (ctsA l).length = l.length := by simp [ctsA]
theorem ctsA_append (a b : List Ct) : ctsA (a ++ b) = ctsA a ++ ctsA b := by simp [ctsA]
theorem codeK.freeze {P : Program} {n : Nat} {c : Code} {Q : Exit → Slots → Store → Prop} {A : Slots} {σ : Store} {tg : Tag Q} (t p cap sz : Nat) (vs rest : List AV) (hA : A t = .lit (.slice (some ⟨p, 0, none⟩) vs.length cap)) (hp : σ p = some (flat vs ++ rest))
    (hc : (flat vs ++ rest).length = cap * sz) (hm : cap ≤ maxLen) (hl : vs.length ≤ cap) (hw : ∀ v ∈ vs, v.cells.length = sz) (h : codeK P n c Q (upd A t (.list true sz vs)) (σ.del p)) : codeK P n c Q A σ tg :=
  AWp.freeze hA hp hc hm hl hw h
/-- Where a name belongs. -/
def posN (n : List UInt8) : List Ct → Nat
  | [] => 0
  | c :: l => if c.1 < n then posN n l + 1 else 0
def insN (n : List UInt8) (l : List Ct) : Option (List Ct) := if (l.drop (posN n l)).head?.map (·.1) = some n then none else some (l.take (posN n l) ++ (n, 0) :: l.drop (posN n l))
def insAll : List (List UInt8) → List Ct → Option (List Ct)
  | [], acc => some acc
  | n :: l, acc => (insN n acc).bind (insAll l)
def badN (l : List (List UInt8)) : Bool := l.any fun n => decide (n.length < 1 ∨ 40 < n.length)
def newR (l : List (List UInt8)) : List Ct × Int := if 64 < l.length then ([], 3) else if badN l then ([], 4) else match insAll l [] with | none => ([], 1) | some r => (r, 0)
theorem badN_snoc (l : List (List UInt8)) (x : List UInt8) (h : badN l = false) : badN (l ++ [x]) = decide (x.length < 1 ∨ 40 < x.length) := by
  unfold badN at h ⊢
  rw [List.any_append, h]; simp
theorem badN_pre (l : List (List UInt8)) (k : Nat) (h : badN (l.take k) = true) : badN l = true := by
  unfold badN at h ⊢
  rw [List.any_eq_true] at h ⊢
  obtain ⟨x, h1, h2⟩ := h
  exact ⟨x, List.mem_of_mem_take h1, h2⟩
def cA (l : List Ct) : List AV := l.flatMap fun c => [strV c.1, .lit (.int .u64 c.2)]
theorem cA_length (l : List Ct) : (cA l).length = l.length * 2 := by
  induction l with
  | nil => rfl
  | cons a l ih => simp only [cA, List.flatMap_cons, List.length_append, List.length_cons, List.length_nil] at ih ⊢; omega
theorem flat_cts (l : List Ct) : flat (ctsA l) = cA l := by
  induction l with
  | nil => rfl
  | cons a l ih => simp only [flat, ctsA, cA, List.map_cons, List.flatMap_cons] at ih ⊢; rw [ih]; rfl
theorem cA_drop1 (l : List Ct) : (cA l).map AV.drop1 = cA l := by
  induction l with
  | nil => rfl
  | cons a l ih => simp only [cA, List.flatMap_cons, List.map_append] at ih ⊢; rw [ih]; rfl
theorem cA_append (a b : List Ct) : cA (a ++ b) = cA a ++ cA b := by simp [cA]
theorem fresh_none {σ τ : Store} {p : Nat} (h : Store.sub σ τ) (hp : τ p = none) : σ p = none := by
  rcases h p with h | h
  · exact h
  · rw [h]; exact hp
theorem sub_del' {σ τ : Store} {p : Nat} (h : Store.sub σ τ) (hp : σ p = none) : Store.sub σ (τ.del p) := fun o => by
  by_cases ho : o = p
  · subst ho; exact .inl hp
  · rcases h o with h | h
    · exact .inl h
    · right; unfold Store.del; rw [if_neg ho]; exact h
/-- A list of counters: nil, or a row that is an object. -/
def LV (σ : Store) (V : AV) (l : List Ct) (τ : Store) : Prop := (l = [] ∧ V = .list true 2 []) ∨ ∃ (p cap : Nat) (rest : List AV), V = .lit (.slice (some ⟨p, 0, none⟩) l.length cap) ∧ σ p = none ∧ τ p = some (cA l ++ rest) ∧ (cA l ++ rest).length = cap * 2 ∧ l.length ≤ cap ∧ cap ≤ maxLen
theorem posN_le (n : List UInt8) : ∀ l : List Ct, posN n l ≤ l.length
  | [] => by simp [posN]
  | c :: l => by unfold posN; split <;> simp; have := posN_le n l; omega
theorem ctsA_cells {l : List Ct} : ∀ v ∈ ctsA l, v.cells.length = 2 := fun v hv => by
  obtain ⟨c, _, rfl⟩ := List.mem_map.1 hv; rfl
set_option maxRecDepth 8000 in
set_option maxHeartbeats 2000000 in
theorem rnew_calls (l : List (List UInt8)) (hl : l.length ≤ 1000000) (o : Bool) (σ : Store) :
    ACalls Try.prog 9 [.list o 1 (strsA l)] σ fun v σ' => ∃ V, v = .tuple [V, .lit (.int .i64 (newR l).2)] ∧ LV σ V (newR l).1 σ' ∧ Store.sub σ σ' := by
  refine ACalls.of_awp follows (st := st9) (plans := pl9) (n := 77) Try.func9 rfl (by kernel_rfl) (by kernel_rfl) (by kernel_rfl) ?_
  by_cases h64 : 64 < l.length
  · have h64' : (64 : Int) < l.length := by omega
    simp [newR, h64, h64']
    exact ⟨_, AV.le_refl _, σ, Store.sub_refl _, _, rfl, .inl ⟨rfl, rfl⟩, Store.sub_refl _⟩
  have h64' : ¬ (64 : Int) < l.length := by omega
  simp [newR, h64, h64']
  refine codeK.loop follows (st := st9) (plans := pl9) (X := Nat) (fun k => k ≤ l.length ∧ badN (l.take k) = false)
    (fun k => [(0, .list false 1 (strsA l)), (13, .list false 1 (strsA l)), (14, .lit (.int .i64 l.length)), (15, .lit (.int .i64 k))]) (fun _ => σ) (fun k => l.length - k) 0 (by kernel_rfl)
    (by simp [badN]) (by simp) (Store.sub_refl _) fun k hk => ?_
  obtain ⟨hk, hkb⟩ := hk
  by_cases hlt : k < l.length
  · obtain ⟨x, hx⟩ : ∃ x, l[k]'hlt = x := ⟨_, rfl⟩
    have htk : l.take (k + 1) = l.take k ++ [x] := by rw [List.take_succ_eq_append_getElem hlt, hx]
    have hg : (strsA l)[k]? = some (strV x) := by simp [strsA, hlt, hx]
    have hg2 : ∀ h, (strsA l)[k]'h = strV x := fun h => by simp [strsA, hx]
    have hlw : IntKind.i64.wrap ((k : Int) + 1) = (k : Int) + 1 := wrap_i64 (by omega) (by omega)
    have hsz := toB_size x
    have hb := badN_snoc _ x hkb
    rw [← htk] at hb
    simp only [strV] at hg hg2
    by_cases hbad : x.length < 1 ∨ 40 < x.length
    · have hbl : badN l = true := badN_pre l (k + 1) (by rw [hb]; simpa using hbad)
      rcases hbad with h1 | h2
      · have f1 : (x.length : Int) < 1 := by omega
        simp [hlt, hg, hg2, hsz, f1, h1, hbl]
        exact ⟨_, AV.le_refl _, σ, Store.sub_refl _, _, rfl, .inl ⟨rfl, rfl⟩, Store.sub_refl _⟩
      · have f1 : ¬ (x.length : Int) < 1 := by omega
        have f2 : (40 : Int) < x.length := by omega
        simp [hlt, hg, hg2, hsz, f1, f2, hbl]
        exact ⟨_, AV.le_refl _, σ, Store.sub_refl _, _, rfl, .inl ⟨rfl, rfl⟩, Store.sub_refl _⟩
    · rw [not_or] at hbad
      have f1 : ¬ (x.length : Int) < 1 := by omega
      have f2 : ¬ (40 : Int) < x.length := by omega
      simp [hlt, hg, hg2, hsz, f1, f2, hbad]
      exact ⟨k + 1, ⟨by omega, by rw [hb]; simpa using hbad⟩, by omega, by rw [hlw]; exact AV.le_refl _⟩
  · have : k = l.length := by omega
    subst this
    rw [List.take_of_length_le (Nat.le_refl _)] at hkb
    clear hk hlt
    simp [hkb]
    refine codeK.loop follows (st := st9) (plans := pl9) (X := Nat × List Ct × AV × Store) (fun x => x.1 ≤ l.length ∧ insAll (l.drop x.1) x.2.1 = insAll l [] ∧ x.2.1.length = x.1 ∧ LV σ x.2.2.1 x.2.1 x.2.2.2 ∧ Store.sub σ x.2.2.2)
      (fun x => [(6, x.2.2.1), (28, .list false 1 (strsA l)), (29, .lit (.int .i64 l.length)), (30, .lit (.int .i64 x.1))]) (fun x => x.2.2.2) (fun x => l.length - x.1) (0, [], .list true 2 [], σ) (by kernel_rfl)
      (by simp [LV, Store.sub_refl]) (by simp) (Store.sub_refl _) ?_
    rintro ⟨k, acc, V, τ⟩ hx
    dsimp only at hx ⊢
    obtain ⟨hk, hins, hal, hV, hsub⟩ := hx
    by_cases hlt : k < l.length
    · obtain ⟨x, hx⟩ : ∃ x, l[k]'hlt = x := ⟨_, rfl⟩
      have hg : (strsA l)[k]? = some (strV x) := by simp [strsA, hlt, hx]
      have hg2 : ∀ h, (strsA l)[k]'h = strV x := fun h => by simp [strsA, hx]
      have hdk : l.drop k = x :: l.drop (k + 1) := by rw [List.drop_eq_getElem_cons hlt, hx]
      have hlw : IntKind.i64.wrap ((k : Int) + 1) = (k : Int) + 1 := wrap_i64 (by omega) (by omega)
      have hsz := toB_size x
      simp only [strV] at hg hg2
      rcases hV with ⟨he, rfl⟩ | ⟨q, cq, rest, rfl, hq0, hq, hql, hqc, hqm⟩
      case' inl =>
        have hV0 : AV.list true 2 [] = .list true 2 (ctsA acc) := by rw [he]; rfl
        rw [hV0]
        simp [hlt, hg, hg2]
        have hsub0 := hsub
        generalize τ = τ0 at *
      case' inr =>
        simp [hlt, hg, hg2]
        have hsub0 := sub_del' hsub hq0
        refine codeK.freeze 6 q cq 2 (ctsA acc) rest (by simp) (by rw [flat_cts]; exact hq) (by rw [flat_cts]; exact hql) hqm (by simpa using hqc) ctsA_cells ?_
        generalize τ.del q = τ0 at *
      all_goals
        refine codeK.loop follows (st := st9) (plans := pl9) (X := Nat) (fun i => i ≤ acc.length ∧ posN x (acc.drop i) + i = posN x acc)
          (fun i => [(6, .list true 2 (ctsA acc)), (8, .lit (.string (toB x))), (9, .lit (.int .i64 i)), (28, .list false 1 (strsA l)), (29, .lit (.int .i64 l.length)), (30, .lit (.int .i64 k))]) (fun _ => τ0) (fun i => acc.length - i) 0 (by kernel_rfl)
          (by simp) (by simp) (Store.sub_refl _) fun i hi => ?_
        obtain ⟨hi, hpos⟩ := hi
        have hpn := posN_le x acc
        by_cases hli : i < acc.length
        · obtain ⟨y, hy⟩ : ∃ y, acc[i]'hli = y := ⟨_, rfl⟩
          have hgy : (ctsA acc)[i]? = some (ctA y) := by simp [ctsA, hli, hy]
          have hgy2 : ∀ h, (ctsA acc)[i]'h = ctA y := fun h => by simp [ctsA, hy]
          have hdi : acc.drop i = y :: acc.drop (i + 1) := by rw [List.drop_eq_getElem_cons hli, hy]
          have hiw : IntKind.i64.wrap ((i : Int) + 1) = ((i + 1 : Nat) : Int) := wrap_i64 (by omega) (by omega)
          rw [hdi] at hpos
          simp only [ctA, strV] at hgy hgy2
          by_cases hcmp : y.1 < x
          · have hc2 : Op.bytesLess y.1 x = true := by rw [bytesLess_eq]; simpa using hcmp
            have hp2 : posN x (acc.drop (i + 1)) + (i + 1) = posN x acc := by
              rw [← hpos]; rw [posN]; simp [hcmp]; omega
            simp [hli, hgy, hgy2, toB_toList, hc2]
            exact ⟨i + 1, ⟨by omega, hp2⟩, by omega, by rw [hiw]; exact AV.le_refl _⟩
          · have hc2 : Op.bytesLess y.1 x = false := by rw [bytesLess_eq]; simpa using hcmp
            have hp2 : posN x acc = i := by
              rw [← hpos]; rw [posN]; simp [hcmp]
            by_cases hex : y.1 = x
            · have hno : insAll l [] = none := by
                rw [← hins, hdk]; unfold insAll insN; simp [hp2, hdi, hex]
              rw [hex] at hc2
              simp [hli, hgy, hgy2, toB_toList, hc2, hex, hno]
              exact ⟨_, AV.le_refl _, τ0, Store.sub_refl _, _, rfl, .inl ⟨rfl, rfl⟩, hsub0⟩
            · have htl : (List.take i (ctsA acc)).length = i := by rw [List.length_take, ctsA_length]; omega
              obtain ⟨A, B, hA, hB, hAl, hBl⟩ : ∃ A B, acc.take i = A ∧ acc.drop i = B ∧ A.length = i ∧ 0 < B.length := ⟨_, _, rfl, rfl, by simp; omega, by simp; omega⟩
              have hAB : A ++ B = acc := by rw [← hA, ← hB, List.take_append_drop]
              have ht : List.take i (ctsA acc) = ctsA A := by rw [← hA]; simp [ctsA]
              have hd : List.drop i (List.take acc.length (ctsA acc)) = ctsA B := by rw [List.take_of_length_le (by simp), ← hB]; simp [ctsA]
              have hAc := cA_length A
              have hBc := cA_length B
              have hBn : ¬ B.length = 0 := by omega
              have hnx : insAll (l.drop (k + 1)) (A ++ (x, 0) :: B) = insAll l [] := by
                rw [← hins, hdk]
                show _ = (insN x acc).bind _
                unfold insN
                rw [hp2, if_neg (by rw [hdi]; simpa using hex), hA, hB]
                rfl
              have hBle : B.length ≤ 64 := by rw [← hB]; simp; omega
              have hfx : flat [AV.agg [.lit (.string (toB x)), .lit (.int .u64 0)]] = cA [(x, 0)] := rfl
              have hlx : (cA [(x, 0)]).length = 2 := rfl
              simp +contextual [hli, hgy, hgy2, toB_toList, hc2, hex, hi, ite_free, ht, hd]
              refine ⟨fun p hp => ⟨?_, ?_⟩, fun p hp => ?_⟩
              all_goals
                have hσp := fresh_none hsub0 hp
                have hs1 := Store.sub_upd (cs := []) hσp hsub0
                have e1 : (τ0.upd p []) p = some [] := by simp
                refine ⟨by omega, by omega, fun hA0 => ?_, fun hA0 => ?_⟩
                · subst hA0
                  intro p1 cap1 h1 hle1 hcap1
                  have hσp1 : σ p1 = none := by
                    rcases h1 with rfl | ⟨_, _, h1⟩
                    · exact hσp
                    · exact fresh_none hsub0 h1
                  have hs2 := Store.sub_upd (cs := cA [(x, 0)] ++ List.replicate ((cap1 - 1) * 2) AV.top) hσp1 (sub_del' hs1 hσp)
                  have hl1 : 2 + (cap1 - 1) * 2 = cap1 * 2 := by omega
                  have ht1 : ∀ X, List.take 2 (cA [(x, 0)] ++ X) = cA [(x, 0)] := fun X => rfl
                  clear h1
                  simp [flat_cts, cA_drop1, hfx, hlx, hl1, ht1, Store.delO, hBn, hBl]
                  refine ⟨by omega, by omega, ?_⟩
                  intro p2 cap2 h2 hle2 hcap2
                  have hσp2 : σ p2 = none := by
                    rcases h2 with rfl | h2
                    · exact hσp1
                    · exact fresh_none hs2 (by simpa [Store.upd, Store.del, Int.natCast_inj] using h2)
                  have hs3 := Store.sub_upd (cs := cA [(x, 0)] ++ (cA B ++ List.replicate ((cap2 - (1 + B.length)) * 2) AV.top)) hσp2 (sub_del' hs2 hσp1)
                  refine ⟨k + 1, [] ++ (x, 0) :: B, .lit (.slice (some ⟨p2, 0, none⟩) ([] ++ (x, 0) :: B).length cap2), _, ⟨by omega, hnx, by simp at hAB hal hBl ⊢; rw [← hal, ← hAB], .inr ⟨p2, cap2, List.replicate ((cap2 - (1 + B.length)) * 2) AV.top, rfl, hσp2, ?_, ?_, ?_, ?_⟩, hs3⟩, by omega, ⟨?_, by rw [hlw]; exact AV.le_refl _⟩, ?_⟩
                  · rw [upd_nat, if_pos rfl]; rfl
                  · rw [List.length_append, List.length_replicate, cA_length]; simp; omega
                  · simp; omega
                  · exact hcap2
                  · rw [show (([] : List Ct) ++ (x, 0) :: B).length = 1 + B.length by simp; omega]; exact AV.le_refl _
                  · exact Store.sub_refl _
                · intro p1 cap1 h1 hle1 hcap1
                  have hσp1 : σ p1 = none := by
                    rcases h1 with rfl | ⟨_, _, h1⟩
                    · exact hσp
                    · exact fresh_none hsub0 h1
                  have hs2 := Store.sub_upd (cs := cA A ++ List.replicate ((cap1 - A.length) * 2) AV.top) hσp1 (sub_del' hs1 hσp)
                  have hl1 : (cA A).length + (cap1 - A.length) * 2 = cap1 * 2 := by omega
                  have ht1 : ∀ X, List.take (A.length * 2) (cA A ++ X) = cA A := fun X => List.take_left' (by omega)
                  clear h1
                  simp [flat_cts, cA_drop1, hl1, ht1, Store.delO]
                  refine ⟨by omega, by omega, ?_⟩
                  intro p2 cap2 h2 hle2 hcap2
                  have hσp2 : σ p2 = none := by
                    rcases h2 with rfl | h2
                    · exact hσp1
                    · exact fresh_none hs2 (by simpa [Store.upd, Store.del, Int.natCast_inj] using h2)
                  have hs3 := Store.sub_upd (cs := cA A ++ (cA [(x, 0)] ++ List.replicate ((cap2 - (A.length + 1)) * 2) AV.top)) hσp2 (sub_del' hs2 hσp1)
                  have hl2 : (cA A).length + (2 + (cap2 - (A.length + 1)) * 2) = cap2 * 2 := by omega
                  have ht2 : ∀ X, List.take ((A.length + 1) * 2) (cA A ++ (cA [(x, 0)] ++ X)) = cA A ++ cA [(x, 0)] := fun X => by rw [← List.append_assoc]; exact List.take_left' (by rw [List.length_append, hlx]; omega)
                  clear h2
                  simp [flat_cts, cA_drop1, hfx, hlx, hl2, ht2, Store.delO, hBn, hBl, hle2, hcap2]
                  refine ⟨by omega, by omega, ?_⟩
                  intro p3 cap3 h3 hle3 hcap3
                  have hσp3 : σ p3 = none := by
                    rcases h3 with rfl | h3
                    · exact hσp2
                    · exact fresh_none hs3 (by simpa [Store.upd, Store.del, Int.natCast_inj] using h3)
                  have hs4 := Store.sub_upd (cs := cA A ++ (cA [(x, 0)] ++ (cA B ++ List.replicate ((cap3 - (A.length + 1 + B.length)) * 2) AV.top))) hσp3 (sub_del' hs3 hσp2)
                  have hlc : (A ++ (x, 0) :: B).length = A.length + 1 + B.length := by simp; omega
                  refine ⟨k + 1, A ++ (x, 0) :: B, .lit (.slice (some ⟨p3, 0, none⟩) (A ++ (x, 0) :: B).length cap3), _, ⟨by omega, hnx, by rw [← hAB] at hal; simp at hal; omega, .inr ⟨p3, cap3, List.replicate ((cap3 - (A.length + 1 + B.length)) * 2) AV.top, rfl, hσp3, ?_, ?_, ?_, ?_⟩, hs4⟩, by omega, ⟨?_, by rw [hlw]; exact AV.le_refl _⟩, ?_⟩
                  · rw [upd_nat, if_pos rfl, cA_append]; simp only [List.append_assoc]; rfl
                  · rw [List.length_append, List.length_replicate, cA_length, hlc]; omega
                  · rw [hlc]; exact hle3
                  · exact hcap3
                  · rw [hlc]; exact AV.le_refl _
                  · exact Store.sub_refl _
        · have hie : i = acc.length := by omega
          have hp2 : posN x acc = i := by
            rw [← hpos, List.drop_of_length_le (by omega)]; simp [posN]
          have hdi : acc.drop i = [] := List.drop_of_length_le (by omega)
          have hnx : insAll (l.drop (k + 1)) (acc ++ [(x, 0)]) = insAll l [] := by
            rw [← hins, hdk]
            show _ = (insN x acc).bind _
            unfold insN
            rw [hp2, hdi, if_neg (by simp), List.take_of_length_le (by omega)]
            rfl
          have hAc := cA_length acc
          have ht : List.take i (ctsA acc) = ctsA acc := List.take_of_length_le (by simp; omega)
          have hd : List.drop i (List.take acc.length (ctsA acc)) = [] := List.drop_of_length_le (by simp; omega)
          have hfx : flat [AV.agg [.lit (.string (toB x)), .lit (.int .u64 0)]] = cA [(x, 0)] := rfl
          have hlx : (cA [(x, 0)]).length = 2 := rfl
          have hAl : acc.length = i := hie.symm
          simp +contextual [hli, hi, ite_free, ht, hd]
          refine ⟨fun p hp => ⟨?_, ?_⟩, fun p hp => ?_⟩
          all_goals
            have hσp := fresh_none hsub0 hp
            have hs1 := Store.sub_upd (cs := []) hσp hsub0
            refine ⟨by omega, by omega, fun hA0 => ?_, fun hA0 => ?_⟩
            · subst hA0
              intro p1 cap1 h1 hle1 hcap1
              have hσp1 : σ p1 = none := by
                rcases h1 with rfl | ⟨_, _, h1⟩
                · exact hσp
                · exact fresh_none hsub0 h1
              have hs2 := Store.sub_upd (cs := cA [(x, 0)] ++ List.replicate ((cap1 - 1) * 2) AV.top) hσp1 (sub_del' hs1 hσp)
              have hl1 : 2 + (cap1 - 1) * 2 = cap1 * 2 := by omega
              have ht1 : ∀ X, List.take 2 (cA [(x, 0)] ++ X) = cA [(x, 0)] := fun X => rfl
              clear h1
              simp [flat_cts, cA_drop1, hfx, hlx, hl1, ht1, Store.delO]
              refine ⟨k + 1, [] ++ [(x, 0)], .lit (.slice (some ⟨p1, 0, none⟩) 1 cap1), _, ⟨by omega, hnx, by simp at hal ⊢; omega, .inr ⟨p1, cap1, List.replicate ((cap1 - 1) * 2) AV.top, rfl, hσp1, ?_, ?_, ?_, ?_⟩, hs2⟩, by omega, ⟨AV.le_refl _, by rw [hlw]; exact AV.le_refl _⟩, ?_⟩
              · rw [upd_nat, if_pos rfl]; rfl
              · rw [List.length_append, List.length_replicate, cA_length]; simp; omega
              · simp; omega
              · exact hcap1
              · exact Store.sub_refl _
            · intro p1 cap1 h1 hle1 hcap1
              have hσp1 : σ p1 = none := by
                rcases h1 with rfl | ⟨_, _, h1⟩
                · exact hσp
                · exact fresh_none hsub0 h1
              have hs2 := Store.sub_upd (cs := cA acc ++ List.replicate ((cap1 - acc.length) * 2) AV.top) hσp1 (sub_del' hs1 hσp)
              have hl1 : (cA acc).length + (cap1 - acc.length) * 2 = cap1 * 2 := by omega
              have ht1 : ∀ X, List.take (acc.length * 2) (cA acc ++ X) = cA acc := fun X => List.take_left' (by omega)
              clear h1
              simp [flat_cts, cA_drop1, hl1, ht1, Store.delO]
              refine ⟨by omega, by omega, ?_⟩
              intro p2 cap2 h2 hle2 hcap2
              have hσp2 : σ p2 = none := by
                rcases h2 with rfl | h2
                · exact hσp1
                · exact fresh_none hs2 (by simpa [Store.upd, Store.del, Int.natCast_inj] using h2)
              have hs3 := Store.sub_upd (cs := cA acc ++ (cA [(x, 0)] ++ List.replicate ((cap2 - (acc.length + 1)) * 2) AV.top)) hσp2 (sub_del' hs2 hσp1)
              have hl2 : (cA acc).length + (2 + (cap2 - (acc.length + 1)) * 2) = cap2 * 2 := by omega
              have ht2 : ∀ X, List.take ((acc.length + 1) * 2) (cA acc ++ (cA [(x, 0)] ++ X)) = cA acc ++ cA [(x, 0)] := fun X => by rw [← List.append_assoc]; exact List.take_left' (by rw [List.length_append, hlx]; omega)
              clear h2
              simp [flat_cts, cA_drop1, hfx, hlx, hl2, ht2, Store.delO, hle2, hcap2]
              refine ⟨by omega, by omega, ?_⟩
              refine ⟨k + 1, acc ++ [(x, 0)], .lit (.slice (some ⟨p2, 0, none⟩) (acc ++ [(x, 0)]).length cap2), _, ⟨by omega, hnx, by simp; omega, .inr ⟨p2, cap2, List.replicate ((cap2 - (acc.length + 1)) * 2) AV.top, rfl, hσp2, ?_, ?_, ?_, ?_⟩, hs3⟩, by omega, ⟨?_, by rw [hlw]; exact AV.le_refl _⟩, ?_⟩
              · rw [upd_nat, if_pos rfl, cA_append]; simp only [List.append_assoc]
              · rw [List.length_append, List.length_replicate, cA_length, List.length_append]; simp; omega
              · simp; exact hle2
              · exact hcap2
              · simp
              · exact Store.sub_refl _
    · obtain rfl : k = l.length := by omega
      rw [List.drop_of_length_le (Nat.le_refl _)] at hins
      have hins : insAll l [] = some acc := hins.symm
      have hV2 := hV
      rcases hV with ⟨he, rfl⟩ | ⟨q, cq, rest, rfl, hq0, hq, hql, hqc, hqm⟩ <;> simp [hins]
      all_goals exact ⟨_, AV.le_refl _, τ, Store.sub_refl _, _, rfl, hV2, hsub⟩
end Go.Proofs.Ytgelodhkbpmlfaa
/-
  tally.New.
-/
namespace Go.Proofs.Ytgelodhkbpmlfaa
open Go Go.AL

/-- What was wrong with the names. -/
def newE (l : List (List UInt8)) : Int := if 64 < l.length then 3 else if badN l then 4 else if (Lib.compact (sortL l)).length ≠ l.length then 1 else 0
def u64s (xs : List Nat) : List AV := xs.map fun (n : Nat) => .lit (.int .u64 n)
@[simp] theorem u64s_length (xs : List Nat) : (u64s xs).length = xs.length := by simp [u64s]
def tA (ns : List (List UInt8)) (c : Nat) (m : Option Nat) : List AV := [.list false 1 (strsA ns), .row c ns.length, .lit (.int .u32 (if m.isSome then 1 else 0)), .lit (.int .i32 0), .lit (.int .u32 0), .lit (.map m)]
set_option maxRecDepth 8000 in
set_option maxHeartbeats 1000000 in
theorem new_calls (V : AV) (l : List (List UInt8)) (hl : l.length ≤ 1000000) (σ : Store) (hV : NV σ V l) :
    ACalls Try.prog 8 [V] σ fun v σ' => Store.sub σ σ' ∧ ((¬ newE l = 0 ∧ v = .tuple [.lit (.pointer none), .lit (.int .i64 (newE l))]) ∨
      (newE l = 0 ∧ ∃ b c : Nat, σ b = none ∧ σ c = none ∧ ¬ b = c ∧ v = .tuple [ptrA b, .lit (.int .i64 0)] ∧ σ' b = some (tA (sortL l) c none) ∧ σ' c = some (u64s (List.replicate l.length 0)))) := by
  have hV0 := hV
  have herr : ∀ z : Int, ¬ z = 0 → newE l = z → ∃ v', (AV.tuple [.lit (.pointer none), .lit (.int .i64 z)]).le v' ∧ ∃ x, Store.sub x σ ∧ Store.sub σ x ∧ ((¬ newE l = 0 ∧ v' = .tuple [.lit (.pointer none), .lit (.int .i64 (newE l))]) ∨
      (newE l = 0 ∧ ∃ b : Nat, σ b = none ∧ ∃ c : Nat, σ c = none ∧ ¬ b = c ∧ v' = .tuple [ptrA b, .lit (.int .i64 0)] ∧ x b = some (tA (sortL l) c none) ∧ x c = some (u64s (List.replicate l.length 0)))) := fun z hz h => by
    rw [h]
    exact ⟨_, AV.le_refl _, σ, Store.sub_refl _, Store.sub_refl _, .inl ⟨hz, rfl⟩⟩
  refine ACalls.of_awp follows (st := st8) (plans := pl8) (n := 40) Try.func8 rfl (by kernel_rfl) (by kernel_rfl) (by kernel_rfl) ?_
  by_cases h64 : 64 < l.length
  · have h64' : (64 : Int) < l.length := by omega
    have e : newE l = 3 := by simp [newE, h64]
    have he := herr 3 (by decide) e
    rw [e] at he ⊢
    rcases hV with ⟨o, rfl⟩ | ⟨p, cap, rest, rfl, hp⟩
    all_goals
      simp [h64, h64']
      simpa using he
  have h64' : ¬ (64 : Int) < l.length := by omega
  rcases hV with ⟨o, rfl⟩ | ⟨p, cap, rest, rfl, hp⟩
  case' inl =>
    simp [h64, h64']
    refine codeK.loop follows (st := st8) (plans := pl8) (X := Nat) (fun k => k ≤ l.length ∧ badN (l.take k) = false)
      (fun k => [(0, .list false 1 (strsA l)), (10, .list false 1 (strsA l)), (11, .lit (.int .i64 l.length)), (12, .lit (.int .i64 k))]) (fun _ => σ) (fun k => l.length - k) 0 (by kernel_rfl)
      (by simp [badN]) (by simp) (Store.sub_refl _) fun k hk => ?_
    have hvc := values_calls (.list false 1 (strsA l)) l σ (.inl ⟨_, rfl⟩)
    have hsc := fun (b : Nat) (hb : σ b = none) => sorted_calls b (.list false 1 (strsA l)) l hl (σ.upd b [.list false 1 (strsA l)]) (by simp) (.inl ⟨_, rfl⟩)
  case' inr =>
    simp [h64, h64']
    refine codeK.loop follows (st := st8) (plans := pl8) (X := Nat) (fun k => k ≤ l.length ∧ badN (l.take k) = false)
      (fun k => [(0, sliA p l.length cap), (10, sliA p l.length cap), (11, .lit (.int .i64 l.length)), (12, .lit (.int .i64 k))]) (fun _ => σ) (fun k => l.length - k) 0 (by kernel_rfl)
      (by simp [badN]) (by simp) (Store.sub_refl _) fun k hk => ?_
    have hvc := values_calls (sliA p l.length cap) l σ hV0
    have hsc := fun (b : Nat) (hb : σ b = none) => sorted_calls b (sliA p l.length cap) l hl (σ.upd b [sliA p l.length cap]) (by simp) (hV0.more (Store.sub_upd hb (Store.sub_refl _)))
  all_goals
    obtain ⟨hk, hkb⟩ := hk
    by_cases hlt : k < l.length
    · obtain ⟨x, hx⟩ : ∃ x, l[k]'hlt = x := ⟨_, rfl⟩
      have htk : l.take (k + 1) = l.take k ++ [x] := by rw [List.take_succ_eq_append_getElem hlt, hx]
      have hlw : IntKind.i64.wrap ((k : Int) + 1) = (k : Int) + 1 := wrap_i64 (by omega) (by omega)
      have hsz := toB_size x
      have hb := badN_snoc _ x hkb
      rw [← htk] at hb
      have hg1 : (strsA l)[k]? = some (.lit (.string (toB x))) := by simp [strsA, strV, hlt, hx]
      have hg2 : ∀ h : k < (strsA l).length, (strsA l)[k]'h = .lit (.string (toB x)) := fun h => by simp [strsA, strV, hx]
      have hlt' : (k : Int) < l.length := by omega
      have hfin : ∃ y, (y ≤ l.length ∧ badN (l.take y) = false) ∧ l.length - y < l.length - k ∧ (AV.lit (.int .i64 (IntKind.i64.wrap ((k : Int) + 1)))).le (.lit (.int .i64 y)) ∨ ¬ badN (l.take (k + 1)) = false := by
        by_cases hbb : badN (l.take (k + 1)) = false
        · exact ⟨k + 1, .inl ⟨⟨by omega, hbb⟩, by omega, by rw [hlw]; exact AV.le_refl _⟩⟩
        · exact ⟨k, .inr hbb⟩
      have hbl : badN (l.take (k + 1)) = true → newE l = 4 := fun h => by simp [newE, h64, badN_pre l (k + 1) h]
      by_cases hbad : x.length < 1 ∨ 40 < x.length
      · have he := herr 4 (by decide) (hbl (by rw [hb]; simpa using hbad))
        rw [hbl (by rw [hb]; simpa using hbad)] at he ⊢
        rcases hbad with h1 | h2
        · have h1 : x = [] := by simpa using h1
          first
            | have hg3 : (strsA l ++ rest)[k]? = some (.lit (.string (toB x))) := by rw [List.getElem?_append_left (by simpa using hlt)]; exact hg1
              have hln : (strsA l ++ rest).length = l.length + rest.length := by simp
              generalize strsA l ++ rest = CC at *
              have hg4 : ∀ h : k < CC.length, CC[k]'h = .lit (.string (toB x)) := fun h => by rw [List.getElem?_eq_getElem h] at hg3; exact Option.some.inj hg3
              simp [hlt, hlt', hp, hg3, hg4, hln, show k < l.length + rest.length by omega, hsz, h1, toB_toList]
            | simp [hlt, hlt', hg1, hg2, hsz, h1, toB_toList]
          simpa using he
        · have f1 : ¬ x = [] := by rintro rfl; simp at h2
          have f2 : (40 : Int) < x.length := by omega
          first
            | have hg3 : (strsA l ++ rest)[k]? = some (.lit (.string (toB x))) := by rw [List.getElem?_append_left (by simpa using hlt)]; exact hg1
              have hln : (strsA l ++ rest).length = l.length + rest.length := by simp
              generalize strsA l ++ rest = CC at *
              have hg4 : ∀ h : k < CC.length, CC[k]'h = .lit (.string (toB x)) := fun h => by rw [List.getElem?_eq_getElem h] at hg3; exact Option.some.inj hg3
              simp [hlt, hlt', hp, hg3, hg4, hln, show k < l.length + rest.length by omega, hsz, f1, f2, h2, toB_toList]
            | simp [hlt, hlt', hg1, hg2, hsz, f1, f2, h2, toB_toList]
          simpa using he
      · have hbf : badN (l.take (k + 1)) = false := by rw [hb]; simpa using hbad
        rw [not_or] at hbad
        have f1 : ¬ x = [] := by rintro rfl; simp at hbad
        have f2 : ¬ (40 : Int) < x.length := by omega
        first
          | have hg3 : (strsA l ++ rest)[k]? = some (.lit (.string (toB x))) := by rw [List.getElem?_append_left (by simpa using hlt)]; exact hg1
            have hln : (strsA l ++ rest).length = l.length + rest.length := by simp
            generalize strsA l ++ rest = CC at *
            have hg4 : ∀ h : k < CC.length, CC[k]'h = .lit (.string (toB x)) := fun h => by rw [List.getElem?_eq_getElem h] at hg3; exact Option.some.inj hg3
            simp [hlt, hlt', hp, hg3, hg4, hln, show k < l.length + rest.length by omega, hsz, f1, f2, hbad, toB_toList]
          | simp [hlt, hlt', hg1, hg2, hsz, f1, f2, hbad, toB_toList]
        exact ⟨k + 1, ⟨by omega, hbf⟩, by omega, by rw [hlw]; exact AV.le_refl _⟩
    · obtain rfl : k = l.length := by omega
      rw [List.take_of_length_le (Nat.le_refl _)] at hkb
      have hln : (sortL l).length = l.length := by simp [sortL]
      simp
      refine callK.of hvc ?_
      rintro v σ1 ⟨b0, hb0, rfl, rfl⟩
      simp
      refine callK.of (hsc b0 hb0) ?_
      rintro v σ1 ⟨rfl, rfl⟩
      have hs1 := fun x => Store.sub_upd (cs := x) hb0 (Store.sub_refl σ)
      simp
      refine callK.of (clone_calls false (sortL l) (by omega) _) ?_
      generalize hτ0 : σ.upd b0 _ = τ0 at *
      have hs1 : Store.sub σ τ0 := by rw [← hτ0]; exact hs1 _
      clear hτ0
      rintro v σ2 (⟨hn, rfl, rfl⟩ | ⟨p3, cap3, h3, hc3, hm3, rfl, hs3⟩)
      · have hl0 : l.length = 0 := by rw [← hln, hn]; rfl
        have hl1 : l = [] := List.length_eq_zero_iff.1 hl0
        have e : newE l = 0 := by subst hl1; decide +kernel
        simp
        refine callK.of (compact_none' true _) ?_
        rintro v σ3 ⟨⟨a, cap4, rfl⟩, rfl⟩
        simp [hl0, hn]
        intro c hc
        simp +contextual [ite_free]
        intro b n1 n2 hb
        refine ⟨_, AV.le_refl _, _, Store.sub_refl _, Store.sub_upd (fresh_none hs1 hb) (Store.sub_upd (fresh_none hs1 hc) hs1), .inr ⟨e, b, fresh_none hs1 hb, c, fresh_none hs1 hc, n1, rfl, ?_, ?_⟩⟩
        · skip
          simp [tA, strsA, hl0, hn]
        · simp [u64s, n1, n2]
      · have hf3 : σ2 p3 = some (strsA (sortL l) ++ tops (cap3 - (sortL l).length)) := sub_at (by rw [upd_nat, if_pos rfl]) hs3
        have hsc := compact_calls (sortL l) (by omega) p3 cap3 hc3 (tops (cap3 - (sortL l).length)) σ2 hf3
        have hs4 : Store.sub σ (σ2.del p3) := sub_del' (Store.sub_trans (Store.sub_upd (fresh_none hs1 h3) hs1) hs3) (fresh_none hs1 h3)
        simp
        refine callK.of hsc ?_
        rintro v σ3 ⟨rfl, hs5⟩
        have hs6 := Store.sub_trans hs4 hs5
        have e : newE l = if (Lib.compact (sortL l)).length ≠ l.length then 1 else 0 := by unfold newE; rw [if_neg h64, hkb]; rfl
        by_cases hcl : (Lib.compact (sortL l)).length = l.length
        · have hcl' : ((Lib.compact (sortL l)).length : Int) = l.length := by omega
          rw [if_neg (by simpa using hcl)] at e
          simp [hcl, hcl', hln]
          refine ⟨by omega, by omega, ?_⟩
          intro c hc
          simp +contextual [ite_free]
          intro b n1 n2 hb
          refine ⟨_, AV.le_refl _, _, Store.sub_refl _, Store.sub_upd (fresh_none hs6 hb) (Store.sub_upd (fresh_none hs6 hc) hs6), .inr ⟨e, b, fresh_none hs6 hb, c, fresh_none hs6 hc, n1, rfl, ?_, ?_⟩⟩
          · simp [tA, hln]
          · simp [u64s, n1, n2]
        · have hcl' : ¬ ((Lib.compact (sortL l)).length : Int) = l.length := by omega
          rw [if_pos hcl] at e
          simp [hcl, hcl', hln, e]
          exact ⟨_, AV.le_refl _, _, Store.sub_refl _, hs6, rfl⟩
end Go.Proofs.Ytgelodhkbpmlfaa
/-
  Where each name stands: a map that is made once.
-/
namespace Go.Proofs.Ytgelodhkbpmlfaa
open Go Go.AL

theorem toB_beq (a b : List UInt8) : (toB a == toB b) = (a == b) := by
  show ((toB a).data == (toB b).data) = _
  simp [toB]
/-- The first names' places. -/
def atN (ns : List (List UInt8)) (k : Nat) : List (Value × AV) := (List.range k).map fun i => (.string (toB (ns.getD i [])), .lit (.int .i64 (i : Int)))
theorem findA_atN (ns : List (List UInt8)) (s : List UInt8) : ∀ (l : List Nat) (i : Nat), findA .string (.string (toB s)) (l.map fun i => (.string (toB (ns.getD i [])), .lit (.int .i64 (i : Int)))) i =
    some ((l.findIdx? (fun c => ns.getD c [] == s)).map fun j => (i + j, .lit (.int .i64 ((l.getD j 0 : Nat) : Int)))) := by
  intro l
  induction l with
  | nil => intro i; rfl
  | cons c l ih =>
    intro i
    by_cases h : s = ns.getD c []
    · have h' : (ns.getD c [] == s) = true := by simp [h]
      have h3 : (toB s == toB (ns.getD c [])) = true := by rw [toB_beq]; simp [h]
      simp only [List.map_cons, findA, Instr.sameNow, h3, List.findIdx?_cons, h']
      simp
    · have h' : (ns.getD c [] == s) = false := by simpa using fun e => h e.symm
      have h2 : (toB s == toB (ns.getD c [])) = false := by rw [toB_beq]; simpa using h
      simp only [List.map_cons, findA, Instr.sameNow, h2, ih, List.findIdx?_cons, h', Bool.false_eq_true, if_false, Option.map_map]
      congr 1
      cases l.findIdx? (fun c => ns.getD c [] == s) with
      | none => rfl
      | some j => simp; omega
theorem setA_atN {ns : List (List UInt8)} (hn : ns.Nodup) {k : Nat} (hk : k < ns.length) : setA .string (atN ns k) (.string (toB (ns.getD k []))) (.lit (.int .i64 (k : Int))) = some (atN ns (k + 1)) := by
  have hf : (List.range k).findIdx? (fun c => ns.getD c [] == ns.getD k []) = none := by
    rw [List.findIdx?_eq_none_iff]
    intro c hc
    have hck : c < k := by simpa using hc
    have : ns.getD c [] ≠ ns.getD k [] := fun e => by
      rw [List.getD_eq_getElem?_getD, List.getD_eq_getElem?_getD, List.getElem?_eq_getElem (by omega), List.getElem?_eq_getElem hk] at e
      have := (List.getElem_inj hn).1 e
      omega
    simpa using this
  unfold setA atN
  rw [findA_atN, hf]
  simp [List.range_succ]
/-- A name's place. -/
def ixN (ns : List (List UInt8)) (s : List UInt8) : Option Nat := ns.findIdx? (· == s)
theorem ixN_range (ns : List (List UInt8)) (s : List UInt8) : (List.range ns.length).findIdx? (fun c => ns.getD c [] == s) = ixN ns s := by
  have h : ns = (List.range ns.length).map fun c => ns.getD c [] := by
    apply List.ext_getElem
    · simp
    · intro i h1 h2; simp [List.getD_eq_getElem?_getD, h1]
  unfold ixN
  conv => rhs; rw [h]
  rw [List.findIdx?_map]
  rfl
theorem get_atN (P : Program) (et : TypeId) (ns : List (List UInt8)) (s : List UInt8) (hz : zeroV P et = some (.lit (.int .i64 0))) : getA P et true .string (.string (toB s)) (atN ns ns.length) =
    some (.tuple [.lit (.int .i64 (((ixN ns s).getD 0 : Nat) : Int)), .lit (.bool (ixN ns s).isSome)]) := by
  unfold getA atN
  rw [findA_atN, ixN_range]
  cases hc : ixN ns s with
  | none => simp [hz, AV.drop1]
  | some j =>
    have hj : j < ns.length := (List.findIdx?_eq_some_iff_getElem.1 hc).1
    have : (List.range ns.length).getD j 0 = j := by simp [hj]
    simp only [Option.map_some, this]
    rfl
/-- A tally's cells. -/
def tS (ns : List (List UInt8)) (c : Nat) (done mu : Int) (m : Option Nat) : List AV := [.list false 1 (strsA ns), .row c ns.length, .lit (.int .u32 done), .lit (.int .i32 mu), .lit (.int .u32 0), .lit (.map m)]
set_option maxRecDepth 8000 in
set_option maxHeartbeats 1000000 in
theorem index_calls (b c : Nat) (ns : List (List UInt8)) (hn : ns.Nodup) (hl : ns.length ≤ 1000000) (done mu : Int) (m : Option Nat) (σ : Store) (hb : σ b = some (tS ns c done mu m)) :
    ACalls Try.prog 37 [ptrA b] σ fun v σ' => v = .tuple [] ∧ ∃ q : Nat, σ (mkey q) = none ∧ σ' = (σ.upd b (tS ns c done mu (some q))).put q (mapA (atN ns ns.length)) := by
  unfold tS at hb
  refine ACalls.of_awp follows (st := st37) (plans := pl37) (n := 30) Try.func37 rfl (by kernel_rfl) (by kernel_rfl) (by kernel_rfl) ?_
  simp [hb]
  intro q hq
  refine codeK.loop follows (st := st37) (plans := pl37) (X := Nat) (fun k => k ≤ ns.length)
    (fun k => [(0, ptrA b), (16, .list false 1 (strsA ns)), (17, .lit (.int .i64 ns.length)), (18, .lit (.int .i64 k))]) (fun k => (σ.upd b (tS ns c done mu (some q))).put q (mapA (atN ns k))) (fun k => ns.length - k) 0 (by kernel_rfl) (Nat.zero_le _) (by simp) ?_ fun k hk => ?_
  · refine Store.sub2 (fun p => ?_) (fun g => ?_)
    · right; simp [tS]
    · right; simp; rfl
  by_cases hlt : k < ns.length
  · obtain ⟨x, hx⟩ : ∃ x, ns.getD k [] = x := ⟨_, rfl⟩
    have hx2 : ns[k] = x := by rw [← hx]; simp [List.getD_eq_getElem?_getD, hlt]
    have hg1 : (strsA ns)[k]? = some (.lit (.string (toB x))) := by simp [strsA, strV, hlt, hx2]
    have hg2 : ∀ h : k < (strsA ns).length, (strsA ns)[k]'h = .lit (.string (toB x)) := fun h => by simp [strsA, strV, hx2]
    have hset := setA_atN hn hlt
    rw [hx] at hset
    have hlw : IntKind.i64.wrap ((k : Int) + 1) = ((k + 1 : Nat) : Int) := wrap_i64 (by omega) (by omega)
    simp [hlt, hg1, hg2, tS, hset]
    refine ⟨k + 1, by omega, by omega, by rw [hlw]; exact AV.le_refl _, ?_⟩
    exact Store.sub_refl _
  · obtain rfl : k = ns.length := by omega
    simp
    exact ⟨_, AV.le_refl _, _, Store.sub_refl _, rfl, q, hq, rfl⟩
end Go.Proofs.Ytgelodhkbpmlfaa
