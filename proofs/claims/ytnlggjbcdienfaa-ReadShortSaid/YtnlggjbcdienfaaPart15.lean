/-
  What is modified, as it is sent, of a formatted screen.
-/
import Derived.Test.YtnlggjbcdienfaaPart14
namespace Go.Proofs.Ytnlggjbcdienfaa
open Go Go.AL Go.Sp

def cellB (s : Sp) (i : Nat) : List UInt8 := someB (s.cells[i]?.getD .zero)
def sbaB (s : Sp) (a : Nat) : List UInt8 := 0x11 :: encM ((a + 1) % s.n)
theorem fieldB_eq (s : Sp) (a : Nat) : fieldB s a = sbaB s a ++ (Sp.places s.cells a).flatMap (cellB s) := rfl
theorem places_length (l : List Cell) (a : Nat) : (Sp.places l a).length = Sp.len l a := by simp [Sp.places]
theorem places_get (l : List Cell) (a k : Nat) (h : k < (Sp.places l a).length) : (Sp.places l a)[k] = (a + k + 1) % l.length := by simp [Sp.places]
theorem cellB_len (s : Sp) (i : Nat) : (cellB s i).length ≤ 2 := someB_len _
theorem sbaB_len (s : Sp) (a : Nat) : (sbaB s a).length = 3 := rfl
theorem len_le (l : List Cell) (a : Nat) : Sp.len l a ≤ l.length := by have := Sp.run_le l a (l.length - 1); unfold Sp.len; omega
theorem flatMap_take_len (s : Sp) (a j : Nat) (hn : s.cells.length ≤ 3564) : (((Sp.places s.cells a).take j).flatMap (cellB s)).length ≤ 7128 := by
  have h1 := flatMap_len (cellB s) 2 (cellB_len s) ((Sp.places s.cells a).take j)
  have h2 : ((Sp.places s.cells a).take j).length ≤ (Sp.places s.cells a).length := by simp; omega
  rw [places_length] at h2
  have h3 := len_le s.cells a
  omega
theorem fieldB_len (s : Sp) (hn : s.cells.length ≤ 3564) (a : Nat) : (fieldB s a).length ≤ 7131 := by
  have h := flatMap_take_len s a (Sp.places s.cells a).length hn
  rw [List.take_length] at h
  rw [fieldB_eq, List.length_append, sbaB_len]; omega
theorem modified_length (s : Sp) : s.modified.length ≤ s.cells.length := by
  have h1 : s.modified.length ≤ s.attrs.length := by unfold Sp.modified; exact List.length_filter_le _ _
  have h2 : s.attrs.length ≤ (List.range s.cells.length).length := by unfold Sp.attrs; exact List.length_filter_le _ _
  simp at h2; omega

set_option maxRecDepth 8000 in
theorem modified_fmt {q p : Nat} {s : Sp} {σ : Store} (h : Prg σ q p s) (aid : UInt8) (mode : Nat) (hm : mode < 2) (hc : 0 < s.count) :
    ACalls Try.prog 38 [ptrA q, byteA aid, .lit (.int .i64 mode), .lit (.bool false)] σ fun v σ' => v = .tuple [.list false 1 (bytesA (modB s aid)), .lit (.int .i64 0)] ∧ σ' = σ := by
  have hb := fun τ (hτ : Prg τ q p s) => begin_long hτ aid mode (by omega)
  have hfm := fun τ (hτ : Prg τ q p s) => formatted_calls hτ
  simp only [hc, decide_true] at hfm
  have hmb : modB s aid = headB s aid ++ s.modified.flatMap (fieldB s) := by simp [modB, bodyB, show ¬ s.count = 0 by omega]
  have hhl : (headB s aid).length = 3 := rfl
  have hln := h.good.len
  have hn := s.n_le
  refine ACalls.of_awpY follows (st := st38) (plans := pl38) (n := 78) Try.func38 rfl (by kernel_rfl) (by kernel_rfl) (by kernel_rfl) ?_
  simp
  intro bs hbs
  obtain ⟨s1, s2, s3, s4⟩ := h.fresh hbs
  have hP1 := h.new hbs [ptrA q]
  refine callK.of (hb _ hP1) ?_
  rintro v σ' ⟨z, hz, rfl, rfl⟩
  have hP2 := hP1.new hz (seO (headB s aid) .zero mode)
  simp only [supd_apply, ite_none] at hz
  obtain ⟨z1, hz⟩ := hz
  simp +contextual [ite_free, Ne.symm z1]
  intro bt t1 t2 t3 t4 ht
  obtain ⟨u1, u2, u3, u4⟩ := h.fresh ht
  have hP3 := hP2.upd ⟨u1, u2⟩ [ptrA z]
  refine callK.of (hfm _ hP3) ?_
  rintro v σ' ⟨rfl, rfl⟩
  simp [t4, Ne.symm z1]
  refine callK.of (modified_calls2 q _) ?_
  rintro v σ' ⟨b2, hb2, rfl, rfl⟩
  simp only [supd_apply, ite_none] at hb2
  obtain ⟨v1, v2, v3, hb2⟩ := hb2
  obtain ⟨w1, w2, w3, w4⟩ := h.fresh hb2
  obtain ⟨y1, y2, y3, y4⟩ := h.fresh hz
  simp
  have hbig : ∀ k, (headB s aid ++ (s.modified.take k).flatMap (fieldB s)).length ≤ 100000000 := fun k => by
    have h1 := flatMap_len (fieldB s) 7131 (fieldB_len s (by omega)) (s.modified.take k)
    have h2 : (s.modified.take k).length ≤ s.modified.length := by simp; omega
    have h4 := modified_length s
    have h3 : (s.modified.take k).length * 7131 ≤ 3564 * 7131 := Nat.mul_le_mul_right 7131 (by omega)
    rw [List.length_append, hhl]; omega
  obtain ⟨oK, hoK⟩ : ∃ f : Nat → List AV, ∀ k, f k = seO (headB s aid ++ (s.modified.take k).flatMap (fieldB s)) .zero mode := ⟨_, fun _ => rfl⟩
  have ho0 : seO (headB s aid) .zero mode = oK 0 := by rw [hoK]; simp
  rw [ho0]
  refine codeYK.rangeG follows (st := st38) (plans := pl38) (modified_iter b2 q p s _) (by simp) (by simp) (by simp) (by kernel_rfl) (by kernel_rfl) (by kernel_rfl)
    (fun k ρ _ => ρ = ((((σ.upd bs [ptrA q]).upd bt [ptrA z]).upd b2 [ptrA q])).upd z (oK k)) (fun _ _ _ => False)
    _ rfl ?_ ?_ ?_ ?_ ?_
  · (intro q; simp only [Store.upd, Store.del]; (repeat' split) <;> first | exact Or.inr rfl | exact Or.inl rfl | (exfalso; omega) | (left; subst_vars; assumption) | simp_all)
  · rintro k ρ E hk rfl
    refine ⟨by simp [v2], (((h.upd ⟨s1, s2⟩ _).upd ⟨u1, u2⟩ _).upd ⟨w1, w2⟩ _).upd ⟨y1, y2⟩ _⟩
  · rintro k hk ρ E rfl
    have hPk : Prg (((((σ.upd bs [ptrA q]).upd bt [ptrA z]).upd b2 [ptrA q])).upd z (oK k)) q p s := (((h.upd ⟨s1, s2⟩ _).upd ⟨u1, u2⟩ _).upd ⟨w1, w2⟩ _).upd ⟨y1, y2⟩ _
    have hz3 : (((((σ.upd bs [ptrA q]).upd bt [ptrA z]).upd b2 [ptrA q])).upd z (oK k)) z = some (oK k) := by simp
    have ht3 : (((((σ.upd bs [ptrA q]).upd bt [ptrA z]).upd b2 [ptrA q])).upd z (oK k)) bt = some [ptrA z] := by simp [t1, Ne.symm v1]
    have hbs3 : (((((σ.upd bs [ptrA q]).upd bt [ptrA z]).upd b2 [ptrA q])).upd z (oK k)) bs = some [ptrA q] := by simp [Ne.symm z1, Ne.symm v3, t4]
    have hfin : (((((σ.upd bs [ptrA q]).upd bt [ptrA z]).upd b2 [ptrA q])).upd z (oK k)).upd z (oK (k + 1)) = ((((σ.upd bs [ptrA q]).upd bt [ptrA z]).upd b2 [ptrA q])).upd z (oK (k + 1)) := by simp
    generalize ((((σ.upd bs [ptrA q]).upd bt [ptrA z]).upd b2 [ptrA q])).upd z (oK k) = σ3 at *
    rw [← hfin]
    generalize hA : setPs _ [48] _ = A1
    have hA10 : A1 10 = ptrA bt := by rw [← hA]; simp
    have hA4 : A1 4 = ptrA bs := by rw [← hA]; simp
    have hA48 : A1 48 = .lit (.int .i64 (s.modified[k]?.getD 0 : Nat)) := by rw [← hA]; simp
    have hm0 : s.modified[k]?.getD 0 = s.modified[k] := by simp [hk]
    rw [hm0] at hA48
    have hmem : s.modified[k] ∈ s.modified := List.getElem_mem hk
    obtain ⟨hal, hat⟩ := mem_attrs (mem_modified hmem)
    have hft := flatMap_take (fieldB s) s.modified k hk
    generalize s.modified[k] = a at *
    clear hA hP1 hP2 hP3 hfin hfm hb hmb ho0 hm0 hmem
    rw [hoK] at hz3
    have hbk := hbig k
    have hfin2 : oK (k + 1) = seO (headB s aid ++ (s.modified.take k).flatMap (fieldB s) ++ fieldB s a) .zero mode := by rw [hoK, hft, List.append_assoc]
    rw [hfin2]
    generalize headB s aid ++ (s.modified.take k).flatMap (fieldB s) = base at *
    have hz4 : σ3 z = some [.list true 1 (bytesA base), byteA 0, .lit (.bool false), byteA 0, byteA 0, byteA 0, byteA 0, .lit (.int .i64 mode)] := hz3
    have hlb : base.length < 1000000000 := by omega
    generalize hrest : Code.seq (Code.region 12 _ true) _ = rest
    have hcont : ∀ A' : Slots, A' 10 = ptrA bt → A' 4 = ptrA bs → A' 14 = .lit (.int .i64 a) → awpY Try.prog st38 pl38 78 rest (blockY 3 (roundQ (fun ρ x => ρ = σ3.upd z (seO (base ++ fieldB s a) .zero mode)) fun _ _ _ => False)) E A' (σ3.upd z (seO (base ++ [0x11]) .zero mode)) := by
      intro A' a10 a4 a14
      rw [← hrest]
      clear hA10 hA4 hA48 hrest
      have hsz := fun τ (hτ : Prg τ q p s) => size_calls hτ
      have hw := fun τ => swrap_calls s ((a : Int) + 1) τ
      rw [show ((a : Int) + 1) = ((a + 1 : Nat) : Int) by omega, wrap_mod s.n_pos] at hw
      have hi1 : IntKind.i64.wrap ((a : Int) + 1) = ((a + 1 : Nat) : Int) := by rw [wrap_i64 (by omega) (by omega)]; omega
      have hml : (a + 1) % s.n < s.n := Nat.mod_lt _ s.n_pos
      have hsa := fun τ (hτ : τ z = some (seO (base ++ [0x11]) .zero mode)) => saddr_calls z (base ++ [0x11]) .zero mode ((a + 1) % s.n) (by omega) (by simp; omega) τ hτ
      rw [List.append_assoc, show [0x11] ++ encM ((a + 1) % s.n) = sbaB s a from rfl] at hsa
      generalize hrest2 : Code.seq (Code.region 13 _ false) _ = rest2
      have hP4 := hPk.upd ⟨y1, y2⟩ (seO (base ++ [0x11]) .zero mode)
      have hz5 : (σ3.upd z (seO (base ++ [0x11]) .zero mode)) z = some (seO (base ++ [0x11]) .zero mode) := by simp
      have ht5 : (σ3.upd z (seO (base ++ [0x11]) .zero mode)) bt = some [ptrA z] := by simp [t1, ht3]
      have hb5 : (σ3.upd z (seO (base ++ [0x11]) .zero mode)) bs = some [ptrA q] := by simp [Ne.symm z1, hbs3]
      have hfin3 : ∀ x, (σ3.upd z (seO (base ++ [0x11]) .zero mode)).upd z x = σ3.upd z x := by simp
      generalize σ3.upd z (seO (base ++ [0x11]) .zero mode) = σ4 at *
      have hcont2 : ∀ A' : Slots, A' 10 = ptrA bt → A' 4 = ptrA bs → A' 14 = .lit (.int .i64 a) → awpY Try.prog st38 pl38 78 rest2 (blockY 3 (roundQ (fun ρ x => ρ = σ3.upd z (seO (base ++ fieldB s a) .zero mode)) fun _ _ _ => False)) E A' (σ4.upd z (seO (base ++ sbaB s a) .zero mode)) := by
        intro A' a10 a4 a14
        rw [← hrest2]
        clear hsa hw hsz hz5
        have hP5 := hP4.upd ⟨y1, y2⟩ (seO (base ++ sbaB s a) .zero mode)
        have ht6 : (σ4.upd z (seO (base ++ sbaB s a) .zero mode)) bt = some [ptrA z] := by simp [t1, ht5]
        have hb6 : (σ4.upd z (seO (base ++ sbaB s a) .zero mode)) bs = some [ptrA q] := by simp [Ne.symm z1, hb5]
        have hz6 : (σ4.upd z (seO (base ++ sbaB s a) .zero mode)) z = some (seO (base ++ sbaB s a) .zero mode) := by simp
        have hfin4 : ∀ x, (σ4.upd z (seO (base ++ sbaB s a) .zero mode)).upd z x = σ3.upd z x := fun x => by rw [← hfin3 x]; simp
        generalize σ4.upd z (seO (base ++ sbaB s a) .zero mode) = σ5 at *
        simp [hb6, a4, a14]
        refine callK.of (places_calls2 q (a : Int) _) ?_
        rintro v σ' ⟨pb, pc, hpb, hpc, hne, rfl, rfl⟩
        simp
        obtain ⟨i1, i2, i3, i4⟩ := hP5.fresh hpb
        obtain ⟨j1, j2, j3, j4⟩ := hP5.fresh hpc
        have nb : ∀ o x, σ5 o = some x → ¬ o = pb ∧ ¬ o = pc := fun o x hx => ⟨(fun e => by rw [e, hpb] at hx; cases hx), (fun e => by rw [e, hpc] at hx; cases hx)⟩
        obtain ⟨k1, k2⟩ := nb _ _ hz6
        obtain ⟨k3, k4⟩ := nb _ _ hb6
        obtain ⟨k5, k6⟩ := nb _ _ ht6
        have hsml : ∀ j, (base ++ sbaB s a ++ ((Sp.places s.cells a).take j).flatMap (cellB s)).length ≤ 1000000000 := fun j => by
          have g1 := flatMap_take_len s a j (by omega)
          rw [List.length_append, List.length_append, sbaB_len]; omega
        obtain ⟨oP, hoP⟩ : ∃ f : Nat → List AV, ∀ j, f j = seO (base ++ sbaB s a ++ ((Sp.places s.cells a).take j).flatMap (cellB s)) .zero mode := ⟨_, fun _ => rfl⟩
        have ho1 : σ5 z = some (oP 0) := by rw [hz6, hoP]; simp
        have hb0 : (σ5.upd pb [ptrA q]).upd pc [.lit (.int .i64 a)] = ((σ5.upd pb [ptrA q]).upd pc [.lit (.int .i64 a)]).upd z (oP 0) := by
          funext o
          simp only [supd_apply]
          by_cases e : o = z
          · subst e; simp [k1, k2, ho1]
          · simp [e]
        refine codeYK.rangeG follows (st := st38) (plans := pl38) (places_iter pb pc q p s a (by omega) hat _) (by simp) (by simp) (by simp) (by kernel_rfl) (by kernel_rfl) (by kernel_rfl)
          (fun j ρ _ => ρ = ((σ5.upd pb [ptrA q]).upd pc [.lit (.int .i64 a)]).upd z (oP j)) (fun _ _ _ => False)
          _ hb0 (Store.sub_refl _) ?_ ?_ ?_ ?_
        · rintro j ρ E hk rfl
          refine ⟨by simp [hne, Ne.symm k1], by simp [Ne.symm k2], (((hP5.upd ⟨i1, i2⟩ _).upd ⟨j1, j2⟩ _).upd ⟨y1, y2⟩ _)⟩
        · rintro j hj ρ E2 rfl
          have hPj := ((hP5.upd ⟨i1, i2⟩ [ptrA q]).upd ⟨j1, j2⟩ [.lit (.int .i64 a)]).upd ⟨y1, y2⟩ (oP j)
          have hzj : (((σ5.upd pb [ptrA q]).upd pc [.lit (.int .i64 a)]).upd z (oP j)) z = some (oP j) := by simp
          have htj : (((σ5.upd pb [ptrA q]).upd pc [.lit (.int .i64 a)]).upd z (oP j)) bt = some [ptrA z] := by simp [t1, k5, k6, ht6]
          have hbj : (((σ5.upd pb [ptrA q]).upd pc [.lit (.int .i64 a)]).upd z (oP j)) bs = some [ptrA q] := by simp [Ne.symm z1, k3, k4, hb6]
          have hfinj : (((σ5.upd pb [ptrA q]).upd pc [.lit (.int .i64 a)]).upd z (oP j)).upd z (oP (j + 1)) = ((σ5.upd pb [ptrA q]).upd pc [.lit (.int .i64 a)]).upd z (oP (j + 1)) := by simp
          generalize ((σ5.upd pb [ptrA q]).upd pc [.lit (.int .i64 a)]).upd z (oP j) = σ6 at *
          rw [← hfinj]
          generalize hA : setPs _ [68] _ = A3
          have b10 : A3 10 = ptrA bt := by rw [← hA]; simp [a10]
          have b4 : A3 4 = ptrA bs := by rw [← hA]; simp [a4]
          have b68 : A3 68 = .lit (.int .i64 ((a + j + 1) % s.n : Nat)) := by rw [← hA]; simp
          clear hA hfinj hb0
          have hjl : j < (Sp.places s.cells a).length := by rw [places_length]; exact hj
          have hfj := flatMap_take (cellB s) (Sp.places s.cells a) j hjl
          rw [places_get, hln] at hfj
          have hmj : (a + j + 1) % s.n < s.n := Nat.mod_lt _ s.n_pos
          generalize (a + j + 1) % s.n = m at *
          have hatj := fun τ (hτ : Prg τ q p s) => at_calls hτ (m : Int)
          rw [at_of h.good hmj] at hatj
          have hso := fun τ (hτ : τ z = some (oP j)) => ssome_calls z (base ++ sbaB s a ++ ((Sp.places s.cells a).take j).flatMap (cellB s)) .zero mode hm (s.cells[m]?.getD .zero) (hsml j) τ (by rw [hτ, hoP])
          rw [List.append_assoc, show someB (s.cells[m]?.getD .zero) = cellB s m from rfl, ← hfj, ← hoP] at hso
          generalize s.cells[m]?.getD .zero = c at *
          rw [cellA_eq] at hso hatj
          simp [b10, b4, b68, htj, hbj]
          refine ⟨callK.of (hatj _ hPj) ?_, callK.of (hatj _ hPj) ?_⟩
          all_goals
            rintro v σ' ⟨rfl, rfl⟩
            simp [htj, b10]
            refine callK.of (hso _ hzj) ?_
            rintro v σ' ⟨rfl, rfl⟩
            simp
        · rintro ρ E2 σ2 hs2 rfl
          have hlen : oP (Sp.len s.cells a) = seO (base ++ fieldB s a) .zero mode := by
            rw [hoP, List.take_of_length_le (by rw [places_length]; exact Nat.le_refl _), fieldB_eq, List.append_assoc]
          rw [hlen] at hs2
          simp
          rw [← hfin4]
          refine Store.sub_trans ?_ hs2
          intro o
          simp only [supd_apply]
          by_cases e1 : o = z
          · right; simp [e1]
          · by_cases e2 : o = pc
            · subst e2; left; simp [e1, hpc]
            · by_cases e3 : o = pb
              · subst e3; left; simp [e1, hpb]
              · right; simp [e1, e2, e3]
        · rintro c ρ E2 σ2 hs2 hf
          exact hf.elim
      simp [ht5, hb5, a10, a4, a14, hi1]
      refine ⟨callK.of (hsz _ hP4) ?_, callK.of (hsz _ hP4) ?_⟩
      · rintro v σ' ⟨rfl, rfl⟩
        simp
        refine callK.of (hw _) ?_
        rintro v σ' ⟨rfl, rfl⟩
        simp
        refine callK.of (hsa _ hz5) ?_
        rintro v σ' ⟨rfl, rfl⟩
        simp
        exact hcont2 _ (by simp [a10]) (by simp [a4]) (by simp [a14])
      · rintro v σ' ⟨rfl, rfl⟩
        simp [ht5, a10]
        refine ⟨callK.of (hw _) ?_, callK.of (hw _) ?_⟩
        all_goals
          rintro v σ' ⟨rfl, rfl⟩
          simp [ht5, a10]
          refine callK.of (hsa _ hz5) ?_
          rintro v σ' ⟨rfl, rfl⟩
          simp
          exact hcont2 _ (by simp [a10]) (by simp [a4]) (by simp [a14])
    have e17 : bytesA base ++ [.lit (.int .u8 17)] = bytesA (base ++ [0x11]) := by rw [bytesA_append]; rfl
    have hse : seO (base ++ [0x11]) .zero mode = [.list true 1 (bytesA (base ++ [0x11])), byteA 0, .lit (.bool false), byteA 0, byteA 0, byteA 0, byteA 0, .lit (.int .i64 mode)] := rfl
    rw [hse] at hcont
    simp [hz4, ht3, hA10, hA48, t1, e17]
    have l1 : base.length ≤ 9223372036854775806 := by omega
    have l2 : base.length ≤ 140737488355327 := by omega
    simp only [l1, l2, true_and]
    exact ⟨⟨⟨hcont _ (by simp [hA10]) (by simp [hA4]) (by simp), hcont _ (by simp [hA10]) (by simp [hA4]) (by simp)⟩, hcont _ (by simp [hA10]) (by simp [hA4]) (by simp)⟩, hcont _ (by simp [hA10]) (by simp [hA4]) (by simp), hcont _ (by simp [hA10]) (by simp [hA4]) (by simp)⟩
  · rintro ρ E σ2 hs2 rfl
    have hz2 := sub_at (x := oK s.modified.length) (b := z) (by simp) hs2
    have ht2 := sub_at (x := [ptrA z]) (b := bt) (by simp [t1, Ne.symm v1]) hs2
    rw [hoK, List.take_length, ← hmb] at hz2
    unfold seO at hz2
    have hzn : Store.sub σ ((((σ.upd bs [ptrA q]).upd bt [ptrA z]).upd b2 [ptrA q]).upd z (oK s.modified.length)) := by (intro q; simp only [Store.upd, Store.del]; (repeat' split) <;> first | exact Or.inr rfl | exact Or.inl rfl | (exfalso; omega) | (left; subst_vars; assumption) | simp_all)
    simp [hz2, ht2]
    exact Store.sub_trans hzn hs2
  · rintro c ρ E σ2 hs2 hf
    exact hf.elim
end Go.Proofs.Ytnlggjbcdienfaa
/-
  What is modified, as it is sent: in short, and as it is asked for.
-/
namespace Go.Proofs.Ytnlggjbcdienfaa
open Go Go.AL Go.Sp

set_option maxRecDepth 8000 in
theorem modified_short {q p : Nat} {s : Sp} {σ : Store} (h : Prg σ q p s) (aid : UInt8) (mode : Nat) (hm : mode < 3) :
    ACalls Try.prog 38 [ptrA q, byteA aid, .lit (.int .i64 mode), .lit (.bool true)] σ fun v σ' => v = .tuple [.list false 1 (bytesA [aid]), .lit (.int .i64 0)] ∧ σ' = σ := by
  have hb := fun τ (hτ : Prg τ q p s) => begin_short hτ aid mode hm
  refine ACalls.of_awpY follows (st := st38) (plans := pl38) (n := 78) Try.func38 rfl (by kernel_rfl) (by kernel_rfl) (by kernel_rfl) ?_
  simp
  intro bs hbs
  obtain ⟨s1, s2, s3, s4⟩ := h.fresh hbs
  have hP1 := h.new hbs [ptrA q]
  refine callK.of (hb _ hP1) ?_
  rintro v σ' ⟨z, hz, rfl, rfl⟩
  have hP2 := hP1.new hz (seO [aid] .zero mode)
  simp only [supd_apply, ite_none] at hz
  obtain ⟨z1, hz⟩ := hz
  simp +contextual [ite_free]
  intro bt t1 t2 t3 t4 ht
  refine callK.of (bytesOf_calls z [aid] .zero mode _ (by simp [t2])) ?_
  rintro v σ' ⟨rfl, rfl⟩
  simp
  (intro q; simp only [Store.upd, Store.del]; (repeat' split) <;> first | exact Or.inr rfl | exact Or.inl rfl | (exfalso; omega) | (left; subst_vars; assumption) | simp_all)
theorem modified_calls {q p : Nat} {s : Sp} {σ : Store} (h : Prg σ q p s) (aid : UInt8) (mode : Nat) (hm : mode < 2) :
    ACalls Try.prog 38 [ptrA q, byteA aid, .lit (.int .i64 mode), .lit (.bool false)] σ fun v σ' => v = .tuple [.list false 1 (bytesA (modB s aid)), .lit (.int .i64 0)] ∧ σ' = σ := by
  by_cases hc : s.count = 0
  · exact modified_plain h aid mode hm hc
  · exact modified_fmt h aid mode hm (by omega)
set_option maxRecDepth 8000 in
theorem rmodified_calls {q p : Nat} {s : Sp} {σ : Store} (h : Prg σ q p s) (aid : UInt8) (mode : Nat) (hm : mode < 2) :
    ACalls Try.prog 11 [ptrA q, byteA aid, .lit (.int .i64 mode)] σ fun v σ' => v = .tuple [.list false 1 (bytesA (if isShort aid = true then [aid] else modB s aid)), .lit (.int .i64 0)] ∧ σ' = σ := by
  refine ACalls.of_awp follows (st := st11) (plans := pl11) (n := 16) Try.func11 rfl (by kernel_rfl) (by kernel_rfl) (by kernel_rfl) ?_
  have hs := short_calls aid
  by_cases ha : isShort aid = true
  · rw [ha] at hs
    simp
    refine callK.of (hs _) ?_
    rintro v σ' ⟨rfl, rfl⟩
    simp
    refine callK.of (modified_short h aid mode (by omega)) ?_
    rintro v σ' ⟨rfl, rfl⟩
    simp [ha]
  · rw [show isShort aid = false by simpa using ha] at hs
    simp
    refine callK.of (hs _) ?_
    rintro v σ' ⟨rfl, rfl⟩
    simp
    refine callK.of (modified_calls h aid mode hm) ?_
    rintro v σ' ⟨rfl, rfl⟩
    simp [ha]
set_option maxRecDepth 8000 in
theorem rall_calls {q p : Nat} {s : Sp} {σ : Store} (h : Prg σ q p s) (aid : UInt8) (mode : Nat) (hm : mode < 2) :
    ACalls Try.prog 18 [ptrA q, byteA aid, .lit (.int .i64 mode)] σ fun v σ' => v = .tuple [.list false 1 (bytesA (modB s aid)), .lit (.int .i64 0)] ∧ σ' = σ := by
  refine ACalls.of_awp follows (st := st18) (plans := pl18) (n := 14) Try.func18 rfl (by kernel_rfl) (by kernel_rfl) (by kernel_rfl) ?_
  simp
  refine callK.of (modified_calls h aid mode hm) ?_
  rintro v σ' ⟨rfl, rfl⟩
  simp
end Go.Proofs.Ytnlggjbcdienfaa
/-
  What is modified, as it is sent, in any mode: unformatted screens.
-/
namespace Go.Proofs.Ytnlggjbcdienfaa
open Go Go.AL Go.Sp

set_option maxRecDepth 8000 in
theorem modifiedX_plain {q p : Nat} {s : Sp} {σ : Store} (h : Prg σ q p s) (aid : UInt8) (mode : Nat) (hm : mode < 3) (hc : s.count = 0) :
    ACalls Try.prog 38 [ptrA q, byteA aid, .lit (.int .i64 mode), .lit (.bool false)] σ fun v σ' => v = .tuple [.list false 1 (bytesA (modX mode s aid).1), .lit (.int .i64 0)] ∧ σ' = σ := by
  have hb := fun τ (hτ : Prg τ q p s) => begin_long hτ aid mode hm
  have hfm := fun τ (hτ : Prg τ q p s) => formatted_calls hτ
  simp only [hc, show ¬ (0 < 0) by omega, decide_false] at hfm
  have hmb : modX mode s aid = s.cells.foldl (someX mode) (headB s aid, .zero) := by simp [modX, cellsX, hc]
  have hhl : (headB s aid).length = 3 := rfl
  have hln := h.good.len
  have hn := s.n_le
  refine ACalls.of_awpY follows (st := st38) (plans := pl38) (n := 78) Try.func38 rfl (by kernel_rfl) (by kernel_rfl) (by kernel_rfl) ?_
  simp
  intro bs hbs
  obtain ⟨s1, s2, s3, s4⟩ := h.fresh hbs
  have hP1 := h.new hbs [ptrA q]
  refine callK.of (hb _ hP1) ?_
  rintro v σ' ⟨z, hz, rfl, rfl⟩
  have hP2 := hP1.new hz (seO (headB s aid) .zero mode)
  simp only [supd_apply, ite_none] at hz
  obtain ⟨z1, hz⟩ := hz
  simp +contextual [ite_free, z1, Ne.symm z1]
  intro bt t1 t2 t3 t4 ht
  obtain ⟨u1, u2, u3, u4⟩ := h.fresh ht
  have hP3 := hP2.upd ⟨u1, u2⟩ [ptrA z]
  refine callK.of (hfm _ hP3) ?_
  rintro v σ' ⟨rfl, rfl⟩
  simp [t1, t2, t3, t4, z1, Ne.symm z1]
  refine callK.of (all_calls2 q _) ?_
  rintro v σ' ⟨b2, hb2, rfl, rfl⟩
  simp only [supd_apply, ite_none] at hb2
  obtain ⟨v1, v2, v3, hb2⟩ := hb2
  obtain ⟨w1, w2, w3, w4⟩ := h.fresh hb2
  obtain ⟨y1, y2, y3, y4⟩ := h.fresh hz
  simp
  have hbig : ∀ k, ((s.cells.take k).foldl (someX mode) (headB s aid, .zero)).1.length ≤ 1000000000 := fun k => by
    have h1 := foldl_length (someX mode) 10 (someX_length mode) (s.cells.take k) (headB s aid, .zero)
    have h2 : (s.cells.take k).length ≤ s.cells.length := by simp; omega
    dsimp only at h1
    omega
  obtain ⟨oK, hoK⟩ : ∃ f : Nat → List AV, ∀ k, f k = seX mode ((s.cells.take k).foldl (someX mode) (headB s aid, .zero)) := ⟨_, fun _ => rfl⟩
  have ho0 : seO (headB s aid) .zero mode = oK 0 := by rw [hoK]; rfl
  rw [ho0]
  refine codeYK.rangeG follows (st := st38) (plans := pl38) (all_iter b2 q p s _) (by simp) (by simp) (by simp [cellA]) (by kernel_rfl) (by kernel_rfl) (by kernel_rfl)
    (fun k ρ _ => ρ = (((σ.upd bt [ptrA z]).upd b2 [ptrA q])).upd z (oK k)) (fun _ _ _ => False)
    _ rfl ?_ ?_ ?_ ?_ ?_
  · (intro q; simp only [Store.upd, Store.del]; (repeat' split) <;> first | exact Or.inr rfl | exact Or.inl rfl | (exfalso; omega) | (left; subst_vars; assumption) | simp_all)
  · rintro k ρ E hk rfl
    refine ⟨by simp [v2, Ne.symm v2], ((h.upd ⟨u1, u2⟩ _).upd ⟨w1, w2⟩ _).upd ⟨y1, y2⟩ _⟩
  · rintro k hk ρ E rfl
    have hkc : k < s.cells.length := by omega
    have hat := at_of h.good hk
    have hcc : s.at (k : Int) = s.cells[k] := by rw [hat]; simp [hkc]
    have hft := foldl_take (someX mode) (headB s aid, .zero) s.cells k hkc
    have hso := fun τ (hτ : τ z = some (oK k)) => someX_calls z ((s.cells.take k).foldl (someX mode) (headB s aid, .zero)) mode hm s.cells[k] (hbig k) τ (by rw [hτ, hoK])
    rw [hcc]
    rw [← hft, ← hoK] at hso
    simp only [cellA_eq] at hso ⊢
    generalize s.cells[k] = c at *
    clear hbig hft hoK hat hcc hfm hb hmb
    have hz3 : (((σ.upd bt [ptrA z]).upd b2 [ptrA q]).upd z (oK k)) z = some (oK k) := by simp
    have ht3 : (((σ.upd bt [ptrA z]).upd b2 [ptrA q]).upd z (oK k)) bt = some [ptrA z] := by simp [t1, v1, Ne.symm v1]
    have hfin : (((σ.upd bt [ptrA z]).upd b2 [ptrA q]).upd z (oK k)).upd z (oK (k + 1)) = (((σ.upd bt [ptrA z]).upd b2 [ptrA q]).upd z (oK (k + 1))) := by simp
    generalize (((σ.upd bt [ptrA z]).upd b2 [ptrA q]).upd z (oK k)) = σ3 at *
    rw [← hfin]
    generalize hA : setPs _ [37, 38] _ = A1
    have hA10 : A1 10 = ptrA bt := by rw [← hA]; simp
    have hA38 : A1 38 = cellA c := by rw [← hA]; simp [cellA_eq]
    clear hA hP1 hP2 hP3 hfin
    simp +contextual [ite_free, hz3, ht3, hA10, hA38, cellA_eq]
    intro b hb
    have n1 : ¬ bt = b := fun e => by rw [e, hb] at ht3; cases ht3
    have n2 : ¬ z = b := fun e => by rw [e, hb] at hz3; cases hz3
    simp [n1, n2, hz3, ht3, hA10]
    refine callK.of (hso _ (by simp [n2, hz3])) ?_
    rintro v σ' ⟨rfl, rfl⟩
    simp
    exact sub_box hb n2 rfl
  · rintro ρ E σ2 hs2 rfl
    have hz2 := sub_at (x := oK s.n) (b := z) (by simp) hs2
    have ht2 := sub_at (x := [ptrA z]) (b := bt) (by simp [t1, v1, Ne.symm v1]) hs2
    rw [hoK, List.take_of_length_le (by omega), ← hmb] at hz2
    unfold seX seO at hz2
    have hzn : Store.sub σ (((σ.upd bt [ptrA z]).upd b2 [ptrA q]).upd z (oK s.n)) := by (intro q; simp only [Store.upd, Store.del]; (repeat' split) <;> first | exact Or.inr rfl | exact Or.inl rfl | (exfalso; omega) | (left; subst_vars; assumption) | simp_all)
    simp [hz2, ht2]
    exact Store.sub_trans hzn hs2
  · rintro c ρ E σ2 hs2 hf
    exact hf.elim
end Go.Proofs.Ytnlggjbcdienfaa
