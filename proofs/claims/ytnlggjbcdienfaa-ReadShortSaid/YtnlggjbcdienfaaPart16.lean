/-
  What is modified, as it is sent, in any mode: formatted screens.
-/
import Derived.Test.YtnlggjbcdienfaaPart15
namespace Go.Proofs.Ytnlggjbcdienfaa
open Go Go.AL Go.Sp

set_option maxRecDepth 8000 in
theorem modifiedX_fmt {q p : Nat} {s : Sp} {σ : Store} (h : Prg σ q p s) (aid : UInt8) (mode : Nat) (hm : mode < 3) (hc : 0 < s.count) :
    ACalls Try.prog 38 [ptrA q, byteA aid, .lit (.int .i64 mode), .lit (.bool false)] σ fun v σ' => v = .tuple [.list false 1 (bytesA (modX mode s aid).1), .lit (.int .i64 0)] ∧ σ' = σ := by
  have hb := fun τ (hτ : Prg τ q p s) => begin_long hτ aid mode hm
  have hfm := fun τ (hτ : Prg τ q p s) => formatted_calls hτ
  simp only [hc, decide_true] at hfm
  have hmb : modX mode s aid = s.modified.foldl (fieldX mode s) (headB s aid, .zero) := by simp [modX, show ¬ s.count = 0 by omega]
  have hhl : (headB s aid).length = 3 := rfl
  have hln := h.good.len
  have hn := s.n_le
  refine ACalls.of_awpY follows (st := st38) (plans := pl38) (n := 78) Try.func38 rfl (by kernel_rfl) (by kernel_rfl) (by kernel_rfl) ?_
  simp
  intro bs hbs
  obtain ⟨s1, s2, s3, s4⟩ := h.fresh hbs
  have hP1 := h.new hbs [ptrA q]
  refine callK.of (hb _ hP1) ?_
  rintro v σ' ⟨z, hz, rfl, rfl⟩
  have hP2 := hP1.new hz (seO (headB s aid) .zero mode)
  simp only [supd_apply, ite_none] at hz
  obtain ⟨z1, hz⟩ := hz
  simp +contextual [ite_free, Ne.symm z1]
  intro bt t1 t2 t3 t4 ht
  obtain ⟨u1, u2, u3, u4⟩ := h.fresh ht
  have hP3 := hP2.upd ⟨u1, u2⟩ [ptrA z]
  refine callK.of (hfm _ hP3) ?_
  rintro v σ' ⟨rfl, rfl⟩
  simp [t4, Ne.symm z1]
  refine callK.of (modified_calls2 q _) ?_
  rintro v σ' ⟨b2, hb2, rfl, rfl⟩
  simp only [supd_apply, ite_none] at hb2
  obtain ⟨v1, v2, v3, hb2⟩ := hb2
  obtain ⟨w1, w2, w3, w4⟩ := h.fresh hb2
  obtain ⟨y1, y2, y3, y4⟩ := h.fresh hz
  simp
  have hfl : ∀ x a, (fieldX mode s x a).1.length ≤ x.1.length + 36000 := fun x a => by
    have h1 := foldl_length (someX mode) 10 (someX_length mode) ((Sp.places s.cells a).map fun i => s.cells[i]?.getD .zero) (x.1 ++ sbaB s a, x.2)
    have h2 := len_le s.cells a
    rw [List.length_map, places_length] at h1
    simp only [List.length_append, sbaB_len] at h1
    show ((((Sp.places s.cells a).map fun i => s.cells[i]?.getD .zero).foldl (someX mode) (x.1 ++ sbaB s a, x.2)).1).length ≤ _
    omega
  have hbig : ∀ k, ((s.modified.take k).foldl (fieldX mode s) (headB s aid, .zero)).1.length ≤ 200000000 := fun k => by
    have h1 := foldl_length (fieldX mode s) 36000 hfl (s.modified.take k) (headB s aid, .zero)
    have h2 : (s.modified.take k).length ≤ s.modified.length := by simp; omega
    have h4 := modified_length s
    have h3 : (s.modified.take k).length * 36000 ≤ 3564 * 36000 := Nat.mul_le_mul_right 36000 (by omega)
    dsimp only at h1
    omega
  obtain ⟨oK, hoK⟩ : ∃ f : Nat → List AV, ∀ k, f k = seX mode ((s.modified.take k).foldl (fieldX mode s) (headB s aid, .zero)) := ⟨_, fun _ => rfl⟩
  have ho0 : seO (headB s aid) .zero mode = oK 0 := by rw [hoK]; rfl
  rw [ho0]
  refine codeYK.rangeG follows (st := st38) (plans := pl38) (modified_iter b2 q p s _) (by simp) (by simp) (by simp) (by kernel_rfl) (by kernel_rfl) (by kernel_rfl)
    (fun k ρ _ => ρ = ((((σ.upd bs [ptrA q]).upd bt [ptrA z]).upd b2 [ptrA q])).upd z (oK k)) (fun _ _ _ => False)
    _ rfl ?_ ?_ ?_ ?_ ?_
  · (intro q; simp only [Store.upd, Store.del]; (repeat' split) <;> first | exact Or.inr rfl | exact Or.inl rfl | (exfalso; omega) | (left; subst_vars; assumption) | simp_all)
  · rintro k ρ E hk rfl
    refine ⟨by simp [v2], (((h.upd ⟨s1, s2⟩ _).upd ⟨u1, u2⟩ _).upd ⟨w1, w2⟩ _).upd ⟨y1, y2⟩ _⟩
  · rintro k hk ρ E rfl
    have hPk : Prg (((((σ.upd bs [ptrA q]).upd bt [ptrA z]).upd b2 [ptrA q])).upd z (oK k)) q p s := (((h.upd ⟨s1, s2⟩ _).upd ⟨u1, u2⟩ _).upd ⟨w1, w2⟩ _).upd ⟨y1, y2⟩ _
    have hz3 : (((((σ.upd bs [ptrA q]).upd bt [ptrA z]).upd b2 [ptrA q])).upd z (oK k)) z = some (oK k) := by simp
    have ht3 : (((((σ.upd bs [ptrA q]).upd bt [ptrA z]).upd b2 [ptrA q])).upd z (oK k)) bt = some [ptrA z] := by simp [t1, Ne.symm v1]
    have hbs3 : (((((σ.upd bs [ptrA q]).upd bt [ptrA z]).upd b2 [ptrA q])).upd z (oK k)) bs = some [ptrA q] := by simp [Ne.symm z1, Ne.symm v3, t4]
    have hfin : (((((σ.upd bs [ptrA q]).upd bt [ptrA z]).upd b2 [ptrA q])).upd z (oK k)).upd z (oK (k + 1)) = ((((σ.upd bs [ptrA q]).upd bt [ptrA z]).upd b2 [ptrA q])).upd z (oK (k + 1)) := by simp
    generalize ((((σ.upd bs [ptrA q]).upd bt [ptrA z]).upd b2 [ptrA q])).upd z (oK k) = σ3 at *
    rw [← hfin]
    generalize hA : setPs _ [48] _ = A1
    have hA10 : A1 10 = ptrA bt := by rw [← hA]; simp
    have hA4 : A1 4 = ptrA bs := by rw [← hA]; simp
    have hA48 : A1 48 = .lit (.int .i64 (s.modified[k]?.getD 0 : Nat)) := by rw [← hA]; simp
    have hm0 : s.modified[k]?.getD 0 = s.modified[k] := by simp [hk]
    rw [hm0] at hA48
    have hmem : s.modified[k] ∈ s.modified := List.getElem_mem hk
    obtain ⟨hal, hat⟩ := mem_attrs (mem_modified hmem)
    have hft := foldl_take (fieldX mode s) (headB s aid, .zero) s.modified k hk
    generalize s.modified[k] = a at *
    clear hA hP1 hP2 hP3 hfin hfm hb hmb ho0 hm0 hmem
    rw [hoK] at hz3
    have hbk := hbig k
    have hfin2 : oK (k + 1) = seX mode (fieldX mode s ((s.modified.take k).foldl (fieldX mode s) (headB s aid, .zero)) a) := by rw [hoK, hft]
    rw [hfin2]
    generalize (s.modified.take k).foldl (fieldX mode s) (headB s aid, .zero) = x0 at *
    obtain ⟨base, lst⟩ := x0
    dsimp only at hbk
    have hfx : fieldX mode s (base, lst) a = ((Sp.places s.cells a).map fun i => s.cells[i]?.getD .zero).foldl (someX mode) (base ++ sbaB s a, lst) := rfl
    have hz4 : σ3 z = some [.list true 1 (bytesA base), byteA lst.char, .lit (.bool lst.attr), byteA lst.fa, byteA lst.high, byteA lst.color, byteA lst.set, .lit (.int .i64 mode)] := hz3
    have hlb : base.length < 1000000000 := by omega
    generalize hrest : Code.seq (Code.region 12 _ true) _ = rest
    have hcont : ∀ A' : Slots, A' 10 = ptrA bt → A' 4 = ptrA bs → A' 14 = .lit (.int .i64 a) → awpY Try.prog st38 pl38 78 rest (blockY 3 (roundQ (fun ρ x => ρ = σ3.upd z (seX mode (fieldX mode s (base, lst) a))) fun _ _ _ => False)) E A' (σ3.upd z (seO (base ++ [0x11]) lst mode)) := by
      intro A' a10 a4 a14
      rw [← hrest]
      clear hA10 hA4 hA48 hrest
      have hsz := fun τ (hτ : Prg τ q p s) => size_calls hτ
      have hw := fun τ => swrap_calls s ((a : Int) + 1) τ
      rw [show ((a : Int) + 1) = ((a + 1 : Nat) : Int) by omega, wrap_mod s.n_pos] at hw
      have hi1 : IntKind.i64.wrap ((a : Int) + 1) = ((a + 1 : Nat) : Int) := by rw [wrap_i64 (by omega) (by omega)]; omega
      have hml : (a + 1) % s.n < s.n := Nat.mod_lt _ s.n_pos
      have hsa := fun τ (hτ : τ z = some (seO (base ++ [0x11]) lst mode)) => saddr_calls z (base ++ [0x11]) lst mode ((a + 1) % s.n) (by omega) (by simp; omega) τ hτ
      rw [List.append_assoc, show [0x11] ++ encM ((a + 1) % s.n) = sbaB s a from rfl] at hsa
      generalize hrest2 : Code.seq (Code.region 13 _ false) _ = rest2
      have hP4 := hPk.upd ⟨y1, y2⟩ (seO (base ++ [0x11]) lst mode)
      have hz5 : (σ3.upd z (seO (base ++ [0x11]) lst mode)) z = some (seO (base ++ [0x11]) lst mode) := by simp
      have ht5 : (σ3.upd z (seO (base ++ [0x11]) lst mode)) bt = some [ptrA z] := by simp [t1, ht3]
      have hb5 : (σ3.upd z (seO (base ++ [0x11]) lst mode)) bs = some [ptrA q] := by simp [Ne.symm z1, hbs3]
      have hfin3 : ∀ x, (σ3.upd z (seO (base ++ [0x11]) lst mode)).upd z x = σ3.upd z x := by simp
      generalize σ3.upd z (seO (base ++ [0x11]) lst mode) = σ4 at *
      have hcont2 : ∀ A' : Slots, A' 10 = ptrA bt → A' 4 = ptrA bs → A' 14 = .lit (.int .i64 a) → awpY Try.prog st38 pl38 78 rest2 (blockY 3 (roundQ (fun ρ x => ρ = σ3.upd z (seX mode (fieldX mode s (base, lst) a))) fun _ _ _ => False)) E A' (σ4.upd z (seO (base ++ sbaB s a) lst mode)) := by
        intro A' a10 a4 a14
        rw [← hrest2]
        clear hsa hw hsz hz5
        have hP5 := hP4.upd ⟨y1, y2⟩ (seO (base ++ sbaB s a) lst mode)
        have ht6 : (σ4.upd z (seO (base ++ sbaB s a) lst mode)) bt = some [ptrA z] := by simp [t1, ht5]
        have hb6 : (σ4.upd z (seO (base ++ sbaB s a) lst mode)) bs = some [ptrA q] := by simp [Ne.symm z1, hb5]
        have hz6 : (σ4.upd z (seO (base ++ sbaB s a) lst mode)) z = some (seO (base ++ sbaB s a) lst mode) := by simp
        have hfin4 : ∀ x, (σ4.upd z (seO (base ++ sbaB s a) lst mode)).upd z x = σ3.upd z x := fun x => by rw [← hfin3 x]; simp
        generalize σ4.upd z (seO (base ++ sbaB s a) lst mode) = σ5 at *
        simp [hb6, a4, a14]
        refine callK.of (places_calls2 q (a : Int) _) ?_
        rintro v σ' ⟨pb, pc, hpb, hpc, hne, rfl, rfl⟩
        simp
        obtain ⟨i1, i2, i3, i4⟩ := hP5.fresh hpb
        obtain ⟨j1, j2, j3, j4⟩ := hP5.fresh hpc
        have nb : ∀ o x, σ5 o = some x → ¬ o = pb ∧ ¬ o = pc := fun o x hx => ⟨(fun e => by rw [e, hpb] at hx; cases hx), (fun e => by rw [e, hpc] at hx; cases hx)⟩
        obtain ⟨k1, k2⟩ := nb _ _ hz6
        obtain ⟨k3, k4⟩ := nb _ _ hb6
        obtain ⟨k5, k6⟩ := nb _ _ ht6
        obtain ⟨cs, hcs⟩ : ∃ cs, cs = (Sp.places s.cells a).map fun i => s.cells[i]?.getD .zero := ⟨_, rfl⟩
        have hcl : cs.length = Sp.len s.cells a := by rw [hcs, List.length_map, places_length]
        have hll := len_le s.cells a
        have hsml : ∀ j, ((cs.take j).foldl (someX mode) (base ++ sbaB s a, lst)).1.length ≤ 1000000000 := fun j => by
          have g1 := foldl_length (someX mode) 10 (someX_length mode) (cs.take j) (base ++ sbaB s a, lst)
          have g2 : (cs.take j).length ≤ cs.length := by simp; omega
          simp only [List.length_append, sbaB_len] at g1
          omega
        obtain ⟨oP, hoP⟩ : ∃ f : Nat → List AV, ∀ j, f j = seX mode ((cs.take j).foldl (someX mode) (base ++ sbaB s a, lst)) := ⟨_, fun _ => rfl⟩
        have ho1 : σ5 z = some (oP 0) := by rw [hz6, hoP]; rfl
        have hb0 : (σ5.upd pb [ptrA q]).upd pc [.lit (.int .i64 a)] = ((σ5.upd pb [ptrA q]).upd pc [.lit (.int .i64 a)]).upd z (oP 0) := by
          funext o
          simp only [supd_apply]
          by_cases e : o = z
          · subst e; simp [k1, k2, ho1]
          · simp [e]
        refine codeYK.rangeG follows (st := st38) (plans := pl38) (places_iter pb pc q p s a (by omega) hat _) (by simp) (by simp) (by simp) (by kernel_rfl) (by kernel_rfl) (by kernel_rfl)
          (fun j ρ _ => ρ = ((σ5.upd pb [ptrA q]).upd pc [.lit (.int .i64 a)]).upd z (oP j)) (fun _ _ _ => False)
          _ hb0 (Store.sub_refl _) ?_ ?_ ?_ ?_
        · rintro j ρ E hk rfl
          refine ⟨by simp [hne, Ne.symm k1], by simp [Ne.symm k2], (((hP5.upd ⟨i1, i2⟩ _).upd ⟨j1, j2⟩ _).upd ⟨y1, y2⟩ _)⟩
        · rintro j hj ρ E2 rfl
          have hPj := ((hP5.upd ⟨i1, i2⟩ [ptrA q]).upd ⟨j1, j2⟩ [.lit (.int .i64 a)]).upd ⟨y1, y2⟩ (oP j)
          have hzj : (((σ5.upd pb [ptrA q]).upd pc [.lit (.int .i64 a)]).upd z (oP j)) z = some (oP j) := by simp
          have htj : (((σ5.upd pb [ptrA q]).upd pc [.lit (.int .i64 a)]).upd z (oP j)) bt = some [ptrA z] := by simp [t1, k5, k6, ht6]
          have hbj : (((σ5.upd pb [ptrA q]).upd pc [.lit (.int .i64 a)]).upd z (oP j)) bs = some [ptrA q] := by simp [Ne.symm z1, k3, k4, hb6]
          have hfinj : (((σ5.upd pb [ptrA q]).upd pc [.lit (.int .i64 a)]).upd z (oP j)).upd z (oP (j + 1)) = ((σ5.upd pb [ptrA q]).upd pc [.lit (.int .i64 a)]).upd z (oP (j + 1)) := by simp
          generalize ((σ5.upd pb [ptrA q]).upd pc [.lit (.int .i64 a)]).upd z (oP j) = σ6 at *
          rw [← hfinj]
          generalize hA : setPs _ [68] _ = A3
          have b10 : A3 10 = ptrA bt := by rw [← hA]; simp [a10]
          have b4 : A3 4 = ptrA bs := by rw [← hA]; simp [a4]
          have b68 : A3 68 = .lit (.int .i64 ((a + j + 1) % s.n : Nat)) := by rw [← hA]; simp
          clear hA hfinj hb0
          have hjl : j < cs.length := by rw [hcl]; exact hj
          have hfj := foldl_take (someX mode) (base ++ sbaB s a, lst) cs j hjl
          have hcj : cs[j] = s.cells[(a + j + 1) % s.n]?.getD .zero := by
            subst hcs; rw [List.getElem_map, places_get, hln]
          rw [hcj] at hfj
          have hmj : (a + j + 1) % s.n < s.n := Nat.mod_lt _ s.n_pos
          generalize (a + j + 1) % s.n = m at *
          have hatj := fun τ (hτ : Prg τ q p s) => at_calls hτ (m : Int)
          rw [at_of h.good hmj] at hatj
          have hso := fun τ (hτ : τ z = some (oP j)) => someX_calls z ((cs.take j).foldl (someX mode) (base ++ sbaB s a, lst)) mode hm (s.cells[m]?.getD .zero) (hsml j) τ (by rw [hτ, hoP])
          rw [← hfj, ← hoP] at hso
          generalize s.cells[m]?.getD .zero = c at *
          rw [cellA_eq] at hso hatj
          simp [b10, b4, b68, htj, hbj]
          refine ⟨callK.of (hatj _ hPj) ?_, callK.of (hatj _ hPj) ?_⟩
          all_goals
            rintro v σ' ⟨rfl, rfl⟩
            simp [htj, b10]
            refine callK.of (hso _ hzj) ?_
            rintro v σ' ⟨rfl, rfl⟩
            simp
        · rintro ρ E2 σ2 hs2 rfl
          have hlen : oP (Sp.len s.cells a) = seX mode (fieldX mode s (base, lst) a) := by
            rw [hoP, ← hcl, List.take_length, hfx, hcs]
          rw [hlen] at hs2
          simp
          rw [← hfin4]
          refine Store.sub_trans ?_ hs2
          intro o
          simp only [supd_apply]
          by_cases e1 : o = z
          · right; simp [e1]
          · by_cases e2 : o = pc
            · subst e2; left; simp [e1, hpc]
            · by_cases e3 : o = pb
              · subst e3; left; simp [e1, hpb]
              · right; simp [e1, e2, e3]
        · rintro c ρ E2 σ2 hs2 hf
          exact hf.elim
      simp [ht5, hb5, a10, a4, a14, hi1]
      refine ⟨callK.of (hsz _ hP4) ?_, callK.of (hsz _ hP4) ?_⟩
      · rintro v σ' ⟨rfl, rfl⟩
        simp
        refine callK.of (hw _) ?_
        rintro v σ' ⟨rfl, rfl⟩
        simp
        refine callK.of (hsa _ hz5) ?_
        rintro v σ' ⟨rfl, rfl⟩
        simp
        exact hcont2 _ (by simp [a10]) (by simp [a4]) (by simp [a14])
      · rintro v σ' ⟨rfl, rfl⟩
        simp [ht5, a10]
        refine ⟨callK.of (hw _) ?_, callK.of (hw _) ?_⟩
        all_goals
          rintro v σ' ⟨rfl, rfl⟩
          simp [ht5, a10]
          refine callK.of (hsa _ hz5) ?_
          rintro v σ' ⟨rfl, rfl⟩
          simp
          exact hcont2 _ (by simp [a10]) (by simp [a4]) (by simp [a14])
    have e17 : bytesA base ++ [.lit (.int .u8 17)] = bytesA (base ++ [0x11]) := by rw [bytesA_append]; rfl
    have hse : seO (base ++ [0x11]) lst mode = [.list true 1 (bytesA (base ++ [0x11])), byteA lst.char, .lit (.bool lst.attr), byteA lst.fa, byteA lst.high, byteA lst.color, byteA lst.set, .lit (.int .i64 mode)] := rfl
    rw [hse] at hcont
    simp [hz4, ht3, hA10, hA48, t1, e17]
    have l1 : base.length ≤ 9223372036854775806 := by omega
    have l2 : base.length ≤ 140737488355327 := by omega
    simp only [l1, l2, true_and]
    exact ⟨⟨⟨hcont _ (by simp [hA10]) (by simp [hA4]) (by simp), hcont _ (by simp [hA10]) (by simp [hA4]) (by simp)⟩, hcont _ (by simp [hA10]) (by simp [hA4]) (by simp)⟩, hcont _ (by simp [hA10]) (by simp [hA4]) (by simp), hcont _ (by simp [hA10]) (by simp [hA4]) (by simp)⟩
  · rintro ρ E σ2 hs2 rfl
    have hz2 := sub_at (x := oK s.modified.length) (b := z) (by simp) hs2
    have ht2 := sub_at (x := [ptrA z]) (b := bt) (by simp [t1, Ne.symm v1]) hs2
    rw [hoK, List.take_length, ← hmb] at hz2
    unfold seX seO at hz2
    have hzn : Store.sub σ ((((σ.upd bs [ptrA q]).upd bt [ptrA z]).upd b2 [ptrA q]).upd z (oK s.modified.length)) := by (intro q; simp only [Store.upd, Store.del]; (repeat' split) <;> first | exact Or.inr rfl | exact Or.inl rfl | (exfalso; omega) | (left; subst_vars; assumption) | simp_all)
    simp [hz2, ht2]
    exact Store.sub_trans hzn hs2
  · rintro c ρ E σ2 hs2 hf
    exact hf.elim
end Go.Proofs.Ytnlggjbcdienfaa
/-
  What is modified, as it is asked for, in any mode.
-/
namespace Go.Proofs.Ytnlggjbcdienfaa
open Go Go.AL Go.Sp

theorem modifiedX_calls {q p : Nat} {s : Sp} {σ : Store} (h : Prg σ q p s) (aid : UInt8) (mode : Nat) (hm : mode < 3) :
    ACalls Try.prog 38 [ptrA q, byteA aid, .lit (.int .i64 mode), .lit (.bool false)] σ fun v σ' => v = .tuple [.list false 1 (bytesA (modX mode s aid).1), .lit (.int .i64 0)] ∧ σ' = σ := by
  by_cases hc : s.count = 0
  · exact modifiedX_plain h aid mode hm hc
  · exact modifiedX_fmt h aid mode hm (by omega)
set_option maxRecDepth 8000 in
theorem rmodifiedX_calls {q p : Nat} {s : Sp} {σ : Store} (h : Prg σ q p s) (aid : UInt8) (mode : Nat) (hm : mode < 3) :
    ACalls Try.prog 11 [ptrA q, byteA aid, .lit (.int .i64 mode)] σ fun v σ' => v = .tuple [.list false 1 (bytesA (if isShort aid = true then [aid] else (modX mode s aid).1)), .lit (.int .i64 0)] ∧ σ' = σ := by
  refine ACalls.of_awp follows (st := st11) (plans := pl11) (n := 16) Try.func11 rfl (by kernel_rfl) (by kernel_rfl) (by kernel_rfl) ?_
  have hs := short_calls aid
  by_cases ha : isShort aid = true
  · rw [ha] at hs
    simp
    refine callK.of (hs _) ?_
    rintro v σ' ⟨rfl, rfl⟩
    simp
    refine callK.of (modified_short h aid mode hm) ?_
    rintro v σ' ⟨rfl, rfl⟩
    simp [ha]
  · rw [show isShort aid = false by simpa using ha] at hs
    simp
    refine callK.of (hs _) ?_
    rintro v σ' ⟨rfl, rfl⟩
    simp
    refine callK.of (modifiedX_calls h aid mode hm) ?_
    rintro v σ' ⟨rfl, rfl⟩
    simp [ha]
set_option maxRecDepth 8000 in
theorem rallX_calls {q p : Nat} {s : Sp} {σ : Store} (h : Prg σ q p s) (aid : UInt8) (mode : Nat) (hm : mode < 3) :
    ACalls Try.prog 18 [ptrA q, byteA aid, .lit (.int .i64 mode)] σ fun v σ' => v = .tuple [.list false 1 (bytesA (modX mode s aid).1), .lit (.int .i64 0)] ∧ σ' = σ := by
  refine ACalls.of_awp follows (st := st18) (plans := pl18) (n := 14) Try.func18 rfl (by kernel_rfl) (by kernel_rfl) (by kernel_rfl) ?_
  simp
  refine callK.of (modifiedX_calls h aid mode hm) ?_
  rintro v σ' ⟨rfl, rfl⟩
  simp
end Go.Proofs.Ytnlggjbcdienfaa
/-
  What is sent begins with the AID and the cursor.
-/
namespace Go.Proofs.Ytnlggjbcdienfaa
open Go Go.AL Go.Sp

theorem foldl_head {α : Type} (f : Snd → α → Snd) (h : ∀ x a, ∃ r, (f x a).1 = x.1 ++ r) : ∀ (l : List α) (x : Snd), ∃ r, (l.foldl f x).1 = x.1 ++ r
  | [], x => ⟨[], by simp⟩
  | a :: l, x => by
    obtain ⟨r1, h1⟩ := h x a
    obtain ⟨r2, h2⟩ := foldl_head f h l (f x a)
    exact ⟨r1 ++ r2, by rw [List.foldl_cons, h2, h1, List.append_assoc]⟩
theorem someX_head (mode : Nat) (x : Snd) (c : Cell) : ∃ r, (someX mode x c).1 = x.1 ++ r := by
  unfold someX charX
  split
  · exact ⟨[], by simp⟩
  · split
    · exact ⟨_, rfl⟩
    · exact ⟨_, rfl⟩
theorem fieldX_head (mode : Nat) (s : Sp) (x : Snd) (a : Nat) : ∃ r, (fieldX mode s x a).1 = x.1 ++ r := by
  obtain ⟨r, h⟩ := foldl_head (someX mode) (someX_head mode) ((Sp.places s.cells a).map fun i => s.cells[i]?.getD .zero) (x.1 ++ (0x11 :: encM ((a + 1) % s.n)), x.2)
  exact ⟨_, by rw [fieldX, h, List.append_assoc]⟩
theorem modX_head (mode : Nat) (s : Sp) (aid : UInt8) : ∃ r, (modX mode s aid).1 = headB s aid ++ r := by
  unfold modX
  split
  · exact foldl_head _ (someX_head mode) _ _
  · exact foldl_head _ (fieldX_head mode s) _ _
end Go.Proofs.Ytnlggjbcdienfaa
/-
  Addresses of twelve bits, as the document reads them.
-/
namespace Go.Proofs.Ytnlggjbcdienfaa
open Go Go.AL Go.Sp

set_option maxRecDepth 4000 in
theorem runsix_calls (b : UInt8) (σ : Store) : ACalls Try.prog 46 [byteA b] σ fun v σ' => v = .lit (.int .i64 (unsix b)) ∧ σ' = σ := by
  refine ACalls.of_awp follows (st := st46) (plans := pl46) (n := 16) Try.func46 rfl (by kernel_rfl) (by kernel_rfl) (by kernel_rfl) ?_
  simp
  refine codeK.loop follows (st := st46) (plans := pl46) (X := Nat) (fun i => i ≤ 64 ∧ ∀ j, j < i → sixR j ≠ b)
    (fun i => [(0, byteA b), (3, .lit (.int .i64 i))]) (fun _ => σ) (fun i => 64 - i) 0 (by kernel_rfl) (by simp) (by simp) (by simp) fun i hi => ?_
  obtain ⟨hi, hk⟩ := hi
  by_cases hlt : i < 64
  · have hw : IntKind.i64.wrap ((i : Int) + 1) = ((i + 1 : Nat) : Int) := wrap_i64 (by omega) (by omega)
    have hlt' : (i : Int) < 64 := by omega
    have hs := six4_calls i (by omega)
    rw [six_small hlt] at hs
    have hf := fun h => unsix_found (b := b) hlt h hk
    have hstep : sixR i ≠ b → ∀ j, j < i + 1 → sixR j ≠ b := fun hne j hj => by
      by_cases hji : j = i
      · subst hji; exact hne
      · exact hk j (by omega)
    generalize sixR i = x at *
    by_cases he : x = b
    · have hf' := hf he
      subst he
      simp [hlt']
      refine callK.of (hs σ) ?_
      rintro v σ' ⟨rfl, rfl⟩
      simp [byteA, hf']
    · have he' : ¬ (x.toNat : Int) = (b.toNat : Int) := fun h => he (UInt8.toNat_inj.1 (by omega))
      simp [hlt']
      refine callK.of (hs σ) ?_
      rintro v σ' ⟨rfl, rfl⟩
      simp [byteA, he']
      exact ⟨i + 1, ⟨by omega, hstep he⟩, by omega, by rw [hw]; exact AV.le_refl _⟩
  · obtain rfl : i = 64 := by omega
    have hn := unsix_none hk
    have ht : (b.toNat : Int).tmod 64 = ((unsix b : Nat) : Int) := by rw [hn]; rfl
    have hw : IntKind.i64.wrap ((unsix b : Nat) : Int) = ((unsix b : Nat) : Int) := wrap_i64 (by omega) (by have := unsix_lt b; omega)
    simp [byteA, wrapB, ht, hw]

set_option maxRecDepth 8000 in
theorem rdec_core (o : Bool) (a b : UInt8) (L : List AV) (x y : Nat) (hx : x < 64) (hy : y < 64) (gl0 : 0 < L.length) (gl1 : 1 < L.length) (e0 : L[0] = byteA a) (e1 : L[1] = byteA b) (h64 : ¬ a.toNat < 64) (h2 : a.toNat < 128 ∨ 192 ≤ a.toNat)
    (s1 : ∀ σ, ACalls Try.prog 46 [byteA a] σ fun v σ' => v = .lit (.int .i64 x) ∧ σ' = σ) (s2 : ∀ σ, ACalls Try.prog 46 [byteA b] σ fun v σ' => v = .lit (.int .i64 y) ∧ σ' = σ) (σ : Store) :
    ACalls Try.prog 19 [.lit (.int .i64 12), .list o 1 L] σ fun v σ' => v = .tuple [.lit (.int .i64 (x * 64 + y : Nat)), .lit (.int .i64 0)] ∧ σ' = σ := by
  have gl2 : ¬ ((L.length : Int) < 2) := by omega
  have wa := wrapB a
  have wb := wrapB b
  have hb := b.toNat_lt
  have ha := a.toNat_lt
  have w1 : IntKind.i64.wrap (256 * (a.toNat : Int)) = 256 * (a.toNat : Int) := wrap_i64 (by omega) (by omega)
  have w2 : IntKind.i64.wrap (256 * (a.toNat : Int) + (b.toNat : Int)) = 256 * (a.toNat : Int) + (b.toNat : Int) := wrap_i64 (by omega) (by omega)
  have w3 : IntKind.i64.wrap (64 * (x : Int)) = 64 * (x : Int) := wrap_i64 (by omega) (by omega)
  have w4 : IntKind.i64.wrap (64 * (x : Int) + (y : Int)) = ((x * 64 + y : Nat) : Int) := by rw [wrap_i64 (by omega) (by omega)]; omega
  have h64' : ¬ (a.toNat : Int) < 64 := by omega
  refine ACalls.of_awp follows (st := st19) (plans := pl19) (n := 59) Try.func19 rfl (by kernel_rfl) (by kernel_rfl) (by kernel_rfl) ?_
  by_cases h3 : 128 ≤ a.toNat
  · have h3' : (128 : Int) ≤ a.toNat := by omega
    have h4 : ¬ a.toNat < 192 := by omega
    have h4' : ¬ (a.toNat : Int) < 192 := by omega
    simp [gl2, gl0, gl1, e0, e1, byteA, wa, wb, w1, w2, h64, h64', h3, h3', h4, h4']
    refine ⟨callK.of (s1 _) ?_, callK.of (s1 _) ?_⟩
    all_goals
      rintro v σ' ⟨rfl, rfl⟩
      simp [w3]
      refine callK.of (s2 _) ?_
      rintro v σ' ⟨rfl, rfl⟩
      simp [w4]
  · have h3' : ¬ (128 : Int) ≤ a.toNat := by omega
    simp [gl2, gl0, gl1, e0, e1, byteA, wa, wb, w1, w2, h64, h64', h3, h3']
    refine ⟨callK.of (s1 _) ?_, callK.of (s1 _) ?_⟩
    all_goals
      rintro v σ' ⟨rfl, rfl⟩
      simp [w3]
      refine callK.of (s2 _) ?_
      rintro v σ' ⟨rfl, rfl⟩
      simp [w4]
theorem rdec_enc (o : Bool) (n : Nat) (hn : n < 4096) (r : List UInt8) (σ : Store) : ACalls Try.prog 19 [.lit (.int .i64 12), .list o 1 (bytesA (encM n ++ r))] σ fun v σ' => v = .tuple [.lit (.int .i64 n), .lit (.int .i64 0)] ∧ σ' = σ := by
  have hx : n / 64 < 64 := by omega
  have hy : n % 64 < 64 := by omega
  have u1 := unsix_six ⟨n / 64, hx⟩
  have u2 := unsix_six ⟨n % 64, hy⟩
  have t1 := six_top ⟨n / 64, hx⟩
  dsimp only at u1 u2 t1
  have s1 := runsix_calls (sixR (n / 64))
  have s2 := runsix_calls (sixR (n % 64))
  rw [u1] at s1
  rw [u2] at s2
  have e1 : six (n / 64) = sixR (n / 64) := six_small hx
  have e2 : six n = sixR (n % 64) := rfl
  have hnn : n / 64 * 64 + n % 64 = n := by omega
  have h := rdec_core o (sixR (n / 64)) (sixR (n % 64)) (bytesA (sixR (n / 64) :: sixR (n % 64) :: r)) (n / 64) (n % 64) hx hy (by simp) (by simp) rfl rfl (by omega) (by omega) s1 s2 σ
  rw [hnn] at h
  rw [encM, e1, e2]
  exact h
end Go.Proofs.Ytnlggjbcdienfaa
/-
  The document's example.
-/
namespace Go.Proofs.Ytnlggjbcdienfaa
open Go Go.AL Go.Sp

def exActs : List Sp.Act := [⟨3, 0, false, 1, .zero, []⟩, ⟨5, 1, false, 0, .zero, [0xc1, 0, 0xc2]⟩, ⟨1, 2, false, 0, .zero, []⟩]
def exRest : List Cell := [{ char := 0xc1 }, .zero, { char := 0xc2 }] ++ List.replicate 1916 .zero
theorem ex_cells : (Sp.lays 0 exActs).cells = { attr := true, fa := 1 } :: exRest := by decide +kernel
theorem ex_cursor : (Sp.lays 0 exActs).cursor = 2 := by decide +kernel
theorem ex_n : (Sp.lays 0 exActs).n = 1920 := by decide +kernel
theorem ex_free : ∀ c ∈ exRest, c.attr = false := by
  intro c hc
  simp only [exRest, List.mem_append, List.mem_replicate] at hc
  rcases hc with hc | ⟨_, rfl⟩
  · simp at hc; rcases hc with rfl | rfl | rfl <;> rfl
  · rfl
theorem ex_attrs {a0 : Cell} {rest : List Cell} (h : a0.attr = true) (hr : ∀ c ∈ rest, c.attr = false) (s : Sp) (hs : s.cells = a0 :: rest) : s.attrs = [0] := by
  unfold Sp.attrs
  rw [hs, List.length_cons, List.range_succ_eq_map, List.filter_cons]
  simp [h]
  intro i hi
  have h2 : rest[i]? = some rest[i] := by simp [hi]
  rw [h2]; exact hr _ (List.getElem_mem hi)
theorem fieldB_cells (s : Sp) (a : Nat) (ha : attrAt s.cells a = true) (hal : a < s.cells.length) : fieldB s a = sbaB s a ++ (Sp.fieldCells s.cells a).flatMap someB := by
  rw [fieldB_eq, ← Sp.fieldCells_eq ha hal, List.flatMap_map]; rfl
theorem ex_takeWhile {rest : List Cell} (hr : ∀ c ∈ rest, c.attr = false) : rest.takeWhile (fun c => !c.attr) = rest := by
  induction rest with
  | nil => rfl
  | cons c l ih => simp [hr c (by simp), ih fun d hd => hr d (by simp [hd])]
theorem ex_modB : modB (Sp.lays 0 exActs) 0x7d = [0x7d, 0x40, 0xc2, 0x11, 0x40, 0xc1, 0xc1, 0xc2] := by
  have hat := ex_attrs rfl ex_free _ ex_cells
  have hm : (Sp.lays 0 exActs).modified = [0] := by
    unfold Sp.modified; rw [hat, ex_cells]; rfl
  have hc : ¬ (Sp.lays 0 exActs).count = 0 := by unfold Sp.count; rw [ex_cells]; simp
  have hf : fieldB (Sp.lays 0 exActs) 0 = [0x11, 0x40, 0xc1, 0xc1, 0xc2] := by
    rw [fieldB_cells _ _ (by rw [ex_cells]; rfl) (by rw [ex_cells]; simp), ex_cells]
    have e1 : Sp.fieldCells ({ attr := true, fa := 1 } :: exRest) 0 = exRest := by
      simp only [Sp.fieldCells, Sp.rot, List.drop_succ_cons, List.drop_zero, List.take_zero, List.append_nil]
      exact ex_takeWhile ex_free
    rw [e1, sbaB, ex_n]
    have e2 : exRest.flatMap someB = [0xc1, 0xc2] := by
      rw [exRest, List.flatMap_append, List.flatMap_replicate]
      have : someB .zero = [] := rfl
      rw [this]
      simp only [List.flatMap_cons, List.flatMap_nil, List.append_nil, List.flatten_replicate_nil]
      rfl
    rw [e2]; rfl
  rw [modB, bodyB, if_neg hc, hm, headB, ex_cursor]
  simp only [List.flatMap_cons, List.flatMap_nil, hf]
  rfl
theorem both_sub {σ : Store} {q p x y : Nat} {s t : Sp} (h : Four σ q p x y) : Store.sub σ (both σ q p x y s t) := by
  intro o
  by_cases h1 : o = q
  · left; rw [h1]; exact h.q0
  by_cases h2 : o = p
  · left; rw [h2]; exact h.p0
  by_cases h3 : o = x
  · left; rw [h3]; exact h.x0
  by_cases h4 : o = y
  · left; rw [h4]; exact h.y0
  right; simp [both, putS, h1, h2, h3, h4]
set_option maxRecDepth 8000 in
theorem awake_calls (σ : Store) : ACalls Try.prog 7 [] σ fun v σ' => v = .lit (.bool true) ∧ σ' = σ := by
  have hl := fun τ => lay_calls 0 exActs (by decide) (by decide) τ
  refine ACalls.of_awp follows (st := st7) (plans := pl7) (n := 26) Try.func7 rfl (by kernel_rfl) (by kernel_rfl) (by kernel_rfl) ?_
  simp
  refine callK.le (args' := [byteA 0, .list false 11 (actsA exActs)]) ⟨AV.le_refl _, AV.le_list _ _ _, trivial⟩ (hl _) ?_
  rintro v σ' ⟨q, p, x, y, rfl, h4, rfl⟩
  have hg := lays_good 0 exActs
  have hm := rmodified_calls (both_prg (t := Sp.lays 0 exActs) h4 hg) 0x7d 0 (by omega)
  have hsub : Store.sub σ (both σ q p x y (Sp.lays 0 exActs) (Sp.lays 0 exActs)) := both_sub h4
  have hsh : isShort 0x7d = false := by decide
  rw [hsh, ex_modB] at hm
  simp
  refine callK.of hm ?_
  rintro v σ' ⟨rfl, rfl⟩
  simp
  refine callK.le (args' := [.list false 1 (bytesA [0x7d, 0x40, 0xc2, 0x11, 0x40, 0xc1, 0xc1, 0xc2]), .list false 1 (bytesA [0x7d, 0x40, 0xc2, 0x11, 0x40, 0xc1, 0xc1, 0xc2])]) ⟨AV.le_refl _, AV.le_list _ _ _, trivial⟩ (same_calls _ _ _ _ _) ?_
  rintro v σ' ⟨rfl, rfl⟩
  simp
  exact hsub
end Go.Proofs.Ytnlggjbcdienfaa
/-
  Arguments opened.
-/
namespace Go.Proofs.Ytnlggjbcdienfaa
open Go Go.AL Go.Sp
theorem open_bytes : Opens Try.prog 31 (fun l : List UInt8 => [.list false 1 (bytesA l)]) (fun l => l.length ≤ maxLen) :=
  (Opens.slice Try.underlying31 (sz := 1) (by kernel_rfl) (by omega) (Opens.u8 Try.underlying5) byteA (fun _ => rfl) (fun _ => rfl)).by id fun _ h => ⟨h.1, rfl⟩
theorem open_cell : Opens Try.prog 48 (fun c : Cell => cellC c) (fun _ => True) :=
  (Opens.struct (total := 6) Try.underlying48 (by kernel_rfl)
    (.cons (k := 1) rfl (by kernel_rfl) (by omega) (Opens.u8 Try.underlying5) (.cons (k := 1) rfl (by kernel_rfl) (by omega) (Opens.bool Try.underlying4) (.cons (k := 1) rfl (by kernel_rfl) (by omega) (Opens.u8 Try.underlying5)
      (.cons (k := 1) rfl (by kernel_rfl) (by omega) (Opens.u8 Try.underlying5) (.cons (k := 1) rfl (by kernel_rfl) (by omega) (Opens.u8 Try.underlying5) (.cons (k := 1) rfl (by kernel_rfl) (by omega) (Opens.u8 Try.underlying5) .nil))))))).by
    (fun x => ⟨x.1, x.2.1, x.2.2.1, x.2.2.2.1, x.2.2.2.2.1, x.2.2.2.2.2.1⟩) fun _ _ => ⟨trivial, rfl⟩
theorem open_act : Opens Try.prog 76 (fun a : Sp.Act => actC a) (fun a => a.text.length ≤ maxLen) :=
  (Opens.struct (total := 11) Try.underlying76 (by kernel_rfl)
    (.cons (k := 1) rfl (by kernel_rfl) (by omega) (Opens.u8 Try.underlying5) (.cons (k := 1) rfl (by kernel_rfl) (by omega) (Opens.i64 Try.underlying3) (.cons (k := 1) rfl (by kernel_rfl) (by omega) (Opens.bool Try.underlying4)
      (.cons (k := 1) rfl (by kernel_rfl) (by omega) (Opens.u8 Try.underlying5) (.cons (k := 6) rfl (by kernel_rfl) (by omega) open_cell (.cons (k := 1) rfl (by kernel_rfl) (by omega) open_bytes .nil))))))).by
    (fun x => ⟨x.1, x.2.1, x.2.2.1, x.2.2.2.1, x.2.2.2.2.1, x.2.2.2.2.2.1⟩) fun _ h => ⟨h.2.2.2.2.2.1, rfl⟩
theorem open_acts : Opens Try.prog 22 (fun l : List Sp.Act => [.list false 11 (actsA l)]) (fun l => l.length ≤ maxLen ∧ ∀ a ∈ l, a.text.length ≤ maxLen) :=
  Opens.slice Try.underlying22 (by kernel_rfl) (by omega) open_act actA (fun _ => rfl) (fun _ => rfl)
end Go.Proofs.Ytnlggjbcdienfaa
/-
  Of a short AID a Read Modified is the AID alone; of other AIDs both reads are the same.
-/
namespace Go.Proofs.Ytnlggjbcdienfaa
open Go Go.AL Go.Sp

set_option maxRecDepth 8000 in
set_option maxHeartbeats 1000000 in
theorem readShort_law (m : UInt8) (l : List Sp.Act) (aid mo : UInt8) (hl : l.length ≤ maxLen) (ht : ∀ a ∈ l, a.text.length ≤ maxLen) (σ : Store) : ACalls Try.prog 4 [byteA m, .list false 11 (actsA l), byteA aid, byteA mo] σ fun v _ => v = .lit (.bool true) := by
  have hlay := fun τ => lay_calls m l (Nat.le_trans hl (by decide)) (fun a ha => Nat.le_trans (ht a ha) (by decide)) τ
  have hgood := lays_good m l
  have hmo : IntKind.i64.wrap ((mo.toNat : Int).tmod 3) = ((mo.toNat % 3 : Nat) : Int) := by
    have e : (mo.toNat : Int).tmod 3 = ((mo.toNat % 3 : Nat) : Int) := rfl
    rw [e, wrap_i64 (by omega) (by omega)]
  refine ACalls.of_awp follows (st := st4) (plans := pl4) (n := 81) Try.func4 rfl (by kernel_rfl) (by kernel_rfl) (by kernel_rfl) ?_
  simp
  refine callK.of (awake_calls _) ?_
  rintro v σ' ⟨rfl, rfl⟩
  simp
  refine callK.of (hlay _) ?_
  rintro v σ1 ⟨q, p, x, y, rfl, h4, rfl⟩
  have hR := both_ref (s := Sp.lays m l) h4 hgood
  have hP := both_prg (t := Sp.lays m l) h4 hgood
  generalize Sp.lays m l = s at *
  generalize both σ' q p x y s s = τ at *
  have hn := s.n_le
  have hro := hR.obj
  unfold rfO at hro
  have hm := rmodifiedX_calls hP aid (mo.toNat % 3) (by omega)
  have ha := rallX_calls hP aid (mo.toNat % 3) (by omega)
  obtain ⟨r, hr⟩ := modX_head (mo.toNat % 3) s aid
  have hh : (modX (mo.toNat % 3) s aid).1 = aid :: (encM s.cursor ++ r) := by rw [hr]; rfl
  have hcu := hgood.cursor
  have hlen : ¬ (modX (mo.toNat % 3) s aid).1.length < 3 := by rw [hr, List.length_append, show (headB s aid).length = 3 from rfl]; omega
  generalize (modX (mo.toNat % 3) s aid).1 = b at *
  have hsh := rshort_calls aid
  have hlen' : ¬ (b.length : Int) < 3 := by omega
  have hd : (List.take b.length (bytesA b)).tail = bytesA (encM s.cursor ++ r) := by rw [← bytesA_length b, List.take_length, hh]; rfl
  have hb1 : 1 ≤ b.length := by omega
  simp [byteA, hmo]
  refine callK.of hm ?_
  rintro v σ1 ⟨rfl, rfl⟩
  simp
  refine callK.of ha ?_
  rintro v σ2 ⟨rfl, rfl⟩
  by_cases hs : isShort aid = true
  · rw [hs] at hsh
    simp [hlen']
    refine callK.of (hsh _) ?_
    rintro v σ3 ⟨rfl, rfl⟩
    simp [hs]
    refine callK.le (args' := [.list false 1 (bytesA [aid]), .list false 1 (bytesA [aid])]) ⟨AV.le_refl _, AV.le_list _ _ _, trivial⟩ (same_calls _ _ _ _ _) ?_
    rintro v σ4 ⟨rfl, rfl⟩
    simp
    exact ⟨_, Store.sub_refl _⟩
  · rw [show isShort aid = false by simpa using hs] at hsh
    simp [hlen']
    refine callK.of (hsh _) ?_
    rintro v σ3 ⟨rfl, rfl⟩
    simp [hs, hb1, hd]
    refine callK.of (rdec_enc _ s.cursor (by omega) r _) ?_
    rintro v σ4 ⟨rfl, rfl⟩
    simp
    refine callK.of (same_calls _ _ _ _ _) ?_
    rintro v σ4 ⟨rfl, rfl⟩
    simp [hro]
    exact ⟨_, Store.sub_refl _⟩
end Go.Proofs.Ytnlggjbcdienfaa
