/-
  TapeTexts: all lines.
-/
import Derived.Test.YtheldoijfnigoaaDoorTPart14
import Derived.Test.YtheldoijfnigoaaDoorRows
import Derived.Lay
import Derived.LaidMore
import Derived.Lib.LaidTab
import Derived.Stop.LaidErr
set_option linter.unusedSimpArgs false
set_option linter.unusedVariables false
namespace Go.Proofs.YtheldoijfnigoaaDoor
open Go Go.AL Go.RowKit
set_option maxHeartbeats 2000000 in
set_option maxRecDepth 100000 in
theorem oString0 (b : Nat) (p : Value) (w : World) (h : BldW w b p (.slice none 0 0) []) :
    Calls Tryd.prog 30 #[.pointer (some ⟨b, 0, none⟩)] w fun e w' => e = .returned (.string ⟨#[]⟩) ∧ OnlyW b (.slice none 0 0) w w' := by
  have hbk := h.blk
  have c1 : w.drew.cell? ⟨b, 1, none⟩ = some (.slice none 0 0) := by
    have : w.drew.heap[b]? = some (.cells #[p, .slice none 0 0] 74 (0, 0)) := hbk
    rw [Lib.cell_of_heap this]; rfl
  have hSD : (Builtin.unsafeSliceData_ #[33] 95 #[.slice none 0 0]).run Tryd.prog w.drew = .ok (.pointer none) w.drew := Lib.run_unsafeSliceData_nil _ _ _ _ _
  have hUS : (Builtin.unsafeString_ #[95, 3] 9 #[.pointer none, .int .i64 0]).run Tryd.prog w.drew = .ok (.string .empty) w.drew := Lib.run_unsafeString_none _ _ _ _ _
  go_enter Tryd.func30, Tryd.ntmps30
  go_wp2
  go_region
  all_goals
    go_wp2
    go_ret
    exact ⟨rfl, ⟨rfl, rfl, rfl, Nat.le_refl _, fun _ _ _ _ => rfl⟩⟩
variable [Errs]
set_option linter.unusedSectionVars false
theorem bstr0_calls (z : Nat) (p : Value) (σ : Store) (hO : BldOk z [] σ (.nil p)) : ACalls Tryd.prog 30 [ptrA z] (bldS z (.nil p) σ) fun v σ' => v = .lit (.string ⟨#[]⟩) ∧ σ' = σ := by
  intro D G w cargs hl' hargs hW hfresh
  obtain ⟨c0, rfl⟩ := bargs1 (by simpa using hl')
  have h0 := (hargs 0 _ c0 rfl rfl).1.lit_eq rfl
  subst h0
  obtain ⟨hb, hp, hW0, hB⟩ := bldW_get hO hW
  refine (oString0 z _ w hb).mono ?_
  rintro e w' ⟨rfl, q⟩
  obtain ⟨r1, r2⟩ := only_WR hW0 hB hfresh q
  exact ⟨_, _, G, _, rfl, ⟨rfl, rfl⟩, .lit _, OwnAt.of_plain rfl, r1, r2⟩

def txts (l : List Stp) : List UInt8 := l.flatMap fun x => (lineX x).1 ++ [10]
def okX (l : List Stp) : Bool := l.all fun x => decide ((lineX x).2 = 0)
def textX (l : List Stp) : List UInt8 × Int := if okX l = true then (txts l, 0) else ([], 1)
theorem lineX_err (x : Stp) : (lineX x).2 = 0 ∨ (lineX x).2 = 1 := by
  unfold lineX
  split
  · exact .inl rfl
  · split
    · exact .inl rfl
    · exact .inr rfl
theorem txts_snoc (l : List Stp) (x : Stp) : txts (l ++ [x]) = txts l ++ ((lineX x).1 ++ [10]) := by simp [txts]
theorem okX_snoc (l : List Stp) (x : Stp) : okX (l ++ [x]) = (okX l && decide ((lineX x).2 = 0)) := by simp [okX]
theorem okX_pre (l : List Stp) (k : Nat) (h : okX (l.take k) = false) : okX l = false := by
  unfold okX at *
  rw [List.all_eq_false] at *
  obtain ⟨x, h1, h2⟩ := h
  exact ⟨x, List.mem_of_mem_take h1, h2⟩
/-- Few steps, none of them great. -/
def Fews (l : List Stp) : Prop := l.length ≤ 15 ∧ ∀ x ∈ l, x.bytes.length ≤ 400 ∧ StpOk x
theorem lineX_len {x : Stp} (hb : x.bytes.length ≤ 400) (h : StpOk x) : (lineX x).1.length ≤ 1000 := by
  have h1 := shownL_len x.bytes
  have h2 := keyX_len h
  unfold lineX
  repeat' split
  all_goals (try simp)
  all_goals omega
theorem txts_len {l : List Stp} (h : ∀ x ∈ l, x.bytes.length ≤ 400 ∧ StpOk x) : (txts l).length ≤ 1001 * l.length := by
  induction l with
  | nil => simp [txts]
  | cons x l ih =>
    have h1 := lineX_len (h x (by simp)).1 (h x (by simp)).2
    have h2 := ih fun y hy => h y (by simp [hy])
    simp only [txts, List.flatMap_cons, List.length_append, List.length_cons, List.length_nil] at h2 ⊢
    omega
set_option maxRecDepth 8000 in
set_option maxHeartbeats 1000000 in
theorem rtext_calls (l : List Stp) (h : Fews l) (o : Bool) (σ : Store) :
    ACalls Tryd.prog 16 [.list o 5 (stpsA l)] σ fun v σ' => v = .tuple [.lit (.string (toB (textX l).1)), .lit (.int .i64 (textX l).2)] ∧ σ' = σ := by
  obtain ⟨hl, hx⟩ := h
  refine ACalls.of_awp follows (st := st16) (plans := pl16) (n := 29) Tryd.func16 rfl (by kernel_rfl) (by kernel_rfl) (by kernel_rfl) ?_
  have h0 : (⟨#[]⟩ : ByteArray) = toB [] := rfl
  simp [h0]
  refine codeK.loop follows (st := st16) (plans := pl16) (X := Nat) (fun k => k ≤ l.length ∧ okX (l.take k) = true)
    (fun k => [(4, .lit (.string (toB (txts (l.take k))))), (9, .list false 5 (stpsA l)), (10, .lit (.int .i64 l.length)), (11, .lit (.int .i64 k))]) (fun _ => σ) (fun k => l.length - k) 0 (by kernel_rfl)
    (by simp [okX]) (by simp [txts]) (Store.sub_refl _) fun k hk => ?_
  obtain ⟨hk, hok⟩ := hk
  by_cases hlt : k < l.length
  · obtain ⟨x, hxe⟩ : ∃ x, l[k]'hlt = x := ⟨_, rfl⟩
    have htk : l.take (k + 1) = l.take k ++ [x] := by rw [List.take_succ_eq_append_getElem hlt, hxe]
    have hg : (stpsA l)[k]? = some (stpA x) := by simp [stpsA, hlt, hxe]
    have hg2 : ∀ h, (stpsA l)[k]'h = stpA x := fun h => by simp [stpsA, hxe]
    have hlw : IntKind.i64.wrap ((k : Int) + 1) = ((k + 1 : Nat) : Int) := wrap_i64 (by omega) (by omega)
    obtain ⟨hxb, hxo⟩ := hx x (by rw [← hxe]; exact List.getElem_mem _)
    have hln := fun τ => rlineX_calls x hxo (by omega) τ
    have hll := lineX_len hxb hxo
    have htl := txts_len (l := l.take k) fun y hy => hx y (List.mem_of_mem_take hy)
    have htn : (l.take k).length ≤ 15 := by rw [List.length_take]; omega
    have hsn := txts_snoc (l.take k) x
    have hos := okX_snoc (l.take k) x
    rw [← htk] at hsn hos
    rw [hok] at hos
    have herr := lineX_err x
    have hpre := okX_pre l (k + 1)
    generalize txts (l.take k) = T at *
    obtain ⟨kx, bx, ⟨ax, sx, nx⟩⟩ := x
    simp only [stpA, byteA] at hg hg2 hln
    generalize lineX ⟨kx, bx, ⟨ax, sx, nx⟩⟩ = L at *
    obtain ⟨Lt, Le⟩ := L
    dsimp only at *
    simp [hlt, hg, hg2]
    intro p hp
    refine callK.of (hln _) ?_
    rintro v σ1 ⟨rfl, rfl⟩
    rcases herr with rfl | rfl
    · have n1 : ¬ (9223372036854775807 : Int) < (Lt.length : Int) + 1 := by omega
      have n2 : ¬ (9223372036854775807 : Int) < (T.length : Int) + ((Lt.length : Int) + 1) := by omega
      simp [mk_toB, toB_size, toB_app, n1, n2]
      exact ⟨k + 1, ⟨by omega, by rw [hos]; rfl⟩, by omega, ⟨by rw [hsn]; exact AV.le_refl _, by rw [hlw]; exact AV.le_refl _⟩, sub_upd_self _ _ _ hp⟩
    · have e : textX l = ([], 1) := by unfold textX; rw [hpre (by rw [hos]; rfl)]; rfl
      rw [e]
      simp
      exact sub_upd_self _ _ _ hp
  · have : k = l.length := by omega
    subst this
    rw [List.take_length] at hok
    have e : textX l = (txts l, 0) := by unfold textX; rw [hok]; rfl
    rw [e]
    simp
@[simp] def st14x : List Nat := [22, 2000004, 5000006]
theorem BldOk.more {z : Nat} {l : List UInt8} {σ τ : Store} {x : Bst} (h : BldOk z l σ x) (hk : ∀ q, τ (mkey q) = σ (mkey q)) : BldOk z l τ x := by
  cases x with
  | nil p => exact ⟨h.1, h.2.1, by rw [hk]; exact h.2.2⟩
  | row g n cap cur =>
    obtain ⟨h1, h2, h3, h4, h5, h6, h7, h8, h9⟩ := h
    exact ⟨h1, h2, h3, h4, h5, h6, by rw [hk]; exact h7, by rw [hk]; exact h8, h9⟩
theorem str_calls (z : Nat) (X : Bst) (l : List UInt8) (σ : Store) (hO : BldOk z l σ X) : ACalls Tryd.prog 30 [ptrA z] (bldS z X σ) fun v σ' => v = .lit (.string (toB l)) ∧ σ' = σ := by
  by_cases hl : l = []
  · subst hl
    cases X with
    | nil p => exact bstr0_calls z p σ hO
    | row g n cap cur => exact absurd rfl hO.1
  · exact bstr_calls z X l σ hO hl
set_option maxRecDepth 8000 in
set_option maxHeartbeats 1000000 in
theorem text_calls (l : List Stp) (h : Fews l) (o : Bool) (σ : Store) :
    ACalls Tryd.prog 14 [.list o 5 (stpsA l)] σ fun v σ' => v = .tuple [.lit (.string (toB (textX l).1)), .lit (.int .i64 (textX l).2)] ∧ σ' = σ := by
  obtain ⟨hl, hx⟩ := h
  refine ACalls.of_awp follows (st := st14x) (plans := pl14) (n := 28) Tryd.func14 rfl (by kernel_rfl) (by kernel_rfl) (by kernel_rfl) ?_
  simp
  intro z hz hzk
  have e0 : σ.put z (rawA 74 (Value.agg #[.pointer none, .slice none 0 0]).cells) = bldS z (.nil (.pointer none)) σ := rfl
  rw [e0]
  clear e0
  have hO0 : BldOk z [] σ (.nil (.pointer none)) := ⟨rfl, .inl rfl, hzk⟩
  simp
  refine codeK.loop follows (st := st14x) (plans := pl14) (X := Nat × Bst) (fun x => x.1 ≤ l.length ∧ okX (l.take x.1) = true ∧ BldOk z (txts (l.take x.1)) σ x.2)
    (fun x => [(4, ptrA z), (9, .list false 5 (stpsA l)), (10, .lit (.int .i64 l.length)), (11, .lit (.int .i64 x.1))]) (fun x => bldS z x.2 σ) (fun x => l.length - x.1) (0, .nil (.pointer none)) (by kernel_rfl)
    ⟨Nat.zero_le _, by simp [okX], hO0⟩ (by simp) (Store.sub_refl _) ?_
  rintro ⟨k, X⟩ ⟨hk, hok, hO⟩
  dsimp only at hk hok hO ⊢
  by_cases hlt : k < l.length
  · obtain ⟨x, hxe⟩ : ∃ x, l[k]'hlt = x := ⟨_, rfl⟩
    have htk : l.take (k + 1) = l.take k ++ [x] := by rw [List.take_succ_eq_append_getElem hlt, hxe]
    have hg : (stpsA l)[k]? = some (stpA x) := by simp [stpsA, hlt, hxe]
    have hg2 : ∀ h, (stpsA l)[k]'h = stpA x := fun h => by simp [stpsA, hxe]
    have hlw : IntKind.i64.wrap ((k : Int) + 1) = ((k + 1 : Nat) : Int) := wrap_i64 (by omega) (by omega)
    obtain ⟨hxb, hxo⟩ := hx x (by rw [← hxe]; exact List.getElem_mem _)
    have hln := fun τ => lineX_calls x hxo (by omega) τ
    have hll := lineX_len hxb hxo
    have htl := txts_len (l := l.take k) fun y hy => hx y (List.mem_of_mem_take hy)
    have htn : (l.take k).length ≤ 15 := by rw [List.length_take]; omega
    have hsn := txts_snoc (l.take k) x
    have hos := okX_snoc (l.take k) x
    rw [← htk] at hsn hos
    rw [hok] at hos
    have herr := lineX_err x
    have hpre := okX_pre l (k + 1)
    generalize txts (l.take k) = T at *
    obtain ⟨kx, bx, ⟨ax, sx, nx⟩⟩ := x
    simp only [stpA, byteA] at hg hg2 hln
    generalize lineX ⟨kx, bx, ⟨ax, sx, nx⟩⟩ = L at *
    obtain ⟨Lt, Le⟩ := L
    dsimp only at *
    simp [hlt, hg, hg2]
    intro p hp
    rw [del_upd_new hp]
    refine callK.of (hln _) ?_
    rintro v σ1 ⟨rfl, rfl⟩
    rcases herr with rfl | rfl
    · have n1 : ¬ (9223372036854775807 : Int) < (Lt.length : Int) + 1 := by omega
      have hw := wstr_calls z X T (toB (Lt ++ [10])) σ hO (by rw [toB_size]; simp; omega) (by rw [toB_data]; simp)
      rw [toB_data, ← hsn] at hw
      simp [mk_toB, toB_size, toB_app, n1]
      refine callK.of hw ?_
      rintro v σ2 ⟨rfl, X2, hO2, rfl⟩
      simp
      exact ⟨k + 1, X2, ⟨by omega, by rw [hos]; rfl, hO2⟩, by omega, by rw [hlw]; exact AV.le_refl _, Store.sub_refl _⟩
    · have e : textX l = ([], 1) := by unfold textX; rw [hpre (by rw [hos]; rfl)]; rfl
      rw [e]
      simp
      exact ⟨AV.le_refl _, bldS_sub hO⟩
  · have : k = l.length := by omega
    subst this
    rw [List.take_length] at hok hO
    have e : textX l = (txts l, 0) := by unfold textX; rw [hok]; rfl
    rw [e]
    simp
    refine callK.of (str_calls z X _ σ hO) ?_
    rintro v σ1 ⟨rfl, rfl⟩
    simp
end Go.Proofs.YtheldoijfnigoaaDoor
/-
  TapeTexts: are steps alike? The program's answer.
-/
namespace Go.Proofs.YtheldoijfnigoaaDoor
open Go Go.AL

@[simp] def st37x : List Nat := [5000008, 5000009, 4000021, 4000025]
@[simp] def st38x : List Nat := [5000002, 5000003]
variable [Errs]
set_option linter.unusedSectionVars false
theorem equal_calls (a b : List UInt8) (o1 o2 : Bool) (σ : Store) : ACalls Tryd.prog 53 [.list o1 1 (bytesA a), .list o2 1 (bytesA b)] σ fun v σ' => v = .lit (.bool (a == b)) ∧ σ' = σ := by
  refine ACalls.of_awp follows (st := st53) (plans := pl53) (n := 10) Tryd.func53 rfl (by kernel_rfl) (by kernel_rfl) (by kernel_rfl) ?_
  have h1 := bytesOf_bytesA a
  have h2 := bytesOf_bytesA b
  simp [h1, h2]
set_option maxRecDepth 8000 in
set_option maxHeartbeats 1000000 in
theorem alike_calls (x y : Stp) (hx : x.bytes.length ≤ 1000000) (hy : y.bytes.length ≤ 1000000) (σ : Store) : ACalls Tryd.prog 38 [stpA x, stpA y] σ fun v σ' => v = .lit (.bool (likeS x y)) ∧ σ' = σ := by
  have heq := fun τ => equal_calls x.bytes y.bytes false false τ
  obtain ⟨kx, bx, ⟨ax, sx, nx⟩⟩ := x
  obtain ⟨ky, by', ⟨ay, sy, ny⟩⟩ := y
  dsimp only at *
  refine ACalls.of_awp follows (st := st38x) (plans := pl38) (n := 34) Tryd.func38 rfl (by kernel_rfl) (by kernel_rfl) (by kernel_rfl) ?_
  by_cases hk : kx = ky
  · subst hk
    by_cases h75 : kx = 75
    · subst h75
      have hke : (!((⟨ax, sx, nx⟩ : Ky) != ⟨ay, sy, ny⟩)) = (ax == ay && (sx == sy && nx == ny)) := by rw [Bool.eq_iff_iff]; simp
      simp [stpA, byteA, likeS]
      rw [hke]
      exact AV.le_refl _
    · have f1 : ¬ (kx.toNat : Int) = 75 := fun h => h75 (UInt8.toNat_inj.1 (by show kx.toNat = 75; omega))
      have f1n : ¬ kx.toNat = 75 := fun h => h75 (UInt8.toNat_inj.1 h)
      by_cases h7 : kx = 72 ∨ kx = 79
      · rcases h7 with rfl | rfl
        all_goals
          simp [stpA, byteA, likeS]
          refine callK.of (heq _) ?_
          rintro v σ1 ⟨rfl, rfl⟩
          simp [bne]
      · rw [not_or] at h7
        have f2 : ¬ (kx.toNat : Int) = 72 := fun h => h7.1 (UInt8.toNat_inj.1 (by show kx.toNat = 72; omega))
        have f2n : ¬ kx.toNat = 72 := fun h => h7.1 (UInt8.toNat_inj.1 h)
        have f3 : ¬ (kx.toNat : Int) = 79 := fun h => h7.2 (UInt8.toNat_inj.1 (by show kx.toNat = 79; omega))
        have f3n : ¬ kx.toNat = 79 := fun h => h7.2 (UInt8.toNat_inj.1 h)
        have g1 : (kx == 75) = false := by simpa using h75
        have g2 : (kx == 72) = false := by simpa using h7.1
        have g3 : (kx == 79) = false := by simpa using h7.2
        simp [stpA, byteA, likeS, f1, f1n, f2, f2n, f3, f3n, h75, h7, g1, g2, g3]
  · have hkn : ¬ (kx.toNat : Int) = ky.toNat := fun h => hk (UInt8.toNat_inj.1 (by omega))
    have hkn2 : ¬ kx.toNat = ky.toNat := fun h => hk (UInt8.toNat_inj.1 h)
    have : (kx == ky) = false := by simpa using hk
    simp [stpA, byteA, likeS, hkn, hkn2, this]
theorem likeL_drop (a b : List Stp) {k : Nat} (h : k < a.length) (h2 : k < b.length) : likeL (a.drop k) (b.drop k) = (likeS a[k] b[k] && likeL (a.drop (k + 1)) (b.drop (k + 1))) := by
  rw [List.drop_eq_getElem_cons h, List.drop_eq_getElem_cons h2]; rfl
set_option maxRecDepth 8000 in
set_option maxHeartbeats 1000000 in
theorem eqfunc_calls (a b : List Stp) (ha : a.length ≤ 1000000) (hab : ∀ x ∈ a, x.bytes.length ≤ 1000000) (hbb : ∀ x ∈ b, x.bytes.length ≤ 1000000) (o1 o2 : Bool) (σ : Store) :
    ACalls Tryd.prog 37 [.list o1 5 (stpsA a), .list o2 5 (stpsA b), .func (.func 38) [] []] σ fun v σ' => v = .lit (.bool (likeL a b)) ∧ σ' = σ := by
  refine ACalls.of_awp follows (st := st37x) (plans := pl37) (n := 32) Tryd.func37 rfl (by kernel_rfl) (by kernel_rfl) (by kernel_rfl) ?_
  by_cases hl : a.length = b.length
  · have hli : (a.length : Int) = b.length := by omega
    simp [hli]
    refine codeK.loop follows (st := st37x) (plans := pl37) (X := Nat) (fun k => k ≤ a.length ∧ likeL (a.drop k) (b.drop k) = likeL a b)
      (fun k => [(1, .list false 5 (stpsA b)), (2, .func (.func 38) [] []), (15, .list false 5 (stpsA a)), (16, .lit (.int .i64 b.length)), (17, .lit (.int .i64 k))]) (fun _ => σ) (fun k => a.length - k) 0 (by kernel_rfl)
      ⟨by simp, by simp⟩ (by simp) (Store.sub_refl _) fun k hk => ?_
    obtain ⟨hk, hlk⟩ := hk
    by_cases hlt : k < a.length
    · have hlt2 : k < b.length := by omega
      obtain ⟨x, hx⟩ : ∃ x, a[k]'hlt = x := ⟨_, rfl⟩
      obtain ⟨y, hy⟩ : ∃ y, b[k]'hlt2 = y := ⟨_, rfl⟩
      have hga : (stpsA a)[k]? = some (stpA x) := by simp [stpsA, hlt, hx]
      have hgb : (stpsA b)[k]? = some (stpA y) := by simp [stpsA, hlt2, hy]
      have hga2 : ∀ h, (stpsA a)[k]'h = stpA x := fun h => by simp [stpsA, hx]
      have hgb2 : ∀ h, (stpsA b)[k]'h = stpA y := fun h => by simp [stpsA, hy]
      have hal := fun τ => alike_calls x y (hab x (by rw [← hx]; exact List.getElem_mem _)) (hbb y (by rw [← hy]; exact List.getElem_mem _)) τ
      rw [likeL_drop a b hlt hlt2, hx, hy] at hlk
      have hlw : IntKind.i64.wrap ((k : Int) + 1) = ((k + 1 : Nat) : Int) := wrap_i64 (by omega) (by omega)
      generalize likeS x y = r at *
      obtain ⟨kx, bx, ⟨ax, sx, nx⟩⟩ := x
      obtain ⟨ky, by', ⟨ay, sy, ny⟩⟩ := y
      simp only [stpA, byteA] at hga hgb hga2 hgb2 hal
      simp [hlt, hlt2, hga, hgb, hga2, hgb2]
      intro p hp p1 hp1
      have hp2 : σ p1 = none := by
        by_cases e : p1 = p
        · rw [e]; exact hp
        · have := hp1 e
          rwa [if_neg e] at this
      rw [del_upd_new hp, del_upd_new hp2]
      refine callK.of (hal _) ?_
      rintro v σ1 ⟨rfl, rfl⟩
      cases r with
      | true =>
        simp
        exact ⟨k + 1, ⟨by omega, by rw [← hlk]; rfl⟩, by omega, by rw [hlw]; exact AV.le_refl _⟩
      | false =>
        have e : likeL a b = false := hlk.symm
        rw [e]
        simp
    · have hnil : a.drop k = [] := List.drop_of_length_le (by omega)
      have hnil2 : b.drop k = [] := List.drop_of_length_le (by omega)
      rw [hnil, hnil2] at hlk
      rw [← hlk]
      have hlt2 : ¬ k < b.length := by omega
      simp [hlt2, likeL]
  · have hn : likeL a b = false := by
      cases e : likeL a b with
      | false => rfl
      | true => exact absurd (likeL_len a b e) hl
    have hli : ¬ (a.length : Int) = b.length := by omega
    rw [hn]
    simp [hl, hli]
set_option maxRecDepth 8000 in
theorem tsame_calls (a b : List Stp) (ha : a.length ≤ 1000000) (hab : ∀ x ∈ a, x.bytes.length ≤ 1000000) (hbb : ∀ x ∈ b, x.bytes.length ≤ 1000000) (o1 o2 : Bool) (σ : Store) :
    ACalls Tryd.prog 19 [.list o1 5 (stpsA a), .list o2 5 (stpsA b)] σ fun v σ' => v = .lit (.bool (likeL a b)) ∧ σ' = σ := by
  refine ACalls.of_awp follows (st := st19) (plans := pl19) (n := 8) Tryd.func19 rfl (by kernel_rfl) (by kernel_rfl) (by kernel_rfl) ?_
  simp
  refine callK.of (eqfunc_calls a b ha hab hbb _ _ _) ?_
  rintro v σ1 ⟨rfl, rfl⟩
  simp
end Go.Proofs.YtheldoijfnigoaaDoor
/-
  TapeParses: the law.
-/
namespace Go.Proofs.YtheldoijfnigoaaDoor
open Go Go.AL

variable [Errs]
set_option linter.unusedSectionVars false
theorem readO_len {s p : List UInt8} (h : readO s = some p) : p.length ≤ s.length + 1 := by
  unfold readO at h
  split at h
  · cases h; simp
  · split at h
    · cases h
      have h1 := List.length_filterMap_le pairO (chunksL s)
      have h2 := chunksL_len s
      omega
    · cases h
theorem lineO_len {s : List UInt8} {x : Stp} (h : lineO s = some x) : x.bytes.length ≤ s.length + 1 := by
  have hz := splitL_sizes 32 s
  unfold lineO at h
  split at h
  · cases h
  · rename_i w r e
    rw [e] at hz
    split at h
    · cases ho : oneL r with
      | none => rw [ho] at h; cases h
      | some y =>
        have hy : y ∈ r := by
          match r, ho with
          | [z], ho => simp [oneL] at ho; subst ho; simp
        rw [ho] at h
        cases hr : readO y with
        | none => simp [hr] at h
        | some p =>
          simp [hr] at h
          subst h
          have h1 := readO_len hr
          have h2 := hz y (by simp [hy])
          show p.length ≤ _
          omega
    · split at h
      · cases hk : keyO r with
        | none => rw [hk] at h; cases h
        | some k => rw [hk] at h; cases h; simp
      · cases h
theorem parseL_sizes (m : Nat) : ∀ (l : List (List UInt8)) (acc : List Stp), (∀ s ∈ l, s.length ≤ m) → (∀ x ∈ acc, x.bytes.length ≤ m + 1) → (parseL l acc).1.length ≤ acc.length + l.length ∧ ∀ x ∈ (parseL l acc).1, x.bytes.length ≤ m + 1
  | [], acc, _, h => ⟨by simp [parseL], h⟩
  | [s], acc, _, h => by
    have e : parseL [s] acc = if s = [] then (acc, acc.length, true) else ([], acc.length + 1, false) := rfl
    rw [e]
    split
    · exact ⟨by simp, h⟩
    · exact ⟨by simp, by simp⟩
  | s :: a :: r, acc, hl, h => by
    rw [parseL_cons (by simp)]
    split
    · rename_i hs
      obtain ⟨y, hy⟩ := Option.isSome_iff_exists.1 hs
      rw [hy]
      have h1 := lineO_len hy
      have h2 := hl s (by simp)
      have ih := parseL_sizes m (a :: r) (acc ++ [y]) (fun s hs => hl s (by simp at hs ⊢; exact .inr hs)) (fun x hx => by
        rcases List.mem_append.1 hx with hx | hx
        · exact h x hx
        · simp at hx; subst hx; omega)
      refine ⟨?_, ih.2⟩
      have := ih.1
      simp at this ⊢; omega
    · exact ⟨by simp, by simp⟩
theorem parseT_sizes (t : List UInt8) : (parseT t).1.length ≤ t.length + 1 ∧ ∀ x ∈ (parseT t).1, x.bytes.length ≤ t.length + 1 := by
  have h := parseL_sizes t.length (splitL 10 t) [] (splitL_sizes 10 t) (by simp)
  have h1 := splitL_len 10 t
  have h2 := t.count_le_length (a := 10)
  exact ⟨by have := h.1; simp at this; unfold parseT; omega, h.2⟩
end Go.Proofs.YtheldoijfnigoaaDoor
/-
  TapeTexts, the plain law: what lines tell is read back.
-/
namespace Go.Proofs.YtheldoijfnigoaaDoor
open Go Go.AL

theorem hxs2_hex : ∀ i : Fin 256, (hxs2 (UInt8.ofNat i.val)).length = 2 ∧ pairO (hxs2 (UInt8.ofNat i.val)) = some (UInt8.ofNat i.val) ∧ ∀ c ∈ hxs2 (UInt8.ofNat i.val), 48 ≤ c.toNat ∧ c.toNat ≤ 102 := by decide +kernel
theorem hxs2_at (b : UInt8) : (∃ x y, hxs2 b = [x, y]) ∧ pairO (hxs2 b) = some b ∧ ∀ c ∈ hxs2 b, 48 ≤ c.toNat ∧ c.toNat ≤ 102 := by
  have h := hxs2_hex ⟨b.toNat, b.toNat_lt⟩
  simp only [UInt8.ofNat_toNat] at h
  exact ⟨⟨_, _, rfl⟩, h.2⟩
theorem chunks_hxs : ∀ p : List UInt8, chunksL (hxsL p) = p.map hxs2
  | [] => rfl
  | b :: p => by
    obtain ⟨⟨x, y, e⟩, -⟩ := hxs2_at b
    have ih := chunks_hxs p
    unfold hxsL at ih ⊢
    rw [List.flatMap_cons, List.map_cons, ← ih, e]
    rfl
theorem hxsL_mem {p : List UInt8} {c : UInt8} (h : c ∈ hxsL p) : 48 ≤ c.toNat ∧ c.toNat ≤ 102 := by
  unfold hxsL at h
  rw [List.mem_flatMap] at h
  obtain ⟨b, -, hc⟩ := h
  exact (hxs2_at b).2.2 c hc
theorem shownL_mem {p : List UInt8} {c : UInt8} (h : c ∈ shownL p) : 45 ≤ c.toNat := by
  unfold shownL at h
  split at h
  · simp at h; subst h; decide
  · have := (hxsL_mem h).1; omega
theorem read_shown (p : List UInt8) : readO (shownL p) = some p := by
  unfold shownL
  split
  · rename_i e; subst e; rfl
  · rename_i hne
    have hn : hxsL p ≠ [] := by
      match p, hne with
      | b :: p, _ => obtain ⟨⟨x, y, e⟩, -⟩ := hxs2_at b; simp [hxsL, e]
    have h45 : hxsL p ≠ [45] := fun e => by
      have := (hxsL_mem (p := p) (c := 45) (by rw [e]; simp)).1
      revert this; decide
    unfold readO
    rw [if_neg h45, if_pos ⟨hn, fun x hx => by
      rw [chunks_hxs, List.mem_map] at hx
      obtain ⟨b, -, rfl⟩ := hx
      rw [(hxs2_at b).2.1]; simp⟩, chunks_hxs]
    congr 1
    rw [List.filterMap_map]
    conv => rhs; rw [← List.filterMap_some (l := p)]
    congr 1
    funext b
    exact (hxs2_at b).2.1
theorem itoa_mem {v : Int} (h0 : -9223372036854775808 ≤ v) (h1 : v ≤ 9223372036854775807) {c : UInt8} (h : c ∈ Lib.itoa v) : 45 ≤ c.toNat := by
  obtain ⟨mi, d, e, hd, -⟩ := itoa_shape (v := v) rfl h0 h1
  rw [e] at h
  unfold sgn at h
  split at h
  · rcases List.mem_cons.1 h with rfl | h
    · decide
    · have := (hd c h).1; omega
  · have := (hd c h).1; omega
theorem num_itoa {B : Nat} (hB : B = 64 ∨ B = 32) {v : Int} (h0 : -((2 ^ (B - 1) : Nat) : Int) ≤ v) (h1 : v < ((2 ^ (B - 1) : Nat) : Int)) : numO B (Lib.itoa v) = some v := by
  have hp := (pow_B hB).1
  have hi : -9223372036854775808 ≤ v ∧ v ≤ 9223372036854775807 := by generalize 2 ^ (B - 1) = M at *; omega
  obtain ⟨mi, d, e, hd, hne, -, hz, hv⟩ := itoa_shape (v := v) rfl hi.1 hi.2
  rw [e, hv]
  refine numO_good hB hd hne hz ?_
  clear hp hi
  generalize 2 ^ (B - 1) = M at *
  cases mi with
  | true =>
    have : v = -(decV d : Int) := hv
    rw [if_pos rfl]; omega
  | false =>
    have : v = (decV d : Int) := hv
    rw [if_neg (by decide)]; omega
theorem not_mem32 {l : List UInt8} (h : ∀ c ∈ l, 45 ≤ c.toNat) : (32 : UInt8) ∉ l := fun hm => by have := h _ hm; revert this; decide
theorem not_mem10 {l : List UInt8} (h : ∀ c ∈ l, 32 ≤ c.toNat) : (10 : UInt8) ∉ l := fun hm => by have := h _ hm; revert this; decide
theorem line_back {x : Stp} (h : StpOk x) (h0 : (lineX x).2 = 0) : (∃ y, lineO (lineX x).1 = some y ∧ likeS y x = true) ∧ ∀ c ∈ (lineX x).1, 32 ≤ c.toNat := by
  obtain ⟨⟨a1, a2⟩, ⟨b1, b2⟩, ⟨c1, c2⟩⟩ := h
  obtain ⟨kx, bx, ⟨ax, sx, nx⟩⟩ := x
  dsimp only at a1 a2 b1 b2 c1 c2
  unfold lineX at h0 ⊢
  dsimp only at h0 ⊢
  by_cases h72 : kx = 72 ∨ kx = 79
  · rw [if_pos h72]
    have hs := fun c => shownL_mem (p := bx) (c := c)
    have hsp : splitL 32 (kx :: 32 :: shownL bx) = [[kx], shownL bx] := by
      have := splitL_cut 32 (shownL bx) [kx] (by rcases h72 with rfl | rfl <;> decide)
      rw [splitL_none 32 _ (not_mem32 hs)] at this
      exact this
    refine ⟨⟨⟨kx, bx, .zero⟩, ?_, ?_⟩, ?_⟩
    · unfold lineO
      rw [hsp]
      have hw : ([kx] : List UInt8) = [72] ∨ [kx] = [79] := by rcases h72 with rfl | rfl <;> simp
      simp only [hw, if_true, oneL, Option.bind_some, read_shown, Option.map_some, List.headD_cons]
    · rcases h72 with rfl | rfl <;> simp [likeS]
    · intro c hc
      rcases List.mem_cons.1 hc with rfl | hc
      · rcases h72 with rfl | rfl <;> decide
      · rcases List.mem_cons.1 hc with rfl | hc
        · decide
        · have := hs c hc; omega
  · rw [if_neg h72] at h0 ⊢
    by_cases h75 : kx = 75
    · subst h75
      rw [if_pos rfl, keyX_eq]
      have i1 := fun c => itoa_mem a1 a2 (c := c)
      have i2 := fun c => itoa_mem (v := sx) (by omega) (by omega) (c := c)
      have i3 := fun c => itoa_mem c1 c2 (c := c)
      have n1 := num_itoa (B := 64) (v := ax) (.inl rfl) (by simpa using a1) (by simp; omega)
      have n2 := num_itoa (B := 32) (v := sx) (.inr rfl) (by simpa using b1) (by simp; omega)
      have n3 := num_itoa (B := 64) (v := nx) (.inl rfl) (by simpa using c1) (by simp; omega)
      generalize Lib.itoa ax = s1 at *
      generalize Lib.itoa sx = s2 at *
      generalize Lib.itoa nx = s3 at *
      have hsp : splitL 32 (75 :: 32 :: (s1 ++ 32 :: (s2 ++ 32 :: s3))) = [[75], s1, s2, s3] := by
        have := splitL_cut 32 (s1 ++ 32 :: (s2 ++ 32 :: s3)) [75] (by decide)
        rw [splitL_cut 32 _ s1 (not_mem32 i1), splitL_cut 32 _ s2 (not_mem32 i2), splitL_none 32 _ (not_mem32 i3)] at this
        exact this
      refine ⟨⟨⟨75, [], ⟨ax, sx, nx⟩⟩, ?_, ?_⟩, ?_⟩
      · unfold lineO
        dsimp only
        rw [hsp]
        simp [keyO, n1, n2, n3]
      · simp [likeS]
      · intro c hc
        simp only [List.mem_cons, List.mem_append] at hc
        rcases hc with rfl | rfl | hc | rfl | hc | rfl | hc
        · decide
        · decide
        · have := i1 c hc; omega
        · decide
        · have := i2 c hc; omega
        · decide
        · have := i3 c hc; omega
    · rw [if_neg h75] at h0
      exact absurd h0 (by decide)
theorem likeL_snoc : ∀ (a b : List Stp) (x y : Stp), likeL a b = true → likeS x y = true → likeL (a ++ [x]) (b ++ [y]) = true
  | [], [], x, y, _, h => by simp [likeL, h]
  | u :: a, v :: b, x, y, h, h2 => by
    have e : likeL (u :: a) (v :: b) = (likeS u v && likeL a b) := rfl
    rw [e, Bool.and_eq_true] at h
    show (likeS u v && likeL (a ++ [x]) (b ++ [y])) = true
    rw [h.1, likeL_snoc a b x y h.2 h2]; rfl
theorem parse_txts : ∀ (l pre acc : List Stp), (∀ x ∈ l, StpOk x) → okX l = true → likeL acc pre = true →
    ∃ m, parseL (splitL 10 (txts l)) acc = (m, pre.length + l.length, true) ∧ likeL m (pre ++ l) = true
  | [], pre, acc, _, _, h => by
    refine ⟨acc, ?_, by simpa using h⟩
    have := likeL_len _ _ h
    show (acc, acc.length, true) = _
    simp [this]
  | x :: l, pre, acc, hs, ho, h => by
    have ho' : (lineX x).2 = 0 ∧ okX l = true := by simpa [okX] using ho
    obtain ⟨⟨y, hy, hl⟩, hc⟩ := line_back (hs x (by simp)) ho'.1
    obtain ⟨m, h1, h2⟩ := parse_txts l (pre ++ [x]) (acc ++ [y]) (fun z hz => hs z (by simp [hz])) ho'.2 (likeL_snoc _ _ _ _ h hl)
    refine ⟨m, ?_, by simpa using h2⟩
    have e : txts (x :: l) = (lineX x).1 ++ 10 :: txts l := by simp [txts]
    rw [e, splitL_cut 10 _ _ (not_mem10 hc)]
    obtain ⟨w, r, ew⟩ := splitL_cons 10 (txts l)
    rw [ew] at h1 ⊢
    rw [parseL_cons (by simp), hy]
    simp only [Option.isSome_some, if_true, Option.getD_some]
    rw [h1]
    simp; omega
theorem parseT_txts {l : List Stp} (hs : ∀ x ∈ l, StpOk x) (ho : okX l = true) : ∃ m, parseT (txts l) = (m, l.length, true) ∧ likeL m l = true := by
  obtain ⟨m, h1, h2⟩ := parse_txts l [] [] hs ho rfl
  exact ⟨m, by unfold parseT; simpa using h1, by simpa using h2⟩
end Go.Proofs.YtheldoijfnigoaaDoor
/-
  TapeTexts: the law.
-/
namespace Go.Proofs.YtheldoijfnigoaaDoor
open Go Go.AL

@[simp] def st4x : List Nat := [5000008, 4000047, 4000052]
variable [Errs]
set_option linter.unusedSectionVars false
theorem fewL_fews {l : List Stp} (h : ∀ x ∈ l, StpOk x) : Fews (fewL l) := by
  refine ⟨by unfold fewL; simp; omega, fun x hx => ?_⟩
  unfold fewL at hx
  rw [List.mem_map] at hx
  obtain ⟨y, hy, rfl⟩ := hx
  exact ⟨by unfold fewS; simp; omega, h y (List.mem_of_mem_take hy)⟩
set_option maxRecDepth 8000 in
set_option maxHeartbeats 1000000 in
theorem texts_calls (l : List Stp) (hl : l.length ≤ 9223372036854775807) (h : ∀ x ∈ l, StpOk x) (o : Bool) (σ : Store) : ACalls Tryd.prog 4 [.list o 5 (stpsA l)] σ fun v σ' => v = .lit (.bool true) ∧ σ' = σ := by
  have hfw := fewL_fews h
  have hfc := fun o τ => few_calls l hl o τ
  generalize fewL l = L at *
  have hL := hfw.1
  have hB : ∀ x ∈ L, x.bytes.length ≤ 1000000 := fun x hx => by have := (hfw.2 x hx).1; omega
  have hS : ∀ x ∈ L, StpOk x := fun x hx => (hfw.2 x hx).2
  have how := fun o τ => own_calls L (by omega) hB o τ
  have htx := fun o τ => text_calls L hfw o τ
  have hrt := fun o τ => rtext_calls L hfw o τ
  have htl := txts_len hfw.2
  have hpl := fun τ => parse_text_calls (txts L) (by omega) τ
  have hpz := parseT_sizes (txts L)
  have hpt := parseT_txts hS
  have htX : textX L = if okX L = true then (txts L, 0) else ([], 1) := rfl
  rw [htX] at htx hrt
  clear htX
  refine ACalls.of_awp follows (st := st4x) (plans := pl4) (n := 97) Tryd.func4 rfl (by kernel_rfl) (by kernel_rfl) (by kernel_rfl) ?_
  simp
  refine callK.of (awake_calls _) ?_
  rintro v σ1 ⟨rfl, rfl⟩
  simp
  refine callK.of (hfc _ _) ?_
  rintro v σ2 ⟨rfl, rfl⟩
  simp
  refine callK.of (how _ _) ?_
  rintro v σ3 ⟨rfl, rfl⟩
  simp
  refine callK.of (htx _ _) ?_
  rintro v σ4 ⟨rfl, rfl⟩
  simp
  refine callK.of (hrt _ _) ?_
  rintro v σ5 ⟨rfl, rfl⟩
  obtain ⟨er, her⟩ : ∃ er : Int, (if okX L = true then (txts L, (0 : Int)) else ([], 1)).2 = er := ⟨_, rfl⟩
  obtain ⟨tx, htt⟩ : ∃ tx, (if okX L = true then (txts L, (0 : Int)) else ([], 1)).1 = tx := ⟨_, rfl⟩
  rw [her, htt]
  simp
  refine callK.of (how _ _) ?_
  rintro v σ6 ⟨rfl, rfl⟩
  simp
  refine codeK.loop follows (st := st4x) (plans := pl4) (X := Nat) (fun k => k ≤ L.length)
    (fun k => [(0, .list false 5 (stpsA L)), (3, .lit (.string (toB tx))), (4, .lit (.int .i64 er)), (40, .list false 5 (stpsA L)), (41, .lit (.int .i64 L.length)), (42, .lit (.int .i64 k))]) (fun _ => σ6) (fun k => L.length - k) 0 (by kernel_rfl)
    (by simp) (by simp) (Store.sub_refl _) fun k hk => ?_
  by_cases hlt : k < L.length
  · obtain ⟨x, hx⟩ : ∃ x, L[k]'hlt = x := ⟨_, rfl⟩
    have hxm := hfw.2 x (by rw [← hx]; exact List.getElem_mem _)
    have hg : (stpsA L)[k]? = some (stpA x) := by simp [stpsA, hlt, hx]
    have hg2 : ∀ h, (stpsA L)[k]'h = stpA x := fun h => by simp [stpsA, hx]
    have hlw : IntKind.i64.wrap ((k : Int) + 1) = ((k + 1 : Nat) : Int) := wrap_i64 (by omega) (by omega)
    have hli := fun τ => lineX_calls x hxm.2 (by omega) τ
    have hri := fun τ => rlineX_calls x hxm.2 (by omega) τ
    have hbk := fun o τ => back_calls [x] (by simp) o τ
    generalize lineX x = P at *
    obtain ⟨Pt, Pe⟩ := P
    obtain ⟨kx, bx, ⟨ax, sx, nx⟩⟩ := x
    simp only [stpA, byteA] at hg hg2 hli hri
    simp only [stpA, stpsA, List.map_cons, List.map_nil, byteA] at hbk
    simp [hlt, hg, hg2]
    intro p hp
    rw [del_upd_new hp]
    refine callK.of (hli _) ?_
    rintro v σ7 ⟨rfl, rfl⟩
    simp
    refine callK.of (hbk _ _) ?_
    rintro v σ8 ⟨rfl, rfl⟩
    simp
    refine callK.of (hri _) ?_
    rintro v σ9 ⟨rfl, rfl⟩
    simp
    refine ⟨k + 1, by omega, by omega, by rw [hlw]; exact AV.le_refl _⟩
  · have : k = L.length := by omega
    subst this
    cases hok : okX L with
    | false =>
      rw [hok] at her htt
      simp at her htt
      subst her
      simp
    | true =>
      rw [hok] at her htt
      simp at her htt
      subst her
      subst htt
      obtain ⟨m, hm, hlk⟩ := hpt hok
      rw [hm] at hpl hpz
      dsimp only at hpz
      have hmb : ∀ x ∈ m, x.bytes.length ≤ 1000000 := fun x hx => by have := hpz.2 x hx; omega
      have hml : m.length ≤ 1000000 := by have := hpz.1; omega
      have hss := fun o1 o2 τ => same_steps_calls m L o1 o2 hml hmb hB τ
      have hsx := fun o1 o2 τ => tsame_calls m L hml hmb hB o1 o2 τ
      have hbk := fun o τ => back_calls m hml o τ
      rw [hlk] at hss hsx
      simp
      refine callK.of (hpl _) ?_
      rintro v σ7 ⟨rfl, rfl⟩
      simp [parA]
      refine callK.of (hbk _ _) ?_
      rintro v σ8 ⟨rfl, rfl⟩
      simp
      refine callK.of (hss _ _ _) ?_
      rintro v σ9 ⟨rfl, rfl⟩
      simp
      refine callK.of (how _ _) ?_
      rintro v σ10 ⟨rfl, rfl⟩
      simp
      refine callK.of (hsx _ _ _) ?_
      rintro v σ11 ⟨rfl, rfl⟩
      simp
end Go.Proofs.YtheldoijfnigoaaDoor
/-
  What is laid: the powers of ten; the two errors, as they stand when the call begins.
-/
namespace Go.Proofs.YtheldoijfnigoaaDoor
open Go Go.AL
def laid7 : List (String × DataW Unit) := [("math/bits.deBruijn32tab", Rows.laid_math_bits_deBruijn32tab), ("math/bits.deBruijn64tab", Rows.laid_math_bits_deBruijn64tab), ("internal/strconv.uint64pow10", Rows.laid_internal_strconv_uint64pow10), ("unicode/utf8.acceptRanges", Rows.laid_unicode_utf8_acceptRanges), ("strconv.ErrRange", Rows.laid_strconv_ErrRange), ("strconv.ErrSyntax", Rows.laid_strconv_ErrSyntax), ("unicode/utf8.first", Rows.laid_unicode_utf8_first)]
theorem laid_pow10 : (Rows.laid_internal_strconv_uint64pow10 : DataW Unit) = Lib.tabData .u64 Lib.pow10Tab := by rfl
theorem heap_of_var {W : World} {n : String} {g : Nat} {cs : Array Value} (hg : Tryd.prog.globalNamed n = some g) (hv : W.var? Tryd.prog n = some cs) : ∃ T fz, W.heap[g]? = some (.cells cs T fz) := by
  unfold World.var? at hv
  rw [hg] at hv
  simp only [Option.bind_some] at hv
  cases e : W.heap[g]? with
  | none => rw [e] at hv; cases hv
  | some o =>
    rw [e] at hv
    cases o with
    | cells c t z => simp only [Option.some.injEq] at hv; subst hv; exact ⟨t, z, rfl⟩
    | _ => cases hv
theorem star : "*" ++ "errors.errorString" = "*errors.errorString" := by decide
theorem rowE (u : TypeId) (h : Tryd.prog.typeName? 3 u = some "*errors.errorString") : u = 142 :=
  typeName_ptr_named (nm := "errors.errorString") (by rw [star]; kernel_rfl) (by kernel_rfl) (by decide) u (by rw [star]; exact h)
theorem vars7 {W : World} (h : laidMetH Tryd.prog laid7 W) : ∃ E : Errs, ∀ g cs, (@instGLOfErrs E).vars g = some cs → ∃ T fz, W.heap[g]? = some (.cells cs T fz) := by
  rw [MakeChecks.laidMetH_plain _ _ _ (by kernel_rfl)] at h
  have h1 := laidMet.tail (laidMet.tail h)
  have h2 := laidMet.tail (laidMet.tail h1)
  have h3 := laidMet.tail h2
  have hr : Tryd.prog.globalNamed "strconv.ErrRange" = some 5 := by kernel_rfl
  have hs : Tryd.prog.globalNamed "strconv.ErrSyntax" = some 4 := by kernel_rfl
  have hp : Tryd.prog.globalNamed "internal/strconv.uint64pow10" = some 1 := by kernel_rfl
  obtain ⟨ar, sr, hvr, -, -, -⟩ := laid_sentinel h2 hr (show (Tryd.prog.globals[5]?).map (·.type) = some 76 by kernel_rfl) Tryd.underlying76 rowE Tryd.underlying142 Tryd.underlying144 rfl rfl Tryd.underlying9 (by kernel_rfl) (by kernel_rfl)
  obtain ⟨az, ss, hvs, -, -, -⟩ := laid_sentinel h3 hs (show (Tryd.prog.globals[4]?).map (·.type) = some 76 by kernel_rfl) Tryd.underlying76 rowE Tryd.underlying142 Tryd.underlying144 rfl rfl Tryd.underlying9 (by kernel_rfl) (by kernel_rfl)
  have ht : Lib.TabIs Tryd.prog W "internal/strconv.uint64pow10" .u64 Lib.pow10Tab := by
    rw [laid_pow10] at h1
    exact Lib.tabIs_of_head hp (show (Tryd.prog.globals[1]?).map (·.type) = some 128 by kernel_rfl) Tryd.underlying128 Tryd.underlying112 (by kernel_rfl) (by kernel_rfl) h1
  unfold Lib.TabIs at ht
  refine ⟨⟨142, .pointer (some az), 142, .pointer (some ar)⟩, fun g cs hg => ?_⟩
  have h4 : (if g = 1 then some pow10A else if g = 4 then some #[Value.iface 142 (.pointer (some az))] else if g = 5 then some #[Value.iface 142 (.pointer (some ar))] else none) = some cs := hg
  split at h4
  · rename_i e; subst e
    obtain ⟨T, fz, hh⟩ := heap_of_var hp ht
    rw [← Option.some.inj h4]; exact ⟨T, fz, hh⟩
  · split at h4
    · rename_i e; subst e
      rw [← Option.some.inj h4]; exact heap_of_var hs hvs
    · split at h4
      · rename_i e; subst e
        rw [← Option.some.inj h4]; exact heap_of_var hr hvr
      · cases h4
end Go.Proofs.YtheldoijfnigoaaDoor
/-
  Arguments opened: steps; TapeTexts for what is read.
-/
namespace Go.Proofs.YtheldoijfnigoaaDoor
open Go Go.AL
variable [Errs]
set_option linter.unusedSectionVars false
theorem open_bytes : Opens Tryd.prog 33 (fun l : List UInt8 => [.list false 1 (bytesA l)]) (fun l => l.length ≤ maxLen) :=
  (Opens.slice Tryd.underlying33 (sz := 1) (by kernel_rfl) (by omega) (Opens.u8 Tryd.underlying5) byteA (fun _ => rfl) (fun _ => rfl)).by id fun _ h => ⟨h.1, rfl⟩
theorem open_i32 : Opens Tryd.prog 21 (fun n : Int => [.lit (.int .i32 n)]) (fun n => -2147483648 ≤ n ∧ n ≤ 2147483647) :=
  (Opens.int (k := .i32) Tryd.underlying21).by id fun n h => ⟨by
    have h1 : IntKind.i32.min = -2147483648 := rfl
    have h2 : IntKind.i32.max = 2147483647 := rfl
    have := h
    simp [Lit.wf, h1, h2] at this
    exact this, rfl⟩
def KyOk (k : Ky) : Prop := (-9223372036854775808 ≤ k.kind ∧ k.kind ≤ 9223372036854775807) ∧ (-2147483648 ≤ k.sign ∧ k.sign ≤ 2147483647) ∧ (-9223372036854775808 ≤ k.n ∧ k.n ≤ 9223372036854775807)
theorem open_ky : Opens Tryd.prog 40 (fun k : Ky => kyA k) KyOk :=
  (Opens.struct (total := 3) Tryd.underlying40 (by kernel_rfl)
    (.cons (k := 1) rfl (by kernel_rfl) (by omega) (Opens.i64 Tryd.underlying3) (.cons (k := 1) rfl (by kernel_rfl) (by omega) open_i32 (.cons (k := 1) rfl (by kernel_rfl) (by omega) (Opens.i64 Tryd.underlying3) .nil)))).by
    (fun x => ⟨x.1, x.2.1, x.2.2.1⟩) fun _ h => ⟨⟨h.1, h.2.1, h.2.2.1⟩, rfl⟩
def stpC (x : Stp) : List AV := [byteA x.kind, .list false 1 (bytesA x.bytes)] ++ kyA x.key
theorem open_stp : Opens Tryd.prog 42 (fun x : Stp => stpC x) StpOk :=
  (Opens.struct (total := 5) Tryd.underlying42 (by kernel_rfl)
    (.cons (k := 1) rfl (by kernel_rfl) (by omega) (Opens.u8 Tryd.underlying5) (.cons (k := 1) rfl (by kernel_rfl) (by omega) open_bytes (.cons (k := 3) rfl (by kernel_rfl) (by omega) open_ky .nil)))).by
    (fun x => ⟨x.1, x.2.1, x.2.2.1⟩) fun _ h => ⟨h.2.2.1, rfl⟩
theorem open_stps : Opens Tryd.prog 28 (fun l : List Stp => [.list false 5 (stpsA l)]) (fun l => l.length ≤ maxLen ∧ ∀ x ∈ l, StpOk x) :=
  Opens.slice Tryd.underlying28 (by kernel_rfl) (by omega) open_stp stpA (fun _ => rfl) (fun _ => rfl)
theorem tapeTexts_law (l : List Stp) (h : l.length ≤ maxLen ∧ ∀ x ∈ l, StpOk x) (σ : Store) : ACalls Tryd.prog 4 [.list false 5 (stpsA l)] σ fun v _ => v = .lit (.bool true) :=
  (texts_calls l (by have := h.1; unfold maxLen at this; omega) h.2 false σ).mono fun _ _ h => h.1
end Go.Proofs.YtheldoijfnigoaaDoor
