/-
  Two digits of a byte: the program's and the document's.
-/
import Derived.Test.YtlmdbcgceijlnaaGreatDoorEPart22
import Derived.Test.YtlmdbcgceijlnaaGreatDoorRows
set_option linter.unusedSimpArgs false
set_option linter.unusedVariables false
namespace Go.Proofs.YtlmdbcgceijlnaaGreatDoor
open Go Go.AL Go.Sp
variable {σ Y Z τ : Store} {q p b x y : Nat} {s : Sp} {n : Int} {pv : AV}

def hexL : List UInt8 := [48, 49, 50, 51, 52, 53, 54, 55, 56, 57, 97, 98, 99, 100, 101, 102]
def hexB (c : UInt8) : List UInt8 := [hexL.getD (c.toNat / 16) 0, hexL.getD (c.toNat % 16) 0]
theorem shr4 (a : Nat) : (a : Int).fdiv (2 ^ min 4 IntKind.u8.bits) = ((a / 16 : Nat) : Int) := by
  show (a : Int).fdiv ((16 : Nat) : Int) = _
  exact (Int.ofNat_fdiv a 16).symm
theorem hex_get : ∀ i : Fin 16, (toB hexL).data[i.val]? = some (hexL.getD i.val 0) := by decide +kernel
theorem hex_cut : ∀ i : Fin 16, (hexL.drop i.val).take 1 = [hexL.getD i.val 0] := by decide +kernel
theorem aSlice_u8 {P : Program} {t : TypeId} (ht : tElem P t = none) (hs : tStr P t = true) (L : List UInt8) (a b : Nat) (za zb : Int) (ha : za = a) (hb : zb = b) (hab : a ≤ b) (hbl : b ≤ L.length) :
    aSlice P t (.lit (.string (toB L))) (some (.lit (.int .u8 za))) (some (.lit (.int .u8 zb))) none = some (.lit (.string (toB ((L.drop a).take (b - a))))) := by
  subst ha hb
  have hsz := toB_size L
  have h0 : (0 : Int) ≤ (a : Int) := by omega
  have h1 : (0 : Int) ≤ (b : Int) := by omega
  have h2 : b ≤ (toB L).size := by omega
  simp [aSlice, ht, hs, bndA, h0, h1, hab, h2, toB_extract L a b hab]
theorem bytesOf_two (a b : UInt8) : bytesOf [.lit (.int .u8 (a.toNat : Int)), .lit (.int .u8 (b.toNat : Int))] = some [a, b] := by
  exact bytesOf_bytesA [a, b]
set_option maxRecDepth 8000 in
theorem hex_calls (c : UInt8) (σ : Store) : ACalls Tryz.prog 83 [byteA c] σ fun v σ' => v = .lit (.string (toB (hexB c))) ∧ σ' = σ := by
  have hc : (⟨#[48, 49, 50, 51, 52, 53, 54, 55, 56, 57, 97, 98, 99, 100, 101, 102]⟩ : ByteArray) = toB hexL := rfl
  have hb := byte_lt c
  have h1 := shr4 c.toNat
  have h2 : pureBin .and (.int .u8 (c.toNat : Int)) (.int .u8 15) = some (.int .u8 ((c &&& 15).toNat : Int)) := and_u8 c 15
  have h3 : (c &&& 15).toNat = c.toNat % 16 := all_bytes (p := fun c => (c &&& 15).toNat = c.toNat % 16) (by decide +kernel) c
  rw [h3] at h2
  have hh : hexB c = [hexL.getD (c.toNat / 16) 0, hexL.getD (c.toNat % 16) 0] := rfl
  rw [hh]
  have g1 := hex_get ⟨c.toNat / 16, by omega⟩
  have g2 := hex_get ⟨c.toNat % 16, by omega⟩
  dsimp only at g1 g2
  have e : byteA c = .lit (.int .u8 c.toNat) := rfl
  rw [e]
  have w0 : (0 : Int) ≤ ((c.toNat / 16 : Nat) : Int) := by omega
  have w1 : (0 : Int) ≤ ((c.toNat % 16 : Nat) : Int) := by omega
  generalize hexL.getD (c.toNat / 16) 0 = x1 at *
  generalize hexL.getD (c.toNat % 16) 0 = x2 at *
  generalize c.toNat / 16 = k1 at *
  generalize c.toNat % 16 = k2 at *
  refine ACalls.of_awp follows (st := st83) (plans := pl83) (n := 11) Tryz.func83 rfl (by kernel_rfl) (by kernel_rfl) (by kernel_rfl) ?_
  simp [hc, -e_pureBin_8, -e_pureBin_9, h1, h2, h3, g1, g2, w0, w1, bytesOf_two]
  exact AV.le_refl _
set_option maxRecDepth 8000 in
theorem rhex_calls (c : UInt8) (own : Bool) (σ : Store) : ACalls Tryz.prog 84 [.list own 1 [byteA c]] σ fun v σ' => v = .lit (.string (toB (hexB c))) ∧ σ' = σ := by
  have hc : (⟨#[48, 49, 50, 51, 52, 53, 54, 55, 56, 57, 97, 98, 99, 100, 101, 102]⟩ : ByteArray) = toB hexL := rfl
  have h0 : (⟨#[]⟩ : ByteArray) = toB [] := rfl
  have hb := byte_lt c
  have h1 := shr4 c.toNat
  have h2 : pureBin .and (.int .u8 (c.toNat : Int)) (.int .u8 15) = some (.int .u8 ((c &&& 15).toNat : Int)) := and_u8 c 15
  have h3 : (c &&& 15).toNat = c.toNat % 16 := all_bytes (p := fun c => (c &&& 15).toNat = c.toNat % 16) (by decide +kernel) c
  rw [h3] at h2
  have hh : hexB c = [hexL.getD (c.toNat / 16) 0, hexL.getD (c.toNat % 16) 0] := rfl
  rw [hh]
  have g1 := hex_cut ⟨c.toNat / 16, by omega⟩
  have g2 := hex_cut ⟨c.toNat % 16, by omega⟩
  dsimp only at g1 g2
  have e : byteA c = .lit (.int .u8 c.toNat) := rfl
  rw [e]
  have k1l : c.toNat / 16 < 16 := by omega
  have k2l : c.toNat % 16 < 16 := by omega
  generalize hexL.getD (c.toNat / 16) 0 = x1 at *
  generalize hexL.getD (c.toNat % 16) 0 = x2 at *
  generalize c.toNat / 16 = k1 at *
  generalize c.toNat % 16 = k2 at *
  have wr : ∀ k : Nat, k < 16 → IntKind.u8.wrap ((k : Int) + 1) = (k : Int) + 1 := fun k hk => wrap_u8 (by omega) (by omega)
  have s1 := aSlice_u8 (P := Tryz.prog) (t := 9) (by simp) (by simp) hexL k1 (k1 + 1) (k1 : Int) ((k1 : Int) + 1) rfl (by omega) (by omega) (by show k1 + 1 ≤ 16; omega)
  have s2 := aSlice_u8 (P := Tryz.prog) (t := 9) (by simp) (by simp) hexL k2 (k2 + 1) (k2 : Int) ((k2 : Int) + 1) rfl (by omega) (by omega) (by show k2 + 1 ≤ 16; omega)
  rw [show k1 + 1 - k1 = 1 from by omega, g1] at s1
  rw [show k2 + 1 - k2 = 1 from by omega, g2] at s2
  refine ACalls.of_awp follows (st := st84) (plans := pl84) (n := 29) Tryz.func84 rfl (by kernel_rfl) (by kernel_rfl) (by kernel_rfl) ?_
  simp [h0]
  refine codeK.loop follows (st := st84) (plans := pl84) (X := Nat) (fun k => k ≤ 1)
    (fun k => [(3, .lit (.string (toB (if k = 0 then [] else [x1, x2])))), (6, .list false 1 [.lit (.int .u8 (c.toNat : Int))]), (7, .lit (.int .i64 1)), (8, .lit (.int .i64 (k : Nat)))]) (fun _ => σ) (fun k => 1 - k) 0 (by kernel_rfl) (by simp) (by simp) (Store.sub_refl _) fun k hk => ?_
  have hk2 : k = 0 ∨ k = 1 := by omega
  rcases hk2 with rfl | rfl
  · simp [hc, -e_pureBin_8, -e_pureBin_9, -e_aSlice_1, -e_aSlice_2, h1, h2, wr _ k1l, wr _ k2l, s1, s2, toB_size, toB_app]
    exact ⟨1, by omega, by omega, AV.le_refl _, AV.le_refl _⟩
  · simp
end Go.Proofs.YtlmdbcgceijlnaaGreatDoor
/-
  The codes of all cells: the program's and the document's.
-/
namespace Go.Proofs.YtlmdbcgceijlnaaGreatDoor
open Go Go.AL Go.Sp
variable {σ Y Z τ : Store} {q p b x y : Nat} {s : Sp} {n : Int} {pv : AV}

def codeC (c : Cell) : List UInt8 := if c.attr = true then 32 :: (hexB c.fa ++ [32]) else hexB c.char
def codesTo (s : Sp) (k : Nat) : List UInt8 := ((List.range k).map fun i => codeC (s.cells[i]?.getD .zero)).flatten
theorem codesTo_succ (s : Sp) (k : Nat) : codesTo s (k + 1) = codesTo s k ++ codeC (s.cells[k]?.getD .zero) := by
  unfold codesTo
  rw [List.range_succ, List.map_append, List.flatten_append]
  simp
theorem hexB_len (c : UInt8) : (hexB c).length = 2 := rfl
theorem codeC_len (c : Cell) : (codeC c).length ≤ 4 ∧ 2 ≤ (codeC c).length := by
  unfold codeC
  split <;> simp [hexB_len]
theorem codesTo_len (s : Sp) (k : Nat) : (codesTo s k).length ≤ 4 * k := by
  induction k with
  | zero => simp [codesTo]
  | succ k ih =>
    rw [codesTo_succ]
    have := (codeC_len (s.cells[k]?.getD .zero)).1
    rw [List.length_append]
    omega
set_option maxRecDepth 8000 in
theorem rcodes_calls (h : Ref σ x y s) : ACalls Tryz.prog 27 [ptrA x] σ fun v σ' => v = .lit (.string (toB (codesTo s s.n))) ∧ σ' = σ := by
  have ho := h.obj
  have hr := h.row
  have hg := h.good
  have hln := hg.len
  have hn := s.n_le
  have h0 : (⟨#[]⟩ : ByteArray) = toB [] := rfl
  unfold rfO at ho
  refine ACalls.of_awp follows (st := st27) (plans := pl27) (n := 33) Tryz.func27 rfl (by kernel_rfl) (by kernel_rfl) (by kernel_rfl) ?_
  simp [ho, rowC, h0]
  refine codeK.loop follows (st := st27) (plans := pl27) (X := Nat) (fun i => i ≤ s.n)
    (fun i => [(3, .lit (.string (toB (codesTo s i)))), (9, rowC y s.n), (10, .lit (.int .i64 s.n)), (11, .lit (.int .i64 i))])
    (fun _ => σ) (fun i => s.n - i) 0 (by kernel_rfl) (by simp) (by simp [rowC, codesTo]) (Store.sub_refl _) fun i hi => ?_
  by_cases hlt : i < s.n
  · have hw : IntKind.i64.wrap ((i : Int) + 1) = ((i + 1 : Nat) : Int) := wrap_i64 (by omega) (by omega)
    have hic : i < s.cells.length := by omega
    have hgi := cellsO_get hic
    have hcx : cellC s.cells[i] = [byteA s.cells[i].char, .lit (.bool s.cells[i].attr), byteA s.cells[i].fa, byteA s.cells[i].high, byteA s.cells[i].color, byteA s.cells[i].set] := rfl
    rw [hcx] at hgi
    have hle : i * 6 + 6 ≤ (cellsO s.cells).length := by rw [cellsO_length]; omega
    have hsu := codesTo_succ s i
    rw [show s.cells[i]?.getD .zero = s.cells[i] by simp [hic]] at hsu
    have hcl := codesTo_len s i
    generalize s.cells[i] = c at *
    have r1 := fun own τ => rhex_calls c.fa own τ
    have r2 := fun own τ => rhex_calls c.char own τ
    have hl1 := hexB_len c.fa
    have hl2 := hexB_len c.char
    generalize codesTo s i = T at *
    unfold codeC at hsu
    generalize hexB c.fa = X1 at *
    generalize hexB c.char = X2 at *
    have o1 : ¬ (9223372036854775807 : Int) < (T.length : Int) + 4 := by omega
    have o2 : ¬ (9223372036854775807 : Int) < (T.length : Int) + 2 := by omega
    by_cases hca : c.attr = true
    · rw [if_pos hca] at hsu
      simp +contextual [rowC, hlt, hr, hle, hgi, hca]
      intro b hb
      refine callK.eq (r1 _ _) ?_
      simp [bt1, toB_app, toB_size, hl1, o1]
      refine ⟨i + 1, by omega, by omega, ⟨by rw [hsu]; exact AV.le_refl _, by rw [hw]; exact AV.le_refl _⟩, ?_⟩
      (intro q; simp only [Store.upd, Store.del]; (repeat' split) <;> first | exact Or.inr rfl | exact Or.inl rfl | (exfalso; omega) | (left; subst_vars; assumption) | simp_all)
    · rw [if_neg hca] at hsu
      have hcf : c.attr = false := by simpa using hca
      simp +contextual [rowC, hlt, hr, hle, hgi, hcf]
      intro b hb
      refine callK.eq (r2 _ _) ?_
      simp [bt1, toB_app, toB_size, hl2, o2]
      refine ⟨i + 1, by omega, by omega, ⟨by rw [hsu]; exact AV.le_refl _, by rw [hw]; exact AV.le_refl _⟩, ?_⟩
      (intro q; simp only [Store.upd, Store.del]; (repeat' split) <;> first | exact Or.inr rfl | exact Or.inl rfl | (exfalso; omega) | (left; subst_vars; assumption) | simp_all)
  · obtain rfl : i = s.n := by omega
    simp
@[simp] def st26r : List Nat := [2000003, 5000005]
set_option maxHeartbeats 2000000 in
set_option maxRecDepth 8000 in
theorem pcodes_calls (hP : Prg σ q p s) : ACalls Tryz.prog 26 [ptrA q] σ fun v σ' => v = .lit (.string (toB (codesTo s s.n))) ∧ σ' = σ := by
  have hsn := s.n_le
  have hsp := s.n_pos
  refine ACalls.of_awpY follows (st := st26r) (plans := pl26) (n := 23) Tryz.func26 rfl (by kernel_rfl) (by kernel_rfl) (by kernel_rfl) ?_
  simp
  intro z hz hzk
  have e0 : σ.put z (rawA 109 (Value.agg #[.pointer none, .slice none 0 0]).cells) = bldS z (.nil (.pointer none)) σ := rfl
  rw [e0]
  clear e0
  simp
  refine callK.of (all_calls2 q _) ?_
  rintro v τ2 ⟨b, hb, rfl, rfl⟩
  rw [bldS_nat] at hb
  rw [← bldS_upd]
  have hO0 : BldOk z [] (σ.upd b [ptrA q]) (.nil (.pointer none)) := ⟨rfl, .inl rfl, by simpa using hzk⟩
  have hPb := hP.new hb [ptrA q]
  have hbb : (σ.upd b [ptrA q]) b = some [ptrA q] := by simp
  have hback : Store.sub σ (σ.upd b [ptrA q]) := Store.sub_upd hb (Store.sub_refl _)
  generalize σ.upd b [ptrA q] = τb at *
  simp
  refine codeYK.rangeG follows (st := st26r) (plans := pl26) (all_iter b q p s _) (by simp) (by simp) (fun k τ h => rfl) (by kernel_rfl) (by kernel_rfl) (by kernel_rfl)
    (fun k ρ E => ∃ X, BldOk z (codesTo s k) τb X ∧ Store.sub (bldS z X τb) ρ) (fun c ρ E => False) _ ⟨_, hO0, Store.sub_refl _⟩ (Store.sub_refl _) ?_ ?_ ?_ ?_
  · rintro k ρ E hk ⟨X, hO, h2⟩
    exact ⟨sub_at (by rw [bldS_nat]; exact hbb) h2, (hPb.bld z X).more h2⟩
  · rintro k hk ρ E ⟨X, hO, h2⟩
    have hsu := codesTo_succ s k
    have hat : s.at (k : Int) = s.cells[k]?.getD .zero := by rw [at_of hPb.good hk]
    rw [← hat] at hsu
    have hcl := codesTo_len s k
    generalize s.at (k : Int) = c at *
    have r1 := fun τ => hex_calls c.fa τ
    have r2 := fun τ => hex_calls c.char τ
    have hl1 := hexB_len c.fa
    have hl2 := hexB_len c.char
    unfold codeC at hsu
    have hcx : cellA c = .agg [byteA c.char, .lit (.bool c.attr), byteA c.fa, byteA c.high, byteA c.color, byteA c.set] := rfl
    rw [hcx]
    have hn1 : (hexB c.char) ≠ [] := by simp [hexB]
    generalize hexB c.fa = X1 at *
    generalize hexB c.char = X2 at *
    have hw1 := wstr_calls z X (codesTo s k) (toB (32 :: (X1 ++ [32]))) τb hO (by rw [toB_size]; simp; omega) (by rw [toB_data]; simp)
    have hw2 := wstr_calls z X (codesTo s k) (toB X2) τb hO (by rw [toB_size]; omega) (by rw [toB_data]; exact hn1)
    rw [toB_data] at hw1 hw2
    by_cases hca : c.attr = true
    · rw [if_pos hca] at hsu
      rw [← hsu] at hw1
      simp [hca]
      intro z5 h5
      rw [del_upd_new h5]
      refine callK.eq (r1 _) ?_
      simp [bt1, toB_app, toB_size, hl1]
      refine callK.of (forget_calls hw1 h2) ?_
      rintro v ρ' ⟨rfl, X', hO', rfl⟩
      simp
      exact ⟨_, Store.sub_refl _, X', hO', Store.sub_refl _⟩
    · rw [if_neg hca] at hsu
      rw [← hsu] at hw2
      have hcf : c.attr = false := by simpa using hca
      simp [hcf]
      intro z5 h5
      rw [del_upd_new h5]
      refine callK.eq (r2 _) ?_
      simp
      refine callK.of (forget_calls hw2 h2) ?_
      rintro v ρ' ⟨rfl, X', hO', rfl⟩
      simp
      exact ⟨_, Store.sub_refl _, X', hO', Store.sub_refl _⟩
  · rintro ρ E σ' hs' ⟨X, hO, h2⟩
    have hne : codesTo s s.n ≠ [] := by
      obtain ⟨r, hr⟩ : ∃ r, s.n = r + 1 := ⟨s.n - 1, by omega⟩
      rw [hr, codesTo_succ]
      have := (codeC_len (s.cells[r]?.getD .zero)).2
      intro e
      rw [List.append_eq_nil_iff] at e
      rw [e.2] at this
      simp at this
    simp
    refine callK.eq (forget_calls (bstr_calls z X _ τb hO hne) (Store.sub_trans h2 hs')) ?_
    simp
    exact hback
  · rintro c ρ E σ' _ h
    exact h.elim
end Go.Proofs.YtlmdbcgceijlnaaGreatDoor
/-
  SnapDiffs.
-/
namespace Go.Proofs.YtlmdbcgceijlnaaGreatDoor
open Go Go.AL Go.Sp
variable {σ Y Z τ : Store} {q p q2 p2 b x y : Nat} {s t : Sp} {n : Int} {pv : AV}

theorem Four.less {q p x y : Nat} (h : Four τ q p x y) (hs : Store.sub Y τ) : Four Y q p x y := by
  have k : ∀ {z : Nat}, τ z = none → Y z = none := fun {z} hz => by
    rcases hs z with h | h
    · exact h
    · rw [h]; exact hz
  obtain ⟨f1, f2, f3, f4, f5, f6, f7, f8, f9, f10⟩ := h
  exact ⟨k f1, k f2, k f3, k f4, f5, f6, f7, f8, f9, f10⟩
end Go.Proofs.YtlmdbcgceijlnaaGreatDoor
/-
  SnapLines.
-/
namespace Go.Proofs.YtlmdbcgceijlnaaGreatDoor
open Go Go.AL Go.Sp
variable {σ Y Z τ : Store} {q p q2 p2 b x y : Nat} {s t : Sp} {n : Int} {pv : AV}

theorem signAt_upTo (n : Int) {s : Sp} (h : s.good) (k : Nat) : signAt n (upTo s s.n) k = signAt n s k := by
  have hc := upTo_cells h
  unfold signAt hidAt fofF fldAt
  rw [hc]
end Go.Proofs.YtlmdbcgceijlnaaGreatDoor
/-
  SnapFields.
-/
namespace Go.Proofs.YtlmdbcgceijlnaaGreatDoor
open Go Go.AL Go.Sp
variable {σ Y Z τ : Store} {q p q2 p2 b x y : Nat} {s t : Sp} {n : Int} {pv : AV}

theorem fieldsL_upTo (n : Int) {s : Sp} (h : s.good) : fieldsL n (upTo s s.n) = fieldsL n s := by
  have hc := upTo_cells h
  have hs : signAt n (upTo s s.n) = signAt n s := funext fun k => signAt_upTo n h k
  have hcl : (upTo s s.n).cols = s.cols := rfl
  have ha : (upTo s s.n).attrs = s.attrs := by unfold Sp.attrs; rw [hc]
  have hf : ∀ a, fldAt (upTo s s.n) a = fldAt s a := fun a => by unfold fldAt; rw [hc]
  unfold fieldsL
  rw [ha]
  congr 1
  funext a
  unfold fldL fldParts fldTxt
  rw [hs, hcl, hf, hc]
theorem codesTo_upTo {s : Sp} (h : s.good) (k : Nat) : codesTo (upTo s s.n) k = codesTo s k := by
  unfold codesTo
  rw [upTo_cells h]
set_option maxHeartbeats 4000000 in
set_option maxRecDepth 8000 in
theorem snapFields_law (m u : UInt8) (l : List Sp.Act) (hl : l.length ≤ 9223372036854775807) (ht : ∀ a ∈ l, a.text.length ≤ 9223372036854775807) (σ : Store) :
    ACalls Tryz.prog 6 [byteA m, byteA u, .list false 11 (actsA l)] σ fun v _ => v = .lit (.bool true) := by
  have hm : 2 ≤ 2 + m.toNat % 4 ∧ 2 + m.toNat % 4 ≤ 5 := by omega
  have hg : (Sp.lays m l).good := Sp.foldl_good _ (Sp.new_good hm)
  have haw := fun τ => sawake_calls τ
  have hlay := fun τ => slayP_calls m u l hl ht τ
  generalize Sp.lays m l = S at *
  refine ACalls.of_awp follows (st := st6) (plans := pl6) (n := 36) Tryz.func6 rfl (by kernel_rfl) (by kernel_rfl) (by kernel_rfl) ?_
  unfold byteA at *
  simp
  refine callK.eq (haw _) ?_
  simp
  refine callK.of (hlay _) ?_
  rintro v τ ⟨hL, -⟩
  unfold LayP at hL
  obtain ⟨q, p, x, y, n, pv, w, hv, hn, hPS, hP, hR, hs⟩ := hL
  subst hv
  obtain ⟨a, ha⟩ := hPS.ptr
  rw [ha] at hPS ⊢
  have hal : (fieldsL n S).length ≤ 1000000 := by
    have h1 : S.attrs.length ≤ S.cells.length := by simpa [Sp.attrs] using List.length_filter_le _ (List.range S.cells.length)
    have h2 := hg.len
    have h3 := S.n_le
    simp [fieldsL]; omega
  have hF := pfields_calls hP hPS
  have hE := fun τ' => strEq_calls (fieldsL n S) hal τ'
  have hC := fun τ' (h' : Prg τ' q p (upTo S S.n)) => pcodes_calls h'
  have hun : (upTo S S.n).n = S.n := rfl
  simp only [fieldsL_upTo n hg, codesTo_upTo hg, hun] at hF hC
  have hrf := fun τ' (h' : Ref τ' x y S) => rfields_calls h' hn
  have hrc := fun τ' (h' : Ref τ' x y S) => rcodes_calls h'
  clear hlay haw
  simp
  refine callK.of hF ?_
  rintro v τ1 ⟨rfl, hPS1⟩
  simp
  refine callK.eq (hrf _ (hPS1.ref hR)) ?_
  simp
  refine callK.le (args' := [.list false 1 (strsA (fieldsL n S)), .list false 1 (strsA (fieldsL n S))]) (by simp [AllLe]) (hE _) ?_
  rintro v τ2 ⟨rfl, rfl⟩
  simp
  refine callK.eq (hC _ (hPS1.prg hP)) ?_
  simp
  refine callK.eq (hrc _ (hPS1.ref hR)) ?_
  simp
  exact ⟨_, Store.sub_refl _⟩
end Go.Proofs.YtlmdbcgceijlnaaGreatDoor
/-
  SnapFields: for every input the law returns true, and the arguments read as they did.
-/
namespace Go.Proofs.YtlmdbcgceijlnaaGreatDoor
open Go Go.AL Go.ChangeShapes Go.WideShapes Go.ChangeAt Go.RowKit Go.Lib

theorem own_snapFields : ownKnob Tryz.prog.godebug = none := by kernel_rfl
theorem laid_snapFields : laidOutB Tryz.prog = true := by kernel_rfl
theorem rec22_snapFields : Tryz.prog.readableRec 22 = true := by kernel_rfl
theorem row22_snapFields : (22 : TypeId) < Tryz.prog.types.size := of_decide_eq_true (by kernel_rfl)
theorem rec5_snapFields : Tryz.prog.readableRec 5 = true := by kernel_rfl
theorem row5_snapFields : (5 : TypeId) < Tryz.prog.types.size := of_decide_eq_true (by kernel_rfl)

set_option maxRecDepth 100000 in
theorem snapFields_lifted (os : Os) (started : os.Started) (H : Type) (enc : TypeId × Value → H) :
    ReturnsInHanded {} Tryz.checked os 6 .any (fun w args => (Rows.snapFieldsSpec.pre enc Tryz.prog Tryz.f6 [] false w args ∧ laidMetH Tryz.prog laid5 w) ∧ sizedMet enc Tryz.prog Tryz.f6 (OpenSpec.ofChange Rows.snapFieldsSpec) false w args) (Rows.snapFieldsSpec.post enc Tryz.prog Tryz.f6 false true false false) := by
  refine returnsInHanded_of_change_and (C := Tryz.checked) (X := fun w _ => laidMetH Tryz.prog laid5 w) (fun _ _ _ hh h => h.of_heap hh) own_snapFields started (by kernel_rfl) Tryz.func6
    (ChangeSpec.witness_shaped (enc := enc) (C := Tryz.checked) (os := os) (X := fun w _ => laidMetH Tryz.prog laid5 w) false (World.laidAll Tryz.prog os laid5) #[.int .u8 0, .int .u8 0, .slice none 0 0] 8 (World.laidAll_os _ _ _)
      (World.shaped_of_ZipB (by kernel_rfl) (by kernel_rfl)) (by kernel_rfl) (by kernel_rfl) (by kernel_rfl)
      (by rw [MakeChecks.laidMetH_plain _ _ _ (by kernel_rfl)]; exact laidMet_laidAll _ (by kernel_rfl) (by kernel_rfl))) ?_
  intro W base args ds gs before hval0 hW _ _ hL _
  have hval : ∀ (j : Nat) t v, Tryz.f6.params[j]? = some t → args[j]? = some v → Value.okWide Tryz.prog W .any base t v := hval0
  have hW' := hW
  obtain ⟨p, q, hA0, hV, rfl, hfz, hnd⟩ := hW
  have hA : DataW.TrodAll enc Tryz.prog W 0 (fun _ => true) true Tryz.f6.params.toList args.toList ds p := hA0
  rw [Tryz.params6] at hA hval
  obtain ⟨v0, v1, v2, d0, d1, d2, p0, p1, p2, rfl, rfl, rfl, h0, h1, h2⟩ := trodAll_three hA
  obtain ⟨rfl, rfl⟩ := trodVars_none hV
  obtain ⟨_, hv0⟩ := okWide_int Tryz.underlying5 (hval 0 5 v0 rfl rfl)
  obtain ⟨a0, m0, w0⟩ := (Opens.u8 Tryz.underlying5).arg _ (fun _ => rfl) (by rw [hv0]; rfl) h0
  obtain ⟨_, hv1⟩ := okWide_int Tryz.underlying5 (hval 1 5 v1 rfl rfl)
  obtain ⟨a1, m1, w1⟩ := (Opens.u8 Tryz.underlying5).arg _ (fun _ => rfl) (by rw [hv1]; rfl) h1
  obtain ⟨_, _, _, hv2⟩ := okWide_slice Tryz.underlying22 (hval 2 22 v2 rfl rfl)
  obtain ⟨a2, m2, w2⟩ := (open_acts).arg _ (fun _ => rfl) (by rw [hv2]; rfl) h2
  clear hA0 hval0
  simp only [List.append_nil] at hW'
  have hlt : ∀ x ∈ p0 ++ p1 ++ p2, x.block < W.heap.size := fun x hx => hW'.lt x hx
  refine (law_calls (snapFields_law a0 a1 a2 m2.1 m2.2 _) W #[v0, v1, v2] rfl (fun i c u hc hu => ?_) (laid_none W) (vars5 hL)).mono fun e W' ⟨he, hb⟩ => ?_
  · match i with
    | 0 => simp at hc hu; subst hc hu; exact ⟨w0, rfl⟩
    | 1 => simp at hc hu; subst hc hu; exact ⟨w1, rfl⟩
    | 2 => simp at hc hu; subst hc hu; exact ⟨w2, rfl⟩
    | n + 3 => simp at hc
  subst he
  refine ⟨_, rfl, [d0, d1, d2], [], p0 ++ p1 ++ p2, [], p0 ++ (p1 ++ p2), [], hW', ?_, ?_, rfl, hb.frame _, fun h => (by cases h)⟩
  · exact trodAll_mk1 (shut_bool Tryz.underlying4 true)
  · refine trodAll_mk3 (Below.trod laid_snapFields rec5_snapFields row5_snapFields h0 hb fun x hx => hlt x (by simp [hx])) (Below.trod laid_snapFields rec5_snapFields row5_snapFields h1 hb fun x hx => hlt x (by simp [hx])) (Below.trod laid_snapFields rec22_snapFields row22_snapFields h2 hb fun x hx => hlt x (by simp [hx]))

theorem snapFields_holds : Rows.SnapFieldsSaid :=
  OpenClaim.holds_of_wide 6 Tryz.f6 rfl rfl rfl rfl rfl rfl rfl ⟨rfl, rfl, rfl, rfl, rfl⟩ rfl rfl rfl rfl rfl (by kernel_rfl) Tryz.func6 (by kernel_rfl)
    (of_decide_eq_true (by kernel_rfl)) (by unfold Func.isWrapper; first | (rw [if_pos (by decide +kernel)]; kernel_rfl) | (rw [if_neg (by decide +kernel)]; exact ⟨rfl, rfl⟩))
    (fun os started H enc _ => snapFields_lifted os started H enc)
end Go.Proofs.YtlmdbcgceijlnaaGreatDoor
