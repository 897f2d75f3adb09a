/-
  TapeTexts: bytes shown as letters.
-/
import Derived.Test.YtheldoijfnigoaaDoorTPart13
import Derived.Shelf.Strings.OnBuilder
set_option linter.unusedSimpArgs false
set_option linter.unusedVariables false
namespace Go.Proofs.YtheldoijfnigoaaDoor
open Go Go.AL

def digL : List UInt8 := [48, 49, 50, 51, 52, 53, 54, 55, 56, 57, 97, 98, 99, 100, 101, 102]
def hxs2 (b : UInt8) : List UInt8 := [digL.getD (b.toNat / 16) 0, digL.getD (b.toNat % 16) 0]
def hxsL (p : List UInt8) : List UInt8 := p.flatMap hxs2
theorem hxsL_snoc (p : List UInt8) (b : UInt8) : hxsL (p ++ [b]) = hxsL p ++ [digL.getD (b.toNat / 16) 0] ++ [digL.getD (b.toNat % 16) 0] := by simp [hxsL, hxs2, List.flatMap_append]
theorem hxsL_len (p : List UInt8) : (hxsL p).length = 2 * p.length := by
  induction p with
  | nil => rfl
  | cons b p ih => simp only [hxsL, List.flatMap_cons, List.length_append, hxs2, List.length_cons, List.length_nil] at ih ⊢; omega
/-- Bytes, shown. -/
def shownL (p : List UInt8) : List UInt8 := if p = [] then [45] else hxsL p
@[simp] def st32r : List Nat := [2000003]
variable [Errs]
set_option linter.unusedSectionVars false
set_option maxRecDepth 8000 in
set_option maxHeartbeats 1000000 in
theorem shown_calls (p : List UInt8) (hp : p.length ≤ 1000000) (o : Bool) (σ : Store) :
    ACalls Tryd.prog 32 [.list o 1 (bytesA p)] σ fun v σ' => v = .lit (.string (toB (shownL p))) ∧ σ' = σ := by
  refine ACalls.of_awp follows (st := st32r) (plans := pl32) (n := 25) Tryd.func32 rfl (by kernel_rfl) (by kernel_rfl) (by kernel_rfl) ?_
  by_cases h0 : p = []
  · subst h0
    simp [shownL, bytesA]
    exact AV.le_refl _
  · have hl0 : ¬ p.length = 0 := by simpa using h0
    simp [shownL, h0, hl0]
    intro z hz hzk
    have e0 : σ.put z (rawA 74 (Value.agg #[.pointer none, .slice none 0 0]).cells) = bldS z (.nil (.pointer none)) σ := rfl
    rw [e0]
    clear e0
    have hO0 : BldOk z [] σ (.nil (.pointer none)) := ⟨rfl, .inl rfl, hzk⟩
    simp
    refine codeK.loop follows (st := st32r) (plans := pl32) (X := Nat × Bst) (fun x => x.1 ≤ p.length ∧ BldOk z (hxsL (p.take x.1)) σ x.2)
      (fun x => [(3, ptrA z), (9, .list false 1 (bytesA p)), (10, .lit (.int .i64 p.length)), (11, .lit (.int .i64 x.1))]) (fun x => bldS z x.2 σ) (fun x => p.length - x.1) (0, .nil (.pointer none)) (by kernel_rfl) ⟨Nat.zero_le _, hO0⟩ (by simp) (Store.sub_refl _) ?_
    rintro ⟨k, X⟩ ⟨hk, hO⟩
    dsimp only at hk hO ⊢
    by_cases hlt : k < p.length
    · obtain ⟨c, hc⟩ : ∃ c, p[k] = c := ⟨_, rfl⟩
      have htk : p.take (k + 1) = p.take k ++ [c] := by rw [List.take_succ_eq_append_getElem hlt, hc]
      have hg : (bytesA p)[k]? = some (.lit (.int .u8 c.toNat)) := by simp [bytesA, byteA, hlt, hc]
      have hg2 : ∀ h, (bytesA p)[k]'h = .lit (.int .u8 c.toNat) := fun h => by simp [bytesA, byteA, hc]
      have hlw : IntKind.i64.wrap ((k : Int) + 1) = ((k + 1 : Nat) : Int) := wrap_i64 (by omega) (by omega)
      have hcl := c.toNat_lt
      have f1 : ((c.toNat : Int).fdiv (2 ^ min 4 IntKind.u8.bits)) = ((c.toNat / 16 : Nat) : Int) := by
        show ((c.toNat : Int).fdiv 16) = _
        rw [Int.fdiv_eq_ediv_of_nonneg _ (by omega)]; omega
      have d1 : ([48, 49, 50, 51, 52, 53, 54, 55, 56, 57, 97, 98, 99, 100, 101, 102] : List UInt8)[c.toNat / 16]? = some (digL.getD (c.toNat / 16) 0) := by
        rw [List.getD_eq_getElem?_getD, show digL = [48, 49, 50, 51, 52, 53, 54, 55, 56, 57, 97, 98, 99, 100, 101, 102] from rfl, List.getElem?_eq_getElem (by simp; omega)]; rfl
      have d2 : ([48, 49, 50, 51, 52, 53, 54, 55, 56, 57, 97, 98, 99, 100, 101, 102] : List UInt8)[c.toNat % 16]? = some (digL.getD (c.toNat % 16) 0) := by
        rw [List.getD_eq_getElem?_getD, show digL = [48, 49, 50, 51, 52, 53, 54, 55, 56, 57, 97, 98, 99, 100, 101, 102] from rfl, List.getElem?_eq_getElem (by simp; omega)]; rfl
      have hsn := hxsL_snoc (p.take k) c
      have hpl := hxsL_len (p.take k)
      have hptl : (p.take k).length = k := by rw [List.length_take]; omega
      generalize digL.getD (c.toNat / 16) 0 = e1 at *
      generalize digL.getD (c.toNat % 16) 0 = e2 at *
      have f0 : (0 : Int) ≤ ((c.toNat / 16 : Nat) : Int) := by omega
      have ft : ((c.toNat / 16 : Nat) : Int).toNat = c.toNat / 16 := by omega
      generalize ((c.toNat / 16 : Nat) : Int) = q1 at *
      have f2 : IntKind.u8.wrap ((c.toNat % 2 ^ IntKind.u8.bits &&& 15 % 2 ^ IntKind.u8.bits : Nat) : Int) = ((c.toNat % 16 : Nat) : Int) := by
        have h1 : (c.toNat % 2 ^ IntKind.u8.bits &&& 15 % 2 ^ IntKind.u8.bits) = c.toNat % 16 := by
          have h2 := Nat.and_two_pow_sub_one_eq_mod (c.toNat % 256) 4
          have h3 : c.toNat % 256 = c.toNat := Nat.mod_eq_of_lt hcl
          rw [h3] at h2
          show (c.toNat % 256 &&& 15) = _
          rw [h3]; exact h2
        rw [h1]
        exact wrap_u8 (by omega) (by omega)
      have g0 : (0 : Int) ≤ ((c.toNat % 16 : Nat) : Int) := by omega
      have gt : ((c.toNat % 16 : Nat) : Int).toNat = c.toNat % 16 := by omega
      generalize ((c.toNat % 16 : Nat) : Int) = q2 at *
      simp [hlt, hg, hg2, f1, f0, ft, d1]
      refine callK.of (wbyte_calls z X _ e1 σ hO (by omega)) ?_
      rintro v σ1 ⟨rfl, X1, hO1, rfl⟩
      simp [f2, g0, gt, d2]
      refine callK.of (wbyte_calls z X1 _ e2 σ hO1 (by simp; omega)) ?_
      rintro v σ2 ⟨rfl, X2, hO2, rfl⟩
      rw [← hsn, ← htk] at hO2
      simp
      exact ⟨k + 1, X2, ⟨by omega, hO2⟩, by omega, by rw [hlw]; exact AV.le_refl _, Store.sub_refl _⟩
    · obtain rfl : k = p.length := by omega
      rw [List.take_length] at hO
      have hne : hxsL p ≠ [] := fun e => hl0 (by have := hxsL_len p; rw [e] at this; simp at this; omega)
      simp
      refine callK.of (bstr_calls z X _ σ hO hne) ?_
      rintro v σ1 ⟨rfl, rfl⟩
      simp
end Go.Proofs.YtheldoijfnigoaaDoor
/-
  TapeTexts: strings.Join at this translation, as abstract states.
-/
namespace Go.Proofs.YtheldoijfnigoaaDoor
open Go.Shelf
theorem extra156 : Go.Proofs.Builder.Extra Tryd.prog lays156_ren := {
  sizeBuilder := by kernel_rfl
  liesBuilder := by kernel_rfl
  t5 := Tryd.underlying5
  a5 := Tryd.isAgg5
  z5 := Tryd.sizeOf5
  v5 := Tryd.zeroValue5
  infoByte := by kernel_rfl
  cellsByte := by kernel_rfl
  sizeByte := by kernel_rfl
  neB5 := by decide }
theorem join_none_run (a : Option Addr) (c : Nat) (sep : ByteArray) (w : World) : Calls Tryd.prog 34 #[.slice a 0 c, .string sep] w fun e w' => e = .returned (.string ⟨#[]⟩) ∧ w' = w := Any.strings_Join_none lays156 extra156 a c sep w
theorem join_run (bk o c : Nat) (xs : List ByteArray) (sep : ByteArray) (w : World) (hcells : ∀ (j : Nat) x, xs[j]? = some x → w.cell? ⟨bk, o + j, none⟩ = some (.string x))
    (hbk : bk < w.heap.size) (hN : xs.length ≤ 140737488355328) (hcap : xs.length ≤ c) (hlen : (Lib.join (xs.map (·.data.toList)) sep.data.toList).length ≤ 140737488355328) :
    Calls Tryd.prog 34 #[.slice (some ⟨bk, o, none⟩) xs.length c, .string sep] w fun e w' => e = .returned (.string ⟨(Lib.join (xs.map (·.data.toList)) sep.data.toList).toArray⟩) ∧ RowKit.Below w.heap.size w w' := Any.strings_Join lays156 extra156 bk o c xs sep w hcells hbk hN hcap hlen
open Go Go.AL Go.RowKit
variable [Errs]
set_option linter.unusedSectionVars false
theorem join_calls (own : Bool) (l : List (List UInt8)) (sep : List UInt8) (hN : l.length ≤ 140737488355328) (hlen : (Lib.join l sep).length ≤ 140737488355328) (σ : Store) :
    ACalls Tryd.prog 34 [.list own 1 (strsA l), .lit (.string (toB sep))] σ fun v σ' => v = .lit (.string (toB (Lib.join l sep))) ∧ σ' = σ := by
  intro D G w cargs hl hargs hW hfresh
  obtain ⟨c0, c1, rfl⟩ := bargs2 (by simpa using hl)
  have hv := (hargs 0 _ c0 rfl rfl).1
  have e1 := (hargs 1 _ c1 rfl rfl).1.lit_eq rfl
  subst e1
  have fin0 : ∀ (e : Ending) (w' : World), (e = .returned (.string ⟨#[]⟩) ∧ w' = w) → l = [] → ∃ v cv G' σ', e = .returned cv ∧ (v = .lit (.string (toB (Lib.join l sep))) ∧ σ' = σ) ∧ VR G'.F v cv ∧ OwnAt G' D .acc v cv ∧ WR D G' σ' w' ∧ Ext D G w G' w' := by
    rintro e w' ⟨rfl, rfl⟩ rfl
    exact ⟨_, _, G, _, rfl, ⟨rfl, rfl⟩, .lit _, OwnAt.of_plain rfl, hW, Ext.refl ..⟩
  generalize hL : AV.list own 1 (strsA l) = L at hv
  cases hv with
  | nil o s =>
    have : l = [] := by injection hL with _ _ h; simpa [strsA] using h
    exact (join_none_run none 0 (toB sep) w).mono fun e w' h => fin0 e w' h this
  | void s a =>
    have : l = [] := by injection hL with _ _ h; simpa [strsA] using h
    exact (join_none_run (some a) 0 (toB sep) w).mono fun e w' h => fin0 e w' h this
  | top => cases hL
  | lit => cases hL
  | fptr => cases hL
  | func => cases hL
  | iface => cases hL
  | agg => cases hL
  | tuple => cases hL
  | row => cases hL
  | list o s vs g off n cap us hn hc hw hul hF hvr =>
    injection hL with _ _ h3
    subst h3
    have hnl : n = l.length := by simpa [strsA] using hn
    subst hnl
    rw [flat_strs] at hul hvr
    have hul' : us.length = l.length := by simpa [strsA] using hul
    have hu : ∀ j x, (l.map toB)[j]? = some x → us[j]? = some (Value.string x) := fun j x hj => by
      have hjl : j < l.length := by have := (List.getElem?_eq_some_iff.1 hj).1; simpa using this
      have hus : us[j]? = some (us[j]'(by omega)) := List.getElem?_eq_getElem _
      have h2 := hvr j (.lit (.string x)) _ (by
        rw [List.getElem?_map] at hj
        cases e : l[j]? with
        | none => rw [e] at hj; cases hj
        | some y =>
          rw [e] at hj
          simp only [Option.map_some, Option.some.injEq] at hj
          simp [strsA, e, hj]) hus
      rw [hus, h2.lit_eq rfl]
    have hcells : ∀ (j : Nat) x, (l.map toB)[j]? = some x → w.cell? ⟨g, off + j, none⟩ = some (.string x) := fun j x hj => by
      obtain ⟨cur, e, fz, q1, q2⟩ := hW.frz _ _ _ (hF j _ (hu j x hj)).1
      simp [World.cell?, q1, q2]
    by_cases hl0 : l = []
    · subst hl0
      exact (join_none_run (some ⟨g, off, none⟩) cap (toB sep) w).mono fun e w' h => fin0 e w' h rfl
    · have hg : g < w.heap.size := by
        obtain ⟨x, hx⟩ : ∃ x, (l.map toB)[0]? = some x := by
          cases l with
          | nil => exact absurd rfl hl0
          | cons a b => exact ⟨_, rfl⟩
        obtain ⟨cur, e, fz, q1, q2⟩ := hW.frz _ _ _ (hF 0 _ (hu 0 x hx)).1
        exact (Array.getElem?_eq_some_iff.1 q1).1
      have e2 : (l.map toB).map (·.data.toList) = l := by
        rw [List.map_map]
        exact (List.map_congr_left fun a _ => by simp [toB]).trans (List.map_id l)
      have e3 : (toB sep).data.toList = sep := by simp [toB]
      have hr := join_run g off cap (l.map toB) (toB sep) w hcells hg (by simpa using hN) (by simpa using hc) (by rw [e2, e3]; exact hlen)
      rw [e2, e3, List.length_map] at hr
      refine hr.mono ?_
      rintro e w' ⟨rfl, hb⟩
      obtain ⟨r1, r2⟩ := below_WR hW hfresh hb
      exact ⟨_, _, G, _, rfl, ⟨rfl, rfl⟩, .lit _, OwnAt.of_plain rfl, r1, r2⟩
end Go.Proofs.YtheldoijfnigoaaDoor
/-
  TapeTexts: the document's decimal numbers, of any size.
-/
namespace Go.Proofs.YtheldoijfnigoaaDoor
open Go Go.AL

def digsL : List UInt8 := [48, 49, 50, 51, 52, 53, 54, 55, 56, 57]
def decL (n : Nat) : List UInt8 := if n < 10 then [UInt8.ofNat (48 + n)] else [UInt8.ofNat (48 + n / 10), UInt8.ofNat (48 + n % 10)]
theorem decL_len (n : Nat) : (decL n).length ≤ 2 := by unfold decL; split <;> simp
theorem digs_at : ∀ i : Fin 10, (digsL.drop i.val).take 1 = decL i.val := by decide +kernel
theorem toB_app (l m : List UInt8) : toB l ++ toB m = toB (l ++ m) := by
  apply ByteArray.ext
  simp [toB]
theorem xbt1 (a : UInt8) : (⟨#[a]⟩ : ByteArray) = toB [a] := by rfl
theorem xitoa_nat (n : Nat) : Lib.itoa (n : Int) = Lib.decDigits n := by
  unfold Lib.itoa
  rw [if_neg (by omega)]
  simp
theorem xitoa_neg (m : Nat) (h : 0 < m) : Lib.itoa (-(m : Int)) = 45 :: Lib.decDigits m := by
  unfold Lib.itoa
  rw [if_pos (by omega)]
  simp
theorem xdec_small {n : Nat} (h : n < 10) : Lib.decDigits n = decL n := by
  rw [Lib.decDigits, dif_pos h]
  unfold decL
  rw [if_pos h]
theorem xdec_big {n : Nat} (h : ¬ n < 10) : Lib.decDigits n = Lib.decDigits (n / 10) ++ Lib.decDigits (n % 10) := by
  rw [Lib.decDigits, dif_neg h]
  congr 1
  rw [Lib.decDigits, dif_pos (Nat.mod_lt _ (by omega))]
theorem xdec_len : ∀ (k n : Nat), n < 10 ^ (k + 1) → (Lib.decDigits n).length ≤ k + 1
  | 0, n, h => by rw [Lib.decDigits, dif_pos (by simpa using h)]; simp
  | k + 1, n, h => by
    by_cases h10 : n < 10
    · rw [Lib.decDigits, dif_pos h10]; simp
    · rw [xdec_big h10, List.length_append]
      have h1 := xdec_len k (n / 10) (by rw [Nat.pow_succ] at h; omega)
      have h2 := xdec_len 0 (n % 10) (by simpa using Nat.mod_lt n (by omega : 0 < 10))
      omega
theorem xdec_le (n : Nat) (h : n ≤ 9223372036854775808) : (Lib.decDigits n).length ≤ 20 := xdec_len 19 n (by omega)
theorem xitoa_len (n : Int) (h0 : -9223372036854775808 ≤ n) (h1 : n ≤ 9223372036854775807) : (Lib.itoa n).length ≤ 21 := by
  unfold Lib.itoa
  split
  · have := xdec_le n.natAbs (by omega)
    simp; omega
  · have := xdec_le n.toNat (by omega)
    omega
variable [Errs]
set_option linter.unusedSectionVars false
set_option maxRecDepth 8000 in
theorem rdec10_calls {n : Nat} (hn : n < 10) (σ : Store) : ACalls Tryd.prog 36 [.lit (.int .i64 n)] σ fun v σ' => v = .lit (.string (toB (decL n))) ∧ σ' = σ := by
  have hd := digs_at ⟨n, hn⟩
  dsimp only at hd
  have hw : IntKind.i64.wrap ((n : Int) + 1) = (n : Int) + 1 := wrap_i64 (by omega) (by omega)
  have hsl := aSlice_str (P := Tryd.prog) (t := 9) (by simp) (by simp) digsL n (n + 1) (n : Int) ((n : Int) + 1) rfl (by omega) (by omega) (by show n + 1 ≤ 10; omega)
  rw [show n + 1 - n = 1 from by omega, hd] at hsl
  have hc : (⟨#[48, 49, 50, 51, 52, 53, 54, 55, 56, 57]⟩ : ByteArray) = toB digsL := rfl
  have h10 : (n : Int) < 10 := by omega
  have h0 : ¬ (n : Int) < 0 := by omega
  refine ACalls.of_awp follows (st := st36) (plans := pl36) (n := 21) Tryd.func36 rfl (by kernel_rfl) (by kernel_rfl) (by kernel_rfl) ?_
  simp [-e_aSlice_1, -e_aSlice_2, hc, hw, hsl, hn, h10, h0]
set_option maxRecDepth 8000 in
theorem rdecA_calls : ∀ (f n : Nat), n < 10 ^ f → n ≤ 9223372036854775807 → ∀ (σ : Store), ACalls Tryd.prog 36 [.lit (.int .i64 n)] σ fun v σ' => v = .lit (.string (toB (Lib.decDigits n))) ∧ σ' = σ
  | 0, n, h, _, σ => by
    obtain rfl : n = 0 := by simpa using h
    rw [xdec_small (by omega)]
    exact rdec10_calls (n := 0) (by omega) σ
  | f + 1, n, h, hb, σ => by
    by_cases h10 : n < 10
    · rw [xdec_small h10]
      exact rdec10_calls h10 σ
    have q1 : n / 10 < 10 ^ f := by rw [Nat.pow_succ] at h; omega
    have i1 := rdecA_calls f (n / 10) q1 (by omega) σ
    have i2 := rdec10_calls (n := n % 10) (Nat.mod_lt _ (by omega)) σ
    rw [← xdec_small (Nat.mod_lt _ (by omega))] at i2
    have g1 : (n : Int).tdiv 10 = ((n / 10 : Nat) : Int) := rfl
    have g2 : (n : Int).tmod 10 = ((n % 10 : Nat) : Int) := rfl
    have h10' : ¬ (n : Int) < 10 := by omega
    have h0 : ¬ (n : Int) < 0 := by omega
    have l1 := xdec_le (n / 10) (by omega)
    have l2 := xdec_le (n % 10) (by omega)
    rw [xdec_big h10]
    have w1 : IntKind.i64.wrap ((n : Int).tdiv 10) = ((n / 10 : Nat) : Int) := by rw [g1]; exact wrap_i64 (by omega) (by omega)
    have w2 : IntKind.i64.wrap ((n / 10 : Nat) : Int) = ((n / 10 : Nat) : Int) := wrap_i64 (by omega) (by omega)
    have w3 : IntKind.i64.wrap ((n % 10 : Nat) : Int) = ((n % 10 : Nat) : Int) := wrap_i64 (by omega) (by omega)
    generalize Lib.decDigits (n / 10) = d1 at *
    generalize Lib.decDigits (n % 10) = d2 at *
    generalize n / 10 = a at *
    generalize n % 10 = b at *
    have hz1 : (toB d1).size = d1.length := toB_size _
    have hz2 : (toB d2).size = d2.length := toB_size _
    have hno : ¬ (9223372036854775807 : Int) < (d1.length : Int) + (d2.length : Int) := by omega
    have hap := toB_app d1 d2
    refine ACalls.of_awp follows (st := st36) (plans := pl36) (n := 21) Tryd.func36 rfl (by kernel_rfl) (by kernel_rfl) (by kernel_rfl) ?_
    simp [h10, h10', h0, g1, g2, w1, w2, w3]
    refine callK.eq i1 ?_
    simp [h10, h10', h0, g1, g2, w1, w2, w3]
    refine callK.eq i2 ?_
    simp [hz1, hz2, hno, hap]
theorem rdecN_calls (n : Nat) (h : n ≤ 9223372036854775807) (σ : Store) : ACalls Tryd.prog 36 [.lit (.int .i64 n)] σ fun v σ' => v = .lit (.string (toB (Lib.decDigits n))) ∧ σ' = σ :=
  rdecA_calls 20 n (by omega) h σ
set_option maxRecDepth 8000 in
theorem rneg_calls (m : Nat) (hm : m ≤ 9223372036854775808) (σ : Store) : ACalls Tryd.prog 52 [.lit (.int .i64 (-(m : Int)))] σ fun v σ' => v = .lit (.string (toB (Lib.decDigits m))) ∧ σ' = σ := by
  have g1 : (-(m : Int)).tdiv 10 = -((m / 10 : Nat) : Int) := by rw [Int.neg_tdiv]; rfl
  have g2 : (-(m : Int)).tmod 10 = -((m % 10 : Nat) : Int) := by rw [Int.neg_tmod]; rfl
  have w1 : IntKind.i64.wrap (-((m / 10 : Nat) : Int)) = -((m / 10 : Nat) : Int) := wrap_i64 (by omega) (by omega)
  have w1' : IntKind.i64.wrap (((m / 10 : Nat) : Int)) = ((m / 10 : Nat) : Int) := wrap_i64 (by omega) (by omega)
  have w2 : IntKind.i64.wrap (-((m % 10 : Nat) : Int)) = -((m % 10 : Nat) : Int) := wrap_i64 (by omega) (by omega)
  have w2' : IntKind.i64.wrap (((m % 10 : Nat) : Int)) = ((m % 10 : Nat) : Int) := wrap_i64 (by omega) (by omega)
  have w3 : IntKind.i64.wrap (((m % 10 : Nat) : Int) + 1) = ((m % 10 : Nat) : Int) + 1 := wrap_i64 (by omega) (by omega)
  have hk : m % 10 < 10 := Nat.mod_lt _ (by omega)
  have hd := digs_at ⟨m % 10, hk⟩
  dsimp only at hd
  have hsl := aSlice_str (P := Tryd.prog) (t := 9) (by simp) (by simp) digsL (m % 10) (m % 10 + 1) ((m % 10 : Nat) : Int) (((m % 10 : Nat) : Int) + 1) rfl (by omega) (by omega) (by show m % 10 + 1 ≤ 10; omega)
  rw [show m % 10 + 1 - m % 10 = 1 from by omega, hd] at hsl
  have hc : (⟨#[48, 49, 50, 51, 52, 53, 54, 55, 56, 57]⟩ : ByteArray) = toB digsL := rfl
  have i1 := fun τ => rdecN_calls (m / 10) (by omega) τ
  by_cases h10 : m < 10
  · have e : m % 10 = m := Nat.mod_eq_of_lt h10
    rw [e] at g2 w2 w2' w3 hsl
    rw [xdec_small h10]
    have hgt : (-10 : Int) < -(m : Int) := by omega
    refine ACalls.of_awp follows (st := st52) (plans := pl52) (n := 22) Tryd.func52 rfl (by kernel_rfl) (by kernel_rfl) (by kernel_rfl) ?_
    simp [-e_aSlice_1, -e_aSlice_2, hc, g2, w2, w2', w3, hsl, hgt, h10]
  · rw [xdec_big h10, xdec_small hk]
    have l1 := xdec_le (m / 10) (by omega)
    have l2 := decL_len (m % 10)
    have hgt : ¬ (-10 : Int) < -(m : Int) := by omega
    generalize Lib.decDigits (m / 10) = d1 at *
    generalize decL (m % 10) = d2 at *
    generalize m / 10 = a at *
    generalize m % 10 = b at *
    have hno : ¬ (9223372036854775807 : Int) < (d1.length : Int) + (d2.length : Int) := by omega
    refine ACalls.of_awp follows (st := st52) (plans := pl52) (n := 22) Tryd.func52 rfl (by kernel_rfl) (by kernel_rfl) (by kernel_rfl) ?_
    simp [-e_aSlice_1, -e_aSlice_2, hc, g1, g2, w1, w1', w2, w2', w3, hsl, hgt]
    refine callK.eq (i1 _) ?_
    simp [toB_size, toB_app, hno]
set_option maxRecDepth 8000 in
theorem rdecZ_calls (n : Int) (h0 : -9223372036854775808 ≤ n) (h1 : n ≤ 9223372036854775807) (σ : Store) : ACalls Tryd.prog 36 [.lit (.int .i64 n)] σ fun v σ' => v = .lit (.string (toB (Lib.itoa n))) ∧ σ' = σ := by
  by_cases hn : n < 0
  · obtain ⟨m, rfl⟩ : ∃ m : Nat, n = -(m : Int) := ⟨(-n).toNat, by omega⟩
    rw [xitoa_neg m (by omega)]
    have l1 := xdec_le m (by omega)
    have i1 := fun τ => rneg_calls m (by omega) τ
    generalize Lib.decDigits m = d at *
    have hno : ¬ (9223372036854775807 : Int) < 1 + (d.length : Int) := by omega
    have hm : 0 < m := by omega
    refine ACalls.of_awp follows (st := st36) (plans := pl36) (n := 21) Tryd.func36 rfl (by kernel_rfl) (by kernel_rfl) (by kernel_rfl) ?_
    simp [hn, hm]
    refine callK.eq (i1 _) ?_
    simp [xbt1, toB_size, toB_app, hno]
  · obtain ⟨m, rfl⟩ : ∃ m : Nat, n = (m : Int) := ⟨n.toNat, by omega⟩
    rw [xitoa_nat]
    exact rdecN_calls m (by omega) σ
end Go.Proofs.YtheldoijfnigoaaDoor
/-
  TapeTexts: the document's bytes, shown.
-/
namespace Go.Proofs.YtheldoijfnigoaaDoor
open Go Go.AL

theorem shr4 (a : Nat) : (a : Int).fdiv (2 ^ min 4 IntKind.u8.bits) = ((a / 16 : Nat) : Int) := by
  show (a : Int).fdiv ((16 : Nat) : Int) = _
  exact (Int.ofNat_fdiv a 16).symm
theorem hex_cut : ∀ i : Fin 16, (digL.drop i.val).take 1 = [digL.getD i.val 0] := by decide +kernel
theorem aSlice_u8 {P : Program} {t : TypeId} (ht : tElem P t = none) (hs : tStr P t = true) (L : List UInt8) (a b : Nat) (za zb : Int) (ha : za = a) (hb : zb = b) (hab : a ≤ b) (hbl : b ≤ L.length) :
    aSlice P t (.lit (.string (toB L))) (some (.lit (.int .u8 za))) (some (.lit (.int .u8 zb))) none = some (.lit (.string (toB ((L.drop a).take (b - a))))) := by
  subst ha hb
  have hsz := toB_size L
  have h0 : (0 : Int) ≤ (a : Int) := by omega
  have h1 : (0 : Int) ≤ (b : Int) := by omega
  have h2 : b ≤ (toB L).size := by omega
  simp [aSlice, ht, hs, bndA, h0, h1, hab, h2, toB_extract L a b hab]
variable [Errs]
set_option linter.unusedSectionVars false
set_option maxRecDepth 8000 in
set_option maxHeartbeats 1000000 in
theorem rhexs_calls (p : List UInt8) (hp : p.length ≤ 1000000) (own : Bool) (σ : Store) : ACalls Tryd.prog 51 [.list own 1 (bytesA p)] σ fun v σ' => v = .lit (.string (toB (hxsL p))) ∧ σ' = σ := by
  have hc : (⟨#[48, 49, 50, 51, 52, 53, 54, 55, 56, 57, 97, 98, 99, 100, 101, 102]⟩ : ByteArray) = toB digL := rfl
  have h0 : (⟨#[]⟩ : ByteArray) = toB [] := rfl
  refine ACalls.of_awp follows (st := st51) (plans := pl51) (n := 29) Tryd.func51 rfl (by kernel_rfl) (by kernel_rfl) (by kernel_rfl) ?_
  simp [h0]
  refine codeK.loop follows (st := st51) (plans := pl51) (X := Nat) (fun k => k ≤ p.length)
    (fun k => [(3, .lit (.string (toB (hxsL (p.take k))))), (6, .list false 1 (bytesA p)), (7, .lit (.int .i64 p.length)), (8, .lit (.int .i64 (k : Nat)))]) (fun _ => σ) (fun k => p.length - k) 0 (by kernel_rfl) (by simp) (by simp [hxsL]) (Store.sub_refl _) fun k hk => ?_
  by_cases hlt : k < p.length
  · obtain ⟨c, hcc⟩ : ∃ c, p[k] = c := ⟨_, rfl⟩
    have htk : p.take (k + 1) = p.take k ++ [c] := by rw [List.take_succ_eq_append_getElem hlt, hcc]
    have hg : (bytesA p)[k]? = some (.lit (.int .u8 c.toNat)) := by simp [bytesA, byteA, hlt, hcc]
    have hg2 : ∀ h, (bytesA p)[k]'h = .lit (.int .u8 c.toNat) := fun h => by simp [bytesA, byteA, hcc]
    have hb := c.toNat_lt
    have h1 := shr4 c.toNat
    have h2 : pureBin .and (.int .u8 (c.toNat : Int)) (.int .u8 15) = some (.int .u8 ((c &&& 15).toNat : Int)) := and_u8 c 15
    have h3 : (c &&& 15).toNat = c.toNat % 16 := by
      rw [UInt8.toNat_and]
      exact Nat.and_two_pow_sub_one_eq_mod c.toNat 4
    rw [h3] at h2
    have g1 := hex_cut ⟨c.toNat / 16, by omega⟩
    have g2 := hex_cut ⟨c.toNat % 16, by omega⟩
    dsimp only at g1 g2
    have k1l : c.toNat / 16 < 16 := by omega
    have k2l : c.toNat % 16 < 16 := by omega
    have hsn := hxsL_snoc (p.take k) c
    rw [← htk] at hsn
    have hpl := hxsL_len (p.take k)
    have hptl : (p.take k).length = k := by rw [List.length_take]; omega
    generalize digL.getD (c.toNat / 16) 0 = x1 at *
    generalize digL.getD (c.toNat % 16) 0 = x2 at *
    generalize c.toNat / 16 = k1 at *
    generalize c.toNat % 16 = k2 at *
    have wr : ∀ k : Nat, k < 16 → IntKind.u8.wrap ((k : Int) + 1) = (k : Int) + 1 := fun k hk => wrap_u8 (by omega) (by omega)
    have s1 := aSlice_u8 (P := Tryd.prog) (t := 9) (by simp) (by simp) digL k1 (k1 + 1) (k1 : Int) ((k1 : Int) + 1) rfl (by omega) (by omega) (by show k1 + 1 ≤ 16; omega)
    have s2 := aSlice_u8 (P := Tryd.prog) (t := 9) (by simp) (by simp) digL k2 (k2 + 1) (k2 : Int) ((k2 : Int) + 1) rfl (by omega) (by omega) (by show k2 + 1 ≤ 16; omega)
    rw [show k1 + 1 - k1 = 1 from by omega, g1] at s1
    rw [show k2 + 1 - k2 = 1 from by omega, g2] at s2
    have hlw : IntKind.i64.wrap ((k : Int) + 1) = ((k + 1 : Nat) : Int) := wrap_i64 (by omega) (by omega)
    generalize hxsL (p.take k) = H at *
    have hno : ¬ (9223372036854775807 : Int) < (H.length : Int) + 2 := by omega
    simp [hlt, hg, hg2, hc, -e_pureBin_8, -e_pureBin_9, -e_aSlice_1, -e_aSlice_2, h1, h2, wr _ k1l, wr _ k2l, s1, s2, toB_size, toB_app, hno]
    refine ⟨k + 1, by omega, by omega, ?_, by rw [hlw]; exact AV.le_refl _⟩
    rw [hsn]; simp
  · obtain rfl : k = p.length := by omega
    simp
set_option maxRecDepth 8000 in
theorem rshown_calls (p : List UInt8) (hp : p.length ≤ 1000000) (own : Bool) (σ : Store) : ACalls Tryd.prog 35 [.list own 1 (bytesA p)] σ fun v σ' => v = .lit (.string (toB (shownL p))) ∧ σ' = σ := by
  have hx := fun o τ => rhexs_calls p hp o τ
  refine ACalls.of_awp follows (st := st35) (plans := pl35) (n := 8) Tryd.func35 rfl (by kernel_rfl) (by kernel_rfl) (by kernel_rfl) ?_
  by_cases h0 : p = []
  · subst h0
    simp [shownL, bytesA]
    exact AV.le_refl _
  · have hl0 : ¬ p.length = 0 := by simpa using h0
    simp [shownL, h0, hl0]
    refine callK.of (hx _ _) ?_
    rintro v σ1 ⟨rfl, rfl⟩
    simp
end Go.Proofs.YtheldoijfnigoaaDoor
/-
  TapeTexts: a step's line.
-/
namespace Go.Proofs.YtheldoijfnigoaaDoor
open Go Go.AL

def keyX (k : Ky) : List UInt8 := Lib.join [[75], Lib.itoa k.kind, Lib.itoa k.sign, Lib.itoa k.n] [32]
/-- A step's line, or what is wrong with it. -/
def lineX (x : Stp) : List UInt8 × Int := if x.kind = 72 ∨ x.kind = 79 then (x.kind :: 32 :: shownL x.bytes, 0) else if x.kind = 75 then (keyX x.key, 0) else ([], 1)
/-- A step's numbers are Go's. -/
def StpOk (x : Stp) : Prop := (-9223372036854775808 ≤ x.key.kind ∧ x.key.kind ≤ 9223372036854775807) ∧ (-2147483648 ≤ x.key.sign ∧ x.key.sign ≤ 2147483647) ∧ (-9223372036854775808 ≤ x.key.n ∧ x.key.n ≤ 9223372036854775807)
@[simp] def st17x : List Nat := [5000001, 4000011, 4000015, 4000022, 4000026, 4000031]
@[simp] def pl17x : List (Nat × Plan) := [(4, Plan.seq [0, 1, 4, 5] (.alt (Plan.seq [2, 3, 6, 7, 8, 9] (.done)) (Plan.seq [6, 2, 3, 7, 8, 9] (.done)))), (6, Plan.seq [0, 1, 2, 4, 5, 6, 7, 9, 10, 11, 3, 8, 12, 13, 14] (.done))]
@[simp] def st18x : List Nat := [5000001, 4000010, 4000015, 4000022, 4000028, 4000035]
@[simp] def pl18x : List (Nat × Plan) := [(4, Plan.seq [0, 1, 5, 6] (.alt (Plan.seq [2, 3, 4, 7, 8, 9, 10] (.done)) (Plan.seq [7, 2, 3, 4, 8, 9, 10] (.done)))), (6, Plan.seq [0, 1, 2, 6, 7, 8, 9, 13, 14, 15, 3, 4, 5, 10, 11, 12, 16, 17, 18, 19] (.done))]
theorem shownL_len (p : List UInt8) : (shownL p).length ≤ 2 * p.length + 1 := by
  unfold shownL
  split
  · simp
  · rw [hxsL_len]; omega
theorem keyX_eq (k : Ky) : keyX k = 75 :: 32 :: (Lib.itoa k.kind ++ 32 :: (Lib.itoa k.sign ++ 32 :: Lib.itoa k.n)) := by
  simp [keyX, Lib.join]
theorem keyX_len {x : Stp} (h : StpOk x) : (keyX x.key).length ≤ 70 := by
  obtain ⟨⟨a1, a2⟩, ⟨b1, b2⟩, ⟨c1, c2⟩⟩ := h
  have h1 := xitoa_len x.key.kind a1 a2
  have h2 := xitoa_len x.key.sign (by omega) (by omega)
  have h3 := xitoa_len x.key.n c1 c2
  rw [keyX_eq]; simp; omega
variable [Errs]
set_option linter.unusedSectionVars false
set_option maxRecDepth 8000 in
set_option maxHeartbeats 1000000 in
theorem lineX_calls (x : Stp) (h : StpOk x) (hb : x.bytes.length ≤ 1000000) (σ : Store) :
    ACalls Tryd.prog 17 [stpA x] σ fun v σ' => v = .tuple [.lit (.string (toB (lineX x).1)), .lit (.int .i64 (lineX x).2)] ∧ σ' = σ := by
  have hsh := fun o τ => shown_calls x.bytes hb o τ
  obtain ⟨⟨a1, a2⟩, ⟨b1, b2⟩, ⟨c1, c2⟩⟩ := h
  have h1 := xitoa_len x.key.kind a1 a2
  have h2 := xitoa_len x.key.sign (by omega) (by omega)
  have h3 := xitoa_len x.key.n c1 c2
  have i1 := fun τ => itoa_calls x.key.kind a1 a2 τ
  have i2 := fun τ => itoa_calls x.key.sign (by omega) (by omega) τ
  have i3 := fun τ => itoa_calls x.key.n c1 c2 τ
  have hws : IntKind.i64.wrap x.key.sign = x.key.sign := wrap_i64 (by omega) (by omega)
  have hjn := fun o τ => join_calls o [[75], Lib.itoa x.key.kind, Lib.itoa x.key.sign, Lib.itoa x.key.n] [32] (by simp) (by
    show (keyX x.key).length ≤ _
    rw [keyX_eq]; simp; omega) τ
  have hsl := shownL_len x.bytes
  have hX : lineX x = if x.kind = 72 ∨ x.kind = 79 then (x.kind :: 32 :: shownL x.bytes, 0) else if x.kind = 75 then (keyX x.key, 0) else ([], 1) := rfl
  unfold keyX at hX
  rw [hX]
  obtain ⟨kx, bx, ⟨ax, sx, nx⟩⟩ := x
  dsimp only at *
  refine ACalls.of_awp follows (st := st17x) (plans := pl17x) (n := 36) Tryd.func17 rfl (by kernel_rfl) (by kernel_rfl) (by kernel_rfl) ?_
  by_cases h72 : kx = 72 ∨ kx = 79
  · have hno : ¬ (9223372036854775807 : Int) < 2 + ((shownL bx).length : Int) := by omega
    have hb2 : bytesOf [.lit (.int .u8 72), .lit (.int .u8 32)] = some [72, 32] := rfl
    have hb3 : bytesOf [.lit (.int .u8 79), .lit (.int .u8 32)] = some [79, 32] := rfl
    have hap : ∀ (k : UInt8) (L : List UInt8), toB [k, 32] ++ toB L = toB (k :: 32 :: L) := fun k L => toB_app [k, 32] L
    generalize shownL bx = S at *
    rcases h72 with rfl | rfl
    all_goals
      simp [stpA, byteA, hb2, hb3, mk_toB]
      with_reducible apply And.intro
      all_goals
        refine callK.of (hsh _ _) ?_
        rintro v σ1 ⟨rfl, rfl⟩
        simp [toB_size, hno, hap, hb2, hb3, mk_toB]
  · rw [not_or] at h72
    have f1 : ¬ (kx.toNat : Int) = 72 := fun h => h72.1 (UInt8.toNat_inj.1 (by show kx.toNat = 72; omega))
    have f2 : ¬ (kx.toNat : Int) = 79 := fun h => h72.2 (UInt8.toNat_inj.1 (by show kx.toNat = 79; omega))
    have f1n : ¬ kx.toNat = 72 := fun h => h72.1 (UInt8.toNat_inj.1 h)
    have f2n : ¬ kx.toNat = 79 := fun h => h72.2 (UInt8.toNat_inj.1 h)
    by_cases h75 : kx = 75
    · subst h75
      generalize Lib.itoa ax = s1 at *
      generalize Lib.itoa sx = s2 at *
      generalize Lib.itoa nx = s3 at *
      simp [stpA, byteA]
      refine callK.of (i1 _) ?_
      rintro v σ1 ⟨rfl, rfl⟩
      simp [hws]
      refine callK.of (i2 _) ?_
      rintro v σ2 ⟨rfl, rfl⟩
      simp
      refine callK.of (i3 _) ?_
      rintro v σ3 ⟨rfl, rfl⟩
      simp
      refine callK.of (hjn _ _) ?_
      rintro v σ4 ⟨rfl, rfl⟩
      simp
    · have f3 : ¬ (kx.toNat : Int) = 75 := fun h => h75 (UInt8.toNat_inj.1 (by show kx.toNat = 75; omega))
      have f3n : ¬ kx.toNat = 75 := fun h => h75 (UInt8.toNat_inj.1 h)
      simp [stpA, byteA, f1, f2, f3, f1n, f2n, f3n, h72, h75]
      exact AV.le_refl _
set_option maxRecDepth 8000 in
set_option maxHeartbeats 1000000 in
theorem rlineX_calls (x : Stp) (h : StpOk x) (hb : x.bytes.length ≤ 1000000) (σ : Store) :
    ACalls Tryd.prog 18 [stpA x] σ fun v σ' => v = .tuple [.lit (.string (toB (lineX x).1)), .lit (.int .i64 (lineX x).2)] ∧ σ' = σ := by
  have hsh := fun o τ => rshown_calls x.bytes hb o τ
  obtain ⟨⟨a1, a2⟩, ⟨b1, b2⟩, ⟨c1, c2⟩⟩ := h
  have h1 := xitoa_len x.key.kind a1 a2
  have h2 := xitoa_len x.key.sign (by omega) (by omega)
  have h3 := xitoa_len x.key.n c1 c2
  have i1 := fun τ => rdecZ_calls x.key.kind a1 a2 τ
  have i2 := fun τ => rdecZ_calls x.key.sign (by omega) (by omega) τ
  have i3 := fun τ => rdecZ_calls x.key.n c1 c2 τ
  have hws : IntKind.i64.wrap x.key.sign = x.key.sign := wrap_i64 (by omega) (by omega)
  have hsl := shownL_len x.bytes
  have hX : lineX x = if x.kind = 72 ∨ x.kind = 79 then (x.kind :: 32 :: shownL x.bytes, 0) else if x.kind = 75 then (keyX x.key, 0) else ([], 1) := rfl
  rw [keyX_eq] at hX
  rw [hX]
  obtain ⟨kx, bx, ⟨ax, sx, nx⟩⟩ := x
  dsimp only at *
  refine ACalls.of_awp follows (st := st18x) (plans := pl18x) (n := 38) Tryd.func18 rfl (by kernel_rfl) (by kernel_rfl) (by kernel_rfl) ?_
  by_cases h72 : kx = 72 ∨ kx = 79
  · have hno : ¬ (9223372036854775807 : Int) < 2 + ((shownL bx).length : Int) := by omega
    have hb2 : bytesOf [.lit (.int .u8 72)] = some [72] := rfl
    have hb3 : bytesOf [.lit (.int .u8 79)] = some [79] := rfl
    generalize shownL bx = S at *
    rcases h72 with rfl | rfl
    all_goals
      simp [stpA, byteA, hb2, hb3, mk_toB, toB_size, toB_app]
      with_reducible apply And.intro
      all_goals
        refine callK.of (hsh _ _) ?_
        rintro v σ1 ⟨rfl, rfl⟩
        simp [toB_size, hno, toB_app, hb2, hb3, mk_toB]
  · rw [not_or] at h72
    have f1 : ¬ (kx.toNat : Int) = 72 := fun h => h72.1 (UInt8.toNat_inj.1 (by show kx.toNat = 72; omega))
    have f2 : ¬ (kx.toNat : Int) = 79 := fun h => h72.2 (UInt8.toNat_inj.1 (by show kx.toNat = 79; omega))
    have f1n : ¬ kx.toNat = 72 := fun h => h72.1 (UInt8.toNat_inj.1 h)
    have f2n : ¬ kx.toNat = 79 := fun h => h72.2 (UInt8.toNat_inj.1 h)
    by_cases h75 : kx = 75
    · subst h75
      generalize Lib.itoa ax = s1 at *
      generalize Lib.itoa sx = s2 at *
      generalize Lib.itoa nx = s3 at *
      simp [stpA, byteA]
      refine callK.of (i1 _) ?_
      rintro v σ1 ⟨rfl, rfl⟩
      have n1 : ¬ (9223372036854775807 : Int) < 2 + (s1.length : Int) := by omega
      have n2 : ¬ (9223372036854775807 : Int) < (s1.length : Int) + 1 + 1 + 1 := by omega
      simp [hws, mk_toB, toB_size, toB_app, n1, n2]
      refine callK.of (i2 _) ?_
      rintro v σ2 ⟨rfl, rfl⟩
      generalize hA : s1 ++ [32] = A at *
      have lA : A.length ≤ 22 := by rw [← hA]; simp; omega
      have n3 : ¬ (9223372036854775807 : Int) < (A.length : Int) + 1 + 1 + (s2.length : Int) := by omega
      have n4 : ¬ (9223372036854775807 : Int) < (A.length : Int) + (s2.length : Int) + 1 + 1 + 1 := by omega
      simp [mk_toB, toB_size, toB_app, n3, n4]
      refine callK.of (i3 _) ?_
      rintro v σ3 ⟨rfl, rfl⟩
      generalize hB : s2 ++ [32] = B at *
      have lB : B.length ≤ 22 := by rw [← hB]; simp; omega
      have n5 : ¬ (9223372036854775807 : Int) < (A.length : Int) + (B.length : Int) + 1 + 1 + (s3.length : Int) := by omega
      have hfin : 75 :: 32 :: (A ++ (B ++ s3)) = 75 :: 32 :: (s1 ++ 32 :: (s2 ++ 32 :: s3)) := by rw [← hA, ← hB]; simp
      simp [mk_toB, toB_size, toB_app, n5, hfin]
    · have f3 : ¬ (kx.toNat : Int) = 75 := fun h => h75 (UInt8.toNat_inj.1 (by show kx.toNat = 75; omega))
      have f3n : ¬ kx.toNat = 75 := fun h => h75 (UInt8.toNat_inj.1 h)
      simp [stpA, byteA, f1, f2, f3, f1n, f2n, f3n, h72, h75]
      exact AV.le_refl _
end Go.Proofs.YtheldoijfnigoaaDoor
