/-
  Bytes that are told by letters: tape.read.
-/
import Derived.Test.YtheldoijfnigoaaGreatDoorAPart10
import Derived.Shelf.Strconv.Itoa3
import Derived.Shelf.Strconv.Itoa4
import Derived.Shelf.Strconv.ParseIntPublic10
import Derived.Test.YtheldoijfnigoaaGreatDoorProg
import Derived.Lib.ParseIntBCases
import Derived.Lib.ItoaMem
import Derived.Lib.AtoiErrMem
import Derived.Lib.ParseIntBTie
import Derived.WalkKit
import Derived.BigCall
set_option linter.unusedSimpArgs false
set_option linter.unusedVariables false
namespace Go.Proofs.YtheldoijfnigoaaGreatDoor
open Go Go.AL

def hexL : List UInt8 := [48, 49, 50, 51, 52, 53, 54, 55, 56, 57, 97, 98, 99, 100, 101, 102]
/-- A letter's digit; below 0: it is none. -/
def hexV (c : UInt8) : Int := Lib.indexByte hexL c
/-- Two letters' byte. -/
def pairO : List UInt8 → Option UInt8
  | [a, b] => if 0 ≤ hexV a ∧ 0 ≤ hexV b then some (UInt8.ofNat (16 * (hexV a).toNat + (hexV b).toNat)) else none
  | _ => none
def readO (s : List UInt8) : Option (List UInt8) :=
  if s = [45] then some [] else if s ≠ [] ∧ ∀ x ∈ chunksL s, pairO x ≠ none then some ((chunksL s).filterMap pairO) else none
/-- What letters say together. -/
def hexsV (l : List UInt8) : Int := l.foldl (fun n c => 16 * n + hexV c) 0
theorem chunksL_size : ∀ l : List UInt8, ∀ d ∈ chunksL l, d.length = 1 ∨ d.length = 2
  | [], d, h => by cases h
  | [a], d, h => by simp [chunksL] at h; subst h; simp
  | a :: b :: l, d, h => by
    rcases List.mem_cons.1 h with rfl | h
    · simp
    · exact chunksL_size l d h
theorem pairO_none {d : List UInt8} (h : d.length ≠ 2 ∨ ∃ c ∈ d, hexV c < 0) : pairO d = none := by
  unfold pairO
  split
  · rename_i a b
    rw [if_neg]
    rintro ⟨h1, h2⟩
    rcases h with h | ⟨c, hc, h⟩
    · simp at h
    · simp at hc
      rcases hc with rfl | rfl <;> omega
  · rfl
theorem readO_none {l d : List UInt8} (h0 : l ≠ [45]) (hd : d ∈ chunksL l) (h : pairO d = none) : readO l = none := by
  unfold readO
  rw [if_neg h0, if_neg]
  rintro ⟨_, h2⟩
  exact h2 d hd h
theorem hexbits (a b : Int) (ha : 0 ≤ a ∧ a < 16) (hb : 0 ≤ b ∧ b < 16) : IntKind.i64.wrap ((((IntKind.i64.wrap (a * 2 ^ min 4 IntKind.i64.bits) % 2 ^ IntKind.i64.bits).toNat ||| (b % 2 ^ IntKind.i64.bits).toNat : Nat)) : Int) = 16 * a + b := by
  have : ∀ a b : Fin 16, IntKind.i64.wrap ((((IntKind.i64.wrap ((a.val : Int) * 2 ^ min 4 IntKind.i64.bits) % 2 ^ IntKind.i64.bits).toNat ||| ((b.val : Int) % 2 ^ IntKind.i64.bits).toNat : Nat)) : Int) = 16 * a.val + b.val := by decide +kernel
  have h := this ⟨a.toNat, by omega⟩ ⟨b.toNat, by omega⟩
  rw [show ((⟨a.toNat, by omega⟩ : Fin 16).val : Int) = a by simp; omega, show ((⟨b.toNat, by omega⟩ : Fin 16).val : Int) = b by simp; omega] at h
  exact h
theorem hexV_lt (c : UInt8) : -1 ≤ hexV c ∧ hexV c < 16 := by
  have : ∀ i : Fin 256, -1 ≤ hexV (UInt8.ofNat i.val) ∧ hexV (UInt8.ofNat i.val) < 16 := by decide +kernel
  have h := this ⟨c.toNat, c.toNat_lt⟩
  simpa using h

theorem pairO_two {d : List UInt8} (h : d.length = 2) (hd : ∀ c ∈ d, 0 ≤ hexV c) : pairO d = some (UInt8.ofNat (hexsV d).toNat) ∧ 0 ≤ hexsV d ∧ hexsV d < 256 := by
  match d, h with
  | [a, b], _ =>
    have ha := hd a (by simp)
    have hb := hd b (by simp)
    have ha' := hexV_lt a
    have hb' := hexV_lt b
    have e : hexsV [a, b] = 16 * hexV a + hexV b := by simp [hexsV]
    rw [e]
    refine ⟨?_, by omega, by omega⟩
    show (if 0 ≤ hexV a ∧ 0 ≤ hexV b then some (UInt8.ofNat (16 * (hexV a).toNat + (hexV b).toNat)) else none) = _
    rw [if_pos ⟨ha, hb⟩]
    congr 2
    omega
theorem hexsV_one {d : List UInt8} {i : Nat} (h : d.length = 2) (hi : i < d.length) (hd : ∀ c ∈ d.take i, 0 ≤ hexV c) : 0 ≤ hexsV (d.take i) ∧ hexsV (d.take i) < 16 := by
  match d, h with
  | [x, y], _ =>
    have hx := hexV_lt x
    have : i = 0 ∨ i = 1 := by simp at hi; omega
    rcases this with rfl | rfl
    · simp [hexsV]
    · have := hd x (by simp)
      simp [hexsV]; omega
theorem filterMap_len {f : List UInt8 → Option UInt8} : ∀ l : List (List UInt8), (∀ x ∈ l, f x ≠ none) → (l.filterMap f).length = l.length
  | [], _ => rfl
  | a :: l, h => by
    have ha := h a (by simp)
    have ih := filterMap_len l fun x hx => h x (by simp [hx])
    cases e : f a with
    | none => exact absurd e ha
    | some v => simp [List.filterMap_cons, e, ih]
theorem sub_two {σ τ : Store} {p q : Nat} {X Y : List AV} (h : Store.sub σ τ) (hp : σ p = none) (hq : σ q = none) : Store.sub σ ((τ.upd p X).upd q Y) := by
  intro o
  simp only [Store.upd]
  split
  · rename_i e; left; subst e; exact hq
  · split
    · rename_i e; left; subst e; exact hp
    · exact h o
variable [Errs]
set_option linter.unusedSectionVars false
@[simp] def st24x : List Nat := [36, 1000013]
set_option maxRecDepth 8000 in
set_option maxHeartbeats 1000000 in
theorem read_calls (l : List UInt8) (hl : l.length ≤ 100000) (σ : Store) :
    ACalls Tryz.prog 41 [.lit (.string (toB l))] σ fun v σ' => (∃ x, (∀ p, readO l = some p → x = p) ∧ v = .tuple [.list false 1 (bytesA x), .lit (.bool (readO l).isSome)]) ∧ σ' = σ := by
  have hit := fun σ' => chunk_iter l hl σ'
  have hck := fun (τ : Store) => chunk_calls true l τ
  refine ACalls.of_awpY follows (st := st24x) (plans := pl41) (n := 45) Tryz.func41 rfl (by kernel_rfl) (by kernel_rfl) (by kernel_rfl) ?_
  have hix : ∀ (c : UInt8) (τ : Store), ACalls Tryz.prog 60 [.lit (.string ⟨#[48, 49, 50, 51, 52, 53, 54, 55, 56, 57, 97, 98, 99, 100, 101, 102]⟩), .lit (.int .u8 (c.toNat : Int))] τ fun v σ' => v = .lit (.int .i64 (hexV c)) ∧ σ' = τ := fun c τ => idxb_calls hexL c τ
  have htl : (toB l).toList = l := by rw [ByteArray.toList_eq, toB_data]
  simp
  intro p hp q hq
  rw [ite_none] at hq
  obtain ⟨n1, hq⟩ := hq
  have n2 : ¬ p = q := fun e => n1 e.symm
  rw [htl]
  by_cases h0 : l = [45]
  · rw [if_pos h0]
    have hr : readO l = some [] := by unfold readO; rw [if_pos h0]
    simp [n1, n2, hr]
    refine ⟨AV.le_refl _, ?_⟩
    (intro q; simp only [Store.upd, Store.del]; (repeat' split) <;> first | exact Or.inr rfl | exact Or.inl rfl | (exfalso; omega) | (left; subst_vars; assumption) | simp_all)
  · rw [if_neg h0]
    intro r hr
    rw [ite_none, ite_none] at hr
    obtain ⟨n3, n4, hr⟩ := hr
    have n5 : ¬ q = r := fun e => n3 e.symm
    have n6 : ¬ p = r := fun e => n4 e.symm
    have hbv : bytesV (toB l) = bytesA l := by simp [bytesV, bytesA, byteA, toB]
    refine ⟨by rw [toB_size]; omega, ?_⟩
    rw [hbv]
    refine callK.of (hck _) ?_
    rintro v σ1 ⟨rfl, rfl⟩
    simp
    have hszs := chunksL_size l
    obtain ⟨U, hU⟩ : ∃ U, chunksL l = U := ⟨_, rfl⟩
    rw [hU] at hit hszs
    have hback : ∀ X, Store.sub (((σ.upd p [AV.list true 1 []]).upd q [AV.lit (Value.bool false)]).upd r X) (((((σ.upd p [AV.list true 1 []]).upd q [AV.lit (Value.bool false)]).upd r X).upd p [AV.list true 1 []]).upd q [AV.lit (Value.bool false)]) := fun X => by (intro q; simp only [Store.upd, Store.del]; (repeat' split) <;> first | exact Or.inr rfl | exact Or.inl rfl | (exfalso; omega) | (left; subst_vars; assumption) | simp_all)
    have hsub : ∀ X, Store.sub σ ((((σ.upd p [AV.list true 1 []]).upd q [AV.lit (Value.bool false)])).upd r X) := fun X => by (intro q; simp only [Store.upd, Store.del]; (repeat' split) <;> first | exact Or.inr rfl | exact Or.inl rfl | (exfalso; omega) | (left; subst_vars; assumption) | simp_all)
    refine codeYK.range follows (st := st24x) (plans := pl41) (hit _) (by simp) (by simp) (by simp) (by kernel_rfl) (by kernel_rfl) (by kernel_rfl)
      (fun k τ _ => k ≤ U.length ∧ (∀ x ∈ U.take k, pairO x ≠ none) ∧ τ = ((σ.upd p [AV.list true 1 []]).upd q [AV.lit (Value.bool false)]).upd r [.list true 1 (bytesA ((U.take k).filterMap pairO))])
      (fun c τ _ => c = .ret ∧ readO l = none ∧ ∃ X, τ = ((σ.upd p [AV.list true 1 []]).upd q [AV.lit (Value.bool false)]).upd r X) _ ⟨Nat.zero_le _, by simp, by simp [bytesA]⟩ (Store.sub_refl _) ?_ ?_ ?_
    · rintro k hk τ E ⟨h1, h2, rfl⟩
      have hk' : k < U.length := by simpa using hk
      obtain ⟨d, hd⟩ : ∃ d, U[k] = d := ⟨_, rfl⟩
      have e2 : (U.map fun c => [AV.list false 1 (bytesA c)])[k] = [AV.list false 1 (bytesA d)] := by rw [List.getElem_map, hd]
      rw [e2]
      have hst : U.take (k + 1) = U.take k ++ [d] := by rw [List.take_succ_eq_append_getElem hk', hd]
      have hdm : d ∈ U := by rw [← hd]; exact List.getElem_mem _
      have hdU : d ∈ chunksL l := by rw [hU]; exact hdm
      simp
      refine codeYK.loop follows (st := st24x) (plans := pl41) (S := Nat) (fun i => i ≤ d.length ∧ (∀ c ∈ d.take i, 0 ≤ hexV c) ∧ (0 < i → d.length = 2))
        (fun i => [(2, .lit (.pointer (some ⟨p, 0, none⟩))), (3, .lit (.pointer (some ⟨q, 0, none⟩))), (4, .lit (.pointer (some ⟨r, 0, none⟩))), (5, .list false 1 (bytesA d)), (6, .lit (.int .i64 (hexsV (d.take i)))), (16, .list false 1 (bytesA d)), (17, .lit (.int .i64 d.length)), (18, .lit (.int .i64 i))])
        (fun _ => ((σ.upd p [AV.list true 1 []]).upd q [AV.lit (Value.bool false)]).upd r [.list true 1 (bytesA ((U.take k).filterMap pairO))]) (fun _ _ => True) (fun i => d.length - i) 0 (by kernel_rfl) (by simp) (by simp [hexsV]) (Store.sub_refl _) trivial ?_
      rintro i E1 ⟨h3, h4, h5⟩ -

      by_cases hlt : i < d.length
      · obtain ⟨c, hc⟩ : ∃ c, d[i] = c := ⟨_, rfl⟩
        have hg : ∀ q : i < (bytesA d).length, (bytesA d)[i]'q = .lit (.int .u8 (c.toNat : Int)) := fun q => by simp [bytesA, byteA, hc]
        simp [hlt, hg]
        refine callK.of (hix c _) ?_
        rintro v σ2 ⟨rfl, rfl⟩
        have hv := hexV_lt c
        have hci : c ∈ d := by rw [← hc]; exact List.getElem_mem _
        by_cases hneg : hexV c < 0
        · have hn0 : ¬ 0 ≤ hexV c := by omega
          have hno := readO_none h0 hdU (pairO_none (.inr ⟨c, hci, hneg⟩))
          simp [hneg, hn0, n1, n2, n3, n4, n5, n6]
          exact ⟨_, hback _, hno, _, rfl⟩
        · have hn0 : 0 ≤ hexV c := by omega
          by_cases hsz : d.length < 2
          · have hno := readO_none h0 hdU (pairO_none (.inl (by omega)))
            have hsz' : (d.length : Int) < 2 := by omega
            simp [hneg, hn0, hsz', n1, n2, n3, n4, n5, n6]
            exact ⟨_, hback _, hno, _, rfl⟩
          · have hsz' : ¬ (d.length : Int) < 2 := by omega
            simp [hneg, hn0, hsz']
            have hd2 : d.length = 2 := by rcases hszs d hdm with h | h <;> omega
            have htk : d.take (i + 1) = d.take i ++ [c] := by rw [List.take_succ_eq_append_getElem hlt, hc]
            have hb0 := hexsV_one hd2 hlt h4
            have hnx : hexsV (d.take (i + 1)) = 16 * hexsV (d.take i) + hexV c := by rw [htk]; simp [hexsV, List.foldl_append]
            refine ⟨i + 1, ⟨by omega, ?_, fun _ => hd2⟩, by omega, ?_, ?_⟩
            · intro c' hc'
              rw [htk] at hc'
              rcases List.mem_append.1 hc' with h | h
              · exact h4 c' h
              · simp at h; subst h; exact hn0
            · rw [hexbits _ _ hb0 (by omega), hnx]; exact AV.le_refl _
            · rw [wrap_i64 (by omega) (by omega)]; exact AV.le_refl _
      · have hi : i = d.length := by omega
        have hd2 : d.length = 2 := by rcases hszs d hdm with h | h <;> omega
        rw [List.take_of_length_le (by omega)] at h4
        obtain ⟨hp2, hq1, hq2⟩ := pairO_two hd2 h4
        have htd : d.take i = d := List.take_of_length_le (by omega)
        rw [htd]
        have hby : IntKind.u8.wrap (hexsV d) = ((UInt8.ofNat (hexsV d).toNat).toNat : Int) := by rw [wrap_u8 hq1 hq2, UInt8.toNat_ofNat', Nat.mod_eq_of_lt (by omega)]; omega
        have hil : ¬ (i : Int) < d.length := by omega
        simp [hil, hi, hby]
        have hfl : ((U.take k).filterMap pairO).length ≤ 100000 := by
          have h9 := List.length_filterMap_le pairO (U.take k)
          have h8 := chunksL_len l
          rw [hU] at h8
          rw [List.length_take] at h9
          omega
        refine ⟨by omega, by omega, _, Store.sub_refl _, by omega, ?_, ?_⟩
        · intro x hx
          rw [hst] at hx
          rcases List.mem_append.1 hx with h | h
          · exact h2 x h
          · simp at h; subst h; rw [hp2]; simp
        · rw [hst, List.filterMap_append]
          simp [hp2, bytesA, byteA]
    · rintro τ E σ' hs ⟨h1, h2, rfl⟩
      rw [List.length_map, List.take_of_length_le (by omega)] at hs h2
      have hfl := filterMap_len U h2
      have er : σ' r = some [.list true 1 (bytesA (U.filterMap pairO))] := by
        rcases hs r with h | h
        · simp at h
        · rw [← h]; simp
      have ep : σ' p = some [.list true 1 []] := by
        rcases hs p with h | h
        · simp [n6, n1, n2] at h
        · rw [← h]; simp [n6, n1, n2]
      have eq : σ' q = some [.lit (.bool false)] := by
        rcases hs q with h | h
        · simp [n5] at h
        · rw [← h]; simp [n5]
      have hsg := Store.sub_trans (hsub _) hs
      by_cases hl0 : l = []
      · have hu0 : U = [] := by rw [← hU, hl0]; rfl
        have hr : readO l = none := by unfold readO; rw [if_neg h0, if_neg (fun h => h.1 hl0)]
        subst hu0
        simp [er, ep, eq, n1, n2, n3, n4, n5, n6, hr, bytesA]
        exact ⟨_, AV.le_refl _, sub_two hsg hp hq, [], rfl⟩
      · have hr : readO l = some (U.filterMap pairO) := by unfold readO; rw [if_neg h0, hU, if_pos ⟨hl0, h2⟩]
        have hu0 : 0 < (U.filterMap pairO).length := by
          have h8 := chunksL_len l
          have : 0 < l.length := List.length_pos_iff.2 hl0
          rw [hU] at h8; omega
        generalize U.filterMap pairO = V at *
        simp [er, ep, eq, n1, n2, n3, n4, n5, n6, hr, hu0]
        exact sub_two hsg hp hq
    · rintro c τ E σ' hs ⟨rfl, hn, X, rfl⟩
      have ep : σ' p = some [.list true 1 []] := by
        rcases hs p with h | h
        · simp [n6, n1, n2] at h
        · rw [← h]; simp [n6, n1, n2]
      have eq : σ' q = some [.lit (.bool false)] := by
        rcases hs q with h | h
        · simp [n5] at h
        · rw [← h]; simp [n5]
      have hsg := Store.sub_trans (hsub _) hs
      simp [ep, eq, hn]
      exact ⟨_, AV.le_refl _, hsg, [], rfl⟩
end Go.Proofs.YtheldoijfnigoaaGreatDoor
/-
  DERIVED: THE SHELF's CONTRACTS AT THIS DUMP, IN PLAIN WORDS (tools/lay-plain.mjs out of 'TryzShelf.lean', which tools/lay-shelf.mjs wrote): THE SAME DECLARATIONS UNDER THE SAME NAMES: 'import', 'namespace', 'open', 'def', 'theorem' AND NOTHING ELSE: no command of the shelf's: FOR A HAND-IN. Each laying: the table of numbers ('.._ren') and one theorem, a field a fact of the dump's own or the kernel's comparison; each contract: ONE APPLICATION.
-/
namespace Go.Proofs.YtheldoijfnigoaaGreatDoor
open Go.Shelf
def lays173_ren : Go.Shelf.Ren := ⟨fun | 173 => 97 | 246 => 164 | 283 => 220 | 284 => 221 | 285 => 222 | 286 => 223 | 129 => 271 | 317 => 270 | 318 => 272 | 319 => 273 | 320 => 274 | 337 => 314 | 338 => 315 | n => n, fun | 2 => 2 | 3 => 3 | 9 => 9 | 4 => 4 | 171 => 298 | 0 => 0 | 53 => 113 | 37 => 26 | 5 => 5 | 173 => 301 | 212 => 359 | 51 => 176 | 20 => 20 | 213 => 360 | 46 => 124 | 232 => 418 | 233 => 419 | n => n, fun | 17 => 6 | 18 => 8 | 19 => 9 | n => n⟩
theorem lays173 : Go.Proofs.LaysM.n173 Tryz.prog lays173_ren := {
  mixed := by kernel_rfl
  f129 := Tryz.func271.trans (congrArg some (by kernel_rfl))
  f173 := Tryz.func97.trans (congrArg some (by kernel_rfl))
  f246 := Tryz.func164.trans (congrArg some (by kernel_rfl))
  f283 := Tryz.func220.trans (congrArg some (by kernel_rfl))
  f284 := Tryz.func221.trans (congrArg some (by kernel_rfl))
  f285 := Tryz.func222.trans (congrArg some (by kernel_rfl))
  f286 := Tryz.func223.trans (congrArg some (by kernel_rfl))
  f317 := Tryz.func270.trans (congrArg some (by kernel_rfl))
  f318 := Tryz.func272.trans (congrArg some (by kernel_rfl))
  f319 := Tryz.func273.trans (congrArg some (by kernel_rfl))
  f320 := Tryz.func274.trans (congrArg some (by kernel_rfl))
  f337 := Tryz.func314.trans (congrArg some (by kernel_rfl))
  f338 := Tryz.func315.trans (congrArg some (by kernel_rfl))
  t0 := Tryz.underlying0
  a0 := Tryz.isAgg0
  z0 := Tryz.sizeOf0
  v0 := Tryz.zeroValue0
  t2 := Tryz.underlying2
  a2 := Tryz.isAgg2
  z2 := Tryz.sizeOf2
  v2 := Tryz.zeroValue2
  t3 := Tryz.underlying3
  a3 := Tryz.isAgg3
  z3 := Tryz.sizeOf3
  v3 := Tryz.zeroValue3
  t4 := Tryz.underlying4
  a4 := Tryz.isAgg4
  z4 := Tryz.sizeOf4
  v4 := Tryz.zeroValue4
  t5 := Tryz.underlying5
  a5 := Tryz.isAgg5
  z5 := Tryz.sizeOf5
  v5 := Tryz.zeroValue5
  t9 := Tryz.underlying9
  a9 := Tryz.isAgg9
  z9 := Tryz.sizeOf9
  v9 := Tryz.zeroValue9
  t20 := Tryz.underlying20
  a20 := Tryz.isAgg20
  z20 := Tryz.sizeOf20
  v20 := Tryz.zeroValue20
  t37 := Tryz.underlying26
  a37 := Tryz.isAgg26
  z37 := Tryz.sizeOf26
  v37 := Tryz.zeroValue26
  t46 := Tryz.underlying124
  a46 := Tryz.isAgg124
  z46 := Tryz.sizeOf124
  v46 := Tryz.zeroValue124
  t51 := Tryz.underlying176
  a51 := Tryz.isAgg176
  z51 := Tryz.sizeOf176
  v51 := Tryz.zeroValue176
  t53 := Tryz.underlying113
  a53 := Tryz.isAgg113
  z53 := Tryz.sizeOf113
  v53 := Tryz.zeroValue113
  t171 := Tryz.underlying298
  a171 := Tryz.isAgg298
  z171 := Tryz.sizeOf298
  v171 := Tryz.zeroValue298
  t173 := Tryz.underlying301
  a173 := Tryz.isAgg301
  z173 := Tryz.sizeOf301
  v173 := Tryz.zeroValue301
  t212 := Tryz.underlying359
  a212 := Tryz.isAgg359
  z212 := Tryz.sizeOf359
  v212 := Tryz.zeroValue359
  t213 := Tryz.underlying360
  a213 := Tryz.isAgg360
  z213 := Tryz.sizeOf360
  t232 := Tryz.underlying418
  a232 := Tryz.isAgg418
  z232 := Tryz.sizeOf418
  v232 := Tryz.zeroValue418
  t233 := Tryz.underlying419
  a233 := Tryz.isAgg419
  z233 := Tryz.sizeOf419
  v233 := Tryz.zeroValue419
  g17 := by kernel_rfl
  g18 := by kernel_rfl
  g19 := by kernel_rfl
  i0 := by kernel_rfl
  i2 := by kernel_rfl
  i3 := by kernel_rfl
  i4 := by kernel_rfl
  i5 := by kernel_rfl
  i9 := by kernel_rfl
  i20 := by kernel_rfl
  i37 := by kernel_rfl
  i46 := by kernel_rfl
  i51 := by kernel_rfl
  i53 := by kernel_rfl
  i171 := by kernel_rfl
  i173 := by kernel_rfl
  i212 := by kernel_rfl
  i232 := by kernel_rfl
  i233 := by kernel_rfl
  m17 := by kernel_rfl
  m18 := by kernel_rfl
  m19 := by kernel_rfl }
def lays174_ren : Go.Shelf.Ren := ⟨fun | 174 => 96 | 247 => 162 | 245 => 163 | 287 => 215 | 279 => 216 | 280 => 217 | 281 => 218 | 282 => 219 | 321 => 265 | 322 => 266 | 316 => 267 | 171 => 269 | 205 => 268 | 243 => 313 | 246 => 164 | 283 => 220 | 284 => 221 | 285 => 222 | 286 => 223 | 129 => 271 | 317 => 270 | 318 => 272 | 319 => 273 | 320 => 274 | 337 => 314 | 338 => 315 | n => n, fun | 9 => 9 | 3 => 3 | 2 => 2 | 75 => 153 | 85 => 154 | 4 => 4 | 167 => 291 | 5 => 5 | 53 => 113 | 175 => 292 | 46 => 124 | 168 => 294 | 37 => 26 | 0 => 0 | 210 => 356 | 21 => 21 | 127 => 389 | 145 => 392 | 143 => 390 | 171 => 298 | 173 => 301 | 212 => 359 | 51 => 176 | 20 => 20 | 213 => 360 | 232 => 418 | 233 => 419 | 80 => 469 | n => n, fun | 15 => 4 | 16 => 5 | 17 => 6 | 18 => 8 | 19 => 9 | n => n⟩
theorem lays174 : Go.Proofs.LaysC.n174 Tryz.prog lays174_ren := {
  mixed := by kernel_rfl
  f129 := Tryz.func271.trans (congrArg some (by kernel_rfl))
  f171 := Tryz.func269.trans (congrArg some (by kernel_rfl))
  f174 := Tryz.func96.trans (congrArg some (by kernel_rfl))
  f205 := Tryz.func268.trans (congrArg some (by kernel_rfl))
  f243 := Tryz.func313.trans (congrArg some (by kernel_rfl))
  f245 := Tryz.func163.trans (congrArg some (by kernel_rfl))
  f246 := Tryz.func164.trans (congrArg some (by kernel_rfl))
  f247 := Tryz.func162.trans (congrArg some (by kernel_rfl))
  f279 := Tryz.func216.trans (congrArg some (by kernel_rfl))
  f280 := Tryz.func217.trans (congrArg some (by kernel_rfl))
  f281 := Tryz.func218.trans (congrArg some (by kernel_rfl))
  f282 := Tryz.func219.trans (congrArg some (by kernel_rfl))
  f283 := Tryz.func220.trans (congrArg some (by kernel_rfl))
  f284 := Tryz.func221.trans (congrArg some (by kernel_rfl))
  f285 := Tryz.func222.trans (congrArg some (by kernel_rfl))
  f286 := Tryz.func223.trans (congrArg some (by kernel_rfl))
  f287 := Tryz.func215.trans (congrArg some (by kernel_rfl))
  f316 := Tryz.func267.trans (congrArg some (by kernel_rfl))
  f317 := Tryz.func270.trans (congrArg some (by kernel_rfl))
  f318 := Tryz.func272.trans (congrArg some (by kernel_rfl))
  f319 := Tryz.func273.trans (congrArg some (by kernel_rfl))
  f320 := Tryz.func274.trans (congrArg some (by kernel_rfl))
  f321 := Tryz.func265.trans (congrArg some (by kernel_rfl))
  f322 := Tryz.func266.trans (congrArg some (by kernel_rfl))
  f337 := Tryz.func314.trans (congrArg some (by kernel_rfl))
  f338 := Tryz.func315.trans (congrArg some (by kernel_rfl))
  t0 := Tryz.underlying0
  a0 := Tryz.isAgg0
  z0 := Tryz.sizeOf0
  v0 := Tryz.zeroValue0
  t2 := Tryz.underlying2
  a2 := Tryz.isAgg2
  z2 := Tryz.sizeOf2
  v2 := Tryz.zeroValue2
  t3 := Tryz.underlying3
  a3 := Tryz.isAgg3
  z3 := Tryz.sizeOf3
  v3 := Tryz.zeroValue3
  t4 := Tryz.underlying4
  a4 := Tryz.isAgg4
  z4 := Tryz.sizeOf4
  v4 := Tryz.zeroValue4
  t5 := Tryz.underlying5
  a5 := Tryz.isAgg5
  z5 := Tryz.sizeOf5
  v5 := Tryz.zeroValue5
  t9 := Tryz.underlying9
  a9 := Tryz.isAgg9
  z9 := Tryz.sizeOf9
  v9 := Tryz.zeroValue9
  t20 := Tryz.underlying20
  a20 := Tryz.isAgg20
  z20 := Tryz.sizeOf20
  v20 := Tryz.zeroValue20
  t21 := Tryz.underlying21
  a21 := Tryz.isAgg21
  z21 := Tryz.sizeOf21
  v21 := Tryz.zeroValue21
  t37 := Tryz.underlying26
  a37 := Tryz.isAgg26
  z37 := Tryz.sizeOf26
  v37 := Tryz.zeroValue26
  t46 := Tryz.underlying124
  a46 := Tryz.isAgg124
  z46 := Tryz.sizeOf124
  v46 := Tryz.zeroValue124
  t51 := Tryz.underlying176
  a51 := Tryz.isAgg176
  z51 := Tryz.sizeOf176
  v51 := Tryz.zeroValue176
  t53 := Tryz.underlying113
  a53 := Tryz.isAgg113
  z53 := Tryz.sizeOf113
  v53 := Tryz.zeroValue113
  t75 := Tryz.underlying153
  a75 := Tryz.isAgg153
  z75 := Tryz.sizeOf153
  v75 := Tryz.zeroValue153
  t85 := Tryz.underlying154
  a85 := Tryz.isAgg154
  z85 := Tryz.sizeOf154
  v85 := Tryz.zeroValue154
  t127 := Tryz.underlying389
  a127 := Tryz.isAgg389
  z127 := Tryz.sizeOf389
  v127 := Tryz.zeroValue389
  t143 := Tryz.underlying390
  a143 := Tryz.isAgg390
  z143 := Tryz.sizeOf390
  v143 := Tryz.zeroValue390
  t145 := Tryz.underlying392
  a145 := Tryz.isAgg392
  z145 := Tryz.sizeOf392
  v145 := Tryz.zeroValue392
  t167 := Tryz.underlying291
  a167 := Tryz.isAgg291
  z167 := Tryz.sizeOf291
  v167 := Tryz.zeroValue291
  t168 := Tryz.underlying294
  a168 := Tryz.isAgg294
  z168 := Tryz.sizeOf294
  v168 := Tryz.zeroValue294
  t171 := Tryz.underlying298
  a171 := Tryz.isAgg298
  z171 := Tryz.sizeOf298
  v171 := Tryz.zeroValue298
  t173 := Tryz.underlying301
  a173 := Tryz.isAgg301
  z173 := Tryz.sizeOf301
  v173 := Tryz.zeroValue301
  t175 := Tryz.underlying292
  a175 := Tryz.isAgg292
  z175 := Tryz.sizeOf292
  v175 := Tryz.zeroValue292
  t210 := Tryz.underlying356
  a210 := Tryz.isAgg356
  z210 := Tryz.sizeOf356
  v210 := Tryz.zeroValue356
  t212 := Tryz.underlying359
  a212 := Tryz.isAgg359
  z212 := Tryz.sizeOf359
  v212 := Tryz.zeroValue359
  t213 := Tryz.underlying360
  a213 := Tryz.isAgg360
  z213 := Tryz.sizeOf360
  t232 := Tryz.underlying418
  a232 := Tryz.isAgg418
  z232 := Tryz.sizeOf418
  v232 := Tryz.zeroValue418
  t233 := Tryz.underlying419
  a233 := Tryz.isAgg419
  z233 := Tryz.sizeOf419
  v233 := Tryz.zeroValue419
  g15 := by kernel_rfl
  g16 := by kernel_rfl
  g17 := by kernel_rfl
  g18 := by kernel_rfl
  g19 := by kernel_rfl
  t80 := Tryz.underlying469
  a80 := Tryz.isAgg469
  z80 := Tryz.sizeOf469
  v80 := Tryz.zeroValue469
  i0 := by kernel_rfl
  i2 := by kernel_rfl
  i3 := by kernel_rfl
  i4 := by kernel_rfl
  i5 := by kernel_rfl
  i9 := by kernel_rfl
  i20 := by kernel_rfl
  i21 := by kernel_rfl
  i37 := by kernel_rfl
  i46 := by kernel_rfl
  i51 := by kernel_rfl
  i53 := by kernel_rfl
  i75 := by kernel_rfl
  i80 := by kernel_rfl
  i85 := by kernel_rfl
  i127 := by kernel_rfl
  i143 := by kernel_rfl
  i145 := by kernel_rfl
  i167 := by kernel_rfl
  i168 := by kernel_rfl
  i171 := by kernel_rfl
  i173 := by kernel_rfl
  i175 := by kernel_rfl
  i210 := by kernel_rfl
  i212 := by kernel_rfl
  i232 := by kernel_rfl
  i233 := by kernel_rfl
  m15 := by kernel_rfl
  m16 := by kernel_rfl
  m17 := by kernel_rfl
  m18 := by kernel_rfl
  m19 := by kernel_rfl
  c0 := by kernel_rfl
  c2 := by kernel_rfl
  c3 := by kernel_rfl
  c4 := by kernel_rfl
  c5 := by kernel_rfl
  c9 := by kernel_rfl
  c20 := by kernel_rfl
  c21 := by kernel_rfl
  c37 := by kernel_rfl
  c46 := by kernel_rfl
  c51 := by kernel_rfl
  c53 := by kernel_rfl
  c75 := by kernel_rfl
  c80 := by kernel_rfl
  c85 := by kernel_rfl
  c127 := by kernel_rfl
  c143 := by kernel_rfl
  c145 := by kernel_rfl
  c167 := by kernel_rfl
  c168 := by kernel_rfl
  c171 := by kernel_rfl
  c173 := by kernel_rfl
  c175 := by kernel_rfl
  c210 := by kernel_rfl
  c212 := by kernel_rfl
  c213 := by kernel_rfl
  c232 := by kernel_rfl
  c233 := by kernel_rfl }
theorem fmt_run (n : Int) (h0 : -9223372036854775808 ≤ n) (h1 : n ≤ 9223372036854775807) (w : World) (htab : Lib.TabIs Tryz.prog w "internal/strconv.uint64pow10" .u64 Lib.pow10Tab) :
    Calls Tryz.prog 97 #[.int .i64 n, .int .i64 10] w fun e w' => e = .returned (.string ⟨(Lib.itoa n).toArray⟩) ∧ ∃ k os, w' = Go.Sort.grow (w.drewN k) os := Any.strconv_FormatInt_10 lays173 n h0 h1 w htab
/-- What strconv.ParseInt answers, at 64 and at 32 bits. -/
theorem parse_run (B : Nat) (hB : B = 64 ∨ B = 32) (s : ByteArray) (hs : s.size ≤ 1000000) (w : World) {te tr : TypeId} {ve vr : Value} (he : w.cell? ⟨4, 0, none⟩ = some (.iface te ve)) (hr : w.cell? ⟨5, 0, none⟩ = some (.iface tr vr)) :
    Calls Tryz.prog 96 #[.string s, .int .i64 10, .int .i64 B] w fun e w' => RowKit.Below w.heap.size w w' ∧ ((∃ v, Lib.parseIntB B s.data.toList = .ok v ∧ e = .returned (.tuple #[.int .i64 v, .nilIface])) ∨
      (∀ v, Lib.parseIntB B s.data.toList ≠ .ok v) ∧ ∃ n T x, e = .returned (.tuple #[.int .i64 n, .iface T x])) := by
  rcases hB with rfl | rfl
  · cases h : Lib.parseIntB 64 s.data.toList
    · rename_i v
      refine (Any.strconv_ParseInt_10_at64_ok lays174 s (by omega) v h w).mono ?_
      rintro e w' ⟨rfl, h2⟩
      refine ⟨?_, .inl ⟨v, rfl, rfl⟩⟩
      rcases h2 with rfl | ⟨t, rfl⟩
      · exact RowKit.Below.refl _ _
      · exact Lib.bytesWorld_below _ _ _
    · refine (Any.strconv_ParseInt_10_at64_syntax lays174 s (by omega) h _ w he (.inr ⟨_, _, rfl⟩)).mono ?_
      rintro e w' ⟨N, rfl, _, _, hb⟩
      exact ⟨hb, .inr ⟨fun v e => (by cases e), _, _, _, rfl⟩⟩
    · refine (Any.strconv_ParseInt_10_at64_range lays174 s (by omega) h _ w hr (.inr ⟨_, _, rfl⟩)).mono ?_
      rintro e w' ⟨N, rfl, _, _, hb⟩
      exact ⟨hb, .inr ⟨fun v e => (by cases e), _, _, _, rfl⟩⟩
  · cases h : Lib.parseIntB 32 s.data.toList
    · rename_i v
      refine (Any.strconv_ParseInt_10_at32_ok lays174 s (by omega) v h w).mono ?_
      rintro e w' ⟨rfl, h2⟩
      refine ⟨?_, .inl ⟨v, rfl, rfl⟩⟩
      rcases h2 with rfl | ⟨t, rfl⟩
      · exact RowKit.Below.refl _ _
      · exact Lib.bytesWorld_below _ _ _
    · refine (Any.strconv_ParseInt_10_at32_syntax lays174 s (by omega) h _ w he (.inr ⟨_, _, rfl⟩)).mono ?_
      rintro e w' ⟨N, rfl, _, _, hb⟩
      exact ⟨hb, .inr ⟨fun v e => (by cases e), _, _, _, rfl⟩⟩
    · refine (Any.strconv_ParseInt_10_at32_range lays174 s (by omega) h _ w hr (.inr ⟨_, _, rfl⟩)).mono ?_
      rintro e w' ⟨N, rfl, _, _, hb⟩
      exact ⟨hb, .inr ⟨fun v e => (by cases e), _, _, _, rfl⟩⟩
end Go.Proofs.YtheldoijfnigoaaGreatDoor
/-
  Numbers as texts: the plain law.
-/
namespace Go.Proofs.YtheldoijfnigoaaGreatDoor
open Go Go.Lib

def decV (l : List UInt8) : Nat := l.foldl (fun n c => 10 * n + (c.toNat - 48)) 0
def Dig (c : UInt8) : Prop := 48 ≤ c.toNat ∧ c.toNat ≤ 57
end Go.Proofs.YtheldoijfnigoaaGreatDoor
/-
  Numbers as texts: what the program reads.
-/
namespace Go.Proofs.YtheldoijfnigoaaGreatDoor
open Go Go.AL Go.RowKit

/-- A number's text, read back as it was written. -/
def numO (B : Nat) (s : List UInt8) : Option Int :=
  match Lib.parseIntB B s with
  | .ok v => if Lib.itoa v = s then some v else none
  | _ => none

variable [Errs]
set_option linter.unusedSectionVars false
theorem below_WR {D : Nat → Prop} {G : Ghost} {σ : Store} {w w' : World} (hW : WR D G σ w) (hD : ∀ k, w.heap.size ≤ k → D k) (h : Below w.heap.size w w') : WR D G σ w' ∧ Ext D G w G w' := by
  obtain ⟨h1, h2, h3, h4, h5⟩ := h
  refine ⟨hW.grow h5 fun k hd _ => hd, ⟨h1, h2, h3, h4, fun _ _ _ h => h, fun k hk => ⟨?_, rfl, rfl⟩⟩⟩
  rcases Nat.lt_or_ge k w.heap.size with hlt | hge
  · exact h5 k hlt
  · exact absurd (hD k hge) hk
theorem grow_below (w : World) (k : Nat) (os : Array Obj) : Below w.heap.size w (Go.Sort.grow (w.drewN k) os) := by
  refine ⟨rfl, rfl, rfl, ?_, fun i hi => ?_⟩
  · simp [Go.Sort.grow, World.drewN]
  · simp only [Go.Sort.grow, World.drewN]
    rw [Array.getElem?_append_left hi]
theorem err_syn {D : Nat → Prop} {G : Ghost} {σ : Store} {w : World} (hW : WR D G σ w) : w.cell? ⟨4, 0, none⟩ = some (.iface Errs.ts Errs.vs) := by
  obtain ⟨_, T, fz, h⟩ := hW.vars 4 _ rfl
  rw [cell_of_row w 4 0 _ _ _ h]; rfl
theorem err_ran {D : Nat → Prop} {G : Ghost} {σ : Store} {w : World} (hW : WR D G σ w) : w.cell? ⟨5, 0, none⟩ = some (.iface Errs.tr Errs.vr) := by
  obtain ⟨_, T, fz, h⟩ := hW.vars 5 _ rfl
  rw [cell_of_row w 5 0 _ _ _ h]; rfl
theorem args2 {cargs : Array Value} (h : cargs.size = 2) : ∃ a b, cargs = #[a, b] := by
  rcases cargs with ⟨l⟩
  match l, h with
  | [a, b], _ => exact ⟨a, b, rfl⟩
theorem tab_of {w : World} {T : TypeId} {fz : Nat × Nat} (h : w.heap[6]? = some (.cells pow10A T fz)) : Lib.TabIs Tryz.prog w "internal/strconv.uint64pow10" .u64 Lib.pow10Tab := by
  unfold Lib.TabIs World.var?
  rw [show Tryz.prog.globalNamed "internal/strconv.uint64pow10" = some 6 by kernel_rfl]
  simp [h, pow10A]
set_option maxRecDepth 100000 in
theorem number_run (B : Nat) (hB : B = 64 ∨ B = 32) (s : List UInt8) (hs : s.length ≤ 1000000) (w : World) {te tr : TypeId} {ve vr : Value} (he : w.cell? ⟨4, 0, none⟩ = some (.iface te ve)) (hr : w.cell? ⟨5, 0, none⟩ = some (.iface tr vr))
    {T : TypeId} {fz : Nat × Nat} (ht : w.heap[6]? = some (.cells pow10A T fz)) :
    Calls Tryz.prog 61 #[.string (toB s), .int .i64 B] w fun e w' => Below w.heap.size w w' ∧ ∃ n, (∀ m, numO B s = some m → n = m) ∧ e = .returned (.tuple #[.int .i64 n, .bool (numO B s).isSome]) := by
  have hpr := parse_run B hB (toB s) (by rw [toB_size]; exact hs) w he hr
  rw [toB_data] at hpr
  go_enter Tryz.func61, Tryz.ntmps61
  go_wp2_with (go_at_call 96; refine hpr.mono ?_)
  rintro e w1 ⟨hb, ⟨v, hv, rfl⟩ | ⟨hv, n, T', x, rfl⟩⟩
  · have hb1 : -9223372036854775808 ≤ v ∧ v ≤ 9223372036854775807 := by
      have := Lib.parseIntB_bounds hv
      rcases hB with rfl | rfl <;> simp at this <;> omega
    have hlt : 6 < w.heap.size := (Array.getElem?_eq_some_iff.1 ht).1
    have ht1 : w1.heap[6]? = some (.cells pow10A T fz) := by
      obtain ⟨b1, b2, b3, b4, b5⟩ := hb
      rw [b5 6 hlt]; exact ht
    go_wp2_with (go_at_call 97; refine (fmt_run v hb1.1 hb1.2 _ (tab_of ht1)).mono ?_)
    rintro e w2 ⟨rfl, k, os, rfl⟩
    go_wp2
    go_ret2
    have hn : numO B s = if Lib.itoa v = s then some v else none := by unfold numO; rw [hv]
    refine ⟨?_, v, ?_, ?_⟩
    · obtain ⟨b1, b2, b3, b4, b5⟩ := hb
      obtain ⟨c1, c2, c3, c4, c5⟩ := grow_below w1 k os
      exact ⟨c1.trans b1, c2.trans b2, c3.trans b3, by omega, fun i hi => (c5 i (by omega)).trans (b5 i hi)⟩
    · intro m hm
      rw [hn] at hm
      split at hm
      · simpa using hm
      · cases hm
    · rw [hn]
      by_cases e : Lib.itoa v = s
      · rw [if_pos e]
        simp [toB, e]
      · rw [if_neg e]
        simp [toB, e]
        trace_state
  · have hn : numO B s = none := by
      unfold numO
      split
      · rename_i v e; exact absurd e (hv v)
      · rfl
    go_wp2
    go_ret2
    exact ⟨hb, n, by rw [hn]; simp, by rw [hn]; rfl⟩
theorem number_calls (B : Nat) (hB : B = 64 ∨ B = 32) (s : List UInt8) (hs : s.length ≤ 1000000) (σ : Store) :
    ACalls Tryz.prog 61 [.lit (.string (toB s)), .lit (.int .i64 B)] σ fun v σ' => (∃ n, (∀ m, numO B s = some m → n = m) ∧ v = .tuple [.lit (.int .i64 n), .lit (.bool (numO B s).isSome)]) ∧ σ' = σ := by
  intro D G w cargs hl hargs hW hfresh
  obtain ⟨c0, c1, rfl⟩ := args2 (by simpa using hl.symm)
  have e0 := (hargs 0 _ c0 rfl rfl).1.lit_eq rfl
  have e1 := (hargs 1 _ c1 rfl rfl).1.lit_eq rfl
  subst e0 e1
  obtain ⟨_, T, fz, ht⟩ := hW.vars 6 pow10A rfl
  refine (number_run B hB s hs w (err_syn hW) (err_ran hW) ht).mono ?_
  rintro e w' ⟨hb, n, h1, rfl⟩
  obtain ⟨r1, r2⟩ := below_WR hW hfresh hb
  refine ⟨_, _, G, _, rfl, ⟨⟨n, h1, rfl⟩, rfl⟩, ?_, OwnAt.of_plain rfl, r1, r2⟩
  refine .tuple _ _ rfl fun i c u hc hu => ?_
  match i with
  | 0 => simp at hc hu; subst hc hu; exact .lit _
  | 1 => simp at hc hu; subst hc hu; exact .lit _
  | i + 2 => simp at hc
end Go.Proofs.YtheldoijfnigoaaGreatDoor
/-
  A line's step, a text's steps: what the program reads.
-/
namespace Go.Proofs.YtheldoijfnigoaaGreatDoor
open Go Go.AL

/-- A key's kind, sign, number. -/
structure Ky where
  kind : Int
  sign : Int
  n : Int
  deriving DecidableEq
structure Stp where
  kind : UInt8
  bytes : List UInt8
  key : Ky
  deriving DecidableEq
def Ky.zero : Ky := ⟨0, 0, 0⟩
def Stp.zero : Stp := ⟨0, [], .zero⟩
def kyA (k : Ky) : List AV := [.lit (.int .i64 k.kind), .lit (.int .i32 k.sign), .lit (.int .i64 k.n)]
def stpA (x : Stp) : AV := .agg [byteA x.kind, .list false 1 (bytesA x.bytes), .lit (.int .i64 x.key.kind), .lit (.int .i32 x.key.sign), .lit (.int .i64 x.key.n)]
def stpsA (l : List Stp) : List AV := l.map stpA
@[simp] theorem stpsA_length (l : List Stp) : (stpsA l).length = l.length := by simp [stpsA]
def keyO : List (List UInt8) → Option Ky
  | [a, b, c] => match numO 64 a, numO 32 b, numO 64 c with
    | some k, some s, some n => some ⟨k, s, n⟩
    | _, _, _ => none
  | _ => none
def oneL : List (List UInt8) → Option (List UInt8)
  | [x] => some x
  | _ => none
def lineO (s : List UInt8) : Option Stp :=
  match splitL 32 s with
  | [] => none
  | w :: r => if w = [72] ∨ w = [79] then (oneL r).bind fun x => (readO x).map fun p => ⟨w.headD 0, p, .zero⟩
    else if w = [75] then (keyO r).map fun k => ⟨75, [], k⟩ else none
def parseL : List (List UInt8) → List Stp → List Stp × Nat × Bool
  | [], acc => (acc, acc.length, true)
  | [l], acc => if l = [] then (acc, acc.length, true) else ([], acc.length + 1, false)
  | s :: r, acc => match lineO s with
    | none => ([], acc.length + 1, false)
    | some x => parseL r (acc ++ [x])
theorem numO_bounds {B : Nat} {s : List UInt8} {v : Int} (h : numO B s = some v) : -((2 ^ (B - 1) : Nat) : Int) ≤ v ∧ v < ((2 ^ (B - 1) : Nat) : Int) := by
  unfold numO at h
  split at h
  · rename_i v' e
    split at h
    · rw [← Option.some.inj h]; exact Lib.parseIntB_bounds e
    · cases h
  · cases h

theorem wrap_i32 {n : Int} (h0 : -2147483648 ≤ n) (h1 : n ≤ 2147483647) : IntKind.i32.wrap n = n := by
  unfold IntKind.wrap
  simp [IntKind.bits, IntKind.signed]
  omega
variable [Errs]
set_option linter.unusedSectionVars false
set_option maxRecDepth 8000 in
theorem key_calls (o : Bool) (l : List (List UInt8)) (hl : ∀ x ∈ l, x.length ≤ 1000000) (hn : l.length ≤ 1000000) (σ : Store) :
    ACalls Tryz.prog 42 [.list o 1 (strsA l)] σ fun v σ' => (∃ k, (∀ m, keyO l = some m → k = m) ∧ v = .tuple [.agg (kyA k), .lit (.bool (keyO l).isSome)]) ∧ σ' = σ := by
  refine ACalls.of_awp follows (st := st42) (plans := pl42) (n := 47) Tryz.func42 rfl (by kernel_rfl) (by kernel_rfl) (by kernel_rfl) ?_
  by_cases h3 : l.length = 3
  · match l, h3 with
    | [a, b, c], _ =>
      have ha := number_calls 64 (.inl rfl) a (hl a (by simp))
      have hb := number_calls 32 (.inr rfl) b (hl b (by simp))
      have hc := number_calls 64 (.inl rfl) c (hl c (by simp))
      have hko : keyO [a, b, c] = match numO 64 a, numO 32 b, numO 64 c with
        | some k, some s, some n => some ⟨k, s, n⟩
        | _, _, _ => none := rfl
      have hbb := fun v => numO_bounds (B := 32) (s := b) (v := v)
      simp [strsA]
      intro p hp
      refine callK.of (ha _) ?_
      rintro v σ1 ⟨⟨k, hk, rfl⟩, rfl⟩
      simp
      refine callK.of (hb _) ?_
      rintro v σ2 ⟨⟨s, hs, rfl⟩, rfl⟩
      simp
      refine callK.of (hc _) ?_
      rintro v σ3 ⟨⟨n, hn, rfl⟩, rfl⟩
      have hk2 : ∀ m, keyO [a, b, c] = some m → (⟨k, IntKind.i32.wrap s, n⟩ : Ky) = m := by
        intro m hm
        rw [hko] at hm
        cases e1 : numO 64 a with
        | none => rw [e1] at hm; cases hm
        | some k' =>
          cases e2 : numO 32 b with
          | none => rw [e1, e2] at hm; cases hm
          | some s' =>
            cases e3 : numO 64 c with
            | none => rw [e1, e2, e3] at hm; cases hm
            | some n' =>
              rw [e1, e2, e3] at hm
              have h4 := hbb s' e2
              simp at h4
              rw [hk _ e1, hs _ e2, hn _ e3, wrap_i32 (by omega) (by omega)]
              exact Option.some.inj hm
      have hks : (keyO [a, b, c]).isSome = ((numO 64 a).isSome && (numO 32 b).isSome && (numO 64 c).isSome) := by
        rw [hko]
        cases numO 64 a <;> cases numO 32 b <;> cases numO 64 c <;> rfl
      rw [hks]
      generalize (numO 64 a).isSome = x1 at *
      generalize (numO 32 b).isSome = x2 at *
      generalize (numO 64 c).isSome = x3 at *
      have hfin : Store.sub σ (σ.upd p [AV.lit (.int .i64 k), .lit (.int .i32 (IntKind.i32.wrap s)), .lit (.int .i64 n)]) := by (intro q; simp only [Store.upd, Store.del]; (repeat' split) <;> first | exact Or.inr rfl | exact Or.inl rfl | (exfalso; omega) | (left; subst_vars; assumption) | simp_all)
      cases x1 <;> cases x2 <;> cases x3 <;> simp <;> exact ⟨_, AV.le_refl _, hfin, _, hk2, rfl⟩
  · have hno : keyO l = none := by
      unfold keyO
      split
      · simp at h3
      · rfl
    have h3' : ¬ (l.length : Int) = 3 := by omega
    simp [h3, h3', hno]
    intro p hp
    refine ⟨_, AV.le_refl _, ?_, .zero, rfl⟩
    (intro q; simp only [Store.upd, Store.del]; (repeat' split) <;> first | exact Or.inr rfl | exact Or.inl rfl | (exfalso; omega) | (left; subst_vars; assumption) | simp_all)
end Go.Proofs.YtheldoijfnigoaaGreatDoor
