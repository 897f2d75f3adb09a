/-
  Bytes that are told by letters: tape.read.
-/
import Derived.Test.YtheldoijfnigoaaDoorTPart10
import Derived.Shelf.Strings.OnBuilder
import Derived.Shelf.Strconv.Itoa3
import Derived.Shelf.Strconv.Itoa4
import Derived.Shelf.Strconv.ParseIntPublic10
import Derived.Test.YtheldoijfnigoaaDoorProg
import Derived.Lib.ParseIntBCases
import Derived.Lib.ItoaMem
set_option linter.unusedSimpArgs false
set_option linter.unusedVariables false
namespace Go.Proofs.YtheldoijfnigoaaDoor
open Go Go.AL

def hexL : List UInt8 := [48, 49, 50, 51, 52, 53, 54, 55, 56, 57, 97, 98, 99, 100, 101, 102]
/-- A letter's digit; below 0: it is none. -/
def hexV (c : UInt8) : Int := Lib.indexByte hexL c
/-- Two letters' byte. -/
def pairO : List UInt8 → Option UInt8
  | [a, b] => if 0 ≤ hexV a ∧ 0 ≤ hexV b then some (UInt8.ofNat (16 * (hexV a).toNat + (hexV b).toNat)) else none
  | _ => none
def readO (s : List UInt8) : Option (List UInt8) :=
  if s = [45] then some [] else if s ≠ [] ∧ ∀ x ∈ chunksL s, pairO x ≠ none then some ((chunksL s).filterMap pairO) else none
/-- What letters say together. -/
def hexsV (l : List UInt8) : Int := l.foldl (fun n c => 16 * n + hexV c) 0
theorem chunksL_size : ∀ l : List UInt8, ∀ d ∈ chunksL l, d.length = 1 ∨ d.length = 2
  | [], d, h => by cases h
  | [a], d, h => by simp [chunksL] at h; subst h; simp
  | a :: b :: l, d, h => by
    rcases List.mem_cons.1 h with rfl | h
    · simp
    · exact chunksL_size l d h
theorem pairO_none {d : List UInt8} (h : d.length ≠ 2 ∨ ∃ c ∈ d, hexV c < 0) : pairO d = none := by
  unfold pairO
  split
  · rename_i a b
    rw [if_neg]
    rintro ⟨h1, h2⟩
    rcases h with h | ⟨c, hc, h⟩
    · simp at h
    · simp at hc
      rcases hc with rfl | rfl <;> omega
  · rfl
theorem readO_none {l d : List UInt8} (h0 : l ≠ [45]) (hd : d ∈ chunksL l) (h : pairO d = none) : readO l = none := by
  unfold readO
  rw [if_neg h0, if_neg]
  rintro ⟨_, h2⟩
  exact h2 d hd h
theorem hexbits (a b : Int) (ha : 0 ≤ a ∧ a < 16) (hb : 0 ≤ b ∧ b < 16) : IntKind.i64.wrap ((((IntKind.i64.wrap (a * 2 ^ min 4 IntKind.i64.bits) % 2 ^ IntKind.i64.bits).toNat ||| (b % 2 ^ IntKind.i64.bits).toNat : Nat)) : Int) = 16 * a + b := by
  have : ∀ a b : Fin 16, IntKind.i64.wrap ((((IntKind.i64.wrap ((a.val : Int) * 2 ^ min 4 IntKind.i64.bits) % 2 ^ IntKind.i64.bits).toNat ||| ((b.val : Int) % 2 ^ IntKind.i64.bits).toNat : Nat)) : Int) = 16 * a.val + b.val := by decide +kernel
  have h := this ⟨a.toNat, by omega⟩ ⟨b.toNat, by omega⟩
  rw [show ((⟨a.toNat, by omega⟩ : Fin 16).val : Int) = a by simp; omega, show ((⟨b.toNat, by omega⟩ : Fin 16).val : Int) = b by simp; omega] at h
  exact h
theorem hexV_lt (c : UInt8) : -1 ≤ hexV c ∧ hexV c < 16 := by
  have : ∀ i : Fin 256, -1 ≤ hexV (UInt8.ofNat i.val) ∧ hexV (UInt8.ofNat i.val) < 16 := by decide +kernel
  have h := this ⟨c.toNat, c.toNat_lt⟩
  simpa using h

theorem pairO_two {d : List UInt8} (h : d.length = 2) (hd : ∀ c ∈ d, 0 ≤ hexV c) : pairO d = some (UInt8.ofNat (hexsV d).toNat) ∧ 0 ≤ hexsV d ∧ hexsV d < 256 := by
  match d, h with
  | [a, b], _ =>
    have ha := hd a (by simp)
    have hb := hd b (by simp)
    have ha' := hexV_lt a
    have hb' := hexV_lt b
    have e : hexsV [a, b] = 16 * hexV a + hexV b := by simp [hexsV]
    rw [e]
    refine ⟨?_, by omega, by omega⟩
    show (if 0 ≤ hexV a ∧ 0 ≤ hexV b then some (UInt8.ofNat (16 * (hexV a).toNat + (hexV b).toNat)) else none) = _
    rw [if_pos ⟨ha, hb⟩]
    congr 2
    omega
theorem hexsV_one {d : List UInt8} {i : Nat} (h : d.length = 2) (hi : i < d.length) (hd : ∀ c ∈ d.take i, 0 ≤ hexV c) : 0 ≤ hexsV (d.take i) ∧ hexsV (d.take i) < 16 := by
  match d, h with
  | [x, y], _ =>
    have hx := hexV_lt x
    have : i = 0 ∨ i = 1 := by simp at hi; omega
    rcases this with rfl | rfl
    · simp [hexsV]
    · have := hd x (by simp)
      simp [hexsV]; omega
theorem filterMap_len {f : List UInt8 → Option UInt8} : ∀ l : List (List UInt8), (∀ x ∈ l, f x ≠ none) → (l.filterMap f).length = l.length
  | [], _ => rfl
  | a :: l, h => by
    have ha := h a (by simp)
    have ih := filterMap_len l fun x hx => h x (by simp [hx])
    cases e : f a with
    | none => exact absurd e ha
    | some v => simp [List.filterMap_cons, e, ih]
theorem sub_two {σ τ : Store} {p q : Nat} {X Y : List AV} (h : Store.sub σ τ) (hp : σ p = none) (hq : σ q = none) : Store.sub σ ((τ.upd p X).upd q Y) := by
  intro o
  simp only [Store.upd]
  split
  · rename_i e; left; subst e; exact hq
  · split
    · rename_i e; left; subst e; exact hp
    · exact h o
variable [Errs]
set_option linter.unusedSectionVars false
@[simp] def st24x : List Nat := [36, 1000013]
set_option maxRecDepth 8000 in
set_option maxHeartbeats 1000000 in
theorem read_calls (l : List UInt8) (hl : l.length ≤ 100000) (σ : Store) :
    ACalls Tryd.prog 24 [.lit (.string (toB l))] σ fun v σ' => (∃ x, (∀ p, readO l = some p → x = p) ∧ v = .tuple [.list false 1 (bytesA x), .lit (.bool (readO l).isSome)]) ∧ σ' = σ := by
  have hit := fun σ' => chunk_iter l hl σ'
  have hck := fun (τ : Store) => chunk_calls true l τ
  refine ACalls.of_awpY follows (st := st24x) (plans := pl24) (n := 45) Tryd.func24 rfl (by kernel_rfl) (by kernel_rfl) (by kernel_rfl) ?_
  have hix : ∀ (c : UInt8) (τ : Store), ACalls Tryd.prog 42 [.lit (.string ⟨#[48, 49, 50, 51, 52, 53, 54, 55, 56, 57, 97, 98, 99, 100, 101, 102]⟩), .lit (.int .u8 (c.toNat : Int))] τ fun v σ' => v = .lit (.int .i64 (hexV c)) ∧ σ' = τ := fun c τ => idxb_calls hexL c τ
  have htl : (toB l).toList = l := by rw [ByteArray.toList_eq, toB_data]
  simp
  intro p hp q hq
  rw [ite_none] at hq
  obtain ⟨n1, hq⟩ := hq
  have n2 : ¬ p = q := fun e => n1 e.symm
  rw [htl]
  by_cases h0 : l = [45]
  · rw [if_pos h0]
    have hr : readO l = some [] := by unfold readO; rw [if_pos h0]
    simp [n1, n2, hr]
    refine ⟨AV.le_refl _, ?_⟩
    (intro q; simp only [Store.upd, Store.del]; (repeat' split) <;> first | exact Or.inr rfl | exact Or.inl rfl | (exfalso; omega) | (left; subst_vars; assumption) | simp_all)
  · rw [if_neg h0]
    intro r hr
    rw [ite_none, ite_none] at hr
    obtain ⟨n3, n4, hr⟩ := hr
    have n5 : ¬ q = r := fun e => n3 e.symm
    have n6 : ¬ p = r := fun e => n4 e.symm
    have hbv : bytesV (toB l) = bytesA l := by simp [bytesV, bytesA, byteA, toB]
    refine ⟨by rw [toB_size]; omega, ?_⟩
    rw [hbv]
    refine callK.of (hck _) ?_
    rintro v σ1 ⟨rfl, rfl⟩
    simp
    have hszs := chunksL_size l
    obtain ⟨U, hU⟩ : ∃ U, chunksL l = U := ⟨_, rfl⟩
    rw [hU] at hit hszs
    have hback : ∀ X, Store.sub (((σ.upd p [AV.list true 1 []]).upd q [AV.lit (Value.bool false)]).upd r X) (((((σ.upd p [AV.list true 1 []]).upd q [AV.lit (Value.bool false)]).upd r X).upd p [AV.list true 1 []]).upd q [AV.lit (Value.bool false)]) := fun X => by (intro q; simp only [Store.upd, Store.del]; (repeat' split) <;> first | exact Or.inr rfl | exact Or.inl rfl | (exfalso; omega) | (left; subst_vars; assumption) | simp_all)
    have hsub : ∀ X, Store.sub σ ((((σ.upd p [AV.list true 1 []]).upd q [AV.lit (Value.bool false)])).upd r X) := fun X => by (intro q; simp only [Store.upd, Store.del]; (repeat' split) <;> first | exact Or.inr rfl | exact Or.inl rfl | (exfalso; omega) | (left; subst_vars; assumption) | simp_all)
    refine codeYK.range follows (st := st24x) (plans := pl24) (hit _) (by simp) (by simp) (by simp) (by kernel_rfl) (by kernel_rfl) (by kernel_rfl)
      (fun k τ _ => k ≤ U.length ∧ (∀ x ∈ U.take k, pairO x ≠ none) ∧ τ = ((σ.upd p [AV.list true 1 []]).upd q [AV.lit (Value.bool false)]).upd r [.list true 1 (bytesA ((U.take k).filterMap pairO))])
      (fun c τ _ => c = .ret ∧ readO l = none ∧ ∃ X, τ = ((σ.upd p [AV.list true 1 []]).upd q [AV.lit (Value.bool false)]).upd r X) _ ⟨Nat.zero_le _, by simp, by simp [bytesA]⟩ (Store.sub_refl _) ?_ ?_ ?_
    · rintro k hk τ E ⟨h1, h2, rfl⟩
      have hk' : k < U.length := by simpa using hk
      obtain ⟨d, hd⟩ : ∃ d, U[k] = d := ⟨_, rfl⟩
      have e2 : (U.map fun c => [AV.list false 1 (bytesA c)])[k] = [AV.list false 1 (bytesA d)] := by rw [List.getElem_map, hd]
      rw [e2]
      have hst : U.take (k + 1) = U.take k ++ [d] := by rw [List.take_succ_eq_append_getElem hk', hd]
      have hdm : d ∈ U := by rw [← hd]; exact List.getElem_mem _
      have hdU : d ∈ chunksL l := by rw [hU]; exact hdm
      simp
      refine codeYK.loop follows (st := st24x) (plans := pl24) (S := Nat) (fun i => i ≤ d.length ∧ (∀ c ∈ d.take i, 0 ≤ hexV c) ∧ (0 < i → d.length = 2))
        (fun i => [(2, .lit (.pointer (some ⟨p, 0, none⟩))), (3, .lit (.pointer (some ⟨q, 0, none⟩))), (4, .lit (.pointer (some ⟨r, 0, none⟩))), (5, .list false 1 (bytesA d)), (6, .lit (.int .i64 (hexsV (d.take i)))), (16, .list false 1 (bytesA d)), (17, .lit (.int .i64 d.length)), (18, .lit (.int .i64 i))])
        (fun _ => ((σ.upd p [AV.list true 1 []]).upd q [AV.lit (Value.bool false)]).upd r [.list true 1 (bytesA ((U.take k).filterMap pairO))]) (fun _ _ => True) (fun i => d.length - i) 0 (by kernel_rfl) (by simp) (by simp [hexsV]) (Store.sub_refl _) trivial ?_
      rintro i E1 ⟨h3, h4, h5⟩ -

      by_cases hlt : i < d.length
      · obtain ⟨c, hc⟩ : ∃ c, d[i] = c := ⟨_, rfl⟩
        have hg : ∀ q : i < (bytesA d).length, (bytesA d)[i]'q = .lit (.int .u8 (c.toNat : Int)) := fun q => by simp [bytesA, byteA, hc]
        simp [hlt, hg]
        refine callK.of (hix c _) ?_
        rintro v σ2 ⟨rfl, rfl⟩
        have hv := hexV_lt c
        have hci : c ∈ d := by rw [← hc]; exact List.getElem_mem _
        by_cases hneg : hexV c < 0
        · have hn0 : ¬ 0 ≤ hexV c := by omega
          have hno := readO_none h0 hdU (pairO_none (.inr ⟨c, hci, hneg⟩))
          simp [hneg, hn0, n1, n2, n3, n4, n5, n6]
          exact ⟨_, hback _, hno, _, rfl⟩
        · have hn0 : 0 ≤ hexV c := by omega
          by_cases hsz : d.length < 2
          · have hno := readO_none h0 hdU (pairO_none (.inl (by omega)))
            have hsz' : (d.length : Int) < 2 := by omega
            simp [hneg, hn0, hsz', n1, n2, n3, n4, n5, n6]
            exact ⟨_, hback _, hno, _, rfl⟩
          · have hsz' : ¬ (d.length : Int) < 2 := by omega
            simp [hneg, hn0, hsz']
            have hd2 : d.length = 2 := by rcases hszs d hdm with h | h <;> omega
            have htk : d.take (i + 1) = d.take i ++ [c] := by rw [List.take_succ_eq_append_getElem hlt, hc]
            have hb0 := hexsV_one hd2 hlt h4
            have hnx : hexsV (d.take (i + 1)) = 16 * hexsV (d.take i) + hexV c := by rw [htk]; simp [hexsV, List.foldl_append]
            refine ⟨i + 1, ⟨by omega, ?_, fun _ => hd2⟩, by omega, ?_, ?_⟩
            · intro c' hc'
              rw [htk] at hc'
              rcases List.mem_append.1 hc' with h | h
              · exact h4 c' h
              · simp at h; subst h; exact hn0
            · rw [hexbits _ _ hb0 (by omega), hnx]; exact AV.le_refl _
            · rw [wrap_i64 (by omega) (by omega)]; exact AV.le_refl _
      · have hi : i = d.length := by omega
        have hd2 : d.length = 2 := by rcases hszs d hdm with h | h <;> omega
        rw [List.take_of_length_le (by omega)] at h4
        obtain ⟨hp2, hq1, hq2⟩ := pairO_two hd2 h4
        have htd : d.take i = d := List.take_of_length_le (by omega)
        rw [htd]
        have hby : IntKind.u8.wrap (hexsV d) = ((UInt8.ofNat (hexsV d).toNat).toNat : Int) := by rw [wrap_u8 hq1 hq2, UInt8.toNat_ofNat', Nat.mod_eq_of_lt (by omega)]; omega
        have hil : ¬ (i : Int) < d.length := by omega
        simp [hil, hi, hby]
        have hfl : ((U.take k).filterMap pairO).length ≤ 100000 := by
          have h9 := List.length_filterMap_le pairO (U.take k)
          have h8 := chunksL_len l
          rw [hU] at h8
          rw [List.length_take] at h9
          omega
        refine ⟨by omega, by omega, _, Store.sub_refl _, by omega, ?_, ?_⟩
        · intro x hx
          rw [hst] at hx
          rcases List.mem_append.1 hx with h | h
          · exact h2 x h
          · simp at h; subst h; rw [hp2]; simp
        · rw [hst, List.filterMap_append]
          simp [hp2, bytesA, byteA]
    · rintro τ E σ' hs ⟨h1, h2, rfl⟩
      rw [List.length_map, List.take_of_length_le (by omega)] at hs h2
      have hfl := filterMap_len U h2
      have er : σ' r = some [.list true 1 (bytesA (U.filterMap pairO))] := by
        rcases hs r with h | h
        · simp at h
        · rw [← h]; simp
      have ep : σ' p = some [.list true 1 []] := by
        rcases hs p with h | h
        · simp [n6, n1, n2] at h
        · rw [← h]; simp [n6, n1, n2]
      have eq : σ' q = some [.lit (.bool false)] := by
        rcases hs q with h | h
        · simp [n5] at h
        · rw [← h]; simp [n5]
      have hsg := Store.sub_trans (hsub _) hs
      by_cases hl0 : l = []
      · have hu0 : U = [] := by rw [← hU, hl0]; rfl
        have hr : readO l = none := by unfold readO; rw [if_neg h0, if_neg (fun h => h.1 hl0)]
        subst hu0
        simp [er, ep, eq, n1, n2, n3, n4, n5, n6, hr, bytesA]
        exact ⟨_, AV.le_refl _, sub_two hsg hp hq, [], rfl⟩
      · have hr : readO l = some (U.filterMap pairO) := by unfold readO; rw [if_neg h0, hU, if_pos ⟨hl0, h2⟩]
        have hu0 : 0 < (U.filterMap pairO).length := by
          have h8 := chunksL_len l
          have : 0 < l.length := List.length_pos_iff.2 hl0
          rw [hU] at h8; omega
        generalize U.filterMap pairO = V at *
        simp [er, ep, eq, n1, n2, n3, n4, n5, n6, hr, hu0]
        exact sub_two hsg hp hq
    · rintro c τ E σ' hs ⟨rfl, hn, X, rfl⟩
      have ep : σ' p = some [.list true 1 []] := by
        rcases hs p with h | h
        · simp [n6, n1, n2] at h
        · rw [← h]; simp [n6, n1, n2]
      have eq : σ' q = some [.lit (.bool false)] := by
        rcases hs q with h | h
        · simp [n5] at h
        · rw [← h]; simp [n5]
      have hsg := Store.sub_trans (hsub _) hs
      simp [ep, eq, hn]
      exact ⟨_, AV.le_refl _, hsg, [], rfl⟩
end Go.Proofs.YtheldoijfnigoaaDoor
/-
  DERIVED: THE SHELF's CONTRACTS AT THIS DUMP, IN PLAIN WORDS (tools/lay-plain.mjs out of 'TrydShelf.lean', which tools/lay-shelf.mjs wrote): THE SAME DECLARATIONS UNDER THE SAME NAMES: 'import', 'namespace', 'open', 'def', 'theorem' AND NOTHING ELSE: no command of the shelf's: FOR A HAND-IN. Each laying: the table of numbers ('.._ren') and one theorem, a field a fact of the dump's own or the kernel's comparison; each contract: ONE APPLICATION.
-/
namespace Go.Proofs.YtheldoijfnigoaaDoor
open Go.Shelf
def lays156_ren : Go.Shelf.Ren := ⟨fun | 156 => 34 | 165 => 50 | 166 => 29 | 169 => 30 | 240 => 47 | 241 => 66 | 276 => 64 | 277 => 80 | n => n, fun | 31 => 59 | 9 => 9 | 3 => 3 | 4 => 4 | 0 => 0 | 20 => 20 | 72 => 74 | 76 => 77 | 70 => 72 | 37 => 33 | 75 => 76 | 127 => 95 | 164 => 105 | 5 => 5 | 80 => 79 | n => n, fun | n => n⟩
theorem lays156 : Go.Proofs.Lays.n156 Tryd.prog lays156_ren := {
  mixed := by kernel_rfl
  f156 := Tryd.func34.trans (congrArg some (by kernel_rfl))
  f165 := Tryd.func50.trans (congrArg some (by kernel_rfl))
  f166 := Tryd.func29.trans (congrArg some (by kernel_rfl))
  f169 := Tryd.func30.trans (congrArg some (by kernel_rfl))
  f240 := Tryd.func47.trans (congrArg some (by kernel_rfl))
  f241 := Tryd.func66.trans (congrArg some (by kernel_rfl))
  f276 := Tryd.func64.trans (congrArg some (by kernel_rfl))
  f277 := Tryd.func80.trans (congrArg some (by kernel_rfl))
  t0 := Tryd.underlying0
  a0 := Tryd.isAgg0
  z0 := Tryd.sizeOf0
  v0 := Tryd.zeroValue0
  t3 := Tryd.underlying3
  a3 := Tryd.isAgg3
  z3 := Tryd.sizeOf3
  v3 := Tryd.zeroValue3
  t4 := Tryd.underlying4
  a4 := Tryd.isAgg4
  z4 := Tryd.sizeOf4
  v4 := Tryd.zeroValue4
  t9 := Tryd.underlying9
  a9 := Tryd.isAgg9
  z9 := Tryd.sizeOf9
  v9 := Tryd.zeroValue9
  t20 := Tryd.underlying20
  a20 := Tryd.isAgg20
  z20 := Tryd.sizeOf20
  v20 := Tryd.zeroValue20
  t31 := Tryd.underlying59
  a31 := Tryd.isAgg59
  z31 := Tryd.sizeOf59
  v31 := Tryd.zeroValue59
  t37 := Tryd.underlying33
  a37 := Tryd.isAgg33
  z37 := Tryd.sizeOf33
  v37 := Tryd.zeroValue33
  t70 := Tryd.underlying72
  a70 := Tryd.isAgg72
  z70 := Tryd.sizeOf72
  v70 := Tryd.zeroValue72
  t72 := Tryd.underlying74
  a72 := Tryd.isAgg74
  z72 := Tryd.sizeOf74
  v72 := Tryd.zeroValue74
  t75 := Tryd.underlying76
  a75 := Tryd.isAgg76
  z75 := Tryd.sizeOf76
  v75 := Tryd.zeroValue76
  t76 := Tryd.underlying77
  a76 := Tryd.isAgg77
  z76 := Tryd.sizeOf77
  v76 := Tryd.zeroValue77
  t127 := Tryd.underlying95
  a127 := Tryd.isAgg95
  z127 := Tryd.sizeOf95
  v127 := Tryd.zeroValue95
  t164 := Tryd.underlying105
  a164 := Tryd.isAgg105
  z164 := Tryd.sizeOf105
  v164 := Tryd.zeroValue105 }
def lays171_ren : Go.Shelf.Ren := ⟨fun | 171 => 33 | 243 => 49 | 246 => 65 | 283 => 76 | 284 => 77 | 285 => 78 | 286 => 79 | 129 => 89 | 317 => 88 | 318 => 90 | 319 => 91 | 320 => 92 | 337 => 97 | 338 => 98 | n => n, fun | 3 => 3 | 9 => 9 | 2 => 2 | 4 => 4 | 171 => 111 | 0 => 0 | 53 => 112 | 37 => 33 | 5 => 5 | 173 => 115 | 212 => 128 | 51 => 118 | 20 => 20 | 213 => 129 | 46 => 91 | 232 => 145 | 233 => 146 | n => n, fun | 17 => 1 | 18 => 6 | 19 => 7 | n => n⟩
theorem lays171 : Go.Proofs.LaysM.n171 Tryd.prog lays171_ren := {
  mixed := by kernel_rfl
  f129 := Tryd.func89.trans (congrArg some (by kernel_rfl))
  f171 := Tryd.func33.trans (congrArg some (by kernel_rfl))
  f243 := Tryd.func49.trans (congrArg some (by kernel_rfl))
  f246 := Tryd.func65.trans (congrArg some (by kernel_rfl))
  f283 := Tryd.func76.trans (congrArg some (by kernel_rfl))
  f284 := Tryd.func77.trans (congrArg some (by kernel_rfl))
  f285 := Tryd.func78.trans (congrArg some (by kernel_rfl))
  f286 := Tryd.func79.trans (congrArg some (by kernel_rfl))
  f317 := Tryd.func88.trans (congrArg some (by kernel_rfl))
  f318 := Tryd.func90.trans (congrArg some (by kernel_rfl))
  f319 := Tryd.func91.trans (congrArg some (by kernel_rfl))
  f320 := Tryd.func92.trans (congrArg some (by kernel_rfl))
  f337 := Tryd.func97.trans (congrArg some (by kernel_rfl))
  f338 := Tryd.func98.trans (congrArg some (by kernel_rfl))
  t0 := Tryd.underlying0
  a0 := Tryd.isAgg0
  z0 := Tryd.sizeOf0
  v0 := Tryd.zeroValue0
  t2 := Tryd.underlying2
  a2 := Tryd.isAgg2
  z2 := Tryd.sizeOf2
  v2 := Tryd.zeroValue2
  t3 := Tryd.underlying3
  a3 := Tryd.isAgg3
  z3 := Tryd.sizeOf3
  v3 := Tryd.zeroValue3
  t4 := Tryd.underlying4
  a4 := Tryd.isAgg4
  z4 := Tryd.sizeOf4
  v4 := Tryd.zeroValue4
  t5 := Tryd.underlying5
  a5 := Tryd.isAgg5
  z5 := Tryd.sizeOf5
  v5 := Tryd.zeroValue5
  t9 := Tryd.underlying9
  a9 := Tryd.isAgg9
  z9 := Tryd.sizeOf9
  v9 := Tryd.zeroValue9
  t20 := Tryd.underlying20
  a20 := Tryd.isAgg20
  z20 := Tryd.sizeOf20
  v20 := Tryd.zeroValue20
  t37 := Tryd.underlying33
  a37 := Tryd.isAgg33
  z37 := Tryd.sizeOf33
  v37 := Tryd.zeroValue33
  t46 := Tryd.underlying91
  a46 := Tryd.isAgg91
  z46 := Tryd.sizeOf91
  v46 := Tryd.zeroValue91
  t51 := Tryd.underlying118
  a51 := Tryd.isAgg118
  z51 := Tryd.sizeOf118
  v51 := Tryd.zeroValue118
  t53 := Tryd.underlying112
  a53 := Tryd.isAgg112
  z53 := Tryd.sizeOf112
  v53 := Tryd.zeroValue112
  t171 := Tryd.underlying111
  a171 := Tryd.isAgg111
  z171 := Tryd.sizeOf111
  v171 := Tryd.zeroValue111
  t173 := Tryd.underlying115
  a173 := Tryd.isAgg115
  z173 := Tryd.sizeOf115
  v173 := Tryd.zeroValue115
  t212 := Tryd.underlying128
  a212 := Tryd.isAgg128
  z212 := Tryd.sizeOf128
  v212 := Tryd.zeroValue128
  t213 := Tryd.underlying129
  a213 := Tryd.isAgg129
  z213 := Tryd.sizeOf129
  t232 := Tryd.underlying145
  a232 := Tryd.isAgg145
  z232 := Tryd.sizeOf145
  v232 := Tryd.zeroValue145
  t233 := Tryd.underlying146
  a233 := Tryd.isAgg146
  z233 := Tryd.sizeOf146
  v233 := Tryd.zeroValue146
  g17 := by kernel_rfl
  g18 := by kernel_rfl
  g19 := by kernel_rfl
  i0 := by kernel_rfl
  i2 := by kernel_rfl
  i3 := by kernel_rfl
  i4 := by kernel_rfl
  i5 := by kernel_rfl
  i9 := by kernel_rfl
  i20 := by kernel_rfl
  i37 := by kernel_rfl
  i46 := by kernel_rfl
  i51 := by kernel_rfl
  i53 := by kernel_rfl
  i171 := by kernel_rfl
  i173 := by kernel_rfl
  i212 := by kernel_rfl
  i232 := by kernel_rfl
  i233 := by kernel_rfl
  m17 := by kernel_rfl
  m18 := by kernel_rfl
  m19 := by kernel_rfl }
def lays173_ren : Go.Shelf.Ren := ⟨fun | 173 => 61 | 246 => 65 | 283 => 76 | 284 => 77 | 285 => 78 | 286 => 79 | 129 => 89 | 317 => 88 | 318 => 90 | 319 => 91 | 320 => 92 | 337 => 97 | 338 => 98 | n => n, fun | 2 => 2 | 3 => 3 | 9 => 9 | 4 => 4 | 171 => 111 | 0 => 0 | 53 => 112 | 37 => 33 | 5 => 5 | 173 => 115 | 212 => 128 | 51 => 118 | 20 => 20 | 213 => 129 | 46 => 91 | 232 => 145 | 233 => 146 | n => n, fun | 17 => 1 | 18 => 6 | 19 => 7 | n => n⟩
theorem lays173 : Go.Proofs.LaysM.n173 Tryd.prog lays173_ren := {
  mixed := by kernel_rfl
  f129 := Tryd.func89.trans (congrArg some (by kernel_rfl))
  f173 := Tryd.func61.trans (congrArg some (by kernel_rfl))
  f246 := Tryd.func65.trans (congrArg some (by kernel_rfl))
  f283 := Tryd.func76.trans (congrArg some (by kernel_rfl))
  f284 := Tryd.func77.trans (congrArg some (by kernel_rfl))
  f285 := Tryd.func78.trans (congrArg some (by kernel_rfl))
  f286 := Tryd.func79.trans (congrArg some (by kernel_rfl))
  f317 := Tryd.func88.trans (congrArg some (by kernel_rfl))
  f318 := Tryd.func90.trans (congrArg some (by kernel_rfl))
  f319 := Tryd.func91.trans (congrArg some (by kernel_rfl))
  f320 := Tryd.func92.trans (congrArg some (by kernel_rfl))
  f337 := Tryd.func97.trans (congrArg some (by kernel_rfl))
  f338 := Tryd.func98.trans (congrArg some (by kernel_rfl))
  t0 := Tryd.underlying0
  a0 := Tryd.isAgg0
  z0 := Tryd.sizeOf0
  v0 := Tryd.zeroValue0
  t2 := Tryd.underlying2
  a2 := Tryd.isAgg2
  z2 := Tryd.sizeOf2
  v2 := Tryd.zeroValue2
  t3 := Tryd.underlying3
  a3 := Tryd.isAgg3
  z3 := Tryd.sizeOf3
  v3 := Tryd.zeroValue3
  t4 := Tryd.underlying4
  a4 := Tryd.isAgg4
  z4 := Tryd.sizeOf4
  v4 := Tryd.zeroValue4
  t5 := Tryd.underlying5
  a5 := Tryd.isAgg5
  z5 := Tryd.sizeOf5
  v5 := Tryd.zeroValue5
  t9 := Tryd.underlying9
  a9 := Tryd.isAgg9
  z9 := Tryd.sizeOf9
  v9 := Tryd.zeroValue9
  t20 := Tryd.underlying20
  a20 := Tryd.isAgg20
  z20 := Tryd.sizeOf20
  v20 := Tryd.zeroValue20
  t37 := Tryd.underlying33
  a37 := Tryd.isAgg33
  z37 := Tryd.sizeOf33
  v37 := Tryd.zeroValue33
  t46 := Tryd.underlying91
  a46 := Tryd.isAgg91
  z46 := Tryd.sizeOf91
  v46 := Tryd.zeroValue91
  t51 := Tryd.underlying118
  a51 := Tryd.isAgg118
  z51 := Tryd.sizeOf118
  v51 := Tryd.zeroValue118
  t53 := Tryd.underlying112
  a53 := Tryd.isAgg112
  z53 := Tryd.sizeOf112
  v53 := Tryd.zeroValue112
  t171 := Tryd.underlying111
  a171 := Tryd.isAgg111
  z171 := Tryd.sizeOf111
  v171 := Tryd.zeroValue111
  t173 := Tryd.underlying115
  a173 := Tryd.isAgg115
  z173 := Tryd.sizeOf115
  v173 := Tryd.zeroValue115
  t212 := Tryd.underlying128
  a212 := Tryd.isAgg128
  z212 := Tryd.sizeOf128
  v212 := Tryd.zeroValue128
  t213 := Tryd.underlying129
  a213 := Tryd.isAgg129
  z213 := Tryd.sizeOf129
  t232 := Tryd.underlying145
  a232 := Tryd.isAgg145
  z232 := Tryd.sizeOf145
  v232 := Tryd.zeroValue145
  t233 := Tryd.underlying146
  a233 := Tryd.isAgg146
  z233 := Tryd.sizeOf146
  v233 := Tryd.zeroValue146
  g17 := by kernel_rfl
  g18 := by kernel_rfl
  g19 := by kernel_rfl
  i0 := by kernel_rfl
  i2 := by kernel_rfl
  i3 := by kernel_rfl
  i4 := by kernel_rfl
  i5 := by kernel_rfl
  i9 := by kernel_rfl
  i20 := by kernel_rfl
  i37 := by kernel_rfl
  i46 := by kernel_rfl
  i51 := by kernel_rfl
  i53 := by kernel_rfl
  i171 := by kernel_rfl
  i173 := by kernel_rfl
  i212 := by kernel_rfl
  i232 := by kernel_rfl
  i233 := by kernel_rfl
  m17 := by kernel_rfl
  m18 := by kernel_rfl
  m19 := by kernel_rfl }
def lays174_ren : Go.Shelf.Ren := ⟨fun | 174 => 60 | 247 => 74 | 245 => 75 | 287 => 83 | 279 => 84 | 280 => 85 | 281 => 86 | 282 => 87 | 321 => 93 | 322 => 94 | 316 => 95 | 171 => 33 | 205 => 96 | 243 => 49 | 246 => 65 | 283 => 76 | 284 => 77 | 285 => 78 | 286 => 79 | 129 => 89 | 317 => 88 | 318 => 90 | 319 => 91 | 320 => 92 | 337 => 97 | 338 => 98 | n => n, fun | 9 => 9 | 3 => 3 | 2 => 2 | 75 => 76 | 85 => 101 | 4 => 4 | 167 => 121 | 5 => 5 | 53 => 112 | 175 => 122 | 46 => 91 | 168 => 124 | 37 => 33 | 0 => 0 | 210 => 139 | 21 => 21 | 127 => 95 | 145 => 144 | 143 => 142 | 171 => 111 | 173 => 115 | 212 => 128 | 51 => 118 | 20 => 20 | 213 => 129 | 232 => 145 | 233 => 146 | 80 => 79 | n => n, fun | 15 => 4 | 16 => 5 | 17 => 1 | 18 => 6 | 19 => 7 | n => n⟩
theorem lays174 : Go.Proofs.LaysC.n174 Tryd.prog lays174_ren := {
  mixed := by kernel_rfl
  f129 := Tryd.func89.trans (congrArg some (by kernel_rfl))
  f171 := Tryd.func33.trans (congrArg some (by kernel_rfl))
  f174 := Tryd.func60.trans (congrArg some (by kernel_rfl))
  f205 := Tryd.func96.trans (congrArg some (by kernel_rfl))
  f243 := Tryd.func49.trans (congrArg some (by kernel_rfl))
  f245 := Tryd.func75.trans (congrArg some (by kernel_rfl))
  f246 := Tryd.func65.trans (congrArg some (by kernel_rfl))
  f247 := Tryd.func74.trans (congrArg some (by kernel_rfl))
  f279 := Tryd.func84.trans (congrArg some (by kernel_rfl))
  f280 := Tryd.func85.trans (congrArg some (by kernel_rfl))
  f281 := Tryd.func86.trans (congrArg some (by kernel_rfl))
  f282 := Tryd.func87.trans (congrArg some (by kernel_rfl))
  f283 := Tryd.func76.trans (congrArg some (by kernel_rfl))
  f284 := Tryd.func77.trans (congrArg some (by kernel_rfl))
  f285 := Tryd.func78.trans (congrArg some (by kernel_rfl))
  f286 := Tryd.func79.trans (congrArg some (by kernel_rfl))
  f287 := Tryd.func83.trans (congrArg some (by kernel_rfl))
  f316 := Tryd.func95.trans (congrArg some (by kernel_rfl))
  f317 := Tryd.func88.trans (congrArg some (by kernel_rfl))
  f318 := Tryd.func90.trans (congrArg some (by kernel_rfl))
  f319 := Tryd.func91.trans (congrArg some (by kernel_rfl))
  f320 := Tryd.func92.trans (congrArg some (by kernel_rfl))
  f321 := Tryd.func93.trans (congrArg some (by kernel_rfl))
  f322 := Tryd.func94.trans (congrArg some (by kernel_rfl))
  f337 := Tryd.func97.trans (congrArg some (by kernel_rfl))
  f338 := Tryd.func98.trans (congrArg some (by kernel_rfl))
  t0 := Tryd.underlying0
  a0 := Tryd.isAgg0
  z0 := Tryd.sizeOf0
  v0 := Tryd.zeroValue0
  t2 := Tryd.underlying2
  a2 := Tryd.isAgg2
  z2 := Tryd.sizeOf2
  v2 := Tryd.zeroValue2
  t3 := Tryd.underlying3
  a3 := Tryd.isAgg3
  z3 := Tryd.sizeOf3
  v3 := Tryd.zeroValue3
  t4 := Tryd.underlying4
  a4 := Tryd.isAgg4
  z4 := Tryd.sizeOf4
  v4 := Tryd.zeroValue4
  t5 := Tryd.underlying5
  a5 := Tryd.isAgg5
  z5 := Tryd.sizeOf5
  v5 := Tryd.zeroValue5
  t9 := Tryd.underlying9
  a9 := Tryd.isAgg9
  z9 := Tryd.sizeOf9
  v9 := Tryd.zeroValue9
  t20 := Tryd.underlying20
  a20 := Tryd.isAgg20
  z20 := Tryd.sizeOf20
  v20 := Tryd.zeroValue20
  t21 := Tryd.underlying21
  a21 := Tryd.isAgg21
  z21 := Tryd.sizeOf21
  v21 := Tryd.zeroValue21
  t37 := Tryd.underlying33
  a37 := Tryd.isAgg33
  z37 := Tryd.sizeOf33
  v37 := Tryd.zeroValue33
  t46 := Tryd.underlying91
  a46 := Tryd.isAgg91
  z46 := Tryd.sizeOf91
  v46 := Tryd.zeroValue91
  t51 := Tryd.underlying118
  a51 := Tryd.isAgg118
  z51 := Tryd.sizeOf118
  v51 := Tryd.zeroValue118
  t53 := Tryd.underlying112
  a53 := Tryd.isAgg112
  z53 := Tryd.sizeOf112
  v53 := Tryd.zeroValue112
  t75 := Tryd.underlying76
  a75 := Tryd.isAgg76
  z75 := Tryd.sizeOf76
  v75 := Tryd.zeroValue76
  t85 := Tryd.underlying101
  a85 := Tryd.isAgg101
  z85 := Tryd.sizeOf101
  v85 := Tryd.zeroValue101
  t127 := Tryd.underlying95
  a127 := Tryd.isAgg95
  z127 := Tryd.sizeOf95
  v127 := Tryd.zeroValue95
  t143 := Tryd.underlying142
  a143 := Tryd.isAgg142
  z143 := Tryd.sizeOf142
  v143 := Tryd.zeroValue142
  t145 := Tryd.underlying144
  a145 := Tryd.isAgg144
  z145 := Tryd.sizeOf144
  v145 := Tryd.zeroValue144
  t167 := Tryd.underlying121
  a167 := Tryd.isAgg121
  z167 := Tryd.sizeOf121
  v167 := Tryd.zeroValue121
  t168 := Tryd.underlying124
  a168 := Tryd.isAgg124
  z168 := Tryd.sizeOf124
  v168 := Tryd.zeroValue124
  t171 := Tryd.underlying111
  a171 := Tryd.isAgg111
  z171 := Tryd.sizeOf111
  v171 := Tryd.zeroValue111
  t173 := Tryd.underlying115
  a173 := Tryd.isAgg115
  z173 := Tryd.sizeOf115
  v173 := Tryd.zeroValue115
  t175 := Tryd.underlying122
  a175 := Tryd.isAgg122
  z175 := Tryd.sizeOf122
  v175 := Tryd.zeroValue122
  t210 := Tryd.underlying139
  a210 := Tryd.isAgg139
  z210 := Tryd.sizeOf139
  v210 := Tryd.zeroValue139
  t212 := Tryd.underlying128
  a212 := Tryd.isAgg128
  z212 := Tryd.sizeOf128
  v212 := Tryd.zeroValue128
  t213 := Tryd.underlying129
  a213 := Tryd.isAgg129
  z213 := Tryd.sizeOf129
  t232 := Tryd.underlying145
  a232 := Tryd.isAgg145
  z232 := Tryd.sizeOf145
  v232 := Tryd.zeroValue145
  t233 := Tryd.underlying146
  a233 := Tryd.isAgg146
  z233 := Tryd.sizeOf146
  v233 := Tryd.zeroValue146
  g15 := by kernel_rfl
  g16 := by kernel_rfl
  g17 := by kernel_rfl
  g18 := by kernel_rfl
  g19 := by kernel_rfl
  t80 := Tryd.underlying79
  a80 := Tryd.isAgg79
  z80 := Tryd.sizeOf79
  v80 := Tryd.zeroValue79
  i0 := by kernel_rfl
  i2 := by kernel_rfl
  i3 := by kernel_rfl
  i4 := by kernel_rfl
  i5 := by kernel_rfl
  i9 := by kernel_rfl
  i20 := by kernel_rfl
  i21 := by kernel_rfl
  i37 := by kernel_rfl
  i46 := by kernel_rfl
  i51 := by kernel_rfl
  i53 := by kernel_rfl
  i75 := by kernel_rfl
  i80 := by kernel_rfl
  i85 := by kernel_rfl
  i127 := by kernel_rfl
  i143 := by kernel_rfl
  i145 := by kernel_rfl
  i167 := by kernel_rfl
  i168 := by kernel_rfl
  i171 := by kernel_rfl
  i173 := by kernel_rfl
  i175 := by kernel_rfl
  i210 := by kernel_rfl
  i212 := by kernel_rfl
  i232 := by kernel_rfl
  i233 := by kernel_rfl
  m15 := by kernel_rfl
  m16 := by kernel_rfl
  m17 := by kernel_rfl
  m18 := by kernel_rfl
  m19 := by kernel_rfl
  c0 := by kernel_rfl
  c2 := by kernel_rfl
  c3 := by kernel_rfl
  c4 := by kernel_rfl
  c5 := by kernel_rfl
  c9 := by kernel_rfl
  c20 := by kernel_rfl
  c21 := by kernel_rfl
  c37 := by kernel_rfl
  c46 := by kernel_rfl
  c51 := by kernel_rfl
  c53 := by kernel_rfl
  c75 := by kernel_rfl
  c80 := by kernel_rfl
  c85 := by kernel_rfl
  c127 := by kernel_rfl
  c143 := by kernel_rfl
  c145 := by kernel_rfl
  c167 := by kernel_rfl
  c168 := by kernel_rfl
  c171 := by kernel_rfl
  c173 := by kernel_rfl
  c175 := by kernel_rfl
  c210 := by kernel_rfl
  c212 := by kernel_rfl
  c213 := by kernel_rfl
  c232 := by kernel_rfl
  c233 := by kernel_rfl }
theorem fmt_run (n : Int) (h0 : -9223372036854775808 ≤ n) (h1 : n ≤ 9223372036854775807) (w : World) (htab : Lib.TabIs Tryd.prog w "internal/strconv.uint64pow10" .u64 Lib.pow10Tab) :
    Calls Tryd.prog 61 #[.int .i64 n, .int .i64 10] w fun e w' => e = .returned (.string ⟨(Lib.itoa n).toArray⟩) ∧ ∃ k os, w' = Go.Sort.grow (w.drewN k) os := Any.strconv_FormatInt_10 lays173 n h0 h1 w htab
theorem itoa_run (n : Int) (h0 : -9223372036854775808 ≤ n) (h1 : n ≤ 9223372036854775807) (w : World) (htab : Lib.TabIs Tryd.prog w "internal/strconv.uint64pow10" .u64 Lib.pow10Tab) :
    Calls Tryd.prog 33 #[.int .i64 n] w fun e w' => e = .returned (.string ⟨(Lib.itoa n).toArray⟩) ∧ ∃ k os, w' = Go.Sort.grow (w.drewN k) os := Any.strconv_Itoa lays171 n h0 h1 w htab
/-- What strconv.ParseInt answers, at 64 and at 32 bits. -/
theorem parse_run (B : Nat) (hB : B = 64 ∨ B = 32) (s : ByteArray) (hs : s.size ≤ 1000000) (w : World) {te tr : TypeId} {ve vr : Value} (he : w.cell? ⟨4, 0, none⟩ = some (.iface te ve)) (hr : w.cell? ⟨5, 0, none⟩ = some (.iface tr vr)) :
    Calls Tryd.prog 60 #[.string s, .int .i64 10, .int .i64 B] w fun e w' => RowKit.Below w.heap.size w w' ∧ ((∃ v, Lib.parseIntB B s.data.toList = .ok v ∧ e = .returned (.tuple #[.int .i64 v, .nilIface])) ∨
      (∀ v, Lib.parseIntB B s.data.toList ≠ .ok v) ∧ ∃ n T x, e = .returned (.tuple #[.int .i64 n, .iface T x])) := by
  rcases hB with rfl | rfl
  · cases h : Lib.parseIntB 64 s.data.toList
    · rename_i v
      refine (Any.strconv_ParseInt_10_at64_ok lays174 s (by omega) v h w).mono ?_
      rintro e w' ⟨rfl, h2⟩
      refine ⟨?_, .inl ⟨v, rfl, rfl⟩⟩
      rcases h2 with rfl | ⟨t, rfl⟩
      · exact RowKit.Below.refl _ _
      · exact Lib.bytesWorld_below _ _ _
    · refine (Any.strconv_ParseInt_10_at64_syntax lays174 s (by omega) h _ w he (.inr ⟨_, _, rfl⟩)).mono ?_
      rintro e w' ⟨N, rfl, _, _, hb⟩
      exact ⟨hb, .inr ⟨fun v e => (by cases e), _, _, _, rfl⟩⟩
    · refine (Any.strconv_ParseInt_10_at64_range lays174 s (by omega) h _ w hr (.inr ⟨_, _, rfl⟩)).mono ?_
      rintro e w' ⟨N, rfl, _, _, hb⟩
      exact ⟨hb, .inr ⟨fun v e => (by cases e), _, _, _, rfl⟩⟩
  · cases h : Lib.parseIntB 32 s.data.toList
    · rename_i v
      refine (Any.strconv_ParseInt_10_at32_ok lays174 s (by omega) v h w).mono ?_
      rintro e w' ⟨rfl, h2⟩
      refine ⟨?_, .inl ⟨v, rfl, rfl⟩⟩
      rcases h2 with rfl | ⟨t, rfl⟩
      · exact RowKit.Below.refl _ _
      · exact Lib.bytesWorld_below _ _ _
    · refine (Any.strconv_ParseInt_10_at32_syntax lays174 s (by omega) h _ w he (.inr ⟨_, _, rfl⟩)).mono ?_
      rintro e w' ⟨N, rfl, _, _, hb⟩
      exact ⟨hb, .inr ⟨fun v e => (by cases e), _, _, _, rfl⟩⟩
    · refine (Any.strconv_ParseInt_10_at32_range lays174 s (by omega) h _ w hr (.inr ⟨_, _, rfl⟩)).mono ?_
      rintro e w' ⟨N, rfl, _, _, hb⟩
      exact ⟨hb, .inr ⟨fun v e => (by cases e), _, _, _, rfl⟩⟩
end Go.Proofs.YtheldoijfnigoaaDoor
/-
  Numbers as texts: the plain law.
-/
namespace Go.Proofs.YtheldoijfnigoaaDoor
open Go Go.Lib

def decV (l : List UInt8) : Nat := l.foldl (fun n c => 10 * n + (c.toNat - 48)) 0
def Dig (c : UInt8) : Prop := 48 ≤ c.toNat ∧ c.toNat ≤ 57
theorem foldl_dec (l : List UInt8) : ∀ a : Nat, l.foldl (fun n c => 10 * n + (c.toNat - 48)) a = a * 10 ^ l.length + decV l := by
  induction l with
  | nil => intro a; simp [decV]
  | cons c l ih =>
    intro a
    have h1 := ih (10 * a + (c.toNat - 48))
    have h2 := ih (10 * 0 + (c.toNat - 48))
    have e : decV (c :: l) = l.foldl (fun n c => 10 * n + (c.toNat - 48)) (10 * 0 + (c.toNat - 48)) := rfl
    rw [List.foldl_cons, h1, e, h2, List.length_cons, Nat.pow_succ, Nat.add_mul, Nat.mul_zero, Nat.zero_add, ← Nat.add_assoc]
    congr 2
    rw [Nat.mul_comm 10 a, Nat.mul_assoc, Nat.mul_comm 10]
theorem decV_cons (c : UInt8) (l : List UInt8) : decV (c :: l) = (c.toNat - 48) * 10 ^ l.length + decV l := by
  have e : decV (c :: l) = l.foldl (fun n c => 10 * n + (c.toNat - 48)) (10 * 0 + (c.toNat - 48)) := rfl
  rw [e, foldl_dec]; simp
theorem decV_snoc (l : List UInt8) (c : UInt8) : decV (l ++ [c]) = 10 * decV l + (c.toNat - 48) := by simp [decV, List.foldl_append]
theorem toNat_of {u : Nat} (h : u < 10) : (UInt8.ofNat (48 + u)).toNat = 48 + u := by rw [UInt8.toNat_ofNat', Nat.mod_eq_of_lt (by omega)]
theorem head_app {e l : List UInt8} (h : e ≠ []) : (e ++ l).head? = e.head? := by
  cases e with
  | nil => exact absurd rfl h
  | cons a e => rfl
/-- A numeral's digits, its value, its first digit. -/
theorem dec_good (n : Nat) : (∀ c ∈ decDigits n, Dig c) ∧ decV (decDigits n) = n ∧ decDigits n ≠ [] ∧ ((decDigits n).head? = some 48 → n = 0) := by
  induction n using Nat.strongRecOn with
  | _ n ih =>
    by_cases h : n < 10
    · rw [decDigits, dif_pos h]
      have ht := toNat_of h
      generalize UInt8.ofNat (48 + n) = b at *
      refine ⟨?_, ?_, by simp, ?_⟩
      · intro c hc; simp at hc; subst hc; unfold Dig; omega
      · simp [decV, ht]
      · intro e
        have e' : b = 48 := by simpa using e
        rw [e'] at ht
        have : (48 : UInt8).toNat = 48 := rfl
        omega
    · obtain ⟨h1, h2, h3, h4⟩ := ih (n / 10) (by omega)
      have ht := toNat_of (u := n % 10) (by omega)
      rw [decDigits, dif_neg h]
      generalize UInt8.ofNat (48 + n % 10) = b at *
      refine ⟨?_, ?_, by simp, ?_⟩
      · intro c hc
        rcases List.mem_append.1 hc with hc | hc
        · exact h1 c hc
        · simp at hc; subst hc; unfold Dig; omega
      · rw [decV_snoc, h2, ht]; omega
      · intro e
        rw [head_app h3] at e
        have := h4 e
        omega
/-- Digits without a zero ahead are their value's numeral. -/
theorem dec_of : ∀ (k : Nat) (d : List UInt8), d.length = k → d ≠ [] → (∀ c ∈ d, Dig c) → (d.head? = some 48 → d = [48]) → decDigits (decV d) = d := by
  intro k
  induction k with
  | zero => intro d h h0; exact absurd (List.eq_nil_of_length_eq_zero h) h0
  | succ k ih =>
    intro d hl h0 hd hz
    obtain ⟨e, c, rfl⟩ : ∃ e c, d = e ++ [c] := ⟨d.dropLast, d.getLast h0, (List.dropLast_concat_getLast h0).symm⟩
    have hc := hd c (by simp)
    have hcv : UInt8.ofNat (48 + (c.toNat - 48)) = c := by
      apply UInt8.toNat_inj.1
      rw [toNat_of (by have := hc.2; omega)]
      have := hc.1; omega
    by_cases he : e = []
    · subst he
      have : decV [c] = c.toNat - 48 := by simp [decV]
      show decDigits (decV [c]) = [c]
      rw [this, decDigits, dif_pos (by have := hc.2; omega), hcv]
    · have hez : ¬ e.head? = some 48 := fun h => by
        have := hz (by rw [head_app he]; exact h)
        have := congrArg List.length this
        simp at this
        exact he this
      have h1 := ih e (by simp at hl; exact hl) he (fun x hx => hd x (by simp [hx])) (fun h => absurd h hez)
      have hpos : 1 ≤ decV e := by
        rcases Nat.eq_zero_or_pos (decV e) with h | h
        · rw [h] at h1
          have h9 : decDigits 0 = [48] := by rw [decDigits, dif_pos (by omega)]; rfl
          rw [h9] at h1
          exact absurd (by rw [← h1]; rfl) hez
        · exact h
      rw [decV_snoc, decDigits, dif_neg (by omega)]
      have e1 : (10 * decV e + (c.toNat - 48)) / 10 = decV e := by have := hc.2; omega
      have e2 : (10 * decV e + (c.toNat - 48)) % 10 = c.toNat - 48 := by have := hc.2; omega
      rw [e1, e2, h1, hcv]
/-- Digits are parsed as what they say. -/
theorem parse_ok (M : Nat) (hM : M ≤ 18446744073709551615) : ∀ (l : List UInt8) (acc : Nat), (∀ c ∈ l, Dig c) → acc * 10 ^ l.length + decV l ≤ M → parseUintM M acc l = .ok (acc * 10 ^ l.length + decV l)
  | [], acc, _, _ => by simp [parseUintM, decV]
  | c :: l, acc, h, hle => by
    have hc := h c (by simp)
    rw [decV_cons, List.length_cons, Nat.pow_succ] at hle ⊢
    have hpw : 1 ≤ 10 ^ l.length := Nat.one_le_pow _ _ (by decide)
    have e : acc * (10 ^ l.length * 10) + ((c.toNat - 48) * 10 ^ l.length + decV l) = (acc * 10 + (c.toNat - 48)) * 10 ^ l.length + decV l := by
      rw [Nat.add_mul, Nat.mul_assoc, Nat.mul_comm 10]; omega
    rw [e] at hle ⊢
    have h1 : acc * 10 + (c.toNat - 48) ≤ M := by
      have : (acc * 10 + (c.toNat - 48)) * 1 ≤ (acc * 10 + (c.toNat - 48)) * 10 ^ l.length := Nat.mul_le_mul_left _ hpw
      omega
    rw [parseUintM, if_pos (show 48 ≤ c.toNat ∧ c.toNat ≤ 57 from hc), if_neg (by omega), if_neg (by omega)]
    exact parse_ok M hM l _ (fun x hx => h x (by simp [hx])) hle
end Go.Proofs.YtheldoijfnigoaaDoor
