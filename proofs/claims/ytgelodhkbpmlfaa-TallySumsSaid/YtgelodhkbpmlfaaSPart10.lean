/-
  Of each function: which temporaries take a right to append with the value; the plans of the regions that draw their order. Written by a program of mine.
-/
import Derived.Test.YtgelodhkbpmlfaaSPart9
import Derived.Shelf.Sort.Plain
import Derived.Shelf.Slices.In.SortNone
import Derived.Shelf.Slices.CompactS
import Derived.Lib.RowBridge
import Derived.Test.YtgelodhkbpmlfaaProg
set_option linter.unusedSimpArgs false
set_option linter.unusedVariables false
namespace Go.Proofs.Ytgelodhkbpmlfaa
open Go Go.AL
@[simp] def st4 : List Nat := []
@[simp] def pl4 : List (Nat × Plan) := [(31, Plan.seq [0, 1, 2, 3, 8] (.alt (Plan.seq [4, 5, 6, 7, 9, 10, 11, 12, 13] (.done)) (Plan.seq [9, 4, 5, 6, 7, 10, 11, 12, 13] (.done))))]
@[simp] def st6 : List Nat := []
@[simp] def pl6 : List (Nat × Plan) := []
@[simp] def st7 : List Nat := [15, 21]
@[simp] def pl7 : List (Nat × Plan) := []
@[simp] def st8 : List Nat := [1000037]
@[simp] def pl8 : List (Nat × Plan) := []
@[simp] def st9 : List Nat := [76, 1000062, 1000066, 1000070, 1000074]
@[simp] def pl9 : List (Nat × Plan) := [(18, Plan.seq [1, 2, 3, 5, 6, 9, 10, 11] (.alt (Plan.seq [0] (.alt (Plan.seq [4, 7, 8, 12, 13] (.done)) (Plan.seq [7, 4, 8, 12, 13] (.done)))) (Plan.seq [7, 0, 4, 8, 12, 13] (.done))))]
@[simp] def st10 : List Nat := [5000005]
@[simp] def pl10 : List (Nat × Plan) := [(9, Plan.seq [0, 1, 2, 3, 4, 5, 6, 7, 8, 9, 10, 11, 12] (.done)), (26, Plan.seq [0, 1, 2, 3, 4, 5, 6, 7, 8, 9, 10] (.done))]
@[simp] def st11 : List Nat := []
@[simp] def pl11 : List (Nat × Plan) := [(6, Plan.seq [0, 1, 2, 3, 4, 5, 6, 7, 8] (.done))]
@[simp] def st12 : List Nat := [12]
@[simp] def pl12 : List (Nat × Plan) := []
@[simp] def st13 : List Nat := [18]
@[simp] def pl13 : List (Nat × Plan) := []
@[simp] def pl14 : List (Nat × Plan) := []
@[simp] def st15 : List Nat := [12]
@[simp] def pl15 : List (Nat × Plan) := []
@[simp] def st16 : List Nat := []
@[simp] def pl16 : List (Nat × Plan) := []
@[simp] def st17 : List Nat := []
@[simp] def pl17 : List (Nat × Plan) := []
@[simp] def st18 : List Nat := []
@[simp] def pl18 : List (Nat × Plan) := []
@[simp] def st19 : List Nat := []
@[simp] def pl19 : List (Nat × Plan) := []
@[simp] def st20 : List Nat := []
@[simp] def pl20 : List (Nat × Plan) := []
@[simp] def st21 : List Nat := []
@[simp] def pl21 : List (Nat × Plan) := []
@[simp] def st22 : List Nat := [8, 1000002, 1000003]
@[simp] def pl22 : List (Nat × Plan) := []
@[simp] def st23 : List Nat := []
@[simp] def pl23 : List (Nat × Plan) := []
@[simp] def st25 : List Nat := [1000002, 1000005, 1000007]
@[simp] def pl25 : List (Nat × Plan) := []
@[simp] def st26 : List Nat := []
@[simp] def pl26 : List (Nat × Plan) := []
@[simp] def st27 : List Nat := []
@[simp] def pl27 : List (Nat × Plan) := []
@[simp] def st32 : List Nat := [1000004, 1000002]
@[simp] def pl32 : List (Nat × Plan) := []
@[simp] def st34 : List Nat := []
@[simp] def pl34 : List (Nat × Plan) := []
@[simp] def st35 : List Nat := []
@[simp] def pl35 : List (Nat × Plan) := []
@[simp] def st36 : List Nat := []
@[simp] def pl36 : List (Nat × Plan) := []
@[simp] def st37 : List Nat := []
@[simp] def pl37 : List (Nat × Plan) := []
@[simp] def st42 : List Nat := [8, 1000002, 1000004, 1000011]
@[simp] def pl42 : List (Nat × Plan) := []
@[simp] def st45 : List Nat := []
@[simp] def pl45 : List (Nat × Plan) := []
end Go.Proofs.Ytgelodhkbpmlfaa
/-
  slices.Sort and slices.Compact of texts at this translation (the layings are printed by the kit's tool), as abstract states.
-/
namespace Go.Proofs.Ytgelodhkbpmlfaa
open Go.Shelf
def lays190_ren : Go.Shelf.Ren := ⟨fun | 190 => 33 | 125 => 44 | 258 => 43 | 128 => 56 | 129 => 57 | 302 => 47 | 303 => 48 | 304 => 49 | 305 => 50 | 306 => 51 | 307 => 52 | 308 => 53 | 309 => 54 | 310 => 55 | 333 => 62 | 329 => 63 | 330 => 64 | 334 => 65 | 335 => 66 | 336 => 67 | 344 => 72 | n => n, fun | 31 => 22 | 9 => 9 | 3 => 3 | 46 => 91 | 0 => 0 | 51 => 57 | 53 => 33 | 4 => 4 | 183 => 95 | 182 => 94 | 131 => 80 | 5 => 5 | 218 => 107 | 222 => 110 | 228 => 115 | 229 => 116 | n => n, fun | n => n⟩
theorem lays190 : Go.Proofs.Lays.n190 Try.prog lays190_ren := {
  mixed := by kernel_rfl
  f125 := Try.func44.trans (congrArg some (by kernel_rfl))
  f128 := Try.func56.trans (congrArg some (by kernel_rfl))
  f129 := Try.func57.trans (congrArg some (by kernel_rfl))
  f190 := Try.func33.trans (congrArg some (by kernel_rfl))
  f258 := Try.func43.trans (congrArg some (by kernel_rfl))
  f302 := Try.func47.trans (congrArg some (by kernel_rfl))
  f303 := Try.func48.trans (congrArg some (by kernel_rfl))
  f304 := Try.func49.trans (congrArg some (by kernel_rfl))
  f305 := Try.func50.trans (congrArg some (by kernel_rfl))
  f306 := Try.func51.trans (congrArg some (by kernel_rfl))
  f307 := Try.func52.trans (congrArg some (by kernel_rfl))
  f308 := Try.func53.trans (congrArg some (by kernel_rfl))
  f309 := Try.func54.trans (congrArg some (by kernel_rfl))
  f310 := Try.func55.trans (congrArg some (by kernel_rfl))
  f329 := Try.func63.trans (congrArg some (by kernel_rfl))
  f330 := Try.func64.trans (congrArg some (by kernel_rfl))
  f333 := Try.func62.trans (congrArg some (by kernel_rfl))
  f334 := Try.func65.trans (congrArg some (by kernel_rfl))
  f335 := Try.func66.trans (congrArg some (by kernel_rfl))
  f336 := Try.func67.trans (congrArg some (by kernel_rfl))
  f344 := Try.func72.trans (congrArg some (by kernel_rfl))
  t0 := Try.underlying0
  a0 := Try.isAgg0
  z0 := Try.sizeOf0
  v0 := Try.zeroValue0
  t3 := Try.underlying3
  a3 := Try.isAgg3
  z3 := Try.sizeOf3
  v3 := Try.zeroValue3
  t4 := Try.underlying4
  a4 := Try.isAgg4
  z4 := Try.sizeOf4
  v4 := Try.zeroValue4
  t5 := Try.underlying5
  a5 := Try.isAgg5
  z5 := Try.sizeOf5
  v5 := Try.zeroValue5
  t9 := Try.underlying9
  a9 := Try.isAgg9
  z9 := Try.sizeOf9
  v9 := Try.zeroValue9
  t31 := Try.underlying22
  a31 := Try.isAgg22
  z31 := Try.sizeOf22
  v31 := Try.zeroValue22
  t46 := Try.underlying91
  a46 := Try.isAgg91
  z46 := Try.sizeOf91
  v46 := Try.zeroValue91
  t51 := Try.underlying57
  a51 := Try.isAgg57
  z51 := Try.sizeOf57
  v51 := Try.zeroValue57
  t53 := Try.underlying33
  a53 := Try.isAgg33
  z53 := Try.sizeOf33
  v53 := Try.zeroValue33
  t131 := Try.underlying80
  a131 := Try.isAgg80
  z131 := Try.sizeOf80
  v131 := Try.zeroValue80
  t182 := Try.underlying94
  a182 := Try.isAgg94
  z182 := Try.sizeOf94
  v182 := Try.zeroValue94
  t183 := Try.underlying95
  a183 := Try.isAgg95
  z183 := Try.sizeOf95
  v183 := Try.zeroValue95
  t218 := Try.underlying107
  a218 := Try.isAgg107
  z218 := Try.sizeOf107
  v218 := Try.zeroValue107
  t222 := Try.underlying110
  a222 := Try.isAgg110
  z222 := Try.sizeOf110
  v222 := Try.zeroValue110
  t228 := Try.underlying115
  a228 := Try.isAgg115
  z228 := Try.sizeOf115
  v228 := Try.zeroValue115
  t229 := Try.underlying116
  a229 := Try.isAgg116
  z229 := Try.sizeOf116
  v229 := Try.zeroValue116 }
def lays194_ren : Go.Shelf.Ren := ⟨fun | 194 => 24 | n => n, fun | 31 => 22 | 9 => 9 | 3 => 3 | 4 => 4 | 0 => 0 | n => n, fun | n => n⟩
theorem lays194 : Go.Proofs.Lays.n194 Try.prog lays194_ren := {
  mixed := by kernel_rfl
  f194 := Try.func24.trans (congrArg some (by kernel_rfl))
  t0 := Try.underlying0
  a0 := Try.isAgg0
  z0 := Try.sizeOf0
  v0 := Try.zeroValue0
  t3 := Try.underlying3
  a3 := Try.isAgg3
  z3 := Try.sizeOf3
  v3 := Try.zeroValue3
  t4 := Try.underlying4
  a4 := Try.isAgg4
  z4 := Try.sizeOf4
  v4 := Try.zeroValue4
  t9 := Try.underlying9
  a9 := Try.isAgg9
  z9 := Try.sizeOf9
  v9 := Try.zeroValue9
  t31 := Try.underlying22
  a31 := Try.isAgg22
  z31 := Try.sizeOf22
  v31 := Try.zeroValue22 }

open Go Go.AL Go.RowKit Go.Sort
def toB (L : List UInt8) : ByteArray := ⟨L.toArray⟩
def strV (x : List UInt8) : AV := .lit (.string (toB x))
def strsA (l : List (List UInt8)) : List AV := l.map strV
@[simp] theorem strsA_length (l : List (List UInt8)) : (strsA l).length = l.length := by simp [strsA]
theorem strsA_append (a b : List (List UInt8)) : strsA (a ++ b) = strsA a ++ strsA b := by simp [strsA]
/-- A row of texts in the world. -/
theorem holds_of {D : Nat → Prop} {G : Ghost} {σ : Store} {w : World} (h : WR D G σ w) {p : Nat} {l : List (List UInt8)} {rest : List AV} (hp : σ p = some (strsA l ++ rest)) : Holds encStr w p 0 l.toArray := by
  obtain ⟨_, _, _, cur, e, hg, hl, hc⟩ := h.obj p _ hp
  intro j hj
  have hj' : j < l.length := by simpa using hj
  have hlc : j < cur.size := by simp at hl; omega
  have h1 : (strsA l ++ rest)[j]? = some (strV l[j]) := by rw [List.getElem?_append_left (by simpa using hj')]; simp [strsA, hj']
  have h2 := (hc j _ _ h1 (by simp [hlc] : cur[j]? = some cur[j])).2.1.lit_eq rfl
  refine ⟨?_, by simp [World.frozen?, hg]⟩
  simp [World.cell?, hg, hlc, h2, encStr, toB, hj']
/-- .. and what it holds anew. -/
theorem wr_putRow {D : Nat → Prop} {G : Ghost} {σ : Store} {w : World} (h : WR D G σ w) (hf : ∀ k, w.heap.size ≤ k → D k) {p : Nat} {l m : List (List UInt8)} {rest : List AV} (hp : σ p = some (strsA l ++ rest)) (hm : m.length = l.length) (n : Nat) (os : Array Obj) :
    WR D G (σ.upd p (strsA m ++ rest)) (grow (Go.Sort.putRow encStr (Sort.ahead w n) p 0 m.toArray) os) ∧ Ext D G w G (grow (Go.Sort.putRow encStr (Sort.ahead w n) p 0 m.toArray) os) := by
  obtain ⟨hD, _, _, cur, e, hg, hl, hc⟩ := h.obj p _ hp
  have hg' : (Go.Sort.putRow encStr (Sort.ahead w n) p 0 m.toArray).heap[p]? = some (.cells (putCells encStr 0 m.toArray cur) e (0, 0)) := by
    simp [Go.Sort.putRow, mapBlock, Sort.ahead, Array.getElem?_modify, hg, onCells]
  have hother : ∀ k, k ≠ p → (Go.Sort.putRow encStr (Sort.ahead w n) p 0 m.toArray).heap[k]? = w.heap[k]? := fun k hk => by
    simp [Go.Sort.putRow, mapBlock, Sort.ahead, Array.getElem?_modify, Ne.symm hk]
  have hsz : (Go.Sort.putRow encStr (Sort.ahead w n) p 0 m.toArray).heap.size = w.heap.size := by simp [Go.Sort.putRow, mapBlock, Sort.ahead]
  have hW := h.objTo (w' := Go.Sort.putRow encStr (Sort.ahead w n) p 0 m.toArray) hp (cs' := strsA m ++ rest) rfl (fun g n z π q => ⟨π, q⟩) (fun _ _ _ _ _ _ _ _ q => q) hg hg' hother (by simp [putCells] at hl ⊢; omega) (fun i c u hci hui => by
    have hci2 := hci
    by_cases hi : i < m.length
    · rw [List.getElem?_append_left (by simpa using hi)] at hci
      have e1 : c = strV m[i] := by simpa [strsA, hi] using hci.symm
      have e2 : u = encStr m[i] := by
        have := (Array.getElem?_eq_some_iff.1 hui).2
        rw [← this]; simp [putCells, hi]
      subst e1 e2
      exact ⟨rfl, .lit _, trivial⟩
    · have hci3 : (strsA l ++ rest)[i]? = some c := by
        rw [List.getElem?_append_right (by simp; omega)] at hci ⊢
        simpa [hm] using hci
      have hlt := (Array.getElem?_eq_some_iff.1 hui).1
      have hu3 : cur[i]? = some u := by
        rw [← hui]; simp [putCells] at hlt ⊢; simp [hi, hlt]
      exact hc i c u hci3 hu3)
  refine ⟨hW.grow (fun k hk => Array.getElem?_append_left hk) (fun _ q _ => q), ⟨rfl, rfl, rfl, ?_, fun _ _ _ q => q, fun k hk => ⟨?_, rfl, rfl⟩⟩⟩
  · show w.heap.size ≤ (_ ++ os).size
    rw [Array.size_append, hsz]; omega
  · have hkp : k ≠ p := fun e => hk (e ▸ hD)
    have hkw : k < w.heap.size := by
      exact Nat.lt_of_not_le fun e => hk (hf k e)
    show (_ ++ os)[k]? = _
    rw [Array.getElem?_append_left (by rw [hsz]; exact hkw), hother k hkp]
def sortL (l : List (List UInt8)) : List (List UInt8) := l.mergeSort fun x y => decide (x ≤ y)
theorem sort_calls (l : List (List UInt8)) (hl : l.length ≤ 1000000) (p cap : Nat) (rest : List AV) (σ : Store) (hp : σ p = some (strsA l ++ rest)) :
    ACalls Try.prog 33 [.lit (.slice (some ⟨p, 0, none⟩) l.length cap)] σ fun v σ' => v = .tuple [] ∧ σ' = σ.upd p (strsA (sortL l) ++ rest) := by
  intro D G w cargs hla hargs hW hfresh
  obtain ⟨c0, rfl⟩ : ∃ a, cargs = #[a] := by
    rcases cargs with ⟨l⟩
    match l, hla with
    | [a], _ => exact ⟨a, rfl⟩
  have e0 := (hargs 0 _ c0 rfl rfl).1.lit_eq rfl
  subst e0
  have hpw : p < w.heap.size := by
    obtain ⟨_, _, _, cur, e, hg, _⟩ := hW.obj p _ hp
    exact (Array.getElem?_eq_some_iff.1 hg).1
  refine (Any.slices_Sort_string lays190 p 0 cap l w (holds_of hW hp) hpw (by omega)).mono ?_
  rintro e w' ⟨rfl, n, os, rfl⟩
  obtain ⟨h1, h2⟩ := wr_putRow hW hfresh hp (m := sortL l) (by simp [sortL]) n os
  exact ⟨_, _, G, _, rfl, ⟨rfl, rfl⟩, .tuple _ _ rfl (by simp), OwnAt.of_plain rfl, h1, h2⟩
theorem compact_calls (l : List (List UInt8)) (hl : l.length ≤ 1000000) (p cap : Nat) (hcap : l.length ≤ cap) (rest : List AV) (σ : Store) (hp : σ p = some (strsA l ++ rest)) :
    ACalls Try.prog 24 [.lit (.slice (some ⟨p, 0, none⟩) l.length cap)] σ fun v σ' => v = .lit (.slice (some ⟨p, 0, none⟩) (Lib.compact l).length cap) ∧ Store.sub (σ.del p) σ' := by
  intro D G w cargs hla hargs hW hfresh
  obtain ⟨c0, rfl⟩ : ∃ a, cargs = #[a] := by
    rcases cargs with ⟨l⟩
    match l, hla with
    | [a], _ => exact ⟨a, rfl⟩
  have e0 := (hargs 0 _ c0 rfl rfl).1.lit_eq rfl
  subst e0
  refine (Any.slices_Compact_string lays194 p 0 cap l w (holds_of hW hp) (by omega) hcap).mono ?_
  rintro e w' ⟨rfl, n, rfl⟩
  obtain ⟨h1, h2⟩ := wr_putRow hW hfresh hp (m := Lib.compact l ++ List.replicate (l.length - (Lib.compact l).length) []) (by have := Lib.compact_length_le l; simp; omega) n #[]
  simp only [grow_empty] at h1 h2
  exact ⟨_, _, G, _, rfl, ⟨rfl, fun k => by unfold Store.del Store.upd; split <;> simp⟩, .lit _, OwnAt.of_plain rfl, h1, h2⟩
abbrev nilS : AV := .lit (.slice none 0 0)
end Go.Proofs.Ytgelodhkbpmlfaa
/-
  Few names; a text cut; the document's counters: how one list is made.
-/
namespace Go.Proofs.Ytgelodhkbpmlfaa
open Go Go.AL

theorem follows : Try.prog.follows .mixedOrders = true := by kernel_rfl
theorem toB_size (L : List UInt8) : (toB L).size = L.length := by simp [toB, ByteArray.size]
theorem toB_toList (l : List UInt8) : (toB l).toList = l := by rw [ByteArray.toList_eq]; simp [toB]
theorem toB_extract (L : List UInt8) (i j : Nat) (h : i ≤ j) : (toB L).extract i j = toB ((L.drop i).take (j - i)) := by
  apply ByteArray.ext
  apply Array.ext'
  simp [toB, ByteArray.data_extract]
theorem aSlice_to {P : Program} {t : TypeId} (ht : tElem P t = none) (hs : tStr P t = true) (L : List UInt8) (b : Nat) (zb : Int) (hb : zb = b) (hbl : b ≤ L.length) :
    aSlice P t (.lit (.string (toB L))) none (some (.lit (.int .i64 zb))) none = some (.lit (.string (toB (L.take b)))) := by
  subst hb
  have hsz := toB_size L
  have h1 : (0 : Int) ≤ (b : Int) := by omega
  have h2 : b ≤ (toB L).size := by omega
  have := toB_extract L 0 b (by omega)
  simp at this
  simp [aSlice, ht, hs, bndA, h1, h2, this]
theorem flat_strs (l : List (List UInt8)) : flat (strsA l) = strsA l := by
  induction l with
  | nil => rfl
  | cons a l ih => simp only [flat, strsA, List.map_cons, List.flatMap_cons] at ih ⊢; rw [ih]; rfl
set_option maxRecDepth 8000 in
theorem cuttext_calls (t : List UInt8) (m : Nat) (hm : m ≤ 1000000) (σ : Store) : ACalls Try.prog 15 [.lit (.string (toB t)), .lit (.int .i64 m)] σ fun v σ' => v = .lit (.string (toB (t.take m))) ∧ σ' = σ := by
  refine ACalls.of_awp follows (st := st15) (plans := pl15) (n := 13) Try.func15 rfl (by kernel_rfl) (by kernel_rfl) (by kernel_rfl) ?_
  have hsz := toB_size t
  by_cases h : m < t.length
  · have hk := aSlice_to (P := Try.prog) (t := 9) (by simp) (by simp) t m (m : Int) rfl (by omega)
    have h' : (m : Int) < t.length := by omega
    generalize toB t = S at *
    simp [-e_aSlice_1, -e_aSlice_2, hsz, h, h', hk]
  · have h' : ¬ (m : Int) < t.length := by omega
    rw [List.take_of_length_le (by omega)]
    simp [hsz, h, h']
/-- Names that aren't too long, nor too many. -/
def fewN (l : List (List UInt8)) : List (List UInt8) := (l.take 70).map (·.take 45)
set_option maxRecDepth 8000 in
set_option maxHeartbeats 1000000 in
theorem few_calls (l : List (List UInt8)) (hl : l.length ≤ 9223372036854775807) (o : Bool) (σ : Store) :
    ACalls Try.prog 7 [.list o 1 (strsA l)] σ fun v σ' => v = .list true 1 (strsA (fewN l)) ∧ σ' = σ := by
  refine ACalls.of_awp follows (st := st7) (plans := pl7) (n := 22) Try.func7 rfl (by kernel_rfl) (by kernel_rfl) (by kernel_rfl) ?_
  simp
  refine codeK.loop follows (st := st7) (plans := pl7) (X := Nat) (fun k => k ≤ l.length)
    (fun k => [(3, .list true 1 (strsA (fewN (l.take k)))), (6, .list false 1 (strsA l)), (7, .lit (.int .i64 l.length)), (8, .lit (.int .i64 k))]) (fun _ => σ) (fun k => l.length - k) 0 (by kernel_rfl)
    (by simp) (by simp [strsA, fewN]) (Store.sub_refl _) fun k hk => ?_
  by_cases hlt : k < l.length
  · obtain ⟨x, hx⟩ : ∃ x, l[k]'hlt = x := ⟨_, rfl⟩
    have htk : l.take (k + 1) = l.take k ++ [x] := by rw [List.take_succ_eq_append_getElem hlt, hx]
    have hg : (strsA l)[k]? = some (strV x) := by simp [strsA, hlt, hx]
    have hg2 : ∀ h, (strsA l)[k]'h = strV x := fun h => by simp [strsA, hx]
    have hlw : IntKind.i64.wrap ((k : Int) + 1) = (k : Int) + 1 := wrap_i64 (by omega) (by omega)
    simp only [strV] at hg hg2
    by_cases h15 : k < 70
    · have h15' : (k : Int) < 70 := by omega
      have hfw : fewN (l.take (k + 1)) = fewN (l.take k) ++ [x.take 45] := by
        unfold fewN
        rw [List.take_of_length_le (l := l.take (k + 1)) (by rw [List.length_take]; omega), List.take_of_length_le (l := l.take k) (by rw [List.length_take]; omega), htk]
        simp
      have hfl : (fewN (l.take k)).length ≤ 70 := by unfold fewN; simp; omega
      simp [hlt, hg, hg2, h15, h15']
      refine callK.of (cuttext_calls x 45 (by omega) _) ?_
      rintro v σ1 ⟨rfl, rfl⟩
      simp
      refine ⟨by omega, by omega, k + 1, by omega, by omega, ?_, by rw [hlw]; exact AV.le_refl _⟩
      rw [hfw, strsA_append]
      exact AV.le_refl _
    · have h15' : ¬ (k : Int) < 70 := by omega
      have hfw : fewN (l.take (k + 1)) = fewN (l.take k) := by
        unfold fewN
        rw [List.take_take, List.take_take, Nat.min_eq_left (by omega), Nat.min_eq_left (by omega)]
      simp [hlt, hg, hg2, h15, h15']
      exact ⟨k + 1, by omega, by omega, by rw [hfw]; exact AV.le_refl _, by rw [hlw]; exact AV.le_refl _⟩
  · have : k = l.length := by omega
    subst this
    simp
end Go.Proofs.Ytgelodhkbpmlfaa
/-
  Names collected into a row, sorted, copied.
-/
namespace Go.Proofs.Ytgelodhkbpmlfaa
open Go Go.AL

abbrev ptrA (b : Nat) : AV := .lit (.pointer (some ⟨b, 0, none⟩))
abbrev sliA (p n cap : Nat) : AV := .lit (.slice (some ⟨p, 0, none⟩) n cap)
/-- Names: a list, or a row that is an object. -/
def NV (σ : Store) (V : AV) (l : List (List UInt8)) : Prop := (∃ o, V = .list o 1 (strsA l)) ∨ ∃ (p cap : Nat) (rest : List AV), V = sliA p l.length cap ∧ σ p = some (strsA l ++ rest)
theorem sub_at {σ τ : Store} {o : Nat} {x : List AV} (h : σ o = some x) (hs : Store.sub σ τ) : τ o = some x := by
  rcases hs o with e | e
  · rw [e] at h; cases h
  · rw [← e]; exact h
theorem NV.more {σ τ : Store} {V : AV} {l : List (List UInt8)} (h : NV σ V l) (hs : Store.sub σ τ) : NV τ V l := by
  rcases h with h | ⟨p, cap, rest, h1, h2⟩
  · exact .inl h
  · exact .inr ⟨p, cap, rest, h1, sub_at h2 hs⟩
theorem NV.obj {σ : Store} {p n cap : Nat} {l : List (List UInt8)} (h : NV σ (sliA p n cap) l) : ∃ rest, σ p = some (strsA l ++ rest) := by
  rcases h with ⟨o, h⟩ | ⟨p', cap', rest, h1, h2⟩
  · cases h
  · cases h1; exact ⟨rest, h2⟩
theorem values_calls (V : AV) (l : List (List UInt8)) (σ : Store) (h : NV σ V l) : ACalls Try.prog 23 [V] σ fun v σ' => ∃ b : Nat, σ b = none ∧ v = .func (.func 34) [] [ptrA b] ∧ σ' = σ.upd b [V] := by
  rcases h with ⟨o, rfl⟩ | ⟨p, cap, rest, rfl, hp⟩
  all_goals
    refine ACalls.of_awp follows (st := st23) (plans := pl23) (n := 4) Try.func23 rfl (by kernel_rfl) (by kernel_rfl) (by kernel_rfl) ?_
    simp
    exact fun b hb => ⟨_, AV.le_refl _, _, Store.sub_refl _, b, hb, rfl, rfl⟩
set_option maxRecDepth 8000 in
theorem values_iter (b : Nat) (V : AV) (l : List (List UInt8)) (hl : l.length ≤ 1000000) (σ : Store) : IterG Try.prog 34 [ptrA b] σ l.length (fun _ τ => τ b = some [V] ∧ NV τ V l) (fun k _ => [strV (l.getD k [])]) := by
  refine ⟨fun k τ τ' h hs => ⟨⟨sub_at h.1 hs, h.2.more hs⟩, rfl⟩, fun X lp I J hneed hy τ E h0 hs => ?_⟩
  obtain ⟨q1, q2⟩ := hneed 0 τ E (Nat.zero_le _) h0
  have q1 := sub_at q1 hs
  refine ACallsY.of_awp follows (st := st34) (plans := pl34) (n := 16) Try.func34 rfl (by kernel_rfl) (by kernel_rfl) (by kernel_rfl) ?_
  rcases q2 with ⟨o, rfl⟩ | ⟨p, cap, rest, rfl, hp⟩
  case' inl =>
    simp [q1]
    refine codeYK.loop follows (st := st34) (plans := pl34) (S := Nat × Store) (fun x => x.1 ≤ l.length)
      (fun x => [(0, .func (.yield lp) [] []), (5, .list false 1 (strsA l)), (6, .lit (.int .i64 l.length)), (7, .lit (.int .i64 x.1))]) (fun x => x.2) (fun x E => I x.1 x.2 E) (fun x => l.length - x.1) (0, τ) (by kernel_rfl) (by simp) (by simp) hs h0 ?_
  case' inr =>
    simp [q1]
    refine codeYK.loop follows (st := st34) (plans := pl34) (S := Nat × Store) (fun x => x.1 ≤ l.length)
      (fun x => [(0, .func (.yield lp) [] []), (5, sliA p l.length cap), (6, .lit (.int .i64 l.length)), (7, .lit (.int .i64 x.1))]) (fun x => x.2) (fun x E => I x.1 x.2 E) (fun x => l.length - x.1) (0, τ) (by kernel_rfl) (by simp) (by simp) hs h0 ?_
  all_goals
    rintro ⟨k, τ1⟩ E1 hk hI
    dsimp only at hk hI ⊢
    have hnv := (hneed k τ1 E1 hk hI).2
    by_cases hlt : k < l.length
    · have hw : IntKind.i64.wrap ((k : Int) + 1) = ((k + 1 : Nat) : Int) := wrap_i64 (by omega) (by omega)
      have hyk := hy k hlt τ1 E1 hI
      obtain ⟨c, hc⟩ : ∃ c, l.getD k [] = c := ⟨_, rfl⟩
      have hc2 : l[k] = c := by rw [← hc]; simp [List.getD_eq_getElem?_getD, hlt]
      have hg1 : (strsA l)[k]? = some (.lit (.string (toB c))) := by simp [strsA, strV, hlt, hc2]
      have hg2 : ∀ h : k < (strsA l).length, (strsA l)[k]'h = .lit (.string (toB c)) := fun h => by simp [strsA, strV, hc2]
      have hlt' : (k : Int) < l.length := by omega
      rw [hc] at hyk
      simp only [strV] at hyk
      first
        | obtain ⟨rest', hpo⟩ := hnv.obj
          have hg3 : (strsA l ++ rest')[k]? = some (.lit (.string (toB c))) := by rw [List.getElem?_append_left (by simpa using hlt)]; exact hg1
          have hln : (strsA l ++ rest').length = l.length + rest'.length := by simp
          generalize strsA l ++ rest' = CC at *
          have hg4 : ∀ h : k < CC.length, CC[k]'h = .lit (.string (toB c)) := fun h => by rw [List.getElem?_eq_getElem h] at hg3; exact Option.some.inj hg3
          simp [hlt, hlt', hpo, hg3, hg4, hln, show k < l.length + rest'.length by omega]
        | simp [hlt, hlt', hg1, hg2]
      refine yieldK.of (by simp) hyk (Store.sub_refl _) ?_
      intro b2 τ' E' hR hap
      cases b2
      · simp
        exact ⟨⟨_, AV.le_refl _⟩, _, Store.sub_over _ _ _, τ', Store.sub_refl _, .inr (by simpa using hR)⟩
      · simp
        refine ⟨k + 1, by omega, by omega, by rw [hw]; exact AV.le_refl _, τ', Store.sub_over _ _ _, by simpa using hR⟩
    · obtain rfl : k = l.length := by omega
      simp
      exact ⟨⟨_, AV.le_refl _⟩, _, Store.sub_refl _, τ1, Store.sub_refl _, .inl (by simpa using hI)⟩
end Go.Proofs.Ytgelodhkbpmlfaa
/-
  A row collected; sorted; a copy.
-/
namespace Go.Proofs.Ytgelodhkbpmlfaa
open Go Go.AL

theorem sort_none' (o : Bool) (σ : Store) : ACalls Try.prog 33 [.list o 1 []] σ fun v σ' => v = .tuple [] ∧ σ' = σ := by
  intro D G w cargs hla hargs hW hfresh
  obtain ⟨c0, rfl⟩ : ∃ a, cargs = #[a] := by
    rcases cargs with ⟨l⟩
    match l, hla with
    | [a], _ => exact ⟨a, rfl⟩
  obtain ⟨a, cap, rfl⟩ : ∃ a cap, c0 = .slice a 0 cap := by
    have e0 := (hargs 0 _ c0 rfl rfl).1
    cases e0 with
    | nil => exact ⟨_, _, rfl⟩
    | void => exact ⟨_, _, rfl⟩
    | list _ _ _ g off n cap us hn => exact ⟨_, cap, by rw [hn]; rfl⟩
  refine (Any.slices_Sort_string_none lays190 a cap w).mono ?_
  rintro e w' ⟨rfl, rfl⟩
  exact ⟨_, _, G, _, rfl, ⟨rfl, rfl⟩, .tuple _ _ rfl (by simp), OwnAt.of_plain rfl, hW, Ext.refl ..⟩
theorem compact_none' (o : Bool) (σ : Store) : ACalls Try.prog 24 [.list o 1 []] σ fun v σ' => (∃ a cap, v = .lit (.slice a 0 cap)) ∧ σ' = σ := by
  intro D G w cargs hla hargs hW hfresh
  obtain ⟨c0, rfl⟩ : ∃ a, cargs = #[a] := by
    rcases cargs with ⟨l⟩
    match l, hla with
    | [a], _ => exact ⟨a, rfl⟩
  obtain ⟨a, cap, rfl⟩ : ∃ a cap, c0 = .slice a 0 cap := by
    have e0 := (hargs 0 _ c0 rfl rfl).1
    cases e0 with
    | nil => exact ⟨_, _, rfl⟩
    | void => exact ⟨_, _, rfl⟩
    | list _ _ _ g off n cap us hn => exact ⟨_, cap, by rw [hn]; rfl⟩
  refine (Any.slices_Compact_string_empty lays194 a cap w).mono ?_
  rintro e w' ⟨rfl, rfl⟩
  exact ⟨_, _, G, _, rfl, ⟨⟨a, cap, rfl⟩, rfl⟩, .lit _, OwnAt.of_plain rfl, hW, Ext.refl ..⟩
def tops (n : Nat) : List AV := List.replicate n .top
/-- A row that was made: its texts, and room. -/
def RowR (σ : Store) (l : List (List UInt8)) (v : AV) (σ' : Store) : Prop := (l = [] ∧ v = nilS ∧ σ' = σ) ∨ ∃ p cap : Nat, σ p = none ∧ l.length ≤ cap ∧ cap ≤ maxLen ∧ v = sliA p l.length cap ∧ σ' = σ.upd p (strsA l ++ tops (cap - l.length))
set_option maxRecDepth 8000 in
set_option maxHeartbeats 1000000 in
theorem appseq_calls (b : Nat) (V : AV) (l : List (List UInt8)) (hl : l.length ≤ 1000000) (σ : Store) (hb : σ b = some [V]) (hV : NV σ V l) :
    ACalls Try.prog 42 [nilS, .func (.func 34) [] [ptrA b]] σ (RowR σ l) := by
  have hi := fun τ => values_iter b V l hl τ
  refine ACalls.of_awpY follows (st := st42) (plans := pl42) (n := 13) Try.func42 rfl (by kernel_rfl) (by kernel_rfl) (by kernel_rfl) ?_
  simp
  intro q hq
  have hqb : ¬ b = q := by rintro rfl; rw [hb] at hq; cases hq
  have hneed : ∀ τ, Store.sub (σ.upd q [nilS]) τ ∨ (∀ o : Int, ¬ o = q → Store.sub (fun x => if x = o then σ x else none) τ) → True := fun _ _ => trivial
  refine codeYK.rangeG follows (st := st42) (plans := pl42) (hi (σ.upd q [nilS])) (by simp) (by simp) (fun _ _ _ => rfl) (by kernel_rfl) (by kernel_rfl) (by kernel_rfl)
    (fun k τ _ => k ≤ l.length ∧ ((k = 0 ∧ τ = σ.upd q [nilS]) ∨ ∃ p cap : Nat, 0 < k ∧ ¬ p = q ∧ σ p = none ∧ k ≤ cap ∧ cap ≤ maxLen ∧ τ = (σ.upd p (strsA (l.take k) ++ tops (cap - k))).upd q [sliA p k cap])) (fun _ _ _ => False)
    _ ⟨by omega, .inl ⟨rfl, rfl⟩⟩ ?_ ?_ ?_ ?_ ?_
  · exact Store.sub_refl _
  · rintro k τ E hk ⟨h1, h2⟩
    have hs : Store.sub σ τ := by
      rcases h2 with ⟨rfl, rfl⟩ | ⟨p, cap, h0, hpq, hp, hc1, hc2, rfl⟩
      · exact Store.sub_upd hq (Store.sub_refl _)
      · exact Store.sub_upd hq (Store.sub_upd hp (Store.sub_refl _))
    exact ⟨sub_at hb hs, hV.more hs⟩
  · rintro k hk τ E ⟨h1, h2⟩
    have hk' : k < l.length := by simpa using hk
    obtain ⟨c, hc⟩ : ∃ c, l[k] = c := ⟨_, rfl⟩
    have ht : l.take (k + 1) = l.take k ++ [c] := by rw [List.take_succ_eq_append_getElem hk', hc]
    have hx : l.getD k [] = c := by simp [List.getD_eq_getElem?_getD, hk', hc]
    rw [hx]
    rcases h2 with ⟨rfl, rfl⟩ | ⟨p, cap, h0, hpq, hp, hc1, hc2, rfl⟩
    · simp [strV]
      intro p cap hpn hc1 hc2
      have hpq : ¬ p = q := by intro e; simp [e] at hpn
      have hp0 : σ p = none := by simpa [hpq] using hpn
      have hqp : ¬ q = p := fun e => hpq e.symm
      have e1 : l.take 1 = [c] := by simpa using ht
      simp [hqp]
      refine ⟨(σ.upd p (strsA (l.take 1) ++ tops (cap - 1))).upd q [sliA p 1 cap], ?_, by omega, p, hpq, hp0, cap, hc1, hc2, rfl⟩
      rw [e1]
      intro x
      right
      simp only [Store.upd, Store.delO]
      split <;> rfl
    · have hln : (strsA (l.take k) ++ tops (cap - k)).length = cap := by simp [tops]; omega
      have htk : (strsA (l.take k) ++ tops (cap - k)).take k = strsA (l.take k) := by
        rw [List.take_append_of_le_length (by simp; omega), List.take_of_length_le (by simp; omega)]
      have hc3 : cap ≤ 9223372036854775807 := hc2
      simp [strV, hpq, hln, htk, hc1, hc3]
      refine ⟨by omega, by omega, fun p2 cap2 hp2 hc4 hc5 => ?_⟩
      have hqp2 : ¬ q = p2 := by
        rintro rfl
        rcases hp2 with e | e
        · exact hpq e
        · simp at e
      have hp2q : ¬ p2 = q := fun e => hqp2 e.symm
      have hp20 : σ p2 = none := by
        rcases hp2 with rfl | e
        · exact hp
        · simp only [hp2q, if_false] at e
          by_cases e2 : p2 = p
          · simp [e2] at e
          · simpa [e2] using e
      have hqp : ¬ q = p := fun e => hpq e.symm
      simp [hqp2, hqp]
      refine ⟨(σ.upd p2 (strsA (l.take (k + 1)) ++ tops (cap2 - (k + 1)))).upd q [sliA p2 (k + 1) cap2], ?_, by omega, p2, hp2q, hp20, cap2, hc4, hc5, rfl⟩
      rw [ht, strsA_append]
      intro x
      simp only [Store.upd, Store.del]
      by_cases h1 : x = q
      · right; simp [h1]
      · by_cases h2 : x = p2
        · right; simp [h1, h2]; rfl
        · by_cases h3 : x = p
          · left; subst h3; simp [h1, h2, hp]
          · right; simp [h1, h2, h3]
  · rintro τ E σ' hs ⟨h2, h3⟩
    rcases h3 with ⟨hk0, rfl⟩ | ⟨p, cap, h0, hpq, hp, hc1, hc2, rfl⟩
    · have e2 : σ' q = some [nilS] := sub_at (by simp) hs
      have hnl : l = [] := by simpa using hk0
      simp [e2]
      exact ⟨_, AV.le_refl _, σ, Store.sub_trans (sub_upd_self _ _ _ hq) hs, .inl ⟨hnl, rfl, rfl⟩⟩
    · have e2 : σ' q = some [sliA p l.length cap] := sub_at (by simp) hs
      simp [e2]
      refine ⟨_, AV.le_refl _, σ.upd p (strsA l ++ tops (cap - l.length)), Store.sub_trans ?_ hs, .inr ⟨p, cap, hp, hc1, hc2, rfl, rfl⟩⟩
      rw [List.take_length]
      exact sub_upd_self _ _ _ (by rw [upd_nat, if_neg (fun e => hpq e.symm)]; exact hq)
  · rintro c τ E σ' hs h
    exact h.elim
set_option maxRecDepth 8000 in
theorem coll_calls (b : Nat) (V : AV) (l : List (List UInt8)) (hl : l.length ≤ 1000000) (σ : Store) (hb : σ b = some [V]) (hV : NV σ V l) :
    ACalls Try.prog 32 [.func (.func 34) [] [ptrA b]] σ (RowR σ l) := by
  have has := appseq_calls b V l hl σ hb hV
  refine ACalls.of_awp follows (st := st32) (plans := pl32) (n := 5) Try.func32 rfl (by kernel_rfl) (by kernel_rfl) (by kernel_rfl) ?_
  simp
  refine callK.of has ?_
  rintro v σ' (⟨hn, rfl, rfl⟩ | ⟨p, cap, h1, h2, h3, rfl, rfl⟩)
  · simp
    exact ⟨_, AV.le_refl _, _, Store.sub_refl _, .inl ⟨hn, rfl, rfl⟩⟩
  · simp
    exact ⟨_, AV.le_refl _, _, Store.sub_refl _, .inr ⟨p, cap, h1, h2, h3, rfl, rfl⟩⟩
theorem strsA_cells {l : List (List UInt8)} : ∀ v ∈ strsA l, v.cells.length = 1 := fun v hv => by
  obtain ⟨c, _, rfl⟩ := List.mem_map.1 hv; rfl
theorem upd_del {σ : Store} {p : Nat} (h : σ p = none) (x : List AV) : (σ.upd p x).del p = σ := del_upd_new h
/-- A row that was made is a list from now on. -/
theorem RowR.shift {P : Program} {f : FuncId} {args : List AV} {σ : Store} {l : List (List UInt8)} (h : ACalls P f args σ fun v σ' => (l = [] ∧ v = .list true 1 [] ∧ σ' = σ) ∨ RowR σ l v σ') : ACalls P f args σ fun v σ' => v = .list true 1 (strsA l) ∧ σ' = σ := by
  refine h.shift ?_
  rintro v σ' (⟨rfl, rfl, rfl⟩ | ⟨rfl, rfl, rfl⟩ | ⟨p, cap, h1, h2, h3, rfl, rfl⟩)
  · exact .inl ⟨_, _, AV.le_refl _, Store.sub_refl _, rfl, rfl⟩
  · exact .inl ⟨.list true 1 [], _, AV.le_nil _ _, Store.sub_refl _, rfl, rfl⟩
  · refine .inr ⟨p, cap, 1, strsA l, tops (cap - l.length), by simp, by rw [flat_strs]; simp, ?_, h3, by simpa using h2, strsA_cells, _, AV.le_refl _, rfl, upd_del h1 _⟩
    rw [flat_strs]; simp [tops]; omega
set_option maxRecDepth 8000 in
theorem sorted_calls (b : Nat) (V : AV) (l : List (List UInt8)) (hl : l.length ≤ 1000000) (σ : Store) (hb : σ b = some [V]) (hV : NV σ V l) :
    ACalls Try.prog 22 [.func (.func 34) [] [ptrA b]] σ fun v σ' => v = .list true 1 (strsA (sortL l)) ∧ σ' = σ := by
  have hco := coll_calls b V l hl σ hb hV
  refine RowR.shift ?_
  refine ACalls.of_awp follows (st := st22) (plans := pl22) (n := 9) Try.func22 rfl (by kernel_rfl) (by kernel_rfl) (by kernel_rfl) ?_
  simp
  refine callK.of hco ?_
  rintro v σ' (⟨rfl, rfl, rfl⟩ | ⟨p, cap, h1, h2, h3, rfl, rfl⟩)
  · simp
    refine callK.of (sort_none' true _) ?_
    rintro v σ2 ⟨rfl, rfl⟩
    simp
    exact ⟨_, AV.le_refl _, _, Store.sub_refl _, .inl ⟨by simp [sortL], rfl, rfl⟩⟩
  · have hs := sort_calls l hl p cap (tops (cap - l.length)) (σ.upd p (strsA l ++ tops (cap - l.length))) (by simp)
    simp
    refine callK.of hs ?_
    rintro v σ' ⟨rfl, rfl⟩
    have hln : (sortL l).length = l.length := by simp [sortL]
    simp
    exact ⟨_, AV.le_refl _, _, Store.sub_refl _, .inr (.inr ⟨p, cap, h1, by omega, h3, by rw [hln], by rw [hln]⟩)⟩
theorem strsA_drop1 (l : List (List UInt8)) : (strsA l).map AV.drop1 = strsA l := by simp [strsA, strV, AV.drop1]
set_option maxRecDepth 8000 in
theorem clone_calls (o : Bool) (l : List (List UInt8)) (hl : l.length ≤ 1000000) (σ : Store) :
    ACalls Try.prog 25 [.list o 1 (strsA l)] σ fun v σ' => (l = [] ∧ v = nilS ∧ σ' = σ) ∨ ∃ p cap : Nat, σ p = none ∧ l.length ≤ cap ∧ cap ≤ maxLen ∧ v = sliA p l.length cap ∧ Store.sub (σ.upd p (strsA l ++ tops (cap - l.length))) σ' := by
  refine ACalls.of_awp follows (st := st25) (plans := pl25) (n := 8) Try.func25 rfl (by kernel_rfl) (by kernel_rfl) (by kernel_rfl) ?_
  simp
  refine ⟨fun p hp => ⟨by omega, by omega, fun hn => ?_, fun h0 p1 cap h1 h2 h3 => ?_⟩, fun hn => ?_⟩
  · subst hn
    exact ⟨_, AV.le_refl _, _, Store.sub_refl _, .inr ⟨p, hp, 0, by simp, by decide, rfl, Store.sub_refl _⟩⟩
  · have hp1 : σ p1 = none := by
      rcases h1 with rfl | h1
      · exact hp
      · by_cases e : p1 = p
        · simp [e] at h1
        · simpa [e] using h1
    refine ⟨_, AV.le_refl _, _, Store.sub_refl _, .inr ⟨p1, hp1, cap, h2, h3, rfl, ?_⟩⟩
    intro x
    simp only [Store.upd, Store.del, Store.delO]
    by_cases e1 : x = p1
    · right; rw [if_pos e1, if_pos e1, flat_strs, strsA_drop1]; rfl
    · by_cases e2 : x = p
      · left; subst e2; simp [e1, hp]
      · right; simp [e1, e2]
  · have : l = [] := by cases l with
      | nil => rfl
      | cons => simp [strsA] at hn
    exact ⟨_, AV.le_refl _, _, Store.sub_refl _, .inl ⟨this, rfl, rfl⟩⟩
end Go.Proofs.Ytgelodhkbpmlfaa
