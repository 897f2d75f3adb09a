/-
  TapeTexts: few steps, apart.
-/
import Derived.Test.YtheldoijfnigoaaDoorTPart12
import Derived.Lib.Builder
import Derived.Lib.AppendStr
import Derived.Lib.UnsafeStr
import Derived.Lib.Walk
import Derived.Laws.Externs
import Derived.OwnWalk
import Derived.Laws.AppendOwn
set_option linter.unusedSimpArgs false
set_option linter.unusedVariables false
namespace Go.Proofs.YtheldoijfnigoaaDoor
open Go Go.AL

def fewS (x : Stp) : Stp := { x with bytes := x.bytes.take 400 }
def fewL (l : List Stp) : List Stp := (l.take 15).map fewS
variable [Errs]
set_option linter.unusedSectionVars false
set_option maxRecDepth 8000 in
theorem copy_calls (l : List UInt8) (hl : l.length ≤ 1000000) (o : Bool) (σ : Store) : ACalls Tryd.prog 31 [.list o 1 (bytesA l)] σ fun v σ' => v = .list true 1 (bytesA l) ∧ σ' = σ := by
  refine ACalls.of_awp follows (st := st31) (plans := pl31) (n := 6) Tryd.func31 rfl (by kernel_rfl) (by kernel_rfl) (by kernel_rfl) ?_
  simp
  exact ⟨by omega, by omega⟩
set_option maxRecDepth 8000 in
theorem cutb_calls (l : List UInt8) (m : Nat) (hm : m ≤ 1000000) (o : Bool) (σ : Store) : ACalls Tryd.prog 28 [.list o 1 (bytesA l), .lit (.int .i64 m)] σ fun v σ' => v = .list true 1 (bytesA (l.take m)) ∧ σ' = σ := by
  refine ACalls.of_awp follows (st := st28) (plans := pl28) (n := 14) Tryd.func28 rfl (by kernel_rfl) (by kernel_rfl) (by kernel_rfl) ?_
  by_cases h : m < l.length
  · have h' : (m : Int) < l.length := by omega
    have hc := fun o τ => copy_calls (l.take m) (by rw [List.length_take]; omega) o τ
    have hle : m ≤ l.length := by omega
    simp [h, h', hle, bytesA_take]
    refine callK.of (hc _ _) ?_
    rintro v σ1 ⟨rfl, rfl⟩
    simp
  · have h' : ¬ (m : Int) < l.length := by omega
    rw [List.take_of_length_le (by omega)]
    simp [h, h']
    refine callK.of (copy_calls l (by omega) _ _) ?_
    rintro v σ1 ⟨rfl, rfl⟩
    simp
set_option maxRecDepth 8000 in
set_option maxHeartbeats 1000000 in
theorem few_calls (l : List Stp) (hl : l.length ≤ 9223372036854775807) (o : Bool) (σ : Store) :
    ACalls Tryd.prog 13 [.list o 5 (stpsA l)] σ fun v σ' => v = .list true 5 (stpsA (fewL l)) ∧ σ' = σ := by
  refine ACalls.of_awp follows (st := st13) (plans := pl13) (n := 25) Tryd.func13 rfl (by kernel_rfl) (by kernel_rfl) (by kernel_rfl) ?_
  simp
  refine codeK.loop follows (st := st13) (plans := pl13) (X := Nat) (fun k => k ≤ l.length)
    (fun k => [(3, .list true 5 (stpsA (fewL (l.take k)))), (6, .list false 5 (stpsA l)), (7, .lit (.int .i64 l.length)), (8, .lit (.int .i64 k))]) (fun _ => σ) (fun k => l.length - k) 0 (by kernel_rfl)
    (by simp) (by simp [stpsA, fewL]) (Store.sub_refl _) fun k hk => ?_
  by_cases hlt : k < l.length
  · obtain ⟨x, hx⟩ : ∃ x, l[k]'hlt = x := ⟨_, rfl⟩
    have htk : l.take (k + 1) = l.take k ++ [x] := by rw [List.take_succ_eq_append_getElem hlt, hx]
    have hg : (stpsA l)[k]? = some (stpA x) := by simp [stpsA, hlt, hx]
    have hg2 : ∀ h, (stpsA l)[k]'h = stpA x := fun h => by simp [stpsA, hx]
    have hlw : IntKind.i64.wrap ((k : Int) + 1) = (k : Int) + 1 := wrap_i64 (by omega) (by omega)
    have hlk : (l.take k).length = k := by rw [List.length_take]; omega
    obtain ⟨kx, bx, ⟨ax, sx, nx⟩⟩ := x
    simp only [stpA, byteA] at hg hg2
    by_cases h15 : k < 15
    · have h15' : (k : Int) < 15 := by omega
      have hfw : fewL (l.take (k + 1)) = fewL (l.take k) ++ [fewS ⟨kx, bx, ⟨ax, sx, nx⟩⟩] := by
        unfold fewL
        rw [List.take_of_length_le (l := l.take (k + 1)) (by rw [List.length_take]; omega), List.take_of_length_le (l := l.take k) (by rw [List.length_take]; omega), htk]
        simp
      have hfl : (fewL (l.take k)).length ≤ 15 := by unfold fewL; simp; omega
      simp [hlt, hg, hg2, h15, h15']
      intro p hp
      refine callK.of (cutb_calls bx 400 (by omega) false _) ?_
      rintro v σ1 ⟨rfl, rfl⟩
      simp
      refine ⟨by omega, by omega, k + 1, by omega, by omega, ⟨?_, by rw [hlw]; exact AV.le_refl _⟩, ?_⟩
      · rw [hfw, stpsA_append]
        exact AV.le_refl _
      · (intro q; simp only [Store.upd, Store.del]; (repeat' split) <;> first | exact Or.inr rfl | exact Or.inl rfl | (exfalso; omega) | (left; subst_vars; assumption) | simp_all)
    · have h15' : ¬ (k : Int) < 15 := by omega
      have hfw : fewL (l.take (k + 1)) = fewL (l.take k) := by
        unfold fewL
        rw [List.take_take, List.take_take, Nat.min_eq_left (by omega), Nat.min_eq_left (by omega)]
      simp [hlt, hg, hg2, h15, h15']
      intro p hp
      exact ⟨k + 1, by omega, by omega, ⟨by rw [hfw]; exact AV.le_refl _, by rw [hlw]; exact AV.le_refl _⟩, sub_upd_self _ _ _ hp⟩
  · have : k = l.length := by omega
    subst this
    simp
@[simp] def st15x : List Nat := [12, 24, 5000005, 4000014, 4000016, 4000019]
@[simp] def pl15x : List (Nat × Plan) := [(5, Plan.seq [1, 2, 3, 4, 6, 7] (.alt (Plan.seq [0, 5, 8, 9, 10, 11] (.done)) (Plan.seq [5, 8] (.alt (Plan.seq [0, 9, 10, 11] (.done)) (Plan.seq [9, 0, 10, 11] (.done))))))]
set_option maxRecDepth 8000 in
set_option maxHeartbeats 1000000 in
theorem own_calls (l : List Stp) (hl : l.length ≤ 1000000) (hb : ∀ x ∈ l, x.bytes.length ≤ 1000000) (o : Bool) (σ : Store) :
    ACalls Tryd.prog 15 [.list o 5 (stpsA l)] σ fun v σ' => v = .list true 5 (stpsA l) ∧ σ' = σ := by
  refine ACalls.of_awp follows (st := st15x) (plans := pl15x) (n := 25) Tryd.func15 rfl (by kernel_rfl) (by kernel_rfl) (by kernel_rfl) ?_
  simp
  refine codeK.loop follows (st := st15x) (plans := pl15x) (X := Nat) (fun k => k ≤ l.length)
    (fun k => [(3, .list true 5 (stpsA (l.take k))), (6, .list false 5 (stpsA l)), (7, .lit (.int .i64 l.length)), (8, .lit (.int .i64 k))]) (fun _ => σ) (fun k => l.length - k) 0 (by kernel_rfl)
    (by simp) (by simp [stpsA]) (Store.sub_refl _) fun k hk => ?_
  by_cases hlt : k < l.length
  · obtain ⟨x, hx⟩ : ∃ x, l[k]'hlt = x := ⟨_, rfl⟩
    have hxm := hb x (by rw [← hx]; exact List.getElem_mem _)
    have htk : l.take (k + 1) = l.take k ++ [x] := by rw [List.take_succ_eq_append_getElem hlt, hx]
    have hg : (stpsA l)[k]? = some (stpA x) := by simp [stpsA, hlt, hx]
    have hg2 : ∀ h, (stpsA l)[k]'h = stpA x := fun h => by simp [stpsA, hx]
    have hlw : IntKind.i64.wrap ((k : Int) + 1) = (k : Int) + 1 := wrap_i64 (by omega) (by omega)
    have hlk : (l.take k).length = k := by rw [List.length_take]; omega
    obtain ⟨kx, bx, ⟨ax, sx, nx⟩⟩ := x
    have hcp := fun τ => copy_calls bx hxm false τ
    simp only [stpA, byteA] at hg hg2
    simp [hlt, hg, hg2]
    intro p hp
    rw [del_upd_new hp]
    repeat' with_reducible apply And.intro
    all_goals
      refine callK.of (hcp _) ?_
      rintro v σ1 ⟨rfl, rfl⟩
      simp
      refine ⟨by omega, by omega, k + 1, by omega, by omega, ?_, by rw [hlw]; exact AV.le_refl _⟩
      rw [htk, stpsA_append]
      exact AV.le_refl _
  · have : k = l.length := by omega
    subst this
    simp
end Go.Proofs.YtheldoijfnigoaaDoor
/-
  strings.Builder, step by step (turned from the kit's worked proofs): copyCheck, WriteString, String.
-/
namespace Go.Proofs.YtheldoijfnigoaaDoor
open Go Go.AL Go.RowKit

theorem run_append_str {P : Program} (w : World) (t u ty e : TypeId) (i : TypeInfo) (ht : P.underlying t = some (.slice e)) (hu : P.underlying u = some .string) (hi : P.info? e = some i) (hz : i.zero = some (.int .u8 0))
    (hsize : i.size = 1) (hby : i.bytes = 1) (v : Value) (n : Nat) (xs : List Value) (hown : w.ownsRow 0 e 1 v n xs) (s : ByteArray) (hbytes : n + s.size ≤ 140737488355328) :
    ∃ v' w', (Builtin.append_ #[t, u] ty #[v, .string s]).run P w = .ok v' w' ∧ w'.ownsRow 0 e 1 v' (n + s.size) (xs ++ Lib.strCells s) ∧ w.grownBy w' v.ownBlock ∧
      (v'.ownBlock = v.ownBlock ∨ v'.ownBlock = some w.heap.size) := by
  obtain ⟨v', w', hr, h1, h2, h3⟩ := Lib.run_append_own_string (P := P) w 0 t u ty e i ht hu hi hz hsize hby v n xs hown s (by unfold maxLen; omega) hbytes (Nat.zero_le _)
  refine ⟨v', w', hr, h1, h2, ?_⟩
  rcases hown.2 with ⟨rfl, rfl⟩ | ⟨g, cap, cur, rfl, hbg, hg, hnc, hcm, hcs, htake⟩
  · by_cases hm : s.size = 0
    · have := h3.2 ⟨rfl, hm⟩
      subst this
      exact .inl rfl
    · have hr' := run_append_nil_string (P := P) w t u ty e i (.int .u8 0) ht hu hi hz s (by omega) (by omega) (by rw [hby]; omega)
      rw [hr] at hr'
      injection hr' with e1 e2
      subst e1
      exact .inr rfl
  · by_cases hroom : n + s.size ≤ cap
    · have hcs' : cur.size = cap := by simpa using hcs
      have hr' := Lib.run_append_room_string (P := P) w t u ty e i ht hu hi hsize g n cap cur hg s hroom (by omega)
      rw [hr] at hr'
      injection hr' with e1 e2
      subst e1
      exact .inl rfl
    · have hxl : xs.length = n := by simpa using hown.1
      have holds : ∀ j u, xs[j]? = some u → w.cell? ((⟨g, 0, none⟩ : Addr).add j) = some u := hown.cells (g := g) rfl
      have hr' := Lib.run_append_grow_string (P := P) w t u ty e i (.int .u8 0) ht hu hi hz ⟨g, 0, none⟩ n cap xs (by rw [hsize]; simpa using hxl) holds s (by omega) (by omega) (by rw [hby]; exact growslice_fits (by omega) (by omega))
      rw [hr] at hr'
      injection hr' with e1 e2
      subst e1
      exact .inr rfl
theorem wpList_append_str {P : Program} (w : World) {ops : Array Oper} {rest : List Oper} {o : Oper} {a : Act} {Q : Exit → Act → World → Prop} (hgd : o.guard = none) (sl x : Operand) (t u : TypeId)
    (ho : o.op = .call { callee := .builtin .append, args := #[sl, x], argTypes := #[t, u] })
    (e : TypeId) (i : TypeInfo) (ht : P.underlying t = some (.slice e)) (hu : P.underlying u = some .string) (hi : P.info? e = some i) (hz : i.zero = some (.int .u8 0))
    (hsize : i.size = 1) (hby : i.bytes = 1)
    (v : Value) (n : Nat) (xs : List Value) (hs : a.eval sl = v) (hown : w.ownsRow 0 e 1 v n xs) (s : ByteArray) (hx : a.eval x = .string s)
    (hbytes : n + s.size ≤ 140737488355328)
    (h : ∀ v' w', w'.ownsRow 0 e 1 v' (n + s.size) (xs ++ Lib.strCells s) → w.grownBy w' v.ownBlock → (v'.ownBlock = v.ownBlock ∨ v'.ownBlock = some w.heap.size) → wpList P ops Q rest (a.put o.dst v') w') : wpList P ops Q (o :: rest) a w := by
  refine wpList_plain hgd fun K hK => ?_
  obtain ⟨v', w', hr, h2, h3, h4⟩ := run_append_str (P := P) w t u o.type e i ht hu hi hz hsize hby v n xs hown s hbytes
  unfold Oper.wp execOp
  simp only [ho, resolve, invoke, builtin, Sem.run_bind, Sem.run_pure, Result.andThen_ok, List.map_toArray, List.map_cons, List.map_nil, hs, hx, hr]
  exact hK _ _ (h v' w' h2 h3 h4)

theorem oInfoB : ∃ j, Tryd.prog.info? 74 = some j ∧ j.size = 2 := Option.map_eq_some_iff.1 (by kernel_rfl : (Tryd.prog.info? 74).map (·.size) = some 2)
theorem oInfo5 : ∃ j, Tryd.prog.info? 5 = some j ∧ j.zero = some (.int .u8 0) ∧ j.size = 1 ∧ j.bytes = 1 := by
  obtain ⟨j, h1, h2⟩ := Option.map_eq_some_iff.1 (by kernel_rfl : (Tryd.prog.info? 5).map (fun i => (i.zero, i.size, i.bytes)) = some (some (.int .u8 0), 1, 1))
  simp only [Prod.mk.injEq] at h2
  exact ⟨j, h1, h2.1, h2.2.1, h2.2.2⟩
set_option maxHeartbeats 1000000 in
set_option maxRecDepth 100000 in
theorem oCopyUsed (b : Nat) (w : World) (h0 : w.cell? ⟨b, 0, none⟩ = some (.pointer (some ⟨b, 0, none⟩))) :
    Calls Tryd.prog 47 #[.pointer (some ⟨b, 0, none⟩)] w fun e w' => e = .returned (.tuple #[]) ∧ w' = w := by
  obtain ⟨j, hj, _⟩ := oInfoB
  go_enter Tryd.func47, Tryd.ntmps47
  go_wp2
  rw [Lib.run_neq_ptr_same w _ Tryd.underlying72 hj]
  go_wp2
  go_end0
  exact ⟨rfl, rfl⟩
set_option maxHeartbeats 1000000 in
set_option maxRecDepth 100000 in
theorem oCopyFresh (b : Nat) (w : World) (h0 : w.cell? ⟨b, 0, none⟩ = some (.pointer none)) (hsh : w.shape? b = some (74, 2)) (hfz : w.frozen? ⟨b, 0, none⟩ = false) :
    Calls Tryd.prog 47 #[.pointer (some ⟨b, 0, none⟩)] w fun e w' => e = .returned (.tuple #[]) ∧ w' = w.setCell ⟨b, 0, none⟩ (.pointer (some ⟨b, 0, none⟩)) := by
  obtain ⟨j, hj, hjs⟩ := oInfoB
  go_enter Tryd.func47, Tryd.ntmps47
  go_wp2
  rw [Lib.run_to_unsafe w ⟨b, 0, none⟩ Tryd.underlying72 Tryd.underlying105 hj (by rw [hjs]; decide) hsh (Nat.zero_lt_succ 1)]
  simp only [Result.andThen]
  rw [Oper.upon_value]
  go_wp2
  rw [run_callFunc_extern Tryd.func64 (by kernel_rfl) (by kernel_rfl) (by kernel_rfl) (e := Extern.AbiNoEscape.same) (by kernel_rfl)]
  rw [Lib.run_noEscape]
  simp only [Result.andThen]
  rw [Oper.upon_value]
  go_wp2
  rw [Lib.run_from_unsafe w ⟨b, 0, none⟩ Tryd.underlying105 Tryd.underlying72 hj hsh (by kernel_rfl)]
  simp only [Result.andThen]
  rw [Oper.upon_value]
  go_wp2
  go_end0
  exact ⟨rfl, rfl⟩
/-- A builder in a block of its own, with its bytes' row. -/
structure BldW (w : World) (b : Nat) (p v : Value) (bs : List Value) : Prop where
  blk : w.heap[b]? = some (.cells #[p, v] 74 (0, 0))
  own : w.ownsRow 0 5 1 v bs.length bs
  ne : v.ownBlock ≠ some b
theorem BldW.cell0 {w : World} {b : Nat} {p v : Value} {bs : List Value} (h : BldW w b p v bs) : w.cell? ⟨b, 0, none⟩ = some p := by rw [Lib.cell_of_heap h.blk]; rfl
theorem BldW.cell1 {w : World} {b : Nat} {p v : Value} {bs : List Value} (h : BldW w b p v bs) : w.cell? ⟨b, 1, none⟩ = some v := by rw [Lib.cell_of_heap h.blk]; rfl
theorem BldW.lt {w : World} {b : Nat} {p v : Value} {bs : List Value} (h : BldW w b p v bs) : b < w.heap.size := (Array.getElem?_eq_some_iff.1 h.blk).1
theorem BldW.used {w : World} {b : Nat} {p v : Value} {bs : List Value} (h : BldW w b p v bs) (q : Value) : BldW (w.setCell ⟨b, 0, none⟩ q) b q v bs := by
  refine ⟨?_, ?_, h.ne⟩
  · simp [World.setCell, Array.getElem?_modify, h.blk]
  · exact h.own.kept (row := some b) ⟨rfl, rfl, rfl, by simp [World.setCell], fun k _ hk => Below.heap_setCell _ _ _ _ (fun e => hk (by simp [e]))⟩ (.inr h.ne)
/-- Only the builder's own two blocks turn, and new ones. -/
structure OnlyW (b : Nat) (v : Value) (w w' : World) : Prop where
  os : w'.os = w.os
  tape : w'.tape = w.tape
  output : w'.output = w.output
  size : w.heap.size ≤ w'.heap.size
  block : ∀ k, k < w.heap.size → k ≠ b → some k ≠ v.ownBlock → w'.heap[k]? = w.heap[k]?
set_option maxHeartbeats 2000000 in
set_option maxRecDepth 100000 in
theorem oWriteUsed (b : Nat) (v : Value) (bs : List Value) (s : ByteArray) (w : World) (h : BldW w b (.pointer (some ⟨b, 0, none⟩)) v bs) (hlen : bs.length + s.size ≤ 140737488355328)
    (w0 : World) (p : Value) (hcc : Calls Tryd.prog 47 #[.pointer (some ⟨b, 0, none⟩)] w0 fun e w' => e = .returned (.tuple #[]) ∧ w' = w) (h0 : OnlyW b v w0 w) (hsz : w0.heap.size = w.heap.size) :
    Calls Tryd.prog 29 #[.pointer (some ⟨b, 0, none⟩), .string s] w0 fun e w' => e = .returned (.tuple #[.int .i64 s.size, .nilIface]) ∧ ∃ v', BldW w' b (.pointer (some ⟨b, 0, none⟩)) v' (bs ++ Lib.strCells s) ∧
      OnlyW b v w0 w' ∧ (v'.ownBlock = v.ownBlock ∨ v'.ownBlock = some w0.heap.size) := by
  obtain ⟨i0, hi, hz0, hz1, hz2⟩ := oInfo5
  go_enter Tryd.func29, Tryd.ntmps29
  go_wp2_with (go_at_call 47; refine hcc.mono ?_)
  rintro e w1 ⟨rfl, rfl⟩
  have c0 := h.cell0
  have c1 := h.cell1
  go_wp2_with (at_builtin; refine wpList_append_str _ rfl _ _ 33 9 rfl 5 i0 Tryd.underlying33 Tryd.underlying9 hi hz0 hz1 hz2 _ _ _ rfl h.own s rfl hlen ?_)
  intro v' w2 hown' hgrow hblk
  have hb2 : w2.heap[b]? = some (.cells #[.pointer (some ⟨b, 0, none⟩), v] 74 (0, 0)) := by
    rw [hgrow.block b h.lt (fun e => h.ne e.symm)]
    exact h.blk
  have d0 : w2.cell? ⟨b, 0, none⟩ = some (.pointer (some ⟨b, 0, none⟩)) := by rw [Lib.cell_of_heap hb2]; rfl
  have d1 : w2.cell? ⟨b, 1, none⟩ = some v := by rw [Lib.cell_of_heap hb2]; rfl
  have f1 : w2.frozen? ⟨b, 1, none⟩ = false := Lib.frozen_of_heap hb2 1
  obtain ⟨ao, n', cap, rfl⟩ : ∃ ao n' cap, v' = .slice ao n' cap := by
    rcases hown'.2 with ⟨hv, _⟩ | ⟨g, cap, cur, hv, _⟩
    · exact ⟨_, _, _, hv⟩
    · exact ⟨_, _, _, hv⟩
  go_wp2
  go_ret2
  have hne' : (Value.slice ao n' cap).ownBlock ≠ some b := by
    rcases hblk with e | e
    · rw [e]; exact h.ne
    · rw [e]; have := h.lt; simp; omega
  refine ⟨rfl, _, ⟨?_, ?_, hne'⟩, ⟨hgrow.os.trans h0.os, hgrow.tape.trans h0.tape, hgrow.output.trans h0.output, by have := hgrow.size; simp [World.setCell]; omega, fun k hk hkb hkv => ?_⟩, by rw [hsz]; exact hblk⟩
  · simp [World.setCell, Array.getElem?_modify, hb2]
  · rw [List.length_append, Lib.strCells_length]
    exact hown'.kept (row := some b) ⟨rfl, rfl, rfl, by simp [World.setCell], fun k _ hk => Below.heap_setCell _ _ _ _ (fun e => hk (by simp [e]))⟩ (.inr hne')
  · rw [Below.heap_setCell _ _ _ _ hkb, hgrow.block k (by omega) hkv]
    exact h0.block k hk hkb hkv
end Go.Proofs.YtheldoijfnigoaaDoor
/-
  strings.Builder as abstract states: its two blocks known just so.
-/
namespace Go.Proofs.YtheldoijfnigoaaDoor
open Go Go.AL Go.RowKit

theorem freeze_only (b : Nat) (p : Value) {g : Nat} (n cap : Nat) (w : World) : OnlyW b (.slice (some ⟨g, 0, none⟩) n cap) w (w.drew.freeze ⟨g, 0, none⟩ n) := by
  unfold World.freeze
  split
  · exact ⟨rfl, rfl, rfl, Nat.le_refl _, fun _ _ _ _ => rfl⟩
  · refine ⟨rfl, rfl, rfl, by simp, fun k hk hkb hkv => ?_⟩
    have hkg : ¬ g = k := fun e => hkv (by simp [Value.ownBlock, e])
    simp [Array.getElem?_modify, hkg]
    rfl
set_option maxHeartbeats 2000000 in
set_option maxRecDepth 100000 in
theorem oString (b : Nat) (p v : Value) (l : List UInt8) (w : World) (h : BldW w b p v (Lib.byteCells l)) (h0 : l ≠ []) :
    Calls Tryd.prog 30 #[.pointer (some ⟨b, 0, none⟩)] w fun e w' => e = .returned (.string ⟨l.toArray⟩) ∧ OnlyW b v w w' := by
  have hl0 : l.length ≠ 0 := by simpa using h0
  have hbk := h.blk
  have hown := h.own
  rw [Lib.byteCells_length] at hown
  obtain ⟨g, cap, cur, rfl, hbg, hg, hnc, hcm, hcs, htake⟩ : ∃ g cap cur, v = .slice (some ⟨g, 0, none⟩) l.length cap ∧ 0 ≤ g ∧ w.heap[g]? = some (.cells cur 5 (0, 0)) ∧ l.length ≤ cap ∧ cap ≤ maxLen ∧ cur.size = cap * 1 ∧ cur.toList.take (l.length * 1) = Lib.byteCells l := by
    rcases hown.2 with ⟨_, hz⟩ | ⟨g, cap, cur, hv, r⟩
    · exact absurd hz hl0
    · exact ⟨g, cap, cur, hv, r⟩
  have c1 : w.drew.cell? ⟨b, 1, none⟩ = some (.slice (some ⟨g, 0, none⟩) l.length cap) := by
    have : w.drew.heap[b]? = some (.cells #[p, .slice (some ⟨g, 0, none⟩) l.length cap] 74 (0, 0)) := hbk
    rw [Lib.cell_of_heap this]; rfl
  have hSD : (Builtin.unsafeSliceData_ #[33] 95 #[.slice (some ⟨g, 0, none⟩) l.length cap]).run Tryd.prog w.drew = .ok (.pointer (some ⟨g, 0, none⟩)) w.drew :=
    Lib.run_unsafeSliceData_row _ _ _ _ _ _ (by omega)
  have hUS : (Builtin.unsafeString_ #[95, 3] 9 #[.pointer (some ⟨g, 0, none⟩), .int .i64 l.length]).run Tryd.prog w.drew = .ok (.string ⟨l.toArray⟩) (w.drew.freeze ⟨g, 0, none⟩ l.length) := by
    refine Lib.run_unsafeString_row w.drew 95 3 9 5 Tryd.underlying95 (by kernel_rfl) g cur.size (by have hg' : w.drew.heap[g]? = some (.cells cur 5 (0, 0)) := hg; simp [World.shape?, hg']) l h0 (by omega) (by unfold maxLen at hcm; omega) ?_
    intro j x hx
    have := hown.cells (g := g) rfl j (.int .u8 x.toNat) (by simp [Lib.byteCells, hx])
    exact this
  go_enter Tryd.func30, Tryd.ntmps30
  go_wp2
  go_region
  all_goals
    go_wp2
    go_ret
    exact ⟨rfl, freeze_only b p l.length cap w⟩
end Go.Proofs.YtheldoijfnigoaaDoor
/-
  strings.Builder as abstract states: contracts.
-/
namespace Go.Proofs.YtheldoijfnigoaaDoor
open Go Go.AL Go.RowKit
variable [Errs]
set_option linter.unusedSectionVars false

abbrev ptrA (b : Nat) : AV := .lit (.pointer (some ⟨b, 0, none⟩))
/-- A builder's state: without a row (what lies in its first cell), or with one. -/
inductive Bst where
  | nil (p : Value)
  | row (g n cap : Nat) (cur : Array Value)
def Bst.v : Bst → Value
  | .nil _ => .slice none 0 0
  | .row g n cap _ => .slice (some ⟨g, 0, none⟩) n cap
def Bst.p (z : Nat) : Bst → Value
  | .nil p => p
  | .row .. => .pointer (some ⟨z, 0, none⟩)
def bldS (z : Nat) : Bst → Store → Store
  | .nil p, σ => σ.put z (rawA 74 #[p, .slice none 0 0])
  | .row g n cap cur, σ => (σ.put g (rawA 5 cur)).put z (rawA 74 #[.pointer (some ⟨z, 0, none⟩), .slice (some ⟨g, 0, none⟩) n cap])
def BldOk (z : Nat) (l : List UInt8) (σ : Store) : Bst → Prop
  | .nil p => l = [] ∧ (p = .pointer none ∨ p = .pointer (some ⟨z, 0, none⟩)) ∧ σ (mkey z) = none
  | .row g n cap cur => l ≠ [] ∧ n = l.length ∧ n ≤ cap ∧ cap ≤ maxLen ∧ cur.size = cap ∧ cur.toList.take n = Lib.byteCells l ∧ σ (mkey z) = none ∧ σ (mkey g) = none ∧ ¬ g = z
theorem BldOk.key {z : Nat} {l : List UInt8} {σ : Store} {x : Bst} (h : BldOk z l σ x) : σ (mkey z) = none := by
  cases x with
  | nil p => exact h.2.2
  | row g n cap cur => exact h.2.2.2.2.2.2.1
theorem bldS_sub {z : Nat} {l : List UInt8} {σ : Store} {x : Bst} (h : BldOk z l σ x) : Store.sub σ (bldS z x σ) := by
  cases x with
  | nil p => exact sub_put_self _ _ _ h.2.2
  | row g n cap cur =>
    obtain ⟨_, _, _, _, _, _, h2, h4, h5⟩ := h
    exact Store.sub_trans (sub_put_self _ _ _ h4) (sub_put_self _ _ _ (by rw [put_mkey, if_neg (fun e => h5 e.symm)]; exact h2))
theorem bldW_get {D : Nat → Prop} {G : Ghost} {w : World} {z : Nat} {l : List UInt8} {σ : Store} {x : Bst} (hO : BldOk z l σ x) (hW : WR D G (bldS z x σ) w) :
    BldW w z (x.p z) x.v (Lib.byteCells l) ∧ (x.p z = .pointer none ∨ x.p z = .pointer (some ⟨z, 0, none⟩)) ∧ WR D G σ w ∧ ∀ k, (k = z ∨ some k = x.v.ownBlock) → D k ∧ Idle G σ k ∧ σ (mkey k) = none ∧ GL.vars k = none := by
  have hW0 := hW.forget (bldS_sub hO)
  cases x with
  | nil p =>
    obtain ⟨rfl, hp, h2⟩ := hO
    obtain ⟨d, i, hh⟩ := hW.raw (k := z) (T := 74) (cur := #[p, .slice none 0 0]) (by simp [bldS])
    refine ⟨⟨hh, World.ownsRow_nil _ _ _ _, by simp [Bst.v, Value.ownBlock]⟩, hp, hW0, ?_⟩
    rintro k (rfl | hk)
    · exact ⟨d, i.put, h2, hW.vars_key (k := k) (cs := rawA 74 #[p, .slice none 0 0]) (by simp [bldS])⟩
    · simp [Bst.v, Value.ownBlock] at hk
  | row g n cap cur =>
    obtain ⟨h0, rfl, hn, hc, hs, ht, h2, h4, h5⟩ := hO
    obtain ⟨d, i, hh⟩ := hW.raw (k := z) (T := 74) (cur := #[.pointer (some ⟨z, 0, none⟩), .slice (some ⟨g, 0, none⟩) l.length cap]) (by simp [bldS])
    obtain ⟨d', i', hh'⟩ := hW.raw (k := g) (T := 5) (cur := cur) (by simp [bldS, h5])
    refine ⟨⟨hh, ?_, ?_⟩, .inr rfl, hW0, ?_⟩
    · rw [Lib.byteCells_length]
      exact ⟨by rw [Lib.byteCells_length, Nat.mul_one], .inr ⟨g, cap, cur, rfl, Nat.zero_le _, hh', hn, hc, by omega, by rw [Nat.mul_one]; exact ht⟩⟩
    · simp [Bst.v, Value.ownBlock, h5]
    · rintro k (rfl | hk)
      · exact ⟨d, i.put.put, h2, hW.vars_key (k := k) (cs := rawA 74 #[.pointer (some ⟨k, 0, none⟩), .slice (some ⟨g, 0, none⟩) l.length cap]) (by simp [bldS])⟩
      · simp [Bst.v, Value.ownBlock] at hk
        subst hk
        exact ⟨d', i'.put.put, h4, hW.vars_key (k := k) (cs := rawA 5 cur) (by simp [bldS, h5])⟩
theorem only_WR {D : Nat → Prop} {G : Ghost} {w w' : World} {z : Nat} {v : Value} {σ : Store} (hW : WR D G σ w) (hB : ∀ k, (k = z ∨ some k = v.ownBlock) → D k ∧ Idle G σ k ∧ σ (mkey k) = none ∧ GL.vars k = none) (hD : ∀ k, w.heap.size ≤ k → D k) (h : OnlyW z v w w') : WR D G σ w' ∧ Ext D G w G w' := by
  refine ⟨hW.turn (fun k => k = z ∨ some k = v.ownBlock) (fun k hk => ⟨(hB k hk).2.1, (hB k hk).2.2.1⟩) (fun k hk => (hB k hk).2.2.2) fun k hk hn => h.block k hk (fun e => hn (.inl e)) (fun e => hn (.inr e)), ⟨h.os, h.tape, h.output, h.size, fun _ _ _ h => h, fun k hk => ⟨?_, rfl, rfl⟩⟩⟩
  rcases Nat.lt_or_ge k w.heap.size with hlt | hge
  · exact h.block k hlt (fun e => hk (hB k (.inl e)).1) (fun e => hk (hB k (.inr e)).1)
  · exact absurd (hD k hge) hk
theorem bldW_set {D : Nat → Prop} {G : Ghost} {w w' : World} {z : Nat} {v v' : Value} {l : List UInt8} {σ : Store} (hW : WR D G σ w) (hB : ∀ k, (k = z ∨ some k = v.ownBlock) → D k ∧ Idle G σ k ∧ σ (mkey k) = none ∧ GL.vars k = none) (hD : ∀ k, w.heap.size ≤ k → D k) (h : OnlyW z v w w')
    (hb : BldW w' z (.pointer (some ⟨z, 0, none⟩)) v' (Lib.byteCells l)) (hl : l ≠ []) (hv : v'.ownBlock = v.ownBlock ∨ v'.ownBlock = some w.heap.size) : ∃ x, BldOk z l σ x ∧ WR D G (bldS z x σ) w' ∧ Ext D G w G w' := by
  obtain ⟨hW', hx⟩ := only_WR hW hB hD h
  obtain ⟨dz, iz, kz, vz⟩ := hB z (.inl rfl)
  have hown := hb.own
  rw [Lib.byteCells_length] at hown
  rcases hown.2 with ⟨rfl, h0⟩ | ⟨g, cap, cur, rfl, _, hg, hn, hc, hs, ht⟩
  · exact absurd (List.eq_nil_of_length_eq_zero h0) hl
  · have hgz : ¬ g = z := fun e => hb.ne (by simp [Value.ownBlock, e])
    have hgB : D g ∧ Idle G σ g ∧ σ (mkey g) = none ∧ GL.vars g = none := by
      rcases hv with e | e
      · exact hB g (.inr (by rw [← e]; simp [Value.ownBlock]))
      · have : g = w.heap.size := by simpa [Value.ownBlock] using e
        subst this
        exact ⟨hD _ (Nat.le_refl _), hW.fresh_idle, hW.fresh_key, hW.vars_fresh⟩
    obtain ⟨dg, ig, kg, vg⟩ := hgB
    refine ⟨.row g l.length cap cur, ⟨hl, rfl, hn, hc, by omega, by rw [Nat.mul_one] at ht; exact ht, kz, kg, hgz⟩, ?_, hx⟩
    exact (hW'.putRaw hg dg ig vg).putRaw hb.blk dz iz.to_put vz
theorem OnlyW.refl (b : Nat) (v : Value) (w : World) : OnlyW b v w w := ⟨rfl, rfl, rfl, Nat.le_refl _, fun _ _ _ _ => rfl⟩
theorem bargs2 {cargs : Array Value} (h : 2 = cargs.size) : ∃ c0 c1, cargs = #[c0, c1] := ⟨cargs[0], cargs[1], by
  apply Array.ext
  · simp [← h]
  · intro i h1 h2
    match i with
    | 0 => rfl
    | 1 => rfl
    | _ + 2 => simp at h2; omega⟩
theorem bargs1 {cargs : Array Value} (h : 1 = cargs.size) : ∃ c0, cargs = #[c0] := ⟨cargs[0], by
  apply Array.ext
  · simp [← h]
  · intro i h1 h2
    match i with
    | 0 => rfl
    | _ + 1 => simp at h2⟩
theorem strCells_data (s : ByteArray) (l : List UInt8) : Lib.byteCells l ++ Lib.strCells s = Lib.byteCells (l ++ s.data.toList) := by rw [Lib.strCells_eq, Lib.byteCells_append]
theorem wstr_calls (z : Nat) (x : Bst) (l : List UInt8) (s : ByteArray) (σ : Store) (hO : BldOk z l σ x) (hlen : l.length + s.size ≤ 140737488355328) (hs : s.data.toList ≠ []) :
    ACalls Tryd.prog 29 [ptrA z, .lit (.string s)] (bldS z x σ) fun v σ' => v = .tuple [.lit (.int .i64 s.size), .lit .nilIface] ∧ ∃ x', BldOk z (l ++ s.data.toList) σ x' ∧ σ' = bldS z x' σ := by
  intro D G w cargs hl hargs hW hfresh
  obtain ⟨c0, c1, rfl⟩ := bargs2 (by simpa using hl)
  have h0 := (hargs 0 _ c0 rfl rfl).1.lit_eq rfl
  have h1 := (hargs 1 _ c1 rfl rfl).1.lit_eq rfl
  subst h0 h1
  obtain ⟨hb, hp, hW0, hB⟩ := bldW_get hO hW
  have hne : l ++ s.data.toList ≠ [] := fun e => hs (List.append_eq_nil_iff.1 e).2
  have hlen' : (Lib.byteCells l).length + s.size ≤ 140737488355328 := by rw [Lib.byteCells_length]; exact hlen
  have fin : ∀ (e : Ending) (w' : World), (e = .returned (.tuple #[.int .i64 s.size, .nilIface]) ∧ ∃ v', BldW w' z (.pointer (some ⟨z, 0, none⟩)) v' (Lib.byteCells l ++ Lib.strCells s) ∧ OnlyW z x.v w w' ∧ (v'.ownBlock = x.v.ownBlock ∨ v'.ownBlock = some w.heap.size)) →
      ∃ v cv G' σ', e = .returned cv ∧ (v = .tuple [.lit (.int .i64 s.size), .lit .nilIface] ∧ ∃ x', BldOk z (l ++ s.data.toList) σ x' ∧ σ' = bldS z x' σ) ∧ VR G'.F v cv ∧ OwnAt G' D .acc v cv ∧ WR D G' σ' w' ∧ Ext D G w G' w' := by
    rintro e w' ⟨rfl, v', q1, q2, q3⟩
    rw [strCells_data] at q1
    obtain ⟨x', r1, r2, r3⟩ := bldW_set hW0 hB hfresh q2 q1 hne q3
    refine ⟨_, _, G, _, rfl, ⟨rfl, x', r1, rfl⟩, .tuple _ _ rfl fun i c u hc hu => ?_, OwnAt.of_plain rfl, r2, r3⟩
    match i with
    | 0 => simp at hc hu; subst hc hu; exact .lit _
    | 1 => simp at hc hu; subst hc hu; exact .lit _
    | _ + 2 => simp at hc
  rcases hp with hp | hp
  · rw [hp] at hb
    have hsh : w.shape? z = some (74, 2) := by have := hb.blk; simp [World.shape?, this]
    refine (oWriteUsed z x.v (Lib.byteCells l) s _ (hb.used _) hlen' w (.pointer none) (oCopyFresh z w hb.cell0 hsh (Lib.frozen_of_heap hb.blk 0)) ⟨rfl, rfl, rfl, by simp [World.setCell], fun k hk hkb _ => Below.heap_setCell _ _ _ _ hkb⟩ (by simp [World.setCell])).mono fin
  · rw [hp] at hb
    exact (oWriteUsed z x.v (Lib.byteCells l) s w hb hlen' w (.pointer none) (oCopyUsed z w hb.cell0) (OnlyW.refl _ _ _) rfl).mono fin
theorem bstr_calls (z : Nat) (x : Bst) (l : List UInt8) (σ : Store) (hO : BldOk z l σ x) (hl : l ≠ []) : ACalls Tryd.prog 30 [ptrA z] (bldS z x σ) fun v σ' => v = .lit (.string (toB l)) ∧ σ' = σ := by
  intro D G w cargs hl' hargs hW hfresh
  obtain ⟨c0, rfl⟩ := bargs1 (by simpa using hl')
  have h0 := (hargs 0 _ c0 rfl rfl).1.lit_eq rfl
  subst h0
  obtain ⟨hb, hp, hW0, hB⟩ := bldW_get hO hW
  refine (oString z _ _ l w hb hl).mono ?_
  rintro e w' ⟨rfl, q⟩
  obtain ⟨r1, r2⟩ := only_WR hW0 hB hfresh q
  exact ⟨_, _, G, _, rfl, ⟨rfl, rfl⟩, .lit _, OwnAt.of_plain rfl, r1, r2⟩
end Go.Proofs.YtheldoijfnigoaaDoor
/-
  strings.Builder: one byte is written.
-/
namespace Go.Proofs.YtheldoijfnigoaaDoor
open Go Go.AL Go.RowKit

theorem wpList_append_b {P : Program} (w : World) {ops : Array Oper} {rest : List Oper} {o : Oper} {a : Act} {Q : Exit → Act → World → Prop} (hgd : o.guard = none) (sl x : Operand) (t : TypeId)
    (ho : o.op = .call { callee := .builtin .append, args := #[sl, x], argTypes := #[t, t] })
    (e : TypeId) (i : TypeInfo) (ht : P.underlying t = some (.slice e)) (hi : P.info? e = some i) (hz : i.zero = some (.int .u8 0)) (hsize : i.size = 1) (hby : i.bytes = 1)
    (v : Value) (n : Nat) (xs : List Value) (hs : a.eval sl = v) (hown : w.ownsRow 0 e 1 v n xs) (ad : Addr) (c : Nat) (u : Value) (hx : a.eval x = .slice (some ad) 1 c) (hu : w.cell? (ad.add 0) = some u) (h1 : u.oneCell' = true)
    (hbytes : n + 1 ≤ 140737488355328)
    (h : ∀ v' w', w'.ownsRow 0 e 1 v' (n + 1) (xs ++ [u]) → w.grownBy w' v.ownBlock → (v'.ownBlock = v.ownBlock ∨ v'.ownBlock = some w.heap.size) → wpList P ops Q rest (a.put o.dst v') w') : wpList P ops Q (o :: rest) a w := by
  refine wpList_plain hgd fun K hK => ?_
  have hnews : ∀ (j : Nat) (u' : Value), [u][j]? = some u' → w.cell? (ad.add j) = some u' := fun j u' hj => by
    match j, hj with
    | 0, hj => simp at hj; subst hj; exact hu
  have h1' : ∀ x ∈ [u], x.oneCell' = true := by simp [h1]
  obtain ⟨v', w', hr, h2, h3, _⟩ := run_append_own (P := P) w 0 t o.type e i (.int .u8 0) 1 1 ht hi hz hsize hby rfl (by decide) v n xs hown ad 1 c [u] rfl hnews h1' (by unfold maxLen; omega) (by omega) (Nat.zero_le _)
  have h4 : v'.ownBlock = v.ownBlock ∨ v'.ownBlock = some w.heap.size := by
    rcases hown.2 with ⟨rfl, rfl⟩ | ⟨g, cap, cur, rfl, hbg, hg, hnc, hcm, hcs, htake⟩
    · have hr' := run_append_nil (P := P) w t o.type e i (.int .u8 0) ht hi hz ad 1 c [u] (by rw [hsize]; rfl) hnews (by omega) (by omega) (by rw [hby]; omega)
      rw [hr] at hr'
      injection hr' with e1 e2
      subst e1
      exact .inr rfl
    · by_cases hroom : n + 1 ≤ cap
      · have hr' := run_append_room (P := P) w t o.type e i ht hi g n cap cur hg ad 1 c [u] (by rw [hsize]; rfl) hnews h1' hroom (by rw [hsize, hcs]; simp; omega)
        rw [hr] at hr'
        injection hr' with e1 e2
        subst e1
        exact .inl rfl
      · have hxl : xs.length = n := by simpa using hown.1
        have holds : ∀ j u, xs[j]? = some u → w.cell? ((⟨g, 0, none⟩ : Addr).add j) = some u := hown.cells (g := g) rfl
        have hr' := run_append_grow (P := P) w t o.type e i (.int .u8 0) ht hi hz ⟨g, 0, none⟩ n cap xs (by rw [hsize]; simpa using hxl) holds ad 1 c [u] (by rw [hsize]; rfl) hnews (by omega) (by omega) (by rw [hby]; exact growslice_fits (by omega) (by omega))
        rw [hr] at hr'
        injection hr' with e1 e2
        subst e1
        exact .inr rfl
  unfold Oper.wp execOp
  simp only [ho, resolve, invoke, builtin, Sem.run_bind, Sem.run_pure, Result.andThen_ok, List.map_toArray, List.map_cons, List.map_nil, hs, hx, hr]
  exact hK _ _ (h v' w' h2 h3 h4)
set_option maxHeartbeats 2000000 in
set_option maxRecDepth 100000 in
theorem oByteUsed (b : Nat) (v : Value) (bs : List Value) (c : Int) (w : World) (h : BldW w b (.pointer (some ⟨b, 0, none⟩)) v bs) (hlen : bs.length + 1 ≤ 140737488355328)
    (w0 : World) (hcc : Calls Tryd.prog 47 #[.pointer (some ⟨b, 0, none⟩)] w0 fun e w' => e = .returned (.tuple #[]) ∧ w' = w) (h0 : OnlyW b v w0 w) (hsz : w0.heap.size = w.heap.size) :
    Calls Tryd.prog 48 #[.pointer (some ⟨b, 0, none⟩), .int .u8 c] w0 fun e w' => e = .returned .nilIface ∧ ∃ v', BldW w' b (.pointer (some ⟨b, 0, none⟩)) v' (bs ++ [.int .u8 c]) ∧
      OnlyW b v (w0.alloc (.cells #[.int .u8 c] 5)) w' ∧ (v'.ownBlock = v.ownBlock ∨ v'.ownBlock = some (w0.alloc (.cells #[.int .u8 c] 5)).heap.size) := by
  obtain ⟨i0, hi, hz0, hz1, hz2⟩ := oInfo5
  go_enter Tryd.func48, Tryd.ntmps48
  go_wp2_with (go_at_call 47; refine hcc.mono ?_)
  rintro e w1 ⟨rfl, rfl⟩
  have c0 := h.cell0
  have c1 := h.cell1
  go_wp2_with (at_builtin; refine wpList_append_b _ rfl _ _ 33 rfl 5 i0 Tryd.underlying33 hi hz0 hz1 hz2 _ _ _ rfl (h.own.alloc _) ⟨w1.heap.size, 0, none⟩ 1 (.int .u8 c) rfl (by simp [Addr.add]) rfl hlen ?_)
  intro v' w2 hown' hgrow hblk
  have hlt := h.lt
  have hb2 : w2.heap[b]? = some (.cells #[.pointer (some ⟨b, 0, none⟩), v] 74 (0, 0)) := by
    rw [hgrow.block b (by simp; omega) (fun e => h.ne e.symm), Lib.alloc_old w1 _ b hlt]
    exact h.blk
  have d0 : w2.cell? ⟨b, 0, none⟩ = some (.pointer (some ⟨b, 0, none⟩)) := by rw [Lib.cell_of_heap hb2]; rfl
  have d1 : w2.cell? ⟨b, 1, none⟩ = some v := by rw [Lib.cell_of_heap hb2]; rfl
  have f1 : w2.frozen? ⟨b, 1, none⟩ = false := Lib.frozen_of_heap hb2 1
  obtain ⟨ao, n', cap, rfl⟩ : ∃ ao n' cap, v' = .slice ao n' cap := by
    rcases hown'.2 with ⟨hv, _⟩ | ⟨g, cap, cur, hv, _⟩
    · exact ⟨_, _, _, hv⟩
    · exact ⟨_, _, _, hv⟩
  go_wp2
  go_ret
  have hne' : (Value.slice ao n' cap).ownBlock ≠ some b := by
    rcases hblk with e | e
    · rw [e]; exact h.ne
    · rw [e]; simp; omega
  have hs0 : (w0.alloc (.cells #[.int .u8 c] 5)).heap.size = w1.heap.size + 1 := by simp [hsz]
  refine ⟨rfl, _, ⟨?_, ?_, hne'⟩, ⟨hgrow.os.trans h0.os, hgrow.tape.trans h0.tape, hgrow.output.trans h0.output, by rw [hs0]; have := hgrow.size; simp [World.setCell] at this ⊢; omega, fun k hk hkb hkv => ?_⟩, by rw [hs0]; exact hblk⟩
  · simp [World.setCell, Array.getElem?_modify, hb2]
  · rw [List.length_append]
    exact hown'.kept (row := some b) ⟨rfl, rfl, rfl, by simp [World.setCell], fun k _ hk => Below.heap_setCell _ _ _ _ (fun e => hk (by simp [e]))⟩ (.inr hne')
  · rw [hs0] at hk
    rw [Below.heap_setCell _ _ _ _ hkb, hgrow.block k (by simp; omega) hkv]
    rcases Nat.lt_or_ge k w1.heap.size with hlt2 | hge
    · rw [Lib.alloc_old w1 _ k hlt2, Lib.alloc_old w0 _ k (by omega)]
      exact h0.block k (by omega) hkb hkv
    · obtain rfl : k = w1.heap.size := by omega
      rw [heap_alloc_new w1, ← hsz, heap_alloc_new w0]
variable [Errs]
set_option linter.unusedSectionVars false
theorem wbyte_calls (z : Nat) (x : Bst) (l : List UInt8) (c : UInt8) (σ : Store) (hO : BldOk z l σ x) (hlen : l.length + 1 ≤ 140737488355328) :
    ACalls Tryd.prog 48 [ptrA z, .lit (.int .u8 c.toNat)] (bldS z x σ) fun v σ' => v = .lit .nilIface ∧ ∃ x', BldOk z (l ++ [c]) σ x' ∧ σ' = bldS z x' σ := by
  intro D G w cargs hl hargs hW hfresh
  obtain ⟨c0, c1, rfl⟩ := bargs2 (by simpa using hl)
  have h0 := (hargs 0 _ c0 rfl rfl).1.lit_eq rfl
  have h1 := (hargs 1 _ c1 rfl rfl).1.lit_eq rfl
  subst h0 h1
  obtain ⟨hb, hp, hW0, hB⟩ := bldW_get hO hW
  have hlen' : (Lib.byteCells l).length + 1 ≤ 140737488355328 := by rw [Lib.byteCells_length]; exact hlen
  have hne : l ++ [c] ≠ [] := by simp
  have hbc : Lib.byteCells l ++ [.int .u8 (c.toNat : Int)] = Lib.byteCells (l ++ [c]) := by simp [Lib.byteCells]
  have hWa : WR D G σ (w.alloc (.cells #[.int .u8 (c.toNat : Int)] 5)) := hW0.grow (fun k hk => Lib.alloc_old w _ k hk) (fun _ q _ => q)
  have hfa : ∀ k, (w.alloc (.cells #[.int .u8 (c.toNat : Int)] 5)).heap.size ≤ k → D k := fun k hk => hfresh k (by simp at hk; omega)
  have fin : ∀ (e : Ending) (w' : World), (e = .returned .nilIface ∧ ∃ v', BldW w' z (.pointer (some ⟨z, 0, none⟩)) v' (Lib.byteCells l ++ [.int .u8 (c.toNat : Int)]) ∧ OnlyW z x.v (w.alloc (.cells #[.int .u8 (c.toNat : Int)] 5)) w' ∧ (v'.ownBlock = x.v.ownBlock ∨ v'.ownBlock = some (w.alloc (.cells #[.int .u8 (c.toNat : Int)] 5)).heap.size)) →
      ∃ v cv G' σ', e = .returned cv ∧ (v = .lit .nilIface ∧ ∃ x', BldOk z (l ++ [c]) σ x' ∧ σ' = bldS z x' σ) ∧ VR G'.F v cv ∧ OwnAt G' D .acc v cv ∧ WR D G' σ' w' ∧ Ext D G w G' w' := by
    rintro e w' ⟨rfl, v', q1, q2, q3⟩
    rw [hbc] at q1
    obtain ⟨x', r1, r2, r3⟩ := bldW_set hWa hB hfa q2 q1 hne q3
    exact ⟨_, _, G, _, rfl, ⟨rfl, x', r1, rfl⟩, .lit _, OwnAt.of_plain rfl, r2, (Ext.alloc hfresh G _).trans r3⟩
  rcases hp with hp | hp
  · rw [hp] at hb
    have hsh : w.shape? z = some (74, 2) := by have := hb.blk; simp [World.shape?, this]
    exact (oByteUsed z x.v (Lib.byteCells l) _ _ (hb.used _) hlen' w (oCopyFresh z w hb.cell0 hsh (Lib.frozen_of_heap hb.blk 0)) ⟨rfl, rfl, rfl, by simp [World.setCell], fun k hk hkb _ => Below.heap_setCell _ _ _ _ hkb⟩ (by simp [World.setCell])).mono fin
  · rw [hp] at hb
    exact (oByteUsed z x.v (Lib.byteCells l) _ w hb hlen' w (oCopyUsed z w hb.cell0) (OnlyW.refl _ _ _) rfl).mono fin
end Go.Proofs.YtheldoijfnigoaaDoor
