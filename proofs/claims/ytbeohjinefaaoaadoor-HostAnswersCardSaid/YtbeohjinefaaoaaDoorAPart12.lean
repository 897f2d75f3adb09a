/-
  strings.Builder, step by step (turned from the kit's worked proofs): copyCheck, WriteRune.
-/
import Derived.Test.YtbeohjinefaaoaaDoorAPart11
import Derived.Lib.Builder
import Derived.Lib.AppendStr
import Derived.Lib.RuneBytes
import Derived.Laws.AppendOwn
import Derived.Lib.UnsafeStr
import Derived.Lib.Walk
import Derived.Laws.Externs
import Derived.OwnWalk
set_option linter.unusedSimpArgs false
set_option linter.unusedVariables false
namespace Go.Proofs.YtbeohjinefaaoaaDoor
open Go Go.AL Go.RowKit

theorem run_append_lst {P : Program} (w : World) (t ty e : TypeId) (i : TypeInfo) (ht : P.underlying t = some (.slice e)) (hi : P.info? e = some i) (hz : i.zero = some (.int .u8 0))
    (hsize : i.size = 1) (hby : i.bytes = 1) (v : Value) (n : Nat) (xs : List Value) (hown : w.ownsRow 0 e 1 v n xs) (ad : Addr) (m c : Nat) (news : List Value) (hl : news.length = m) (hm : 0 < m) (hnews : ∀ j u, news[j]? = some u → w.cell? (ad.add j) = some u) (h1 : ∀ u ∈ news, u.oneCell' = true)
    (hbytes : n + m ≤ 140737488355328) :
    ∃ v' w', (Builtin.append_ #[t, t] ty #[v, .slice (some ad) m c]).run P w = .ok v' w' ∧ w'.ownsRow 0 e 1 v' (n + m) (xs ++ news) ∧ w.grownBy w' v.ownBlock ∧
      (v'.ownBlock = v.ownBlock ∨ v'.ownBlock = some w.heap.size) := by
  have hl1 : news.length = m * i.size := by rw [hsize]; omega
  have hzs : (Value.int .u8 0).cells.size = 1 := rfl
  obtain ⟨v', w', hr, q1, q2, q3⟩ := run_append_own (P := P) w 0 t ty e i (.int .u8 0) 1 1 ht hi hz hsize hby hzs (by omega) v n xs hown ad m c news (by omega) hnews h1 (by unfold maxLen; omega) (by omega) (Nat.zero_le _)
  refine ⟨v', w', hr, q1, q2, ?_⟩
  rcases hown.2 with ⟨rfl, rfl⟩ | ⟨g, cap, cur, rfl, hbg, hg, hnc, hcm, hcs, htake⟩
  · have hr' := run_append_nil (P := P) w t ty e i (.int .u8 0) ht hi hz ad m c news hl1 hnews (by omega) (by omega) (by rw [hby]; omega)
    rw [hr] at hr'
    injection hr' with e1 e2
    subst e1
    exact .inr rfl
  · by_cases hroom : n + m ≤ cap
    · have hr' := run_append_room (P := P) w t ty e i ht hi g n cap cur hg ad m c news hl1 hnews h1 hroom (by rw [hsize]; omega)
      rw [hr] at hr'
      injection hr' with e1 e2
      subst e1
      exact .inl rfl
    · have holds : ∀ j u, xs[j]? = some u → w.cell? ((⟨g, 0, none⟩ : Addr).add j) = some u := hown.cells (g := g) rfl
      have hr' := run_append_grow (P := P) w t ty e i (.int .u8 0) ht hi hz ⟨g, 0, none⟩ n cap xs (by rw [hsize]; exact hown.1) holds ad m c news hl1 hnews (by omega) (by omega) (growslice_fits (by omega) (by rw [hby]; omega))
      rw [hr] at hr'
      injection hr' with e1 e2
      subst e1
      exact .inr rfl
theorem wpList_append_lst {P : Program} (w : World) {ops : Array Oper} {rest : List Oper} {o : Oper} {a : Act} {Q : Exit → Act → World → Prop} (hgd : o.guard = none) (sl x : Operand) (t : TypeId)
    (ho : o.op = .call { callee := .builtin .append, args := #[sl, x], argTypes := #[t, t] })
    (e : TypeId) (i : TypeInfo) (ht : P.underlying t = some (.slice e)) (hi : P.info? e = some i) (hz : i.zero = some (.int .u8 0))
    (hsize : i.size = 1) (hby : i.bytes = 1)
    (v : Value) (n : Nat) (xs : List Value) (hs : a.eval sl = v) (hown : w.ownsRow 0 e 1 v n xs) (ad : Addr) (m c : Nat) (news : List Value) (hx : a.eval x = .slice (some ad) m c) (hl : news.length = m) (hm : 0 < m)
    (hnews : ∀ j u, news[j]? = some u → w.cell? (ad.add j) = some u) (h1 : ∀ u ∈ news, u.oneCell' = true)
    (hbytes : n + m ≤ 140737488355328)
    (h : ∀ v' w', w'.ownsRow 0 e 1 v' (n + m) (xs ++ news) → w.grownBy w' v.ownBlock → (v'.ownBlock = v.ownBlock ∨ v'.ownBlock = some w.heap.size) → wpList P ops Q rest (a.put o.dst v') w') : wpList P ops Q (o :: rest) a w := by
  refine wpList_plain hgd fun K hK => ?_
  obtain ⟨v', w', hr, h2, h3, h4⟩ := run_append_lst (P := P) w t o.type e i ht hi hz hsize hby v n xs hown ad m c news hl hm hnews h1 hbytes
  unfold Oper.wp execOp
  simp only [ho, resolve, invoke, builtin, Sem.run_bind, Sem.run_pure, Result.andThen_ok, List.map_toArray, List.map_cons, List.map_nil, hs, hx, hr]
  exact hK _ _ (h v' w' h2 h3 h4)

theorem oInfoB : ∃ j, Tryd.prog.info? 128 = some j ∧ j.size = 2 := Option.map_eq_some_iff.1 (by kernel_rfl : (Tryd.prog.info? 128).map (·.size) = some 2)
theorem oInfo5 : ∃ j, Tryd.prog.info? 5 = some j ∧ j.zero = some (.int .u8 0) ∧ j.size = 1 ∧ j.bytes = 1 := by
  obtain ⟨j, h1, h2⟩ := Option.map_eq_some_iff.1 (by kernel_rfl : (Tryd.prog.info? 5).map (fun i => (i.zero, i.size, i.bytes)) = some (some (.int .u8 0), 1, 1))
  simp only [Prod.mk.injEq] at h2
  exact ⟨j, h1, h2.1, h2.2.1, h2.2.2⟩
set_option maxHeartbeats 1000000 in
set_option maxRecDepth 100000 in
theorem oCopyUsed (b : Nat) (w : World) (h0 : w.cell? ⟨b, 0, none⟩ = some (.pointer (some ⟨b, 0, none⟩))) :
    Calls Tryd.prog 61 #[.pointer (some ⟨b, 0, none⟩)] w fun e w' => e = .returned (.tuple #[]) ∧ w' = w := by
  obtain ⟨j, hj, _⟩ := oInfoB
  go_enter Tryd.func61, Tryd.ntmps61
  go_wp2
  rw [Lib.run_neq_ptr_same w _ Tryd.underlying126 hj]
  go_wp2
  go_end0
  exact ⟨rfl, rfl⟩
set_option maxHeartbeats 1000000 in
set_option maxRecDepth 100000 in
theorem oCopyFresh (b : Nat) (w : World) (h0 : w.cell? ⟨b, 0, none⟩ = some (.pointer none)) (hsh : w.shape? b = some (128, 2)) (hfz : w.frozen? ⟨b, 0, none⟩ = false) :
    Calls Tryd.prog 61 #[.pointer (some ⟨b, 0, none⟩)] w fun e w' => e = .returned (.tuple #[]) ∧ w' = w.setCell ⟨b, 0, none⟩ (.pointer (some ⟨b, 0, none⟩)) := by
  obtain ⟨j, hj, hjs⟩ := oInfoB
  go_enter Tryd.func61, Tryd.ntmps61
  go_wp2
  rw [Lib.run_to_unsafe w ⟨b, 0, none⟩ Tryd.underlying126 Tryd.underlying158 hj (by rw [hjs]; decide) hsh (Nat.zero_lt_succ 1)]
  simp only [Result.andThen]
  rw [Oper.upon_value]
  go_wp2
  rw [run_callFunc_extern Tryd.func70 (by kernel_rfl) (by kernel_rfl) (by kernel_rfl) (e := Extern.AbiNoEscape.same) (by kernel_rfl)]
  rw [Lib.run_noEscape]
  simp only [Result.andThen]
  rw [Oper.upon_value]
  go_wp2
  rw [Lib.run_from_unsafe w ⟨b, 0, none⟩ Tryd.underlying158 Tryd.underlying126 hj hsh (by kernel_rfl)]
  simp only [Result.andThen]
  rw [Oper.upon_value]
  go_wp2
  go_end0
  exact ⟨rfl, rfl⟩
/-- A builder in a block of its own, with its bytes' row. -/
structure BldW (w : World) (b : Nat) (p v : Value) (bs : List Value) : Prop where
  blk : w.heap[b]? = some (.cells #[p, v] 128 (0, 0))
  own : w.ownsRow 0 5 1 v bs.length bs
  ne : v.ownBlock ≠ some b
theorem BldW.cell0 {w : World} {b : Nat} {p v : Value} {bs : List Value} (h : BldW w b p v bs) : w.cell? ⟨b, 0, none⟩ = some p := by rw [Lib.cell_of_heap h.blk]; rfl
theorem BldW.cell1 {w : World} {b : Nat} {p v : Value} {bs : List Value} (h : BldW w b p v bs) : w.cell? ⟨b, 1, none⟩ = some v := by rw [Lib.cell_of_heap h.blk]; rfl
theorem BldW.lt {w : World} {b : Nat} {p v : Value} {bs : List Value} (h : BldW w b p v bs) : b < w.heap.size := (Array.getElem?_eq_some_iff.1 h.blk).1
theorem BldW.used {w : World} {b : Nat} {p v : Value} {bs : List Value} (h : BldW w b p v bs) (q : Value) : BldW (w.setCell ⟨b, 0, none⟩ q) b q v bs := by
  refine ⟨?_, ?_, h.ne⟩
  · simp [World.setCell, Array.getElem?_modify, h.blk]
  · exact h.own.kept (row := some b) ⟨rfl, rfl, rfl, by simp [World.setCell], fun k _ hk => Below.heap_setCell _ _ _ _ (fun e => hk (by simp [e]))⟩ (.inr h.ne)
/-- Only the builder's own two blocks turn, and new ones. -/
structure OnlyW (b : Nat) (v : Value) (w w' : World) : Prop where
  os : w'.os = w.os
  tape : w'.tape = w.tape
  output : w'.output = w.output
  size : w.heap.size ≤ w'.heap.size
  block : ∀ k, k < w.heap.size → k ≠ b → some k ≠ v.ownBlock → w'.heap[k]? = w.heap[k]?
/-- What an append of bytes leaves. -/
def AppPost (v : Value) (n : Nat) (xs : List Value) (w : World) (news : List Value) (e : Ending) (w' : World) : Prop :=
  ∃ v', e = .returned v' ∧ w'.ownsRow 0 5 1 v' (n + news.length) (xs ++ news) ∧ (∃ o, (w.alloc o).grownBy w' v.ownBlock) ∧ (v'.ownBlock = v.ownBlock ∨ v'.ownBlock = some (w.heap.size + 1))
set_option maxHeartbeats 2000000 in
set_option maxRecDepth 100000 in
theorem oApp2 (v : Value) (n : Nat) (xs : List Value) (r : Int) (h0 : 128 ≤ r) (h1 : r ≤ 2047) (w : World) (hown : w.ownsRow 0 5 1 v n xs) (hlen : n + 4 ≤ 140737488355328) :
    Calls Tryd.prog 71 #[v, .int .i32 r] w (AppPost v n xs w [.int .u8 (192 + r / 64), .int .u8 (128 + r % 64)]) := by
  obtain ⟨i0, hi, hz0, hz1, hz2⟩ := oInfo5
  go_enter Tryd.func71, Tryd.ntmps71
  go_wp2_with (at_builtin; refine wpList_append_lst _ rfl _ _ 33 rfl 5 i0 Tryd.underlying33 hi hz0 hz1 hz2 _ _ _ rfl (hown.alloc _) ⟨w.heap.size, 0, none⟩ 2 2 [.int .u8 (192 + r / 64), .int .u8 (128 + r % 64)] rfl rfl (by omega) ?c1 ?c2 (by omega) ?_)
  case c1 =>
    intro j u hj
    match j, hj with
    | 0, hj => simp at hj; subst hj; simp [Addr.add]
    | 1, hj => simp at hj; subst hj; simp [Addr.add]
    | (j + 2), hj => simp at hj
  case c2 => intro u hu; simp at hu; rcases hu with rfl | rfl <;> rfl
  intro v' w2 hown' hgrow hblk
  go_wp2
  go_ret
  exact ⟨_, rfl, hown', ⟨_, hgrow⟩, by simpa using hblk⟩
set_option maxHeartbeats 2000000 in
set_option maxRecDepth 100000 in
theorem oApp3 (v : Value) (n : Nat) (xs : List Value) (r : Int) (h0 : 2048 ≤ r) (h1 : r < 55296) (w : World) (hown : w.ownsRow 0 5 1 v n xs) (hlen : n + 4 ≤ 140737488355328) :
    Calls Tryd.prog 71 #[v, .int .i32 r] w (AppPost v n xs w [.int .u8 (224 + r / 4096), .int .u8 (128 + r / 64 % 64), .int .u8 (128 + r % 64)]) := by
  obtain ⟨i0, hi, hz0, hz1, hz2⟩ := oInfo5
  go_enter Tryd.func71, Tryd.ntmps71
  go_wp2_with (at_builtin; refine wpList_append_lst _ rfl _ _ 33 rfl 5 i0 Tryd.underlying33 hi hz0 hz1 hz2 _ _ _ rfl (hown.alloc _) ⟨w.heap.size, 0, none⟩ 3 3 [.int .u8 (224 + r / 4096), .int .u8 (128 + r / 64 % 64), .int .u8 (128 + r % 64)] rfl rfl (by omega) ?c1 ?c2 (by omega) ?_)
  case c1 =>
    intro j u hj
    match j, hj with
    | 0, hj => simp at hj; subst hj; simp [Addr.add]
    | 1, hj => simp at hj; subst hj; simp [Addr.add]
    | 2, hj => simp at hj; subst hj; simp [Addr.add]
    | (j + 3), hj => simp at hj
  case c2 => intro u hu; simp at hu; rcases hu with rfl | rfl | rfl <;> rfl
  intro v' w2 hown' hgrow hblk
  go_wp2
  go_ret
  exact ⟨_, rfl, hown', ⟨_, hgrow⟩, by simpa using hblk⟩
/-- A sign's bytes as cells. -/
def sgCells (r : Int) : List Value := if r ≤ 127 then [.int .u8 r] else if r ≤ 2047 then [.int .u8 (192 + r / 64), .int .u8 (128 + r % 64)] else [.int .u8 (224 + r / 4096), .int .u8 (128 + r / 64 % 64), .int .u8 (128 + r % 64)]
theorem sgCells_len (r : Int) : 1 ≤ (sgCells r).length ∧ (sgCells r).length ≤ 3 := by
  unfold sgCells
  split
  · simp
  · split <;> simp
set_option maxHeartbeats 2000000 in
set_option maxRecDepth 100000 in
theorem oAppend (v : Value) (n : Nat) (xs : List Value) (r : Int) (h0 : 0 ≤ r) (h1 : r < 55296) (w : World) (hown : w.ownsRow 0 5 1 v n xs) (hlen : n + 4 ≤ 140737488355328) :
    Calls Tryd.prog 62 #[v, .int .i32 r] w (AppPost v n xs w (sgCells r)) := by
  obtain ⟨i0, hi, hz0, hz1, hz2⟩ := oInfo5
  by_cases c : r ≤ 127
  · rw [show sgCells r = [.int .u8 r] by simp [sgCells, c]]
    go_enter Tryd.func62, Tryd.ntmps62
    go_wp2_with (at_builtin; refine wpList_append_lst _ rfl _ _ 33 rfl 5 i0 Tryd.underlying33 hi hz0 hz1 hz2 _ _ _ rfl (hown.alloc _) ⟨w.heap.size, 0, none⟩ 1 1 [.int .u8 r] rfl rfl (by omega) ?c1 ?c2 (by omega) ?_)
    case c1 =>
      intro j u hj
      match j, hj with
      | 0, hj => simp at hj; subst hj; simp [Addr.add]
      | (j + 1), hj => simp at hj
    case c2 => intro u hu; simp at hu; subst hu; rfl
    intro v' w2 hown' hgrow hblk
    go_wp2
    go_ret
    exact ⟨_, rfl, hown', ⟨_, hgrow⟩, by simpa using hblk⟩
  · by_cases c2 : r ≤ 2047
    · rw [show sgCells r = [.int .u8 (192 + r / 64), .int .u8 (128 + r % 64)] by simp [sgCells, c, c2]]
      go_enter Tryd.func62, Tryd.ntmps62
      go_wp2_with (go_at_call 71; refine (oApp2 _ n xs r (by omega) c2 _ hown hlen).mono ?_)
      rintro e w1 ⟨v', rfl, q⟩
      go_wp2
      go_ret
      exact ⟨_, rfl, q⟩
    · rw [show sgCells r = [.int .u8 (224 + r / 4096), .int .u8 (128 + r / 64 % 64), .int .u8 (128 + r % 64)] by simp [sgCells, c, c2]]
      go_enter Tryd.func62, Tryd.ntmps62
      go_wp2_with (go_at_call 71; refine (oApp3 _ n xs r (by omega) h1 _ hown hlen).mono ?_)
      rintro e w1 ⟨v', rfl, q⟩
      go_wp2
      go_ret
      exact ⟨_, rfl, q⟩
set_option maxHeartbeats 2000000 in
set_option maxRecDepth 100000 in
theorem oWriteRune (b : Nat) (v : Value) (bs : List Value) (r : Int) (hr0 : 0 ≤ r) (hr1 : r < 55296) (w : World) (h : BldW w b (.pointer (some ⟨b, 0, none⟩)) v bs) (hlen : bs.length + 4 ≤ 140737488355328)
    (w0 : World) (hcc : Calls Tryd.prog 61 #[.pointer (some ⟨b, 0, none⟩)] w0 fun e w' => e = .returned (.tuple #[]) ∧ w' = w) (h0 : OnlyW b v w0 w) (hsz : w0.heap.size = w.heap.size) :
    Calls Tryd.prog 47 #[.pointer (some ⟨b, 0, none⟩), .int .i32 r] w0 fun e w' => e = .returned (.tuple #[.int .i64 (sgCells r).length, .nilIface]) ∧ ∃ v', BldW w' b (.pointer (some ⟨b, 0, none⟩)) v' (bs ++ sgCells r) ∧
      OnlyW b v w0 w' ∧ (v'.ownBlock = v.ownBlock ∨ v'.ownBlock = some (w0.heap.size + 1)) := by
  have hk3 := sgCells_len r
  go_enter Tryd.func47, Tryd.ntmps47
  go_wp2_with (go_at_call 61; refine hcc.mono ?_)
  rintro e w1 ⟨rfl, rfl⟩
  have c0 := h.cell0
  have c1 := h.cell1
  obtain ⟨ao, cap, rfl⟩ : ∃ ao cap, v = .slice ao bs.length cap := by
    rcases h.own.2 with ⟨hv, hz⟩ | ⟨g, cap, cur, hv, _⟩
    · exact ⟨none, 0, by rw [hv, hz]⟩
    · exact ⟨_, _, hv⟩
  go_wp2_with (go_at_call 62; refine (oAppend _ bs.length bs r hr0 hr1 _ h.own hlen).mono ?_)
  rintro e w2 ⟨v', rfl, hown', ⟨o, hgrow⟩, hblk⟩
  have hlt := h.lt
  have hb2 : w2.heap[b]? = some (.cells #[.pointer (some ⟨b, 0, none⟩), .slice ao bs.length cap] 128 (0, 0)) := by
    rw [hgrow.block b (by simp; omega) (fun e => h.ne e.symm), Lib.alloc_old w1 _ b hlt]
    exact h.blk
  have d0 : w2.cell? ⟨b, 0, none⟩ = some (.pointer (some ⟨b, 0, none⟩)) := by rw [Lib.cell_of_heap hb2]; rfl
  have d1 : w2.cell? ⟨b, 1, none⟩ = some (.slice ao bs.length cap) := by rw [Lib.cell_of_heap hb2]; rfl
  have f1 : w2.frozen? ⟨b, 1, none⟩ = false := Lib.frozen_of_heap hb2 1
  obtain ⟨g, cap', rfl⟩ : ∃ g cap', v' = .slice (some ⟨g, 0, none⟩) (bs.length + (sgCells r).length) cap' := by
    rcases hown'.2 with ⟨_, hz⟩ | ⟨g, cap', cur, hv, _⟩
    · omega
    · exact ⟨g, cap', hv⟩
  have hne' : (Value.slice (some ⟨g, 0, none⟩) (bs.length + (sgCells r).length) cap').ownBlock ≠ some b := by
    rcases hblk with e | e
    · rw [e]; exact h.ne
    · rw [e]; simp; omega
  go_wp2
  go_ret2
  refine ⟨?_, _, ⟨?_, ?_, hne'⟩, ⟨hgrow.os.trans h0.os, hgrow.tape.trans h0.tape, hgrow.output.trans h0.output, by have := hgrow.size; simp [World.setCell] at this ⊢; omega, fun k hk hkb hkv => ?_⟩, by rw [hsz]; exact hblk⟩
  · have e : ((bs.length : Int) + ((sgCells r).length : Int) - (bs.length : Int)) = ((sgCells r).length : Int) := by omega
    simp [e]
  · simp [World.setCell, Array.getElem?_modify, hb2]
  · rw [List.length_append]
    exact hown'.kept (row := some b) ⟨rfl, rfl, rfl, by simp [World.setCell], fun k _ hk => Below.heap_setCell _ _ _ _ (fun e => hk (by simp [e]))⟩ (.inr hne')
  · rw [Below.heap_setCell _ _ _ _ hkb, hgrow.block k (by simp; omega) hkv, Lib.alloc_old w1 _ k (by omega)]
    exact h0.block k hk hkb hkv
end Go.Proofs.YtbeohjinefaaoaaDoor
/-
  strings.Builder as abstract states: its two blocks known just so.
-/
namespace Go.Proofs.YtbeohjinefaaoaaDoor
open Go Go.AL Go.RowKit

theorem freeze_only (b : Nat) (p : Value) {g : Nat} (n cap : Nat) (w : World) : OnlyW b (.slice (some ⟨g, 0, none⟩) n cap) w (w.drew.freeze ⟨g, 0, none⟩ n) := by
  unfold World.freeze
  split
  · exact ⟨rfl, rfl, rfl, Nat.le_refl _, fun _ _ _ _ => rfl⟩
  · refine ⟨rfl, rfl, rfl, by simp, fun k hk hkb hkv => ?_⟩
    have hkg : ¬ g = k := fun e => hkv (by simp [Value.ownBlock, e])
    simp [Array.getElem?_modify, hkg]
    rfl
set_option maxHeartbeats 2000000 in
set_option maxRecDepth 100000 in
theorem oString (b : Nat) (p v : Value) (l : List UInt8) (w : World) (h : BldW w b p v (Lib.byteCells l)) (h0 : l ≠ []) :
    Calls Tryd.prog 49 #[.pointer (some ⟨b, 0, none⟩)] w fun e w' => e = .returned (.string ⟨l.toArray⟩) ∧ OnlyW b v w w' := by
  have hl0 : l.length ≠ 0 := by simpa using h0
  have hbk := h.blk
  have hown := h.own
  rw [Lib.byteCells_length] at hown
  obtain ⟨g, cap, cur, rfl, hbg, hg, hnc, hcm, hcs, htake⟩ : ∃ g cap cur, v = .slice (some ⟨g, 0, none⟩) l.length cap ∧ 0 ≤ g ∧ w.heap[g]? = some (.cells cur 5 (0, 0)) ∧ l.length ≤ cap ∧ cap ≤ maxLen ∧ cur.size = cap * 1 ∧ cur.toList.take (l.length * 1) = Lib.byteCells l := by
    rcases hown.2 with ⟨_, hz⟩ | ⟨g, cap, cur, hv, r⟩
    · exact absurd hz hl0
    · exact ⟨g, cap, cur, hv, r⟩
  have c1 : w.drew.cell? ⟨b, 1, none⟩ = some (.slice (some ⟨g, 0, none⟩) l.length cap) := by
    have : w.drew.heap[b]? = some (.cells #[p, .slice (some ⟨g, 0, none⟩) l.length cap] 128 (0, 0)) := hbk
    rw [Lib.cell_of_heap this]; rfl
  have hSD : (Builtin.unsafeSliceData_ #[33] 152 #[.slice (some ⟨g, 0, none⟩) l.length cap]).run Tryd.prog w.drew = .ok (.pointer (some ⟨g, 0, none⟩)) w.drew :=
    Lib.run_unsafeSliceData_row _ _ _ _ _ _ (by omega)
  have hUS : (Builtin.unsafeString_ #[152, 3] 9 #[.pointer (some ⟨g, 0, none⟩), .int .i64 l.length]).run Tryd.prog w.drew = .ok (.string ⟨l.toArray⟩) (w.drew.freeze ⟨g, 0, none⟩ l.length) := by
    refine Lib.run_unsafeString_row w.drew 152 3 9 5 Tryd.underlying152 (by kernel_rfl) g cur.size (by have hg' : w.drew.heap[g]? = some (.cells cur 5 (0, 0)) := hg; simp [World.shape?, hg']) l h0 (by omega) (by unfold maxLen at hcm; omega) ?_
    intro j x hx
    have := hown.cells (g := g) rfl j (.int .u8 x.toNat) (by simp [Lib.byteCells, hx])
    exact this
  go_enter Tryd.func49, Tryd.ntmps49
  go_wp2
  go_region
  all_goals
    go_wp2
    go_ret
    exact ⟨rfl, freeze_only b p l.length cap w⟩
set_option maxHeartbeats 2000000 in
set_option maxRecDepth 100000 in
theorem oString0 (b : Nat) (p : Value) (w : World) (h : BldW w b p (.slice none 0 0) []) :
    Calls Tryd.prog 49 #[.pointer (some ⟨b, 0, none⟩)] w fun e w' => e = .returned (.string ⟨#[]⟩) ∧ OnlyW b (.slice none 0 0) w w' := by
  have hbk := h.blk
  have c1 : w.drew.cell? ⟨b, 1, none⟩ = some (.slice none 0 0) := by
    have : w.drew.heap[b]? = some (.cells #[p, .slice none 0 0] 128 (0, 0)) := hbk
    rw [Lib.cell_of_heap this]; rfl
  have hSD : (Builtin.unsafeSliceData_ #[33] 152 #[.slice none 0 0]).run Tryd.prog w.drew = .ok (.pointer none) w.drew := Lib.run_unsafeSliceData_nil _ _ _ _ _
  have hUS : (Builtin.unsafeString_ #[152, 3] 9 #[.pointer none, .int .i64 0]).run Tryd.prog w.drew = .ok (.string .empty) w.drew := Lib.run_unsafeString_none _ _ _ _ _
  go_enter Tryd.func49, Tryd.ntmps49
  go_wp2
  go_region
  all_goals
    go_wp2
    go_ret
    exact ⟨rfl, ⟨rfl, rfl, rfl, Nat.le_refl _, fun _ _ _ _ => rfl⟩⟩
end Go.Proofs.YtbeohjinefaaoaaDoor
/-
  Codes: six bits as a byte, addresses, which bytes are orders.
-/
namespace Go.Proofs.YtbeohjinefaaoaaDoor
open Go Go.AL

theorem bytesA_append (l k : List UInt8) : bytesA (l ++ k) = bytesA l ++ bytesA k := by simp [bytesA]
theorem bytesA_nil : bytesA [] = [] := rfl
theorem clone_calls (o : Bool) (l : List UInt8) (σ : Store) (hl : l.length ≤ 140737488355328) :
    ACalls Tryd.prog 67 [.list o 1 (bytesA l)] σ fun v σ' => v = .list true 1 (bytesA l) ∧ σ' = σ := by
  refine ACalls.of_awp follows (st := st67) (plans := pl67) (n := 8) Tryd.func67 rfl (by kernel_rfl) (by kernel_rfl) (by kernel_rfl) ?_
  simp
  refine ⟨⟨by omega, by omega⟩, fun h => ?_⟩
  rw [h]; exact AV.le_refl _


def isOrd (b : UInt8) : Bool := [5, 8, 17, 18, 19, 29, 40, 41, 44, 60].contains b.toNat
def nameB (k : Nat) : ByteArray := if k = 0 then ⟨#[84, 101, 120, 116]⟩ else if k = 5 then ⟨#[80, 84]⟩ else if k = 8 then ⟨#[71, 69]⟩ else if k = 17 then ⟨#[83, 66, 65]⟩ else if k = 18 then ⟨#[69, 85, 65]⟩ else if k = 19 then ⟨#[73, 67]⟩ else if k = 29 then ⟨#[83, 70]⟩ else if k = 40 then ⟨#[83, 65]⟩ else if k = 41 then ⟨#[83, 70, 69]⟩ else if k = 44 then ⟨#[77, 70]⟩ else if k = 60 then ⟨#[82, 65]⟩ else ⟨#[]⟩

set_option maxRecDepth 4000 in
theorem name_calls (k : Nat) (σ : Store) : ACalls Tryd.prog 57 [.lit (.int .i64 k)] σ fun v σ' => v = .lit (.string (nameB k)) ∧ σ' = σ := by
  refine ACalls.of_awp follows (st := st57) (plans := pl57) (n := 26) Tryd.func57 rfl (by kernel_rfl) (by kernel_rfl) (by kernel_rfl) ?_
  by_cases h0 : k = 0
  · subst h0; simp [nameB]
  by_cases h5 : k = 5
  · subst h5; simp [nameB]
  have g5 : ¬ (k : Int) = 5 := by omega
  by_cases h8 : k = 8
  · subst h8; simp [nameB]
  have g8 : ¬ (k : Int) = 8 := by omega
  by_cases h17 : k = 17
  · subst h17; simp [nameB]
  have g17 : ¬ (k : Int) = 17 := by omega
  by_cases h18 : k = 18
  · subst h18; simp [nameB]
  have g18 : ¬ (k : Int) = 18 := by omega
  by_cases h19 : k = 19
  · subst h19; simp [nameB]
  have g19 : ¬ (k : Int) = 19 := by omega
  by_cases h29 : k = 29
  · subst h29; simp [nameB]
  have g29 : ¬ (k : Int) = 29 := by omega
  by_cases h40 : k = 40
  · subst h40; simp [nameB]
  have g40 : ¬ (k : Int) = 40 := by omega
  by_cases h41 : k = 41
  · subst h41; simp [nameB]
  have g41 : ¬ (k : Int) = 41 := by omega
  by_cases h44 : k = 44
  · subst h44; simp [nameB]
  have g44 : ¬ (k : Int) = 44 := by omega
  by_cases h60 : k = 60
  · subst h60; simp [nameB]
  have g60 : ¬ (k : Int) = 60 := by omega
  simp [nameB, h0, h5, h8, h17, h18, h19, h29, h40, h41, h44, h60, g5, g8, g17, g18, g19, g29, g40, g41, g44, g60]

theorem all_bytes {p : UInt8 → Prop} (h : ∀ n : Fin 256, p (UInt8.ofNat n.val)) (b : UInt8) : p b := by
  have := h ⟨b.toNat, b.toNat_lt⟩
  simpa using this
theorem wrapB (b : UInt8) : IntKind.i64.wrap (b.toNat : Int) = (b.toNat : Int) := by have := b.toNat_lt; exact wrap_i64 (by omega) (by omega)
theorem ord_name (b : UInt8) : b.toNat ≠ 0 → (!(nameB b.toNat).toList.isEmpty) = isOrd b :=
  all_bytes (p := fun b => b.toNat ≠ 0 → (!(nameB b.toNat).toList.isEmpty) = isOrd b) (by decide +kernel) b

set_option maxRecDepth 4000 in
theorem is_calls (b : UInt8) (σ : Store) : ACalls Tryd.prog 36 [byteA b] σ fun v σ' => v = .lit (.bool (isOrd b)) ∧ σ' = σ := by
  refine ACalls.of_awp follows (st := st36) (plans := pl36) (n := 11) Tryd.func36 rfl (by kernel_rfl) (by kernel_rfl) (by kernel_rfl) ?_
  by_cases h0 : b.toNat = 0
  · have : isOrd b = false := by simp [isOrd, h0]
    simp [byteA, h0, this]
  · have h1 := ord_name b h0
    simp [byteA, h0, wrapB]
    refine callK.of (name_calls b.toNat σ) ?_
    rintro v σ' ⟨rfl, rfl⟩
    simp [h0, h1]

theorem fdiv16 (n : Nat) : (n : Int).fdiv (2 ^ min 4 IntKind.i64.bits) = ((n / 16 : Nat) : Int) := by cases n <;> rfl
theorem fdiv64 (n : Nat) : (n : Int).fdiv (2 ^ min 6 IntKind.i64.bits) = ((n / 64 : Nat) : Int) := by cases n <;> rfl
def zm (q : Nat) : UInt8 := if q = 0 then 64 else if q = 1 then 80 else if q = 2 then 96 else 112
def zl (q : Nat) : UInt8 := if q = 0 then 192 else if q = 1 then 208 else if q = 2 then 224 else 240
def zf (q : Nat) : Nat := if q = 0 then 1 else if q = 1 then 1 else if q = 2 then 2 else 0
set_option maxRecDepth 4000 in
theorem zone_calls (r : Nat) (σ : Store) : ACalls Tryd.prog 74 [.lit (.int .i64 r)] σ fun v σ' => v = .tuple [byteA (zm (r / 16)), byteA (zl (r / 16)), .lit (.int .i64 (zf (r / 16))), .lit (.int .i64 9)] ∧ σ' = σ := by
  refine ACalls.of_awp follows (st := st74) (plans := pl74) (n := 14) Tryd.func74 rfl (by kernel_rfl) (by kernel_rfl) (by kernel_rfl) ?_
  obtain ⟨q, hq⟩ : ∃ q, r / 16 = q := ⟨_, rfl⟩
  have hf : (r : Int).fdiv (2 ^ min 4 IntKind.i64.bits) = (q : Int) := by rw [fdiv16, hq]
  rw [hq]
  clear hq
  by_cases h0 : q = 0
  · subst h0; simp [hf, zm, zl, zf, byteA]
  · by_cases h1 : q = 1
    · subst h1; simp [hf, zm, zl, zf, byteA]
    · by_cases h2 : q = 2
      · subst h2; simp [hf, zm, zl, zf, byteA]
      · have e1 : ¬ (q : Int) = 1 := by omega
        have e2 : ¬ (q : Int) = 2 := by omega
        simp [hf, h0, h1, h2, e1, e2, zm, zl, zf, byteA]

/-- Six bits, as a byte. -/
def sixR (r : Nat) : UInt8 := if zf (r / 16) ≤ r % 16 ∧ r % 16 ≤ 9 then zl (r / 16) ||| UInt8.ofNat (r % 16) else zm (r / 16) ||| UInt8.ofNat (r % 16)
def six (n : Nat) : UInt8 := sixR (n % 64)
theorem and63 (n : Nat) (hn : n < 4096) : pureBin .and (.int .i64 (n : Int)) (.int .i64 63) = some (.int .i64 ((n % 64 : Nat) : Int)) := by
  have e3 : n &&& 63 = n % 64 := Nat.and_two_pow_sub_one_eq_mod n 6
  have := and_i64 n 63 (by omega) (by omega)
  rw [e3] at this; exact this
theorem and15 (n : Nat) (hn : n < 4096) : pureBin .and (.int .i64 (n : Int)) (.int .i64 15) = some (.int .i64 ((n % 16 : Nat) : Int)) := by
  have e3 : n &&& 15 = n % 16 := Nat.and_two_pow_sub_one_eq_mod n 4
  have := and_i64 n 15 (by omega) (by omega)
  rw [e3] at this; exact this

set_option maxRecDepth 4000 in
theorem six_calls (n : Nat) (hn : n < 4096) (σ : Store) : ACalls Tryd.prog 65 [.lit (.int .i64 n)] σ fun v σ' => v = byteA (six n) ∧ σ' = σ := by
  refine ACalls.of_awp follows (st := st65) (plans := pl65) (n := 35) Tryd.func65 rfl (by kernel_rfl) (by kernel_rfl) (by kernel_rfl) ?_
  obtain ⟨r, hr⟩ : ∃ r, n % 64 = r := ⟨_, rfl⟩
  have h1 := and63 n hn
  rw [hr] at h1
  have hr64 : r < 64 := by omega
  have h2 := and15 r (by omega)
  obtain ⟨d, hd⟩ : ∃ d, r % 16 = d := ⟨_, rfl⟩
  rw [hd] at h2
  have hd16 : d < 16 := by omega
  have hz := zone_calls r σ
  obtain ⟨M, hM⟩ : ∃ M, zm (r / 16) = M := ⟨_, rfl⟩
  obtain ⟨L, hL⟩ : ∃ L, zl (r / 16) = L := ⟨_, rfl⟩
  obtain ⟨F, hF⟩ : ∃ F, zf (r / 16) = F := ⟨_, rfl⟩
  obtain ⟨X, hX⟩ : ∃ X, six n = X := ⟨_, rfl⟩
  obtain ⟨B, hB⟩ : ∃ B, UInt8.ofNat d = B := ⟨_, rfl⟩
  have hdB : IntKind.u8.wrap (d : Int) = (B.toNat : Int) := by
    rw [wrap_u8 (by omega) (by omega), ← hB, UInt8.toNat_ofNat']; omega
  have hX1 : F ≤ d ∧ d ≤ 9 → L ||| B = X := fun h => by
    rw [← hX, six, hr, sixR, hF, hd, if_pos h, hL, hB]
  have hX2 : ¬ (F ≤ d ∧ d ≤ 9) → M ||| B = X := fun h => by
    rw [← hX, six, hr, sixR, hF, hd, if_neg h, hM, hB]
  rw [hM, hL, hF] at hz
  rw [hX]
  by_cases c1 : F ≤ d
  · by_cases c2 : d ≤ 9
    · have c2' : (d : Int) ≤ 9 := Int.ofNat_le.2 c2
      have e := hX1 ⟨c1, c2⟩
      simp [-e_pureBin_8, h1]
      refine callK.of hz ?_
      rintro v σ' ⟨rfl, rfl⟩
      simp [-e_pureBin_8, -e_pureBin_9, or_u8, h2, c1, c2', byteA, hdB, e]
    · have c2' : ¬ (d : Int) ≤ 9 := fun h => c2 (Int.ofNat_le.1 h)
      have e := hX2 (fun h => c2 h.2)
      simp [-e_pureBin_8, h1]
      refine callK.of hz ?_
      rintro v σ' ⟨rfl, rfl⟩
      simp [-e_pureBin_8, -e_pureBin_9, or_u8, h2, c1, c2', byteA, hdB, e]
  · have e := hX2 (fun h => c1 h.1)
    simp [-e_pureBin_8, h1]
    refine callK.of hz ?_
    rintro v σ' ⟨rfl, rfl⟩
    simp [-e_pureBin_8, -e_pureBin_9, or_u8, h2, c1, byteA, hdB, e]
end Go.Proofs.YtbeohjinefaaoaaDoor
/-
  The document's numbers: two hexadecimal digits; its table of six bits; which bytes are orders there.
-/
namespace Go.Proofs.YtbeohjinefaaoaaDoor
open Go Go.AL

def dig (c : UInt8) : Nat := if 97 ≤ c.toNat then c.toNat - 97 + 10 else c.toNat - 48
@[simp] theorem wr0 : IntKind.i64.wrap 0 = 0 := by decide
@[simp] theorem wr1 : IntKind.i64.wrap 1 = 1 := by decide
@[simp] theorem wr2 : IntKind.i64.wrap 2 = 2 := by decide

def tabB : Array UInt8 := #[52, 48, 99, 49, 99, 50, 99, 51, 99, 52, 99, 53, 99, 54, 99, 55, 99, 56, 99, 57, 52, 97, 52, 98, 52, 99, 52, 100, 52, 101, 52, 102, 53, 48, 100, 49, 100, 50, 100, 51, 100, 52, 100, 53, 100, 54, 100, 55, 100, 56, 100, 57, 53, 97, 53, 98, 53, 99, 53, 100, 53, 101, 53, 102, 54, 48, 54, 49, 101, 50, 101, 51, 101, 52, 101, 53, 101, 54, 101, 55, 101, 56, 101, 57, 54, 97, 54, 98, 54, 99, 54, 100, 54, 101, 54, 102, 102, 48, 102, 49, 102, 50, 102, 51, 102, 52, 102, 53, 102, 54, 102, 55, 102, 56, 102, 57, 55, 97, 55, 98, 55, 99, 55, 100, 55, 101, 55, 102]
end Go.Proofs.YtbeohjinefaaoaaDoor
/-
  Pointers.
-/
namespace Go.Proofs.YtbeohjinefaaoaaDoor
open Go Go.AL
abbrev ptrA (o : Nat) : AV := .lit (.pointer (some ⟨o, 0, none⟩))
@[simp] theorem byteA_share (b : UInt8) : (byteA b).share = byteA b := nr rfl
@[simp] theorem byteA_drop1 (b : UInt8) : (byteA b).drop1 = byteA b := nr rfl
@[simp] theorem byteA_keep1 (b : UInt8) : (byteA b).keep1 = byteA b := nr rfl
@[simp] theorem byteA_cells (b : UInt8) : (byteA b).cells = [byteA b] := nr rfl
@[simp] theorem byteA_one (b : UInt8) : (byteA b).one = true := nr rfl
@[simp] theorem byteA_solid (b : UInt8) : (byteA b).solid = true := nr rfl
@[simp] theorem byteA_conv (P : Program) (t : TypeId) (b : UInt8) : conv P t (byteA b) = byteA b := nr rfl
end Go.Proofs.YtbeohjinefaaoaaDoor
/-
  The screen as the document has it: cells, fields; in plain Lean.
-/
namespace Go.Sp

structure Cell where
  char : UInt8 := 0
  attr : Bool := false
  fa : UInt8 := 0
  high : UInt8 := 0
  color : UInt8 := 0
  set : UInt8 := 0
  deriving DecidableEq, Inhabited
def Cell.zero : Cell := {}
/-- Six bits of an attribute, without the one that means nothing. -/
def six (b : UInt8) : UInt8 := b &&& 0x3d
def fit (c : Cell) : Cell := if c.attr = true then { c with char := 0, fa := six c.fa } else { c with fa := 0 }
theorem six_six (b : UInt8) : six (six b) = six b := by simp [six, UInt8.and_assoc]
theorem fit_fit (c : Cell) : fit (fit c) = fit c := by
  unfold fit
  by_cases h : c.attr = true <;> simp [h, six_six]
def fitted (c : Cell) : Prop := fit c = c
theorem fitted_fit (c : Cell) : fitted (fit c) := fit_fit c
theorem fitted_zero : fitted .zero := rfl

/-- The place of a number. -/
def wrap (n : Nat) (k : Int) : Nat := (k % (n : Int)).toNat
theorem wrap_lt {n : Nat} (h : 0 < n) (k : Int) : wrap n k < n := by
  unfold wrap
  have h1 := Int.emod_nonneg k (show (n : Int) ≠ 0 by omega)
  have h2 := Int.emod_lt_of_pos k (show (0 : Int) < n by omega)
  omega
/-- Rows and columns of a model, of the usual size or of its own. -/
def dims (model : Nat) (alt : Bool) : Nat × Nat := if alt = true then (if model = 3 then (32, 80) else if model = 4 then (43, 80) else if model = 5 then (27, 132) else (24, 80)) else (24, 80)
structure Sp where
  model : Nat
  alt : Bool
  cells : List Cell
  cursor : Nat
def Sp.rows (s : Sp) : Nat := (dims s.model s.alt).1
def Sp.cols (s : Sp) : Nat := (dims s.model s.alt).2
def Sp.n (s : Sp) : Nat := s.rows * s.cols
structure Sp.good (s : Sp) : Prop where
  model : 2 ≤ s.model ∧ s.model ≤ 5
  len : s.cells.length = s.n
  cursor : s.cursor < s.n
  fit : ∀ c ∈ s.cells, fitted c
theorem dims_bound (m : Nat) (a : Bool) : 24 ≤ (dims m a).1 ∧ (dims m a).1 ≤ 43 ∧ 80 ≤ (dims m a).2 ∧ (dims m a).2 ≤ 132 ∧ 1920 ≤ (dims m a).1 * (dims m a).2 ∧ (dims m a).1 * (dims m a).2 ≤ 3564 := by
  unfold dims
  cases a <;> simp
  (repeat' split) <;> simp
theorem Sp.n_pos (s : Sp) : 0 < s.n := by have := dims_bound s.model s.alt; unfold Sp.n Sp.rows Sp.cols; omega
def Sp.clear (s : Sp) (alt : Bool) : Sp := { s with alt := alt, cells := List.replicate ((dims s.model alt).1 * (dims s.model alt).2) .zero, cursor := 0 }
def Sp.new (model : Nat) : Sp := Sp.clear ⟨model, false, [], 0⟩ false
def Sp.at (s : Sp) (k : Int) : Cell := s.cells[wrap s.n k]?.getD .zero
def Sp.put1 (s : Sp) (i : Nat) (c : Cell) : Sp := { s with cells := s.cells.set i c }
def Sp.set (s : Sp) (k : Int) (c : Cell) : Sp := s.put1 (wrap s.n k) (Sp.fit c)
def Sp.put (s : Sp) (k : Int) (code : UInt8) : Sp := if (s.at k).attr = true then s else s.set k { s.at k with char := code }
def Sp.place (s : Sp) (k : Int) : Sp := { s with cursor := wrap s.n k }
/-- How many attributes. -/
def Sp.count (s : Sp) : Nat := s.cells.countP (·.attr)
def Sp.attrs (s : Sp) : List Nat := (List.range s.cells.length).filter fun i => (s.cells[i]?.getD .zero).attr
theorem Sp.clear_good {s : Sp} (h : 2 ≤ s.model ∧ s.model ≤ 5) (alt : Bool) : (s.clear alt).good := by
  have := dims_bound s.model alt
  refine ⟨h, by simp [Sp.clear, Sp.n, Sp.rows, Sp.cols], ?_, fun c hc => ?_⟩
  · show 0 < (dims s.model alt).1 * (dims s.model alt).2; omega
  · simp [Sp.clear] at hc; rw [hc.2]; exact fitted_zero
theorem Sp.n_put1 (s : Sp) (i : Nat) (c : Cell) : (s.put1 i c).n = s.n := rfl
theorem Sp.good.put1 {s : Sp} (h : s.good) (i : Nat) {c : Cell} (hc : fitted c) : (s.put1 i c).good := by
  refine ⟨h.model, by rw [Sp.n_put1]; simp [Sp.put1, h.len], h.cursor, fun d hd => ?_⟩
  rcases List.mem_or_eq_of_mem_set hd with h' | h'
  · exact h.fit d h'
  · rw [h']; exact hc
theorem Sp.good.set {s : Sp} (h : s.good) (k : Int) (c : Cell) : (s.set k c).good := Sp.good.put1 h _ (fitted_fit c)
theorem Sp.good.place {s : Sp} (h : s.good) (k : Int) : (s.place k).good := ⟨h.model, h.len, wrap_lt s.n_pos k, h.fit⟩
theorem Sp.good.put {s : Sp} (h : s.good) (k : Int) (code : UInt8) : (s.put k code).good := by
  unfold Sp.put; split
  · exact h
  · exact Sp.good.set h _ _

/-! ### Ways to make a screen -/
structure Act where
  what : UInt8
  n : Int
  on : Bool
  code : UInt8
  c : Cell
  text : List UInt8
def putAll (s : Sp) (k : Int) : Nat → List UInt8 → Sp
  | _, [] => s
  | i, c :: l => putAll (s.put (k + i) c) k (i + 1) l
def Sp.act (s : Sp) (a : Act) : Sp :=
  if a.what.toNat % 6 = 0 then s.clear a.on else if a.what.toNat % 6 = 1 then s.place a.n else if a.what.toNat % 6 = 2 then s.put a.n a.code else
  if a.what.toNat % 6 = 3 then s.set a.n { attr := true, fa := a.code } else if a.what.toNat % 6 = 4 then s.set a.n a.c else putAll s (wrap s.n a.n) 0 (a.text.take 200)
theorem putAll_good (k : Int) : ∀ (l : List UInt8) (i : Nat) {s : Sp}, s.good → (putAll s k i l).good
  | [], _, _, h => h
  | _ :: l, i, _, h => putAll_good k l (i + 1) (Sp.good.put h _ _)
theorem Sp.good.act {s : Sp} (h : s.good) (a : Act) : (s.act a).good := by
  unfold Sp.act
  (repeat' split)
  · exact Sp.clear_good h.model _
  · exact h.place _
  · exact Sp.good.put h _ _
  · exact Sp.good.set h _ _
  · exact Sp.good.set h _ _
  · exact putAll_good _ _ _ h
def lays (model : UInt8) (acts : List Act) : Sp := (acts.take 30).foldl Sp.act (Sp.new (2 + model.toNat % 4))
end Go.Sp
/-
  Fields of the screen, as the document has them and as one goes from place to place; in plain Lean.
-/
namespace Go.Sp

def attrAt (l : List Cell) (i : Nat) : Bool := (l[i]?.getD .zero).attr
/-- The last attribute ahead of m, or what there was. -/
def lastA (l : List Cell) (init : Int) : Nat → Int
  | 0 => init
  | m + 1 => if attrAt l m = true then (m : Int) else lastA l init m
/-- Of each place the place of its field's attribute. -/
def startS (l : List Cell) (n : Nat) : Int := lastA l (lastA l (-1) l.length) (n + 1)
/-- The places of the field behind an attribute: as many as come ahead of the next one. -/
def run (l : List Cell) (a : Nat) : Nat → Nat
  | 0 => 0
  | m + 1 => if run l a m = m ∧ attrAt l ((a + m + 1) % l.length) = false then m + 1 else run l a m
def len (l : List Cell) (a : Nat) : Nat := run l a (l.length - 1)
def places (l : List Cell) (a : Nat) : List Nat := (List.range (len l a)).map fun i => (a + i + 1) % l.length
/-- The cells behind a place, once round. -/
def rot (l : List Cell) (a : Nat) : List Cell := l.drop (a + 1) ++ l.take a
def fieldCells (l : List Cell) (a : Nat) : List Cell := (rot l a).takeWhile fun c => !c.attr
/-! ### What is told of fields -/
def Sp.modified (s : Sp) : List Nat := s.attrs.filter fun a => (s.cells[a]?.getD .zero).fa &&& 1 == 1
end Go.Sp
/-
  Sizes of screens, places, models: the program's and the document's.
-/
namespace Go.Proofs.YtbeohjinefaaoaaDoor
open Go Go.AL Go.Sp

/-- Rows and columns, as they may be. -/
structure Dim (r c : Nat) : Prop where
  r1 : 1 ≤ r
  r2 : r ≤ 43
  c1 : 1 ≤ c
  c2 : c ≤ 132
  m : r * c ≤ 3564
  p : 0 < r * c
theorem mul_wrap {r c : Nat} (h : Dim r c) : IntKind.i64.wrap ((r : Int) * (c : Int)) = ((r * c : Nat) : Int) := by
  have := h.m
  rw [← Int.natCast_mul, wrap_i64 (by omega) (by omega)]
def dimA (r c : Nat) : AV := .agg [.lit (.int .i64 r), .lit (.int .i64 c)]

theorem tmod_wrap (n : Int) (m : Nat) (h : 0 < m) : n.tmod m = (wrap m n : Int) - if n.tmod m < 0 then (m : Int) else 0 := by
  unfold wrap
  have h1 := Int.emod_nonneg n (show (m : Int) ≠ 0 by omega)
  have h2 := Int.emod_lt_of_pos n (show (0 : Int) < m by omega)
  have h3 := Int.tmod_eq_emod (a := n) (b := m)
  have h4 : ((n % (m : Int)).toNat : Int) = n % m := Int.toNat_of_nonneg h1
  rw [h4]
  rw [h3]
  split
  · simp; omega
  · rename_i hc
    have h5 : ¬ n % (m : Int) = 0 := fun he => hc (.inr (Int.dvd_of_emod_eq_zero he))
    have h6 : (m : Int).natAbs = m := by simp
    rw [h6]
    rw [if_pos (by omega)]

set_option maxRecDepth 4000 in
theorem rest_calls (n : Int) (m : Nat) (h : 0 < m) (hm : m ≤ 1000000) (σ : Store) : ACalls Tryd.prog 45 [.lit (.int .i64 n), .lit (.int .i64 m)] σ fun v σ' => v = .lit (.int .i64 (wrap m n)) ∧ σ' = σ := by
  have ht := tmod_wrap n m h
  have hw := wrap_lt h n
  have h0 : ¬ m = 0 := by omega
  refine ACalls.of_awp follows (st := st45) (plans := pl45) (n := 14) Tryd.func45 rfl (by kernel_rfl) (by kernel_rfl) (by kernel_rfl) ?_
  by_cases hc : n.tmod m < 0
  · rw [if_pos hc] at ht
    have hs : IntKind.i64.wrap (n.tmod m + (m : Int)) = (wrap m n : Int) := by rw [wrap_i64 (by omega) (by omega)]; omega
    simp [h0, hc, hs]
  · rw [if_neg hc] at ht
    have hs : n.tmod m = (wrap m n : Int) := by omega
    rw [hs] at hc
    simp [h0, hc, hs]

set_option maxRecDepth 4000 in
theorem valid_calls {r c : Nat} (h : Dim r c) (σ : Store) : ACalls Tryd.prog 17 [dimA r c] σ fun v σ' => v = .lit (.bool true) ∧ σ' = σ := by
  have hm := mul_wrap h
  obtain ⟨h1, h2, h3, h4, h5, h6⟩ := h
  have k1 : (1 : Int) ≤ r := by omega
  have k2 : (r : Int) ≤ 43 := by omega
  have k3 : (1 : Int) ≤ c := by omega
  have k4 : (c : Int) ≤ 132 := by omega
  have k5 : (((r * c : Nat) : Int)) ≤ 3564 := by omega
  generalize r * c = m at *
  refine ACalls.of_awp follows (st := st17) (plans := pl17) (n := 29) Tryd.func17 rfl (by kernel_rfl) (by kernel_rfl) (by kernel_rfl) ?_
  simp +contextual [dimA, k1, k2, k3, k4, k5, hm]
set_option maxRecDepth 4000 in
theorem cells_calls {r c : Nat} (h : Dim r c) (σ : Store) : ACalls Tryd.prog 46 [dimA r c] σ fun v σ' => v = .lit (.int .i64 ((r * c : Nat) : Int)) ∧ σ' = σ := by
  have hm := mul_wrap h
  have hv := valid_calls h
  unfold dimA at hv
  generalize r * c = m at *
  refine ACalls.of_awp follows (st := st46) (plans := pl46) (n := 11) Tryd.func46 rfl (by kernel_rfl) (by kernel_rfl) (by kernel_rfl) ?_
  simp [dimA]
  intro p hp
  refine callK.of (hv _) ?_
  rintro v σ' ⟨rfl, rfl⟩
  simp [hm, hp]
set_option maxRecDepth 4000 in
theorem wrap_calls {r c : Nat} (h : Dim r c) (n : Int) (σ : Store) : ACalls Tryd.prog 25 [dimA r c, .lit (.int .i64 n)] σ fun v σ' => v = .lit (.int .i64 (wrap (r * c) n)) ∧ σ' = σ := by
  have hv := valid_calls h
  have hc := cells_calls h
  have hr := rest_calls n (r * c) h.p (by have := h.m; omega)
  unfold dimA at hv hc
  generalize r * c = m at *
  refine ACalls.of_awp follows (st := st25) (plans := pl25) (n := 12) Tryd.func25 rfl (by kernel_rfl) (by kernel_rfl) (by kernel_rfl) ?_
  simp [dimA]
  intro p hp
  refine callK.of (hv _) ?_
  rintro v σ' ⟨rfl, rfl⟩
  simp
  refine callK.of (hc _) ?_
  rintro v σ' ⟨rfl, rfl⟩
  simp
  refine callK.of (hr _) ?_
  rintro v σ' ⟨rfl, rfl⟩
  simp [hp]
end Go.Proofs.YtbeohjinefaaoaaDoor
