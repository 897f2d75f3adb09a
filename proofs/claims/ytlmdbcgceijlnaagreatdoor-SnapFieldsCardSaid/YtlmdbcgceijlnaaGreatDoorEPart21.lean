/-
  strings.Builder as abstract states: contracts.
-/
import Derived.Test.YtlmdbcgceijlnaaGreatDoorEPart20
set_option linter.unusedSimpArgs false
set_option linter.unusedVariables false
namespace Go.Proofs.YtlmdbcgceijlnaaGreatDoor
open Go Go.AL Go.RowKit

/-- A builder's state: without a row (what lies in its first cell), or with one. -/
inductive Bst where
  | nil (p : Value)
  | row (g n cap : Nat) (cur : Array Value)
def Bst.v : Bst → Value
  | .nil _ => .slice none 0 0
  | .row g n cap _ => .slice (some ⟨g, 0, none⟩) n cap
def Bst.p (z : Nat) : Bst → Value
  | .nil p => p
  | .row .. => .pointer (some ⟨z, 0, none⟩)
def bldS (z : Nat) : Bst → Store → Store
  | .nil p, σ => σ.put z (rawA 109 #[p, .slice none 0 0])
  | .row g n cap cur, σ => (σ.put g (rawA 5 cur)).put z (rawA 109 #[.pointer (some ⟨z, 0, none⟩), .slice (some ⟨g, 0, none⟩) n cap])
def BldOk (z : Nat) (l : List UInt8) (σ : Store) : Bst → Prop
  | .nil p => l = [] ∧ (p = .pointer none ∨ p = .pointer (some ⟨z, 0, none⟩)) ∧ σ (mkey z) = none
  | .row g n cap cur => l ≠ [] ∧ n = l.length ∧ n ≤ cap ∧ cap ≤ maxLen ∧ cur.size = cap ∧ cur.toList.take n = Lib.byteCells l ∧ σ (mkey z) = none ∧ σ (mkey g) = none ∧ ¬ g = z
theorem BldOk.key {z : Nat} {l : List UInt8} {σ : Store} {x : Bst} (h : BldOk z l σ x) : σ (mkey z) = none := by
  cases x with
  | nil p => exact h.2.2
  | row g n cap cur => exact h.2.2.2.2.2.2.1
theorem bldS_sub {z : Nat} {l : List UInt8} {σ : Store} {x : Bst} (h : BldOk z l σ x) : Store.sub σ (bldS z x σ) := by
  cases x with
  | nil p => exact sub_put_self _ _ _ h.2.2
  | row g n cap cur =>
    obtain ⟨_, _, _, _, _, _, h2, h4, h5⟩ := h
    exact Store.sub_trans (sub_put_self _ _ _ h4) (sub_put_self _ _ _ (by rw [put_mkey, if_neg (fun e => h5 e.symm)]; exact h2))
theorem bldS_nat (z : Nat) (x : Bst) (σ : Store) (o : Nat) : (bldS z x σ) o = σ o := by
  cases x <;> simp [bldS]
theorem bldW_get {D : Nat → Prop} {G : Ghost} {w : World} {z : Nat} {l : List UInt8} {σ : Store} {x : Bst} (hO : BldOk z l σ x) (hW : WR D G (bldS z x σ) w) :
    BldW w z (x.p z) x.v (Lib.byteCells l) ∧ (x.p z = .pointer none ∨ x.p z = .pointer (some ⟨z, 0, none⟩)) ∧ WR D G σ w ∧ ∀ k, (k = z ∨ some k = x.v.ownBlock) → D k ∧ Idle G σ k ∧ σ (mkey k) = none ∧ GL.vars k = none := by
  have hW0 := hW.forget (bldS_sub hO)
  cases x with
  | nil p =>
    obtain ⟨rfl, hp, h2⟩ := hO
    obtain ⟨d, i, hh⟩ := hW.raw (k := z) (T := 109) (cur := #[p, .slice none 0 0]) (by simp [bldS])
    refine ⟨⟨hh, World.ownsRow_nil _ _ _ _, by simp [Bst.v, Value.ownBlock]⟩, hp, hW0, ?_⟩
    rintro k (rfl | hk)
    · exact ⟨d, i.put, h2, hW.vars_key (k := k) (cs := rawA 109 #[p, .slice none 0 0]) (by simp [bldS])⟩
    · simp [Bst.v, Value.ownBlock] at hk
  | row g n cap cur =>
    obtain ⟨h0, rfl, hn, hc, hs, ht, h2, h4, h5⟩ := hO
    obtain ⟨d, i, hh⟩ := hW.raw (k := z) (T := 109) (cur := #[.pointer (some ⟨z, 0, none⟩), .slice (some ⟨g, 0, none⟩) l.length cap]) (by simp [bldS])
    obtain ⟨d', i', hh'⟩ := hW.raw (k := g) (T := 5) (cur := cur) (by simp [bldS, h5])
    refine ⟨⟨hh, ?_, ?_⟩, .inr rfl, hW0, ?_⟩
    · rw [Lib.byteCells_length]
      exact ⟨by rw [Lib.byteCells_length, Nat.mul_one], .inr ⟨g, cap, cur, rfl, Nat.zero_le _, hh', hn, hc, by omega, by rw [Nat.mul_one]; exact ht⟩⟩
    · simp [Bst.v, Value.ownBlock, h5]
    · rintro k (rfl | hk)
      · exact ⟨d, i.put.put, h2, hW.vars_key (k := k) (cs := rawA 109 #[.pointer (some ⟨k, 0, none⟩), .slice (some ⟨g, 0, none⟩) l.length cap]) (by simp [bldS])⟩
      · simp [Bst.v, Value.ownBlock] at hk
        subst hk
        exact ⟨d', i'.put.put, h4, hW.vars_key (k := k) (cs := rawA 5 cur) (by simp [bldS, h5])⟩
theorem only_WR {D : Nat → Prop} {G : Ghost} {w w' : World} {z : Nat} {v : Value} {σ : Store} (hW : WR D G σ w) (hB : ∀ k, (k = z ∨ some k = v.ownBlock) → D k ∧ Idle G σ k ∧ σ (mkey k) = none ∧ GL.vars k = none) (hD : ∀ k, w.heap.size ≤ k → D k) (h : OnlyW z v w w') : WR D G σ w' ∧ Ext D G w G w' := by
  refine ⟨hW.turn (fun k => k = z ∨ some k = v.ownBlock) (fun k hk => ⟨(hB k hk).2.1, (hB k hk).2.2.1⟩) (fun k hk => (hB k hk).2.2.2) fun k hk hn => h.block k hk (fun e => hn (.inl e)) (fun e => hn (.inr e)), ⟨h.os, h.tape, h.output, h.size, fun _ _ _ h => h, fun k hk => ⟨?_, rfl, rfl⟩⟩⟩
  rcases Nat.lt_or_ge k w.heap.size with hlt | hge
  · exact h.block k hlt (fun e => hk (hB k (.inl e)).1) (fun e => hk (hB k (.inr e)).1)
  · exact absurd (hD k hge) hk
theorem bldW_set {D : Nat → Prop} {G : Ghost} {w w' : World} {z : Nat} {v v' : Value} {l : List UInt8} {σ : Store} (hW : WR D G σ w) (hB : ∀ k, (k = z ∨ some k = v.ownBlock) → D k ∧ Idle G σ k ∧ σ (mkey k) = none ∧ GL.vars k = none) (hD : ∀ k, w.heap.size ≤ k → D k) (h : OnlyW z v w w')
    (hb : BldW w' z (.pointer (some ⟨z, 0, none⟩)) v' (Lib.byteCells l)) (hl : l ≠ []) (hv : v'.ownBlock = v.ownBlock ∨ v'.ownBlock = some w.heap.size) : ∃ x, BldOk z l σ x ∧ WR D G (bldS z x σ) w' ∧ Ext D G w G w' := by
  obtain ⟨hW', hx⟩ := only_WR hW hB hD h
  obtain ⟨dz, iz, kz, vz⟩ := hB z (.inl rfl)
  have hown := hb.own
  rw [Lib.byteCells_length] at hown
  rcases hown.2 with ⟨rfl, h0⟩ | ⟨g, cap, cur, rfl, _, hg, hn, hc, hs, ht⟩
  · exact absurd (List.eq_nil_of_length_eq_zero h0) hl
  · have hgz : ¬ g = z := fun e => hb.ne (by simp [Value.ownBlock, e])
    have hgB : D g ∧ Idle G σ g ∧ σ (mkey g) = none ∧ GL.vars g = none := by
      rcases hv with e | e
      · exact hB g (.inr (by rw [← e]; simp [Value.ownBlock]))
      · have : g = w.heap.size := by simpa [Value.ownBlock] using e
        subst this
        exact ⟨hD _ (Nat.le_refl _), hW.fresh_idle, hW.fresh_key, hW.vars_fresh⟩
    obtain ⟨dg, ig, kg, vg⟩ := hgB
    refine ⟨.row g l.length cap cur, ⟨hl, rfl, hn, hc, by omega, by rw [Nat.mul_one] at ht; exact ht, kz, kg, hgz⟩, ?_, hx⟩
    exact (hW'.putRaw hg dg ig vg).putRaw hb.blk dz iz.to_put vz
theorem OnlyW.refl (b : Nat) (v : Value) (w : World) : OnlyW b v w w := ⟨rfl, rfl, rfl, Nat.le_refl _, fun _ _ _ _ => rfl⟩
theorem args2 {cargs : Array Value} (h : 2 = cargs.size) : ∃ c0 c1, cargs = #[c0, c1] := ⟨cargs[0], cargs[1], by
  apply Array.ext
  · simp [← h]
  · intro i h1 h2
    match i with
    | 0 => rfl
    | 1 => rfl
    | _ + 2 => simp at h2; omega⟩
theorem args1 {cargs : Array Value} (h : 1 = cargs.size) : ∃ c0, cargs = #[c0] := ⟨cargs[0], by
  apply Array.ext
  · simp [← h]
  · intro i h1 h2
    match i with
    | 0 => rfl
    | _ + 1 => simp at h2⟩
theorem strCells_data (s : ByteArray) (l : List UInt8) : Lib.byteCells l ++ Lib.strCells s = Lib.byteCells (l ++ s.data.toList) := by rw [Lib.strCells_eq, Lib.byteCells_append]
theorem wstr_calls (z : Nat) (x : Bst) (l : List UInt8) (s : ByteArray) (σ : Store) (hO : BldOk z l σ x) (hlen : l.length + s.size ≤ 140737488355328) (hs : s.data.toList ≠ []) :
    ACalls Tryz.prog 61 [ptrA z, .lit (.string s)] (bldS z x σ) fun v σ' => v = .tuple [.lit (.int .i64 s.size), .lit .nilIface] ∧ ∃ x', BldOk z (l ++ s.data.toList) σ x' ∧ σ' = bldS z x' σ := by
  intro D G w cargs hl hargs hW hfresh
  obtain ⟨c0, c1, rfl⟩ := args2 (by simpa using hl)
  have h0 := (hargs 0 _ c0 rfl rfl).1.lit_eq rfl
  have h1 := (hargs 1 _ c1 rfl rfl).1.lit_eq rfl
  subst h0 h1
  obtain ⟨hb, hp, hW0, hB⟩ := bldW_get hO hW
  have hne : l ++ s.data.toList ≠ [] := fun e => hs (List.append_eq_nil_iff.1 e).2
  have hlen' : (Lib.byteCells l).length + s.size ≤ 140737488355328 := by rw [Lib.byteCells_length]; exact hlen
  have fin : ∀ (e : Ending) (w' : World), (e = .returned (.tuple #[.int .i64 s.size, .nilIface]) ∧ ∃ v', BldW w' z (.pointer (some ⟨z, 0, none⟩)) v' (Lib.byteCells l ++ Lib.strCells s) ∧ OnlyW z x.v w w' ∧ (v'.ownBlock = x.v.ownBlock ∨ v'.ownBlock = some w.heap.size)) →
      ∃ v cv G' σ', e = .returned cv ∧ (v = .tuple [.lit (.int .i64 s.size), .lit .nilIface] ∧ ∃ x', BldOk z (l ++ s.data.toList) σ x' ∧ σ' = bldS z x' σ) ∧ VR G'.F v cv ∧ OwnAt G' D .acc v cv ∧ WR D G' σ' w' ∧ Ext D G w G' w' := by
    rintro e w' ⟨rfl, v', q1, q2, q3⟩
    rw [strCells_data] at q1
    obtain ⟨x', r1, r2, r3⟩ := bldW_set hW0 hB hfresh q2 q1 hne q3
    refine ⟨_, _, G, _, rfl, ⟨rfl, x', r1, rfl⟩, .tuple _ _ rfl fun i c u hc hu => ?_, OwnAt.of_plain rfl, r2, r3⟩
    match i with
    | 0 => simp at hc hu; subst hc hu; exact .lit _
    | 1 => simp at hc hu; subst hc hu; exact .lit _
    | _ + 2 => simp at hc
  rcases hp with hp | hp
  · rw [hp] at hb
    have hsh : w.shape? z = some (109, 2) := by have := hb.blk; simp [World.shape?, this]
    refine (oWriteUsed z x.v (Lib.byteCells l) s _ (hb.used _) hlen' w (.pointer none) (oCopyFresh z w hb.cell0 hsh (Lib.frozen_of_heap hb.blk 0)) ⟨rfl, rfl, rfl, by simp [World.setCell], fun k hk hkb _ => Below.heap_setCell _ _ _ _ hkb⟩ (by simp [World.setCell])).mono fin
  · rw [hp] at hb
    exact (oWriteUsed z x.v (Lib.byteCells l) s w hb hlen' w (.pointer none) (oCopyUsed z w hb.cell0) (OnlyW.refl _ _ _) rfl).mono fin
theorem bstr_calls (z : Nat) (x : Bst) (l : List UInt8) (σ : Store) (hO : BldOk z l σ x) (hl : l ≠ []) : ACalls Tryz.prog 62 [ptrA z] (bldS z x σ) fun v σ' => v = .lit (.string (toB l)) ∧ σ' = σ := by
  intro D G w cargs hl' hargs hW hfresh
  obtain ⟨c0, rfl⟩ := args1 (by simpa using hl')
  have h0 := (hargs 0 _ c0 rfl rfl).1.lit_eq rfl
  subst h0
  obtain ⟨hb, hp, hW0, hB⟩ := bldW_get hO hW
  refine (oString z _ _ l w hb hl).mono ?_
  rintro e w' ⟨rfl, q⟩
  obtain ⟨r1, r2⟩ := only_WR hW0 hB hfresh q
  exact ⟨_, _, G, _, rfl, ⟨rfl, rfl⟩, .lit _, OwnAt.of_plain rfl, r1, r2⟩
end Go.Proofs.YtlmdbcgceijlnaaGreatDoor
/-
  Join and Itoa as abstract states.
-/
namespace Go.Proofs.YtlmdbcgceijlnaaGreatDoor
open Go Go.AL Go.RowKit

theorem below_WR {D : Nat → Prop} {G : Ghost} {σ : Store} {w w' : World} (hW : WR D G σ w) (hD : ∀ k, w.heap.size ≤ k → D k) (h : Below w.heap.size w w') : WR D G σ w' ∧ Ext D G w G w' := by
  obtain ⟨h1, h2, h3, h4, h5⟩ := h
  refine ⟨hW.grow h5 fun k hd _ => hd, ⟨h1, h2, h3, h4, fun _ _ _ h => h, fun k hk => ⟨?_, rfl, rfl⟩⟩⟩
  rcases Nat.lt_or_ge k w.heap.size with hlt | hge
  · exact h5 k hlt
  · exact absurd (hD k hge) hk
theorem grow_below (w : World) (k : Nat) (os : Array Obj) : Below w.heap.size w (Go.Sort.grow (w.drewN k) os) := by
  refine ⟨rfl, rfl, rfl, ?_, fun i hi => ?_⟩
  · simp [Go.Sort.grow, World.drewN]
  · simp only [Go.Sort.grow, World.drewN]
    rw [Array.getElem?_append_left hi]
theorem tab0 {D : Nat → Prop} {G : Ghost} {σ : Store} {w : World} (hW : WR D G σ w) : Lib.TabIs Tryz.prog w "internal/strconv.uint64pow10" .u64 Lib.pow10Tab := by
  obtain ⟨_, T, fz, h⟩ := hW.vars 0 pow10A rfl
  unfold Lib.TabIs World.var?
  rw [show Tryz.prog.globalNamed "internal/strconv.uint64pow10" = some 0 by kernel_rfl]
  simp [h, pow10A]
theorem itoaZ_calls (n : Int) (h0 : -9223372036854775808 ≤ n) (h1 : n ≤ 9223372036854775807) (σ : Store) : ACalls Tryz.prog 73 [.lit (.int .i64 n)] σ fun v σ' => v = .lit (.string (toB (Lib.itoa n))) ∧ σ' = σ := by
  intro D G w cargs hl hargs hW hfresh
  obtain ⟨c0, rfl⟩ := args1 (by simpa using hl)
  have e0 := (hargs 0 _ c0 rfl rfl).1.lit_eq rfl
  subst e0
  refine (itoa_run n h0 h1 w (tab0 hW)).mono ?_
  rintro e w' ⟨rfl, k, os, rfl⟩
  obtain ⟨r1, r2⟩ := below_WR hW hfresh (grow_below w k os)
  exact ⟨_, _, G, _, rfl, ⟨rfl, rfl⟩, .lit _, OwnAt.of_plain rfl, r1, r2⟩
theorem flat_strs (l : List (List UInt8)) : flat (strsA l) = strsA l := by
  induction l with
  | nil => rfl
  | cons a l ih => simp only [flat, strsA, List.map_cons, List.flatMap_cons] at ih ⊢; rw [ih]; rfl
theorem join_calls (own : Bool) (l : List (List UInt8)) (sep : List UInt8) (hN : l.length ≤ 140737488355328) (hlen : (Lib.join l sep).length ≤ 140737488355328) (σ : Store) :
    ACalls Tryz.prog 77 [.list own 1 (strsA l), .lit (.string (toB sep))] σ fun v σ' => v = .lit (.string (toB (Lib.join l sep))) ∧ σ' = σ := by
  intro D G w cargs hl hargs hW hfresh
  obtain ⟨c0, c1, rfl⟩ := args2 (by simpa using hl)
  have hv := (hargs 0 _ c0 rfl rfl).1
  have e1 := (hargs 1 _ c1 rfl rfl).1.lit_eq rfl
  subst e1
  have fin0 : ∀ (e : Ending) (w' : World), (e = .returned (.string ⟨#[]⟩) ∧ w' = w) → l = [] → ∃ v cv G' σ', e = .returned cv ∧ (v = .lit (.string (toB (Lib.join l sep))) ∧ σ' = σ) ∧ VR G'.F v cv ∧ OwnAt G' D .acc v cv ∧ WR D G' σ' w' ∧ Ext D G w G' w' := by
    rintro e w' ⟨rfl, rfl⟩ rfl
    exact ⟨_, _, G, _, rfl, ⟨rfl, rfl⟩, .lit _, OwnAt.of_plain rfl, hW, Ext.refl ..⟩
  generalize hL : AV.list own 1 (strsA l) = L at hv
  cases hv with
  | nil o s =>
    have : l = [] := by injection hL with _ _ h; simpa [strsA] using h
    exact (join_none_run none 0 (toB sep) w).mono fun e w' h => fin0 e w' h this
  | void s a =>
    have : l = [] := by injection hL with _ _ h; simpa [strsA] using h
    exact (join_none_run (some a) 0 (toB sep) w).mono fun e w' h => fin0 e w' h this
  | top => cases hL
  | lit => cases hL
  | fptr => cases hL
  | func => cases hL
  | iface => cases hL
  | agg => cases hL
  | tuple => cases hL
  | row => cases hL
  | list o s vs g off n cap us hn hc hw hul hF hvr =>
    injection hL with _ _ h3
    subst h3
    have hnl : n = l.length := by simpa [strsA] using hn
    subst hnl
    rw [flat_strs] at hul hvr
    have hul' : us.length = l.length := by simpa [strsA] using hul
    have hu : ∀ j x, (l.map toB)[j]? = some x → us[j]? = some (Value.string x) := fun j x hj => by
      have hjl : j < l.length := by have := (List.getElem?_eq_some_iff.1 hj).1; simpa using this
      have hus : us[j]? = some (us[j]'(by omega)) := List.getElem?_eq_getElem _
      have h2 := hvr j (.lit (.string x)) _ (by
        rw [List.getElem?_map] at hj
        cases e : l[j]? with
        | none => rw [e] at hj; cases hj
        | some y =>
          rw [e] at hj
          simp only [Option.map_some, Option.some.injEq] at hj
          simp [strsA, e, hj]) hus
      rw [hus, h2.lit_eq rfl]
    have hcells : ∀ (j : Nat) x, (l.map toB)[j]? = some x → w.cell? ⟨g, off + j, none⟩ = some (.string x) := fun j x hj => by
      obtain ⟨cur, e, fz, q1, q2⟩ := hW.frz _ _ _ (hF j _ (hu j x hj)).1
      simp [World.cell?, q1, q2]
    by_cases hl0 : l = []
    · subst hl0
      exact (join_none_run (some ⟨g, off, none⟩) cap (toB sep) w).mono fun e w' h => fin0 e w' h rfl
    · have hg : g < w.heap.size := by
        obtain ⟨x, hx⟩ : ∃ x, (l.map toB)[0]? = some x := by
          cases l with
          | nil => exact absurd rfl hl0
          | cons a b => exact ⟨_, rfl⟩
        obtain ⟨cur, e, fz, q1, q2⟩ := hW.frz _ _ _ (hF 0 _ (hu 0 x hx)).1
        exact (Array.getElem?_eq_some_iff.1 q1).1
      have e2 : (l.map toB).map (·.data.toList) = l := by
        rw [List.map_map]
        exact (List.map_congr_left fun a _ => by simp [toB]).trans (List.map_id l)
      have e3 : (toB sep).data.toList = sep := by simp [toB]
      have hr := join_run g off cap (l.map toB) (toB sep) w hcells hg (by simpa using hN) (by simpa using hc) (by rw [e2, e3]; exact hlen)
      rw [e2, e3, List.length_map] at hr
      refine hr.mono ?_
      rintro e w' ⟨rfl, hb⟩
      obtain ⟨r1, r2⟩ := below_WR hW hfresh hb
      exact ⟨_, _, G, _, rfl, ⟨rfl, rfl⟩, .lit _, OwnAt.of_plain rfl, r1, r2⟩
end Go.Proofs.YtlmdbcgceijlnaaGreatDoor
/-
  The document's places of a field.
-/
namespace Go.Proofs.YtlmdbcgceijlnaaGreatDoor
open Go Go.AL Go.Sp

set_option maxRecDepth 8000 in
theorem rplaces_calls {x y : Nat} {s : Sp} {σ : Store} (h : Ref σ x y s) (a : Nat) (ha : a < s.n) (hat : attrAt s.cells a = true) : ACalls Tryz.prog 81 [ptrA x, .lit (.int .i64 a)] σ fun v σ' => v = .list false 1 (natsA (Sp.places s.cells a)) ∧ σ' = σ := by
  have ho := h.obj
  have hr := h.row
  have hln := h.good.len
  have hn := s.n_le
  have hnp := s.n_pos
  have hwp := fun τ (hτ : Ref τ x y s) => rswrap_calls hτ (a : Int)
  rw [wrap_of_lt ha] at hwp
  have hsc := starts_calls h
  unfold rfO at ho
  have hac : a < s.cells.length := by omega
  have h1 : (cellsO s.cells)[a * 6 + 1]? = some (.lit (.bool true)) := by
    rw [cellsO_get1 hac (by omega)]
    have : s.cells[a].attr = true := by have := hat; simp [attrAt, hac] at this; exact this
    rw [show (cellC s.cells[a])[1]? = some (.lit (.bool s.cells[a].attr)) from rfl, this]
  have hsl : (intsA (starts s)).length = s.n := by simp [starts]
  have hlen := Sp.len_lt hac
  refine ACalls.of_awp follows (st := st81) (plans := pl81) (n := 52) Tryz.func81 rfl (by kernel_rfl) (by kernel_rfl) (by kernel_rfl) ?_
  simp
  refine callK.of (hwp _ h) ?_
  rintro v σ' ⟨rfl, rfl⟩
  simp [ho, rowC, ha, hr, h1]
  refine callK.of hsc ?_
  rintro v σ' ⟨p, hp, rfl, rfl⟩
  obtain ⟨f1, f2, f3, f4⟩ := h.fresh hp
  simp [rowC]
  refine codeK.loop follows (st := st81) (plans := pl81) (X := Nat) (fun k => k ≤ Sp.len s.cells a)
    (fun k => [(0, ptrA x), (1, .lit (.int .i64 a)), (5, rowC p s.n), (6, .list true 1 (natsA ((Sp.places s.cells a).take k))), (7, .lit (.int .i64 (k + 1 : Nat)))])
    (fun _ => σ'.upd p (intsA (starts s))) (fun k => Sp.len s.cells a - k) 0 (by kernel_rfl) (by simp) (by simp [rowC, natsA, le_row]) (Store.sub_refl _) fun k hk => ?_
  have hw2 : IntKind.i64.wrap ((k : Int) + 1 + 1) = (k : Int) + 1 + 1 := wrap_i64 (by omega) (by omega)
  have hw3 : IntKind.i64.wrap ((a : Int) + ((k : Int) + 1)) = ((a + (k + 1) : Nat) : Int) := by rw [wrap_i64 (by omega) (by omega)]; omega
  have hmod := fun τ => rmod_calls ((a + (k + 1) : Nat) : Int) s.n hnp (by omega) τ
  rw [wrap_mod hnp] at hmod
  have hml : (a + (k + 1)) % s.n < s.n := Nat.mod_lt _ hnp
  have hst := starts_at hml
  by_cases hkn : k + 1 < s.n
  · have hkn' : (k : Int) + 1 < s.n := by omega
    have hsp := Sp.startS_places hat hac (i := k + 1) (by omega) (by omega) (by omega)
    rw [hln] at hsp
    by_cases hlt : k < Sp.len s.cells a
    · have hpt := places_take_succ (s := s) (a := a) hlt
      rw [hln, show a + k + 1 = a + (k + 1) by omega] at hpt
      rw [hsp.2 (by omega)] at hst
      generalize (a + (k + 1)) % s.n = m at *
      have e1 : natsA ((Sp.places s.cells a).take (k + 1)) = natsA ((Sp.places s.cells a).take k) ++ [.lit (.int .i64 (m : Nat))] := by rw [hpt, natsA_append]; rfl
      have hl3 : ((Sp.places s.cells a).take k).length ≤ k := by simp; omega
      simp [ho, rowC, f1, hkn', hw3]
      refine callK.of (hmod _) ?_
      rintro v σ' ⟨rfl, rfl⟩
      simp [hml, hst]
      refine ⟨by omega, by omega, k + 1, by omega, by omega, by rw [e1]; exact AV.le_refl _, ?_⟩
      rw [hw2]
      exact AV.le_refl _
    · obtain rfl : k = Sp.len s.cells a := by omega
      have hne : ¬ startS s.cells ((a + (Sp.len s.cells a + 1)) % s.n) = (a : Int) := fun e => by have := hsp.1 e; omega
      have hall : (Sp.places s.cells a).take (Sp.len s.cells a) = Sp.places s.cells a := List.take_of_length_le (by rw [places_length']; exact Nat.le_refl _)
      rw [hall]
      generalize startS s.cells ((a + (Sp.len s.cells a + 1)) % s.n) = z at *
      generalize (a + (Sp.len s.cells a + 1)) % s.n = m at *
      simp [ho, rowC, f1, hkn', hw3]
      refine callK.of (hmod _) ?_
      rintro v σ' ⟨rfl, rfl⟩
      simp [hml, hst, hne]
      exact Store.sub_upd hp (Store.sub_refl _)
  · obtain rfl : k = Sp.len s.cells a := by omega
    have hkn' : ¬ ((Sp.len s.cells a : Nat) : Int) + 1 < s.n := by omega
    have hall : (Sp.places s.cells a).take (Sp.len s.cells a) = Sp.places s.cells a := List.take_of_length_le (by rw [places_length']; exact Nat.le_refl _)
    rw [hall]
    simp [ho, rowC, f1, hkn']
    exact Store.sub_upd hp (Store.sub_refl _)
end Go.Proofs.YtlmdbcgceijlnaaGreatDoor
/-
  Blanks cut off signs, or off their bytes: the same.
-/
namespace Go.Proofs.YtlmdbcgceijlnaaGreatDoor
open Go Go.AL Go.Sp

theorem trimN_app (x y : List UInt8) : ∀ m, m ≤ x.length → trimN (x ++ y) m = trimN x m
  | 0, _ => rfl
  | m + 1, h => by
    have e : (x ++ y).getD m 0 = x.getD m 0 := by
      rw [List.getD_eq_getElem?_getD, List.getD_eq_getElem?_getD, List.getElem?_append_left (by omega)]
    rw [trimN, trimN, e, trimN_app x y m (by omega)]
theorem trimN_le (l : List UInt8) : ∀ m, trimN l m ≤ m
  | 0 => Nat.le_refl _
  | m + 1 => by
    rw [trimN]
    split
    · have := trimN_le l m; omega
    · omega
theorem trimB_blank (x : List UInt8) : trimB (x ++ [32]) = trimB x := by
  unfold trimB
  have e : (x ++ [32]).length = x.length + 1 := by simp
  have h := trimN_le x x.length
  rw [e, trimN, if_pos (by simp), trimN_app x [32] _ (Nat.le_refl _), List.take_append_of_le_length h]
theorem trimB_keep (x : List UInt8) (c : UInt8) (hc : ¬ c = 32) : trimB (x ++ [c]) = x ++ [c] := by
  unfold trimB
  have e : (x ++ [c]).length = x.length + 1 := by simp
  rw [e, trimN, if_neg (by simpa using hc), List.take_of_length_le (by simp)]
/-- How many of the first m signs stay. -/
def trimR (l : List Nat) : Nat → Nat
  | 0 => 0
  | m + 1 => if l.getD m 0 = 32 then trimR l m else m + 1
def bytesTo (l : List Nat) (m : Nat) : List UInt8 := (runesBytes ((l.take m).map fun n : Nat => (n : Int))).data.toList
set_option maxRecDepth 100000 in
theorem enc_last (r : Nat) (hr : ¬ r = 32) : ∃ i c, (Utf8.encode (r : Int)).data.toList = i ++ [c] ∧ ¬ c = 32 := by
  have big : ∀ k : Nat, k < 64 → ¬ UInt8.ofNat (0x80 + k) = 32 := by decide
  have hm : ∀ k : Nat, ¬ UInt8.ofNat (0x80 + k % 64) = 32 := fun k => big _ (Nat.mod_lt _ (by omega))
  unfold Utf8.encode
  dsimp only
  generalize hc : (if Utf8.valid (r : Int) = true then (r : Int).toNat else Utf8.runeError) = c
  have hc32 : ¬ c = 32 := by
    rw [← hc]
    split
    · simpa using hr
    · show ¬ 65533 = 32; omega
  split
  · next h =>
    refine ⟨[], UInt8.ofNat c, by simp, fun e => hc32 ?_⟩
    have := congrArg UInt8.toNat e
    simp at this
    omega
  · split
    · exact ⟨[UInt8.ofNat (0xC0 + c / 64)], UInt8.ofNat (0x80 + c % 64), by simp, hm _⟩
    · split
      · exact ⟨[UInt8.ofNat (0xE0 + c / 4096), UInt8.ofNat (0x80 + c / 64 % 64)], UInt8.ofNat (0x80 + c % 64), by simp, hm _⟩
      · exact ⟨[UInt8.ofNat (0xF0 + c / 262144), UInt8.ofNat (0x80 + c / 4096 % 64), UInt8.ofNat (0x80 + c / 64 % 64)], UInt8.ofNat (0x80 + c % 64), by simp, hm _⟩
theorem bytesTo_succ (l : List Nat) (m : Nat) (h : m < l.length) : bytesTo l (m + 1) = bytesTo l m ++ (Utf8.encode ((l.getD m 0 : Nat) : Int)).data.toList := by
  unfold bytesTo
  have e : l.take (m + 1) = l.take m ++ [l.getD m 0] := by
    rw [List.take_succ_eq_append_getElem h]; simp [h]
  rw [e, List.map_append]
  unfold runesBytes
  rw [List.foldl_append]
  simp
theorem trim_eq (l : List Nat) : ∀ m, m ≤ l.length → trimB (bytesTo l m) = bytesTo l (trimR l m)
  | 0, _ => by simp [bytesTo, runesBytes, trimB, trimR]
  | m + 1, h => by
    rw [bytesTo_succ l m (by omega), trimR]
    by_cases e : l.getD m 0 = 32
    · rw [if_pos e, e]
      have h32 : (Utf8.encode ((32 : Nat) : Int)).data.toList = [32] := by decide
      rw [h32, trimB_blank, trim_eq l m (by omega)]
    · rw [if_neg e]
      obtain ⟨i, c, h1, h2⟩ := enc_last _ e
      rw [h1, ← List.append_assoc, trimB_keep _ _ h2, List.append_assoc, ← h1, ← bytesTo_succ l m (by omega)]
theorem lineB_eq (l : List Nat) : lineB l = bytesTo l (trimR l l.length) := by
  have := trim_eq l l.length (Nat.le_refl _)
  rw [← this]
  unfold lineB bytesTo
  rw [List.take_length]
end Go.Proofs.YtlmdbcgceijlnaaGreatDoor
/-
  The document's lines.
-/
namespace Go.Proofs.YtlmdbcgceijlnaaGreatDoor
open Go Go.AL Go.Sp
variable {σ Y Z τ : Store} {q p b x y : Nat} {s : Sp} {n : Int} {pv : AV}

set_option maxRecDepth 8000 in
theorem rtrim_calls (l : List Nat) (hl : l.length ≤ 100000) (σ : Store) : ACalls Tryz.prog 58 [.list false 1 (r32A l)] σ fun v σ' => v = .lit (.string (toB (lineB l))) ∧ σ' = σ := by
  rw [lineB_eq]
  refine ACalls.of_awp follows (st := st58) (plans := pl58) (n := 22) Tryz.func58 rfl (by kernel_rfl) (by kernel_rfl) (by kernel_rfl) ?_
  simp
  refine codeK.loop follows (st := st58) (plans := pl58) (X := Nat) (fun m => m ≤ l.length ∧ trimR l m = trimR l l.length)
    (fun m => [(0, .list false 1 (r32A (l.take m)))]) (fun _ => σ) (fun m => m) l.length (by kernel_rfl) (by simp) (by simp) (Store.sub_refl _) fun m hm => ?_
  obtain ⟨hm1, hm2⟩ := hm
  have hbt : ∀ m, toB (bytesTo l m) = runesBytes ((l.take m).map fun n : Nat => (n : Int)) := fun m => by unfold bytesTo; simp [toB]
  cases m with
  | zero =>
    rw [← hm2]
    simp [runesOf_r32A, hbt, trimR]
  | succ m =>
    have hln : (r32A (l.take (m + 1))).length = m + 1 := by simp; omega
    have hw : IntKind.i64.wrap ((m : Int) + 1 - 1) = (m : Int) := by rw [wrap_i64 (by omega) (by omega)]; omega
    have hw' : IntKind.i64.wrap (m : Int) = (m : Int) := wrap_i64 (by omega) (by omega)
    have hg : (r32A (l.take (m + 1)))[m]? = some (.lit (.int .i32 (l.getD m 0 : Nat))) := by
      rw [r32A_at _ _ (by simp; omega)]; simp [List.getD_eq_getElem?_getD]
    have hgo : ∀ h : m < (r32A (l.take (m + 1))).length, (r32A (l.take (m + 1)))[m]'h = .lit (.int .i32 (l.getD m 0 : Nat)) := fun h => by rw [List.getElem?_eq_getElem h] at hg; exact Option.some.inj hg
    have htk : List.take m (r32A (l.take (m + 1))) = r32A (l.take m) := by
      unfold r32A; rw [← List.map_take, List.take_take]; congr 2; omega
    have htr : trimR l (m + 1) = if l.getD m 0 = 32 then trimR l m else m + 1 := rfl
    have hru := runesOf_r32A (l.take (m + 1))
    generalize hRR : r32A (l.take (m + 1)) = RR at *
    generalize l.getD m 0 = bb at *
    by_cases hb : bb = 32
    · subst hb
      simp [hln, hw, hw', hg, hgo, htk]
      exact ⟨m, ⟨by omega, by rw [← hm2, htr, if_pos rfl]⟩, by omega, AV.le_refl _⟩
    · have hb' : ¬ (bb : Int) = 32 := by omega
      simp [hln, hw, hw', hg, hgo, hb, hb', hru]
      rw [← hm2, htr, if_neg hb, hbt, List.map_take]
      exact AV.le_refl _
end Go.Proofs.YtlmdbcgceijlnaaGreatDoor
/-
  Two screens in one store.
-/
namespace Go.Proofs.YtlmdbcgceijlnaaGreatDoor
open Go Go.AL Go.Sp
variable {σ Y Z τ : Store} {q p q2 p2 b x y : Nat} {s : Sp} {n : Int} {pv : AV}

theorem PS.change (h : PS Y q p n pv τ) (hP : Prg Y q2 p2 s) : PS Y q2 p2 n pv τ := by
  cases h with
  | nil h => exact .nil h
  | page b x h1 h2 h3 h4 h5 => exact .page b x h1 (ne_at hP.obj h4).1 (ne_at hP.row h4).1 h4 h5
theorem PS.upd (h : PS Y q p n pv τ) {z : Nat} {C : List AV} (hb : ∀ b : Nat, pv = pgP b → ¬ z = b) : PS (Y.upd z C) q p n pv (τ.upd z C) := by
  cases h with
  | nil h => exact .nil h
  | page b x h1 h2 h3 h4 h5 =>
    have hz := hb b rfl
    rw [pgS_upd hz]
    exact .page b x h1 h2 h3 (by simp [Ne.symm hz, h4]) (fun g e => by simpa using h5 g e)
theorem PS.both (h : PS Y q p n pv τ) {q2 p2 x y : Nat} {s t : Sp} (h4 : Four τ q2 p2 x y) : PS (both Y q2 p2 x y s t) q p n pv (both τ q2 p2 x y s t) := by
  unfold YtlmdbcgceijlnaaGreatDoor.both putS
  exact (((h.upd (h.fresh h4.x0)).upd (h.fresh h4.y0)).upd (h.fresh h4.q0)).upd (h.fresh h4.p0)
end Go.Proofs.YtlmdbcgceijlnaaGreatDoor
/-
  The lines told one by one; the rows that aren't the same.
-/
namespace Go.Proofs.YtlmdbcgceijlnaaGreatDoor
open Go Go.AL Go.Sp
variable {σ Y Z τ : Store} {q p q2 p2 b x y : Nat} {s t : Sp} {n : Int} {pv : AV}

theorem forget_calls {P : Program} {f : FuncId} {args : List AV} {σ τ : Store} {R : AV → Store → Prop} (h : ACalls P f args τ R) (hs : Store.sub τ σ) : ACalls P f args σ R :=
  fun D G w cargs h1 h2 h3 h4 => h D G w cargs h1 h2 (h3.forget hs) h4
theorem PS.ne (h : PS Y q p n pv τ) {z : Nat} {C : List AV} (hz : Y z = some C) : ∀ b : Nat, pv = pgP b → ¬ z = b := by
  intro b e
  cases h with
  | nil h => cases e
  | page b' x h1 h2 h3 h4 h5 =>
    cases e
    rintro rfl
    rw [h4] at hz; cases hz
theorem sub_upd2 {σ τ : Store} (h : Store.sub σ τ) (b : Nat) (C : List AV) : Store.sub (σ.upd b C) (τ.upd b C) := fun o => by
  unfold Store.upd
  split
  · exact .inr rfl
  · exact h o
/-- The lines' iterator: the page's signs may be built on the way. -/
structure PreN (q p c1 c2 : Nat) (s : Sp) (n : Int) (pv : AV) (_k : Nat) (Y τ : Store) : Prop where
  prg : Prg Y q p s
  c1 : Y c1 = some [ptrA q]
  c2 : Y c2 = some [pv]
  ps : ∃ τ0, PS Y q p n pv τ0 ∧ Store.sub τ0 τ
def StepN (q p : Nat) (n : Int) (pv : AV) (_k : Nat) (Y _τ τ' : Store) : Prop := ∃ τ0, PS Y q p n pv τ0 ∧ Store.sub τ0 τ'
def argN (n : Int) (s : Sp) (k : Nat) : List AV := [.lit (.int .i64 k), .lit (.string (toB (lineAt n s k)))]
/-! ### Rows -/
def rwA (r : Nat × List UInt8) : AV := .agg [.lit (.int .i64 r.1), .lit (.string (toB r.2))]
def rwsA (l : List (Nat × List UInt8)) : List AV := l.map rwA
/-- Is a row told? -/
def tells (n : Int) (s t : Sp) (i : Nat) : Bool := decide (¬ (s.rows = t.rows ∧ s.cols = t.cols) ∨ ¬ lineAt n s i = lineAt n t i)
def diffTo (n : Int) (s t : Sp) (k : Nat) : List (Nat × List UInt8) := ((List.range k).filter (tells n s t)).map fun i => (i, lineAt n t i)
theorem Scr.more {f : Sp → Nat → List AV} (h : Scr f Y q p s) (hs : Store.sub Y τ) : Scr f τ q p s := ⟨sub_at h.obj hs, sub_at h.row hs, h.ne, h.good⟩
end Go.Proofs.YtlmdbcgceijlnaaGreatDoor
/-
  The sign of any place, by a page or by none.
-/
namespace Go.Proofs.YtlmdbcgceijlnaaGreatDoor
open Go Go.AL Go.Sp
variable {σ Y Z τ : Store} {q p b x y : Nat} {s : Sp} {n : Int} {pv : AV}

set_option maxRecDepth 8000 in
theorem csign_nil (c : UInt8) (σ : Store) : ACalls Tryz.prog 152 [.lit (.pointer none), byteA c] σ fun v σ' => v = .lit (.int .i32 ((sgF 37 c.toNat : Nat) : Int)) ∧ σ' = σ := by
  have hpg := page_new 37 page37
  refine ACalls.of_awp follows (st := st152) (plans := pl152) (n := 14) Tryz.func152 rfl (by kernel_rfl) (by kernel_rfl) (by kernel_rfl) ?_
  simp
  refine callK.of (hpg _) ?_
  rintro v τ ⟨b, hb, rfl, rfl⟩
  simp
  refine callK.of (sign_calls b 37 page37 none c σ) ?_
  rintro v τ ⟨rfl, q, nx, rfl⟩
  simp
  exact pgS_over hb 37 (fun g e => by rcases nx with h | ⟨g', h6, h7⟩ <;> simp_all)
set_option maxRecDepth 8000 in
theorem shown_nil (c : UInt8) (σ : Store) : ACalls Tryz.prog 112 [.lit (.pointer none), byteA c] σ fun v σ' => v = .lit (.int .i32 ((shownN 37 c : Nat) : Int)) ∧ σ' = σ := by
  have hs := csign_nil c σ
  have hd := fun τ => data_calls c τ
  have hh := fun τ => hid_calls (sgF 37 c.toNat) τ
  unfold shownN
  refine ACalls.of_awp follows (st := st112) (plans := pl112) (n := 22) Tryz.func112 rfl (by kernel_rfl) (by kernel_rfl) (by kernel_rfl) ?_
  by_cases c1 : c = 28
  · subst c1; simp [byteA]
  by_cases c2 : c = 30
  · subst c2; simp [byteA]
  by_cases c3 : c = 63
  · subst c3; simp [byteA]
  have k1 : ¬ (c.toNat : Int) = 28 := fun h => c1 (UInt8.toNat_inj.1 (by show c.toNat = 28; omega))
  have k2 : ¬ (c.toNat : Int) = 30 := fun h => c2 (UInt8.toNat_inj.1 (by show c.toNat = 30; omega))
  have k3 : ¬ (c.toNat : Int) = 63 := fun h => c3 (UInt8.toNat_inj.1 (by show c.toNat = 63; omega))
  unfold byteA at *
  simp [k1, k2, k3, c1, c2, c3]
  refine callK.eq (hd _) ?_
  generalize sgF 37 c.toNat = s at *
  generalize hidB s = hb at *
  generalize dataB c = db at *
  cases db
  · simp
  · simp
    refine callK.eq hs ?_
    simp
    refine callK.eq (hh _) ?_
    cases hb
    · simp
    · simp
set_option maxRecDepth 8000 in
theorem sgn_nil (hP : Prg Y q p s) (k : Int) (hid : Bool) : ACalls Tryz.prog 66 [ptrA q, .lit (.pointer none), .lit (.int .i64 k), .lit (.bool hid)] Y fun v σ' => v = .lit (.int .i32 (signN 37 (s.at k) hid : Nat)) ∧ σ' = Y := by
  have hat := at_calls hP k
  have hes := fun τ => escape_calls (s.at k).char τ
  have hsh := fun τ => shown_nil (s.at k).char τ
  unfold signN
  generalize s.at k = c at *
  rw [cellA_eq] at hat
  refine ACalls.of_awp follows (st := st66) (plans := pl66) (n := 41) Tryz.func66 rfl (by kernel_rfl) (by kernel_rfl) (by kernel_rfl) ?_
  simp
  refine callK.eq hat ?_
  have hend : ∀ (z : Nat) C, Y z = none → Store.sub Y (Y.upd z C) := fun z C hz => sub_upd_self _ _ _ hz
  by_cases ha : c.attr = true
  · simp [ha]
    intro z hz
    exact hend z _ hz
  have ha' : c.attr = false := by simpa using ha
  cases hid
  case true =>
    simp [ha']
    intro z hz
    exact hend z _ hz
  by_cases hs : c.set = 0xf1
  · have hs' : (c.set.toNat : Int) = 241 := by rw [hs]; rfl
    simp [ha', hs', hs, byteA]
    intro z hz
    refine callK.eq (hes _) ?_
    cases he : escF c.char with
    | none => simp; exact hend z _ hz
    | some w => simp; exact hend z _ hz
  · have hs' : ¬ (c.set.toNat : Int) = 241 := fun h => hs (UInt8.toNat_inj.1 (by show c.set.toNat = 241; omega))
    unfold byteA at *
    simp [ha', hs', hs]
    intro z hz
    refine callK.eq (hsh _) ?_
    simp
    exact hend z _ hz
theorem psgn_calls (hP : Prg Y q p s) (h : PS Y q p n pv τ) (k : Int) (hid : Bool) : ACalls Tryz.prog 66 [ptrA q, pv, .lit (.int .i64 k), .lit (.bool hid)] τ fun v σ' => v = .lit (.int .i32 (signN n (s.at k) hid : Nat)) ∧ PS Y q p n pv σ' := by
  cases h with
  | nil h =>
    subst h
    refine ACalls.mono (sgn_nil hP k hid) ?_
    rintro v τ ⟨rfl, rfl⟩
    exact ⟨rfl, .nil rfl⟩
  | page b x h1 h2 h3 h4 h5 =>
    refine ACalls.mono (sgn_calls hP h2 h3 h1 x k hid) ?_
    rintro v τ ⟨rfl, x', nx, rfl⟩
    refine ⟨rfl, .page b x' h1 h2 h3 h4 fun g e => ?_⟩
    rcases nx with h | ⟨g', h6, h7⟩
    · exact h5 g (by rw [← h]; exact e)
    · rw [h6] at e; cases e; exact h7
end Go.Proofs.YtlmdbcgceijlnaaGreatDoor
/-
  A row's line; the first lines; two lists of texts.
-/
namespace Go.Proofs.YtlmdbcgceijlnaaGreatDoor
open Go Go.AL Go.Sp
variable {σ Y Z τ : Store} {q p b x y : Nat} {s : Sp} {n : Int} {pv : AV}

set_option maxRecDepth 8000 in
theorem strEq_calls (l : List (List UInt8)) (hl : l.length ≤ 1000000) (σ : Store) : ACalls Tryz.prog 17 [.list false 1 (strsA l), .list false 1 (strsA l)] σ fun v σ' => v = .lit (.bool true) ∧ σ' = σ := by
  refine ACalls.of_awp follows (st := st17) (plans := pl17) (n := 26) Tryz.func17 rfl (by kernel_rfl) (by kernel_rfl) (by kernel_rfl) ?_
  have hrl : (strsA l).length = l.length := by simp [strsA]
  have hat : ∀ k (h : k < (strsA l).length), (strsA l)[k]'h = .lit (.string (toB (l.getD k []))) := fun k h => by
    simp [strsA, List.getD_eq_getElem?_getD, show k < l.length by omega]
  generalize strsA l = R at *
  simp [hrl]
  refine codeK.loop follows (st := st17) (plans := pl17) (X := Nat) (fun k => k ≤ l.length)
    (fun k => [(0, .list false 1 R), (1, .list false 1 R), (11, .list false 1 R), (12, .lit (.int .i64 l.length)), (13, .lit (.int .i64 k))]) (fun _ => σ) (fun k => l.length - k) 0 (by kernel_rfl) (by simp) (by simp) (Store.sub_refl _) fun k hk => ?_
  by_cases hlt : k < l.length
  · have hw : IntKind.i64.wrap ((k : Int) + 1) = ((k + 1 : Nat) : Int) := wrap_i64 (by omega) (by omega)
    have hR : R[k]? = some (R[k]'(by omega)) := List.getElem?_eq_getElem _
    rw [hat] at hR
    have hg : ∀ h : k < R.length, R[k]'h = _ := fun h => hat k h
    generalize l.getD k [] = r at *
    simp [hlt, hrl, hR, hg, hw]
    exact ⟨k + 1, by omega, by omega, AV.le_refl _⟩
  · obtain rfl : k = l.length := by omega
    simp
end Go.Proofs.YtlmdbcgceijlnaaGreatDoor
/-
  All lines as one text.
-/
namespace Go.Proofs.YtlmdbcgceijlnaaGreatDoor
open Go Go.AL Go.Sp
variable {σ Y Z τ : Store} {q p b x y z : Nat} {s : Sp} {n : Int} {pv : AV} {l : List UInt8} {X : Bst}

theorem put_put (σ : Store) {a c : Nat} (h : ¬ a = c) (A C : List AV) : (σ.put a A).put c C = (σ.put c C).put a A := by
  funext o
  unfold Store.put
  by_cases h1 : o = mkey c
  · subst h1
    have : ¬ mkey c = mkey a := by simp; exact fun e => h e.symm
    simp [this]
  · simp [h1]
theorem bldS_upd (z : Nat) (X : Bst) (σ : Store) (a : Nat) (A : List AV) : bldS z X (σ.upd a A) = (bldS z X σ).upd a A := by
  cases X <;> simp [bldS]
theorem bldS_key {g : Nat} (h : (bldS z X Y) (mkey g) = none) : ¬ g = z ∧ (∀ r m cap cur, X = .row r m cap cur → ¬ g = r) ∧ Y (mkey g) = none := by
  cases X with
  | nil p =>
    simp only [bldS, put_mkey] at h
    split at h
    · cases h
    · rename_i h1; exact ⟨h1, fun _ _ _ _ e => (by cases e), h⟩
  | row r m cap cur =>
    simp only [bldS, put_mkey] at h
    split at h
    · cases h
    · rename_i h1
      split at h
      · cases h
      · rename_i h2
        exact ⟨h1, fun _ _ _ _ e => by cases e; exact h2, h⟩
theorem bldS_put {g : Nat} (h1 : ¬ g = z) (h2 : ∀ r m cap cur, X = .row r m cap cur → ¬ g = r) (C : List AV) : (bldS z X Y).put g C = bldS z X (Y.put g C) := by
  cases X with
  | nil p => simp only [bldS]; rw [put_put _ (fun e => h1 e.symm)]
  | row r m cap cur => simp only [bldS]; rw [put_put _ (fun e => h1 e.symm), put_put _ (fun e => h2 _ _ _ _ rfl e.symm)]
theorem pgS_bld {b : Nat} {xx : Option Nat} (h : ∀ g, xx = some g → (bldS z X Y) (mkey g) = none) : pgS b n xx (bldS z X Y) = bldS z X (pgS b n xx Y) := by
  cases xx with
  | none => simp only [pgS, bldS_upd]
  | some g =>
    obtain ⟨h1, h2, _⟩ := bldS_key (h g rfl)
    simp only [pgS]
    rw [← bldS_upd, bldS_put h1 h2]
theorem PS.bld (h : PS Y q p n pv τ) (hO : BldOk z l τ X) : PS (bldS z X Y) q p n pv (bldS z X τ) := by
  cases h with
  | nil h => exact .nil h
  | page b xx h1 h2 h3 h4 h5 =>
    have h6 : ∀ g, xx = some g → (bldS z X Y) (mkey g) = none := fun g e => by
      subst e
      have h7 := h5 g rfl
      have k : (pgS b n (some g) Y) (mkey g) = some (mapA (codesN n 256)) := by simp [pgS]
      cases X with
      | nil p =>
        have hz := hO.2.2
        have n1 : ¬ g = z := fun e => by subst e; rw [k] at hz; cases hz
        simp only [bldS, put_mkey, if_neg n1, h7]
      | row r m cap cur =>
        obtain ⟨_, _, _, _, _, _, hz, hr, _⟩ := hO
        have n1 : ¬ g = z := fun e => by subst e; rw [k] at hz; cases hz
        have n2 : ¬ g = r := fun e => by subst e; rw [k] at hr; cases hr
        simp only [bldS, put_mkey, if_neg n1, if_neg n2, h7]
    rw [← pgS_bld h6]
    exact .page b xx h1 h2 h3 (by rw [bldS_nat]; exact h4) h6
theorem BldOk.less (h : BldOk z l τ X) (hs : Store.sub Y τ) : BldOk z l Y X := by
  have k : ∀ o : Int, τ o = none → Y o = none := fun o e => by
    rcases hs o with h | h
    · exact h
    · rw [h]; exact e
  cases X with
  | nil p => exact ⟨h.1, h.2.1, k _ h.2.2⟩
  | row r m cap cur =>
    obtain ⟨a1, a2, a3, a4, a5, a6, a7, a8, a9⟩ := h
    exact ⟨a1, a2, a3, a4, a5, a6, k _ a7, k _ a8, a9⟩
theorem Scr.bld {f : Sp → Nat → List AV} (h : Scr f Y q p s) (z : Nat) (X : Bst) : Scr f (bldS z X Y) q p s := ⟨by rw [bldS_nat]; exact h.obj, by rw [bldS_nat]; exact h.row, h.ne, h.good⟩
end Go.Proofs.YtlmdbcgceijlnaaGreatDoor
