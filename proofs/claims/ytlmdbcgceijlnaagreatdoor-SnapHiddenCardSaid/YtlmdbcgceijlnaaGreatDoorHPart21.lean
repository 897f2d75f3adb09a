/-
  strings.Builder as abstract states: contracts.
-/
import Derived.Test.YtlmdbcgceijlnaaGreatDoorHPart20
set_option linter.unusedSimpArgs false
set_option linter.unusedVariables false
namespace Go.Proofs.YtlmdbcgceijlnaaGreatDoor
open Go Go.AL Go.RowKit

/-- A builder's state: without a row (what lies in its first cell), or with one. -/
inductive Bst where
  | nil (p : Value)
  | row (g n cap : Nat) (cur : Array Value)
def Bst.v : Bst → Value
  | .nil _ => .slice none 0 0
  | .row g n cap _ => .slice (some ⟨g, 0, none⟩) n cap
def Bst.p (z : Nat) : Bst → Value
  | .nil p => p
  | .row .. => .pointer (some ⟨z, 0, none⟩)
def bldS (z : Nat) : Bst → Store → Store
  | .nil p, σ => σ.put z (rawA 109 #[p, .slice none 0 0])
  | .row g n cap cur, σ => (σ.put g (rawA 5 cur)).put z (rawA 109 #[.pointer (some ⟨z, 0, none⟩), .slice (some ⟨g, 0, none⟩) n cap])
def BldOk (z : Nat) (l : List UInt8) (σ : Store) : Bst → Prop
  | .nil p => l = [] ∧ (p = .pointer none ∨ p = .pointer (some ⟨z, 0, none⟩)) ∧ σ (mkey z) = none
  | .row g n cap cur => l ≠ [] ∧ n = l.length ∧ n ≤ cap ∧ cap ≤ maxLen ∧ cur.size = cap ∧ cur.toList.take n = Lib.byteCells l ∧ σ (mkey z) = none ∧ σ (mkey g) = none ∧ ¬ g = z
theorem BldOk.key {z : Nat} {l : List UInt8} {σ : Store} {x : Bst} (h : BldOk z l σ x) : σ (mkey z) = none := by
  cases x with
  | nil p => exact h.2.2
  | row g n cap cur => exact h.2.2.2.2.2.2.1
theorem bldS_sub {z : Nat} {l : List UInt8} {σ : Store} {x : Bst} (h : BldOk z l σ x) : Store.sub σ (bldS z x σ) := by
  cases x with
  | nil p => exact sub_put_self _ _ _ h.2.2
  | row g n cap cur =>
    obtain ⟨_, _, _, _, _, _, h2, h4, h5⟩ := h
    exact Store.sub_trans (sub_put_self _ _ _ h4) (sub_put_self _ _ _ (by rw [put_mkey, if_neg (fun e => h5 e.symm)]; exact h2))
theorem bldS_nat (z : Nat) (x : Bst) (σ : Store) (o : Nat) : (bldS z x σ) o = σ o := by
  cases x <;> simp [bldS]
theorem bldW_get {D : Nat → Prop} {G : Ghost} {w : World} {z : Nat} {l : List UInt8} {σ : Store} {x : Bst} (hO : BldOk z l σ x) (hW : WR D G (bldS z x σ) w) :
    BldW w z (x.p z) x.v (Lib.byteCells l) ∧ (x.p z = .pointer none ∨ x.p z = .pointer (some ⟨z, 0, none⟩)) ∧ WR D G σ w ∧ ∀ k, (k = z ∨ some k = x.v.ownBlock) → D k ∧ Idle G σ k ∧ σ (mkey k) = none ∧ GL.vars k = none := by
  have hW0 := hW.forget (bldS_sub hO)
  cases x with
  | nil p =>
    obtain ⟨rfl, hp, h2⟩ := hO
    obtain ⟨d, i, hh⟩ := hW.raw (k := z) (T := 109) (cur := #[p, .slice none 0 0]) (by simp [bldS])
    refine ⟨⟨hh, World.ownsRow_nil _ _ _ _, by simp [Bst.v, Value.ownBlock]⟩, hp, hW0, ?_⟩
    rintro k (rfl | hk)
    · exact ⟨d, i.put, h2, hW.vars_key (k := k) (cs := rawA 109 #[p, .slice none 0 0]) (by simp [bldS])⟩
    · simp [Bst.v, Value.ownBlock] at hk
  | row g n cap cur =>
    obtain ⟨h0, rfl, hn, hc, hs, ht, h2, h4, h5⟩ := hO
    obtain ⟨d, i, hh⟩ := hW.raw (k := z) (T := 109) (cur := #[.pointer (some ⟨z, 0, none⟩), .slice (some ⟨g, 0, none⟩) l.length cap]) (by simp [bldS])
    obtain ⟨d', i', hh'⟩ := hW.raw (k := g) (T := 5) (cur := cur) (by simp [bldS, h5])
    refine ⟨⟨hh, ?_, ?_⟩, .inr rfl, hW0, ?_⟩
    · rw [Lib.byteCells_length]
      exact ⟨by rw [Lib.byteCells_length, Nat.mul_one], .inr ⟨g, cap, cur, rfl, Nat.zero_le _, hh', hn, hc, by omega, by rw [Nat.mul_one]; exact ht⟩⟩
    · simp [Bst.v, Value.ownBlock, h5]
    · rintro k (rfl | hk)
      · exact ⟨d, i.put.put, h2, hW.vars_key (k := k) (cs := rawA 109 #[.pointer (some ⟨k, 0, none⟩), .slice (some ⟨g, 0, none⟩) l.length cap]) (by simp [bldS])⟩
      · simp [Bst.v, Value.ownBlock] at hk
        subst hk
        exact ⟨d', i'.put.put, h4, hW.vars_key (k := k) (cs := rawA 5 cur) (by simp [bldS, h5])⟩
theorem only_WR {D : Nat → Prop} {G : Ghost} {w w' : World} {z : Nat} {v : Value} {σ : Store} (hW : WR D G σ w) (hB : ∀ k, (k = z ∨ some k = v.ownBlock) → D k ∧ Idle G σ k ∧ σ (mkey k) = none ∧ GL.vars k = none) (hD : ∀ k, w.heap.size ≤ k → D k) (h : OnlyW z v w w') : WR D G σ w' ∧ Ext D G w G w' := by
  refine ⟨hW.turn (fun k => k = z ∨ some k = v.ownBlock) (fun k hk => ⟨(hB k hk).2.1, (hB k hk).2.2.1⟩) (fun k hk => (hB k hk).2.2.2) fun k hk hn => h.block k hk (fun e => hn (.inl e)) (fun e => hn (.inr e)), ⟨h.os, h.tape, h.output, h.size, fun _ _ _ h => h, fun k hk => ⟨?_, rfl, rfl⟩⟩⟩
  rcases Nat.lt_or_ge k w.heap.size with hlt | hge
  · exact h.block k hlt (fun e => hk (hB k (.inl e)).1) (fun e => hk (hB k (.inr e)).1)
  · exact absurd (hD k hge) hk
theorem bldW_set {D : Nat → Prop} {G : Ghost} {w w' : World} {z : Nat} {v v' : Value} {l : List UInt8} {σ : Store} (hW : WR D G σ w) (hB : ∀ k, (k = z ∨ some k = v.ownBlock) → D k ∧ Idle G σ k ∧ σ (mkey k) = none ∧ GL.vars k = none) (hD : ∀ k, w.heap.size ≤ k → D k) (h : OnlyW z v w w')
    (hb : BldW w' z (.pointer (some ⟨z, 0, none⟩)) v' (Lib.byteCells l)) (hl : l ≠ []) (hv : v'.ownBlock = v.ownBlock ∨ v'.ownBlock = some w.heap.size) : ∃ x, BldOk z l σ x ∧ WR D G (bldS z x σ) w' ∧ Ext D G w G w' := by
  obtain ⟨hW', hx⟩ := only_WR hW hB hD h
  obtain ⟨dz, iz, kz, vz⟩ := hB z (.inl rfl)
  have hown := hb.own
  rw [Lib.byteCells_length] at hown
  rcases hown.2 with ⟨rfl, h0⟩ | ⟨g, cap, cur, rfl, _, hg, hn, hc, hs, ht⟩
  · exact absurd (List.eq_nil_of_length_eq_zero h0) hl
  · have hgz : ¬ g = z := fun e => hb.ne (by simp [Value.ownBlock, e])
    have hgB : D g ∧ Idle G σ g ∧ σ (mkey g) = none ∧ GL.vars g = none := by
      rcases hv with e | e
      · exact hB g (.inr (by rw [← e]; simp [Value.ownBlock]))
      · have : g = w.heap.size := by simpa [Value.ownBlock] using e
        subst this
        exact ⟨hD _ (Nat.le_refl _), hW.fresh_idle, hW.fresh_key, hW.vars_fresh⟩
    obtain ⟨dg, ig, kg, vg⟩ := hgB
    refine ⟨.row g l.length cap cur, ⟨hl, rfl, hn, hc, by omega, by rw [Nat.mul_one] at ht; exact ht, kz, kg, hgz⟩, ?_, hx⟩
    exact (hW'.putRaw hg dg ig vg).putRaw hb.blk dz iz.to_put vz
theorem OnlyW.refl (b : Nat) (v : Value) (w : World) : OnlyW b v w w := ⟨rfl, rfl, rfl, Nat.le_refl _, fun _ _ _ _ => rfl⟩
theorem args2 {cargs : Array Value} (h : 2 = cargs.size) : ∃ c0 c1, cargs = #[c0, c1] := ⟨cargs[0], cargs[1], by
  apply Array.ext
  · simp [← h]
  · intro i h1 h2
    match i with
    | 0 => rfl
    | 1 => rfl
    | _ + 2 => simp at h2; omega⟩
theorem args1 {cargs : Array Value} (h : 1 = cargs.size) : ∃ c0, cargs = #[c0] := ⟨cargs[0], by
  apply Array.ext
  · simp [← h]
  · intro i h1 h2
    match i with
    | 0 => rfl
    | _ + 1 => simp at h2⟩
theorem strCells_data (s : ByteArray) (l : List UInt8) : Lib.byteCells l ++ Lib.strCells s = Lib.byteCells (l ++ s.data.toList) := by rw [Lib.strCells_eq, Lib.byteCells_append]
theorem wstr_calls (z : Nat) (x : Bst) (l : List UInt8) (s : ByteArray) (σ : Store) (hO : BldOk z l σ x) (hlen : l.length + s.size ≤ 140737488355328) (hs : s.data.toList ≠ []) :
    ACalls Tryz.prog 61 [ptrA z, .lit (.string s)] (bldS z x σ) fun v σ' => v = .tuple [.lit (.int .i64 s.size), .lit .nilIface] ∧ ∃ x', BldOk z (l ++ s.data.toList) σ x' ∧ σ' = bldS z x' σ := by
  intro D G w cargs hl hargs hW hfresh
  obtain ⟨c0, c1, rfl⟩ := args2 (by simpa using hl)
  have h0 := (hargs 0 _ c0 rfl rfl).1.lit_eq rfl
  have h1 := (hargs 1 _ c1 rfl rfl).1.lit_eq rfl
  subst h0 h1
  obtain ⟨hb, hp, hW0, hB⟩ := bldW_get hO hW
  have hne : l ++ s.data.toList ≠ [] := fun e => hs (List.append_eq_nil_iff.1 e).2
  have hlen' : (Lib.byteCells l).length + s.size ≤ 140737488355328 := by rw [Lib.byteCells_length]; exact hlen
  have fin : ∀ (e : Ending) (w' : World), (e = .returned (.tuple #[.int .i64 s.size, .nilIface]) ∧ ∃ v', BldW w' z (.pointer (some ⟨z, 0, none⟩)) v' (Lib.byteCells l ++ Lib.strCells s) ∧ OnlyW z x.v w w' ∧ (v'.ownBlock = x.v.ownBlock ∨ v'.ownBlock = some w.heap.size)) →
      ∃ v cv G' σ', e = .returned cv ∧ (v = .tuple [.lit (.int .i64 s.size), .lit .nilIface] ∧ ∃ x', BldOk z (l ++ s.data.toList) σ x' ∧ σ' = bldS z x' σ) ∧ VR G'.F v cv ∧ OwnAt G' D .acc v cv ∧ WR D G' σ' w' ∧ Ext D G w G' w' := by
    rintro e w' ⟨rfl, v', q1, q2, q3⟩
    rw [strCells_data] at q1
    obtain ⟨x', r1, r2, r3⟩ := bldW_set hW0 hB hfresh q2 q1 hne q3
    refine ⟨_, _, G, _, rfl, ⟨rfl, x', r1, rfl⟩, .tuple _ _ rfl fun i c u hc hu => ?_, OwnAt.of_plain rfl, r2, r3⟩
    match i with
    | 0 => simp at hc hu; subst hc hu; exact .lit _
    | 1 => simp at hc hu; subst hc hu; exact .lit _
    | _ + 2 => simp at hc
  rcases hp with hp | hp
  · rw [hp] at hb
    have hsh : w.shape? z = some (109, 2) := by have := hb.blk; simp [World.shape?, this]
    refine (oWriteUsed z x.v (Lib.byteCells l) s _ (hb.used _) hlen' w (.pointer none) (oCopyFresh z w hb.cell0 hsh (Lib.frozen_of_heap hb.blk 0)) ⟨rfl, rfl, rfl, by simp [World.setCell], fun k hk hkb _ => Below.heap_setCell _ _ _ _ hkb⟩ (by simp [World.setCell])).mono fin
  · rw [hp] at hb
    exact (oWriteUsed z x.v (Lib.byteCells l) s w hb hlen' w (.pointer none) (oCopyUsed z w hb.cell0) (OnlyW.refl _ _ _) rfl).mono fin
theorem bstr_calls (z : Nat) (x : Bst) (l : List UInt8) (σ : Store) (hO : BldOk z l σ x) (hl : l ≠ []) : ACalls Tryz.prog 62 [ptrA z] (bldS z x σ) fun v σ' => v = .lit (.string (toB l)) ∧ σ' = σ := by
  intro D G w cargs hl' hargs hW hfresh
  obtain ⟨c0, rfl⟩ := args1 (by simpa using hl')
  have h0 := (hargs 0 _ c0 rfl rfl).1.lit_eq rfl
  subst h0
  obtain ⟨hb, hp, hW0, hB⟩ := bldW_get hO hW
  refine (oString z _ _ l w hb hl).mono ?_
  rintro e w' ⟨rfl, q⟩
  obtain ⟨r1, r2⟩ := only_WR hW0 hB hfresh q
  exact ⟨_, _, G, _, rfl, ⟨rfl, rfl⟩, .lit _, OwnAt.of_plain rfl, r1, r2⟩
end Go.Proofs.YtlmdbcgceijlnaaGreatDoor
/-
  Join and Itoa as abstract states.
-/
namespace Go.Proofs.YtlmdbcgceijlnaaGreatDoor
open Go Go.AL Go.RowKit

theorem below_WR {D : Nat → Prop} {G : Ghost} {σ : Store} {w w' : World} (hW : WR D G σ w) (hD : ∀ k, w.heap.size ≤ k → D k) (h : Below w.heap.size w w') : WR D G σ w' ∧ Ext D G w G w' := by
  obtain ⟨h1, h2, h3, h4, h5⟩ := h
  refine ⟨hW.grow h5 fun k hd _ => hd, ⟨h1, h2, h3, h4, fun _ _ _ h => h, fun k hk => ⟨?_, rfl, rfl⟩⟩⟩
  rcases Nat.lt_or_ge k w.heap.size with hlt | hge
  · exact h5 k hlt
  · exact absurd (hD k hge) hk
theorem grow_below (w : World) (k : Nat) (os : Array Obj) : Below w.heap.size w (Go.Sort.grow (w.drewN k) os) := by
  refine ⟨rfl, rfl, rfl, ?_, fun i hi => ?_⟩
  · simp [Go.Sort.grow, World.drewN]
  · simp only [Go.Sort.grow, World.drewN]
    rw [Array.getElem?_append_left hi]
theorem tab0 {D : Nat → Prop} {G : Ghost} {σ : Store} {w : World} (hW : WR D G σ w) : Lib.TabIs Tryz.prog w "internal/strconv.uint64pow10" .u64 Lib.pow10Tab := by
  obtain ⟨_, T, fz, h⟩ := hW.vars 0 pow10A rfl
  unfold Lib.TabIs World.var?
  rw [show Tryz.prog.globalNamed "internal/strconv.uint64pow10" = some 0 by kernel_rfl]
  simp [h, pow10A]
theorem itoaZ_calls (n : Int) (h0 : -9223372036854775808 ≤ n) (h1 : n ≤ 9223372036854775807) (σ : Store) : ACalls Tryz.prog 73 [.lit (.int .i64 n)] σ fun v σ' => v = .lit (.string (toB (Lib.itoa n))) ∧ σ' = σ := by
  intro D G w cargs hl hargs hW hfresh
  obtain ⟨c0, rfl⟩ := args1 (by simpa using hl)
  have e0 := (hargs 0 _ c0 rfl rfl).1.lit_eq rfl
  subst e0
  refine (itoa_run n h0 h1 w (tab0 hW)).mono ?_
  rintro e w' ⟨rfl, k, os, rfl⟩
  obtain ⟨r1, r2⟩ := below_WR hW hfresh (grow_below w k os)
  exact ⟨_, _, G, _, rfl, ⟨rfl, rfl⟩, .lit _, OwnAt.of_plain rfl, r1, r2⟩
theorem flat_strs (l : List (List UInt8)) : flat (strsA l) = strsA l := by
  induction l with
  | nil => rfl
  | cons a l ih => simp only [flat, strsA, List.map_cons, List.flatMap_cons] at ih ⊢; rw [ih]; rfl
theorem join_calls (own : Bool) (l : List (List UInt8)) (sep : List UInt8) (hN : l.length ≤ 140737488355328) (hlen : (Lib.join l sep).length ≤ 140737488355328) (σ : Store) :
    ACalls Tryz.prog 77 [.list own 1 (strsA l), .lit (.string (toB sep))] σ fun v σ' => v = .lit (.string (toB (Lib.join l sep))) ∧ σ' = σ := by
  intro D G w cargs hl hargs hW hfresh
  obtain ⟨c0, c1, rfl⟩ := args2 (by simpa using hl)
  have hv := (hargs 0 _ c0 rfl rfl).1
  have e1 := (hargs 1 _ c1 rfl rfl).1.lit_eq rfl
  subst e1
  have fin0 : ∀ (e : Ending) (w' : World), (e = .returned (.string ⟨#[]⟩) ∧ w' = w) → l = [] → ∃ v cv G' σ', e = .returned cv ∧ (v = .lit (.string (toB (Lib.join l sep))) ∧ σ' = σ) ∧ VR G'.F v cv ∧ OwnAt G' D .acc v cv ∧ WR D G' σ' w' ∧ Ext D G w G' w' := by
    rintro e w' ⟨rfl, rfl⟩ rfl
    exact ⟨_, _, G, _, rfl, ⟨rfl, rfl⟩, .lit _, OwnAt.of_plain rfl, hW, Ext.refl ..⟩
  generalize hL : AV.list own 1 (strsA l) = L at hv
  cases hv with
  | nil o s =>
    have : l = [] := by injection hL with _ _ h; simpa [strsA] using h
    exact (join_none_run none 0 (toB sep) w).mono fun e w' h => fin0 e w' h this
  | void s a =>
    have : l = [] := by injection hL with _ _ h; simpa [strsA] using h
    exact (join_none_run (some a) 0 (toB sep) w).mono fun e w' h => fin0 e w' h this
  | top => cases hL
  | lit => cases hL
  | fptr => cases hL
  | func => cases hL
  | iface => cases hL
  | agg => cases hL
  | tuple => cases hL
  | row => cases hL
  | list o s vs g off n cap us hn hc hw hul hF hvr =>
    injection hL with _ _ h3
    subst h3
    have hnl : n = l.length := by simpa [strsA] using hn
    subst hnl
    rw [flat_strs] at hul hvr
    have hul' : us.length = l.length := by simpa [strsA] using hul
    have hu : ∀ j x, (l.map toB)[j]? = some x → us[j]? = some (Value.string x) := fun j x hj => by
      have hjl : j < l.length := by have := (List.getElem?_eq_some_iff.1 hj).1; simpa using this
      have hus : us[j]? = some (us[j]'(by omega)) := List.getElem?_eq_getElem _
      have h2 := hvr j (.lit (.string x)) _ (by
        rw [List.getElem?_map] at hj
        cases e : l[j]? with
        | none => rw [e] at hj; cases hj
        | some y =>
          rw [e] at hj
          simp only [Option.map_some, Option.some.injEq] at hj
          simp [strsA, e, hj]) hus
      rw [hus, h2.lit_eq rfl]
    have hcells : ∀ (j : Nat) x, (l.map toB)[j]? = some x → w.cell? ⟨g, off + j, none⟩ = some (.string x) := fun j x hj => by
      obtain ⟨cur, e, fz, q1, q2⟩ := hW.frz _ _ _ (hF j _ (hu j x hj)).1
      simp [World.cell?, q1, q2]
    by_cases hl0 : l = []
    · subst hl0
      exact (join_none_run (some ⟨g, off, none⟩) cap (toB sep) w).mono fun e w' h => fin0 e w' h rfl
    · have hg : g < w.heap.size := by
        obtain ⟨x, hx⟩ : ∃ x, (l.map toB)[0]? = some x := by
          cases l with
          | nil => exact absurd rfl hl0
          | cons a b => exact ⟨_, rfl⟩
        obtain ⟨cur, e, fz, q1, q2⟩ := hW.frz _ _ _ (hF 0 _ (hu 0 x hx)).1
        exact (Array.getElem?_eq_some_iff.1 q1).1
      have e2 : (l.map toB).map (·.data.toList) = l := by
        rw [List.map_map]
        exact (List.map_congr_left fun a _ => by simp [toB]).trans (List.map_id l)
      have e3 : (toB sep).data.toList = sep := by simp [toB]
      have hr := join_run g off cap (l.map toB) (toB sep) w hcells hg (by simpa using hN) (by simpa using hc) (by rw [e2, e3]; exact hlen)
      rw [e2, e3, List.length_map] at hr
      refine hr.mono ?_
      rintro e w' ⟨rfl, hb⟩
      obtain ⟨r1, r2⟩ := below_WR hW hfresh hb
      exact ⟨_, _, G, _, rfl, ⟨rfl, rfl⟩, .lit _, OwnAt.of_plain rfl, r1, r2⟩
end Go.Proofs.YtlmdbcgceijlnaaGreatDoor
/-
  The document's places of a field.
-/
namespace Go.Proofs.YtlmdbcgceijlnaaGreatDoor
open Go Go.AL Go.Sp

end Go.Proofs.YtlmdbcgceijlnaaGreatDoor
/-
  Blanks cut off signs, or off their bytes: the same.
-/
namespace Go.Proofs.YtlmdbcgceijlnaaGreatDoor
open Go Go.AL Go.Sp

theorem trimN_app (x y : List UInt8) : ∀ m, m ≤ x.length → trimN (x ++ y) m = trimN x m
  | 0, _ => rfl
  | m + 1, h => by
    have e : (x ++ y).getD m 0 = x.getD m 0 := by
      rw [List.getD_eq_getElem?_getD, List.getD_eq_getElem?_getD, List.getElem?_append_left (by omega)]
    rw [trimN, trimN, e, trimN_app x y m (by omega)]
theorem trimN_le (l : List UInt8) : ∀ m, trimN l m ≤ m
  | 0 => Nat.le_refl _
  | m + 1 => by
    rw [trimN]
    split
    · have := trimN_le l m; omega
    · omega
theorem trimB_blank (x : List UInt8) : trimB (x ++ [32]) = trimB x := by
  unfold trimB
  have e : (x ++ [32]).length = x.length + 1 := by simp
  have h := trimN_le x x.length
  rw [e, trimN, if_pos (by simp), trimN_app x [32] _ (Nat.le_refl _), List.take_append_of_le_length h]
theorem trimB_keep (x : List UInt8) (c : UInt8) (hc : ¬ c = 32) : trimB (x ++ [c]) = x ++ [c] := by
  unfold trimB
  have e : (x ++ [c]).length = x.length + 1 := by simp
  rw [e, trimN, if_neg (by simpa using hc), List.take_of_length_le (by simp)]
/-- How many of the first m signs stay. -/
def trimR (l : List Nat) : Nat → Nat
  | 0 => 0
  | m + 1 => if l.getD m 0 = 32 then trimR l m else m + 1
def bytesTo (l : List Nat) (m : Nat) : List UInt8 := (runesBytes ((l.take m).map fun n : Nat => (n : Int))).data.toList
set_option maxRecDepth 100000 in
theorem enc_last (r : Nat) (hr : ¬ r = 32) : ∃ i c, (Utf8.encode (r : Int)).data.toList = i ++ [c] ∧ ¬ c = 32 := by
  have big : ∀ k : Nat, k < 64 → ¬ UInt8.ofNat (0x80 + k) = 32 := by decide
  have hm : ∀ k : Nat, ¬ UInt8.ofNat (0x80 + k % 64) = 32 := fun k => big _ (Nat.mod_lt _ (by omega))
  unfold Utf8.encode
  dsimp only
  generalize hc : (if Utf8.valid (r : Int) = true then (r : Int).toNat else Utf8.runeError) = c
  have hc32 : ¬ c = 32 := by
    rw [← hc]
    split
    · simpa using hr
    · show ¬ 65533 = 32; omega
  split
  · next h =>
    refine ⟨[], UInt8.ofNat c, by simp, fun e => hc32 ?_⟩
    have := congrArg UInt8.toNat e
    simp at this
    omega
  · split
    · exact ⟨[UInt8.ofNat (0xC0 + c / 64)], UInt8.ofNat (0x80 + c % 64), by simp, hm _⟩
    · split
      · exact ⟨[UInt8.ofNat (0xE0 + c / 4096), UInt8.ofNat (0x80 + c / 64 % 64)], UInt8.ofNat (0x80 + c % 64), by simp, hm _⟩
      · exact ⟨[UInt8.ofNat (0xF0 + c / 262144), UInt8.ofNat (0x80 + c / 4096 % 64), UInt8.ofNat (0x80 + c / 64 % 64)], UInt8.ofNat (0x80 + c % 64), by simp, hm _⟩
theorem bytesTo_succ (l : List Nat) (m : Nat) (h : m < l.length) : bytesTo l (m + 1) = bytesTo l m ++ (Utf8.encode ((l.getD m 0 : Nat) : Int)).data.toList := by
  unfold bytesTo
  have e : l.take (m + 1) = l.take m ++ [l.getD m 0] := by
    rw [List.take_succ_eq_append_getElem h]; simp [h]
  rw [e, List.map_append]
  unfold runesBytes
  rw [List.foldl_append]
  simp
theorem trim_eq (l : List Nat) : ∀ m, m ≤ l.length → trimB (bytesTo l m) = bytesTo l (trimR l m)
  | 0, _ => by simp [bytesTo, runesBytes, trimB, trimR]
  | m + 1, h => by
    rw [bytesTo_succ l m (by omega), trimR]
    by_cases e : l.getD m 0 = 32
    · rw [if_pos e, e]
      have h32 : (Utf8.encode ((32 : Nat) : Int)).data.toList = [32] := by decide
      rw [h32, trimB_blank, trim_eq l m (by omega)]
    · rw [if_neg e]
      obtain ⟨i, c, h1, h2⟩ := enc_last _ e
      rw [h1, ← List.append_assoc, trimB_keep _ _ h2, List.append_assoc, ← h1, ← bytesTo_succ l m (by omega)]
theorem lineB_eq (l : List Nat) : lineB l = bytesTo l (trimR l l.length) := by
  have := trim_eq l l.length (Nat.le_refl _)
  rw [← this]
  unfold lineB bytesTo
  rw [List.take_length]
end Go.Proofs.YtlmdbcgceijlnaaGreatDoor
/-
  The document's lines.
-/
namespace Go.Proofs.YtlmdbcgceijlnaaGreatDoor
open Go Go.AL Go.Sp
variable {σ Y Z τ : Store} {q p b x y : Nat} {s : Sp} {n : Int} {pv : AV}

set_option maxRecDepth 8000 in
theorem rtrim_calls (l : List Nat) (hl : l.length ≤ 100000) (σ : Store) : ACalls Tryz.prog 58 [.list false 1 (r32A l)] σ fun v σ' => v = .lit (.string (toB (lineB l))) ∧ σ' = σ := by
  rw [lineB_eq]
  refine ACalls.of_awp follows (st := st58) (plans := pl58) (n := 22) Tryz.func58 rfl (by kernel_rfl) (by kernel_rfl) (by kernel_rfl) ?_
  simp
  refine codeK.loop follows (st := st58) (plans := pl58) (X := Nat) (fun m => m ≤ l.length ∧ trimR l m = trimR l l.length)
    (fun m => [(0, .list false 1 (r32A (l.take m)))]) (fun _ => σ) (fun m => m) l.length (by kernel_rfl) (by simp) (by simp) (Store.sub_refl _) fun m hm => ?_
  obtain ⟨hm1, hm2⟩ := hm
  have hbt : ∀ m, toB (bytesTo l m) = runesBytes ((l.take m).map fun n : Nat => (n : Int)) := fun m => by unfold bytesTo; simp [toB]
  cases m with
  | zero =>
    rw [← hm2]
    simp [runesOf_r32A, hbt, trimR]
  | succ m =>
    have hln : (r32A (l.take (m + 1))).length = m + 1 := by simp; omega
    have hw : IntKind.i64.wrap ((m : Int) + 1 - 1) = (m : Int) := by rw [wrap_i64 (by omega) (by omega)]; omega
    have hw' : IntKind.i64.wrap (m : Int) = (m : Int) := wrap_i64 (by omega) (by omega)
    have hg : (r32A (l.take (m + 1)))[m]? = some (.lit (.int .i32 (l.getD m 0 : Nat))) := by
      rw [r32A_at _ _ (by simp; omega)]; simp [List.getD_eq_getElem?_getD]
    have hgo : ∀ h : m < (r32A (l.take (m + 1))).length, (r32A (l.take (m + 1)))[m]'h = .lit (.int .i32 (l.getD m 0 : Nat)) := fun h => by rw [List.getElem?_eq_getElem h] at hg; exact Option.some.inj hg
    have htk : List.take m (r32A (l.take (m + 1))) = r32A (l.take m) := by
      unfold r32A; rw [← List.map_take, List.take_take]; congr 2; omega
    have htr : trimR l (m + 1) = if l.getD m 0 = 32 then trimR l m else m + 1 := rfl
    have hru := runesOf_r32A (l.take (m + 1))
    generalize hRR : r32A (l.take (m + 1)) = RR at *
    generalize l.getD m 0 = bb at *
    by_cases hb : bb = 32
    · subst hb
      simp [hln, hw, hw', hg, hgo, htk]
      exact ⟨m, ⟨by omega, by rw [← hm2, htr, if_pos rfl]⟩, by omega, AV.le_refl _⟩
    · have hb' : ¬ (bb : Int) = 32 := by omega
      simp [hln, hw, hw', hg, hgo, hb, hb', hru]
      rw [← hm2, htr, if_neg hb, hbt, List.map_take]
      exact AV.le_refl _
set_option maxRecDepth 8000 in
theorem rlines_calls (h : Ref σ x y s) (hn : isPage n) : ACalls Tryz.prog 14 [ptrA x, .lit (.int .i64 n)] σ fun v σ' => v = .list true 1 (strsA (linesL n s)) ∧ σ' = σ := by
  have ho := h.obj
  unfold rfO at ho
  have hsn := s.n_le
  have hl := signsL_length n s
  have hdim : Dim s.rows s.cols := dim_of s.model s.alt
  have hnn : s.n = s.rows * s.cols := rfl
  have hsg := rsignsL_calls h hn
  have hlt : ∀ k, k < s.rows → (chunkL (signsL n s) s.cols k).length ≤ 100000 := fun k _ => by unfold chunkL; simp; omega
  have htr := fun k hk τ => rtrim_calls (chunkL (signsL n s) s.cols k) (hlt k hk) τ
  have hla : ∀ k, lineB (chunkL (signsL n s) s.cols k) = lineAt n s k := fun _ => rfl
  have hD : ∀ k, k < s.rows → List.drop (k * s.cols) (List.take (k * s.cols + s.cols) (r32A (signsL n s))) = r32A (chunkL (signsL n s) s.cols k) := fun k _ => by
    unfold chunkL r32A
    rw [List.drop_take, Nat.add_sub_cancel_left, List.map_take, List.map_drop]
  have hll : linesL n s = (List.range s.rows).map (lineAt n s) := rfl
  have hss := strsA_succ (lineAt n s)
  have hr2 := hdim.r2
  have hc1 := hdim.c1
  simp only [hla] at htr
  refine ACalls.of_awp follows (st := st14) (plans := pl14) (n := 37) Tryz.func14 rfl (by kernel_rfl) (by kernel_rfl) (by kernel_rfl) ?_
  simp
  refine callK.eq hsg ?_
  rw [hll]
  generalize signsL n s = L at *
  generalize lineAt n s = LA at *
  simp
  refine codeK.loop follows (st := st14) (plans := pl14) (X := Nat) (fun k => k ≤ s.rows)
    (fun k => [(0, ptrA x), (5, .list false 1 (r32A L)), (6, .list true 1 (strsA ((List.range k).map LA))), (7, .lit (.int .i64 (k * s.cols : Nat)))]) (fun _ => σ) (fun k => s.rows - k) 0 (by kernel_rfl) (by simp) (by simp [strsA]) (Store.sub_refl _) fun k hk => ?_
  by_cases hkr : k < s.rows
  · have hk1 : (k + 1) * s.cols = k * s.cols + s.cols := Nat.succ_mul k s.cols
    have hkc : k * s.cols + s.cols ≤ s.n := by rw [hnn, ← hk1]; exact Nat.mul_le_mul_right _ hkr
    have hw : IntKind.i64.wrap (((k * s.cols : Nat) : Int) + (s.cols : Int)) = ((k * s.cols : Nat) : Int) + s.cols := wrap_i64 (by omega) (by omega)
    have hDk := hD k hkr
    have htk := fun τ => htr k hkr τ
    have hssk := hss k
    have hsl : (strsA ((List.range k).map LA)).length = k := by simp [strsA]
    generalize hSS : strsA ((List.range k).map LA) = SS at *
    generalize chunkL L s.cols k = CH at *
    generalize hm : k * s.cols = m at *
    have hmL : m < L.length := by omega
    have hmn : m < s.n := by omega
    have g0 : (0 : Int) ≤ (m : Int) + s.cols := by omega
    have hto : ((m : Int) + (s.cols : Int)).toNat = m + s.cols := by omega
    have hb : m + s.cols ≤ L.length := by omega
    have hle : m ≤ m + s.cols := by omega
    simp [hmL, hmn, hl, ho, hw, g0, hto, hkc, hDk]
    refine callK.eq (htk _) ?_
    simp [ho, hw, hsl]
    refine ⟨by omega, by omega, k + 1, by omega, by omega, ⟨by rw [hssk]; exact AV.le_refl _, ?_⟩⟩
    rw [show ((k + 1 : Nat) : Int) * (s.cols : Int) = (m : Int) + s.cols by rw [← Int.natCast_mul, hk1]; omega]
    exact AV.le_refl _
  · obtain rfl : k = s.rows := by omega
    simp [hl, hnn]
end Go.Proofs.YtlmdbcgceijlnaaGreatDoor
/-
  Two screens in one store.
-/
namespace Go.Proofs.YtlmdbcgceijlnaaGreatDoor
open Go Go.AL Go.Sp
variable {σ Y Z τ : Store} {q p q2 p2 b x y : Nat} {s : Sp} {n : Int} {pv : AV}

theorem PS.change (h : PS Y q p n pv τ) (hP : Prg Y q2 p2 s) : PS Y q2 p2 n pv τ := by
  cases h with
  | nil h => exact .nil h
  | page b x h1 h2 h3 h4 h5 => exact .page b x h1 (ne_at hP.obj h4).1 (ne_at hP.row h4).1 h4 h5
theorem PS.upd (h : PS Y q p n pv τ) {z : Nat} {C : List AV} (hb : ∀ b : Nat, pv = pgP b → ¬ z = b) : PS (Y.upd z C) q p n pv (τ.upd z C) := by
  cases h with
  | nil h => exact .nil h
  | page b x h1 h2 h3 h4 h5 =>
    have hz := hb b rfl
    rw [pgS_upd hz]
    exact .page b x h1 h2 h3 (by simp [Ne.symm hz, h4]) (fun g e => by simpa using h5 g e)
theorem PS.both (h : PS Y q p n pv τ) {q2 p2 x y : Nat} {s t : Sp} (h4 : Four τ q2 p2 x y) : PS (both Y q2 p2 x y s t) q p n pv (both τ q2 p2 x y s t) := by
  unfold YtlmdbcgceijlnaaGreatDoor.both putS
  exact (((h.upd (h.fresh h4.x0)).upd (h.fresh h4.y0)).upd (h.fresh h4.q0)).upd (h.fresh h4.p0)
end Go.Proofs.YtlmdbcgceijlnaaGreatDoor
