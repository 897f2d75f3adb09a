/-
  strings.Builder as abstract states: contracts.
-/
import Derived.Test.YtlmdbcgceijlnaaGreatDoorLPart21
import Derived.Test.YtlmdbcgceijlnaaGreatDoorRows
set_option linter.unusedSimpArgs false
set_option linter.unusedVariables false
namespace Go.Proofs.YtlmdbcgceijlnaaGreatDoor
open Go Go.AL Go.RowKit

/-- A builder's state: without a row (what lies in its first cell), or with one. -/
inductive Bst where
  | nil (p : Value)
  | row (g n cap : Nat) (cur : Array Value)
def Bst.v : Bst → Value
  | .nil _ => .slice none 0 0
  | .row g n cap _ => .slice (some ⟨g, 0, none⟩) n cap
def Bst.p (z : Nat) : Bst → Value
  | .nil p => p
  | .row .. => .pointer (some ⟨z, 0, none⟩)
def bldS (z : Nat) : Bst → Store → Store
  | .nil p, σ => σ.put z (rawA 109 #[p, .slice none 0 0])
  | .row g n cap cur, σ => (σ.put g (rawA 5 cur)).put z (rawA 109 #[.pointer (some ⟨z, 0, none⟩), .slice (some ⟨g, 0, none⟩) n cap])
def BldOk (z : Nat) (l : List UInt8) (σ : Store) : Bst → Prop
  | .nil p => l = [] ∧ (p = .pointer none ∨ p = .pointer (some ⟨z, 0, none⟩)) ∧ σ (mkey z) = none
  | .row g n cap cur => l ≠ [] ∧ n = l.length ∧ n ≤ cap ∧ cap ≤ maxLen ∧ cur.size = cap ∧ cur.toList.take n = Lib.byteCells l ∧ σ (mkey z) = none ∧ σ (mkey g) = none ∧ ¬ g = z
theorem BldOk.key {z : Nat} {l : List UInt8} {σ : Store} {x : Bst} (h : BldOk z l σ x) : σ (mkey z) = none := by
  cases x with
  | nil p => exact h.2.2
  | row g n cap cur => exact h.2.2.2.2.2.2.1
theorem bldS_sub {z : Nat} {l : List UInt8} {σ : Store} {x : Bst} (h : BldOk z l σ x) : Store.sub σ (bldS z x σ) := by
  cases x with
  | nil p => exact sub_put_self _ _ _ h.2.2
  | row g n cap cur =>
    obtain ⟨_, _, _, _, _, _, h2, h4, h5⟩ := h
    exact Store.sub_trans (sub_put_self _ _ _ h4) (sub_put_self _ _ _ (by rw [put_mkey, if_neg (fun e => h5 e.symm)]; exact h2))
theorem bldS_nat (z : Nat) (x : Bst) (σ : Store) (o : Nat) : (bldS z x σ) o = σ o := by
  cases x <;> simp [bldS]
theorem bldW_get {D : Nat → Prop} {G : Ghost} {w : World} {z : Nat} {l : List UInt8} {σ : Store} {x : Bst} (hO : BldOk z l σ x) (hW : WR D G (bldS z x σ) w) :
    BldW w z (x.p z) x.v (Lib.byteCells l) ∧ (x.p z = .pointer none ∨ x.p z = .pointer (some ⟨z, 0, none⟩)) ∧ WR D G σ w ∧ ∀ k, (k = z ∨ some k = x.v.ownBlock) → D k ∧ Idle G σ k ∧ σ (mkey k) = none := by
  have hW0 := hW.forget (bldS_sub hO)
  cases x with
  | nil p =>
    obtain ⟨rfl, hp, h2⟩ := hO
    obtain ⟨d, i, hh⟩ := hW.raw (k := z) (T := 109) (cur := #[p, .slice none 0 0]) (by simp [bldS])
    refine ⟨⟨hh, World.ownsRow_nil _ _ _ _, by simp [Bst.v, Value.ownBlock]⟩, hp, hW0, ?_⟩
    rintro k (rfl | hk)
    · exact ⟨d, i.put, h2⟩
    · simp [Bst.v, Value.ownBlock] at hk
  | row g n cap cur =>
    obtain ⟨h0, rfl, hn, hc, hs, ht, h2, h4, h5⟩ := hO
    obtain ⟨d, i, hh⟩ := hW.raw (k := z) (T := 109) (cur := #[.pointer (some ⟨z, 0, none⟩), .slice (some ⟨g, 0, none⟩) l.length cap]) (by simp [bldS])
    obtain ⟨d', i', hh'⟩ := hW.raw (k := g) (T := 5) (cur := cur) (by simp [bldS, h5])
    refine ⟨⟨hh, ?_, ?_⟩, .inr rfl, hW0, ?_⟩
    · rw [Lib.byteCells_length]
      exact ⟨by rw [Lib.byteCells_length, Nat.mul_one], .inr ⟨g, cap, cur, rfl, Nat.zero_le _, hh', hn, hc, by omega, by rw [Nat.mul_one]; exact ht⟩⟩
    · simp [Bst.v, Value.ownBlock, h5]
    · rintro k (rfl | hk)
      · exact ⟨d, i.put.put, h2⟩
      · simp [Bst.v, Value.ownBlock] at hk
        subst hk
        exact ⟨d', i'.put.put, h4⟩
theorem only_WR {D : Nat → Prop} {G : Ghost} {w w' : World} {z : Nat} {v : Value} {σ : Store} (hW : WR D G σ w) (hB : ∀ k, (k = z ∨ some k = v.ownBlock) → D k ∧ Idle G σ k ∧ σ (mkey k) = none) (hD : ∀ k, w.heap.size ≤ k → D k) (h : OnlyW z v w w') : WR D G σ w' ∧ Ext D G w G w' := by
  refine ⟨hW.turn (fun k => k = z ∨ some k = v.ownBlock) (fun k hk => (hB k hk).2) fun k hk hn => h.block k hk (fun e => hn (.inl e)) (fun e => hn (.inr e)), ⟨h.os, h.tape, h.output, h.size, fun _ _ _ h => h, fun k hk => ⟨?_, rfl, rfl⟩⟩⟩
  rcases Nat.lt_or_ge k w.heap.size with hlt | hge
  · exact h.block k hlt (fun e => hk (hB k (.inl e)).1) (fun e => hk (hB k (.inr e)).1)
  · exact absurd (hD k hge) hk
theorem bldW_set {D : Nat → Prop} {G : Ghost} {w w' : World} {z : Nat} {v v' : Value} {l : List UInt8} {σ : Store} (hW : WR D G σ w) (hB : ∀ k, (k = z ∨ some k = v.ownBlock) → D k ∧ Idle G σ k ∧ σ (mkey k) = none) (hD : ∀ k, w.heap.size ≤ k → D k) (h : OnlyW z v w w')
    (hb : BldW w' z (.pointer (some ⟨z, 0, none⟩)) v' (Lib.byteCells l)) (hl : l ≠ []) (hv : v'.ownBlock = v.ownBlock ∨ v'.ownBlock = some w.heap.size) : ∃ x, BldOk z l σ x ∧ WR D G (bldS z x σ) w' ∧ Ext D G w G w' := by
  obtain ⟨hW', hx⟩ := only_WR hW hB hD h
  obtain ⟨dz, iz, kz⟩ := hB z (.inl rfl)
  have hown := hb.own
  rw [Lib.byteCells_length] at hown
  rcases hown.2 with ⟨rfl, h0⟩ | ⟨g, cap, cur, rfl, _, hg, hn, hc, hs, ht⟩
  · exact absurd (List.eq_nil_of_length_eq_zero h0) hl
  · have hgz : ¬ g = z := fun e => hb.ne (by simp [Value.ownBlock, e])
    have hgB : D g ∧ Idle G σ g ∧ σ (mkey g) = none := by
      rcases hv with e | e
      · exact hB g (.inr (by rw [← e]; simp [Value.ownBlock]))
      · have : g = w.heap.size := by simpa [Value.ownBlock] using e
        subst this
        exact ⟨hD _ (Nat.le_refl _), hW.fresh_idle, hW.fresh_key⟩
    obtain ⟨dg, ig, kg⟩ := hgB
    refine ⟨.row g l.length cap cur, ⟨hl, rfl, hn, hc, by omega, by rw [Nat.mul_one] at ht; exact ht, kz, kg, hgz⟩, ?_, hx⟩
    exact (hW'.putRaw hg dg ig).putRaw hb.blk dz iz.to_put
theorem OnlyW.refl (b : Nat) (v : Value) (w : World) : OnlyW b v w w := ⟨rfl, rfl, rfl, Nat.le_refl _, fun _ _ _ _ => rfl⟩
theorem args2 {cargs : Array Value} (h : 2 = cargs.size) : ∃ c0 c1, cargs = #[c0, c1] := ⟨cargs[0], cargs[1], by
  apply Array.ext
  · simp [← h]
  · intro i h1 h2
    match i with
    | 0 => rfl
    | 1 => rfl
    | _ + 2 => simp at h2; omega⟩
theorem args1 {cargs : Array Value} (h : 1 = cargs.size) : ∃ c0, cargs = #[c0] := ⟨cargs[0], by
  apply Array.ext
  · simp [← h]
  · intro i h1 h2
    match i with
    | 0 => rfl
    | _ + 1 => simp at h2⟩
theorem strCells_data (s : ByteArray) (l : List UInt8) : Lib.byteCells l ++ Lib.strCells s = Lib.byteCells (l ++ s.data.toList) := by rw [Lib.strCells_eq, Lib.byteCells_append]
theorem wstr_calls (z : Nat) (x : Bst) (l : List UInt8) (s : ByteArray) (σ : Store) (hO : BldOk z l σ x) (hlen : l.length + s.size ≤ 140737488355328) (hs : s.data.toList ≠ []) :
    ACalls Tryz.prog 61 [ptrA z, .lit (.string s)] (bldS z x σ) fun v σ' => v = .tuple [.lit (.int .i64 s.size), .lit .nilIface] ∧ ∃ x', BldOk z (l ++ s.data.toList) σ x' ∧ σ' = bldS z x' σ := by
  intro D G w cargs hl hargs hW hfresh
  obtain ⟨c0, c1, rfl⟩ := args2 (by simpa using hl)
  have h0 := (hargs 0 _ c0 rfl rfl).1.lit_eq rfl
  have h1 := (hargs 1 _ c1 rfl rfl).1.lit_eq rfl
  subst h0 h1
  obtain ⟨hb, hp, hW0, hB⟩ := bldW_get hO hW
  have hne : l ++ s.data.toList ≠ [] := fun e => hs (List.append_eq_nil_iff.1 e).2
  have hlen' : (Lib.byteCells l).length + s.size ≤ 140737488355328 := by rw [Lib.byteCells_length]; exact hlen
  have fin : ∀ (e : Ending) (w' : World), (e = .returned (.tuple #[.int .i64 s.size, .nilIface]) ∧ ∃ v', BldW w' z (.pointer (some ⟨z, 0, none⟩)) v' (Lib.byteCells l ++ Lib.strCells s) ∧ OnlyW z x.v w w' ∧ (v'.ownBlock = x.v.ownBlock ∨ v'.ownBlock = some w.heap.size)) →
      ∃ v cv G' σ', e = .returned cv ∧ (v = .tuple [.lit (.int .i64 s.size), .lit .nilIface] ∧ ∃ x', BldOk z (l ++ s.data.toList) σ x' ∧ σ' = bldS z x' σ) ∧ VR G'.F v cv ∧ OwnAt G' D .acc v cv ∧ WR D G' σ' w' ∧ Ext D G w G' w' := by
    rintro e w' ⟨rfl, v', q1, q2, q3⟩
    rw [strCells_data] at q1
    obtain ⟨x', r1, r2, r3⟩ := bldW_set hW0 hB hfresh q2 q1 hne q3
    refine ⟨_, _, G, _, rfl, ⟨rfl, x', r1, rfl⟩, .tuple _ _ rfl fun i c u hc hu => ?_, OwnAt.of_plain rfl, r2, r3⟩
    match i with
    | 0 => simp at hc hu; subst hc hu; exact .lit _
    | 1 => simp at hc hu; subst hc hu; exact .lit _
    | _ + 2 => simp at hc
  rcases hp with hp | hp
  · rw [hp] at hb
    have hsh : w.shape? z = some (109, 2) := by have := hb.blk; simp [World.shape?, this]
    refine (oWriteUsed z x.v (Lib.byteCells l) s _ (hb.used _) hlen' w (.pointer none) (oCopyFresh z w hb.cell0 hsh (Lib.frozen_of_heap hb.blk 0)) ⟨rfl, rfl, rfl, by simp [World.setCell], fun k hk hkb _ => Below.heap_setCell _ _ _ _ hkb⟩ (by simp [World.setCell])).mono fin
  · rw [hp] at hb
    exact (oWriteUsed z x.v (Lib.byteCells l) s w hb hlen' w (.pointer none) (oCopyUsed z w hb.cell0) (OnlyW.refl _ _ _) rfl).mono fin
theorem bstr_calls (z : Nat) (x : Bst) (l : List UInt8) (σ : Store) (hO : BldOk z l σ x) (hl : l ≠ []) : ACalls Tryz.prog 62 [ptrA z] (bldS z x σ) fun v σ' => v = .lit (.string (toB l)) ∧ σ' = σ := by
  intro D G w cargs hl' hargs hW hfresh
  obtain ⟨c0, rfl⟩ := args1 (by simpa using hl')
  have h0 := (hargs 0 _ c0 rfl rfl).1.lit_eq rfl
  subst h0
  obtain ⟨hb, hp, hW0, hB⟩ := bldW_get hO hW
  refine (oString z _ _ l w hb hl).mono ?_
  rintro e w' ⟨rfl, q⟩
  obtain ⟨r1, r2⟩ := only_WR hW0 hB hfresh q
  exact ⟨_, _, G, _, rfl, ⟨rfl, rfl⟩, .lit _, OwnAt.of_plain rfl, r1, r2⟩
end Go.Proofs.YtlmdbcgceijlnaaGreatDoor
/-
  All lines as one text.
-/
namespace Go.Proofs.YtlmdbcgceijlnaaGreatDoor
open Go Go.AL Go.Sp
variable {σ Y Z τ : Store} {q p b x y z : Nat} {s : Sp} {n : Int} {pv : AV} {l : List UInt8} {X : Bst}

theorem put_put (σ : Store) {a c : Nat} (h : ¬ a = c) (A C : List AV) : (σ.put a A).put c C = (σ.put c C).put a A := by
  funext o
  unfold Store.put
  by_cases h1 : o = mkey c
  · subst h1
    have : ¬ mkey c = mkey a := by simp; exact fun e => h e.symm
    simp [this]
  · simp [h1]
theorem bldS_upd (z : Nat) (X : Bst) (σ : Store) (a : Nat) (A : List AV) : bldS z X (σ.upd a A) = (bldS z X σ).upd a A := by
  cases X <;> simp [bldS]
theorem bldS_key {g : Nat} (h : (bldS z X Y) (mkey g) = none) : ¬ g = z ∧ (∀ r m cap cur, X = .row r m cap cur → ¬ g = r) ∧ Y (mkey g) = none := by
  cases X with
  | nil p =>
    simp only [bldS, put_mkey] at h
    split at h
    · cases h
    · rename_i h1; exact ⟨h1, fun _ _ _ _ e => (by cases e), h⟩
  | row r m cap cur =>
    simp only [bldS, put_mkey] at h
    split at h
    · cases h
    · rename_i h1
      split at h
      · cases h
      · rename_i h2
        exact ⟨h1, fun _ _ _ _ e => by cases e; exact h2, h⟩
theorem bldS_put {g : Nat} (h1 : ¬ g = z) (h2 : ∀ r m cap cur, X = .row r m cap cur → ¬ g = r) (C : List AV) : (bldS z X Y).put g C = bldS z X (Y.put g C) := by
  cases X with
  | nil p => simp only [bldS]; rw [put_put _ (fun e => h1 e.symm)]
  | row r m cap cur => simp only [bldS]; rw [put_put _ (fun e => h1 e.symm), put_put _ (fun e => h2 _ _ _ _ rfl e.symm)]
theorem pgS_bld {b : Nat} {xx : Option Nat} (h : ∀ g, xx = some g → (bldS z X Y) (mkey g) = none) : pgS b n xx (bldS z X Y) = bldS z X (pgS b n xx Y) := by
  cases xx with
  | none => simp only [pgS, bldS_upd]
  | some g =>
    obtain ⟨h1, h2, _⟩ := bldS_key (h g rfl)
    simp only [pgS]
    rw [← bldS_upd, bldS_put h1 h2]
theorem PS.bld (h : PS Y q p n pv τ) (hO : BldOk z l τ X) : PS (bldS z X Y) q p n pv (bldS z X τ) := by
  cases h with
  | nil h => exact .nil h
  | page b xx h1 h2 h3 h4 h5 =>
    have h6 : ∀ g, xx = some g → (bldS z X Y) (mkey g) = none := fun g e => by
      subst e
      have h7 := h5 g rfl
      have k : (pgS b n (some g) Y) (mkey g) = some (mapA (codesN n 256)) := by simp [pgS]
      cases X with
      | nil p =>
        have hz := hO.2.2
        have n1 : ¬ g = z := fun e => by subst e; rw [k] at hz; cases hz
        simp only [bldS, put_mkey, if_neg n1, h7]
      | row r m cap cur =>
        obtain ⟨_, _, _, _, _, _, hz, hr, _⟩ := hO
        have n1 : ¬ g = z := fun e => by subst e; rw [k] at hz; cases hz
        have n2 : ¬ g = r := fun e => by subst e; rw [k] at hr; cases hr
        simp only [bldS, put_mkey, if_neg n1, if_neg n2, h7]
    rw [← pgS_bld h6]
    exact .page b xx h1 h2 h3 (by rw [bldS_nat]; exact h4) h6
theorem PS.unbld (h : PS (bldS z X Y) q p n pv τ) (hO : BldOk z l Y X) : ∃ τ0, τ = bldS z X τ0 ∧ PS Y q p n pv τ0 ∧ BldOk z l τ0 X := by
  cases h with
  | nil h => exact ⟨_, rfl, .nil h, hO⟩
  | page b xx h1 h2 h3 h4 h5 =>
    rw [bldS_nat] at h4
    refine ⟨_, pgS_bld h5, .page b xx h1 h2 h3 h4 (fun g e => (bldS_key (h5 g e)).2.2), ?_⟩
    have key : ∀ k : Nat, (∀ g, xx = some g → ¬ k = g) → Y (mkey k) = none → (pgS b n xx Y) (mkey k) = none := fun k hk hy => by
      cases xx with
      | none => simpa [pgS] using hy
      | some g => simp [pgS, hk g rfl, hy]
    cases X with
    | nil p => exact ⟨hO.1, hO.2.1, key _ (fun g e e' => (bldS_key (h5 g e)).1 e'.symm) hO.2.2⟩
    | row r m cap cur =>
      obtain ⟨a1, a2, a3, a4, a5, a6, a7, a8, a9⟩ := hO
      exact ⟨a1, a2, a3, a4, a5, a6, key _ (fun g e e' => (bldS_key (h5 g e)).1 e'.symm) a7, key _ (fun g e e' => (bldS_key (h5 g e)).2.1 _ _ _ _ rfl e'.symm) a8, a9⟩
theorem BldOk.less (h : BldOk z l τ X) (hs : Store.sub Y τ) : BldOk z l Y X := by
  have k : ∀ o : Int, τ o = none → Y o = none := fun o e => by
    rcases hs o with h | h
    · exact h
    · rw [h]; exact e
  cases X with
  | nil p => exact ⟨h.1, h.2.1, k _ h.2.2⟩
  | row r m cap cur =>
    obtain ⟨a1, a2, a3, a4, a5, a6, a7, a8, a9⟩ := h
    exact ⟨a1, a2, a3, a4, a5, a6, k _ a7, k _ a8, a9⟩
theorem Scr.bld {f : Sp → Nat → List AV} (h : Scr f Y q p s) (z : Nat) (X : Bst) : Scr f (bldS z X Y) q p s := ⟨by rw [bldS_nat]; exact h.obj, by rw [bldS_nat]; exact h.row, h.ne, h.good⟩
end Go.Proofs.YtlmdbcgceijlnaaGreatDoor
/-
  All lines as one text: the program's.
-/
namespace Go.Proofs.YtlmdbcgceijlnaaGreatDoor
open Go Go.AL Go.Sp
variable {σ Y Z τ : Store} {q p b x y z : Nat} {s : Sp} {n : Int} {pv : AV} {l : List UInt8} {X : Bst}

theorem lineB_len (l : List Nat) : (lineB l).length ≤ 4 * l.length := by
  have h0 := trimN_le (runesBytes (l.map fun n : Nat => (n : Int))).data.toList (runesBytes (l.map fun n : Nat => (n : Int))).data.toList.length
  have h1 := foldl_size_le (l.map fun n : Nat => (n : Int)) ByteArray.empty
  have h2 : (runesBytes (l.map fun n : Nat => (n : Int))).size ≤ 0 + 4 * (l.map fun n : Nat => (n : Int)).length := h1
  rw [List.length_map] at h2
  have h3 : (runesBytes (l.map fun n : Nat => (n : Int))).data.toList.length = (runesBytes (l.map fun n : Nat => (n : Int))).size := by
    generalize runesBytes (l.map fun n : Nat => (n : Int)) = S
    exact Array.length_toList
  unfold lineB trimB
  rw [List.length_take]
  omega
theorem lineAt_len (n : Int) (s : Sp) (k : Nat) : (lineAt n s k).length ≤ 1000 := by
  have hdim : Dim s.rows s.cols := dim_of s.model s.alt
  have hc2 := hdim.c2
  have := lineB_len (chunkL (signsL n s) s.cols k)
  have h2 : (chunkL (signsL n s) s.cols k).length ≤ s.cols := by unfold chunkL; rw [List.length_take]; omega
  unfold lineAt
  omega
def textTo (n : Int) (s : Sp) (k : Nat) : List UInt8 := ((List.range k).map fun i => lineAt n s i ++ [10]).flatten
theorem textTo_succ (n : Int) (s : Sp) (k : Nat) : textTo n s (k + 1) = textTo n s k ++ (lineAt n s k ++ [10]) := by
  unfold textTo
  rw [List.range_succ, List.map_append, List.flatten_append]
  simp
theorem textTo_len (n : Int) (s : Sp) (k : Nat) : (textTo n s k).length ≤ 1001 * k := by
  induction k with
  | zero => simp [textTo]
  | succ k ih =>
    rw [textTo_succ]
    have := lineAt_len n s k
    simp only [List.length_append, List.length_cons, List.length_nil]
    omega
@[simp] def st19r : List Nat := [2000005]
theorem toB_data (l : List UInt8) : (toB l).data.toList = l := by simp [toB]
theorem toB_app (l m : List UInt8) : toB l ++ toB m = toB (l ++ m) := by
  apply ByteArray.ext
  simp [toB]
set_option maxHeartbeats 2000000 in
set_option maxRecDepth 8000 in
theorem text_calls (hP : Prg Y q p s) (h : PS Y q p n pv τ) : ACalls Tryz.prog 19 [ptrA q, pv] τ fun v σ' => v = .lit (.string (toB (textTo n s s.rows))) ∧ PS Y q p n pv σ' := by
  obtain ⟨a, ha⟩ := h.ptr
  rw [ha] at h ⊢
  clear ha
  have hdim : Dim s.rows s.cols := dim_of s.model s.alt
  have hr1 := hdim.r1
  have hr2 := hdim.r2
  refine ACalls.of_awpY follows (st := st19r) (plans := pl19) (n := 17) Tryz.func19 rfl (by kernel_rfl) (by kernel_rfl) (by kernel_rfl) ?_
  simp
  intro z hz hzk
  have e0 : τ.put z (rawA 109 (Value.agg #[.pointer none, .slice none 0 0]).cells) = bldS z (.nil (.pointer none)) τ := rfl
  rw [e0]
  clear e0
  simp
  refine callK.of (mkLines_calls a q _) ?_
  rintro v τ2 ⟨c1, c2, f1, f2, n12, rfl, rfl⟩
  rw [bldS_nat] at f1 f2
  have sw : ∀ {i j : Nat}, ¬ i = j → ¬ j = i := fun h e => h e.symm
  have less : ∀ {z : Nat}, τ z = none → Y z = none := fun {z} e => by
    rcases h.sub z with e' | e'
    · exact e'
    · rw [e']; exact e
  have yc1 := less f1
  have yc2 := less f2
  rw [← bldS_upd, ← bldS_upd]
  obtain ⟨_, g1⟩ := h.new f1 [ptrA q]
  obtain ⟨_, g2⟩ := g1.new (z := c2) (by simp [f2, n12, sw n12]) [.lit (.pointer a)]
  have hO0 : BldOk z [] ((τ.upd c1 [ptrA q]).upd c2 [.lit (.pointer a)]) (.nil (.pointer none)) := ⟨rfl, .inl rfl, by simpa using hzk⟩
  have hBf : Prg ((Y.upd c1 [ptrA q]).upd c2 [.lit (.pointer a)]) q p s := (hP.new yc1 _).new (by simp [yc2, n12, sw n12]) _
  have yd1 : ((Y.upd c1 [ptrA q]).upd c2 [.lit (.pointer a)]) c1 = some [ptrA q] := by simp [n12, sw n12]
  have yd2 : ((Y.upd c1 [ptrA q]).upd c2 [.lit (.pointer a)]) c2 = some [.lit (.pointer a)] := by simp
  have hdrop : ∀ τ0, PS ((Y.upd c1 [ptrA q]).upd c2 [.lit (.pointer a)]) q p n (.lit (.pointer a)) τ0 → ∃ τ', PS Y q p n (.lit (.pointer a)) τ' ∧ Store.sub τ' τ0 := fun τ0 h3 => by
    obtain ⟨τ3, h4, s4⟩ := h3.drop (by simp [yc2, n12, sw n12])
    obtain ⟨τ5, h5, s5⟩ := h4.drop yc1
    exact ⟨τ5, h5, Store.sub_trans s5 s4⟩
  generalize (Y.upd c1 [ptrA q]).upd c2 [.lit (.pointer a)] = Yc at *
  generalize (τ.upd c1 [ptrA q]).upd c2 [.lit (.pointer a)] = τc at *
  clear g1
  simp
  refine codeYK.rangeL follows (st := st19r) (plans := pl19) (lines_iter (q := q) (p := p) a c1 c2 s n _) (by simp) (by simp) (fun k h => rfl) (by kernel_rfl) (by kernel_rfl) (by kernel_rfl)
    (fun k g ρ E => ∃ X, BldOk z (textTo n s k) Yc X ∧ g = bldS z X Yc ∧ ∃ τ0, PS g q p n (.lit (.pointer a)) τ0 ∧ Store.sub τ0 ρ) (fun k g ρ E => ∃ X, BldOk z (textTo n s k) Yc X ∧ g = bldS z X Yc ∧ ∃ τ0, PS g q p n (.lit (.pointer a)) τ0 ∧ Store.sub τ0 ρ)
    (fun c ρ E => False) (bldS z (.nil (.pointer none)) Yc) _ ⟨_, hO0.less g2.sub, rfl, _, g2.bld hO0, Store.sub_refl _⟩ (Store.sub_refl _) ?_ ?_ ?_ ?_ ?_
  · rintro k g ρ E hk ⟨X, hO, rfl, τ0, h1, h2⟩
    exact ⟨hBf.bld z X, by rw [bldS_nat]; exact yd1, by rw [bldS_nat]; exact yd2, τ0, h1, h2⟩
  · rintro k g ρ ρ' E hk ⟨X, hO, rfl, _⟩ ⟨τ0, h1, h2⟩
    exact ⟨X, hO, rfl, τ0, h1, h2⟩
  · rintro k g hk ρ E ⟨X, hO, rfl, τ0, h1, h2⟩
    obtain ⟨τ1, rfl, h3, hO1⟩ := h1.unbld hO
    have hlk := lineAt_len n s k
    have htl := textTo_len n s k
    have hts := textTo_succ n s k
    simp only [argN]
    generalize lineAt n s k = LA at *
    have hsz : (toB LA).size = LA.length := toB_size LA
    have hw := wstr_calls z X (textTo n s k) (toB (LA ++ [10])) τ1 hO1 (by rw [toB_size]; simp; omega) (by rw [toB_data]; simp)
    rw [toB_data, ← hts] at hw
    have he : toB LA ++ ⟨#[10]⟩ = toB (LA ++ [10]) := toB_app LA [10]
    have hs10 : (⟨#[10]⟩ : ByteArray).size = 1 := rfl
    have hno : ¬ (9223372036854775807 : Int) < (LA.length : Int) + 1 := by omega
    simp [hsz, he, hs10, hno]
    refine callK.of (forget_calls hw h2) ?_
    rintro v ρ' ⟨rfl, X', hO', rfl⟩
    simp
    exact ⟨_, Store.sub_refl _, _, X', hO'.less h3.sub, rfl, _, h3.bld hO', Store.sub_refl _⟩
  · rintro g ρ E σ' hs' ⟨X, hO, rfl, τ0, h1, h2⟩
    obtain ⟨τ1, rfl, h3, hO1⟩ := h1.unbld hO
    have hne : textTo n s s.rows ≠ [] := by
      obtain ⟨r, hr⟩ : ∃ r, s.rows = r + 1 := ⟨s.rows - 1, by omega⟩
      rw [hr, textTo_succ]
      simp
    obtain ⟨τ9, h9, s9⟩ := hdrop _ h3
    simp
    refine callK.eq (forget_calls (bstr_calls z X _ τ1 hO1 hne) (Store.sub_trans h2 hs')) ?_
    simp
    exact ⟨_, AV.le_refl _, τ9, s9, rfl, h9⟩
  · rintro c ρ E σ' _ h
    exact h.elim
end Go.Proofs.YtlmdbcgceijlnaaGreatDoor
/-
  SnapDiffs.
-/
namespace Go.Proofs.YtlmdbcgceijlnaaGreatDoor
open Go Go.AL Go.Sp
variable {σ Y Z τ : Store} {q p q2 p2 b x y : Nat} {s t : Sp} {n : Int} {pv : AV}

theorem Four.less {q p x y : Nat} (h : Four τ q p x y) (hs : Store.sub Y τ) : Four Y q p x y := by
  have k : ∀ {z : Nat}, τ z = none → Y z = none := fun {z} hz => by
    rcases hs z with h | h
    · exact h
    · rw [h]; exact hz
  obtain ⟨f1, f2, f3, f4, f5, f6, f7, f8, f9, f10⟩ := h
  exact ⟨k f1, k f2, k f3, k f4, f5, f6, f7, f8, f9, f10⟩
theorem lineAt_upTo (n : Int) {s : Sp} (h : s.good) (k : Nat) : lineAt n (upTo s s.n) k = lineAt n s k := by
  unfold lineAt
  rw [signsL_upTo n h]
  rfl
end Go.Proofs.YtlmdbcgceijlnaaGreatDoor
/-
  SnapLines.
-/
namespace Go.Proofs.YtlmdbcgceijlnaaGreatDoor
open Go Go.AL Go.Sp
variable {σ Y Z τ : Store} {q p q2 p2 b x y : Nat} {s t : Sp} {n : Int} {pv : AV}

theorem rows_upTo (s : Sp) : (upTo s s.n).rows = s.rows := rfl
theorem linesL_upTo (n : Int) {s : Sp} (h : s.good) : linesL n (upTo s s.n) = linesL n s := by
  unfold linesL
  rw [rows_upTo]
  congr 1
  funext k
  exact lineAt_upTo n h k
theorem textTo_upTo (n : Int) {s : Sp} (h : s.good) (k : Nat) : textTo n (upTo s s.n) k = textTo n s k := by
  unfold textTo
  congr 2
  funext i
  rw [lineAt_upTo n h]
theorem signAt_upTo (n : Int) {s : Sp} (h : s.good) (k : Nat) : signAt n (upTo s s.n) k = signAt n s k := by
  have hc := upTo_cells h
  unfold signAt hidAt fofF fldAt
  rw [hc]
theorem rem_wrap (r : Nat) (h0 : 0 < r) (h1 : r ≤ 1000) (k : Int) : (k.tmod r + r).tmod r = (wrap r k : Int) := by
  unfold wrap
  have h2 := Int.emod_nonneg k (show (r : Int) ≠ 0 by omega)
  rw [Int.toNat_of_nonneg h2]
  have h3 := Int.tmod_lt_of_pos k (show (0 : Int) < r by omega)
  have h4 := Int.lt_tmod_of_pos k (show (0 : Int) < r by omega)
  rw [Int.tmod_eq_emod_of_nonneg (by omega), Int.add_emod_right]
  have h5 := Int.tmod_add_mul_tdiv k (r : Int)
  have h6 : k % (r : Int) = (k.tmod r + r * (k.tdiv r)) % (r : Int) := by rw [h5]
  rw [h6, Int.add_mul_emod_self_left]
set_option maxHeartbeats 4000000 in
set_option maxRecDepth 8000 in
theorem snapLines_law (m u : UInt8) (l : List Sp.Act) (row k : Int) (stop : UInt8) (hl : l.length ≤ 9223372036854775807) (ht : ∀ a ∈ l, a.text.length ≤ 9223372036854775807) (σ : Store) :
    ACalls Tryz.prog 5 [byteA m, byteA u, .list false 11 (actsA l), .lit (.int .i64 row), .lit (.int .i64 k), byteA stop] σ fun v _ => v = .lit (.bool true) := by
  have hm : 2 ≤ 2 + m.toNat % 4 ∧ 2 + m.toNat % 4 ≤ 5 := by omega
  have hg : (Sp.lays m l).good := Sp.foldl_good _ (Sp.new_good hm)
  have haw := fun τ => sawake_calls τ
  have hlay := fun τ => slayP_calls m u l hl ht τ
  generalize Sp.lays m l = S at *
  refine ACalls.of_awp follows (st := st5) (plans := pl5) (n := 122) Tryz.func5 rfl (by kernel_rfl) (by kernel_rfl) (by kernel_rfl) ?_
  unfold byteA at *
  simp
  refine callK.eq (haw _) ?_
  simp
  refine callK.of (hlay _) ?_
  rintro v τ ⟨hL, -⟩
  unfold LayP at hL
  obtain ⟨q, p, x, y, n, pv, w, hv, hn, hPS, hP, hR, hs⟩ := hL
  subst hv
  obtain ⟨a, ha⟩ := hPS.ptr
  rw [ha] at hPS ⊢
  simp
  have r1 := hPS.ref hR
  have ho := r1.obj
  unfold rfO at ho
  refine callK.eq (rlines_calls r1 hn) ?_
  simp
  have hdim : Dim S.rows S.cols := dim_of S.model S.alt
  have hr1 := hdim.r1
  have hr2 := hdim.r2
  have hs1 : (strsA (linesL n S)).length = S.rows := by simp [strsA, linesL_length]
  have hl1 : ∀ k, k < S.rows → (strsA (linesL n S))[k]? = some (.lit (.string (toB (lineAt n S k)))) := fun k h => by
    rw [strsA_at _ _ (by rw [linesL_length]; exact h)]
    simp [linesL, h]
  refine codeK.loop follows (st := st5) (plans := pl5) (X := Nat) (fun k => k ≤ S.rows)
    (fun j => [(3, .lit (.int .i64 row)), (4, .lit (.int .i64 k)), (5, .lit (.int .u8 stop.toNat)), (13, ptrA q), (14, ptrA x), (15, .lit (.pointer a)), (16, .lit (.int .i64 n)), (17, .list false 1 (strsA (linesL n S))), (18, .lit (.string (toB (textTo n S j)))), (37, .list false 1 (strsA (linesL n S))), (38, .lit (.int .i64 S.rows)), (39, .lit (.int .i64 j))]) (fun _ => τ) (fun k => S.rows - k) 0 (by kernel_rfl) (by simp) (by simp [hs1, textTo, toB]) (Store.sub_refl _) fun j hj => ?_
  by_cases hlt : j < S.rows
  · have hw : IntKind.i64.wrap ((j : Int) + 1) = ((j + 1 : Nat) : Int) := wrap_i64 (by omega) (by omega)
    have hj1 := hl1 j hlt
    have hgj : ∀ h : j < (strsA (linesL n S)).length, (strsA (linesL n S))[j]'h = .lit (.string (toB (lineAt n S j))) := fun h => by rw [List.getElem?_eq_getElem h] at hj1; exact Option.some.inj hj1
    have hlk := lineAt_len n S j
    have htl := textTo_len n S j
    have hts := textTo_succ n S j
    generalize lineAt n S j = LA at *
    generalize strsA (linesL n S) = SL at *
    have he : toB LA ++ ⟨#[10]⟩ = toB (LA ++ [10]) := toB_app LA [10]
    have he2 : toB (textTo n S j) ++ toB (LA ++ [10]) = toB (textTo n S (j + 1)) := by rw [toB_app, hts]
    have hs10 : (⟨#[10]⟩ : ByteArray).size = 1 := rfl
    have hz1 : (toB LA).size = LA.length := toB_size _
    have hz2 : (toB (textTo n S j)).size = (textTo n S j).length := toB_size _
    have hz3 : (toB (LA ++ [10])).size = LA.length + 1 := by rw [toB_size]; simp
    have hno : ¬ (9223372036854775807 : Int) < (LA.length : Int) + 1 := by omega
    have hno2 : ¬ (9223372036854775807 : Int) < ((textTo n S j).length : Int) + ((LA.length : Int) + 1) := by omega
    simp [hlt, hs1, hj1, hgj, hw, he, he2, hs10, hz1, hz2, hz3, hno, hno2]
    exact ⟨j + 1, by omega, by omega, AV.le_refl _, AV.le_refl _⟩
  · obtain rfl : j = S.rows := by omega
    have hr0 : ¬ S.rows = 0 := by omega
    have t3 := Int.tmod_lt_of_pos row (show (0 : Int) < S.rows by omega)
    have t4 := Int.lt_tmod_of_pos row (show (0 : Int) < S.rows by omega)
    have hwA : IntKind.i64.wrap (row.tmod S.rows + S.rows) = row.tmod S.rows + S.rows := wrap_i64 (by omega) (by omega)
    have hrw := rem_wrap S.rows (by omega) (by omega) row
    have hms : IntKind.i64.wrap (1 + IntKind.i64.wrap ((stop.toNat : Int).tmod 50)) = ((1 + stop.toNat % 50 : Nat) : Int) := by
      have e : (stop.toNat : Int).tmod 50 = ((stop.toNat % 50 : Nat) : Int) := rfl
      rw [e, wrap_i64 (n := ((stop.toNat % 50 : Nat) : Int)) (by omega) (by omega), wrap_i64 (by omega) (by omega)]
      omega
    have hM1 : 1 ≤ 1 + stop.toNat % 50 := by omega
    have hM2 : 1 + stop.toNat % 50 ≤ 50 := by omega
    generalize 1 + stop.toNat % 50 = M at *
    have hA := fun τ' (h' : PS w q p n (.lit (.pointer a)) τ') => lwl_calls hP h' 1000 (by omega) (by omega)
    have hB := fun τ' (h' : PS w q p n (.lit (.pointer a)) τ') => lwl_calls hP h' M (by omega) (by omega)
    have hT := fun τ' (h' : PS w q p n (.lit (.pointer a)) τ') => text_calls hP h'
    have hL := fun τ' (h' : PS w q p n (.lit (.pointer a)) τ') => lineI_calls hP h' row
    have hS := fun τ' (h' : PS w q p n (.lit (.pointer a)) τ') => signI_calls hP h' k
    have hE1 := fun τ' => strEq_calls (linesL n S) (by rw [linesL_length]; omega) τ'
    have hE2 := fun τ' => strEq_calls ((linesL n S).take M) (by rw [List.length_take]; omega) τ'
    have htk : (linesL n S).take 1000 = linesL n S := List.take_of_length_le (by rw [linesL_length]; omega)
    have htm : strsA ((linesL n S).take M) = (strsA (linesL n S)).take M := by simp [strsA, List.map_take]
    have hun : (upTo S S.n).n = S.n := rfl
    simp only [linesL_upTo n hg, textTo_upTo n hg, rows_upTo, lineAt_upTo n hg, signAt_upTo n hg, hun, htk, htm] at hA hB hT hL hS hE2
    have hsg := fun τ' (h' : Ref τ' x y S) => rsignsL_calls h' hn
    have hwr := fun τ' (h' : Ref τ' x y S) => rswrap_calls h' k
    have hlr := hl1 (wrap S.rows row) (wrap_lt (by omega) row)
    have hgr : ∀ h : wrap S.rows row < (strsA (linesL n S)).length, (strsA (linesL n S))[wrap S.rows row]'h = .lit (.string (toB (lineAt n S (wrap S.rows row)))) := fun h => by rw [List.getElem?_eq_getElem h] at hlr; exact Option.some.inj hlr
    have hRl : wrap S.rows row < S.rows := wrap_lt (by omega) row
    have hwk : wrap S.n k < S.n := wrap_lt S.n_pos k
    have hsl := signsL_length n S
    have hsk : (r32A (signsL n S))[wrap S.n k]? = some (.lit (.int .i32 (signAt n S (wrap S.n k) : Nat))) := by
      rw [r32A_at _ _ (by omega)]
      simp [signsL, hwk]
    have hgk : ∀ h : wrap S.n k < (r32A (signsL n S)).length, (r32A (signsL n S))[wrap S.n k]'h = .lit (.int .i32 (signAt n S (wrap S.n k) : Nat)) := fun h => by rw [List.getElem?_eq_getElem h] at hsk; exact Option.some.inj hsk
    have hrl : (r32A (signsL n S)).length = S.n := by simp [r32A, hsl]
    clear hl1 hlay haw
    generalize strsA (linesL n S) = SL at *
    generalize r32A (signsL n S) = GL at *
    generalize wrap S.rows row = R at *
    generalize wrap S.n k = K at *
    generalize lineAt n S R = LR at *
    generalize signAt n S K = GK at *
    generalize textTo n S S.rows = TX at *
    simp [ho, hr0, hwA, hrw, hms]
    refine callK.of (hA _ hPS) ?_
    rintro v τ1 ⟨rfl, hPS1⟩
    simp
    refine callK.eq (hE1 _) ?_
    by_cases hML : M < SL.length
    · have hmle : M ≤ SL.length := by omega
      simp [hML, hmle]
      refine callK.of (hB _ hPS1) ?_
      rintro v τ2 ⟨rfl, hPS2⟩
      simp
      refine callK.eq (hE2 _) ?_
      simp
      refine callK.of (hT _ hPS2) ?_
      rintro v τ3 ⟨rfl, hPS3⟩
      simp [hs1, hRl, hlr, hgr]
      repeat' with_reducible apply And.intro
      all_goals
        refine callK.of (hL _ hPS3) ?_
        rintro v τ4 ⟨rfl, hPS4⟩
        simp [hs1, hRl, hlr, hgr]
        refine callK.of (hS _ hPS4) ?_
        rintro v τ5 ⟨rfl, hPS5⟩
        simp
        refine callK.eq (hsg _ (hPS5.ref hR)) ?_
        simp
        refine callK.eq (hwr _ (hPS5.ref hR)) ?_
        simp [hsk, hgk, hrl, hwk]
        exact ⟨_, Store.sub_refl _⟩
    · have hML' : SL.length ≤ M := by omega
      rw [List.take_of_length_le hML'] at hB hE2
      simp [hML]
      refine callK.of (hB _ hPS1) ?_
      rintro v τ2 ⟨rfl, hPS2⟩
      simp
      refine callK.eq (hE2 _) ?_
      simp
      refine callK.of (hT _ hPS2) ?_
      rintro v τ3 ⟨rfl, hPS3⟩
      simp [hs1, hRl, hlr, hgr]
      repeat' with_reducible apply And.intro
      all_goals
        refine callK.of (hL _ hPS3) ?_
        rintro v τ4 ⟨rfl, hPS4⟩
        simp [hs1, hRl, hlr, hgr]
        refine callK.of (hS _ hPS4) ?_
        rintro v τ5 ⟨rfl, hPS5⟩
        simp
        refine callK.eq (hsg _ (hPS5.ref hR)) ?_
        simp
        refine callK.eq (hwr _ (hPS5.ref hR)) ?_
        simp [hsk, hgk, hrl, hwk]
        exact ⟨_, Store.sub_refl _⟩
end Go.Proofs.YtlmdbcgceijlnaaGreatDoor
/-
  SnapLines: for every input the law returns true, and the arguments read as they did.
-/
namespace Go.Proofs.YtlmdbcgceijlnaaGreatDoor
open Go Go.AL Go.ChangeShapes Go.WideShapes Go.ChangeAt Go.RowKit Go.Lib

theorem own_snapLines : ownKnob Tryz.prog.godebug = none := by kernel_rfl
theorem laid_snapLines : laidOutB Tryz.prog = true := by kernel_rfl
theorem rec22_snapLines : Tryz.prog.readableRec 22 = true := by kernel_rfl
theorem row22_snapLines : (22 : TypeId) < Tryz.prog.types.size := of_decide_eq_true (by kernel_rfl)
theorem rec3_snapLines : Tryz.prog.readableRec 3 = true := by kernel_rfl
theorem row3_snapLines : (3 : TypeId) < Tryz.prog.types.size := of_decide_eq_true (by kernel_rfl)
theorem rec5_snapLines : Tryz.prog.readableRec 5 = true := by kernel_rfl
theorem row5_snapLines : (5 : TypeId) < Tryz.prog.types.size := of_decide_eq_true (by kernel_rfl)

set_option maxRecDepth 100000 in
theorem snapLines_lifted (os : Os) (started : os.Started) (H : Type) (enc : TypeId × Value → H) :
    ReturnsInHanded {} Tryz.checked os 5 .any (fun w args => (Rows.snapLinesSpec.pre enc Tryz.prog Tryz.f5 [] false w args ∧ laidMetH Tryz.prog laid2 w) ∧ sizedMet enc Tryz.prog Tryz.f5 (OpenSpec.ofChange Rows.snapLinesSpec) false w args) (Rows.snapLinesSpec.post enc Tryz.prog Tryz.f5 false true false false) := by
  refine returnsInHanded_of_change_and (C := Tryz.checked) (X := fun w _ => laidMetH Tryz.prog laid2 w) (fun _ _ _ hh h => h.of_heap hh) own_snapLines started (by kernel_rfl) Tryz.func5
    (ChangeSpec.witness_shaped (enc := enc) (C := Tryz.checked) (os := os) (X := fun w _ => laidMetH Tryz.prog laid2 w) false (World.laidAll Tryz.prog os laid2) #[.int .u8 0, .int .u8 0, .slice none 0 0, .int .i64 0, .int .i64 0, .int .u8 0] 8 (World.laidAll_os _ _ _)
      (World.shaped_of_ZipB (by kernel_rfl) (by kernel_rfl)) (by kernel_rfl) (by kernel_rfl) (by kernel_rfl)
      (by rw [MakeChecks.laidMetH_plain _ _ _ (by kernel_rfl)]; exact laidMet_laidAll _ (by kernel_rfl) (by kernel_rfl))) ?_
  intro W base args ds gs before hval0 hW _ _ hL _
  have hval : ∀ (j : Nat) t v, Tryz.f5.params[j]? = some t → args[j]? = some v → Value.okWide Tryz.prog W .any base t v := hval0
  have hW' := hW
  obtain ⟨p, q, hA0, hV, rfl, hfz, hnd⟩ := hW
  have hA : DataW.TrodAll enc Tryz.prog W 0 (fun _ => true) true Tryz.f5.params.toList args.toList ds p := hA0
  rw [Tryz.params5] at hA hval
  obtain ⟨v0, v1, v2, v3, v4, v5, d0, d1, d2, d3, d4, d5, p0, p1, p2, p3, p4, p5, rfl, rfl, rfl, h0, h1, h2, h3, h4, h5⟩ := trodAll_six hA
  obtain ⟨rfl, rfl⟩ := trodVars_none hV
  obtain ⟨_, hv0⟩ := okWide_int Tryz.underlying5 (hval 0 5 v0 rfl rfl)
  obtain ⟨a0, m0, w0⟩ := (Opens.u8 Tryz.underlying5).arg _ (fun _ => rfl) (by rw [hv0]; rfl) h0
  obtain ⟨_, hv1⟩ := okWide_int Tryz.underlying5 (hval 1 5 v1 rfl rfl)
  obtain ⟨a1, m1, w1⟩ := (Opens.u8 Tryz.underlying5).arg _ (fun _ => rfl) (by rw [hv1]; rfl) h1
  obtain ⟨_, _, _, hv2⟩ := okWide_slice Tryz.underlying22 (hval 2 22 v2 rfl rfl)
  obtain ⟨a2, m2, w2⟩ := (open_acts).arg _ (fun _ => rfl) (by rw [hv2]; rfl) h2
  obtain ⟨_, hv3⟩ := okWide_int Tryz.underlying3 (hval 3 3 v3 rfl rfl)
  obtain ⟨a3, m3, w3⟩ := (Opens.i64 Tryz.underlying3).arg _ (fun _ => rfl) (by rw [hv3]; rfl) h3
  obtain ⟨_, hv4⟩ := okWide_int Tryz.underlying3 (hval 4 3 v4 rfl rfl)
  obtain ⟨a4, m4, w4⟩ := (Opens.i64 Tryz.underlying3).arg _ (fun _ => rfl) (by rw [hv4]; rfl) h4
  obtain ⟨_, hv5⟩ := okWide_int Tryz.underlying5 (hval 5 5 v5 rfl rfl)
  obtain ⟨a5, m5, w5⟩ := (Opens.u8 Tryz.underlying5).arg _ (fun _ => rfl) (by rw [hv5]; rfl) h5
  clear hA0 hval0
  simp only [List.append_nil] at hW'
  have hlt : ∀ x ∈ p0 ++ p1 ++ p2 ++ p3 ++ p4 ++ p5, x.block < W.heap.size := fun x hx => hW'.lt x hx
  refine (law_calls (snapLines_law a0 a1 a2 a3 a4 a5 m2.1 m2.2 _) W #[v0, v1, v2, v3, v4, v5] rfl (fun i c u hc hu => ?_) (laid_none W)).mono fun e W' ⟨he, hb⟩ => ?_
  · match i with
    | 0 => simp at hc hu; subst hc hu; exact ⟨w0, rfl⟩
    | 1 => simp at hc hu; subst hc hu; exact ⟨w1, rfl⟩
    | 2 => simp at hc hu; subst hc hu; exact ⟨w2, rfl⟩
    | 3 => simp at hc hu; subst hc hu; exact ⟨w3, rfl⟩
    | 4 => simp at hc hu; subst hc hu; exact ⟨w4, rfl⟩
    | 5 => simp at hc hu; subst hc hu; exact ⟨w5, rfl⟩
    | n + 6 => simp at hc
  subst he
  refine ⟨_, rfl, [d0, d1, d2, d3, d4, d5], [], p0 ++ p1 ++ p2 ++ p3 ++ p4 ++ p5, [], p0 ++ (p1 ++ (p2 ++ (p3 ++ (p4 ++ p5)))), [], hW', ?_, ?_, rfl, hb.frame _, fun h => (by cases h)⟩
  · exact trodAll_mk1 (shut_bool Tryz.underlying4 true)
  · refine trodAll_mk6 (Below.trod laid_snapLines rec5_snapLines row5_snapLines h0 hb fun x hx => hlt x (by simp [hx])) (Below.trod laid_snapLines rec5_snapLines row5_snapLines h1 hb fun x hx => hlt x (by simp [hx])) (Below.trod laid_snapLines rec22_snapLines row22_snapLines h2 hb fun x hx => hlt x (by simp [hx])) (Below.trod laid_snapLines rec3_snapLines row3_snapLines h3 hb fun x hx => hlt x (by simp [hx])) (Below.trod laid_snapLines rec3_snapLines row3_snapLines h4 hb fun x hx => hlt x (by simp [hx])) (Below.trod laid_snapLines rec5_snapLines row5_snapLines h5 hb fun x hx => hlt x (by simp [hx]))

theorem snapLines_holds : Rows.SnapLinesSaid :=
  OpenClaim.holds_of_wide 5 Tryz.f5 rfl rfl rfl rfl rfl rfl rfl ⟨rfl, rfl, rfl, rfl, rfl⟩ rfl rfl rfl rfl rfl (by kernel_rfl) Tryz.func5 (by kernel_rfl)
    (of_decide_eq_true (by kernel_rfl)) (by unfold Func.isWrapper; first | (rw [if_pos (by decide +kernel)]; kernel_rfl) | (rw [if_neg (by decide +kernel)]; exact ⟨rfl, rfl⟩))
    (fun os started H enc _ => snapLines_lifted os started H enc)
end Go.Proofs.YtlmdbcgceijlnaaGreatDoor
