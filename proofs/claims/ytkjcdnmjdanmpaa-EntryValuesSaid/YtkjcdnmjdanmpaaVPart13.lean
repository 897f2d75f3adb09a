/-
  strings.Builder as abstract states: contracts.
-/
import Derived.Test.YtkjcdnmjdanmpaaVPart12
set_option linter.unusedSimpArgs false
set_option linter.unusedVariables false
namespace Go.Proofs.Ytkjcdnmjdanmpaa
open Go Go.AL Go.RowKit

/-- A builder's state: without a row (what lies in its first cell), or with one. -/
inductive Bst where
  | nil (p : Value)
  | row (g n cap : Nat) (cur : Array Value)
def Bst.v : Bst → Value
  | .nil _ => .slice none 0 0
  | .row g n cap _ => .slice (some ⟨g, 0, none⟩) n cap
def Bst.p (z : Nat) : Bst → Value
  | .nil p => p
  | .row .. => .pointer (some ⟨z, 0, none⟩)
def bldS (z : Nat) : Bst → Store → Store
  | .nil p, σ => σ.put z (rawA 91 #[p, .slice none 0 0])
  | .row g n cap cur, σ => (σ.put g (rawA 5 cur)).put z (rawA 91 #[.pointer (some ⟨z, 0, none⟩), .slice (some ⟨g, 0, none⟩) n cap])
def BldOk (z : Nat) (l : List UInt8) (σ : Store) : Bst → Prop
  | .nil p => l = [] ∧ (p = .pointer none ∨ p = .pointer (some ⟨z, 0, none⟩)) ∧ σ (mkey z) = none
  | .row g n cap cur => l ≠ [] ∧ n = l.length ∧ n ≤ cap ∧ cap ≤ maxLen ∧ cur.size = cap ∧ cur.toList.take n = Lib.byteCells l ∧ σ (mkey z) = none ∧ σ (mkey g) = none ∧ ¬ g = z
theorem BldOk.key {z : Nat} {l : List UInt8} {σ : Store} {x : Bst} (h : BldOk z l σ x) : σ (mkey z) = none := by
  cases x with
  | nil p => exact h.2.2
  | row g n cap cur => exact h.2.2.2.2.2.2.1
theorem bldS_sub {z : Nat} {l : List UInt8} {σ : Store} {x : Bst} (h : BldOk z l σ x) : Store.sub σ (bldS z x σ) := by
  cases x with
  | nil p => exact sub_put_self _ _ _ h.2.2
  | row g n cap cur =>
    obtain ⟨_, _, _, _, _, _, h2, h4, h5⟩ := h
    exact Store.sub_trans (sub_put_self _ _ _ h4) (sub_put_self _ _ _ (by rw [put_mkey, if_neg (fun e => h5 e.symm)]; exact h2))
theorem bldW_get {D : Nat → Prop} {G : Ghost} {w : World} {z : Nat} {l : List UInt8} {σ : Store} {x : Bst} (hO : BldOk z l σ x) (hW : WR D G (bldS z x σ) w) :
    BldW w z (x.p z) x.v (Lib.byteCells l) ∧ (x.p z = .pointer none ∨ x.p z = .pointer (some ⟨z, 0, none⟩)) ∧ WR D G σ w ∧ ∀ k, (k = z ∨ some k = x.v.ownBlock) → D k ∧ Idle G σ k ∧ σ (mkey k) = none ∧ GL.vars k = none := by
  have hW0 := hW.forget (bldS_sub hO)
  cases x with
  | nil p =>
    obtain ⟨rfl, hp, h2⟩ := hO
    obtain ⟨d, i, hh⟩ := hW.raw (k := z) (T := 91) (cur := #[p, .slice none 0 0]) (by simp [bldS])
    refine ⟨⟨hh, World.ownsRow_nil _ _ _ _, by simp [Bst.v, Value.ownBlock]⟩, hp, hW0, ?_⟩
    rintro k (rfl | hk)
    · exact ⟨d, i.put, h2, hW.vars_key (k := k) (cs := rawA 91 #[p, .slice none 0 0]) (by simp [bldS])⟩
    · simp [Bst.v, Value.ownBlock] at hk
  | row g n cap cur =>
    obtain ⟨h0, rfl, hn, hc, hs, ht, h2, h4, h5⟩ := hO
    obtain ⟨d, i, hh⟩ := hW.raw (k := z) (T := 91) (cur := #[.pointer (some ⟨z, 0, none⟩), .slice (some ⟨g, 0, none⟩) l.length cap]) (by simp [bldS])
    obtain ⟨d', i', hh'⟩ := hW.raw (k := g) (T := 5) (cur := cur) (by simp [bldS, h5])
    refine ⟨⟨hh, ?_, ?_⟩, .inr rfl, hW0, ?_⟩
    · rw [Lib.byteCells_length]
      exact ⟨by rw [Lib.byteCells_length, Nat.mul_one], .inr ⟨g, cap, cur, rfl, Nat.zero_le _, hh', hn, hc, by omega, by rw [Nat.mul_one]; exact ht⟩⟩
    · simp [Bst.v, Value.ownBlock, h5]
    · rintro k (rfl | hk)
      · exact ⟨d, i.put.put, h2, hW.vars_key (k := k) (cs := rawA 91 #[.pointer (some ⟨k, 0, none⟩), .slice (some ⟨g, 0, none⟩) l.length cap]) (by simp [bldS])⟩
      · simp [Bst.v, Value.ownBlock] at hk
        subst hk
        exact ⟨d', i'.put.put, h4, hW.vars_key (k := k) (cs := rawA 5 cur) (by simp [bldS, h5])⟩
theorem only_WR {D : Nat → Prop} {G : Ghost} {w w' : World} {z : Nat} {v : Value} {σ : Store} (hW : WR D G σ w) (hB : ∀ k, (k = z ∨ some k = v.ownBlock) → D k ∧ Idle G σ k ∧ σ (mkey k) = none ∧ GL.vars k = none) (hD : ∀ k, w.heap.size ≤ k → D k) (h : OnlyW z v w w') : WR D G σ w' ∧ Ext D G w G w' := by
  refine ⟨hW.turn (fun k => k = z ∨ some k = v.ownBlock) (fun k hk => ⟨(hB k hk).2.1, (hB k hk).2.2.1⟩) (fun k hk => (hB k hk).2.2.2) fun k hk hn => h.block k hk (fun e => hn (.inl e)) (fun e => hn (.inr e)), ⟨h.os, h.tape, h.output, h.size, fun _ _ _ h => h, fun k hk => ⟨?_, rfl, rfl⟩⟩⟩
  rcases Nat.lt_or_ge k w.heap.size with hlt | hge
  · exact h.block k hlt (fun e => hk (hB k (.inl e)).1) (fun e => hk (hB k (.inr e)).1)
  · exact absurd (hD k hge) hk
theorem fresh_ge {D : Nat → Prop} {G : Ghost} {σ : Store} {w : World} (h : WR D G σ w) {k : Nat} (hk : w.heap.size ≤ k) : Idle G σ k ∧ σ (mkey k) = none ∧ GL.vars k = none := by
  refine ⟨⟨?_, ?_, fun i => ?_⟩, ?_, ?_⟩
  · cases hs : σ k with
    | none => rfl
    | some cs => obtain ⟨_, _, _, c, e', h4, _⟩ := h.obj _ cs hs; have := (Array.getElem?_eq_some_iff.1 h4).1; omega
  · cases hs : G.S k with
    | none => rfl
    | some x => obtain ⟨_, ⟨c, e', ⟨_, h2, _⟩, _⟩, _⟩ := h.own _ x.1 x.2.1 x.2.2 hs; have := (Array.getElem?_eq_some_iff.1 h2).1; omega
  · cases hF : G.F k i with
    | none => rfl
    | some u => obtain ⟨c, e', fz, h1, _⟩ := h.frz _ i u hF; have := (Array.getElem?_eq_some_iff.1 h1).1; omega
  · cases hs : σ (mkey k) with
    | none => rfl
    | some x => obtain ⟨_, _, ob', h4, _⟩ := h.oth _ x hs; have := (Array.getElem?_eq_some_iff.1 h4).1; omega
  · cases e : GL.vars k with
    | none => rfl
    | some x => obtain ⟨_, T, fz, q⟩ := h.vars _ x e; have := (Array.getElem?_eq_some_iff.1 q).1; omega
theorem bldW_set {D : Nat → Prop} {G : Ghost} {w w' : World} {z : Nat} {v v' : Value} {l : List UInt8} {σ : Store} (hW : WR D G σ w) (hB : ∀ k, (k = z ∨ some k = v.ownBlock) → D k ∧ Idle G σ k ∧ σ (mkey k) = none ∧ GL.vars k = none) (hD : ∀ k, w.heap.size ≤ k → D k) (h : OnlyW z v w w')
    (hb : BldW w' z (.pointer (some ⟨z, 0, none⟩)) v' (Lib.byteCells l)) (hl : l ≠ []) (hv : v'.ownBlock = v.ownBlock ∨ v'.ownBlock = some (w.heap.size + 1)) : ∃ x, BldOk z l σ x ∧ WR D G (bldS z x σ) w' ∧ Ext D G w G w' := by
  obtain ⟨hW', hx⟩ := only_WR hW hB hD h
  obtain ⟨dz, iz, kz, vz⟩ := hB z (.inl rfl)
  have hown := hb.own
  rw [Lib.byteCells_length] at hown
  rcases hown.2 with ⟨rfl, h0⟩ | ⟨g, cap, cur, rfl, _, hg, hn, hc, hs, ht⟩
  · exact absurd (List.eq_nil_of_length_eq_zero h0) hl
  · have hgz : ¬ g = z := fun e => hb.ne (by simp [Value.ownBlock, e])
    have hgB : D g ∧ Idle G σ g ∧ σ (mkey g) = none ∧ GL.vars g = none := by
      rcases hv with e | e
      · exact hB g (.inr (by rw [← e]; simp [Value.ownBlock]))
      · have : g = w.heap.size + 1 := by simpa [Value.ownBlock] using e
        subst this
        exact ⟨hD _ (by omega), fresh_ge hW (by omega)⟩
    obtain ⟨dg, ig, kg, vg⟩ := hgB
    refine ⟨.row g l.length cap cur, ⟨hl, rfl, hn, hc, by omega, by rw [Nat.mul_one] at ht; exact ht, kz, kg, hgz⟩, ?_, hx⟩
    exact (hW'.putRaw hg dg ig vg).putRaw hb.blk dz iz.to_put vz
theorem OnlyW.refl (b : Nat) (v : Value) (w : World) : OnlyW b v w w := ⟨rfl, rfl, rfl, Nat.le_refl _, fun _ _ _ _ => rfl⟩
theorem args2 {cargs : Array Value} (h : 2 = cargs.size) : ∃ c0 c1, cargs = #[c0, c1] := ⟨cargs[0], cargs[1], by
  apply Array.ext
  · simp [← h]
  · intro i h1 h2
    match i with
    | 0 => rfl
    | 1 => rfl
    | _ + 2 => simp at h2; omega⟩
theorem args1 {cargs : Array Value} (h : 1 = cargs.size) : ∃ c0, cargs = #[c0] := ⟨cargs[0], by
  apply Array.ext
  · simp [← h]
  · intro i h1 h2
    match i with
    | 0 => rfl
    | _ + 1 => simp at h2⟩
/-- A sign's bytes. -/
def sgBytes (r : Nat) : List UInt8 := if r ≤ 127 then [UInt8.ofNat r] else if r ≤ 2047 then [UInt8.ofNat (192 + r / 64), UInt8.ofNat (128 + r % 64)] else [UInt8.ofNat (224 + r / 4096), UInt8.ofNat (128 + r / 64 % 64), UInt8.ofNat (128 + r % 64)]
theorem sgBytes_cells (r : Nat) (h : r < 55296) : Lib.byteCells (sgBytes r) = sgCells (r : Int) := by
  have e : ∀ k : Nat, k < 256 → ((UInt8.ofNat k).toNat : Int) = (k : Int) := fun k hk => by rw [UInt8.toNat_ofNat']; omega
  unfold sgBytes sgCells Lib.byteCells
  by_cases c : r ≤ 127
  · have c' : (r : Int) ≤ 127 := by omega
    rw [if_pos c, if_pos c']
    simp only [List.map_cons, List.map_nil, e r (by omega)]
  · have c' : ¬ (r : Int) ≤ 127 := by omega
    by_cases d : r ≤ 2047
    · have d' : (r : Int) ≤ 2047 := by omega
      rw [if_neg c, if_neg c', if_pos d, if_pos d']
      simp only [List.map_cons, List.map_nil, e (192 + r / 64) (by omega), e (128 + r % 64) (by omega)]
      simp
    · have d' : ¬ (r : Int) ≤ 2047 := by omega
      rw [if_neg c, if_neg c', if_neg d, if_neg d']
      simp only [List.map_cons, List.map_nil, e (224 + r / 4096) (by omega), e (128 + r / 64 % 64) (by omega), e (128 + r % 64) (by omega)]
      simp
theorem sgBytes_ne (r : Nat) : sgBytes r ≠ [] := by
  unfold sgBytes
  split
  · simp
  · split <;> simp
theorem rune_calls (z : Nat) (x : Bst) (l : List UInt8) (r : Nat) (hr : r < 55296) (σ : Store) (hO : BldOk z l σ x) (hlen : l.length + 4 ≤ 140737488355328) :
    ACalls Try.prog 21 [ptrA z, .lit (.int .i32 (r : Nat))] (bldS z x σ) fun v σ' => (∃ k : Int, v = .tuple [.lit (.int .i64 k), .lit .nilIface]) ∧ ∃ x', BldOk z (l ++ sgBytes r) σ x' ∧ σ' = bldS z x' σ := by
  intro D G w cargs hl hargs hW hfresh
  obtain ⟨c0, c1, rfl⟩ := args2 (by simpa using hl)
  have h0 := (hargs 0 _ c0 rfl rfl).1.lit_eq rfl
  have h1 := (hargs 1 _ c1 rfl rfl).1.lit_eq rfl
  subst h0 h1
  obtain ⟨hb, hp, hW0, hB⟩ := bldW_get hO hW
  have hne : l ++ sgBytes r ≠ [] := fun e => sgBytes_ne r (List.append_eq_nil_iff.1 e).2
  have hlen' : (Lib.byteCells l).length + 4 ≤ 140737488355328 := by rw [Lib.byteCells_length]; exact hlen
  have fin : ∀ (e : Ending) (w' : World), (e = .returned (.tuple #[.int .i64 (sgCells (r : Int)).length, .nilIface]) ∧ ∃ v', BldW w' z (.pointer (some ⟨z, 0, none⟩)) v' (Lib.byteCells l ++ sgCells (r : Int)) ∧ OnlyW z x.v w w' ∧ (v'.ownBlock = x.v.ownBlock ∨ v'.ownBlock = some (w.heap.size + 1))) →
      ∃ v cv G' σ', e = .returned cv ∧ ((∃ k : Int, v = .tuple [.lit (.int .i64 k), .lit .nilIface]) ∧ ∃ x', BldOk z (l ++ sgBytes r) σ x' ∧ σ' = bldS z x' σ) ∧ VR G'.F v cv ∧ OwnAt G' D .acc v cv ∧ WR D G' σ' w' ∧ Ext D G w G' w' := by
    rintro e w' ⟨rfl, v', q1, q2, q3⟩
    rw [← sgBytes_cells r hr, ← Lib.byteCells_append] at q1
    obtain ⟨x', r1, r2, r3⟩ := bldW_set hW0 hB hfresh q2 q1 hne q3
    refine ⟨_, _, G, _, rfl, ⟨⟨((sgCells (r : Int)).length : Int), rfl⟩, x', r1, rfl⟩, .tuple _ _ rfl fun i c u hc hu => ?_, OwnAt.of_plain rfl, r2, r3⟩
    match i with
    | 0 => simp at hc hu; subst hc hu; exact .lit _
    | 1 => simp at hc hu; subst hc hu; exact .lit _
    | _ + 2 => simp at hc
  rcases hp with hp | hp
  · rw [hp] at hb
    have hsh : w.shape? z = some (91, 2) := by have := hb.blk; simp [World.shape?, this]
    refine (oWriteRune z x.v (Lib.byteCells l) r (by omega) (by omega) _ (hb.used _) hlen' w (oCopyFresh z w hb.cell0 hsh (Lib.frozen_of_heap hb.blk 0)) ⟨rfl, rfl, rfl, by simp [World.setCell], fun k hk hkb _ => Below.heap_setCell _ _ _ _ hkb⟩ (by simp [World.setCell])).mono fin
  · rw [hp] at hb
    exact (oWriteRune z x.v (Lib.byteCells l) r (by omega) (by omega) w hb hlen' w (oCopyUsed z w hb.cell0) (OnlyW.refl _ _ _) rfl).mono fin
theorem bstr_calls (z : Nat) (x : Bst) (l : List UInt8) (σ : Store) (hO : BldOk z l σ x) (hl : l ≠ []) : ACalls Try.prog 23 [ptrA z] (bldS z x σ) fun v σ' => v = .lit (.string (toB l)) ∧ σ' = σ := by
  intro D G w cargs hl' hargs hW hfresh
  obtain ⟨c0, rfl⟩ := args1 (by simpa using hl')
  have h0 := (hargs 0 _ c0 rfl rfl).1.lit_eq rfl
  subst h0
  obtain ⟨hb, hp, hW0, hB⟩ := bldW_get hO hW
  refine (oString z _ _ l w hb hl).mono ?_
  rintro e w' ⟨rfl, q⟩
  obtain ⟨r1, r2⟩ := only_WR hW0 hB hfresh q
  exact ⟨_, _, G, _, rfl, ⟨rfl, rfl⟩, .lit _, OwnAt.of_plain rfl, r1, r2⟩
theorem bstr0_calls (z : Nat) (p : Value) (σ : Store) (hO : BldOk z [] σ (.nil p)) : ACalls Try.prog 23 [ptrA z] (bldS z (.nil p) σ) fun v σ' => v = .lit (.string ⟨#[]⟩) ∧ σ' = σ := by
  intro D G w cargs hl' hargs hW hfresh
  obtain ⟨c0, rfl⟩ := args1 (by simpa using hl')
  have h0 := (hargs 0 _ c0 rfl rfl).1.lit_eq rfl
  subst h0
  obtain ⟨hb, hp, hW0, hB⟩ := bldW_get hO hW
  refine (oString0 z _ w hb).mono ?_
  rintro e w' ⟨rfl, q⟩
  obtain ⟨r1, r2⟩ := only_WR hW0 hB hfresh q
  exact ⟨_, _, G, _, rfl, ⟨rfl, rfl⟩, .lit _, OwnAt.of_plain rfl, r1, r2⟩
end Go.Proofs.Ytkjcdnmjdanmpaa
/-
  The document's sign of a code, and the code of a sign.
-/
namespace Go.Proofs.Ytkjcdnmjdanmpaa
open Go Go.AL

theorem numS_le {s : ByteArray} (h : s.size ≤ 4) : numS s ≤ 1200000 := numTo_le s _ h
theorem mk_base (a : Array UInt8) (h : a = rbaseL.toArray) : ByteArray.mk a = toB rbaseL := by rw [h]; rfl
theorem wrap32 {x : Int} (h0 : 0 ≤ x) (h1 : x ≤ 2147483647) : IntKind.i32.wrap x = x := by
  unfold IntKind.wrap
  simp [IntKind.bits, IntKind.signed]
  omega
theorem nums_calls (s : ByteArray) (hs : s.size ≤ 4) (σ : Store) : ACalls Try.prog 16 [.lit (.string s)] σ fun v σ' => v = .lit (.int .i64 (numS s : Nat)) ∧ σ' = σ := num_calls s hs σ
set_option maxRecDepth 8000 in
theorem rsign_calls (n : Int) (hn : isPage n) (b : UInt8) (σ : Store) : ACalls Try.prog 7 [.lit (.int .i64 n), byteA b] σ fun v σ' => v = .lit (.int .i32 (sgF n b.toNat : Nat)) ∧ σ' = σ := by
  have hro := fun τ => roth_calls n hn τ
  obtain ⟨ho1, ho2, ho3⟩ := hex_oth hn
  have hb := b.toNat_lt
  have hrs := rsign_eq hn hb
  unfold rsign at hrs
  have hnum := fun τ s h => nums_calls s h τ
  have hat := fun c h => hex6_at c (rothL n) h
  have hpt := fun i m h => numS_part (rothL n) i m h
  rw [ho1] at hat
  have hsz := toB_size (rothL n)
  refine ACalls.of_awp follows (st := st7) (plans := pl7) (n := 46) Try.func7 rfl (by kernel_rfl) (by kernel_rfl) (by kernel_rfl) ?_
  generalize rothL n = L at *
  generalize othersF n = O at *
  simp [byteA]
  refine callK.of (hro _) ?_
  rintro v τ ⟨rfl, rfl⟩
  simp
  refine codeK.loop follows (st := st7) (plans := pl7) (X := Nat) (fun j => j ≤ O.length ∧ (((O.drop j).find? (fun o => o.1 == b.toNat)).map (·.2)).getD (baseL.getD b.toNat 0) = sgF n b.toNat)
    (fun j => [(1, byteA b), (5, .lit (.string (toB L))), (7, .lit (.int .i64 (6 * j : Nat)))]) (fun _ => τ) (fun j => O.length - j) 0 (by kernel_rfl) ⟨by simp, hrs⟩ (by simp [byteA]) (Store.sub_refl _) fun j hj => ?_
  obtain ⟨hjl, hres⟩ := hj
  by_cases hlt : j < O.length
  · have h6 : 6 * j + 6 ≤ L.length := by omega
    have ha := hat j h6
    obtain ⟨p1, p2⟩ := hpt (6 * j) 2 (by omega)
    obtain ⟨q1, q2⟩ := hpt (6 * j + 2) 4 (by omega)
    have hnx : (((O.drop (j + 1)).find? (fun o => o.1 == b.toNat)).map (·.2)).getD (baseL.getD b.toNat 0) = if O[j].1 = b.toNat then (((O.drop (j + 1)).find? (fun o => o.1 == b.toNat)).map (·.2)).getD (baseL.getD b.toNat 0) else sgF n b.toNat := by
      split
      · rfl
      · next hne =>
        rw [List.drop_eq_getElem_cons hlt, List.find?_cons_of_neg (by simpa using hne)] at hres
        exact hres
    have hhit : O[j].1 = b.toNat → O[j].2 = sgF n b.toNat := fun he => by
      rw [List.drop_eq_getElem_cons hlt, List.find?_cons_of_pos (by simpa using he)] at hres
      exact hres
    rw [List.getElem?_eq_getElem hlt] at ha
    have ha := Option.some.inj ha
    have k1 : numS ((toB L).extract (6 * j) (6 * j + 2)) = O[j].1 := by rw [p2, ha]
    have k2 : numS ((toB L).extract (6 * j + 2) (6 * j + 6)) = O[j].2 := by
      have e : 6 * j + 6 = 6 * j + 2 + 4 := by omega
      rw [e, q2, ha]
    have q1' : ((toB L).extract (6 * j + 2) (6 * j + 6)).size = 4 := by
      have e : 6 * j + 6 = 6 * j + 2 + 4 := by omega
      rw [e, q1]
    have hn1 := hnum τ _ (by rw [p1]; omega : ((toB L).extract (6 * j) (6 * j + 2)).size ≤ 4)
    have hn2 := hnum τ _ (by rw [q1']; omega : ((toB L).extract (6 * j + 2) (6 * j + 6)).size ≤ 4)
    have hle2 := numS_le (by rw [q1']; omega : ((toB L).extract (6 * j + 2) (6 * j + 6)).size ≤ 4)
    rw [k1] at hn1
    rw [k2] at hn2 hle2
    have h6j : 6 * (j + 1) = 6 * j + 6 := by omega
    generalize hi : 6 * j = i at hn1 hn2 hle2 h6 h6j ⊢
    have hlt' : i < (toB L).size := by omega
    have hltI : (i : Int) < ((toB L).size : Int) := by omega
    have s2 : i + 2 ≤ (toB L).size := by omega
    have s6 : i + 6 ≤ (toB L).size := by omega
    have t2 : ((i : Int) + 2).toNat = i + 2 := by omega
    have t6 : ((i : Int) + 6).toNat = i + 6 := by omega
    have g2 : (0 : Int) ≤ (i : Int) + 2 := by omega
    have g6 : (0 : Int) ≤ (i : Int) + 6 := by omega
    have l6 : i + 2 ≤ i + 6 := by omega
    have hw2 : IntKind.i64.wrap ((i : Int) + 2) = (i : Int) + 2 := wrap_i64 (by omega) (by omega)
    have hw6 : IntKind.i64.wrap ((i : Int) + 6) = (i : Int) + 6 := wrap_i64 (by omega) (by omega)
    have hwb : IntKind.i64.wrap (b.toNat : Int) = (b.toNat : Int) := wrap_i64 (by omega) (by omega)
    simp [hlt', hltI, hw2, hw6, byteA, s2, s6, t2, t6, g2, g6, l6]
    refine callK.of hn1 ?_
    rintro v τ ⟨rfl, rfl⟩
    generalize hO1 : O[j].1 = o1 at *
    by_cases he : o1 = b.toNat
    · have hv := hhit he
      simp [he, hlt', hltI, hw2, hw6, byteA, s2, s6, t2, t6, g2, g6, l6, hwb]
      refine callK.of hn2 ?_
      rintro v τ ⟨rfl, rfl⟩
      have hwi : IntKind.i32.wrap (O[j].2 : Int) = (sgF n b.toNat : Nat) := by rw [wrap32 (by omega) (by omega), hv]
      simp [hwi]
    · have he' : ¬ (o1 : Int) = (b.toNat : Int) := by omega
      rw [if_neg he] at hnx
      simp [he, he', hwb, hw6]
      refine ⟨j + 1, ⟨by omega, hnx⟩, by omega, ?_⟩
      rw [show (6 * ((j + 1 : Nat) : Int)) = (i : Int) + 6 from by omega]
      exact AV.le_refl _
  · have hb4 : 4 * b.toNat + 4 ≤ rbaseL.length := by
      have : rbaseL.length = 1024 := by decide +kernel
      omega
    obtain ⟨p1, p2⟩ := numS_part rbaseL (4 * b.toNat) 4 hb4
    have h4 := hex4_at b.toNat rbaseL hb4
    rw [hex_base] at h4
    rw [List.drop_eq_nil_of_le (by omega)] at hres
    have hv : baseL.getD b.toNat 0 = sgF n b.toNat := hres
    rw [List.getD_eq_getElem?_getD, h4] at hv
    have hv : numS ((toB rbaseL).extract (4 * b.toNat) (4 * b.toNat + 4)) = sgF n b.toNat := by rw [p2]; exact hv
    have hnl : ¬ (6 * (j : Int)) < ((toB L).size : Int) := by omega
    have hn1 := hnum τ _ (by rw [p1]; omega : ((toB rbaseL).extract (4 * b.toNat) (4 * b.toNat + 4)).size ≤ 4)
    have hle := numS_le (by rw [p1]; omega : ((toB rbaseL).extract (4 * b.toNat) (4 * b.toNat + 4)).size ≤ 4)
    rw [hv] at hn1 hle
    have hwb : IntKind.i64.wrap (b.toNat : Int) = (b.toNat : Int) := wrap_i64 (by omega) (by omega)
    have hw4 : IntKind.i64.wrap (4 * (b.toNat : Int)) = 4 * (b.toNat : Int) := wrap_i64 (by omega) (by omega)
    have hw8 : IntKind.i64.wrap (4 * (b.toNat : Int) + 4) = 4 * (b.toNat : Int) + 4 := wrap_i64 (by omega) (by omega)
    simp [hnl, byteA, hwb, hw4, hw8]
    rw [mk_base]
    rotate_left
    · kernel_rfl
    have hsB := toB_size rbaseL
    have g0 : (0 : Int) ≤ 4 * (b.toNat : Int) := by omega
    have g4 : (0 : Int) ≤ 4 * (b.toNat : Int) + 4 := by omega
    have t0 : (4 * (b.toNat : Int)).toNat = 4 * b.toNat := by omega
    have t4 : (4 * (b.toNat : Int) + 4).toNat = 4 * b.toNat + 4 := by omega
    have l4 : 4 * b.toNat ≤ 4 * b.toNat + 4 ∧ 4 * b.toNat + 4 ≤ (toB rbaseL).size := by omega
    rw [if_pos g0, if_pos g4, t0, t4]
    dsimp only
    rw [if_pos l4]
    have hwi : IntKind.i32.wrap ((sgF n b.toNat : Nat) : Int) = (sgF n b.toNat : Nat) := wrap32 (by omega) (by omega)
    simp
    refine callK.of hn1 ?_
    rintro v τ ⟨rfl, rfl⟩
    simp [hwi]
/-- A sign's code, or none. -/
def codeZ (n s : Int) : Int := match codeIx n s with | some j => (j : Nat) | none => -1
end Go.Proofs.Ytkjcdnmjdanmpaa
/-
  No page; the pages' numbers.
-/
namespace Go.Proofs.Ytkjcdnmjdanmpaa
open Go Go.AL
set_option maxRecDepth 8000 in
theorem page_none (n : Int) (hn : ¬ isPage n) (σ : Store) : ACalls Try.prog 6 [.lit (.int .i64 n)] σ fun v σ' => v = .tuple [.lit (.pointer none), .lit (.int .i64 5)] ∧ σ' = σ := by
  have hoth := fun τ => others_calls n τ
  rw [decide_eq_false hn] at hoth
  refine ACalls.of_awp follows (st := st6) (plans := pl6) (n := 16) Try.func6 rfl (by kernel_rfl) (by kernel_rfl) (by kernel_rfl) ?_
  simp
  refine callK.of (hoth _) ?_
  rintro v σ1 ⟨rfl, rfl⟩
  simp
end Go.Proofs.Ytkjcdnmjdanmpaa
/-
  What a page is asked: signs and codes, whether it is built yet or not.
-/
namespace Go.Proofs.Ytkjcdnmjdanmpaa
open Go Go.AL

/-- A page in a store: as it was made, or built. -/
def pgS (b : Nat) (n : Int) (x : Option Nat) (σ : Store) : Store := match x with
  | none => σ.upd b (pgA (.new n))
  | some q => (σ.upd b (pgA (.built n q))).put q (mapA (codesN n 256))
theorem pgS_cell (b : Nat) (n : Int) (x : Option Nat) (σ : Store) : (pgS b n x σ) (b : Int) = some (pgA (match x with | none => .new n | some q => .built n q)) := by
  cases x <;> simp [pgS]
@[simp] theorem callable170' : callable Try.prog 51 = false := nr (by kernel_rfl)
theorem ext170 (b i : Nat) (d : Int) (cs : List AV) (σ : Store) (hb : σ b = some cs) (hi : cs[i]? = some (.lit (.int .u32 d))) : AExt Try.prog 51 [.lit (.pointer (some ⟨b, i, none⟩))] σ fun v σ' => v = .lit (.int .u32 d) ∧ σ' = σ := by
  intro D G w cargs hl hargs hW
  obtain ⟨c0, rfl⟩ : ∃ c0, cargs = #[c0] := ⟨cargs[0]'(by simp at hl; omega), by
    apply Array.ext
    · simpa using hl.symm
    · intro i h1 h2
      match i with
      | 0 => rfl
      | _ + 1 => simp at h2⟩
  have h0 := (hargs 0 _ c0 rfl rfl).lit_eq rfl
  subst h0
  obtain ⟨d1, _⟩ := obj_cell hW hb hi
  exact ⟨_, _, run_call_load (P := Try.prog) Try.func51 (by kernel_rfl) (by kernel_rfl) (by kernel_rfl) .u32 (by kernel_rfl) d1, rfl, .lit _, rfl, rfl⟩
set_option maxRecDepth 8000 in
theorem oload_calls (b : Nat) (d : Int) (cs : List AV) (σ : Store) (hb : σ b = some cs) (hi : cs[1]? = some (.lit (.int .u32 d))) : ACalls Try.prog 47 [.lit (.pointer (some ⟨b, 1, none⟩))] σ fun v σ' => v = .lit (.bool (d != 0)) ∧ σ' = σ := by
  refine ACalls.of_awp follows (st := st47) (plans := pl47) (n := 8) Try.func47 rfl (by kernel_rfl) (by kernel_rfl) (by kernel_rfl) ?_
  simp
  refine extK.of (ext170 b 1 d cs σ hb hi) ?_
  rintro v σ1 ⟨rfl, rfl⟩
  simp
/-- The page's map is the one it had, or a new one. -/
def NxP (σ : Store) (x x' : Option Nat) : Prop := x' = x ∨ ∃ g, x' = some g ∧ σ (mkey g) = none
theorem NxP.trans {σ : Store} {x y z : Option Nat} (h : NxP σ x y) (k : NxP σ y z) : NxP σ x z := by
  rcases k with rfl | k
  · exact h
  · exact .inr k
set_option maxRecDepth 8000 in
theorem odo_calls (b : Nat) (n : Int) (hn : isPage n) (x : Option Nat) (σ : Store) : ACalls Try.prog 39 [.lit (.pointer (some ⟨b, 1, none⟩)), .func (.func 40) [pgP b] []] (pgS b n x σ) fun v σ' => v = .tuple [] ∧ ∃ q, NxP σ x (some q) ∧ σ' = pgS b n (some q) σ := by
  refine ACalls.of_awp follows (st := st39) (plans := pl39) (n := 12) Try.func39 rfl (by kernel_rfl) (by kernel_rfl) (by kernel_rfl) ?_
  cases x with
  | none =>
    have hl := oload_calls b 0 _ (pgS b n none σ) (pgS_cell b n none σ) rfl
    have hs := slow_calls b n hn (pgS b n none σ) (pgS_cell b n none σ)
    simp
    refine callK.of hl ?_
    rintro v σ1 ⟨rfl, rfl⟩
    simp
    refine callK.of hs ?_
    rintro v σ1 ⟨rfl, q, hq, rfl⟩
    simp
    refine ⟨_, AV.le_refl _, _, Store.sub_refl _, rfl, q, .inr ⟨q, rfl, by simpa [pgS] using hq⟩, ?_⟩
    unfold pgS
    dsimp only
    rw [supd_supd]
  | some q =>
    have hl := oload_calls b 1 _ (pgS b n (some q) σ) (pgS_cell b n (some q) σ) rfl
    simp
    refine callK.of hl ?_
    rintro v σ1 ⟨rfl, rfl⟩
    simp
    exact ⟨_, AV.le_refl _, _, Store.sub_refl _, rfl, q, .inl rfl, rfl⟩
set_option maxRecDepth 8000 in
theorem built_calls (b : Nat) (n : Int) (hn : isPage n) (x : Option Nat) (σ : Store) : ACalls Try.prog 28 [pgP b] (pgS b n x σ) fun v σ' => v = pgP b ∧ ∃ q, NxP σ x (some q) ∧ σ' = pgS b n (some q) σ := by
  refine ACalls.of_awp follows (st := st28) (plans := pl28) (n := 10) Try.func28 rfl (by kernel_rfl) (by kernel_rfl) (by kernel_rfl) ?_
  simp
  refine callK.of (odo_calls b n hn x σ) ?_
  rintro v σ1 ⟨rfl, q, nx, rfl⟩
  simp
  exact ⟨_, AV.le_refl _, _, Store.sub_refl _, rfl, q, nx, rfl⟩
set_option maxRecDepth 8000 in
theorem sign_calls (b : Nat) (n : Int) (hn : isPage n) (x : Option Nat) (c : UInt8) (σ : Store) : ACalls Try.prog 22 [pgP b, byteA c] (pgS b n x σ) fun v σ' => v = .lit (.int .i32 ((sgF n c.toNat : Nat) : Int)) ∧ ∃ q, NxP σ x (some q) ∧ σ' = pgS b n (some q) σ := by
  have hc := c.toNat_lt
  refine ACalls.of_awp follows (st := st22) (plans := pl22) (n := 14) Try.func22 rfl (by kernel_rfl) (by kernel_rfl) (by kernel_rfl) ?_
  simp [byteA]
  refine callK.of (built_calls b n hn x σ) ?_
  rintro v σ1 ⟨rfl, q, nx, rfl⟩
  have hcell := pgS_cell b n (some q) σ
  dsimp only at hcell
  have hl := signsF_length n
  have hg := pgA_sg (p := Pgs.built n q) (i := c.toNat) (by show _ < (signsF n).length; omega)
  have hpl := pgA_length (p := Pgs.built n q) hl
  have e : (Pgs.built n q).sg[c.toNat]'(by show _ < (signsF n).length; omega) = sgF n c.toNat := by
    unfold sgF
    rw [List.getD_eq_getElem?_getD, List.getElem?_eq_getElem (by omega)]
    rfl
  rw [e] at hg
  have hc' : (c.toNat : Int) < 256 := by omega
  simp [hcell, hg, hc']
  exact ⟨_, AV.le_refl _, _, Store.sub_refl _, rfl, q, nx, rfl⟩
set_option maxRecDepth 8000 in
theorem page_new (n : Int) (hn : isPage n) (σ : Store) : ACalls Try.prog 6 [.lit (.int .i64 n)] σ fun v σ' => ∃ b : Nat, σ b = none ∧ v = .tuple [pgP b, .lit (.int .i64 0)] ∧ σ' = pgS b n none σ := by
  have hoth := fun τ => others_calls n τ
  rw [decide_eq_true hn] at hoth
  refine ACalls.of_awp follows (st := st6) (plans := pl6) (n := 16) Try.func6 rfl (by kernel_rfl) (by kernel_rfl) (by kernel_rfl) ?_
  simp
  refine callK.of (hoth _) ?_
  rintro v σ1 ⟨rfl, rfl⟩
  have hpl := pgA_new_length 0
  have hset := pgA_new_set n
  have hpl2 := pgA_new_length n
  simp [hpl, hset]
  intro b hb
  exact ⟨_, AV.le_refl _, _, Store.sub_refl _, b, hb, rfl, rfl⟩
end Go.Proofs.Ytkjcdnmjdanmpaa
/-
  A text's codes by a page.
-/
namespace Go.Proofs.Ytkjcdnmjdanmpaa
open Go Go.AL

theorem pgS_mkey {b g : Nat} {n : Int} {x : Option Nat} {σ : Store} (hx : ¬ x = some g) : (pgS b n x σ) (mkey g) = σ (mkey g) := by
  cases x with
  | none => simp [pgS]
  | some p =>
    have hp : ¬ g = p := fun e => hx (by rw [e])
    simp [pgS, hp]
end Go.Proofs.Ytkjcdnmjdanmpaa
/-
  A page in a store.
-/
namespace Go.Proofs.Ytkjcdnmjdanmpaa
open Go Go.AL

theorem pgS_other {b o : Nat} (h : ¬ o = b) (n : Int) (x : Option Nat) (σ : Store) : (pgS b n x σ) (o : Int) = σ o := by
  cases x <;> simp [pgS, h]
theorem pgS_upd {b o : Nat} (h : ¬ o = b) (n : Int) (x : Option Nat) (σ : Store) (Y : List AV) : (pgS b n x σ).upd o Y = pgS b n x (σ.upd o Y) := by
  cases x with
  | none => exact supd_swap _ (fun e => h e.symm) _ _
  | some q =>
    unfold pgS
    dsimp only
    rw [sput_upd, supd_swap _ (fun e => h e.symm)]
theorem pgS_fresh {b z : Nat} {n : Int} {x : Option Nat} {σ : Store} (hz : (pgS b n x σ) (z : Int) = none) : ¬ z = b ∧ σ (z : Int) = none := by
  have h1 : ¬ z = b := by rintro rfl; rw [pgS_cell] at hz; cases hz
  rw [pgS_other h1] at hz; exact ⟨h1, hz⟩
theorem pgS_mono {b : Nat} {n : Int} {x : Option Nat} {σ τ : Store} (h : Store.sub σ τ) : Store.sub (pgS b n x σ) (pgS b n x τ) := by
  cases x with
  | none =>
    refine Store.sub2 (fun o => ?_) (fun i => by simpa [pgS] using h (mkey i))
    by_cases e : o = b
    · subst e; right; simp [pgS]
    · have := h (o : Int)
      simpa [pgS, e] using this
  | some q =>
    refine Store.sub2 (fun o => ?_) (fun i => ?_)
    · by_cases e : o = b
      · subst e; right; simp [pgS]
      · have := h (o : Int)
        simpa [pgS, e] using this
    · by_cases e : i = q
      · subst e; right; simp [pgS]
      · have := h (mkey i)
        simpa [pgS, e] using this
end Go.Proofs.Ytkjcdnmjdanmpaa
/-
  A text by a page: the program's.
-/
namespace Go.Proofs.Ytkjcdnmjdanmpaa
open Go Go.AL
variable {σ Y Z τ : Store} {q p b x y z : Nat} {n : Int} {l : List UInt8} {X : Bst}

theorem put_put (σ : Store) {a c : Nat} (h : ¬ a = c) (A C : List AV) : (σ.put a A).put c C = (σ.put c C).put a A := by
  funext o
  unfold Store.put
  by_cases h1 : o = mkey c
  · subst h1
    have : ¬ mkey c = mkey a := by simp; exact fun e => h e.symm
    simp [this]
  · simp [h1]
theorem bldS_upd (z : Nat) (X : Bst) (σ : Store) (a : Nat) (A : List AV) : bldS z X (σ.upd a A) = (bldS z X σ).upd a A := by
  cases X <;> simp [bldS]
theorem bldS_key {g : Nat} (h : (bldS z X Y) (mkey g) = none) : ¬ g = z ∧ (∀ r m cap cur, X = .row r m cap cur → ¬ g = r) ∧ Y (mkey g) = none := by
  cases X with
  | nil p =>
    simp only [bldS, put_mkey] at h
    split at h
    · cases h
    · rename_i h1; exact ⟨h1, fun _ _ _ _ e => (by cases e), h⟩
  | row r m cap cur =>
    simp only [bldS, put_mkey] at h
    split at h
    · cases h
    · rename_i h1
      split at h
      · cases h
      · rename_i h2
        exact ⟨h1, fun _ _ _ _ e => by cases e; exact h2, h⟩
theorem bldS_put {g : Nat} (h1 : ¬ g = z) (h2 : ∀ r m cap cur, X = .row r m cap cur → ¬ g = r) (C : List AV) : (bldS z X Y).put g C = bldS z X (Y.put g C) := by
  cases X with
  | nil p => simp only [bldS]; rw [put_put _ (fun e => h1 e.symm)]
  | row r m cap cur => simp only [bldS]; rw [put_put _ (fun e => h1 e.symm), put_put _ (fun e => h2 _ _ _ _ rfl e.symm)]
theorem pgS_bld {b : Nat} {xx : Option Nat} (h : ∀ g, xx = some g → (bldS z X Y) (mkey g) = none) : pgS b n xx (bldS z X Y) = bldS z X (pgS b n xx Y) := by
  cases xx with
  | none => simp only [pgS, bldS_upd]
  | some g =>
    obtain ⟨h1, h2, _⟩ := bldS_key (h g rfl)
    simp only [pgS]
    rw [← bldS_upd, bldS_put h1 h2]

/-- The page's map is at a key of its own. -/
def KeyP (σ : Store) (x : Option Nat) : Prop := ∀ g, x = some g → σ (mkey g) = none
theorem KeyP.next {σ : Store} {x x' : Option Nat} (h : KeyP σ x) (hn : NxP σ x x') : KeyP σ x' := fun g e => by
  rcases hn with hn | ⟨g', e', hg⟩
  · exact h g (hn ▸ e)
  · rw [e'] at e; obtain rfl := Option.some.inj e; exact hg
/-- The builder's blocks are not the page's map. -/
def Apt (z : Nat) (X : Bst) (x : Option Nat) : Prop := ∀ g, x = some g → ¬ g = z ∧ ∀ r m cap cur, X = .row r m cap cur → ¬ g = r
theorem pgS_key {k : Nat} {xx : Option Nat} (h : (pgS b n xx σ) (mkey k) = none) : ¬ xx = some k ∧ σ (mkey k) = none := by
  have h1 : ¬ xx = some k := by
    rintro rfl
    simp [pgS] at h
  exact ⟨h1, by rw [pgS_mkey h1] at h; exact h⟩
theorem bldOk_pg {xx : Option Nat} : BldOk z l (pgS b n xx σ) X ↔ BldOk z l σ X ∧ Apt z X xx := by
  cases X with
  | nil p =>
    constructor
    · rintro ⟨h1, h2, h3⟩
      obtain ⟨q1, q2⟩ := pgS_key h3
      exact ⟨⟨h1, h2, q2⟩, fun g e => ⟨fun e' => q1 (by rw [e, e']), fun _ _ _ _ e => by cases e⟩⟩
    · rintro ⟨⟨h1, h2, h3⟩, ha⟩
      exact ⟨h1, h2, by rw [pgS_mkey (fun e => (ha z e).1 rfl)]; exact h3⟩
  | row r m cap cur =>
    constructor
    · rintro ⟨h1, h2, h3, h4, h5, h6, h7, h8, h9⟩
      obtain ⟨q1, q2⟩ := pgS_key h7
      obtain ⟨q3, q4⟩ := pgS_key h8
      exact ⟨⟨h1, h2, h3, h4, h5, h6, q2, q4, h9⟩, fun g e => ⟨fun e' => q1 (by rw [e, e']), fun _ _ _ _ e2 e' => by cases e2; exact q3 (by rw [e, e'])⟩⟩
    · rintro ⟨⟨h1, h2, h3, h4, h5, h6, h7, h8, h9⟩, ha⟩
      exact ⟨h1, h2, h3, h4, h5, h6, by rw [pgS_mkey (fun e => (ha z e).1 rfl)]; exact h7, by rw [pgS_mkey (fun e => (ha r e).2 _ _ _ _ rfl rfl)]; exact h8, h9⟩
theorem bldS_none {g : Nat} (h1 : ¬ g = z) (h2 : ∀ r m cap cur, X = .row r m cap cur → ¬ g = r) (h3 : σ (mkey g) = none) : (bldS z X σ) (mkey g) = none := by
  cases X with
  | nil p => simp [bldS, h1, h3]
  | row r m cap cur => simp [bldS, h1, h2 _ _ _ _ rfl, h3]
theorem Apt.bld {xx : Option Nat} (ha : Apt z X xx) (hk : KeyP σ xx) : ∀ g, xx = some g → (bldS z X σ) (mkey g) = none := fun g e =>
  bldS_none (ha g e).1 (ha g e).2 (hk g e)
def txtB (n : Int) (l : List UInt8) : List UInt8 := l.flatMap fun c => sgBytes (sgF n c.toNat)
theorem sgBytes_len (r : Nat) : (sgBytes r).length ≤ 3 := by
  unfold sgBytes
  split
  · simp
  · split <;> simp
theorem txtB_len (n : Int) (l : List UInt8) : (txtB n l).length ≤ 3 * l.length := by
  induction l with
  | nil => simp [txtB]
  | cons c l ih =>
    have := sgBytes_len (sgF n c.toNat)
    simp only [txtB, List.flatMap_cons, List.length_append, List.length_cons] at ih ⊢
    omega
theorem txtB_snoc (n : Int) (l : List UInt8) (i : Nat) (h : i < l.length) : txtB n (l.take (i + 1)) = txtB n (l.take i) ++ sgBytes (sgF n l[i].toNat) := by
  rw [txtB, txtB, List.take_succ_eq_append_getElem h, List.flatMap_append]; simp
end Go.Proofs.Ytkjcdnmjdanmpaa
/-
  A text by a page: the program's, walked.
-/
namespace Go.Proofs.Ytkjcdnmjdanmpaa
open Go Go.AL

theorem sgF_lt {n : Int} (hn : isPage n) (c : Nat) : sgF n c < 55296 := by
  have key : ∀ L : List Nat, (L.all fun x => decide (x < 55296)) = true → L.getD c 0 < 55296 := fun L h => by
    rw [List.getD_eq_getElem?_getD]
    cases hc : L[c]? with
    | none => simp
    | some x => simpa using List.all_eq_true.1 h x (List.mem_of_getElem? hc)
  unfold sgF
  rcases hn with rfl | rfl | rfl | rfl | rfl | rfl <;> exact key _ (by decide +kernel)
structure TxSt where
  i : Nat
  x : Option Nat
  X : Bst
@[simp] def st27r : List Nat := 2000005 :: st17
set_option maxHeartbeats 2000000 in
set_option maxRecDepth 8000 in
theorem ptext_calls (b : Nat) (n : Int) (hn : isPage n) (x : Option Nat) (l : List UInt8) (hl : l.length ≤ 1000) (σ : Store) (hk : KeyP σ x) : ACalls Try.prog 17 [pgP b, .list false 1 (bytesA l)] (pgS b n x σ) fun v σ' =>
    v = .lit (.string (toB (txtB n l))) ∧ ∃ x', NxP σ x x' ∧ σ' = pgS b n x' σ := by
  refine ACalls.of_awp follows (st := st27r) (plans := pl17) (n := 22) Try.func17 rfl (by kernel_rfl) (by kernel_rfl) (by kernel_rfl) ?_
  simp
  intro z hz hzk
  have e0 : (pgS b n x σ).put z (rawA 91 (Value.agg #[.pointer none, .slice none 0 0]).cells) = bldS z (.nil (.pointer none)) (pgS b n x σ) := rfl
  rw [e0]
  clear e0
  simp
  obtain ⟨k1, k2⟩ := pgS_key hzk
  refine codeK.loop follows (st := st27r) (plans := pl17) (X := TxSt) (fun y => y.i ≤ l.length ∧ NxP σ x y.x ∧ KeyP σ y.x ∧ BldOk z (txtB n (l.take y.i)) σ y.X ∧ Apt z y.X y.x)
    (fun y => [(0, pgP b), (5, ptrA z), (10, .list false 1 (bytesA l)), (11, .lit (.int .i64 l.length)), (12, .lit (.int .i64 y.i))]) (fun y => bldS z y.X (pgS b n y.x σ)) (fun y => l.length - y.i) ⟨0, x, .nil (.pointer none)⟩ (by kernel_rfl)
    ⟨by simp, .inl rfl, hk, ⟨rfl, .inl rfl, k2⟩, fun g e => ⟨fun e' => k1 (by subst e'; exact e), fun _ _ _ _ e => by cases e⟩⟩ (by simp) (Store.sub_refl _) fun y hy => ?_
  obtain ⟨i, x1, X⟩ := y
  obtain ⟨hi, hx1, hk1, hO, hA⟩ := hy
  dsimp only at hi hx1 hk1 hO hA ⊢
  have hlen := txtB_len n (l.take i)
  rw [List.length_take] at hlen
  by_cases hlt : i < l.length
  · have hw : IntKind.i64.wrap ((i : Int) + 1) = ((i + 1 : Nat) : Int) := wrap_i64 (by omega) (by omega)
    have ha := bytesA_at l i hlt
    have hsn := txtB_snoc n l i hlt
    have hsg := sgF_lt hn l[i].toNat
    have hs := fun τ => sign_calls b n hn x1 l[i] τ
    generalize l[i] = c at *
    have hru := fun (x2 : Option Nat) h => rune_calls z X (txtB n (l.take i)) (sgF n c.toNat) hsg (pgS b n x2 σ) h (by omega)
    generalize sgF n c.toNat = r at *
    simp only [byteA] at ha hs
    rw [← pgS_bld (hA.bld hk1)]
    simp [hlt, ha]
    refine callK.of (hs _) ?_
    rintro v τ ⟨rfl, q, hq, rfl⟩
    have hq2 : KeyP σ (some q) ∧ NxP σ x (some q) ∧ Apt z X (some q) := by
      rcases hq with e | ⟨g, e, hg⟩
      · rw [e]; exact ⟨hk1, hx1, hA⟩
      · obtain ⟨q1, q2, q3⟩ := bldS_key hg
        have hng : NxP σ x1 (some q) := .inr ⟨g, e, q3⟩
        refine ⟨hk1.next hng, hx1.trans hng, fun g' e' => ?_⟩
        rw [e] at e'
        obtain rfl := Option.some.inj e'
        exact ⟨q1, q2⟩
    obtain ⟨kq, nq, aq⟩ := hq2
    rw [pgS_bld (aq.bld kq)]
    simp
    refine callK.of (hru (some q) (bldOk_pg.2 ⟨hO, aq⟩)) ?_
    rintro v τ ⟨⟨kk, rfl⟩, X', hX', rfl⟩
    obtain ⟨o1, o2⟩ := bldOk_pg.1 hX'
    simp
    exact ⟨⟨i + 1, some q, X'⟩, ⟨by show i + 1 ≤ _; omega, nq, kq, by show BldOk z (txtB n (l.take (i + 1))) σ X'; rw [hsn]; exact o1, o2⟩, by show l.length - (i + 1) < _; omega, by rw [hw]; exact AV.le_refl _, Store.sub_refl _⟩
  · obtain rfl : i = l.length := by omega
    rw [List.take_length] at hO hlen
    have hO2 : BldOk z (txtB n l) (pgS b n x1 σ) X := bldOk_pg.2 ⟨hO, hA⟩
    simp
    by_cases he : txtB n l = []
    · rw [he] at hO2 ⊢
      cases X with
      | row r m cap cur => exact absurd rfl hO2.1
      | nil p =>
        refine callK.eq (bstr0_calls z p _ hO2) ?_
        simp
        exact ⟨_, AV.le_refl _, _, Store.sub_refl _, rfl, x1, hx1, rfl⟩
    · refine callK.eq (bstr_calls z X _ _ hO2 he) ?_
      simp
      exact ⟨_, AV.le_refl _, _, Store.sub_refl _, rfl, x1, hx1, rfl⟩
end Go.Proofs.Ytkjcdnmjdanmpaa
