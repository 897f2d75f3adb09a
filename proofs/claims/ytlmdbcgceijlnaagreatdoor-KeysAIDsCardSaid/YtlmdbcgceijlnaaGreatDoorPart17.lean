/-
  sync.Once as abstract states: a page is built the first time; from then on nothing is done.
-/
import Derived.Test.YtlmdbcgceijlnaaGreatDoorPart16
set_option linter.unusedSimpArgs false
set_option linter.unusedVariables false
namespace Go.Proofs.YtlmdbcgceijlnaaGreatDoor
open Go Go.AL

theorem ext_setCell {D : Nat → Prop} {G : Ghost} {w : World} (b i : Nat) (u : Value) (hD : D b) : Ext D G w G (w.setCell ⟨b, i, none⟩ u) :=
  ⟨rfl, rfl, rfl, by simp [World.setCell], fun _ _ _ h => h, fun k hk => ⟨RowKit.Below.heap_setCell w _ u k (fun e => hk (e ▸ hD)), rfl, rfl⟩⟩
/-- A cell of an object that is known. -/
theorem obj_cell {D : Nat → Prop} {G : Ghost} {σ : Store} {w : World} (hW : WR D G σ w) {b : Nat} {cs : List AV} (hb : σ b = some cs) {i : Nat} {v : Value} (hi : cs[i]? = some (.lit v)) : w.cell? ⟨b, i, none⟩ = some v ∧ w.frozen? ⟨b, i, none⟩ = false := by
  obtain ⟨_, _, _, cur, e, hh, hl, hc⟩ := hW.obj b cs hb
  have hlt := (List.getElem?_eq_some_iff.1 hi).1
  have hu : cur[i]? = some (cur[i]'(by omega)) := by simp
  have := (hc i _ _ hi hu).2.1.lit_eq rfl
  refine ⟨?_, by simp [World.frozen?, hh]⟩
  simp [World.cell?, hh, show i < cur.size by omega, this]
theorem pgA_setMu (p : Pgs) (n : Int) : (pgA p).set 2 (.lit (.int .i32 n)) = pgA { p with mu := n } := rfl
theorem pgA_setDone (p : Pgs) (n : Int) : (pgA p).set 1 (.lit (.int .u32 n)) = pgA { p with done := n } := rfl
/-- A page that is built. -/
def Pgs.built (n : Int) (q : Nat) : Pgs := ⟨n, 1, 0, signsF n, .lit (.map (some q))⟩
def Pgs.mid (n : Int) (q : Nat) : Pgs := ⟨n, 0, 1, signsF n, .lit (.map (some q))⟩
def PgTo (b : Nat) (n : Int) (σ σ' : Store) : Prop := ∃ q : Nat, σ (mkey q) = none ∧ σ' = (σ.upd b (pgA (.built n q))).put q (mapA (codesN n 256))
theorem slow_calls (b : Nat) (n : Int) (hn : isPage n) (σ : Store) (hb : σ b = some (pgA (.new n))) :
    ACalls Tryz.prog 219 [.lit (.pointer (some ⟨b, 1, none⟩)), .func (.func 207) [pgP b] []] σ fun v σ' => v = .tuple [] ∧ PgTo b n σ σ' := by
  intro D G w cargs hl hargs hW hfresh
  have hsz : cargs.size = 2 := by simpa using hl.symm
  obtain ⟨c0, c1, rfl⟩ : ∃ c0 c1, cargs = #[c0, c1] := ⟨cargs[0], cargs[1], by
    apply Array.ext
    · simp [hsz]
    · intro i h1 h2
      match i with
      | 0 => rfl
      | 1 => rfl
      | _ + 2 => simp at h2; omega⟩
  have h0 := (hargs 0 _ c0 rfl rfl).1.lit_eq rfl
  have h1 := (hargs 1 _ c1 rfl rfl).1
  subst h0
  obtain rfl : c1 = .func (.func 207) #[.pointer (some ⟨b, 0, none⟩)] #[] := by
    cases h1 with
    | func _ _ _ ufs ucs e1 e2 e3 e4 =>
      have s2 : ucs = #[] := by simpa using e2.symm
      obtain ⟨u, rfl⟩ : ∃ u, ufs = #[u] := ⟨ufs[0]'(by simp at e1; omega), by
        apply Array.ext
        · simpa using e1.symm
        · intro i h1 h2
          match i with
          | 0 => rfl
          | _ + 1 => simp at h2⟩
      have := (e3 0 _ u rfl rfl).lit_eq rfl
      rw [s2, this]
  obtain ⟨hD, _, _, cur, e, hh, hlen, hcells⟩ := hW.obj b _ hb
  obtain ⟨d1, d2⟩ := obj_cell hW hb (i := 1) (v := .int .u32 0) rfl
  obtain ⟨m1, m2⟩ := obj_cell hW hb (i := 2) (v := .int .i32 0) rfl
  have hW1 := hW.setObj hb (i := 2) (by rw [pgA_new_length]; omega) (c := .lit (.int .i32 1)) (u := .int .i32 1) rfl (.lit _) trivial
  rw [pgA_setMu] at hW1
  have hbc := build_calls b { Pgs.new n with mu := 1 } List.length_replicate hn (σ.upd b (pgA { Pgs.new n with mu := 1 })) (by simp)
  have hin := hbc D G (w.setCell ⟨b, 2, none⟩ (.int .i32 1)) #[.pointer (some ⟨b, 0, none⟩)] rfl (fun i c u hc hu => by
    match i with
    | 0 => simp at hc hu; subst hc hu; exact ⟨.lit _, OwnAt.of_plain rfl⟩
    | _ + 1 => simp at hc) hW1 (fun k hk => hfresh k (by simpa [World.setCell] using hk))
  refine (oSlow b w (fun w' => ∃ G' σ', (∃ q : Nat, σ (mkey q) = none ∧ σ' = (σ.upd b (pgA (.mid n q))).put q (mapA (codesN n 256))) ∧ WR D G' σ' w' ∧ Ext D G (w.setCell ⟨b, 2, none⟩ (.int .i32 1)) G' w') d1 m1 m2 (hin.mono ?_) ?_).mono ?_
  · rintro e w' ⟨v, cv, G', σ', rfl, ⟨rfl, q, hq, rfl⟩, hv, _, hW2, hx⟩
    have hcv : cv = .tuple #[] := by
      cases hv with
      | tuple _ us e1 _ => have : us = #[] := by simpa using e1.symm
                           rw [this]
    subst hcv
    exact ⟨rfl, G', _, ⟨q, by simpa using hq, by rw [supd_supd]; rfl⟩, hW2, hx⟩
  · rintro w' ⟨G', σ', ⟨q, hq, rfl⟩, hW2, hx⟩
    have hb2 : ((σ.upd b (pgA (.mid n q))).put q (mapA (codesN n 256))) b = some (pgA (.mid n q)) := by simp
    obtain ⟨x1, x2⟩ := obj_cell hW2 hb2 (i := 1) (v := .int .u32 0) rfl
    obtain ⟨y1, y2⟩ := obj_cell hW2 hb2 (i := 2) (v := .int .i32 1) rfl
    exact ⟨y1, ⟨_, x1⟩, x2, y2⟩
  · rintro e w' ⟨rfl, w2, ⟨G', σ', ⟨q, hq, rfl⟩, hW2, hx⟩, rfl⟩
    have hb2 : ((σ.upd b (pgA (.mid n q))).put q (mapA (codesN n 256))) b = some (pgA (.mid n q)) := by simp
    have hl2 : (pgA (.mid n q)).length = 261 := pgA_length (signsF_length n)
    have hW3 := hW2.drew.setObj hb2 (i := 1) (by omega) (c := .lit (.int .u32 1)) (u := .int .u32 1) rfl (.lit _) trivial
    rw [pgA_setDone] at hW3
    have hW4 := hW3.setObj (o := b) (cs := pgA { Pgs.mid n q with done := 1 }) (by simp) (i := 2) (by rw [pgA_length (signsF_length n)]; omega) (c := .lit (.int .i32 0)) (u := .int .i32 0) rfl (.lit _) trivial
    rw [pgA_setMu, supd_supd] at hW4
    refine ⟨.tuple [], .tuple #[], G', _, rfl, ⟨rfl, q, hq, ?_⟩, .tuple _ _ rfl (by simp), OwnAt.of_plain rfl, hW4, (ext_setCell b 2 _ hD).trans (hx.trans (Ext.drew.trans ((ext_setCell b 1 _ hD).trans (ext_setCell b 2 _ hD))))⟩
    simp
    rfl
end Go.Proofs.YtlmdbcgceijlnaaGreatDoor
/-
  What a page is asked: signs and codes, whether it is built yet or not.
-/
namespace Go.Proofs.YtlmdbcgceijlnaaGreatDoor
open Go Go.AL

/-- A page in a store: as it was made, or built. -/
def pgS (b : Nat) (n : Int) (x : Option Nat) (σ : Store) : Store := match x with
  | none => σ.upd b (pgA (.new n))
  | some q => (σ.upd b (pgA (.built n q))).put q (mapA (codesN n 256))
theorem pgS_other {b o : Nat} (h : ¬ o = b) (n : Int) (x : Option Nat) (σ : Store) : (pgS b n x σ) (o : Int) = σ o := by
  cases x <;> simp [pgS, h]
theorem pgS_upd {b o : Nat} (h : ¬ o = b) (n : Int) (x : Option Nat) (σ : Store) (Y : List AV) : (pgS b n x σ).upd o Y = pgS b n x (σ.upd o Y) := by
  cases x with
  | none => exact supd_swap _ (fun e => h e.symm) _ _
  | some q =>
    unfold pgS
    dsimp only
    rw [sput_upd, supd_swap _ (fun e => h e.symm)]
theorem pgS_cell (b : Nat) (n : Int) (x : Option Nat) (σ : Store) : (pgS b n x σ) (b : Int) = some (pgA (match x with | none => .new n | some q => .built n q)) := by
  cases x <;> simp [pgS]
@[simp] theorem callable170' : callable Tryz.prog 222 = false := nr (by kernel_rfl)
theorem ext170 (b i : Nat) (d : Int) (cs : List AV) (σ : Store) (hb : σ b = some cs) (hi : cs[i]? = some (.lit (.int .u32 d))) : AExt Tryz.prog 222 [.lit (.pointer (some ⟨b, i, none⟩))] σ fun v σ' => v = .lit (.int .u32 d) ∧ σ' = σ := by
  intro D G w cargs hl hargs hW
  obtain ⟨c0, rfl⟩ : ∃ c0, cargs = #[c0] := ⟨cargs[0]'(by simp at hl; omega), by
    apply Array.ext
    · simpa using hl.symm
    · intro i h1 h2
      match i with
      | 0 => rfl
      | _ + 1 => simp at h2⟩
  have h0 := (hargs 0 _ c0 rfl rfl).lit_eq rfl
  subst h0
  obtain ⟨d1, _⟩ := obj_cell hW hb hi
  exact ⟨_, _, run_call_load (P := Tryz.prog) Tryz.func222 (by kernel_rfl) (by kernel_rfl) (by kernel_rfl) .u32 (by kernel_rfl) d1, rfl, .lit _, rfl, rfl⟩
set_option maxRecDepth 8000 in
theorem oload_calls (b : Nat) (d : Int) (cs : List AV) (σ : Store) (hb : σ b = some cs) (hi : cs[1]? = some (.lit (.int .u32 d))) : ACalls Tryz.prog 218 [.lit (.pointer (some ⟨b, 1, none⟩))] σ fun v σ' => v = .lit (.bool (d != 0)) ∧ σ' = σ := by
  refine ACalls.of_awp follows (st := st218) (plans := pl218) (n := 8) Tryz.func218 rfl (by kernel_rfl) (by kernel_rfl) (by kernel_rfl) ?_
  simp
  refine extK.of (ext170 b 1 d cs σ hb hi) ?_
  rintro v σ1 ⟨rfl, rfl⟩
  simp
/-- The page's map is the one it had, or a new one. -/
def NxP (σ : Store) (x x' : Option Nat) : Prop := x' = x ∨ ∃ g, x' = some g ∧ σ (mkey g) = none
theorem NxP.trans {σ : Store} {x y z : Option Nat} (h : NxP σ x y) (k : NxP σ y z) : NxP σ x z := by
  rcases k with rfl | k
  · exact h
  · exact .inr k
set_option maxRecDepth 8000 in
theorem odo_calls (b : Nat) (n : Int) (hn : isPage n) (x : Option Nat) (σ : Store) : ACalls Tryz.prog 206 [.lit (.pointer (some ⟨b, 1, none⟩)), .func (.func 207) [pgP b] []] (pgS b n x σ) fun v σ' => v = .tuple [] ∧ ∃ q, NxP σ x (some q) ∧ σ' = pgS b n (some q) σ := by
  refine ACalls.of_awp follows (st := st206) (plans := pl206) (n := 12) Tryz.func206 rfl (by kernel_rfl) (by kernel_rfl) (by kernel_rfl) ?_
  cases x with
  | none =>
    have hl := oload_calls b 0 _ (pgS b n none σ) (pgS_cell b n none σ) rfl
    have hs := slow_calls b n hn (pgS b n none σ) (pgS_cell b n none σ)
    simp
    refine callK.of hl ?_
    rintro v σ1 ⟨rfl, rfl⟩
    simp
    refine callK.of hs ?_
    rintro v σ1 ⟨rfl, q, hq, rfl⟩
    simp
    refine ⟨_, AV.le_refl _, _, Store.sub_refl _, rfl, q, .inr ⟨q, rfl, by simpa [pgS] using hq⟩, ?_⟩
    unfold pgS
    dsimp only
    rw [supd_supd]
  | some q =>
    have hl := oload_calls b 1 _ (pgS b n (some q) σ) (pgS_cell b n (some q) σ) rfl
    simp
    refine callK.of hl ?_
    rintro v σ1 ⟨rfl, rfl⟩
    simp
    exact ⟨_, AV.le_refl _, _, Store.sub_refl _, rfl, q, .inl rfl, rfl⟩
set_option maxRecDepth 8000 in
theorem built_calls (b : Nat) (n : Int) (hn : isPage n) (x : Option Nat) (σ : Store) : ACalls Tryz.prog 187 [pgP b] (pgS b n x σ) fun v σ' => v = pgP b ∧ ∃ q, NxP σ x (some q) ∧ σ' = pgS b n (some q) σ := by
  refine ACalls.of_awp follows (st := st187) (plans := pl187) (n := 10) Tryz.func187 rfl (by kernel_rfl) (by kernel_rfl) (by kernel_rfl) ?_
  simp
  refine callK.of (odo_calls b n hn x σ) ?_
  rintro v σ1 ⟨rfl, q, nx, rfl⟩
  simp
  exact ⟨_, AV.le_refl _, _, Store.sub_refl _, rfl, q, nx, rfl⟩
set_option maxRecDepth 8000 in
theorem sign_calls (b : Nat) (n : Int) (hn : isPage n) (x : Option Nat) (c : UInt8) (σ : Store) : ACalls Tryz.prog 178 [pgP b, byteA c] (pgS b n x σ) fun v σ' => v = .lit (.int .i32 ((sgF n c.toNat : Nat) : Int)) ∧ ∃ q, NxP σ x (some q) ∧ σ' = pgS b n (some q) σ := by
  have hc := c.toNat_lt
  refine ACalls.of_awp follows (st := st178) (plans := pl178) (n := 14) Tryz.func178 rfl (by kernel_rfl) (by kernel_rfl) (by kernel_rfl) ?_
  simp [byteA]
  refine callK.of (built_calls b n hn x σ) ?_
  rintro v σ1 ⟨rfl, q, nx, rfl⟩
  have hcell := pgS_cell b n (some q) σ
  dsimp only at hcell
  have hl := signsF_length n
  have hg := pgA_sg (p := Pgs.built n q) (i := c.toNat) (by show _ < (signsF n).length; omega)
  have hpl := pgA_length (p := Pgs.built n q) hl
  have e : (Pgs.built n q).sg[c.toNat]'(by show _ < (signsF n).length; omega) = sgF n c.toNat := by
    unfold sgF
    rw [List.getD_eq_getElem?_getD, List.getElem?_eq_getElem (by omega)]
    rfl
  rw [e] at hg
  have hc' : (c.toNat : Int) < 256 := by omega
  simp [hcell, hg, hc']
  exact ⟨_, AV.le_refl _, _, Store.sub_refl _, rfl, q, nx, rfl⟩
set_option maxRecDepth 8000 in
theorem code_calls (b : Nat) (n : Int) (hn : isPage n) (x : Option Nat) (s : Int) (σ : Store) : ACalls Tryz.prog 163 [pgP b, .lit (.int .i32 s)] (pgS b n x σ) fun v σ' => v = .tuple [.lit (.int .u8 (((codeIx n s).getD 0 : Nat) : Int)), .lit (.bool (codeIx n s).isSome)] ∧ ∃ q, NxP σ x (some q) ∧ σ' = pgS b n (some q) σ := by
  refine ACalls.of_awp follows (st := st163) (plans := pl163) (n := 23) Tryz.func163 rfl (by kernel_rfl) (by kernel_rfl) (by kernel_rfl) ?_
  simp
  refine callK.of (built_calls b n hn x σ) ?_
  rintro v σ1 ⟨rfl, q, nx, rfl⟩
  have hcell := pgS_cell b n (some q) σ
  dsimp only at hcell
  have hpl := pgA_length (p := Pgs.built n q) (signsF_length n)
  have hcd := pgA_cd (p := Pgs.built n q) (signsF_length n)
  have e : (Pgs.built n q).cd = .lit (.map (some q)) := rfl
  rw [e] at hcd
  have hcd : ∀ h : 260 < (pgA (.built n q)).length, (pgA (.built n q))[260]'h = .lit (.map (some q)) := fun h => by
    rw [List.getElem?_eq_getElem h] at hcd
    exact Option.some.inj hcd
  have hmap : (pgS b n (some q) σ) (mkey q) = some (mapA (codesN n 256)) := by simp [pgS]
  have hget := get_codes Tryz.prog 5 n s zeroV165_5
  simp [hcell, hpl, hcd, hmap, hget]
  cases hx : codeIx n s with
  | none =>
    simp
    exact ⟨_, AV.le_refl _, _, Store.sub_refl _, rfl, q, nx, rfl⟩
  | some j =>
    simp
    exact ⟨_, AV.le_refl _, _, Store.sub_refl _, rfl, q, nx, rfl⟩
set_option maxRecDepth 8000 in
theorem page_new (n : Int) (hn : isPage n) (σ : Store) : ACalls Tryz.prog 34 [.lit (.int .i64 n)] σ fun v σ' => ∃ b : Nat, σ b = none ∧ v = .tuple [pgP b, .lit (.int .i64 0)] ∧ σ' = pgS b n none σ := by
  have hoth := fun τ => others_calls n τ
  rw [decide_eq_true hn] at hoth
  refine ACalls.of_awp follows (st := st34) (plans := pl34) (n := 16) Tryz.func34 rfl (by kernel_rfl) (by kernel_rfl) (by kernel_rfl) ?_
  simp
  refine callK.of (hoth _) ?_
  rintro v σ1 ⟨rfl, rfl⟩
  have hpl := pgA_new_length 0
  have hset := pgA_new_set n
  have hpl2 := pgA_new_length n
  simp [hpl, hset]
  intro b hb
  exact ⟨_, AV.le_refl _, _, Store.sub_refl _, b, hb, rfl, rfl⟩
end Go.Proofs.YtlmdbcgceijlnaaGreatDoor
/-
  What codes may be used for, by a page; small things of attributes.
-/
namespace Go.Proofs.YtlmdbcgceijlnaaGreatDoor
open Go Go.AL Go.Sp

set_option maxRecDepth 8000 in
theorem csign_calls (b : Nat) (n : Int) (hn : isPage n) (x : Option Nat) (c : UInt8) (σ : Store) : ACalls Tryz.prog 152 [ptrA b, byteA c] (pgS b n x σ) fun v σ' => v = .lit (.int .i32 ((sgF n c.toNat : Nat) : Int)) ∧ ∃ q, NxP σ x (some q) ∧ σ' = pgS b n (some q) σ := by
  refine ACalls.of_awp follows (st := st152) (plans := pl152) (n := 14) Tryz.func152 rfl (by kernel_rfl) (by kernel_rfl) (by kernel_rfl) ?_
  simp
  refine callK.of (sign_calls b n hn x c σ) ?_
  rintro v σ1 ⟨rfl, q, nx, rfl⟩
  simp
  exact ⟨_, AV.le_refl _, _, Store.sub_refl _, rfl, q, nx, rfl⟩
def dataB (c : UInt8) : Bool := decide (64 ≤ c.toNat) && decide (c.toNat < 255)
set_option maxRecDepth 8000 in
theorem data_calls (c : UInt8) (σ : Store) : ACalls Tryz.prog 140 [byteA c] σ fun v σ' => v = .lit (.bool (dataB c)) ∧ σ' = σ := by
  refine ACalls.of_awp follows (st := st140) (plans := pl140) (n := 9) Tryz.func140 rfl (by kernel_rfl) (by kernel_rfl) (by kernel_rfl) ?_
  unfold dataB
  by_cases h : 64 ≤ c.toNat
  · have h' : (64 : Int) ≤ c.toNat := by omega
    simp [byteA, h, h']
    by_cases h2 : c.toNat < 255
    · have h2' : (c.toNat : Int) < 255 := by omega
      simp [h2, h2']
    · have h2' : ¬ (c.toNat : Int) < 255 := by omega
      simp [h2, h2']
  · have h' : ¬ (64 : Int) ≤ c.toNat := by omega
    simp [byteA, h, h']
/-- Digits, a period, a minus. -/
def numSign (s : Nat) : Bool := (decide (48 ≤ s) && decide (s ≤ 57)) || s == 46 || s == 45
def numB (n : Int) (c : UInt8) : Bool := c == 28 || (dataB c && numSign (sgF n c.toNat))
set_option maxRecDepth 8000 in
theorem numeric_calls (b : Nat) (n : Int) (hn : isPage n) (x : Option Nat) (c : UInt8) (σ : Store) : ACalls Tryz.prog 170 [ptrA b, byteA c] (pgS b n x σ) fun v σ' => v = .lit (.bool (numB n c)) ∧ ∃ x', NxP σ x x' ∧ σ' = pgS b n x' σ := by
  have hs := csign_calls b n hn x c σ
  have hd := fun τ => data_calls c τ
  refine ACalls.of_awp follows (st := st170) (plans := pl170) (n := 29) Tryz.func170 rfl (by kernel_rfl) (by kernel_rfl) (by kernel_rfl) ?_
  unfold numB
  by_cases h28 : c = 28
  · subst h28
    simp [byteA]
    exact ⟨_, AV.le_refl _, _, Store.sub_refl _, rfl, x, .inl rfl, rfl⟩
  · have h28' : ¬ (c.toNat : Int) = 28 := fun e => h28 (UInt8.toNat_inj.1 (by show c.toNat = 28; omega))
    have hb : (c == 28) = false := by simpa using h28
    generalize sgF n c.toNat = s at *
    simp only [byteA] at hs hd
    simp [byteA, h28', hb]
    refine callK.of hs ?_
    rintro v σ1 ⟨rfl, q, nx, rfl⟩
    simp
    refine callK.of (hd _) ?_
    rintro v σ1 ⟨rfl, rfl⟩
    cases dataB c with
    | false =>
      simp
      exact ⟨_, AV.le_refl _, _, Store.sub_refl _, rfl, some q, nx, rfl⟩
    | true =>
      unfold numSign
      by_cases h1 : 48 ≤ s
      · have h1' : (48 : Int) ≤ s := by omega
        by_cases h2 : s ≤ 57
        · have h2' : (s : Int) ≤ 57 := by omega
          simp [h1, h1', h2, h2']
          exact ⟨_, AV.le_refl _, _, Store.sub_refl _, rfl, some q, nx, rfl⟩
        · have h2' : ¬ (s : Int) ≤ 57 := by omega
          have h3 : ¬ s = 46 := by omega
          have h4 : ¬ s = 45 := by omega
          have h3' : ¬ (s : Int) = 46 := by omega
          have h4' : ¬ (s : Int) = 45 := by omega
          have e3 : (s == 46) = false := by simpa using h3
          have e4 : (s == 45) = false := by simpa using h4
          have e4' : ((s : Int) == 45) = false := by simpa using h4'
          simp [h1, h1', h2, h2', h3', e3, e4, e4']
          exact ⟨_, AV.le_refl _, _, Store.sub_refl _, rfl, some q, nx, rfl⟩
      · have h1' : ¬ (48 : Int) ≤ s := by omega
        by_cases h3 : s = 46
        · subst h3
          simp
          exact ⟨_, AV.le_refl _, _, Store.sub_refl _, rfl, some q, nx, rfl⟩
        · by_cases h4 : s = 45
          · subst h4
            simp
            exact ⟨_, AV.le_refl _, _, Store.sub_refl _, rfl, some q, nx, rfl⟩
          · have h3' : ¬ (s : Int) = 46 := by omega
            have h4' : ¬ (s : Int) = 45 := by omega
            have e3 : (s == 46) = false := by simpa using h3
            have e4 : (s == 45) = false := by simpa using h4
            have e4' : ((s : Int) == 45) = false := by simpa using h4'
            simp [h1, h1', h3', e3, e4, e4']
            exact ⟨_, AV.le_refl _, _, Store.sub_refl _, rfl, some q, nx, rfl⟩
/-- Of a field's first character. -/
def desigN (n : Int) (c : UInt8) : Nat := if c = 0 then 3 else if sgF n c.toNat = 63 then 1 else if sgF n c.toNat = 62 then 2 else if sgF n c.toNat = 32 then 3 else if sgF n c.toNat = 38 then 4 else 0
set_option maxRecDepth 8000 in
theorem desig_calls (b : Nat) (n : Int) (hn : isPage n) (x : Option Nat) (c : UInt8) (σ : Store) : ACalls Tryz.prog 131 [ptrA b, byteA c] (pgS b n x σ) fun v σ' => v = .lit (.int .i64 (desigN n c)) ∧ ∃ x', NxP σ x x' ∧ σ' = pgS b n x' σ := by
  have hs := csign_calls b n hn x c σ
  refine ACalls.of_awp follows (st := st131) (plans := pl131) (n := 18) Tryz.func131 rfl (by kernel_rfl) (by kernel_rfl) (by kernel_rfl) ?_
  unfold desigN
  by_cases h0 : c = 0
  · subst h0
    simp [byteA]
    exact ⟨_, AV.le_refl _, _, Store.sub_refl _, rfl, x, .inl rfl, rfl⟩
  · have h0' : ¬ c.toNat = 0 := fun e => h0 (UInt8.toNat_inj.1 e)
    generalize sgF n c.toNat = s at *
    simp only [byteA] at hs
    simp [byteA, h0', h0]
    refine callK.of hs ?_
    rintro v σ1 ⟨rfl, q, nx, rfl⟩
    have fin : ∀ z : Nat, ∃ v', (AV.lit (.int .i64 (z : Int))).le v' ∧ ∃ y, Store.sub y (pgS b n (some q) σ) ∧ v' = .lit (.int .i64 (z : Int)) ∧ ∃ x', NxP σ x x' ∧ y = pgS b n x' σ := fun z => ⟨_, AV.le_refl _, _, Store.sub_refl _, rfl, some q, nx, rfl⟩
    by_cases h1 : s = 63
    · subst h1; simp; exact fin 1
    by_cases h2 : s = 62
    · subst h2; simp; exact fin 2
    by_cases h3 : s = 32
    · subst h3; simp; exact fin 3
    by_cases h4 : s = 38
    · subst h4; simp; exact fin 4
    have h1' : ¬ (s : Int) = 63 := by omega
    have h2' : ¬ (s : Int) = 62 := by omega
    have h3' : ¬ (s : Int) = 32 := by omega
    have h4' : ¬ (s : Int) = 38 := by omega
    simp [h1, h2, h3, h4, h1', h2', h3', h4']
    exact fin 0
def detB (f : Fld) : Bool := f.disp == 1 || f.disp == 2
set_option maxRecDepth 8000 in
theorem det_calls (f : Fld) (σ : Store) : ACalls Tryz.prog 129 [fldA f] σ fun v σ' => v = .lit (.bool (detB f)) ∧ σ' = σ := by
  obtain ⟨p, u, d, m⟩ := f
  refine ACalls.of_awp follows (st := st129) (plans := pl129) (n := 11) Tryz.func129 rfl (by kernel_rfl) (by kernel_rfl) (by kernel_rfl) ?_
  unfold detB
  simp [fldA]
  intro q hq
  by_cases h1 : d = 1
  · subst h1; simp; exact sub_upd_self _ _ _ hq
  · have h1' : ¬ (d : Int) = 1 := by omega
    by_cases h2 : d = 2
    · subst h2; simp; exact sub_upd_self _ _ _ hq
    · have h2' : ¬ (d : Int) = 2 := by omega
      have e1 : (d == 1) = false := by simpa using h1
      have e2 : (d == 2) = false := by simpa using h2
      have e2' : ((d : Int) == 2) = false := by simpa using h2'
      simp [h1', e1, e2, e2']; exact sub_upd_self _ _ _ hq
set_option maxRecDepth 8000 in
theorem skip_calls (f : Fld) (σ : Store) : ACalls Tryz.prog 192 [fldA f] σ fun v σ' => v = .lit (.bool (f.prot && f.num)) ∧ σ' = σ := by
  obtain ⟨p, u, d, m⟩ := f
  refine ACalls.of_awp follows (st := st192) (plans := pl192) (n := 9) Tryz.func192 rfl (by kernel_rfl) (by kernel_rfl) (by kernel_rfl) ?_
  simp [fldA]
  intro q hq
  cases p <;> simp [hq]
end Go.Proofs.YtlmdbcgceijlnaaGreatDoor
/-
  Rows, columns, moves.
-/
namespace Go.Proofs.YtlmdbcgceijlnaaGreatDoor
open Go Go.AL Go.Sp

theorem small_i64 {n : Nat} (h : n ≤ 1000000000) : IntKind.i64.wrap (n : Int) = n := wrap_i64 (by omega) (by omega)
def addrAt (r c : Nat) (row col : Int) : Nat := wrap r row * c + wrap c col
theorem addrAt_lt {r c : Nat} (h : Dim r c) (row col : Int) : addrAt r c row col < r * c := by
  have h1 := wrap_lt h.r1 row
  have h2 := wrap_lt h.c1 col
  unfold addrAt
  have : (wrap r row + 1) * c ≤ r * c := Nat.mul_le_mul_right _ h1
  rw [Nat.succ_mul] at this
  omega
set_option maxRecDepth 4000 in
theorem addrAt_calls {r c : Nat} (h : Dim r c) (row col : Int) (σ : Store) : ACalls Tryz.prog 64 [dimA r c, .lit (.int .i64 row), .lit (.int .i64 col)] σ fun v σ' => v = .lit (.int .i64 (addrAt r c row col)) ∧ σ' = σ := by
  have hv := valid_calls h
  have hr := rest_calls row r h.r1 (by have := h.r2; omega)
  have hc := rest_calls col c h.c1 (by have := h.c2; omega)
  have hlt := addrAt_lt h row col
  have hm := h.m
  have h1 := wrap_lt h.r1 row
  have h2 := wrap_lt h.c1 col
  have hr2 := h.r2
  have hc2 := h.c2
  unfold dimA at hv
  unfold addrAt at *
  generalize wrap r row = a at *
  generalize wrap c col = b at *
  have hac : a * c ≤ r * c := Nat.mul_le_mul_right _ (Nat.le_of_lt h1)
  have hw1 : IntKind.i64.wrap ((a : Int) * (c : Int)) = ((a * c : Nat) : Int) := by rw [← Int.natCast_mul]; exact small_i64 (by omega)
  have hw2 : IntKind.i64.wrap (((a * c : Nat) : Int) + (b : Int)) = ((a * c + b : Nat) : Int) := by rw [← Int.natCast_add]; exact small_i64 (by omega)
  generalize a * c + b = z at *
  generalize a * c = y at *
  refine ACalls.of_awp follows (st := st64) (plans := pl64) (n := 22) Tryz.func64 rfl (by kernel_rfl) (by kernel_rfl) (by kernel_rfl) ?_
  simp [dimA]
  intro p hp
  refine callK.of (hv _) ?_
  rintro v σ' ⟨rfl, rfl⟩
  simp
  repeat' first
    | with_reducible apply And.intro
    | (refine callK.of (hr _) ?_; rintro v σ1 ⟨rfl, rfl⟩; simp [hw1])
    | (refine callK.of (hc _) ?_; rintro v σ1 ⟨rfl, rfl⟩; simp [hw1, hw2, hp])
set_option maxRecDepth 4000 in
theorem row_of_calls {r c : Nat} (h : Dim r c) (n : Int) (σ : Store) : ACalls Tryz.prog 63 [dimA r c, .lit (.int .i64 n)] σ fun v σ' => v = .lit (.int .i64 ((wrap (r * c) n / c : Nat) : Int)) ∧ σ' = σ := by
  have hv := valid_calls h
  have hw := wrap_calls h n
  have hc1 := h.c1
  have hlt := wrap_lt h.p n
  have hm := h.m
  unfold dimA at hv hw
  generalize wrap (r * c) n = a at *
  have hc0 : ¬ c = 0 := by omega
  have hq : (a : Int).tdiv (c : Int) = ((a / c : Nat) : Int) := rfl
  have hle := Nat.div_le_self a c
  have hw1 : IntKind.i64.wrap ((a : Int).tdiv (c : Int)) = ((a / c : Nat) : Int) := by rw [hq]; exact small_i64 (by omega)
  have hw2 : IntKind.i64.wrap ((a : Int) / (c : Int)) = (a : Int) / (c : Int) := by rw [← Int.natCast_ediv]; exact small_i64 (by omega)
  refine ACalls.of_awp follows (st := st63) (plans := pl63) (n := 14) Tryz.func63 rfl (by kernel_rfl) (by kernel_rfl) (by kernel_rfl) ?_
  simp [dimA]
  intro p hp
  refine callK.of (hv _) ?_
  rintro v σ' ⟨rfl, rfl⟩
  simp
  repeat' first
    | with_reducible apply And.intro
    | (refine callK.of (hw _) ?_; rintro v σ1 ⟨rfl, rfl⟩; simp [hw2, hp, hc0])
set_option maxRecDepth 4000 in
theorem col_of_calls {r c : Nat} (h : Dim r c) (n : Int) (σ : Store) : ACalls Tryz.prog 74 [dimA r c, .lit (.int .i64 n)] σ fun v σ' => v = .lit (.int .i64 ((wrap (r * c) n % c : Nat) : Int)) ∧ σ' = σ := by
  have hv := valid_calls h
  have hw := wrap_calls h n
  have hc1 := h.c1
  have hlt := wrap_lt h.p n
  have hm := h.m
  unfold dimA at hv hw
  generalize wrap (r * c) n = a at *
  have hc0 : ¬ c = 0 := by omega
  have hq : (a : Int).tmod (c : Int) = ((a % c : Nat) : Int) := rfl
  generalize a % c = z at *
  refine ACalls.of_awp follows (st := st74) (plans := pl74) (n := 14) Tryz.func74 rfl (by kernel_rfl) (by kernel_rfl) (by kernel_rfl) ?_
  simp [dimA]
  intro p hp
  refine callK.of (hv _) ?_
  rintro v σ' ⟨rfl, rfl⟩
  simp
  repeat' first
    | with_reducible apply And.intro
    | (refine callK.of (hw _) ?_; rintro v σ1 ⟨rfl, rfl⟩; simp [hq, hp, hc0])
def lineN (r c : Nat) (n : Int) : Nat := addrAt r c ((wrap (r * c) n / c + 1 : Nat) : Int) 0
set_option maxRecDepth 4000 in
theorem line_calls {r c : Nat} (h : Dim r c) (n : Int) (σ : Store) : ACalls Tryz.prog 167 [dimA r c, .lit (.int .i64 n)] σ fun v σ' => v = .lit (.int .i64 (lineN r c n)) ∧ σ' = σ := by
  have ha := addrAt_calls h ((wrap (r * c) n / c + 1 : Nat) : Int) 0
  have hw := row_of_calls h n
  have hlt := wrap_lt h.p n
  have hm := h.m
  have hle := Nat.div_le_self (wrap (r * c) n) c
  have hw1 : IntKind.i64.wrap (((wrap (r * c) n / c : Nat) : Int) + 1) = ((wrap (r * c) n / c + 1 : Nat) : Int) := by
    generalize wrap (r * c) n / c = y at *
    exact wrap_i64 (by omega) (by omega)
  unfold lineN
  unfold dimA at ha hw
  generalize addrAt r c ((wrap (r * c) n / c + 1 : Nat) : Int) 0 = z at *
  generalize hu : wrap (r * c) n / c + 1 = u at *
  generalize wrap (r * c) n / c = y at *
  refine ACalls.of_awp follows (st := st167) (plans := pl167) (n := 11) Tryz.func167 rfl (by kernel_rfl) (by kernel_rfl) (by kernel_rfl) ?_
  simp [dimA]
  intro p hp
  repeat' first
    | with_reducible apply And.intro
    | (refine callK.of (hw _) ?_; rintro v σ1 ⟨rfl, rfl⟩; simp [hw1])
    | (refine callK.of (ha _) ?_; rintro v σ1 ⟨rfl, rfl⟩; simp [hp])
end Go.Proofs.YtlmdbcgceijlnaaGreatDoor
/-
  The cursor's moves.
-/
namespace Go.Proofs.YtlmdbcgceijlnaaGreatDoor
open Go Go.AL Go.Sp

def moveN (r c : Nat) (n dr dc : Int) : Nat :=
  let m := wrap (r * c) (((wrap (r * c) n + wrap (r * c) dc : Nat) : Int))
  addrAt r c ((m / c + wrap r dr : Nat) : Int) ((m % c : Nat) : Int)
set_option maxHeartbeats 4000000 in
set_option maxRecDepth 4000 in
theorem move_calls {r c : Nat} (h : Dim r c) (n dr dc : Int) (σ : Store) : ACalls Tryz.prog 168 [dimA r c, .lit (.int .i64 n), .lit (.int .i64 dr), .lit (.int .i64 dc)] σ fun v σ' => v = .lit (.int .i64 (moveN r c n dr dc)) ∧ σ' = σ := by
  have hv := valid_calls h
  have hm := h.m
  have hr2 := h.r2
  have hw1 := wrap_calls h n
  have hw2 := wrap_calls h dc
  have hl1 := wrap_lt h.p n
  have hl2 := wrap_lt h.p dc
  unfold moveN
  generalize wrap (r * c) n = a at *
  generalize wrap (r * c) dc = b at *
  have hs1 : IntKind.i64.wrap ((a : Int) + (b : Int)) = ((a + b : Nat) : Int) := by rw [← Int.natCast_add]; exact small_i64 (by omega)
  have hw3 := wrap_calls h ((a + b : Nat) : Int)
  have hl3 := wrap_lt h.p ((a + b : Nat) : Int)
  generalize hm1 : wrap (r * c) ((a + b : Nat) : Int) = m at *
  have hro := row_of_calls h (m : Int)
  have hco := col_of_calls h (m : Int)
  rw [wrap_of_lt hl3] at hro hco
  have hre := rest_calls dr r h.r1 (by omega)
  have hl4 := wrap_lt h.r1 dr
  have hle := Nat.div_le_self m c
  simp only []
  generalize wrap r dr = d at *
  generalize m / c = u at *
  generalize m % c = w at *
  have hs2 : IntKind.i64.wrap ((u : Int) + (d : Int)) = ((u + d : Nat) : Int) := by rw [← Int.natCast_add]; exact small_i64 (by omega)
  have ha := addrAt_calls h ((u + d : Nat) : Int) (w : Int)
  generalize addrAt r c ((u + d : Nat) : Int) (w : Int) = z at *
  generalize hab : a + b = ab at *
  generalize hud : u + d = ud at *
  unfold dimA at *
  refine ACalls.of_awp follows (st := st168) (plans := pl168) (n := 35) Tryz.func168 rfl (by kernel_rfl) (by kernel_rfl) (by kernel_rfl) ?_
  simp
  intro p hp
  refine callK.of (hv _) ?_
  rintro v σ' ⟨rfl, rfl⟩
  simp
  repeat' first
    | with_reducible apply And.intro
    | (refine callK.of (hw1 _) ?_; rintro v σ1 ⟨rfl, rfl⟩; simp)
    | (refine callK.of (hw2 _) ?_; rintro v σ1 ⟨rfl, rfl⟩; simp [hs1])
    | (refine callK.of (hw3 _) ?_; rintro v σ1 ⟨rfl, rfl⟩; simp)
    | (refine callK.of (hro _) ?_; rintro v σ1 ⟨rfl, rfl⟩; simp)
    | (refine callK.of (hco _) ?_; rintro v σ1 ⟨rfl, rfl⟩; simp)
    | (refine callK.of (hre _) ?_; rintro v σ1 ⟨rfl, rfl⟩; simp [hs2])
    | (refine callK.of (ha _) ?_; rintro v σ1 ⟨rfl, rfl⟩; simp [hp])
end Go.Proofs.YtlmdbcgceijlnaaGreatDoor
/-
  The field before; the cursor's keys.
-/
namespace Go.Proofs.YtlmdbcgceijlnaaGreatDoor
open Go Go.AL Go.Sp

theorem size_calls' {q p : Nat} {s : Sp} {σ : Store} (h : Prg σ q p s) : ACalls Tryz.prog 56 [ptrA q] σ fun v σ' => v = dimA s.rows s.cols ∧ σ' = σ := size_calls h
def prevS (s : Sp) (n : Nat) : Int := match (List.range s.n).find? (fun i => firstS s ((n + s.n - (i + 1)) % s.n)) with
  | some i => (((n + s.n - (i + 1)) % s.n : Nat) : Int)
  | none => -1
theorem back_step {N n j : Nat} (hj : j < N) : ((n + N - j) % N + N - 1) % N = (n + N - (j + 1)) % N := by
  have h1 : (n + N - j) % N + N - 1 = (n + N - j) % N + (N - 1) := by omega
  have h2 : n + N - j + (N - 1) = n + N - (j + 1) + N := by omega
  rw [h1, Nat.mod_add_mod, h2, Nat.add_mod_right]
set_option maxRecDepth 8000 in
theorem findb_calls {q r : Nat} {s : Sp} {σ : Store} (h : Prg σ q r s) {n : Nat} (hn : n < s.n) : ACalls Tryz.prog 188 [ptrA q, .lit (.int .i64 n), .lit (.int .i64 (-1))] σ fun v σ' => v = .lit (.int .i64 (prevS s n)) ∧ σ' = σ := by
  have hsz := fun τ (hτ : Prg τ q r s) => size_calls hτ
  have hcl := fun τ => scells_calls s τ
  have hnl := s.n_le
  have hpos := s.n_pos
  refine ACalls.of_awp follows (st := st188) (plans := pl188) (n := 24) Tryz.func188 rfl (by kernel_rfl) (by kernel_rfl) (by kernel_rfl) ?_
  simp
  refine callK.of (hsz _ h) ?_
  rintro v σ' ⟨rfl, rfl⟩
  simp
  intro b hb
  refine callK.of (hcl _) ?_
  rintro v σ2 ⟨rfl, rfl⟩
  simp
  refine codeK.loop follows (st := st188) (plans := pl188) (X := Nat) (fun j => j ≤ s.n ∧ ∀ i, i < j → firstS s ((n + s.n - (i + 1)) % s.n) = false)
    (fun j => [(0, ptrA q), (1, .lit (.int .i64 (((n + s.n - j) % s.n : Nat) : Int))), (2, .lit (.int .i64 (-1))), (7, ptrA b), (11, .lit (.int .i64 s.n)), (12, .lit (.int .i64 j))]) (fun _ => σ'.upd b [.lit (.int .i64 s.rows), .lit (.int .i64 s.cols)]) (fun j => s.n - j) 0 (by kernel_rfl) (by simp) (by simp [Nat.mod_eq_of_lt hn]) (by first | exact Store.sub_refl _ | (intro q; simp only [Store.upd, Store.del]; (repeat' split) <;> first | exact Or.inr rfl | exact Or.inl rfl | (exfalso; omega) | (left; subst_vars; assumption) | simp_all)) fun j hj => ?_
  obtain ⟨hj, hk⟩ := hj
  by_cases hlt : j < s.n
  · have hw : IntKind.i64.wrap ((j : Int) + 1) = ((j + 1 : Nat) : Int) := wrap_i64 (by omega) (by omega)
    have hm := Nat.mod_lt (n + s.n - j) hpos
    have hsw := fun τ => swrap_calls s (((n + s.n - j) % s.n : Nat) - 1 : Int) τ
    rw [wrap_pred hpos hm, back_step hlt] at hsw
    have hi : IntKind.i64.wrap ((((n + s.n - j) % s.n : Nat) : Int) + -1) = (((n + s.n - j) % s.n : Nat) : Int) - 1 := by rw [wrap_i64 (by omega) (by omega)]; omega
    have hm2 := Nat.mod_lt (n + s.n - (j + 1)) hpos
    have hfc := fun τ (hτ : Prg τ q r s) => first_calls hτ hm2
    have hfound : firstS s ((n + s.n - (j + 1)) % s.n) = true → prevS s n = ((n + s.n - (j + 1)) % s.n : Nat) := fun h1 => by
      have : (List.range s.n).find? (fun i => firstS s ((n + s.n - (i + 1)) % s.n)) = some j := by
        rw [List.find?_range_eq_some]
        exact ⟨h1, by simp [hlt], fun i hi => by simp [hk i hi]⟩
      unfold prevS; rw [this]
    have hnx : firstS s ((n + s.n - (j + 1)) % s.n) = false → ∀ i, i < j + 1 → firstS s ((n + s.n - (i + 1)) % s.n) = false := fun h1 i hi => by
      by_cases e : i = j
      · subst e; exact h1
      · exact hk i (by omega)
    have hcast : ((n + s.n - (j + 1) : Nat) : Int) % (s.n : Int) = (((n + s.n - (j + 1)) % s.n : Nat) : Int) := by rw [Int.natCast_emod]
    generalize (n + s.n - (j + 1)) % s.n = m2 at *
    generalize (n + s.n - j) % s.n = m at *
    simp [hlt, hi]
    refine callK.of (hsw _) ?_
    rintro v σ3 ⟨rfl, rfl⟩
    simp
    refine callK.of (hfc _ (h.new hb _)) ?_
    rintro v σ3 ⟨rfl, rfl⟩
    cases h1 : firstS s m2
    · simp
      exact ⟨j + 1, ⟨by omega, hnx h1⟩, by omega, by simpa [hw] using le_of_eq (by rw [hcast])⟩
    · rw [hfound h1]
      simp
      exact sub_upd_self _ _ _ hb
  · obtain rfl : j = s.n := by omega
    have hnone : prevS s n = -1 := by
      have : (List.range s.n).find? (fun i => firstS s ((n + s.n - (i + 1)) % s.n)) = none := by
        rw [List.find?_eq_none]
        intro i hi
        simp at hi
        simp [hk i hi]
      unfold prevS; rw [this]
    rw [hnone]
    simp
    exact sub_upd_self _ _ _ hb
set_option maxRecDepth 8000 in
theorem fprev_calls {q r : Nat} {s : Sp} {σ : Store} (h : Prg σ q r s) {n : Nat} (hn : n < s.n) : ACalls Tryz.prog 165 [ptrA q, .lit (.int .i64 n)] σ fun v σ' => v = .lit (.int .i64 (prevS s n)) ∧ σ' = σ := by
  have hsz := fun τ (hτ : Prg τ q r s) => size_calls hτ
  have hw := fun τ => swrap_calls s (n : Int) τ
  rw [wrap_of_lt hn] at hw
  refine ACalls.of_awp follows (st := st165) (plans := pl165) (n := 11) Tryz.func165 rfl (by kernel_rfl) (by kernel_rfl) (by kernel_rfl) ?_
  simp
  refine callK.of (hsz _ h) ?_
  rintro v σ' ⟨rfl, rfl⟩
  simp
  refine callK.of (hw _) ?_
  rintro v σ' ⟨rfl, rfl⟩
  simp
  refine callK.of (findb_calls h hn) ?_
  rintro v σ' ⟨rfl, rfl⟩
  simp
theorem maxi (z : Int) : (if z < 0 then (0 : Int) else z) = max z 0 := by split <;> omega
def tabS (s : Sp) : Sp := s.place (max (nextS s s.cursor) 0)
def btabS (s : Sp) : Sp := s.place (max (prevS s s.cursor) 0)
set_option maxRecDepth 4000 in
theorem tab_calls {q r : Nat} {s : Sp} {σ : Store} (h : Prg σ q r s) : ACalls Tryz.prog 134 [ptrA q] σ fun v σ' => v = .tuple [] ∧ σ' = putS spO σ q r (tabS s) := by
  have hc := h.good.cursor
  have hcu := cursor_calls h
  have hf := fnext_calls h hc
  have hp := fun k => place_calls h k
  unfold tabS
  generalize nextS s s.cursor = z at *
  have hmx := maxi z
  refine ACalls.of_awp follows (st := st134) (plans := pl134) (n := 9) Tryz.func134 rfl (by kernel_rfl) (by kernel_rfl) (by kernel_rfl) ?_
  simp
  refine callK.of hcu ?_
  rintro v σ' ⟨rfl, rfl⟩
  simp
  refine callK.of hf ?_
  rintro v σ' ⟨rfl, rfl⟩
  simp [hmx]
  refine callK.of (hp _) ?_
  rintro v σ' ⟨rfl, rfl⟩
  simp
set_option maxRecDepth 4000 in
theorem btab_calls {q r : Nat} {s : Sp} {σ : Store} (h : Prg σ q r s) : ACalls Tryz.prog 135 [ptrA q] σ fun v σ' => v = .tuple [] ∧ σ' = putS spO σ q r (btabS s) := by
  have hc := h.good.cursor
  have hcu := cursor_calls h
  have hf := fprev_calls h hc
  have hp := fun k => place_calls h k
  unfold btabS
  generalize prevS s s.cursor = z at *
  have hmx := maxi z
  refine ACalls.of_awp follows (st := st135) (plans := pl135) (n := 9) Tryz.func135 rfl (by kernel_rfl) (by kernel_rfl) (by kernel_rfl) ?_
  simp
  refine callK.of hcu ?_
  rintro v σ' ⟨rfl, rfl⟩
  simp
  refine callK.of hf ?_
  rintro v σ' ⟨rfl, rfl⟩
  simp [hmx]
  refine callK.of (hp _) ?_
  rintro v σ' ⟨rfl, rfl⟩
  simp
def firstN (s : Sp) (n : Nat) : Int := if openS s n = true then n else max (nextS s n) 0
set_option maxRecDepth 4000 in
theorem cfirst_calls {q r : Nat} {s : Sp} {σ : Store} (h : Prg σ q r s) {n : Nat} (hn : n < s.n) : ACalls Tryz.prog 166 [ptrA q, .lit (.int .i64 n)] σ fun v σ' => v = .lit (.int .i64 (firstN s n)) ∧ σ' = σ := by
  have ho := open_calls h hn
  have hsz := size_calls h
  have hw := fun τ => swrap_calls s (n : Int) τ
  rw [wrap_of_lt hn] at hw
  have hf := fnext_calls h hn
  unfold firstN
  generalize nextS s n = z at *
  have hmx := maxi z
  refine ACalls.of_awp follows (st := st166) (plans := pl166) (n := 16) Tryz.func166 rfl (by kernel_rfl) (by kernel_rfl) (by kernel_rfl) ?_
  simp
  refine callK.of ho ?_
  rintro v σ' ⟨rfl, rfl⟩
  cases h1 : openS s n
  · simp
    refine callK.of hf ?_
    rintro v σ' ⟨rfl, rfl⟩
    simp [hmx]
  · simp
    refine callK.of hsz ?_
    rintro v σ' ⟨rfl, rfl⟩
    simp
    refine callK.of (hw _) ?_
    rintro v σ' ⟨rfl, rfl⟩
    simp
def homeS (s : Sp) : Sp := s.place (firstN s 0)
set_option maxRecDepth 4000 in
theorem home_calls {q r : Nat} {s : Sp} {σ : Store} (h : Prg σ q r s) : ACalls Tryz.prog 137 [ptrA q] σ fun v σ' => v = .tuple [] ∧ σ' = putS spO σ q r (homeS s) := by
  have hf := cfirst_calls h s.n_pos
  have hp := fun k => place_calls h k
  unfold homeS
  generalize firstN s 0 = z at *
  refine ACalls.of_awp follows (st := st137) (plans := pl137) (n := 6) Tryz.func137 rfl (by kernel_rfl) (by kernel_rfl) (by kernel_rfl) ?_
  simp
  refine callK.of hf ?_
  rintro v σ' ⟨rfl, rfl⟩
  simp
  refine callK.of (hp _) ?_
  rintro v σ' ⟨rfl, rfl⟩
  simp
theorem lineN_lt {r c : Nat} (h : Dim r c) (n : Int) : lineN r c n < r * c := addrAt_lt h _ _
def newlineS (s : Sp) : Sp := s.place (firstN s (lineN s.rows s.cols s.cursor))
set_option maxRecDepth 4000 in
theorem newline_calls {q r : Nat} {s : Sp} {σ : Store} (h : Prg σ q r s) : ACalls Tryz.prog 136 [ptrA q] σ fun v σ' => v = .tuple [] ∧ σ' = putS spO σ q r (newlineS s) := by
  have hd : Dim s.rows s.cols := dim_of s.model s.alt
  have hl := line_calls hd (s.cursor : Int)
  have hf := cfirst_calls h (lineN_lt hd (s.cursor : Int))
  have hcu := cursor_calls h
  have hsz := size_calls' h
  have hp := fun k => place_calls h k
  unfold newlineS
  generalize firstN s (lineN s.rows s.cols s.cursor) = z at *
  generalize lineN s.rows s.cols s.cursor = y at *
  unfold dimA at *
  refine ACalls.of_awp follows (st := st136) (plans := pl136) (n := 11) Tryz.func136 rfl (by kernel_rfl) (by kernel_rfl) (by kernel_rfl) ?_
  simp
  refine callK.of hsz ?_
  rintro v σ' ⟨rfl, rfl⟩
  simp
  refine callK.of hcu ?_
  rintro v σ' ⟨rfl, rfl⟩
  simp
  refine callK.of (hl _) ?_
  rintro v σ' ⟨rfl, rfl⟩
  simp
  refine callK.of hf ?_
  rintro v σ' ⟨rfl, rfl⟩
  simp
  refine callK.of (hp _) ?_
  rintro v σ' ⟨rfl, rfl⟩
  simp
def moveS (s : Sp) (dr dc : Int) : Sp := s.place (moveN s.rows s.cols s.cursor dr dc)
set_option maxRecDepth 4000 in
theorem cmove_calls {q r : Nat} {s : Sp} {σ : Store} (h : Prg σ q r s) (dr dc : Int) : ACalls Tryz.prog 138 [ptrA q, .lit (.int .i64 dr), .lit (.int .i64 dc)] σ fun v σ' => v = .tuple [] ∧ σ' = putS spO σ q r (moveS s dr dc) := by
  have hd : Dim s.rows s.cols := dim_of s.model s.alt
  have hm := move_calls hd (s.cursor : Int) dr dc
  have hcu := cursor_calls h
  have hsz := size_calls' h
  have hp := fun k => place_calls h k
  unfold moveS
  generalize moveN s.rows s.cols s.cursor dr dc = y at *
  unfold dimA at *
  refine ACalls.of_awp follows (st := st138) (plans := pl138) (n := 15) Tryz.func138 rfl (by kernel_rfl) (by kernel_rfl) (by kernel_rfl) ?_
  simp
  refine callK.of hsz ?_
  rintro v σ' ⟨rfl, rfl⟩
  simp
  refine callK.of hcu ?_
  rintro v σ' ⟨rfl, rfl⟩
  simp
  refine callK.of (hm _) ?_
  rintro v σ' ⟨rfl, rfl⟩
  simp
  refine callK.of (hp _) ?_
  rintro v σ' ⟨rfl, rfl⟩
  simp
end Go.Proofs.YtlmdbcgceijlnaaGreatDoor
