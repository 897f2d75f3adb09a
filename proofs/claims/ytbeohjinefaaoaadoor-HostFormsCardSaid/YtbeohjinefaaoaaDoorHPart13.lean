/-
  sync.Once: what it calls, step by step (turned from the kit's worked Lazy proofs): the lock, the mark, the two calls that are deferred; then doSlow, for any function whose contract is known.
-/
import Derived.Test.YtbeohjinefaaoaaDoorHPart12
import Derived.Tactics
import Derived.Tactics2
import Derived.Defers
import Derived.Laws.Pointers
import Derived.Laws.LoneSync
import Derived.RegionTactic
import Derived.RegionCalls
import Derived.ChangeAlike
set_option linter.unusedSimpArgs false
set_option linter.unusedVariables false
namespace Go.Proofs.YtbeohjinefaaoaaDoor
open Go Go.AL

theorem oDisable (w : World) : (callFunc 88 #[]).run Tryd.prog w = .ok (.value (.tuple #[])) w := run_call_mark0 Tryd.func88 (by kernel_rfl) (by kernel_rfl) (by kernel_rfl) .disable (by kernel_rfl) w
theorem oEnable (w : World) : (callFunc 90 #[]).run Tryd.prog w = .ok (.value (.tuple #[])) w := run_call_mark0 Tryd.func90 (by kernel_rfl) (by kernel_rfl) (by kernel_rfl) .enable (by kernel_rfl) w
theorem oAcquire (a : Addr) (w : World) : (callFunc 91 #[.pointer (some a)]).run Tryd.prog w = .ok (.value (.tuple #[])) w := run_call_marked Tryd.func91 (by kernel_rfl) (by kernel_rfl) (by kernel_rfl) .acquire (by kernel_rfl) a w
theorem oRelease (a : Addr) (w : World) : (callFunc 93 #[.pointer (some a)]).run Tryd.prog w = .ok (.value (.tuple #[])) w := run_call_marked Tryd.func93 (by kernel_rfl) (by kernel_rfl) (by kernel_rfl) .releaseMerge (by kernel_rfl) a w

set_option maxRecDepth 100000 in
theorem oStore (a : Addr) (x : Value) (u : FrameMode) (w : World) (hc : w.cell? a = some x) (hz : w.frozen? a = false) :
    CallsD Tryd.prog 83 #[.pointer (some a), .bool true] u w fun e u' w' => u' = u ∧ (e = .returned (.tuple #[]) ∧ w' = w.drew.setCell a (.int .u32 1)) := by
  have hc' : w.drew.cell? a = some x := by go_simp
  have hz' : w.drew.frozen? a = false := by go_simp
  have hst := run_call_store (P := Tryd.prog) Tryd.func86 (by kernel_rfl) (by kernel_rfl) (by kernel_rfl) (by kernel_rfl) (k := .u32) (y := 1) hc' hz'
  go_enter_d Tryd.func83, Tryd.ntmps83
  go_wp2
  go_region_calls
  all_goals (go_end0; exact ⟨rfl, rfl⟩)

set_option maxRecDepth 100000 in
theorem oUnlock (a : Addr) (u : FrameMode) (w : World) (hc : w.cell? a = some (.int .i32 1)) (hz : w.frozen? a = false) :
    CallsD Tryd.prog 82 #[.pointer (some a)] u w fun e u' w' => u' = u ∧ (e = .returned (.tuple #[]) ∧ w' = w.setCell a (.int .i32 0)) := by
  have hd := oDisable
  have he := oEnable
  have hr := oRelease
  have hadd := run_call_add (P := Tryd.prog) Tryd.func94 (by kernel_rfl) (by kernel_rfl) (by kernel_rfl) .i32 (by kernel_rfl) (y := -1) (s := 0) hc hz (by simp [go_sem]; rfl)
  have hcv := run_convert_to_unsafe (P := Tryd.prog) (src := 176) (dst := 158) Tryd.underlying176 Tryd.underlying158 (by kernel_rfl) hc
  go_enter_d Tryd.func82, Tryd.ntmps82
  go_wp2
  go_end0
  go_wp2
  go_end0
  exact ⟨rfl, rfl⟩

set_option maxRecDepth 100000 in
theorem oLock (a : Addr) (w : World) (hc : w.cell? a = some (.int .i32 0)) (hz : w.frozen? a = false) :
    Calls Tryd.prog 81 #[.pointer (some a)] w fun e w' => e = .returned (.tuple #[]) ∧ w' = w.setCell a (.int .i32 1) := by
  have hd := oDisable
  have he := oEnable
  have ha := oAcquire
  have hcas := run_call_cas_hit (P := Tryd.prog) Tryd.func89 (by kernel_rfl) (by kernel_rfl) (by kernel_rfl) .i32 (by kernel_rfl) (y := 1) hc hz
  have hc' : (w.setCell a (.int .i32 1)).cell? a = some (.int .i32 1) := World.cell?_setCell_same w a _ hc
  have hcv := run_convert_to_unsafe (P := Tryd.prog) (src := 176) (dst := 158) Tryd.underlying176 Tryd.underlying158 (by kernel_rfl) hc'
  go_enter Tryd.func81, Tryd.ntmps81
  go_wp2
  first | go_end0 | (simp only [Exit.inBlock, Exit.then]; refine bodyPost_ret (results_none rfl _ _ _) rfl ?_) | refine bodyPost_ret (results_none rfl _ _ _) rfl ?_
  go_wp2
  go_end0
  exact ⟨rfl, rfl⟩
set_option maxRecDepth 100000 in
set_option maxHeartbeats 1600000 in
theorem oSlow (b : Nat) (w : World) (R : World → Prop) (h0 : w.cell? ⟨b, 1, none⟩ = some (.int .u32 0)) (h1 : w.cell? ⟨b, 2, none⟩ = some (.int .i32 0)) (f1 : w.frozen? ⟨b, 2, none⟩ = false)
    (hin : Calls Tryd.prog 73 #[.pointer (some ⟨b, 0, none⟩)] (w.setCell ⟨b, 2, none⟩ (.int .i32 1)) fun e w' => e = .returned (.tuple #[]) ∧ R w')
    (hR : ∀ w', R w' → w'.cell? ⟨b, 2, none⟩ = some (.int .i32 1) ∧ (∃ x, w'.cell? ⟨b, 1, none⟩ = some x) ∧ w'.frozen? ⟨b, 1, none⟩ = false ∧ w'.frozen? ⟨b, 2, none⟩ = false) :
    Calls Tryd.prog 78 #[.pointer (some ⟨b, 1, none⟩), .func (.func 73) #[.pointer (some ⟨b, 0, none⟩)] #[]] w fun e w' => e = .returned (.tuple #[]) ∧
      ∃ w2, R w2 ∧ w' = (w2.drew.setCell ⟨b, 1, none⟩ (.int .u32 1)).setCell ⟨b, 2, none⟩ (.int .i32 0) := by
  have hl := run_call_load (P := Tryd.prog) Tryd.func80 (by kernel_rfl) (by kernel_rfl) (by kernel_rfl) .u32 (by kernel_rfl) (w := w.setCell ⟨b, 2, none⟩ (.int .i32 1)) (a := ⟨b, 1, none⟩) (x := 0) ((World.cell?_setCell_other _ ⟨b, 2, none⟩ ⟨b, 1, none⟩ _ (by simp)).trans h0)
  have hnot : ∀ (x : Bool) (w : World), (Op.unary .not (.bool x)).run Tryd.prog w = .ok (.bool (!x)) w := fun _ _ => rfl
  go_enter_defers Tryd.func78, Tryd.ntmps78
  go_wp2_with (go_at_call 81; refine (oLock ⟨b, 2, none⟩ _ (by go_simp) (by go_simp)).mono ?_; rintro e w' ⟨rfl, rfl⟩)
  go_in
  go_wp2_with (go_at_call 73; refine hin.mono ?_; rintro e w' ⟨rfl, hw'⟩)
  obtain ⟨q2, ⟨x, q1⟩, z1, z2⟩ := hR _ hw'
  refine leaves_cons (f := 83) (args := #[.pointer (some ⟨b, 1, none⟩), .bool true]) (by simp) (by simp [go_sem]) ?_
  refine (oStore ⟨b, 1, none⟩ x .returning _ q1 z1).mono ?_
  rintro e u' w'' ⟨rfl, rfl, rfl⟩
  refine leaves_cons (f := 82) (args := #[.pointer (some ⟨b, 2, none⟩)]) (by simp [settle]) (by simp [go_sem]) ?_
  refine (oUnlock ⟨b, 2, none⟩ _ _ ?_ (by simp [z2])).mono ?_
  · refine (World.cell?_setCell_other _ ⟨b, 1, none⟩ ⟨b, 2, none⟩ _ (by simp)).trans ?_
    rw [World.cell?_drew]
    exact q2
  rintro e u' w'' ⟨rfl, rfl, rfl⟩
  simp [Leaves, settle, results, Tryd.results78]
  exact ⟨_, hw', rfl⟩
end Go.Proofs.YtbeohjinefaaoaaDoor
/-
  sync.Once as abstract states: a page is built the first time; from then on nothing is done.
-/
namespace Go.Proofs.YtbeohjinefaaoaaDoor
open Go Go.AL

theorem ext_setCell {D : Nat → Prop} {G : Ghost} {w : World} (b i : Nat) (u : Value) (hD : D b) : Ext D G w G (w.setCell ⟨b, i, none⟩ u) :=
  ⟨rfl, rfl, rfl, by simp [World.setCell], fun _ _ _ h => h, fun k hk => ⟨RowKit.Below.heap_setCell w _ u k (fun e => hk (e ▸ hD)), rfl, rfl⟩⟩
/-- A cell of an object that is known. -/
theorem obj_cell {D : Nat → Prop} {G : Ghost} {σ : Store} {w : World} (hW : WR D G σ w) {b : Nat} {cs : List AV} (hb : σ b = some cs) {i : Nat} {v : Value} (hi : cs[i]? = some (.lit v)) : w.cell? ⟨b, i, none⟩ = some v ∧ w.frozen? ⟨b, i, none⟩ = false := by
  obtain ⟨_, _, _, cur, e, hh, hl, hc⟩ := hW.obj b cs hb
  have hlt := (List.getElem?_eq_some_iff.1 hi).1
  have hu : cur[i]? = some (cur[i]'(by omega)) := by simp
  have := (hc i _ _ hi hu).2.1.lit_eq rfl
  refine ⟨?_, by simp [World.frozen?, hh]⟩
  simp [World.cell?, hh, show i < cur.size by omega, this]
theorem pgA_setMu (p : Pgs) (n : Int) : (pgA p).set 2 (.lit (.int .i32 n)) = pgA { p with mu := n } := rfl
theorem pgA_setDone (p : Pgs) (n : Int) : (pgA p).set 1 (.lit (.int .u32 n)) = pgA { p with done := n } := rfl
/-- A page that is built. -/
def Pgs.built (n : Int) (q : Nat) : Pgs := ⟨n, 1, 0, signsF n, .lit (.map (some q))⟩
def Pgs.mid (n : Int) (q : Nat) : Pgs := ⟨n, 0, 1, signsF n, .lit (.map (some q))⟩
def PgTo (b : Nat) (n : Int) (σ σ' : Store) : Prop := ∃ q : Nat, σ (mkey q) = none ∧ σ' = (σ.upd b (pgA (.built n q))).put q (mapA (codesN n 256))
theorem slow_calls (b : Nat) (n : Int) (hn : isPage n) (σ : Store) (hb : σ b = some (pgA (.new n))) :
    ACalls Tryd.prog 78 [.lit (.pointer (some ⟨b, 1, none⟩)), .func (.func 73) [pgP b] []] σ fun v σ' => v = .tuple [] ∧ PgTo b n σ σ' := by
  intro D G w cargs hl hargs hW hfresh
  have hsz : cargs.size = 2 := by simpa using hl.symm
  obtain ⟨c0, c1, rfl⟩ : ∃ c0 c1, cargs = #[c0, c1] := ⟨cargs[0], cargs[1], by
    apply Array.ext
    · simp [hsz]
    · intro i h1 h2
      match i with
      | 0 => rfl
      | 1 => rfl
      | _ + 2 => simp at h2; omega⟩
  have h0 := (hargs 0 _ c0 rfl rfl).1.lit_eq rfl
  have h1 := (hargs 1 _ c1 rfl rfl).1
  subst h0
  obtain rfl : c1 = .func (.func 73) #[.pointer (some ⟨b, 0, none⟩)] #[] := by
    cases h1 with
    | func _ _ _ ufs ucs e1 e2 e3 e4 =>
      have s2 : ucs = #[] := by simpa using e2.symm
      obtain ⟨u, rfl⟩ : ∃ u, ufs = #[u] := ⟨ufs[0]'(by simp at e1; omega), by
        apply Array.ext
        · simpa using e1.symm
        · intro i h1 h2
          match i with
          | 0 => rfl
          | _ + 1 => simp at h2⟩
      have := (e3 0 _ u rfl rfl).lit_eq rfl
      rw [s2, this]
  obtain ⟨hD, _, _, cur, e, hh, hlen, hcells⟩ := hW.obj b _ hb
  obtain ⟨d1, d2⟩ := obj_cell hW hb (i := 1) (v := .int .u32 0) rfl
  obtain ⟨m1, m2⟩ := obj_cell hW hb (i := 2) (v := .int .i32 0) rfl
  have hW1 := hW.setObj hb (i := 2) (by rw [pgA_new_length]; omega) (c := .lit (.int .i32 1)) (u := .int .i32 1) rfl (.lit _) trivial
  rw [pgA_setMu] at hW1
  have hbc := build_calls b { Pgs.new n with mu := 1 } List.length_replicate hn (σ.upd b (pgA { Pgs.new n with mu := 1 })) (by simp)
  have hin := hbc D G (w.setCell ⟨b, 2, none⟩ (.int .i32 1)) #[.pointer (some ⟨b, 0, none⟩)] rfl (fun i c u hc hu => by
    match i with
    | 0 => simp at hc hu; subst hc hu; exact ⟨.lit _, OwnAt.of_plain rfl⟩
    | _ + 1 => simp at hc) hW1 (fun k hk => hfresh k (by simpa [World.setCell] using hk))
  refine (oSlow b w (fun w' => ∃ G' σ', (∃ q : Nat, σ (mkey q) = none ∧ σ' = (σ.upd b (pgA (.mid n q))).put q (mapA (codesN n 256))) ∧ WR D G' σ' w' ∧ Ext D G (w.setCell ⟨b, 2, none⟩ (.int .i32 1)) G' w') d1 m1 m2 (hin.mono ?_) ?_).mono ?_
  · rintro e w' ⟨v, cv, G', σ', rfl, ⟨rfl, q, hq, rfl⟩, hv, _, hW2, hx⟩
    have hcv : cv = .tuple #[] := by
      cases hv with
      | tuple _ us e1 _ => have : us = #[] := by simpa using e1.symm
                           rw [this]
    subst hcv
    exact ⟨rfl, G', _, ⟨q, by simpa using hq, by rw [supd_supd]; rfl⟩, hW2, hx⟩
  · rintro w' ⟨G', σ', ⟨q, hq, rfl⟩, hW2, hx⟩
    have hb2 : ((σ.upd b (pgA (.mid n q))).put q (mapA (codesN n 256))) b = some (pgA (.mid n q)) := by simp
    obtain ⟨x1, x2⟩ := obj_cell hW2 hb2 (i := 1) (v := .int .u32 0) rfl
    obtain ⟨y1, y2⟩ := obj_cell hW2 hb2 (i := 2) (v := .int .i32 1) rfl
    exact ⟨y1, ⟨_, x1⟩, x2, y2⟩
  · rintro e w' ⟨rfl, w2, ⟨G', σ', ⟨q, hq, rfl⟩, hW2, hx⟩, rfl⟩
    have hb2 : ((σ.upd b (pgA (.mid n q))).put q (mapA (codesN n 256))) b = some (pgA (.mid n q)) := by simp
    have hl2 : (pgA (.mid n q)).length = 261 := pgA_length (signsF_length n)
    have hW3 := hW2.drew.setObj hb2 (i := 1) (by omega) (c := .lit (.int .u32 1)) (u := .int .u32 1) rfl (.lit _) trivial
    rw [pgA_setDone] at hW3
    have hW4 := hW3.setObj (o := b) (cs := pgA { Pgs.mid n q with done := 1 }) (by simp) (i := 2) (by rw [pgA_length (signsF_length n)]; omega) (c := .lit (.int .i32 0)) (u := .int .i32 0) rfl (.lit _) trivial
    rw [pgA_setMu, supd_supd] at hW4
    refine ⟨.tuple [], .tuple #[], G', _, rfl, ⟨rfl, q, hq, ?_⟩, .tuple _ _ rfl (by simp), OwnAt.of_plain rfl, hW4, (ext_setCell b 2 _ hD).trans (hx.trans (Ext.drew.trans ((ext_setCell b 1 _ hD).trans (ext_setCell b 2 _ hD))))⟩
    simp
    rfl
end Go.Proofs.YtbeohjinefaaoaaDoor
/-
  What a page is asked: signs and codes, whether it is built yet or not.
-/
namespace Go.Proofs.YtbeohjinefaaoaaDoor
open Go Go.AL

/-- A page in a store: as it was made, or built. -/
def pgS (b : Nat) (n : Int) (x : Option Nat) (σ : Store) : Store := match x with
  | none => σ.upd b (pgA (.new n))
  | some q => (σ.upd b (pgA (.built n q))).put q (mapA (codesN n 256))
theorem pgS_cell (b : Nat) (n : Int) (x : Option Nat) (σ : Store) : (pgS b n x σ) (b : Int) = some (pgA (match x with | none => .new n | some q => .built n q)) := by
  cases x <;> simp [pgS]
@[simp] theorem callable170' : callable Tryd.prog 80 = false := nr (by kernel_rfl)
theorem ext170 (b i : Nat) (d : Int) (cs : List AV) (σ : Store) (hb : σ b = some cs) (hi : cs[i]? = some (.lit (.int .u32 d))) : AExt Tryd.prog 80 [.lit (.pointer (some ⟨b, i, none⟩))] σ fun v σ' => v = .lit (.int .u32 d) ∧ σ' = σ := by
  intro D G w cargs hl hargs hW
  obtain ⟨c0, rfl⟩ : ∃ c0, cargs = #[c0] := ⟨cargs[0]'(by simp at hl; omega), by
    apply Array.ext
    · simpa using hl.symm
    · intro i h1 h2
      match i with
      | 0 => rfl
      | _ + 1 => simp at h2⟩
  have h0 := (hargs 0 _ c0 rfl rfl).lit_eq rfl
  subst h0
  obtain ⟨d1, _⟩ := obj_cell hW hb hi
  exact ⟨_, _, run_call_load (P := Tryd.prog) Tryd.func80 (by kernel_rfl) (by kernel_rfl) (by kernel_rfl) .u32 (by kernel_rfl) d1, rfl, .lit _, rfl, rfl⟩
set_option maxRecDepth 8000 in
theorem oload_calls (b : Nat) (d : Int) (cs : List AV) (σ : Store) (hb : σ b = some cs) (hi : cs[1]? = some (.lit (.int .u32 d))) : ACalls Tryd.prog 77 [.lit (.pointer (some ⟨b, 1, none⟩))] σ fun v σ' => v = .lit (.bool (d != 0)) ∧ σ' = σ := by
  refine ACalls.of_awp follows (st := st77) (plans := pl77) (n := 8) Tryd.func77 rfl (by kernel_rfl) (by kernel_rfl) (by kernel_rfl) ?_
  simp
  refine extK.of (ext170 b 1 d cs σ hb hi) ?_
  rintro v σ1 ⟨rfl, rfl⟩
  simp
/-- The page's map is the one it had, or a new one. -/
def NxP (σ : Store) (x x' : Option Nat) : Prop := x' = x ∨ ∃ g, x' = some g ∧ σ (mkey g) = none
theorem NxP.trans {σ : Store} {x y z : Option Nat} (h : NxP σ x y) (k : NxP σ y z) : NxP σ x z := by
  rcases k with rfl | k
  · exact h
  · exact .inr k
set_option maxRecDepth 8000 in
theorem odo_calls (b : Nat) (n : Int) (hn : isPage n) (x : Option Nat) (σ : Store) : ACalls Tryd.prog 72 [.lit (.pointer (some ⟨b, 1, none⟩)), .func (.func 73) [pgP b] []] (pgS b n x σ) fun v σ' => v = .tuple [] ∧ ∃ q, NxP σ x (some q) ∧ σ' = pgS b n (some q) σ := by
  refine ACalls.of_awp follows (st := st72) (plans := pl72) (n := 12) Tryd.func72 rfl (by kernel_rfl) (by kernel_rfl) (by kernel_rfl) ?_
  cases x with
  | none =>
    have hl := oload_calls b 0 _ (pgS b n none σ) (pgS_cell b n none σ) rfl
    have hs := slow_calls b n hn (pgS b n none σ) (pgS_cell b n none σ)
    simp
    refine callK.of hl ?_
    rintro v σ1 ⟨rfl, rfl⟩
    simp
    refine callK.of hs ?_
    rintro v σ1 ⟨rfl, q, hq, rfl⟩
    simp
    refine ⟨_, AV.le_refl _, _, Store.sub_refl _, rfl, q, .inr ⟨q, rfl, by simpa [pgS] using hq⟩, ?_⟩
    unfold pgS
    dsimp only
    rw [supd_supd]
  | some q =>
    have hl := oload_calls b 1 _ (pgS b n (some q) σ) (pgS_cell b n (some q) σ) rfl
    simp
    refine callK.of hl ?_
    rintro v σ1 ⟨rfl, rfl⟩
    simp
    exact ⟨_, AV.le_refl _, _, Store.sub_refl _, rfl, q, .inl rfl, rfl⟩
set_option maxRecDepth 8000 in
theorem built_calls (b : Nat) (n : Int) (hn : isPage n) (x : Option Nat) (σ : Store) : ACalls Tryd.prog 63 [pgP b] (pgS b n x σ) fun v σ' => v = pgP b ∧ ∃ q, NxP σ x (some q) ∧ σ' = pgS b n (some q) σ := by
  refine ACalls.of_awp follows (st := st63) (plans := pl63) (n := 10) Tryd.func63 rfl (by kernel_rfl) (by kernel_rfl) (by kernel_rfl) ?_
  simp
  refine callK.of (odo_calls b n hn x σ) ?_
  rintro v σ1 ⟨rfl, q, nx, rfl⟩
  simp
  exact ⟨_, AV.le_refl _, _, Store.sub_refl _, rfl, q, nx, rfl⟩
set_option maxRecDepth 8000 in
theorem code_calls (b : Nat) (n : Int) (hn : isPage n) (x : Option Nat) (s : Int) (σ : Store) : ACalls Tryd.prog 55 [pgP b, .lit (.int .i32 s)] (pgS b n x σ) fun v σ' => v = .tuple [.lit (.int .u8 (((codeIx n s).getD 0 : Nat) : Int)), .lit (.bool (codeIx n s).isSome)] ∧ ∃ q, NxP σ x (some q) ∧ σ' = pgS b n (some q) σ := by
  refine ACalls.of_awp follows (st := st55) (plans := pl55) (n := 23) Tryd.func55 rfl (by kernel_rfl) (by kernel_rfl) (by kernel_rfl) ?_
  simp
  refine callK.of (built_calls b n hn x σ) ?_
  rintro v σ1 ⟨rfl, q, nx, rfl⟩
  have hcell := pgS_cell b n (some q) σ
  dsimp only at hcell
  have hpl := pgA_length (p := Pgs.built n q) (signsF_length n)
  have hcd := pgA_cd (p := Pgs.built n q) (signsF_length n)
  have e : (Pgs.built n q).cd = .lit (.map (some q)) := rfl
  rw [e] at hcd
  have hcd : ∀ h : 260 < (pgA (.built n q)).length, (pgA (.built n q))[260]'h = .lit (.map (some q)) := fun h => by
    rw [List.getElem?_eq_getElem h] at hcd
    exact Option.some.inj hcd
  have hmap : (pgS b n (some q) σ) (mkey q) = some (mapA (codesN n 256)) := by simp [pgS]
  have hget := get_codes Tryd.prog 5 n s zeroV85_5
  simp [hcell, hpl, hcd, hmap, hget]
  cases hx : codeIx n s with
  | none =>
    simp
    exact ⟨_, AV.le_refl _, _, Store.sub_refl _, rfl, q, nx, rfl⟩
  | some j =>
    simp
    exact ⟨_, AV.le_refl _, _, Store.sub_refl _, rfl, q, nx, rfl⟩
set_option maxRecDepth 8000 in
theorem page_new (n : Int) (hn : isPage n) (σ : Store) : ACalls Tryd.prog 7 [.lit (.int .i64 n)] σ fun v σ' => ∃ b : Nat, σ b = none ∧ v = .tuple [pgP b, .lit (.int .i64 0)] ∧ σ' = pgS b n none σ := by
  have hoth := fun τ => others_calls n τ
  rw [decide_eq_true hn] at hoth
  refine ACalls.of_awp follows (st := st7) (plans := pl7) (n := 16) Tryd.func7 rfl (by kernel_rfl) (by kernel_rfl) (by kernel_rfl) ?_
  simp
  refine callK.of (hoth _) ?_
  rintro v σ1 ⟨rfl, rfl⟩
  have hpl := pgA_new_length 0
  have hset := pgA_new_set n
  have hpl2 := pgA_new_length n
  simp [hpl, hset]
  intro b hb
  exact ⟨_, AV.le_refl _, _, Store.sub_refl _, b, hb, rfl, rfl⟩
end Go.Proofs.YtbeohjinefaaoaaDoor
/-
  Pointers.
-/
namespace Go.Proofs.YtbeohjinefaaoaaDoor
open Go Go.AL
abbrev ptrA (o : Nat) : AV := .lit (.pointer (some ⟨o, 0, none⟩))
@[simp] theorem byteA_share (b : UInt8) : (byteA b).share = byteA b := nr rfl
@[simp] theorem byteA_drop1 (b : UInt8) : (byteA b).drop1 = byteA b := nr rfl
@[simp] theorem byteA_keep1 (b : UInt8) : (byteA b).keep1 = byteA b := nr rfl
@[simp] theorem byteA_cells (b : UInt8) : (byteA b).cells = [byteA b] := nr rfl
@[simp] theorem byteA_one (b : UInt8) : (byteA b).one = true := nr rfl
@[simp] theorem byteA_solid (b : UInt8) : (byteA b).solid = true := nr rfl
@[simp] theorem byteA_conv (P : Program) (t : TypeId) (b : UInt8) : conv P t (byteA b) = byteA b := nr rfl
end Go.Proofs.YtbeohjinefaaoaaDoor
/-
  The screen as the document has it: cells, fields; in plain Lean.
-/
namespace Go.Sp

structure Cell where
  char : UInt8 := 0
  attr : Bool := false
  fa : UInt8 := 0
  high : UInt8 := 0
  color : UInt8 := 0
  set : UInt8 := 0
  deriving DecidableEq, Inhabited
def Cell.zero : Cell := {}
/-- Six bits of an attribute, without the one that means nothing. -/
def six (b : UInt8) : UInt8 := b &&& 0x3d
def fit (c : Cell) : Cell := if c.attr = true then { c with char := 0, fa := six c.fa } else { c with fa := 0 }
theorem six_six (b : UInt8) : six (six b) = six b := by simp [six, UInt8.and_assoc]
theorem fit_fit (c : Cell) : fit (fit c) = fit c := by
  unfold fit
  by_cases h : c.attr = true <;> simp [h, six_six]
def fitted (c : Cell) : Prop := fit c = c
theorem fitted_fit (c : Cell) : fitted (fit c) := fit_fit c
theorem fitted_zero : fitted .zero := rfl

/-- The place of a number. -/
def wrap (n : Nat) (k : Int) : Nat := (k % (n : Int)).toNat
theorem wrap_lt {n : Nat} (h : 0 < n) (k : Int) : wrap n k < n := by
  unfold wrap
  have h1 := Int.emod_nonneg k (show (n : Int) ≠ 0 by omega)
  have h2 := Int.emod_lt_of_pos k (show (0 : Int) < n by omega)
  omega
/-- Rows and columns of a model, of the usual size or of its own. -/
def dims (model : Nat) (alt : Bool) : Nat × Nat := if alt = true then (if model = 3 then (32, 80) else if model = 4 then (43, 80) else if model = 5 then (27, 132) else (24, 80)) else (24, 80)
structure Sp where
  model : Nat
  alt : Bool
  cells : List Cell
  cursor : Nat
def Sp.rows (s : Sp) : Nat := (dims s.model s.alt).1
def Sp.cols (s : Sp) : Nat := (dims s.model s.alt).2
def Sp.n (s : Sp) : Nat := s.rows * s.cols
structure Sp.good (s : Sp) : Prop where
  model : 2 ≤ s.model ∧ s.model ≤ 5
  len : s.cells.length = s.n
  cursor : s.cursor < s.n
  fit : ∀ c ∈ s.cells, fitted c
theorem dims_bound (m : Nat) (a : Bool) : 24 ≤ (dims m a).1 ∧ (dims m a).1 ≤ 43 ∧ 80 ≤ (dims m a).2 ∧ (dims m a).2 ≤ 132 ∧ 1920 ≤ (dims m a).1 * (dims m a).2 ∧ (dims m a).1 * (dims m a).2 ≤ 3564 := by
  unfold dims
  cases a <;> simp
  (repeat' split) <;> simp
theorem Sp.n_pos (s : Sp) : 0 < s.n := by have := dims_bound s.model s.alt; unfold Sp.n Sp.rows Sp.cols; omega
def Sp.clear (s : Sp) (alt : Bool) : Sp := { s with alt := alt, cells := List.replicate ((dims s.model alt).1 * (dims s.model alt).2) .zero, cursor := 0 }
def Sp.new (model : Nat) : Sp := Sp.clear ⟨model, false, [], 0⟩ false
def Sp.at (s : Sp) (k : Int) : Cell := s.cells[wrap s.n k]?.getD .zero
def Sp.put1 (s : Sp) (i : Nat) (c : Cell) : Sp := { s with cells := s.cells.set i c }
def Sp.set (s : Sp) (k : Int) (c : Cell) : Sp := s.put1 (wrap s.n k) (Sp.fit c)
def Sp.put (s : Sp) (k : Int) (code : UInt8) : Sp := if (s.at k).attr = true then s else s.set k { s.at k with char := code }
def Sp.place (s : Sp) (k : Int) : Sp := { s with cursor := wrap s.n k }
/-- How many attributes. -/
def Sp.count (s : Sp) : Nat := s.cells.countP (·.attr)
def Sp.attrs (s : Sp) : List Nat := (List.range s.cells.length).filter fun i => (s.cells[i]?.getD .zero).attr
theorem Sp.clear_good {s : Sp} (h : 2 ≤ s.model ∧ s.model ≤ 5) (alt : Bool) : (s.clear alt).good := by
  have := dims_bound s.model alt
  refine ⟨h, by simp [Sp.clear, Sp.n, Sp.rows, Sp.cols], ?_, fun c hc => ?_⟩
  · show 0 < (dims s.model alt).1 * (dims s.model alt).2; omega
  · simp [Sp.clear] at hc; rw [hc.2]; exact fitted_zero
theorem Sp.n_put1 (s : Sp) (i : Nat) (c : Cell) : (s.put1 i c).n = s.n := rfl
theorem Sp.good.put1 {s : Sp} (h : s.good) (i : Nat) {c : Cell} (hc : fitted c) : (s.put1 i c).good := by
  refine ⟨h.model, by rw [Sp.n_put1]; simp [Sp.put1, h.len], h.cursor, fun d hd => ?_⟩
  rcases List.mem_or_eq_of_mem_set hd with h' | h'
  · exact h.fit d h'
  · rw [h']; exact hc
theorem Sp.good.set {s : Sp} (h : s.good) (k : Int) (c : Cell) : (s.set k c).good := Sp.good.put1 h _ (fitted_fit c)
theorem Sp.good.place {s : Sp} (h : s.good) (k : Int) : (s.place k).good := ⟨h.model, h.len, wrap_lt s.n_pos k, h.fit⟩
theorem Sp.good.put {s : Sp} (h : s.good) (k : Int) (code : UInt8) : (s.put k code).good := by
  unfold Sp.put; split
  · exact h
  · exact Sp.good.set h _ _

/-! ### Ways to make a screen -/
structure Act where
  what : UInt8
  n : Int
  on : Bool
  code : UInt8
  c : Cell
  text : List UInt8
def putAll (s : Sp) (k : Int) : Nat → List UInt8 → Sp
  | _, [] => s
  | i, c :: l => putAll (s.put (k + i) c) k (i + 1) l
def Sp.act (s : Sp) (a : Act) : Sp :=
  if a.what.toNat % 6 = 0 then s.clear a.on else if a.what.toNat % 6 = 1 then s.place a.n else if a.what.toNat % 6 = 2 then s.put a.n a.code else
  if a.what.toNat % 6 = 3 then s.set a.n { attr := true, fa := a.code } else if a.what.toNat % 6 = 4 then s.set a.n a.c else putAll s (wrap s.n a.n) 0 (a.text.take 200)
theorem putAll_good (k : Int) : ∀ (l : List UInt8) (i : Nat) {s : Sp}, s.good → (putAll s k i l).good
  | [], _, _, h => h
  | _ :: l, i, _, h => putAll_good k l (i + 1) (Sp.good.put h _ _)
theorem Sp.good.act {s : Sp} (h : s.good) (a : Act) : (s.act a).good := by
  unfold Sp.act
  (repeat' split)
  · exact Sp.clear_good h.model _
  · exact h.place _
  · exact Sp.good.put h _ _
  · exact Sp.good.set h _ _
  · exact Sp.good.set h _ _
  · exact putAll_good _ _ _ h
def lays (model : UInt8) (acts : List Act) : Sp := (acts.take 30).foldl Sp.act (Sp.new (2 + model.toNat % 4))
end Go.Sp
/-
  Fields of the screen, as the document has them and as one goes from place to place; in plain Lean.
-/
namespace Go.Sp

def attrAt (l : List Cell) (i : Nat) : Bool := (l[i]?.getD .zero).attr
/-- The last attribute ahead of m, or what there was. -/
def lastA (l : List Cell) (init : Int) : Nat → Int
  | 0 => init
  | m + 1 => if attrAt l m = true then (m : Int) else lastA l init m
/-- Of each place the place of its field's attribute. -/
def startS (l : List Cell) (n : Nat) : Int := lastA l (lastA l (-1) l.length) (n + 1)
/-- The places of the field behind an attribute: as many as come ahead of the next one. -/
def run (l : List Cell) (a : Nat) : Nat → Nat
  | 0 => 0
  | m + 1 => if run l a m = m ∧ attrAt l ((a + m + 1) % l.length) = false then m + 1 else run l a m
def len (l : List Cell) (a : Nat) : Nat := run l a (l.length - 1)
def places (l : List Cell) (a : Nat) : List Nat := (List.range (len l a)).map fun i => (a + i + 1) % l.length
/-- The cells behind a place, once round. -/
def rot (l : List Cell) (a : Nat) : List Cell := l.drop (a + 1) ++ l.take a
def fieldCells (l : List Cell) (a : Nat) : List Cell := (rot l a).takeWhile fun c => !c.attr
/-! ### What is told of fields -/
def Sp.modified (s : Sp) : List Nat := s.attrs.filter fun a => (s.cells[a]?.getD .zero).fa &&& 1 == 1
end Go.Sp
/-
  Sizes of screens, places, models: the program's and the document's.
-/
namespace Go.Proofs.YtbeohjinefaaoaaDoor
open Go Go.AL Go.Sp

/-- Rows and columns, as they may be. -/
structure Dim (r c : Nat) : Prop where
  r1 : 1 ≤ r
  r2 : r ≤ 43
  c1 : 1 ≤ c
  c2 : c ≤ 132
  m : r * c ≤ 3564
  p : 0 < r * c
theorem mul_wrap {r c : Nat} (h : Dim r c) : IntKind.i64.wrap ((r : Int) * (c : Int)) = ((r * c : Nat) : Int) := by
  have := h.m
  rw [← Int.natCast_mul, wrap_i64 (by omega) (by omega)]
def dimA (r c : Nat) : AV := .agg [.lit (.int .i64 r), .lit (.int .i64 c)]

theorem tmod_wrap (n : Int) (m : Nat) (h : 0 < m) : n.tmod m = (wrap m n : Int) - if n.tmod m < 0 then (m : Int) else 0 := by
  unfold wrap
  have h1 := Int.emod_nonneg n (show (m : Int) ≠ 0 by omega)
  have h2 := Int.emod_lt_of_pos n (show (0 : Int) < m by omega)
  have h3 := Int.tmod_eq_emod (a := n) (b := m)
  have h4 : ((n % (m : Int)).toNat : Int) = n % m := Int.toNat_of_nonneg h1
  rw [h4]
  rw [h3]
  split
  · simp; omega
  · rename_i hc
    have h5 : ¬ n % (m : Int) = 0 := fun he => hc (.inr (Int.dvd_of_emod_eq_zero he))
    have h6 : (m : Int).natAbs = m := by simp
    rw [h6]
    rw [if_pos (by omega)]

set_option maxRecDepth 4000 in
theorem rest_calls (n : Int) (m : Nat) (h : 0 < m) (hm : m ≤ 1000000) (σ : Store) : ACalls Tryd.prog 45 [.lit (.int .i64 n), .lit (.int .i64 m)] σ fun v σ' => v = .lit (.int .i64 (wrap m n)) ∧ σ' = σ := by
  have ht := tmod_wrap n m h
  have hw := wrap_lt h n
  have h0 : ¬ m = 0 := by omega
  refine ACalls.of_awp follows (st := st45) (plans := pl45) (n := 14) Tryd.func45 rfl (by kernel_rfl) (by kernel_rfl) (by kernel_rfl) ?_
  by_cases hc : n.tmod m < 0
  · rw [if_pos hc] at ht
    have hs : IntKind.i64.wrap (n.tmod m + (m : Int)) = (wrap m n : Int) := by rw [wrap_i64 (by omega) (by omega)]; omega
    simp [h0, hc, hs]
  · rw [if_neg hc] at ht
    have hs : n.tmod m = (wrap m n : Int) := by omega
    rw [hs] at hc
    simp [h0, hc, hs]

set_option maxRecDepth 4000 in
theorem valid_calls {r c : Nat} (h : Dim r c) (σ : Store) : ACalls Tryd.prog 17 [dimA r c] σ fun v σ' => v = .lit (.bool true) ∧ σ' = σ := by
  have hm := mul_wrap h
  obtain ⟨h1, h2, h3, h4, h5, h6⟩ := h
  have k1 : (1 : Int) ≤ r := by omega
  have k2 : (r : Int) ≤ 43 := by omega
  have k3 : (1 : Int) ≤ c := by omega
  have k4 : (c : Int) ≤ 132 := by omega
  have k5 : (((r * c : Nat) : Int)) ≤ 3564 := by omega
  generalize r * c = m at *
  refine ACalls.of_awp follows (st := st17) (plans := pl17) (n := 29) Tryd.func17 rfl (by kernel_rfl) (by kernel_rfl) (by kernel_rfl) ?_
  simp +contextual [dimA, k1, k2, k3, k4, k5, hm]
end Go.Proofs.YtbeohjinefaaoaaDoor
/-
  The document's sizes, places, models; its six bits.
-/
namespace Go.Proofs.YtbeohjinefaaoaaDoor
open Go Go.AL Go.Sp

theorem tmod_abs (n : Int) (m : Nat) (h : 0 < m) : -(m : Int) < n.tmod m ∧ n.tmod m < m := by
  have h1 : (n.tmod m).natAbs = n.natAbs % m := by rw [Int.natAbs_tmod]; simp
  have h2 := Nat.mod_lt n.natAbs h
  omega
set_option maxRecDepth 4000 in
theorem rmod_calls (n : Int) (m : Nat) (h : 0 < m) (hm : m ≤ 1000000) (σ : Store) : ACalls Tryd.prog 28 [.lit (.int .i64 n), .lit (.int .i64 m)] σ fun v σ' => v = .lit (.int .i64 (wrap m n)) ∧ σ' = σ := by
  have ht := tmod_abs n m h
  have h0 : ¬ m = 0 := by omega
  have h1 : ¬ (m : Int) < 1 := by omega
  have hs : IntKind.i64.wrap (n.tmod m + (m : Int)) = n.tmod m + m := wrap_i64 (by omega) (by omega)
  have he : (n.tmod m + (m : Int)).tmod m = (wrap m n : Int) := by
    have h2 := tmod_wrap n m h
    have h3 := wrap_lt h n
    rw [Int.tmod_eq_emod_of_nonneg (by omega)]
    split at h2
    · rw [h2, show ((wrap m n : Int) - m + m) = (wrap m n : Int) by omega]
      exact Int.emod_eq_of_lt (by omega) (by omega)
    · rw [h2, show ((wrap m n : Int) - 0 + m) = (wrap m n : Int) + m by omega, Int.add_emod_right]
      exact Int.emod_eq_of_lt (by omega) (by omega)
  refine ACalls.of_awp follows (st := st28) (plans := pl28) (n := 14) Tryd.func28 rfl (by kernel_rfl) (by kernel_rfl) (by kernel_rfl) ?_
  simp [h0, h1, hs, he]
set_option maxRecDepth 4000 in
theorem rvalid_calls {r c : Nat} (h : Dim r c) (σ : Store) : ACalls Tryd.prog 22 [dimA r c] σ fun v σ' => v = .lit (.bool true) ∧ σ' = σ := by
  have hm := mul_wrap h
  obtain ⟨h1, h2, h3, h4, h5, h6⟩ := h
  have k1 : (1 : Int) ≤ r := by omega
  have k2 : (r : Int) ≤ 43 := by omega
  have k3 : (1 : Int) ≤ c := by omega
  have k4 : (c : Int) ≤ 132 := by omega
  have k5 : (((r * c : Nat) : Int)) ≤ 3564 := by omega
  generalize r * c = m at *
  refine ACalls.of_awp follows (st := st22) (plans := pl22) (n := 29) Tryd.func22 rfl (by kernel_rfl) (by kernel_rfl) (by kernel_rfl) ?_
  simp +contextual [dimA, k1, k2, k3, k4, k5, hm]
@[simp] theorem wr3 : IntKind.i64.wrap 3 = 3 := by decide
/-! ### Models -/
def dimM (m : Nat) : AV := dimA (dims m true).1 (dims m true).2
end Go.Proofs.YtbeohjinefaaoaaDoor
/-
  Field attributes' bits: the program's and the document's.
-/
namespace Go.Proofs.YtbeohjinefaaoaaDoor
open Go Go.AL Go.Sp

structure Fld where
  prot : Bool
  num : Bool
  disp : Nat
  mod : Bool
  deriving DecidableEq
def fld (b : UInt8) : Fld := ⟨b &&& 0x20 != 0, b &&& 0x10 != 0, (b.toNat / 4) % 4, b &&& 1 == 1⟩
def fldA (f : Fld) : AV := .agg [.lit (.bool f.prot), .lit (.bool f.num), .lit (.int .i64 f.disp), .lit (.bool f.mod)]
def bitsN (f : Fld) : Nat := 4 * f.disp + (if f.prot = true then 32 else 0) + (if f.num = true then 16 else 0) + (if f.mod = true then 1 else 0)
end Go.Proofs.YtbeohjinefaaoaaDoor
/-
  The document's signs and codes.
-/
namespace Go.Proofs.YtbeohjinefaaoaaDoor
open Go Go.AL

def digN (b : UInt8) : Nat := if 97 ≤ b.toNat then (b - 97).toNat + 10 else (b - 48).toNat
def numTo (s : ByteArray) : Nat → Nat
  | 0 => 0
  | k + 1 => 16 * numTo s k + digN (s.data[k]?.getD 0)
theorem digN_le (b : UInt8) : digN b ≤ 265 := all_bytes (p := fun b => digN b ≤ 265) (by decide +kernel) b
theorem numTo_le (s : ByteArray) (k : Nat) (h : k ≤ 4) : numTo s k ≤ 1200000 := by
  have hd := fun j : Nat => digN_le (s.data[j]?.getD 0)
  have h1 : numTo s 1 ≤ 265 := by have := hd 0; simp only [numTo]; omega
  have h2 : numTo s 2 ≤ 4505 := by have := hd 1; rw [numTo]; omega
  have h3 : numTo s 3 ≤ 72345 := by have := hd 2; rw [numTo]; omega
  have h4 : numTo s 4 ≤ 1157785 := by have := hd 3; rw [numTo]; omega
  rcases (by omega : k = 0 ∨ k = 1 ∨ k = 2 ∨ k = 3 ∨ k = 4) with rfl | rfl | rfl | rfl | rfl
  · simp [numTo]
  all_goals omega
theorem sub48 (b : UInt8) : IntKind.u8.wrap ((b.toNat : Int) - 48) = ((b - 48).toNat : Int) := all_bytes (p := fun b => IntKind.u8.wrap ((b.toNat : Int) - 48) = ((b - 48).toNat : Int)) (by decide +kernel) b
theorem sub97 (b : UInt8) : IntKind.u8.wrap ((b.toNat : Int) - 97) = ((b - 97).toNat : Int) := all_bytes (p := fun b => IntKind.u8.wrap ((b.toNat : Int) - 97) = ((b - 97).toNat : Int)) (by decide +kernel) b
set_option maxRecDepth 8000 in
theorem num_calls (s : ByteArray) (hs : s.size ≤ 4) (σ : Store) : ACalls Tryd.prog 50 [.lit (.string s)] σ fun v σ' => v = .lit (.int .i64 (numTo s s.size : Nat)) ∧ σ' = σ := by
  refine ACalls.of_awp follows (st := st50) (plans := pl50) (n := 32) Tryd.func50 rfl (by kernel_rfl) (by kernel_rfl) (by kernel_rfl) ?_
  simp
  refine codeK.loop follows (st := st50) (plans := pl50) (X := Nat) (fun k => k ≤ s.size)
    (fun k => [(0, .lit (.string s)), (3, .lit (.int .i64 (numTo s k : Nat))), (4, .lit (.int .i64 k))]) (fun _ => σ) (fun k => s.size - k) 0 (by kernel_rfl) (by simp) (by simp [numTo]) (Store.sub_refl _) fun k hk => ?_
  by_cases hlt : k < s.size
  · have hle := numTo_le s k (by omega)
    have hle2 := numTo_le s (k + 1) (by omega)
    have hk1 : IntKind.i64.wrap ((k : Int) + 1) = ((k + 1 : Nat) : Int) := wrap_i64 (by omega) (by omega)
    have hdl : k < s.data.size := hlt
    have hs2 : numTo s (k + 1) = 16 * numTo s k + digN s.data[k] := by rw [numTo, Array.getElem?_eq_getElem hdl]; rfl
    have hm : IntKind.i64.wrap (16 * (numTo s k : Int)) = ((16 * numTo s k : Nat) : Int) := wrap_i64 (by omega) (by omega)
    have hlt2 := (s.data[k]).toNat_lt
    simp [hlt]
    generalize s.data[k] = b at *
    have d1 := sub48 b
    have d2 := sub97 b
    have l1 := (b - 48).toNat_lt
    have l2 := (b - 97).toNat_lt
    unfold digN at hs2
    split
    · next h97 =>
      rw [if_pos (by omega)] at hs2
      have hw : IntKind.i64.wrap (IntKind.i64.wrap (16 * (numTo s k : Int)) + IntKind.i64.wrap (IntKind.i64.wrap (IntKind.u8.wrap ((b.toNat : Int) - 97)) + 10)) = (numTo s (k + 1) : Nat) := by
        rw [hm, d2, wrap_i64 (n := ((b - 97).toNat : Int)) (by omega) (by omega), wrap_i64 (n := ((b - 97).toNat : Int) + 10) (by omega) (by omega), wrap_i64 (by omega) (by omega), hs2]
        omega
      exact ⟨k + 1, by omega, by omega, by rw [hw]; exact AV.le_refl _, by rw [hk1]; exact AV.le_refl _⟩
    · next h97 =>
      rw [if_neg (by omega)] at hs2
      have hw : IntKind.i64.wrap (IntKind.i64.wrap (16 * (numTo s k : Int)) + IntKind.i64.wrap (IntKind.u8.wrap ((b.toNat : Int) - 48))) = (numTo s (k + 1) : Nat) := by
        rw [hm, d1, wrap_i64 (n := ((b - 48).toNat : Int)) (by omega) (by omega), wrap_i64 (by omega) (by omega), hs2]
        omega
      exact ⟨k + 1, by omega, by omega, by rw [hw]; exact AV.le_refl _, by rw [hk1]; exact AV.le_refl _⟩
  · obtain rfl : k = s.size := by omega
    simp [hlt]
end Go.Proofs.YtbeohjinefaaoaaDoor
