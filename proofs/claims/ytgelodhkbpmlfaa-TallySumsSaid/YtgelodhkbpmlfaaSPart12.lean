/-
  sync.Once: what it calls, step by step (turned from the kit's worked Lazy proofs): the lock, the mark, the two calls that are deferred; then doSlow, for any function whose contract is known.
-/
import Derived.Test.YtgelodhkbpmlfaaSPart11
import Derived.Tactics
import Derived.Tactics2
import Derived.Defers
import Derived.Laws.Pointers
import Derived.Laws.LoneSync
import Derived.RegionTactic
import Derived.RegionCalls
import Derived.ChangeAlike
set_option linter.unusedSimpArgs false
set_option linter.unusedVariables false
namespace Go.Proofs.Ytgelodhkbpmlfaa
open Go Go.AL

theorem oDisable (w : World) : (callFunc 73 #[]).run Try.prog w = .ok (.value (.tuple #[])) w := run_call_mark0 Try.func73 (by kernel_rfl) (by kernel_rfl) (by kernel_rfl) .disable (by kernel_rfl) w
theorem oEnable (w : World) : (callFunc 75 #[]).run Try.prog w = .ok (.value (.tuple #[])) w := run_call_mark0 Try.func75 (by kernel_rfl) (by kernel_rfl) (by kernel_rfl) .enable (by kernel_rfl) w
theorem oAcquire (a : Addr) (w : World) : (callFunc 76 #[.pointer (some a)]).run Try.prog w = .ok (.value (.tuple #[])) w := run_call_marked Try.func76 (by kernel_rfl) (by kernel_rfl) (by kernel_rfl) .acquire (by kernel_rfl) a w
theorem oRelease (a : Addr) (w : World) : (callFunc 78 #[.pointer (some a)]).run Try.prog w = .ok (.value (.tuple #[])) w := run_call_marked Try.func78 (by kernel_rfl) (by kernel_rfl) (by kernel_rfl) .releaseMerge (by kernel_rfl) a w

set_option maxRecDepth 100000 in
theorem oStore (a : Addr) (x : Value) (u : FrameMode) (w : World) (hc : w.cell? a = some x) (hz : w.frozen? a = false) :
    CallsD Try.prog 61 #[.pointer (some a), .bool true] u w fun e u' w' => u' = u ∧ (e = .returned (.tuple #[]) ∧ w' = w.drew.setCell a (.int .u32 1)) := by
  have hc' : w.drew.cell? a = some x := by go_simp
  have hz' : w.drew.frozen? a = false := by go_simp
  have hst := run_call_store (P := Try.prog) Try.func70 (by kernel_rfl) (by kernel_rfl) (by kernel_rfl) (by kernel_rfl) (k := .u32) (y := 1) hc' hz'
  go_enter_d Try.func61, Try.ntmps61
  go_wp2
  go_region_calls
  all_goals (go_end0; exact ⟨rfl, rfl⟩)

set_option maxRecDepth 100000 in
theorem oUnlock (a : Addr) (u : FrameMode) (w : World) (hc : w.cell? a = some (.int .i32 1)) (hz : w.frozen? a = false) :
    CallsD Try.prog 60 #[.pointer (some a)] u w fun e u' w' => u' = u ∧ (e = .returned (.tuple #[]) ∧ w' = w.setCell a (.int .i32 0)) := by
  have hd := oDisable
  have he := oEnable
  have hr := oRelease
  have hadd := run_call_add (P := Try.prog) Try.func79 (by kernel_rfl) (by kernel_rfl) (by kernel_rfl) .i32 (by kernel_rfl) (y := -1) (s := 0) hc hz (by simp [go_sem]; rfl)
  have hcv := run_convert_to_unsafe (P := Try.prog) (src := 118) (dst := 122) Try.underlying118 Try.underlying122 (by kernel_rfl) hc
  go_enter_d Try.func60, Try.ntmps60
  go_wp2
  go_end0
  go_wp2
  go_end0
  exact ⟨rfl, rfl⟩

set_option maxRecDepth 100000 in
theorem oLock (a : Addr) (w : World) (hc : w.cell? a = some (.int .i32 0)) (hz : w.frozen? a = false) :
    Calls Try.prog 59 #[.pointer (some a)] w fun e w' => e = .returned (.tuple #[]) ∧ w' = w.setCell a (.int .i32 1) := by
  have hd := oDisable
  have he := oEnable
  have ha := oAcquire
  have hcas := run_call_cas_hit (P := Try.prog) Try.func74 (by kernel_rfl) (by kernel_rfl) (by kernel_rfl) .i32 (by kernel_rfl) (y := 1) hc hz
  have hc' : (w.setCell a (.int .i32 1)).cell? a = some (.int .i32 1) := World.cell?_setCell_same w a _ hc
  have hcv := run_convert_to_unsafe (P := Try.prog) (src := 118) (dst := 122) Try.underlying118 Try.underlying122 (by kernel_rfl) hc'
  go_enter Try.func59, Try.ntmps59
  go_wp2
  first | go_end0 | (simp only [Exit.inBlock, Exit.then]; refine bodyPost_ret (results_none rfl _ _ _) rfl ?_) | refine bodyPost_ret (results_none rfl _ _ _) rfl ?_
  go_wp2
  go_end0
  exact ⟨rfl, rfl⟩
set_option maxRecDepth 100000 in
set_option maxHeartbeats 1600000 in
theorem oSlow (b : Nat) (w : World) (R : World → Prop) (h0 : w.cell? ⟨b, 2, none⟩ = some (.int .u32 0)) (h1 : w.cell? ⟨b, 3, none⟩ = some (.int .i32 0)) (f1 : w.frozen? ⟨b, 3, none⟩ = false)
    (hin : Calls Try.prog 37 #[.pointer (some ⟨b, 0, none⟩)] (w.setCell ⟨b, 3, none⟩ (.int .i32 1)) fun e w' => e = .returned (.tuple #[]) ∧ R w')
    (hR : ∀ w', R w' → w'.cell? ⟨b, 3, none⟩ = some (.int .i32 1) ∧ (∃ x, w'.cell? ⟨b, 2, none⟩ = some x) ∧ w'.frozen? ⟨b, 2, none⟩ = false ∧ w'.frozen? ⟨b, 3, none⟩ = false) :
    Calls Try.prog 46 #[.pointer (some ⟨b, 2, none⟩), .func (.func 37) #[.pointer (some ⟨b, 0, none⟩)] #[]] w fun e w' => e = .returned (.tuple #[]) ∧
      ∃ w2, R w2 ∧ w' = (w2.drew.setCell ⟨b, 2, none⟩ (.int .u32 1)).setCell ⟨b, 3, none⟩ (.int .i32 0) := by
  have hl := run_call_load (P := Try.prog) Try.func58 (by kernel_rfl) (by kernel_rfl) (by kernel_rfl) .u32 (by kernel_rfl) (w := w.setCell ⟨b, 3, none⟩ (.int .i32 1)) (a := ⟨b, 2, none⟩) (x := 0) ((World.cell?_setCell_other _ ⟨b, 3, none⟩ ⟨b, 2, none⟩ _ (by simp)).trans h0)
  have hnot : ∀ (x : Bool) (w : World), (Op.unary .not (.bool x)).run Try.prog w = .ok (.bool (!x)) w := fun _ _ => rfl
  go_enter_defers Try.func46, Try.ntmps46
  go_wp2_with (go_at_call 59; refine (oLock ⟨b, 3, none⟩ _ (by go_simp) (by go_simp)).mono ?_; rintro e w' ⟨rfl, rfl⟩)
  go_in
  go_wp2_with (go_at_call 37; refine hin.mono ?_; rintro e w' ⟨rfl, hw'⟩)
  obtain ⟨q2, ⟨x, q1⟩, z1, z2⟩ := hR _ hw'
  refine leaves_cons (f := 61) (args := #[.pointer (some ⟨b, 2, none⟩), .bool true]) (by simp) (by simp [go_sem]) ?_
  refine (oStore ⟨b, 2, none⟩ x .returning _ q1 z1).mono ?_
  rintro e u' w'' ⟨rfl, rfl, rfl⟩
  refine leaves_cons (f := 60) (args := #[.pointer (some ⟨b, 3, none⟩)]) (by simp [settle]) (by simp [go_sem]) ?_
  refine (oUnlock ⟨b, 3, none⟩ _ _ ?_ (by simp [z2])).mono ?_
  · refine (World.cell?_setCell_other _ ⟨b, 2, none⟩ ⟨b, 3, none⟩ _ (by simp)).trans ?_
    rw [World.cell?_drew]
    exact q2
  rintro e u' w'' ⟨rfl, rfl, rfl⟩
  simp [Leaves, settle, results, Try.results46]
  exact ⟨_, hw', rfl⟩
end Go.Proofs.Ytgelodhkbpmlfaa
/-
  A tally in a store; its map made once.
-/
namespace Go.Proofs.Ytgelodhkbpmlfaa
open Go Go.AL

theorem ext_setCell {D : Nat → Prop} {G : Ghost} {w : World} (b i : Nat) (u : Value) (hD : D b) : Ext D G w G (w.setCell ⟨b, i, none⟩ u) :=
  ⟨rfl, rfl, rfl, by simp [World.setCell], fun _ _ _ h => h, fun k hk => ⟨RowKit.Below.heap_setCell w _ u k (fun e => hk (e ▸ hD)), rfl, rfl⟩⟩
/-- A cell of an object that is known. -/
theorem obj_cell {D : Nat → Prop} {G : Ghost} {σ : Store} {w : World} (hW : WR D G σ w) {b : Nat} {cs : List AV} (hb : σ b = some cs) {i : Nat} {v : Value} (hi : cs[i]? = some (.lit v)) : w.cell? ⟨b, i, none⟩ = some v ∧ w.frozen? ⟨b, i, none⟩ = false := by
  obtain ⟨_, _, _, cur, e, hh, hl, hc⟩ := hW.obj b cs hb
  have hlt := (List.getElem?_eq_some_iff.1 hi).1
  have hu : cur[i]? = some (cur[i]'(by omega)) := by simp
  have := (hc i _ _ hi hu).2.1.lit_eq rfl
  refine ⟨?_, by simp [World.frozen?, hh]⟩
  simp [World.cell?, hh, show i < cur.size by omega, this]
structure TP (σ : Store) (b c : Nat) (ns : List (List UInt8)) (xs : List Nat) (m : Option Nat) : Prop where
  obj : σ b = some (tS ns c (if m.isSome then 1 else 0) 0 m)
  row : σ c = some (u64s xs)
  len : xs.length = ns.length
  ne : ¬ b = c
  map : ∀ q, m = some q → σ (mkey q) = some (mapA (atN ns ns.length))
  nd : ns.Nodup
  le : ns.length ≤ 64
/-- What lies elsewhere is kept. -/
def Fr (tv : AV) (b c : Nat) (σ σ' : Store) : Prop := ∀ (k : Int) x, (tv = .lit (.pointer none) ∨ (¬ k = b ∧ ¬ k = c)) → σ k = some x → σ' k = some x
theorem Fr.refl (tv : AV) (b c : Nat) (σ : Store) : Fr tv b c σ σ := fun _ _ _ h => h
theorem Fr.trans {tv : AV} {b c : Nat} {σ τ υ : Store} (h : Fr tv b c σ τ) (k : Fr tv b c τ υ) : Fr tv b c σ υ := fun i x h1 h3 => k i x h1 (h i x h1 h3)
theorem slow_calls (b c : Nat) (ns : List (List UInt8)) (hn : ns.Nodup) (hl : ns.length ≤ 64) (σ : Store) (hb : σ b = some (tS ns c 0 0 none)) :
    ACalls Try.prog 46 [.lit (.pointer (some ⟨b, 2, none⟩)), .func (.func 37) [ptrA b] []] σ fun v σ' => v = .tuple [] ∧ ∃ q : Nat, σ (mkey q) = none ∧ σ' = (σ.upd b (tS ns c 1 0 (some q))).put q (mapA (atN ns ns.length)) := by
  intro D G w cargs hl hargs hW hfresh
  have hsz : cargs.size = 2 := by simpa using hl.symm
  obtain ⟨c0, c1, rfl⟩ : ∃ c0 c1, cargs = #[c0, c1] := ⟨cargs[0], cargs[1], by
    apply Array.ext
    · simp [hsz]
    · intro i h1 h2
      match i with
      | 0 => rfl
      | 1 => rfl
      | _ + 2 => simp at h2; omega⟩
  have h0 := (hargs 0 _ c0 rfl rfl).1.lit_eq rfl
  have h1 := (hargs 1 _ c1 rfl rfl).1
  subst h0
  obtain rfl : c1 = .func (.func 37) #[.pointer (some ⟨b, 0, none⟩)] #[] := by
    cases h1 with
    | func _ _ _ ufs ucs e1 e2 e3 e4 =>
      have s2 : ucs = #[] := by simpa using e2.symm
      obtain ⟨u, rfl⟩ : ∃ u, ufs = #[u] := ⟨ufs[0]'(by simp at e1; omega), by
        apply Array.ext
        · simpa using e1.symm
        · intro i h1 h2
          match i with
          | 0 => rfl
          | _ + 1 => simp at h2⟩
      have := (e3 0 _ u rfl rfl).lit_eq rfl
      rw [s2, this]
  obtain ⟨hD, _, _, cur, e, hh, hlen, hcells⟩ := hW.obj b _ hb
  obtain ⟨d1, d2⟩ := obj_cell hW hb (i := 2) (v := .int .u32 0) rfl
  obtain ⟨m1, m2⟩ := obj_cell hW hb (i := 3) (v := .int .i32 0) rfl
  have hW1 := hW.setObj hb (i := 3) (by simp [tS]) (c := .lit (.int .i32 1)) (u := .int .i32 1) rfl (.lit _) trivial
  have e1 : (tS ns c 0 0 none).set 3 (.lit (.int .i32 1)) = tS ns c 0 1 none := rfl
  rw [e1] at hW1
  have hbc := index_calls b c ns hn (by omega) 0 1 none (σ.upd b (tS ns c 0 1 none)) (by simp)
  have hin := hbc D G (w.setCell ⟨b, 3, none⟩ (.int .i32 1)) #[.pointer (some ⟨b, 0, none⟩)] rfl (fun i c u hc hu => by
    match i with
    | 0 => simp at hc hu; subst hc hu; exact ⟨.lit _, OwnAt.of_plain rfl⟩
    | _ + 1 => simp at hc) hW1 (fun k hk => hfresh k (by simpa [World.setCell] using hk))
  refine (oSlow b w (fun w' => ∃ G' σ', (∃ q : Nat, σ (mkey q) = none ∧ σ' = (σ.upd b (tS ns c 0 1 (some q))).put q (mapA (atN ns ns.length))) ∧ WR D G' σ' w' ∧ Ext D G (w.setCell ⟨b, 3, none⟩ (.int .i32 1)) G' w') d1 m1 m2 (hin.mono ?_) ?_).mono ?_
  · rintro e w' ⟨v, cv, G', σ', rfl, ⟨rfl, q, hq, rfl⟩, hv, _, hW2, hx⟩
    have hcv : cv = .tuple #[] := by
      cases hv with
      | tuple _ us e1 _ => have : us = #[] := by simpa using e1.symm
                           rw [this]
    subst hcv
    exact ⟨rfl, G', _, ⟨q, by simpa using hq, by rw [supd_supd]⟩, hW2, hx⟩
  · rintro w' ⟨G', σ', ⟨q, hq, rfl⟩, hW2, hx⟩
    have hb2 : ((σ.upd b (tS ns c 0 1 (some q))).put q (mapA (atN ns ns.length))) b = some (tS ns c 0 1 (some q)) := by simp
    obtain ⟨x1, x2⟩ := obj_cell hW2 hb2 (i := 2) (v := .int .u32 0) rfl
    obtain ⟨y1, y2⟩ := obj_cell hW2 hb2 (i := 3) (v := .int .i32 1) rfl
    exact ⟨y1, ⟨_, x1⟩, x2, y2⟩
  · rintro e w' ⟨rfl, w2, ⟨G', σ', ⟨q, hq, rfl⟩, hW2, hx⟩, rfl⟩
    have hb2 : ((σ.upd b (tS ns c 0 1 (some q))).put q (mapA (atN ns ns.length))) b = some (tS ns c 0 1 (some q)) := by simp
    have hW3 := hW2.drew.setObj hb2 (i := 2) (by simp [tS]) (c := .lit (.int .u32 1)) (u := .int .u32 1) rfl (.lit _) trivial
    have e2 : (tS ns c 0 1 (some q)).set 2 (.lit (.int .u32 1)) = tS ns c 1 1 (some q) := rfl
    rw [e2] at hW3
    have hW4 := hW3.setObj (o := b) (cs := tS ns c 1 1 (some q)) (by simp) (i := 3) (by simp [tS]) (c := .lit (.int .i32 0)) (u := .int .i32 0) rfl (.lit _) trivial
    have e3 : (tS ns c 1 1 (some q)).set 3 (.lit (.int .i32 0)) = tS ns c 1 0 (some q) := rfl
    rw [e3, supd_supd] at hW4
    refine ⟨.tuple [], .tuple #[], G', _, rfl, ⟨rfl, q, hq, ?_⟩, .tuple _ _ rfl (by simp), OwnAt.of_plain rfl, hW4, (ext_setCell b 3 _ hD).trans (hx.trans (Ext.drew.trans ((ext_setCell b 2 _ hD).trans (ext_setCell b 3 _ hD))))⟩
    simp
@[simp] theorem callable58' : callable Try.prog 58 = false := nr (by kernel_rfl)
theorem ext58 (b i : Nat) (d : Int) (cs : List AV) (σ : Store) (hb : σ b = some cs) (hi : cs[i]? = some (.lit (.int .u32 d))) : AExt Try.prog 58 [.lit (.pointer (some ⟨b, i, none⟩))] σ fun v σ' => v = .lit (.int .u32 d) ∧ σ' = σ := by
  intro D G w cargs hl hargs hW
  obtain ⟨c0, rfl⟩ : ∃ c0, cargs = #[c0] := ⟨cargs[0]'(by simp at hl; omega), by
    apply Array.ext
    · simpa using hl.symm
    · intro i h1 h2
      match i with
      | 0 => rfl
      | _ + 1 => simp at h2⟩
  have h0 := (hargs 0 _ c0 rfl rfl).lit_eq rfl
  subst h0
  obtain ⟨d1, _⟩ := obj_cell hW hb hi
  exact ⟨_, _, run_call_load (P := Try.prog) Try.func58 (by kernel_rfl) (by kernel_rfl) (by kernel_rfl) .u32 (by kernel_rfl) d1, rfl, .lit _, rfl, rfl⟩
set_option maxRecDepth 8000 in
theorem oload_calls (b : Nat) (d : Int) (cs : List AV) (σ : Store) (hb : σ b = some cs) (hi : cs[2]? = some (.lit (.int .u32 d))) : ACalls Try.prog 45 [.lit (.pointer (some ⟨b, 2, none⟩))] σ fun v σ' => v = .lit (.bool (d != 0)) ∧ σ' = σ := by
  refine ACalls.of_awp follows (st := st45) (plans := pl45) (n := 8) Try.func45 rfl (by kernel_rfl) (by kernel_rfl) (by kernel_rfl) ?_
  simp
  refine extK.of (ext58 b 2 d cs σ hb hi) ?_
  rintro v σ1 ⟨rfl, rfl⟩
  simp
set_option maxRecDepth 8000 in
theorem odo_calls {σ : Store} {b c : Nat} {ns : List (List UInt8)} {xs : List Nat} {m : Option Nat} (h : TP σ b c ns xs m) :
    ACalls Try.prog 36 [.lit (.pointer (some ⟨b, 2, none⟩)), .func (.func 37) [ptrA b] []] σ fun v σ' => v = .tuple [] ∧ ∃ q, TP σ' b c ns xs (some q) ∧ Fr (ptrA b) b c σ σ' := by
  refine ACalls.of_awp follows (st := st36) (plans := pl36) (n := 12) Try.func36 rfl (by kernel_rfl) (by kernel_rfl) (by kernel_rfl) ?_
  cases m with
  | none =>
    have hl := oload_calls b 0 _ σ h.obj rfl
    have hs := slow_calls b c ns h.nd h.le σ h.obj
    simp
    refine callK.of hl ?_
    rintro v σ1 ⟨rfl, rfl⟩
    simp
    refine callK.of hs ?_
    rintro v σ2 ⟨rfl, q, hq, rfl⟩
    simp
    refine ⟨_, AV.le_refl _, _, Store.sub_refl _, rfl, ⟨q, by simp, ?_, h.len, h.ne, fun q' e => by cases e; simp, h.nd, h.le⟩, fun k x h1 h3 => ?_⟩
    · have := h.ne
      simp [h.row]
      exact fun e => absurd e.symm this
    · have h1 : ¬ k = b := by
        rcases h1 with h1 | h1
        · cases h1
        · exact h1.1
      simp only [Store.put, Store.upd]
      rw [if_neg (fun e => by subst e; rw [hq] at h3; cases h3), if_neg h1]
      exact h3
  | some q =>
    have hl := oload_calls b 1 _ σ h.obj rfl
    simp
    refine callK.of hl ?_
    rintro v σ1 ⟨rfl, rfl⟩
    simp
    exact ⟨_, AV.le_refl _, _, Store.sub_refl _, rfl, ⟨q, h⟩, Fr.refl _ b c _⟩
end Go.Proofs.Ytgelodhkbpmlfaa
/-
  Counters: one is read, added to, set, changed.
-/
namespace Go.Proofs.Ytgelodhkbpmlfaa
open Go Go.AL

/-- sync/atomic.SwapT: the number is stored, what was there handed back. -/
theorem run_call_swap {P : Program} {f : FuncId} {fn : Func} (hf : P.funcs[f]? = some fn) (hname : (fn.name == "runtime.NumGoroutine") = false) (hb : fn.body.isNone = true) (hn : Extern.findNext fn = none) (k : IntKind)
    (he : Extern.find fn = some (Extern.Atomic.swapT (.int k))) {a : Addr} {x y : Int} {w : World} (hc : w.cell? a = some (.int k x)) (hz : w.frozen? a = false) :
    (callFunc f #[.pointer (some a), .int k y]).run P w = .ok (.value (.int k x)) (w.setCell a (.int k y)) := by
  rw [run_callFunc_extern hf hname hb hn he]
  change (Sem.run P (do
    let a' ← asAddr (.pointer (some a))
    let old ← Extern.Atomic.read (.int k) a'
    store a' (.int k y) .atomic
    pure old) w).andThen _ = _
  simp [Extern.Atomic.read, asAddr, hc, hz, run_store P w a (.int k y) .atomic rfl, Result.andThen]
set_option maxRecDepth 100000 in
theorem wAdd (a : Addr) (x n : Int) (w : World) (hc : w.cell? a = some (.int .u64 x)) (hz : w.frozen? a = false) :
    Calls Try.prog 28 #[.pointer (some a), .int .u64 n] w fun e w' => e = .returned (.int .u64 (IntKind.u64.wrap (x + n))) ∧ w' = w.setCell a (.int .u64 (IntKind.u64.wrap (x + n))) := by
  have hadd := run_call_add (P := Try.prog) Try.func38 (by kernel_rfl) (by kernel_rfl) (by kernel_rfl) .u64 (by kernel_rfl) (y := n) (s := IntKind.u64.wrap (x + n)) hc hz (by simp [go_sem])
  go_enter Try.func28, Try.ntmps28
  go_wp2
  go_ret
  exact ⟨rfl, rfl⟩
set_option maxRecDepth 100000 in
theorem wSwap (a : Addr) (x n : Int) (w : World) (hc : w.cell? a = some (.int .u64 x)) (hz : w.frozen? a = false) :
    Calls Try.prog 31 #[.pointer (some a), .int .u64 n] w fun e w' => e = .returned (.int .u64 x) ∧ w' = w.setCell a (.int .u64 n) := by
  have hadd := run_call_swap (P := Try.prog) Try.func41 (by kernel_rfl) (by kernel_rfl) (by kernel_rfl) .u64 (by kernel_rfl) (y := n) hc hz
  go_enter Try.func31, Try.ntmps31
  go_wp2
  go_ret
  exact ⟨rfl, rfl⟩
set_option maxRecDepth 100000 in
theorem wCas (a : Addr) (x n : Int) (w : World) (hc : w.cell? a = some (.int .u64 x)) (hz : w.frozen? a = false) :
    Calls Try.prog 30 #[.pointer (some a), .int .u64 x, .int .u64 n] w fun e w' => e = .returned (.bool true) ∧ w' = w.setCell a (.int .u64 n) := by
  have hadd := run_call_cas_hit (P := Try.prog) Try.func40 (by kernel_rfl) (by kernel_rfl) (by kernel_rfl) .u64 (by kernel_rfl) (y := n) hc hz
  go_enter Try.func30, Try.ntmps30
  go_wp2
  go_ret
  exact ⟨rfl, rfl⟩
set_option maxRecDepth 100000 in
theorem wLoad (a : Addr) (x : Int) (w : World) (hc : w.cell? a = some (.int .u64 x)) :
    Calls Try.prog 29 #[.pointer (some a)] w fun e w' => e = .returned (.int .u64 x) ∧ w' = w := by
  have hadd := run_call_load (P := Try.prog) Try.func39 (by kernel_rfl) (by kernel_rfl) (by kernel_rfl) .u64 (by kernel_rfl) hc
  go_enter Try.func29, Try.ntmps29
  go_wp2
  go_ret
  exact ⟨rfl, rfl⟩
/-- One cell is set. -/
theorem cell_calls {f : FuncId} {rest : List Value} {c i : Nat} {x n : Int} {r : Value} {cs : List AV} {σ : Store} (hc : σ c = some cs) (hi : cs[i]? = some (.lit (.int .u64 x))) (hr : (AV.lit r).plain = true)
    (h : ∀ w : World, w.cell? ⟨c, i, none⟩ = some (.int .u64 x) → w.frozen? ⟨c, i, none⟩ = false → Calls Try.prog f (.pointer (some ⟨c, i, none⟩) :: rest).toArray w fun e w' => e = .returned r ∧ w' = w.setCell ⟨c, i, none⟩ (.int .u64 n)) :
    ACalls Try.prog f (.lit (.pointer (some ⟨c, i, none⟩)) :: rest.map .lit) σ fun v σ' => v = .lit r ∧ σ' = σ.upd c (cs.set i (.lit (.int .u64 n))) := by
  intro D G w cargs hl hargs hW hfresh
  have hca : cargs = (.pointer (some ⟨c, i, none⟩) :: rest).toArray := by
    apply Array.ext
    · simpa using hl.symm
    · intro j h1 h2
      have hj : j < (AV.lit (.pointer (some ⟨c, i, none⟩)) :: rest.map .lit).length := by rw [hl]; exact h1
      have h3 : (AV.lit (.pointer (some ⟨c, i, none⟩)) :: rest.map .lit)[j]? = some (.lit ((Value.pointer (some ⟨c, i, none⟩) :: rest)[j]'(by simpa using h2))) := by
        rw [← List.map_cons (f := AV.lit), List.getElem?_map, List.getElem?_eq_getElem (by simpa using h2)]; rfl
      have := (hargs j _ (cargs[j]) h3 (by simp [h1])).1.lit_eq rfl
      rw [this]; simp
  subst hca
  obtain ⟨d1, d2⟩ := obj_cell hW hc hi
  have hD := (hW.obj c _ hc).1
  refine (h w d1 d2).mono ?_
  rintro e w' ⟨rfl, rfl⟩
  have hil := (List.getElem?_eq_some_iff.1 hi).1
  exact ⟨_, _, G, _, rfl, ⟨rfl, rfl⟩, .lit _, OwnAt.of_plain hr, hW.setObj hc hil rfl (.lit _) trivial, ext_setCell c i _ hD⟩
theorem add_calls {c i : Nat} {x n : Int} {cs : List AV} {σ : Store} (hc : σ c = some cs) (hi : cs[i]? = some (.lit (.int .u64 x))) :
    ACalls Try.prog 28 [.lit (.pointer (some ⟨c, i, none⟩)), .lit (.int .u64 n)] σ fun v σ' => v = .lit (.int .u64 (IntKind.u64.wrap (x + n))) ∧ σ' = σ.upd c (cs.set i (.lit (.int .u64 (IntKind.u64.wrap (x + n))))) :=
  cell_calls (rest := [.int .u64 n]) hc hi rfl fun w h1 h2 => wAdd _ x n w h1 h2
theorem swap_calls {c i : Nat} {x n : Int} {cs : List AV} {σ : Store} (hc : σ c = some cs) (hi : cs[i]? = some (.lit (.int .u64 x))) :
    ACalls Try.prog 31 [.lit (.pointer (some ⟨c, i, none⟩)), .lit (.int .u64 n)] σ fun v σ' => v = .lit (.int .u64 x) ∧ σ' = σ.upd c (cs.set i (.lit (.int .u64 n))) :=
  cell_calls (rest := [.int .u64 n]) hc hi rfl fun w h1 h2 => wSwap _ x n w h1 h2
theorem cas_calls {c i : Nat} {x n : Int} {cs : List AV} {σ : Store} (hc : σ c = some cs) (hi : cs[i]? = some (.lit (.int .u64 x))) :
    ACalls Try.prog 30 [.lit (.pointer (some ⟨c, i, none⟩)), .lit (.int .u64 x), .lit (.int .u64 n)] σ fun v σ' => v = .lit (.bool true) ∧ σ' = σ.upd c (cs.set i (.lit (.int .u64 n))) :=
  cell_calls (rest := [.int .u64 x, .int .u64 n]) hc hi rfl fun w h1 h2 => wCas _ x n w h1 h2
theorem load_calls {c i : Nat} {x : Int} {cs : List AV} {σ : Store} (hc : σ c = some cs) (hi : cs[i]? = some (.lit (.int .u64 x))) :
    ACalls Try.prog 29 [.lit (.pointer (some ⟨c, i, none⟩))] σ fun v σ' => v = .lit (.int .u64 x) ∧ σ' = σ := by
  intro D G w cargs hl hargs hW hfresh
  obtain ⟨c0, rfl⟩ : ∃ a, cargs = #[a] := by
    rcases cargs with ⟨l⟩
    match l, hl with
    | [a], _ => exact ⟨a, rfl⟩
  have e0 := (hargs 0 _ c0 rfl rfl).1.lit_eq rfl
  subst e0
  obtain ⟨d1, d2⟩ := obj_cell hW hc hi
  refine (wLoad _ x w d1).mono ?_
  rintro e w' ⟨rfl, rfl⟩
  exact ⟨_, _, G, _, rfl, ⟨rfl, rfl⟩, .lit _, OwnAt.of_plain rfl, hW, Ext.refl ..⟩
end Go.Proofs.Ytgelodhkbpmlfaa
/-
  What a tally is asked, one counter at a time; nil ones, too.
-/
namespace Go.Proofs.Ytgelodhkbpmlfaa
open Go Go.AL

/-- A tally, or none. -/
def TV (σ : Store) (b c : Nat) (tv : AV) (ns : List (List UInt8)) (xs : List Nat) : Prop := (tv = .lit (.pointer none) ∧ ns = [] ∧ xs = []) ∨ (tv = ptrA b ∧ ∃ m, TP σ b c ns xs m)
def cptr (c : Nat) (o : Option Nat) : AV := .lit (.pointer (o.map fun i => ⟨c, i, none⟩))
def updX (xs : List Nat) (o : Option Nat) (f : Nat → Nat) : List Nat := match o with | none => xs | some i => xs.set i (f (xs.getD i 0))
theorem ixN_lt {ns : List (List UInt8)} {s : List UInt8} {i : Nat} (h : ixN ns s = some i) : i < ns.length := (List.findIdx?_eq_some_iff_getElem.1 h).1
set_option maxRecDepth 8000 in
set_option maxHeartbeats 1000000 in
theorem counter_calls {σ : Store} {b c : Nat} {tv : AV} {ns : List (List UInt8)} {xs : List Nat} (s : List UInt8) (h : TV σ b c tv ns xs) :
    ACalls Try.prog 27 [tv, .lit (.string (toB s))] σ fun v σ' => v = cptr c (ixN ns s) ∧ TV σ' b c tv ns xs ∧ Fr tv b c σ σ' := by
  refine ACalls.of_awp follows (st := st27) (plans := pl27) (n := 32) Try.func27 rfl (by kernel_rfl) (by kernel_rfl) (by kernel_rfl) ?_
  rcases h with ⟨rfl, rfl, rfl⟩ | ⟨rfl, m, h⟩
  · simp
    exact ⟨_, AV.le_refl _, σ, Store.sub_refl _, rfl, .inl ⟨rfl, rfl, rfl⟩, Fr.refl _ b c _⟩
  · simp
    refine callK.of (odo_calls h) ?_
    rintro v σ1 ⟨rfl, q, h1, hf⟩
    have ho := h1.obj
    have hm := h1.map q rfl
    have hget := get_atN Try.prog 3 ns s zeroV66_3
    unfold tS at ho
    simp [ho, hm, hget]
    cases hx : ixN ns s with
    | none =>
      simp
      exact ⟨_, AV.le_refl _, σ1, Store.sub_refl _, rfl, .inr ⟨rfl, _, h1⟩, hf⟩
    | some i =>
      have hi := ixN_lt hx
      have hi' : (i : Int) < ns.length := by omega
      simp [hi, hi']
      exact ⟨_, AV.le_refl _, σ1, Store.sub_refl _, rfl, .inr ⟨rfl, _, h1⟩, hf⟩
theorem u64s_set (xs : List Nat) (i z : Nat) : (u64s xs).set i (.lit (.int .u64 (z : Int))) = u64s (xs.set i z) := by simp [u64s, List.map_set]
theorem u64s_get {xs : List Nat} {i : Nat} (h : i < xs.length) : (u64s xs)[i]? = some (.lit (.int .u64 ((xs.getD i 0 : Nat) : Int))) := by simp [u64s, h, List.getD_eq_getElem?_getD]
theorem Fr.updc (b c : Nat) (σ : Store) (x : List AV) : Fr (ptrA b) b c σ (σ.upd c x) := fun k y h1 h3 => by
  have h2 : ¬ k = c := by
    rcases h1 with h1 | h1
    · cases h1
    · exact h1.2
  simp only [Store.upd]; rw [if_neg h2]; exact h3
theorem TP.set {σ : Store} {b c : Nat} {ns : List (List UInt8)} {xs : List Nat} {m : Option Nat} (h : TP σ b c ns xs m) (i z : Nat) : TP (σ.upd c (u64s (xs.set i z))) b c ns (xs.set i z) m :=
  ⟨by rw [upd_nat, if_neg h.ne]; exact h.obj, by simp, by simp [h.len], h.ne, fun q e => by rw [upd_mkey]; exact h.map q e, h.nd, h.le⟩
theorem TV.set {σ : Store} {b c : Nat} {tv : AV} {ns : List (List UInt8)} {xs : List Nat} (h : TV σ b c tv ns xs) {s : List UInt8} {i : Nat} (hx : ixN ns s = some i) (z : Nat) : TV (σ.upd c (u64s (xs.set i z))) b c tv ns (xs.set i z) := by
  rcases h with ⟨rfl, rfl, rfl⟩ | ⟨rfl, m, h⟩
  · cases hx
  · exact .inr ⟨rfl, m, h.set i z⟩
theorem TV.row {σ : Store} {b c : Nat} {tv : AV} {ns : List (List UInt8)} {xs : List Nat} (h : TV σ b c tv ns xs) {s : List UInt8} {i : Nat} (hx : ixN ns s = some i) : σ c = some (u64s xs) ∧ i < xs.length := by
  rcases h with ⟨rfl, rfl, rfl⟩ | ⟨rfl, m, h⟩
  · cases hx
  · exact ⟨h.row, by rw [h.len]; exact ixN_lt hx⟩
theorem wrap_u64n (a b : Nat) : IntKind.u64.wrap ((a : Int) + b) = (((a + b) % 18446744073709551616 : Nat) : Int) := by
  unfold IntKind.wrap
  simp [IntKind.bits, IntKind.signed]
set_option maxRecDepth 8000 in
theorem tadd_calls {σ : Store} {b c : Nat} {tv : AV} {ns : List (List UInt8)} {xs : List Nat} (s : List UInt8) (n : Nat) (h : TV σ b c tv ns xs) :
    ACalls Try.prog 17 [tv, .lit (.string (toB s)), .lit (.int .u64 n)] σ fun v σ' => v = .lit (.bool (ixN ns s).isSome) ∧ TV σ' b c tv ns (updX xs (ixN ns s) fun x => (x + n) % 18446744073709551616) ∧ Fr tv b c σ σ' := by
  have hc := counter_calls s h
  refine ACalls.of_awp follows (st := st17) (plans := pl17) (n := 16) Try.func17 rfl (by kernel_rfl) (by kernel_rfl) (by kernel_rfl) ?_
  have h0 := h
  rcases h with ⟨rfl, rfl, rfl⟩ | ⟨rfl, m, h⟩
  · simp
    refine callK.of hc ?_
    rintro v σ1 ⟨rfl, h1, hf⟩
    have hx : ixN [] s = none := rfl
    simp [cptr, hx]
    exact ⟨_, AV.le_refl _, σ1, Store.sub_refl _, rfl, h1, hf⟩
  · simp
    refine callK.of hc ?_
    rintro v σ1 ⟨rfl, h1, hf⟩
    cases hx : ixN ns s with
    | none =>
      simp [cptr]
      exact ⟨_, AV.le_refl _, σ1, Store.sub_refl _, rfl, h1, hf⟩
    | some i =>
      obtain ⟨hr, hi⟩ := h1.row hx
      have ha := add_calls (n := n) hr (u64s_get hi)
      rw [wrap_u64n, u64s_set] at ha
      simp [cptr]
      refine callK.of ha ?_
      rintro v σ2 ⟨rfl, rfl⟩
      simp
      exact ⟨_, AV.le_refl _, _, Store.sub_refl _, rfl, h1.set hx _, hf.trans (Fr.updc b c _ _)⟩
set_option maxRecDepth 8000 in
theorem tget_calls {σ : Store} {b c : Nat} {tv : AV} {ns : List (List UInt8)} {xs : List Nat} (s : List UInt8) (h : TV σ b c tv ns xs) :
    ACalls Try.prog 20 [tv, .lit (.string (toB s))] σ fun v σ' => v = .lit (.int .u64 (((ixN ns s).map fun i => xs.getD i 0).getD 0 : Nat)) ∧ TV σ' b c tv ns xs ∧ Fr tv b c σ σ' := by
  have hc := counter_calls s h
  refine ACalls.of_awp follows (st := st20) (plans := pl20) (n := 13) Try.func20 rfl (by kernel_rfl) (by kernel_rfl) (by kernel_rfl) ?_
  rcases h with ⟨rfl, rfl, rfl⟩ | ⟨rfl, m, h⟩
  · simp
    refine callK.of hc ?_
    rintro v σ1 ⟨rfl, h1, hf⟩
    have hx : ixN [] s = none := rfl
    simp [cptr, hx]
    exact ⟨_, AV.le_refl _, σ1, Store.sub_refl _, rfl, h1, hf⟩
  · simp
    refine callK.of hc ?_
    rintro v σ1 ⟨rfl, h1, hf⟩
    cases hx : ixN ns s with
    | none =>
      simp [cptr]
      exact ⟨_, AV.le_refl _, σ1, Store.sub_refl _, rfl, h1, hf⟩
    | some i =>
      obtain ⟨hr, hi⟩ := h1.row hx
      have ha := load_calls hr (u64s_get hi)
      simp [cptr]
      refine callK.of ha ?_
      rintro v σ2 ⟨rfl, rfl⟩
      simp
      exact ⟨_, AV.le_refl _, _, Store.sub_refl _, rfl, h1, hf⟩
set_option maxRecDepth 8000 in
theorem ttake_calls {σ : Store} {b c : Nat} {tv : AV} {ns : List (List UInt8)} {xs : List Nat} (s : List UInt8) (h : TV σ b c tv ns xs) :
    ACalls Try.prog 19 [tv, .lit (.string (toB s))] σ fun v σ' => v = .lit (.int .u64 (((ixN ns s).map fun i => xs.getD i 0).getD 0 : Nat)) ∧ TV σ' b c tv ns (updX xs (ixN ns s) fun _ => 0) ∧ Fr tv b c σ σ' := by
  have hc := counter_calls s h
  refine ACalls.of_awp follows (st := st19) (plans := pl19) (n := 13) Try.func19 rfl (by kernel_rfl) (by kernel_rfl) (by kernel_rfl) ?_
  rcases h with ⟨rfl, rfl, rfl⟩ | ⟨rfl, m, h⟩
  · simp
    refine callK.of hc ?_
    rintro v σ1 ⟨rfl, h1, hf⟩
    have hx : ixN [] s = none := rfl
    simp [cptr, hx]
    exact ⟨_, AV.le_refl _, σ1, Store.sub_refl _, rfl, h1, hf⟩
  · simp
    refine callK.of hc ?_
    rintro v σ1 ⟨rfl, h1, hf⟩
    cases hx : ixN ns s with
    | none =>
      simp [cptr]
      exact ⟨_, AV.le_refl _, σ1, Store.sub_refl _, rfl, h1, hf⟩
    | some i =>
      obtain ⟨hr, hi⟩ := h1.row hx
      have ha := swap_calls (n := (0 : Nat)) hr (u64s_get hi)
      rw [u64s_set] at ha
      simp [cptr]
      refine callK.of ha ?_
      rintro v σ2 ⟨rfl, rfl⟩
      simp
      exact ⟨_, AV.le_refl _, _, Store.sub_refl _, rfl, h1.set hx _, hf.trans (Fr.updc b c _ _)⟩
end Go.Proofs.Ytgelodhkbpmlfaa
/-
  The greatest; all names; all set to nothing; all told.
-/
namespace Go.Proofs.Ytgelodhkbpmlfaa
open Go Go.AL

set_option maxRecDepth 8000 in
set_option maxHeartbeats 1000000 in
theorem tmost_calls {σ : Store} {b c : Nat} {tv : AV} {ns : List (List UInt8)} {xs : List Nat} (s : List UInt8) (n : Nat) (h : TV σ b c tv ns xs) :
    ACalls Try.prog 18 [tv, .lit (.string (toB s)), .lit (.int .u64 n)] σ fun v σ' => v = .lit (.bool (ixN ns s).isSome) ∧ TV σ' b c tv ns (updX xs (ixN ns s) fun x => max x n) ∧ Fr tv b c σ σ' := by
  have hc := counter_calls s h
  refine ACalls.of_awp follows (st := st18) (plans := pl18) (n := 28) Try.func18 rfl (by kernel_rfl) (by kernel_rfl) (by kernel_rfl) ?_
  rcases h with ⟨rfl, rfl, rfl⟩ | ⟨rfl, m, h⟩
  · simp
    refine callK.of hc ?_
    rintro v σ1 ⟨rfl, h1, hf⟩
    have hx : ixN [] s = none := rfl
    simp [cptr, hx]
    exact ⟨_, AV.le_refl _, σ1, Store.sub_refl _, rfl, h1, hf⟩
  · simp
    refine callK.of hc ?_
    rintro v σ1 ⟨rfl, h1, hf⟩
    cases hx : ixN ns s with
    | none =>
      simp [cptr]
      exact ⟨_, AV.le_refl _, σ1, Store.sub_refl _, rfl, h1, hf⟩
    | some i =>
      obtain ⟨hr, hi⟩ := h1.row hx
      have ha := load_calls hr (u64s_get hi)
      have hs := cas_calls (n := n) hr (u64s_get hi)
      rw [u64s_set] at hs
      have h2 := fun z => h1.set hx z
      simp [cptr]
      refine callK.of ha ?_
      rintro v σ2 ⟨rfl, rfl⟩
      simp
      have e0 : updX xs (some i) (fun x => max x n) = xs.set i (max (xs.getD i 0) n) := rfl
      rw [e0]
      generalize hxi : List.getD xs i 0 = x at *
      have hxi' : xs[i]?.getD 0 = x := by rw [← List.getD_eq_getElem?_getD]; exact hxi
      refine codeK.loop follows (st := st18) (plans := pl18) (X := Unit) (fun _ => True)
        (fun _ => [(2, .lit (.int .u64 n)), (7, .lit (.pointer (some ⟨c, i, none⟩))), (8, .lit (.int .u64 x))]) (fun _ => σ2) (fun _ => 0) () (by kernel_rfl) trivial (by simp [hxi']) (Store.sub_refl _) fun _ _ => ?_
      by_cases hxn : x < n
      · have hxn' : (x : Int) < n := by omega
        rw [Nat.max_eq_right (by omega)]
        simp [hxn, hxn']
        refine callK.of hs ?_
        rintro v σ3 ⟨rfl, rfl⟩
        simp
        exact ⟨_, AV.le_refl _, _, Store.sub_refl _, rfl, h2 n, hf.trans (Fr.updc b c _ _)⟩
      · have hxn' : ¬ (x : Int) < n := by omega
        rw [Nat.max_eq_left (by omega)]
        have e1 : xs.set i x = xs := by
          rw [← hxi, List.getD_eq_getElem?_getD, List.getElem?_eq_getElem hi]
          simp
        rw [e1]
        simp [hxn, hxn']
        exact ⟨_, AV.le_refl _, _, Store.sub_refl _, rfl, h1, hf⟩
theorem TP.more {σ τ : Store} {b c : Nat} {ns : List (List UInt8)} {xs : List Nat} {m : Option Nat} (h : TP σ b c ns xs m) (hs : Store.sub σ τ) : TP τ b c ns xs m :=
  ⟨sub_at h.obj hs, sub_at h.row hs, h.len, h.ne, fun q e => by
    have := h.map q e
    rcases hs (mkey q) with h1 | h1
    · rw [this] at h1; cases h1
    · rw [← h1]; exact this, h.nd, h.le⟩
theorem TV.more {σ τ : Store} {b c : Nat} {tv : AV} {ns : List (List UInt8)} {xs : List Nat} (h : TV σ b c tv ns xs) (hs : Store.sub σ τ) : TV τ b c tv ns xs := by
  rcases h with ⟨rfl, rfl, rfl⟩ | ⟨rfl, m, h⟩
  · exact .inl ⟨rfl, rfl, rfl⟩
  · exact .inr ⟨rfl, m, h.more hs⟩
theorem Fr.of {tv : AV} {b c : Nat} {σ τ : Store} (hs : Store.sub σ τ) : Fr tv b c σ τ := fun k x _ h => by
  rcases hs k with e | e
  · rw [e] at h; cases h
  · rw [← e]; exact h
theorem TV.ns {σ : Store} {b c : Nat} {tv : AV} {ns : List (List UInt8)} {xs : List Nat} (h : TV σ b c tv ns xs) : ns.length ≤ 64 ∧ ns.Nodup ∧ xs.length = ns.length := by
  rcases h with ⟨rfl, rfl, rfl⟩ | ⟨rfl, m, h⟩
  · simp
  · exact ⟨h.le, h.nd, h.len⟩
theorem cloneL_calls (o : Bool) (l : List (List UInt8)) (hl : l.length ≤ 1000000) (σ : Store) : ACalls Try.prog 25 [.list o 1 (strsA l)] σ fun v σ' => v = .list true 1 (strsA l) ∧ Store.sub σ σ' := by
  refine (clone_calls o l hl σ).shift ?_
  rintro v σ' (⟨rfl, rfl, rfl⟩ | ⟨p, cap, h1, h2, h3, rfl, h4⟩)
  · exact .inl ⟨.list true 1 [], _, AV.le_nil _ _, Store.sub_refl _, rfl, Store.sub_refl _⟩
  · refine .inr ⟨p, cap, 1, strsA l, tops (cap - l.length), by simp, by rw [flat_strs]; exact sub_at (by simp) h4, ?_, h3, by simpa using h2, strsA_cells, _, AV.le_refl _, rfl, ?_⟩
    · rw [flat_strs]; simp [tops]; omega
    · exact sub_del' (Store.sub_trans (Store.sub_upd h1 (Store.sub_refl _)) h4) h1
set_option maxRecDepth 8000 in
theorem names_calls {σ : Store} {b c : Nat} {tv : AV} {ns : List (List UInt8)} {xs : List Nat} (h : TV σ b c tv ns xs) :
    ACalls Try.prog 21 [tv] σ fun v σ' => v = .list true 1 (strsA ns) ∧ TV σ' b c tv ns xs ∧ Fr tv b c σ σ' := by
  refine ACalls.of_awp follows (st := st21) (plans := pl21) (n := 10) Try.func21 rfl (by kernel_rfl) (by kernel_rfl) (by kernel_rfl) ?_
  rcases h with ⟨rfl, rfl, rfl⟩ | ⟨rfl, m, h⟩
  · simp
    exact ⟨_, AV.le_refl _, σ, Store.sub_refl _, rfl, .inl ⟨rfl, rfl, rfl⟩, Fr.refl _ b c _⟩
  · have ho := h.obj
    have hle := h.le
    unfold tS at ho
    simp [ho]
    refine callK.of (cloneL_calls false ns (by omega) _) ?_
    rintro v σ1 ⟨rfl, hs⟩
    simp
    exact ⟨_, AV.le_refl _, σ1, Store.sub_refl _, rfl, .inr ⟨rfl, m, h.more hs⟩, Fr.of hs⟩
theorem ixN_self {ns : List (List UInt8)} (hn : ns.Nodup) {k : Nat} (hk : k < ns.length) : ixN ns (ns.getD k []) = some k := by
  unfold ixN
  rw [List.findIdx?_eq_some_iff_getElem]
  refine ⟨hk, by simp [List.getD_eq_getElem?_getD, hk], fun j hj => ?_⟩
  have hj' : j < ns.length := by omega
  simp only [List.getD_eq_getElem?_getD, List.getElem?_eq_getElem hk, Option.getD_some, beq_iff_eq]
  intro e
  have := (List.getElem_inj hn).1 e
  omega
def zeroTo (xs : List Nat) (k : Nat) : List Nat := List.replicate k 0 ++ xs.drop k
theorem zeroTo_set (xs : List Nat) {k : Nat} (h : k < xs.length) : (zeroTo xs k).set k 0 = zeroTo xs (k + 1) := by
  unfold zeroTo
  rw [List.set_append_right _ _ (by simp), List.length_replicate, Nat.sub_self, List.drop_eq_getElem_cons h, List.set_cons_zero, List.replicate_succ']
  simp
set_option maxRecDepth 8000 in
set_option maxHeartbeats 1000000 in
theorem treset_calls {σ : Store} {b c : Nat} {tv : AV} {ns : List (List UInt8)} {xs : List Nat} (h : TV σ b c tv ns xs) :
    ACalls Try.prog 16 [tv] σ fun v σ' => v = .tuple [] ∧ TV σ' b c tv ns (xs.map fun _ => 0) ∧ Fr tv b c σ σ' := by
  obtain ⟨hl, hn, hxl⟩ := h.ns
  refine ACalls.of_awp follows (st := st16) (plans := pl16) (n := 15) Try.func16 rfl (by kernel_rfl) (by kernel_rfl) (by kernel_rfl) ?_
  have hnm := names_calls h
  have htv : ∃ a, tv = .lit (.pointer a) := by rcases h with ⟨rfl, _, _⟩ | ⟨rfl, _⟩ <;> exact ⟨_, rfl⟩
  obtain ⟨a, rfl⟩ := htv
  simp
  refine callK.of hnm ?_
  rintro v σ1 ⟨rfl, h1, hf⟩
  simp
  refine codeK.loop follows (st := st16) (plans := pl16) (X := Nat × Store) (fun x => x.1 ≤ ns.length ∧ TV x.2 b c (.lit (.pointer a)) ns (zeroTo xs x.1) ∧ Fr (.lit (.pointer a)) b c σ x.2)
    (fun x => [(0, .lit (.pointer a)), (5, .list true 1 (strsA ns)), (6, .lit (.int .i64 ns.length)), (7, .lit (.int .i64 x.1))]) (fun x => x.2) (fun x => ns.length - x.1) (0, σ1) (by kernel_rfl) ⟨Nat.zero_le _, h1, hf⟩ (by simp) (Store.sub_refl _) ?_
  rintro ⟨k, τ⟩ ⟨hk, hT, hF⟩
  dsimp only at hk hT hF ⊢
  by_cases hlt : k < ns.length
  · obtain ⟨x, hx⟩ : ∃ x, ns.getD k [] = x := ⟨_, rfl⟩
    have hx2 : ns[k] = x := by rw [← hx]; simp [List.getD_eq_getElem?_getD, hlt]
    have hg1 : (strsA ns)[k]? = some (.lit (.string (toB x))) := by simp [strsA, strV, hlt, hx2]
    have hg2 : ∀ h : k < (strsA ns).length, (strsA ns)[k]'h = .lit (.string (toB x)) := fun h => by simp [strsA, strV, hx2]
    have hix := ixN_self hn hlt
    rw [hx] at hix
    have htk := ttake_calls x hT
    have e0 : updX (zeroTo xs k) (some k) (fun _ => 0) = zeroTo xs (k + 1) := zeroTo_set xs (by omega)
    rw [hix, e0] at htk
    have hlw : IntKind.i64.wrap ((k : Int) + 1) = ((k + 1 : Nat) : Int) := wrap_i64 (by omega) (by omega)
    simp [hlt, hg1, hg2]
    refine callK.of htk ?_
    rintro v σ2 ⟨rfl, h2, hf2⟩
    simp
    exact ⟨k + 1, σ2, ⟨by omega, h2, hF.trans hf2⟩, by omega, by rw [hlw]; exact AV.le_refl _, Store.sub_refl _⟩
  · obtain rfl : k = ns.length := by omega
    simp
    have e0 : zeroTo xs ns.length = xs.map fun _ => 0 := by
      unfold zeroTo
      rw [List.drop_of_length_le (by omega), ← hxl]
      simp [List.map_const']
    rw [e0] at hT
    exact ⟨_, AV.le_refl _, τ, Store.sub_refl _, rfl, hT, hF⟩
end Go.Proofs.Ytgelodhkbpmlfaa
