/-
  A page is built: its signs, and the codes of its signs.
-/
import Derived.Test.YtkjcdnmjdanmpaaVPart10
import Derived.Tactics
import Derived.Tactics2
import Derived.Defers
import Derived.Laws.Pointers
import Derived.Laws.LoneSync
import Derived.RegionTactic
import Derived.RegionCalls
import Derived.ChangeAlike
import Derived.Lib.Builder
import Derived.Lib.AppendStr
import Derived.Lib.RuneBytes
import Derived.Laws.AppendOwn
import Derived.Lib.UnsafeStr
import Derived.Lib.Walk
import Derived.Laws.Externs
import Derived.OwnWalk
set_option linter.unusedSimpArgs false
set_option linter.unusedVariables false
namespace Go.Proofs.Ytkjcdnmjdanmpaa
open Go Go.AL

abbrev pgP (b : Nat) : AV := .lit (.pointer (some ⟨b, 0, none⟩))
def sgF (n : Int) (c : Nat) : Nat := (signsF n).getD c 0
/-- The codes of the first signs. -/
def codesN (n : Int) (k : Nat) : List (Value × AV) := (List.range k).map fun c => (.int .i32 ((sgF n c : Nat) : Int), .lit (.int .u8 (c : Int)))
theorem findA_map (f : Nat → Int) (s : Int) : ∀ (l : List Nat) (i : Nat), findA (.int .i32) (.int .i32 s) (l.map fun c => (.int .i32 (f c), .lit (.int .u8 (c : Int)))) i =
    some ((l.findIdx? (fun c => f c == s)).map fun j => (i + j, .lit (.int .u8 ((l.getD j 0 : Nat) : Int)))) := by
  intro l
  induction l with
  | nil => intro i; rfl
  | cons c l ih =>
    intro i
    by_cases h : s = f c
    · have h' : (f c == s) = true := by simp [h]
      simp [findA, Instr.sameNow, h, List.findIdx?_cons]
    · have h' : (f c == s) = false := by simpa using fun e => h e.symm
      have h2 : (s == f c) = false := by simpa using h
      simp only [List.map_cons, findA, Instr.sameNow, if_true, h2, ih, List.findIdx?_cons, h', Bool.false_eq_true, if_false, Option.map_map]
      congr 1
      cases l.findIdx? (fun c => f c == s) with
      | none => rfl
      | some j => simp; omega
theorem sgF_inj {n : Int} (hn : isPage n) {c d : Nat} (hc : c < 256) (hd : d < 256) (h : sgF n c = sgF n d) : c = d := by
  have hl := signsF_length n
  have hnd := signsF_nodup hn
  unfold sgF at h
  rw [List.getD_eq_getElem?_getD, List.getD_eq_getElem?_getD, List.getElem?_eq_getElem (by omega), List.getElem?_eq_getElem (by omega)] at h
  exact (List.getElem_inj hnd).1 h
theorem setA_codes {n : Int} (hn : isPage n) {k : Nat} (hk : k < 256) : setA (.int .i32) (codesN n k) (.int .i32 ((sgF n k : Nat) : Int)) (.lit (.int .u8 (k : Int))) = some (codesN n (k + 1)) := by
  have hf : (List.range k).findIdx? (fun c => ((sgF n c : Nat) : Int) == ((sgF n k : Nat) : Int)) = none := by
    rw [List.findIdx?_eq_none_iff]
    intro c hc
    have hck : c < k := by simpa using hc
    have : sgF n c ≠ sgF n k := fun e => by have := sgF_inj hn (by omega) hk e; omega
    simpa using fun e => this (by omega)
  unfold setA codesN
  rw [findA_map (fun c => ((sgF n c : Nat) : Int)), hf]
  simp [List.range_succ]
/-- A sign's code. -/
def codeIx (n : Int) (s : Int) : Option Nat := (List.range 256).findIdx? (fun c => ((sgF n c : Nat) : Int) == s)
/-- Signs laid one behind the other. -/
def upto (b : List Nat) (s : List Nat) (n : Nat) : List Nat := b.take n ++ s.drop n
theorem upto_length {b s : List Nat} (h : b.length = s.length) (n : Nat) : (upto b s n).length = s.length := by simp [upto]; omega
theorem upto_set {b s : List Nat} (h : b.length = s.length) {n : Nat} (hn : n < b.length) : (upto b s n).set n (b.getD n 0) = upto b s (n + 1) := by
  unfold upto
  rw [List.set_append_right _ _ (by simp; omega)]
  have e1 : n - (b.take n).length = 0 := by simp; omega
  rw [e1, List.drop_eq_getElem_cons (by omega), List.set_cons_zero, List.getD_eq_getElem?_getD, List.getElem?_eq_getElem hn]
  have e2 : b.take (n + 1) = b.take n ++ [b[n]] := List.take_succ_eq_append_getElem hn
  rw [e2, List.append_assoc]
  rfl
theorem row_base : ∀ i < 16, ∀ j < 16, (rowsL.getD i []).getD j 0 = baseL.getD (16 * i + j) 0 := by decide +kernel
theorem row_len : ∀ i < 16, (rowsL.getD i []).length = 16 := by decide +kernel
theorem base_lt (n : Nat) : baseL.getD n 0 < 65536 := by
  rw [List.getD_eq_getElem?_getD]
  cases h : baseL[n]? with
  | none => simp
  | some z => exact base_small z (List.mem_of_getElem? h)
theorem rowU_get {i j : Nat} (hi : i < 16) (hj : j < 16) : (rowU (rowsL.getD i []))[j]? = some (.lit (.int .u16 ((baseL.getD (16 * i + j) 0 : Nat) : Int))) := by
  have hl := row_len i hi
  rw [← row_base i hi j hj]
  unfold rowU
  rw [List.getElem?_map, List.getD_eq_getElem?_getD (l := rowsL.getD i [])]
  rw [List.getElem?_eq_getElem (by omega)]
  rfl
theorem others_len (n : Int) : (othersF n).length ≤ 25 := by
  unfold othersF
  repeat' split
  all_goals decide
theorem mkAV_true (cs : List AV) : mkAV true cs = some (.agg cs) := nr (by unfold mkAV; rfl)
/-- Some other signs laid. -/
def sgK (O : List (Nat × Nat)) (k : Nat) : List Nat := (O.take k).foldl (fun l o => l.set o.1 o.2) baseL
theorem sgK_length (O : List (Nat × Nat)) (k : Nat) : (sgK O k).length = 256 := by rw [sgK, signs_set, baseL_length]
theorem sgK_succ (O : List (Nat × Nat)) {k : Nat} (h : k < O.length) : sgK O (k + 1) = (sgK O k).set O[k].1 O[k].2 := by
  unfold sgK
  have e : O.take (k + 1) = O.take k ++ [O[k]] := List.take_succ_eq_append_getElem h
  rw [e, List.foldl_append]; rfl
set_option maxRecDepth 8000 in
set_option maxHeartbeats 2000000 in
theorem build_calls (b : Nat) (p : Pgs) (hp : p.sg.length = 256) (hn : isPage p.num) (σ : Store) (hb : σ b = some (pgA p)) :
    ACalls Try.prog 40 [pgP b] σ fun v σ' => v = .tuple [] ∧ ∃ q : Nat, σ (mkey q) = none ∧ σ' = (σ.upd b (pgA { p with sg := signsF p.num, cd := .lit (.map (some q)) })).put q (mapA (codesN p.num 256)) := by
  have hbl := baseL_length
  have hul := fun n => upto_length (b := baseL) (s := p.sg) (by omega) n
  refine ACalls.of_awp follows (st := st40) (plans := pl40) (n := 76) Try.func40 rfl (by kernel_rfl) (by kernel_rfl) (by kernel_rfl) ?_
  simp
  refine codeK.loop follows (st := st40) (plans := pl40) (X := Nat) (fun i => i ≤ 16)
    (fun i => [(0, pgP b), (11, .lit (.int .i64 i))]) (fun i => σ.upd b (pgA { p with sg := upto baseL p.sg (16 * i) })) (fun i => 16 - i) 0 (by kernel_rfl) (Nat.zero_le _) (by simp) ?_ fun i hi => ?_
  · have e : upto baseL p.sg (16 * 0) = p.sg := rfl
    rw [e, upd_back hb]; exact Store.sub_refl _
  by_cases hlt : i < 16
  · have hlt' : (i : Int) < 16 := by omega
    have hrow := fun τ => row_calls i hlt τ
    have hgR := fun j (hj : j < 16) => rowU_get hlt hj
    have hrl : (rowU (rowsL.getD i [])).length = 16 := by unfold rowU; rw [List.length_map, row_len i hlt]
    generalize rowU (rowsL.getD i []) = R at *
    simp [hlt']
    refine callK.of (hrow _) ?_
    rintro v σ1 ⟨rfl, rfl⟩
    simp
    refine codeK.loop follows (st := st40) (plans := pl40) (X := Nat) (fun j => j ≤ 16)
      (fun j => [(0, pgP b), (2, .lit (.int .i64 i)), (11, .lit (.int .i64 i)), (15, .agg R), (16, .lit (.int .i64 j))]) (fun j => σ.upd b (pgA { p with sg := upto baseL p.sg (16 * i + j) })) (fun j => 16 - j) 0 (by kernel_rfl) (Nat.zero_le _) (by simp) (Store.sub_refl _) fun j hj => ?_
    by_cases hjl : j < 16
    · have hjl' : (j : Int) < 16 := by omega
      have hg := hgR j hjl
      obtain ⟨m, hm⟩ : ∃ m, 16 * i + j = m := ⟨_, rfl⟩
      have hm1 : 16 * i + (j + 1) = m + 1 := by omega
      rw [hm] at hg ⊢
      have hmlt : m < 256 := by omega
      have hmlt' : (m : Int) < 256 := by omega
      have hz := base_lt m
      have hset := upto_set (b := baseL) (s := p.sg) (by omega) (n := m) (by omega)
      have hpl := pgA_length (p := { p with sg := upto baseL p.sg m }) (by dsimp only; rw [hul]; exact hp)
      have hps := fun z => pgA_setSg (p := { p with sg := upto baseL p.sg m }) (i := m) z (by dsimp only; rw [hul]; omega)
      have hps := hps (baseL.getD m 0)
      dsimp only at hps hpl
      rw [hset] at hps
      generalize baseL.getD m 0 = z at *
      have hw1 : IntKind.i64.wrap (16 * (i : Int)) = 16 * (i : Int) := by rw [wrap_i64 (by omega) (by omega)]
      have hw2 : IntKind.i64.wrap (16 * (i : Int) + (j : Int)) = (m : Int) := by rw [wrap_i64 (by omega) (by omega)]; omega
      have hw3 : IntKind.i32.wrap (z : Int) = z := by unfold IntKind.wrap; simp [IntKind.signed, IntKind.bits]; omega
      have hw4 : IntKind.i64.wrap ((j : Int) + 1) = ((j + 1 : Nat) : Int) := wrap_i64 (by omega) (by omega)
      simp [hjl', hg, hw1, hw2, hw3, hpl, hps, hmlt']
      exact ⟨by omega, j + 1, by omega, by omega, by rw [hw4]; exact AV.le_refl _, by rw [hm1]; exact Store.sub_refl _⟩
    · obtain rfl : j = 16 := by omega
      simp
      have hw1 : IntKind.i64.wrap ((i : Int) + 1) = ((i + 1 : Nat) : Int) := wrap_i64 (by omega) (by omega)
      exact ⟨i + 1, by omega, by omega, by rw [hw1]; exact AV.le_refl _, by rw [show 16 * (i + 1) = 16 * i + 16 by omega]; exact Store.sub_refl _⟩
  · obtain rfl : i = 16 := by omega
    have hu0 : upto baseL p.sg (16 * 16) = baseL := by unfold upto; rw [List.take_of_length_le (by omega), List.drop_of_length_le (by omega), List.append_nil]
    have hnum := pgA_num { p with sg := baseL }
    have hoth := fun τ => others_calls p.num τ
    dsimp only at hnum
    simp only [hu0]
    simp [hnum]
    refine callK.of (hoth _) ?_
    rintro v σ1 ⟨rfl, rfl⟩
    have hsm := others_small p.num
    have hOl := others_len p.num
    have hsF : (othersF p.num).foldl (fun l o => l.set o.1 o.2) baseL = signsF p.num := rfl
    generalize hO : othersF p.num = O at *
    simp
    refine codeK.loop follows (st := st40) (plans := pl40) (X := Nat) (fun k => k ≤ O.length)
      (fun k => [(0, pgP b), (40, .list false 2 (othA O)), (41, .lit (.int .i64 O.length)), (42, .lit (.int .i64 k))]) (fun k => σ.upd b (pgA { p with sg := sgK O k })) (fun k => O.length - k) 0 (by kernel_rfl) (Nat.zero_le _) (by simp) (Store.sub_refl _) fun k hk => ?_
    have hskl := sgK_length O k
    by_cases hkl : k < O.length
    · obtain ⟨o, ho⟩ : ∃ o, O[k] = o := ⟨_, rfl⟩
      have hos := hsm o (by rw [← ho]; exact List.getElem_mem ..)
      have hgo : ∀ q : k < (othA O).length, (othA O)[k]'q = .agg [.lit (.int .u8 (o.1 : Int)), .lit (.int .u16 (o.2 : Int))] := fun q => by simp [othA, ho]
      have hkl' : (k : Int) < O.length := by omega
      have hset : (sgK O k).set o.1 o.2 = sgK O (k + 1) := by rw [sgK_succ O hkl, ho]
      have hpl := pgA_length (p := { p with sg := sgK O k }) (by dsimp only; omega)
      have hps := pgA_setSg (p := { p with sg := sgK O k }) (i := o.1) o.2 (by dsimp only; omega)
      dsimp only at hps hpl
      rw [hset] at hps
      obtain ⟨c, z⟩ := o
      dsimp only at hos hps hgo
      have hc' : (c : Int) < 256 := by omega
      have hw3 : IntKind.i32.wrap (z : Int) = z := by unfold IntKind.wrap; simp [IntKind.signed, IntKind.bits]; omega
      have hw4 : IntKind.i64.wrap ((k : Int) + 1) = ((k + 1 : Nat) : Int) := wrap_i64 (by omega) (by omega)
      simp [hkl, hkl', hgo]
      intro q hq0
      obtain ⟨hqb, hq⟩ : ¬ q = b ∧ σ q = none := by
        split at hq0
        · cases hq0
        · exact ⟨by assumption, hq0⟩
      have hbq : ¬ b = q := fun e => hqb e.symm
      simp [hpl, hps, hc', hw3, hbq]
      exact ⟨by omega, k + 1, by omega, by omega, by rw [hw4]; exact AV.le_refl _, sub_box2 hq hbq⟩
    · obtain rfl : k = O.length := by omega
      have hall : sgK O O.length = signsF p.num := by unfold sgK; rw [List.take_length, hsF]
      have hSl := signsF_length p.num
      have hpl := pgA_length (p := { p with sg := signsF p.num }) hSl
      have hcd := fun c => pgA_setCd (p := { p with sg := signsF p.num }) hSl c
      have hpl2 := fun c => pgA_length (p := { p with sg := signsF p.num, cd := c }) hSl
      have hsg := fun c => pgA_sgs (p := { p with sg := signsF p.num, cd := c }) hSl
      have hcdg := fun c => pgA_cd (p := { p with sg := signsF p.num, cd := c }) hSl
      have hgS : ∀ c, c < 256 → (sgA (signsF p.num))[c]? = some (.lit (.int .i32 ((sgF p.num c : Nat) : Int))) := fun c hc => by
        rw [sgA_get _ (by omega)]
        unfold sgF
        rw [List.getD_eq_getElem?_getD, List.getElem?_eq_getElem (by omega)]
        rfl
      have hset := fun c (hc : c < 256) => setA_codes hn hc
      have hSA : (sgA (signsF p.num)).length = 256 := by rw [sgA_length, hSl]
      have hdS : (sgA (signsF p.num)).map AV.drop1 = sgA (signsF p.num) := by simp [sgA, Function.comp_def, AV.drop1]
      rw [hall]
      dsimp only at hpl hcd hpl2 hsg hcdg
      generalize sgA (signsF p.num) = S at *
      simp [hpl, hcd, hpl2, hsg]
      intro q hq
      simp [mkAV_true]
      refine codeK.loop follows (st := st40) (plans := pl40) (X := Nat) (fun c => c ≤ 256)
        (fun c => [(0, pgP b), (63, .agg S), (64, .lit (.int .i64 c))]) (fun c => (σ.upd b (pgA { p with sg := signsF p.num, cd := .lit (.map (some q)) })).put q (mapA (codesN p.num c))) (fun c => 256 - c) 0 (by kernel_rfl) (Nat.zero_le _) (by simp [hdS]) (Store.sub_refl _) fun c hc => ?_
      by_cases hcl : c < 256
      · have hcl' : (c : Int) < 256 := by omega
        have h1 : ∀ q : c < S.length, S[c]'q = .lit (.int .i32 ((sgF p.num c : Nat) : Int)) := fun q => by
          have := hgS c hcl
          rw [List.getElem?_eq_getElem q] at this
          exact Option.some.inj this
        have h2 := hset c hcl
        have hw1 : IntKind.u8.wrap (c : Int) = c := by unfold IntKind.wrap; simp [IntKind.signed, IntKind.bits]; omega
        have hw2 : IntKind.i64.wrap ((c : Int) + 1) = ((c + 1 : Nat) : Int) := wrap_i64 (by omega) (by omega)
        simp [hcl, hcl', h1, hSA, hcdg, hw1, h2]
        exact ⟨c + 1, by omega, by omega, by rw [hw2]; exact AV.le_refl _, Store.sub_refl _⟩
      · obtain rfl : c = 256 := by omega
        simp
        exact ⟨_, AV.le_refl _, _, Store.sub_refl _, rfl, q, hq, rfl⟩
end Go.Proofs.Ytkjcdnmjdanmpaa
/-
  sync.Once: what it calls, step by step (turned from the kit's worked Lazy proofs): the lock, the mark, the two calls that are deferred; then doSlow, for any function whose contract is known.
-/
namespace Go.Proofs.Ytkjcdnmjdanmpaa
open Go Go.AL

theorem oDisable (w : World) : (callFunc 59 #[]).run Try.prog w = .ok (.value (.tuple #[])) w := run_call_mark0 Try.func59 (by kernel_rfl) (by kernel_rfl) (by kernel_rfl) .disable (by kernel_rfl) w
theorem oEnable (w : World) : (callFunc 61 #[]).run Try.prog w = .ok (.value (.tuple #[])) w := run_call_mark0 Try.func61 (by kernel_rfl) (by kernel_rfl) (by kernel_rfl) .enable (by kernel_rfl) w
theorem oAcquire (a : Addr) (w : World) : (callFunc 62 #[.pointer (some a)]).run Try.prog w = .ok (.value (.tuple #[])) w := run_call_marked Try.func62 (by kernel_rfl) (by kernel_rfl) (by kernel_rfl) .acquire (by kernel_rfl) a w
theorem oRelease (a : Addr) (w : World) : (callFunc 64 #[.pointer (some a)]).run Try.prog w = .ok (.value (.tuple #[])) w := run_call_marked Try.func64 (by kernel_rfl) (by kernel_rfl) (by kernel_rfl) .releaseMerge (by kernel_rfl) a w

set_option maxRecDepth 100000 in
theorem oStore (a : Addr) (x : Value) (u : FrameMode) (w : World) (hc : w.cell? a = some x) (hz : w.frozen? a = false) :
    CallsD Try.prog 54 #[.pointer (some a), .bool true] u w fun e u' w' => u' = u ∧ (e = .returned (.tuple #[]) ∧ w' = w.drew.setCell a (.int .u32 1)) := by
  have hc' : w.drew.cell? a = some x := by go_simp
  have hz' : w.drew.frozen? a = false := by go_simp
  have hst := run_call_store (P := Try.prog) Try.func57 (by kernel_rfl) (by kernel_rfl) (by kernel_rfl) (by kernel_rfl) (k := .u32) (y := 1) hc' hz'
  go_enter_d Try.func54, Try.ntmps54
  go_wp2
  go_region_calls
  all_goals (go_end0; exact ⟨rfl, rfl⟩)

set_option maxRecDepth 100000 in
theorem oUnlock (a : Addr) (u : FrameMode) (w : World) (hc : w.cell? a = some (.int .i32 1)) (hz : w.frozen? a = false) :
    CallsD Try.prog 53 #[.pointer (some a)] u w fun e u' w' => u' = u ∧ (e = .returned (.tuple #[]) ∧ w' = w.setCell a (.int .i32 0)) := by
  have hd := oDisable
  have he := oEnable
  have hr := oRelease
  have hadd := run_call_add (P := Try.prog) Try.func65 (by kernel_rfl) (by kernel_rfl) (by kernel_rfl) .i32 (by kernel_rfl) (y := -1) (s := 0) hc hz (by simp [go_sem]; rfl)
  have hcv := run_convert_to_unsafe (P := Try.prog) (src := 140) (dst := 117) Try.underlying140 Try.underlying117 (by kernel_rfl) hc
  go_enter_d Try.func53, Try.ntmps53
  go_wp2
  go_end0
  go_wp2
  go_end0
  exact ⟨rfl, rfl⟩

set_option maxRecDepth 100000 in
theorem oLock (a : Addr) (w : World) (hc : w.cell? a = some (.int .i32 0)) (hz : w.frozen? a = false) :
    Calls Try.prog 52 #[.pointer (some a)] w fun e w' => e = .returned (.tuple #[]) ∧ w' = w.setCell a (.int .i32 1) := by
  have hd := oDisable
  have he := oEnable
  have ha := oAcquire
  have hcas := run_call_cas_hit (P := Try.prog) Try.func60 (by kernel_rfl) (by kernel_rfl) (by kernel_rfl) .i32 (by kernel_rfl) (y := 1) hc hz
  have hc' : (w.setCell a (.int .i32 1)).cell? a = some (.int .i32 1) := World.cell?_setCell_same w a _ hc
  have hcv := run_convert_to_unsafe (P := Try.prog) (src := 140) (dst := 117) Try.underlying140 Try.underlying117 (by kernel_rfl) hc'
  go_enter Try.func52, Try.ntmps52
  go_wp2
  first | go_end0 | (simp only [Exit.inBlock, Exit.then]; refine bodyPost_ret (results_none rfl _ _ _) rfl ?_) | refine bodyPost_ret (results_none rfl _ _ _) rfl ?_
  go_wp2
  go_end0
  exact ⟨rfl, rfl⟩
set_option maxRecDepth 100000 in
set_option maxHeartbeats 1600000 in
theorem oSlow (b : Nat) (w : World) (R : World → Prop) (h0 : w.cell? ⟨b, 1, none⟩ = some (.int .u32 0)) (h1 : w.cell? ⟨b, 2, none⟩ = some (.int .i32 0)) (f1 : w.frozen? ⟨b, 2, none⟩ = false)
    (hin : Calls Try.prog 40 #[.pointer (some ⟨b, 0, none⟩)] (w.setCell ⟨b, 2, none⟩ (.int .i32 1)) fun e w' => e = .returned (.tuple #[]) ∧ R w')
    (hR : ∀ w', R w' → w'.cell? ⟨b, 2, none⟩ = some (.int .i32 1) ∧ (∃ x, w'.cell? ⟨b, 1, none⟩ = some x) ∧ w'.frozen? ⟨b, 1, none⟩ = false ∧ w'.frozen? ⟨b, 2, none⟩ = false) :
    Calls Try.prog 48 #[.pointer (some ⟨b, 1, none⟩), .func (.func 40) #[.pointer (some ⟨b, 0, none⟩)] #[]] w fun e w' => e = .returned (.tuple #[]) ∧
      ∃ w2, R w2 ∧ w' = (w2.drew.setCell ⟨b, 1, none⟩ (.int .u32 1)).setCell ⟨b, 2, none⟩ (.int .i32 0) := by
  have hl := run_call_load (P := Try.prog) Try.func51 (by kernel_rfl) (by kernel_rfl) (by kernel_rfl) .u32 (by kernel_rfl) (w := w.setCell ⟨b, 2, none⟩ (.int .i32 1)) (a := ⟨b, 1, none⟩) (x := 0) ((World.cell?_setCell_other _ ⟨b, 2, none⟩ ⟨b, 1, none⟩ _ (by simp)).trans h0)
  have hnot : ∀ (x : Bool) (w : World), (Op.unary .not (.bool x)).run Try.prog w = .ok (.bool (!x)) w := fun _ _ => rfl
  go_enter_defers Try.func48, Try.ntmps48
  go_wp2_with (go_at_call 52; refine (oLock ⟨b, 2, none⟩ _ (by go_simp) (by go_simp)).mono ?_; rintro e w' ⟨rfl, rfl⟩)
  go_in
  go_wp2_with (go_at_call 40; refine hin.mono ?_; rintro e w' ⟨rfl, hw'⟩)
  obtain ⟨q2, ⟨x, q1⟩, z1, z2⟩ := hR _ hw'
  refine leaves_cons (f := 54) (args := #[.pointer (some ⟨b, 1, none⟩), .bool true]) (by simp) (by simp [go_sem]) ?_
  refine (oStore ⟨b, 1, none⟩ x .returning _ q1 z1).mono ?_
  rintro e u' w'' ⟨rfl, rfl, rfl⟩
  refine leaves_cons (f := 53) (args := #[.pointer (some ⟨b, 2, none⟩)]) (by simp [settle]) (by simp [go_sem]) ?_
  refine (oUnlock ⟨b, 2, none⟩ _ _ ?_ (by simp [z2])).mono ?_
  · refine (World.cell?_setCell_other _ ⟨b, 1, none⟩ ⟨b, 2, none⟩ _ (by simp)).trans ?_
    rw [World.cell?_drew]
    exact q2
  rintro e u' w'' ⟨rfl, rfl, rfl⟩
  simp [Leaves, settle, results, Try.results48]
  exact ⟨_, hw', rfl⟩
end Go.Proofs.Ytkjcdnmjdanmpaa
/-
  sync.Once as abstract states: a page is built the first time; from then on nothing is done.
-/
namespace Go.Proofs.Ytkjcdnmjdanmpaa
open Go Go.AL

theorem ext_setCell {D : Nat → Prop} {G : Ghost} {w : World} (b i : Nat) (u : Value) (hD : D b) : Ext D G w G (w.setCell ⟨b, i, none⟩ u) :=
  ⟨rfl, rfl, rfl, by simp [World.setCell], fun _ _ _ h => h, fun k hk => ⟨RowKit.Below.heap_setCell w _ u k (fun e => hk (e ▸ hD)), rfl, rfl⟩⟩
/-- A cell of an object that is known. -/
theorem obj_cell {D : Nat → Prop} {G : Ghost} {σ : Store} {w : World} (hW : WR D G σ w) {b : Nat} {cs : List AV} (hb : σ b = some cs) {i : Nat} {v : Value} (hi : cs[i]? = some (.lit v)) : w.cell? ⟨b, i, none⟩ = some v ∧ w.frozen? ⟨b, i, none⟩ = false := by
  obtain ⟨_, _, _, cur, e, hh, hl, hc⟩ := hW.obj b cs hb
  have hlt := (List.getElem?_eq_some_iff.1 hi).1
  have hu : cur[i]? = some (cur[i]'(by omega)) := by simp
  have := (hc i _ _ hi hu).2.1.lit_eq rfl
  refine ⟨?_, by simp [World.frozen?, hh]⟩
  simp [World.cell?, hh, show i < cur.size by omega, this]
theorem pgA_setMu (p : Pgs) (n : Int) : (pgA p).set 2 (.lit (.int .i32 n)) = pgA { p with mu := n } := rfl
theorem pgA_setDone (p : Pgs) (n : Int) : (pgA p).set 1 (.lit (.int .u32 n)) = pgA { p with done := n } := rfl
/-- A page that is built. -/
def Pgs.built (n : Int) (q : Nat) : Pgs := ⟨n, 1, 0, signsF n, .lit (.map (some q))⟩
def Pgs.mid (n : Int) (q : Nat) : Pgs := ⟨n, 0, 1, signsF n, .lit (.map (some q))⟩
def PgTo (b : Nat) (n : Int) (σ σ' : Store) : Prop := ∃ q : Nat, σ (mkey q) = none ∧ σ' = (σ.upd b (pgA (.built n q))).put q (mapA (codesN n 256))
theorem slow_calls (b : Nat) (n : Int) (hn : isPage n) (σ : Store) (hb : σ b = some (pgA (.new n))) :
    ACalls Try.prog 48 [.lit (.pointer (some ⟨b, 1, none⟩)), .func (.func 40) [pgP b] []] σ fun v σ' => v = .tuple [] ∧ PgTo b n σ σ' := by
  intro D G w cargs hl hargs hW hfresh
  have hsz : cargs.size = 2 := by simpa using hl.symm
  obtain ⟨c0, c1, rfl⟩ : ∃ c0 c1, cargs = #[c0, c1] := ⟨cargs[0], cargs[1], by
    apply Array.ext
    · simp [hsz]
    · intro i h1 h2
      match i with
      | 0 => rfl
      | 1 => rfl
      | _ + 2 => simp at h2; omega⟩
  have h0 := (hargs 0 _ c0 rfl rfl).1.lit_eq rfl
  have h1 := (hargs 1 _ c1 rfl rfl).1
  subst h0
  obtain rfl : c1 = .func (.func 40) #[.pointer (some ⟨b, 0, none⟩)] #[] := by
    cases h1 with
    | func _ _ _ ufs ucs e1 e2 e3 e4 =>
      have s2 : ucs = #[] := by simpa using e2.symm
      obtain ⟨u, rfl⟩ : ∃ u, ufs = #[u] := ⟨ufs[0]'(by simp at e1; omega), by
        apply Array.ext
        · simpa using e1.symm
        · intro i h1 h2
          match i with
          | 0 => rfl
          | _ + 1 => simp at h2⟩
      have := (e3 0 _ u rfl rfl).lit_eq rfl
      rw [s2, this]
  obtain ⟨hD, _, _, cur, e, hh, hlen, hcells⟩ := hW.obj b _ hb
  obtain ⟨d1, d2⟩ := obj_cell hW hb (i := 1) (v := .int .u32 0) rfl
  obtain ⟨m1, m2⟩ := obj_cell hW hb (i := 2) (v := .int .i32 0) rfl
  have hW1 := hW.setObj hb (i := 2) (by rw [pgA_new_length]; omega) (c := .lit (.int .i32 1)) (u := .int .i32 1) rfl (.lit _) trivial
  rw [pgA_setMu] at hW1
  have hbc := build_calls b { Pgs.new n with mu := 1 } List.length_replicate hn (σ.upd b (pgA { Pgs.new n with mu := 1 })) (by simp)
  have hin := hbc D G (w.setCell ⟨b, 2, none⟩ (.int .i32 1)) #[.pointer (some ⟨b, 0, none⟩)] rfl (fun i c u hc hu => by
    match i with
    | 0 => simp at hc hu; subst hc hu; exact ⟨.lit _, OwnAt.of_plain rfl⟩
    | _ + 1 => simp at hc) hW1 (fun k hk => hfresh k (by simpa [World.setCell] using hk))
  refine (oSlow b w (fun w' => ∃ G' σ', (∃ q : Nat, σ (mkey q) = none ∧ σ' = (σ.upd b (pgA (.mid n q))).put q (mapA (codesN n 256))) ∧ WR D G' σ' w' ∧ Ext D G (w.setCell ⟨b, 2, none⟩ (.int .i32 1)) G' w') d1 m1 m2 (hin.mono ?_) ?_).mono ?_
  · rintro e w' ⟨v, cv, G', σ', rfl, ⟨rfl, q, hq, rfl⟩, hv, _, hW2, hx⟩
    have hcv : cv = .tuple #[] := by
      cases hv with
      | tuple _ us e1 _ => have : us = #[] := by simpa using e1.symm
                           rw [this]
    subst hcv
    exact ⟨rfl, G', _, ⟨q, by simpa using hq, by rw [supd_supd]; rfl⟩, hW2, hx⟩
  · rintro w' ⟨G', σ', ⟨q, hq, rfl⟩, hW2, hx⟩
    have hb2 : ((σ.upd b (pgA (.mid n q))).put q (mapA (codesN n 256))) b = some (pgA (.mid n q)) := by simp
    obtain ⟨x1, x2⟩ := obj_cell hW2 hb2 (i := 1) (v := .int .u32 0) rfl
    obtain ⟨y1, y2⟩ := obj_cell hW2 hb2 (i := 2) (v := .int .i32 1) rfl
    exact ⟨y1, ⟨_, x1⟩, x2, y2⟩
  · rintro e w' ⟨rfl, w2, ⟨G', σ', ⟨q, hq, rfl⟩, hW2, hx⟩, rfl⟩
    have hb2 : ((σ.upd b (pgA (.mid n q))).put q (mapA (codesN n 256))) b = some (pgA (.mid n q)) := by simp
    have hl2 : (pgA (.mid n q)).length = 261 := pgA_length (signsF_length n)
    have hW3 := hW2.drew.setObj hb2 (i := 1) (by omega) (c := .lit (.int .u32 1)) (u := .int .u32 1) rfl (.lit _) trivial
    rw [pgA_setDone] at hW3
    have hW4 := hW3.setObj (o := b) (cs := pgA { Pgs.mid n q with done := 1 }) (by simp) (i := 2) (by rw [pgA_length (signsF_length n)]; omega) (c := .lit (.int .i32 0)) (u := .int .i32 0) rfl (.lit _) trivial
    rw [pgA_setMu, supd_supd] at hW4
    refine ⟨.tuple [], .tuple #[], G', _, rfl, ⟨rfl, q, hq, ?_⟩, .tuple _ _ rfl (by simp), OwnAt.of_plain rfl, hW4, (ext_setCell b 2 _ hD).trans (hx.trans (Ext.drew.trans ((ext_setCell b 1 _ hD).trans (ext_setCell b 2 _ hD))))⟩
    simp
    rfl
end Go.Proofs.Ytkjcdnmjdanmpaa
/-
  strings.Builder, step by step (turned from the kit's worked proofs): copyCheck, WriteRune.
-/
namespace Go.Proofs.Ytkjcdnmjdanmpaa
open Go Go.AL Go.RowKit

theorem run_append_lst {P : Program} (w : World) (t ty e : TypeId) (i : TypeInfo) (ht : P.underlying t = some (.slice e)) (hi : P.info? e = some i) (hz : i.zero = some (.int .u8 0))
    (hsize : i.size = 1) (hby : i.bytes = 1) (v : Value) (n : Nat) (xs : List Value) (hown : w.ownsRow 0 e 1 v n xs) (ad : Addr) (m c : Nat) (news : List Value) (hl : news.length = m) (hm : 0 < m) (hnews : ∀ j u, news[j]? = some u → w.cell? (ad.add j) = some u) (h1 : ∀ u ∈ news, u.oneCell' = true)
    (hbytes : n + m ≤ 140737488355328) :
    ∃ v' w', (Builtin.append_ #[t, t] ty #[v, .slice (some ad) m c]).run P w = .ok v' w' ∧ w'.ownsRow 0 e 1 v' (n + m) (xs ++ news) ∧ w.grownBy w' v.ownBlock ∧
      (v'.ownBlock = v.ownBlock ∨ v'.ownBlock = some w.heap.size) := by
  have hl1 : news.length = m * i.size := by rw [hsize]; omega
  have hzs : (Value.int .u8 0).cells.size = 1 := rfl
  obtain ⟨v', w', hr, q1, q2, q3⟩ := run_append_own (P := P) w 0 t ty e i (.int .u8 0) 1 1 ht hi hz hsize hby hzs (by omega) v n xs hown ad m c news (by omega) hnews h1 (by unfold maxLen; omega) (by omega) (Nat.zero_le _)
  refine ⟨v', w', hr, q1, q2, ?_⟩
  rcases hown.2 with ⟨rfl, rfl⟩ | ⟨g, cap, cur, rfl, hbg, hg, hnc, hcm, hcs, htake⟩
  · have hr' := run_append_nil (P := P) w t ty e i (.int .u8 0) ht hi hz ad m c news hl1 hnews (by omega) (by omega) (by rw [hby]; omega)
    rw [hr] at hr'
    injection hr' with e1 e2
    subst e1
    exact .inr rfl
  · by_cases hroom : n + m ≤ cap
    · have hr' := run_append_room (P := P) w t ty e i ht hi g n cap cur hg ad m c news hl1 hnews h1 hroom (by rw [hsize]; omega)
      rw [hr] at hr'
      injection hr' with e1 e2
      subst e1
      exact .inl rfl
    · have holds : ∀ j u, xs[j]? = some u → w.cell? ((⟨g, 0, none⟩ : Addr).add j) = some u := hown.cells (g := g) rfl
      have hr' := run_append_grow (P := P) w t ty e i (.int .u8 0) ht hi hz ⟨g, 0, none⟩ n cap xs (by rw [hsize]; exact hown.1) holds ad m c news hl1 hnews (by omega) (by omega) (growslice_fits (by omega) (by rw [hby]; omega))
      rw [hr] at hr'
      injection hr' with e1 e2
      subst e1
      exact .inr rfl
theorem wpList_append_lst {P : Program} (w : World) {ops : Array Oper} {rest : List Oper} {o : Oper} {a : Act} {Q : Exit → Act → World → Prop} (hgd : o.guard = none) (sl x : Operand) (t : TypeId)
    (ho : o.op = .call { callee := .builtin .append, args := #[sl, x], argTypes := #[t, t] })
    (e : TypeId) (i : TypeInfo) (ht : P.underlying t = some (.slice e)) (hi : P.info? e = some i) (hz : i.zero = some (.int .u8 0))
    (hsize : i.size = 1) (hby : i.bytes = 1)
    (v : Value) (n : Nat) (xs : List Value) (hs : a.eval sl = v) (hown : w.ownsRow 0 e 1 v n xs) (ad : Addr) (m c : Nat) (news : List Value) (hx : a.eval x = .slice (some ad) m c) (hl : news.length = m) (hm : 0 < m)
    (hnews : ∀ j u, news[j]? = some u → w.cell? (ad.add j) = some u) (h1 : ∀ u ∈ news, u.oneCell' = true)
    (hbytes : n + m ≤ 140737488355328)
    (h : ∀ v' w', w'.ownsRow 0 e 1 v' (n + m) (xs ++ news) → w.grownBy w' v.ownBlock → (v'.ownBlock = v.ownBlock ∨ v'.ownBlock = some w.heap.size) → wpList P ops Q rest (a.put o.dst v') w') : wpList P ops Q (o :: rest) a w := by
  refine wpList_plain hgd fun K hK => ?_
  obtain ⟨v', w', hr, h2, h3, h4⟩ := run_append_lst (P := P) w t o.type e i ht hi hz hsize hby v n xs hown ad m c news hl hm hnews h1 hbytes
  unfold Oper.wp execOp
  simp only [ho, resolve, invoke, builtin, Sem.run_bind, Sem.run_pure, Result.andThen_ok, List.map_toArray, List.map_cons, List.map_nil, hs, hx, hr]
  exact hK _ _ (h v' w' h2 h3 h4)

theorem oInfoB : ∃ j, Try.prog.info? 91 = some j ∧ j.size = 2 := Option.map_eq_some_iff.1 (by kernel_rfl : (Try.prog.info? 91).map (·.size) = some 2)
theorem oInfo5 : ∃ j, Try.prog.info? 5 = some j ∧ j.zero = some (.int .u8 0) ∧ j.size = 1 ∧ j.bytes = 1 := by
  obtain ⟨j, h1, h2⟩ := Option.map_eq_some_iff.1 (by kernel_rfl : (Try.prog.info? 5).map (fun i => (i.zero, i.size, i.bytes)) = some (some (.int .u8 0), 1, 1))
  simp only [Prod.mk.injEq] at h2
  exact ⟨j, h1, h2.1, h2.2.1, h2.2.2⟩
set_option maxHeartbeats 1000000 in
set_option maxRecDepth 100000 in
theorem oCopyUsed (b : Nat) (w : World) (h0 : w.cell? ⟨b, 0, none⟩ = some (.pointer (some ⟨b, 0, none⟩))) :
    Calls Try.prog 26 #[.pointer (some ⟨b, 0, none⟩)] w fun e w' => e = .returned (.tuple #[]) ∧ w' = w := by
  obtain ⟨j, hj, _⟩ := oInfoB
  go_enter Try.func26, Try.ntmps26
  go_wp2
  rw [Lib.run_neq_ptr_same w _ Try.underlying89 hj]
  go_wp2
  go_end0
  exact ⟨rfl, rfl⟩
set_option maxHeartbeats 1000000 in
set_option maxRecDepth 100000 in
theorem oCopyFresh (b : Nat) (w : World) (h0 : w.cell? ⟨b, 0, none⟩ = some (.pointer none)) (hsh : w.shape? b = some (91, 2)) (hfz : w.frozen? ⟨b, 0, none⟩ = false) :
    Calls Try.prog 26 #[.pointer (some ⟨b, 0, none⟩)] w fun e w' => e = .returned (.tuple #[]) ∧ w' = w.setCell ⟨b, 0, none⟩ (.pointer (some ⟨b, 0, none⟩)) := by
  obtain ⟨j, hj, hjs⟩ := oInfoB
  go_enter Try.func26, Try.ntmps26
  go_wp2
  rw [Lib.run_to_unsafe w ⟨b, 0, none⟩ Try.underlying89 Try.underlying117 hj (by rw [hjs]; decide) hsh (Nat.zero_lt_succ 1)]
  simp only [Result.andThen]
  rw [Oper.upon_value]
  go_wp2
  rw [run_callFunc_extern Try.func37 (by kernel_rfl) (by kernel_rfl) (by kernel_rfl) (e := Extern.AbiNoEscape.same) (by kernel_rfl)]
  rw [Lib.run_noEscape]
  simp only [Result.andThen]
  rw [Oper.upon_value]
  go_wp2
  rw [Lib.run_from_unsafe w ⟨b, 0, none⟩ Try.underlying117 Try.underlying89 hj hsh (by kernel_rfl)]
  simp only [Result.andThen]
  rw [Oper.upon_value]
  go_wp2
  go_end0
  exact ⟨rfl, rfl⟩
/-- A builder in a block of its own, with its bytes' row. -/
structure BldW (w : World) (b : Nat) (p v : Value) (bs : List Value) : Prop where
  blk : w.heap[b]? = some (.cells #[p, v] 91 (0, 0))
  own : w.ownsRow 0 5 1 v bs.length bs
  ne : v.ownBlock ≠ some b
theorem BldW.cell0 {w : World} {b : Nat} {p v : Value} {bs : List Value} (h : BldW w b p v bs) : w.cell? ⟨b, 0, none⟩ = some p := by rw [Lib.cell_of_heap h.blk]; rfl
theorem BldW.cell1 {w : World} {b : Nat} {p v : Value} {bs : List Value} (h : BldW w b p v bs) : w.cell? ⟨b, 1, none⟩ = some v := by rw [Lib.cell_of_heap h.blk]; rfl
theorem BldW.lt {w : World} {b : Nat} {p v : Value} {bs : List Value} (h : BldW w b p v bs) : b < w.heap.size := (Array.getElem?_eq_some_iff.1 h.blk).1
theorem BldW.used {w : World} {b : Nat} {p v : Value} {bs : List Value} (h : BldW w b p v bs) (q : Value) : BldW (w.setCell ⟨b, 0, none⟩ q) b q v bs := by
  refine ⟨?_, ?_, h.ne⟩
  · simp [World.setCell, Array.getElem?_modify, h.blk]
  · exact h.own.kept (row := some b) ⟨rfl, rfl, rfl, by simp [World.setCell], fun k _ hk => Below.heap_setCell _ _ _ _ (fun e => hk (by simp [e]))⟩ (.inr h.ne)
/-- Only the builder's own two blocks turn, and new ones. -/
structure OnlyW (b : Nat) (v : Value) (w w' : World) : Prop where
  os : w'.os = w.os
  tape : w'.tape = w.tape
  output : w'.output = w.output
  size : w.heap.size ≤ w'.heap.size
  block : ∀ k, k < w.heap.size → k ≠ b → some k ≠ v.ownBlock → w'.heap[k]? = w.heap[k]?
/-- What an append of bytes leaves. -/
def AppPost (v : Value) (n : Nat) (xs : List Value) (w : World) (news : List Value) (e : Ending) (w' : World) : Prop :=
  ∃ v', e = .returned v' ∧ w'.ownsRow 0 5 1 v' (n + news.length) (xs ++ news) ∧ (∃ o, (w.alloc o).grownBy w' v.ownBlock) ∧ (v'.ownBlock = v.ownBlock ∨ v'.ownBlock = some (w.heap.size + 1))
set_option maxHeartbeats 2000000 in
set_option maxRecDepth 100000 in
theorem oApp2 (v : Value) (n : Nat) (xs : List Value) (r : Int) (h0 : 128 ≤ r) (h1 : r ≤ 2047) (w : World) (hown : w.ownsRow 0 5 1 v n xs) (hlen : n + 4 ≤ 140737488355328) :
    Calls Try.prog 38 #[v, .int .i32 r] w (AppPost v n xs w [.int .u8 (192 + r / 64), .int .u8 (128 + r % 64)]) := by
  obtain ⟨i0, hi, hz0, hz1, hz2⟩ := oInfo5
  go_enter Try.func38, Try.ntmps38
  go_wp2_with (at_builtin; refine wpList_append_lst _ rfl _ _ 27 rfl 5 i0 Try.underlying27 hi hz0 hz1 hz2 _ _ _ rfl (hown.alloc _) ⟨w.heap.size, 0, none⟩ 2 2 [.int .u8 (192 + r / 64), .int .u8 (128 + r % 64)] rfl rfl (by omega) ?c1 ?c2 (by omega) ?_)
  case c1 =>
    intro j u hj
    match j, hj with
    | 0, hj => simp at hj; subst hj; simp [Addr.add]
    | 1, hj => simp at hj; subst hj; simp [Addr.add]
    | (j + 2), hj => simp at hj
  case c2 => intro u hu; simp at hu; rcases hu with rfl | rfl <;> rfl
  intro v' w2 hown' hgrow hblk
  go_wp2
  go_ret
  exact ⟨_, rfl, hown', ⟨_, hgrow⟩, by simpa using hblk⟩
set_option maxHeartbeats 2000000 in
set_option maxRecDepth 100000 in
theorem oApp3 (v : Value) (n : Nat) (xs : List Value) (r : Int) (h0 : 2048 ≤ r) (h1 : r < 55296) (w : World) (hown : w.ownsRow 0 5 1 v n xs) (hlen : n + 4 ≤ 140737488355328) :
    Calls Try.prog 38 #[v, .int .i32 r] w (AppPost v n xs w [.int .u8 (224 + r / 4096), .int .u8 (128 + r / 64 % 64), .int .u8 (128 + r % 64)]) := by
  obtain ⟨i0, hi, hz0, hz1, hz2⟩ := oInfo5
  go_enter Try.func38, Try.ntmps38
  go_wp2_with (at_builtin; refine wpList_append_lst _ rfl _ _ 27 rfl 5 i0 Try.underlying27 hi hz0 hz1 hz2 _ _ _ rfl (hown.alloc _) ⟨w.heap.size, 0, none⟩ 3 3 [.int .u8 (224 + r / 4096), .int .u8 (128 + r / 64 % 64), .int .u8 (128 + r % 64)] rfl rfl (by omega) ?c1 ?c2 (by omega) ?_)
  case c1 =>
    intro j u hj
    match j, hj with
    | 0, hj => simp at hj; subst hj; simp [Addr.add]
    | 1, hj => simp at hj; subst hj; simp [Addr.add]
    | 2, hj => simp at hj; subst hj; simp [Addr.add]
    | (j + 3), hj => simp at hj
  case c2 => intro u hu; simp at hu; rcases hu with rfl | rfl | rfl <;> rfl
  intro v' w2 hown' hgrow hblk
  go_wp2
  go_ret
  exact ⟨_, rfl, hown', ⟨_, hgrow⟩, by simpa using hblk⟩
/-- A sign's bytes as cells. -/
def sgCells (r : Int) : List Value := if r ≤ 127 then [.int .u8 r] else if r ≤ 2047 then [.int .u8 (192 + r / 64), .int .u8 (128 + r % 64)] else [.int .u8 (224 + r / 4096), .int .u8 (128 + r / 64 % 64), .int .u8 (128 + r % 64)]
theorem sgCells_len (r : Int) : 1 ≤ (sgCells r).length ∧ (sgCells r).length ≤ 3 := by
  unfold sgCells
  split
  · simp
  · split <;> simp
set_option maxHeartbeats 2000000 in
set_option maxRecDepth 100000 in
theorem oAppend (v : Value) (n : Nat) (xs : List Value) (r : Int) (h0 : 0 ≤ r) (h1 : r < 55296) (w : World) (hown : w.ownsRow 0 5 1 v n xs) (hlen : n + 4 ≤ 140737488355328) :
    Calls Try.prog 27 #[v, .int .i32 r] w (AppPost v n xs w (sgCells r)) := by
  obtain ⟨i0, hi, hz0, hz1, hz2⟩ := oInfo5
  by_cases c : r ≤ 127
  · rw [show sgCells r = [.int .u8 r] by simp [sgCells, c]]
    go_enter Try.func27, Try.ntmps27
    go_wp2_with (at_builtin; refine wpList_append_lst _ rfl _ _ 27 rfl 5 i0 Try.underlying27 hi hz0 hz1 hz2 _ _ _ rfl (hown.alloc _) ⟨w.heap.size, 0, none⟩ 1 1 [.int .u8 r] rfl rfl (by omega) ?c1 ?c2 (by omega) ?_)
    case c1 =>
      intro j u hj
      match j, hj with
      | 0, hj => simp at hj; subst hj; simp [Addr.add]
      | (j + 1), hj => simp at hj
    case c2 => intro u hu; simp at hu; subst hu; rfl
    intro v' w2 hown' hgrow hblk
    go_wp2
    go_ret
    exact ⟨_, rfl, hown', ⟨_, hgrow⟩, by simpa using hblk⟩
  · by_cases c2 : r ≤ 2047
    · rw [show sgCells r = [.int .u8 (192 + r / 64), .int .u8 (128 + r % 64)] by simp [sgCells, c, c2]]
      go_enter Try.func27, Try.ntmps27
      go_wp2_with (go_at_call 38; refine (oApp2 _ n xs r (by omega) c2 _ hown hlen).mono ?_)
      rintro e w1 ⟨v', rfl, q⟩
      go_wp2
      go_ret
      exact ⟨_, rfl, q⟩
    · rw [show sgCells r = [.int .u8 (224 + r / 4096), .int .u8 (128 + r / 64 % 64), .int .u8 (128 + r % 64)] by simp [sgCells, c, c2]]
      go_enter Try.func27, Try.ntmps27
      go_wp2_with (go_at_call 38; refine (oApp3 _ n xs r (by omega) h1 _ hown hlen).mono ?_)
      rintro e w1 ⟨v', rfl, q⟩
      go_wp2
      go_ret
      exact ⟨_, rfl, q⟩
set_option maxHeartbeats 2000000 in
set_option maxRecDepth 100000 in
theorem oWriteRune (b : Nat) (v : Value) (bs : List Value) (r : Int) (hr0 : 0 ≤ r) (hr1 : r < 55296) (w : World) (h : BldW w b (.pointer (some ⟨b, 0, none⟩)) v bs) (hlen : bs.length + 4 ≤ 140737488355328)
    (w0 : World) (hcc : Calls Try.prog 26 #[.pointer (some ⟨b, 0, none⟩)] w0 fun e w' => e = .returned (.tuple #[]) ∧ w' = w) (h0 : OnlyW b v w0 w) (hsz : w0.heap.size = w.heap.size) :
    Calls Try.prog 21 #[.pointer (some ⟨b, 0, none⟩), .int .i32 r] w0 fun e w' => e = .returned (.tuple #[.int .i64 (sgCells r).length, .nilIface]) ∧ ∃ v', BldW w' b (.pointer (some ⟨b, 0, none⟩)) v' (bs ++ sgCells r) ∧
      OnlyW b v w0 w' ∧ (v'.ownBlock = v.ownBlock ∨ v'.ownBlock = some (w0.heap.size + 1)) := by
  have hk3 := sgCells_len r
  go_enter Try.func21, Try.ntmps21
  go_wp2_with (go_at_call 26; refine hcc.mono ?_)
  rintro e w1 ⟨rfl, rfl⟩
  have c0 := h.cell0
  have c1 := h.cell1
  obtain ⟨ao, cap, rfl⟩ : ∃ ao cap, v = .slice ao bs.length cap := by
    rcases h.own.2 with ⟨hv, hz⟩ | ⟨g, cap, cur, hv, _⟩
    · exact ⟨none, 0, by rw [hv, hz]⟩
    · exact ⟨_, _, hv⟩
  go_wp2_with (go_at_call 27; refine (oAppend _ bs.length bs r hr0 hr1 _ h.own hlen).mono ?_)
  rintro e w2 ⟨v', rfl, hown', ⟨o, hgrow⟩, hblk⟩
  have hlt := h.lt
  have hb2 : w2.heap[b]? = some (.cells #[.pointer (some ⟨b, 0, none⟩), .slice ao bs.length cap] 91 (0, 0)) := by
    rw [hgrow.block b (by simp; omega) (fun e => h.ne e.symm), Lib.alloc_old w1 _ b hlt]
    exact h.blk
  have d0 : w2.cell? ⟨b, 0, none⟩ = some (.pointer (some ⟨b, 0, none⟩)) := by rw [Lib.cell_of_heap hb2]; rfl
  have d1 : w2.cell? ⟨b, 1, none⟩ = some (.slice ao bs.length cap) := by rw [Lib.cell_of_heap hb2]; rfl
  have f1 : w2.frozen? ⟨b, 1, none⟩ = false := Lib.frozen_of_heap hb2 1
  obtain ⟨g, cap', rfl⟩ : ∃ g cap', v' = .slice (some ⟨g, 0, none⟩) (bs.length + (sgCells r).length) cap' := by
    rcases hown'.2 with ⟨_, hz⟩ | ⟨g, cap', cur, hv, _⟩
    · omega
    · exact ⟨g, cap', hv⟩
  have hne' : (Value.slice (some ⟨g, 0, none⟩) (bs.length + (sgCells r).length) cap').ownBlock ≠ some b := by
    rcases hblk with e | e
    · rw [e]; exact h.ne
    · rw [e]; simp; omega
  go_wp2
  go_ret2
  refine ⟨?_, _, ⟨?_, ?_, hne'⟩, ⟨hgrow.os.trans h0.os, hgrow.tape.trans h0.tape, hgrow.output.trans h0.output, by have := hgrow.size; simp [World.setCell] at this ⊢; omega, fun k hk hkb hkv => ?_⟩, by rw [hsz]; exact hblk⟩
  · have e : ((bs.length : Int) + ((sgCells r).length : Int) - (bs.length : Int)) = ((sgCells r).length : Int) := by omega
    simp [e]
  · simp [World.setCell, Array.getElem?_modify, hb2]
  · rw [List.length_append]
    exact hown'.kept (row := some b) ⟨rfl, rfl, rfl, by simp [World.setCell], fun k _ hk => Below.heap_setCell _ _ _ _ (fun e => hk (by simp [e]))⟩ (.inr hne')
  · rw [Below.heap_setCell _ _ _ _ hkb, hgrow.block k (by simp; omega) hkv, Lib.alloc_old w1 _ k (by omega)]
    exact h0.block k hk hkb hkv
end Go.Proofs.Ytkjcdnmjdanmpaa
