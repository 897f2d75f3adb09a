/-
  A page: its cells; the rows of signs; what other signs it has.
-/
import Derived.Test.YtegpebaoghmgiaaGreatDoorSPart11
import Derived.Tactics
import Derived.Tactics2
import Derived.Defers
import Derived.Laws.Pointers
import Derived.Laws.LoneSync
import Derived.RegionTactic
import Derived.RegionCalls
import Derived.ChangeAlike
set_option linter.unusedSimpArgs false
set_option linter.unusedVariables false
namespace Go.Proofs.YtegpebaoghmgiaaGreatDoor
open Go Go.AL

def sgA (l : List Nat) : List AV := l.map fun z : Nat => .lit (.int .i32 (z : Int))
@[simp] theorem sgA_length (l : List Nat) : (sgA l).length = l.length := by simp [sgA]
theorem sgA_get (l : List Nat) {i : Nat} (h : i < l.length) : (sgA l)[i]? = some (.lit (.int .i32 l[i])) := by simp [sgA, h]
theorem sgA_set (l : List Nat) (i z : Nat) : (sgA l).set i (.lit (.int .i32 z)) = sgA (l.set i z) := by simp [sgA, List.map_set]
/-- A page: its number, whether it is built, the lock, its signs, its codes. -/
structure Pgs where
  num : Int
  done : Int
  mu : Int
  sg : List Nat
  cd : AV
def pgA (p : Pgs) : List AV := [.lit (.int .i64 p.num), .lit (.int .u32 p.done), .lit (.int .i32 p.mu), .lit (.int .u32 0)] ++ (sgA p.sg ++ [p.cd])
theorem pgA_length {p : Pgs} (h : p.sg.length = 256) : (pgA p).length = 261 := by simp [pgA, h]
theorem pgA_num (p : Pgs) : (pgA p)[0]? = some (.lit (.int .i64 p.num)) := rfl
theorem pgA_cd {p : Pgs} (h : p.sg.length = 256) : (pgA p)[260]? = some p.cd := by
  unfold pgA
  rw [List.getElem?_append_right (by simp), List.getElem?_append_right (by simp [h])]
  simp [h]
theorem pgA_sgs {p : Pgs} (h : p.sg.length = 256) : ((pgA p).drop 4).take 256 = sgA p.sg := by
  unfold pgA
  rw [List.drop_left' (by simp), List.take_left' (by simp [h])]
theorem pgA_setSg {p : Pgs} {i : Nat} (z : Nat) (h : i < p.sg.length) : (pgA p).set (4 + i) (.lit (.int .i32 z)) = pgA { p with sg := p.sg.set i z } := by
  unfold pgA
  rw [List.set_append_right _ _ (by simp), List.set_append_left _ _ (by simp; omega)]
  simp [sgA_set]
theorem pgA_setCd {p : Pgs} (h : p.sg.length = 256) (c : AV) : (pgA p).set 260 c = pgA { p with cd := c } := by
  unfold pgA
  rw [List.set_append_right _ _ (by simp), List.set_append_right _ _ (by simp [h])]
  simp [h]
def Pgs.new (n : Int) : Pgs := ⟨n, 0, 0, List.replicate 256 0, .lit (.map none)⟩
@[simp] theorem azero85 : azero Tryz.prog 85 = some (pgA (.new 0)) := nr (by kernel_rfl)
theorem pgA_new_length (n : Int) : (pgA (.new n)).length = 261 := pgA_length List.length_replicate
theorem pgA_new_set (n : Int) : (pgA (.new 0)).set 0 (.lit (.int .i64 n)) = pgA (.new n) := rfl

/-! ### The tables -/
def rowU (l : List Nat) : List AV := l.map fun z : Nat => .lit (.int .u16 (z : Int))
set_option maxRecDepth 20000 in
set_option maxHeartbeats 4000000 in
theorem row_calls (d : Nat) (hd : d < 16) (σ : Store) : ACalls Tryz.prog 96 [.lit (.int .i64 d)] σ fun v σ' => v = .agg (rowU (rowsL.getD d [])) ∧ σ' = σ := by
  have key : ∀ d : Nat, d < 16 → d = 0 ∨ d = 1 ∨ d = 2 ∨ d = 3 ∨ d = 4 ∨ d = 5 ∨ d = 6 ∨ d = 7 ∨ d = 8 ∨ d = 9 ∨ d = 10 ∨ d = 11 ∨ d = 12 ∨ d = 13 ∨ d = 14 ∨ d = 15 := by omega
  rcases key d hd with rfl | rfl | rfl | rfl | rfl | rfl | rfl | rfl | rfl | rfl | rfl | rfl | rfl | rfl | rfl | rfl
  all_goals
    refine ACalls.of_awp follows (st := st96) (plans := pl96) (n := 53) Tryz.func96 rfl (by kernel_rfl) (by kernel_rfl) (by kernel_rfl) ?_
    simp
    intro p hp
    exact ⟨by simp [rowU, rowsL], sub_upd_self _ _ _ hp⟩
def othA (l : List (Nat × Nat)) : List AV := l.map fun o => .agg [.lit (.int .u8 (o.1 : Int)), .lit (.int .u16 (o.2 : Int))]
@[simp] theorem othA_length (l : List (Nat × Nat)) : (othA l).length = l.length := by simp [othA]
set_option maxRecDepth 20000 in
set_option maxHeartbeats 4000000 in
theorem others_calls (n : Int) (σ : Store) : ACalls Tryz.prog 26 [.lit (.int .i64 n)] σ fun v σ' => v = .tuple [.list true 2 (othA (othersF n)), .lit (.bool (decide (isPage n)))] ∧ σ' = σ := by
  refine ACalls.of_awp follows (st := st26) (plans := pl26) (n := 82) Tryz.func26 rfl (by kernel_rfl) (by kernel_rfl) (by kernel_rfl) ?_
  by_cases h1 : n = 37
  · subst h1; simp [othersF, isPage, othA, oth37]
  by_cases h2 : n = 273
  · subst h2; simp [othersF, isPage, othA, oth273]
  by_cases h3 : n = 297
  · subst h3; simp [othersF, isPage, othA, oth297]
  by_cases h4 : n = 500
  · subst h4; simp [othersF, isPage, othA, oth500]
  by_cases h5 : n = 1047
  · subst h5; simp [othersF, isPage, othA, oth1047]
  by_cases h6 : n = 1140
  · subst h6; simp [othersF, isPage, othA, oth1140]
  · simp [othersF, isPage, othA, h1, h2, h3, h4, h5, h6]
end Go.Proofs.YtegpebaoghmgiaaGreatDoor
/-
  A page is built: its signs, and the codes of its signs.
-/
namespace Go.Proofs.YtegpebaoghmgiaaGreatDoor
open Go Go.AL

abbrev pgP (b : Nat) : AV := .lit (.pointer (some ⟨b, 0, none⟩))
def sgF (n : Int) (c : Nat) : Nat := (signsF n).getD c 0
/-- The codes of the first signs. -/
def codesN (n : Int) (k : Nat) : List (Value × AV) := (List.range k).map fun c => (.int .i32 ((sgF n c : Nat) : Int), .lit (.int .u8 (c : Int)))
theorem findA_map (f : Nat → Int) (s : Int) : ∀ (l : List Nat) (i : Nat), findA (.int .i32) (.int .i32 s) (l.map fun c => (.int .i32 (f c), .lit (.int .u8 (c : Int)))) i =
    some ((l.findIdx? (fun c => f c == s)).map fun j => (i + j, .lit (.int .u8 ((l.getD j 0 : Nat) : Int)))) := by
  intro l
  induction l with
  | nil => intro i; rfl
  | cons c l ih =>
    intro i
    by_cases h : s = f c
    · have h' : (f c == s) = true := by simp [h]
      simp [findA, Instr.sameNow, h, List.findIdx?_cons]
    · have h' : (f c == s) = false := by simpa using fun e => h e.symm
      have h2 : (s == f c) = false := by simpa using h
      simp only [List.map_cons, findA, Instr.sameNow, if_true, h2, ih, List.findIdx?_cons, h', Bool.false_eq_true, if_false, Option.map_map]
      congr 1
      cases l.findIdx? (fun c => f c == s) with
      | none => rfl
      | some j => simp; omega
theorem sgF_inj {n : Int} (hn : isPage n) {c d : Nat} (hc : c < 256) (hd : d < 256) (h : sgF n c = sgF n d) : c = d := by
  have hl := signsF_length n
  have hnd := signsF_nodup hn
  unfold sgF at h
  rw [List.getD_eq_getElem?_getD, List.getD_eq_getElem?_getD, List.getElem?_eq_getElem (by omega), List.getElem?_eq_getElem (by omega)] at h
  exact (List.getElem_inj hnd).1 h
theorem setA_codes {n : Int} (hn : isPage n) {k : Nat} (hk : k < 256) : setA (.int .i32) (codesN n k) (.int .i32 ((sgF n k : Nat) : Int)) (.lit (.int .u8 (k : Int))) = some (codesN n (k + 1)) := by
  have hf : (List.range k).findIdx? (fun c => ((sgF n c : Nat) : Int) == ((sgF n k : Nat) : Int)) = none := by
    rw [List.findIdx?_eq_none_iff]
    intro c hc
    have hck : c < k := by simpa using hc
    have : sgF n c ≠ sgF n k := fun e => by have := sgF_inj hn (by omega) hk e; omega
    simpa using fun e => this (by omega)
  unfold setA codesN
  rw [findA_map (fun c => ((sgF n c : Nat) : Int)), hf]
  simp [List.range_succ]
/-- A sign's code. -/
def codeIx (n : Int) (s : Int) : Option Nat := (List.range 256).findIdx? (fun c => ((sgF n c : Nat) : Int) == s)
theorem codeIx_lt {n s : Int} {j : Nat} (h : codeIx n s = some j) : j < 256 ∧ ((sgF n j : Nat) : Int) = s := by
  obtain ⟨h1, h2, _⟩ := List.findIdx?_eq_some_iff_getElem.1 h
  have : j < 256 := by simpa using h1
  exact ⟨this, by simpa using h2⟩
theorem get_codes (P : Program) (et : TypeId) (n s : Int) (hz : zeroV P et = some (.lit (.int .u8 0))) : getA P et true (.int .i32) (.int .i32 s) (codesN n 256) =
    some (.tuple [.lit (.int .u8 (((codeIx n s).getD 0 : Nat) : Int)), .lit (.bool (codeIx n s).isSome)]) := by
  unfold getA codesN
  rw [findA_map (fun c => ((sgF n c : Nat) : Int))]
  have e : (List.range 256).findIdx? (fun c => ((sgF n c : Nat) : Int) == s) = codeIx n s := rfl
  rw [e]
  cases hc : codeIx n s with
  | none => simp [hz, AV.drop1]
  | some j =>
    have hj := (codeIx_lt hc).1
    have : (List.range 256).getD j 0 = j := by simp [hj]
    simp only [Option.map_some, this]
    rfl
/-- Signs laid one behind the other. -/
def upto (b : List Nat) (s : List Nat) (n : Nat) : List Nat := b.take n ++ s.drop n
theorem upto_length {b s : List Nat} (h : b.length = s.length) (n : Nat) : (upto b s n).length = s.length := by simp [upto]; omega
theorem upto_set {b s : List Nat} (h : b.length = s.length) {n : Nat} (hn : n < b.length) : (upto b s n).set n (b.getD n 0) = upto b s (n + 1) := by
  unfold upto
  rw [List.set_append_right _ _ (by simp; omega)]
  have e1 : n - (b.take n).length = 0 := by simp; omega
  rw [e1, List.drop_eq_getElem_cons (by omega), List.set_cons_zero, List.getD_eq_getElem?_getD, List.getElem?_eq_getElem hn]
  have e2 : b.take (n + 1) = b.take n ++ [b[n]] := List.take_succ_eq_append_getElem hn
  rw [e2, List.append_assoc]
  rfl
theorem row_base : ∀ i < 16, ∀ j < 16, (rowsL.getD i []).getD j 0 = baseL.getD (16 * i + j) 0 := by decide +kernel
theorem row_len : ∀ i < 16, (rowsL.getD i []).length = 16 := by decide +kernel
theorem base_lt (n : Nat) : baseL.getD n 0 < 65536 := by
  rw [List.getD_eq_getElem?_getD]
  cases h : baseL[n]? with
  | none => simp
  | some z => exact base_small z (List.mem_of_getElem? h)
theorem rowU_get {i j : Nat} (hi : i < 16) (hj : j < 16) : (rowU (rowsL.getD i []))[j]? = some (.lit (.int .u16 ((baseL.getD (16 * i + j) 0 : Nat) : Int))) := by
  have hl := row_len i hi
  rw [← row_base i hi j hj]
  unfold rowU
  rw [List.getElem?_map, List.getD_eq_getElem?_getD (l := rowsL.getD i [])]
  rw [List.getElem?_eq_getElem (by omega)]
  rfl
theorem others_len (n : Int) : (othersF n).length ≤ 25 := by
  unfold othersF
  repeat' split
  all_goals decide
theorem mkAV_true (cs : List AV) : mkAV true cs = some (.agg cs) := nr (by unfold mkAV; rfl)
/-- Some other signs laid. -/
def sgK (O : List (Nat × Nat)) (k : Nat) : List Nat := (O.take k).foldl (fun l o => l.set o.1 o.2) baseL
theorem sgK_length (O : List (Nat × Nat)) (k : Nat) : (sgK O k).length = 256 := by rw [sgK, signs_set, baseL_length]
theorem sgK_succ (O : List (Nat × Nat)) {k : Nat} (h : k < O.length) : sgK O (k + 1) = (sgK O k).set O[k].1 O[k].2 := by
  unfold sgK
  have e : O.take (k + 1) = O.take k ++ [O[k]] := List.take_succ_eq_append_getElem h
  rw [e, List.foldl_append]; rfl
set_option maxRecDepth 8000 in
set_option maxHeartbeats 2000000 in
theorem build_calls (b : Nat) (p : Pgs) (hp : p.sg.length = 256) (hn : isPage p.num) (σ : Store) (hb : σ b = some (pgA p)) :
    ACalls Tryz.prog 79 [pgP b] σ fun v σ' => v = .tuple [] ∧ ∃ q : Nat, σ (mkey q) = none ∧ σ' = (σ.upd b (pgA { p with sg := signsF p.num, cd := .lit (.map (some q)) })).put q (mapA (codesN p.num 256)) := by
  have hbl := baseL_length
  have hul := fun n => upto_length (b := baseL) (s := p.sg) (by omega) n
  refine ACalls.of_awp follows (st := st79) (plans := pl79) (n := 76) Tryz.func79 rfl (by kernel_rfl) (by kernel_rfl) (by kernel_rfl) ?_
  simp
  refine codeK.loop follows (st := st79) (plans := pl79) (X := Nat) (fun i => i ≤ 16)
    (fun i => [(0, pgP b), (11, .lit (.int .i64 i))]) (fun i => σ.upd b (pgA { p with sg := upto baseL p.sg (16 * i) })) (fun i => 16 - i) 0 (by kernel_rfl) (Nat.zero_le _) (by simp) ?_ fun i hi => ?_
  · have e : upto baseL p.sg (16 * 0) = p.sg := rfl
    rw [e, upd_back hb]; exact Store.sub_refl _
  by_cases hlt : i < 16
  · have hlt' : (i : Int) < 16 := by omega
    have hrow := fun τ => row_calls i hlt τ
    have hgR := fun j (hj : j < 16) => rowU_get hlt hj
    have hrl : (rowU (rowsL.getD i [])).length = 16 := by unfold rowU; rw [List.length_map, row_len i hlt]
    generalize rowU (rowsL.getD i []) = R at *
    simp [hlt']
    refine callK.of (hrow _) ?_
    rintro v σ1 ⟨rfl, rfl⟩
    simp
    refine codeK.loop follows (st := st79) (plans := pl79) (X := Nat) (fun j => j ≤ 16)
      (fun j => [(0, pgP b), (2, .lit (.int .i64 i)), (11, .lit (.int .i64 i)), (15, .agg R), (16, .lit (.int .i64 j))]) (fun j => σ.upd b (pgA { p with sg := upto baseL p.sg (16 * i + j) })) (fun j => 16 - j) 0 (by kernel_rfl) (Nat.zero_le _) (by simp) (Store.sub_refl _) fun j hj => ?_
    by_cases hjl : j < 16
    · have hjl' : (j : Int) < 16 := by omega
      have hg := hgR j hjl
      obtain ⟨m, hm⟩ : ∃ m, 16 * i + j = m := ⟨_, rfl⟩
      have hm1 : 16 * i + (j + 1) = m + 1 := by omega
      rw [hm] at hg ⊢
      have hmlt : m < 256 := by omega
      have hmlt' : (m : Int) < 256 := by omega
      have hz := base_lt m
      have hset := upto_set (b := baseL) (s := p.sg) (by omega) (n := m) (by omega)
      have hpl := pgA_length (p := { p with sg := upto baseL p.sg m }) (by dsimp only; rw [hul]; exact hp)
      have hps := fun z => pgA_setSg (p := { p with sg := upto baseL p.sg m }) (i := m) z (by dsimp only; rw [hul]; omega)
      have hps := hps (baseL.getD m 0)
      dsimp only at hps hpl
      rw [hset] at hps
      generalize baseL.getD m 0 = z at *
      have hw1 : IntKind.i64.wrap (16 * (i : Int)) = 16 * (i : Int) := by rw [wrap_i64 (by omega) (by omega)]
      have hw2 : IntKind.i64.wrap (16 * (i : Int) + (j : Int)) = (m : Int) := by rw [wrap_i64 (by omega) (by omega)]; omega
      have hw3 : IntKind.i32.wrap (z : Int) = z := by unfold IntKind.wrap; simp [IntKind.signed, IntKind.bits]; omega
      have hw4 : IntKind.i64.wrap ((j : Int) + 1) = ((j + 1 : Nat) : Int) := wrap_i64 (by omega) (by omega)
      simp [hjl', hg, hw1, hw2, hw3, hpl, hps, hmlt']
      exact ⟨by omega, j + 1, by omega, by omega, by rw [hw4]; exact AV.le_refl _, by rw [hm1]; exact Store.sub_refl _⟩
    · obtain rfl : j = 16 := by omega
      simp
      have hw1 : IntKind.i64.wrap ((i : Int) + 1) = ((i + 1 : Nat) : Int) := wrap_i64 (by omega) (by omega)
      exact ⟨i + 1, by omega, by omega, by rw [hw1]; exact AV.le_refl _, by rw [show 16 * (i + 1) = 16 * i + 16 by omega]; exact Store.sub_refl _⟩
  · obtain rfl : i = 16 := by omega
    have hu0 : upto baseL p.sg (16 * 16) = baseL := by unfold upto; rw [List.take_of_length_le (by omega), List.drop_of_length_le (by omega), List.append_nil]
    have hnum := pgA_num { p with sg := baseL }
    have hoth := fun τ => others_calls p.num τ
    dsimp only at hnum
    simp only [hu0]
    simp [hnum]
    refine callK.of (hoth _) ?_
    rintro v σ1 ⟨rfl, rfl⟩
    have hsm := others_small p.num
    have hOl := others_len p.num
    have hsF : (othersF p.num).foldl (fun l o => l.set o.1 o.2) baseL = signsF p.num := rfl
    generalize hO : othersF p.num = O at *
    simp
    refine codeK.loop follows (st := st79) (plans := pl79) (X := Nat) (fun k => k ≤ O.length)
      (fun k => [(0, pgP b), (40, .list false 2 (othA O)), (41, .lit (.int .i64 O.length)), (42, .lit (.int .i64 k))]) (fun k => σ.upd b (pgA { p with sg := sgK O k })) (fun k => O.length - k) 0 (by kernel_rfl) (Nat.zero_le _) (by simp) (Store.sub_refl _) fun k hk => ?_
    have hskl := sgK_length O k
    by_cases hkl : k < O.length
    · obtain ⟨o, ho⟩ : ∃ o, O[k] = o := ⟨_, rfl⟩
      have hos := hsm o (by rw [← ho]; exact List.getElem_mem ..)
      have hgo : ∀ q : k < (othA O).length, (othA O)[k]'q = .agg [.lit (.int .u8 (o.1 : Int)), .lit (.int .u16 (o.2 : Int))] := fun q => by simp [othA, ho]
      have hkl' : (k : Int) < O.length := by omega
      have hset : (sgK O k).set o.1 o.2 = sgK O (k + 1) := by rw [sgK_succ O hkl, ho]
      have hpl := pgA_length (p := { p with sg := sgK O k }) (by dsimp only; omega)
      have hps := pgA_setSg (p := { p with sg := sgK O k }) (i := o.1) o.2 (by dsimp only; omega)
      dsimp only at hps hpl
      rw [hset] at hps
      obtain ⟨c, z⟩ := o
      dsimp only at hos hps hgo
      have hc' : (c : Int) < 256 := by omega
      have hw3 : IntKind.i32.wrap (z : Int) = z := by unfold IntKind.wrap; simp [IntKind.signed, IntKind.bits]; omega
      have hw4 : IntKind.i64.wrap ((k : Int) + 1) = ((k + 1 : Nat) : Int) := wrap_i64 (by omega) (by omega)
      simp [hkl, hkl', hgo]
      intro q hq0
      obtain ⟨hqb, hq⟩ : ¬ q = b ∧ σ q = none := by
        split at hq0
        · cases hq0
        · exact ⟨by assumption, hq0⟩
      have hbq : ¬ b = q := fun e => hqb e.symm
      simp [hpl, hps, hc', hw3, hbq]
      exact ⟨by omega, k + 1, by omega, by omega, by rw [hw4]; exact AV.le_refl _, sub_box2 hq hbq⟩
    · obtain rfl : k = O.length := by omega
      have hall : sgK O O.length = signsF p.num := by unfold sgK; rw [List.take_length, hsF]
      have hSl := signsF_length p.num
      have hpl := pgA_length (p := { p with sg := signsF p.num }) hSl
      have hcd := fun c => pgA_setCd (p := { p with sg := signsF p.num }) hSl c
      have hpl2 := fun c => pgA_length (p := { p with sg := signsF p.num, cd := c }) hSl
      have hsg := fun c => pgA_sgs (p := { p with sg := signsF p.num, cd := c }) hSl
      have hcdg := fun c => pgA_cd (p := { p with sg := signsF p.num, cd := c }) hSl
      have hgS : ∀ c, c < 256 → (sgA (signsF p.num))[c]? = some (.lit (.int .i32 ((sgF p.num c : Nat) : Int))) := fun c hc => by
        rw [sgA_get _ (by omega)]
        unfold sgF
        rw [List.getD_eq_getElem?_getD, List.getElem?_eq_getElem (by omega)]
        rfl
      have hset := fun c (hc : c < 256) => setA_codes hn hc
      have hSA : (sgA (signsF p.num)).length = 256 := by rw [sgA_length, hSl]
      have hdS : (sgA (signsF p.num)).map AV.drop1 = sgA (signsF p.num) := by simp [sgA, Function.comp_def, AV.drop1]
      rw [hall]
      dsimp only at hpl hcd hpl2 hsg hcdg
      generalize sgA (signsF p.num) = S at *
      simp [hpl, hcd, hpl2, hsg]
      intro q hq
      simp [mkAV_true]
      refine codeK.loop follows (st := st79) (plans := pl79) (X := Nat) (fun c => c ≤ 256)
        (fun c => [(0, pgP b), (63, .agg S), (64, .lit (.int .i64 c))]) (fun c => (σ.upd b (pgA { p with sg := signsF p.num, cd := .lit (.map (some q)) })).put q (mapA (codesN p.num c))) (fun c => 256 - c) 0 (by kernel_rfl) (Nat.zero_le _) (by simp [hdS]) (Store.sub_refl _) fun c hc => ?_
      by_cases hcl : c < 256
      · have hcl' : (c : Int) < 256 := by omega
        have h1 : ∀ q : c < S.length, S[c]'q = .lit (.int .i32 ((sgF p.num c : Nat) : Int)) := fun q => by
          have := hgS c hcl
          rw [List.getElem?_eq_getElem q] at this
          exact Option.some.inj this
        have h2 := hset c hcl
        have hw1 : IntKind.u8.wrap (c : Int) = c := by unfold IntKind.wrap; simp [IntKind.signed, IntKind.bits]; omega
        have hw2 : IntKind.i64.wrap ((c : Int) + 1) = ((c + 1 : Nat) : Int) := wrap_i64 (by omega) (by omega)
        simp [hcl, hcl', h1, hSA, hcdg, hw1, h2]
        exact ⟨c + 1, by omega, by omega, by rw [hw2]; exact AV.le_refl _, Store.sub_refl _⟩
      · obtain rfl : c = 256 := by omega
        simp
        exact ⟨_, AV.le_refl _, _, Store.sub_refl _, rfl, q, hq, rfl⟩
end Go.Proofs.YtegpebaoghmgiaaGreatDoor
/-
  sync.Once: what it calls, step by step (turned from the kit's worked Lazy proofs): the lock, the mark, the two calls that are deferred; then doSlow, for any function whose contract is known.
-/
namespace Go.Proofs.YtegpebaoghmgiaaGreatDoor
open Go Go.AL

theorem oDisable (w : World) : (callFunc 108 #[]).run Tryz.prog w = .ok (.value (.tuple #[])) w := run_call_mark0 Tryz.func108 (by kernel_rfl) (by kernel_rfl) (by kernel_rfl) .disable (by kernel_rfl) w
theorem oEnable (w : World) : (callFunc 110 #[]).run Tryz.prog w = .ok (.value (.tuple #[])) w := run_call_mark0 Tryz.func110 (by kernel_rfl) (by kernel_rfl) (by kernel_rfl) .enable (by kernel_rfl) w
theorem oAcquire (a : Addr) (w : World) : (callFunc 111 #[.pointer (some a)]).run Tryz.prog w = .ok (.value (.tuple #[])) w := run_call_marked Tryz.func111 (by kernel_rfl) (by kernel_rfl) (by kernel_rfl) .acquire (by kernel_rfl) a w
theorem oRelease (a : Addr) (w : World) : (callFunc 113 #[.pointer (some a)]).run Tryz.prog w = .ok (.value (.tuple #[])) w := run_call_marked Tryz.func113 (by kernel_rfl) (by kernel_rfl) (by kernel_rfl) .releaseMerge (by kernel_rfl) a w

set_option maxRecDepth 100000 in
theorem oStore (a : Addr) (x : Value) (u : FrameMode) (w : World) (hc : w.cell? a = some x) (hz : w.frozen? a = false) :
    CallsD Tryz.prog 103 #[.pointer (some a), .bool true] u w fun e u' w' => u' = u ∧ (e = .returned (.tuple #[]) ∧ w' = w.drew.setCell a (.int .u32 1)) := by
  have hc' : w.drew.cell? a = some x := by go_simp
  have hz' : w.drew.frozen? a = false := by go_simp
  have hst := run_call_store (P := Tryz.prog) Tryz.func106 (by kernel_rfl) (by kernel_rfl) (by kernel_rfl) (by kernel_rfl) (k := .u32) (y := 1) hc' hz'
  go_enter_d Tryz.func103, Tryz.ntmps103
  go_wp2
  go_region_calls
  all_goals (go_end0; exact ⟨rfl, rfl⟩)

set_option maxRecDepth 100000 in
theorem oUnlock (a : Addr) (u : FrameMode) (w : World) (hc : w.cell? a = some (.int .i32 1)) (hz : w.frozen? a = false) :
    CallsD Tryz.prog 102 #[.pointer (some a)] u w fun e u' w' => u' = u ∧ (e = .returned (.tuple #[]) ∧ w' = w.setCell a (.int .i32 0)) := by
  have hd := oDisable
  have he := oEnable
  have hr := oRelease
  have hadd := run_call_add (P := Tryz.prog) Tryz.func114 (by kernel_rfl) (by kernel_rfl) (by kernel_rfl) .i32 (by kernel_rfl) (y := -1) (s := 0) hc hz (by simp [go_sem]; rfl)
  have hcv := run_convert_to_unsafe (P := Tryz.prog) (src := 182) (dst := 186) Tryz.underlying182 Tryz.underlying186 (by kernel_rfl) hc
  go_enter_d Tryz.func102, Tryz.ntmps102
  go_wp2
  go_end0
  go_wp2
  go_end0
  exact ⟨rfl, rfl⟩

set_option maxRecDepth 100000 in
theorem oLock (a : Addr) (w : World) (hc : w.cell? a = some (.int .i32 0)) (hz : w.frozen? a = false) :
    Calls Tryz.prog 101 #[.pointer (some a)] w fun e w' => e = .returned (.tuple #[]) ∧ w' = w.setCell a (.int .i32 1) := by
  have hd := oDisable
  have he := oEnable
  have ha := oAcquire
  have hcas := run_call_cas_hit (P := Tryz.prog) Tryz.func109 (by kernel_rfl) (by kernel_rfl) (by kernel_rfl) .i32 (by kernel_rfl) (y := 1) hc hz
  have hc' : (w.setCell a (.int .i32 1)).cell? a = some (.int .i32 1) := World.cell?_setCell_same w a _ hc
  have hcv := run_convert_to_unsafe (P := Tryz.prog) (src := 182) (dst := 186) Tryz.underlying182 Tryz.underlying186 (by kernel_rfl) hc'
  go_enter Tryz.func101, Tryz.ntmps101
  go_wp2
  first | go_end0 | (simp only [Exit.inBlock, Exit.then]; refine bodyPost_ret (results_none rfl _ _ _) rfl ?_) | refine bodyPost_ret (results_none rfl _ _ _) rfl ?_
  go_wp2
  go_end0
  exact ⟨rfl, rfl⟩
set_option maxRecDepth 100000 in
set_option maxHeartbeats 1600000 in
theorem oSlow (b : Nat) (w : World) (R : World → Prop) (h0 : w.cell? ⟨b, 1, none⟩ = some (.int .u32 0)) (h1 : w.cell? ⟨b, 2, none⟩ = some (.int .i32 0)) (f1 : w.frozen? ⟨b, 2, none⟩ = false)
    (hin : Calls Tryz.prog 79 #[.pointer (some ⟨b, 0, none⟩)] (w.setCell ⟨b, 2, none⟩ (.int .i32 1)) fun e w' => e = .returned (.tuple #[]) ∧ R w')
    (hR : ∀ w', R w' → w'.cell? ⟨b, 2, none⟩ = some (.int .i32 1) ∧ (∃ x, w'.cell? ⟨b, 1, none⟩ = some x) ∧ w'.frozen? ⟨b, 1, none⟩ = false ∧ w'.frozen? ⟨b, 2, none⟩ = false) :
    Calls Tryz.prog 95 #[.pointer (some ⟨b, 1, none⟩), .func (.func 79) #[.pointer (some ⟨b, 0, none⟩)] #[]] w fun e w' => e = .returned (.tuple #[]) ∧
      ∃ w2, R w2 ∧ w' = (w2.drew.setCell ⟨b, 1, none⟩ (.int .u32 1)).setCell ⟨b, 2, none⟩ (.int .i32 0) := by
  have hl := run_call_load (P := Tryz.prog) Tryz.func100 (by kernel_rfl) (by kernel_rfl) (by kernel_rfl) .u32 (by kernel_rfl) (w := w.setCell ⟨b, 2, none⟩ (.int .i32 1)) (a := ⟨b, 1, none⟩) (x := 0) ((World.cell?_setCell_other _ ⟨b, 2, none⟩ ⟨b, 1, none⟩ _ (by simp)).trans h0)
  have hnot : ∀ (x : Bool) (w : World), (Op.unary .not (.bool x)).run Tryz.prog w = .ok (.bool (!x)) w := fun _ _ => rfl
  go_enter_defers Tryz.func95, Tryz.ntmps95
  go_wp2_with (go_at_call 101; refine (oLock ⟨b, 2, none⟩ _ (by go_simp) (by go_simp)).mono ?_; rintro e w' ⟨rfl, rfl⟩)
  go_in
  go_wp2_with (go_at_call 79; refine hin.mono ?_; rintro e w' ⟨rfl, hw'⟩)
  obtain ⟨q2, ⟨x, q1⟩, z1, z2⟩ := hR _ hw'
  refine leaves_cons (f := 103) (args := #[.pointer (some ⟨b, 1, none⟩), .bool true]) (by simp) (by simp [go_sem]) ?_
  refine (oStore ⟨b, 1, none⟩ x .returning _ q1 z1).mono ?_
  rintro e u' w'' ⟨rfl, rfl, rfl⟩
  refine leaves_cons (f := 102) (args := #[.pointer (some ⟨b, 2, none⟩)]) (by simp [settle]) (by simp [go_sem]) ?_
  refine (oUnlock ⟨b, 2, none⟩ _ _ ?_ (by simp [z2])).mono ?_
  · refine (World.cell?_setCell_other _ ⟨b, 1, none⟩ ⟨b, 2, none⟩ _ (by simp)).trans ?_
    rw [World.cell?_drew]
    exact q2
  rintro e u' w'' ⟨rfl, rfl, rfl⟩
  simp [Leaves, settle, results, Tryz.results95]
  exact ⟨_, hw', rfl⟩
end Go.Proofs.YtegpebaoghmgiaaGreatDoor
/-
  sync.Once as abstract states: a page is built the first time; from then on nothing is done.
-/
namespace Go.Proofs.YtegpebaoghmgiaaGreatDoor
open Go Go.AL

theorem ext_setCell {D : Nat → Prop} {G : Ghost} {w : World} (b i : Nat) (u : Value) (hD : D b) : Ext D G w G (w.setCell ⟨b, i, none⟩ u) :=
  ⟨rfl, rfl, rfl, by simp [World.setCell], fun _ _ _ h => h, fun k hk => ⟨RowKit.Below.heap_setCell w _ u k (fun e => hk (e ▸ hD)), rfl, rfl⟩⟩
/-- A cell of an object that is known. -/
theorem obj_cell {D : Nat → Prop} {G : Ghost} {σ : Store} {w : World} (hW : WR D G σ w) {b : Nat} {cs : List AV} (hb : σ b = some cs) {i : Nat} {v : Value} (hi : cs[i]? = some (.lit v)) : w.cell? ⟨b, i, none⟩ = some v ∧ w.frozen? ⟨b, i, none⟩ = false := by
  obtain ⟨_, _, _, cur, e, hh, hl, hc⟩ := hW.obj b cs hb
  have hlt := (List.getElem?_eq_some_iff.1 hi).1
  have hu : cur[i]? = some (cur[i]'(by omega)) := by simp
  have := (hc i _ _ hi hu).2.1.lit_eq rfl
  refine ⟨?_, by simp [World.frozen?, hh]⟩
  simp [World.cell?, hh, show i < cur.size by omega, this]
theorem pgA_setMu (p : Pgs) (n : Int) : (pgA p).set 2 (.lit (.int .i32 n)) = pgA { p with mu := n } := rfl
theorem pgA_setDone (p : Pgs) (n : Int) : (pgA p).set 1 (.lit (.int .u32 n)) = pgA { p with done := n } := rfl
/-- A page that is built. -/
def Pgs.built (n : Int) (q : Nat) : Pgs := ⟨n, 1, 0, signsF n, .lit (.map (some q))⟩
def Pgs.mid (n : Int) (q : Nat) : Pgs := ⟨n, 0, 1, signsF n, .lit (.map (some q))⟩
def PgTo (b : Nat) (n : Int) (σ σ' : Store) : Prop := ∃ q : Nat, σ (mkey q) = none ∧ σ' = (σ.upd b (pgA (.built n q))).put q (mapA (codesN n 256))
theorem slow_calls (b : Nat) (n : Int) (hn : isPage n) (σ : Store) (hb : σ b = some (pgA (.new n))) :
    ACalls Tryz.prog 95 [.lit (.pointer (some ⟨b, 1, none⟩)), .func (.func 79) [pgP b] []] σ fun v σ' => v = .tuple [] ∧ PgTo b n σ σ' := by
  intro D G w cargs hl hargs hW hfresh
  have hsz : cargs.size = 2 := by simpa using hl.symm
  obtain ⟨c0, c1, rfl⟩ : ∃ c0 c1, cargs = #[c0, c1] := ⟨cargs[0], cargs[1], by
    apply Array.ext
    · simp [hsz]
    · intro i h1 h2
      match i with
      | 0 => rfl
      | 1 => rfl
      | _ + 2 => simp at h2; omega⟩
  have h0 := (hargs 0 _ c0 rfl rfl).1.lit_eq rfl
  have h1 := (hargs 1 _ c1 rfl rfl).1
  subst h0
  obtain rfl : c1 = .func (.func 79) #[.pointer (some ⟨b, 0, none⟩)] #[] := by
    cases h1 with
    | func _ _ _ ufs ucs e1 e2 e3 e4 =>
      have s2 : ucs = #[] := by simpa using e2.symm
      obtain ⟨u, rfl⟩ : ∃ u, ufs = #[u] := ⟨ufs[0]'(by simp at e1; omega), by
        apply Array.ext
        · simpa using e1.symm
        · intro i h1 h2
          match i with
          | 0 => rfl
          | _ + 1 => simp at h2⟩
      have := (e3 0 _ u rfl rfl).lit_eq rfl
      rw [s2, this]
  obtain ⟨hD, _, _, cur, e, hh, hlen, hcells⟩ := hW.obj b _ hb
  obtain ⟨d1, d2⟩ := obj_cell hW hb (i := 1) (v := .int .u32 0) rfl
  obtain ⟨m1, m2⟩ := obj_cell hW hb (i := 2) (v := .int .i32 0) rfl
  have hW1 := hW.setObj hb (i := 2) (by rw [pgA_new_length]; omega) (c := .lit (.int .i32 1)) (u := .int .i32 1) rfl (.lit _) trivial
  rw [pgA_setMu] at hW1
  have hbc := build_calls b { Pgs.new n with mu := 1 } List.length_replicate hn (σ.upd b (pgA { Pgs.new n with mu := 1 })) (by simp)
  have hin := hbc D G (w.setCell ⟨b, 2, none⟩ (.int .i32 1)) #[.pointer (some ⟨b, 0, none⟩)] rfl (fun i c u hc hu => by
    match i with
    | 0 => simp at hc hu; subst hc hu; exact ⟨.lit _, OwnAt.of_plain rfl⟩
    | _ + 1 => simp at hc) hW1 (fun k hk => hfresh k (by simpa [World.setCell] using hk))
  refine (oSlow b w (fun w' => ∃ G' σ', (∃ q : Nat, σ (mkey q) = none ∧ σ' = (σ.upd b (pgA (.mid n q))).put q (mapA (codesN n 256))) ∧ WR D G' σ' w' ∧ Ext D G (w.setCell ⟨b, 2, none⟩ (.int .i32 1)) G' w') d1 m1 m2 (hin.mono ?_) ?_).mono ?_
  · rintro e w' ⟨v, cv, G', σ', rfl, ⟨rfl, q, hq, rfl⟩, hv, _, hW2, hx⟩
    have hcv : cv = .tuple #[] := by
      cases hv with
      | tuple _ us e1 _ => have : us = #[] := by simpa using e1.symm
                           rw [this]
    subst hcv
    exact ⟨rfl, G', _, ⟨q, by simpa using hq, by rw [supd_supd]; rfl⟩, hW2, hx⟩
  · rintro w' ⟨G', σ', ⟨q, hq, rfl⟩, hW2, hx⟩
    have hb2 : ((σ.upd b (pgA (.mid n q))).put q (mapA (codesN n 256))) b = some (pgA (.mid n q)) := by simp
    obtain ⟨x1, x2⟩ := obj_cell hW2 hb2 (i := 1) (v := .int .u32 0) rfl
    obtain ⟨y1, y2⟩ := obj_cell hW2 hb2 (i := 2) (v := .int .i32 1) rfl
    exact ⟨y1, ⟨_, x1⟩, x2, y2⟩
  · rintro e w' ⟨rfl, w2, ⟨G', σ', ⟨q, hq, rfl⟩, hW2, hx⟩, rfl⟩
    have hb2 : ((σ.upd b (pgA (.mid n q))).put q (mapA (codesN n 256))) b = some (pgA (.mid n q)) := by simp
    have hl2 : (pgA (.mid n q)).length = 261 := pgA_length (signsF_length n)
    have hW3 := hW2.drew.setObj hb2 (i := 1) (by omega) (c := .lit (.int .u32 1)) (u := .int .u32 1) rfl (.lit _) trivial
    rw [pgA_setDone] at hW3
    have hW4 := hW3.setObj (o := b) (cs := pgA { Pgs.mid n q with done := 1 }) (by simp) (i := 2) (by rw [pgA_length (signsF_length n)]; omega) (c := .lit (.int .i32 0)) (u := .int .i32 0) rfl (.lit _) trivial
    rw [pgA_setMu, supd_supd] at hW4
    refine ⟨.tuple [], .tuple #[], G', _, rfl, ⟨rfl, q, hq, ?_⟩, .tuple _ _ rfl (by simp), OwnAt.of_plain rfl, hW4, (ext_setCell b 2 _ hD).trans (hx.trans (Ext.drew.trans ((ext_setCell b 1 _ hD).trans (ext_setCell b 2 _ hD))))⟩
    simp
    rfl
end Go.Proofs.YtegpebaoghmgiaaGreatDoor
/-
  What a page is asked: signs and codes, whether it is built yet or not.
-/
namespace Go.Proofs.YtegpebaoghmgiaaGreatDoor
open Go Go.AL

/-- A page in a store: as it was made, or built. -/
def pgS (b : Nat) (n : Int) (x : Option Nat) (σ : Store) : Store := match x with
  | none => σ.upd b (pgA (.new n))
  | some q => (σ.upd b (pgA (.built n q))).put q (mapA (codesN n 256))
theorem pgS_cell (b : Nat) (n : Int) (x : Option Nat) (σ : Store) : (pgS b n x σ) (b : Int) = some (pgA (match x with | none => .new n | some q => .built n q)) := by
  cases x <;> simp [pgS]
@[simp] theorem callable170' : callable Tryz.prog 100 = false := nr (by kernel_rfl)
theorem ext170 (b i : Nat) (d : Int) (cs : List AV) (σ : Store) (hb : σ b = some cs) (hi : cs[i]? = some (.lit (.int .u32 d))) : AExt Tryz.prog 100 [.lit (.pointer (some ⟨b, i, none⟩))] σ fun v σ' => v = .lit (.int .u32 d) ∧ σ' = σ := by
  intro D G w cargs hl hargs hW
  obtain ⟨c0, rfl⟩ : ∃ c0, cargs = #[c0] := ⟨cargs[0]'(by simp at hl; omega), by
    apply Array.ext
    · simpa using hl.symm
    · intro i h1 h2
      match i with
      | 0 => rfl
      | _ + 1 => simp at h2⟩
  have h0 := (hargs 0 _ c0 rfl rfl).lit_eq rfl
  subst h0
  obtain ⟨d1, _⟩ := obj_cell hW hb hi
  exact ⟨_, _, run_call_load (P := Tryz.prog) Tryz.func100 (by kernel_rfl) (by kernel_rfl) (by kernel_rfl) .u32 (by kernel_rfl) d1, rfl, .lit _, rfl, rfl⟩
set_option maxRecDepth 8000 in
theorem oload_calls (b : Nat) (d : Int) (cs : List AV) (σ : Store) (hb : σ b = some cs) (hi : cs[1]? = some (.lit (.int .u32 d))) : ACalls Tryz.prog 94 [.lit (.pointer (some ⟨b, 1, none⟩))] σ fun v σ' => v = .lit (.bool (d != 0)) ∧ σ' = σ := by
  refine ACalls.of_awp follows (st := st94) (plans := pl94) (n := 8) Tryz.func94 rfl (by kernel_rfl) (by kernel_rfl) (by kernel_rfl) ?_
  simp
  refine extK.of (ext170 b 1 d cs σ hb hi) ?_
  rintro v σ1 ⟨rfl, rfl⟩
  simp
/-- The page's map is the one it had, or a new one. -/
def NxP (σ : Store) (x x' : Option Nat) : Prop := x' = x ∨ ∃ g, x' = some g ∧ σ (mkey g) = none
theorem NxP.trans {σ : Store} {x y z : Option Nat} (h : NxP σ x y) (k : NxP σ y z) : NxP σ x z := by
  rcases k with rfl | k
  · exact h
  · exact .inr k
set_option maxRecDepth 8000 in
theorem odo_calls (b : Nat) (n : Int) (hn : isPage n) (x : Option Nat) (σ : Store) : ACalls Tryz.prog 78 [.lit (.pointer (some ⟨b, 1, none⟩)), .func (.func 79) [pgP b] []] (pgS b n x σ) fun v σ' => v = .tuple [] ∧ ∃ q, NxP σ x (some q) ∧ σ' = pgS b n (some q) σ := by
  refine ACalls.of_awp follows (st := st78) (plans := pl78) (n := 12) Tryz.func78 rfl (by kernel_rfl) (by kernel_rfl) (by kernel_rfl) ?_
  cases x with
  | none =>
    have hl := oload_calls b 0 _ (pgS b n none σ) (pgS_cell b n none σ) rfl
    have hs := slow_calls b n hn (pgS b n none σ) (pgS_cell b n none σ)
    simp
    refine callK.of hl ?_
    rintro v σ1 ⟨rfl, rfl⟩
    simp
    refine callK.of hs ?_
    rintro v σ1 ⟨rfl, q, hq, rfl⟩
    simp
    refine ⟨_, AV.le_refl _, _, Store.sub_refl _, rfl, q, .inr ⟨q, rfl, by simpa [pgS] using hq⟩, ?_⟩
    unfold pgS
    dsimp only
    rw [supd_supd]
  | some q =>
    have hl := oload_calls b 1 _ (pgS b n (some q) σ) (pgS_cell b n (some q) σ) rfl
    simp
    refine callK.of hl ?_
    rintro v σ1 ⟨rfl, rfl⟩
    simp
    exact ⟨_, AV.le_refl _, _, Store.sub_refl _, rfl, q, .inl rfl, rfl⟩
set_option maxRecDepth 8000 in
theorem built_calls (b : Nat) (n : Int) (hn : isPage n) (x : Option Nat) (σ : Store) : ACalls Tryz.prog 69 [pgP b] (pgS b n x σ) fun v σ' => v = pgP b ∧ ∃ q, NxP σ x (some q) ∧ σ' = pgS b n (some q) σ := by
  refine ACalls.of_awp follows (st := st69) (plans := pl69) (n := 10) Tryz.func69 rfl (by kernel_rfl) (by kernel_rfl) (by kernel_rfl) ?_
  simp
  refine callK.of (odo_calls b n hn x σ) ?_
  rintro v σ1 ⟨rfl, q, nx, rfl⟩
  simp
  exact ⟨_, AV.le_refl _, _, Store.sub_refl _, rfl, q, nx, rfl⟩
set_option maxRecDepth 8000 in
theorem code_calls (b : Nat) (n : Int) (hn : isPage n) (x : Option Nat) (s : Int) (σ : Store) : ACalls Tryz.prog 55 [pgP b, .lit (.int .i32 s)] (pgS b n x σ) fun v σ' => v = .tuple [.lit (.int .u8 (((codeIx n s).getD 0 : Nat) : Int)), .lit (.bool (codeIx n s).isSome)] ∧ ∃ q, NxP σ x (some q) ∧ σ' = pgS b n (some q) σ := by
  refine ACalls.of_awp follows (st := st55) (plans := pl55) (n := 23) Tryz.func55 rfl (by kernel_rfl) (by kernel_rfl) (by kernel_rfl) ?_
  simp
  refine callK.of (built_calls b n hn x σ) ?_
  rintro v σ1 ⟨rfl, q, nx, rfl⟩
  have hcell := pgS_cell b n (some q) σ
  dsimp only at hcell
  have hpl := pgA_length (p := Pgs.built n q) (signsF_length n)
  have hcd := pgA_cd (p := Pgs.built n q) (signsF_length n)
  have e : (Pgs.built n q).cd = .lit (.map (some q)) := rfl
  rw [e] at hcd
  have hcd : ∀ h : 260 < (pgA (.built n q)).length, (pgA (.built n q))[260]'h = .lit (.map (some q)) := fun h => by
    rw [List.getElem?_eq_getElem h] at hcd
    exact Option.some.inj hcd
  have hmap : (pgS b n (some q) σ) (mkey q) = some (mapA (codesN n 256)) := by simp [pgS]
  have hget := get_codes Tryz.prog 5 n s zeroV83_5
  simp [hcell, hpl, hcd, hmap, hget]
  cases hx : codeIx n s with
  | none =>
    simp
    exact ⟨_, AV.le_refl _, _, Store.sub_refl _, rfl, q, nx, rfl⟩
  | some j =>
    simp
    exact ⟨_, AV.le_refl _, _, Store.sub_refl _, rfl, q, nx, rfl⟩
set_option maxRecDepth 8000 in
theorem page_new (n : Int) (hn : isPage n) (σ : Store) : ACalls Tryz.prog 15 [.lit (.int .i64 n)] σ fun v σ' => ∃ b : Nat, σ b = none ∧ v = .tuple [pgP b, .lit (.int .i64 0)] ∧ σ' = pgS b n none σ := by
  have hoth := fun τ => others_calls n τ
  rw [decide_eq_true hn] at hoth
  refine ACalls.of_awp follows (st := st15) (plans := pl15) (n := 16) Tryz.func15 rfl (by kernel_rfl) (by kernel_rfl) (by kernel_rfl) ?_
  simp
  refine callK.of (hoth _) ?_
  rintro v σ1 ⟨rfl, rfl⟩
  have hpl := pgA_new_length 0
  have hset := pgA_new_set n
  have hpl2 := pgA_new_length n
  simp [hpl, hset]
  intro b hb
  exact ⟨_, AV.le_refl _, _, Store.sub_refl _, b, hb, rfl, rfl⟩
end Go.Proofs.YtegpebaoghmgiaaGreatDoor
/-
  Pointers.
-/
namespace Go.Proofs.YtegpebaoghmgiaaGreatDoor
open Go Go.AL
abbrev ptrA (o : Nat) : AV := .lit (.pointer (some ⟨o, 0, none⟩))
@[simp] theorem byteA_share (b : UInt8) : (byteA b).share = byteA b := nr rfl
@[simp] theorem byteA_drop1 (b : UInt8) : (byteA b).drop1 = byteA b := nr rfl
@[simp] theorem byteA_keep1 (b : UInt8) : (byteA b).keep1 = byteA b := nr rfl
@[simp] theorem byteA_cells (b : UInt8) : (byteA b).cells = [byteA b] := nr rfl
@[simp] theorem byteA_one (b : UInt8) : (byteA b).one = true := nr rfl
@[simp] theorem byteA_solid (b : UInt8) : (byteA b).solid = true := nr rfl
@[simp] theorem byteA_conv (P : Program) (t : TypeId) (b : UInt8) : conv P t (byteA b) = byteA b := nr rfl
end Go.Proofs.YtegpebaoghmgiaaGreatDoor
