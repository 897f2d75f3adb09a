/-
  What bytes and events are as abstract values; the reader's pure model.
-/
import Derived.Test.YtlmdbcgceijlnaaGreatDoorPart9
set_option linter.unusedSimpArgs false
set_option linter.unusedVariables false
namespace Go.Proofs.YtlmdbcgceijlnaaGreatDoor
open Go Go.AL

theorem follows : Tryz.prog.follows .mixedOrders = true := by kernel_rfl

def byteA (b : UInt8) : AV := .lit (.int .u8 (b.toNat : Int))
def bytesA (l : List UInt8) : List AV := l.map byteA
@[simp] theorem bytesA_length (l : List UInt8) : (bytesA l).length = l.length := by simp [bytesA]
/-- A place and the characters from there on. -/
structure En where
  addr : Int
  text : List UInt8
  deriving DecidableEq
/-- What came. -/
structure Rp where
  aid : UInt8
  short : Bool
  cursor : Int
  es : List En
  deriving DecidableEq
def enA (e : En) : AV := .agg [.lit (.int .i64 e.addr), .list false 1 (bytesA e.text)]
def ensA (l : List En) : List AV := l.map enA
@[simp] theorem ensA_length (l : List En) : (ensA l).length = l.length := by simp [ensA]
def rpA (r : Rp) : AV := .agg [byteA r.aid, .lit (.bool r.short), .lit (.int .i64 r.cursor), .list false 2 (ensA r.es)]

theorem byte_eq (b c : UInt8) : ((b.toNat : Int) == (c.toNat : Int)) = (b == c) := by
  rw [Bool.eq_iff_iff, beq_iff_eq, beq_iff_eq]
  constructor
  · intro h; exact UInt8.toNat_inj.1 (by omega)
  · rintro rfl; rfl
theorem le_of_eq {a b : AV} (h : a = b) : a.le b := h ▸ AV.le_refl a
/-- A byte, as the operations have it. -/
theorem byte_lt (b : UInt8) : (b.toNat : Int) < 256 := by have := b.toNat_lt; omega
/-- A row of bytes that is an object. -/
def rowA (p cap : Nat) (l : List UInt8) : AV := .lit (.slice (some ⟨p, 0, none⟩) l.length cap)

end Go.Proofs.YtlmdbcgceijlnaaGreatDoor
/-
  A page: its cells; the rows of signs; what other signs it has.
-/
namespace Go.Proofs.YtlmdbcgceijlnaaGreatDoor
open Go Go.AL

def sgA (l : List Nat) : List AV := l.map fun z : Nat => .lit (.int .i32 (z : Int))
@[simp] theorem sgA_length (l : List Nat) : (sgA l).length = l.length := by simp [sgA]
theorem sgA_get (l : List Nat) {i : Nat} (h : i < l.length) : (sgA l)[i]? = some (.lit (.int .i32 l[i])) := by simp [sgA, h]
theorem sgA_set (l : List Nat) (i z : Nat) : (sgA l).set i (.lit (.int .i32 z)) = sgA (l.set i z) := by simp [sgA, List.map_set]
/-- A page: its number, whether it is built, the lock, its signs, its codes. -/
structure Pgs where
  num : Int
  done : Int
  mu : Int
  sg : List Nat
  cd : AV
def pgA (p : Pgs) : List AV := [.lit (.int .i64 p.num), .lit (.int .u32 p.done), .lit (.int .i32 p.mu), .lit (.int .u32 0)] ++ (sgA p.sg ++ [p.cd])
theorem pgA_length {p : Pgs} (h : p.sg.length = 256) : (pgA p).length = 261 := by simp [pgA, h]
theorem pgA_num (p : Pgs) : (pgA p)[0]? = some (.lit (.int .i64 p.num)) := rfl
theorem pgA_sg {p : Pgs} {i : Nat} (h : i < p.sg.length) : (pgA p)[4 + i]? = some (.lit (.int .i32 p.sg[i])) := by
  unfold pgA
  rw [List.getElem?_append_right (by simp), List.getElem?_append_left (by simp; omega)]
  simp [sgA, h]
theorem pgA_cd {p : Pgs} (h : p.sg.length = 256) : (pgA p)[260]? = some p.cd := by
  unfold pgA
  rw [List.getElem?_append_right (by simp), List.getElem?_append_right (by simp [h])]
  simp [h]
theorem pgA_sgs {p : Pgs} (h : p.sg.length = 256) : ((pgA p).drop 4).take 256 = sgA p.sg := by
  unfold pgA
  rw [List.drop_left' (by simp), List.take_left' (by simp [h])]
theorem pgA_setSg {p : Pgs} {i : Nat} (z : Nat) (h : i < p.sg.length) : (pgA p).set (4 + i) (.lit (.int .i32 z)) = pgA { p with sg := p.sg.set i z } := by
  unfold pgA
  rw [List.set_append_right _ _ (by simp), List.set_append_left _ _ (by simp; omega)]
  simp [sgA_set]
theorem pgA_setCd {p : Pgs} (h : p.sg.length = 256) (c : AV) : (pgA p).set 260 c = pgA { p with cd := c } := by
  unfold pgA
  rw [List.set_append_right _ _ (by simp), List.set_append_right _ _ (by simp [h])]
  simp [h]
def Pgs.new (n : Int) : Pgs := ⟨n, 0, 0, List.replicate 256 0, .lit (.map none)⟩
@[simp] theorem azero167 : azero Tryz.prog 167 = some (pgA (.new 0)) := nr (by kernel_rfl)
theorem pgA_new_length (n : Int) : (pgA (.new n)).length = 261 := pgA_length List.length_replicate
theorem pgA_new_set (n : Int) : (pgA (.new 0)).set 0 (.lit (.int .i64 n)) = pgA (.new n) := rfl

/-! ### The tables -/
def rowU (l : List Nat) : List AV := l.map fun z : Nat => .lit (.int .u16 (z : Int))
set_option maxRecDepth 20000 in
set_option maxHeartbeats 4000000 in
theorem row_calls (d : Nat) (hd : d < 16) (σ : Store) : ACalls Tryz.prog 220 [.lit (.int .i64 d)] σ fun v σ' => v = .agg (rowU (rowsL.getD d [])) ∧ σ' = σ := by
  have key : ∀ d : Nat, d < 16 → d = 0 ∨ d = 1 ∨ d = 2 ∨ d = 3 ∨ d = 4 ∨ d = 5 ∨ d = 6 ∨ d = 7 ∨ d = 8 ∨ d = 9 ∨ d = 10 ∨ d = 11 ∨ d = 12 ∨ d = 13 ∨ d = 14 ∨ d = 15 := by omega
  rcases key d hd with rfl | rfl | rfl | rfl | rfl | rfl | rfl | rfl | rfl | rfl | rfl | rfl | rfl | rfl | rfl | rfl
  all_goals
    refine ACalls.of_awp follows (st := st220) (plans := pl220) (n := 53) Tryz.func220 rfl (by kernel_rfl) (by kernel_rfl) (by kernel_rfl) ?_
    simp
    intro p hp
    exact ⟨by simp [rowU, rowsL], sub_upd_self _ _ _ hp⟩
def othA (l : List (Nat × Nat)) : List AV := l.map fun o => .agg [.lit (.int .u8 (o.1 : Int)), .lit (.int .u16 (o.2 : Int))]
@[simp] theorem othA_length (l : List (Nat × Nat)) : (othA l).length = l.length := by simp [othA]
set_option maxRecDepth 20000 in
set_option maxHeartbeats 4000000 in
theorem others_calls (n : Int) (σ : Store) : ACalls Tryz.prog 92 [.lit (.int .i64 n)] σ fun v σ' => v = .tuple [.list true 2 (othA (othersF n)), .lit (.bool (decide (isPage n)))] ∧ σ' = σ := by
  refine ACalls.of_awp follows (st := st92) (plans := pl92) (n := 82) Tryz.func92 rfl (by kernel_rfl) (by kernel_rfl) (by kernel_rfl) ?_
  by_cases h1 : n = 37
  · subst h1; simp [othersF, isPage, othA, oth37]
  by_cases h2 : n = 273
  · subst h2; simp [othersF, isPage, othA, oth273]
  by_cases h3 : n = 297
  · subst h3; simp [othersF, isPage, othA, oth297]
  by_cases h4 : n = 500
  · subst h4; simp [othersF, isPage, othA, oth500]
  by_cases h5 : n = 1047
  · subst h5; simp [othersF, isPage, othA, oth1047]
  by_cases h6 : n = 1140
  · subst h6; simp [othersF, isPage, othA, oth1140]
  · simp [othersF, isPage, othA, h1, h2, h3, h4, h5, h6]
end Go.Proofs.YtlmdbcgceijlnaaGreatDoor
/-
  A page is built: its signs, and the codes of its signs.
-/
namespace Go.Proofs.YtlmdbcgceijlnaaGreatDoor
open Go Go.AL

abbrev pgP (b : Nat) : AV := .lit (.pointer (some ⟨b, 0, none⟩))
def sgF (n : Int) (c : Nat) : Nat := (signsF n).getD c 0
/-- The codes of the first signs. -/
def codesN (n : Int) (k : Nat) : List (Value × AV) := (List.range k).map fun c => (.int .i32 ((sgF n c : Nat) : Int), .lit (.int .u8 (c : Int)))
theorem findA_map (f : Nat → Int) (s : Int) : ∀ (l : List Nat) (i : Nat), findA (.int .i32) (.int .i32 s) (l.map fun c => (.int .i32 (f c), .lit (.int .u8 (c : Int)))) i =
    some ((l.findIdx? (fun c => f c == s)).map fun j => (i + j, .lit (.int .u8 ((l.getD j 0 : Nat) : Int)))) := by
  intro l
  induction l with
  | nil => intro i; rfl
  | cons c l ih =>
    intro i
    by_cases h : s = f c
    · have h' : (f c == s) = true := by simp [h]
      simp [findA, Instr.sameNow, h, List.findIdx?_cons]
    · have h' : (f c == s) = false := by simpa using fun e => h e.symm
      have h2 : (s == f c) = false := by simpa using h
      simp only [List.map_cons, findA, Instr.sameNow, if_true, h2, ih, List.findIdx?_cons, h', Bool.false_eq_true, if_false, Option.map_map]
      congr 1
      cases l.findIdx? (fun c => f c == s) with
      | none => rfl
      | some j => simp; omega
theorem sgF_inj {n : Int} (hn : isPage n) {c d : Nat} (hc : c < 256) (hd : d < 256) (h : sgF n c = sgF n d) : c = d := by
  have hl := signsF_length n
  have hnd := signsF_nodup hn
  unfold sgF at h
  rw [List.getD_eq_getElem?_getD, List.getD_eq_getElem?_getD, List.getElem?_eq_getElem (by omega), List.getElem?_eq_getElem (by omega)] at h
  exact (List.getElem_inj hnd).1 h
theorem setA_codes {n : Int} (hn : isPage n) {k : Nat} (hk : k < 256) : setA (.int .i32) (codesN n k) (.int .i32 ((sgF n k : Nat) : Int)) (.lit (.int .u8 (k : Int))) = some (codesN n (k + 1)) := by
  have hf : (List.range k).findIdx? (fun c => ((sgF n c : Nat) : Int) == ((sgF n k : Nat) : Int)) = none := by
    rw [List.findIdx?_eq_none_iff]
    intro c hc
    have hck : c < k := by simpa using hc
    have : sgF n c ≠ sgF n k := fun e => by have := sgF_inj hn (by omega) hk e; omega
    simpa using fun e => this (by omega)
  unfold setA codesN
  rw [findA_map (fun c => ((sgF n c : Nat) : Int)), hf]
  simp [List.range_succ]
/-- A sign's code. -/
def codeIx (n : Int) (s : Int) : Option Nat := (List.range 256).findIdx? (fun c => ((sgF n c : Nat) : Int) == s)
theorem codeIx_lt {n s : Int} {j : Nat} (h : codeIx n s = some j) : j < 256 ∧ ((sgF n j : Nat) : Int) = s := by
  obtain ⟨h1, h2, _⟩ := List.findIdx?_eq_some_iff_getElem.1 h
  have : j < 256 := by simpa using h1
  exact ⟨this, by simpa using h2⟩
theorem get_codes (P : Program) (et : TypeId) (n s : Int) (hz : zeroV P et = some (.lit (.int .u8 0))) : getA P et true (.int .i32) (.int .i32 s) (codesN n 256) =
    some (.tuple [.lit (.int .u8 (((codeIx n s).getD 0 : Nat) : Int)), .lit (.bool (codeIx n s).isSome)]) := by
  unfold getA codesN
  rw [findA_map (fun c => ((sgF n c : Nat) : Int))]
  have e : (List.range 256).findIdx? (fun c => ((sgF n c : Nat) : Int) == s) = codeIx n s := rfl
  rw [e]
  cases hc : codeIx n s with
  | none => simp [hz, AV.drop1]
  | some j =>
    have hj := (codeIx_lt hc).1
    have : (List.range 256).getD j 0 = j := by simp [hj]
    simp only [Option.map_some, this]
    rfl
/-- Signs laid one behind the other. -/
def upto (b : List Nat) (s : List Nat) (n : Nat) : List Nat := b.take n ++ s.drop n
theorem upto_length {b s : List Nat} (h : b.length = s.length) (n : Nat) : (upto b s n).length = s.length := by simp [upto]; omega
theorem upto_set {b s : List Nat} (h : b.length = s.length) {n : Nat} (hn : n < b.length) : (upto b s n).set n (b.getD n 0) = upto b s (n + 1) := by
  unfold upto
  rw [List.set_append_right _ _ (by simp; omega)]
  have e1 : n - (b.take n).length = 0 := by simp; omega
  rw [e1, List.drop_eq_getElem_cons (by omega), List.set_cons_zero, List.getD_eq_getElem?_getD, List.getElem?_eq_getElem hn]
  have e2 : b.take (n + 1) = b.take n ++ [b[n]] := List.take_succ_eq_append_getElem hn
  rw [e2, List.append_assoc]
  rfl
theorem row_base : ∀ i < 16, ∀ j < 16, (rowsL.getD i []).getD j 0 = baseL.getD (16 * i + j) 0 := by decide +kernel
theorem row_len : ∀ i < 16, (rowsL.getD i []).length = 16 := by decide +kernel
theorem base_lt (n : Nat) : baseL.getD n 0 < 65536 := by
  rw [List.getD_eq_getElem?_getD]
  cases h : baseL[n]? with
  | none => simp
  | some z => exact base_small z (List.mem_of_getElem? h)
theorem rowU_get {i j : Nat} (hi : i < 16) (hj : j < 16) : (rowU (rowsL.getD i []))[j]? = some (.lit (.int .u16 ((baseL.getD (16 * i + j) 0 : Nat) : Int))) := by
  have hl := row_len i hi
  rw [← row_base i hi j hj]
  unfold rowU
  rw [List.getElem?_map, List.getD_eq_getElem?_getD (l := rowsL.getD i [])]
  rw [List.getElem?_eq_getElem (by omega)]
  rfl
theorem others_len (n : Int) : (othersF n).length ≤ 25 := by
  unfold othersF
  repeat' split
  all_goals decide
theorem mkAV_true (cs : List AV) : mkAV true cs = some (.agg cs) := nr (by unfold mkAV; rfl)
/-- Some other signs laid. -/
def sgK (O : List (Nat × Nat)) (k : Nat) : List Nat := (O.take k).foldl (fun l o => l.set o.1 o.2) baseL
theorem sgK_length (O : List (Nat × Nat)) (k : Nat) : (sgK O k).length = 256 := by rw [sgK, signs_set, baseL_length]
theorem sgK_succ (O : List (Nat × Nat)) {k : Nat} (h : k < O.length) : sgK O (k + 1) = (sgK O k).set O[k].1 O[k].2 := by
  unfold sgK
  have e : O.take (k + 1) = O.take k ++ [O[k]] := List.take_succ_eq_append_getElem h
  rw [e, List.foldl_append]; rfl
set_option maxRecDepth 8000 in
set_option maxHeartbeats 2000000 in
theorem build_calls (b : Nat) (p : Pgs) (hp : p.sg.length = 256) (hn : isPage p.num) (σ : Store) (hb : σ b = some (pgA p)) :
    ACalls Tryz.prog 207 [pgP b] σ fun v σ' => v = .tuple [] ∧ ∃ q : Nat, σ (mkey q) = none ∧ σ' = (σ.upd b (pgA { p with sg := signsF p.num, cd := .lit (.map (some q)) })).put q (mapA (codesN p.num 256)) := by
  have hbl := baseL_length
  have hul := fun n => upto_length (b := baseL) (s := p.sg) (by omega) n
  refine ACalls.of_awp follows (st := st207) (plans := pl207) (n := 76) Tryz.func207 rfl (by kernel_rfl) (by kernel_rfl) (by kernel_rfl) ?_
  simp
  refine codeK.loop follows (st := st207) (plans := pl207) (X := Nat) (fun i => i ≤ 16)
    (fun i => [(0, pgP b), (11, .lit (.int .i64 i))]) (fun i => σ.upd b (pgA { p with sg := upto baseL p.sg (16 * i) })) (fun i => 16 - i) 0 (by kernel_rfl) (Nat.zero_le _) (by simp) ?_ fun i hi => ?_
  · have e : upto baseL p.sg (16 * 0) = p.sg := rfl
    rw [e, upd_back hb]; exact Store.sub_refl _
  by_cases hlt : i < 16
  · have hlt' : (i : Int) < 16 := by omega
    have hrow := fun τ => row_calls i hlt τ
    have hgR := fun j (hj : j < 16) => rowU_get hlt hj
    have hrl : (rowU (rowsL.getD i [])).length = 16 := by unfold rowU; rw [List.length_map, row_len i hlt]
    generalize rowU (rowsL.getD i []) = R at *
    simp [hlt']
    refine callK.of (hrow _) ?_
    rintro v σ1 ⟨rfl, rfl⟩
    simp
    refine codeK.loop follows (st := st207) (plans := pl207) (X := Nat) (fun j => j ≤ 16)
      (fun j => [(0, pgP b), (2, .lit (.int .i64 i)), (11, .lit (.int .i64 i)), (15, .agg R), (16, .lit (.int .i64 j))]) (fun j => σ.upd b (pgA { p with sg := upto baseL p.sg (16 * i + j) })) (fun j => 16 - j) 0 (by kernel_rfl) (Nat.zero_le _) (by simp) (Store.sub_refl _) fun j hj => ?_
    by_cases hjl : j < 16
    · have hjl' : (j : Int) < 16 := by omega
      have hg := hgR j hjl
      obtain ⟨m, hm⟩ : ∃ m, 16 * i + j = m := ⟨_, rfl⟩
      have hm1 : 16 * i + (j + 1) = m + 1 := by omega
      rw [hm] at hg ⊢
      have hmlt : m < 256 := by omega
      have hmlt' : (m : Int) < 256 := by omega
      have hz := base_lt m
      have hset := upto_set (b := baseL) (s := p.sg) (by omega) (n := m) (by omega)
      have hpl := pgA_length (p := { p with sg := upto baseL p.sg m }) (by dsimp only; rw [hul]; exact hp)
      have hps := fun z => pgA_setSg (p := { p with sg := upto baseL p.sg m }) (i := m) z (by dsimp only; rw [hul]; omega)
      have hps := hps (baseL.getD m 0)
      dsimp only at hps hpl
      rw [hset] at hps
      generalize baseL.getD m 0 = z at *
      have hw1 : IntKind.i64.wrap (16 * (i : Int)) = 16 * (i : Int) := by rw [wrap_i64 (by omega) (by omega)]
      have hw2 : IntKind.i64.wrap (16 * (i : Int) + (j : Int)) = (m : Int) := by rw [wrap_i64 (by omega) (by omega)]; omega
      have hw3 : IntKind.i32.wrap (z : Int) = z := by unfold IntKind.wrap; simp [IntKind.signed, IntKind.bits]; omega
      have hw4 : IntKind.i64.wrap ((j : Int) + 1) = ((j + 1 : Nat) : Int) := wrap_i64 (by omega) (by omega)
      simp [hjl', hg, hw1, hw2, hw3, hpl, hps, hmlt']
      exact ⟨by omega, j + 1, by omega, by omega, by rw [hw4]; exact AV.le_refl _, by rw [hm1]; exact Store.sub_refl _⟩
    · obtain rfl : j = 16 := by omega
      simp
      have hw1 : IntKind.i64.wrap ((i : Int) + 1) = ((i + 1 : Nat) : Int) := wrap_i64 (by omega) (by omega)
      exact ⟨i + 1, by omega, by omega, by rw [hw1]; exact AV.le_refl _, by rw [show 16 * (i + 1) = 16 * i + 16 by omega]; exact Store.sub_refl _⟩
  · obtain rfl : i = 16 := by omega
    have hu0 : upto baseL p.sg (16 * 16) = baseL := by unfold upto; rw [List.take_of_length_le (by omega), List.drop_of_length_le (by omega), List.append_nil]
    have hnum := pgA_num { p with sg := baseL }
    have hoth := fun τ => others_calls p.num τ
    dsimp only at hnum
    simp only [hu0]
    simp [hnum]
    refine callK.of (hoth _) ?_
    rintro v σ1 ⟨rfl, rfl⟩
    have hsm := others_small p.num
    have hOl := others_len p.num
    have hsF : (othersF p.num).foldl (fun l o => l.set o.1 o.2) baseL = signsF p.num := rfl
    generalize hO : othersF p.num = O at *
    simp
    refine codeK.loop follows (st := st207) (plans := pl207) (X := Nat) (fun k => k ≤ O.length)
      (fun k => [(0, pgP b), (40, .list false 2 (othA O)), (41, .lit (.int .i64 O.length)), (42, .lit (.int .i64 k))]) (fun k => σ.upd b (pgA { p with sg := sgK O k })) (fun k => O.length - k) 0 (by kernel_rfl) (Nat.zero_le _) (by simp) (Store.sub_refl _) fun k hk => ?_
    have hskl := sgK_length O k
    by_cases hkl : k < O.length
    · obtain ⟨o, ho⟩ : ∃ o, O[k] = o := ⟨_, rfl⟩
      have hos := hsm o (by rw [← ho]; exact List.getElem_mem ..)
      have hgo : ∀ q : k < (othA O).length, (othA O)[k]'q = .agg [.lit (.int .u8 (o.1 : Int)), .lit (.int .u16 (o.2 : Int))] := fun q => by simp [othA, ho]
      have hkl' : (k : Int) < O.length := by omega
      have hset : (sgK O k).set o.1 o.2 = sgK O (k + 1) := by rw [sgK_succ O hkl, ho]
      have hpl := pgA_length (p := { p with sg := sgK O k }) (by dsimp only; omega)
      have hps := pgA_setSg (p := { p with sg := sgK O k }) (i := o.1) o.2 (by dsimp only; omega)
      dsimp only at hps hpl
      rw [hset] at hps
      obtain ⟨c, z⟩ := o
      dsimp only at hos hps hgo
      have hc' : (c : Int) < 256 := by omega
      have hw3 : IntKind.i32.wrap (z : Int) = z := by unfold IntKind.wrap; simp [IntKind.signed, IntKind.bits]; omega
      have hw4 : IntKind.i64.wrap ((k : Int) + 1) = ((k + 1 : Nat) : Int) := wrap_i64 (by omega) (by omega)
      simp [hkl, hkl', hgo]
      intro q hq0
      obtain ⟨hqb, hq⟩ : ¬ q = b ∧ σ q = none := by
        split at hq0
        · cases hq0
        · exact ⟨by assumption, hq0⟩
      have hbq : ¬ b = q := fun e => hqb e.symm
      simp [hpl, hps, hc', hw3, hbq]
      exact ⟨by omega, k + 1, by omega, by omega, by rw [hw4]; exact AV.le_refl _, sub_box2 hq hbq⟩
    · obtain rfl : k = O.length := by omega
      have hall : sgK O O.length = signsF p.num := by unfold sgK; rw [List.take_length, hsF]
      have hSl := signsF_length p.num
      have hpl := pgA_length (p := { p with sg := signsF p.num }) hSl
      have hcd := fun c => pgA_setCd (p := { p with sg := signsF p.num }) hSl c
      have hpl2 := fun c => pgA_length (p := { p with sg := signsF p.num, cd := c }) hSl
      have hsg := fun c => pgA_sgs (p := { p with sg := signsF p.num, cd := c }) hSl
      have hcdg := fun c => pgA_cd (p := { p with sg := signsF p.num, cd := c }) hSl
      have hgS : ∀ c, c < 256 → (sgA (signsF p.num))[c]? = some (.lit (.int .i32 ((sgF p.num c : Nat) : Int))) := fun c hc => by
        rw [sgA_get _ (by omega)]
        unfold sgF
        rw [List.getD_eq_getElem?_getD, List.getElem?_eq_getElem (by omega)]
        rfl
      have hset := fun c (hc : c < 256) => setA_codes hn hc
      have hSA : (sgA (signsF p.num)).length = 256 := by rw [sgA_length, hSl]
      have hdS : (sgA (signsF p.num)).map AV.drop1 = sgA (signsF p.num) := by simp [sgA, Function.comp_def, AV.drop1]
      rw [hall]
      dsimp only at hpl hcd hpl2 hsg hcdg
      generalize sgA (signsF p.num) = S at *
      simp [hpl, hcd, hpl2, hsg]
      intro q hq
      simp [mkAV_true]
      refine codeK.loop follows (st := st207) (plans := pl207) (X := Nat) (fun c => c ≤ 256)
        (fun c => [(0, pgP b), (63, .agg S), (64, .lit (.int .i64 c))]) (fun c => (σ.upd b (pgA { p with sg := signsF p.num, cd := .lit (.map (some q)) })).put q (mapA (codesN p.num c))) (fun c => 256 - c) 0 (by kernel_rfl) (Nat.zero_le _) (by simp [hdS]) (Store.sub_refl _) fun c hc => ?_
      by_cases hcl : c < 256
      · have hcl' : (c : Int) < 256 := by omega
        have h1 : ∀ q : c < S.length, S[c]'q = .lit (.int .i32 ((sgF p.num c : Nat) : Int)) := fun q => by
          have := hgS c hcl
          rw [List.getElem?_eq_getElem q] at this
          exact Option.some.inj this
        have h2 := hset c hcl
        have hw1 : IntKind.u8.wrap (c : Int) = c := by unfold IntKind.wrap; simp [IntKind.signed, IntKind.bits]; omega
        have hw2 : IntKind.i64.wrap ((c : Int) + 1) = ((c + 1 : Nat) : Int) := wrap_i64 (by omega) (by omega)
        simp [hcl, hcl', h1, hSA, hcdg, hw1, h2]
        exact ⟨c + 1, by omega, by omega, by rw [hw2]; exact AV.le_refl _, Store.sub_refl _⟩
      · obtain rfl : c = 256 := by omega
        simp
        exact ⟨_, AV.le_refl _, _, Store.sub_refl _, rfl, q, hq, rfl⟩
end Go.Proofs.YtlmdbcgceijlnaaGreatDoor
/-
  Pointers.
-/
namespace Go.Proofs.YtlmdbcgceijlnaaGreatDoor
open Go Go.AL
abbrev ptrA (o : Nat) : AV := .lit (.pointer (some ⟨o, 0, none⟩))
@[simp] theorem wr0 : IntKind.i64.wrap 0 = 0 := by decide
@[simp] theorem wr1 : IntKind.i64.wrap 1 = 1 := by decide
@[simp] theorem wr2 : IntKind.i64.wrap 2 = 2 := by decide
theorem all_bytes {p : UInt8 → Prop} (h : ∀ n : Fin 256, p (UInt8.ofNat n.val)) (b : UInt8) : p b := by
  have := h ⟨b.toNat, b.toNat_lt⟩
  simpa using this
@[simp] theorem byteA_share (b : UInt8) : (byteA b).share = byteA b := nr rfl
@[simp] theorem byteA_drop1 (b : UInt8) : (byteA b).drop1 = byteA b := nr rfl
@[simp] theorem byteA_keep1 (b : UInt8) : (byteA b).keep1 = byteA b := nr rfl
@[simp] theorem byteA_cells (b : UInt8) : (byteA b).cells = [byteA b] := nr rfl
@[simp] theorem byteA_one (b : UInt8) : (byteA b).one = true := nr rfl
@[simp] theorem byteA_solid (b : UInt8) : (byteA b).solid = true := nr rfl
@[simp] theorem byteA_conv (P : Program) (t : TypeId) (b : UInt8) : conv P t (byteA b) = byteA b := nr rfl
theorem bytesA_at (l : List UInt8) (i : Nat) (h : i < l.length) : (bytesA l)[i]'(by simpa using h) = byteA l[i] := by simp [bytesA]
end Go.Proofs.YtlmdbcgceijlnaaGreatDoor
/-
  The screen as the document has it: cells, fields; in plain Lean.
-/
namespace Go.Sp

structure Cell where
  char : UInt8 := 0
  attr : Bool := false
  fa : UInt8 := 0
  high : UInt8 := 0
  color : UInt8 := 0
  set : UInt8 := 0
  deriving DecidableEq, Inhabited
def Cell.zero : Cell := {}
/-- Six bits of an attribute, without the one that means nothing. -/
def six (b : UInt8) : UInt8 := b &&& 0x3d
def fit (c : Cell) : Cell := if c.attr = true then { c with char := 0, fa := six c.fa } else { c with fa := 0 }
theorem six_six (b : UInt8) : six (six b) = six b := by simp [six, UInt8.and_assoc]
theorem fit_fit (c : Cell) : fit (fit c) = fit c := by
  unfold fit
  by_cases h : c.attr = true <;> simp [h, six_six]
def fitted (c : Cell) : Prop := fit c = c
theorem fitted_fit (c : Cell) : fitted (fit c) := fit_fit c
theorem fitted_zero : fitted .zero := rfl

/-- The place of a number. -/
def wrap (n : Nat) (k : Int) : Nat := (k % (n : Int)).toNat
theorem wrap_lt {n : Nat} (h : 0 < n) (k : Int) : wrap n k < n := by
  unfold wrap
  have h1 := Int.emod_nonneg k (show (n : Int) ≠ 0 by omega)
  have h2 := Int.emod_lt_of_pos k (show (0 : Int) < n by omega)
  omega
theorem wrap_of_lt {n k : Nat} (h : k < n) : wrap n k = k := by
  unfold wrap
  rw [Int.emod_eq_of_lt (by omega) (by omega)]; simp

/-- Rows and columns of a model, of the usual size or of its own. -/
def dims (model : Nat) (alt : Bool) : Nat × Nat := if alt = true then (if model = 3 then (32, 80) else if model = 4 then (43, 80) else if model = 5 then (27, 132) else (24, 80)) else (24, 80)
structure Sp where
  model : Nat
  alt : Bool
  cells : List Cell
  cursor : Nat
def Sp.rows (s : Sp) : Nat := (dims s.model s.alt).1
def Sp.cols (s : Sp) : Nat := (dims s.model s.alt).2
def Sp.n (s : Sp) : Nat := s.rows * s.cols
structure Sp.good (s : Sp) : Prop where
  model : 2 ≤ s.model ∧ s.model ≤ 5
  len : s.cells.length = s.n
  cursor : s.cursor < s.n
  fit : ∀ c ∈ s.cells, fitted c
theorem dims_bound (m : Nat) (a : Bool) : 24 ≤ (dims m a).1 ∧ (dims m a).1 ≤ 43 ∧ 80 ≤ (dims m a).2 ∧ (dims m a).2 ≤ 132 ∧ 1920 ≤ (dims m a).1 * (dims m a).2 ∧ (dims m a).1 * (dims m a).2 ≤ 3564 := by
  unfold dims
  cases a <;> simp
  (repeat' split) <;> simp
theorem Sp.n_pos (s : Sp) : 0 < s.n := by have := dims_bound s.model s.alt; unfold Sp.n Sp.rows Sp.cols; omega
theorem Sp.n_le (s : Sp) : s.n ≤ 3564 := by have := dims_bound s.model s.alt; unfold Sp.n Sp.rows Sp.cols; omega
def Sp.clear (s : Sp) (alt : Bool) : Sp := { s with alt := alt, cells := List.replicate ((dims s.model alt).1 * (dims s.model alt).2) .zero, cursor := 0 }
def Sp.new (model : Nat) : Sp := Sp.clear ⟨model, false, [], 0⟩ false
def Sp.at (s : Sp) (k : Int) : Cell := s.cells[wrap s.n k]?.getD .zero
def Sp.put1 (s : Sp) (i : Nat) (c : Cell) : Sp := { s with cells := s.cells.set i c }
def Sp.set (s : Sp) (k : Int) (c : Cell) : Sp := s.put1 (wrap s.n k) (Sp.fit c)
def Sp.put (s : Sp) (k : Int) (code : UInt8) : Sp := if (s.at k).attr = true then s else s.set k { s.at k with char := code }
def Sp.place (s : Sp) (k : Int) : Sp := { s with cursor := wrap s.n k }
/-- How many attributes. -/
def Sp.count (s : Sp) : Nat := s.cells.countP (·.attr)
def Sp.attrs (s : Sp) : List Nat := (List.range s.cells.length).filter fun i => (s.cells[i]?.getD .zero).attr
theorem Sp.clear_good {s : Sp} (h : 2 ≤ s.model ∧ s.model ≤ 5) (alt : Bool) : (s.clear alt).good := by
  have := dims_bound s.model alt
  refine ⟨h, by simp [Sp.clear, Sp.n, Sp.rows, Sp.cols], ?_, fun c hc => ?_⟩
  · show 0 < (dims s.model alt).1 * (dims s.model alt).2; omega
  · simp [Sp.clear] at hc; rw [hc.2]; exact fitted_zero
theorem Sp.n_put1 (s : Sp) (i : Nat) (c : Cell) : (s.put1 i c).n = s.n := rfl
theorem Sp.good.put1 {s : Sp} (h : s.good) (i : Nat) {c : Cell} (hc : fitted c) : (s.put1 i c).good := by
  refine ⟨h.model, by rw [Sp.n_put1]; simp [Sp.put1, h.len], h.cursor, fun d hd => ?_⟩
  rcases List.mem_or_eq_of_mem_set hd with h' | h'
  · exact h.fit d h'
  · rw [h']; exact hc
theorem Sp.good.set {s : Sp} (h : s.good) (k : Int) (c : Cell) : (s.set k c).good := Sp.good.put1 h _ (fitted_fit c)
theorem Sp.good.place {s : Sp} (h : s.good) (k : Int) : (s.place k).good := ⟨h.model, h.len, wrap_lt s.n_pos k, h.fit⟩
theorem Sp.good.put {s : Sp} (h : s.good) (k : Int) (code : UInt8) : (s.put k code).good := by
  unfold Sp.put; split
  · exact h
  · exact Sp.good.set h _ _

/-! ### Ways to make a screen -/
structure Act where
  what : UInt8
  n : Int
  on : Bool
  code : UInt8
  c : Cell
  text : List UInt8
def putAll (s : Sp) (k : Int) : Nat → List UInt8 → Sp
  | _, [] => s
  | i, c :: l => putAll (s.put (k + i) c) k (i + 1) l
def Sp.act (s : Sp) (a : Act) : Sp :=
  if a.what.toNat % 6 = 0 then s.clear a.on else if a.what.toNat % 6 = 1 then s.place a.n else if a.what.toNat % 6 = 2 then s.put a.n a.code else
  if a.what.toNat % 6 = 3 then s.set a.n { attr := true, fa := a.code } else if a.what.toNat % 6 = 4 then s.set a.n a.c else putAll s (wrap s.n a.n) 0 (a.text.take 200)
theorem Sp.model_put (s : Sp) (k : Int) (c : UInt8) : (s.put k c).model = s.model ∧ (s.put k c).alt = s.alt := by
  unfold Sp.put; split <;> exact ⟨rfl, rfl⟩
theorem putAll_good (k : Int) : ∀ (l : List UInt8) (i : Nat) {s : Sp}, s.good → (putAll s k i l).good
  | [], _, _, h => h
  | _ :: l, i, _, h => putAll_good k l (i + 1) (Sp.good.put h _ _)
theorem putAll_model (k : Int) : ∀ (l : List UInt8) (i : Nat) (s : Sp), (putAll s k i l).model = s.model
  | [], _, _ => rfl
  | c :: l, i, s => (putAll_model k l (i + 1) _).trans (s.model_put _ c).1
theorem putAll_alt (k : Int) : ∀ (l : List UInt8) (i : Nat) (s : Sp), (putAll s k i l).alt = s.alt
  | [], _, _ => rfl
  | c :: l, i, s => (putAll_alt k l (i + 1) _).trans (s.model_put _ c).2
theorem putAll_n (k : Int) (l : List UInt8) (i : Nat) (s : Sp) : (putAll s k i l).n = s.n := by
  simp only [Sp.n, Sp.rows, Sp.cols, putAll_model, putAll_alt]
theorem Sp.good.act {s : Sp} (h : s.good) (a : Act) : (s.act a).good := by
  unfold Sp.act
  (repeat' split)
  · exact Sp.clear_good h.model _
  · exact h.place _
  · exact Sp.good.put h _ _
  · exact Sp.good.set h _ _
  · exact Sp.good.set h _ _
  · exact putAll_good _ _ _ h
theorem Sp.model_act (s : Sp) (a : Act) : (s.act a).model = s.model := by
  unfold Sp.act
  (repeat' split) <;> first | rfl | exact (s.model_put _ _).1 | exact putAll_model _ _ _ _
def lays (model : UInt8) (acts : List Act) : Sp := (acts.take 30).foldl Sp.act (Sp.new (2 + model.toNat % 4))
theorem new_good {m : Nat} (h : 2 ≤ m ∧ m ≤ 5) : (Sp.new m).good := Sp.clear_good h false
theorem foldl_good : ∀ (l : List Act) {s : Sp}, s.good → (l.foldl Sp.act s).good
  | [], _, h => h
  | a :: l, _, h => foldl_good l (h.act a)
end Go.Sp
/-
  Fields of the screen, as the document has them and as one goes from place to place; in plain Lean.
-/
namespace Go.Sp

def attrAt (l : List Cell) (i : Nat) : Bool := (l[i]?.getD .zero).attr
/-- The last attribute ahead of m, or what there was. -/
def lastA (l : List Cell) (init : Int) : Nat → Int
  | 0 => init
  | m + 1 => if attrAt l m = true then (m : Int) else lastA l init m
theorem lastA_none {l : List Cell} {init : Int} : ∀ {m : Nat}, (∀ i, i < m → attrAt l i = false) → lastA l init m = init
  | 0, _ => rfl
  | m + 1, h => by
    rw [lastA, if_neg (by rw [h m (by omega)]; simp)]
    exact lastA_none fun i hi => h i (by omega)
theorem lastA_at {l : List Cell} {init : Int} {a : Nat} (ha : attrAt l a = true) : ∀ {m : Nat}, a < m → (∀ i, a < i → i < m → attrAt l i = false) → lastA l init m = a
  | m + 1, hm, h => by
    by_cases hma : m = a
    · subst hma; rw [lastA, if_pos ha]
    · rw [lastA, if_neg (by rw [h m (by omega) (by omega)]; simp)]
      exact lastA_at ha (by omega) fun i h1 h2 => h i h1 (by omega)
/-- Of each place the place of its field's attribute. -/
def startS (l : List Cell) (n : Nat) : Int := lastA l (lastA l (-1) l.length) (n + 1)
theorem startS_in {l : List Cell} {a i : Nat} (ha : attrAt l a = true) (hal : a < l.length) (hi : i < l.length) (h : ∀ j, 1 ≤ j → j ≤ i → attrAt l ((a + j) % l.length) = false) : startS l ((a + i) % l.length) = a := by
  have at_ : ∀ x, a < x → x ≤ a + i → x < l.length → attrAt l x = false := fun x h1 h2 h3 => by
    have := h (x - a) (by omega) (by omega)
    rwa [show a + (x - a) = x by omega, Nat.mod_eq_of_lt h3] at this
  by_cases hc : a + i < l.length
  · rw [Nat.mod_eq_of_lt hc]
    exact lastA_at ha (by omega) fun x h1 h2 => at_ x h1 (by omega) (by omega)
  · have hm : (a + i) % l.length = a + i - l.length := by rw [Nat.mod_eq_sub_mod (by omega), Nat.mod_eq_of_lt (by omega)]
    rw [hm, startS, lastA_none fun x hx => ?_]
    · exact lastA_at ha hal fun x h1 h2 => at_ x h1 (by omega) h2
    · have := h (x + l.length - a) (by omega) (by omega)
      rwa [show a + (x + l.length - a) = x + l.length by omega, Nat.add_mod_right, Nat.mod_eq_of_lt (by omega)] at this

/-- The places of the field behind an attribute: as many as come ahead of the next one. -/
def run (l : List Cell) (a : Nat) : Nat → Nat
  | 0 => 0
  | m + 1 => if run l a m = m ∧ attrAt l ((a + m + 1) % l.length) = false then m + 1 else run l a m
theorem run_le (l : List Cell) (a : Nat) : ∀ m, run l a m ≤ m
  | 0 => Nat.le_refl _
  | m + 1 => by rw [run]; split <;> have := run_le l a m <;> omega
theorem run_free {l : List Cell} {a : Nat} : ∀ {m j : Nat}, 1 ≤ j → j ≤ run l a m → attrAt l ((a + j) % l.length) = false
  | 0, j, h1, h2 => by simp [run] at h2; omega
  | m + 1, j, h1, h2 => by
    rw [run] at h2
    split at h2
    · rename_i hc
      by_cases hj : j = m + 1
      · subst hj; exact hc.2
      · exact run_free (m := m) h1 (by omega)
    · exact run_free (m := m) h1 h2
theorem run_stop {l : List Cell} {a : Nat} : ∀ {m : Nat}, run l a m < m → attrAt l ((a + run l a m + 1) % l.length) = true
  | m + 1, h => by
    rw [run] at h ⊢
    split at h
    · omega
    · rename_i hc
      rw [if_neg hc]
      by_cases hm : run l a m = m
      · have : ¬ attrAt l ((a + m + 1) % l.length) = false := fun hf => hc ⟨hm, hf⟩
        rw [hm]; simpa using this
      · exact run_stop (by have := run_le l a m; omega)
def len (l : List Cell) (a : Nat) : Nat := run l a (l.length - 1)
def places (l : List Cell) (a : Nat) : List Nat := (List.range (len l a)).map fun i => (a + i + 1) % l.length
theorem len_lt {l : List Cell} {a : Nat} (h : a < l.length) : len l a < l.length := by have := run_le l a (l.length - 1); unfold len; omega
/-- Behind the places of a field there is an attribute. -/
theorem len_stop {l : List Cell} {a : Nat} (ha : attrAt l a = true) (hal : a < l.length) : attrAt l ((a + len l a + 1) % l.length) = true := by
  by_cases h : run l a (l.length - 1) < l.length - 1
  · exact run_stop h
  · have := run_le l a (l.length - 1)
    have e : len l a = l.length - 1 := by unfold len; omega
    rw [e, show a + (l.length - 1) + 1 = a + l.length by omega, Nat.add_mod_right, Nat.mod_eq_of_lt hal]; exact ha
theorem len_free {l : List Cell} {a j : Nat} (h1 : 1 ≤ j) (h2 : j ≤ len l a) : attrAt l ((a + j) % l.length) = false := run_free h1 h2
/-- The cells behind a place, once round. -/
def rot (l : List Cell) (a : Nat) : List Cell := l.drop (a + 1) ++ l.take a
def fieldCells (l : List Cell) (a : Nat) : List Cell := (rot l a).takeWhile fun c => !c.attr
/-! ### What is told of fields -/
def Sp.modified (s : Sp) : List Nat := s.attrs.filter fun a => (s.cells[a]?.getD .zero).fa &&& 1 == 1
theorem mem_attrs {s : Sp} {a : Nat} (h : a ∈ s.attrs) : a < s.cells.length ∧ attrAt s.cells a = true := by
  simp only [Sp.attrs, List.mem_filter, List.mem_range] at h
  exact h
end Go.Sp
/-
  Sizes of screens, places, models: the program's and the document's.
-/
namespace Go.Proofs.YtlmdbcgceijlnaaGreatDoor
open Go Go.AL Go.Sp

/-- Rows and columns, as they may be. -/
structure Dim (r c : Nat) : Prop where
  r1 : 1 ≤ r
  r2 : r ≤ 43
  c1 : 1 ≤ c
  c2 : c ≤ 132
  m : r * c ≤ 3564
  p : 0 < r * c
theorem dim_of (m : Nat) (a : Bool) : Dim (dims m a).1 (dims m a).2 := by
  have := dims_bound m a
  exact ⟨by omega, by omega, by omega, by omega, by omega, by omega⟩
theorem mul_wrap {r c : Nat} (h : Dim r c) : IntKind.i64.wrap ((r : Int) * (c : Int)) = ((r * c : Nat) : Int) := by
  have := h.m
  rw [← Int.natCast_mul, wrap_i64 (by omega) (by omega)]
def dimA (r c : Nat) : AV := .agg [.lit (.int .i64 r), .lit (.int .i64 c)]

theorem tmod_wrap (n : Int) (m : Nat) (h : 0 < m) : n.tmod m = (wrap m n : Int) - if n.tmod m < 0 then (m : Int) else 0 := by
  unfold wrap
  have h1 := Int.emod_nonneg n (show (m : Int) ≠ 0 by omega)
  have h2 := Int.emod_lt_of_pos n (show (0 : Int) < m by omega)
  have h3 := Int.tmod_eq_emod (a := n) (b := m)
  have h4 : ((n % (m : Int)).toNat : Int) = n % m := Int.toNat_of_nonneg h1
  rw [h4]
  rw [h3]
  split
  · simp; omega
  · rename_i hc
    have h5 : ¬ n % (m : Int) = 0 := fun he => hc (.inr (Int.dvd_of_emod_eq_zero he))
    have h6 : (m : Int).natAbs = m := by simp
    rw [h6]
    rw [if_pos (by omega)]

set_option maxRecDepth 4000 in
theorem rest_calls (n : Int) (m : Nat) (h : 0 < m) (hm : m ≤ 1000000) (σ : Store) : ACalls Tryz.prog 108 [.lit (.int .i64 n), .lit (.int .i64 m)] σ fun v σ' => v = .lit (.int .i64 (wrap m n)) ∧ σ' = σ := by
  have ht := tmod_wrap n m h
  have hw := wrap_lt h n
  have h0 : ¬ m = 0 := by omega
  refine ACalls.of_awp follows (st := st108) (plans := pl108) (n := 14) Tryz.func108 rfl (by kernel_rfl) (by kernel_rfl) (by kernel_rfl) ?_
  by_cases hc : n.tmod m < 0
  · rw [if_pos hc] at ht
    have hs : IntKind.i64.wrap (n.tmod m + (m : Int)) = (wrap m n : Int) := by rw [wrap_i64 (by omega) (by omega)]; omega
    simp [h0, hc, hs]
  · rw [if_neg hc] at ht
    have hs : n.tmod m = (wrap m n : Int) := by omega
    rw [hs] at hc
    simp [h0, hc, hs]

set_option maxRecDepth 4000 in
theorem valid_calls {r c : Nat} (h : Dim r c) (σ : Store) : ACalls Tryz.prog 104 [dimA r c] σ fun v σ' => v = .lit (.bool true) ∧ σ' = σ := by
  have hm := mul_wrap h
  obtain ⟨h1, h2, h3, h4, h5, h6⟩ := h
  have k1 : (1 : Int) ≤ r := by omega
  have k2 : (r : Int) ≤ 43 := by omega
  have k3 : (1 : Int) ≤ c := by omega
  have k4 : (c : Int) ≤ 132 := by omega
  have k5 : (((r * c : Nat) : Int)) ≤ 3564 := by omega
  generalize r * c = m at *
  refine ACalls.of_awp follows (st := st104) (plans := pl104) (n := 29) Tryz.func104 rfl (by kernel_rfl) (by kernel_rfl) (by kernel_rfl) ?_
  simp +contextual [dimA, k1, k2, k3, k4, k5, hm]
set_option maxRecDepth 4000 in
theorem cells_calls {r c : Nat} (h : Dim r c) (σ : Store) : ACalls Tryz.prog 57 [dimA r c] σ fun v σ' => v = .lit (.int .i64 ((r * c : Nat) : Int)) ∧ σ' = σ := by
  have hm := mul_wrap h
  have hv := valid_calls h
  unfold dimA at hv
  generalize r * c = m at *
  refine ACalls.of_awp follows (st := st57) (plans := pl57) (n := 11) Tryz.func57 rfl (by kernel_rfl) (by kernel_rfl) (by kernel_rfl) ?_
  simp [dimA]
  intro p hp
  refine callK.of (hv _) ?_
  rintro v σ' ⟨rfl, rfl⟩
  simp [hm, hp]
set_option maxRecDepth 4000 in
theorem wrap_calls {r c : Nat} (h : Dim r c) (n : Int) (σ : Store) : ACalls Tryz.prog 98 [dimA r c, .lit (.int .i64 n)] σ fun v σ' => v = .lit (.int .i64 (wrap (r * c) n)) ∧ σ' = σ := by
  have hv := valid_calls h
  have hc := cells_calls h
  have hr := rest_calls n (r * c) h.p (by have := h.m; omega)
  unfold dimA at hv hc
  generalize r * c = m at *
  refine ACalls.of_awp follows (st := st98) (plans := pl98) (n := 12) Tryz.func98 rfl (by kernel_rfl) (by kernel_rfl) (by kernel_rfl) ?_
  simp [dimA]
  intro p hp
  refine callK.of (hv _) ?_
  rintro v σ' ⟨rfl, rfl⟩
  simp
  refine callK.of (hc _) ?_
  rintro v σ' ⟨rfl, rfl⟩
  simp
  refine callK.of (hr _) ?_
  rintro v σ' ⟨rfl, rfl⟩
  simp [hp]
end Go.Proofs.YtlmdbcgceijlnaaGreatDoor
