/-
  A field is marked; the end of a field goes.
-/
import Derived.Test.YtlmdbcgceijlnaaGreatTPart14
import Derived.Tactics
import Derived.Tactics2
import Derived.Defers
import Derived.Laws.Pointers
import Derived.Laws.LoneSync
import Derived.RegionTactic
import Derived.RegionCalls
import Derived.ChangeAlike
namespace Go.Proofs.YtlmdbcgceijlnaaGreat
open Go Go.AL Go.Sp

def roundL (s : Sp) (n : Nat) : List Nat := if s.count = 0 then spanL s.n n n else restL s n
set_option maxRecDepth 8000 in
theorem round_calls {q r : Nat} {s : Sp} {σ : Store} (h : Prg σ q r s) {n : Nat} (hn : n < s.n) (hat : attrAt s.cells n = false) : ACalls Tryz.prog 148 [ptrA q, .lit (.int .i64 n)] σ fun v σ' => v = .list false 1 (natsA (roundL s n)) ∧ σ' = σ := by
  have hsz := fun τ (hτ : Prg τ q r s) => size_calls hτ
  have hfo := formatted_calls h
  have hre := erest_calls h hn hat
  unfold roundL
  refine ACalls.of_awp follows (st := st148) (plans := pl148) (n := 16) Tryz.func148 rfl (by kernel_rfl) (by kernel_rfl) (by kernel_rfl) ?_
  simp
  refine callK.of hfo ?_
  rintro v σ' ⟨rfl, rfl⟩
  by_cases hc : s.count = 0
  · simp [hc]
    refine callK.of (hsz _ h) ?_
    rintro v σ' ⟨rfl, rfl⟩
    simp
    refine callK.of (span_calls2 s n n _) ?_
    rintro v σ2 ⟨b1, b2, b3, rfl, h1, h2, h3, e1, e2, e3, rfl⟩
    simp
    refine callK.of (cspan_calls (q := q) (r := r) hn hn ⟨?_, ?_, ?_⟩) ?_
    · simp [e1, e2]
    · simp [e3]
    · simp
    rintro v σ2 ⟨rfl, rfl⟩
    simp
    (intro q; simp only [Store.upd, Store.del]; (repeat' split) <;> first | exact Or.inr rfl | exact Or.inl rfl | (exfalso; omega) | (left; subst_vars; assumption) | simp_all)
  · have hp : 0 < s.count := by omega
    simp [hc, hp]
    refine callK.of hre ?_
    rintro v σ' ⟨rfl, rfl⟩
    simp
theorem or1 (b : UInt8) : IntKind.u8.wrap ((b.toNat % 2 ^ IntKind.u8.bits ||| 1 % 2 ^ IntKind.u8.bits : Nat) : Int) = ((b ||| 1).toNat : Int) :=
  all_bytes (p := fun b => IntKind.u8.wrap ((b.toNat % 2 ^ IntKind.u8.bits ||| 1 % 2 ^ IntKind.u8.bits : Nat) : Int) = ((b ||| 1).toNat : Int)) (by decide +kernel) b
def mk1 (c : Cell) : Cell := { c with fa := c.fa ||| 1 }
def modS (s : Sp) (n : Nat) : Sp := if startS s.cells n = -1 then s else s.set (startS s.cells n) (mk1 (s.at (startS s.cells n)))
theorem modS_same {s : Sp} (h : s.good) (n : Nat) : SameN s (modS s n) := by
  unfold modS; split
  · exact .refl h
  · exact (SameN.refl h).set _ _
set_option maxRecDepth 8000 in
theorem modify_calls {q r : Nat} {s : Sp} {σ : Store} (h : Prg σ q r s) {n : Nat} (hn : n < s.n) : ACalls Tryz.prog 84 [ptrA q, .lit (.int .i64 n)] σ fun v σ' => v = .lit (.bool (!decide (startS s.cells n = -1))) ∧ σ' = putS spO σ q r (modS s n) := by
  have hst := start_calls h hn
  unfold modS
  generalize startS s.cells n = a at *
  by_cases ha : a = -1
  · rw [if_pos ha, h.put_self]
    refine ACalls.of_awp follows (st := st84) (plans := pl84) (n := 23) Tryz.func84 rfl (by kernel_rfl) (by kernel_rfl) (by kernel_rfl) ?_
    simp
    refine callK.of hst ?_
    rintro v σ' ⟨rfl, rfl⟩
    simp [ha]
  · rw [if_neg ha]
    have hat := at_calls h a
    have hset := fun τ (hτ : Prg τ q r s) => set_calls hτ a (mk1 (s.at a))
    generalize s.at a = c at *
    have hor := or1 c.fa
    simp only [cellA_eq] at hat hset
    have e1 : (mk1 c).char = c.char := rfl
    have e2 : (mk1 c).attr = c.attr := rfl
    have e3 : (mk1 c).fa = c.fa ||| 1 := rfl
    have e4 : (mk1 c).high = c.high := rfl
    have e5 : (mk1 c).color = c.color := rfl
    have e6 : (mk1 c).set = c.set := rfl
    rw [e1, e2, e3, e4, e5, e6] at hset
    generalize mk1 c = c2 at *
    refine ACalls.of_awp follows (st := st84) (plans := pl84) (n := 23) Tryz.func84 rfl (by kernel_rfl) (by kernel_rfl) (by kernel_rfl) ?_
    simp
    refine callK.of hst ?_
    rintro v σ' ⟨rfl, rfl⟩
    simp [ha]
    refine callK.of hat ?_
    rintro v σ' ⟨rfl, rfl⟩
    simp only [byteA] at hset
    simp [byteA, hor]
    intro b hb
    refine callK.of (hset _ (h.new hb _)) ?_
    rintro v σ2 ⟨rfl, rfl⟩
    have hf := h.fresh hb
    simp
    rw [putS_upd _ _ hf.2.2.1 hf.2.2.2]
    exact sub_upd_self _ _ _ (by rw [putS_at hf.2.2.1 hf.2.2.2]; exact hb)
theorem nullS_take (s : Sp) (L : List Nat) (k : Nat) (h : k < L.length) : nullS s (L.take (k + 1)) = (nullS s (L.take k)).put (L[k] : Nat) 0 := by
  unfold nullS
  rw [List.take_succ_eq_append_getElem h, List.foldl_append]; rfl
def endS (s : Sp) (n : Nat) : Sp := if openS s n = true then modS (nullS s (restL s n)) n else s
theorem open_attr {s : Sp} {n : Nat} (h : openS s n = true) : attrAt s.cells n = false := by
  unfold openS at h; simp at h; exact h.1
set_option maxRecDepth 8000 in
theorem end_calls {q r : Nat} {s : Sp} {σ : Store} (h : Prg σ q r s) {n : Nat} (hn : n < s.n) : ACalls Tryz.prog 94 [ptrA q, .lit (.int .i64 n)] σ fun v σ' => v = .lit (.bool (openS s n)) ∧ σ' = putS spO σ q r (endS s n) := by
  have hop := open_calls h hn
  unfold endS
  cases ho : openS s n
  · rw [if_neg (by simp), h.put_self]
    rw [ho] at hop
    refine ACalls.of_awp follows (st := st94) (plans := pl94) (n := 26) Tryz.func94 rfl (by kernel_rfl) (by kernel_rfl) (by kernel_rfl) ?_
    simp
    refine callK.of hop ?_
    rintro v σ' ⟨rfl, rfl⟩
    simp
  · rw [if_pos rfl]
    rw [ho] at hop
    have hre := erest_calls h hn (open_attr ho)
    have hlen : (restL s n).length ≤ 1000000 := by
      have hnl := s.n_le
      unfold restL
      split
      · rw [spanL_len]; have := (spanLen_pos (N := s.n) (f := n) (t := 0) s.n_pos).2; omega
      · rw [List.length_drop, places_length']
        have := run_le s.cells (startS s.cells n).toNat (s.cells.length - 1)
        unfold Sp.len
        rw [h.good.len] at *
        omega
    generalize restL s n = L at *
    have hsame := fun k => (SameN.refl h.good).nullS (L.take k)
    have hz : nullS s (L.take 0) = s := rfl
    have hall : nullS s (L.take L.length) = nullS s L := by rw [List.take_length]
    have hmo := fun τ (hτ : Prg τ q r (nullS s L)) => modify_calls hτ (n := n) (by rw [show (nullS s L).n = s.n from ((SameN.refl h.good).nullS L).n]; exact hn)
    have hsucc := nullS_take s L
    have hne := h.ne
    refine ACalls.of_awp follows (st := st94) (plans := pl94) (n := 26) Tryz.func94 rfl (by kernel_rfl) (by kernel_rfl) (by kernel_rfl) ?_
    simp
    refine callK.of hop ?_
    rintro v σ' ⟨rfl, rfl⟩
    simp
    refine callK.of hre ?_
    rintro v σ' ⟨rfl, rfl⟩
    simp
    refine codeK.loop follows (st := st94) (plans := pl94) (X := Nat) (fun k => k ≤ L.length)
      (fun k => [(0, ptrA q), (1, .lit (.int .i64 n)), (13, .list false 1 (natsA L)), (14, .lit (.int .i64 L.length)), (15, .lit (.int .i64 k))]) (fun k => putS spO σ' q r (nullS s (L.take k))) (fun k => L.length - k) 0 (by kernel_rfl) (by simp) (by simp) (by rw [hz, h.put_self]; exact Store.sub_refl _) fun k hk => ?_
    have hP : Prg (putS spO σ' q r (nullS s (L.take k))) q r (nullS s (L.take k)) := Scr.of_put hne (hsame k).1
    by_cases hlt : k < L.length
    · have hw : IntKind.i64.wrap ((k : Int) + 1) = ((k + 1 : Nat) : Int) := wrap_i64 (by omega) (by omega)
      have hpu := fun i => pput_calls hP i 0
      simp only [putS_put hne] at hpu
      have hs1 := hsucc k hlt
      rw [byteA_lit] at hpu
      simp [hlt]
      refine callK.of (hpu _) ?_
      rintro v σ3 ⟨rfl, rfl⟩
      simp [hw]
      exact ⟨k + 1, by omega, by omega, by simp, by rw [hs1]; exact Store.sub_refl _⟩
    · obtain rfl : k = L.length := by omega
      rw [hall] at hP ⊢
      simp
      refine callK.of (hmo _ hP) ?_
      rintro v σ3 ⟨rfl, rfl⟩
      rw [putS_put hne]
      simp
end Go.Proofs.YtlmdbcgceijlnaaGreat
/-
  Pages: their signs and codes, as lists. Written by a program of mine.
-/
namespace Go.Proofs.YtlmdbcgceijlnaaGreat
open Go Go.AL

def rowsL : List (List Nat) := [[0, 1, 2, 3, 156, 9, 134, 127, 151, 141, 142, 11, 12, 13, 14, 15],
  [16, 17, 18, 19, 157, 133, 8, 135, 24, 25, 146, 143, 28, 29, 30, 31],
  [128, 129, 130, 131, 132, 10, 23, 27, 136, 137, 138, 139, 140, 5, 6, 7],
  [144, 145, 22, 147, 148, 149, 150, 4, 152, 153, 154, 155, 20, 21, 158, 26],
  [32, 160, 226, 228, 224, 225, 227, 229, 231, 241, 162, 46, 60, 40, 43, 124],
  [38, 233, 234, 235, 232, 237, 238, 239, 236, 223, 33, 36, 42, 41, 59, 172],
  [45, 47, 194, 196, 192, 193, 195, 197, 199, 209, 166, 44, 37, 95, 62, 63],
  [248, 201, 202, 203, 200, 205, 206, 207, 204, 96, 58, 35, 64, 39, 61, 34],
  [216, 97, 98, 99, 100, 101, 102, 103, 104, 105, 171, 187, 240, 253, 254, 177],
  [176, 106, 107, 108, 109, 110, 111, 112, 113, 114, 170, 186, 230, 184, 198, 164],
  [181, 126, 115, 116, 117, 118, 119, 120, 121, 122, 161, 191, 208, 221, 222, 174],
  [94, 163, 165, 183, 169, 167, 182, 188, 189, 190, 91, 93, 175, 168, 180, 215],
  [123, 65, 66, 67, 68, 69, 70, 71, 72, 73, 173, 244, 246, 242, 243, 245],
  [125, 74, 75, 76, 77, 78, 79, 80, 81, 82, 185, 251, 252, 249, 250, 255],
  [92, 247, 83, 84, 85, 86, 87, 88, 89, 90, 178, 212, 214, 210, 211, 213],
  [48, 49, 50, 51, 52, 53, 54, 55, 56, 57, 179, 219, 220, 217, 218, 159]]
def baseL : List Nat := rowsL.flatten
theorem baseL_length : baseL.length = 256 := by decide +kernel
def oth37 : List (Nat × Nat) := []
def oth273 : List (Nat × Nat) := [(67, 123), (74, 196), (79, 33), (89, 126), (90, 220), (95, 94), (99, 91), (106, 246), (124, 167), (161, 223), (176, 162), (181, 64), (186, 172), (187, 124), (192, 228), (204, 166), (208, 252), (220, 125), (224, 214), (236, 92), (252, 93)]
def oth297 : List (Nat × Nat) := [(68, 64), (72, 92), (74, 176), (79, 33), (81, 123), (84, 125), (90, 167), (95, 94), (106, 249), (121, 181), (123, 163), (124, 224), (144, 91), (160, 96), (161, 168), (176, 162), (177, 35), (181, 93), (186, 172), (187, 124), (189, 126), (192, 233), (208, 232), (221, 166), (224, 231)]
def oth500 : List (Nat × Nat) := [(74, 91), (79, 33), (90, 93), (95, 94), (176, 162), (186, 172), (187, 124)]
def oth1047 : List (Nat × Nat) := [(95, 94), (173, 91), (176, 172), (186, 221), (187, 168), (189, 93)]
def oth1140 : List (Nat × Nat) := [(159, 8364)]
def othersF (n : Int) : List (Nat × Nat) := if n = 37 then oth37 else if n = 273 then oth273 else if n = 297 then oth297 else if n = 500 then oth500 else if n = 1047 then oth1047 else if n = 1140 then oth1140 else []
def isPage (n : Int) : Prop := n = 37 ∨ n = 273 ∨ n = 297 ∨ n = 500 ∨ n = 1047 ∨ n = 1140
instance (n : Int) : Decidable (isPage n) := by unfold isPage; infer_instance
def signsF (n : Int) : List Nat := (othersF n).foldl (fun l o => l.set o.1 o.2) baseL
theorem signs_set (l : List (Nat × Nat)) : ∀ b : List Nat, (l.foldl (fun l o => l.set o.1 o.2) b).length = b.length := by
  induction l with
  | nil => intro b; rfl
  | cons o l ih => intro b; rw [List.foldl_cons, ih, List.length_set]
theorem signsF_length (n : Int) : (signsF n).length = 256 := by rw [signsF, signs_set, baseL_length]
theorem nodup37 : (signsF 37).Nodup := by decide +kernel
theorem nodup273 : (signsF 273).Nodup := by decide +kernel
theorem nodup297 : (signsF 297).Nodup := by decide +kernel
theorem nodup500 : (signsF 500).Nodup := by decide +kernel
theorem nodup1047 : (signsF 1047).Nodup := by decide +kernel
theorem nodup1140 : (signsF 1140).Nodup := by decide +kernel
theorem signsF_nodup {n : Int} (h : isPage n) : (signsF n).Nodup := by
  rcases h with rfl | rfl | rfl | rfl | rfl | rfl
  · exact nodup37
  · exact nodup273
  · exact nodup297
  · exact nodup500
  · exact nodup1047
  · exact nodup1140
theorem small37 : ∀ o ∈ oth37, o.1 < 256 ∧ o.2 < 65536 := by decide +kernel
theorem small273 : ∀ o ∈ oth273, o.1 < 256 ∧ o.2 < 65536 := by decide +kernel
theorem small297 : ∀ o ∈ oth297, o.1 < 256 ∧ o.2 < 65536 := by decide +kernel
theorem small500 : ∀ o ∈ oth500, o.1 < 256 ∧ o.2 < 65536 := by decide +kernel
theorem small1047 : ∀ o ∈ oth1047, o.1 < 256 ∧ o.2 < 65536 := by decide +kernel
theorem small1140 : ∀ o ∈ oth1140, o.1 < 256 ∧ o.2 < 65536 := by decide +kernel
theorem others_small (n : Int) : ∀ o ∈ othersF n, o.1 < 256 ∧ o.2 < 65536 := by
  unfold othersF
  repeat' split
  · exact small37
  · exact small273
  · exact small297
  · exact small500
  · exact small1047
  · exact small1140
  · intro o ho; cases ho
theorem base_small : ∀ z ∈ baseL, z < 65536 := by decide +kernel
end Go.Proofs.YtlmdbcgceijlnaaGreat
/-
  A page: its cells; the rows of signs; what other signs it has.
-/
namespace Go.Proofs.YtlmdbcgceijlnaaGreat
open Go Go.AL

def sgA (l : List Nat) : List AV := l.map fun z : Nat => .lit (.int .i32 (z : Int))
@[simp] theorem sgA_length (l : List Nat) : (sgA l).length = l.length := by simp [sgA]
theorem sgA_get (l : List Nat) {i : Nat} (h : i < l.length) : (sgA l)[i]? = some (.lit (.int .i32 l[i])) := by simp [sgA, h]
theorem sgA_set (l : List Nat) (i z : Nat) : (sgA l).set i (.lit (.int .i32 z)) = sgA (l.set i z) := by simp [sgA, List.map_set]
/-- A page: its number, whether it is built, the lock, its signs, its codes. -/
structure Pgs where
  num : Int
  done : Int
  mu : Int
  sg : List Nat
  cd : AV
def pgA (p : Pgs) : List AV := [.lit (.int .i64 p.num), .lit (.int .u32 p.done), .lit (.int .i32 p.mu), .lit (.int .u32 0)] ++ (sgA p.sg ++ [p.cd])
theorem pgA_length {p : Pgs} (h : p.sg.length = 256) : (pgA p).length = 261 := by simp [pgA, h]
theorem pgA_num (p : Pgs) : (pgA p)[0]? = some (.lit (.int .i64 p.num)) := rfl
theorem pgA_sg {p : Pgs} {i : Nat} (h : i < p.sg.length) : (pgA p)[4 + i]? = some (.lit (.int .i32 p.sg[i])) := by
  unfold pgA
  rw [List.getElem?_append_right (by simp), List.getElem?_append_left (by simp; omega)]
  simp [sgA, h]
theorem pgA_cd {p : Pgs} (h : p.sg.length = 256) : (pgA p)[260]? = some p.cd := by
  unfold pgA
  rw [List.getElem?_append_right (by simp), List.getElem?_append_right (by simp [h])]
  simp [h]
theorem pgA_sgs {p : Pgs} (h : p.sg.length = 256) : ((pgA p).drop 4).take 256 = sgA p.sg := by
  unfold pgA
  rw [List.drop_left' (by simp), List.take_left' (by simp [h])]
theorem pgA_setSg {p : Pgs} {i : Nat} (z : Nat) (h : i < p.sg.length) : (pgA p).set (4 + i) (.lit (.int .i32 z)) = pgA { p with sg := p.sg.set i z } := by
  unfold pgA
  rw [List.set_append_right _ _ (by simp), List.set_append_left _ _ (by simp; omega)]
  simp [sgA_set]
theorem pgA_setCd {p : Pgs} (h : p.sg.length = 256) (c : AV) : (pgA p).set 260 c = pgA { p with cd := c } := by
  unfold pgA
  rw [List.set_append_right _ _ (by simp), List.set_append_right _ _ (by simp [h])]
  simp [h]
def Pgs.new (n : Int) : Pgs := ⟨n, 0, 0, List.replicate 256 0, .lit (.map none)⟩
@[simp] theorem azero111 : azero Tryz.prog 111 = some (pgA (.new 0)) := nr (by kernel_rfl)
theorem pgA_new_length (n : Int) : (pgA (.new n)).length = 261 := pgA_length List.length_replicate
theorem pgA_new_set (n : Int) : (pgA (.new 0)).set 0 (.lit (.int .i64 n)) = pgA (.new n) := rfl

/-! ### The tables -/
def rowU (l : List Nat) : List AV := l.map fun z : Nat => .lit (.int .u16 (z : Int))
set_option maxRecDepth 20000 in
set_option maxHeartbeats 4000000 in
theorem row_calls (d : Nat) (hd : d < 16) (σ : Store) : ACalls Tryz.prog 168 [.lit (.int .i64 d)] σ fun v σ' => v = .agg (rowU (rowsL.getD d [])) ∧ σ' = σ := by
  have key : ∀ d : Nat, d < 16 → d = 0 ∨ d = 1 ∨ d = 2 ∨ d = 3 ∨ d = 4 ∨ d = 5 ∨ d = 6 ∨ d = 7 ∨ d = 8 ∨ d = 9 ∨ d = 10 ∨ d = 11 ∨ d = 12 ∨ d = 13 ∨ d = 14 ∨ d = 15 := by omega
  rcases key d hd with rfl | rfl | rfl | rfl | rfl | rfl | rfl | rfl | rfl | rfl | rfl | rfl | rfl | rfl | rfl | rfl
  all_goals
    refine ACalls.of_awp follows (st := st168) (plans := pl168) (n := 53) Tryz.func168 rfl (by kernel_rfl) (by kernel_rfl) (by kernel_rfl) ?_
    simp
    intro p hp
    exact ⟨by simp [rowU, rowsL], sub_upd_self _ _ _ hp⟩
def othA (l : List (Nat × Nat)) : List AV := l.map fun o => .agg [.lit (.int .u8 (o.1 : Int)), .lit (.int .u16 (o.2 : Int))]
@[simp] theorem othA_length (l : List (Nat × Nat)) : (othA l).length = l.length := by simp [othA]
set_option maxRecDepth 20000 in
set_option maxHeartbeats 4000000 in
theorem others_calls (n : Int) (σ : Store) : ACalls Tryz.prog 46 [.lit (.int .i64 n)] σ fun v σ' => v = .tuple [.list true 2 (othA (othersF n)), .lit (.bool (decide (isPage n)))] ∧ σ' = σ := by
  refine ACalls.of_awp follows (st := st46) (plans := pl46) (n := 82) Tryz.func46 rfl (by kernel_rfl) (by kernel_rfl) (by kernel_rfl) ?_
  by_cases h1 : n = 37
  · subst h1; simp [othersF, isPage, othA, oth37]
  by_cases h2 : n = 273
  · subst h2; simp [othersF, isPage, othA, oth273]
  by_cases h3 : n = 297
  · subst h3; simp [othersF, isPage, othA, oth297]
  by_cases h4 : n = 500
  · subst h4; simp [othersF, isPage, othA, oth500]
  by_cases h5 : n = 1047
  · subst h5; simp [othersF, isPage, othA, oth1047]
  by_cases h6 : n = 1140
  · subst h6; simp [othersF, isPage, othA, oth1140]
  · simp [othersF, isPage, othA, h1, h2, h3, h4, h5, h6]
end Go.Proofs.YtlmdbcgceijlnaaGreat
/-
  A page is built: its signs, and the codes of its signs.
-/
namespace Go.Proofs.YtlmdbcgceijlnaaGreat
open Go Go.AL

abbrev pgP (b : Nat) : AV := .lit (.pointer (some ⟨b, 0, none⟩))
def sgF (n : Int) (c : Nat) : Nat := (signsF n).getD c 0
/-- The codes of the first signs. -/
def codesN (n : Int) (k : Nat) : List (Value × AV) := (List.range k).map fun c => (.int .i32 ((sgF n c : Nat) : Int), .lit (.int .u8 (c : Int)))
theorem findA_map (f : Nat → Int) (s : Int) : ∀ (l : List Nat) (i : Nat), findA (.int .i32) (.int .i32 s) (l.map fun c => (.int .i32 (f c), .lit (.int .u8 (c : Int)))) i =
    some ((l.findIdx? (fun c => f c == s)).map fun j => (i + j, .lit (.int .u8 ((l.getD j 0 : Nat) : Int)))) := by
  intro l
  induction l with
  | nil => intro i; rfl
  | cons c l ih =>
    intro i
    by_cases h : s = f c
    · have h' : (f c == s) = true := by simp [h]
      simp [findA, Instr.sameNow, h, List.findIdx?_cons]
    · have h' : (f c == s) = false := by simpa using fun e => h e.symm
      have h2 : (s == f c) = false := by simpa using h
      simp only [List.map_cons, findA, Instr.sameNow, if_true, h2, ih, List.findIdx?_cons, h', Bool.false_eq_true, if_false, Option.map_map]
      congr 1
      cases l.findIdx? (fun c => f c == s) with
      | none => rfl
      | some j => simp; omega
theorem sgF_inj {n : Int} (hn : isPage n) {c d : Nat} (hc : c < 256) (hd : d < 256) (h : sgF n c = sgF n d) : c = d := by
  have hl := signsF_length n
  have hnd := signsF_nodup hn
  unfold sgF at h
  rw [List.getD_eq_getElem?_getD, List.getD_eq_getElem?_getD, List.getElem?_eq_getElem (by omega), List.getElem?_eq_getElem (by omega)] at h
  exact (List.getElem_inj hnd).1 h
theorem setA_codes {n : Int} (hn : isPage n) {k : Nat} (hk : k < 256) : setA (.int .i32) (codesN n k) (.int .i32 ((sgF n k : Nat) : Int)) (.lit (.int .u8 (k : Int))) = some (codesN n (k + 1)) := by
  have hf : (List.range k).findIdx? (fun c => ((sgF n c : Nat) : Int) == ((sgF n k : Nat) : Int)) = none := by
    rw [List.findIdx?_eq_none_iff]
    intro c hc
    have hck : c < k := by simpa using hc
    have : sgF n c ≠ sgF n k := fun e => by have := sgF_inj hn (by omega) hk e; omega
    simpa using fun e => this (by omega)
  unfold setA codesN
  rw [findA_map (fun c => ((sgF n c : Nat) : Int)), hf]
  simp [List.range_succ]
/-- A sign's code. -/
def codeIx (n : Int) (s : Int) : Option Nat := (List.range 256).findIdx? (fun c => ((sgF n c : Nat) : Int) == s)
theorem codeIx_lt {n s : Int} {j : Nat} (h : codeIx n s = some j) : j < 256 ∧ ((sgF n j : Nat) : Int) = s := by
  obtain ⟨h1, h2, _⟩ := List.findIdx?_eq_some_iff_getElem.1 h
  have : j < 256 := by simpa using h1
  exact ⟨this, by simpa using h2⟩
theorem get_codes (P : Program) (et : TypeId) (n s : Int) (hz : zeroV P et = some (.lit (.int .u8 0))) : getA P et true (.int .i32) (.int .i32 s) (codesN n 256) =
    some (.tuple [.lit (.int .u8 (((codeIx n s).getD 0 : Nat) : Int)), .lit (.bool (codeIx n s).isSome)]) := by
  unfold getA codesN
  rw [findA_map (fun c => ((sgF n c : Nat) : Int))]
  have e : (List.range 256).findIdx? (fun c => ((sgF n c : Nat) : Int) == s) = codeIx n s := rfl
  rw [e]
  cases hc : codeIx n s with
  | none => simp [hz, AV.drop1]
  | some j =>
    have hj := (codeIx_lt hc).1
    have : (List.range 256).getD j 0 = j := by simp [hj]
    simp only [Option.map_some, this]
    rfl
/-- Signs laid one behind the other. -/
def upto (b : List Nat) (s : List Nat) (n : Nat) : List Nat := b.take n ++ s.drop n
theorem upto_length {b s : List Nat} (h : b.length = s.length) (n : Nat) : (upto b s n).length = s.length := by simp [upto]; omega
theorem upto_set {b s : List Nat} (h : b.length = s.length) {n : Nat} (hn : n < b.length) : (upto b s n).set n (b.getD n 0) = upto b s (n + 1) := by
  unfold upto
  rw [List.set_append_right _ _ (by simp; omega)]
  have e1 : n - (b.take n).length = 0 := by simp; omega
  rw [e1, List.drop_eq_getElem_cons (by omega), List.set_cons_zero, List.getD_eq_getElem?_getD, List.getElem?_eq_getElem hn]
  have e2 : b.take (n + 1) = b.take n ++ [b[n]] := List.take_succ_eq_append_getElem hn
  rw [e2, List.append_assoc]
  rfl
theorem row_base : ∀ i < 16, ∀ j < 16, (rowsL.getD i []).getD j 0 = baseL.getD (16 * i + j) 0 := by decide +kernel
theorem row_len : ∀ i < 16, (rowsL.getD i []).length = 16 := by decide +kernel
theorem base_lt (n : Nat) : baseL.getD n 0 < 65536 := by
  rw [List.getD_eq_getElem?_getD]
  cases h : baseL[n]? with
  | none => simp
  | some z => exact base_small z (List.mem_of_getElem? h)
theorem rowU_get {i j : Nat} (hi : i < 16) (hj : j < 16) : (rowU (rowsL.getD i []))[j]? = some (.lit (.int .u16 ((baseL.getD (16 * i + j) 0 : Nat) : Int))) := by
  have hl := row_len i hi
  rw [← row_base i hi j hj]
  unfold rowU
  rw [List.getElem?_map, List.getD_eq_getElem?_getD (l := rowsL.getD i [])]
  rw [List.getElem?_eq_getElem (by omega)]
  rfl
theorem others_len (n : Int) : (othersF n).length ≤ 25 := by
  unfold othersF
  repeat' split
  all_goals decide
theorem mkAV_true (cs : List AV) : mkAV true cs = some (.agg cs) := nr (by unfold mkAV; rfl)
/-- Some other signs laid. -/
def sgK (O : List (Nat × Nat)) (k : Nat) : List Nat := (O.take k).foldl (fun l o => l.set o.1 o.2) baseL
theorem sgK_length (O : List (Nat × Nat)) (k : Nat) : (sgK O k).length = 256 := by rw [sgK, signs_set, baseL_length]
theorem sgK_succ (O : List (Nat × Nat)) {k : Nat} (h : k < O.length) : sgK O (k + 1) = (sgK O k).set O[k].1 O[k].2 := by
  unfold sgK
  have e : O.take (k + 1) = O.take k ++ [O[k]] := List.take_succ_eq_append_getElem h
  rw [e, List.foldl_append]; rfl
set_option maxRecDepth 8000 in
set_option maxHeartbeats 2000000 in
theorem build_calls (b : Nat) (p : Pgs) (hp : p.sg.length = 256) (hn : isPage p.num) (σ : Store) (hb : σ b = some (pgA p)) :
    ACalls Tryz.prog 160 [pgP b] σ fun v σ' => v = .tuple [] ∧ ∃ q : Nat, σ (mkey q) = none ∧ σ' = (σ.upd b (pgA { p with sg := signsF p.num, cd := .lit (.map (some q)) })).put q (mapA (codesN p.num 256)) := by
  have hbl := baseL_length
  have hul := fun n => upto_length (b := baseL) (s := p.sg) (by omega) n
  refine ACalls.of_awp follows (st := st160) (plans := pl160) (n := 76) Tryz.func160 rfl (by kernel_rfl) (by kernel_rfl) (by kernel_rfl) ?_
  simp
  refine codeK.loop follows (st := st160) (plans := pl160) (X := Nat) (fun i => i ≤ 16)
    (fun i => [(0, pgP b), (11, .lit (.int .i64 i))]) (fun i => σ.upd b (pgA { p with sg := upto baseL p.sg (16 * i) })) (fun i => 16 - i) 0 (by kernel_rfl) (Nat.zero_le _) (by simp) ?_ fun i hi => ?_
  · have e : upto baseL p.sg (16 * 0) = p.sg := rfl
    rw [e, upd_back hb]; exact Store.sub_refl _
  by_cases hlt : i < 16
  · have hlt' : (i : Int) < 16 := by omega
    have hrow := fun τ => row_calls i hlt τ
    have hgR := fun j (hj : j < 16) => rowU_get hlt hj
    have hrl : (rowU (rowsL.getD i [])).length = 16 := by unfold rowU; rw [List.length_map, row_len i hlt]
    generalize rowU (rowsL.getD i []) = R at *
    simp [hlt']
    refine callK.of (hrow _) ?_
    rintro v σ1 ⟨rfl, rfl⟩
    simp
    refine codeK.loop follows (st := st160) (plans := pl160) (X := Nat) (fun j => j ≤ 16)
      (fun j => [(0, pgP b), (2, .lit (.int .i64 i)), (11, .lit (.int .i64 i)), (15, .agg R), (16, .lit (.int .i64 j))]) (fun j => σ.upd b (pgA { p with sg := upto baseL p.sg (16 * i + j) })) (fun j => 16 - j) 0 (by kernel_rfl) (Nat.zero_le _) (by simp) (Store.sub_refl _) fun j hj => ?_
    by_cases hjl : j < 16
    · have hjl' : (j : Int) < 16 := by omega
      have hg := hgR j hjl
      obtain ⟨m, hm⟩ : ∃ m, 16 * i + j = m := ⟨_, rfl⟩
      have hm1 : 16 * i + (j + 1) = m + 1 := by omega
      rw [hm] at hg ⊢
      have hmlt : m < 256 := by omega
      have hmlt' : (m : Int) < 256 := by omega
      have hz := base_lt m
      have hset := upto_set (b := baseL) (s := p.sg) (by omega) (n := m) (by omega)
      have hpl := pgA_length (p := { p with sg := upto baseL p.sg m }) (by dsimp only; rw [hul]; exact hp)
      have hps := fun z => pgA_setSg (p := { p with sg := upto baseL p.sg m }) (i := m) z (by dsimp only; rw [hul]; omega)
      have hps := hps (baseL.getD m 0)
      dsimp only at hps hpl
      rw [hset] at hps
      generalize baseL.getD m 0 = z at *
      have hw1 : IntKind.i64.wrap (16 * (i : Int)) = 16 * (i : Int) := by rw [wrap_i64 (by omega) (by omega)]
      have hw2 : IntKind.i64.wrap (16 * (i : Int) + (j : Int)) = (m : Int) := by rw [wrap_i64 (by omega) (by omega)]; omega
      have hw3 : IntKind.i32.wrap (z : Int) = z := by unfold IntKind.wrap; simp [IntKind.signed, IntKind.bits]; omega
      have hw4 : IntKind.i64.wrap ((j : Int) + 1) = ((j + 1 : Nat) : Int) := wrap_i64 (by omega) (by omega)
      simp [hjl', hg, hw1, hw2, hw3, hpl, hps, hmlt']
      exact ⟨by omega, j + 1, by omega, by omega, by rw [hw4]; exact AV.le_refl _, by rw [hm1]; exact Store.sub_refl _⟩
    · obtain rfl : j = 16 := by omega
      simp
      have hw1 : IntKind.i64.wrap ((i : Int) + 1) = ((i + 1 : Nat) : Int) := wrap_i64 (by omega) (by omega)
      exact ⟨i + 1, by omega, by omega, by rw [hw1]; exact AV.le_refl _, by rw [show 16 * (i + 1) = 16 * i + 16 by omega]; exact Store.sub_refl _⟩
  · obtain rfl : i = 16 := by omega
    have hu0 : upto baseL p.sg (16 * 16) = baseL := by unfold upto; rw [List.take_of_length_le (by omega), List.drop_of_length_le (by omega), List.append_nil]
    have hnum := pgA_num { p with sg := baseL }
    have hoth := fun τ => others_calls p.num τ
    dsimp only at hnum
    simp only [hu0]
    simp [hnum]
    refine callK.of (hoth _) ?_
    rintro v σ1 ⟨rfl, rfl⟩
    have hsm := others_small p.num
    have hOl := others_len p.num
    have hsF : (othersF p.num).foldl (fun l o => l.set o.1 o.2) baseL = signsF p.num := rfl
    generalize hO : othersF p.num = O at *
    simp
    refine codeK.loop follows (st := st160) (plans := pl160) (X := Nat) (fun k => k ≤ O.length)
      (fun k => [(0, pgP b), (40, .list false 2 (othA O)), (41, .lit (.int .i64 O.length)), (42, .lit (.int .i64 k))]) (fun k => σ.upd b (pgA { p with sg := sgK O k })) (fun k => O.length - k) 0 (by kernel_rfl) (Nat.zero_le _) (by simp) (Store.sub_refl _) fun k hk => ?_
    have hskl := sgK_length O k
    by_cases hkl : k < O.length
    · obtain ⟨o, ho⟩ : ∃ o, O[k] = o := ⟨_, rfl⟩
      have hos := hsm o (by rw [← ho]; exact List.getElem_mem ..)
      have hgo : ∀ q : k < (othA O).length, (othA O)[k]'q = .agg [.lit (.int .u8 (o.1 : Int)), .lit (.int .u16 (o.2 : Int))] := fun q => by simp [othA, ho]
      have hkl' : (k : Int) < O.length := by omega
      have hset : (sgK O k).set o.1 o.2 = sgK O (k + 1) := by rw [sgK_succ O hkl, ho]
      have hpl := pgA_length (p := { p with sg := sgK O k }) (by dsimp only; omega)
      have hps := pgA_setSg (p := { p with sg := sgK O k }) (i := o.1) o.2 (by dsimp only; omega)
      dsimp only at hps hpl
      rw [hset] at hps
      obtain ⟨c, z⟩ := o
      dsimp only at hos hps hgo
      have hc' : (c : Int) < 256 := by omega
      have hw3 : IntKind.i32.wrap (z : Int) = z := by unfold IntKind.wrap; simp [IntKind.signed, IntKind.bits]; omega
      have hw4 : IntKind.i64.wrap ((k : Int) + 1) = ((k + 1 : Nat) : Int) := wrap_i64 (by omega) (by omega)
      simp [hkl, hkl', hgo]
      intro q hq0
      obtain ⟨hqb, hq⟩ : ¬ q = b ∧ σ q = none := by
        split at hq0
        · cases hq0
        · exact ⟨by assumption, hq0⟩
      have hbq : ¬ b = q := fun e => hqb e.symm
      simp [hpl, hps, hc', hw3, hbq]
      exact ⟨by omega, k + 1, by omega, by omega, by rw [hw4]; exact AV.le_refl _, sub_box2 hq hbq⟩
    · obtain rfl : k = O.length := by omega
      have hall : sgK O O.length = signsF p.num := by unfold sgK; rw [List.take_length, hsF]
      have hSl := signsF_length p.num
      have hpl := pgA_length (p := { p with sg := signsF p.num }) hSl
      have hcd := fun c => pgA_setCd (p := { p with sg := signsF p.num }) hSl c
      have hpl2 := fun c => pgA_length (p := { p with sg := signsF p.num, cd := c }) hSl
      have hsg := fun c => pgA_sgs (p := { p with sg := signsF p.num, cd := c }) hSl
      have hcdg := fun c => pgA_cd (p := { p with sg := signsF p.num, cd := c }) hSl
      have hgS : ∀ c, c < 256 → (sgA (signsF p.num))[c]? = some (.lit (.int .i32 ((sgF p.num c : Nat) : Int))) := fun c hc => by
        rw [sgA_get _ (by omega)]
        unfold sgF
        rw [List.getD_eq_getElem?_getD, List.getElem?_eq_getElem (by omega)]
        rfl
      have hset := fun c (hc : c < 256) => setA_codes hn hc
      have hSA : (sgA (signsF p.num)).length = 256 := by rw [sgA_length, hSl]
      have hdS : (sgA (signsF p.num)).map AV.drop1 = sgA (signsF p.num) := by simp [sgA, Function.comp_def, AV.drop1]
      rw [hall]
      dsimp only at hpl hcd hpl2 hsg hcdg
      generalize sgA (signsF p.num) = S at *
      simp [hpl, hcd, hpl2, hsg]
      intro q hq
      simp [mkAV_true]
      refine codeK.loop follows (st := st160) (plans := pl160) (X := Nat) (fun c => c ≤ 256)
        (fun c => [(0, pgP b), (63, .agg S), (64, .lit (.int .i64 c))]) (fun c => (σ.upd b (pgA { p with sg := signsF p.num, cd := .lit (.map (some q)) })).put q (mapA (codesN p.num c))) (fun c => 256 - c) 0 (by kernel_rfl) (Nat.zero_le _) (by simp [hdS]) (Store.sub_refl _) fun c hc => ?_
      by_cases hcl : c < 256
      · have hcl' : (c : Int) < 256 := by omega
        have h1 : ∀ q : c < S.length, S[c]'q = .lit (.int .i32 ((sgF p.num c : Nat) : Int)) := fun q => by
          have := hgS c hcl
          rw [List.getElem?_eq_getElem q] at this
          exact Option.some.inj this
        have h2 := hset c hcl
        have hw1 : IntKind.u8.wrap (c : Int) = c := by unfold IntKind.wrap; simp [IntKind.signed, IntKind.bits]; omega
        have hw2 : IntKind.i64.wrap ((c : Int) + 1) = ((c + 1 : Nat) : Int) := wrap_i64 (by omega) (by omega)
        simp [hcl, hcl', h1, hSA, hcdg, hw1, h2]
        exact ⟨c + 1, by omega, by omega, by rw [hw2]; exact AV.le_refl _, Store.sub_refl _⟩
      · obtain rfl : c = 256 := by omega
        simp
        exact ⟨_, AV.le_refl _, _, Store.sub_refl _, rfl, q, hq, rfl⟩
end Go.Proofs.YtlmdbcgceijlnaaGreat
/-
  sync.Once: what it calls, step by step (turned from the kit's worked Lazy proofs): the lock, the mark, the two calls that are deferred; then doSlow, for any function whose contract is known.
-/
namespace Go.Proofs.YtlmdbcgceijlnaaGreat
open Go Go.AL

theorem oDisable (w : World) : (callFunc 178 #[]).run Tryz.prog w = .ok (.value (.tuple #[])) w := run_call_mark0 Tryz.func178 (by kernel_rfl) (by kernel_rfl) (by kernel_rfl) .disable (by kernel_rfl) w
theorem oEnable (w : World) : (callFunc 180 #[]).run Tryz.prog w = .ok (.value (.tuple #[])) w := run_call_mark0 Tryz.func180 (by kernel_rfl) (by kernel_rfl) (by kernel_rfl) .enable (by kernel_rfl) w
theorem oAcquire (a : Addr) (w : World) : (callFunc 181 #[.pointer (some a)]).run Tryz.prog w = .ok (.value (.tuple #[])) w := run_call_marked Tryz.func181 (by kernel_rfl) (by kernel_rfl) (by kernel_rfl) .acquire (by kernel_rfl) a w
theorem oRelease (a : Addr) (w : World) : (callFunc 183 #[.pointer (some a)]).run Tryz.prog w = .ok (.value (.tuple #[])) w := run_call_marked Tryz.func183 (by kernel_rfl) (by kernel_rfl) (by kernel_rfl) .releaseMerge (by kernel_rfl) a w

set_option maxRecDepth 100000 in
theorem oStore (a : Addr) (x : Value) (u : FrameMode) (w : World) (hc : w.cell? a = some x) (hz : w.frozen? a = false) :
    CallsD Tryz.prog 173 #[.pointer (some a), .bool true] u w fun e u' w' => u' = u ∧ (e = .returned (.tuple #[]) ∧ w' = w.drew.setCell a (.int .u32 1)) := by
  have hc' : w.drew.cell? a = some x := by go_simp
  have hz' : w.drew.frozen? a = false := by go_simp
  have hst := run_call_store (P := Tryz.prog) Tryz.func176 (by kernel_rfl) (by kernel_rfl) (by kernel_rfl) (by kernel_rfl) (k := .u32) (y := 1) hc' hz'
  go_enter_d Tryz.func173, Tryz.ntmps173
  go_wp2
  go_region_calls
  all_goals (go_end0; exact ⟨rfl, rfl⟩)

set_option maxRecDepth 100000 in
theorem oUnlock (a : Addr) (u : FrameMode) (w : World) (hc : w.cell? a = some (.int .i32 1)) (hz : w.frozen? a = false) :
    CallsD Tryz.prog 172 #[.pointer (some a)] u w fun e u' w' => u' = u ∧ (e = .returned (.tuple #[]) ∧ w' = w.setCell a (.int .i32 0)) := by
  have hd := oDisable
  have he := oEnable
  have hr := oRelease
  have hadd := run_call_add (P := Tryz.prog) Tryz.func184 (by kernel_rfl) (by kernel_rfl) (by kernel_rfl) .i32 (by kernel_rfl) (y := -1) (s := 0) hc hz (by simp [go_sem]; rfl)
  have hcv := run_convert_to_unsafe (P := Tryz.prog) (src := 222) (dst := 226) Tryz.underlying222 Tryz.underlying226 (by kernel_rfl) hc
  go_enter_d Tryz.func172, Tryz.ntmps172
  go_wp2
  go_end0
  go_wp2
  go_end0
  exact ⟨rfl, rfl⟩

set_option maxRecDepth 100000 in
theorem oLock (a : Addr) (w : World) (hc : w.cell? a = some (.int .i32 0)) (hz : w.frozen? a = false) :
    Calls Tryz.prog 171 #[.pointer (some a)] w fun e w' => e = .returned (.tuple #[]) ∧ w' = w.setCell a (.int .i32 1) := by
  have hd := oDisable
  have he := oEnable
  have ha := oAcquire
  have hcas := run_call_cas_hit (P := Tryz.prog) Tryz.func179 (by kernel_rfl) (by kernel_rfl) (by kernel_rfl) .i32 (by kernel_rfl) (y := 1) hc hz
  have hc' : (w.setCell a (.int .i32 1)).cell? a = some (.int .i32 1) := World.cell?_setCell_same w a _ hc
  have hcv := run_convert_to_unsafe (P := Tryz.prog) (src := 222) (dst := 226) Tryz.underlying222 Tryz.underlying226 (by kernel_rfl) hc'
  go_enter Tryz.func171, Tryz.ntmps171
  go_wp2
  first | go_end0 | (simp only [Exit.inBlock, Exit.then]; refine bodyPost_ret (results_none rfl _ _ _) rfl ?_) | refine bodyPost_ret (results_none rfl _ _ _) rfl ?_
  go_wp2
  go_end0
  exact ⟨rfl, rfl⟩
set_option maxRecDepth 100000 in
set_option maxHeartbeats 1600000 in
theorem oSlow (b : Nat) (w : World) (R : World → Prop) (h0 : w.cell? ⟨b, 1, none⟩ = some (.int .u32 0)) (h1 : w.cell? ⟨b, 2, none⟩ = some (.int .i32 0)) (f1 : w.frozen? ⟨b, 2, none⟩ = false)
    (hin : Calls Tryz.prog 160 #[.pointer (some ⟨b, 0, none⟩)] (w.setCell ⟨b, 2, none⟩ (.int .i32 1)) fun e w' => e = .returned (.tuple #[]) ∧ R w')
    (hR : ∀ w', R w' → w'.cell? ⟨b, 2, none⟩ = some (.int .i32 1) ∧ (∃ x, w'.cell? ⟨b, 1, none⟩ = some x) ∧ w'.frozen? ⟨b, 1, none⟩ = false ∧ w'.frozen? ⟨b, 2, none⟩ = false) :
    Calls Tryz.prog 167 #[.pointer (some ⟨b, 1, none⟩), .func (.func 160) #[.pointer (some ⟨b, 0, none⟩)] #[]] w fun e w' => e = .returned (.tuple #[]) ∧
      ∃ w2, R w2 ∧ w' = (w2.drew.setCell ⟨b, 1, none⟩ (.int .u32 1)).setCell ⟨b, 2, none⟩ (.int .i32 0) := by
  have hl := run_call_load (P := Tryz.prog) Tryz.func170 (by kernel_rfl) (by kernel_rfl) (by kernel_rfl) .u32 (by kernel_rfl) (w := w.setCell ⟨b, 2, none⟩ (.int .i32 1)) (a := ⟨b, 1, none⟩) (x := 0) ((World.cell?_setCell_other _ ⟨b, 2, none⟩ ⟨b, 1, none⟩ _ (by simp)).trans h0)
  have hnot : ∀ (x : Bool) (w : World), (Op.unary .not (.bool x)).run Tryz.prog w = .ok (.bool (!x)) w := fun _ _ => rfl
  go_enter_defers Tryz.func167, Tryz.ntmps167
  go_wp2_with (go_at_call 171; refine (oLock ⟨b, 2, none⟩ _ (by go_simp) (by go_simp)).mono ?_; rintro e w' ⟨rfl, rfl⟩)
  go_in
  go_wp2_with (go_at_call 160; refine hin.mono ?_; rintro e w' ⟨rfl, hw'⟩)
  obtain ⟨q2, ⟨x, q1⟩, z1, z2⟩ := hR _ hw'
  refine leaves_cons (f := 173) (args := #[.pointer (some ⟨b, 1, none⟩), .bool true]) (by simp) (by simp [go_sem]) ?_
  refine (oStore ⟨b, 1, none⟩ x .returning _ q1 z1).mono ?_
  rintro e u' w'' ⟨rfl, rfl, rfl⟩
  refine leaves_cons (f := 172) (args := #[.pointer (some ⟨b, 2, none⟩)]) (by simp [settle]) (by simp [go_sem]) ?_
  refine (oUnlock ⟨b, 2, none⟩ _ _ ?_ (by simp [z2])).mono ?_
  · refine (World.cell?_setCell_other _ ⟨b, 1, none⟩ ⟨b, 2, none⟩ _ (by simp)).trans ?_
    rw [World.cell?_drew]
    exact q2
  rintro e u' w'' ⟨rfl, rfl, rfl⟩
  simp [Leaves, settle, results, Tryz.results167]
  exact ⟨_, hw', rfl⟩
end Go.Proofs.YtlmdbcgceijlnaaGreat
