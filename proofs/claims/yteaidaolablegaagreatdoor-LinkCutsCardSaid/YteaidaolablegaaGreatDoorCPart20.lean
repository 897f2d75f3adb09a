/-
  LinkCuts: a stream in parts, each record answered.
-/
import Derived.Test.YteaidaolablegaaGreatDoorCPart19
import Derived.Test.YteaidaolablegaaGreatDoorRows
import Derived.Lay
import Derived.LaidMore
set_option linter.unusedSimpArgs false
set_option linter.unusedVariables false
namespace Go.Proofs.YteaidaolablegaaGreatDoor
open Go Go.AL

/-! ### How many bytes are told -/
theorem parse_len {l : List UInt8} {h : Hd} {r : List UInt8} (e : parseF l = some (h, r)) : r.length ≤ l.length := by
  unfold parseF at e
  split at e
  · split at e
    · obtain ⟨_, rfl⟩ := Prod.mk.inj (Option.some.inj e)
      simp; omega
    · cases e
  · cases e
theorem take_bytes (L : Lk) (ev : Ev) : ((L.take ev).2.1 = true → (L.take ev).1.data.length + (L.take ev).2.2.mp.length ≤ L.mp.length + (if ev.kind = 0 then ev.data.length else 0)) ∧ (L.take ev).2.2.mp.length ≤ L.mp.length + (if ev.kind = 0 then ev.data.length else 0) := by
  unfold Lk.take
  split
  · obtain ⟨_, _, q3, _, _⟩ := settle_e (L.hear ev.verb ev.opt)
    obtain ⟨_, p2, _⟩ := hear_e L ev.verb ev.opt
    rw [p2] at q3
    exact ⟨fun h => (by cases h), by dsimp only; omega⟩
  split
  · obtain ⟨_, _, q3, _, _⟩ := settle_e (L.sub ev)
    obtain ⟨_, p2, _⟩ := sub_e L ev
    rw [p2] at q3
    exact ⟨fun h => (by cases h), by dsimp only; omega⟩
  split
  · refine ⟨fun h => ?_, by dsimp only; omega⟩
    have : ev.kind = 0 := by simpa using h
    dsimp only
    rw [if_pos this]; omega
  split
  · rename_i k0
    obtain ⟨_, _, q3, _, _⟩ := settle_e { L with mp := L.mp ++ ev.data }
    have q3' : (Lk.settle { L with mp := L.mp ++ ev.data }).mp.length ≤ (L.mp ++ ev.data).length := q3
    rw [List.length_append] at q3'
    exact ⟨fun h => (by cases h), by dsimp only; omega⟩
  split
  · refine ⟨fun _ => ?_, by show 0 ≤ _; omega⟩
    show (toldF L.mode L.mp).data.length + 0 ≤ _
    have : (toldF L.mode L.mp).data.length ≤ L.mp.length := by
      unfold toldF
      split
      · exact Nat.le_refl _
      · cases h : parseF L.mp with
        | none => exact Nat.le_refl _
        | some x => obtain ⟨y, r⟩ := x; exact parse_len h
    omega
  · obtain ⟨_, _, q3, _, _⟩ := settle_e L
    exact ⟨fun h => (by cases h), by dsimp only; omega⟩
theorem leBytes_snoc (l : List LE) (e : LE) : leBytes (l ++ [e]) = leBytes l + e.data.length := by simp [leBytes]
theorem step_bytes (codes : List UInt8) (s : Cs) (ev : Ev) : leBytes (s.step codes ev).out + (s.step codes ev).L.mp.length ≤ leBytes s.out + s.L.mp.length + (if ev.kind = 0 then ev.data.length else 0) := by
  obtain ⟨h1, h2⟩ := take_bytes s.L ev
  unfold Cs.step
  split
  · rename_i h
    have h1 := h1 h
    obtain ⟨y, g1, _, _, g4⟩ := one_grow codes ⟨(s.L.take ev).2.2, s.n, s.out⟩ (s.L.take ev).1
    rw [g1, g4, leBytes_snoc]
    show leBytes s.out + _ + (s.L.take ev).2.2.mp.length ≤ _
    omega
  · dsimp only; omega
theorem run_bytes (codes : List UInt8) (r : List Ev) : ∀ s : Cs, leBytes (s.run codes r).out + (s.run codes r).L.mp.length ≤ leBytes s.out + s.L.mp.length + sumD r := by
  induction r with
  | nil => intro s; exact Nat.le_refl _
  | cons ev r ih =>
    intro s
    have h1 := step_bytes codes s ev
    have h2 := ih (s.step codes ev)
    have hs : sumD (ev :: r) = (if ev.kind = 0 then ev.data.length else 0) + sumD r := by simp [sumD]
    show leBytes ((s.step codes ev).run codes r).out + ((s.step codes ev).run codes r).L.mp.length ≤ _
    omega
theorem sumD_le (r : List Ev) : sumD r ≤ bytesIn r := by
  induction r with
  | nil => exact Nat.le_refl _
  | cons e r ih =>
    simp only [sumD, bytesIn, List.map_cons, List.sum_cons] at *
    split <;> omega
/-! ### In parts -/
/-- Behind some parts: the link, how many were answered, what was told. -/
def cutC (codes : List UInt8) (L : Lk) (S : St) : Cs := ((Cs.mk L 0 []).run codes S.out).withRd S.r
theorem cutC_next (codes : List UInt8) (L : Lk) (S : St) (q p' : List UInt8) :
    cutC codes L ⟨S.r.after q, S.out ++ S.r.fed q, p'⟩ = ⟨((cutC codes L S).L.ans codes (cutC codes L S).n q).L, ((cutC codes L S).L.ans codes (cutC codes L S).n q).n, (cutC codes L S).out ++ ((cutC codes L S).L.ans codes (cutC codes L S).n q).out⟩ := by
  unfold cutC
  dsimp only
  rw [run_append]
  generalize (Cs.mk L 0 []).run codes S.out = X
  have e1 : X = (Cs.mk X.L X.n []).pre X.out := by
    obtain ⟨a, b, c⟩ := X
    simp [Cs.pre]
  have e2 : (X.withRd S.r).L.ans codes (X.withRd S.r).n q = ((Cs.mk X.L X.n []).run codes (S.r.fed q)).withRd (S.r.after q) := by
    rw [← run_rd]; rfl
  rw [e2]
  have e3 : X.run codes (S.r.fed q) = ((Cs.mk X.L X.n []).run codes (S.r.fed q)).pre X.out := by
    rw [← run_pre, ← e1]
  rw [e3]
  rfl
def finC (codes : List UInt8) (L : Lk) (p cuts : List UInt8) : Cs := ((Cs.mk L 0 []).run codes (fedAll p cuts)).withRd (endAll p cuts)
structure CwS where
  i : Nat
  a : Bool
  b : Bool
set_option maxRecDepth 8000 in
set_option maxHeartbeats 2000000 in
theorem lcut_calls (kb : Bk) (hk : kb.Ok) (L : Lk) (a b o o1 o2 : Bool) (p cuts codes : List UInt8) (hp : p.length ≤ 1500) (hcl : cuts.length ≤ 9223372036854775807) (hL : LkOk L 0) (hrd : L.rd = .init) (σ : Store) (h : LkAt kb L a b σ) :
    ACalls Tryz.prog 23 [ptrA kb.l, .list o 1 (bytesA p), .list o1 1 (bytesA cuts), .list o2 1 (bytesA codes)] σ fun v σ' => v = .list false 7 (lesA (mergeL (finC codes L p cuts).out)) ∧ LkTo kb (finC codes L p cuts).L σ σ' := by
  have hfb : leBytes (finC codes L p cuts).out ≤ 1000000 := by
    have h1 := run_bytes codes (fedAll p cuts) ⟨L, 0, []⟩
    have h2 := sumD_le (fedAll p cuts)
    obtain ⟨g1, g2, g3, g4⟩ := St.cuts_ok (St.start_ok p) cuts
    obtain ⟨_, q2, _, _⟩ := fed_size ((St.start p).cuts cuts).r ((St.start p).cuts cuts).p g1 g2
    have h3 : bytesIn (fedAll p cuts) = bytesIn ((St.start p).cuts cuts).out + bytesIn (((St.start p).cuts cuts).r.fed ((St.start p).cuts cuts).p) := by unfold fedAll; rw [bytesIn_append]
    have h4 := hL.mp
    have h5 : leBytes (Cs.mk L 0 []).out = 0 := rfl
    have h6 : (finC codes L p cuts).out = ((Cs.mk L 0 []).run codes (fedAll p cuts)).out := rfl
    rw [h6]
    dsimp only at h1 h5
    omega
  have hfin : cutC codes L ⟨((St.start p).cuts cuts).r.after ((St.start p).cuts cuts).p, ((St.start p).cuts cuts).out ++ ((St.start p).cuts cuts).r.fed ((St.start p).cuts cuts).p, []⟩ = finC codes L p cuts := rfl
  generalize finC codes L p cuts = F at *
  have hinv : ∀ i, LkOk (cutC codes L ((St.start p).cuts (cuts.take i))).L (2 * (p.length - ((St.start p).cuts (cuts.take i)).p.length)) ∧ (cutC codes L ((St.start p).cuts (cuts.take i))).n ≤ 5 * (p.length - ((St.start p).cuts (cuts.take i)).p.length) ∧ (cutC codes L ((St.start p).cuts (cuts.take i))).out.length ≤ 5 * (p.length - ((St.start p).cuts (cuts.take i)).p.length) ∧ ((St.start p).cuts (cuts.take i)).p.length ≤ p.length := by
    intro i
    induction i with
    | zero =>
      have e : cutC codes L ((St.start p).cuts (cuts.take 0)) = ⟨L, 0, []⟩ := by
        show Cs.withRd ⟨L, 0, []⟩ Rd.init = _
        rw [← hrd]; rfl
      rw [e]
      refine ⟨by simpa [St.cuts, St.start] using hL, by simp, by simp, by simp [St.cuts, St.start]⟩
    | succ i ih =>
      by_cases hi : i < cuts.length
      · obtain ⟨i1, i2, i3, i4⟩ := ih
        rw [← St.cuts_take _ _ _ hi]
        generalize (St.start p).cuts (cuts.take i) = S at *
        have hn := cutC_next codes L S (S.p.take (min (cuts[i]).toNat S.p.length)) (S.p.drop (min (cuts[i]).toNat S.p.length))
        have hcut : S.cut cuts[i] = ⟨S.r.after (S.p.take (min (cuts[i]).toNat S.p.length)), S.out ++ S.r.fed (S.p.take (min (cuts[i]).toNat S.p.length)), S.p.drop (min (cuts[i]).toNat S.p.length)⟩ := rfl
        rw [hcut, hn]
        have hq : (S.p.take (min (cuts[i]).toNat S.p.length)).length = min (cuts[i]).toNat S.p.length := by simp
        obtain ⟨k1, k2, k3, _⟩ := ans_ok codes (k := (cutC codes L S).n) i1 (S.p.take (min (cuts[i]).toNat S.p.length)) (by rw [hq]; omega)
        rw [hq] at k1 k2 k3
        have hdl : (S.p.drop (min (cuts[i]).toNat S.p.length)).length = S.p.length - min (cuts[i]).toNat S.p.length := by simp
        dsimp only
        rw [hdl, List.length_append]
        refine ⟨?_, by omega, by omega, by omega⟩
        have : 2 * (p.length - S.p.length) + 2 * min (cuts[i]).toNat S.p.length = 2 * (p.length - (S.p.length - min (cuts[i]).toNat S.p.length)) := by omega
        rw [← this]; exact k1
      · rw [List.take_of_length_le (by omega)] at ih ⊢
        exact ih
  have hmg := fun τ => lmerge_calls true F.out (by
    have e := hinv cuts.length
    rw [List.take_of_length_le (Nat.le_refl _)] at e
    obtain ⟨i1, i2, i3, i4⟩ := e
    rw [← hfin]
    generalize (St.start p).cuts cuts = S at *
    rw [cutC_next codes L S S.p []]
    obtain ⟨k1, k2, k3, _⟩ := ans_ok codes (k := (cutC codes L S).n) i1 S.p (by omega)
    dsimp only
    rw [List.length_append]
    omega) hfb τ
  refine ACalls.of_awp follows (st := st23) (plans := pl23) (n := 44) Tryz.func23 rfl (by kernel_rfl) (by kernel_rfl) (by kernel_rfl) ?_
  simp
  intro nn hnn
  obtain ⟨n1, n2, n3, n4, n5⟩ := h.ne hnn
  have hnk : ¬ nn = kb.m ∧ ¬ nn = kb.e ∧ ¬ nn = kb.o ∧ ¬ nn = kb.r ∧ ¬ nn = kb.l := ⟨fun e => n5 e.symm, fun e => n4 e.symm, fun e => n3 e.symm, fun e => n2 e.symm, fun e => n1 e.symm⟩
  have hPn : ∀ L a b (m : Nat), (putL kb L a b (σ.upd nn [.lit (.int .i64 m)])) nn = some [.lit (.int .i64 m)] := fun L a b m => by rw [putL_off _ _ _ _ hnk]; simp
  have hup : ∀ L a b (m m' : Nat), (putL kb L a b (σ.upd nn [.lit (.int .i64 m)])).upd nn [.lit (.int .i64 m')] = putL kb L a b (σ.upd nn [.lit (.int .i64 m')]) := fun L a b m m' => by
    rw [← putL_comm L a b _ _ hnk]
    congr 1
    refine Store.ext2 (fun x => ?_) (fun g => by simp)
    simp only [supd_apply]
    split <;> rfl
  have hsub : ∀ L a b (m : Nat), Store.sub (putL kb L a b σ) (putL kb L a b (σ.upd nn [.lit (.int .i64 m)])) := fun L a b m => putL_sub (sub_upd_self _ _ _ hnn)
  have hans : ∀ (C : Cs) (a b : Bool) (n0 : Nat) (q : List UInt8), n0 + 2 * q.length ≤ 8000 → LkOk C.L n0 → C.n ≤ 1000000 → ACalls Tryz.prog 48 [ptrA kb.l, .list false 1 (bytesA q), .list false 1 (bytesA codes), ptrA nn] (putL kb C.L a b (σ.upd nn [.lit (.int .i64 C.n)])) fun v σ' => v = .list false 7 (lesA (C.L.ans codes C.n q).out) ∧ ∃ c d, σ' = putL kb (C.L.ans codes C.n q).L c d (σ.upd nn [.lit (.int .i64 (C.L.ans codes C.n q).n)]) := fun C a b n0 q h1 h2 h3 =>
    (answered_calls kb hk C.L a b false false n0 C.n q codes h1 h2 h3 nn _ (putL_at hk C.L a b _) (hPn ..)).mono fun v σ' ⟨e1, c, d, e2⟩ => ⟨e1, c, d, by rw [e2, hup, putL_putL]⟩
  have hst0 : σ.upd nn [.lit (.int .i64 0)] = putL kb L a b (σ.upd nn [.lit (.int .i64 ((0 : Nat) : Int))]) := (putL_self (h.beside _ hnk)).symm
  rw [hst0]
  refine codeK.loop follows (st := st23) (plans := pl23) (X := CwS) (fun s => s.i ≤ cuts.length)
    (fun s => [(0, ptrA kb.l), (1, .list false 1 (bytesA ((St.start p).cuts (cuts.take s.i)).p)), (3, .list false 1 (bytesA codes)), (9, .list true 7 (lesA (cutC codes L ((St.start p).cuts (cuts.take s.i))).out)), (10, ptrA nn), (14, .list false 1 (bytesA cuts)), (15, .lit (.int .i64 cuts.length)), (16, .lit (.int .i64 s.i))])
    (fun s => putL kb (cutC codes L ((St.start p).cuts (cuts.take s.i))).L s.a s.b (σ.upd nn [.lit (.int .i64 (cutC codes L ((St.start p).cuts (cuts.take s.i))).n)])) (fun s => cuts.length - s.i) ⟨0, a, b⟩ (by kernel_rfl) (Nat.zero_le _) ?_ ?_ ?_
  · simp [St.cuts, St.start, cutC, Cs.run, Cs.withRd, lesA]
  · have e : cutC codes L ((St.start p).cuts (cuts.take 0)) = ⟨L, 0, []⟩ := by
      show Cs.withRd ⟨L, 0, []⟩ Rd.init = _
      rw [← hrd]; rfl
    dsimp only
    rw [e]
    exact Store.sub_refl _
  rintro ⟨i, a2, b2⟩ hi
  dsimp only at hi ⊢
  obtain ⟨i1, i2, i3, i4⟩ := hinv i
  by_cases hlt : i < cuts.length
  · have hlt' : (i : Int) < cuts.length := by omega
    have hw : IntKind.i64.wrap ((i : Int) + 1) = ((i + 1 : Nat) : Int) := wrap_i64 (by omega) (by omega)
    obtain ⟨c, hc⟩ : ∃ c, cuts[i] = c := ⟨_, rfl⟩
    have hg : ∀ q : i < (bytesA cuts).length, (bytesA cuts)[i]'q = .lit (.int .u8 c.toNat) := fun q => by simp [bytesA, hc, byteA]
    have hnx := St.cuts_take (St.start p) cuts i hlt
    rw [hc] at hnx
    generalize (St.start p).cuts (cuts.take i) = S at *
    have hcut : S.cut c = ⟨S.r.after (S.p.take (min c.toNat S.p.length)), S.out ++ S.r.fed (S.p.take (min c.toNat S.p.length)), S.p.drop (min c.toNat S.p.length)⟩ := rfl
    have hn := cutC_next codes L S (S.p.take (min c.toNat S.p.length)) (S.p.drop (min c.toNat S.p.length))
    have hq : (S.p.take (min c.toNat S.p.length)).length = min c.toNat S.p.length := by simp
    have ha := hans (cutC codes L S) a2 b2 _ (S.p.take (min c.toNat S.p.length)) (by rw [hq]; omega) i1 (by omega)
    obtain ⟨_, _, k3, _⟩ := ans_ok codes (k := (cutC codes L S).n) i1 (S.p.take (min c.toNat S.p.length)) (by rw [hq]; omega)
    rw [hq] at k3
    rw [← hcut, hnx] at hn
    have hSp : ((St.start p).cuts (cuts.take (i + 1))).p = S.p.drop (min c.toNat S.p.length) := by rw [← hnx]; rfl
    have hcw : IntKind.i64.wrap (c.toNat : Int) = (c.toNat : Int) := wrap_i64 (by omega) (by have := c.toNat_lt; omega)
    have hmin : (if (S.p.length : Int) < IntKind.i64.wrap (c.toNat : Int) then (S.p.length : Int) else IntKind.i64.wrap (c.toNat : Int)) = ((min c.toNat S.p.length : Nat) : Int) := by
      rw [hcw]; split <;> omega
    have hmle : min c.toNat S.p.length ≤ S.p.length := by omega
    have hSl : S.p.length ≤ 1500 := by omega
    generalize (cutC codes L S).L.ans codes (cutC codes L S).n (S.p.take (min c.toNat S.p.length)) = A at *
    generalize min c.toNat S.p.length = kk at *
    have hbt : (bytesA S.p).take kk = bytesA (S.p.take kk) := by simp [bytesA, List.map_take]
    have hbd : (bytesA S.p).drop kk = bytesA (S.p.drop kk) := by simp [bytesA, List.map_drop]
    simp [hlt, hlt', hg, hmin, hbt, hbd, hmle]
    refine callK.of ha ?_
    rintro v σ1 ⟨rfl, c1, d1, rfl⟩
    simp [hlt, hlt', hg, hmin, hbt, hbd, hmle]
    have htk : (bytesA S.p).take S.p.length = bytesA S.p := List.take_of_length_le (by simp [bytesA])
    exact ⟨by omega, by omega, ⟨i + 1, c1, d1⟩, by dsimp only; omega, by dsimp only; omega, ⟨by dsimp only; rw [hSp, htk, hbd]; exact AV.le_refl _, by dsimp only; rw [hn, lesA_append]; exact AV.le_refl _, by dsimp only; rw [hw]; exact AV.le_refl _⟩, by dsimp only; rw [hn]; exact Store.sub_refl _⟩
  · obtain rfl : i = cuts.length := by omega
    rw [List.take_of_length_le (Nat.le_refl _)] at *
    generalize (St.start p).cuts cuts = S at *
    have hn := cutC_next codes L S S.p []
    rw [hfin] at hn
    have ha := hans (cutC codes L S) a2 b2 _ S.p (by omega) i1 (by omega)
    obtain ⟨_, _, k3, _⟩ := ans_ok codes (k := (cutC codes L S).n) i1 S.p (by omega)
    generalize (cutC codes L S).L.ans codes (cutC codes L S).n S.p = A at *
    simp
    refine callK.of ha ?_
    rintro v σ1 ⟨rfl, c1, d1, rfl⟩
    simp
    subst hn
    dsimp only at hmg ⊢
    simp only [lesA_append] at hmg
    refine ⟨by omega, by omega, ?_⟩
    refine callK.of (hmg _) ?_
    rintro v σ2 ⟨rfl, rfl⟩
    simp
    exact ⟨_, AV.le_refl _, _, hsub _ _ _ _, rfl, c1, d1, rfl⟩
end Go.Proofs.YteaidaolablegaaGreatDoor
/-
  Nothing but text unless it is agreed: the plain law; one lot of bytes.
-/
namespace Go.Proofs.YteaidaolablegaaGreatDoor
open Go Go.AL

/-- May an event be told, as the link is? -/
def MayTell (e : LE) (L : Lk) : Prop := (e.kind ≠ 2 → L.modeNow = 1 ∨ L.modeNow = 2) ∧ (e.kind = 2 → e.headed = false → L.modeNow = 0)
theorem init_mode (e : Ng) (x : Bool) : (Lk.init e x).mode = (Lk.init e x).modeNow := by
  cases x <;> rfl
end Go.Proofs.YteaidaolablegaaGreatDoor
/-
  LinkCuts: cut as one likes.
-/
namespace Go.Proofs.YteaidaolablegaaGreatDoor
open Go Go.AL

def LaidNo (σ : Store) (v : AV) (σ' : Store) : Prop := ∃ (ad : Option Addr) (f : Int) (k : Nat), k ≠ 0 ∧ v = .tuple [.lit (.pointer none), .lit (.pointer ad), .lit (.int .i64 k), .lit (.int .i64 f)] ∧ σ' = σ
theorem laidno_calls {e : Ng} (h : ¬ okC e.few) (o x : Bool) (σ : Store) : ACalls Tryz.prog 9 [confA e o, .lit (.bool x)] σ (LaidNo σ) := by
  refine (lay_calls e o x σ).mono fun v σ' hh => ?_
  obtain ⟨ad, f, _, ⟨_, ⟨k, hk, hv⟩, hs⟩ | ⟨h1, _⟩⟩ := hh
  · exact ⟨ad, f, k, hk, hv, hs⟩
  · exfalso; exact h h1
/-- A link that is made, of new blocks. -/
def LaidF (L : Lk) (σ : Store) (v : AV) (σ' : Store) : Prop := ∃ (ad : Option Addr) (f : Int) (kb : Bk) (a b : Bool), kb.Ok ∧ (σ kb.l = none ∧ σ kb.r = none ∧ σ kb.o = none ∧ σ kb.e = none ∧ σ kb.m = none) ∧ v = .tuple [ptrA kb.l, .lit (.pointer ad), .lit (.int .i64 0), .lit (.int .i64 f)] ∧ σ' = putL kb L a b σ
theorem laidF_calls {e : Ng} (h : okC e.few) (o x : Bool) (σ : Store) : ACalls Tryz.prog 9 [confA e o, .lit (.bool x)] σ (LaidF (.init e.few x) σ) := by
  refine (lay_calls e o x σ).mono fun v σ' hh => ?_
  obtain ⟨ad, f, _, h1 | ⟨_, kb, hk, hn, hv, a, b, hs⟩⟩ := hh
  · exfalso; exact h1.1 h
  · exact ⟨ad, f, kb, a, b, hk, hn, hv, hs⟩
/-- Two links, apart. -/
structure Apart (k j : Bk) : Prop where
  l : ¬ k.l = j.m ∧ ¬ k.l = j.e ∧ ¬ k.l = j.o ∧ ¬ k.l = j.r ∧ ¬ k.l = j.l
  r : ¬ k.r = j.m ∧ ¬ k.r = j.e ∧ ¬ k.r = j.o ∧ ¬ k.r = j.r ∧ ¬ k.r = j.l
  o : ¬ k.o = j.m ∧ ¬ k.o = j.e ∧ ¬ k.o = j.o ∧ ¬ k.o = j.r ∧ ¬ k.o = j.l
  e : ¬ k.e = j.m ∧ ¬ k.e = j.e ∧ ¬ k.e = j.o ∧ ¬ k.e = j.r ∧ ¬ k.e = j.l
  m : ¬ k.m = j.m ∧ ¬ k.m = j.e ∧ ¬ k.m = j.o ∧ ¬ k.m = j.r ∧ ¬ k.m = j.l
theorem LkAt.apart {k j : Bk} {L L' : Lk} {a b c d : Bool} {σ : Store} (h : LkAt k L a b σ) (ha : Apart k j) : LkAt k L a b (putL j L' c d σ) :=
  ⟨by rw [putL_off _ _ _ _ ha.l]; exact h.l, by rw [putL_off _ _ _ _ ha.r]; exact h.r, by rw [putL_off _ _ _ _ ha.o]; exact h.o, by rw [putL_off _ _ _ _ ha.e]; exact h.e, by rw [putL_off _ _ _ _ ha.m]; exact h.m⟩
theorem apart_new {k j : Bk} {L : Lk} {a b : Bool} {σ : Store} (h : LkAt k L a b σ) (hn : σ j.l = none ∧ σ j.r = none ∧ σ j.o = none ∧ σ j.e = none ∧ σ j.m = none) : Apart k j := by
  obtain ⟨h1, h2, h3, h4, h5⟩ := hn
  have ne : ∀ (p q : Nat) cs, σ p = some cs → σ q = none → ¬ p = q := fun p q cs e1 e2 e => by rw [e, e2] at e1; cases e1
  constructor <;> refine ⟨?_, ?_, ?_, ?_, ?_⟩
  all_goals first | exact ne _ _ _ h.l ‹_› | exact ne _ _ _ h.r ‹_› | exact ne _ _ _ h.o ‹_› | exact ne _ _ _ h.e ‹_› | exact ne _ _ _ h.m ‹_›
theorem putL_swap {k j : Bk} (ha : Apart k j) (L L' : Lk) (a b c d : Bool) (σ : Store) : putL k L a b (putL j L' c d σ) = putL j L' c d (putL k L a b σ) := by
  obtain ⟨h1, h2, h3, h4, h5⟩ := ha
  refine Store.ext2 (fun p => ?_) (fun g => by simp [putL])
  have e1 := putL_apply k L a b (putL j L' c d σ) p
  have e2 := putL_apply j L' c d (putL k L a b σ) p
  by_cases y1 : p = k.m
  · rw [e1, if_pos y1, y1, putL_off _ _ _ _ h5, putL_apply, if_pos rfl]
  by_cases y2 : p = k.e
  · rw [e1, if_neg y1, if_pos y2, y2, putL_off _ _ _ _ h4, putL_apply, if_neg (y2 ▸ y1), if_pos rfl]
  by_cases y3 : p = k.o
  · rw [e1, if_neg y1, if_neg y2, if_pos y3, y3, putL_off _ _ _ _ h3, putL_apply, if_neg (y3 ▸ y1), if_neg (y3 ▸ y2), if_pos rfl]
  by_cases y4 : p = k.r
  · rw [e1, if_neg y1, if_neg y2, if_neg y3, if_pos y4, y4, putL_off _ _ _ _ h2, putL_apply, if_neg (y4 ▸ y1), if_neg (y4 ▸ y2), if_neg (y4 ▸ y3), if_pos rfl]
  by_cases y5 : p = k.l
  · rw [e1, if_neg y1, if_neg y2, if_neg y3, if_neg y4, if_pos y5, y5, putL_off _ _ _ _ h1, putL_apply, if_neg (y5 ▸ y1), if_neg (y5 ▸ y2), if_neg (y5 ▸ y3), if_neg (y5 ▸ y4), if_pos rfl]
  rw [putL_off _ _ _ _ ⟨y1, y2, y3, y4, y5⟩, putL_apply, putL_apply, putL_off _ _ _ _ ⟨y1, y2, y3, y4, y5⟩]
set_option maxRecDepth 8000 in
theorem lsame_calls (e : LE) (σ : Store) : ACalls Tryz.prog 24 [leA e, leA e] σ fun v σ' => v = .lit (.bool true) ∧ σ' = σ := by
  obtain ⟨k, d, ⟨ty, req, resp, seq⟩, xh⟩ := e
  have hs := fun τ => same_calls false false d d τ
  refine ACalls.of_awp follows (st := st24) (plans := pl24) (n := 31) Tryz.func24 rfl (by kernel_rfl) (by kernel_rfl) (by kernel_rfl) ?_
  simp [leA, hdL, byteA]
  intro p hp q hq
  rw [ite_none] at hq
  obtain ⟨n1, hq⟩ := hq
  have n2 : ¬ p = q := fun e => n1 e.symm
  refine callK.of (hs _) ?_
  rintro v σ1 ⟨rfl, rfl⟩
  simp [n1, n2]
  (intro q; simp only [Store.upd, Store.del]; (repeat' split) <;> first | exact Or.inr rfl | exact Or.inl rfl | (exfalso; omega) | (left; subst_vars; assumption) | simp_all)
theorem run_len (codes : List UInt8) (E : List Ev) : ∀ s : Cs, (s.run codes E).out.length ≤ s.out.length + E.length := by
  induction E with
  | nil => intro s; exact Nat.le_refl _
  | cons e E ih =>
    intro s
    have h1 := ih (s.step codes e)
    have h2 : (s.step codes e).out.length ≤ s.out.length + 1 := by
      unfold Cs.step
      split
      · obtain ⟨y, _, _, _, g4⟩ := one_grow codes ⟨(s.L.take e).2.2, s.n, s.out⟩ (s.L.take e).1
        rw [g4]; simp
      · dsimp only; omega
    show ((s.step codes e).run codes E).out.length ≤ _
    simp only [List.length_cons]
    omega
theorem fedAll_len (p cuts : List UInt8) : (fedAll p cuts).length ≤ 5 * p.length := by
  obtain ⟨g1, g2, g3, g4⟩ := St.cuts_ok (St.start_ok p) cuts
  obtain ⟨q1, _, _, _⟩ := fed_size ((St.start p).cuts cuts).r ((St.start p).cuts cuts).p g1 g2
  simp only [fedAll, List.length_append]
  omega
@[simp] def st6x : List Nat := [5000006, 4000029, 4000037]
set_option maxRecDepth 8000 in
set_option maxHeartbeats 4000000 in
theorem linkCuts_calls (c : Ng) (o x : Bool) (p one two codes : List UInt8) (h1 : one.length ≤ 9223372036854775807) (h2 : two.length ≤ 9223372036854775807) (σ : Store) :
    ACalls Tryz.prog 6 [confA c o, .lit (.bool x), .list false 1 (bytesA p), .list false 1 (bytesA one), .list false 1 (bytesA two), .list false 1 (bytesA codes)] σ fun v _ => v = .lit (.bool true) := by
  have haw := fun τ => awake_calls τ
  have hfew := few_small c
  have hcut := fun τ => cut_calls false p 1500 τ (by omega)
  by_cases hok : okC c.few
  · have hlay := fun τ => laidF_calls hok false x τ
    have hok0 := init_ok (x := x) hfew hok
    have hm0 := init_mode c.few x
    have hrd0 : (Lk.init c.few x).rd = .init := rfl
    generalize Lk.init c.few x = L0 at *
    have hset : Settled L0 := hm0.symm
    have hCs := cuts_alike codes L0 hset (p.take 1500) one two
    have hpl : (p.take 1500).length ≤ 1500 := by simp; omega
    have hst1 := (merge_fedAll (p.take 1500) one).2
    have hst2 := (merge_fedAll (p.take 1500) two).2
    have hc1 := fun (kb : Bk) (hk : kb.Ok) a b τ (h : LkAt kb L0 a b τ) => lcut_calls kb hk L0 a b false false false (p.take 1500) one codes hpl h1 hok0 hrd0 τ h
    have hc2 := fun (kb : Bk) (hk : kb.Ok) a b τ (h : LkAt kb L0 a b τ) => lcut_calls kb hk L0 a b false false false (p.take 1500) two codes hpl h2 hok0 hrd0 τ h
    have hF1 : finC codes L0 (p.take 1500) one = ((Cs.mk L0 0 []).run codes (fedAll (p.take 1500) one)).withRd (endAll (p.take 1500) one) := rfl
    have hF2 : finC codes L0 (p.take 1500) two = ((Cs.mk L0 0 []).run codes (fedAll (p.take 1500) two)).withRd (endAll (p.take 1500) two) := rfl
    have hU : mergeL (finC codes L0 (p.take 1500) two).out = mergeL (finC codes L0 (p.take 1500) one).out := hCs.out.symm
    have hL2 : (finC codes L0 (p.take 1500) two).L = (finC codes L0 (p.take 1500) one).L.withRd (endAll (p.take 1500) two) := by
      rw [hF2, hF1]
      show ((Cs.mk L0 0 []).run codes (fedAll (p.take 1500) two)).L.withRd _ = _
      rw [hCs.L]; rfl
    have hws : (finC codes L0 (p.take 1500) two).L.waits = (finC codes L0 (p.take 1500) one).L.waits := by
      rw [hL2]
      unfold Lk.waits
      show ((endAll (p.take 1500) two).state != 0 || _) = ((endAll (p.take 1500) one).state != 0 || _)
      rw [hst1, hst2]; rfl
    generalize (finC codes L0 (p.take 1500) two).L = M2 at *
    have hUl : (mergeL (finC codes L0 (p.take 1500) one).out).length ≤ 100000 := by
      have q1 := (mergeL_size (finC codes L0 (p.take 1500) one).out).1
      have q2 := run_len codes (fedAll (p.take 1500) one) ⟨L0, 0, []⟩
      have q3 : (finC codes L0 (p.take 1500) one).out = ((Cs.mk L0 0 []).run codes (fedAll (p.take 1500) one)).out := rfl
      have q4 := fedAll_len (p.take 1500) one
      rw [← q3] at q2
      simp only [List.length_nil] at q2
      omega
    generalize (finC codes L0 (p.take 1500) one).L = M1 at *
    generalize mergeL (finC codes L0 (p.take 1500) two).out = U2 at *
    generalize mergeL (finC codes L0 (p.take 1500) one).out = U at *
    subst hU
    simp only [confA] at hlay ⊢
    refine ACalls.of_awp follows (st := st6x) (plans := pl6) (n := 105) Tryz.func6 rfl (by kernel_rfl) (by kernel_rfl) (by kernel_rfl) ?_
    simp
    refine callK.of (haw _) ?_
    rintro v σ1 ⟨rfl, rfl⟩
    simp
    refine callK.of (hcut _) ?_
    rintro v σ1 ⟨rfl, rfl⟩
    simp
    refine callK.of (hlay _) ?_
    rintro v σ1 ⟨ad, f, k1, a1, b1, hk1, hn1, rfl, rfl⟩
    simp
    refine callK.of (hlay _) ?_
    rintro v σ1 ⟨ad2, f2, k2, a2, b2, hk2, hn2, rfl, rfl⟩
    simp
    have hap := apart_new (putL_at hk1 L0 a1 b1 σ1) hn2
    refine callK.of (hc1 k1 hk1 a1 b1 _ ((putL_at hk1 L0 a1 b1 σ1).apart hap)) ?_
    rintro v σ2 ⟨rfl, c1, d1, rfl⟩
    rw [putL_swap hap, putL_putL]
    simp
    refine callK.of (hc2 k2 hk2 a2 b2 _ (putL_at hk2 ..)) ?_
    rintro v σ2 ⟨rfl, c2, d2, rfl⟩
    rw [putL_putL]
    simp
    refine codeK.loop follows (st := st6x) (plans := pl6) (X := Nat) (fun i => i ≤ U2.length)
      (fun i => [(13, ptrA k1.l), (17, ptrA k2.l), (21, .list false 7 (lesA U2)), (22, .list false 7 (lesA U2)), (62, .lit (.int .i64 U2.length)), (63, .lit (.int .i64 i))]) (fun _ => putL k2 M2 c2 d2 (putL k1 M1 c1 d1 σ1)) (fun i => U2.length - i) 0 (by kernel_rfl) (Nat.zero_le _) (by simp) (Store.sub_refl _) ?_
    intro i hi
    by_cases hlt : i < U2.length
    · have hlt' : (i : Int) < U2.length := by omega
      have hw : IntKind.i64.wrap ((i : Int) + 1) = ((i + 1 : Nat) : Int) := wrap_i64 (by omega) (by omega)
      obtain ⟨e, he⟩ : ∃ e, U2[i] = e := ⟨_, rfl⟩
      have hg : ∀ q : i < (lesA U2).length, (lesA U2)[i]'q = leA e := fun q => by simp [lesA, he]
      have hsm := fun τ => lsame_calls e τ
      obtain ⟨k, d, ⟨ty, req, resp, seq⟩, xh⟩ := e
      simp only [leA, hdL, byteA_lit, List.cons_append, List.nil_append] at hg hsm
      simp [hlt, hlt', hg]
      refine callK.of (hsm _) ?_
      rintro v σ2 ⟨rfl, rfl⟩
      simp
      exact ⟨i + 1, by omega, by omega, by rw [hw]; exact AV.le_refl _⟩
    · obtain rfl : i = U2.length := by omega
      have ha1 : ∀ L a b, LkAt k1 L a b (putL k2 M2 c2 d2 (putL k1 L a b σ1)) := fun L a b => (putL_at hk1 ..).apart hap
      simp
      refine callK.of (lout_calls k1 hk1 M1 c1 d1 _ (ha1 ..)) ?_
      rintro v σ2 ⟨rfl, rfl⟩
      rw [putL_swap hap, putL_putL]
      simp
      refine callK.of (lout_calls k2 hk2 M2 c2 d2 _ (putL_at hk2 ..)) ?_
      rintro v σ2 ⟨rfl, rfl⟩
      rw [putL_putL]
      have ho : M2.out = M1.out := by rw [hL2]; rfl
      have hmo : M2.mode = M1.mode := by rw [hL2]; rfl
      have hee : M2.e.st = M1.e.st := by rw [hL2]; rfl
      have hw1 : ({ M1 with out := [] } : Lk).waits = M1.waits := rfl
      have hw2 : ({ M2 with out := [] } : Lk).waits = M1.waits := hws
      have hsa := fun τ => same_calls false false M1.out M1.out τ
      have q2 := putL_at hk2 { M2 with out := [] } c2 d2 (putL k1 { M1 with out := [] } c1 d1 σ1)
      have q1 : LkAt k1 { M1 with out := [] } c1 d1 (putL k2 { M2 with out := [] } c2 d2 (putL k1 { M1 with out := [] } c1 d1 σ1)) := (putL_at hk1 ..).apart hap
      have m1 := lmode_calls k1 _ c1 d1 _ q1
      have m2 := lmode_calls k2 _ c2 d2 _ q2
      have w1 := lwaiting_calls k1 _ c1 d1 _ q1
      have w2 := lwaiting_calls k2 _ c2 d2 _ q2
      have e1 := lend_calls k1 _ c1 d1 _ q1
      have e2 := lend_calls k2 _ c2 d2 _ q2
      have s1 := state_calls k1.e _ c1 d1 _ q1.e
      have s2 := state_calls k2.e _ c2 d2 _ q2.e
      rw [ho]
      generalize putL k2 { M2 with out := [] } c2 d2 (putL k1 { M1 with out := [] } c1 d1 σ1) = Y at *
      rw [hw1] at w1
      rw [hw2] at w2
      dsimp only at m1 m2 s1 s2
      rw [hmo] at m2
      rw [hee] at s2
      simp
      refine callK.eq (hsa _) ?_
      simp
      refine callK.eq m1 ?_
      simp
      refine callK.eq m2 ?_
      simp
      refine callK.eq w1 ?_
      simp
      refine callK.eq w2 ?_
      simp
      refine callK.eq e1 ?_
      simp
      refine callK.eq s1 ?_
      simp
      refine callK.eq e2 ?_
      simp
      refine callK.eq s2 ?_
      simp
      exact ⟨_, Store.sub_refl _⟩
  · have hlay := fun τ => laidno_calls hok false x τ
    simp only [confA] at hlay ⊢
    refine ACalls.of_awp follows (st := st6) (plans := pl6) (n := 105) Tryz.func6 rfl (by kernel_rfl) (by kernel_rfl) (by kernel_rfl) ?_
    simp
    intro q hq
    refine callK.of (haw _) ?_
    rintro v σ1 ⟨rfl, rfl⟩
    simp
    refine callK.of (hcut _) ?_
    rintro v σ1 ⟨rfl, rfl⟩
    simp
    refine callK.of (hlay _) ?_
    rintro v σ1 ⟨ad, f, k, hk, rfl, rfl⟩
    simp [hk]
    refine callK.of (hlay _) ?_
    rintro v σ1 ⟨ad2, f2, k2, hk2, rfl, rfl⟩
    simp [hk]
    exact ⟨_, Store.sub_refl _⟩
end Go.Proofs.YteaidaolablegaaGreatDoor
/-
  Arguments opened.
-/
namespace Go.Proofs.YteaidaolablegaaGreatDoor
open Go Go.AL
theorem open_str : Opens Tryz.prog 9 (fun l : List UInt8 => [strS l]) (fun _ => True) :=
  (Opens.string Tryz.underlying9).by (fun s => s.data.toList) fun s _ => ⟨trivial, by cases s; simp⟩
theorem open_bytes : Opens Tryz.prog 22 (fun l : List UInt8 => [.list false 1 (bytesA l)]) (fun l => l.length ≤ maxLen) :=
  (Opens.slice Tryz.underlying22 (sz := 1) (by kernel_rfl) (by omega) (Opens.u8 Tryz.underlying5) byteA (fun _ => rfl) (fun _ => rfl)).by id fun _ h => ⟨h.1, rfl⟩
theorem open_conf : Opens Tryz.prog 24 (fun c : Ng => [strS c.ty, strS c.dev, .list false 1 (bytesA c.fns)]) (fun _ => True) :=
  (Opens.struct (total := 3) Tryz.underlying24 (by kernel_rfl)
    (.cons (k := 1) rfl (by kernel_rfl) (by omega) open_str (.cons (k := 1) rfl (by kernel_rfl) (by omega) open_str (.cons (k := 1) rfl (by kernel_rfl) (by omega) open_bytes .nil)))).by
    (fun x => ⟨x.1, x.2.1, x.2.2.1, 0, [], []⟩) fun _ _ => ⟨trivial, rfl⟩
end Go.Proofs.YteaidaolablegaaGreatDoor
/-
  What the table of the names reads as.
-/
namespace Go.Proofs.YteaidaolablegaaGreatDoor
open Go Go.AL Go.ChangeShapes Go.WideShapes Go.ChangeAt Go.RowKit Go.Lib

def laid1 : List (String × DataW Unit) := [("unicode/utf8.acceptRanges", Rows.laid_unicode_utf8_acceptRanges), ("vitrine/header.names", Rows.laid_vitrine_header_names), ("unicode/utf8.first", Rows.laid_unicode_utf8_first)]
def nameV (x : List UInt8) : Value := .string ⟨x.toArray⟩
def nameD (x : List UInt8) : DataW Unit := .lit (.string x)
theorem laid_names : (Rows.laid_vitrine_header_names : DataW Unit) = .agg (namesL.map nameD) := rfl
theorem laid_vr {W : World} (h : laidMetH Tryz.prog laid1 W) : ∀ g cs, GL.tab g = some cs → VR (allFrz W) (.fptr cs) (.pointer (some ⟨g, 0, none⟩)) := by
  rw [MakeChecks.laidMetH_plain _ _ _ (by kernel_rfl)] at h
  obtain ⟨ps, ⟨_, _, _, _, _, _, _, _, _, _, ⟨g, t, cs, fuel, p, q, hg, ht, hv, hd, _, _⟩, _⟩, _, _⟩ := h
  obtain rfl := Option.some.inj ((show Tryz.prog.globalNamed "vitrine/header.names" = some 1 by kernel_rfl).symm.trans hg)
  obtain rfl := Option.some.inj ((show (Tryz.prog.globals[1]?).map (·.type) = some 189 by kernel_rfl).symm.trans ht)
  obtain ⟨xs, m, _, ex, hc, hl, hel⟩ := DataW.trod_array Tryz.underlying189 hd
  have c9 : Tryz.prog.cellsOf 9 = 1 := by kernel_rfl
  have c189 : Tryz.prog.cellsOf 189 = 9 := by kernel_rfl
  rw [c189] at hc
  have e3 : xs.map (·.1) = namesL.map nameD := (DataW.agg.inj ((Prod.mk.inj ex).1.symm.trans laid_names)).symm ▸ rfl
  have hcs : cs.toList = namesL.map nameV := by
    refine List.ext_getElem? fun r => ?_
    by_cases hr : r < 9
    · have he := hel r hr
      rw [c9] at he
      have e4 : (xs.map (·.1))[r]? = (namesL.map nameD)[r]? := by rw [e3]
      rw [List.getElem?_map, List.getElem?_map] at e4
      have hx : r < namesL.length := hr
      rw [List.getElem?_map, List.getElem?_eq_getElem hx] at *
      cases hxr : xs[r]? with
      | none => rw [hxr] at e4; cases e4
      | some y =>
        rw [hxr] at e4 he
        obtain ⟨d, p⟩ := y
        simp only [Option.map_some, Option.some.injEq] at e4
        subst e4
        obtain ⟨s, g0, d0, _⟩ := DataW.trod_string Tryz.underlying9 (he.trans rfl)
        have hs : namesL[r] = s.data.toList := by
          have := d0
          simp only [nameD, DataW.lit.injEq, Lit.string.injEq] at this
          simp at this; exact this.1
        rw [Nat.mul_one] at g0
        have hlr : r < cs.toList.length := by omega
        have g1 : cs.toList[r]? = some (Value.string s) := by
          have := congrArg (·[0]?) g0
          simpa [List.getElem?_take, List.getElem?_drop] using this
        rw [g1, Option.map_some, nameV, hs]
    · rw [List.getElem?_eq_none (by omega), List.getElem?_eq_none (by rw [List.length_map]; exact Nat.le_of_not_lt hr)]
  intro g cs2 hg2
  have : g = 1 ∧ cs2 = namesO := by
    have hg3 : (if g = 1 then some namesO else none) = some cs2 := hg2
    split at hg3
    · exact ⟨‹_›, (Option.some.inj hg3).symm⟩
    · cases hg3
  obtain ⟨rfl, rfl⟩ := this
  have hlit : namesO = (namesL.map nameV).map .lit := rfl
  refine .fptr _ _ _ (namesL.map nameV) rfl (fun i u hu => ⟨?_, ?_⟩) fun i c u hc hu => ?_
  · rw [Nat.zero_add]
    refine cell_back ?_
    rw [World.var?_cell hg hv i, ← Array.getElem?_toList, hcs]; exact hu
  · have : (namesL.map nameV).all Value.oneCell' = true := by decide
    exact List.all_eq_true.1 this u (List.mem_of_getElem? hu)
  · rw [hlit, List.getElem?_map, hu] at hc
    obtain rfl := Option.some.inj hc
    exact .lit _
end Go.Proofs.YteaidaolablegaaGreatDoor
/-
  LinkCuts: for every input the law returns true, and the arguments read as they did.
-/
namespace Go.Proofs.YteaidaolablegaaGreatDoor
open Go Go.AL Go.ChangeShapes Go.WideShapes Go.ChangeAt Go.RowKit Go.Lib

theorem own_linkCuts : ownKnob Tryz.prog.godebug = none := by kernel_rfl
theorem laid_linkCuts : laidOutB Tryz.prog = true := by kernel_rfl
theorem rec22_linkCuts : Tryz.prog.readableRec 22 = true := by kernel_rfl
theorem row22_linkCuts : (22 : TypeId) < Tryz.prog.types.size := of_decide_eq_true (by kernel_rfl)
theorem rec24_linkCuts : Tryz.prog.readableRec 24 = true := by kernel_rfl
theorem row24_linkCuts : (24 : TypeId) < Tryz.prog.types.size := of_decide_eq_true (by kernel_rfl)
theorem rec4_linkCuts : Tryz.prog.readableRec 4 = true := by kernel_rfl
theorem row4_linkCuts : (4 : TypeId) < Tryz.prog.types.size := of_decide_eq_true (by kernel_rfl)

set_option maxRecDepth 100000 in
theorem linkCuts_lifted (os : Os) (started : os.Started) (H : Type) (enc : TypeId × Value → H) :
    ReturnsInHanded {} Tryz.checked os 6 .any (fun w args => (Rows.linkCutsSpec.pre enc Tryz.prog Tryz.f6 [] false w args ∧ laidMetH Tryz.prog laid1 w) ∧ sizedMet enc Tryz.prog Tryz.f6 (OpenSpec.ofChange Rows.linkCutsSpec) false w args) (Rows.linkCutsSpec.post enc Tryz.prog Tryz.f6 false true false false) := by
  refine returnsInHanded_of_change_and (C := Tryz.checked) (X := fun w _ => laidMetH Tryz.prog laid1 w) (fun _ _ _ hh h => h.of_heap hh) own_linkCuts started (by kernel_rfl) Tryz.func6
    (ChangeSpec.witness_shaped (enc := enc) (C := Tryz.checked) (os := os) (X := fun w _ => laidMetH Tryz.prog laid1 w) false (World.laidAll Tryz.prog os laid1) #[.agg #[.string ⟨#[]⟩, .string ⟨#[]⟩, .slice none 0 0], .bool false, .slice none 0 0, .slice none 0 0, .slice none 0 0, .slice none 0 0] 8 (World.laidAll_os _ _ _)
      (World.shaped_of_ZipB (by kernel_rfl) (by kernel_rfl)) (by kernel_rfl) (by kernel_rfl) (by kernel_rfl)
      (by rw [MakeChecks.laidMetH_plain _ _ _ (by kernel_rfl)]; exact laidMet_laidAll _ (by kernel_rfl) (by kernel_rfl))) ?_
  intro W base args ds gs before hval0 hW _ _ hL _
  have hval : ∀ (j : Nat) t v, Tryz.f6.params[j]? = some t → args[j]? = some v → Value.okWide Tryz.prog W .any base t v := hval0
  have hW' := hW
  obtain ⟨p, q, hA0, hV, rfl, hfz, hnd⟩ := hW
  have hA : DataW.TrodAll enc Tryz.prog W 0 (fun _ => true) true Tryz.f6.params.toList args.toList ds p := hA0
  rw [Tryz.params6] at hA hval
  obtain ⟨v0, v1, v2, v3, v4, v5, d0, d1, d2, d3, d4, d5, p0, p1, p2, p3, p4, p5, rfl, rfl, rfl, h0, h1, h2, h3, h4, h5⟩ := trodAll_six hA
  obtain ⟨rfl, rfl⟩ := trodVars_none hV
  obtain ⟨_, hv0, _⟩ := okWide_struct Tryz.underlying24 (hval 0 24 v0 rfl rfl)
  obtain ⟨a0, m0, w0⟩ := (open_conf).args hv0 h0
  obtain ⟨_, hv1⟩ := okWide_bool Tryz.underlying4 (hval 1 4 v1 rfl rfl)
  obtain ⟨a1, m1, w1⟩ := (Opens.bool Tryz.underlying4).arg _ (fun _ => rfl) (by rw [hv1]; rfl) h1
  obtain ⟨_, _, _, hv2⟩ := okWide_slice Tryz.underlying22 (hval 2 22 v2 rfl rfl)
  obtain ⟨a2, m2, w2⟩ := (open_bytes).arg _ (fun _ => rfl) (by rw [hv2]; rfl) h2
  obtain ⟨_, _, _, hv3⟩ := okWide_slice Tryz.underlying22 (hval 3 22 v3 rfl rfl)
  obtain ⟨a3, m3, w3⟩ := (open_bytes).arg _ (fun _ => rfl) (by rw [hv3]; rfl) h3
  obtain ⟨_, _, _, hv4⟩ := okWide_slice Tryz.underlying22 (hval 4 22 v4 rfl rfl)
  obtain ⟨a4, m4, w4⟩ := (open_bytes).arg _ (fun _ => rfl) (by rw [hv4]; rfl) h4
  obtain ⟨_, _, _, hv5⟩ := okWide_slice Tryz.underlying22 (hval 5 22 v5 rfl rfl)
  obtain ⟨a5, m5, w5⟩ := (open_bytes).arg _ (fun _ => rfl) (by rw [hv5]; rfl) h5
  clear hA0 hval0
  simp only [List.append_nil] at hW'
  have hlt : ∀ x ∈ p0 ++ p1 ++ p2 ++ p3 ++ p4 ++ p5, x.block < W.heap.size := fun x hx => hW'.lt x hx
  refine (law_calls (linkCuts_calls a0 false a1 a2 a3 a4 a5 (Nat.le_trans m3 (by decide)) (Nat.le_trans m4 (by decide)) _) W #[v0, v1, v2, v3, v4, v5] rfl (fun i c u hc hu => ?_) (laid_vr hL)).mono fun e W' ⟨he, hb⟩ => ?_
  · match i with
    | 0 => simp at hc hu; subst hc hu; exact ⟨w0, rfl⟩
    | 1 => simp at hc hu; subst hc hu; exact ⟨w1, rfl⟩
    | 2 => simp at hc hu; subst hc hu; exact ⟨w2, rfl⟩
    | 3 => simp at hc hu; subst hc hu; exact ⟨w3, rfl⟩
    | 4 => simp at hc hu; subst hc hu; exact ⟨w4, rfl⟩
    | 5 => simp at hc hu; subst hc hu; exact ⟨w5, rfl⟩
    | n + 6 => simp at hc
  subst he
  refine ⟨_, rfl, [d0, d1, d2, d3, d4, d5], [], p0 ++ p1 ++ p2 ++ p3 ++ p4 ++ p5, [], p0 ++ (p1 ++ (p2 ++ (p3 ++ (p4 ++ p5)))), [], hW', ?_, ?_, rfl, hb.frame _, fun h => (by cases h)⟩
  · exact trodAll_mk1 (shut_bool Tryz.underlying4 true)
  · refine trodAll_mk6 (Below.trod laid_linkCuts rec24_linkCuts row24_linkCuts h0 hb fun x hx => hlt x (by simp [hx])) (Below.trod laid_linkCuts rec4_linkCuts row4_linkCuts h1 hb fun x hx => hlt x (by simp [hx])) (Below.trod laid_linkCuts rec22_linkCuts row22_linkCuts h2 hb fun x hx => hlt x (by simp [hx])) (Below.trod laid_linkCuts rec22_linkCuts row22_linkCuts h3 hb fun x hx => hlt x (by simp [hx])) (Below.trod laid_linkCuts rec22_linkCuts row22_linkCuts h4 hb fun x hx => hlt x (by simp [hx])) (Below.trod laid_linkCuts rec22_linkCuts row22_linkCuts h5 hb fun x hx => hlt x (by simp [hx]))

theorem linkCuts_holds : Rows.LinkCutsSaid :=
  OpenClaim.holds_of_wide 6 Tryz.f6 rfl rfl rfl rfl rfl rfl rfl ⟨rfl, rfl, rfl, rfl, rfl⟩ rfl rfl rfl rfl rfl (by kernel_rfl) Tryz.func6 (by kernel_rfl)
    (of_decide_eq_true (by kernel_rfl)) (by unfold Func.isWrapper; first | (rw [if_pos (by decide +kernel)]; kernel_rfl) | (rw [if_neg (by decide +kernel)]; exact ⟨rfl, rfl⟩))
    (fun os started H enc _ => linkCuts_lifted os started H enc)
end Go.Proofs.YteaidaolablegaaGreatDoor
