/-
  All that is not protected goes.
-/
import Derived.Test.YtlmdbcgceijlnaaGreatDoorPart15
import Derived.Tactics
import Derived.Tactics2
import Derived.Defers
import Derived.Laws.Pointers
import Derived.Laws.LoneSync
import Derived.RegionTactic
import Derived.RegionCalls
import Derived.ChangeAlike
set_option linter.unusedSimpArgs false
set_option linter.unusedVariables false
namespace Go.Proofs.YtlmdbcgceijlnaaGreatDoor
open Go Go.AL Go.Sp

theorem places_length' (l : List Cell) (a : Nat) : (Sp.places l a).length = Sp.len l a := by simp [Sp.places]
theorem places_get' (l : List Cell) (a k : Nat) (h : k < (Sp.places l a).length) : (Sp.places l a)[k] = (a + k + 1) % l.length := by simp [Sp.places]
def nullP (t : Sp) (a j : Nat) : Sp := nullS t ((Sp.places t.cells a).take j)
theorem nullP_succ (t : Sp) (a j : Nat) (h : j < Sp.len t.cells a) (hl : t.cells.length = t.n) : nullP t a (j + 1) = (nullP t a j).put (((a + j + 1) % t.n : Nat) : Int) 0 := by
  have hj : j < (Sp.places t.cells a).length := by rw [places_length']; exact h
  unfold nullP nullS
  rw [List.take_succ_eq_append_getElem hj, List.foldl_append, places_get', hl]; rfl
theorem nullP_all (t : Sp) (a : Nat) : nullP t a (Sp.len t.cells a) = nullS t (Sp.places t.cells a) := by
  unfold nullP; rw [← places_length', List.take_length]
theorem fam_null {t : Sp} (h : t.good) (a : Nat) : Fam (nullP t a) := ⟨fun _k => (keep_null h _).same.1, fun _k => (keep_null h _).same.n, fun _k i => (keep_null h _).attr i⟩
set_option maxRecDepth 8000 in
set_option maxHeartbeats 1000000 in
theorem unprotected_calls {q r : Nat} {s : Sp} {σ : Store} (h : Prg σ q r s) : ACalls Tryz.prog 145 [ptrA q] σ fun v σ' => v = .tuple [] ∧ σ' = putS spO σ q r (unprotS s) := by
  have hfo := fun τ (hτ : Prg τ q r s) => formatted_calls hτ
  by_cases hc : s.count = 0
  · have hna := fun τ (hτ : Prg τ q r s) => nullall_calls hτ
    have hkp := keep_null h.good (List.range s.n)
    have hpl := fun τ (hτ : Prg τ q r (nullS s (List.range s.n))) => place_calls hτ 0
    unfold unprotS
    rw [if_pos hc]
    refine ACalls.of_awpY follows (st := st145) (plans := pl145) (n := 42) Tryz.func145 rfl (by kernel_rfl) (by kernel_rfl) (by kernel_rfl) ?_
    simp
    intro b hb
    have hb0 := h.fresh hb
    refine callK.of (hfo _ (h.new hb _)) ?_
    rintro v σ' ⟨rfl, rfl⟩
    simp [hc]
    refine callK.of (hna _ (h.new hb _)) ?_
    rintro v σ2 ⟨rfl, rfl⟩
    have hL := ((Lv.refl h).new hb [ptrA q]).put hkp.same.1
    have hbv : putS spO (σ.upd b [ptrA q]) q r (nullS s (List.range s.n)) b = some [ptrA q] := by rw [putS_at hb0.2.2.1 hb0.2.2.2]; simp
    simp [hbv]
    refine callK.of (hpl _ hL.prg) ?_
    rintro v σ3 ⟨rfl, rfl⟩
    simp
    exact (hL.put (hkp.same.1.place 0)).sub
  · have hfc := fun τ => fields_calls2 q τ
    have hfam := fam_unprot h.good
    have hz0 : unprotTo s 0 = s := rfl
    have hat0 : (unprotTo s 0).attrs = s.attrs := rfl
    have hall : unprotTo s s.attrs.length = s.attrs.foldl unprot1 s := by unfold unprotTo; rw [List.take_length]
    unfold unprotS
    rw [if_neg hc, ← hall]
    have hc' : 0 < s.count := by omega
    refine ACalls.of_awpY follows (st := st145) (plans := pl145) (n := 42) Tryz.func145 rfl (by kernel_rfl) (by kernel_rfl) (by kernel_rfl) ?_
    simp
    intro b hb
    have hb0 := h.fresh hb
    refine callK.of (hfo _ (h.new hb _)) ?_
    rintro v σ' ⟨rfl, rfl⟩
    simp [hc']
    refine callK.of (hfc _) ?_
    rintro v σ2 ⟨b2, f2, rfl, rfl⟩
    simp only [supd_apply, ite_none] at f2
    have g2 := h.fresh f2.2
    simp
    refine codeYK.rangeG follows (st := st145) (plans := pl145) (fields_iterF b2 q r (unprotTo s) hfam _) (by simp) (by simp) (by simp) (by kernel_rfl) (by kernel_rfl) (by kernel_rfl)
      (fun k ρ E => Lv σ ρ q r (unprotTo s k) ∧ ρ b = some [ptrA q] ∧ ρ b2 = some [ptrA q]) (fun c ρ E => False)
      _ ⟨?_, ?_, ?_⟩ (Store.sub_refl _) ?_ ?_ ?_ ?_
    · rw [hz0]
      exact ((Lv.refl h).new hb [ptrA q]).new (b := b2) (by simp [f2]) [ptrA q]
    · simp [Ne.symm f2.1]
    · simp
    · rintro k ρ E hk ⟨hL, _, h2⟩
      exact ⟨h2, hL.prg⟩
    · rintro k hk ρ E ⟨hL, hρb, hρ2⟩
      rw [hat0] at hk
      have hkp := keep_unprotTo h.good k
      have hsucc := unprotTo_succ s k hk
      obtain ⟨m1, m2⟩ := attr_mem h.good _ (List.getElem_mem hk)
      have hget : (unprotTo s 0).attrs[k]?.getD 0 = s.attrs[k] := by rw [hat0, List.getElem?_eq_getElem hk]; rfl
      have ha1 : (atFldF (unprotTo s) k).1 = s.attrs[k] := hget
      have ha2 : (atFldF (unprotTo s) k).2 = fldAt (unprotTo s k) s.attrs[k] := by unfold atFldF fldAt; rw [hget]
      rw [ha1, ha2, hsucc]
      generalize s.attrs[k] = a at *
      generalize unprotTo s k = t at *
      have m3 : a < t.n := by rw [hkp.same.n]; exact m1
      have m4 : attrAt t.cells a = true := by rw [hkp.attr]; exact m2
      have htg := hkp.same.1
      have hun : unprot1 t a = if (fldAt t a).prot = true then t else unmod1 (nullS t (Sp.places t.cells a)) a := rfl
      rw [hun]
      have hfa : ∀ f : Fld, fldA f = .agg [.lit (.bool f.prot), .lit (.bool f.num), .lit (.int .i64 f.disp), .lit (.bool f.mod)] := fun _ => rfl
      rw [hfa]
      generalize fldAt t a = f at *
      by_cases hpr : f.prot = true
      · rw [hpr]
        simp
        intro t3 ht3
        have k1 : ¬ b = t3 := by rintro rfl; rw [hρb] at ht3; cases ht3
        have k2 : ¬ b2 = t3 := by rintro rfl; rw [hρ2] at ht3; cases ht3
        exact ⟨_, Store.sub_refl _, hL.new ht3 _, by simp [k1, hρb], by simp [k2, hρ2]⟩
      · have hpr' : f.prot = false := by simpa using hpr
        rw [hpr']
        simp
        intro t3 ht3
        have k1 : ¬ b = t3 := by rintro rfl; rw [hρb] at ht3; cases ht3
        have k2 : ¬ b2 = t3 := by rintro rfl; rw [hρ2] at ht3; cases ht3
        simp [k1, hρb]
        have hL1 := hL.new ht3 [.lit (.bool false), .lit (.bool f.num), .lit (.int .i64 f.disp), .lit (.bool f.mod)]
        have c1 : (ρ.upd t3 [.lit (.bool false), .lit (.bool f.num), .lit (.int .i64 f.disp), .lit (.bool f.mod)]) b = some [ptrA q] := by simp [k1, hρb]
        have c2 : (ρ.upd t3 [.lit (.bool false), .lit (.bool f.num), .lit (.int .i64 f.disp), .lit (.bool f.mod)]) b2 = some [ptrA q] := by simp [k2, hρ2]
        have hsubρ : Store.sub ρ (ρ.upd t3 [.lit (.bool false), .lit (.bool f.num), .lit (.int .i64 f.disp), .lit (.bool f.mod)]) := Store.sub_upd ht3 (Store.sub_refl _)
        have c3 : (ρ.upd t3 [.lit (.bool false), .lit (.bool f.num), .lit (.int .i64 f.disp), .lit (.bool f.mod)]) t3 = some [.lit (.bool false), .lit (.bool f.num), .lit (.int .i64 f.disp), .lit (.bool f.mod)] := by simp
        generalize ρ.upd t3 [.lit (.bool false), .lit (.bool f.num), .lit (.int .i64 f.disp), .lit (.bool f.mod)] = ρ1 at *
        refine callK.of (places_calls2 q (a : Int) _) ?_
        rintro v σ2 ⟨pb, pc, hpb, hpc, hne, rfl, rfl⟩
        have gpb := hL1.prg.fresh hpb
        have gpc := hL1.prg.fresh hpc
        have n1 : ¬ b = pb := by rintro rfl; rw [c1] at hpb; cases hpb
        have n2 : ¬ b = pc := by rintro rfl; rw [c1] at hpc; cases hpc
        have n3 : ¬ b2 = pb := by rintro rfl; rw [c2] at hpb; cases hpb
        have n4 : ¬ b2 = pc := by rintro rfl; rw [c2] at hpc; cases hpc
        have hfn := fam_null htg a
        have hnz : nullP t a 0 = t := rfl
        have hln := htg.len
        simp
        refine codeYK.rangeG follows (st := st145) (plans := pl145) (places_iterF pb pc q r (nullP t a) hfn a m3 m4 _) (by simp) (by simp) (by simp) (by kernel_rfl) (by kernel_rfl) (by kernel_rfl)
          (fun j ρ E => Lv σ ρ q r (nullP t a j) ∧ ρ b = some [ptrA q] ∧ ρ b2 = some [ptrA q] ∧ ρ pb = some [ptrA q] ∧ ρ pc = some [.lit (.int .i64 a)]) (fun c ρ E => False)
          _ ⟨?_, ?_, ?_, ?_, ?_⟩ (Store.sub_refl _) ?_ ?_ ?_ ?_
        · rw [hnz]
          exact (hL1.new hpb [ptrA q]).new (b := pc) (by simp [Ne.symm hne, hpc]) [.lit (.int .i64 a)]
        · simp [n1, n2, c1]
        · simp [n3, n4, c2]
        · simp [hne]
        · simp
        · rintro j ρ E hj ⟨hLj, _, _, h4, h5⟩
          exact ⟨h4, h5, hLj.prg⟩
        · rintro j hj ρ E ⟨hLj, h1, h2, h4, h5⟩
          have hj' : j < Sp.len t.cells a := hj
          have hsu := nullP_succ t a j hj' hln
          have hgj := hfn.good j
          have hnj : (nullP t a 0).n = t.n := rfl
          rw [hnj, hsu]
          generalize (a + j + 1) % t.n = m at *
          generalize nullP t a j = u at *
          have hpu := pput_calls hLj.prg (m : Int) 0
          simp [h1]
          refine callK.of hpu ?_
          rintro v σ3 ⟨rfl, rfl⟩
          simp
          refine ⟨_, Store.sub_refl _, hLj.put (hgj.put _ _), ?_, ?_, ?_, ?_⟩
          · rw [putS_at hb0.2.2.1 hb0.2.2.2]; exact h1
          · rw [putS_at g2.2.2.1 g2.2.2.2]; exact h2
          · rw [putS_at gpb.2.2.1 gpb.2.2.2]; exact h4
          · rw [putS_at gpc.2.2.1 gpc.2.2.2]; exact h5
        · rintro ρ2 E2 σ2 hs2 ⟨hLj, h1, h2, _, _⟩
          have hend : nullP t a (Sp.len (nullP t a 0).cells a) = nullS t (Sp.places t.cells a) := nullP_all t a
          rw [hend] at hLj
          have hL2 := hLj.mono hs2
          have j1 := sub_at h1 hs2
          have j2 := sub_at h2 hs2
          have hkn := keep_null htg (Sp.places t.cells a)
          generalize nullS t (Sp.places t.cells a) = u at *
          have hat := fun τ (hτ : Prg τ q r u) => at_calls hτ (a : Int)
          have hse := fun τ (hτ : Prg τ q r u) => set_calls hτ (a : Int) (clr (u.at (a : Int)))
          have hk2 := keep_unmod1 hkn.same.1 (a := a) (by rw [hkn.same.n]; exact m3) (by rw [hkn.attr]; exact m4)
          have hun2 : unmod1 u a = u.set (a : Int) (clr (u.at (a : Int))) := rfl
          rw [hun2] at hk2 ⊢
          generalize hcc : u.at (a : Int) = c at *
          have hcl : cellA (clr c) = .agg [byteA c.char, .lit (.bool c.attr), byteA (c.fa &&& 0xfe), byteA c.high, byteA c.color, byteA c.set] := rfl
          rw [cellA_eq c] at hat
          rw [hcl] at hse
          have e1 := byteA_lit c.fa
          have e2 := byteA_lit (c.fa &&& 0xfe)
          have han := andNot1 c.fa
          rw [e1] at hat
          rw [e2] at hse
          simp [j1]
          refine callK.of (hat _ hL2.prg) ?_
          rintro v σ3 ⟨rfl, rfl⟩
          simp [-e_pureBin_11, han]
          intro t5 ht5
          have k3 : ¬ b = t5 := by rintro rfl; rw [j1] at ht5; cases ht5
          have k4 : ¬ b2 = t5 := by rintro rfl; rw [j2] at ht5; cases ht5
          simp [k3, j1]
          refine callK.of (hse _ (hL2.new ht5 _).prg) ?_
          rintro v σ4 ⟨rfl, rfl⟩
          simp
          refine ⟨_, Store.sub_refl _, (hL2.new ht5 _).put hk2.same.1, ?_, ?_⟩
          · rw [putS_at hb0.2.2.1 hb0.2.2.2]; simp [k3, j1]
          · rw [putS_at g2.2.2.1 g2.2.2.2]; simp [k4, j2]
        · rintro c ρ E2 σ2 hs2 hF
          exact hF.elim
    · rintro ρ E2 σ2 hs2 ⟨hL, h1, _⟩
      rw [hat0] at hL
      have hL2 := hL.mono hs2
      have j1 := sub_at h1 hs2
      have hnn : (unprotTo s s.attrs.length).n = s.n := (keep_unprotTo h.good _).same.n
      generalize unprotTo s s.attrs.length = t at *
      have hnx := fun τ (hτ : Prg τ q r t) => fnext0_calls hτ
      have hpl := fun τ (hτ : Prg τ q r t) => place_calls hτ (max (nextS t (t.n - 1)) 0)
      have hmx : max (nextS t (t.n - 1)) 0 = if nextS t (t.n - 1) < 0 then 0 else nextS t (t.n - 1) := by split <;> omega
      rw [hmx] at hpl
      rw [← hnn, hmx]
      have hgood := hL2.prg.good
      simp [j1]
      refine ⟨?_, ?_⟩
      all_goals
        refine callK.of (hnx _ hL2.prg) ?_
        rintro v σ3 ⟨rfl, rfl⟩
        simp [j1]
        refine callK.of (hpl _ hL2.prg) ?_
        rintro v σ4 ⟨rfl, rfl⟩
        simp
        exact (hL2.put (hgood.place _)).sub
    · rintro c ρ E2 σ2 hs2 hF
      exact hF.elim
end Go.Proofs.YtlmdbcgceijlnaaGreatDoor
/-
  Slices of places: collected, looked into.
-/
namespace Go.Proofs.YtlmdbcgceijlnaaGreatDoor
open Go Go.AL Go.Sp

def natA (n : Nat) : AV := .lit (.int .i64 n)
def natsA (L : List Nat) : List AV := L.map natA
@[simp] theorem natsA_len (L : List Nat) : (natsA L).length = L.length := by simp [natsA]
theorem natsA_append (a b : List Nat) : natsA (a ++ b) = natsA a ++ natsA b := by simp [natsA]
@[simp] theorem natsA_get (L : List Nat) (i : Nat) (h : i < (natsA L).length) : (natsA L)[i] = .lit (.int .i64 (L[i]'(by simpa using h) : Nat)) := by simp [natsA, natA]
set_option maxRecDepth 8000 in
theorem appseqG {fi : Nat} {fr : List AV} {L : List Nat} {Need : Nat → Store → Prop} (hN2 : L.length ≤ 1000000) (σ : Store) (_hsh : fr.map AV.share = fr)
    (hi : ∀ τ, IterG Tryz.prog fi fr τ L.length Need fun k _ => [.lit (.int .i64 (L[k]?.getD 0 : Nat))]) (hneed : ∀ k τ, Store.sub σ τ → Need k τ) (hc : callable Tryz.prog fi = true) :
    ACalls Tryz.prog 193 [.list true 1 [], .func (.func fi) [] fr] σ fun v σ' => v = .list false 1 (natsA L) ∧ σ' = σ := by
  refine ACalls.of_awpY follows (st := st193) (plans := pl193) (n := 13) Tryz.func193 rfl (by kernel_rfl) (by kernel_rfl) (by kernel_rfl) ?_
  simp
  intro q hq
  refine codeYK.rangeG follows (st := st193) (plans := pl193) (hi (σ.upd q [.list true 1 []])) (by simp) hc (by simp) (by kernel_rfl) (by kernel_rfl) (by kernel_rfl)
    (fun k τ _ => τ = σ.upd q [.list true 1 (natsA (L.take k))]) (fun _ _ _ => False)
    (σ.upd q [.list true 1 []]) (by simp [natsA]) (Store.sub_refl _) ?_ ?_ ?_ ?_
  · rintro k τ E hk rfl
    exact hneed k _ (Store.sub_upd hq (Store.sub_refl _))
  · rintro k hk τ E rfl
    obtain ⟨c, hc⟩ : ∃ c, L[k] = c := ⟨_, rfl⟩
    have ht : L.take (k + 1) = L.take k ++ [c] := by rw [List.take_succ_eq_append_getElem hk, hc]
    have hlk : (L.take k).length ≤ 1000000 := by simp; omega
    have hx : L[k]?.getD 0 = c := by simp [hk, hc]
    rw [hx]
    simp
    refine ⟨by omega, by omega, ?_⟩
    rw [ht, natsA_append]
    exact Store.sub_refl _
  · rintro τ E σ' hs rfl
    have e2 : σ' q = some [.list true 1 (natsA L)] := by
      rcases hs q with h | h
      · simp at h
      · rw [← h]; simp
    simp [e2]
    refine Store.sub_trans ?_ hs
    (intro q; simp only [Store.upd, Store.del]; (repeat' split) <;> simp_all)
  · rintro c τ E σ' hs h
    exact h.elim
set_option maxRecDepth 8000 in
theorem collectG {fi : Nat} {fr : List AV} {L : List Nat} {Need : Nat → Store → Prop} (hN2 : L.length ≤ 1000000) (σ : Store) (hsh : fr.map AV.share = fr)
    (hi : ∀ τ, IterG Tryz.prog fi fr τ L.length Need fun k _ => [.lit (.int .i64 (L[k]?.getD 0 : Nat))]) (hneed : ∀ k τ, Store.sub σ τ → Need k τ) (hc : callable Tryz.prog fi = true) :
    ACalls Tryz.prog 173 [.func (.func fi) [] fr] σ fun v σ' => v = .list false 1 (natsA L) ∧ σ' = σ := by
  have ha := appseqG hN2 σ hsh hi hneed hc
  refine ACalls.of_awp follows (st := st173) (plans := pl173) (n := 5) Tryz.func173 rfl (by kernel_rfl) (by kernel_rfl) (by kernel_rfl) ?_
  simp
  refine callK.of ha ?_
  rintro v σ' ⟨rfl, rfl⟩
  simp
theorem idxOf_get {L : List Nat} {i : Nat} (h : i < L.length) (hn : ∀ j, (hj : j < i) → L[j]'(by omega) ≠ L[i]) : L.idxOf L[i] = i := by
  induction L generalizing i with
  | nil => simp at h
  | cons a l ih =>
    cases i with
    | zero => simp
    | succ i =>
      have h0 := hn 0 (by omega)
      simp only [List.getElem_cons_zero, List.getElem_cons_succ] at h0 ⊢
      have h1 := ih (by simpa using h) fun j hj => by simpa using hn (j + 1) (by omega)
      have h2 : (a == l[i]'(by simpa using h)) = false := by simpa using h0
      rw [List.idxOf_cons, h1, h2]
      rfl
set_option maxRecDepth 8000 in
theorem index_calls (o : Bool) (L : List Nat) (hN2 : L.length ≤ 1000000) (x : Nat) (hx : x ∈ L) (σ : Store) : ACalls Tryz.prog 196 [.list o 1 (natsA L), .lit (.int .i64 x)] σ fun v σ' => v = .lit (.int .i64 (L.idxOf x : Nat)) ∧ σ' = σ := by
  refine ACalls.of_awp follows (st := st196) (plans := pl196) (n := 19) Tryz.func196 rfl (by kernel_rfl) (by kernel_rfl) (by kernel_rfl) ?_
  simp
  refine codeK.loop follows (st := st196) (plans := pl196) (X := Nat) (fun i => i ≤ L.length ∧ ∀ j, (hj : j < L.length) → j < i → L[j] ≠ x)
    (fun i => [(0, .list false 1 (natsA L)), (1, .lit (.int .i64 x)), (6, .list false 1 (natsA L)), (7, .lit (.int .i64 L.length)), (8, .lit (.int .i64 i))]) (fun _ => σ) (fun i => L.length - i) 0 (by kernel_rfl) (by simp) (by simp) (Store.sub_refl _) fun i hi => ?_
  obtain ⟨hi, hj⟩ := hi
  by_cases hlt : i < L.length
  · have hw : IntKind.i64.wrap ((i : Int) + 1) = ((i + 1 : Nat) : Int) := wrap_i64 (by omega) (by omega)
    simp [hlt]
    by_cases he : L[i] = x
    · have hix := idxOf_get hlt fun j hj2 => by rw [he]; exact hj j (by omega) hj2
      rw [he] at hix
      simp [he, hix]
    · have hne : ¬ (x : Int) = ((L[i] : Nat) : Int) := fun e => he (by omega)
      simp [hne, hw]
      refine ⟨i + 1, ⟨by omega, fun j hj2 hji => ?_⟩, by omega, by simp⟩
      by_cases e : j = i
      · subst e; exact he
      · exact hj j hj2 (by omega)
  · obtain ⟨i2, hi2, he⟩ := List.getElem_of_mem hx
    exact absurd he (hj i2 hi2 (by omega))
end Go.Proofs.YtlmdbcgceijlnaaGreatDoor
/-
  The places from one on to the end of its field.
-/
namespace Go.Proofs.YtlmdbcgceijlnaaGreatDoor
open Go Go.AL Go.Sp

theorem least (P : Nat → Bool) {j : Nat} (h : P j = true) : ∃ i, i ≤ j ∧ P i = true ∧ ∀ k, k < i → P k = false := by
  induction j using Nat.strongRecOn with
  | ind j ih =>
    by_cases hx : ∃ k, k < j ∧ P k = true
    · obtain ⟨k, hk, hp⟩ := hx
      obtain ⟨i, h1, h2⟩ := ih k hk hp
      exact ⟨i, by omega, h2⟩
    · refine ⟨j, Nat.le_refl _, h, fun k hk => ?_⟩
      cases e : P k
      · rfl
      · exact absurd ⟨k, hk, e⟩ hx
theorem back_at {N n a : Nat} (hn : n < N) (ha : a < N) : (n + N - (n + N - a) % N) % N = a := by
  rcases Nat.lt_or_ge n a with h2 | h2
  · rw [Nat.mod_eq_of_lt (by omega : n + N - a < N), show n + N - (n + N - a) = a from by omega, Nat.mod_eq_of_lt ha]
  · rw [show n + N - a = (n - a) + N from by omega, Nat.add_mod_right, Nat.mod_eq_of_lt (by omega : n - a < N), show n + N - (n - a) = a + N from by omega, Nat.add_mod_right, Nat.mod_eq_of_lt ha]
/-- A place that is no attribute lies in the field that begins ahead of it. -/
structure InField (s : Sp) (n a : Nat) : Prop where
  start : startS s.cells n = (a : Nat)
  lt : a < s.n
  attr : attrAt s.cells a = true
  mem : n ∈ Sp.places s.cells a
theorem in_field {s : Sp} (h : s.good) {n : Nat} (hn : n < s.n) (hc : ¬ s.count = 0) (hat : attrAt s.cells n = false) : ∃ a, InField s n a := by
  obtain ⟨b, hb, hbt⟩ := count_some (by omega : 0 < s.count)
  have hl := h.len
  rw [hl] at hb
  have hpos := s.n_pos
  have hm := Nat.mod_lt (n + s.n - b) hpos
  obtain ⟨j, hj, hP, hfree⟩ := least (fun j => attrAt s.cells ((n + s.n - j) % s.n)) (j := (n + s.n - b) % s.n) (by rw [back_at hn hb]; exact hbt)
  have hj2 : j < s.n := by omega
  have hbs := back_start h hn hj2 hfree hP
  have hj1 : 0 < j := by
    rcases Nat.eq_zero_or_pos j with rfl | h1
    · simp [Nat.mod_eq_of_lt hn] at hP; rw [hat] at hP; cases hP
    · exact h1
  refine ⟨(n + s.n - j) % s.n, hbs, Nat.mod_lt _ hpos, hP, ?_⟩
  have hi : ∀ i, i ≤ j → ((n + s.n - j) % s.n + i) % s.n = (n + s.n - (j - i)) % s.n := fun i hi => by
    rw [Nat.mod_add_mod, show n + s.n - j + i = n + s.n - (j - i) from by omega]
  have hlen : j ≤ Sp.len s.cells ((n + s.n - j) % s.n) := by
    rcases Nat.lt_or_ge (Sp.len s.cells ((n + s.n - j) % s.n)) j with h1 | h1
    · have h2 := Sp.len_stop hP (by rw [hl]; exact Nat.mod_lt _ hpos)
      rw [hl, Nat.add_assoc, hi _ (by omega), hfree _ (by omega)] at h2
      cases h2
    · exact h1
  unfold Sp.places
  rw [List.mem_map]
  refine ⟨j - 1, by simp; omega, ?_⟩
  rw [hl, show (n + s.n - j) % s.n + (j - 1) + 1 = (n + s.n - j) % s.n + j from by omega, hi j (Nat.le_refl _)]
  simp [Nat.mod_eq_of_lt hn]
theorem IterG.congr {P : Program} {f : Nat} {caps : List AV} {σ : Store} {N : Nat} {Need : Nat → Store → Prop} {arg : Nat → Store → List AV} (h : IterG P f caps σ N Need arg) (arg' : Nat → List AV) (he : ∀ k τ, k < N → arg k τ = arg' k) :
    IterG P f caps σ N Need fun k _ => arg' k :=
  ⟨fun k τ τ' hn hs => ⟨(h.mono k τ τ' hn hs).1, rfl⟩, fun X l I J h1 h2 τ E h3 hs => h.run X l I J h1 (fun k hk τ E hI => by rw [he k τ hk]; exact h2 k hk τ E hI) τ E h3 hs⟩
theorem spanL_len (N f t : Nat) : (spanL N f t).length = spanLen N f t := by simp [spanL]
set_option maxRecDepth 8000 in
theorem cspan_calls {q r : Nat} {s : Sp} {σ : Store} {b1 b2 b3 : Nat} {f t : Nat} (hf : f < s.n) (ht : t < s.n) (h : NeedB b1 b2 b3 s f t σ) : ACalls Tryz.prog 173 [.func (.func 209) [] [ptrA b1, ptrA b2, ptrA b3]] σ fun v σ' => v = .list false 1 (natsA (spanL s.n f t)) ∧ σ' = σ := by
  have hl := spanL_len s.n f t
  have hN := (spanLen_pos (N := s.n) (f := f) (t := t) s.n_pos).2
  have hnl := s.n_le
  refine collectG (L := spanL s.n f t) (Need := fun _ => NeedB b1 b2 b3 s f t) (by omega) σ rfl (fun τ => ?_) (fun k τ hs => h.mono hs) (by kernel_rfl)
  rw [hl]
  refine IterG.congr (span_iter b1 b2 b3 s hf ht τ) _ fun k τ hk => ?_
  simp [spanL, hk]
set_option maxRecDepth 8000 in
theorem cplaces_calls {q r : Nat} {s : Sp} {σ : Store} {b c a : Nat} (ha : a < s.n) (hat : attrAt s.cells a = true) (hb : σ b = some [ptrA q]) (hc : σ c = some [.lit (.int .i64 a)]) (h : Prg σ q r s) : ACalls Tryz.prog 173 [.func (.func 120) [] [ptrA b, ptrA c]] σ fun v σ' => v = .list false 1 (natsA (Sp.places s.cells a)) ∧ σ' = σ := by
  have hl := places_length' s.cells a
  have hN := Sp.len_lt (l := s.cells) (a := a) (by rw [h.good.len]; exact ha)
  have hnl := s.n_le
  have hcl := h.good.len
  refine collectG (L := Sp.places s.cells a) (Need := NeedP b c q r s a) (by omega) σ rfl (fun τ => ?_) (fun k τ hs => needP_mono (k := k) ⟨hb, hc, h⟩ hs) (by kernel_rfl)
  rw [hl]
  refine IterG.congr (places_iter b c q r s a ha hat τ) _ fun k τ hk => ?_
  have hk2 : k < (Sp.places s.cells a).length := by rw [hl]; exact hk
  rw [List.getElem?_eq_getElem hk2, places_get' _ _ _ hk2, hcl]
  rfl
def restL (s : Sp) (n : Nat) : List Nat := if s.count = 0 then spanL s.n n 0 else (Sp.places s.cells (startS s.cells n).toNat).drop ((Sp.places s.cells (startS s.cells n).toNat).idxOf n)
set_option maxRecDepth 8000 in
theorem erest_calls {q r : Nat} {s : Sp} {σ : Store} (h : Prg σ q r s) {n : Nat} (hn : n < s.n) (hat : attrAt s.cells n = false) : ACalls Tryz.prog 175 [ptrA q, .lit (.int .i64 n)] σ fun v σ' => v = .list false 1 (natsA (restL s n)) ∧ σ' = σ := by
  have hsz := fun τ (hτ : Prg τ q r s) => size_calls hτ
  have hw := fun τ => swrap_calls s (n : Int) τ
  rw [wrap_of_lt hn] at hw
  have hst := start_calls h hn
  have hpos := s.n_pos
  have hnl := s.n_le
  unfold restL
  refine ACalls.of_awp follows (st := st175) (plans := pl175) (n := 30) Tryz.func175 rfl (by kernel_rfl) (by kernel_rfl) (by kernel_rfl) ?_
  simp
  refine callK.of (hsz _ h) ?_
  rintro v σ' ⟨rfl, rfl⟩
  simp
  refine callK.of (hw _) ?_
  rintro v σ' ⟨rfl, rfl⟩
  simp
  refine callK.of hst ?_
  rintro v σ' ⟨rfl, rfl⟩
  by_cases hc : s.count = 0
  · have hs := startS_none hc n
    rw [hs]
    simp [hc]
    refine callK.of (hsz _ h) ?_
    rintro v σ' ⟨rfl, rfl⟩
    simp
    refine callK.of (span_calls2 s n 0 _) ?_
    rintro v σ2 ⟨b1, b2, b3, rfl, h1, h2, h3, e1, e2, e3, rfl⟩
    simp
    refine callK.of (cspan_calls (q := q) (r := r) hn hpos ⟨?_, ?_, ?_⟩) ?_
    · simp [e1, e2]
    · simp [e3]
    · simp
    rintro v σ2 ⟨rfl, rfl⟩
    simp
    (intro q; simp only [Store.upd, Store.del]; (repeat' split) <;> first | exact Or.inr rfl | exact Or.inl rfl | (exfalso; omega) | (left; subst_vars; assumption) | simp_all)
  · obtain ⟨a, hf⟩ := in_field h.good hn hc hat
    have hs := hf.start
    have hm := hf.mem
    have ha := hf.lt
    have haa := hf.attr
    have hix := index_calls
    have hpl := Sp.len_lt (l := s.cells) (a := a) (by rw [h.good.len]; exact ha)
    have hl := places_length' s.cells a
    have hcl := h.good.len
    have hneg : ¬ (a : Int) < 0 := by omega
    rw [hs]
    simp [hc, hneg]
    refine callK.of (places_calls2 q (a : Int) _) ?_
    rintro v σ2 ⟨b, c, h1, h2, e1, rfl, rfl⟩
    simp
    have e2 := h.fresh h1
    have e3 := h.fresh h2
    refine callK.of (cplaces_calls (q := q) (r := r) (s := s) ha haa ?_ ?_ ?_) ?_
    · simp [e1]
    · simp
    · exact (h.new h1 _).upd ⟨e3.1, e3.2.1⟩ _
    rintro v σ2 ⟨rfl, rfl⟩
    have hL : (Sp.places s.cells a).length ≤ 1000000 := by omega
    generalize Sp.places s.cells a = L at *
    have hio := List.idxOf_lt_length_of_mem hm
    have hi := index_calls false L hL n hm
    generalize L.idxOf n = i at *
    simp
    refine callK.of (hi _) ?_
    rintro v σ2 ⟨rfl, rfl⟩
    have hle : i ≤ L.length := by omega
    simp [hle]
    exact ⟨le_of_eq (by rw [List.take_of_length_le (by simp), natsA, natsA, List.map_drop]), by (intro q; simp only [Store.upd, Store.del]; (repeat' split) <;> first | exact Or.inr rfl | exact Or.inl rfl | (exfalso; omega) | (left; subst_vars; assumption) | simp_all)⟩
end Go.Proofs.YtlmdbcgceijlnaaGreatDoor
/-
  A field is marked; the end of a field goes.
-/
namespace Go.Proofs.YtlmdbcgceijlnaaGreatDoor
open Go Go.AL Go.Sp

def roundL (s : Sp) (n : Nat) : List Nat := if s.count = 0 then spanL s.n n n else restL s n
set_option maxRecDepth 8000 in
theorem round_calls {q r : Nat} {s : Sp} {σ : Store} (h : Prg σ q r s) {n : Nat} (hn : n < s.n) (hat : attrAt s.cells n = false) : ACalls Tryz.prog 189 [ptrA q, .lit (.int .i64 n)] σ fun v σ' => v = .list false 1 (natsA (roundL s n)) ∧ σ' = σ := by
  have hsz := fun τ (hτ : Prg τ q r s) => size_calls hτ
  have hfo := formatted_calls h
  have hre := erest_calls h hn hat
  unfold roundL
  refine ACalls.of_awp follows (st := st189) (plans := pl189) (n := 16) Tryz.func189 rfl (by kernel_rfl) (by kernel_rfl) (by kernel_rfl) ?_
  simp
  refine callK.of hfo ?_
  rintro v σ' ⟨rfl, rfl⟩
  by_cases hc : s.count = 0
  · simp [hc]
    refine callK.of (hsz _ h) ?_
    rintro v σ' ⟨rfl, rfl⟩
    simp
    refine callK.of (span_calls2 s n n _) ?_
    rintro v σ2 ⟨b1, b2, b3, rfl, h1, h2, h3, e1, e2, e3, rfl⟩
    simp
    refine callK.of (cspan_calls (q := q) (r := r) hn hn ⟨?_, ?_, ?_⟩) ?_
    · simp [e1, e2]
    · simp [e3]
    · simp
    rintro v σ2 ⟨rfl, rfl⟩
    simp
    (intro q; simp only [Store.upd, Store.del]; (repeat' split) <;> first | exact Or.inr rfl | exact Or.inl rfl | (exfalso; omega) | (left; subst_vars; assumption) | simp_all)
  · have hp : 0 < s.count := by omega
    simp [hc, hp]
    refine callK.of hre ?_
    rintro v σ' ⟨rfl, rfl⟩
    simp
theorem or1 (b : UInt8) : IntKind.u8.wrap ((b.toNat % 2 ^ IntKind.u8.bits ||| 1 % 2 ^ IntKind.u8.bits : Nat) : Int) = ((b ||| 1).toNat : Int) :=
  all_bytes (p := fun b => IntKind.u8.wrap ((b.toNat % 2 ^ IntKind.u8.bits ||| 1 % 2 ^ IntKind.u8.bits : Nat) : Int) = ((b ||| 1).toNat : Int)) (by decide +kernel) b
def mk1 (c : Cell) : Cell := { c with fa := c.fa ||| 1 }
def modS (s : Sp) (n : Nat) : Sp := if startS s.cells n = -1 then s else s.set (startS s.cells n) (mk1 (s.at (startS s.cells n)))
theorem modS_same {s : Sp} (h : s.good) (n : Nat) : SameN s (modS s n) := by
  unfold modS; split
  · exact .refl h
  · exact (SameN.refl h).set _ _
set_option maxRecDepth 8000 in
theorem modify_calls {q r : Nat} {s : Sp} {σ : Store} (h : Prg σ q r s) {n : Nat} (hn : n < s.n) : ACalls Tryz.prog 133 [ptrA q, .lit (.int .i64 n)] σ fun v σ' => v = .lit (.bool (!decide (startS s.cells n = -1))) ∧ σ' = putS spO σ q r (modS s n) := by
  have hst := start_calls h hn
  unfold modS
  generalize startS s.cells n = a at *
  by_cases ha : a = -1
  · rw [if_pos ha, h.put_self]
    refine ACalls.of_awp follows (st := st133) (plans := pl133) (n := 23) Tryz.func133 rfl (by kernel_rfl) (by kernel_rfl) (by kernel_rfl) ?_
    simp
    refine callK.of hst ?_
    rintro v σ' ⟨rfl, rfl⟩
    simp [ha]
  · rw [if_neg ha]
    have hat := at_calls h a
    have hset := fun τ (hτ : Prg τ q r s) => set_calls hτ a (mk1 (s.at a))
    generalize s.at a = c at *
    have hor := or1 c.fa
    simp only [cellA_eq] at hat hset
    have e1 : (mk1 c).char = c.char := rfl
    have e2 : (mk1 c).attr = c.attr := rfl
    have e3 : (mk1 c).fa = c.fa ||| 1 := rfl
    have e4 : (mk1 c).high = c.high := rfl
    have e5 : (mk1 c).color = c.color := rfl
    have e6 : (mk1 c).set = c.set := rfl
    rw [e1, e2, e3, e4, e5, e6] at hset
    generalize mk1 c = c2 at *
    refine ACalls.of_awp follows (st := st133) (plans := pl133) (n := 23) Tryz.func133 rfl (by kernel_rfl) (by kernel_rfl) (by kernel_rfl) ?_
    simp
    refine callK.of hst ?_
    rintro v σ' ⟨rfl, rfl⟩
    simp [ha]
    refine callK.of hat ?_
    rintro v σ' ⟨rfl, rfl⟩
    simp only [byteA] at hset
    simp [byteA, hor]
    intro b hb
    refine callK.of (hset _ (h.new hb _)) ?_
    rintro v σ2 ⟨rfl, rfl⟩
    have hf := h.fresh hb
    simp
    rw [putS_upd _ _ hf.2.2.1 hf.2.2.2]
    exact sub_upd_self _ _ _ (by rw [putS_at hf.2.2.1 hf.2.2.2]; exact hb)
theorem nullS_take (s : Sp) (L : List Nat) (k : Nat) (h : k < L.length) : nullS s (L.take (k + 1)) = (nullS s (L.take k)).put (L[k] : Nat) 0 := by
  unfold nullS
  rw [List.take_succ_eq_append_getElem h, List.foldl_append]; rfl
def endS (s : Sp) (n : Nat) : Sp := if openS s n = true then modS (nullS s (restL s n)) n else s
theorem open_attr {s : Sp} {n : Nat} (h : openS s n = true) : attrAt s.cells n = false := by
  unfold openS at h; simp at h; exact h.1
set_option maxRecDepth 8000 in
theorem end_calls {q r : Nat} {s : Sp} {σ : Store} (h : Prg σ q r s) {n : Nat} (hn : n < s.n) : ACalls Tryz.prog 144 [ptrA q, .lit (.int .i64 n)] σ fun v σ' => v = .lit (.bool (openS s n)) ∧ σ' = putS spO σ q r (endS s n) := by
  have hop := open_calls h hn
  unfold endS
  cases ho : openS s n
  · rw [if_neg (by simp), h.put_self]
    rw [ho] at hop
    refine ACalls.of_awp follows (st := st144) (plans := pl144) (n := 26) Tryz.func144 rfl (by kernel_rfl) (by kernel_rfl) (by kernel_rfl) ?_
    simp
    refine callK.of hop ?_
    rintro v σ' ⟨rfl, rfl⟩
    simp
  · rw [if_pos rfl]
    rw [ho] at hop
    have hre := erest_calls h hn (open_attr ho)
    have hlen : (restL s n).length ≤ 1000000 := by
      have hnl := s.n_le
      unfold restL
      split
      · rw [spanL_len]; have := (spanLen_pos (N := s.n) (f := n) (t := 0) s.n_pos).2; omega
      · rw [List.length_drop, places_length']
        have := run_le s.cells (startS s.cells n).toNat (s.cells.length - 1)
        unfold Sp.len
        rw [h.good.len] at *
        omega
    generalize restL s n = L at *
    have hsame := fun k => (SameN.refl h.good).nullS (L.take k)
    have hz : nullS s (L.take 0) = s := rfl
    have hall : nullS s (L.take L.length) = nullS s L := by rw [List.take_length]
    have hmo := fun τ (hτ : Prg τ q r (nullS s L)) => modify_calls hτ (n := n) (by rw [show (nullS s L).n = s.n from ((SameN.refl h.good).nullS L).n]; exact hn)
    have hsucc := nullS_take s L
    have hne := h.ne
    refine ACalls.of_awp follows (st := st144) (plans := pl144) (n := 26) Tryz.func144 rfl (by kernel_rfl) (by kernel_rfl) (by kernel_rfl) ?_
    simp
    refine callK.of hop ?_
    rintro v σ' ⟨rfl, rfl⟩
    simp
    refine callK.of hre ?_
    rintro v σ' ⟨rfl, rfl⟩
    simp
    refine codeK.loop follows (st := st144) (plans := pl144) (X := Nat) (fun k => k ≤ L.length)
      (fun k => [(0, ptrA q), (1, .lit (.int .i64 n)), (13, .list false 1 (natsA L)), (14, .lit (.int .i64 L.length)), (15, .lit (.int .i64 k))]) (fun k => putS spO σ' q r (nullS s (L.take k))) (fun k => L.length - k) 0 (by kernel_rfl) (by simp) (by simp) (by rw [hz, h.put_self]; exact Store.sub_refl _) fun k hk => ?_
    have hP : Prg (putS spO σ' q r (nullS s (L.take k))) q r (nullS s (L.take k)) := Scr.of_put hne (hsame k).1
    by_cases hlt : k < L.length
    · have hw : IntKind.i64.wrap ((k : Int) + 1) = ((k + 1 : Nat) : Int) := wrap_i64 (by omega) (by omega)
      have hpu := fun i => pput_calls hP i 0
      simp only [putS_put hne] at hpu
      have hs1 := hsucc k hlt
      rw [byteA_lit] at hpu
      simp [hlt]
      refine callK.of (hpu _) ?_
      rintro v σ3 ⟨rfl, rfl⟩
      simp [hw]
      exact ⟨k + 1, by omega, by omega, by simp, by rw [hs1]; exact Store.sub_refl _⟩
    · obtain rfl : k = L.length := by omega
      rw [hall] at hP ⊢
      simp
      refine callK.of (hmo _ hP) ?_
      rintro v σ3 ⟨rfl, rfl⟩
      rw [putS_put hne]
      simp
end Go.Proofs.YtlmdbcgceijlnaaGreatDoor
/-
  sync.Once: what it calls, step by step (turned from the kit's worked Lazy proofs): the lock, the mark, the two calls that are deferred; then doSlow, for any function whose contract is known.
-/
namespace Go.Proofs.YtlmdbcgceijlnaaGreatDoor
open Go Go.AL

theorem oDisable (w : World) : (callFunc 231 #[]).run Tryz.prog w = .ok (.value (.tuple #[])) w := run_call_mark0 Tryz.func231 (by kernel_rfl) (by kernel_rfl) (by kernel_rfl) .disable (by kernel_rfl) w
theorem oEnable (w : World) : (callFunc 233 #[]).run Tryz.prog w = .ok (.value (.tuple #[])) w := run_call_mark0 Tryz.func233 (by kernel_rfl) (by kernel_rfl) (by kernel_rfl) .enable (by kernel_rfl) w
theorem oAcquire (a : Addr) (w : World) : (callFunc 234 #[.pointer (some a)]).run Tryz.prog w = .ok (.value (.tuple #[])) w := run_call_marked Tryz.func234 (by kernel_rfl) (by kernel_rfl) (by kernel_rfl) .acquire (by kernel_rfl) a w
theorem oRelease (a : Addr) (w : World) : (callFunc 236 #[.pointer (some a)]).run Tryz.prog w = .ok (.value (.tuple #[])) w := run_call_marked Tryz.func236 (by kernel_rfl) (by kernel_rfl) (by kernel_rfl) .releaseMerge (by kernel_rfl) a w

set_option maxRecDepth 100000 in
theorem oStore (a : Addr) (x : Value) (u : FrameMode) (w : World) (hc : w.cell? a = some x) (hz : w.frozen? a = false) :
    CallsD Tryz.prog 225 #[.pointer (some a), .bool true] u w fun e u' w' => u' = u ∧ (e = .returned (.tuple #[]) ∧ w' = w.drew.setCell a (.int .u32 1)) := by
  have hc' : w.drew.cell? a = some x := by go_simp
  have hz' : w.drew.frozen? a = false := by go_simp
  have hst := run_call_store (P := Tryz.prog) Tryz.func229 (by kernel_rfl) (by kernel_rfl) (by kernel_rfl) (by kernel_rfl) (k := .u32) (y := 1) hc' hz'
  go_enter_d Tryz.func225, Tryz.ntmps225
  go_wp2
  go_region_calls
  all_goals (go_end0; exact ⟨rfl, rfl⟩)

set_option maxRecDepth 100000 in
theorem oUnlock (a : Addr) (u : FrameMode) (w : World) (hc : w.cell? a = some (.int .i32 1)) (hz : w.frozen? a = false) :
    CallsD Tryz.prog 224 #[.pointer (some a)] u w fun e u' w' => u' = u ∧ (e = .returned (.tuple #[]) ∧ w' = w.setCell a (.int .i32 0)) := by
  have hd := oDisable
  have he := oEnable
  have hr := oRelease
  have hadd := run_call_add (P := Tryz.prog) Tryz.func237 (by kernel_rfl) (by kernel_rfl) (by kernel_rfl) .i32 (by kernel_rfl) (y := -1) (s := 0) hc hz (by simp [go_sem]; rfl)
  have hcv := run_convert_to_unsafe (P := Tryz.prog) (src := 283) (dst := 218) Tryz.underlying283 Tryz.underlying218 (by kernel_rfl) hc
  go_enter_d Tryz.func224, Tryz.ntmps224
  go_wp2
  go_end0
  go_wp2
  go_end0
  exact ⟨rfl, rfl⟩

set_option maxRecDepth 100000 in
theorem oLock (a : Addr) (w : World) (hc : w.cell? a = some (.int .i32 0)) (hz : w.frozen? a = false) :
    Calls Tryz.prog 223 #[.pointer (some a)] w fun e w' => e = .returned (.tuple #[]) ∧ w' = w.setCell a (.int .i32 1) := by
  have hd := oDisable
  have he := oEnable
  have ha := oAcquire
  have hcas := run_call_cas_hit (P := Tryz.prog) Tryz.func232 (by kernel_rfl) (by kernel_rfl) (by kernel_rfl) .i32 (by kernel_rfl) (y := 1) hc hz
  have hc' : (w.setCell a (.int .i32 1)).cell? a = some (.int .i32 1) := World.cell?_setCell_same w a _ hc
  have hcv := run_convert_to_unsafe (P := Tryz.prog) (src := 283) (dst := 218) Tryz.underlying283 Tryz.underlying218 (by kernel_rfl) hc'
  go_enter Tryz.func223, Tryz.ntmps223
  go_wp2
  first | go_end0 | (simp only [Exit.inBlock, Exit.then]; refine bodyPost_ret (results_none rfl _ _ _) rfl ?_) | refine bodyPost_ret (results_none rfl _ _ _) rfl ?_
  go_wp2
  go_end0
  exact ⟨rfl, rfl⟩
set_option maxRecDepth 100000 in
set_option maxHeartbeats 1600000 in
theorem oSlow (b : Nat) (w : World) (R : World → Prop) (h0 : w.cell? ⟨b, 1, none⟩ = some (.int .u32 0)) (h1 : w.cell? ⟨b, 2, none⟩ = some (.int .i32 0)) (f1 : w.frozen? ⟨b, 2, none⟩ = false)
    (hin : Calls Tryz.prog 207 #[.pointer (some ⟨b, 0, none⟩)] (w.setCell ⟨b, 2, none⟩ (.int .i32 1)) fun e w' => e = .returned (.tuple #[]) ∧ R w')
    (hR : ∀ w', R w' → w'.cell? ⟨b, 2, none⟩ = some (.int .i32 1) ∧ (∃ x, w'.cell? ⟨b, 1, none⟩ = some x) ∧ w'.frozen? ⟨b, 1, none⟩ = false ∧ w'.frozen? ⟨b, 2, none⟩ = false) :
    Calls Tryz.prog 219 #[.pointer (some ⟨b, 1, none⟩), .func (.func 207) #[.pointer (some ⟨b, 0, none⟩)] #[]] w fun e w' => e = .returned (.tuple #[]) ∧
      ∃ w2, R w2 ∧ w' = (w2.drew.setCell ⟨b, 1, none⟩ (.int .u32 1)).setCell ⟨b, 2, none⟩ (.int .i32 0) := by
  have hl := run_call_load (P := Tryz.prog) Tryz.func222 (by kernel_rfl) (by kernel_rfl) (by kernel_rfl) .u32 (by kernel_rfl) (w := w.setCell ⟨b, 2, none⟩ (.int .i32 1)) (a := ⟨b, 1, none⟩) (x := 0) ((World.cell?_setCell_other _ ⟨b, 2, none⟩ ⟨b, 1, none⟩ _ (by simp)).trans h0)
  have hnot : ∀ (x : Bool) (w : World), (Op.unary .not (.bool x)).run Tryz.prog w = .ok (.bool (!x)) w := fun _ _ => rfl
  go_enter_defers Tryz.func219, Tryz.ntmps219
  go_wp2_with (go_at_call 223; refine (oLock ⟨b, 2, none⟩ _ (by go_simp) (by go_simp)).mono ?_; rintro e w' ⟨rfl, rfl⟩)
  go_in
  go_wp2_with (go_at_call 207; refine hin.mono ?_; rintro e w' ⟨rfl, hw'⟩)
  obtain ⟨q2, ⟨x, q1⟩, z1, z2⟩ := hR _ hw'
  refine leaves_cons (f := 225) (args := #[.pointer (some ⟨b, 1, none⟩), .bool true]) (by simp) (by simp [go_sem]) ?_
  refine (oStore ⟨b, 1, none⟩ x .returning _ q1 z1).mono ?_
  rintro e u' w'' ⟨rfl, rfl, rfl⟩
  refine leaves_cons (f := 224) (args := #[.pointer (some ⟨b, 2, none⟩)]) (by simp [settle]) (by simp [go_sem]) ?_
  refine (oUnlock ⟨b, 2, none⟩ _ _ ?_ (by simp [z2])).mono ?_
  · refine (World.cell?_setCell_other _ ⟨b, 1, none⟩ ⟨b, 2, none⟩ _ (by simp)).trans ?_
    rw [World.cell?_drew]
    exact q2
  rintro e u' w'' ⟨rfl, rfl, rfl⟩
  simp [Leaves, settle, results, Tryz.results219]
  exact ⟨_, hw', rfl⟩
end Go.Proofs.YtlmdbcgceijlnaaGreatDoor
