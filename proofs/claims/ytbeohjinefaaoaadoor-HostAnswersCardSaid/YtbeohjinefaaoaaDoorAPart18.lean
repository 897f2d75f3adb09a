/-
  A form's answers: the document's.
-/
import Derived.Test.YtbeohjinefaaoaaDoorAPart17
set_option linter.unusedSimpArgs false
set_option linter.unusedVariables false
namespace Go.Proofs.YtbeohjinefaaoaaDoor
open Go Go.AL Go.Sp

theorem encode_sg (r : Nat) (h : r < 55296) : Utf8.encode (r : Int) = toB (sgBytes r) := by
  have hv : Utf8.valid (r : Int) = true := by
    unfold Utf8.valid
    simp; omega
  unfold Utf8.encode
  rw [hv]
  simp only [if_true, Int.toNat_natCast]
  unfold sgBytes
  by_cases c : r ≤ 127
  · rw [if_pos (by omega), if_pos c]; rfl
  · by_cases d : r ≤ 2047
    · rw [if_neg (by omega), if_pos (by omega), if_neg c, if_pos d]; rfl
    · rw [if_neg (by omega), if_neg (by omega), if_pos (by omega), if_neg c, if_neg d]; rfl
theorem toB_app (l m : List UInt8) : toB l ++ toB m = toB (l ++ m) := by
  apply ByteArray.ext
  simp [toB]
set_option maxHeartbeats 2000000 in
set_option maxRecDepth 8000 in
theorem rans_calls {rows cols : Nat} (hD : Dim rows cols) (n : Int) (hn : isPage n) (F : Fm) (hF : FOk F) (R : Rpt) (hR : R.es.length ≤ 6 ∧ ∀ e ∈ R.es, e.2.length ≤ 30) (σ : Store) :
    ACalls Tryd.prog 14 [.agg (formC F), .agg (repC R), dimA rows cols, .lit (.int .i64 n)] σ fun v σ' => ∃ (g : Nat), v = .lit (.map (some g)) ∧ σ (mkey g) = none ∧ σ' = σ.put g (mapA (mapI (ansA n rows cols F R))) := by
  obtain ⟨hF1, hF2⟩ := hF
  obtain ⟨hR1, hR2⟩ := hR
  have his := fun τ => ris_calls n hn τ
  have hval := fun τ => rvalid_calls hD τ
  have hA : ansA n rows cols F R = ansP (ansF n rows cols F R) F.items.length := rfl
  have hfk : ∀ k (h : k < F.items.length), ansF n rows cols F R k = ansE n (atI rows cols F.items[k]) R.es none := fun k h => by unfold ansF; rw [List.getElem?_eq_getElem h]
  generalize ansF n rows cols F R = f at *
  generalize ansA n rows cols F R = A at *
  obtain ⟨items, er, al, re, am, un⟩ := F
  obtain ⟨aid, short, cur, es⟩ := R
  dsimp only at *
  unfold formC repC dimA
  unfold dimA at hval
  refine ACalls.of_awp follows (st := st14) (plans := pl14) (n := 77) Tryd.func14 rfl (by kernel_rfl) (by kernel_rfl) (by kernel_rfl) ?_
  simp +contextual [ite_free]
  intro p4 hp4 p5 a1 a2 hp5 p6 b1 b2 b3 b4 hp6 g hg
  have hm0 : mapA [] = mapA (mapI (ansP f 0)) := rfl
  rw [hm0]
  clear hm0
  have hgS : ∀ A B C : List AV, (((σ.upd p4 A).upd p5 B).upd p6 C) (mkey g) = none := fun A B C => by simpa using hg
  generalize hS : ((σ.upd p4 _).upd p5 _).upd p6 _ = S
  have sub0 : Store.sub σ S := by
    rw [← hS]
    exact Store.sub_upd hp6 (Store.sub_upd hp5 (Store.sub_upd hp4 (Store.sub_refl _)))
  have sg : σ (mkey g) = none := by simpa using hg
  have s4 : S p4 = some [.list false 9 (itsA items), .lit (.bool er), .lit (.bool al), .lit (.bool re), .lit (.bool am), .lit (.bool un)] := by rw [← hS]; simp [a1, a2, b1, b2, b3, b4]
  have s5 : S p5 = some [byteA aid, .lit (.bool short), .lit (.int .i64 cur), .list false 2 (entsA es)] := by rw [← hS]; simp [a1, a2, b1, b2, b3, b4]
  have s6 : S p6 = some [.lit (.int .i64 rows), .lit (.int .i64 cols)] := by rw [← hS]; simp
  clear hS hgS
  refine callK.eq (his _) ?_
  simp [s6]
  refine callK.eq (hval _) ?_
  simp [s4]
  refine codeK.loop follows (st := st14) (plans := pl14) (X := Nat) (fun y => y ≤ items.length)
    (fun y => [(3, .lit (.int .i64 n)), (5, ptrA p5), (6, ptrA p6), (9, .lit (.map (some g))), (28, .list false 9 (itsA items)), (29, .lit (.int .i64 items.length)), (30, .lit (.int .i64 y))]) (fun y => S.put g (mapA (mapI (ansP f y)))) (fun y => items.length - y) 0 (by kernel_rfl)
    (by simp) (by simp) (Store.sub_refl _) fun i hi => ?_
  by_cases hlt : i < items.length
  · have hw : IntKind.i64.wrap ((i : Int) + 1) = ((i + 1 : Nat) : Int) := wrap_i64 (by omega) (by omega)
    have ha := itsA_get items i hlt
    have hfi := hfk i hlt
    have had := fun τ => rat_calls hD items[i].row items[i].col τ
    have hcl := fun τ => rcells_calls hD τ
    have h35 : rows * cols ≤ 3564 := hD.m
    have hwr := fun τ => rmod_calls ((addrAt rows cols items[i].row items[i].col : Int) + 1) (rows * cols) hD.p (by omega) τ
    have hal := addrAt_lt hD items[i].row items[i].col
    have hat : ((wrap (rows * cols) ((addrAt rows cols items[i].row items[i].col : Int) + 1) : Nat) : Int) = atI rows cols items[i] := rfl
    rw [hat] at hwr
    generalize atI rows cols items[i] = AT at *
    generalize items[i] = z at *
    obtain ⟨zr, zc, zf, ze, zt, zu⟩ := z
    dsimp only at had hwr hal
    have hw2 : IntKind.i64.wrap ((addrAt rows cols zr zc : Int) + 1) = (addrAt rows cols zr zc : Int) + 1 := wrap_i64 (by omega) (by omega)
    generalize addrAt rows cols zr zc = AD at *
    generalize hRC : rows * cols = RC at *
    unfold itC at ha
    unfold dimA at had hcl
    simp [hlt, ha]
    intro p11 f11
    have n5 : ¬ p5 = p11 := fun e => by subst e; rw [s5] at f11; cases f11
    have n6 : ¬ p6 = p11 := fun e => by subst e; rw [s6] at f11; cases f11
    generalize hT : S.upd p11 _ = T
    have subT : Store.sub S T := by rw [← hT]; exact Store.sub_upd f11 (Store.sub_refl _)
    have t5 : T p5 = some [byteA aid, .lit (.bool short), .lit (.int .i64 cur), .list false 2 (entsA es)] := by rw [← hT]; simp [n5, s5]
    have t6 : T p6 = some [.lit (.int .i64 rows), .lit (.int .i64 cols)] := by rw [← hT]; simp [n6, s6]
    have t11 : T p11 = some (itC ⟨zr, zc, zf, ze, zt, zu⟩) := by rw [← hT]; simp [itC]
    clear hT
    unfold itC at t11
    simp [n5, n6, s6, t5, t6, t11]
    repeat' first
      | with_reducible apply And.intro
      | (refine callK.eq (had _) ?_; simp [hw2, t5, t6, t11])
      | (refine callK.eq (hcl _) ?_; simp [hw2, t5, t6, t11])
      | (refine callK.eq (hwr _) ?_; simp [t5, t6, t11])
    all_goals
      refine codeK.loop follows (st := st14) (plans := pl14) (X := Nat) (fun y => y ≤ es.length)
        (fun y => [(3, .lit (.int .i64 n)), (5, ptrA p5), (6, ptrA p6), (9, .lit (.map (some g))), (10, .lit (.int .i64 i)), (12, .lit (.int .i64 AT)), (28, .list false 9 (itsA items)), (29, .lit (.int .i64 items.length)), (30, .lit (.int .i64 i)), (46, .list false 2 (entsA es)), (47, .lit (.int .i64 es.length)), (48, .lit (.int .i64 y))])
        (fun y => T.put g (mapA (mapI (ansP f i ++ optP i (ansE n AT (es.take y) none))))) (fun y => es.length - y) 0 (by kernel_rfl) (by simp) (by simp) (by simp [ansE, optP]) fun j hj => ?_
      by_cases hlj : j < es.length
      · have hwj : IntKind.i64.wrap ((j : Int) + 1) = ((j + 1 : Nat) : Int) := wrap_i64 (by omega) (by omega)
        have ge := entsA_get es j hlj
        have hel := hR2 _ (List.getElem_mem hlj)
        have hst := ansE_take n AT es j hlj
        generalize es[j] = e at *
        obtain ⟨ea, et⟩ := e
        dsimp only at hel hst
        simp only [entA] at ge
        simp [hlj, ge]
        intro p14 f14
        generalize hU : T.upd p14 _ = U
        have subU : Store.sub T U := by rw [← hU]; exact Store.sub_upd f14 (Store.sub_refl _)
        have u14 : U p14 = some [.lit (.int .i64 ea), .list false 1 (bytesA et)] := by rw [← hU]; simp
        clear hU
        by_cases hea : ea = AT
        · rw [if_pos hea] at hst
          subst hea
          have hset0 := setI_opt (l := ansP f i) (s := (i : Int)) (ansE n ea (es.take j) none) ⟨#[]⟩ (ansP_ne f i)
          simp [u14, hset0, put_same]
          refine codeK.loop follows (st := st14) (plans := pl14) (X := Nat) (fun y => y ≤ et.length)
            (fun y => [(3, .lit (.int .i64 n)), (5, ptrA p5), (6, ptrA p6), (9, .lit (.map (some g))), (10, .lit (.int .i64 i)), (12, .lit (.int .i64 ea)), (28, .list false 9 (itsA items)), (29, .lit (.int .i64 items.length)), (30, .lit (.int .i64 i)), (46, .list false 2 (entsA es)), (47, .lit (.int .i64 es.length)), (48, .lit (.int .i64 j)), (59, .list false 1 (bytesA et)), (60, .lit (.int .i64 et.length)), (61, .lit (.int .i64 y))])
            (fun y => U.put g (mapA (mapI (ansP f i ++ [((i : Int), toB (txtB n (et.take y)))])))) (fun y => et.length - y) 0 (by kernel_rfl) (by simp) (by simp) (Store.sub_refl _) fun m hm => ?_
          by_cases hlm : m < et.length
          · have hwm : IntKind.i64.wrap ((m : Int) + 1) = ((m + 1 : Nat) : Int) := wrap_i64 (by omega) (by omega)
            have gb := bytesA_at et m hlm
            have hsn := txtB_snoc n et m hlm
            have hsg := sgF_lt hn et[m].toNat
            have hs := fun τ => rsign_calls n hn et[m] τ
            have hl1 := txtB_len n (et.take m)
            rw [List.length_take] at hl1
            generalize et[m] = c at *
            generalize sgF n c.toNat = r at *
            have hen := encode_sg r hsg
            have hl2 := sgBytes_len r
            have hget := getI_at (P := Tryd.prog) (et := 9) (l := ansP f i) (m := []) (s := (i : Int)) (toB (txtB n (et.take m))) (ansP_ne f i)
            have hset := setI_old (l := ansP f i) (s := (i : Int)) (toB (txtB n (et.take m))) (toB (txtB n (et.take m) ++ sgBytes r)) (ansP_ne f i)
            have hz1 := toB_size (txtB n (et.take m))
            have hz2 := toB_size (sgBytes r)
            have hfit : ¬ (9223372036854775807 : Int) < ((txtB n (et.take m)).length : Int) + ((sgBytes r).length : Int) := by omega
            simp only [byteA] at gb hs
            simp [hlm, gb, hget]
            repeat' first
              | with_reducible apply And.intro
              | (refine callK.eq (hs _) ?_; simp [hen, hget, toB_app, hz1, hz2, toB_size, hset, put_same, hfit])
            all_goals exact ⟨m + 1, by omega, by omega, by rw [hwm]; exact AV.le_refl _, by rw [hsn]; exact Store.sub_refl _⟩
          · obtain rfl : m = et.length := by omega
            simp
            exact ⟨j + 1, by omega, by omega, by rw [hwj]; exact AV.le_refl _, by rw [hst]; exact put_mono subU⟩
        · rw [if_neg hea] at hst
          simp [u14, hea]
          exact ⟨j + 1, by omega, by omega, by rw [hwj]; exact AV.le_refl _, by rw [hst]; exact put_mono subU⟩
      · obtain rfl : j = es.length := by omega
        simp
        refine ⟨i + 1, by omega, by omega, by rw [hw]; exact AV.le_refl _, ?_⟩
        rw [ansP_succ, hfi]
        exact put_mono subT
  · obtain rfl : i = items.length := by omega
    simp
    exact ⟨_, AV.le_refl _, _, put_mono sub0, g, rfl, sg, by rw [hA]⟩
end Go.Proofs.YtbeohjinefaaoaaDoor
/-
  Answers that there are none of; a text's first bytes.
-/
namespace Go.Proofs.YtbeohjinefaaoaaDoor
open Go Go.AL Go.Sp

set_option maxRecDepth 8000 in
theorem pans_nil (F : Fm) (R : Rpt) (r c : Int) (σ : Store) :
    ACalls Tryd.prog 13 [.agg (formC F), .agg (repC R), .agg [.lit (.int .i64 r), .lit (.int .i64 c)], .lit (.pointer none)] σ fun v σ' => ∃ (g : Nat), v = .lit (.map (some g)) ∧ σ (mkey g) = none ∧ σ' = σ.put g (mapA (mapI [])) := by
  unfold formC repC byteA
  refine ACalls.of_awp follows (st := st13) (plans := pl13) (n := 61) Tryd.func13 rfl (by kernel_rfl) (by kernel_rfl) (by kernel_rfl) ?_
  simp +contextual [ite_free]
  intro p4 hp4 p5 a1 a2 hp5 p6 b1 b2 b3 b4 hp6 g hg
  exact ⟨_, AV.le_refl _, _, put_mono (Store.sub_upd hp6 (Store.sub_upd hp5 (Store.sub_upd hp4 (Store.sub_refl _)))), g, rfl, hg, rfl⟩
set_option maxRecDepth 8000 in
theorem pans_bad (b : Nat) (F : Fm) (R : Rpt) (r c : Int) (hb : okSz r c = false) (σ : Store) :
    ACalls Tryd.prog 13 [.agg (formC F), .agg (repC R), .agg [.lit (.int .i64 r), .lit (.int .i64 c)], pgP b] σ fun v σ' => ∃ (g : Nat), v = .lit (.map (some g)) ∧ σ (mkey g) = none ∧ σ' = σ.put g (mapA (mapI [])) := by
  have hval := fun τ => validZ_calls r c τ
  rw [hb] at hval
  unfold formC repC byteA
  refine ACalls.of_awp follows (st := st13) (plans := pl13) (n := 61) Tryd.func13 rfl (by kernel_rfl) (by kernel_rfl) (by kernel_rfl) ?_
  simp +contextual [ite_free]
  intro p4 hp4 p5 a1 a2 hp5 p6 b1 b2 b3 b4 hp6 g hg
  refine callK.eq (hval _) ?_
  simp
  exact ⟨_, AV.le_refl _, _, put_mono (Store.sub_upd hp6 (Store.sub_upd hp5 (Store.sub_upd hp4 (Store.sub_refl _)))), g, rfl, hg, rfl⟩
set_option maxRecDepth 8000 in
theorem rans_none (n : Int) (hn : ¬ isPage n) (F : Fm) (R : Rpt) (r c : Int) (σ : Store) :
    ACalls Tryd.prog 14 [.agg (formC F), .agg (repC R), .agg [.lit (.int .i64 r), .lit (.int .i64 c)], .lit (.int .i64 n)] σ fun v σ' => ∃ (g : Nat), v = .lit (.map (some g)) ∧ σ (mkey g) = none ∧ σ' = σ.put g (mapA (mapI [])) := by
  have his := fun τ => ris_none n hn τ
  unfold formC repC byteA
  refine ACalls.of_awp follows (st := st14) (plans := pl14) (n := 77) Tryd.func14 rfl (by kernel_rfl) (by kernel_rfl) (by kernel_rfl) ?_
  simp +contextual [ite_free]
  intro p4 hp4 p5 a1 a2 hp5 p6 b1 b2 b3 b4 hp6 g hg
  refine callK.eq (his _) ?_
  simp
  exact ⟨_, AV.le_refl _, _, put_mono (Store.sub_upd hp6 (Store.sub_upd hp5 (Store.sub_upd hp4 (Store.sub_refl _)))), g, rfl, hg, rfl⟩
set_option maxRecDepth 8000 in
theorem rans_bad (n : Int) (hn : isPage n) (F : Fm) (R : Rpt) (r c : Int) (hb : okSz r c = false) (σ : Store) :
    ACalls Tryd.prog 14 [.agg (formC F), .agg (repC R), .agg [.lit (.int .i64 r), .lit (.int .i64 c)], .lit (.int .i64 n)] σ fun v σ' => ∃ (g : Nat), v = .lit (.map (some g)) ∧ σ (mkey g) = none ∧ σ' = σ.put g (mapA (mapI [])) := by
  have his := fun τ => ris_calls n hn τ
  have hval := fun τ => rvalidZ_calls r c τ
  rw [hb] at hval
  unfold formC repC byteA
  refine ACalls.of_awp follows (st := st14) (plans := pl14) (n := 77) Tryd.func14 rfl (by kernel_rfl) (by kernel_rfl) (by kernel_rfl) ?_
  simp +contextual [ite_free]
  intro p4 hp4 p5 a1 a2 hp5 p6 b1 b2 b3 b4 hp6 g hg
  refine callK.eq (his _) ?_
  simp
  refine callK.eq (hval _) ?_
  simp
  exact ⟨_, AV.le_refl _, _, put_mono (Store.sub_upd hp6 (Store.sub_upd hp5 (Store.sub_upd hp4 (Store.sub_refl _)))), g, rfl, hg, rfl⟩
set_option maxRecDepth 8000 in
theorem rcopy_calls (o : Bool) (l : List UInt8) (hl : l.length ≤ 140737488355328) (σ : Store) : ACalls Tryd.prog 24 [.list o 1 (bytesA l)] σ fun v σ' => v = .list true 1 (bytesA l) ∧ σ' = σ := by
  refine ACalls.of_awp follows (st := st24) (plans := pl24) (n := 6) Tryd.func24 rfl (by kernel_rfl) (by kernel_rfl) (by kernel_rfl) ?_
  simp
  omega
set_option maxRecDepth 8000 in
theorem rcut_calls (l : List UInt8) (hl : l.length ≤ 9223372036854775807) (σ : Store) : ACalls Tryd.prog 12 [.list false 1 (bytesA l), .lit (.int .i64 30)] σ fun v σ' => v = .list true 1 (bytesA (l.take 30)) ∧ σ' = σ := by
  have hcp := fun (m : List UInt8) h τ => rcopy_calls false m h τ
  refine ACalls.of_awp follows (st := st12) (plans := pl12) (n := 14) Tryd.func12 rfl (by kernel_rfl) (by kernel_rfl) (by kernel_rfl) ?_
  by_cases h : 30 < l.length
  · have h' : (30 : Int) < l.length := by omega
    have h2 : 30 ≤ l.length := by omega
    have ht : (bytesA l).take 30 = bytesA (l.take 30) := by simp [bytesA, List.map_take]
    simp [h, h', h2, ht]
    refine callK.eq (hcp (l.take 30) (by rw [List.length_take]; omega) _) ?_
    simp
  · have h' : ¬ (30 : Int) < l.length := by omega
    have ht : l.take 30 = l := List.take_of_length_le (by omega)
    rw [ht]
    simp [h, h']
    refine callK.eq (hcp l (by omega) _) ?_
    simp
end Go.Proofs.YtbeohjinefaaoaaDoor
/-
  HostForms.
-/
namespace Go.Proofs.YtbeohjinefaaoaaDoor
open Go Go.AL Go.Sp

theorem pgS_sub {b : Nat} {n : Int} {x : Option Nat} {σ : Store} (hb : σ b = none) (hx : NxP σ none x) : Store.sub σ (pgS b n x σ) := by
  rcases hx with rfl | ⟨g, rfl, hg⟩
  · exact Store.sub_upd hb (Store.sub_refl _)
  · exact Store.sub_trans (Store.sub_upd hb (Store.sub_refl _)) (sub_put (by simpa using hg) _)
def awF : Fm := { items := [{ row := 0, col := 0, f := { prot := false, num := false, disp := 0, mod := false }, ext := [], text := ⟨#[65]⟩, cur := false }], er := true, al := false, re := true, am := false, un := false }
theorem aw_rec : recR 37 24 80 awF = ([245, 66, 17, 64, 64, 29, 64, 193], 0) := by decide +kernel
theorem dim24 : Dim 24 80 := ⟨by omega, by omega, by omega, by omega, by omega, by omega⟩
theorem aw_ok : FOk awF := ⟨by decide, by intro i hi; simp [awF] at hi; subst hi; exact ⟨by simp, by decide⟩⟩
set_option maxHeartbeats 1000000 in
set_option maxRecDepth 8000 in
theorem awake_calls (σ : Store) : ACalls Tryd.prog 5 [] σ fun v σ' => v = .lit (.bool true) ∧ σ' = σ := by
  have hpn := fun τ => page_new 37 (.inl rfl) τ
  have hrec := fun b x τ => prec_calls dim24 b 37 (.inl rfl) x awF aw_ok τ
  rw [aw_rec] at hrec
  have hf : formC awF = [.list false 9 [.agg [.lit (.int .i64 0), .lit (.int .i64 0), .lit (.bool false), .lit (.bool false), .lit (.int .i64 0), .lit (.bool false), .list false 2 [], .lit (.string ⟨#[65]⟩), .lit (.bool false)]], .lit (.bool true), .lit (.bool false), .lit (.bool true), .lit (.bool false), .lit (.bool false)] := rfl
  rw [hf] at hrec
  unfold dimA at hrec
  have hsm := fun τ => same11_calls [245, 66, 17, 64, 64, 29, 64, 193] false true (by simp) τ
  have hl8 : bytesA [245, 66, 17, 64, 64, 29, 64, 193] = [.lit (.int .u8 245), .lit (.int .u8 66), .lit (.int .u8 17), .lit (.int .u8 64), .lit (.int .u8 64), .lit (.int .u8 29), .lit (.int .u8 64), .lit (.int .u8 193)] := rfl
  rw [hl8] at hsm hrec
  clear hl8 hf
  refine ACalls.of_awp follows (st := st5) (plans := pl5) (n := 25) Tryd.func5 rfl (by kernel_rfl) (by kernel_rfl) (by kernel_rfl) ?_
  simp
  refine callK.of (hpn _) ?_
  rintro v τ ⟨b, hb, rfl, rfl⟩
  simp
  refine callK.of (hrec b none σ) ?_
  rintro v τ ⟨rfl, x', hx', rfl⟩
  simp
  refine callK.eq (hsm _) ?_
  simp
  exact pgS_sub hb hx'
end Go.Proofs.YtbeohjinefaaoaaDoor
/-
  HostAnswers.
-/
namespace Go.Proofs.YtbeohjinefaaoaaDoor
open Go Go.AL Go.Sp

@[simp] def st4x : List Nat := [47, 52, 5000006, 4000063, 4000068, 1000072, 1000074]
@[simp] def pl4x : List (Nat × Plan) := [(16, Plan.seq [0, 3, 4, 8, 9] (.alt (.alt (.alt (Plan.seq [1, 2] (.alt (.alt (Plan.seq [5, 6, 7, 10, 11, 12] (.done)) (Plan.seq [6] (.alt (Plan.seq [5, 7, 10, 11, 12] (.done)) (Plan.seq [7, 5, 10, 11, 12] (.done))))) (Plan.seq [7] (.alt (Plan.seq [5, 6, 10, 11, 12] (.done)) (Plan.seq [6, 5, 10, 11, 12] (.done)))))) (Plan.seq [2] (.alt (.alt (Plan.seq [1] (.alt (.alt (Plan.seq [5, 6, 7, 10, 11, 12] (.done)) (Plan.seq [6] (.alt (Plan.seq [5, 7, 10, 11, 12] (.done)) (Plan.seq [7, 5, 10, 11, 12] (.done))))) (Plan.seq [7] (.alt (Plan.seq [5, 6, 10, 11, 12] (.done)) (Plan.seq [6, 5, 10, 11, 12] (.done)))))) (Plan.seq [6] (.alt (Plan.seq [1] (.alt (Plan.seq [5, 7, 10, 11, 12] (.done)) (Plan.seq [7, 5, 10, 11, 12] (.done)))) (Plan.seq [7, 1, 5, 10, 11, 12] (.done))))) (Plan.seq [7] (.alt (Plan.seq [1] (.alt (Plan.seq [5, 6, 10, 11, 12] (.done)) (Plan.seq [6, 5, 10, 11, 12] (.done)))) (Plan.seq [6, 1, 5, 10, 11, 12] (.done))))))) (Plan.seq [6] (.alt (.alt (Plan.seq [1, 2] (.alt (Plan.seq [5, 7, 10, 11, 12] (.done)) (Plan.seq [7, 5, 10, 11, 12] (.done)))) (Plan.seq [2] (.alt (Plan.seq [1] (.alt (Plan.seq [5, 7, 10, 11, 12] (.done)) (Plan.seq [7, 5, 10, 11, 12] (.done)))) (Plan.seq [7, 1, 5, 10, 11, 12] (.done))))) (Plan.seq [7] (.alt (Plan.seq [1, 2, 5, 10, 11, 12] (.done)) (Plan.seq [2, 1, 5, 10, 11, 12] (.done))))))) (Plan.seq [7] (.alt (.alt (Plan.seq [1, 2] (.alt (Plan.seq [5, 6, 10, 11, 12] (.done)) (Plan.seq [6, 5, 10, 11, 12] (.done)))) (Plan.seq [2] (.alt (Plan.seq [1] (.alt (Plan.seq [5, 6, 10, 11, 12] (.done)) (Plan.seq [6, 5, 10, 11, 12] (.done)))) (Plan.seq [6, 1, 5, 10, 11, 12] (.done))))) (Plan.seq [6] (.alt (Plan.seq [1, 2, 5, 10, 11, 12] (.done)) (Plan.seq [2, 1, 5, 10, 11, 12] (.done))))))))]

/-- How many were not met. -/
def leftN (n : Nat) (seen : List Nat) : Nat := ((List.range n).filter fun i => decide (i ∉ seen)).length
theorem filter_le {α : Type} {p q : α → Bool} (h : ∀ x, q x = true → p x = true) : ∀ m : List α, (m.filter q).length ≤ (m.filter p).length
  | [] => Nat.le_refl _
  | y :: m => by
    have ih := filter_le h m
    cases hy : q y
    · cases hp : p y
      · rw [List.filter_cons_of_neg (by rw [hy]; simp), List.filter_cons_of_neg (by rw [hp]; simp)]; exact ih
      · rw [List.filter_cons_of_neg (by rw [hy]; simp), List.filter_cons_of_pos hp, List.length_cons]; omega
    · rw [List.filter_cons_of_pos hy, List.filter_cons_of_pos (h y hy), List.length_cons, List.length_cons]; omega
theorem filter_less {α : Type} {p q : α → Bool} (h : ∀ x, q x = true → p x = true) {a : α} : ∀ {l : List α}, a ∈ l → p a = true → q a = false → (l.filter q).length < (l.filter p).length
  | x :: l, hm, hp, hq => by
    rcases List.mem_cons.1 hm with rfl | hm
    · rw [List.filter_cons_of_neg (by rw [hq]; simp), List.filter_cons_of_pos hp, List.length_cons]
      have := filter_le h l
      omega
    · have ih := filter_less h hm hp hq
      cases hy : q x
      · cases hpx : p x
        · rw [List.filter_cons_of_neg (by rw [hy]; simp), List.filter_cons_of_neg (by rw [hpx]; simp)]; exact ih
        · rw [List.filter_cons_of_neg (by rw [hy]; simp), List.filter_cons_of_pos hpx, List.length_cons]; omega
      · rw [List.filter_cons_of_pos hy, List.filter_cons_of_pos (h x hy), List.length_cons, List.length_cons]; omega
theorem leftN_less {n i : Nat} {seen : List Nat} (hi : i < n) (hs : i ∉ seen) : leftN n (seen ++ [i]) < leftN n seen := by
  unfold leftN
  refine filter_less (a := i) (fun x hx => ?_) (by simpa using hi) (by simpa using hs) (by simp)
  simp only [decide_eq_true_eq, List.mem_append, not_or] at hx ⊢
  exact hx.1
def cutE (e : Int × List UInt8) : Int × List UInt8 := (e.1, e.2.take 30)
def fewE (es : List (Int × List UInt8)) : List (Int × List UInt8) := (es.take 6).map cutE
theorem fewE_ok (es : List (Int × List UInt8)) : (fewE es).length ≤ 6 ∧ ∀ e ∈ fewE es, e.2.length ≤ 30 := by
  refine ⟨by simp [fewE]; omega, fun e he => ?_⟩
  obtain ⟨x, _, rfl⟩ := List.mem_map.1 he
  simp [cutE]; omega
def fewT (es : List (Int × List UInt8)) (i : Nat) : List (Int × List UInt8) := ((es.take 6).take i).map cutE
theorem fewT_succ (es : List (Int × List UInt8)) (i : Nat) (h : i < es.length) : entsA (fewT es (i + 1)) = if i < 6 then entsA (fewT es i) ++ [entA (cutE es[i])] else entsA (fewT es i) := by
  unfold fewT
  split
  · rename_i h6
    have hlt : i < (es.take 6).length := by rw [List.length_take]; omega
    rw [List.take_succ_eq_append_getElem hlt, List.map_append, entsA, List.map_append, List.getElem_take]
    rfl
  · rw [List.take_take, List.take_take, Nat.min_eq_right (by omega), Nat.min_eq_right (by omega)]
theorem fewT_len (es : List (Int × List UInt8)) (i : Nat) : (fewT es i).length ≤ 6 := by simp [fewT]; omega
theorem fewT_all (es : List (Int × List UInt8)) : fewT es es.length = fewE es := by
  unfold fewT fewE
  rw [List.take_take]
  by_cases h : es.length ≤ 6
  · rw [Nat.min_eq_left h, List.take_length, List.take_of_length_le h]
  · rw [Nat.min_eq_right (by omega)]
/-- A page or none, and what is answered by it. -/
structure Wrp (n r c : Int) (G : Fm) (aid : UInt8) (short : Bool) (cur : Int) (es : List (Int × List UInt8)) (a : Option Addr) (wr : Store → Store) (bad : Nat → Prop) (A : List (Int × ByteArray)) : Prop where
  rd : ∀ S (o : Nat), ¬ bad o → wr S o = S o
  up : ∀ S (o : Nat) Y, ¬ bad o → (wr S).upd o Y = wr (S.upd o Y)
  fr : ∀ S (o : Nat), wr S o = none → ¬ bad o ∧ S o = none
  mono : ∀ S T, Store.sub S T → Store.sub (wr S) (wr T)
  ap : A.Pairwise fun p q => p.1 ≠ q.1
  h13 : ∀ S, ACalls Tryd.prog 13 [.agg (formC G), .agg (repC ⟨aid, false, cur, es⟩), .agg [.lit (.int .i64 r), .lit (.int .i64 c)], .lit (.pointer a)] (wr S) fun v σ' => ∃ g, v = .lit (.map (some g)) ∧ σ' (mkey g) = some (mapA (mapI A)) ∧ ∀ (o : Nat), ¬ bad o → σ' o = S o
  h14 : ∀ τ, ACalls Tryd.prog 14 [.agg (formC G), .agg (repC ⟨aid, short, cur, es⟩), .agg [.lit (.int .i64 r), .lit (.int .i64 c)], .lit (.int .i64 n)] τ fun v σ' => ∃ g, v = .lit (.map (some g)) ∧ τ (mkey g) = none ∧ σ' = τ.put g (mapA (mapI A))
theorem page_gen (n r c : Int) (G : Fm) (hG : FOk G) (aid : UInt8) (short : Bool) (cur : Int) (es : List (Int × List UInt8)) (hes : es.length ≤ 6 ∧ ∀ e ∈ es, e.2.length ≤ 30) (τ : Store) :
    ACalls Tryd.prog 7 [.lit (.int .i64 n)] τ fun v σ' => ∃ a e wr bad A, v = .tuple [.lit (.pointer a), .lit (.int .i64 e)] ∧ σ' = wr τ ∧ (∀ o : Nat, bad o → τ o = none) ∧ Wrp n r c G aid short cur es a wr bad A := by
  by_cases hn : isPage n
  · refine (page_new n hn τ).mono ?_
    rintro v σ' ⟨b, hb, rfl, rfl⟩
    have base : ∀ A, (A.Pairwise fun p q : Int × ByteArray => p.1 ≠ q.1) → (∀ S, ACalls Tryd.prog 13 [.agg (formC G), .agg (repC ⟨aid, false, cur, es⟩), .agg [.lit (.int .i64 r), .lit (.int .i64 c)], pgP b] (pgS b n none S) fun v σ' => ∃ g, v = .lit (.map (some g)) ∧ σ' (mkey g) = some (mapA (mapI A)) ∧ ∀ (o : Nat), ¬ o = b → σ' o = S o) →
        (∀ τ, ACalls Tryd.prog 14 [.agg (formC G), .agg (repC ⟨aid, short, cur, es⟩), .agg [.lit (.int .i64 r), .lit (.int .i64 c)], .lit (.int .i64 n)] τ fun v σ' => ∃ g, v = .lit (.map (some g)) ∧ τ (mkey g) = none ∧ σ' = τ.put g (mapA (mapI A))) →
        ∃ a e wr bad A, AV.tuple [pgP b, .lit (.int .i64 0)] = .tuple [.lit (.pointer a), .lit (.int .i64 e)] ∧ pgS b n none τ = wr τ ∧ (∀ o : Nat, bad o → τ o = none) ∧ Wrp n r c G aid short cur es a wr bad A :=
      fun A hA q1 q2 => ⟨_, _, pgS b n none, fun o => o = b, A, rfl, rfl, fun o e => by subst e; exact hb, ⟨fun S o h => pgS_other h n none S, fun S o Y h => pgS_upd h n none S Y, fun S o h => pgS_fresh h, fun S T h => pgS_mono h, hA, q1, q2⟩⟩
    cases hz : okSz r c
    · refine base [] (by simp) (fun S => (pans_bad b G _ r c hz _).mono ?_) (fun τ => rans_bad n hn G _ r c hz τ)
      rintro v σ' ⟨g, rfl, hg, rfl⟩
      exact ⟨g, rfl, by simp, fun o ho => by rw [put_nat]; exact pgS_other ho n none S⟩
    · obtain ⟨hD, hR, hC⟩ := okSz_dim hz
      have h13 := fun S => pans_calls hD b n hn none G hG ⟨aid, false, cur, es⟩ hes S (fun g e => by cases e)
      have h14 := fun τ => rans_calls hD n hn G hG ⟨aid, short, cur, es⟩ hes τ
      unfold dimA at h13 h14
      rw [← hR, ← hC] at h13 h14
      have hsame : ansA n r.toNat c.toNat G ⟨aid, false, cur, es⟩ = ansA n r.toNat c.toNat G ⟨aid, short, cur, es⟩ := rfl
      rw [hsame] at h13
      refine base (ansA n r.toNat c.toNat G ⟨aid, short, cur, es⟩) (ansP_apart _ _) (fun S => (h13 S).mono ?_) (fun τ => h14 τ)
      rintro v σ' ⟨g, x', rfl, hg, hx, hne, rfl⟩
      exact ⟨g, rfl, by rw [pgS_mkey hne]; simp, fun o ho => by rw [pgS_other ho]; simp⟩
  · refine (page_none n hn τ).mono ?_
    rintro v σ' ⟨rfl, rfl⟩
    refine ⟨none, 5, id, fun _ => False, [], rfl, rfl, fun o e => e.elim, ⟨fun S o _ => rfl, fun S o Y _ => rfl, fun S o h => ⟨fun e => e, h⟩, fun S T h => h, by simp, fun S => (pans_nil G _ r c S).mono ?_, fun τ => rans_none n hn G _ r c τ⟩⟩
    rintro v σ' ⟨g, rfl, hg, rfl⟩
    exact ⟨g, rfl, by simp, fun o _ => by simp⟩
set_option maxHeartbeats 4000000 in
set_option maxRecDepth 8000 in
theorem hostAnswers_law (F : Fm) (R : Rpt) (r c n : Int) (hl : F.items.length ≤ 9223372036854775807) (hx : ∀ i ∈ F.items, i.ext.length ≤ 9223372036854775807) (hes : R.es.length ≤ 9223372036854775807) (hel : ∀ e ∈ R.es, e.2.length ≤ 9223372036854775807) (σ : Store) :
    ACalls Tryd.prog 4 [.agg (formC F), .agg (repC R), .agg [.lit (.int .i64 r), .lit (.int .i64 c)], .lit (.int .i64 n)] σ fun v _ => v = .lit (.bool true) := by
  have haw := fun τ => awake_calls τ
  have hfew := fun τ => few_calls F hl hx τ
  have hFO := few_ok F
  have hown := fun τ => own_calls (fewF F) hFO.1 (fun i hi => (hFO.2 i hi).1) τ
  generalize fewF F = G at *
  obtain ⟨aid, short, cur, es⟩ := R
  dsimp only at hes hel
  unfold formC at hfew hown ⊢
  unfold repC byteA
  refine ACalls.of_awp follows (st := st4x) (plans := pl4x) (n := 88) Tryd.func4 rfl (by kernel_rfl) (by kernel_rfl) (by kernel_rfl) ?_
  simp +contextual [ite_free]
  intro p4 hp4 p5 a1 a2 hp5
  refine callK.eq (haw _) ?_
  simp [a1, a2]
  refine callK.eq (hfew _) ?_
  simp [a1, a2]
  generalize hY : ((σ.upd p4 _).upd p5 _).upd p4 _ = Y
  have y4 : Y p4 = some (formC G) := by rw [← hY]; simp [formC]
  have y5 : Y p5 = some [.lit (.int .u8 (aid.toNat : Int)), .lit (.bool short), .lit (.int .i64 cur), .list false 2 (entsA es)] := by rw [← hY]; simp [a1, a2]
  clear hY
  unfold formC at y4
  refine callK.of (page_gen n r c G hFO aid short cur (fewE es) (fewE_ok es) Y) ?_
  rintro v τ ⟨a, e, wr, bad, A, rfl, rfl, hbad, hW⟩
  have nb4 : ¬ bad p4 := fun h => by have := hbad _ h; rw [y4] at this; cases this
  have nb5 : ¬ bad p5 := fun h => by have := hbad _ h; rw [y5] at this; cases this
  simp [hW.rd _ _ nb5, y5]
  intro p11 hp11
  obtain ⟨nb11, f11⟩ := hW.fr _ _ hp11
  have n5 : ¬ p5 = p11 := fun e => by subst e; rw [y5] at f11; cases f11
  have n4 : ¬ p4 = p11 := fun e => by subst e; rw [y4] at f11; cases f11
  have r4 : ∀ S, (wr S) (p4 : Int) = S p4 := fun S => hW.rd S _ nb4
  have r5 : ∀ S, (wr S) (p5 : Int) = S p5 := fun S => hW.rd S _ nb5
  have r11 : ∀ S, (wr S) (p11 : Int) = S p11 := fun S => hW.rd S _ nb11
  have u5 : ∀ S Z, (wr S).upd p5 Z = wr (S.upd p5 Z) := fun S Z => hW.up S _ Z nb5
  have u11 : ∀ S Z, (wr S).upd p11 Z = wr (S.upd p11 Z) := fun S Z => hW.up S _ Z nb11
  simp [n5, r5, y5, u11]
  refine codeK.loop follows (st := st4x) (plans := pl4x) (X := Nat) (fun i => i ≤ es.length)
    (fun i => [(3, .lit (.int .i64 n)), (4, ptrA p4), (5, ptrA p5), (6, .fptr [.lit (.int .i64 r), .lit (.int .i64 c)]), (9, .lit (.pointer a)), (11, ptrA p11), (12, .list true 2 (entsA (fewT es i))), (34, .list false 2 (entsA es)), (35, .lit (.int .i64 es.length)), (36, .lit (.int .i64 i))])
    (fun i => wr (Y.upd p11 [.lit (.int .u8 (aid.toNat : Int)), .lit (.bool false), .lit (.int .i64 cur), .list true 2 (entsA (fewT es i))])) (fun i => es.length - i) 0 (by kernel_rfl) (by simp) (by simp [fewT, entsA]) (by simp [fewT, entsA]) fun i hi => ?_
  by_cases hlt : i < es.length
  · have hw : IntKind.i64.wrap ((i : Int) + 1) = ((i + 1 : Nat) : Int) := wrap_i64 (by omega) (by omega)
    have ge := entsA_get es i hlt
    have hs := fewT_succ es i hlt
    have hfl := fewT_len es i
    have hel1 := hel _ (List.getElem_mem hlt)
    have hct := fun τ => rcut_calls es[i].2 hel1 τ
    generalize es[i] = e at *
    obtain ⟨ea, et⟩ := e
    simp only [entA, cutE] at ge hs hct
    generalize fewT es i = fw at *
    simp [hlt, ge]
    intro p14 hp14
    obtain ⟨nb14, f14⟩ := hW.fr _ _ hp14
    have u14 : ∀ S Z, (wr S).upd p14 Z = wr (S.upd p14 Z) := fun S Z => hW.up S _ Z nb14
    have r14 : ∀ S, (wr S) (p14 : Int) = S p14 := fun S => hW.rd S _ nb14
    have m1 : ¬ p11 = p14 := fun e => by subst e; simp at f14
    have m2 : ¬ p14 = p11 := fun e => m1 e.symm
    simp only [supd_apply, m2, if_false] at f14
    by_cases h6 : i < 6
    · have h6' : (i : Int) < 6 := by omega
      rw [if_pos h6] at hs
      simp [h6, h6']
      refine callK.eq (hct _) ?_
      simp [u14, u11, r14, r11, m1, m2]
      refine ⟨by omega, by omega, by omega, by omega, i + 1, by omega, by omega, ⟨by rw [hs]; exact AV.le_refl _, by rw [hw]; exact AV.le_refl _⟩, ?_⟩
      rw [hs]
      exact hW.mono _ _ (sub_box2 f14 m1)
    · have h6' : ¬ (i : Int) < 6 := by omega
      rw [if_neg h6] at hs
      simp [h6, h6']
      exact ⟨i + 1, by omega, by omega, ⟨by rw [hs]; exact AV.le_refl _, by rw [hw]; exact AV.le_refl _⟩, by rw [hs]; exact Store.sub_upd hp14 (Store.sub_refl _)⟩
  · obtain rfl : i = es.length := by omega
    rw [fewT_all]
    simp [r5, n5, y5, u5]
    generalize hS : (Y.upd p11 _).upd p5 _ = S
    have s4 : S p4 = some [.list false 9 (itsA G.items), .lit (.bool G.er), .lit (.bool G.al), .lit (.bool G.re), .lit (.bool G.am), .lit (.bool G.un)] := by rw [← hS]; simp [a1, a2, n4, y4]
    have s5 : S p5 = some [.lit (.int .u8 (aid.toNat : Int)), .lit (.bool short), .lit (.int .i64 cur), .list false 2 (entsA (fewE es))] := by rw [← hS]; simp
    have n5' : ¬ p11 = p5 := fun e => n5 e.symm
    have s11 : S p11 = some [.lit (.int .u8 (aid.toNat : Int)), .lit (.bool false), .lit (.int .i64 cur), .list true 2 (entsA (fewE es))] := by rw [← hS]; simp [n5']
    clear hS
    generalize hrest : Code.seq (Code.seq (Code.region 17 _ false) _) _ = rest
    have hcont : ∀ (A' : Slots) (Z : Store) (g1 g2 : Nat), A' 15 = .lit (.map (some g1)) → A' 16 = .lit (.map (some g2)) → Z (mkey g1) = some (mapA (mapI A)) → Z (mkey g2) = some (mapA (mapI A)) →
        awp Tryd.prog st4x pl4x 88 rest (aret Tryd.prog [ResultVar.tmp 8] fun v _ => v = .lit (.bool true)) A' Z := by
      intro A' Z g1 g2 e15 e16 z1 z2
      rw [← hrest]
      clear hrest
      have hap := hW.ap
      simp [e15, e16, z1, z2]
      intro q hq
      have q1 : ¬ g1 = q := fun e => by subst e; rw [z1] at hq; cases hq
      have q2 : ¬ g2 = q := fun e => by subst e; rw [z2] at hq; cases hq
      refine codeK.loop follows (st := st4x) (plans := pl4x) (X := List Nat) (fun seen => ∀ i ∈ seen, i < A.length)
        (fun _ => [(15, .lit (.map (some g1))), (77, ptrA q)]) (fun seen => Z.put q (miterA g2 A.length seen)) (fun seen => leftN A.length seen) [] (by kernel_rfl) (by simp) (by simp [e15]) (Store.sub_refl _) fun seen hseen => ?_
      simp [q1, q2, z1, z2]
      refine ⟨by simp, fun i kv hi hs => ?_, fun hall => ?_⟩
      · obtain ⟨x, hx, rfl⟩ : ∃ x, A[i]? = some x ∧ kv = (.int .i64 x.1, .lit (.string x.2)) := by
          simp only [mapI, List.getElem?_map, Option.map_eq_some_iff] at hi
          obtain ⟨x, h1, h2⟩ := hi
          exact ⟨x, h1, h2.symm⟩
        have hget := getI_mem (P := Tryd.prog) (et := 9) hap hx
        have hlt : i < A.length := (List.getElem?_eq_some_iff.1 hx).1
        rw [put_same]
        simp [q1, q2, z1, z2, hi, hget]
        refine ⟨seen ++ [i], fun j hj => ?_, leftN_less hlt hs, Store.sub_refl _⟩
        rcases List.mem_append.1 hj with hj | hj
        · exact hseen j hj
        · simp at hj; omega
      · simp
        exact ⟨_, Store.sub_refl _⟩
    have h13 := fun S => hW.h13 S
    have h14 := fun τ => hW.h14 τ
    unfold formC repC byteA at h13 h14
    have q4 : ∀ {τ : Store}, (∀ (o : Nat), ¬ bad o → τ o = S o) → τ p4 = some [.list false 9 (itsA G.items), .lit (.bool G.er), .lit (.bool G.al), .lit (.bool G.re), .lit (.bool G.am), .lit (.bool G.un)] := fun h => (h _ nb4).trans s4
    have q5 : ∀ {τ : Store}, (∀ (o : Nat), ¬ bad o → τ o = S o) → τ p5 = some [.lit (.int .u8 (aid.toNat : Int)), .lit (.bool short), .lit (.int .i64 cur), .list false 2 (entsA (fewE es))] := fun h => (h _ nb5).trans s5
    simp [r4, s4, r5, s5, r11, s11]
    repeat' first
      | with_reducible apply And.intro
      | (refine callK.eq (hown _) ?_; simp [r4, s4, r5, s5, r11, s11])
      | (refine callK.of (h13 _) ?_; rintro v τ ⟨g1, rfl, z1, hrd⟩; have w4 := q4 hrd; have w5 := q5 hrd; simp [w4, w5])
      | (refine callK.of (h14 _) ?_; rintro v τ' ⟨g2, rfl, hg2, rfl⟩; simp)
    all_goals exact hcont _ _ g1 g2 (by simp) (by simp) (by rw [put_mkey]; split <;> first | rfl | exact z1) (by simp)
end Go.Proofs.YtbeohjinefaaoaaDoor
