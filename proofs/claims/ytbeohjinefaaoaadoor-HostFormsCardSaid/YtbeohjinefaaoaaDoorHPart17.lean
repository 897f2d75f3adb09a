/-
  A form as the program has it.
-/
import Derived.Test.YtbeohjinefaaoaaDoorHPart16
import Derived.Test.YtbeohjinefaaoaaDoorRows
import Derived.Lay
import Derived.LaidMore
set_option linter.unusedSimpArgs false
set_option linter.unusedVariables false
namespace Go.Proofs.YtbeohjinefaaoaaDoor
open Go Go.AL Go.Sp

theorem itsA_snoc (l : List It) (i : Nat) (h : i < l.length) : itsA (l.take (i + 1)) = itsA (l.take i) ++ [.agg (itC l[i])] := by
  rw [List.take_succ_eq_append_getElem h, itsA, itsA, List.map_append]; rfl
theorem pairsA_snoc (l : List (UInt8 × UInt8)) (i : Nat) (h : i < l.length) : pairsA (l.take (i + 1)) = pairsA (l.take i) ++ [.agg [byteA l[i].1, byteA l[i].2]] := by
  rw [List.take_succ_eq_append_getElem h, pairsA, pairsA, List.map_append]; rfl
theorem upd_mono {σ τ : Store} {p : Nat} {A : List AV} (h : Store.sub σ τ) : Store.sub (σ.upd p A) (τ.upd p A) := by
  refine Store.sub2 (fun o => ?_) (fun i => by simpa using h (mkey i))
  by_cases e : o = p
  · subst e; right; simp
  · have := h (o : Int)
    simpa [e] using this
set_option maxHeartbeats 2000000 in
set_option maxRecDepth 8000 in
theorem own_calls (F : Fm) (hl : F.items.length ≤ 8) (hx : ∀ i ∈ F.items, i.ext.length ≤ 1000) (σ : Store) : ACalls Tryd.prog 8 [.agg (formC F)] σ fun v σ' => v = .agg (formC F) ∧ σ' = σ := by
  obtain ⟨items, er, al, re, am, un⟩ := F
  dsimp only at *
  unfold formC
  dsimp only
  refine ACalls.of_awp follows (st := st8) (plans := pl8) (n := 60) Tryd.func8 rfl (by kernel_rfl) (by kernel_rfl) (by kernel_rfl) ?_
  simp +contextual [ite_free]
  intro p1 hp1 p2 e1 e2 hp2 p3 e3 e4 e5 e6 hp3
  generalize hY : (σ.upd p1 _).upd p2 _ = Y
  have hsub : Store.sub σ Y := by rw [← hY]; exact Store.sub_upd (by simp [e1, e2, hp2]) (Store.sub_upd hp1 (Store.sub_refl _))
  have y2 : Y p2 = some [.list true 9 [], .lit (.bool false), .lit (.bool false), .lit (.bool false), .lit (.bool false), .lit (.bool false)] := by rw [← hY]; simp
  have y3 : Y p3 = none := by rw [← hY]; simp [e3, e5, hp3]
  have s2 : σ p2 = none := hp2
  have s3 : σ p3 = none := hp3
  clear hY hp1 hp2 hp3 e1 e2 e5 e6
  refine codeK.loop follows (st := st8) (plans := pl8) (X := Nat) (fun i => i ≤ items.length)
    (fun i => [(2, .lit (.pointer (some ⟨p2, 0, none⟩))), (3, .lit (.pointer (some ⟨p3, 0, none⟩))), (21, .list false 9 (itsA items)), (22, .lit (.int .i64 items.length)), (23, .lit (.int .i64 i))]) (fun i => Y.upd p3 [.list true 9 (itsA (items.take i)), .lit (.bool er), .lit (.bool al), .lit (.bool re), .lit (.bool am), .lit (.bool un)]) (fun i => items.length - i) 0 (by kernel_rfl) (by simp) (by simp) (by simp [itsA]) fun i hi => ?_
  by_cases hlt : i < items.length
  · have hw : IntKind.i64.wrap ((i : Int) + 1) = ((i + 1 : Nat) : Int) := wrap_i64 (by omega) (by omega)
    have ha := itsA_get items i hlt
    have hsn := itsA_snoc items i hlt
    have hxl := hx _ (List.getElem_mem hlt)
    generalize items[i] = z at *
    obtain ⟨zr, zc, zf, ze, zt, zu⟩ := z
    dsimp only at hxl
    unfold itC at ha hsn
    simp +contextual [hlt, ha, ite_free]
    intro p5 a1 a2 hp5 p6 b1 b2 b3 b4 hp6
    generalize hZ : (Y.upd p3 _).upd p5 _ = Z
    have z3 : Z p3 = some [.list true 9 (itsA (items.take i)), .lit (.bool er), .lit (.bool al), .lit (.bool re), .lit (.bool am), .lit (.bool un)] := by rw [← hZ]; simp [a1, a2]
    have z5 : Z p5 = some (itC ⟨zr, zc, zf, ze, zt, zu⟩) := by rw [← hZ]; simp [itC]
    have z6 : Z p6 = none := by rw [← hZ]; simp [b1, b3, hp6]
    have zsub : Store.sub Y Z := by rw [← hZ]; exact Store.sub_upd hp5 (Store.sub_upd y3 (Store.sub_refl _))
    refine codeK.loop follows (st := st8) (plans := pl8) (X := Nat) (fun j => j ≤ ze.length)
      (fun j => [(2, .lit (.pointer (some ⟨p2, 0, none⟩))), (3, .lit (.pointer (some ⟨p3, 0, none⟩))), (6, .lit (.pointer (some ⟨p6, 0, none⟩))), (21, .list false 9 (itsA items)), (22, .lit (.int .i64 items.length)), (23, .lit (.int .i64 i)), (39, .list false 2 (pairsA ze)), (40, .lit (.int .i64 ze.length)), (41, .lit (.int .i64 j))])
      (fun j => Z.upd p6 [.lit (.int .i64 zr), .lit (.int .i64 zc), .lit (.bool zf.prot), .lit (.bool zf.num), .lit (.int .i64 zf.disp), .lit (.bool zf.mod), .list true 2 (pairsA (ze.take j)), .lit (.string zt), .lit (.bool zu)]) (fun j => ze.length - j) 0 (by kernel_rfl) (by simp) (by simp) (by simp [pairsA]) fun j hj => ?_
    by_cases hlj : j < ze.length
    · have hwj : IntKind.i64.wrap ((j : Int) + 1) = ((j + 1 : Nat) : Int) := wrap_i64 (by omega) (by omega)
      have ga := pairsA_get ze j hlj
      have gga : ∀ h : j < (pairsA ze).length, (pairsA ze)[j]'h = .agg [byteA ze[j].1, byteA ze[j].2] := fun h => by rw [List.getElem?_eq_getElem h] at ga; exact Option.some.inj ga
      have gsn := pairsA_snoc ze j hlj
      generalize ze[j] = y at *
      obtain ⟨y1, yy⟩ := y
      simp only [byteA] at ga gga gsn
      simp [hlj, ga, gga]
      intro p8 hp8
      simp only [ite_none] at hp8
      obtain ⟨d1, hp8⟩ := hp8
      have d2 : ¬ p6 = p8 := fun e => d1 e.symm
      simp [d1, d2]
      refine ⟨by omega, by omega, j + 1, by omega, by omega, by rw [hwj]; exact AV.le_refl _, ?_⟩
      rw [gsn]
      exact sub_box2 hp8 d2
    · obtain rfl : j = ze.length := by omega
      simp [z3, b1, b2, b3, b4]
      refine ⟨by omega, by omega, i + 1, by omega, by omega, by rw [hw]; exact AV.le_refl _, ?_⟩
      rw [hsn]
      exact upd_mono (Store.sub_upd hp6 zsub)
  · obtain rfl : i = items.length := by omega
    simp [y2, e3, e4]
    exact Store.sub_upd s2 (Store.sub_upd s3 hsub)
end Go.Proofs.YtbeohjinefaaoaaDoor
/-
  A form that is not too great.
-/
namespace Go.Proofs.YtbeohjinefaaoaaDoor
open Go Go.AL Go.Sp

theorem toB_extract (L : List UInt8) (i j : Nat) (h : i ≤ j) : (toB L).extract i j = toB ((L.drop i).take (j - i)) := by
  apply ByteArray.ext
  apply Array.ext'
  simp [toB, ByteArray.data_extract]
theorem aSlice_str0 {P : Program} {t : TypeId} (ht : tElem P t = none) (hs : tStr P t = true) (L : List UInt8) (b : Nat) (zb : Int) (hb : zb = b) (hbl : b ≤ L.length) :
    aSlice P t (.lit (.string (toB L))) none (some (.lit (.int .i64 zb))) none = some (.lit (.string (toB (L.take b)))) := by
  subst hb
  have hsz := toB_size L
  have h1 : (0 : Int) ≤ (b : Int) := by omega
  have h2 : b ≤ (toB L).size := by omega
  have := toB_extract L 0 b (by omega)
  simp at this
  simp [aSlice, ht, hs, bndA, h1, h2, this]
def cutT (t : ByteArray) : ByteArray := if 60 < t.size then toB (t.data.toList.take 60) else t
theorem cutT_size (t : ByteArray) : (cutT t).size ≤ 60 := by
  unfold cutT
  split
  · rw [toB_size]; simp; omega
  · omega
set_option maxRecDepth 8000 in
theorem cut_calls (t : ByteArray) (σ : Store) : ACalls Tryd.prog 15 [.lit (.string t), .lit (.int .i64 60)] σ fun v σ' => v = .lit (.string (cutT t)) ∧ σ' = σ := by
  have hsz : t.data.toList.length = t.size := Array.length_toList
  have ht : t = toB t.data.toList := by simp [toB]
  unfold cutT
  refine ACalls.of_awp follows (st := st15) (plans := pl15) (n := 13) Tryd.func15 rfl (by kernel_rfl) (by kernel_rfl) (by kernel_rfl) ?_
  by_cases h : 60 < t.size
  · have hsl := aSlice_str0 (P := Tryd.prog) (t := 9) (by simp) (by simp) t.data.toList 60 60 rfl (by omega)
    rw [← ht] at hsl
    have h' : (60 : Int) < (t.size : Int) := by omega
    simp [-e_aSlice_1, -e_aSlice_2, h, h', hsl]
  · have h' : ¬ (60 : Int) < (t.size : Int) := by omega
    simp [h, h']
def cutI (i : It) : It := { i with ext := i.ext.take 258, text := cutT i.text }
def fewF (F : Fm) : Fm := { F with items := (F.items.take 8).map cutI }
theorem few_ok (F : Fm) : FOk (fewF F) := by
  refine ⟨by simp [fewF]; omega, fun i hi => ?_⟩
  obtain ⟨j, _, rfl⟩ := List.mem_map.1 hi
  have := cutT_size j.text
  exact ⟨by simp [cutI]; omega, by show (cutT j.text).size ≤ 1000; omega⟩
set_option maxHeartbeats 2000000 in
set_option maxRecDepth 8000 in
theorem few_calls (F : Fm) (hl : F.items.length ≤ 9223372036854775807) (hx : ∀ i ∈ F.items, i.ext.length ≤ 9223372036854775807) (σ : Store) : ACalls Tryd.prog 6 [.agg (formC F)] σ fun v σ' => v = .agg (formC (fewF F)) ∧ σ' = σ := by
  obtain ⟨items, er, al, re, am, un⟩ := F
  unfold fewF
  dsimp only at *
  unfold formC
  dsimp only
  have hRes8 : ∀ i, i ≤ items.length → i = 8 ∨ i = items.length ∧ i ≤ 8 → itsA ((items.take i).map cutI) = itsA ((items.take 8).map cutI) := fun i hi h => by
    rcases h with rfl | ⟨rfl, h⟩
    · rfl
    · rw [List.take_length, List.take_of_length_le h]
  generalize itsA ((items.take 8).map cutI) = RES at *
  refine ACalls.of_awp follows (st := st6) (plans := pl6) (n := 38) Tryd.func6 rfl (by kernel_rfl) (by kernel_rfl) (by kernel_rfl) ?_
  simp +contextual [ite_free]
  intro p1 hp1 p2 e1 e2 hp2
  generalize hY : (σ.upd p1 _).upd p2 _ = Y
  have hsub : Store.sub σ Y := by rw [← hY]; exact Store.sub_upd (by simp [e1, e2, hp2]) (Store.sub_upd hp1 (Store.sub_refl _))
  have y1 : Y p1 = some [.list false 9 (itsA items), .lit (.bool er), .lit (.bool al), .lit (.bool re), .lit (.bool am), .lit (.bool un)] := by rw [← hY]; simp [e1, e2]
  have y2 : Y p2 = some [.list true 9 [], .lit (.bool false), .lit (.bool false), .lit (.bool false), .lit (.bool false), .lit (.bool false)] := by rw [← hY]; simp
  have s1 : σ p1 = none := hp1
  have s2 : σ p2 = none := hp2
  clear hY hp1 hp2
  have fromY : ∀ c : Nat, Y c = none → σ c = none := fun c hc => by
    rcases hsub c with h | h
    · exact h
    · rw [h]; exact hc
  refine codeK.loop follows (st := st6) (plans := pl6) (X := Nat) (fun i => i ≤ items.length ∧ i ≤ 8)
    (fun i => [(1, .lit (.pointer (some ⟨p1, 0, none⟩))), (2, .lit (.pointer (some ⟨p2, 0, none⟩))), (3, .list true 9 (itsA ((items.take i).map cutI))), (7, .list false 9 (itsA items)), (8, .lit (.int .i64 items.length)), (9, .lit (.int .i64 i))]) (fun _ => Y) (fun i => items.length - i) 0 (by kernel_rfl) (by simp) (by simp [itsA]) (Store.sub_refl _) fun i hi => ?_
  obtain ⟨hi, hi8⟩ := hi
  by_cases hlt : i < items.length
  · have hw : IntKind.i64.wrap ((i : Int) + 1) = ((i + 1 : Nat) : Int) := wrap_i64 (by omega) (by omega)
    have ha := itsA_get items i hlt
    have hxl := hx _ (List.getElem_mem hlt)
    have hsn : itsA ((items.take (i + 1)).map cutI) = itsA ((items.take i).map cutI) ++ [.agg (itC (cutI items[i]))] := by
      rw [List.take_succ_eq_append_getElem hlt, List.map_append]
      unfold itsA
      rw [List.map_append]; rfl
    have hle : (itsA ((items.take i).map cutI)).length ≤ 8 := by simp; omega
    have hres := hRes8 i hi
    generalize items[i] = z at *
    generalize itsA ((items.take i).map cutI) = acc at *
    obtain ⟨zr, zc, zf, ze, zt, zu⟩ := z
    dsimp only at hxl
    unfold itC at ha hsn
    have hct := fun τ => cut_calls zt τ
    by_cases h8 : i = 8
    · have hlt' : (i : Int) < items.length := by omega
      have h8' : (8 : Int) ≤ (i : Int) := by omega
      have h8'' : 8 ≤ i := by omega
      rw [hres (.inl h8)]
      clear h8
      simp [hlt, hlt', ha, h8', h8'']
      intro p5 hp5
      have n1 : ¬ p1 = p5 := fun e => by subst e; rw [y1] at hp5; cases hp5
      have n2 : ¬ p2 = p5 := fun e => by subst e; rw [y2] at hp5; cases hp5
      simp [n1, n2, y1, y2, e1, e2]
      exact Store.sub_upd s2 (Store.sub_upd s1 (Store.sub_upd (fromY p5 hp5) hsub))
    · have h8' : ¬ (8 : Int) ≤ (i : Int) := by omega
      have h8'' : ¬ 8 ≤ i := by omega
      simp +contextual [hlt, ha, ite_free, h8', h8'']
      intro p5 hp5
      refine callK.eq (hct _) ?_
      by_cases hz : 258 < ze.length
      · have hz' : (258 : Int) < ze.length := by omega
        have hz2 : 258 ≤ ze.length := by omega
        simp [hz', hz2]
        refine ⟨by omega, by omega, i + 1, ⟨by omega, by omega⟩, by omega, ⟨le_of_eq ?_, by rw [hw]; exact AV.le_refl _⟩, Store.sub_upd hp5 (Store.sub_refl _)⟩
        rw [← List.map_take, hsn]
        simp [itC, cutI, pairsA, List.map_take]
      · have hz' : ¬ (258 : Int) < ze.length := by omega
        have htk : ze.take 258 = ze := List.take_of_length_le (by omega)
        have hpl : (pairsA ze).take ze.length = pairsA ze := List.take_of_length_le (by simp)
        simp [hz', hpl]
        refine ⟨by omega, by omega, by omega, by omega, i + 1, ⟨by omega, by omega⟩, by omega, ⟨le_of_eq ?_, by rw [hw]; exact AV.le_refl _⟩, Store.sub_upd hp5 (Store.sub_refl _)⟩
        rw [← List.map_take, hsn]
        simp [itC, cutI, htk]
  · obtain rfl : i = items.length := by omega
    rw [hRes8 _ hi (.inr ⟨rfl, hi8⟩)]
    simp [y1, y2, e1, e2]
    exact Store.sub_upd s2 (Store.sub_upd s1 hsub)
end Go.Proofs.YtbeohjinefaaoaaDoor
/-
  HostForms.
-/
namespace Go.Proofs.YtbeohjinefaaoaaDoor
open Go Go.AL Go.Sp

theorem pgS_sub {b : Nat} {n : Int} {x : Option Nat} {σ : Store} (hb : σ b = none) (hx : NxP σ none x) : Store.sub σ (pgS b n x σ) := by
  rcases hx with rfl | ⟨g, rfl, hg⟩
  · exact Store.sub_upd hb (Store.sub_refl _)
  · exact Store.sub_trans (Store.sub_upd hb (Store.sub_refl _)) (sub_put (by simpa using hg) _)
def awF : Fm := { items := [{ row := 0, col := 0, f := { prot := false, num := false, disp := 0, mod := false }, ext := [], text := ⟨#[65]⟩, cur := false }], er := true, al := false, re := true, am := false, un := false }
theorem aw_rec : recR 37 24 80 awF = ([245, 66, 17, 64, 64, 29, 64, 193], 0) := by decide +kernel
theorem dim24 : Dim 24 80 := ⟨by omega, by omega, by omega, by omega, by omega, by omega⟩
theorem aw_ok : FOk awF := ⟨by decide, by intro i hi; simp [awF] at hi; subst hi; exact ⟨by simp, by decide⟩⟩
set_option maxHeartbeats 1000000 in
set_option maxRecDepth 8000 in
theorem awake_calls (σ : Store) : ACalls Tryd.prog 5 [] σ fun v σ' => v = .lit (.bool true) ∧ σ' = σ := by
  have hpn := fun τ => page_new 37 (.inl rfl) τ
  have hrec := fun b x τ => prec_calls dim24 b 37 (.inl rfl) x awF aw_ok τ
  rw [aw_rec] at hrec
  have hf : formC awF = [.list false 9 [.agg [.lit (.int .i64 0), .lit (.int .i64 0), .lit (.bool false), .lit (.bool false), .lit (.int .i64 0), .lit (.bool false), .list false 2 [], .lit (.string ⟨#[65]⟩), .lit (.bool false)]], .lit (.bool true), .lit (.bool false), .lit (.bool true), .lit (.bool false), .lit (.bool false)] := rfl
  rw [hf] at hrec
  unfold dimA at hrec
  have hsm := fun τ => same11_calls [245, 66, 17, 64, 64, 29, 64, 193] false true (by simp) τ
  have hl8 : bytesA [245, 66, 17, 64, 64, 29, 64, 193] = [.lit (.int .u8 245), .lit (.int .u8 66), .lit (.int .u8 17), .lit (.int .u8 64), .lit (.int .u8 64), .lit (.int .u8 29), .lit (.int .u8 64), .lit (.int .u8 193)] := rfl
  rw [hl8] at hsm hrec
  clear hl8 hf
  refine ACalls.of_awp follows (st := st5) (plans := pl5) (n := 25) Tryd.func5 rfl (by kernel_rfl) (by kernel_rfl) (by kernel_rfl) ?_
  simp
  refine callK.of (hpn _) ?_
  rintro v τ ⟨b, hb, rfl, rfl⟩
  simp
  refine callK.of (hrec b none σ) ?_
  rintro v τ ⟨rfl, x', hx', rfl⟩
  simp
  refine callK.eq (hsm _) ?_
  simp
  exact pgS_sub hb hx'
set_option maxHeartbeats 2000000 in
set_option maxRecDepth 8000 in
theorem hostForms_law (F : Fm) (R C n : Int) (hl : F.items.length ≤ 9223372036854775807) (hx : ∀ i ∈ F.items, i.ext.length ≤ 9223372036854775807) (σ : Store) :
    ACalls Tryd.prog 3 [.agg (formC F), .agg [.lit (.int .i64 R), .lit (.int .i64 C)], .lit (.int .i64 n)] σ fun v _ => v = .lit (.bool true) := by
  have haw := fun τ => awake_calls τ
  have hfew := fun τ => few_calls F hl hx τ
  have hFO := few_ok F
  have hown := fun τ => own_calls (fewF F) hFO.1 (fun i hi => (hFO.2 i hi).1) τ
  generalize fewF F = G at *
  unfold formC at hfew hown ⊢
  refine ACalls.of_awp follows (st := st3) (plans := pl3) (n := 45) Tryd.func3 rfl (by kernel_rfl) (by kernel_rfl) (by kernel_rfl) ?_
  simp +contextual [ite_free]
  intro p hp p2 e1 e2 hp2
  refine callK.eq (haw _) ?_
  simp [e1, e2]
  refine callK.eq (hfew _) ?_
  simp [e1, e2]
  generalize hY : ((σ.upd p _).upd p2 _).upd p _ = Y
  have y1 : Y p = some (formC G) := by rw [← hY]; simp [formC]
  have y2 : Y p2 = some [.lit (.int .i64 R), .lit (.int .i64 C)] := by rw [← hY]; simp [e1, e2]
  clear hY hp hp2 e1 e2
  unfold formC at y1
  by_cases hn : isPage n
  · refine callK.of (page_new n hn Y) ?_
    rintro v τ ⟨b, hb, rfl, rfl⟩
    have pb1 : ¬ p = b := fun e => by subst e; rw [y1] at hb; cases hb
    have pb2 : ¬ p2 = b := fun e => by subst e; rw [y2] at hb; cases hb
    have c1 : ∀ x, (pgS b n x Y) p = some [.list false 9 (itsA G.items), .lit (.bool G.er), .lit (.bool G.al), .lit (.bool G.re), .lit (.bool G.am), .lit (.bool G.un)] := fun x => by rw [pgS_other pb1, y1]
    have c2 : ∀ x, (pgS b n x Y) p2 = some [.lit (.int .i64 R), .lit (.int .i64 C)] := fun x => by rw [pgS_other pb2, y2]
    cases hz : okSz R C
    · have h9 := fun τ => prec_bad b G R C hz τ
      have h10 := fun τ => rrec_bad n hn G R C hz τ
      have h11 := fun o1 o2 τ => same11_calls [] o1 o2 (by simp) τ
      unfold formC at h9 h10
      simp [c1, c2]
      repeat' first
        | with_reducible apply And.intro
        | (refine callK.eq (hown _) ?_; simp [c1, c2])
        | (refine callK.eq (h9 _) ?_; simp [c1, c2])
        | (refine callK.eq (h10 _) ?_; simp [c1, c2])
        | (refine callK.eq (h11 _ _ _) ?_; simp [c1, c2])
      all_goals exact ⟨_, Store.sub_refl _⟩
    · obtain ⟨hD, hR, hC⟩ := okSz_dim hz
      have h9 := fun x τ => prec_calls hD b n hn x G hFO τ
      have h10 := fun τ => rrec_calls hD n hn G hFO τ
      have hlen : (recR n R.toNat C.toNat G).1.length ≤ 1000000 := by
        unfold recR
        split
        · simp
        · split
          · simp
          · simp; omega
      have h11 := fun o1 o2 τ => same11_calls _ o1 o2 hlen τ
      generalize recR n R.toNat C.toNat G = RR at *
      unfold dimA at h9 h10
      rw [← hR, ← hC] at h9 h10
      unfold formC at h9 h10
      simp [c1, c2]
      repeat' first
        | with_reducible apply And.intro
        | (refine callK.eq (hown _) ?_; simp [c1, c2])
        | (refine callK.of (h9 _ _) ?_; rintro v τ ⟨rfl, x', -, rfl⟩; simp [c1, c2])
        | (refine callK.eq (h10 _) ?_; simp [c1, c2])
        | (refine callK.eq (h11 _ _ _) ?_; simp [c1, c2])
      all_goals exact ⟨_, Store.sub_refl _⟩
  · refine callK.eq (page_none n hn Y) ?_
    have h9 := fun τ => prec_nil G R C τ
    have h10 := fun τ => rrec_none n hn G R C τ
    have h11 := fun o1 o2 τ => same11_calls [] o1 o2 (by simp) τ
    unfold formC at h9 h10
    simp [y1, y2]
    repeat' first
      | with_reducible apply And.intro
      | (refine callK.eq (hown _) ?_; simp [y1, y2])
      | (refine callK.eq (h9 _) ?_; simp [y1, y2])
      | (refine callK.eq (h10 _) ?_; simp [y1, y2])
      | (refine callK.eq (h11 _ _ _) ?_; simp [y1, y2])
    all_goals exact ⟨_, Store.sub_refl _⟩
end Go.Proofs.YtbeohjinefaaoaaDoor
/-
  Arguments opened; what the table of the commands reads as.
-/
namespace Go.Proofs.YtbeohjinefaaoaaDoor
open Go Go.AL Go.ChangeShapes Go.WideShapes Go.ChangeAt Go.RowKit Go.Lib

def laid1 : List (String × DataW Unit) := [("vitrine/write.names", Rows.laid_vitrine_write_names)]
def nameV (x : List UInt8 × UInt8 × UInt8) : List Value := [.string ⟨x.1.toArray⟩, .int .u8 x.2.1.toNat, .int .u8 x.2.2.toNat]
def nameD (x : List UInt8 × UInt8 × UInt8) : DataW Unit := .agg [.lit (.string x.1), .lit (.int .u8 x.2.1.toNat), .lit (.int .u8 x.2.2.toNat)]
theorem laid_names : (Rows.laid_vitrine_write_names : DataW Unit) = .agg (cmdNames.map nameD) := rfl
theorem rows_flat : ∀ (N : List (List UInt8 × UInt8 × UInt8)) (L : List Value), L.length = N.length * 3 → (∀ (r : Nat) x, N[r]? = some x → (L.drop (r * 3)).take 3 = nameV x) → L = N.flatMap nameV
  | [], L, hl, _ => by simpa using hl
  | x :: N, L, hl, h => by
    have h0 := h 0 x rfl
    have hr := rows_flat N (L.drop 3) (by simp only [List.length_drop]; simp at hl; omega) fun r y hy => by
      have := h (r + 1) y hy
      rw [List.drop_drop, ← this, show 3 + r * 3 = (r + 1) * 3 by omega]
    rw [List.flatMap_cons, ← hr, ← h0]
    simp
theorem row137 {W : World} {base : Nat} {sp : Nat → Bool} {held : Bool} {fuel : Nat} {l : List Value} {x : List UInt8 × UInt8 × UInt8} {p : List MemPlace}
    (h : DataW.trod (fun _ => ()) Tryd.prog W base sp held fuel 137 l = some (nameD x, p)) : l = nameV x := by
  obtain ⟨xs, n, _, ex, hl, hn, hf⟩ := DataW.trod_struct Tryd.underlying137 h
  have c137 : Tryd.prog.cellsOf 137 = 3 := by kernel_rfl
  have c9 : Tryd.prog.cellsOf 9 = 1 := by kernel_rfl
  have c5 : Tryd.prog.cellsOf 5 = 1 := by kernel_rfl
  rw [c137] at hl
  have hn3 : xs.length = 3 := hn
  obtain ⟨y0, y1, y2, rfl⟩ : ∃ y0 y1 y2, xs = [y0, y1, y2] := by
    rcases xs with _ | ⟨a, _ | ⟨b, _ | ⟨c, _ | ⟨d, r⟩⟩⟩⟩ <;> simp at hn3
    exact ⟨a, b, c, rfl⟩
  obtain ⟨v0, v1, v2, rfl⟩ : ∃ y0 y1 y2, l = [y0, y1, y2] := by
    rcases l with _ | ⟨a, _ | ⟨b, _ | ⟨c, _ | ⟨d, r⟩⟩⟩⟩ <;> simp at hl
    exact ⟨a, b, c, rfl⟩
  have f0 := hf 0 _ rfl
  have f1 := hf 1 _ rfl
  have f2 := hf 2 _ rfl
  obtain ⟨s, g0, d0, _⟩ := DataW.trod_string Tryd.underlying9 (f0.trans rfl)
  obtain ⟨a, g1, d1, _⟩ := DataW.trod_int Tryd.underlying5 (f1.trans rfl)
  obtain ⟨b, g2, d2, _⟩ := DataW.trod_int Tryd.underlying5 (f2.trans rfl)
  have q0 : List.take (Tryd.prog.cellsOf 9) [v0, v1, v2] = [.string s] := g0
  have q1 : List.take (Tryd.prog.cellsOf 5) [v1, v2] = [.int .u8 a] := g1
  have q2 : List.take (Tryd.prog.cellsOf 5) [v2] = [.int .u8 b] := g2
  rw [c9] at q0
  rw [c5] at q1 q2
  obtain rfl : v0 = .string s := (List.cons.inj q0).1
  obtain rfl : v1 = .int .u8 a := (List.cons.inj q1).1
  obtain rfl : v2 = .int .u8 b := (List.cons.inj q2).1
  subst d0 d1 d2
  have e := DataW.agg.inj (Prod.mk.inj ex).1
  simp only [List.map_cons, List.map_nil, List.cons.injEq, DataW.lit.injEq, Lit.string.injEq, Lit.int.injEq, true_and, and_true] at e
  obtain ⟨e0, e1, e2⟩ := e
  unfold nameV
  rw [e0, e1, e2]
theorem laid_vr {W : World} (h : laidMetH Tryd.prog laid1 W) : ∀ g cs, GL.tab g = some cs → VR (allFrz W) (.fptr cs) (.pointer (some ⟨g, 0, none⟩)) := by
  rw [MakeChecks.laidMetH_plain _ _ _ (by kernel_rfl)] at h
  obtain ⟨ps, ⟨g, t, cs, fuel, p, q, hg, ht, hv, hd, _, _⟩, _, _⟩ := h
  obtain rfl := Option.some.inj ((show Tryd.prog.globalNamed "vitrine/write.names" = some 0 by kernel_rfl).symm.trans hg)
  obtain rfl := Option.some.inj ((show (Tryd.prog.globals[0]?).map (·.type) = some 153 by kernel_rfl).symm.trans ht)
  obtain ⟨xs, m, _, ex, hc, hl, hel⟩ := DataW.trod_array Tryd.underlying153 hd
  have c137 : Tryd.prog.cellsOf 137 = 3 := by kernel_rfl
  have c153 : Tryd.prog.cellsOf 153 = 27 := by kernel_rfl
  rw [c153] at hc
  have e3 : xs.map (·.1) = cmdNames.map nameD := (DataW.agg.inj ((Prod.mk.inj ex).1.symm.trans laid_names)).symm ▸ rfl
  have hcs : cs.toList = cmdNames.flatMap nameV := by
    refine rows_flat cmdNames cs.toList hc fun r x hx => ?_
    have hr9 : r < 9 := (List.getElem?_eq_some_iff.1 hx).1
    have he := hel r hr9
    rw [c137] at he
    have e4 : (xs.map (·.1))[r]? = (cmdNames.map nameD)[r]? := by rw [e3]
    rw [List.getElem?_map, List.getElem?_map, hx] at e4
    cases hxr : xs[r]? with
    | none => rw [hxr] at e4; cases e4
    | some y =>
      rw [hxr] at e4 he
      obtain ⟨d, p⟩ := y
      simp only [Option.map_some, Option.some.injEq] at e4
      subst e4
      exact row137 he
  intro g cs2 hg2
  have : g = 0 ∧ cs2 = cmdsO := by
    have hg3 : (if g = 0 then some cmdsO else none) = some cs2 := hg2
    split at hg3
    · exact ⟨‹_›, (Option.some.inj hg3).symm⟩
    · cases hg3
  obtain ⟨rfl, rfl⟩ := this
  have hlit : cmdsO = (cmdNames.flatMap nameV).map .lit := rfl
  refine .fptr _ _ _ (cmdNames.flatMap nameV) rfl (fun i u hu => ⟨?_, ?_⟩) fun i c u hc hu => ?_
  · rw [Nat.zero_add]
    refine cell_back ?_
    rw [World.var?_cell hg hv i, ← Array.getElem?_toList, hcs]; exact hu
  · have : (cmdNames.flatMap nameV).all Value.oneCell' = true := by decide
    exact List.all_eq_true.1 this u (List.mem_of_getElem? hu)
  · rw [hlit, List.getElem?_map, hu] at hc
    obtain rfl := Option.some.inj hc
    exact .lit _
theorem open_pair : Opens Tryd.prog 89 (fun c : UInt8 × UInt8 => [byteA c.1, byteA c.2]) (fun _ => True) :=
  (Opens.struct (total := 2) Tryd.underlying89 (by kernel_rfl)
    (.cons (k := 1) rfl (by kernel_rfl) (by omega) (Opens.u8 Tryd.underlying5) (.cons (k := 1) rfl (by kernel_rfl) (by omega) (Opens.u8 Tryd.underlying5) .nil))).by
    (fun x => ⟨x.1, x.2.1⟩) fun _ _ => ⟨trivial, rfl⟩
theorem open_pairs : Opens Tryd.prog 65 (fun l : List (UInt8 × UInt8) => [.list false 2 (pairsA l)]) (fun l => l.length ≤ maxLen) :=
  (Opens.slice Tryd.underlying65 (by kernel_rfl) (by omega) open_pair (fun c => .agg [byteA c.1, byteA c.2]) (fun _ => rfl) (fun _ => rfl)).by id fun _ h => ⟨h.1, rfl⟩
theorem open_fd : Opens Tryd.prog 64 (fun f : Fd => [.lit (.bool f.prot), .lit (.bool f.num), .lit (.int .i64 f.disp), .lit (.bool f.mod)]) (fun _ => True) :=
  (Opens.struct (total := 4) Tryd.underlying64 (by kernel_rfl)
    (.cons (k := 1) rfl (by kernel_rfl) (by omega) (Opens.bool Tryd.underlying4) (.cons (k := 1) rfl (by kernel_rfl) (by omega) (Opens.bool Tryd.underlying4) (.cons (k := 1) rfl (by kernel_rfl) (by omega) (Opens.i64 Tryd.underlying3) (.cons (k := 1) rfl (by kernel_rfl) (by omega) (Opens.bool Tryd.underlying4) .nil))))).by
    (fun x => ⟨x.1, x.2.1, x.2.2.1, x.2.2.2.1⟩) fun _ _ => ⟨trivial, rfl⟩
theorem open_item : Opens Tryd.prog 67 (fun i : It => itC i) (fun i => i.ext.length ≤ maxLen) :=
  (Opens.struct (total := 9) Tryd.underlying67 (by kernel_rfl)
    (.cons (k := 1) rfl (by kernel_rfl) (by omega) (Opens.i64 Tryd.underlying3) (.cons (k := 1) rfl (by kernel_rfl) (by omega) (Opens.i64 Tryd.underlying3) (.cons (k := 4) rfl (by kernel_rfl) (by omega) open_fd
      (.cons (k := 1) rfl (by kernel_rfl) (by omega) open_pairs (.cons (k := 1) rfl (by kernel_rfl) (by omega) (Opens.string Tryd.underlying9) (.cons (k := 1) rfl (by kernel_rfl) (by omega) (Opens.bool Tryd.underlying4) .nil))))))).by
    (fun x => ⟨x.1, x.2.1, x.2.2.1, x.2.2.2.1, x.2.2.2.2.1, x.2.2.2.2.2.1⟩) fun _ h => ⟨h.2.2.2.1, rfl⟩
theorem open_items : Opens Tryd.prog 22 (fun l : List It => [.list false 9 (itsA l)]) (fun l => l.length ≤ maxLen ∧ ∀ i ∈ l, i.ext.length ≤ maxLen) :=
  Opens.slice Tryd.underlying22 (by kernel_rfl) (by omega) open_item (fun i => .agg (itC i)) (fun _ => rfl) (fun _ => rfl)
theorem open_form : Opens Tryd.prog 24 (fun F : Fm => formC F) (fun F => F.items.length ≤ maxLen ∧ ∀ i ∈ F.items, i.ext.length ≤ maxLen) :=
  (Opens.struct (total := 6) Tryd.underlying24 (by kernel_rfl)
    (.cons (k := 1) rfl (by kernel_rfl) (by omega) open_items (.cons (k := 1) rfl (by kernel_rfl) (by omega) (Opens.bool Tryd.underlying4) (.cons (k := 1) rfl (by kernel_rfl) (by omega) (Opens.bool Tryd.underlying4)
      (.cons (k := 1) rfl (by kernel_rfl) (by omega) (Opens.bool Tryd.underlying4) (.cons (k := 1) rfl (by kernel_rfl) (by omega) (Opens.bool Tryd.underlying4) (.cons (k := 1) rfl (by kernel_rfl) (by omega) (Opens.bool Tryd.underlying4) .nil))))))).by
    (fun x => ⟨x.1, x.2.1, x.2.2.1, x.2.2.2.1, x.2.2.2.2.1, x.2.2.2.2.2.1⟩) fun _ h => ⟨h.1, rfl⟩
theorem open_size : Opens Tryd.prog 26 (fun c : Int × Int => [.lit (.int .i64 c.1), .lit (.int .i64 c.2)]) (fun _ => True) :=
  (Opens.struct (total := 2) Tryd.underlying26 (by kernel_rfl)
    (.cons (k := 1) rfl (by kernel_rfl) (by omega) (Opens.i64 Tryd.underlying3) (.cons (k := 1) rfl (by kernel_rfl) (by omega) (Opens.i64 Tryd.underlying3) .nil))).by
    (fun x => ⟨x.1, x.2.1⟩) fun _ _ => ⟨trivial, rfl⟩
end Go.Proofs.YtbeohjinefaaoaaDoor
/-
  HostForms: for every input the law returns true, and the arguments read as they did.
-/
namespace Go.Proofs.YtbeohjinefaaoaaDoor
open Go Go.AL Go.ChangeShapes Go.WideShapes Go.ChangeAt Go.RowKit Go.Lib

theorem own_hostForms : ownKnob Tryd.prog.godebug = none := by kernel_rfl
theorem laid_hostForms : laidOutB Tryd.prog = true := by kernel_rfl
theorem rec24_hostForms : Tryd.prog.readableRec 24 = true := by kernel_rfl
theorem row24_hostForms : (24 : TypeId) < Tryd.prog.types.size := of_decide_eq_true (by kernel_rfl)
theorem rec26_hostForms : Tryd.prog.readableRec 26 = true := by kernel_rfl
theorem row26_hostForms : (26 : TypeId) < Tryd.prog.types.size := of_decide_eq_true (by kernel_rfl)
theorem rec3_hostForms : Tryd.prog.readableRec 3 = true := by kernel_rfl
theorem row3_hostForms : (3 : TypeId) < Tryd.prog.types.size := of_decide_eq_true (by kernel_rfl)

set_option maxRecDepth 100000 in
theorem hostForms_lifted (os : Os) (started : os.Started) (H : Type) (enc : TypeId × Value → H) :
    ReturnsInHanded {} Tryd.checked os 3 .any (fun w args => (Rows.hostFormsSpec.pre enc Tryd.prog Tryd.f3 [] false w args ∧ laidMetH Tryd.prog laid1 w) ∧ sizedMet enc Tryd.prog Tryd.f3 (OpenSpec.ofChange Rows.hostFormsSpec) false w args) (Rows.hostFormsSpec.post enc Tryd.prog Tryd.f3 false true false false) := by
  refine returnsInHanded_of_change_and (C := Tryd.checked) (X := fun w _ => laidMetH Tryd.prog laid1 w) (fun _ _ _ hh h => h.of_heap hh) own_hostForms started (by kernel_rfl) Tryd.func3
    (ChangeSpec.witness_shaped (enc := enc) (C := Tryd.checked) (os := os) (X := fun w _ => laidMetH Tryd.prog laid1 w) false (World.laidAll Tryd.prog os laid1) #[.agg #[.slice none 0 0, .bool false, .bool false, .bool false, .bool false, .bool false], .agg #[.int .i64 0, .int .i64 0], .int .i64 0] 8 (World.laidAll_os _ _ _)
      (World.shaped_of_ZipB (by kernel_rfl) (by kernel_rfl)) (by kernel_rfl) (by kernel_rfl) (by kernel_rfl)
      (by rw [MakeChecks.laidMetH_plain _ _ _ (by kernel_rfl)]; exact laidMet_laidAll _ (by kernel_rfl) (by kernel_rfl))) ?_
  intro W base args ds gs before hval0 hW _ _ hL _
  have hval : ∀ (j : Nat) t v, Tryd.f3.params[j]? = some t → args[j]? = some v → Value.okWide Tryd.prog W .any base t v := hval0
  have hW' := hW
  obtain ⟨p, q, hA0, hV, rfl, hfz, hnd⟩ := hW
  have hA : DataW.TrodAll enc Tryd.prog W 0 (fun _ => true) true Tryd.f3.params.toList args.toList ds p := hA0
  rw [Tryd.params3] at hA hval
  obtain ⟨v0, v1, v2, d0, d1, d2, p0, p1, p2, rfl, rfl, rfl, h0, h1, h2⟩ := trodAll_three hA
  obtain ⟨rfl, rfl⟩ := trodVars_none hV
  obtain ⟨_, hv0, _⟩ := okWide_struct Tryd.underlying24 (hval 0 24 v0 rfl rfl)
  obtain ⟨a0, m0, w0⟩ := (open_form).args hv0 h0
  obtain ⟨_, hv1, _⟩ := okWide_struct Tryd.underlying26 (hval 1 26 v1 rfl rfl)
  obtain ⟨a1, m1, w1⟩ := (open_size).args hv1 h1
  obtain ⟨_, hv2⟩ := okWide_int Tryd.underlying3 (hval 2 3 v2 rfl rfl)
  obtain ⟨a2, m2, w2⟩ := (Opens.i64 Tryd.underlying3).arg _ (fun _ => rfl) (by rw [hv2]; rfl) h2
  clear hA0 hval0
  simp only [List.append_nil] at hW'
  have hlt : ∀ x ∈ p0 ++ p1 ++ p2, x.block < W.heap.size := fun x hx => hW'.lt x hx
  refine (law_calls (hostForms_law a0 a1.1 a1.2 a2 m0.1 m0.2 _) W #[v0, v1, v2] rfl (fun i c u hc hu => ?_) (laid_vr hL)).mono fun e W' ⟨he, hb⟩ => ?_
  · match i with
    | 0 => simp at hc hu; subst hc hu; exact ⟨w0, rfl⟩
    | 1 => simp at hc hu; subst hc hu; exact ⟨w1, rfl⟩
    | 2 => simp at hc hu; subst hc hu; exact ⟨w2, rfl⟩
    | n + 3 => simp at hc
  subst he
  refine ⟨_, rfl, [d0, d1, d2], [], p0 ++ p1 ++ p2, [], p0 ++ (p1 ++ p2), [], hW', ?_, ?_, rfl, hb.frame _, fun h => (by cases h)⟩
  · exact trodAll_mk1 (shut_bool Tryd.underlying4 true)
  · refine trodAll_mk3 (Below.trod laid_hostForms rec24_hostForms row24_hostForms h0 hb fun x hx => hlt x (by simp [hx])) (Below.trod laid_hostForms rec26_hostForms row26_hostForms h1 hb fun x hx => hlt x (by simp [hx])) (Below.trod laid_hostForms rec3_hostForms row3_hostForms h2 hb fun x hx => hlt x (by simp [hx]))

theorem hostForms_holds : Rows.HostFormsSaid :=
  OpenClaim.holds_of_wide 3 Tryd.f3 rfl rfl rfl rfl rfl rfl rfl ⟨rfl, rfl, rfl, rfl, rfl⟩ rfl rfl rfl rfl rfl (by kernel_rfl) Tryd.func3 (by kernel_rfl)
    (of_decide_eq_true (by kernel_rfl)) (by unfold Func.isWrapper; first | (rw [if_pos (by decide +kernel)]; kernel_rfl) | (rw [if_neg (by decide +kernel)]; exact ⟨rfl, rfl⟩))
    (fun os started H enc _ => hostForms_lifted os started H enc)
end Go.Proofs.YtbeohjinefaaoaaDoor
