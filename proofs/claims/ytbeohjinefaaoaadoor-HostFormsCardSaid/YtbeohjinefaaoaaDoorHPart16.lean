/-
  An item's bytes: the document's.
-/
import Derived.Test.YtbeohjinefaaoaaDoorHPart15
set_option linter.unusedSimpArgs false
set_option linter.unusedVariables false
namespace Go.Proofs.YtbeohjinefaaoaaDoor
open Go Go.AL Go.Sp

theorem lookR_err (i : It) : (lookR i).2 = if okD i.f = false then 1 else if i.ext.any wrongP = true then 10 else 0 := by
  unfold lookR
  by_cases h1 : okD i.f = false
  · rw [if_pos h1, if_pos h1]
  · rw [if_neg h1, if_neg h1]
    by_cases h2 : i.ext = []
    · rw [if_pos h2, h2]; simp
    · rw [if_neg h2]
      split <;> simp
set_option maxHeartbeats 2000000 in
set_option maxRecDepth 8000 in
theorem ritem_calls {rows cols : Nat} (hD : Dim rows cols) (n : Int) (hn : isPage n) (i : It) (hx : i.ext.length ≤ 1000) (ht : i.text.size ≤ 1000000) (σ : Store) :
    ACalls Tryd.prog 23 [.agg (itC i), dimA rows cols, .lit (.int .i64 n)] σ fun v σ' => v = .tuple [.list true 1 (bytesA (itemR n rows cols i).1), .lit (.int .i64 (itemR n rows cols i).2)] ∧ σ' = σ := by
  by_cases hin : 0 ≤ i.row ∧ i.row < rows ∧ 0 ≤ i.col ∧ i.col < cols
  · have hfb := fun τ => rfbits_calls i.f τ
    have hcd := fun τ => rcodes_calls n hn i.text ht τ
    have hat := fun τ => rat_calls hD i.row i.col τ
    have hen := fun τ => enc4_calls ((addrAt rows cols i.row i.col : Nat) : Int) τ
    have halt := addrAt_lt hD i.row i.col
    have h35 : rows * cols ≤ 3564 := hD.m
    have hok : okAddr ((addrAt rows cols i.row i.col : Nat) : Int) := ⟨by omega, by omega⟩
    have hsx := fun (h : okD i.f = true) τ => six4_calls (bitsF i.f) (by have := bitsF_lt i.f h; omega) τ
    have hRI : itemR n rows cols i = if (lookR i).2 ≠ 0 then ([], (lookR i).2) else if (codesF n i.text i.text.size 0 []).2 ≠ 0 then ([], (codesF n i.text i.text.size 0 []).2)
      else if hasOrd (codesF n i.text i.text.size 0 []).1 = true then ([], 10) else if 254 < i.ext.length then ([], 3)
      else (itemB rows cols i (codesF n i.text i.text.size 0 []).1, 0) := by unfold itemR; rw [if_neg (fun h => h hin)]
    rw [lookR_err] at hRI
    have hclen := codesF_len n i.text i.text.size 0 []
    rw [encR, if_pos hok, Int.toNat_natCast] at hen
    unfold itemB lookB at hRI
    replace hRI : itemR n rows cols i = if okD i.f = false then ([], 1) else if i.ext.any wrongP = true then ([], 10) else if (codesF n i.text i.text.size 0 []).2 ≠ 0 then ([], (codesF n i.text i.text.size 0 []).2)
      else if hasOrd (codesF n i.text i.text.size 0 []).1 = true then ([], 10) else if 254 < i.ext.length then ([], 3)
      else (17 :: encM (addrAt rows cols i.row i.col) ++ ((if i.ext = [] then [29, six (bitsF i.f)] else 41 :: UInt8.ofNat (1 + i.ext.length) :: 192 :: six (bitsF i.f) :: flatP i.ext) ++ ((if i.cur = true then [19] else []) ++ (codesF n i.text i.text.size 0 []).1)), 0) := by
      rw [hRI]
      by_cases h1 : okD i.f = false
      · rw [if_pos h1, if_pos (by simp), if_pos h1]
      · by_cases h2 : i.ext.any wrongP = true
        · rw [if_neg h1, if_neg h1, if_pos h2, if_pos h2, if_pos (by simp)]
        · rw [if_neg h1, if_neg h1, if_neg h2, if_neg h2, if_neg (by simp)]
    obtain ⟨row, col, f, ext, text, cur⟩ := i
    dsimp only at ht hclen hx hin hfb hcd hat hen hRI hsx
    generalize codesF n text text.size 0 [] = CC at *
    obtain ⟨cs, ec⟩ := CC
    simp only [List.length_nil, Nat.zero_add] at hclen
    generalize addrAt rows cols row col = at0 at *
    generalize itemR n rows cols ⟨row, col, f, ext, text, cur⟩ = IR at *
    have hfa : fdA f = .agg [.lit (.bool f.prot), .lit (.bool f.num), .lit (.int .i64 f.disp), .lit (.bool f.mod)] := rfl
    rw [hfa] at hfb
    obtain ⟨g1, g2, g3, g4⟩ := hin
    have k1 : ¬ row < 0 := by omega
    have k2 : ¬ (rows : Int) ≤ row := by omega
    have k3 : ¬ col < 0 := by omega
    have k4 : ¬ (cols : Int) ≤ col := by omega
    unfold itC dimA
    unfold dimA at hat
    cases hk : okD f
    · rw [if_pos hk] at hRI
      subst hRI
      rw [hk] at hfb
      refine ACalls.of_awp follows (st := st23) (plans := pl23) (n := 147) Tryd.func23 rfl (by kernel_rfl) (by kernel_rfl) (by kernel_rfl) ?_
      simp +contextual [ite_free, k1, k2, k3, k4]
      intro p hp p2 e1 e2 hp2
      refine callK.eq (hfb _) ?_
      simp [bytesA_nil]
      exact Store.sub_upd (by simp [hp2, e1, e2]) (Store.sub_upd hp (Store.sub_refl _))
    · rw [if_neg (by rw [hk]; simp)] at hRI
      rw [hk] at hfb
      replace hsx := hsx hk
      simp only [if_true] at hfb
      have hbt := bitsF_lt f hk
      generalize bitsF f = bt at *
      have hwb : IntKind.i64.wrap (bt : Int) = bt := wrap_i64 (by omega) (by omega)
      refine ACalls.of_awp follows (st := st23) (plans := pl23) (n := 147) Tryd.func23 rfl (by kernel_rfl) (by kernel_rfl) (by kernel_rfl) ?_
      simp +contextual [ite_free, k1, k2, k3, k4]
      intro p hp p2 e1 e2 hp2
      refine callK.eq (hfb _) ?_
      simp [e1, e2]
      generalize hY : (σ.upd p _).upd p2 _ = Y
      have hsub : Store.sub σ Y := by rw [← hY]; exact Store.sub_upd (by simp [hp2, e1, e2]) (Store.sub_upd hp (Store.sub_refl _))
      have y1 : Y p = some (itC ⟨row, col, f, ext, text, cur⟩) := by rw [← hY]; simp [e1, e2, itC]
      have y2 : Y p2 = some [.lit (.int .i64 rows), .lit (.int .i64 cols)] := by rw [← hY]; simp
      clear hY
      unfold itC at y1
      have fromY : ∀ c : Nat, Y c = none → σ c = none := fun c hc => by
        rcases hsub c with h | h
        · exact h
        · rw [h]; exact hc
      refine codeK.loop follows (st := st23) (plans := pl23) (X := Nat) (fun i => i ≤ ext.length ∧ ∀ j (hj : j < ext.length), j < i → wrongP ext[j] = false)
        (fun i => [(2, .lit (.int .i64 n)), (3, .lit (.pointer (some ⟨p, 0, none⟩))), (4, .lit (.pointer (some ⟨p2, 0, none⟩))), (8, .lit (.int .u8 bt)), (53, .list false 2 (pairsA ext)), (54, .lit (.int .i64 ext.length)), (55, .lit (.int .i64 i))]) (fun _ => Y) (fun i => ext.length - i) 0 (by kernel_rfl) (by simp) (by simp) (Store.sub_refl _) fun i hi => ?_
      obtain ⟨hi, hkk⟩ := hi
      by_cases hlt : i < ext.length
      · have hw : IntKind.i64.wrap ((i : Int) + 1) = ((i + 1 : Nat) : Int) := wrap_i64 (by omega) (by omega)
        have hs := fun τ => rright_calls ext[i] τ
        have ha := pairsA_get ext i hlt
        have hga : ∀ h : i < (pairsA ext).length, (pairsA ext)[i]'h = .agg [byteA ext[i].1, byteA ext[i].2] := fun h => by rw [List.getElem?_eq_getElem h] at ha; exact Option.some.inj ha
        have hbad : wrongP ext[i] = true → IR = ([], 10) := fun h => by rw [hRI, if_pos (List.any_eq_true.2 ⟨_, List.getElem_mem hlt, h⟩)]
        have hno : wrongP ext[i] = false → ∀ j (hj : j < ext.length), j < i + 1 → wrongP ext[j] = false := fun h j hj hji => by
          by_cases e : j = i
          · subst e; exact h
          · exact hkk j hj (by omega)
        clear hRI hfb hcd hat hen hsx
        generalize ext[i] = z at *
        obtain ⟨z1, z2⟩ := z
        simp only [byteA] at hs ha hga
        by_cases hz : z1 = 192
        · subst hz
          have hwr : wrongP (192, z2) = true := by simp [wrongP]
          rw [hbad hwr]
          simp [hlt, ha, hga, bytesA_nil]
          intro c hc
          exact Store.sub_upd (fromY c hc) hsub
        · have hz' : ¬ (z1.toNat : Int) = 192 := fun e => hz (UInt8.toNat_inj.1 (by show z1.toNat = 192; omega))
          have hzN : ¬ z1.toNat = 192 := fun e => hz' (by omega)
          simp [hlt, ha, hga, hz', hzN]
          intro c hc
          refine callK.eq (hs _) ?_
          cases hr : rightP (z1, z2)
          · have hwr : wrongP (z1, z2) = true := by simp [wrongP, hr]
            rw [hbad hwr]
            simp [hz', hzN, bytesA_nil]
            exact Store.sub_upd (fromY c hc) hsub
          · have hwr : wrongP (z1, z2) = false := by simp [wrongP, hr, hz]
            simp [hz', hzN]
            exact ⟨i + 1, ⟨by omega, hno hwr⟩, by omega, by rw [hw]; exact AV.le_refl _, Store.sub_upd hc (Store.sub_refl _)⟩
      · obtain rfl : i = ext.length := by omega
        have hall : ext.any wrongP = false := by
          rw [List.any_eq_false]
          intro x hx
          obtain ⟨j, hj, rfl⟩ := List.mem_iff_getElem.1 hx
          rw [hkk j hj hj]; simp
        rw [if_neg (by rw [hall]; simp)] at hRI
        simp [y1]
        refine callK.eq (hcd _) ?_
        by_cases he : ec = 0
        · subst he
          rw [if_neg (fun h => h rfl)] at hRI
          simp
          clear hcd hfb hkk
          refine codeK.loop follows (st := st23) (plans := pl23) (X := Nat) (fun i => i ≤ cs.length ∧ ∀ j (hj : j < cs.length), j < i → isOrd cs[j] = false)
            (fun i => [(3, .lit (.pointer (some ⟨p, 0, none⟩))), (4, .lit (.pointer (some ⟨p2, 0, none⟩))), (8, .lit (.int .u8 bt)), (12, .list false 1 (bytesA cs)), (78, .list false 1 (bytesA cs)), (79, .lit (.int .i64 cs.length)), (80, .lit (.int .i64 i))]) (fun _ => Y) (fun i => cs.length - i) 0 (by kernel_rfl) (by simp) (by simp) (Store.sub_refl _) fun i hi => ?_
          obtain ⟨hi, hkk⟩ := hi
          by_cases hlt : i < cs.length
          · have hw : IntKind.i64.wrap ((i : Int) + 1) = ((i + 1 : Nat) : Int) := wrap_i64 (by omega) (by omega)
            have hs := fun τ => is16_calls cs[i] τ
            have ha := bytesA_at cs i hlt
            have hbad : isOrd cs[i] = true → IR = ([], 10) := fun h => by rw [hRI, if_pos (hasOrd_some hlt h)]
            have hno : isOrd cs[i] = false → ∀ j (hj : j < cs.length), j < i + 1 → isOrd cs[j] = false := fun h j hj hji => by
              by_cases e : j = i
              · subst e; exact h
              · exact hkk j hj (by omega)
            clear hRI hat hen hsx
            generalize cs[i] = z at *
            simp only [byteA] at hs ha
            simp [hlt, ha]
            refine callK.eq (hs _) ?_
            cases hz : isOrd z
            · simp
              exact ⟨i + 1, ⟨by omega, hno hz⟩, by omega, by rw [hw]; exact AV.le_refl _⟩
            · rw [hbad hz]
              simp [bytesA_nil]
              exact hsub
          · obtain rfl : i = cs.length := by omega
            rw [if_neg (by rw [hasOrd_none fun j hj => hkk j hj hj]; simp)] at hRI
            by_cases hx2 : 254 < ext.length
            · rw [if_pos hx2] at hRI
              subst hRI
              have hx3 : (254 : Int) < ext.length := by omega
              simp [y1, hx2, hx3, bytesA_nil]
              exact hsub
            · rw [if_neg hx2] at hRI
              have hx3 : ¬ (254 : Int) < ext.length := by omega
              simp [y1, y2, hx2, hx3]
              refine callK.eq (hat _) ?_
              simp
              refine callK.eq (hen _) ?_
              have hel : (encM at0).length = 2 := rfl
              generalize encM at0 = em at *
              simp [hel, hwb]
              refine callK.eq (hsx _) ?_
              have e6 : byteA (six bt) = .lit (.int .u8 ((six bt).toNat : Int)) := rfl
              generalize six bt = sx at *
              rw [e6]
              by_cases hex : ext = []
              · rw [if_pos hex] at hRI
                subst hex
                simp [y1, hel]
                subst hRI
                cases cur
                · simp
                  exact ⟨by omega, by omega, le_of_eq (by simp [bytesA, byteA]), hsub⟩
                · simp
                  exact ⟨by omega, by omega, le_of_eq (by simp [bytesA, byteA]), hsub⟩
              · rw [if_neg hex] at hRI
                have hc1 : IntKind.i64.wrap (1 + (ext.length : Int)) = 1 + (ext.length : Int) := wrap_i64 (by omega) (by omega)
                have hc2 : IntKind.u8.wrap (1 + (ext.length : Int)) = ((UInt8.ofNat (1 + ext.length)).toNat : Int) := by
                  rw [wrap_u8 (by omega) (by omega), UInt8.toNat_ofNat']; omega
                have hc3 : (1 + (ext.length : Int)) % 256 = ((UInt8.ofNat (1 + ext.length)).toNat : Int) := by
                  rw [UInt8.toNat_ofNat']; omega
                simp [y1, hex, hel, hc1, hc2]
                generalize UInt8.ofNat (1 + ext.length) = ln at *
                have hx4 : (192 : Int) = (((192 : UInt8).toNat : Nat) : Int) := rfl
                clear hsx hen hat hkk
                refine codeK.loop follows (st := st23) (plans := pl23) (X := Nat) (fun i => i ≤ ext.length)
                  (fun i => [(3, .lit (.pointer (some ⟨p, 0, none⟩))), (12, .list false 1 (bytesA cs)), (17, .list true 1 (bytesA (17 :: em ++ (41 :: ln :: 192 :: sx :: flatP (ext.take i))))), (125, .list false 2 (pairsA ext)), (126, .lit (.int .i64 ext.length)), (127, .lit (.int .i64 i))]) (fun _ => Y) (fun i => ext.length - i) 0 (by kernel_rfl) (by simp) (by simp [bytesA, byteA, flatP, hc2, hc3]) (Store.sub_refl _) fun i hi => ?_
                by_cases hlt : i < ext.length
                · have hw : IntKind.i64.wrap ((i : Int) + 1) = ((i + 1 : Nat) : Int) := wrap_i64 (by omega) (by omega)
                  have ha := pairsA_get ext i hlt
                  have hga : ∀ h : i < (pairsA ext).length, (pairsA ext)[i]'h = .agg [byteA ext[i].1, byteA ext[i].2] := fun h => by rw [List.getElem?_eq_getElem h] at ha; exact Option.some.inj ha
                  have hfs := flatP_succ ext i hlt
                  have hfl := flatP_len (ext.take i)
                  rw [List.length_take] at hfl
                  generalize ext[i] = z at *
                  obtain ⟨z1, z2⟩ := z
                  simp only [byteA] at ha hga
                  simp [hlt, ha, hga]
                  intro c hc
                  refine ⟨by omega, by omega, i + 1, by omega, by omega, ⟨le_of_eq ?_, by rw [hw]; exact AV.le_refl _⟩, Store.sub_upd hc (Store.sub_refl _)⟩
                  rw [hfs]
                  simp [bytesA, byteA]
                · obtain rfl : i = ext.length := by omega
                  have hfl := flatP_len ext
                  simp [y1, hel, hfl]
                  subst hRI
                  cases cur
                  · simp
                    exact ⟨by omega, by omega, le_of_eq (by simp [bytesA, byteA]), hsub⟩
                  · simp
                    exact ⟨by omega, by omega, by omega, by omega, le_of_eq (by simp [bytesA, byteA]), hsub⟩
        · rw [if_pos he] at hRI
          subst hRI
          have he' : ¬ (ec : Int) = 0 := by omega
          simp [he, he', bytesA_nil]
          exact hsub
  · have hR : itemR n rows cols i = ([], 1) := by unfold itemR; rw [if_pos hin]
    rw [hR]
    obtain ⟨row, col, f, ext, text, cur⟩ := i
    dsimp only at hin
    refine ACalls.of_awp follows (st := st23) (plans := pl23) (n := 147) Tryd.func23 rfl (by kernel_rfl) (by kernel_rfl) (by kernel_rfl) ?_
    unfold itC dimA
    by_cases h1 : row < 0
    · simp +contextual [ite_free, h1, bytesA_nil]
      exact fun p hp p2 _ _ hp2 => Store.sub_upd hp2 (Store.sub_upd hp (Store.sub_refl _))
    · by_cases h2 : (rows : Int) ≤ row
      · simp +contextual [ite_free, h1, h2, bytesA_nil]
        exact fun p hp p2 _ _ hp2 => Store.sub_upd hp2 (Store.sub_upd hp (Store.sub_refl _))
      · by_cases h3 : col < 0
        · simp +contextual [ite_free, h1, h2, h3, bytesA_nil]
          exact fun p hp p2 _ _ hp2 => Store.sub_upd hp2 (Store.sub_upd hp (Store.sub_refl _))
        · have h4 : (cols : Int) ≤ col := by omega
          simp +contextual [ite_free, h1, h2, h3, h4, bytesA_nil]
          exact fun p hp p2 _ _ hp2 => Store.sub_upd hp2 (Store.sub_upd hp (Store.sub_refl _))
end Go.Proofs.YtbeohjinefaaoaaDoor
/-
  A form's record: the program's.
-/
namespace Go.Proofs.YtbeohjinefaaoaaDoor
open Go Go.AL Go.Sp

structure Fm where
  items : List It
  er : Bool
  al : Bool
  re : Bool
  am : Bool
  un : Bool
def itsA (l : List It) : List AV := l.map fun i => .agg (itC i)
@[simp] theorem itsA_length (l : List It) : (itsA l).length = l.length := by simp [itsA]
theorem itsA_get (l : List It) (i : Nat) (h : i < l.length) (h' : i < (itsA l).length) : (itsA l)[i]'h' = .agg (itC l[i]) := by simp [itsA]
def formC (F : Fm) : List AV := [.list false 9 (itsA F.items), .lit (.bool F.er), .lit (.bool F.al), .lit (.bool F.re), .lit (.bool F.am), .lit (.bool F.un)]
def FOk (F : Fm) : Prop := F.items.length ≤ 8 ∧ ∀ i ∈ F.items, i.ext.length ≤ 1000 ∧ i.text.size ≤ 1000
def cmdB (F : Fm) : UInt8 := cmdK (if F.er = true then (if F.al = true then 3 else 2) else 1)
def ctlB (F : Fm) : UInt8 := UInt8.ofNat (ctlN F.re F.am F.un 3)
theorem ctlB_nat (F : Fm) : (ctlB F).toNat = ctlN F.re F.am F.un 3 := by
  unfold ctlB ctlN
  cases F.re <;> cases F.am <;> cases F.un <;> rfl
def recR (n : Int) (rows cols : Nat) (F : Fm) : List UInt8 × Nat :=
  if (seqB (itemR n rows cols) F.items).2 ≠ 0 then ([], (seqB (itemR n rows cols) F.items).2)
  else if 8192 < 2 + (seqB (itemR n rows cols) F.items).1.length then ([], 3)
  else (cmdB F :: ctlB F :: (seqB (itemR n rows cols) F.items).1, 0)
theorem itemR_len (n : Int) (rows cols : Nat) (i : It) (hx : i.ext.length ≤ 1000) (ht : i.text.size ≤ 1000) : (itemR n rows cols i).1.length ≤ 2000 := by
  have hc := codesF_len n i.text i.text.size 0 []
  have hf := flatP_len i.ext
  unfold itemR
  split
  · simp
  · split
    · simp
    · split
      · simp
      · split
        · simp
        · split
          · simp
          · have he : (encM (addrAt rows cols i.row i.col)).length = 2 := rfl
            simp only [List.length_nil, Nat.zero_add] at hc
            unfold itemB lookB
            simp only [List.length_append, List.length_cons, he]
            split <;> split <;> simp <;> omega
def sumI (n : Int) (rows cols : Nat) (l : List It) (i : Nat) : List UInt8 := (l.take i).flatMap fun o => (itemR n rows cols o).1
theorem sumI_succ (n : Int) (rows cols : Nat) (l : List It) (i : Nat) (h : i < l.length) : sumI n rows cols l (i + 1) = sumI n rows cols l i ++ (itemR n rows cols l[i]).1 := by
  rw [sumI, sumI, List.take_succ_eq_append_getElem h, List.flatMap_append]; simp
theorem sumI_len (n : Int) (rows cols : Nat) (l : List It) (hg : ∀ i ∈ l, i.ext.length ≤ 1000 ∧ i.text.size ≤ 1000) (i : Nat) (h : i ≤ l.length) : (sumI n rows cols l i).length ≤ i * 2000 := by
  induction i with
  | zero => simp [sumI]
  | succ i ih =>
    rw [sumI_succ n rows cols l i (by omega), List.length_append]
    have := ih (by omega)
    have := itemR_len n rows cols l[i] (hg _ (List.getElem_mem _)).1 (hg _ (List.getElem_mem _)).2
    omega
set_option maxHeartbeats 2000000 in
set_option maxRecDepth 8000 in
theorem prec_calls {rows cols : Nat} (hD : Dim rows cols) (b : Nat) (n : Int) (hn : isPage n) (x : Option Nat) (F : Fm) (hF : FOk F) (σ : Store) :
    ACalls Tryd.prog 9 [.agg (formC F), dimA rows cols, pgP b] (pgS b n x σ) fun v σ' => v = .tuple [.list true 1 (bytesA (recR n rows cols F).1), .lit (.int .i64 (recR n rows cols F).2)] ∧ ∃ x', NxP σ x x' ∧ σ' = pgS b n x' σ := by
  obtain ⟨hF1, hF2⟩ := hF
  have hcm := fun τ => command_calls (itsA F.items) F.er F.al F.re F.am F.un τ
  have hct := fun τ => control_calls (itsA F.items) F.er F.al F.re F.am F.un τ
  rw [← ctlB_nat] at hct
  have hval := fun τ => valid_calls hD τ
  have hRR : recR n rows cols F = if (seqB (itemR n rows cols) F.items).2 ≠ 0 then ([], (seqB (itemR n rows cols) F.items).2)
    else if 8192 < 2 + (seqB (itemR n rows cols) F.items).1.length then ([], 3)
    else (cmdB F :: ctlB F :: (seqB (itemR n rows cols) F.items).1, 0) := rfl
  have hcb : cmdK (if F.er = true then (if F.al = true then 3 else 2) else 1) = cmdB F := rfl
  rw [hcb] at hcm
  generalize cmdB F = cb at *
  generalize ctlB F = tb at *
  generalize recR n rows cols F = RR at *
  obtain ⟨items, er, al, re, am, un⟩ := F
  dsimp only at *
  unfold formC dimA
  unfold dimA at hval
  refine ACalls.of_awp follows (st := st9) (plans := pl9) (n := 50) Tryd.func9 rfl (by kernel_rfl) (by kernel_rfl) (by kernel_rfl) ?_
  simp +contextual [ite_free]
  intro p hp p2 e1 e2 hp2
  refine callK.eq (hval _) ?_
  simp [e1, e2]
  obtain ⟨pb1, f1⟩ := pgS_fresh hp
  obtain ⟨pb2, f2⟩ := pgS_fresh hp2
  rw [pgS_upd pb1, pgS_upd pb2]
  generalize hS : (σ.upd p _).upd p2 _ = S
  have sub0 : Store.sub σ S := by
    rw [← hS]
    exact Store.sub_upd (by simp [e1, e2, f2]) (Store.sub_upd f1 (Store.sub_refl _))
  have sm : ∀ g, S (mkey g) = σ (mkey g) := fun g => by rw [← hS]; simp
  have c1 : ∀ x', (pgS b n x' S) (p : Int) = some (formC ⟨items, er, al, re, am, un⟩) := fun x' => by
    rw [pgS_other pb1, ← hS]; simp [e1, e2, formC]
  have c2 : ∀ x', (pgS b n x' S) (p2 : Int) = some [.lit (.int .i64 rows), .lit (.int .i64 cols)] := fun x' => by
    rw [pgS_other pb2, ← hS]; simp
  unfold formC at c1
  clear hS
  repeat' first
    | with_reducible apply And.intro
    | (refine callK.eq (hcm _) ?_; simp [c1, c2])
    | (refine callK.eq (hct _) ?_; simp [c1, c2])
  all_goals
    refine codeK.loop follows (st := st9) (plans := pl9) (X := Nat × Option Nat) (fun y => y.1 ≤ items.length ∧ NxP σ x y.2 ∧ ∀ j (hj : j < items.length), j < y.1 → (itemR n rows cols items[j]).2 = 0)
      (fun y => [(2, pgP b), (4, .lit (.pointer (some ⟨p2, 0, none⟩))), (8, .list true 1 (bytesA (cb :: tb :: sumI n rows cols items y.1))), (26, .list false 9 (itsA items)), (27, .lit (.int .i64 items.length)), (28, .lit (.int .i64 y.1))]) (fun y => pgS b n y.2 S) (fun y => items.length - y.1) (0, x) (by kernel_rfl) ⟨by simp, .inl rfl, by simp⟩ (by simp [sumI, bytesA, byteA]) (Store.sub_refl _) fun y hy => ?_
    obtain ⟨i, x1⟩ := y
    obtain ⟨hi, hx1, hk⟩ := hy
    dsimp only at hi hx1 hk ⊢
    have hlen := sumI_len n rows cols items hF2 i hi
    by_cases hlt : i < items.length
    · have hw : IntKind.i64.wrap ((i : Int) + 1) = ((i + 1 : Nat) : Int) := wrap_i64 (by omega) (by omega)
      have ha := itsA_get items i hlt
      obtain ⟨hg1, hg2⟩ := hF2 _ (List.getElem_mem hlt)
      have hit := fun x' τ => pitem_calls hD b n hn x' items[i] hg1 (by omega) τ
      have hyes := fun h => seqB_bad (f := itemR n rows cols) hlt hk h
      have hno : (itemR n rows cols items[i]).2 = 0 → ∀ j (hj : j < items.length), j < i + 1 → (itemR n rows cols items[j]).2 = 0 := fun h j hj hji => by
        by_cases e : j = i
        · subst e; exact h
        · exact hk j hj (by omega)
      have hsucc := sumI_succ n rows cols items i hlt
      have hlen1 := itemR_len n rows cols items[i] hg1 hg2
      generalize items[i] = z at *
      obtain ⟨zr, zc, zf, ze, zt, zu⟩ := z
      generalize itemR n rows cols ⟨zr, zc, zf, ze, zt, zu⟩ = IR at *
      obtain ⟨bs, er1⟩ := IR
      dsimp only at hlen1
      unfold itC at ha hit
      unfold dimA at hit
      simp [hlt, ha]
      intro p3 hp3
      obtain ⟨pb3, f3⟩ := pgS_fresh hp3
      have n2 : ¬ p2 = p3 := fun e => by subst e; rw [c2] at hp3; cases hp3
      simp [n2, c2]
      rw [pgS_upd pb3]
      refine callK.of (hit x1 _) ?_
      rintro v τ ⟨rfl, x2, hx2, rfl⟩
      have hx3 : NxP σ x x2 := hx1.trans (hx2.imp id (fun ⟨g, e, hg⟩ => ⟨g, e, by rw [← sm g]; simpa using hg⟩))
      have hsb : Store.sub (pgS b n x2 S) (pgS b n x2 (S.upd p3 (itC ⟨zr, zc, zf, ze, zt, zu⟩))) := pgS_mono (Store.sub_upd f3 (Store.sub_refl _))
      unfold itC at hsb
      by_cases he : er1 = 0
      · subst he
        simp
        refine ⟨by omega, by omega, i + 1, x2, ⟨by omega, hx3, hno rfl⟩, by omega, ⟨le_of_eq ?_, by rw [hw]; exact AV.le_refl _⟩, hsb⟩
        rw [hsucc]
        simp [bytesA]
      · have hy := hyes he
        rw [if_pos (by rw [hy]; exact he), hy] at hRR
        subst hRR
        have he' : ¬ (er1 : Int) = 0 := by omega
        simp [he, he', bytesA_nil]
        exact ⟨_, AV.le_refl _, _, Store.sub_trans (pgS_mono sub0) hsb, rfl, x2, hx3, rfl⟩
    · obtain rfl : i = items.length := by omega
      have hz := seqB_ok (f := itemR n rows cols) (l := items) fun o ho => by
        obtain ⟨j, hj, rfl⟩ := List.mem_iff_getElem.1 ho
        exact hk j hj hj
      have hse : sumI n rows cols items items.length = (seqB (itemR n rows cols) items).1 := by rw [hz, sumI, List.take_length]
      rw [if_neg (by rw [hz]; simp), ← hse] at hRR
      generalize sumI n rows cols items items.length = W at *
      by_cases h8 : 8192 < 2 + W.length
      · rw [if_pos h8] at hRR
        subst hRR
        have h8' : (8192 : Int) < (W.length : Int) + 1 + 1 := by omega
        simp [h8', bytesA_nil]
        exact ⟨_, AV.le_refl _, _, pgS_mono sub0, rfl, x1, hx1, rfl⟩
      · rw [if_neg h8] at hRR
        subst hRR
        have h8' : ¬ (8192 : Int) < (W.length : Int) + 1 + 1 := by omega
        simp [h8']
        exact ⟨_, AV.le_refl _, _, pgS_mono sub0, rfl, x1, hx1, rfl⟩
end Go.Proofs.YtbeohjinefaaoaaDoor
/-
  A form's record: the document's.
-/
namespace Go.Proofs.YtbeohjinefaaoaaDoor
open Go Go.AL Go.Sp

theorem codeK.freeze {P : Program} {n : Nat} {c : Code} {Q : Exit → Slots → Store → Prop} {A : Slots} {σ : Store} {tg : Tag Q} (t p cap sz : Nat) (vs rest : List AV) (hA : A t = .lit (.slice (some ⟨p, 0, none⟩) vs.length cap)) (hp : σ p = some (flat vs ++ rest))
    (hc : (flat vs ++ rest).length = cap * sz) (hm : cap ≤ maxLen) (hl : vs.length ≤ cap) (hw : ∀ v ∈ vs, v.cells.length = sz) (h : codeK P n c Q (upd A t (.list true sz vs)) (σ.del p)) : codeK P n c Q A σ tg :=
  AWp.freeze hA hp hc hm hl hw h
@[simp] def st10x : List Nat := [69, 70, 77, 1000019]
set_option maxHeartbeats 4000000 in
set_option maxRecDepth 8000 in
theorem rrec_calls {rows cols : Nat} (hD : Dim rows cols) (n : Int) (hn : isPage n) (F : Fm) (hF : FOk F) (σ : Store) :
    ACalls Tryd.prog 10 [.agg (formC F), dimA rows cols, .lit (.int .i64 n)] σ fun v σ' => v = .tuple [.list true 1 (bytesA (recR n rows cols F).1), .lit (.int .i64 (recR n rows cols F).2)] ∧ σ' = σ := by
  obtain ⟨hF1, hF2⟩ := hF
  have his := fun τ => ris_calls n hn τ
  have hval := fun τ => rvalid_calls hD τ
  have hRR : recR n rows cols F = if (seqB (itemR n rows cols) F.items).2 ≠ 0 then ([], (seqB (itemR n rows cols) F.items).2)
    else if 8192 < 2 + (seqB (itemR n rows cols) F.items).1.length then ([], 3)
    else (cmdB F :: ctlB F :: (seqB (itemR n rows cols) F.items).1, 0) := rfl
  have hcb : cmdB F = if F.er = true then (if F.al = true then 126 else 245) else 241 := by
    unfold cmdB cmdK
    cases F.er <;> cases F.al <;> rfl
  have hct : ctlB F = 64 + (if F.un = true then 1 else 0) + (if F.re = true then 2 else 0) + (if F.am = true then 4 else 0) := by
    unfold ctlB ctlN
    cases F.re <;> cases F.am <;> cases F.un <;> rfl
  generalize cmdB F = cb at *
  generalize ctlB F = tb at *
  generalize recR n rows cols F = RR at *
  obtain ⟨items, er, al, re, am, un⟩ := F
  dsimp only at *
  unfold formC dimA
  unfold dimA at hval
  refine ACalls.of_awp follows (st := st10x) (plans := pl10) (n := 78) Tryd.func10 rfl (by kernel_rfl) (by kernel_rfl) (by kernel_rfl) ?_
  simp +contextual [ite_free]
  intro p hp p2 e1 e2 hp2
  refine callK.eq (his _) ?_
  simp [e1, e2]
  refine callK.eq (hval _) ?_
  simp [e1, e2]
  have hfl : List.map AV.drop1 (flat [.lit (.int .u8 241), .lit (.int .u8 64)]) = [.lit (.int .u8 241), .lit (.int .u8 64)] := rfl
  rw [hfl]
  intro p8 hp8
  simp only [ite_none] at hp8
  obtain ⟨h8a, h8b, hp8⟩ := hp8
  have h8a' : ¬ p2 = p8 := fun e => h8a e.symm
  have h8b' : ¬ p = p8 := fun e => h8b e.symm
  have u1 : IntKind.u8.wrap 65 = 65 := by decide
  have u2 : IntKind.u8.wrap 66 = 66 := by decide
  have u3 : IntKind.u8.wrap 67 = 67 := by decide
  have u4 : IntKind.u8.wrap 68 = 68 := by decide
  have u5 : IntKind.u8.wrap 69 = 69 := by decide
  have u6 : IntKind.u8.wrap 70 = 70 := by decide
  have u7 : IntKind.u8.wrap 71 = 71 := by decide
  have s0 : ∀ A B : List AV, ((σ.upd p A).upd p2 B) p8 = none := fun A B => by simp [h8a, h8b, hp8]
  have sub0 : ∀ A B : List AV, Store.sub σ ((σ.upd p A).upd p2 B) := fun A B => Store.sub_upd (by simp [e1, e2, hp2]) (Store.sub_upd hp (Store.sub_refl _))
  have c2 : ∀ A B : List AV, ((σ.upd p A).upd p2 B) p2 = some B := fun A B => by simp
  clear hval his
  cases er <;> cases al <;> cases un <;> cases re <;> cases am
  all_goals
    simp only [Bool.false_eq_true, if_false, if_true] at hcb hct
    simp [h8a, h8b, h8a', h8b', e1, e2, u1, u2, u3, u4, u5, u6, u7]
    refine codeK.freeze 8 p8 2 1 [byteA cb, byteA tb] [] (by simp) (by rw [hcb, hct]; simp [flat, byteA]) (by simp [flat, byteA]) (by decide) (by simp) (by simp [byteA]) ?_
    rw [del_upd_new (s0 _ _)]
    generalize hY : (σ.upd p _).upd p2 _ = Y
    have hsub : Store.sub σ Y := by rw [← hY]; exact sub0 _ _
    have y2 : Y p2 = some [.lit (.int .i64 rows), .lit (.int .i64 cols)] := by rw [← hY]; exact c2 _ _
    clear hcb hct hY
    refine codeK.loop follows (st := st10x) (plans := pl10) (X := Nat) (fun y => y ≤ items.length ∧ ∀ j (hj : j < items.length), j < y → (itemR n rows cols items[j]).2 = 0)
      (fun y => [(2, .lit (.int .i64 n)), (4, .lit (.pointer (some ⟨p2, 0, none⟩))), (8, .list true 1 (bytesA (cb :: tb :: sumI n rows cols items y))), (54, .list false 9 (itsA items)), (55, .lit (.int .i64 items.length)), (56, .lit (.int .i64 y))]) (fun _ => Y) (fun y => items.length - y) 0 (by kernel_rfl) ⟨by simp, by simp⟩ (by simp [sumI, bytesA]) (Store.sub_refl _) fun i hy => ?_
    obtain ⟨hi, hk⟩ := hy
    have hlen := sumI_len n rows cols items hF2 i hi
    by_cases hlt : i < items.length
    · have hw : IntKind.i64.wrap ((i : Int) + 1) = ((i + 1 : Nat) : Int) := wrap_i64 (by omega) (by omega)
      have ha := itsA_get items i hlt
      obtain ⟨hg1, hg2⟩ := hF2 _ (List.getElem_mem hlt)
      have hit := fun τ => ritem_calls hD n hn items[i] hg1 (by omega) τ
      have hyes := fun h => seqB_bad (f := itemR n rows cols) hlt hk h
      have hno : (itemR n rows cols items[i]).2 = 0 → ∀ j (hj : j < items.length), j < i + 1 → (itemR n rows cols items[j]).2 = 0 := fun h j hj hji => by
        by_cases e : j = i
        · subst e; exact h
        · exact hk j hj (by omega)
      have hsucc := sumI_succ n rows cols items i hlt
      have hlen1 := itemR_len n rows cols items[i] hg1 hg2
      generalize items[i] = z at *
      obtain ⟨zr, zc, zf, ze, zt, zu⟩ := z
      generalize itemR n rows cols ⟨zr, zc, zf, ze, zt, zu⟩ = IR at *
      obtain ⟨bs, er1⟩ := IR
      dsimp only at hlen1
      unfold itC at ha hit
      unfold dimA at hit
      simp [hlt, ha]
      intro p3 hp3
      have n2 : ¬ p2 = p3 := fun e => by subst e; rw [y2] at hp3; cases hp3
      simp [n2, y2]
      refine callK.eq (hit _) ?_
      by_cases he : er1 = 0
      · subst he
        simp
        refine ⟨by omega, by omega, i + 1, ⟨by omega, hno rfl⟩, by omega, ⟨le_of_eq ?_, by rw [hw]; exact AV.le_refl _⟩, Store.sub_upd hp3 (Store.sub_refl _)⟩
        rw [hsucc]
        simp [bytesA]
      · have hy := hyes he
        rw [if_pos (by rw [hy]; exact he), hy] at hRR
        subst hRR
        have he' : ¬ (er1 : Int) = 0 := by omega
        simp [he, he', bytesA_nil]
        exact Store.sub_trans hsub (Store.sub_upd hp3 (Store.sub_refl _))
    · obtain rfl : i = items.length := by omega
      have hz := seqB_ok (f := itemR n rows cols) (l := items) fun o ho => by
        obtain ⟨j, hj, rfl⟩ := List.mem_iff_getElem.1 ho
        exact hk j hj hj
      have hse : sumI n rows cols items items.length = (seqB (itemR n rows cols) items).1 := by rw [hz, sumI, List.take_length]
      rw [if_neg (by rw [hz]; simp), ← hse] at hRR
      generalize sumI n rows cols items items.length = W at *
      by_cases h8 : 8192 < 2 + W.length
      · rw [if_pos h8] at hRR
        subst hRR
        have h8' : (8192 : Int) < (W.length : Int) + 1 + 1 := by omega
        simp [h8', bytesA_nil]
        exact hsub
      · rw [if_neg h8] at hRR
        subst hRR
        have h8' : ¬ (8192 : Int) < (W.length : Int) + 1 + 1 := by omega
        simp [h8']
        exact hsub
end Go.Proofs.YtbeohjinefaaoaaDoor
/-
  Records that there are none of.
-/
namespace Go.Proofs.YtbeohjinefaaoaaDoor
open Go Go.AL Go.Sp

set_option maxRecDepth 8000 in
theorem roth_none (n : Int) (hn : ¬ isPage n) (σ : Store) : ACalls Tryd.prog 38 [.lit (.int .i64 n)] σ fun v σ' => v = .tuple [.lit (.string ⟨#[]⟩), .lit (.bool false)] ∧ σ' = σ := by
  have h1 : ¬ n = 37 := fun e => hn (by subst e; decide)
  have h2 : ¬ n = 273 := fun e => hn (by subst e; decide)
  have h3 : ¬ n = 297 := fun e => hn (by subst e; decide)
  have h4 : ¬ n = 500 := fun e => hn (by subst e; decide)
  have h5 : ¬ n = 1047 := fun e => hn (by subst e; decide)
  have h6 : ¬ n = 1140 := fun e => hn (by subst e; decide)
  refine ACalls.of_awp follows (st := st38) (plans := pl38) (n := 17) Tryd.func38 rfl (by kernel_rfl) (by kernel_rfl) (by kernel_rfl) ?_
  simp [h1, h2, h3, h4, h5, h6]
set_option maxRecDepth 8000 in
theorem ris_none (n : Int) (hn : ¬ isPage n) (σ : Store) : ACalls Tryd.prog 21 [.lit (.int .i64 n)] σ fun v σ' => v = .lit (.bool false) ∧ σ' = σ := by
  refine ACalls.of_awp follows (st := st21) (plans := pl21) (n := 11) Tryd.func21 rfl (by kernel_rfl) (by kernel_rfl) (by kernel_rfl) ?_
  simp
  refine callK.eq (roth_none n hn _) ?_
  simp
set_option maxRecDepth 8000 in
theorem rrec_none (n : Int) (hn : ¬ isPage n) (F : Fm) (R C : Int) (σ : Store) :
    ACalls Tryd.prog 10 [.agg (formC F), .agg [.lit (.int .i64 R), .lit (.int .i64 C)], .lit (.int .i64 n)] σ fun v σ' => v = .tuple [.list true 1 (bytesA []), .lit (.int .i64 5)] ∧ σ' = σ := by
  have his := fun τ => ris_none n hn τ
  unfold formC
  refine ACalls.of_awp follows (st := st10) (plans := pl10) (n := 78) Tryd.func10 rfl (by kernel_rfl) (by kernel_rfl) (by kernel_rfl) ?_
  simp +contextual [ite_free]
  intro p hp p2 e1 e2 hp2
  refine callK.eq (his _) ?_
  simp [bytesA_nil]
  exact Store.sub_upd (by simp [e1, e2, hp2]) (Store.sub_upd hp (Store.sub_refl _))
set_option maxRecDepth 8000 in
theorem rrec_bad (n : Int) (hn : isPage n) (F : Fm) (R C : Int) (hb : okSz R C = false) (σ : Store) :
    ACalls Tryd.prog 10 [.agg (formC F), .agg [.lit (.int .i64 R), .lit (.int .i64 C)], .lit (.int .i64 n)] σ fun v σ' => v = .tuple [.list true 1 (bytesA []), .lit (.int .i64 1)] ∧ σ' = σ := by
  have his := fun τ => ris_calls n hn τ
  have hval := fun τ => rvalidZ_calls R C τ
  rw [hb] at hval
  unfold formC
  refine ACalls.of_awp follows (st := st10) (plans := pl10) (n := 78) Tryd.func10 rfl (by kernel_rfl) (by kernel_rfl) (by kernel_rfl) ?_
  simp +contextual [ite_free]
  intro p hp p2 e1 e2 hp2
  refine callK.eq (his _) ?_
  simp
  refine callK.eq (hval _) ?_
  simp [bytesA_nil]
  exact Store.sub_upd (by simp [e1, e2, hp2]) (Store.sub_upd hp (Store.sub_refl _))
set_option maxRecDepth 8000 in
theorem prec_nil (F : Fm) (R C : Int) (σ : Store) :
    ACalls Tryd.prog 9 [.agg (formC F), .agg [.lit (.int .i64 R), .lit (.int .i64 C)], .lit (.pointer none)] σ fun v σ' => v = .tuple [.list true 1 (bytesA []), .lit (.int .i64 5)] ∧ σ' = σ := by
  unfold formC
  refine ACalls.of_awp follows (st := st9) (plans := pl9) (n := 50) Tryd.func9 rfl (by kernel_rfl) (by kernel_rfl) (by kernel_rfl) ?_
  simp +contextual [ite_free, bytesA_nil]
  intro p hp p2 e1 e2 hp2
  exact Store.sub_upd (by simp [e1, e2, hp2]) (Store.sub_upd hp (Store.sub_refl _))
set_option maxRecDepth 8000 in
theorem prec_bad (b : Nat) (F : Fm) (R C : Int) (hb : okSz R C = false) (σ : Store) :
    ACalls Tryd.prog 9 [.agg (formC F), .agg [.lit (.int .i64 R), .lit (.int .i64 C)], pgP b] σ fun v σ' => v = .tuple [.list true 1 (bytesA []), .lit (.int .i64 1)] ∧ σ' = σ := by
  have hval := fun τ => validZ_calls R C τ
  rw [hb] at hval
  unfold formC
  refine ACalls.of_awp follows (st := st9) (plans := pl9) (n := 50) Tryd.func9 rfl (by kernel_rfl) (by kernel_rfl) (by kernel_rfl) ?_
  simp +contextual [ite_free]
  intro p hp p2 e1 e2 hp2
  refine callK.eq (hval _) ?_
  simp [bytesA_nil]
  exact Store.sub_upd (by simp [e1, e2, hp2]) (Store.sub_upd hp (Store.sub_refl _))
theorem okSz_dim {R C : Int} (h : okSz R C = true) : Dim R.toNat C.toNat ∧ R = (R.toNat : Int) ∧ C = (C.toNat : Int) := by
  unfold okSz at h
  obtain ⟨h1, h2, h3, h4, h5⟩ := of_decide_eq_true h
  obtain ⟨r, rfl⟩ : ∃ r : Nat, R = r := ⟨R.toNat, by omega⟩
  obtain ⟨c, rfl⟩ : ∃ c : Nat, C = c := ⟨C.toNat, by omega⟩
  rw [← Int.natCast_mul] at h5
  simp only [Int.toNat_natCast, and_self, and_true]
  exact ⟨by omega, by omega, by omega, by omega, by omega, Nat.mul_pos (by omega) (by omega)⟩
end Go.Proofs.YtbeohjinefaaoaaDoor
