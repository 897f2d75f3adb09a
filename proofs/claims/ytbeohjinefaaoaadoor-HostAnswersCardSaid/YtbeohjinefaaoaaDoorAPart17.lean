/-
  A form's record: the program's.
-/
import Derived.Test.YtbeohjinefaaoaaDoorAPart16
set_option linter.unusedSimpArgs false
set_option linter.unusedVariables false
namespace Go.Proofs.YtbeohjinefaaoaaDoor
open Go Go.AL Go.Sp

structure Fm where
  items : List It
  er : Bool
  al : Bool
  re : Bool
  am : Bool
  un : Bool
def itsA (l : List It) : List AV := l.map fun i => .agg (itC i)
@[simp] theorem itsA_length (l : List It) : (itsA l).length = l.length := by simp [itsA]
theorem itsA_get (l : List It) (i : Nat) (h : i < l.length) (h' : i < (itsA l).length) : (itsA l)[i]'h' = .agg (itC l[i]) := by simp [itsA]
def formC (F : Fm) : List AV := [.list false 9 (itsA F.items), .lit (.bool F.er), .lit (.bool F.al), .lit (.bool F.re), .lit (.bool F.am), .lit (.bool F.un)]
def FOk (F : Fm) : Prop := F.items.length ≤ 8 ∧ ∀ i ∈ F.items, i.ext.length ≤ 1000 ∧ i.text.size ≤ 1000
def cmdB (F : Fm) : UInt8 := cmdK (if F.er = true then (if F.al = true then 3 else 2) else 1)
def ctlB (F : Fm) : UInt8 := UInt8.ofNat (ctlN F.re F.am F.un 3)
theorem ctlB_nat (F : Fm) : (ctlB F).toNat = ctlN F.re F.am F.un 3 := by
  unfold ctlB ctlN
  cases F.re <;> cases F.am <;> cases F.un <;> rfl
def recR (n : Int) (rows cols : Nat) (F : Fm) : List UInt8 × Nat :=
  if (seqB (itemR n rows cols) F.items).2 ≠ 0 then ([], (seqB (itemR n rows cols) F.items).2)
  else if 8192 < 2 + (seqB (itemR n rows cols) F.items).1.length then ([], 3)
  else (cmdB F :: ctlB F :: (seqB (itemR n rows cols) F.items).1, 0)
theorem itemR_len (n : Int) (rows cols : Nat) (i : It) (hx : i.ext.length ≤ 1000) (ht : i.text.size ≤ 1000) : (itemR n rows cols i).1.length ≤ 2000 := by
  have hc := codesF_len n i.text i.text.size 0 []
  have hf := flatP_len i.ext
  unfold itemR
  split
  · simp
  · split
    · simp
    · split
      · simp
      · split
        · simp
        · split
          · simp
          · have he : (encM (addrAt rows cols i.row i.col)).length = 2 := rfl
            simp only [List.length_nil, Nat.zero_add] at hc
            unfold itemB lookB
            simp only [List.length_append, List.length_cons, he]
            split <;> split <;> simp <;> omega
def sumI (n : Int) (rows cols : Nat) (l : List It) (i : Nat) : List UInt8 := (l.take i).flatMap fun o => (itemR n rows cols o).1
theorem sumI_succ (n : Int) (rows cols : Nat) (l : List It) (i : Nat) (h : i < l.length) : sumI n rows cols l (i + 1) = sumI n rows cols l i ++ (itemR n rows cols l[i]).1 := by
  rw [sumI, sumI, List.take_succ_eq_append_getElem h, List.flatMap_append]; simp
theorem sumI_len (n : Int) (rows cols : Nat) (l : List It) (hg : ∀ i ∈ l, i.ext.length ≤ 1000 ∧ i.text.size ≤ 1000) (i : Nat) (h : i ≤ l.length) : (sumI n rows cols l i).length ≤ i * 2000 := by
  induction i with
  | zero => simp [sumI]
  | succ i ih =>
    rw [sumI_succ n rows cols l i (by omega), List.length_append]
    have := ih (by omega)
    have := itemR_len n rows cols l[i] (hg _ (List.getElem_mem _)).1 (hg _ (List.getElem_mem _)).2
    omega
set_option maxHeartbeats 2000000 in
set_option maxRecDepth 8000 in
theorem prec_calls {rows cols : Nat} (hD : Dim rows cols) (b : Nat) (n : Int) (hn : isPage n) (x : Option Nat) (F : Fm) (hF : FOk F) (σ : Store) :
    ACalls Tryd.prog 9 [.agg (formC F), dimA rows cols, pgP b] (pgS b n x σ) fun v σ' => v = .tuple [.list true 1 (bytesA (recR n rows cols F).1), .lit (.int .i64 (recR n rows cols F).2)] ∧ ∃ x', NxP σ x x' ∧ σ' = pgS b n x' σ := by
  obtain ⟨hF1, hF2⟩ := hF
  have hcm := fun τ => command_calls (itsA F.items) F.er F.al F.re F.am F.un τ
  have hct := fun τ => control_calls (itsA F.items) F.er F.al F.re F.am F.un τ
  rw [← ctlB_nat] at hct
  have hval := fun τ => valid_calls hD τ
  have hRR : recR n rows cols F = if (seqB (itemR n rows cols) F.items).2 ≠ 0 then ([], (seqB (itemR n rows cols) F.items).2)
    else if 8192 < 2 + (seqB (itemR n rows cols) F.items).1.length then ([], 3)
    else (cmdB F :: ctlB F :: (seqB (itemR n rows cols) F.items).1, 0) := rfl
  have hcb : cmdK (if F.er = true then (if F.al = true then 3 else 2) else 1) = cmdB F := rfl
  rw [hcb] at hcm
  generalize cmdB F = cb at *
  generalize ctlB F = tb at *
  generalize recR n rows cols F = RR at *
  obtain ⟨items, er, al, re, am, un⟩ := F
  dsimp only at *
  unfold formC dimA
  unfold dimA at hval
  refine ACalls.of_awp follows (st := st9) (plans := pl9) (n := 50) Tryd.func9 rfl (by kernel_rfl) (by kernel_rfl) (by kernel_rfl) ?_
  simp +contextual [ite_free]
  intro p hp p2 e1 e2 hp2
  refine callK.eq (hval _) ?_
  simp [e1, e2]
  obtain ⟨pb1, f1⟩ := pgS_fresh hp
  obtain ⟨pb2, f2⟩ := pgS_fresh hp2
  rw [pgS_upd pb1, pgS_upd pb2]
  generalize hS : (σ.upd p _).upd p2 _ = S
  have sub0 : Store.sub σ S := by
    rw [← hS]
    exact Store.sub_upd (by simp [e1, e2, f2]) (Store.sub_upd f1 (Store.sub_refl _))
  have sm : ∀ g, S (mkey g) = σ (mkey g) := fun g => by rw [← hS]; simp
  have c1 : ∀ x', (pgS b n x' S) (p : Int) = some (formC ⟨items, er, al, re, am, un⟩) := fun x' => by
    rw [pgS_other pb1, ← hS]; simp [e1, e2, formC]
  have c2 : ∀ x', (pgS b n x' S) (p2 : Int) = some [.lit (.int .i64 rows), .lit (.int .i64 cols)] := fun x' => by
    rw [pgS_other pb2, ← hS]; simp
  unfold formC at c1
  clear hS
  repeat' first
    | with_reducible apply And.intro
    | (refine callK.eq (hcm _) ?_; simp [c1, c2])
    | (refine callK.eq (hct _) ?_; simp [c1, c2])
  all_goals
    refine codeK.loop follows (st := st9) (plans := pl9) (X := Nat × Option Nat) (fun y => y.1 ≤ items.length ∧ NxP σ x y.2 ∧ ∀ j (hj : j < items.length), j < y.1 → (itemR n rows cols items[j]).2 = 0)
      (fun y => [(2, pgP b), (4, .lit (.pointer (some ⟨p2, 0, none⟩))), (8, .list true 1 (bytesA (cb :: tb :: sumI n rows cols items y.1))), (26, .list false 9 (itsA items)), (27, .lit (.int .i64 items.length)), (28, .lit (.int .i64 y.1))]) (fun y => pgS b n y.2 S) (fun y => items.length - y.1) (0, x) (by kernel_rfl) ⟨by simp, .inl rfl, by simp⟩ (by simp [sumI, bytesA, byteA]) (Store.sub_refl _) fun y hy => ?_
    obtain ⟨i, x1⟩ := y
    obtain ⟨hi, hx1, hk⟩ := hy
    dsimp only at hi hx1 hk ⊢
    have hlen := sumI_len n rows cols items hF2 i hi
    by_cases hlt : i < items.length
    · have hw : IntKind.i64.wrap ((i : Int) + 1) = ((i + 1 : Nat) : Int) := wrap_i64 (by omega) (by omega)
      have ha := itsA_get items i hlt
      obtain ⟨hg1, hg2⟩ := hF2 _ (List.getElem_mem hlt)
      have hit := fun x' τ => pitem_calls hD b n hn x' items[i] hg1 (by omega) τ
      have hyes := fun h => seqB_bad (f := itemR n rows cols) hlt hk h
      have hno : (itemR n rows cols items[i]).2 = 0 → ∀ j (hj : j < items.length), j < i + 1 → (itemR n rows cols items[j]).2 = 0 := fun h j hj hji => by
        by_cases e : j = i
        · subst e; exact h
        · exact hk j hj (by omega)
      have hsucc := sumI_succ n rows cols items i hlt
      have hlen1 := itemR_len n rows cols items[i] hg1 hg2
      generalize items[i] = z at *
      obtain ⟨zr, zc, zf, ze, zt, zu⟩ := z
      generalize itemR n rows cols ⟨zr, zc, zf, ze, zt, zu⟩ = IR at *
      obtain ⟨bs, er1⟩ := IR
      dsimp only at hlen1
      unfold itC at ha hit
      unfold dimA at hit
      simp [hlt, ha]
      intro p3 hp3
      obtain ⟨pb3, f3⟩ := pgS_fresh hp3
      have n2 : ¬ p2 = p3 := fun e => by subst e; rw [c2] at hp3; cases hp3
      simp [n2, c2]
      rw [pgS_upd pb3]
      refine callK.of (hit x1 _) ?_
      rintro v τ ⟨rfl, x2, hx2, rfl⟩
      have hx3 : NxP σ x x2 := hx1.trans (hx2.imp id (fun ⟨g, e, hg⟩ => ⟨g, e, by rw [← sm g]; simpa using hg⟩))
      have hsb : Store.sub (pgS b n x2 S) (pgS b n x2 (S.upd p3 (itC ⟨zr, zc, zf, ze, zt, zu⟩))) := pgS_mono (Store.sub_upd f3 (Store.sub_refl _))
      unfold itC at hsb
      by_cases he : er1 = 0
      · subst he
        simp
        refine ⟨by omega, by omega, i + 1, x2, ⟨by omega, hx3, hno rfl⟩, by omega, ⟨le_of_eq ?_, by rw [hw]; exact AV.le_refl _⟩, hsb⟩
        rw [hsucc]
        simp [bytesA]
      · have hy := hyes he
        rw [if_pos (by rw [hy]; exact he), hy] at hRR
        subst hRR
        have he' : ¬ (er1 : Int) = 0 := by omega
        simp [he, he', bytesA_nil]
        exact ⟨_, AV.le_refl _, _, Store.sub_trans (pgS_mono sub0) hsb, rfl, x2, hx3, rfl⟩
    · obtain rfl : i = items.length := by omega
      have hz := seqB_ok (f := itemR n rows cols) (l := items) fun o ho => by
        obtain ⟨j, hj, rfl⟩ := List.mem_iff_getElem.1 ho
        exact hk j hj hj
      have hse : sumI n rows cols items items.length = (seqB (itemR n rows cols) items).1 := by rw [hz, sumI, List.take_length]
      rw [if_neg (by rw [hz]; simp), ← hse] at hRR
      generalize sumI n rows cols items items.length = W at *
      by_cases h8 : 8192 < 2 + W.length
      · rw [if_pos h8] at hRR
        subst hRR
        have h8' : (8192 : Int) < (W.length : Int) + 1 + 1 := by omega
        simp [h8', bytesA_nil]
        exact ⟨_, AV.le_refl _, _, pgS_mono sub0, rfl, x1, hx1, rfl⟩
      · rw [if_neg h8] at hRR
        subst hRR
        have h8' : ¬ (8192 : Int) < (W.length : Int) + 1 + 1 := by omega
        simp [h8']
        exact ⟨_, AV.le_refl _, _, pgS_mono sub0, rfl, x1, hx1, rfl⟩
end Go.Proofs.YtbeohjinefaaoaaDoor
/-
  A form's record: the document's.
-/
namespace Go.Proofs.YtbeohjinefaaoaaDoor
open Go Go.AL Go.Sp

theorem codeK.freeze {P : Program} {n : Nat} {c : Code} {Q : Exit → Slots → Store → Prop} {A : Slots} {σ : Store} {tg : Tag Q} (t p cap sz : Nat) (vs rest : List AV) (hA : A t = .lit (.slice (some ⟨p, 0, none⟩) vs.length cap)) (hp : σ p = some (flat vs ++ rest))
    (hc : (flat vs ++ rest).length = cap * sz) (hm : cap ≤ maxLen) (hl : vs.length ≤ cap) (hw : ∀ v ∈ vs, v.cells.length = sz) (h : codeK P n c Q (upd A t (.list true sz vs)) (σ.del p)) : codeK P n c Q A σ tg :=
  AWp.freeze hA hp hc hm hl hw h
@[simp] def st10x : List Nat := [69, 70, 77, 1000019]
end Go.Proofs.YtbeohjinefaaoaaDoor
/-
  Records that there are none of.
-/
namespace Go.Proofs.YtbeohjinefaaoaaDoor
open Go Go.AL Go.Sp

set_option maxRecDepth 8000 in
theorem roth_none (n : Int) (hn : ¬ isPage n) (σ : Store) : ACalls Tryd.prog 38 [.lit (.int .i64 n)] σ fun v σ' => v = .tuple [.lit (.string ⟨#[]⟩), .lit (.bool false)] ∧ σ' = σ := by
  have h1 : ¬ n = 37 := fun e => hn (by subst e; decide)
  have h2 : ¬ n = 273 := fun e => hn (by subst e; decide)
  have h3 : ¬ n = 297 := fun e => hn (by subst e; decide)
  have h4 : ¬ n = 500 := fun e => hn (by subst e; decide)
  have h5 : ¬ n = 1047 := fun e => hn (by subst e; decide)
  have h6 : ¬ n = 1140 := fun e => hn (by subst e; decide)
  refine ACalls.of_awp follows (st := st38) (plans := pl38) (n := 17) Tryd.func38 rfl (by kernel_rfl) (by kernel_rfl) (by kernel_rfl) ?_
  simp [h1, h2, h3, h4, h5, h6]
set_option maxRecDepth 8000 in
theorem ris_none (n : Int) (hn : ¬ isPage n) (σ : Store) : ACalls Tryd.prog 21 [.lit (.int .i64 n)] σ fun v σ' => v = .lit (.bool false) ∧ σ' = σ := by
  refine ACalls.of_awp follows (st := st21) (plans := pl21) (n := 11) Tryd.func21 rfl (by kernel_rfl) (by kernel_rfl) (by kernel_rfl) ?_
  simp
  refine callK.eq (roth_none n hn _) ?_
  simp
theorem okSz_dim {R C : Int} (h : okSz R C = true) : Dim R.toNat C.toNat ∧ R = (R.toNat : Int) ∧ C = (C.toNat : Int) := by
  unfold okSz at h
  obtain ⟨h1, h2, h3, h4, h5⟩ := of_decide_eq_true h
  obtain ⟨r, rfl⟩ : ∃ r : Nat, R = r := ⟨R.toNat, by omega⟩
  obtain ⟨c, rfl⟩ : ∃ c : Nat, C = c := ⟨C.toNat, by omega⟩
  rw [← Int.natCast_mul] at h5
  simp only [Int.toNat_natCast, and_self, and_true]
  exact ⟨by omega, by omega, by omega, by omega, by omega, Nat.mul_pos (by omega) (by omega)⟩
end Go.Proofs.YtbeohjinefaaoaaDoor
/-
  A form as the program has it.
-/
namespace Go.Proofs.YtbeohjinefaaoaaDoor
open Go Go.AL Go.Sp

theorem itsA_snoc (l : List It) (i : Nat) (h : i < l.length) : itsA (l.take (i + 1)) = itsA (l.take i) ++ [.agg (itC l[i])] := by
  rw [List.take_succ_eq_append_getElem h, itsA, itsA, List.map_append]; rfl
theorem pairsA_snoc (l : List (UInt8 × UInt8)) (i : Nat) (h : i < l.length) : pairsA (l.take (i + 1)) = pairsA (l.take i) ++ [.agg [byteA l[i].1, byteA l[i].2]] := by
  rw [List.take_succ_eq_append_getElem h, pairsA, pairsA, List.map_append]; rfl
theorem upd_mono {σ τ : Store} {p : Nat} {A : List AV} (h : Store.sub σ τ) : Store.sub (σ.upd p A) (τ.upd p A) := by
  refine Store.sub2 (fun o => ?_) (fun i => by simpa using h (mkey i))
  by_cases e : o = p
  · subst e; right; simp
  · have := h (o : Int)
    simpa [e] using this
set_option maxHeartbeats 2000000 in
set_option maxRecDepth 8000 in
theorem own_calls (F : Fm) (hl : F.items.length ≤ 8) (hx : ∀ i ∈ F.items, i.ext.length ≤ 1000) (σ : Store) : ACalls Tryd.prog 8 [.agg (formC F)] σ fun v σ' => v = .agg (formC F) ∧ σ' = σ := by
  obtain ⟨items, er, al, re, am, un⟩ := F
  dsimp only at *
  unfold formC
  dsimp only
  refine ACalls.of_awp follows (st := st8) (plans := pl8) (n := 60) Tryd.func8 rfl (by kernel_rfl) (by kernel_rfl) (by kernel_rfl) ?_
  simp +contextual [ite_free]
  intro p1 hp1 p2 e1 e2 hp2 p3 e3 e4 e5 e6 hp3
  generalize hY : (σ.upd p1 _).upd p2 _ = Y
  have hsub : Store.sub σ Y := by rw [← hY]; exact Store.sub_upd (by simp [e1, e2, hp2]) (Store.sub_upd hp1 (Store.sub_refl _))
  have y2 : Y p2 = some [.list true 9 [], .lit (.bool false), .lit (.bool false), .lit (.bool false), .lit (.bool false), .lit (.bool false)] := by rw [← hY]; simp
  have y3 : Y p3 = none := by rw [← hY]; simp [e3, e5, hp3]
  have s2 : σ p2 = none := hp2
  have s3 : σ p3 = none := hp3
  clear hY hp1 hp2 hp3 e1 e2 e5 e6
  refine codeK.loop follows (st := st8) (plans := pl8) (X := Nat) (fun i => i ≤ items.length)
    (fun i => [(2, .lit (.pointer (some ⟨p2, 0, none⟩))), (3, .lit (.pointer (some ⟨p3, 0, none⟩))), (21, .list false 9 (itsA items)), (22, .lit (.int .i64 items.length)), (23, .lit (.int .i64 i))]) (fun i => Y.upd p3 [.list true 9 (itsA (items.take i)), .lit (.bool er), .lit (.bool al), .lit (.bool re), .lit (.bool am), .lit (.bool un)]) (fun i => items.length - i) 0 (by kernel_rfl) (by simp) (by simp) (by simp [itsA]) fun i hi => ?_
  by_cases hlt : i < items.length
  · have hw : IntKind.i64.wrap ((i : Int) + 1) = ((i + 1 : Nat) : Int) := wrap_i64 (by omega) (by omega)
    have ha := itsA_get items i hlt
    have hsn := itsA_snoc items i hlt
    have hxl := hx _ (List.getElem_mem hlt)
    generalize items[i] = z at *
    obtain ⟨zr, zc, zf, ze, zt, zu⟩ := z
    dsimp only at hxl
    unfold itC at ha hsn
    simp +contextual [hlt, ha, ite_free]
    intro p5 a1 a2 hp5 p6 b1 b2 b3 b4 hp6
    generalize hZ : (Y.upd p3 _).upd p5 _ = Z
    have z3 : Z p3 = some [.list true 9 (itsA (items.take i)), .lit (.bool er), .lit (.bool al), .lit (.bool re), .lit (.bool am), .lit (.bool un)] := by rw [← hZ]; simp [a1, a2]
    have z5 : Z p5 = some (itC ⟨zr, zc, zf, ze, zt, zu⟩) := by rw [← hZ]; simp [itC]
    have z6 : Z p6 = none := by rw [← hZ]; simp [b1, b3, hp6]
    have zsub : Store.sub Y Z := by rw [← hZ]; exact Store.sub_upd hp5 (Store.sub_upd y3 (Store.sub_refl _))
    refine codeK.loop follows (st := st8) (plans := pl8) (X := Nat) (fun j => j ≤ ze.length)
      (fun j => [(2, .lit (.pointer (some ⟨p2, 0, none⟩))), (3, .lit (.pointer (some ⟨p3, 0, none⟩))), (6, .lit (.pointer (some ⟨p6, 0, none⟩))), (21, .list false 9 (itsA items)), (22, .lit (.int .i64 items.length)), (23, .lit (.int .i64 i)), (39, .list false 2 (pairsA ze)), (40, .lit (.int .i64 ze.length)), (41, .lit (.int .i64 j))])
      (fun j => Z.upd p6 [.lit (.int .i64 zr), .lit (.int .i64 zc), .lit (.bool zf.prot), .lit (.bool zf.num), .lit (.int .i64 zf.disp), .lit (.bool zf.mod), .list true 2 (pairsA (ze.take j)), .lit (.string zt), .lit (.bool zu)]) (fun j => ze.length - j) 0 (by kernel_rfl) (by simp) (by simp) (by simp [pairsA]) fun j hj => ?_
    by_cases hlj : j < ze.length
    · have hwj : IntKind.i64.wrap ((j : Int) + 1) = ((j + 1 : Nat) : Int) := wrap_i64 (by omega) (by omega)
      have ga := pairsA_get ze j hlj
      have gga : ∀ h : j < (pairsA ze).length, (pairsA ze)[j]'h = .agg [byteA ze[j].1, byteA ze[j].2] := fun h => by rw [List.getElem?_eq_getElem h] at ga; exact Option.some.inj ga
      have gsn := pairsA_snoc ze j hlj
      generalize ze[j] = y at *
      obtain ⟨y1, yy⟩ := y
      simp only [byteA] at ga gga gsn
      simp [hlj, ga, gga]
      intro p8 hp8
      simp only [ite_none] at hp8
      obtain ⟨d1, hp8⟩ := hp8
      have d2 : ¬ p6 = p8 := fun e => d1 e.symm
      simp [d1, d2]
      refine ⟨by omega, by omega, j + 1, by omega, by omega, by rw [hwj]; exact AV.le_refl _, ?_⟩
      rw [gsn]
      exact sub_box2 hp8 d2
    · obtain rfl : j = ze.length := by omega
      simp [z3, b1, b2, b3, b4]
      refine ⟨by omega, by omega, i + 1, by omega, by omega, by rw [hw]; exact AV.le_refl _, ?_⟩
      rw [hsn]
      exact upd_mono (Store.sub_upd hp6 zsub)
  · obtain rfl : i = items.length := by omega
    simp [y2, e3, e4]
    exact Store.sub_upd s2 (Store.sub_upd s3 hsub)
end Go.Proofs.YtbeohjinefaaoaaDoor
/-
  A form that is not too great.
-/
namespace Go.Proofs.YtbeohjinefaaoaaDoor
open Go Go.AL Go.Sp

theorem toB_extract (L : List UInt8) (i j : Nat) (h : i ≤ j) : (toB L).extract i j = toB ((L.drop i).take (j - i)) := by
  apply ByteArray.ext
  apply Array.ext'
  simp [toB, ByteArray.data_extract]
theorem aSlice_str0 {P : Program} {t : TypeId} (ht : tElem P t = none) (hs : tStr P t = true) (L : List UInt8) (b : Nat) (zb : Int) (hb : zb = b) (hbl : b ≤ L.length) :
    aSlice P t (.lit (.string (toB L))) none (some (.lit (.int .i64 zb))) none = some (.lit (.string (toB (L.take b)))) := by
  subst hb
  have hsz := toB_size L
  have h1 : (0 : Int) ≤ (b : Int) := by omega
  have h2 : b ≤ (toB L).size := by omega
  have := toB_extract L 0 b (by omega)
  simp at this
  simp [aSlice, ht, hs, bndA, h1, h2, this]
def cutT (t : ByteArray) : ByteArray := if 60 < t.size then toB (t.data.toList.take 60) else t
theorem cutT_size (t : ByteArray) : (cutT t).size ≤ 60 := by
  unfold cutT
  split
  · rw [toB_size]; simp; omega
  · omega
set_option maxRecDepth 8000 in
theorem cut_calls (t : ByteArray) (σ : Store) : ACalls Tryd.prog 15 [.lit (.string t), .lit (.int .i64 60)] σ fun v σ' => v = .lit (.string (cutT t)) ∧ σ' = σ := by
  have hsz : t.data.toList.length = t.size := Array.length_toList
  have ht : t = toB t.data.toList := by simp [toB]
  unfold cutT
  refine ACalls.of_awp follows (st := st15) (plans := pl15) (n := 13) Tryd.func15 rfl (by kernel_rfl) (by kernel_rfl) (by kernel_rfl) ?_
  by_cases h : 60 < t.size
  · have hsl := aSlice_str0 (P := Tryd.prog) (t := 9) (by simp) (by simp) t.data.toList 60 60 rfl (by omega)
    rw [← ht] at hsl
    have h' : (60 : Int) < (t.size : Int) := by omega
    simp [-e_aSlice_1, -e_aSlice_2, h, h', hsl]
  · have h' : ¬ (60 : Int) < (t.size : Int) := by omega
    simp [h, h']
def cutI (i : It) : It := { i with ext := i.ext.take 258, text := cutT i.text }
def fewF (F : Fm) : Fm := { F with items := (F.items.take 8).map cutI }
theorem few_ok (F : Fm) : FOk (fewF F) := by
  refine ⟨by simp [fewF]; omega, fun i hi => ?_⟩
  obtain ⟨j, _, rfl⟩ := List.mem_map.1 hi
  have := cutT_size j.text
  exact ⟨by simp [cutI]; omega, by show (cutT j.text).size ≤ 1000; omega⟩
set_option maxHeartbeats 2000000 in
set_option maxRecDepth 8000 in
theorem few_calls (F : Fm) (hl : F.items.length ≤ 9223372036854775807) (hx : ∀ i ∈ F.items, i.ext.length ≤ 9223372036854775807) (σ : Store) : ACalls Tryd.prog 6 [.agg (formC F)] σ fun v σ' => v = .agg (formC (fewF F)) ∧ σ' = σ := by
  obtain ⟨items, er, al, re, am, un⟩ := F
  unfold fewF
  dsimp only at *
  unfold formC
  dsimp only
  have hRes8 : ∀ i, i ≤ items.length → i = 8 ∨ i = items.length ∧ i ≤ 8 → itsA ((items.take i).map cutI) = itsA ((items.take 8).map cutI) := fun i hi h => by
    rcases h with rfl | ⟨rfl, h⟩
    · rfl
    · rw [List.take_length, List.take_of_length_le h]
  generalize itsA ((items.take 8).map cutI) = RES at *
  refine ACalls.of_awp follows (st := st6) (plans := pl6) (n := 38) Tryd.func6 rfl (by kernel_rfl) (by kernel_rfl) (by kernel_rfl) ?_
  simp +contextual [ite_free]
  intro p1 hp1 p2 e1 e2 hp2
  generalize hY : (σ.upd p1 _).upd p2 _ = Y
  have hsub : Store.sub σ Y := by rw [← hY]; exact Store.sub_upd (by simp [e1, e2, hp2]) (Store.sub_upd hp1 (Store.sub_refl _))
  have y1 : Y p1 = some [.list false 9 (itsA items), .lit (.bool er), .lit (.bool al), .lit (.bool re), .lit (.bool am), .lit (.bool un)] := by rw [← hY]; simp [e1, e2]
  have y2 : Y p2 = some [.list true 9 [], .lit (.bool false), .lit (.bool false), .lit (.bool false), .lit (.bool false), .lit (.bool false)] := by rw [← hY]; simp
  have s1 : σ p1 = none := hp1
  have s2 : σ p2 = none := hp2
  clear hY hp1 hp2
  have fromY : ∀ c : Nat, Y c = none → σ c = none := fun c hc => by
    rcases hsub c with h | h
    · exact h
    · rw [h]; exact hc
  refine codeK.loop follows (st := st6) (plans := pl6) (X := Nat) (fun i => i ≤ items.length ∧ i ≤ 8)
    (fun i => [(1, .lit (.pointer (some ⟨p1, 0, none⟩))), (2, .lit (.pointer (some ⟨p2, 0, none⟩))), (3, .list true 9 (itsA ((items.take i).map cutI))), (7, .list false 9 (itsA items)), (8, .lit (.int .i64 items.length)), (9, .lit (.int .i64 i))]) (fun _ => Y) (fun i => items.length - i) 0 (by kernel_rfl) (by simp) (by simp [itsA]) (Store.sub_refl _) fun i hi => ?_
  obtain ⟨hi, hi8⟩ := hi
  by_cases hlt : i < items.length
  · have hw : IntKind.i64.wrap ((i : Int) + 1) = ((i + 1 : Nat) : Int) := wrap_i64 (by omega) (by omega)
    have ha := itsA_get items i hlt
    have hxl := hx _ (List.getElem_mem hlt)
    have hsn : itsA ((items.take (i + 1)).map cutI) = itsA ((items.take i).map cutI) ++ [.agg (itC (cutI items[i]))] := by
      rw [List.take_succ_eq_append_getElem hlt, List.map_append]
      unfold itsA
      rw [List.map_append]; rfl
    have hle : (itsA ((items.take i).map cutI)).length ≤ 8 := by simp; omega
    have hres := hRes8 i hi
    generalize items[i] = z at *
    generalize itsA ((items.take i).map cutI) = acc at *
    obtain ⟨zr, zc, zf, ze, zt, zu⟩ := z
    dsimp only at hxl
    unfold itC at ha hsn
    have hct := fun τ => cut_calls zt τ
    by_cases h8 : i = 8
    · have hlt' : (i : Int) < items.length := by omega
      have h8' : (8 : Int) ≤ (i : Int) := by omega
      have h8'' : 8 ≤ i := by omega
      rw [hres (.inl h8)]
      clear h8
      simp [hlt, hlt', ha, h8', h8'']
      intro p5 hp5
      have n1 : ¬ p1 = p5 := fun e => by subst e; rw [y1] at hp5; cases hp5
      have n2 : ¬ p2 = p5 := fun e => by subst e; rw [y2] at hp5; cases hp5
      simp [n1, n2, y1, y2, e1, e2]
      exact Store.sub_upd s2 (Store.sub_upd s1 (Store.sub_upd (fromY p5 hp5) hsub))
    · have h8' : ¬ (8 : Int) ≤ (i : Int) := by omega
      have h8'' : ¬ 8 ≤ i := by omega
      simp +contextual [hlt, ha, ite_free, h8', h8'']
      intro p5 hp5
      refine callK.eq (hct _) ?_
      by_cases hz : 258 < ze.length
      · have hz' : (258 : Int) < ze.length := by omega
        have hz2 : 258 ≤ ze.length := by omega
        simp [hz', hz2]
        refine ⟨by omega, by omega, i + 1, ⟨by omega, by omega⟩, by omega, ⟨le_of_eq ?_, by rw [hw]; exact AV.le_refl _⟩, Store.sub_upd hp5 (Store.sub_refl _)⟩
        rw [← List.map_take, hsn]
        simp [itC, cutI, pairsA, List.map_take]
      · have hz' : ¬ (258 : Int) < ze.length := by omega
        have htk : ze.take 258 = ze := List.take_of_length_le (by omega)
        have hpl : (pairsA ze).take ze.length = pairsA ze := List.take_of_length_le (by simp)
        simp [hz', hpl]
        refine ⟨by omega, by omega, by omega, by omega, i + 1, ⟨by omega, by omega⟩, by omega, ⟨le_of_eq ?_, by rw [hw]; exact AV.le_refl _⟩, Store.sub_upd hp5 (Store.sub_refl _)⟩
        rw [← List.map_take, hsn]
        simp [itC, cutI, htk]
  · obtain rfl : i = items.length := by omega
    rw [hRes8 _ hi (.inr ⟨rfl, hi8⟩)]
    simp [y1, y2, e1, e2]
    exact Store.sub_upd s2 (Store.sub_upd s1 hsub)
end Go.Proofs.YtbeohjinefaaoaaDoor
/-
  A form's answers: the program's.
-/
namespace Go.Proofs.YtbeohjinefaaoaaDoor
open Go Go.AL Go.Sp

structure Rpt where
  aid : UInt8
  short : Bool
  cur : Int
  es : List (Int × List UInt8)
def entA (e : Int × List UInt8) : AV := .agg [.lit (.int .i64 e.1), .list false 1 (bytesA e.2)]
def entsA (l : List (Int × List UInt8)) : List AV := l.map entA
@[simp] theorem entsA_length (l : List (Int × List UInt8)) : (entsA l).length = l.length := by simp [entsA]
theorem entsA_get (l : List (Int × List UInt8)) (i : Nat) (h : i < l.length) (h' : i < (entsA l).length) : (entsA l)[i]'h' = entA l[i] := by simp [entsA]
def repC (R : Rpt) : List AV := [byteA R.aid, .lit (.bool R.short), .lit (.int .i64 R.cur), .list false 2 (entsA R.es)]
def atI (rows cols : Nat) (i : It) : Int := wrap (rows * cols) ((addrAt rows cols i.row i.col : Int) + 1)
def ansF (n : Int) (rows cols : Nat) (F : Fm) (R : Rpt) (k : Nat) : Option (List UInt8) := match F.items[k]? with
  | some i => ansE n (atI rows cols i) R.es none
  | none => none
def ansA (n : Int) (rows cols : Nat) (F : Fm) (R : Rpt) : List (Int × ByteArray) := ansP (ansF n rows cols F R) F.items.length
theorem put_mono {σ τ : Store} {g : Nat} {B : List AV} (h : Store.sub σ τ) : Store.sub (σ.put g B) (τ.put g B) := by
  refine Store.sub2 (fun o => by simpa using h (o : Int)) (fun i => ?_)
  by_cases e : i = g
  · subst e; right; simp
  · have := h (mkey i)
    simpa [e] using this
theorem put_same (σ : Store) (g : Nat) (A B : List AV) : (σ.put g A).put g B = σ.put g B := by
  refine Store.ext2 (fun o => by simp) (fun i => ?_)
  by_cases e : i = g <;> simp [e]
theorem ansE_take (n at0 : Int) (l : List (Int × List UInt8)) (j : Nat) (h : j < l.length) : ansE n at0 (l.take (j + 1)) none = if l[j].1 = at0 then some (txtB n l[j].2) else ansE n at0 (l.take j) none := by
  rw [List.take_succ_eq_append_getElem h, ansE_snoc]
structure PaSt where
  i : Nat
  x : Option Nat
/-- The page's map beside the answers'. -/
structure PaO (σ : Store) (g : Nat) (x x1 : Option Nat) : Prop where
  nx : NxP σ x x1
  key : KeyP σ x1
  ne : ¬ x1 = some g
theorem PaO.next {σ τ : Store} {g : Nat} {x x1 x2 : Option Nat} (h : PaO σ g x x1) (hn : NxP τ x1 x2) (ht : ∀ k, τ (mkey k) = none → ¬ k = g ∧ σ (mkey k) = none) : PaO σ g x x2 := by
  rcases hn with rfl | ⟨k, rfl, hk⟩
  · exact h
  · obtain ⟨q1, q2⟩ := ht k hk
    exact ⟨.inr ⟨k, rfl, q2⟩, fun k' e => by obtain rfl := Option.some.inj e; exact q2, fun e => q1 (Option.some.inj e)⟩
set_option maxHeartbeats 2000000 in
set_option maxRecDepth 8000 in
theorem pans_calls {rows cols : Nat} (hD : Dim rows cols) (b : Nat) (n : Int) (hn : isPage n) (x : Option Nat) (F : Fm) (hF : FOk F) (R : Rpt) (hR : R.es.length ≤ 6 ∧ ∀ e ∈ R.es, e.2.length ≤ 30) (σ : Store) (hk : KeyP σ x) :
    ACalls Tryd.prog 13 [.agg (formC F), .agg (repC R), dimA rows cols, pgP b] (pgS b n x σ) fun v σ' => ∃ (g : Nat) (x' : Option Nat), v = .lit (.map (some g)) ∧ σ (mkey g) = none ∧ NxP σ x x' ∧ ¬ x' = some g ∧ σ' = pgS b n x' (σ.put g (mapA (mapI (ansA n rows cols F R)))) := by
  obtain ⟨hF1, hF2⟩ := hF
  obtain ⟨hR1, hR2⟩ := hR
  have hval := fun τ => valid_calls hD τ
  have hA : ansA n rows cols F R = ansP (ansF n rows cols F R) F.items.length := rfl
  have hfk : ∀ k (h : k < F.items.length), ansF n rows cols F R k = ansE n (atI rows cols F.items[k]) R.es none := fun k h => by unfold ansF; rw [List.getElem?_eq_getElem h]
  generalize ansF n rows cols F R = f at *
  generalize ansA n rows cols F R = A at *
  obtain ⟨items, er, al, re, am, un⟩ := F
  obtain ⟨aid, short, cur, es⟩ := R
  dsimp only at *
  unfold formC repC dimA
  unfold dimA at hval
  refine ACalls.of_awp follows (st := st13) (plans := pl13) (n := 61) Tryd.func13 rfl (by kernel_rfl) (by kernel_rfl) (by kernel_rfl) ?_
  simp +contextual [ite_free]
  intro p4 hp4 p5 a1 a2 hp5 p6 b1 b2 b3 b4 hp6 g hg
  obtain ⟨pb4, f4⟩ := pgS_fresh hp4
  obtain ⟨pb5, f5⟩ := pgS_fresh hp5
  obtain ⟨pb6, f6⟩ := pgS_fresh hp6
  obtain ⟨xg, sg⟩ := pgS_key hg
  have hm0 : mapA [] = mapA (mapI (ansP f 0)) := rfl
  rw [pgS_upd pb4, pgS_upd pb5, pgS_upd pb6, pgS_mput xg, hm0]
  clear hm0
  generalize hS : ((σ.upd p4 _).upd p5 _).upd p6 _ = S
  have sub0 : Store.sub σ S := by
    rw [← hS]
    exact Store.sub_upd f6 (Store.sub_upd f5 (Store.sub_upd f4 (Store.sub_refl _)))
  have sm : ∀ k, S (mkey k) = σ (mkey k) := fun k => by rw [← hS]; simp
  have s4 : S p4 = some [.list false 9 (itsA items), .lit (.bool er), .lit (.bool al), .lit (.bool re), .lit (.bool am), .lit (.bool un)] := by rw [← hS]; simp [a1, a2, b1, b2, b3, b4]
  have s5 : S p5 = some [byteA aid, .lit (.bool short), .lit (.int .i64 cur), .list false 2 (entsA es)] := by rw [← hS]; simp [a1, a2, b1, b2, b3, b4]
  have s6 : S p6 = some [.lit (.int .i64 rows), .lit (.int .i64 cols)] := by rw [← hS]; simp
  clear hS
  have c4 : ∀ x1 M, (pgS b n x1 (S.put g M)) (p4 : Int) = some [.list false 9 (itsA items), .lit (.bool er), .lit (.bool al), .lit (.bool re), .lit (.bool am), .lit (.bool un)] := fun x1 M => by rw [pgS_other pb4]; simp [s4]
  have c6 : ∀ x1 M, (pgS b n x1 (S.put g M)) (p6 : Int) = some [.lit (.int .i64 rows), .lit (.int .i64 cols)] := fun x1 M => by rw [pgS_other pb6]; simp [s6]
  refine callK.eq (hval _) ?_
  simp [c4]
  refine codeK.loop follows (st := st13) (plans := pl13) (X := PaSt) (fun y => y.i ≤ items.length ∧ PaO σ g x y.x)
    (fun y => [(3, pgP b), (5, ptrA p5), (6, ptrA p6), (9, .lit (.map (some g))), (25, .list false 9 (itsA items)), (26, .lit (.int .i64 items.length)), (27, .lit (.int .i64 y.i))]) (fun y => pgS b n y.x (S.put g (mapA (mapI (ansP f y.i))))) (fun y => items.length - y.i) ⟨0, x⟩ (by kernel_rfl)
    ⟨by simp, .inl rfl, hk, xg⟩ (by simp) (Store.sub_refl _) fun y hy => ?_
  obtain ⟨i, x1⟩ := y
  obtain ⟨hi, hx1⟩ := hy
  dsimp only at hi hx1 ⊢
  by_cases hlt : i < items.length
  · have hw : IntKind.i64.wrap ((i : Int) + 1) = ((i + 1 : Nat) : Int) := wrap_i64 (by omega) (by omega)
    have ha := itsA_get items i hlt
    have hfi := hfk i hlt
    have had := fun τ => addrAt_calls hD items[i].row items[i].col τ
    have hwr := fun τ => wrap_calls hD ((addrAt rows cols items[i].row items[i].col : Int) + 1) τ
    have hal := addrAt_lt hD items[i].row items[i].col
    have h35 : rows * cols ≤ 3564 := hD.m
    have hat : ((wrap (rows * cols) ((addrAt rows cols items[i].row items[i].col : Int) + 1) : Nat) : Int) = atI rows cols items[i] := rfl
    rw [hat] at hwr
    generalize atI rows cols items[i] = AT at *
    generalize items[i] = z at *
    obtain ⟨zr, zc, zf, ze, zt, zu⟩ := z
    dsimp only at had hwr hal
    have hw2 : IntKind.i64.wrap ((addrAt rows cols zr zc : Int) + 1) = (addrAt rows cols zr zc : Int) + 1 := wrap_i64 (by omega) (by omega)
    generalize addrAt rows cols zr zc = AD at *
    unfold itC at ha
    unfold dimA at had hwr
    simp [hlt, ha]
    intro p11 hp11
    obtain ⟨pb11, f11⟩ := pgS_fresh hp11
    rw [put_nat] at f11
    have n5 : ¬ p5 = p11 := fun e => by subst e; rw [s5] at f11; cases f11
    have n6 : ¬ p6 = p11 := fun e => by subst e; rw [s6] at f11; cases f11
    rw [pgS_upd pb11, ← upd_put]
    generalize hT : S.upd p11 _ = T
    have subT : Store.sub S T := by rw [← hT]; exact Store.sub_upd f11 (Store.sub_refl _)
    have tm : ∀ k, T (mkey k) = σ (mkey k) := fun k => by rw [← hT]; simp [sm]
    have t5 : T p5 = some [byteA aid, .lit (.bool short), .lit (.int .i64 cur), .list false 2 (entsA es)] := by rw [← hT]; simp [n5, s5]
    have t6 : T p6 = some [.lit (.int .i64 rows), .lit (.int .i64 cols)] := by rw [← hT]; simp [n6, s6]
    have t11 : T p11 = some (itC ⟨zr, zc, zf, ze, zt, zu⟩) := by rw [← hT]; simp [itC]
    clear hT
    unfold itC at t11
    have d5 : ∀ x1 M, (pgS b n x1 (T.put g M)) (p5 : Int) = some [byteA aid, .lit (.bool short), .lit (.int .i64 cur), .list false 2 (entsA es)] := fun x1 M => by rw [pgS_other pb5]; simp [t5]
    have d6 : ∀ x1 M, (pgS b n x1 (T.put g M)) (p6 : Int) = some [.lit (.int .i64 rows), .lit (.int .i64 cols)] := fun x1 M => by rw [pgS_other pb6]; simp [t6]
    have d11 : ∀ x1 M, (pgS b n x1 (T.put g M)) (p11 : Int) = some [.lit (.int .i64 zr), .lit (.int .i64 zc), .lit (.bool zf.prot), .lit (.bool zf.num), .lit (.int .i64 zf.disp), .lit (.bool zf.mod), .list false 2 (pairsA ze), .lit (.string zt), .lit (.bool zu)] := fun x1 M => by rw [pgS_other pb11]; simp [t11]
    simp [n5, n6, c6, d5, d6, d11]
    repeat' first
      | with_reducible apply And.intro
      | (refine callK.eq (had _) ?_; simp [hw2, d5, d6, d11])
      | (refine callK.eq (hwr _) ?_; simp [d5, d6, d11])
    all_goals
      refine codeK.loop follows (st := st13) (plans := pl13) (X := PaSt) (fun y => y.i ≤ es.length ∧ PaO σ g x y.x)
        (fun y => [(3, pgP b), (5, ptrA p5), (6, ptrA p6), (9, .lit (.map (some g))), (10, .lit (.int .i64 i)), (12, .lit (.int .i64 AT)), (25, .list false 9 (itsA items)), (26, .lit (.int .i64 items.length)), (27, .lit (.int .i64 i)), (42, .list false 2 (entsA es)), (43, .lit (.int .i64 es.length)), (44, .lit (.int .i64 y.i))])
        (fun y => pgS b n y.x (T.put g (mapA (mapI (ansP f i ++ optP i (ansE n AT (es.take y.i) none)))))) (fun y => es.length - y.i) ⟨0, x1⟩ (by kernel_rfl) ⟨by simp, hx1⟩ (by simp) (by simp [ansE, optP]) fun y hy => ?_
      obtain ⟨j, x2⟩ := y
      obtain ⟨hj, hx2⟩ := hy
      dsimp only at hj hx2 ⊢
      by_cases hlj : j < es.length
      · have hwj : IntKind.i64.wrap ((j : Int) + 1) = ((j + 1 : Nat) : Int) := wrap_i64 (by omega) (by omega)
        have ge := entsA_get es j hlj
        have hel := hR2 _ (List.getElem_mem hlj)
        have hst := ansE_take n AT es j hlj
        generalize es[j] = e at *
        obtain ⟨ea, et⟩ := e
        dsimp only at hel hst
        simp only [entA] at ge
        simp [hlj, ge]
        intro p14 hp14
        obtain ⟨pb14, f14⟩ := pgS_fresh hp14
        rw [put_nat] at f14
        rw [pgS_upd pb14, ← upd_put]
        generalize hU : T.upd p14 _ = U
        have subU : Store.sub T U := by rw [← hU]; exact Store.sub_upd f14 (Store.sub_refl _)
        have um : ∀ k, U (mkey k) = σ (mkey k) := fun k => by rw [← hU]; simp [tm]
        have u14 : U p14 = some [.lit (.int .i64 ea), .list false 1 (bytesA et)] := by rw [← hU]; simp
        clear hU
        have d14 : ∀ x1 M, (pgS b n x1 (U.put g M)) (p14 : Int) = some [.lit (.int .i64 ea), .list false 1 (bytesA et)] := fun x1 M => by rw [pgS_other pb14]; simp [u14]
        have hkey : ∀ M, KeyP (U.put g M) x2 := fun M k e => by
          have : ¬ k = g := fun e' => hx2.ne (by rw [e, e'])
          simp [this, um, hx2.key k e]
        have hread : ∀ x3 M, PaO σ g x x3 → (pgS b n x3 (U.put g M)) (mkey g) = some M := fun x3 M h => by rw [pgS_mkey h.ne]; simp
        have hput : ∀ x3 M B, PaO σ g x x3 → (pgS b n x3 (U.put g M)).put g B = pgS b n x3 (U.put g B) := fun x3 M B h => by rw [pgS_mput h.ne, put_same]
        by_cases hea : ea = AT
        · rw [if_pos hea] at hst
          subst hea
          have htx := fun M => ptext_calls b n hn x2 et (by omega) (U.put g M) (hkey M)
          have hset := setI_opt (l := ansP f i) (s := (i : Int)) (ansE n ea (es.take j) none) (toB (txtB n et)) (ansP_ne f i)
          simp [d14]
          refine callK.of (htx _) ?_
          rintro v τ ⟨rfl, x3, hx3, rfl⟩
          have hx3' : PaO σ g x x3 := hx2.next hx3 fun k hk => by
            have : ¬ k = g := fun e => by subst e; simp at hk
            exact ⟨this, by simpa [this, um] using hk⟩
          simp [hread _ _ hx3', hput _ _ _ hx3', hset]
          exact ⟨⟨j + 1, x3⟩, ⟨by show j + 1 ≤ _; omega, hx3'⟩, by show es.length - (j + 1) < _; omega, by rw [hwj]; exact AV.le_refl _, by rw [hst]; exact pgS_mono (put_mono subU)⟩
        · rw [if_neg hea] at hst
          simp [d14, hea]
          exact ⟨⟨j + 1, x2⟩, ⟨by show j + 1 ≤ _; omega, hx2⟩, by show es.length - (j + 1) < _; omega, by rw [hwj]; exact AV.le_refl _, by rw [hst]; exact pgS_mono (put_mono subU)⟩
      · obtain rfl : j = es.length := by omega
        simp
        refine ⟨⟨i + 1, x2⟩, ⟨by show i + 1 ≤ _; omega, hx2⟩, by show items.length - (i + 1) < _; omega, by rw [hw]; exact AV.le_refl _, ?_⟩
        rw [ansP_succ, hfi]
        exact pgS_mono (put_mono subT)
  · obtain rfl : i = items.length := by omega
    simp
    refine ⟨_, AV.le_refl _, _, pgS_mono (put_mono sub0), g, rfl, sg, x1, hx1.nx, hx1.ne, by rw [hA]⟩
end Go.Proofs.YtbeohjinefaaoaaDoor
