/-
  LinkSends: records that go are read again.
-/
import Derived.Test.YteaidaolablegaaGreatDoorSPart19
set_option linter.unusedSimpArgs false
set_option linter.unusedVariables false
namespace Go.Proofs.YteaidaolablegaaGreatDoor
open Go Go.AL

theorem ba_app (a b : Array UInt8) : (({ data := a } : ByteArray) ++ ({ data := b } : ByteArray)) = { data := a ++ b } := by
  apply ByteArray.ext; simp
theorem hs_1 : ({ data := #[255, 253, 40, 255, 250, 40, 8, 2, 255, 240, 255, 250, 40, 2, 4, 84, 1, 76, 255, 240, 255, 250, 40, 3, 4] } : ByteArray) ++ ({ data := #[255, 240] } : ByteArray) = ({ data := #[255, 253, 40, 255, 250, 40, 8, 2, 255, 240, 255, 250, 40, 2, 4, 84, 1, 76, 255, 240, 255, 250, 40, 3, 4, 255, 240] } : ByteArray) := by rw [ba_app, List.append_toArray]; rfl
theorem hs_2 : ({ data := #[255, 253, 40, 255, 250, 40, 8, 2, 255, 240, 255, 250, 40, 2, 4, 84, 1, 76, 255, 240, 255, 250, 40, 3, 4] } : ByteArray) ++ ({ data := #[2] } : ByteArray) = ({ data := #[255, 253, 40, 255, 250, 40, 8, 2, 255, 240, 255, 250, 40, 2, 4, 84, 1, 76, 255, 240, 255, 250, 40, 3, 4, 2] } : ByteArray) := by rw [ba_app, List.append_toArray]; rfl
theorem hs_3 : ({ data := #[255, 253, 40, 255, 250, 40, 8, 2, 255, 240, 255, 250, 40, 2, 4, 84, 1, 76, 255, 240, 255, 250, 40, 3, 4, 2] } : ByteArray) ++ ({ data := #[255, 240] } : ByteArray) = ({ data := #[255, 253, 40, 255, 250, 40, 8, 2, 255, 240, 255, 250, 40, 2, 4, 84, 1, 76, 255, 240, 255, 250, 40, 3, 4, 2, 255, 240] } : ByteArray) := by rw [ba_app, List.append_toArray]; rfl
theorem hz_1 : ({ data := #[255, 253, 40, 255, 250, 40, 8, 2, 255, 240, 255, 250, 40, 2, 4, 84, 1, 76, 255, 240, 255, 250, 40, 3, 4] } : ByteArray).size = 25 := rfl
theorem hz_2 : ({ data := #[255, 253, 40, 255, 250, 40, 8, 2, 255, 240, 255, 250, 40, 2, 4, 84, 1, 76, 255, 240, 255, 250, 40, 3, 4, 2] } : ByteArray).size = 26 := rfl
theorem hz_3 : ({ data := #[2] } : ByteArray).size = 1 := rfl
theorem hz_4 : ({ data := #[255, 240] } : ByteArray).size = 2 := rfl
/-- Rows of bytes. -/
def rowsA (l : List (List UInt8)) : List AV := l.map fun p => .list false 1 (bytesA p)
@[simp] theorem rowsA_length (l : List (List UInt8)) : (rowsA l).length = l.length := by simp [rowsA]
@[simp] def st4s : List Nat := [1000041, 1000084, 1000019, 1000086, 1000092, 3000018]
set_option maxRecDepth 8000 in
/-- Region 3, by itself (in the walk the kernel takes minutes over it). -/
theorem reg3 (ps : String) (Q A σ) (hK : ∀ c : Nat, σ c = none → Q Exit.normal (upd (upd (upd A 22 (.agg [AV.lit (Value.string { data := #[84] }), AV.lit (Value.string ByteArray.empty), AV.list true 1 []])) 7 (AV.lit (Value.pointer (some { block := c, off := 0 })))) 22 (.agg [AV.lit (Value.string { data := #[84] }), AV.lit (Value.string ByteArray.empty), AV.list false 1 []])) (σ.upd c [AV.lit (Value.string { data := #[84] }), AV.lit (Value.string ByteArray.empty), AV.list true 1 []])) :
    awp Tryz.prog [1000041, 1000084, 1000019, 1000086, 1000092, 3000018] [] 103 (Code.region 3 #[{ dst := some 22, op := Op.build 24 #[(0, Operand.const (Value.string { data := #[84] }))], type := 24, pos := ps, after := #[], guard := none }, { dst := some 7, op := Op.alloc 24, type := 0, pos := ps, after := #[], guard := none }, { dst := none, op := Op.store 24 (Operand.tmp 7) (Operand.tmp 22), type := 0, pos := ps, after := #[{ on := 1, ground := Ground.data }, { on := 0, ground := Ground.data }, { on := 0, ground := Ground.phase }, { on := 1, ground := Ground.phase }], guard := none }] false) Q A σ := by
  simp
  exact hK
/-- What goes. -/
def snP (l : List (List UInt8)) : List (List UInt8) := (l.take 8).map fun p => p.take 200
theorem snP_take (l : List (List UInt8)) (i : Nat) (h : i < l.length) (h8 : i < 8) : (snP l).take (i + 1) = (snP l).take i ++ [(l[i]).take 200] := by
  have hl : i < (snP l).length := by simp [snP]; omega
  rw [List.take_succ_eq_append_getElem hl]
  simp [snP]
theorem snP_len (l : List (List UInt8)) : (snP l).length ≤ 8 := by simp [snP]; omega
theorem wants_each (x fn : Bool) (l : List (List UInt8)) (i : Nat) : ∀ d ∈ wants x fn ((snP l).take i), d.length ≤ 205 := by
  intro d hd
  obtain ⟨j, hj, rfl⟩ := List.getElem_of_mem hd
  rw [wants_at]
  have h1 := wantF_length x fn j (((snP l).take i)[j]'(by rw [wants_length] at hj; exact hj))
  have h2 : (((snP l).take i)[j]'(by rw [wants_length] at hj; exact hj)).length ≤ 200 := by simp [snP]; omega
  omega
theorem sent_mode {x fn : Bool} {L : Lk} (h : SntOk x fn L) (ps : List (List UInt8)) : ¬ (L.sent x fn ps).mode = 0 := by
  show ¬ L.mode = 0
  rw [h.mode]; split <;> omega
theorem sent_seq (L : Lk) (x fn : Bool) {l : List (List UInt8)} {i : Nat} : (L.sent x fn ((snP l).take i)).seq < 65536 := by
  show (if (x && fn) = true then ((snP l).take i).length else 0) < 65536
  have := snP_len l
  split
  · simp; omega
  · omega
theorem sent_room (L : Lk) (x fn : Bool) (l : List (List UInt8)) (i : Nat) : (L.sent x fn ((snP l).take i)).out.length ≤ 100000000000 := by
  have h1 := wire_length (wants x fn ((snP l).take i)) 205 (wants_each x fn l i)
  have h2 := snP_len l
  have h3 : ((snP l).take i).length ≤ 8 := by simp; omega
  rw [wants_length] at h1
  show (wire (wants x fn ((snP l).take i))).length ≤ _
  have : ((snP l).take i).length * (2 * 205 + 2) ≤ 8 * (2 * 205 + 2) := Nat.mul_le_mul_right _ h3
  omega
theorem snt_records (x fn : Bool) (l : List (List UInt8)) (σ : Store) : ACalls Tryz.prog 15 [.list false 1 (bytesA (wire (wants x fn (snP l))))] σ fun v σ' => v = .list false 2 (recsA (wants x fn (snP l))) ∧ σ' = σ := by
  have ht := (told_wire (wants x fn (snP l))).1
  have e : (snP l).take (snP l).length = snP l := List.take_of_length_le (Nat.le_refl _)
  have he := wants_each x fn l (snP l).length
  rw [e] at he
  have h1 := wire_length _ 205 he
  have h2 := recEvs_size _ 205 he
  have h3 := snP_len l
  rw [wants_length] at h1 h2
  have h4 : (snP l).length * (2 * 205 + 2) ≤ 8 * (2 * 205 + 2) := Nat.mul_le_mul_right _ h3
  have h5 : (snP l).length * 205 ≤ 8 * 205 := Nat.mul_le_mul_right _ h3
  refine (records_calls false (wire (wants x fn (snP l))) (by omega) (by rw [ht]; omega) σ).mono fun v σ' hh => ?_
  rw [ht, recs_wire] at hh
  exact hh
theorem cells_bytesA {l : List UInt8} {v : AV} (h : v ∈ bytesA l) : v.cells = [v] := by
  unfold bytesA at h
  obtain ⟨b, _, rfl⟩ := List.mem_map.1 h
  rfl
theorem snt_same (w : List UInt8) (o : Bool) (σ : Store) : ACalls Tryz.prog 16 [.list false 1 (bytesA w), .list o 1 (bytesA w)] σ fun v σ' => v = .lit (.bool true) ∧ σ' = σ :=
  (same_calls false o w w σ).mono fun v σ' hh => by simpa using hh
structure SnS where
  i : Nat
  a : Bool
  b : Bool
set_option maxRecDepth 8000 in
set_option maxHeartbeats 2000000 in
theorem linkSends_calls (x fn : Bool) (l : List (List UInt8)) (hll : l.length ≤ 9223372036854775807) (σ : Store) : ACalls Tryz.prog 4 [.lit (.bool x), .lit (.bool fn), .list false 1 (rowsA l)] σ fun v _ => v = .lit (.bool true) := by
  have haw := fun τ => awake_calls τ
  obtain ⟨X, hX⟩ : ∃ X, x = X := ⟨x, rfl⟩
  obtain ⟨F, hF⟩ : ∃ F, fn = F := ⟨fn, rfl⟩
  obtain ⟨L0, L1, hL0, hok0, hL1, hR⟩ := snt_ex X F
  have hokS : okC (ngS X F).few := by rw [ngS_few]; exact ngS_ok X F
  have hlay := fun o τ => laid_calls (e := ngS X F) hokS o X τ
  rw [ngS_few, hL0] at hlay
  have hcut := fun p τ => cut_calls false p 200 τ (by omega)
  have hE : ({ L1 with out := [] } : Lk) = L1.emptied := rfl
  refine ACalls.of_awp follows (st := st4s) (plans := pl4) (n := 103) Tryz.func4 rfl (by kernel_rfl) (by kernel_rfl) (by kernel_rfl) ?_
  simp
  refine callK.of (haw _) ?_
  rintro v σ ⟨rfl, rfl⟩
  generalize hQ : athen _ _ = Q
  simp
  subst hQ
  generalize hR3 : Code.region 3 _ _ = R3
  simp
  subst hR3
  refine reg3 _ _ _ _ fun c hc => ?_
  cases x with
  | false =>
    have hlay : ∀ τ, ACalls Tryz.prog 9 [AV.agg [AV.lit (Value.string { data := #[84] }), AV.lit (Value.string ByteArray.empty), AV.list false 1 []], AV.lit (Value.bool false)] τ (LaidR L0 τ) := fun τ => by
      have := hlay false τ; rw [← hX] at this; exact this
    simp
    generalize σ.upd c [AV.lit (Value.string { data := #[84] }), AV.lit (Value.string ByteArray.empty), AV.list true 1 []] = σ at *
    generalize hS : ({ data := #[255, 253, 24, 255, 250, 24, 1, 255, 240, 255, 253, 25, 255, 251, 25, 255, 253, 0, 255, 251, 0] } : ByteArray) = S
    have hSb : bytesV S = bytesA (helloS X F) := by subst hS hX; rfl
    have hSz : S.size ≤ 100 := by subst hS; decide
    have hSl : (helloS X F).length ≤ 100 := by subst hX; simp [helloS, helloR]
    clear hS
    refine callK.of (hlay _) ?_
    rintro v σ1 ⟨ad, f, kb, a1, b1, hk, hsub, rfl, rfl⟩
    have h1 := ltk_calls kb hk _ _ _ true 0 (helloS X F) (by omega) hok0 _ (putL_at hk L0 a1 b1 σ)
    rw [hL1] at h1
    simp [hSb]
    refine ⟨by omega, ?_⟩
    refine callK.of h1 ?_
    rintro v σ1 ⟨rfl, a2, b2, rfl⟩
    rw [putL_putL]
    simp
    refine callK.of (lout_calls kb hk L1 a2 b2 _ (putL_at hk L1 a2 b2 σ)) ?_
    rintro v σ1 ⟨rfl, rfl⟩
    rw [putL_putL, hE]
    clear h1
    generalize L1.emptied = L at *
    clear hL1 hE
    simp
    refine codeK.loop follows (st := st4s) (plans := pl4) (X := SnS) (fun s => s.i ≤ l.length)
      (fun s => [(0, .lit (.bool false)), (1, .lit (.bool fn)), (2, .list false 1 (rowsA l)), (9, ptrA kb.l), (45, .list false 1 (rowsA l)), (46, .lit (.int .i64 l.length)), (47, .lit (.int .i64 s.i))])
      (fun s => putL kb (L.sent X F ((snP l).take s.i)) s.a s.b σ) (fun s => l.length - s.i) ⟨0, a2, b2⟩ (by kernel_rfl) (Nat.zero_le _) (by simp) (by dsimp only; rw [List.take_zero, sent_nil hR]; exact Store.sub_refl _) ?_
    · rintro ⟨i, a, b⟩ hi
      dsimp only at hi ⊢
      have hat := putL_at hk (L.sent X F ((snP l).take i)) a b σ
      by_cases hlt : i < l.length
      · have hlt' : (i : Int) < l.length := by omega
        have hw : IntKind.i64.wrap ((i : Int) + 1) = ((i + 1 : Nat) : Int) := wrap_i64 (by omega) (by omega)
        obtain ⟨p, hp⟩ : ∃ p, l[i] = p := ⟨_, rfl⟩
        have hg : ∀ h : i < (rowsA l).length, (rowsA l)[i]'h = .list false 1 (bytesA p) := fun h => by simp [rowsA, hp]
        by_cases h8 : i < 8
        · have h8' : (i : Int) < 8 := by omega
          have hpl : (p.take 200).length ≤ 200 := by simp; omega
          have hnx : (L.sent X F ((snP l).take i)).send (p.take 200) = L.sent X F ((snP l).take (i + 1)) := by
            rw [sent_snoc hR _ _ (by simp; omega), snP_take l i hlt h8, hp]
          have hsd := send_calls kb hk (L.sent X F ((snP l).take i)) a b true (p.take 200) (by omega) (sent_mode hR _) (sent_seq L X F) hR.small (sent_room L X F l i) _ hat
          rw [hnx] at hsd
          simp [hlt, hlt', hg, h8']
          refine callK.of (hcut _ _) ?_
          rintro v σ1 ⟨rfl, rfl⟩
          simp
          refine callK.of hsd ?_
          rintro v σ1 ⟨rfl, a3, b3, rfl⟩
          rw [putL_putL]
          simp
          exact ⟨⟨i + 1, a3, b3⟩, by dsimp only; omega, by dsimp only; omega, by dsimp only; rw [hw]; exact AV.le_refl _, Store.sub_refl _⟩
        · have h8' : ¬ (i : Int) < 8 := by omega
          have hsame : (snP l).take (i + 1) = (snP l).take i := by rw [List.take_of_length_le (by simp [snP]; omega), List.take_of_length_le (by simp [snP]; omega)]
          simp [hlt, hlt', hg, h8']
          exact ⟨⟨i + 1, a, b⟩, by dsimp only; omega, by dsimp only; omega, by dsimp only; rw [hw]; exact AV.le_refl _, by dsimp only; rw [hsame]; exact Store.sub_refl _⟩
      · obtain rfl : i = l.length := by omega
        have hall : (snP l).take l.length = snP l := List.take_of_length_le (by simp [snP]; omega)
        rw [hall] at hat ⊢
        have hlo := lout_calls kb hk (L.sent X F (snP l)) a b _ hat
        have hrc := fun τ => snt_records X F l τ
        have hmin : min (l.length : Int) 8 = ((snP l).length : Int) := by simp [snP]; omega
        have hmin2 : (if (8 : Int) < l.length then (8 : Int) else l.length) = ((snP l).length : Int) := by simp only [snP, List.length_map, List.length_take]; split <;> omega
        simp
        refine callK.of hlo ?_
        rintro v σ1 ⟨rfl, rfl⟩
        rw [putL_putL]
        generalize putL kb { L.sent X F (snP l) with out := [] } a b σ = Y at *
        have hso : (L.sent X F (snP l)).out = wire (wants X F (snP l)) := rfl
        rw [hso]
        simp
        refine callK.of (hrc _) ?_
        rintro v σ1 ⟨rfl, rfl⟩
        simp [hmin, hmin2, wants_length]
        clear hlo hat
        generalize hD : wants X F (snP l) = D at *
        refine codeK.loop follows (st := st4s) (plans := pl4) (X := Nat) (fun i => i ≤ (snP l).length)
          (fun i => [(0, .lit (.bool false)), (1, .lit (.bool fn)), (2, .list false 1 (rowsA l)), (71, .list false 2 (recsA D)), (72, .lit (.int .i64 (snP l).length)), (73, .lit (.int .i64 i))]) (fun _ => σ1) (fun i => (snP l).length - i) 0 (by kernel_rfl) (Nat.zero_le _) (by simp) (Store.sub_refl _) ?_
        intro i hi
        have hsl := snP_len l
        by_cases hlt : i < (snP l).length
        · have hlt' : (i : Int) < (snP l).length := by omega
          have hw : IntKind.i64.wrap ((i : Int) + 1) = ((i + 1 : Nat) : Int) := wrap_i64 (by omega) (by omega)
          have hil : i < l.length := by simp [snP] at hlt; omega
          have hil' : (i : Int) < l.length := by omega
          obtain ⟨p, hp⟩ : ∃ p, l[i] = p := ⟨_, rfl⟩
          have hDl : D.length = (snP l).length := by rw [← hD, wants_length]
          have hDi : ∀ q : i < D.length, D[i]'q = wantF X F i (p.take 200) := fun q => by
            subst hD
            rw [wants_at]
            simp [snP, hp]
          have hgr : ∀ h : i < (recsA D).length, (recsA D)[i]'h = .agg [.list false 1 (bytesA (wantF X F i (p.take 200))), .lit (.bool false)] := fun h => by
            have : i < D.length := by simpa using h
            simp [recsA, hDi this]
          have hg : ∀ h : i < (rowsA l).length, (rowsA l)[i]'h = .list false 1 (bytesA p) := fun h => by simp [rowsA, hp]
          have hdl' : i < D.length := by omega
          have hf5 : ∀ a b c d e : Int, flat [.lit (.int .u8 a), .lit (.int .u8 b), .lit (.int .u8 c), .lit (.int .u8 d), .lit (.int .u8 e)] = [.lit (.int .u8 a), .lit (.int .u8 b), .lit (.int .u8 c), .lit (.int .u8 d), .lit (.int .u8 e)] := fun a b c d e => by simp [flat]
          have hsm := fun o τ => same_calls false o (wantF X F i (p.take 200)) (wantF X F i (p.take 200)) τ
          have hwt : wantF X F i (p.take 200) = p.take 200 := by subst hX; rfl
          simp [hlt, hlt', hgr, hdl']
          intro q hq
          simp [hil, hil', hg]
          refine callK.of (hcut _ _) ?_
          rintro v σ2 ⟨rfl, rfl⟩
          rw [hwt] at hsm
          rw [hwt]
          simp
          refine callK.of (hsm _ _) ?_
          rintro v σ3 ⟨rfl, rfl⟩
          simp
          exact ⟨i + 1, by omega, by omega, by rw [hw]; exact AV.le_refl _, sub_upd_self _ _ _ hq⟩
        · obtain rfl : i = (snP l).length := by omega
          simp
          exact ⟨_, Store.sub_refl _⟩
  | true =>
    cases fn with
    | false =>
      have hlay : ∀ τ, ACalls Tryz.prog 9 [AV.agg [AV.lit (Value.string { data := #[84] }), AV.lit (Value.string ByteArray.empty), AV.list false 1 []], AV.lit (Value.bool true)] τ (LaidR L0 τ) := fun τ => by
        have := hlay false τ; rw [← hX, ← hF] at this; exact this
      simp [hs_1, hs_2, hs_3, hz_1, hz_2, hz_3, hz_4]
      generalize σ.upd c [AV.lit (Value.string { data := #[84] }), AV.lit (Value.string ByteArray.empty), AV.list true 1 []] = σ at *
      generalize hS : ({ data := #[255, 253, 40, 255, 250, 40, 8, 2, 255, 240, 255, 250, 40, 2, 4, 84, 1, 76, 255, 240, 255, 250, 40, 3, 4, 255, 240] } : ByteArray) = S
      have hSb : bytesV S = bytesA (helloS X F) := by subst hS hX hF; rfl
      have hSz : S.size ≤ 100 := by subst hS; decide
      have hSl : (helloS X F).length ≤ 100 := by subst hX hF; simp [helloS, helloR]
      clear hS
      refine callK.of (hlay _) ?_
      rintro v σ1 ⟨ad, f, kb, a1, b1, hk, hsub, rfl, rfl⟩
      have h1 := ltk_calls kb hk _ _ _ true 0 (helloS X F) (by omega) hok0 _ (putL_at hk L0 a1 b1 σ)
      rw [hL1] at h1
      simp [hSb]
      refine ⟨by omega, ?_⟩
      refine callK.of h1 ?_
      rintro v σ1 ⟨rfl, a2, b2, rfl⟩
      rw [putL_putL]
      simp
      refine callK.of (lout_calls kb hk L1 a2 b2 _ (putL_at hk L1 a2 b2 σ)) ?_
      rintro v σ1 ⟨rfl, rfl⟩
      rw [putL_putL, hE]
      clear h1
      generalize L1.emptied = L at *
      clear hL1 hE
      simp
      refine codeK.loop follows (st := st4s) (plans := pl4) (X := SnS) (fun s => s.i ≤ l.length)
        (fun s => [(0, .lit (.bool true)), (1, .lit (.bool false)), (2, .list false 1 (rowsA l)), (9, ptrA kb.l), (45, .list false 1 (rowsA l)), (46, .lit (.int .i64 l.length)), (47, .lit (.int .i64 s.i))])
        (fun s => putL kb (L.sent X F ((snP l).take s.i)) s.a s.b σ) (fun s => l.length - s.i) ⟨0, a2, b2⟩ (by kernel_rfl) (Nat.zero_le _) (by simp) (by dsimp only; rw [List.take_zero, sent_nil hR]; exact Store.sub_refl _) ?_
      · rintro ⟨i, a, b⟩ hi
        dsimp only at hi ⊢
        have hat := putL_at hk (L.sent X F ((snP l).take i)) a b σ
        by_cases hlt : i < l.length
        · have hlt' : (i : Int) < l.length := by omega
          have hw : IntKind.i64.wrap ((i : Int) + 1) = ((i + 1 : Nat) : Int) := wrap_i64 (by omega) (by omega)
          obtain ⟨p, hp⟩ : ∃ p, l[i] = p := ⟨_, rfl⟩
          have hg : ∀ h : i < (rowsA l).length, (rowsA l)[i]'h = .list false 1 (bytesA p) := fun h => by simp [rowsA, hp]
          by_cases h8 : i < 8
          · have h8' : (i : Int) < 8 := by omega
            have hpl : (p.take 200).length ≤ 200 := by simp; omega
            have hnx : (L.sent X F ((snP l).take i)).send (p.take 200) = L.sent X F ((snP l).take (i + 1)) := by
              rw [sent_snoc hR _ _ (by simp; omega), snP_take l i hlt h8, hp]
            have hsd := send_calls kb hk (L.sent X F ((snP l).take i)) a b true (p.take 200) (by omega) (sent_mode hR _) (sent_seq L X F) hR.small (sent_room L X F l i) _ hat
            rw [hnx] at hsd
            simp [hlt, hlt', hg, h8']
            refine callK.of (hcut _ _) ?_
            rintro v σ1 ⟨rfl, rfl⟩
            simp
            refine callK.of hsd ?_
            rintro v σ1 ⟨rfl, a3, b3, rfl⟩
            rw [putL_putL]
            simp
            exact ⟨⟨i + 1, a3, b3⟩, by dsimp only; omega, by dsimp only; omega, by dsimp only; rw [hw]; exact AV.le_refl _, Store.sub_refl _⟩
          · have h8' : ¬ (i : Int) < 8 := by omega
            have hsame : (snP l).take (i + 1) = (snP l).take i := by rw [List.take_of_length_le (by simp [snP]; omega), List.take_of_length_le (by simp [snP]; omega)]
            simp [hlt, hlt', hg, h8']
            exact ⟨⟨i + 1, a, b⟩, by dsimp only; omega, by dsimp only; omega, by dsimp only; rw [hw]; exact AV.le_refl _, by dsimp only; rw [hsame]; exact Store.sub_refl _⟩
        · obtain rfl : i = l.length := by omega
          have hall : (snP l).take l.length = snP l := List.take_of_length_le (by simp [snP]; omega)
          rw [hall] at hat ⊢
          have hlo := lout_calls kb hk (L.sent X F (snP l)) a b _ hat
          have hrc := fun τ => snt_records X F l τ
          have hmin : min (l.length : Int) 8 = ((snP l).length : Int) := by simp [snP]; omega
          have hmin2 : (if (8 : Int) < l.length then (8 : Int) else l.length) = ((snP l).length : Int) := by simp only [snP, List.length_map, List.length_take]; split <;> omega
          simp
          refine callK.of hlo ?_
          rintro v σ1 ⟨rfl, rfl⟩
          rw [putL_putL]
          generalize putL kb { L.sent X F (snP l) with out := [] } a b σ = Y at *
          have hso : (L.sent X F (snP l)).out = wire (wants X F (snP l)) := rfl
          rw [hso]
          simp
          refine callK.of (hrc _) ?_
          rintro v σ1 ⟨rfl, rfl⟩
          simp [hmin, hmin2, wants_length]
          clear hlo hat
          generalize hD : wants X F (snP l) = D at *
          refine codeK.loop follows (st := st4s) (plans := pl4) (X := Nat) (fun i => i ≤ (snP l).length)
            (fun i => [(0, .lit (.bool true)), (1, .lit (.bool false)), (2, .list false 1 (rowsA l)), (71, .list false 2 (recsA D)), (72, .lit (.int .i64 (snP l).length)), (73, .lit (.int .i64 i))]) (fun _ => σ1) (fun i => (snP l).length - i) 0 (by kernel_rfl) (Nat.zero_le _) (by simp) (Store.sub_refl _) ?_
          intro i hi
          have hsl := snP_len l
          by_cases hlt : i < (snP l).length
          · have hlt' : (i : Int) < (snP l).length := by omega
            have hw : IntKind.i64.wrap ((i : Int) + 1) = ((i + 1 : Nat) : Int) := wrap_i64 (by omega) (by omega)
            have hil : i < l.length := by simp [snP] at hlt; omega
            have hil' : (i : Int) < l.length := by omega
            obtain ⟨p, hp⟩ : ∃ p, l[i] = p := ⟨_, rfl⟩
            have hDl : D.length = (snP l).length := by rw [← hD, wants_length]
            have hDi : ∀ q : i < D.length, D[i]'q = wantF X F i (p.take 200) := fun q => by
              subst hD
              rw [wants_at]
              simp [snP, hp]
            have hgr : ∀ h : i < (recsA D).length, (recsA D)[i]'h = .agg [.list false 1 (bytesA (wantF X F i (p.take 200))), .lit (.bool false)] := fun h => by
              have : i < D.length := by simpa using h
              simp [recsA, hDi this]
            have hg : ∀ h : i < (rowsA l).length, (rowsA l)[i]'h = .list false 1 (bytesA p) := fun h => by simp [rowsA, hp]
            have hdl' : i < D.length := by omega
            have hf5 : ∀ a b c d e : Int, flat [.lit (.int .u8 a), .lit (.int .u8 b), .lit (.int .u8 c), .lit (.int .u8 d), .lit (.int .u8 e)] = [.lit (.int .u8 a), .lit (.int .u8 b), .lit (.int .u8 c), .lit (.int .u8 d), .lit (.int .u8 e)] := fun a b c d e => by simp [flat]
            have hsm := fun o τ => same_calls false o (wantF X F i (p.take 200)) (wantF X F i (p.take 200)) τ
            have hwt : wantF X F i (p.take 200) = [0, 0, 0, 0, 0] ++ p.take 200 := by
              have : i / 256 = 0 := by omega
              subst hX hF; simp [wantF, headL, this]
            simp [hlt, hlt', hgr, hdl']
            intro q hq
            simp [hil, hil', hg]
            refine callK.of (hcut _ _) ?_
            rintro v σ2 ⟨rfl, rfl⟩
            skip
            rw [hwt] at hsm
            rw [hwt]
            simp [hf5]
            have hiu : True := trivial
            intro r hr
            rw [ite_none] at hr
            obtain ⟨n1, hr⟩ := hr
            have n2 : ¬ q = r := fun e => n1 e.symm
            have hfb : flat (bytesA (p.take 200)) = bytesA (p.take 200) := flat_bytesA _
            have hmd : List.map AV.drop1 (bytesA (p.take 200)) = bytesA (p.take 200) := drop1_bytesA _
            have hrow : [AV.lit (.int .u8 0), .lit (.int .u8 0), .lit (.int .u8 0), .lit (.int .u8 0), .lit (.int .u8 0)] = bytesA [0, 0, 0, 0, 0] := rfl
            have htk : ∀ m, List.take (5 + min 200 p.length) (AV.lit (.int .u8 0) :: .lit (.int .u8 0) :: .lit (.int .u8 0) :: .lit (.int .u8 0) :: .lit (.int .u8 0) :: (bytesA (p.take 200) ++ List.replicate m AV.top)) = bytesA (0 :: 0 :: 0 :: 0 :: 0 :: p.take 200) := fun m => by
              have e : (AV.lit (.int .u8 0) :: .lit (.int .u8 0) :: .lit (.int .u8 0) :: .lit (.int .u8 0) :: .lit (.int .u8 0) :: (bytesA (p.take 200) ++ List.replicate m AV.top)) = bytesA (0 :: 0 :: 0 :: 0 :: 0 :: p.take 200) ++ List.replicate m AV.top := rfl
              rw [e]
              exact List.take_left' (by simp; omega)
            have hsm2 := fun (w : List UInt8) o τ => snt_same w o τ
            have hσr : ∀ X Y, Store.sub σ1 (((σ1.upd q X).upd r Y).del r) := fun X Y => by rw [del_upd_new (by rw [supd_apply, if_neg n1]; exact hr)]; exact sub_upd_self _ _ _ hq
            refine ⟨by omega, by omega, fun hp0 => ?_, fun hp0 p2 cap hp2 hc1 hc2 => ?_⟩
            · simp [n1, n2, hp0, hiu]
              rw [hrow]
              refine callK.of (hsm2 _ _ _) ?_
              rintro v σ3 ⟨rfl, rfl⟩
              simp [n1, n2]
              exact ⟨i + 1, by omega, by omega, by rw [hw]; exact AV.le_refl _, hσr _ _⟩
            · have m1 : ¬ p2 = q := fun e => by
                subst e
                rcases hp2 with h | h
                · exact n1 h
                · simp [n1, n2] at h
              have m2 : ¬ q = p2 := fun e => m1 e.symm
              simp [n1, n2, m1, m2, hfb, hmd, hiu, htk]
              refine ⟨by omega, by omega, by omega, fun v hv => cells_bytesA hv, ?_⟩
              refine callK.of (hsm2 _ _ _) ?_
              rintro v σ3 ⟨rfl, rfl⟩
              have hp2' : σ1 p2 = none := by
                rcases hp2 with h | h
                · rw [← h]; exact hr
                · by_cases e : p2 = r
                  · rw [e]; exact hr
                  · simpa [e, m1] using h
              simp [n1, n2, m1, m2]
              refine ⟨i + 1, by omega, by omega, by rw [hw]; exact AV.le_refl _, ?_⟩
              rw [del_upd_new (p := r) (by rw [supd_apply, if_neg n1]; exact hr), del_upd_new (by rw [supd_apply, if_neg m1]; exact hp2')]
              exact sub_upd_self _ _ _ hq
          · obtain rfl : i = (snP l).length := by omega
            simp
            exact ⟨_, Store.sub_refl _⟩
    | true =>
      have hlay : ∀ τ, ACalls Tryz.prog 9 [AV.agg [AV.lit (Value.string { data := #[84] }), AV.lit (Value.string ByteArray.empty), AV.list false 1 [.lit (.int .u8 2)]], AV.lit (Value.bool true)] τ (LaidR L0 τ) := fun τ => by
        have := hlay false τ; rw [← hX, ← hF] at this; exact this
      simp [hs_1, hs_2, hs_3, hz_1, hz_2, hz_3, hz_4]
      generalize σ.upd c [AV.lit (Value.string { data := #[84] }), AV.lit (Value.string ByteArray.empty), AV.list true 1 [.lit (.int .u8 2)]] = σ at *
      generalize hS : ({ data := #[255, 253, 40, 255, 250, 40, 8, 2, 255, 240, 255, 250, 40, 2, 4, 84, 1, 76, 255, 240, 255, 250, 40, 3, 4, 2, 255, 240] } : ByteArray) = S
      have hSb : bytesV S = bytesA (helloS X F) := by subst hS hX hF; rfl
      have hSz : S.size ≤ 100 := by subst hS; decide
      have hSl : (helloS X F).length ≤ 100 := by subst hX hF; simp [helloS, helloR]
      clear hS
      refine callK.of (hlay _) ?_
      rintro v σ1 ⟨ad, f, kb, a1, b1, hk, hsub, rfl, rfl⟩
      have h1 := ltk_calls kb hk _ _ _ true 0 (helloS X F) (by omega) hok0 _ (putL_at hk L0 a1 b1 σ)
      rw [hL1] at h1
      simp [hSb]
      refine ⟨by omega, ?_⟩
      refine callK.of h1 ?_
      rintro v σ1 ⟨rfl, a2, b2, rfl⟩
      rw [putL_putL]
      simp
      refine callK.of (lout_calls kb hk L1 a2 b2 _ (putL_at hk L1 a2 b2 σ)) ?_
      rintro v σ1 ⟨rfl, rfl⟩
      rw [putL_putL, hE]
      clear h1
      generalize L1.emptied = L at *
      clear hL1 hE
      simp
      refine codeK.loop follows (st := st4s) (plans := pl4) (X := SnS) (fun s => s.i ≤ l.length)
        (fun s => [(0, .lit (.bool true)), (1, .lit (.bool true)), (2, .list false 1 (rowsA l)), (9, ptrA kb.l), (45, .list false 1 (rowsA l)), (46, .lit (.int .i64 l.length)), (47, .lit (.int .i64 s.i))])
        (fun s => putL kb (L.sent X F ((snP l).take s.i)) s.a s.b σ) (fun s => l.length - s.i) ⟨0, a2, b2⟩ (by kernel_rfl) (Nat.zero_le _) (by simp) (by dsimp only; rw [List.take_zero, sent_nil hR]; exact Store.sub_refl _) ?_
      · rintro ⟨i, a, b⟩ hi
        dsimp only at hi ⊢
        have hat := putL_at hk (L.sent X F ((snP l).take i)) a b σ
        by_cases hlt : i < l.length
        · have hlt' : (i : Int) < l.length := by omega
          have hw : IntKind.i64.wrap ((i : Int) + 1) = ((i + 1 : Nat) : Int) := wrap_i64 (by omega) (by omega)
          obtain ⟨p, hp⟩ : ∃ p, l[i] = p := ⟨_, rfl⟩
          have hg : ∀ h : i < (rowsA l).length, (rowsA l)[i]'h = .list false 1 (bytesA p) := fun h => by simp [rowsA, hp]
          by_cases h8 : i < 8
          · have h8' : (i : Int) < 8 := by omega
            have hpl : (p.take 200).length ≤ 200 := by simp; omega
            have hnx : (L.sent X F ((snP l).take i)).send (p.take 200) = L.sent X F ((snP l).take (i + 1)) := by
              rw [sent_snoc hR _ _ (by simp; omega), snP_take l i hlt h8, hp]
            have hsd := send_calls kb hk (L.sent X F ((snP l).take i)) a b true (p.take 200) (by omega) (sent_mode hR _) (sent_seq L X F) hR.small (sent_room L X F l i) _ hat
            rw [hnx] at hsd
            simp [hlt, hlt', hg, h8']
            refine callK.of (hcut _ _) ?_
            rintro v σ1 ⟨rfl, rfl⟩
            simp
            refine callK.of hsd ?_
            rintro v σ1 ⟨rfl, a3, b3, rfl⟩
            rw [putL_putL]
            simp
            exact ⟨⟨i + 1, a3, b3⟩, by dsimp only; omega, by dsimp only; omega, by dsimp only; rw [hw]; exact AV.le_refl _, Store.sub_refl _⟩
          · have h8' : ¬ (i : Int) < 8 := by omega
            have hsame : (snP l).take (i + 1) = (snP l).take i := by rw [List.take_of_length_le (by simp [snP]; omega), List.take_of_length_le (by simp [snP]; omega)]
            simp [hlt, hlt', hg, h8']
            exact ⟨⟨i + 1, a, b⟩, by dsimp only; omega, by dsimp only; omega, by dsimp only; rw [hw]; exact AV.le_refl _, by dsimp only; rw [hsame]; exact Store.sub_refl _⟩
        · obtain rfl : i = l.length := by omega
          have hall : (snP l).take l.length = snP l := List.take_of_length_le (by simp [snP]; omega)
          rw [hall] at hat ⊢
          have hlo := lout_calls kb hk (L.sent X F (snP l)) a b _ hat
          have hrc := fun τ => snt_records X F l τ
          have hmin : min (l.length : Int) 8 = ((snP l).length : Int) := by simp [snP]; omega
          have hmin2 : (if (8 : Int) < l.length then (8 : Int) else l.length) = ((snP l).length : Int) := by simp only [snP, List.length_map, List.length_take]; split <;> omega
          simp
          refine callK.of hlo ?_
          rintro v σ1 ⟨rfl, rfl⟩
          rw [putL_putL]
          generalize putL kb { L.sent X F (snP l) with out := [] } a b σ = Y at *
          have hso : (L.sent X F (snP l)).out = wire (wants X F (snP l)) := rfl
          rw [hso]
          simp
          refine callK.of (hrc _) ?_
          rintro v σ1 ⟨rfl, rfl⟩
          simp [hmin, hmin2, wants_length]
          clear hlo hat
          generalize hD : wants X F (snP l) = D at *
          refine codeK.loop follows (st := st4s) (plans := pl4) (X := Nat) (fun i => i ≤ (snP l).length)
            (fun i => [(0, .lit (.bool true)), (1, .lit (.bool true)), (2, .list false 1 (rowsA l)), (71, .list false 2 (recsA D)), (72, .lit (.int .i64 (snP l).length)), (73, .lit (.int .i64 i))]) (fun _ => σ1) (fun i => (snP l).length - i) 0 (by kernel_rfl) (Nat.zero_le _) (by simp) (Store.sub_refl _) ?_
          intro i hi
          have hsl := snP_len l
          by_cases hlt : i < (snP l).length
          · have hlt' : (i : Int) < (snP l).length := by omega
            have hw : IntKind.i64.wrap ((i : Int) + 1) = ((i + 1 : Nat) : Int) := wrap_i64 (by omega) (by omega)
            have hil : i < l.length := by simp [snP] at hlt; omega
            have hil' : (i : Int) < l.length := by omega
            obtain ⟨p, hp⟩ : ∃ p, l[i] = p := ⟨_, rfl⟩
            have hDl : D.length = (snP l).length := by rw [← hD, wants_length]
            have hDi : ∀ q : i < D.length, D[i]'q = wantF X F i (p.take 200) := fun q => by
              subst hD
              rw [wants_at]
              simp [snP, hp]
            have hgr : ∀ h : i < (recsA D).length, (recsA D)[i]'h = .agg [.list false 1 (bytesA (wantF X F i (p.take 200))), .lit (.bool false)] := fun h => by
              have : i < D.length := by simpa using h
              simp [recsA, hDi this]
            have hg : ∀ h : i < (rowsA l).length, (rowsA l)[i]'h = .list false 1 (bytesA p) := fun h => by simp [rowsA, hp]
            have hdl' : i < D.length := by omega
            have hf5 : ∀ a b c d e : Int, flat [.lit (.int .u8 a), .lit (.int .u8 b), .lit (.int .u8 c), .lit (.int .u8 d), .lit (.int .u8 e)] = [.lit (.int .u8 a), .lit (.int .u8 b), .lit (.int .u8 c), .lit (.int .u8 d), .lit (.int .u8 e)] := fun a b c d e => by simp [flat]
            have hsm := fun o τ => same_calls false o (wantF X F i (p.take 200)) (wantF X F i (p.take 200)) τ
            have hwt : wantF X F i (p.take 200) = [0, 0, 0, 0, UInt8.ofNat i] ++ p.take 200 := by
              have : i / 256 = 0 := by omega
              subst hX hF; simp [wantF, headL, this]
            simp [hlt, hlt', hgr, hdl']
            intro q hq
            simp [hil, hil', hg]
            refine callK.of (hcut _ _) ?_
            rintro v σ2 ⟨rfl, rfl⟩
            obtain ⟨U, hUi⟩ : ∃ U, UInt8.ofNat i = U := ⟨_, rfl⟩
            rw [hUi] at hwt
            rw [hwt] at hsm
            rw [hwt]
            simp [hf5]
            have hiu : IntKind.u8.wrap (i : Int) = (U.toNat : Int) := by rw [wrap_u8 (by omega) (by omega), ← hUi]; simp; omega
            intro r hr
            rw [ite_none] at hr
            obtain ⟨n1, hr⟩ := hr
            have n2 : ¬ q = r := fun e => n1 e.symm
            have hfb : flat (bytesA (p.take 200)) = bytesA (p.take 200) := flat_bytesA _
            have hmd : List.map AV.drop1 (bytesA (p.take 200)) = bytesA (p.take 200) := drop1_bytesA _
            have hrow : [AV.lit (.int .u8 0), .lit (.int .u8 0), .lit (.int .u8 0), .lit (.int .u8 0), .lit (.int .u8 U.toNat)] = bytesA [0, 0, 0, 0, U] := rfl
            have htk : ∀ m, List.take (5 + min 200 p.length) (AV.lit (.int .u8 0) :: .lit (.int .u8 0) :: .lit (.int .u8 0) :: .lit (.int .u8 0) :: .lit (.int .u8 U.toNat) :: (bytesA (p.take 200) ++ List.replicate m AV.top)) = bytesA (0 :: 0 :: 0 :: 0 :: U :: p.take 200) := fun m => by
              have e : (AV.lit (.int .u8 0) :: .lit (.int .u8 0) :: .lit (.int .u8 0) :: .lit (.int .u8 0) :: .lit (.int .u8 U.toNat) :: (bytesA (p.take 200) ++ List.replicate m AV.top)) = bytesA (0 :: 0 :: 0 :: 0 :: U :: p.take 200) ++ List.replicate m AV.top := rfl
              rw [e]
              exact List.take_left' (by simp; omega)
            have hsm2 := fun (w : List UInt8) o τ => snt_same w o τ
            have hσr : ∀ X Y, Store.sub σ1 (((σ1.upd q X).upd r Y).del r) := fun X Y => by rw [del_upd_new (by rw [supd_apply, if_neg n1]; exact hr)]; exact sub_upd_self _ _ _ hq
            refine ⟨by omega, by omega, fun hp0 => ?_, fun hp0 p2 cap hp2 hc1 hc2 => ?_⟩
            · simp [n1, n2, hp0, hiu]
              rw [hrow]
              refine callK.of (hsm2 _ _ _) ?_
              rintro v σ3 ⟨rfl, rfl⟩
              simp [n1, n2]
              exact ⟨i + 1, by omega, by omega, by rw [hw]; exact AV.le_refl _, hσr _ _⟩
            · have m1 : ¬ p2 = q := fun e => by
                subst e
                rcases hp2 with h | h
                · exact n1 h
                · simp [n1, n2] at h
              have m2 : ¬ q = p2 := fun e => m1 e.symm
              simp [n1, n2, m1, m2, hfb, hmd, hiu, htk]
              refine ⟨by omega, by omega, by omega, fun v hv => cells_bytesA hv, ?_⟩
              refine callK.of (hsm2 _ _ _) ?_
              rintro v σ3 ⟨rfl, rfl⟩
              have hp2' : σ1 p2 = none := by
                rcases hp2 with h | h
                · rw [← h]; exact hr
                · by_cases e : p2 = r
                  · rw [e]; exact hr
                  · simpa [e, m1] using h
              simp [n1, n2, m1, m2]
              refine ⟨i + 1, by omega, by omega, by rw [hw]; exact AV.le_refl _, ?_⟩
              rw [del_upd_new (p := r) (by rw [supd_apply, if_neg n1]; exact hr), del_upd_new (by rw [supd_apply, if_neg m1]; exact hp2')]
              exact sub_upd_self _ _ _ hq
          · obtain rfl : i = (snP l).length := by omega
            simp
            exact ⟨_, Store.sub_refl _⟩
end Go.Proofs.YteaidaolablegaaGreatDoor
/-
  Arguments opened.
-/
namespace Go.Proofs.YteaidaolablegaaGreatDoor
open Go Go.AL
theorem open_bytes : Opens Tryz.prog 22 (fun l : List UInt8 => [.list false 1 (bytesA l)]) (fun l => l.length ≤ maxLen) :=
  (Opens.slice Tryz.underlying22 (sz := 1) (by kernel_rfl) (by omega) (Opens.u8 Tryz.underlying5) byteA (fun _ => rfl) (fun _ => rfl)).by id fun _ h => ⟨h.1, rfl⟩
theorem open_lists : Opens Tryz.prog 25 (fun l : List (List UInt8) => [.list false 1 (l.map fun p => .list false 1 (bytesA p))]) (fun l => l.length ≤ maxLen) :=
  (Opens.slice Tryz.underlying25 (sz := 1) (by kernel_rfl) (by omega) open_bytes (fun p => .list false 1 (bytesA p)) (fun _ => rfl) (fun _ => rfl)).by id fun _ h => ⟨h.1, rfl⟩
end Go.Proofs.YteaidaolablegaaGreatDoor
