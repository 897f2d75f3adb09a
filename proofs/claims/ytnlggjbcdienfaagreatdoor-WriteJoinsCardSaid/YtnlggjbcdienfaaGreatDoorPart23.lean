/-
  Whether a pair may be.
-/
import Derived.Test.YtnlggjbcdienfaaGreatDoorPart22
namespace Go.Proofs.YtnlggjbcdienfaaGreatDoor
open Go Go.AL Go.Sp

theorem mem_done {L : List UInt8} {v : UInt8} (h : ∀ j (hj : j < L.length), j < L.length → L[j] ≠ v) : v ∉ L := fun hm => by
  obtain ⟨j, hj, rfl⟩ := List.getElem_of_mem hm
  exact h j hj hj rfl
set_option maxRecDepth 8000 in
set_option maxHeartbeats 1000000 in
theorem right_calls (t v : UInt8) (σ : Store) : ACalls Tryz.prog 45 [.agg [byteA t, byteA v]] σ fun r σ' => r = .lit (.bool (decide (okP t.toNat v.toNat))) ∧ σ' = σ := by
  have ht := byteA_lit t
  have hv := byteA_lit v
  refine ACalls.of_awp follows (st := st45) (plans := pl45) (n := 33) Tryz.func45 rfl (by kernel_rfl) (by kernel_rfl) (by kernel_rfl) ?_
  by_cases h0 : (t.toNat : Int) = 0
  · have hx : v ∈ ([0] : List UInt8) ↔ okP t.toNat v.toNat := by
      have e : t.toNat = 0 := by omega
      rw [e]
      exact all_bytes (p := fun v => v ∈ ([0] : List UInt8) ↔ okP 0 v.toNat) (by decide +kernel) v
    have hlen : ([0] : List UInt8).length = 1 := rfl
    have hlit : [AV.lit (.int .u8 0)] = bytesA [0] := rfl
    generalize ([0] : List UInt8) = L at *
    rw [ht, h0]
    simp
    intro p hp
    rw [hlit]
    refine codeK.loop follows (st := st45) (plans := pl45) (X := Nat) (fun i => i ≤ L.length ∧ ∀ j (hj : j < L.length), j < i → L[j] ≠ v)
      (fun i => [(1, ptrA p), (22, .list false 1 (bytesA L)), (23, .lit (.int .i64 L.length)), (24, .lit (.int .i64 i))]) (fun _ => σ.upd p [.lit (.int .u8 0), byteA v]) (fun i => L.length - i) 0 (by kernel_rfl) (by simp) (by simp [hlen]) (Store.sub_refl _) fun i hi => ?_
    obtain ⟨hi, hk⟩ := hi
    by_cases hlt : i < L.length
    · have hw : IntKind.i64.wrap ((i : Int) + 1) = ((i + 1 : Nat) : Int) := wrap_i64 (by omega) (by omega)
      have hg := bytesA_at L i hlt
      have hnx : L[i] ≠ v → ∀ j (hj : j < L.length), j < i + 1 → L[j] ≠ v := fun h j hj hji => by
        by_cases e : j = i
        · subst e; exact h
        · exact hk j hj (by omega)
      have hin : L[i] = v → v ∈ L := fun h => h ▸ List.getElem_mem hlt
      generalize L[i] = b at *
      by_cases hb : b = v
      · have ho := hx.1 (hin hb)
        subst hb
        simp [hlt, hg, hv, ho]
        exact sub_upd_self _ _ _ hp
      · have hb' : ¬ (b.toNat : Int) = v.toNat := fun h => hb (UInt8.toNat_inj.1 (by omega))
        simp [hlt, hg, hv, byteA_lit b, hb']
        exact ⟨i + 1, ⟨by omega, hnx hb⟩, by omega, by rw [hw]; exact AV.le_refl _⟩
    · obtain rfl : i = L.length := by omega
      have ho : ¬ okP t.toNat v.toNat := fun h => mem_done hk (hx.2 h)
      simp [ho]
      exact sub_upd_self _ _ _ hp
  by_cases h192 : (t.toNat : Int) = 192
  · have ho : okP t.toNat v.toNat := by unfold okP; omega
    rw [ht, h192]
    simp [ho]
    exact fun p hp => sub_upd_self _ _ _ hp
  by_cases h65 : (t.toNat : Int) = 65
  · have hx : v ∈ ([0, 240, 241, 242, 244, 248] : List UInt8) ↔ okP t.toNat v.toNat := by
      have e : t.toNat = 65 := by omega
      rw [e]
      exact all_bytes (p := fun v => v ∈ ([0, 240, 241, 242, 244, 248] : List UInt8) ↔ okP 65 v.toNat) (by decide +kernel) v
    have hlen : ([0, 240, 241, 242, 244, 248] : List UInt8).length = 6 := rfl
    have hlit : [AV.lit (.int .u8 0), AV.lit (.int .u8 240), AV.lit (.int .u8 241), AV.lit (.int .u8 242), AV.lit (.int .u8 244), AV.lit (.int .u8 248)] = bytesA [0, 240, 241, 242, 244, 248] := rfl
    generalize ([0, 240, 241, 242, 244, 248] : List UInt8) = L at *
    rw [ht, h65]
    simp
    intro p hp
    rw [hlit]
    refine codeK.loop follows (st := st45) (plans := pl45) (X := Nat) (fun i => i ≤ L.length ∧ ∀ j (hj : j < L.length), j < i → L[j] ≠ v)
      (fun i => [(1, ptrA p), (22, .list false 1 (bytesA L)), (23, .lit (.int .i64 L.length)), (24, .lit (.int .i64 i))]) (fun _ => σ.upd p [.lit (.int .u8 65), byteA v]) (fun i => L.length - i) 0 (by kernel_rfl) (by simp) (by simp [hlen]) (Store.sub_refl _) fun i hi => ?_
    obtain ⟨hi, hk⟩ := hi
    by_cases hlt : i < L.length
    · have hw : IntKind.i64.wrap ((i : Int) + 1) = ((i + 1 : Nat) : Int) := wrap_i64 (by omega) (by omega)
      have hg := bytesA_at L i hlt
      have hnx : L[i] ≠ v → ∀ j (hj : j < L.length), j < i + 1 → L[j] ≠ v := fun h j hj hji => by
        by_cases e : j = i
        · subst e; exact h
        · exact hk j hj (by omega)
      have hin : L[i] = v → v ∈ L := fun h => h ▸ List.getElem_mem hlt
      generalize L[i] = b at *
      by_cases hb : b = v
      · have ho := hx.1 (hin hb)
        subst hb
        simp [hlt, hg, hv, ho]
        exact sub_upd_self _ _ _ hp
      · have hb' : ¬ (b.toNat : Int) = v.toNat := fun h => hb (UInt8.toNat_inj.1 (by omega))
        simp [hlt, hg, hv, byteA_lit b, hb']
        exact ⟨i + 1, ⟨by omega, hnx hb⟩, by omega, by rw [hw]; exact AV.le_refl _⟩
    · obtain rfl : i = L.length := by omega
      have ho : ¬ okP t.toNat v.toNat := fun h => mem_done hk (hx.2 h)
      simp [ho]
      exact sub_upd_self _ _ _ hp
  by_cases h66 : (t.toNat : Int) = 66
  · have hx : v ∈ ([0, 241, 242, 243, 244, 245, 246, 247] : List UInt8) ↔ okP t.toNat v.toNat := by
      have e : t.toNat = 66 := by omega
      rw [e]
      exact all_bytes (p := fun v => v ∈ ([0, 241, 242, 243, 244, 245, 246, 247] : List UInt8) ↔ okP 66 v.toNat) (by decide +kernel) v
    have hlen : ([0, 241, 242, 243, 244, 245, 246, 247] : List UInt8).length = 8 := rfl
    have hlit : [AV.lit (.int .u8 0), AV.lit (.int .u8 241), AV.lit (.int .u8 242), AV.lit (.int .u8 243), AV.lit (.int .u8 244), AV.lit (.int .u8 245), AV.lit (.int .u8 246), AV.lit (.int .u8 247)] = bytesA [0, 241, 242, 243, 244, 245, 246, 247] := rfl
    generalize ([0, 241, 242, 243, 244, 245, 246, 247] : List UInt8) = L at *
    rw [ht, h66]
    simp
    intro p hp
    rw [hlit]
    refine codeK.loop follows (st := st45) (plans := pl45) (X := Nat) (fun i => i ≤ L.length ∧ ∀ j (hj : j < L.length), j < i → L[j] ≠ v)
      (fun i => [(1, ptrA p), (22, .list false 1 (bytesA L)), (23, .lit (.int .i64 L.length)), (24, .lit (.int .i64 i))]) (fun _ => σ.upd p [.lit (.int .u8 66), byteA v]) (fun i => L.length - i) 0 (by kernel_rfl) (by simp) (by simp [hlen]) (Store.sub_refl _) fun i hi => ?_
    obtain ⟨hi, hk⟩ := hi
    by_cases hlt : i < L.length
    · have hw : IntKind.i64.wrap ((i : Int) + 1) = ((i + 1 : Nat) : Int) := wrap_i64 (by omega) (by omega)
      have hg := bytesA_at L i hlt
      have hnx : L[i] ≠ v → ∀ j (hj : j < L.length), j < i + 1 → L[j] ≠ v := fun h j hj hji => by
        by_cases e : j = i
        · subst e; exact h
        · exact hk j hj (by omega)
      have hin : L[i] = v → v ∈ L := fun h => h ▸ List.getElem_mem hlt
      generalize L[i] = b at *
      by_cases hb : b = v
      · have ho := hx.1 (hin hb)
        subst hb
        simp [hlt, hg, hv, ho]
        exact sub_upd_self _ _ _ hp
      · have hb' : ¬ (b.toNat : Int) = v.toNat := fun h => hb (UInt8.toNat_inj.1 (by omega))
        simp [hlt, hg, hv, byteA_lit b, hb']
        exact ⟨i + 1, ⟨by omega, hnx hb⟩, by omega, by rw [hw]; exact AV.le_refl _⟩
    · obtain rfl : i = L.length := by omega
      have ho : ¬ okP t.toNat v.toNat := fun h => mem_done hk (hx.2 h)
      simp [ho]
      exact sub_upd_self _ _ _ hp
  by_cases h67 : (t.toNat : Int) = 67
  · have hx : v ∈ ([0, 241] : List UInt8) ↔ okP t.toNat v.toNat := by
      have e : t.toNat = 67 := by omega
      rw [e]
      exact all_bytes (p := fun v => v ∈ ([0, 241] : List UInt8) ↔ okP 67 v.toNat) (by decide +kernel) v
    have hlen : ([0, 241] : List UInt8).length = 2 := rfl
    have hlit : [AV.lit (.int .u8 0), AV.lit (.int .u8 241)] = bytesA [0, 241] := rfl
    generalize ([0, 241] : List UInt8) = L at *
    rw [ht, h67]
    simp
    intro p hp
    rw [hlit]
    refine codeK.loop follows (st := st45) (plans := pl45) (X := Nat) (fun i => i ≤ L.length ∧ ∀ j (hj : j < L.length), j < i → L[j] ≠ v)
      (fun i => [(1, ptrA p), (22, .list false 1 (bytesA L)), (23, .lit (.int .i64 L.length)), (24, .lit (.int .i64 i))]) (fun _ => σ.upd p [.lit (.int .u8 67), byteA v]) (fun i => L.length - i) 0 (by kernel_rfl) (by simp) (by simp [hlen]) (Store.sub_refl _) fun i hi => ?_
    obtain ⟨hi, hk⟩ := hi
    by_cases hlt : i < L.length
    · have hw : IntKind.i64.wrap ((i : Int) + 1) = ((i + 1 : Nat) : Int) := wrap_i64 (by omega) (by omega)
      have hg := bytesA_at L i hlt
      have hnx : L[i] ≠ v → ∀ j (hj : j < L.length), j < i + 1 → L[j] ≠ v := fun h j hj hji => by
        by_cases e : j = i
        · subst e; exact h
        · exact hk j hj (by omega)
      have hin : L[i] = v → v ∈ L := fun h => h ▸ List.getElem_mem hlt
      generalize L[i] = b at *
      by_cases hb : b = v
      · have ho := hx.1 (hin hb)
        subst hb
        simp [hlt, hg, hv, ho]
        exact sub_upd_self _ _ _ hp
      · have hb' : ¬ (b.toNat : Int) = v.toNat := fun h => hb (UInt8.toNat_inj.1 (by omega))
        simp [hlt, hg, hv, byteA_lit b, hb']
        exact ⟨i + 1, ⟨by omega, hnx hb⟩, by omega, by rw [hw]; exact AV.le_refl _⟩
    · obtain rfl : i = L.length := by omega
      have ho : ¬ okP t.toNat v.toNat := fun h => mem_done hk (hx.2 h)
      simp [ho]
      exact sub_upd_self _ _ _ hp
  have ho : ¬ okP t.toNat v.toNat := by unfold okP; omega
  have h0' : ¬ t.toNat = 0 := by omega
  rw [ht]
  simp [h0', h192, h65, h66, h67]
  intro p hp
  refine codeK.loop follows (st := st45) (plans := pl45) (X := Unit) (fun _ => True)
    (fun _ => [(22, .list false 1 []), (23, .lit (.int .i64 0)), (24, .lit (.int .i64 0))]) (fun _ => σ.upd p [.lit (.int .u8 t.toNat), byteA v]) (fun _ => 0) () (by kernel_rfl) trivial (by simp) (Store.sub_refl _) fun _ _ => ?_
  simp [ho]
  exact sub_upd_self _ _ _ hp
end Go.Proofs.YtnlggjbcdienfaaGreatDoor
/-
  Orders, as the document reads them: attributes, addresses.
-/
namespace Go.Proofs.YtnlggjbcdienfaaGreatDoor
open Go Go.AL Go.Sp

set_option maxRecDepth 8000 in
theorem rdec_calls (o : Bool) (l : List UInt8) (σ : Store) : ACalls Tryz.prog 66 [.lit (.int .i64 12), .list o 1 (bytesA l)] σ fun v σ' => v = .tuple [.lit (.int .i64 (adN l)), .lit (.int .i64 (adE l))] ∧ σ' = σ := by
  rcases l with _ | ⟨a, _ | ⟨b, tl⟩⟩
  · refine ACalls.of_awp follows (st := st66) (plans := pl66) (n := 59) Tryz.func66 rfl (by kernel_rfl) (by kernel_rfl) (by kernel_rfl) ?_
    simp [adN, adE]
  · refine ACalls.of_awp follows (st := st66) (plans := pl66) (n := 59) Tryz.func66 rfl (by kernel_rfl) (by kernel_rfl) (by kernel_rfl) ?_
    simp [adN, adE]
  · have ha := a.toNat_lt
    have hb := b.toNat_lt
    have hN : adN (a :: b :: tl) = (decM a b).1 := rfl
    have hE : adE (a :: b :: tl) = (decM a b).2 := rfl
    by_cases h64 : a.toNat < 64
    · have hd : decM a b = (a.toNat * 256 + b.toNat, 0) := by unfold decM; rw [if_pos (by omega)]
      have gl0 : 0 < (bytesA (a :: b :: tl)).length := by simp
      have gl1 : 1 < (bytesA (a :: b :: tl)).length := by simp
      have gl2 : ¬ (((bytesA (a :: b :: tl)).length : Int) < 2) := by simp; omega
      have e0 : (bytesA (a :: b :: tl))[0] = byteA a := rfl
      have e1 : (bytesA (a :: b :: tl))[1] = byteA b := rfl
      have wa := wrapB a
      have wb := wrapB b
      have w1 : IntKind.i64.wrap (256 * (a.toNat : Int)) = 256 * (a.toNat : Int) := wrap_i64 (by omega) (by omega)
      have w2 : IntKind.i64.wrap (256 * (a.toNat : Int) + (b.toNat : Int)) = ((a.toNat * 256 + b.toNat : Nat) : Int) := by rw [wrap_i64 (by omega) (by omega)]; omega
      have h64' : (a.toNat : Int) < 64 := by omega
      rw [hN, hE, hd]
      generalize bytesA (a :: b :: tl) = L at *
      refine ACalls.of_awp follows (st := st66) (plans := pl66) (n := 59) Tryz.func66 rfl (by kernel_rfl) (by kernel_rfl) (by kernel_rfl) ?_
      simp [gl2, gl0, gl1, e0, e1, byteA, wa, wb, w1, w2, h64, h64']
    · by_cases h2 : a.toNat < 128 ∨ 192 ≤ a.toNat
      · have hd : decM a b = (unsix a * 64 + unsix b, 0) := by unfold decM; rw [if_neg (by omega), if_neg (by omega)]
        rw [hN, hE, hd]
        exact rdec_core o a b (bytesA (a :: b :: tl)) (unsix a) (unsix b) (unsix_lt a) (unsix_lt b) (by simp) (by simp) rfl rfl h64 h2 (runsix_calls a) (runsix_calls b) σ
      · have hd : decM a b = (0, 9) := by unfold decM; rw [if_neg (by omega), if_pos (by omega)]
        have gl0 : 0 < (bytesA (a :: b :: tl)).length := by simp
        have gl1 : 1 < (bytesA (a :: b :: tl)).length := by simp
        have gl2 : ¬ (((bytesA (a :: b :: tl)).length : Int) < 2) := by simp; omega
        have e0 : (bytesA (a :: b :: tl))[0] = byteA a := rfl
        have e1 : (bytesA (a :: b :: tl))[1] = byteA b := rfl
        have wa := wrapB a
        have wb := wrapB b
        have w1 : IntKind.i64.wrap (256 * (a.toNat : Int)) = 256 * (a.toNat : Int) := wrap_i64 (by omega) (by omega)
        have w2 : IntKind.i64.wrap (256 * (a.toNat : Int) + (b.toNat : Int)) = ((a.toNat * 256 + b.toNat : Nat) : Int) := by rw [wrap_i64 (by omega) (by omega)]; omega
        have h64' : ¬ (a.toNat : Int) < 64 := by omega
        have h3 : 128 ≤ a.toNat := by omega
        have h3' : (128 : Int) ≤ a.toNat := by omega
        have h4 : a.toNat < 192 := by omega
        have h4' : (a.toNat : Int) < 192 := by omega
        rw [hN, hE, hd]
        generalize bytesA (a :: b :: tl) = L at *
        refine ACalls.of_awp follows (st := st66) (plans := pl66) (n := 59) Tryz.func66 rfl (by kernel_rfl) (by kernel_rfl) (by kernel_rfl) ?_
        simp [gl2, gl0, gl1, e0, e1, byteA, wa, wb, w1, w2, h64, h64', h3, h3', h4, h4']

def parR (l : List UInt8) : List AV := [.list true 2 (pairsA (attrF l).2), .lit (.int .i64 (attrN l)), .lit (.int .i64 (attrF l).1)]
theorem prsN_append1 (l : List UInt8) (n : Nat) : pairsA (prsN l (n + 1)) = pairsA (prsN l n) ++ [.agg [byteA (l[1 + 2 * n]?.getD 0), byteA (l[1 + 2 * n + 1]?.getD 0)]] := by
  rw [prsN_succ]; simp [pairsA]
theorem prsN_len (l : List UInt8) (n : Nat) : (pairsA (prsN l n)).length = n := by simp [pairsA, prsN]
theorem chkE_okP (x y : UInt8) : chkE x y = 0 ↔ okP x.toNat y.toNat := by unfold chkE; split <;> simp [*]
set_option maxRecDepth 8000 in
set_option maxHeartbeats 1000000 in
theorem rparse_calls (o : Bool) (l : List UInt8) (hl : l.length ≤ 1000000000) (σ : Store) : ACalls Tryz.prog 65 [.list o 1 (bytesA l)] σ fun v σ' => v = .tuple (parR l) ∧ σ' = σ := by
  rcases l with _ | ⟨c, tl⟩
  · refine ACalls.of_awp follows (st := st65) (plans := pl65) (n := 55) Tryz.func65 rfl (by kernel_rfl) (by kernel_rfl) (by kernel_rfl) ?_
    simp [parR, attrN, attrF, bytesA, pairsA]
  have hcl := c.toNat_lt
  have hc0 : ∀ h : 0 < (bytesA (c :: tl)).length, (bytesA (c :: tl))[0] = byteA c := fun _ => rfl
  have hlen : (bytesA (c :: tl)).length = (c :: tl).length := bytesA_length _
  have hpos : 0 < (c :: tl).length := by simp
  have hF : attrF (c :: tl) = if (c :: tl).length < 1 + 2 * c.toNat then (2, []) else if allP (prsN (c :: tl) c.toNat) then (0, prsN (c :: tl) c.toNat) else (10, []) := rfl
  have hN : attrN (c :: tl) = if (attrF (c :: tl)).1 = 0 then 1 + 2 * c.toNat else 0 := rfl
  have hgen : ∀ k, k < c.toNat → 1 + 2 * c.toNat ≤ (c :: tl).length → ∃ x y, (c :: tl)[1 + 2 * k]? = some x ∧ (c :: tl)[1 + 2 * k + 1]? = some y := fun k hk hh => by
    have h1 : 1 + 2 * k < (c :: tl).length := by omega
    have h2 : 1 + 2 * k + 1 < (c :: tl).length := by omega
    exact ⟨_, _, List.getElem?_eq_getElem h1, List.getElem?_eq_getElem h2⟩
  unfold parR
  rw [hN, hF]
  generalize c :: tl = l at *
  have wc := wrapB c
  have w1 : IntKind.i64.wrap ((l.length : Int) - 1) = ((l.length - 1 : Nat) : Int) := by rw [wrap_i64 (by omega) (by omega)]; omega
  have w2 : IntKind.i64.wrap (2 * (c.toNat : Int)) = 2 * (c.toNat : Int) := wrap_i64 (by omega) (by omega)
  refine ACalls.of_awp follows (st := st65) (plans := pl65) (n := 55) Tryz.func65 rfl (by kernel_rfl) (by kernel_rfl) (by kernel_rfl) ?_
  by_cases hsh : l.length < 1 + 2 * c.toNat
  · have hlt : l.length - 1 < 2 * c.toNat := by omega
    have hlt' : (((l.length - 1 : Nat) : Int) < 2 * (c.toNat : Int)) := by omega
    have hne : ¬ (l.length : Int) = 0 := by omega
    simp [hne, hc0, hpos, byteA_lit, wc, w1, w2, hlt', hsh, pairsA, show l ≠ [] from fun e => by subst e; simp at hpos]
  · have hlt' : ¬ (((l.length - 1 : Nat) : Int) < 2 * (c.toNat : Int)) := by omega
    have hne : ¬ (l.length : Int) = 0 := by omega
    have hnil : l ≠ [] := fun e => by subst e; simp at hpos
    simp [hne, hc0, hpos, byteA_lit, wc, w1, w2, hlt', hnil, hsh]
    refine codeK.loop follows (st := st65) (plans := pl65) (X := Nat) (fun i => i ≤ c.toNat ∧ ∀ j, j < i → chkE (l[1 + 2 * j]?.getD 0) (l[1 + 2 * j + 1]?.getD 0) = 0)
      (fun i => [(0, .list o 1 (bytesA l)), (5, .list true 2 (pairsA (prsN l i))), (6, .lit (.int .i64 i))]) (fun _ => σ) (fun i => c.toNat - i) 0 (by kernel_rfl) (by simp) (by simp [prsN, pairsA]) (Store.sub_refl _) fun i hi => ?_
    obtain ⟨hi, hk⟩ := hi
    have hpl := prsN_len l i
    by_cases hlt : i < c.toNat
    · have hw : IntKind.i64.wrap ((i : Int) + 1) = ((i + 1 : Nat) : Int) := wrap_i64 (by omega) (by omega)
      have u1 : IntKind.i64.wrap (2 * (i : Int)) = ((2 * i : Nat) : Int) := by rw [wrap_i64 (by omega) (by omega)]; omega
      have u2 : IntKind.i64.wrap (1 + ((2 * i : Nat) : Int)) = ((1 + 2 * i : Nat) : Int) := by rw [wrap_i64 (by omega) (by omega)]; omega
      have u3 : IntKind.i64.wrap (2 + ((2 * i : Nat) : Int)) = ((1 + 2 * i + 1 : Nat) : Int) := by rw [wrap_i64 (by omega) (by omega)]; omega
      obtain ⟨x, y, hx, hy⟩ := hgen i hlt (by omega)
      have g1 : (bytesA l)[1 + 2 * i]? = some (byteA x) := by rw [bytesA_get, hx]; rfl
      have g2 : (bytesA l)[1 + 2 * i + 1]? = some (byteA y) := by rw [bytesA_get, hy]; rfl
      have g3 : (((1 + 2 * i + 1 : Nat) : Int)).toNat = 1 + 2 * i + 1 := rfl
      have g4 : (((1 + 2 * i : Nat) : Int)).toNat = 1 + 2 * i := rfl
      have hsu := prsN_append1 l i
      rw [hx, hy] at hsu
      simp only [Option.getD_some] at hsu
      have hr := fun τ => right_calls x y τ
      have hck := chkE_okP x y
      have hne2 : ¬ allP (prsN l c.toNat) ∨ okP x.toNat y.toNat := by
        by_cases h : okP x.toNat y.toNat
        · exact .inr h
        · refine .inl fun ha => h (hck.1 ?_)
          have := ha (x, y) (by
            unfold prsN
            rw [List.mem_map]
            exact ⟨i, List.mem_range.2 hlt, by rw [hx, hy]; rfl⟩)
          exact this
      have hstep : okP x.toNat y.toNat → ∀ j, j < i + 1 → chkE (l[1 + 2 * j]?.getD 0) (l[1 + 2 * j + 1]?.getD 0) = 0 := fun h j hj => by
        by_cases e : j = i
        · subst e; rw [hx, hy]; exact hck.2 h
        · exact hk j (by omega)
      have hlt' : (i : Int) < c.toNat := by omega
      generalize 1 + 2 * i + 1 = I2 at *
      generalize 1 + 2 * i = I1 at *
      generalize 2 * i = I0 at *
      simp only [byteA_lit] at hr hsu
      simp [hlt, hlt', hc0, hpos, byteA_lit, wc, u1, u2, u3, g1, g2]
      intro p hp
      refine callK.of (hr _) ?_
      rintro v σ' ⟨rfl, rfl⟩
      by_cases h : okP x.toNat y.toNat
      · simp [h]
        refine ⟨by omega, by omega, i + 1, ⟨by omega, hstep h⟩, by omega, ⟨?_, ?_⟩, ?_⟩
        · rw [hsu]; exact AV.le_refl _
        · rw [hw]; exact AV.le_refl _
        · exact sub_upd_self _ _ _ hp
      · have hno : ¬ allP (prsN l c.toNat) := hne2.resolve_right h
        simp [h, hno, pairsA]
        exact sub_upd_self _ _ _ hp
    · obtain rfl : i = c.toNat := by omega
      have ha : allP (prsN l c.toNat) := fun z hz => by
        unfold prsN at hz
        rw [List.mem_map] at hz
        obtain ⟨j, hj, rfl⟩ := hz
        exact hk j (List.mem_range.1 hj)
      have w3 : IntKind.i64.wrap (1 + 2 * (c.toNat : Int)) = 1 + 2 * (c.toNat : Int) := wrap_i64 (by omega) (by omega)
      simp [hc0, hpos, byteA_lit, wc, hpl, w2, w3, ha]
end Go.Proofs.YtnlggjbcdienfaaGreatDoor
/-
  Orders behind orders: two runs of bytes read as one.
-/
namespace Go.Proofs.YtnlggjbcdienfaaGreatDoor
open Go Go.AL Go.Sp

theorem failE_ne (e c : Nat) (hc : ¬ c = 0) : ¬ failE e c = 0 := by unfold failE; split <;> omega
theorem ch_some {l : List UInt8} {e : Nat} (h : chE l e = 0) : e = 0 ∧ ∃ c tl, l = c :: tl ∧ isOrd c = false := by
  rcases l with _ | ⟨c, tl⟩
  · exact absurd h (failE_ne _ _ (by omega))
  · have h2 : (if isOrd c = true then failE e 10 else e) = 0 := h
    by_cases hc : isOrd c = true
    · rw [if_pos hc] at h2
      exact absurd h2 (failE_ne _ _ (by omega))
    · rw [if_neg hc] at h2
      exact ⟨h2, c, tl, rfl, by simpa using hc⟩
theorem ad_some {l : List UInt8} (h : adE l = 0) : ∃ x y tl, l = x :: y :: tl := by
  rcases l with _ | ⟨x, _ | ⟨y, tl⟩⟩
  · simp [adE] at h
  · simp [adE] at h
  · exact ⟨x, y, tl, rfl⟩
theorem pr_some {l : List UInt8} (h : prE l 0 = 0) : ∃ x y tl, l = x :: y :: tl := by
  rcases l with _ | ⟨x, _ | ⟨y, tl⟩⟩
  · exact absurd h (failE_ne _ _ (by omega))
  · exact absurd h (failE_ne _ _ (by omega))
  · exact ⟨x, y, tl, rfl⟩
theorem prsN_append (l q : List UInt8) (n : Nat) (h : 1 + 2 * n ≤ l.length) : prsN (l ++ q) n = prsN l n := by
  unfold prsN
  apply List.map_congr_left
  intro i hi
  rw [List.mem_range] at hi
  rw [List.getElem?_append_left (by omega), List.getElem?_append_left (by omega)]
theorem attr_append {l q : List UInt8} (h : (attrF l).1 = 0) : attrF (l ++ q) = attrF l ∧ (l ++ q).drop (attrN (l ++ q)) = l.drop (attrN l) ++ q := by
  rcases l with _ | ⟨c, tl⟩
  · simp [attrF] at h
  have hlen : ¬ (c :: tl).length < 1 + 2 * c.toNat := fun hl => by simp [attrF] at h; rw [if_pos (by simpa using hl)] at h; simp at h
  have he : attrF ((c :: tl) ++ q) = attrF (c :: tl) := by
    have h2 : ¬ ((c :: tl) ++ q).length < 1 + 2 * c.toNat := by rw [List.length_append]; omega
    have hp := prsN_append (c :: tl) q c.toNat (by omega)
    show (if ((c :: tl) ++ q).length < 1 + 2 * c.toNat then (2, []) else if allP (prsN ((c :: tl) ++ q) c.toNat) then (0, prsN ((c :: tl) ++ q) c.toNat) else (10, [])) = _
    rw [if_neg h2, hp]
    show _ = (if (c :: tl).length < 1 + 2 * c.toNat then (2, []) else _)
    rw [if_neg hlen]
  refine ⟨he, ?_⟩
  have hn : attrN ((c :: tl) ++ q) = attrN (c :: tl) := by unfold attrN; rw [he]; rfl
  rw [hn, List.drop_append_of_le_length]
  unfold attrN
  rw [if_pos h]
  simp at hlen ⊢
  omega
theorem until_append {l q : List UInt8} (hq : q = [] ∨ isOrd (q.headD 0) = true) : untilO (l ++ q) = untilO l ∧ fromO (l ++ q) = fromO l ++ q := by
  have h0 : untilO q = [] ∧ fromO q = q := by
    rcases q with _ | ⟨c, tl⟩
    · exact ⟨rfl, rfl⟩
    · have : isOrd c = true := by
        rcases hq with h | h
        · cases h
        · exact h
      unfold untilO fromO
      simp [this]
  induction l with
  | nil => simp [untilO, fromO] at *; exact h0
  | cons c l ih =>
    unfold untilO fromO at *
    by_cases hc : isOrd c = true
    · simp [hc]
    · have hc' : isOrd c = false := by simpa using hc
      simp [hc', ih.1, ih.2]
theorem opF_append {c : UInt8} {tl q : List UInt8} (h : (opF (c :: tl)).1 = 0) (hq : q = [] ∨ isOrd (q.headD 0) = true) : opF (c :: tl ++ q) = (0, (opF (c :: tl)).2.1, (opF (c :: tl)).2.2 ++ q) := by
  rw [List.cons_append]
  by_cases hc : isOrd c = true
  · rcases isOrd_cases hc with rfl | rfl | rfl | rfl | rfl | rfl | rfl | rfl | rfl | rfl
    · simp only [opF_5]
    · simp only [opF_8] at h ⊢
      obtain ⟨_, x, r, rfl, hx⟩ := ch_some h
      simp [chE, hx]
    · simp only [opF_17] at h ⊢
      obtain ⟨x, y, r, rfl⟩ := ad_some h
      simpa [adE, adN, adL] using h
    · simp only [opF_18] at h ⊢
      obtain ⟨x, y, r, rfl⟩ := ad_some h
      simpa [adE, adN, adL] using h
    · simp only [opF_19]
    · simp only [opF_29] at h ⊢
      rcases tl with _ | ⟨x, r⟩
      · simp at h
      · simp
    · simp only [opF_40] at h ⊢
      obtain ⟨x, y, r, rfl⟩ := pr_some h
      simpa [prE, prP, prL] using h
    · simp only [opF_41] at h ⊢
      obtain ⟨h1, h2⟩ := attr_append (q := q) h
      rw [h1, h2, h]
    · simp only [opF_44] at h ⊢
      obtain ⟨h1, h2⟩ := attr_append (q := q) h
      rw [h1, h2, h]
    · simp only [opF_60] at h ⊢
      obtain ⟨ha, x, r, hr, hx⟩ := ch_some h
      obtain ⟨a, b, t, rfl⟩ := ad_some ha
      have hL : adL (a :: b :: t) = t := rfl
      have hL2 : adL (a :: b :: t ++ q) = t ++ q := rfl
      have hA : adE (a :: b :: t ++ q) = 0 := ha
      have hN : adN (a :: b :: t ++ q) = adN (a :: b :: t) := rfl
      have ht : t ≠ [] := fun e => by subst e; simp [raL, raG, adL] at hr
      have hG : raG (a :: b :: t ++ q) = raG (a :: b :: t) := by
        unfold raG; rw [hL, hL2]
        rcases t with _ | ⟨z, t⟩
        · exact absurd rfl ht
        · rfl
      have hR : raL (a :: b :: t ++ q) = raL (a :: b :: t) ++ q := by
        unfold raL; rw [hG, hL, hL2]
        split
        · rcases t with _ | ⟨z, t⟩
          · exact absurd rfl ht
          · rfl
        · rfl
      rw [hA, hN, hG, hR, hr]
      simp [chE, hx]
  · have hc' : isOrd c = false := by simpa using hc
    have hu := until_append (l := c :: tl) hq
    rw [opF_text c _ hc', opF_text c _ hc', ← List.cons_append, hu.1, hu.2]
/-- All pieces of both. -/
theorem allN_append {q : List UInt8} (hq : q = [] ∨ isOrd (q.headD 0) = true) : ∀ (n : Nat) (l : List UInt8), l.length ≤ n → (allN n l).2 = 0 → ∀ m, l.length + q.length ≤ m → allN m (l ++ q) = ((allN n l).1 ++ (allF q).1, (allF q).2)
  | n, [], _, _, m, hm => by
    have : allN n [] = ([], 0) := by cases n <;> rfl
    rw [this, List.nil_append]
    rw [allN_more m q (by simpa using hm)]; rfl
  | 0, c :: tl, hl, _, _, _ => by simp at hl
  | n + 1, c :: tl, hl, he, m, hm => by
    have h1 : (opF (c :: tl)).1 = 0 := by
      by_cases h : (opF (c :: tl)).1 = 0
      · exact h
      · unfold allN at he; rw [if_neg h] at he; exact absurd he h
    have e1 : allN (n + 1) (c :: tl) = ((opF (c :: tl)).2.1 :: (allN n (opF (c :: tl)).2.2).1, (allN n (opF (c :: tl)).2.2).2) := by
      show (if (opF (c :: tl)).1 = 0 then _ else _) = _
      rw [if_pos h1]
    rw [e1] at he ⊢
    have hlen := opF_len (l := c :: tl) (by simp)
    obtain ⟨m, rfl⟩ : ∃ k, m = k + 1 := ⟨m - 1, by simp at hm; omega⟩
    have ho := opF_append h1 hq
    have e2 : allN (m + 1) (c :: tl ++ q) = ((opF (c :: tl ++ q)).2.1 :: (allN m (opF (c :: tl ++ q)).2.2).1, (allN m (opF (c :: tl ++ q)).2.2).2) := by
      show (if (opF (c :: (tl ++ q))).1 = 0 then _ else _) = _
      rw [if_pos (by rw [← List.cons_append, ho])]; rfl
    rw [e2, ho]
    simp only
    rw [allN_append hq n (opF (c :: tl)).2.2 (by simp at hl hlen; omega) he m (by simp at hm hlen ⊢; omega)]
    rfl
theorem allF_append {l q : List UInt8} (h : (allF l).2 = 0) (hq : q = [] ∨ isOrd (q.headD 0) = true) : allF (l ++ q) = ((allF l).1 ++ (allF q).1, (allF q).2) :=
  allN_append hq l.length l (Nat.le_refl _) h _ (by simp)
/-! ### The pen -/
theorem runOps_append : ∀ (os os2 : List Op) (p : Pen) (k : Nat), (runOps os p k).2.2 = 0 → runOps (os ++ os2) p k = runOps os2 (runOps os p k).1 (runOps os p k).2.1
  | [], _, _, _, _ => rfl
  | o :: os, os2, p, k, h => by
    have e : ∀ l, runOps (o :: l) p k = if (p.do o).2 ≠ 0 then ((p.do o).1, k, (p.do o).2) else runOps l ((p.do o).1.mark o) (k + 1) := fun _ => rfl
    rw [e] at h
    rw [List.cons_append, e, e]
    by_cases hd : (p.do o).2 ≠ 0
    · rw [if_pos hd] at h; exact absurd h hd
    · rw [if_neg hd] at h
      rw [if_neg hd, if_neg hd]
      exact runOps_append os os2 _ _ h
theorem runOps_stop : ∀ (os os2 : List Op) (p : Pen) (k : Nat), (runOps os p k).2.2 ≠ 0 → runOps (os ++ os2) p k = runOps os p k
  | [], _, _, _, h => absurd rfl h
  | o :: os, os2, p, k, h => by
    have e : ∀ l, runOps (o :: l) p k = if (p.do o).2 ≠ 0 then ((p.do o).1, k, (p.do o).2) else runOps l ((p.do o).1.mark o) (k + 1) := fun _ => rfl
    rw [e] at h
    rw [List.cons_append, e, e]
    by_cases hd : (p.do o).2 ≠ 0
    · rw [if_pos hd, if_pos hd]
    · rw [if_neg hd] at h
      rw [if_neg hd, if_neg hd]
      exact runOps_stop os os2 _ _ h
/-- The count goes on. -/
theorem runOps_count : ∀ (os : List Op) (p : Pen) (k : Nat), runOps os p k = ((runOps os p 0).1, k + (runOps os p 0).2.1, (runOps os p 0).2.2)
  | [], _, _ => rfl
  | o :: os, p, k => by
    have e : ∀ k, runOps (o :: os) p k = if (p.do o).2 ≠ 0 then ((p.do o).1, k, (p.do o).2) else runOps os ((p.do o).1.mark o) (k + 1) := fun _ => rfl
    rw [e, e]
    by_cases hd : (p.do o).2 ≠ 0
    · rw [if_pos hd, if_pos hd]; rfl
    · rw [if_neg hd, if_neg hd, runOps_count os _ (k + 1), runOps_count os _ (0 + 1)]
      simp only [Prod.mk.injEq, true_and, and_true]
      omega
/-- Without SA the look stays. -/
theorem do_look (p : Pen) (o : Op) (h : ¬ o.kind = 40) : (p.do o).1.look = p.look := by
  have hput : ∀ (l : List UInt8) (p : Pen), (l.foldl (fun p c => p.put c false) p).look = p.look := by
    intro l
    induction l with
    | nil => intro _; rfl
    | cons c l ih => intro p; rw [List.foldl_cons, ih]; rfl
  unfold Pen.do
  split
  · exact hput _ _
  split
  · rfl
  split
  · unfold Pen.to; split <;> rfl
  split
  · unfold Pen.span; split <;> rfl
  split
  · unfold Pen.attribute; split <;> rfl
  split
  · unfold Pen.attribute; split <;> rfl
  split
  · split
    · unfold Pen.attribute; split <;> rfl
    · rfl
  split
  · rfl
  split
  · rfl
  · rfl
theorem runOps_look : ∀ (os : List Op) (p : Pen) (k : Nat), (∀ o ∈ os, ¬ o.kind = 40) → (runOps os p k).1.look = p.look
  | [], _, _, _ => rfl
  | o :: os, p, k, h => by
    have e : runOps (o :: os) p k = if (p.do o).2 ≠ 0 then ((p.do o).1, k, (p.do o).2) else runOps os ((p.do o).1.mark o) (k + 1) := rfl
    have hl := do_look p o (h o (by simp))
    rw [e]
    by_cases hd : (p.do o).2 ≠ 0
    · rw [if_pos hd]; exact hl
    · rw [if_neg hd, runOps_look os _ _ fun x hx => h x (by simp [hx])]
      exact hl
/-- A jump forgets whether a text came ahead. -/
theorem to_texts (p : Pen) (b : Bool) (n : Int) : ({ p with texts := b }.to n).2 = (p.to n).2 ∧ ∀ o : Op, o.kind = 17 → ({ p with texts := b }.to n).1.mark o = (p.to n).1.mark o := by
  unfold Pen.to
  constructor
  · split <;> rfl
  · intro o ho
    split <;> rfl
end Go.Proofs.YtnlggjbcdienfaaGreatDoor
/-
  Orders that begin with an address, behind others.
-/
namespace Go.Proofs.YtnlggjbcdienfaaGreatDoor
open Go Go.AL Go.Sp

/-- Bytes that begin with an address. -/
def adr (q : List UInt8) : List UInt8 := 17 :: 64 :: 64 :: q
theorem allF_adr (q : List UInt8) : allF (adr q) = ({ kind := 17, addr := 0 } :: (allF q).1, (allF q).2) := by
  have h : opF (adr q) = (0, { kind := 17, addr := 0 }, q) := by
    show opF (17 :: 64 :: 64 :: q) = _
    rw [opF_17]
    show ((decM 64 64).2, ({ kind := 17, addr := ((decM 64 64).1 : Nat) } : Op), q) = _
    rw [show decM 64 64 = (0, 0) by decide]; rfl
  unfold adr at h ⊢
  rw [allF_cons, h]; rfl
theorem ordS_adr (q : List UInt8) (p : Pen) (k : Nat) (hn : 0 < p.s.n) : ordS (adr q) p k = endE (runOps (allF q).1 { p with n := 0, texts := false } (k + 1)) (allF q).2 := by
  have hd : p.do { kind := 17, addr := 0 } = ({ p with n := 0 }, 0) := by
    show (if (p.s.n : Int) ≤ 0 then (p, 9) else ({ p with n := 0 }, 0)) = _
    rw [if_neg (by omega)]
  rw [ordS_run, allF_adr]
  show endE (if (p.do { kind := 17, addr := 0 }).2 ≠ 0 then _ else runOps (allF q).1 ((p.do { kind := 17, addr := 0 }).1.mark { kind := 17, addr := 0 }) (k + 1)) (allF q).2 = _
  rw [hd]; rfl
theorem endE_zero (r : Pen × Nat × Nat) : endE r 0 = r := by
  unfold endE
  split
  · rfl
  · rename_i h
    have : r.2.2 = 0 := by simpa using h
    rw [← this]
theorem ordS_join {l q : List UInt8} (h : (allF l).2 = 0) (p : Pen) (k : Nat) : ordS (l ++ adr q) p k = if (ordS l p k).2.2 ≠ 0 then ordS l p k else ordS (adr q) (ordS l p k).1 (ordS l p k).2.1 := by
  rw [ordS_run, ordS_run l, h, endE_zero, allF_append h (.inr rfl)]
  split
  · rename_i hr
    rw [runOps_stop _ _ _ _ hr]
    unfold endE; rw [if_pos hr]
  · rename_i hr
    rw [runOps_append _ _ _ _ (by simpa using hr), ordS_run]
/-- Without what is said of how it looks, it is as if they began there. -/
theorem ordS_again (q : List UInt8) (p : Pen) (k : Nat) (hn : 0 < p.s.n) (hl : p.look = .zero) :
    ordS (adr q) p k = ((ordS (adr q) (pen0 p.s p.n) 0).1, k + (ordS (adr q) (pen0 p.s p.n) 0).2.1, (ordS (adr q) (pen0 p.s p.n) 0).2.2) := by
  have hp : ({ p with n := 0, texts := false } : Pen) = { pen0 p.s p.n with n := 0, texts := false } := by unfold pen0; rw [← hl]
  rw [ordS_adr q p k hn, ordS_adr q (pen0 p.s p.n) 0 hn, hp]
  show endE (runOps (allF q).1 { pen0 p.s p.n with n := 0, texts := false } (k + 1)) _ = _
  generalize ({ pen0 p.s p.n with n := 0, texts := false } : Pen) = z
  rw [runOps_count _ z (k + 1), runOps_count _ z (0 + 1)]
  unfold endE
  simp only
  split <;> simp <;> omega
theorem ordS_look {l : List UInt8} (h : (allF l).2 = 0) (hk : ∀ o ∈ (allF l).1, ¬ o.kind = 40) (p : Pen) (k : Nat) : (ordS l p k).1.look = p.look := by
  rw [ordS_run, h, endE_zero]; exact runOps_look _ _ _ hk
/-- One run behind another: what it leaves, and what it says. -/
theorem joined {l : List UInt8} (q : List UInt8) (h : (allF l).2 = 0) (hk : ∀ o ∈ (allF l).1, ¬ o.kind = 40) (s : Sp) (m : Nat) (hn : 0 < (ordS l (pen0 s m) 0).1.s.n) :
    ordS (l ++ adr q) (pen0 s m) 0 = if (ordS l (pen0 s m) 0).2.2 ≠ 0 then ordS l (pen0 s m) 0 else
      ((ordS (adr q) (pen0 (ordS l (pen0 s m) 0).1.s (ordS l (pen0 s m) 0).1.n) 0).1, (ordS l (pen0 s m) 0).2.1 + (ordS (adr q) (pen0 (ordS l (pen0 s m) 0).1.s (ordS l (pen0 s m) 0).1.n) 0).2.1, (ordS (adr q) (pen0 (ordS l (pen0 s m) 0).1.s (ordS l (pen0 s m) 0).1.n) 0).2.2) := by
  rw [ordS_join h]
  split
  · rfl
  · exact ordS_again q _ _ hn (ordS_look h hk _ _)
end Go.Proofs.YtnlggjbcdienfaaGreatDoor
