/-
  HostSends: what a host sends is read again.
-/
import Derived.Test.YtegpebaoghmgiaaGreatDoorSPart17
import Derived.Test.YtegpebaoghmgiaaGreatDoorRows
import Derived.Lay
import Derived.LaidMore
set_option linter.unusedSimpArgs false
set_option linter.unusedVariables false
namespace Go.Proofs.YtegpebaoghmgiaaGreatDoor
open Go Go.AL

theorem str_size (l : List UInt8) : (ByteArray.mk l.toArray).size = l.length := by simp [ByteArray.size]
theorem str_cut (l : List UInt8) (n : Nat) : (ByteArray.mk l.toArray).extract 0 n = ByteArray.mk (l.take n).toArray := by
  apply ByteArray.ext
  simp [ByteArray.data_extract]
set_option maxRecDepth 8000 in
theorem ctext_calls (l : List UInt8) (n : Nat) (σ : Store) (hn : n ≤ 100000000) : ACalls Tryz.prog 5 [strS l, .lit (.int .i64 n)] σ fun v σ' => v = strS (l.take n) ∧ σ' = σ := by
  have hz := str_size l
  have hx := str_cut l n
  refine ACalls.of_awp follows (st := st5) (plans := pl5) (n := 13) Tryz.func5 rfl (by kernel_rfl) (by kernel_rfl) (by kernel_rfl) ?_
  by_cases h : n < l.length
  · have h2 : n ≤ l.length := by omega
    simp [hz, h, h2, hx]
  · simp [hz, h, List.take_of_length_le (show l.length ≤ n by omega)]
/-- What goes. -/
def hsD (l : List (List UInt8)) : List (List UInt8) := (l.take 6).map fun p => p.take 200
theorem hsD_len (l : List (List UInt8)) : (hsD l).length ≤ 6 ∧ (hsD l).length ≤ l.length := by simp [hsD]; omega
def rOf (x : Bool) (h : Hd) (d : List UInt8) : List UInt8 := if x = true then headL h ++ d else d
def hsR (x : Bool) (h : Hd) (l : List (List UInt8)) : List (List UInt8) := (hsD l).map (rOf x h)
@[simp] theorem hsR_len (x : Bool) (h : Hd) (l : List (List UInt8)) : (hsR x h l).length = (hsD l).length := by simp [hsR]
theorem hsR_take (x : Bool) (h : Hd) (l : List (List UInt8)) (i : Nat) (hi : i < l.length) (h6 : i < 6) : (hsR x h l).take (i + 1) = (hsR x h l).take i ++ [rOf x h (l[i].take 200)] := by
  have hl : i < (hsR x h l).length := by simp [hsD]; omega
  rw [List.take_succ_eq_append_getElem hl]
  simp [hsR, hsD]
theorem hsR_each (x : Bool) (h : Hd) (l : List (List UInt8)) : ∀ d ∈ hsR x h l, d.length ≤ 205 := by
  intro d hd
  simp only [hsR, hsD, List.mem_map] at hd
  obtain ⟨a, ⟨b, _, rfl⟩, rfl⟩ := hd
  have h1 : (b.take 200).length ≤ 200 := by simp; omega
  unfold rOf headL
  split
  · simp; omega
  · omega
theorem fed_wire (ds : List (List UInt8)) : Rd.init.fed (wire ds) = recEvs ds := by
  unfold Rd.fed
  rw [feed_wire ds Rd.init rfl rfl]
  rfl
theorem recsOf_wire (ds : List (List UInt8)) : recsOf (recEvs ds) = ds := by
  unfold recsOf
  rw [recs_wire]
  rfl
/-- What is told of a record. -/
def pcOf (x : Bool) (h : Hd) (d : List UInt8) : Pc := if x = true then ⟨h, true, d⟩ else ⟨.zero, false, d⟩
theorem pieceF_of {x : Bool} {h : Hd} (hs : h.seq < 65536) (hok : x = true → headOk h) (d : List UInt8) : pieceF x (rOf x h d) = pcOf x h d := by
  unfold pieceF rOf pcOf
  cases x with
  | false => simp
  | true => simp [parse_head hs (hok rfl)]
theorem hs_pieces (x : Bool) (h : Hd) (hs : h.seq < 65536) (hok : x = true → headOk h) (l : List (List UInt8)) (o : Bool) (σ : Store) :
    ACalls Tryz.prog 14 [.list o 1 (bytesA (wire (hsR x h l))), .lit (.bool x), .lit (.int .i64 100)] σ fun v σ' => v = .list false 6 (pcsA ((hsD l).map (pcOf x h))) ∧ σ' = σ := by
  have he := hsR_each x h l
  have hl := hsD_len l
  have h1 := wire_length _ 205 he
  have h2 := recEvs_size _ 205 he
  rw [hsR_len] at h1 h2
  have h4 : (hsD l).length * (2 * 205 + 2) ≤ 6 * (2 * 205 + 2) := Nat.mul_le_mul_right _ hl.1
  have h5 : (hsD l).length * 205 ≤ 6 * 205 := Nat.mul_le_mul_right _ hl.1
  have hw := fed_wire (hsR x h l)
  have hr := recsOf_wire (hsR x h l)
  refine (pieces_calls o x (wire (hsR x h l)) (by omega) (by rw [hw]; omega) (by rw [hw, hr, hsR_len]; omega) σ).mono fun v σ' hh => ?_
  rw [hw, hr] at hh
  have e : (hsR x h l).map (pieceF x) = (hsD l).map (pcOf x h) := by
    unfold hsR
    rw [List.map_map]
    exact List.map_congr_left fun d _ => pieceF_of hs hok d
  rw [e] at hh
  exact hh
theorem hs_headed {h : Hd} (hok : headOk h) (hs : h.seq < 65536) (o : Bool) (p : List UInt8) (hp : p.length ≤ 10000) (σ : Store) : ACalls Tryz.prog 10 [.agg (hdL h), .list o 1 (bytesA p)] σ fun v σ' => v = .tuple [.list true 1 (bytesA (esc (headL h ++ p) ++ [255, 239])), .lit (.int .i64 0)] ∧ σ' = σ := by
  refine (headed_calls h hs o p hp σ).mono fun v σ' hh => ?_
  obtain ⟨h1, ⟨_, h2⟩ | ⟨h2, _⟩⟩ := hh
  · exact ⟨h2, h1⟩
  · exfalso; exact h2 hok
theorem hs_r9 {h : Hd} (hok : headOk h) (hs : h.seq < 65536) (σ : Store) : ACalls Tryz.prog 11 [.agg (hdL h)] σ fun v σ' => v = .tuple [.list true 1 (bytesA (headL h)), .lit (.int .i64 0)] ∧ σ' = σ := by
  refine (r9bytes_calls h hs σ).mono fun v σ' hh => ?_
  obtain ⟨h1, ⟨_, h2⟩ | ⟨h2, _⟩⟩ := hh
  · exact ⟨h2, h1⟩
  · exfalso; exact h2 hok
theorem hs_headedN {h : Hd} (hok : ¬ headOk h) (hs : h.seq < 65536) (o : Bool) (p : List UInt8) (hp : p.length ≤ 10000) (σ : Store) : ACalls Tryz.prog 10 [.agg (hdL h), .list o 1 (bytesA p)] σ fun v σ' => (∃ o', v = .tuple [.list o' 1 [], .lit (.int .i64 1)]) ∧ σ' = σ := by
  refine (headed_calls h hs o p hp σ).mono fun v σ' hh => ?_
  obtain ⟨h1, ⟨h2, _⟩ | ⟨_, h2⟩⟩ := hh
  · exfalso; exact hok h2
  · exact ⟨h2, h1⟩
theorem hs_r9N {h : Hd} (hok : ¬ headOk h) (hs : h.seq < 65536) (σ : Store) : ACalls Tryz.prog 11 [.agg (hdL h)] σ fun v σ' => v = .tuple [.list true 1 [], .lit (.int .i64 1)] ∧ σ' = σ := by
  refine (r9bytes_calls h hs σ).mono fun v σ' hh => ?_
  obtain ⟨h1, ⟨h2, _⟩ | ⟨_, h2⟩⟩ := hh
  · exfalso; exact hok h2
  · exact ⟨h2, h1⟩
theorem hs_none (σ : Store) : ACalls Tryz.prog 14 [.list false 1 [], .lit (.bool true), .lit (.int .i64 100)] σ fun v σ' => v = .list false 6 [] ∧ σ' = σ :=
  (pieces_calls false true [] (by simp) (by decide) (by decide) σ).mono fun v σ' hh => hh
@[simp] def st3s : List Nat := [19, 58, 61, 72, 78, 87, 5000010, 4000053, 4000059, 4000128, 5000023, 4000109, 4000119, 4000127]
set_option maxRecDepth 8000 in
set_option maxHeartbeats 4000000 in
theorem hostSends_calls (x hd : Bool) (dev fs : List UInt8) (l : List (List UInt8)) (h : Hd) (hs : h.seq < 65536) (hl : l.length ≤ 9223372036854775807) (σ : Store) :
    ACalls Tryz.prog 3 [.lit (.bool x), strS dev, .list false 1 (bytesA fs), .list false 1 (rowsA l), .agg (hdL h), .lit (.bool hd)] σ fun v _ => v = .lit (.bool true) := by
  have haw := fun τ => awake_calls τ
  have hct := fun τ => ctext_calls dev 45 τ (by omega)
  have hcf := fun τ => bcut_calls false fs 8 τ (by omega)
  have hD : (dev.take 45).length ≤ 45 := by simp; omega
  have hF : (fs.take 8).length ≤ 8 := by simp; omega
  generalize dev.take 45 = D at *
  generalize fs.take 8 = F at *
  have hh1 := fun o τ => hello_calls x o D F hD (by omega) τ
  have hh2 := fun o τ => rhello_calls x o D F hD (by omega) τ
  have hsm := fun o τ => same_calls o true (helloB x D F) (helloB x D F) τ
  generalize helloB x D F = H at *
  have hcut := fun p τ => bcut_calls false p 200 τ (by omega)
  have hEe : ∀ d : List UInt8, d.length ≤ 200 → (esc (rOf hd h d) ++ [255, 239]).length ≤ 500 := fun d hd' => by
    have := (esc_length (rOf hd h d)).2
    have h2 : (rOf hd h d).length ≤ 205 := by
      unfold rOf headL
      split
      · simp; omega
      · omega
    rw [List.length_append]; simp; omega
  obtain ⟨ty, req, resp, seq⟩ := h
  dsimp only at hs
  simp only [hdL, byteA_lit]
  refine ACalls.of_awp follows (st := st3s) (plans := pl3) (n := 133) Tryz.func3 rfl (by kernel_rfl) (by kernel_rfl) (by kernel_rfl) ?_
  cases hd with
  | false =>
    simp
    refine callK.of (haw _) ?_
    rintro v σ1 ⟨rfl, rfl⟩
    simp
    refine callK.of (hct _) ?_
    rintro v σ1 ⟨rfl, rfl⟩
    simp
    refine callK.of (hcf _) ?_
    rintro v σ1 ⟨rfl, rfl⟩
    simp
    refine callK.of (hh1 _ _) ?_
    rintro v σ1 ⟨rfl, rfl⟩
    simp
    refine callK.of (hh2 _ _) ?_
    rintro v σ1 ⟨rfl, rfl⟩
    simp
    refine callK.of (hsm _ _) ?_
    rintro v σ1 ⟨rfl, rfl⟩
    simp
    refine codeK.loop follows (st := st3s) (plans := pl3) (X := Nat) (fun i => i ≤ l.length ∧ i ≤ 6)
      (fun i => [(3, .list false 1 (rowsA l)), (5, .lit (.bool false)), (10, .fptr [.lit (.int .u8 ty.toNat), .lit (.int .u8 req.toNat), .lit (.int .u8 resp.toNat), .lit (.int .u16 seq)]), (13, .list true 1 (bytesA (wire ((hsR false ⟨ty, req, resp, seq⟩ l).take i)))), (14, .lit (.int .i64 i)), (40, .list false 1 (rowsA l)), (41, .lit (.int .i64 l.length)), (42, .lit (.int .i64 i))]) (fun _ => σ1) (fun i => l.length - i) 0 (by kernel_rfl) ⟨Nat.zero_le _, Nat.zero_le _⟩ (by simp [wire, bytesA]) (Store.sub_refl _) ?_
    rintro i ⟨hi, hi6⟩
    by_cases hgo : i < l.length ∧ i < 6
    · obtain ⟨hlt, h6⟩ := hgo
      have hlt' : (i : Int) < l.length := by omega
      have h6' : ¬ 6 ≤ (i : Int) := by omega
      have hw : IntKind.i64.wrap ((i : Int) + 1) = ((i + 1 : Nat) : Int) := wrap_i64 (by omega) (by omega)
      obtain ⟨p, hp⟩ : ∃ p, l[i] = p := ⟨_, rfl⟩
      have hg : ∀ h : i < (rowsA l).length, (rowsA l)[i]'h = .list false 1 (bytesA p) := fun h => by simp [rowsA, hp]
      have htk := hsR_take false ⟨ty, req, resp, seq⟩ l i hlt h6
      rw [hp] at htk
      have hpl : (p.take 200).length ≤ 200 := by simp; omega
      have hEl := hEe (p.take 200) hpl
      have hwl := wire_length ((hsR false ⟨ty, req, resp, seq⟩ l).take i) 205 (fun d hd' => hsR_each _ _ _ d (List.mem_of_mem_take hd'))
      have hwl2 : ((hsR false ⟨ty, req, resp, seq⟩ l).take i).length * (2 * 205 + 2) ≤ 6 * (2 * 205 + 2) := Nat.mul_le_mul_right _ (by simp; omega)
      have hwr := fun τ => wrap_calls false (p.take 200) (by omega) τ
      have hr7 := fun τ => r7bytes_calls false (p.take 200) (by omega) τ
      have hrO : rOf false ⟨ty, req, resp, seq⟩ (p.take 200) = p.take 200 := rfl
      rw [hrO] at hEl htk
      have hsw := fun o τ => same_calls o true (esc (p.take 200) ++ [255, 239]) (esc (p.take 200) ++ [255, 239]) τ
      have hwn : wire ((hsR false ⟨ty, req, resp, seq⟩ l).take (i + 1)) = wire ((hsR false ⟨ty, req, resp, seq⟩ l).take i) ++ (esc (p.take 200) ++ [255, 239]) := by rw [htk, wire_append, wire_one]
      generalize esc (p.take 200) ++ [255, 239] = w at *
      generalize wire ((hsR false ⟨ty, req, resp, seq⟩ l).take i) = Z at *
      simp [hlt, hlt', hg, h6']
      refine callK.of (hcut _ _) ?_
      rintro v σ2 ⟨rfl, rfl⟩
      simp
      refine callK.of (hwr _) ?_
      rintro v σ2 ⟨rfl, rfl⟩
      simp
      refine callK.of (hr7 _) ?_
      rintro v σ2 ⟨rfl, rfl⟩
      simp
      refine callK.of (hsw _ _) ?_
      rintro v σ2 ⟨rfl, rfl⟩
      simp
      refine callK.of (hwr _) ?_
      rintro v σ2 ⟨rfl, rfl⟩
      simp
      exact ⟨by omega, by omega, i + 1, ⟨by omega, by omega⟩, by omega, by rw [hwn, bytesA_append]; exact AV.le_refl _, by rw [hw]; exact AV.le_refl _⟩
    · have hi' : i = (hsD l).length := by simp [hsD]; omega
      have hall : (hsR false ⟨ty, req, resp, seq⟩ l).take i = hsR false ⟨ty, req, resp, seq⟩ l := List.take_of_length_le (by simp; omega)
      rw [hall]
      have hpc := fun τ => hs_pieces false ⟨ty, req, resp, seq⟩ hs (by simp) l false τ
      have hPl : ((hsD l).map (pcOf false ⟨ty, req, resp, seq⟩)).length = (hsD l).length := by simp
      have hPi : ∀ k (hk : k < (hsD l).length), ((hsD l).map (pcOf false ⟨ty, req, resp, seq⟩))[k]? = some (pcOf false ⟨ty, req, resp, seq⟩ ((hsD l)[k])) := fun k hk => by simp [hk]
      generalize (hsD l).map (pcOf false ⟨ty, req, resp, seq⟩) = P at *
      by_cases hlt : i < l.length
      case' pos =>
        have h6 : i = 6 := by omega
        have hlt' : (i : Int) < l.length := by omega
        obtain ⟨p, hp⟩ : ∃ p, l[i] = p := ⟨_, rfl⟩
        have hg : ∀ h : i < (rowsA l).length, (rowsA l)[i]'h = .list false 1 (bytesA p) := fun h => by simp [rowsA, hp]
        have h6' : 6 ≤ (i : Int) := by omega
        simp [hlt, hlt', hg, h6']
      case' neg =>
        have hlt' : ¬ (i : Int) < l.length := by omega
        simp [hlt']
      all_goals
        have hPe : (P.length : Int) = (i : Int) := by omega
        refine callK.of (hpc _) ?_
        rintro v σ2 ⟨rfl, rfl⟩
        simp [hPe]
        refine codeK.loop follows (st := st3s) (plans := pl3) (X := Nat) (fun k => k ≤ P.length)
          (fun k => [(3, .list false 1 (rowsA l)), (5, .lit (.bool false)), (10, .fptr [.lit (.int .u8 ty.toNat), .lit (.int .u8 req.toNat), .lit (.int .u8 resp.toNat), .lit (.int .u16 seq)]), (101, .list false 6 (pcsA P)), (102, .lit (.int .i64 P.length)), (103, .lit (.int .i64 k))]) (fun _ => σ2) (fun k => P.length - k) 0 (by kernel_rfl) (Nat.zero_le _) (by simp [hPe]) (Store.sub_refl _) ?_
        intro k hk
        by_cases hkl : k < P.length
        · have hkl' : (k : Int) < P.length := by omega
          have hkw : IntKind.i64.wrap ((k : Int) + 1) = ((k + 1 : Nat) : Int) := wrap_i64 (by omega) (by omega)
          have hkll : k < l.length := by have := (hsD_len l).2; omega
          have hkll' : (k : Int) < l.length := by omega
          obtain ⟨pk, hpk⟩ : ∃ pk, l[k] = pk := ⟨_, rfl⟩
          have hgk : ∀ h : k < (rowsA l).length, (rowsA l)[k]'h = .list false 1 (bytesA pk) := fun h => by simp [rowsA, hpk]
          have hPk : ∀ h : k < (pcsA P).length, (pcsA P)[k]'h = pcA (pcOf false ⟨ty, req, resp, seq⟩ (pk.take 200)) := fun h => by
            have h1 := hPi k (by omega)
            have h2 : (hsD l)[k]'(by omega) = pk.take 200 := by simp [hsD, hpk]
            rw [h2] at h1
            obtain ⟨h3, h4⟩ := List.getElem?_eq_some_iff.1 h1
            simp [pcsA, h4]
          have hsk := fun τ => same_calls false true (pk.take 200) (pk.take 200) τ
          have hck := fun τ => hcut pk τ
          generalize pk.take 200 = dk at *
          simp only [pcA, pcOf, hdL, byteA_lit, Hd.zero, if_true, Bool.false_eq_true, if_false, List.cons_append, List.nil_append] at hPk
          simp [hkl, hkl', hPk, hkll, hkll', hgk]
          intro y hy
          rw [del_upd_new hy]
          repeat' with_reducible apply And.intro
          all_goals
            refine callK.of (hck _) ?_
            rintro v σ3 ⟨rfl, rfl⟩
            simp
            refine callK.of (hsk _) ?_
            rintro v σ3 ⟨rfl, rfl⟩
            simp
            exact ⟨k + 1, by omega, by omega, by rw [hkw]; exact AV.le_refl _⟩
        · obtain rfl : k = P.length := by omega
          simp
          exact ⟨_, Store.sub_refl _⟩
  | true =>
    by_cases hok : headOk ⟨ty, req, resp, seq⟩
    · skip
      simp
      refine callK.of (haw _) ?_
      rintro v σ1 ⟨rfl, rfl⟩
      simp
      refine callK.of (hct _) ?_
      rintro v σ1 ⟨rfl, rfl⟩
      simp
      refine callK.of (hcf _) ?_
      rintro v σ1 ⟨rfl, rfl⟩
      simp
      refine callK.of (hh1 _ _) ?_
      rintro v σ1 ⟨rfl, rfl⟩
      simp
      refine callK.of (hh2 _ _) ?_
      rintro v σ1 ⟨rfl, rfl⟩
      simp
      refine callK.of (hsm _ _) ?_
      rintro v σ1 ⟨rfl, rfl⟩
      simp
      refine codeK.loop follows (st := st3s) (plans := pl3) (X := Nat) (fun i => i ≤ l.length ∧ i ≤ 6)
        (fun i => [(3, .list false 1 (rowsA l)), (5, .lit (.bool true)), (10, .fptr [.lit (.int .u8 ty.toNat), .lit (.int .u8 req.toNat), .lit (.int .u8 resp.toNat), .lit (.int .u16 seq)]), (13, .list true 1 (bytesA (wire ((hsR true ⟨ty, req, resp, seq⟩ l).take i)))), (14, .lit (.int .i64 i)), (40, .list false 1 (rowsA l)), (41, .lit (.int .i64 l.length)), (42, .lit (.int .i64 i))]) (fun _ => σ1) (fun i => l.length - i) 0 (by kernel_rfl) ⟨Nat.zero_le _, Nat.zero_le _⟩ (by simp [wire, bytesA]) (Store.sub_refl _) ?_
      rintro i ⟨hi, hi6⟩
      by_cases hgo : i < l.length ∧ i < 6
      · obtain ⟨hlt, h6⟩ := hgo
        have hlt' : (i : Int) < l.length := by omega
        have h6' : ¬ 6 ≤ (i : Int) := by omega
        have hw : IntKind.i64.wrap ((i : Int) + 1) = ((i + 1 : Nat) : Int) := wrap_i64 (by omega) (by omega)
        obtain ⟨p, hp⟩ : ∃ p, l[i] = p := ⟨_, rfl⟩
        have hg : ∀ h : i < (rowsA l).length, (rowsA l)[i]'h = .list false 1 (bytesA p) := fun h => by simp [rowsA, hp]
        have htk := hsR_take true ⟨ty, req, resp, seq⟩ l i hlt h6
        rw [hp] at htk
        have hpl : (p.take 200).length ≤ 200 := by simp; omega
        have hEl := hEe (p.take 200) hpl
        have hwl := wire_length ((hsR true ⟨ty, req, resp, seq⟩ l).take i) 205 (fun d hd' => hsR_each _ _ _ d (List.mem_of_mem_take hd'))
        have hwl2 : ((hsR true ⟨ty, req, resp, seq⟩ l).take i).length * (2 * 205 + 2) ≤ 6 * (2 * 205 + 2) := Nat.mul_le_mul_right _ (by simp; omega)
        have hrO : rOf true ⟨ty, req, resp, seq⟩ (p.take 200) = headL ⟨ty, req, resp, seq⟩ ++ p.take 200 := rfl
        rw [hrO] at hEl htk
        have hhd := fun o τ => hs_headed hok hs o (p.take 200) (by omega) τ
        have hr9 := fun τ => hs_r9 hok hs τ
        have hl5 : (headL ⟨ty, req, resp, seq⟩).length = 5 := rfl
        have hr7 := fun τ => r7bytes_calls true (headL ⟨ty, req, resp, seq⟩ ++ p.take 200) (by rw [List.length_append]; omega) τ
        rw [bytesA_append] at hr7
        have hsw := fun o τ => same_calls o true (esc (headL ⟨ty, req, resp, seq⟩ ++ p.take 200) ++ [255, 239]) (esc (headL ⟨ty, req, resp, seq⟩ ++ p.take 200) ++ [255, 239]) τ
        have hwn : wire ((hsR true ⟨ty, req, resp, seq⟩ l).take (i + 1)) = wire ((hsR true ⟨ty, req, resp, seq⟩ l).take i) ++ (esc (headL ⟨ty, req, resp, seq⟩ ++ p.take 200) ++ [255, 239]) := by rw [htk, wire_append, wire_one]
        generalize esc (headL ⟨ty, req, resp, seq⟩ ++ p.take 200) ++ [255, 239] = w at *
        generalize wire ((hsR true ⟨ty, req, resp, seq⟩ l).take i) = Z at *
        generalize headL ⟨ty, req, resp, seq⟩ = hdl at *
        simp only [hdL, byteA_lit] at hhd hr9
        simp [hlt, hlt', hg, h6']
        refine callK.of (hcut _ _) ?_
        rintro v σ2 ⟨rfl, rfl⟩
        simp
        refine callK.of (hhd _ _) ?_
        rintro v σ2 ⟨rfl, rfl⟩
        simp
        refine callK.of (hr9 _) ?_
        rintro v σ2 ⟨rfl, rfl⟩
        simp [hl5]
        refine ⟨by omega, by omega, ?_⟩
        refine callK.of (hr7 _) ?_
        rintro v σ2 ⟨rfl, rfl⟩
        simp
        refine callK.of (hsw _ _) ?_
        rintro v σ2 ⟨rfl, rfl⟩
        simp
        exact ⟨by omega, by omega, i + 1, ⟨by omega, by omega⟩, by omega, by rw [hwn, bytesA_append]; exact AV.le_refl _, by rw [hw]; exact AV.le_refl _⟩
      · have hi' : i = (hsD l).length := by simp [hsD]; omega
        have hall : (hsR true ⟨ty, req, resp, seq⟩ l).take i = hsR true ⟨ty, req, resp, seq⟩ l := List.take_of_length_le (by simp; omega)
        rw [hall]
        have hpc := fun τ => hs_pieces true ⟨ty, req, resp, seq⟩ hs (fun _ => hok) l false τ
        have hPl : ((hsD l).map (pcOf true ⟨ty, req, resp, seq⟩)).length = (hsD l).length := by simp
        have hPi : ∀ k (hk : k < (hsD l).length), ((hsD l).map (pcOf true ⟨ty, req, resp, seq⟩))[k]? = some (pcOf true ⟨ty, req, resp, seq⟩ ((hsD l)[k])) := fun k hk => by simp [hk]
        generalize (hsD l).map (pcOf true ⟨ty, req, resp, seq⟩) = P at *
        by_cases hlt : i < l.length
        case' pos =>
          have h6 : i = 6 := by omega
          have hlt' : (i : Int) < l.length := by omega
          obtain ⟨p, hp⟩ : ∃ p, l[i] = p := ⟨_, rfl⟩
          have hg : ∀ h : i < (rowsA l).length, (rowsA l)[i]'h = .list false 1 (bytesA p) := fun h => by simp [rowsA, hp]
          have h6' : 6 ≤ (i : Int) := by omega
          simp [hlt, hlt', hg, h6']
        case' neg =>
          have hlt' : ¬ (i : Int) < l.length := by omega
          simp [hlt']
        all_goals
          have hPe : (P.length : Int) = (i : Int) := by omega
          refine callK.of (hpc _) ?_
          rintro v σ2 ⟨rfl, rfl⟩
          simp [hPe]
          refine codeK.loop follows (st := st3s) (plans := pl3) (X := Nat) (fun k => k ≤ P.length)
            (fun k => [(3, .list false 1 (rowsA l)), (5, .lit (.bool true)), (10, .fptr [.lit (.int .u8 ty.toNat), .lit (.int .u8 req.toNat), .lit (.int .u8 resp.toNat), .lit (.int .u16 seq)]), (101, .list false 6 (pcsA P)), (102, .lit (.int .i64 P.length)), (103, .lit (.int .i64 k))]) (fun _ => σ2) (fun k => P.length - k) 0 (by kernel_rfl) (Nat.zero_le _) (by simp [hPe]) (Store.sub_refl _) ?_
          intro k hk
          by_cases hkl : k < P.length
          · have hkl' : (k : Int) < P.length := by omega
            have hkw : IntKind.i64.wrap ((k : Int) + 1) = ((k + 1 : Nat) : Int) := wrap_i64 (by omega) (by omega)
            have hkll : k < l.length := by have := (hsD_len l).2; omega
            have hkll' : (k : Int) < l.length := by omega
            obtain ⟨pk, hpk⟩ : ∃ pk, l[k] = pk := ⟨_, rfl⟩
            have hgk : ∀ h : k < (rowsA l).length, (rowsA l)[k]'h = .list false 1 (bytesA pk) := fun h => by simp [rowsA, hpk]
            have hPk : ∀ h : k < (pcsA P).length, (pcsA P)[k]'h = pcA (pcOf true ⟨ty, req, resp, seq⟩ (pk.take 200)) := fun h => by
              have h1 := hPi k (by omega)
              have h2 : (hsD l)[k]'(by omega) = pk.take 200 := by simp [hsD, hpk]
              rw [h2] at h1
              obtain ⟨h3, h4⟩ := List.getElem?_eq_some_iff.1 h1
              simp [pcsA, h4]
            have hsk := fun τ => same_calls false true (pk.take 200) (pk.take 200) τ
            have hck := fun τ => hcut pk τ
            generalize pk.take 200 = dk at *
            simp only [pcA, pcOf, hdL, byteA_lit, Hd.zero, if_true, Bool.false_eq_true, if_false, List.cons_append, List.nil_append] at hPk
            simp [hkl, hkl', hPk, hkll, hkll', hgk]
            intro y hy
            rw [del_upd_new hy]
            repeat' with_reducible apply And.intro
            all_goals
              refine callK.of (hck _) ?_
              rintro v σ3 ⟨rfl, rfl⟩
              simp
              refine callK.of (hsk _) ?_
              rintro v σ3 ⟨rfl, rfl⟩
              simp
              exact ⟨k + 1, by omega, by omega, by rw [hkw]; exact AV.le_refl _⟩
          · obtain rfl : k = P.length := by omega
            simp
            exact ⟨_, Store.sub_refl _⟩
    · skip
      simp
      refine callK.of (haw _) ?_
      rintro v σ1 ⟨rfl, rfl⟩
      simp
      refine callK.of (hct _) ?_
      rintro v σ1 ⟨rfl, rfl⟩
      simp
      refine callK.of (hcf _) ?_
      rintro v σ1 ⟨rfl, rfl⟩
      simp
      refine callK.of (hh1 _ _) ?_
      rintro v σ1 ⟨rfl, rfl⟩
      simp
      refine callK.of (hh2 _ _) ?_
      rintro v σ1 ⟨rfl, rfl⟩
      simp
      refine callK.of (hsm _ _) ?_
      rintro v σ1 ⟨rfl, rfl⟩
      simp
      refine codeK.loop follows (st := st3s) (plans := pl3) (X := Nat) (fun i => i = 0)
        (fun i => [(3, .list false 1 (rowsA l)), (5, .lit (.bool true)), (10, .fptr [.lit (.int .u8 ty.toNat), .lit (.int .u8 req.toNat), .lit (.int .u8 resp.toNat), .lit (.int .u16 seq)]), (13, .list true 1 []), (14, .lit (.int .i64 0)), (40, .list false 1 (rowsA l)), (41, .lit (.int .i64 l.length)), (42, .lit (.int .i64 0))]) (fun _ => σ1) (fun i => l.length - i) 0 (by kernel_rfl) rfl (by simp) (Store.sub_refl _) ?_
      rintro i rfl
      by_cases hlt : 0 < l.length
      · have hlt' : (0 : Int) < l.length := by omega
        obtain ⟨p, hp⟩ : ∃ p, l[0] = p := ⟨_, rfl⟩
        have hg : ∀ h : 0 < (rowsA l).length, (rowsA l)[0]'h = .list false 1 (bytesA p) := fun h => by simp [rowsA, hp]
        have hpl : (p.take 200).length ≤ 200 := by simp; omega
        have hhd := fun o τ => hs_headedN hok hs o (p.take 200) (by omega) τ
        have hr9 := fun τ => hs_r9N hok hs τ
        simp only [hdL, byteA_lit] at hhd hr9
        simp [hlt, hlt', hg]
        refine callK.of (hcut _ _) ?_
        rintro v σ2 ⟨rfl, rfl⟩
        simp
        refine callK.of (hhd _ _) ?_
        rintro v σ2 ⟨⟨o, rfl⟩, rfl⟩
        simp
        refine callK.of (hr9 _) ?_
        rintro v σ2 ⟨rfl, rfl⟩
        simp
        try exact ⟨_, Store.sub_refl _⟩
      · have hl0 : l.length = 0 := by omega
        have hpc := fun τ => hs_none τ
        simp [hl0]
        refine callK.of (hpc _) ?_
        rintro v σ2 ⟨rfl, rfl⟩
        simp [pcsA]
        refine codeK.loop follows (st := st3s) (plans := pl3) (X := Nat) (fun k => k = 0)
          (fun k => [(102, .lit (.int .i64 0)), (103, .lit (.int .i64 0))]) (fun _ => σ2) (fun k => 0) 0 (by kernel_rfl) rfl (by simp) (Store.sub_refl _) ?_
        rintro k rfl
        simp
        exact ⟨_, Store.sub_refl _⟩
end Go.Proofs.YtegpebaoghmgiaaGreatDoor
/-
  HostSends: arguments opened; what the table of commands reads as.
-/
namespace Go.Proofs.YtegpebaoghmgiaaGreatDoor
open Go Go.AL Go.ChangeShapes Go.WideShapes Go.ChangeAt Go.RowKit Go.Lib

def laid1 : List (String × DataW Unit) := [("unicode/utf8.acceptRanges", Rows.laid_unicode_utf8_acceptRanges), ("vitrine/write.names", Rows.laid_vitrine_write_names), ("unicode/utf8.first", Rows.laid_unicode_utf8_first)]
def nameV (x : List UInt8 × UInt8 × UInt8) : List Value := [.string ⟨x.1.toArray⟩, .int .u8 x.2.1.toNat, .int .u8 x.2.2.toNat]
def nameD (x : List UInt8 × UInt8 × UInt8) : DataW Unit := .agg [.lit (.string x.1), .lit (.int .u8 x.2.1.toNat), .lit (.int .u8 x.2.2.toNat)]
theorem laid_names : (Rows.laid_vitrine_write_names : DataW Unit) = .agg (cmdNames.map nameD) := rfl
theorem rows_flat : ∀ (N : List (List UInt8 × UInt8 × UInt8)) (L : List Value), L.length = N.length * 3 → (∀ (r : Nat) x, N[r]? = some x → (L.drop (r * 3)).take 3 = nameV x) → L = N.flatMap nameV
  | [], L, hl, _ => by simpa using hl
  | x :: N, L, hl, h => by
    have h0 := h 0 x rfl
    have hr := rows_flat N (L.drop 3) (by simp only [List.length_drop]; simp at hl; omega) fun r y hy => by
      have := h (r + 1) y hy
      rw [List.drop_drop, ← this, show 3 + r * 3 = (r + 1) * 3 by omega]
    rw [List.flatMap_cons, ← hr, ← h0]
    simp
theorem rowN {W : World} {base : Nat} {sp : Nat → Bool} {held : Bool} {fuel : Nat} {l : List Value} {x : List UInt8 × UInt8 × UInt8} {p : List MemPlace}
    (h : DataW.trod (fun _ => ()) Tryz.prog W base sp held fuel 125 l = some (nameD x, p)) : l = nameV x := by
  obtain ⟨xs, n, _, ex, hl, hn, hf⟩ := DataW.trod_struct Tryz.underlying125 h
  have cN : Tryz.prog.cellsOf 125 = 3 := by kernel_rfl
  have c9 : Tryz.prog.cellsOf 9 = 1 := by kernel_rfl
  have c5 : Tryz.prog.cellsOf 5 = 1 := by kernel_rfl
  rw [cN] at hl
  have hn3 : xs.length = 3 := hn
  obtain ⟨y0, y1, y2, rfl⟩ : ∃ y0 y1 y2, xs = [y0, y1, y2] := by
    rcases xs with _ | ⟨a, _ | ⟨b, _ | ⟨c, _ | ⟨d, r⟩⟩⟩⟩ <;> simp at hn3
    exact ⟨a, b, c, rfl⟩
  obtain ⟨v0, v1, v2, rfl⟩ : ∃ y0 y1 y2, l = [y0, y1, y2] := by
    rcases l with _ | ⟨a, _ | ⟨b, _ | ⟨c, _ | ⟨d, r⟩⟩⟩⟩ <;> simp at hl
    exact ⟨a, b, c, rfl⟩
  have f0 := hf 0 _ rfl
  have f1 := hf 1 _ rfl
  have f2 := hf 2 _ rfl
  obtain ⟨s, g0, d0, _⟩ := DataW.trod_string Tryz.underlying9 (f0.trans rfl)
  obtain ⟨a, g1, d1, _⟩ := DataW.trod_int Tryz.underlying5 (f1.trans rfl)
  obtain ⟨b, g2, d2, _⟩ := DataW.trod_int Tryz.underlying5 (f2.trans rfl)
  have q0 : List.take (Tryz.prog.cellsOf 9) [v0, v1, v2] = [.string s] := g0
  have q1 : List.take (Tryz.prog.cellsOf 5) [v1, v2] = [.int .u8 a] := g1
  have q2 : List.take (Tryz.prog.cellsOf 5) [v2] = [.int .u8 b] := g2
  rw [c9] at q0
  rw [c5] at q1 q2
  obtain rfl : v0 = .string s := (List.cons.inj q0).1
  obtain rfl : v1 = .int .u8 a := (List.cons.inj q1).1
  obtain rfl : v2 = .int .u8 b := (List.cons.inj q2).1
  subst d0 d1 d2
  have e := DataW.agg.inj (Prod.mk.inj ex).1
  simp only [List.map_cons, List.map_nil, List.cons.injEq, DataW.lit.injEq, Lit.string.injEq, Lit.int.injEq, true_and, and_true] at e
  obtain ⟨e0, e1, e2⟩ := e
  unfold nameV
  rw [e0, e1, e2]
theorem laid_vr {W : World} (h : laidMetH Tryz.prog laid1 W) : ∀ g cs, GL.tab g = some cs → VR (allFrz W) (.fptr cs) (.pointer (some ⟨g, 0, none⟩)) := by
  rw [MakeChecks.laidMetH_plain _ _ _ (by kernel_rfl)] at h
  obtain ⟨ps, ⟨_, _, _, _, _, _, _, _, _, _, ⟨g, t, cs, fuel, p, q, hg, ht, hv, hd, _, _⟩, _⟩, _, _⟩ := h
  obtain rfl := Option.some.inj ((show Tryz.prog.globalNamed "vitrine/write.names" = some 0 by kernel_rfl).symm.trans hg)
  obtain rfl := Option.some.inj ((show (Tryz.prog.globals[0]?).map (·.type) = some 146 by kernel_rfl).symm.trans ht)
  obtain ⟨xs, m, _, ex, hc, hl, hel⟩ := DataW.trod_array Tryz.underlying146 hd
  have cN : Tryz.prog.cellsOf 125 = 3 := by kernel_rfl
  have c146 : Tryz.prog.cellsOf 146 = 27 := by kernel_rfl
  rw [c146] at hc
  have e3 : xs.map (·.1) = cmdNames.map nameD := (DataW.agg.inj ((Prod.mk.inj ex).1.symm.trans laid_names)).symm ▸ rfl
  have hcs : cs.toList = cmdNames.flatMap nameV := by
    refine rows_flat cmdNames cs.toList hc fun r x hx => ?_
    have hr9 : r < 9 := (List.getElem?_eq_some_iff.1 hx).1
    have he := hel r hr9
    rw [cN] at he
    have e4 : (xs.map (·.1))[r]? = (cmdNames.map nameD)[r]? := by rw [e3]
    rw [List.getElem?_map, List.getElem?_map, hx] at e4
    cases hxr : xs[r]? with
    | none => rw [hxr] at e4; cases e4
    | some y =>
      rw [hxr] at e4 he
      obtain ⟨d, p⟩ := y
      simp only [Option.map_some, Option.some.injEq] at e4
      subst e4
      exact rowN he
  intro g cs2 hg2
  have : g = 0 ∧ cs2 = cmdsO := by
    have hg3 : (if g = 0 then some cmdsO else none) = some cs2 := hg2
    split at hg3
    · exact ⟨‹_›, (Option.some.inj hg3).symm⟩
    · cases hg3
  obtain ⟨rfl, rfl⟩ := this
  have hlit : cmdsO = (cmdNames.flatMap nameV).map .lit := rfl
  refine .fptr _ _ _ (cmdNames.flatMap nameV) rfl (fun i u hu => ⟨?_, ?_⟩) fun i c u hc hu => ?_
  · rw [Nat.zero_add]
    refine cell_back ?_
    rw [World.var?_cell hg hv i, ← Array.getElem?_toList, hcs]; exact hu
  · have : (cmdNames.flatMap nameV).all Value.oneCell' = true := by decide
    exact List.all_eq_true.1 this u (List.mem_of_getElem? hu)
  · rw [hlit, List.getElem?_map, hu] at hc
    obtain rfl := Option.some.inj hc
    exact .lit _
theorem open_str : Opens Tryz.prog 9 (fun l : List UInt8 => [strS l]) (fun _ => True) :=
  (Opens.string Tryz.underlying9).by (fun s => s.data.toList) fun s _ => ⟨trivial, by cases s; simp⟩
theorem open_bytes : Opens Tryz.prog 22 (fun l : List UInt8 => [.list false 1 (bytesA l)]) (fun l => l.length ≤ maxLen) :=
  (Opens.slice Tryz.underlying22 (sz := 1) (by kernel_rfl) (by omega) (Opens.u8 Tryz.underlying5) byteA (fun _ => rfl) (fun _ => rfl)).by id fun _ h => ⟨h.1, rfl⟩
theorem open_lists : Opens Tryz.prog 23 (fun l : List (List UInt8) => [.list false 1 (rowsA l)]) (fun l => l.length ≤ maxLen) :=
  (Opens.slice Tryz.underlying23 (sz := 1) (by kernel_rfl) (by omega) open_bytes (fun p => .list false 1 (bytesA p)) (fun _ => rfl) (fun _ => rfl)).by id fun _ h => ⟨h.1, rfl⟩
theorem open_seq : Opens Tryz.prog 24 (fun n : Nat => [.lit (.int .u16 n)]) (fun n => n < 65536) := by
  refine (Opens.int Tryz.underlying24).by Int.toNat fun n hn => ?_
  have : 0 ≤ n ∧ n ≤ 65535 := by simpa [Lit.wf, IntKind.min, IntKind.max, IntKind.bits, IntKind.signed] using hn
  refine ⟨by omega, ?_⟩
  have : ((n.toNat : Nat) : Int) = n := by omega
  rw [this]
theorem open_b : Opens Tryz.prog 5 (fun b : UInt8 => [byteA b]) (fun _ => True) := (Opens.u8 Tryz.underlying5).by id fun _ _ => ⟨trivial, rfl⟩
theorem open_hd : Opens Tryz.prog 26 hdL (fun h => h.seq < 65536) :=
  (Opens.struct (total := 4) Tryz.underlying26 (by kernel_rfl)
    (.cons (k := 1) rfl (by kernel_rfl) (by omega) open_b (.cons (k := 1) rfl (by kernel_rfl) (by omega) open_b (.cons (k := 1) rfl (by kernel_rfl) (by omega) open_b (.cons (k := 1) rfl (by kernel_rfl) (by omega) open_seq .nil))))).by
    (fun x => ⟨x.1, x.2.1, x.2.2.1, x.2.2.2.1⟩) fun _ h => ⟨h.2.2.2.1, rfl⟩
end Go.Proofs.YtegpebaoghmgiaaGreatDoor
/-
  HostSends: for every input the law returns true, and the arguments read as they did.
-/
namespace Go.Proofs.YtegpebaoghmgiaaGreatDoor
open Go Go.AL Go.ChangeShapes Go.WideShapes Go.ChangeAt Go.RowKit Go.Lib

theorem own_hostSends : ownKnob Tryz.prog.godebug = none := by kernel_rfl
theorem laid_hostSends : laidOutB Tryz.prog = true := by kernel_rfl
theorem rec22_hostSends : Tryz.prog.readableRec 22 = true := by kernel_rfl
theorem row22_hostSends : (22 : TypeId) < Tryz.prog.types.size := of_decide_eq_true (by kernel_rfl)
theorem rec23_hostSends : Tryz.prog.readableRec 23 = true := by kernel_rfl
theorem row23_hostSends : (23 : TypeId) < Tryz.prog.types.size := of_decide_eq_true (by kernel_rfl)
theorem rec26_hostSends : Tryz.prog.readableRec 26 = true := by kernel_rfl
theorem row26_hostSends : (26 : TypeId) < Tryz.prog.types.size := of_decide_eq_true (by kernel_rfl)
theorem rec4_hostSends : Tryz.prog.readableRec 4 = true := by kernel_rfl
theorem row4_hostSends : (4 : TypeId) < Tryz.prog.types.size := of_decide_eq_true (by kernel_rfl)
theorem rec9_hostSends : Tryz.prog.readableRec 9 = true := by kernel_rfl
theorem row9_hostSends : (9 : TypeId) < Tryz.prog.types.size := of_decide_eq_true (by kernel_rfl)

set_option maxRecDepth 100000 in
theorem hostSends_lifted (os : Os) (started : os.Started) (H : Type) (enc : TypeId × Value → H) :
    ReturnsInHanded {} Tryz.checked os 3 .any (fun w args => (Rows.hostSendsSpec.pre enc Tryz.prog Tryz.f3 [] false w args ∧ laidMetH Tryz.prog laid1 w) ∧ sizedMet enc Tryz.prog Tryz.f3 (OpenSpec.ofChange Rows.hostSendsSpec) false w args) (Rows.hostSendsSpec.post enc Tryz.prog Tryz.f3 false true false false) := by
  refine returnsInHanded_of_change_and (C := Tryz.checked) (X := fun w _ => laidMetH Tryz.prog laid1 w) (fun _ _ _ hh h => h.of_heap hh) own_hostSends started (by kernel_rfl) Tryz.func3
    (ChangeSpec.witness_shaped (enc := enc) (C := Tryz.checked) (os := os) (X := fun w _ => laidMetH Tryz.prog laid1 w) false (World.laidAll Tryz.prog os laid1) #[.bool false, .string ⟨#[]⟩, .slice none 0 0, .slice none 0 0, .agg #[.int .u8 0, .int .u8 0, .int .u8 0, .int .u16 0], .bool false] 8 (World.laidAll_os _ _ _)
      (World.shaped_of_ZipB (by kernel_rfl) (by kernel_rfl)) (by kernel_rfl) (by kernel_rfl) (by kernel_rfl)
      (by rw [MakeChecks.laidMetH_plain _ _ _ (by kernel_rfl)]; exact laidMet_laidAll _ (by kernel_rfl) (by kernel_rfl))) ?_
  intro W base args ds gs before hval0 hW _ _ hL _
  have hval : ∀ (j : Nat) t v, Tryz.f3.params[j]? = some t → args[j]? = some v → Value.okWide Tryz.prog W .any base t v := hval0
  have hW' := hW
  obtain ⟨p, q, hA0, hV, rfl, hfz, hnd⟩ := hW
  have hA : DataW.TrodAll enc Tryz.prog W 0 (fun _ => true) true Tryz.f3.params.toList args.toList ds p := hA0
  rw [Tryz.params3] at hA hval
  obtain ⟨v0, v1, v2, v3, v4, v5, d0, d1, d2, d3, d4, d5, p0, p1, p2, p3, p4, p5, rfl, rfl, rfl, h0, h1, h2, h3, h4, h5⟩ := trodAll_six hA
  obtain ⟨rfl, rfl⟩ := trodVars_none hV
  obtain ⟨_, hv0⟩ := okWide_bool Tryz.underlying4 (hval 0 4 v0 rfl rfl)
  obtain ⟨a0, m0, w0⟩ := (Opens.bool Tryz.underlying4).arg _ (fun _ => rfl) (by rw [hv0]; rfl) h0
  obtain ⟨_, hv1⟩ := okWide_string Tryz.underlying9 (hval 1 9 v1 rfl rfl)
  obtain ⟨a1, m1, w1⟩ := (open_str).arg _ (fun _ => rfl) (by rw [hv1]; rfl) h1
  obtain ⟨_, _, _, hv2⟩ := okWide_slice Tryz.underlying22 (hval 2 22 v2 rfl rfl)
  obtain ⟨a2, m2, w2⟩ := (open_bytes).arg _ (fun _ => rfl) (by rw [hv2]; rfl) h2
  obtain ⟨_, _, _, hv3⟩ := okWide_slice Tryz.underlying23 (hval 3 23 v3 rfl rfl)
  obtain ⟨a3, m3, w3⟩ := (open_lists).arg _ (fun _ => rfl) (by rw [hv3]; rfl) h3
  obtain ⟨_, hv4, _⟩ := okWide_struct Tryz.underlying26 (hval 4 26 v4 rfl rfl)
  obtain ⟨a4, m4, w4⟩ := (open_hd).args hv4 h4
  obtain ⟨_, hv5⟩ := okWide_bool Tryz.underlying4 (hval 5 4 v5 rfl rfl)
  obtain ⟨a5, m5, w5⟩ := (Opens.bool Tryz.underlying4).arg _ (fun _ => rfl) (by rw [hv5]; rfl) h5
  clear hA0 hval0
  simp only [List.append_nil] at hW'
  have hlt : ∀ x ∈ p0 ++ p1 ++ p2 ++ p3 ++ p4 ++ p5, x.block < W.heap.size := fun x hx => hW'.lt x hx
  refine (law_calls (hostSends_calls a0 a5 a1 a2 a3 a4 m4 (Nat.le_trans m3 (by decide)) _) W #[v0, v1, v2, v3, v4, v5] rfl (fun i c u hc hu => ?_) (laid_vr hL)).mono fun e W' ⟨he, hb⟩ => ?_
  · match i with
    | 0 => simp at hc hu; subst hc hu; exact ⟨w0, rfl⟩
    | 1 => simp at hc hu; subst hc hu; exact ⟨w1, rfl⟩
    | 2 => simp at hc hu; subst hc hu; exact ⟨w2, rfl⟩
    | 3 => simp at hc hu; subst hc hu; exact ⟨w3, rfl⟩
    | 4 => simp at hc hu; subst hc hu; exact ⟨w4, rfl⟩
    | 5 => simp at hc hu; subst hc hu; exact ⟨w5, rfl⟩
    | n + 6 => simp at hc
  subst he
  refine ⟨_, rfl, [d0, d1, d2, d3, d4, d5], [], p0 ++ p1 ++ p2 ++ p3 ++ p4 ++ p5, [], p0 ++ (p1 ++ (p2 ++ (p3 ++ (p4 ++ p5)))), [], hW', ?_, ?_, rfl, hb.frame _, fun h => (by cases h)⟩
  · exact trodAll_mk1 (shut_bool Tryz.underlying4 true)
  · refine trodAll_mk6 (Below.trod laid_hostSends rec4_hostSends row4_hostSends h0 hb fun x hx => hlt x (by simp [hx])) (Below.trod laid_hostSends rec9_hostSends row9_hostSends h1 hb fun x hx => hlt x (by simp [hx])) (Below.trod laid_hostSends rec22_hostSends row22_hostSends h2 hb fun x hx => hlt x (by simp [hx])) (Below.trod laid_hostSends rec23_hostSends row23_hostSends h3 hb fun x hx => hlt x (by simp [hx])) (Below.trod laid_hostSends rec26_hostSends row26_hostSends h4 hb fun x hx => hlt x (by simp [hx])) (Below.trod laid_hostSends rec4_hostSends row4_hostSends h5 hb fun x hx => hlt x (by simp [hx]))

theorem hostSends_holds : Rows.HostSendsSaid :=
  OpenClaim.holds_of_wide 3 Tryz.f3 rfl rfl rfl rfl rfl rfl rfl ⟨rfl, rfl, rfl, rfl, rfl⟩ rfl rfl rfl rfl rfl (by kernel_rfl) Tryz.func3 (by kernel_rfl)
    (of_decide_eq_true (by kernel_rfl)) (by unfold Func.isWrapper; first | (rw [if_pos (by decide +kernel)]; kernel_rfl) | (rw [if_neg (by decide +kernel)]; exact ⟨rfl, rfl⟩))
    (fun os started H enc _ => hostSends_lifted os started H enc)
end Go.Proofs.YtegpebaoghmgiaaGreatDoor
