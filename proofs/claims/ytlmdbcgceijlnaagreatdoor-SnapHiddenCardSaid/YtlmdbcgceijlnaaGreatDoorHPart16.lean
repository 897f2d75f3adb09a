/-
  The signs that are shown; the graphic ones.
-/
import Derived.Test.YtlmdbcgceijlnaaGreatDoorHPart15
set_option linter.unusedSimpArgs false
set_option linter.unusedVariables false
namespace Go.Proofs.YtlmdbcgceijlnaaGreatDoor
open Go Go.AL Go.Sp
variable {σ : Store}

def hidB (s : Nat) : Bool := decide (s < 32) || (decide (127 ≤ s) && decide (s ≤ 159)) || s == 173
def shownN (n : Int) (c : UInt8) : Nat := if c = 28 then 42 else if c = 30 then 59 else if c = 63 then 191 else if dataB c = false then 32 else if hidB (sgF n c.toNat) then 32 else sgF n c.toNat
def escL : List (Nat × Nat) := [(112, 8743), (133, 9474), (138, 8593), (139, 8595), (140, 8804), (143, 8594), (159, 8592), (162, 9472), (174, 8805), (190, 8800), (196, 9492), (197, 9484), (198, 9500), (199, 9524), (211, 9532), (212, 9496), (213, 9488), (214, 9508), (215, 9516)]
def escF (c : UInt8) : Option Nat := (escL.find? fun o => o.1 == c.toNat).map (·.2)
set_option maxRecDepth 8000 in
theorem hid_calls (s : Nat) (σ : Store) : ACalls Tryz.prog 153 [.lit (.int .i32 (s : Int))] σ fun v σ' => v = .lit (.bool (hidB s)) ∧ σ' = σ := by
  refine ACalls.of_awp follows (st := st153) (plans := pl153) (n := 17) Tryz.func153 rfl (by kernel_rfl) (by kernel_rfl) (by kernel_rfl) ?_
  unfold hidB
  by_cases h1 : s < 32
  · have h1' : (s : Int) < 32 := by omega
    simp [h1, h1']
  have h1' : ¬ (s : Int) < 32 := by omega
  by_cases h2 : 127 ≤ s
  · have h2' : (127 : Int) ≤ s := by omega
    by_cases h3 : s ≤ 159
    · have h3' : (s : Int) ≤ 159 := by omega
      simp [h1, h1', h2, h2', h3, h3']
    · have h3' : ¬ (s : Int) ≤ 159 := by omega
      have h4 : ((s : Int) == 173) = (s == 173) := by rw [Bool.eq_iff_iff]; simp; omega
      simp [h1, h1', h2, h2', h3, h3', h4]
  · have h2' : ¬ (127 : Int) ≤ s := by omega
    have h4 : ((s : Int) == 173) = (s == 173) := by rw [Bool.eq_iff_iff]; simp; omega
    simp [h1, h1', h2, h2', h4]
set_option maxRecDepth 8000 in
theorem shown_calls (b : Nat) (n : Int) (hn : isPage n) (x : Option Nat) (c : UInt8) (σ : Store) : ACalls Tryz.prog 112 [ptrA b, byteA c] (pgS b n x σ) fun v σ' => v = .lit (.int .i32 ((shownN n c : Nat) : Int)) ∧ ∃ x', NxP σ x x' ∧ σ' = pgS b n x' σ := by
  have hs := csign_calls b n hn x c σ
  have hd := fun τ => data_calls c τ
  have hh := fun τ => hid_calls (sgF n c.toNat) τ
  unfold shownN
  refine ACalls.of_awp follows (st := st112) (plans := pl112) (n := 22) Tryz.func112 rfl (by kernel_rfl) (by kernel_rfl) (by kernel_rfl) ?_
  by_cases c1 : c = 28
  · subst c1; simp [byteA]; exact ⟨_, AV.le_refl _, _, Store.sub_refl _, rfl, x, .inl rfl, rfl⟩
  by_cases c2 : c = 30
  · subst c2; simp [byteA]; exact ⟨_, AV.le_refl _, _, Store.sub_refl _, rfl, x, .inl rfl, rfl⟩
  by_cases c3 : c = 63
  · subst c3; simp [byteA]; exact ⟨_, AV.le_refl _, _, Store.sub_refl _, rfl, x, .inl rfl, rfl⟩
  have k1 : ¬ (c.toNat : Int) = 28 := fun h => c1 (UInt8.toNat_inj.1 (by show c.toNat = 28; omega))
  have k2 : ¬ (c.toNat : Int) = 30 := fun h => c2 (UInt8.toNat_inj.1 (by show c.toNat = 30; omega))
  have k3 : ¬ (c.toNat : Int) = 63 := fun h => c3 (UInt8.toNat_inj.1 (by show c.toNat = 63; omega))
  unfold byteA at *
  simp [k1, k2, k3, c1, c2, c3]
  refine callK.eq (hd _) ?_
  generalize sgF n c.toNat = s at *
  generalize hidB s = hb at *
  generalize dataB c = db at *
  cases db
  · simp
    exact ⟨_, AV.le_refl _, _, Store.sub_refl _, rfl, x, .inl rfl, rfl⟩
  · simp
    refine callK.of hs ?_
    rintro v τ ⟨rfl, q, nx, rfl⟩
    simp
    refine callK.eq (hh _) ?_
    cases hb
    · simp
      exact ⟨_, AV.le_refl _, _, Store.sub_refl _, rfl, _, nx, rfl⟩
    · simp
      exact ⟨_, AV.le_refl _, _, Store.sub_refl _, rfl, _, nx, rfl⟩
set_option maxRecDepth 8000 in
theorem rshown_calls (n : Int) (hn : isPage n) (c : UInt8) (σ : Store) : ACalls Tryz.prog 69 [.lit (.int .i64 n), byteA c] σ fun v σ' => v = .lit (.int .i32 ((shownN n c : Nat) : Int)) ∧ σ' = σ := by
  have hs := rsign_calls n hn c σ
  unfold shownN
  refine ACalls.of_awp follows (st := st69) (plans := pl69) (n := 42) Tryz.func69 rfl (by kernel_rfl) (by kernel_rfl) (by kernel_rfl) ?_
  generalize sgF n c.toNat = s at *
  by_cases c1 : c = 28
  · subst c1; simp [byteA]; refine callK.eq hs ?_; simp
  by_cases c2 : c = 30
  · subst c2; simp [byteA]; refine callK.eq hs ?_; simp
  by_cases c3 : c = 63
  · subst c3; simp [byteA]; refine callK.eq hs ?_; simp
  have k1 : ¬ (c.toNat : Int) = 28 := fun h => c1 (UInt8.toNat_inj.1 (by show c.toNat = 28; omega))
  have k2 : ¬ (c.toNat : Int) = 30 := fun h => c2 (UInt8.toNat_inj.1 (by show c.toNat = 30; omega))
  have k3 : ¬ (c.toNat : Int) = 63 := fun h => c3 (UInt8.toNat_inj.1 (by show c.toNat = 63; omega))
  unfold byteA at *
  simp
  refine callK.eq hs ?_
  unfold dataB hidB
  by_cases d1 : c.toNat < 64
  · have d1' : (c.toNat : Int) < 64 := by omega
    have d2 : ¬ 64 ≤ c.toNat := by omega
    simp [k1, k2, k3, c1, c2, c3, d1, d1', d2]
  have d1' : ¬ (c.toNat : Int) < 64 := by omega
  have d2 : 64 ≤ c.toNat := by omega
  by_cases d3 : c.toNat = 255
  · have d3' : (c.toNat : Int) = 255 := by omega
    simp [k1, k2, k3, c1, c2, c3, d1, d1', d2, d3, d3']
  have d3' : ¬ (c.toNat : Int) = 255 := by omega
  have d4 : c.toNat < 255 := by have := c.toNat_lt; omega
  by_cases h1 : s < 32
  · have h1' : (s : Int) < 32 := by omega
    simp [k1, k2, k3, c1, c2, c3, d1, d1', d2, d3, d3', d4, h1, h1']
  have h1' : ¬ (s : Int) < 32 := by omega
  by_cases h2 : 127 ≤ s
  · have h2' : (127 : Int) ≤ s := by omega
    by_cases h3 : s ≤ 159
    · have h3' : (s : Int) ≤ 159 := by omega
      simp [k1, k2, k3, c1, c2, c3, d1, d1', d2, d3, d3', d4, h1, h1', h2, h2', h3, h3']
    · have h3' : ¬ (s : Int) ≤ 159 := by omega
      by_cases h4 : s = 173
      · subst h4
        simp [k1, k2, k3, c1, c2, c3, d1, d1', d2, d3, d3', d4]
      · have h4' : ¬ (s : Int) = 173 := by omega
        simp [k1, k2, k3, c1, c2, c3, d1, d1', d2, d3, d3', d4, h1, h1', h2, h2', h3, h3', h4, h4']
  · have h2' : ¬ (127 : Int) ≤ s := by omega
    have h4 : ¬ s = 173 := by omega
    have h4' : ¬ (s : Int) = 173 := by omega
    simp [k1, k2, k3, c1, c2, c3, d1, d1', d2, d3, d3', d4, h1, h1', h2, h2', h4, h4']
set_option maxRecDepth 8000 in
theorem escs_calls (σ : Store) : ACalls Tryz.prog 151 [] σ fun v σ' => v = .list true 2 (othA escL) ∧ σ' = σ := by
  refine ACalls.of_awp follows (st := st151) (plans := pl151) (n := 21) Tryz.func151 rfl (by kernel_rfl) (by kernel_rfl) (by kernel_rfl) ?_
  simp [othA, escL]
end Go.Proofs.YtlmdbcgceijlnaaGreatDoor
/-
  The graphic signs, the program's and the document's.
-/
namespace Go.Proofs.YtlmdbcgceijlnaaGreatDoor
open Go Go.AL Go.Sp
variable {σ : Store}

def eC (j : Nat) : Nat := (escL.getD j (0, 0)).1
def eS (j : Nat) : Nat := (escL.getD j (0, 0)).2
theorem escL_len : escL.length = 19 := by decide
theorem eC_at (j : Nat) (hj : j < escL.length) : (escL[j]).1 = eC j := by simp [eC, hj]
theorem eS_at (j : Nat) (hj : j < escL.length) : (escL[j]).2 = eS j := by simp [eS, hj]
theorem escF_hit {c : UInt8} {i : Nat} (hi : i < 19) (hb : ∀ j, j < i → ¬ eC j = c.toNat) (he : eC i = c.toNat) : escF c = some (eS i) := by
  have hl := escL_len
  have hi' : i < escL.length := by omega
  unfold escF
  rw [List.find?_eq_some_iff_getElem.2 ⟨by simp [he, eC_at], i, hi', rfl, fun j hj => by have := hb j hj; simpa [eC_at] using this⟩]
  rw [Option.map_some, eS_at]
theorem escF_none {c : UInt8} (hb : ∀ j, j < 19 → ¬ eC j = c.toNat) : escF c = none := by
  unfold escF
  rw [List.find?_eq_none.2]
  · rfl
  · intro o ho
    obtain ⟨j, hj, rfl⟩ := List.getElem_of_mem ho
    have := hb j (by have := escL_len; omega)
    simpa [eC_at] using this
theorem othA_get (i : Nat) (hi : i < 19) : (othA escL)[i]? = some (.agg [.lit (.int .u8 (eC i : Int)), .lit (.int .u16 (eS i : Int))]) := by
  have hl := escL_len
  have hi' : i < escL.length := by omega
  simp [othA, hi', eC_at, eS_at]
set_option maxRecDepth 8000 in
theorem escape_calls (c : UInt8) (σ : Store) : ACalls Tryz.prog 111 [byteA c] σ fun v σ' => v = .tuple [.lit (.int .i32 ((escF c).getD 0 : Nat)), .lit (.bool (escF c).isSome)] ∧ σ' = σ := by
  have hec := fun τ => escs_calls τ
  have hsm : ∀ j, j < 19 → eS j < 65536 := by decide
  refine ACalls.of_awp follows (st := st111) (plans := pl111) (n := 20) Tryz.func111 rfl (by kernel_rfl) (by kernel_rfl) (by kernel_rfl) ?_
  simp [byteA]
  refine callK.eq (hec _) ?_
  have hhit := fun i (hi : i < 19) => escF_hit (c := c) hi
  have hnone := escF_none (c := c)
  generalize escF c = ec at *
  have hget := othA_get
  have hOl : (othA escL).length = 19 := by rw [othA_length, escL_len]
  generalize othA escL = O at *
  generalize eC = fC at *
  generalize eS = fS at *
  simp [hOl]
  refine codeK.loop follows (st := st111) (plans := pl111) (X := Nat) (fun i => i ≤ 19 ∧ ∀ j, j < i → ¬ fC j = c.toNat)
    (fun i => [(0, byteA c), (6, .list true 2 O), (7, .lit (.int .i64 19)), (8, .lit (.int .i64 i))]) (fun _ => σ) (fun i => 19 - i) 0 (by kernel_rfl) (by simp) (by simp [byteA]) (Store.sub_refl _) fun i hi => ?_
  obtain ⟨hi1, hi2⟩ := hi
  by_cases hlt : i < 19
  · have hw1 : IntKind.i64.wrap ((i : Int) + 1) = (i : Int) + 1 := wrap_i64 (by omega) (by omega)
    have hg := hget i hlt
    have hlt' : (i : Int) < 19 := by omega
    have hgo : ∀ q : i < O.length, O[i]'q = .agg [.lit (.int .u8 (fC i : Int)), .lit (.int .u16 (fS i : Int))] := fun q => by rw [List.getElem?_eq_getElem q] at hg; exact Option.some.inj hg
    have hH := hhit i hlt hi2
    have hS := hsm i hlt
    have hnx : ¬ fC i = c.toNat → ∀ j, j < i + 1 → ¬ fC j = c.toNat := fun h j hj => by
      rcases Nat.lt_or_ge j i with h1 | h1
      · exact hi2 j h1
      · have : j = i := by omega
        subst this; exact h
    generalize fC i = w at *
    generalize fS i = s at *
    have hw2 : IntKind.i32.wrap (s : Int) = s := wrap32 (by omega) (by omega)
    by_cases he : w = c.toNat
    · have hH' := hH he
      rw [hH']
      simp +contextual [byteA, hlt, hlt', hgo, hOl, he, hw2]
    · have he' : ¬ (w : Int) = (c.toNat : Int) := by omega
      simp +contextual [byteA, hlt, hlt', hgo, hOl, he, he', hw1]
      intro z hz
      exact ⟨i + 1, ⟨by omega, hnx he⟩, by omega, by simp⟩
  · obtain rfl : i = 19 := by omega
    rw [hnone hi2]
    simp
set_option maxRecDepth 8000 in
theorem hidden_calls (p u : Bool) (d : Nat) (m : Bool) (σ : Store) : ACalls Tryz.prog 67 [.agg [.lit (.bool p), .lit (.bool u), .lit (.int .i64 d), .lit (.bool m)]] σ fun v σ' => v = .lit (.bool (decide (d = 3))) ∧ σ' = σ := by
  have h4 : ((d : Int) == 3) = decide (d = 3) := by rw [Bool.eq_iff_iff]; simp; omega
  refine ACalls.of_awp follows (st := st67) (plans := pl67) (n := 6) Tryz.func67 rfl (by kernel_rfl) (by kernel_rfl) (by kernel_rfl) ?_
  simp [h4]
  intro z hz
  exact sub_upd_self _ _ _ hz
def escS : List UInt8 := [55, 48, 50, 50, 50, 55, 56, 53, 50, 53, 48, 50, 56, 97, 50, 49, 57, 49, 56, 98, 50, 49, 57, 51, 56, 99, 50, 50, 54, 52, 56, 102, 50, 49, 57, 50, 57, 102, 50, 49, 57, 48, 97, 50, 50, 53, 48, 48, 97, 101, 50, 50, 54, 53, 98, 101, 50, 50, 54, 48, 99, 52, 50, 53, 49, 52, 99, 53, 50, 53, 48, 99, 99, 54, 50, 53, 49, 99, 99, 55, 50, 53, 51, 52, 100, 51, 50, 53, 51, 99, 100, 52, 50, 53, 49, 56, 100, 53, 50, 53, 49, 48, 100, 54, 50, 53, 50, 52, 100, 55, 50, 53, 50, 99]
theorem escS_len : escS.length = 114 := by decide
theorem escS_at : ∀ i : Fin 19, numL ((escS.drop (6 * i.val)).take 2) = eC i.val ∧ numL ((escS.drop (6 * i.val + 2)).take 4) = eS i.val := by decide +kernel
set_option maxRecDepth 8000 in
theorem resc_calls (c : UInt8) (σ : Store) : ACalls Tryz.prog 70 [byteA c] σ fun v σ' => v = .lit (.int .i32 ((escF c).getD 0 : Nat)) ∧ σ' = σ := by
  have hsm : ∀ j, j < 19 → eS j < 65536 := by decide
  have hhit := fun i (hi : i < 19) => escF_hit (c := c) hi
  have hnone := escF_none (c := c)
  have hat := fun i (hi : i < 19) => escS_at ⟨i, hi⟩
  refine ACalls.of_awp follows (st := st70) (plans := pl70) (n := 23) Tryz.func70 rfl (by kernel_rfl) (by kernel_rfl) (by kernel_rfl) ?_
  generalize escF c = ec at *
  generalize eC = fC at *
  generalize eS = fS at *
  simp [byteA]
  refine codeK.loop follows (st := st70) (plans := pl70) (X := Nat) (fun i => i ≤ 19 ∧ ∀ j, j < i → ¬ fC j = c.toNat)
    (fun i => [(0, byteA c), (3, .lit (.int .i64 (6 * i : Nat)))]) (fun _ => σ) (fun i => 19 - i) 0 (by kernel_rfl) (by simp) (by simp [byteA]) (Store.sub_refl _) fun i hi => ?_
  obtain ⟨hi1, hi2⟩ := hi
  by_cases hlt : i < 19
  · have hw1 : IntKind.i64.wrap (((6 * i : Nat) : Int) + 2) = ((6 * i : Nat) : Int) + 2 := wrap_i64 (by omega) (by omega)
    have hw2 : IntKind.i64.wrap (((6 * i : Nat) : Int) + 6) = ((6 * i : Nat) : Int) + 6 := wrap_i64 (by omega) (by omega)
    obtain ⟨a1, a2⟩ := hat i hlt
    dsimp only at a1 a2
    have hH := hhit i hlt hi2
    have hS := hsm i hlt
    have hnx : ¬ fC i = c.toNat → ∀ j, j < i + 1 → ¬ fC j = c.toNat := fun h j hj => by
      rcases Nat.lt_or_ge j i with h1 | h1
      · exact hi2 j h1
      · have : j = i := by omega
        subst this; exact h
    have s1 := aSlice_str (P := Tryz.prog) (t := 9) (by simp) (by simp) escS (6 * i) (6 * i + 2) ((6 * i : Nat) : Int) (((6 * i : Nat) : Int) + 2) rfl (by omega) (by omega) (by rw [escS_len]; omega)
    have s2 := aSlice_str (P := Tryz.prog) (t := 9) (by simp) (by simp) escS (6 * i + 2) (6 * i + 6) (((6 * i : Nat) : Int) + 2) (((6 * i : Nat) : Int) + 6) (by omega) (by omega) (by omega) (by rw [escS_len]; omega)
    rw [show 6 * i + 2 - 6 * i = 2 from by omega] at s1
    rw [show 6 * i + 6 - (6 * i + 2) = 4 from by omega] at s2
    have n1 := fun τ => nums_calls (toB ((escS.drop (6 * i)).take 2)) (by rw [toB_size]; simp; omega) τ
    have n2 := fun τ => nums_calls (toB ((escS.drop (6 * i + 2)).take 4)) (by rw [toB_size]; simp; omega) τ
    have q1 : numS (toB ((escS.drop (6 * i)).take 2)) = fC i := by
      have := (numS_part escS (6 * i) 2 (by rw [escS_len]; omega)).2
      rw [toB_extract _ _ _ (by omega), show 6 * i + 2 - 6 * i = 2 from by omega] at this
      rw [this, a1]
    have q2 : numS (toB ((escS.drop (6 * i + 2)).take 4)) = fS i := by
      have := (numS_part escS (6 * i + 2) 4 (by rw [escS_len]; omega)).2
      rw [toB_extract _ _ _ (by omega), show 6 * i + 2 + 4 - (6 * i + 2) = 4 from by omega] at this
      rw [this, a2]
    rw [q1] at n1
    rw [q2] at n2
    clear q1 q2 a1 a2 hat
    have hlt' : ((6 * i : Nat) : Int) < 114 := by omega
    generalize hB1 : toB ((escS.drop (6 * i)).take 2) = B1 at *
    generalize hB2 : toB ((escS.drop (6 * i + 2)).take 4) = B2 at *
    generalize fC i = w at *
    generalize fS i = s at *
    have hw3 : IntKind.i32.wrap (s : Int) = s := wrap32 (by omega) (by omega)
    have hcw : IntKind.i64.wrap (c.toNat : Int) = c.toNat := wrap_i64 (by omega) (by have := c.toNat_lt; omega)
    have hmk : ByteArray.mk #[55, 48, 50, 50, 50, 55, 56, 53, 50, 53, 48, 50, 56, 97, 50, 49, 57, 49, 56, 98, 50, 49, 57, 51, 56, 99, 50, 50, 54, 52, 56, 102, 50, 49, 57, 50, 57, 102, 50, 49, 57, 48, 97, 50, 50, 53, 48, 48, 97, 101, 50, 50, 54, 53, 98, 101, 50, 50, 54, 48, 99, 52, 50, 53, 49, 52, 99, 53, 50, 53, 48, 99, 99, 54, 50, 53, 49, 99, 99, 55, 50, 53, 51, 52, 100, 51, 50, 53, 51, 99, 100, 52, 50, 53, 49, 56, 100, 53, 50, 53, 49, 48, 100, 54, 50, 53, 50, 52, 100, 55, 50, 53, 50, 99] = toB escS := rfl
    have hw2' : IntKind.i64.wrap (((6 * i : Nat) : Int) + 6) = ((6 * (i + 1) : Nat) : Int) := wrap_i64 (by omega) (by omega)
    have hk6 : 6 * (i + 1) = 6 * i + 6 := by omega
    generalize 6 * (i + 1) = k6 at *
    generalize hk : 6 * i = k at *
    by_cases he : w = c.toNat
    · have hH' := hH he
      rw [hH']
      simp [-e_aSlice_1, -e_aSlice_2, byteA, hlt', hw1, hmk, s1]
      refine callK.eq (n1 _) ?_
      simp [-e_aSlice_1, -e_aSlice_2, he, hcw, hw1, hw2, hmk, s2]
      refine callK.eq (n2 _) ?_
      simp [hw3]
    · have he' : ¬ (w : Int) = (c.toNat : Int) := by omega
      simp [-e_aSlice_1, -e_aSlice_2, byteA, hlt', hw1, hmk, s1]
      refine callK.eq (n1 _) ?_
      simp [he', hcw, hw2]
      exact ⟨i + 1, ⟨by omega, hnx he⟩, by omega, by rw [show ((k : Int) + 6) = 6 * ((i + 1 : Nat) : Int) by omega]; exact AV.le_refl _⟩
  · obtain rfl : i = 19 := by omega
    rw [hnone hi2]
    simp
end Go.Proofs.YtlmdbcgceijlnaaGreatDoor
/-
  The iterators over a screen that their rounds change, attributes staying where they are.
-/
namespace Go.Proofs.YtlmdbcgceijlnaaGreatDoor
open Go Go.AL Go.Sp

/-- The screen of each round. -/
def NeedF (b q p : Nat) (S : Nat → Sp) (k : Nat) (τ : Store) : Prop := τ b = some [ptrA q] ∧ Prg τ q p (S k)
/-- Screens of one size, attributes at the same places. -/
structure Fam (S : Nat → Sp) : Prop where
  good : ∀ k, (S k).good
  n : ∀ k, (S k).n = (S 0).n
  attr : ∀ k i, attrAt (S k).cells i = attrAt (S 0).cells i
theorem Fam.attrs {S : Nat → Sp} (h : Fam S) (k : Nat) : (S k).attrs = (S 0).attrs := by
  rw [attrs_eq _ (h.good k), attrs_eq _ (h.good 0), h.n k]
  congr 1
  funext i; exact h.attr k i
def atFldF (S : Nat → Sp) (k : Nat) : Nat × Fld := ((S 0).attrs[k]?.getD 0, fld (((S k).cells[(S 0).attrs[k]?.getD 0]?.getD .zero).fa))
/-- What the iterator over a field's places finds. -/
def NeedPF (b c q p : Nat) (S : Nat → Sp) (a : Nat) (k : Nat) (τ : Store) : Prop := τ b = some [ptrA q] ∧ τ c = some [.lit (.int .i64 a)] ∧ Prg τ q p (S k)
end Go.Proofs.YtlmdbcgceijlnaaGreatDoor
/-
  Screens of one size.
-/
namespace Go.Proofs.YtlmdbcgceijlnaaGreatDoor
open Go Go.AL Go.Sp

theorem foldl_inv {α β : Type} {P : β → Prop} (f : β → α → β) (h : ∀ b a, P b → P (f b a)) : ∀ (l : List α) (b : β), P b → P (l.foldl f b)
  | [], _, hb => hb
  | a :: l, b, hb => foldl_inv f h l (f b a) (h b a hb)
/-- A screen of the same size. -/
def SameN (s t : Sp) : Prop := t.good ∧ t.model = s.model ∧ t.alt = s.alt
theorem SameN.refl {s : Sp} (h : s.good) : SameN s s := ⟨h, rfl, rfl⟩
theorem SameN.n {s t : Sp} (h : SameN s t) : t.n = s.n := by unfold Sp.n Sp.rows Sp.cols; rw [h.2.1, h.2.2]
theorem SameN.trans {a b c : Sp} (h : SameN a b) (k : SameN b c) : SameN a c := ⟨k.1, k.2.1.trans h.2.1, k.2.2.trans h.2.2⟩
theorem SameN.set {s t : Sp} (h : SameN s t) (k : Int) (c : Cell) : SameN s (t.set k c) := ⟨h.1.set k c, h.2.1, h.2.2⟩
theorem SameN.put {s t : Sp} (h : SameN s t) (k : Int) (c : UInt8) : SameN s (t.put k c) := ⟨h.1.put k c, (t.model_put k c).1.trans h.2.1, (t.model_put k c).2.trans h.2.2⟩
theorem SameN.place {s t : Sp} (h : SameN s t) (k : Int) : SameN s (t.place k) := ⟨h.1.place k, h.2.1, h.2.2⟩
theorem SameN.rangeS {s t : Sp} (h : SameN s t) (l : List Nat) : SameN s (rangeS t l) :=
  foldl_inv (P := SameN s) _ (fun b a hb => by split; exact hb.put _ _; exact hb) l t h
theorem SameN.repeatS {s t : Sp} (h : SameN s t) (l : List Nat) (c : Cell) : SameN s (repeatS t l c) :=
  foldl_inv (P := SameN s) _ (fun _b _a hb => hb.set _ _) l t h
theorem SameN.nullS {s t : Sp} (h : SameN s t) (l : List Nat) : SameN s (nullS t l) :=
  foldl_inv (P := SameN s) _ (fun _b _a hb => hb.put _ _) l t h
theorem putS_put {f : Sp → Nat → List AV} {σ : Store} {q p : Nat} (hne : q ≠ p) (s s2 : Sp) : putS f (putS f σ q p s) q p s2 = putS f σ q p s2 := putS_twice s s2 hne
/-- The screen is such within a store that knows more. -/
structure Lv (σ ρ : Store) (q r : Nat) (s : Sp) : Prop where
  prg : Prg ρ q r s
  sub : Store.sub (putS spO σ q r s) ρ
theorem putS_at {f : Sp → Nat → List AV} {σ : Store} {q r o : Nat} {s : Sp} (h1 : ¬ o = q) (h2 : ¬ o = r) : putS f σ q r s o = σ o := by simp [putS, h1, h2]
theorem Lv.put {σ ρ : Store} {q r : Nat} {s : Sp} (h : Lv σ ρ q r s) {s2 : Sp} (hg : s2.good) : Lv σ (putS spO ρ q r s2) q r s2 := by
  refine ⟨Scr.of_put h.prg.ne hg, Store.sub2 (fun o => ?_) (fun i => by simpa [putS] using h.sub (mkey i))⟩
  by_cases h1 : o = q
  · subst h1; right; simp [putS]
  · by_cases h2 : o = r
    · subst h2; right; simp [putS]
    · rw [putS_at h1 h2, putS_at h1 h2]
      have := h.sub o
      rwa [putS_at h1 h2] at this
theorem Lv.new {σ ρ : Store} {q r : Nat} {s : Sp} (h : Lv σ ρ q r s) {b : Nat} (hb : ρ b = none) (X : List AV) : Lv σ (ρ.upd b X) q r s :=
  ⟨h.prg.new hb X, Store.sub_trans h.sub (Store.sub_upd hb (Store.sub_refl _))⟩
theorem Lv.refl {σ : Store} {q r : Nat} {s : Sp} (h : Prg σ q r s) : Lv σ σ q r s := ⟨h, by rw [h.put_self]; exact Store.sub_refl _⟩
theorem Lv.mono {σ ρ ρ' : Store} {q r : Nat} {s : Sp} (h : Lv σ ρ q r s) (hs : Store.sub ρ ρ') : Lv σ ρ' q r s := ⟨prg_mono h.prg hs, Store.sub_trans h.sub hs⟩
theorem NeedB.put {b1 b2 b3 : Nat} {s : Sp} {f t : Nat} {τ : Store} (h : NeedB b1 b2 b3 s f t τ) {q r : Nat} (g1 : ¬ b1 = q ∧ ¬ b1 = r) (g2 : ¬ b2 = q ∧ ¬ b2 = r) (g3 : ¬ b3 = q ∧ ¬ b3 = r) (s2 : Sp) : NeedB b1 b2 b3 s f t (putS spO τ q r s2) :=
  ⟨by rw [putS_at g1.1 g1.2]; exact h.1, by rw [putS_at g2.1 g2.2]; exact h.2.1, by rw [putS_at g3.1 g3.2]; exact h.2.2⟩
end Go.Proofs.YtlmdbcgceijlnaaGreatDoor
/-
  No field is modified; all that is not protected goes.
-/
namespace Go.Proofs.YtlmdbcgceijlnaaGreatDoor
open Go Go.AL Go.Sp

def clr (c : Cell) : Cell := { c with fa := c.fa &&& 0xfe }
def unmod1 (s : Sp) (a : Nat) : Sp := s.set a (clr (s.at a))
def unmodTo (s : Sp) (k : Nat) : Sp := (s.attrs.take k).foldl unmod1 s
def unmodS (s : Sp) : Sp := s.attrs.foldl unmod1 s
def unprot1 (s : Sp) (a : Nat) : Sp := if (fldAt s a).prot = true then s else unmod1 (nullS s (Sp.places s.cells a)) a
def unprotTo (s : Sp) (k : Nat) : Sp := (s.attrs.take k).foldl unprot1 s
def unprotS (s : Sp) : Sp := if s.count = 0 then (nullS s (List.range s.n)).place 0 else
  (s.attrs.foldl unprot1 s).place (max (nextS (s.attrs.foldl unprot1 s) (s.n - 1)) 0)
/-- What keeps the attributes where they are. -/
structure KeepA (s t : Sp) : Prop where
  same : SameN s t
  attr : ∀ i, attrAt t.cells i = attrAt s.cells i
theorem KeepA.refl {s : Sp} (h : s.good) : KeepA s s := ⟨SameN.refl h, fun _ => rfl⟩
theorem KeepA.trans {a b c : Sp} (h : KeepA a b) (k : KeepA b c) : KeepA a c := ⟨h.same.trans k.same, fun i => (k.attr i).trans (h.attr i)⟩
theorem KeepA.attrs {s t : Sp} (h : KeepA s t) (hs : s.good) : t.attrs = s.attrs := by
  rw [attrs_eq _ h.same.1, attrs_eq _ hs, h.same.n]
  congr 1
  funext i; exact h.attr i
end Go.Proofs.YtlmdbcgceijlnaaGreatDoor
/-
  All that is not protected goes.
-/
namespace Go.Proofs.YtlmdbcgceijlnaaGreatDoor
open Go Go.AL Go.Sp

theorem places_length' (l : List Cell) (a : Nat) : (Sp.places l a).length = Sp.len l a := by simp [Sp.places]
theorem places_get' (l : List Cell) (a k : Nat) (h : k < (Sp.places l a).length) : (Sp.places l a)[k] = (a + k + 1) % l.length := by simp [Sp.places]
def nullP (t : Sp) (a j : Nat) : Sp := nullS t ((Sp.places t.cells a).take j)
end Go.Proofs.YtlmdbcgceijlnaaGreatDoor
/-
  Slices of places: collected, looked into.
-/
namespace Go.Proofs.YtlmdbcgceijlnaaGreatDoor
open Go Go.AL Go.Sp

def natA (n : Nat) : AV := .lit (.int .i64 n)
def natsA (L : List Nat) : List AV := L.map natA
@[simp] theorem natsA_len (L : List Nat) : (natsA L).length = L.length := by simp [natsA]
theorem natsA_append (a b : List Nat) : natsA (a ++ b) = natsA a ++ natsA b := by simp [natsA]
@[simp] theorem natsA_get (L : List Nat) (i : Nat) (h : i < (natsA L).length) : (natsA L)[i] = .lit (.int .i64 (L[i]'(by simpa using h) : Nat)) := by simp [natsA, natA]
end Go.Proofs.YtlmdbcgceijlnaaGreatDoor
/-
  The places from one on to the end of its field.
-/
namespace Go.Proofs.YtlmdbcgceijlnaaGreatDoor
open Go Go.AL Go.Sp

theorem least (P : Nat → Bool) {j : Nat} (h : P j = true) : ∃ i, i ≤ j ∧ P i = true ∧ ∀ k, k < i → P k = false := by
  induction j using Nat.strongRecOn with
  | ind j ih =>
    by_cases hx : ∃ k, k < j ∧ P k = true
    · obtain ⟨k, hk, hp⟩ := hx
      obtain ⟨i, h1, h2⟩ := ih k hk hp
      exact ⟨i, by omega, h2⟩
    · refine ⟨j, Nat.le_refl _, h, fun k hk => ?_⟩
      cases e : P k
      · rfl
      · exact absurd ⟨k, hk, e⟩ hx
/-- A place that is no attribute lies in the field that begins ahead of it. -/
structure InField (s : Sp) (n a : Nat) : Prop where
  start : startS s.cells n = (a : Nat)
  lt : a < s.n
  attr : attrAt s.cells a = true
  mem : n ∈ Sp.places s.cells a
theorem IterG.congr {P : Program} {f : Nat} {caps : List AV} {σ : Store} {N : Nat} {Need : Nat → Store → Prop} {arg : Nat → Store → List AV} (h : IterG P f caps σ N Need arg) (arg' : Nat → List AV) (he : ∀ k τ, k < N → arg k τ = arg' k) :
    IterG P f caps σ N Need fun k _ => arg' k :=
  ⟨fun k τ τ' hn hs => ⟨(h.mono k τ τ' hn hs).1, rfl⟩, fun X l I J h1 h2 τ E h3 hs => h.run X l I J h1 (fun k hk τ E hI => by rw [he k τ hk]; exact h2 k hk τ E hI) τ E h3 hs⟩
def restL (s : Sp) (n : Nat) : List Nat := if s.count = 0 then spanL s.n n 0 else (Sp.places s.cells (startS s.cells n).toNat).drop ((Sp.places s.cells (startS s.cells n).toNat).idxOf n)
end Go.Proofs.YtlmdbcgceijlnaaGreatDoor
/-
  A field is marked; the end of a field goes.
-/
namespace Go.Proofs.YtlmdbcgceijlnaaGreatDoor
open Go Go.AL Go.Sp

def roundL (s : Sp) (n : Nat) : List Nat := if s.count = 0 then spanL s.n n n else restL s n
def mk1 (c : Cell) : Cell := { c with fa := c.fa ||| 1 }
def modS (s : Sp) (n : Nat) : Sp := if startS s.cells n = -1 then s else s.set (startS s.cells n) (mk1 (s.at (startS s.cells n)))
def endS (s : Sp) (n : Nat) : Sp := if openS s n = true then modS (nullS s (restL s n)) n else s
end Go.Proofs.YtlmdbcgceijlnaaGreatDoor
/-
  Rows, columns, moves.
-/
namespace Go.Proofs.YtlmdbcgceijlnaaGreatDoor
open Go Go.AL Go.Sp

theorem small_i64 {n : Nat} (h : n ≤ 1000000000) : IntKind.i64.wrap (n : Int) = n := wrap_i64 (by omega) (by omega)
def addrAt (r c : Nat) (row col : Int) : Nat := wrap r row * c + wrap c col
theorem addrAt_lt {r c : Nat} (h : Dim r c) (row col : Int) : addrAt r c row col < r * c := by
  have h1 := wrap_lt h.r1 row
  have h2 := wrap_lt h.c1 col
  unfold addrAt
  have : (wrap r row + 1) * c ≤ r * c := Nat.mul_le_mul_right _ h1
  rw [Nat.succ_mul] at this
  omega
set_option maxRecDepth 4000 in
theorem addrAt_calls {r c : Nat} (h : Dim r c) (row col : Int) (σ : Store) : ACalls Tryz.prog 64 [dimA r c, .lit (.int .i64 row), .lit (.int .i64 col)] σ fun v σ' => v = .lit (.int .i64 (addrAt r c row col)) ∧ σ' = σ := by
  have hv := valid_calls h
  have hr := rest_calls row r h.r1 (by have := h.r2; omega)
  have hc := rest_calls col c h.c1 (by have := h.c2; omega)
  have hlt := addrAt_lt h row col
  have hm := h.m
  have h1 := wrap_lt h.r1 row
  have h2 := wrap_lt h.c1 col
  have hr2 := h.r2
  have hc2 := h.c2
  unfold dimA at hv
  unfold addrAt at *
  generalize wrap r row = a at *
  generalize wrap c col = b at *
  have hac : a * c ≤ r * c := Nat.mul_le_mul_right _ (Nat.le_of_lt h1)
  have hw1 : IntKind.i64.wrap ((a : Int) * (c : Int)) = ((a * c : Nat) : Int) := by rw [← Int.natCast_mul]; exact small_i64 (by omega)
  have hw2 : IntKind.i64.wrap (((a * c : Nat) : Int) + (b : Int)) = ((a * c + b : Nat) : Int) := by rw [← Int.natCast_add]; exact small_i64 (by omega)
  generalize a * c + b = z at *
  generalize a * c = y at *
  refine ACalls.of_awp follows (st := st64) (plans := pl64) (n := 22) Tryz.func64 rfl (by kernel_rfl) (by kernel_rfl) (by kernel_rfl) ?_
  simp [dimA]
  intro p hp
  refine callK.of (hv _) ?_
  rintro v σ' ⟨rfl, rfl⟩
  simp
  repeat' first
    | with_reducible apply And.intro
    | (refine callK.of (hr _) ?_; rintro v σ1 ⟨rfl, rfl⟩; simp [hw1])
    | (refine callK.of (hc _) ?_; rintro v σ1 ⟨rfl, rfl⟩; simp [hw1, hw2, hp])
set_option maxRecDepth 4000 in
theorem row_of_calls {r c : Nat} (h : Dim r c) (n : Int) (σ : Store) : ACalls Tryz.prog 63 [dimA r c, .lit (.int .i64 n)] σ fun v σ' => v = .lit (.int .i64 ((wrap (r * c) n / c : Nat) : Int)) ∧ σ' = σ := by
  have hv := valid_calls h
  have hw := wrap_calls h n
  have hc1 := h.c1
  have hlt := wrap_lt h.p n
  have hm := h.m
  unfold dimA at hv hw
  generalize wrap (r * c) n = a at *
  have hc0 : ¬ c = 0 := by omega
  have hq : (a : Int).tdiv (c : Int) = ((a / c : Nat) : Int) := rfl
  have hle := Nat.div_le_self a c
  have hw1 : IntKind.i64.wrap ((a : Int).tdiv (c : Int)) = ((a / c : Nat) : Int) := by rw [hq]; exact small_i64 (by omega)
  have hw2 : IntKind.i64.wrap ((a : Int) / (c : Int)) = (a : Int) / (c : Int) := by rw [← Int.natCast_ediv]; exact small_i64 (by omega)
  refine ACalls.of_awp follows (st := st63) (plans := pl63) (n := 14) Tryz.func63 rfl (by kernel_rfl) (by kernel_rfl) (by kernel_rfl) ?_
  simp [dimA]
  intro p hp
  refine callK.of (hv _) ?_
  rintro v σ' ⟨rfl, rfl⟩
  simp
  repeat' first
    | with_reducible apply And.intro
    | (refine callK.of (hw _) ?_; rintro v σ1 ⟨rfl, rfl⟩; simp [hw2, hp, hc0])
set_option maxRecDepth 4000 in
theorem col_of_calls {r c : Nat} (h : Dim r c) (n : Int) (σ : Store) : ACalls Tryz.prog 74 [dimA r c, .lit (.int .i64 n)] σ fun v σ' => v = .lit (.int .i64 ((wrap (r * c) n % c : Nat) : Int)) ∧ σ' = σ := by
  have hv := valid_calls h
  have hw := wrap_calls h n
  have hc1 := h.c1
  have hlt := wrap_lt h.p n
  have hm := h.m
  unfold dimA at hv hw
  generalize wrap (r * c) n = a at *
  have hc0 : ¬ c = 0 := by omega
  have hq : (a : Int).tmod (c : Int) = ((a % c : Nat) : Int) := rfl
  generalize a % c = z at *
  refine ACalls.of_awp follows (st := st74) (plans := pl74) (n := 14) Tryz.func74 rfl (by kernel_rfl) (by kernel_rfl) (by kernel_rfl) ?_
  simp [dimA]
  intro p hp
  refine callK.of (hv _) ?_
  rintro v σ' ⟨rfl, rfl⟩
  simp
  repeat' first
    | with_reducible apply And.intro
    | (refine callK.of (hw _) ?_; rintro v σ1 ⟨rfl, rfl⟩; simp [hq, hp, hc0])
def lineN (r c : Nat) (n : Int) : Nat := addrAt r c ((wrap (r * c) n / c + 1 : Nat) : Int) 0
end Go.Proofs.YtlmdbcgceijlnaaGreatDoor
/-
  The cursor's moves.
-/
namespace Go.Proofs.YtlmdbcgceijlnaaGreatDoor
open Go Go.AL Go.Sp

def moveN (r c : Nat) (n dr dc : Int) : Nat :=
  let m := wrap (r * c) (((wrap (r * c) n + wrap (r * c) dc : Nat) : Int))
  addrAt r c ((m / c + wrap r dr : Nat) : Int) ((m % c : Nat) : Int)
end Go.Proofs.YtlmdbcgceijlnaaGreatDoor
/-
  The field before; the cursor's keys.
-/
namespace Go.Proofs.YtlmdbcgceijlnaaGreatDoor
open Go Go.AL Go.Sp

def prevS (s : Sp) (n : Nat) : Int := match (List.range s.n).find? (fun i => firstS s ((n + s.n - (i + 1)) % s.n)) with
  | some i => (((n + s.n - (i + 1)) % s.n : Nat) : Int)
  | none => -1
def tabS (s : Sp) : Sp := s.place (max (nextS s s.cursor) 0)
def btabS (s : Sp) : Sp := s.place (max (prevS s s.cursor) 0)
def firstN (s : Sp) (n : Nat) : Int := if openS s n = true then n else max (nextS s n) 0
def homeS (s : Sp) : Sp := s.place (firstN s 0)
def newlineS (s : Sp) : Sp := s.place (firstN s (lineN s.rows s.cols s.cursor))
def moveS (s : Sp) (dr dc : Int) : Sp := s.place (moveN s.rows s.cols s.cursor dr dc)
end Go.Proofs.YtlmdbcgceijlnaaGreatDoor
/-
  The places of a row.
-/
namespace Go.Proofs.YtlmdbcgceijlnaaGreatDoor
open Go Go.AL Go.Sp

/-- The first number under M with p, or M. -/
def toP (p : Nat → Bool) : Nat → Nat
  | 0 => 0
  | M + 1 => if toP p M < M then toP p M else if p M = true then M else M + 1
def rowN (s : Sp) (n : Nat) : Nat := toP (fun i => attrAt s.cells (n + i)) (s.cols - n % s.cols)
def rowL (s : Sp) (n : Nat) : List Nat := (List.range (rowN s n)).map (n + ·)
end Go.Proofs.YtlmdbcgceijlnaaGreatDoor
/-
  A character goes out of its row; room for one more.
-/
namespace Go.Proofs.YtlmdbcgceijlnaaGreatDoor
open Go Go.AL Go.Sp

def delTo (s : Sp) (L : List Nat) : Nat → Sp
  | 0 => s
  | k + 1 => (delTo s L k).put (L[k]?.getD 0 : Nat) (if k + 1 < L.length then ((delTo s L k).at (L[k + 1]?.getD 0 : Nat)).char else 0)
def delS (s : Sp) (n : Nat) : Sp := if openS s n = true then modS (delTo s (rowL s n) (rowL s n).length) n else s
end Go.Proofs.YtlmdbcgceijlnaaGreatDoor
/-
  Room for one more character.
-/
namespace Go.Proofs.YtlmdbcgceijlnaaGreatDoor
open Go Go.AL Go.Sp

def nulAt (s : Sp) (n : Nat) : Bool := (s.at (n : Int)).char == 0
def nulN (s : Sp) (L : List Nat) : Nat := toP (fun i => nulAt s (L[i]?.getD 0)) L.length
def insTo (s : Sp) (L : List Nat) (e : Nat) : Nat → Sp
  | 0 => s
  | k + 1 => (insTo s L e k).put (L[e - k]?.getD 0 : Nat) ((insTo s L e k).at (L[e - k - 1]?.getD 0 : Nat)).char
def insS (s : Sp) (n : Nat) (c : UInt8) : Sp × Bool :=
  if openS s n = true ∧ nulN s (roundL s n) < (roundL s n).length then
    (modS ((insTo s (roundL s n) (nulN s (roundL s n)) (nulN s (roundL s n))).put ((roundL s n)[0]?.getD 0 : Nat) c) n, true)
  else (s, false)
end Go.Proofs.YtlmdbcgceijlnaaGreatDoor
/-
  The keyboard: its state in a store; its small functions.
-/
namespace Go.Proofs.YtlmdbcgceijlnaaGreatDoor
open Go Go.AL Go.Sp

def skipF (f : Fld) : Bool := f.prot && f.num
def afterS (s : Sp) : Sp :=
  if ((moveS s 0 1).at ((moveS s 0 1).cursor : Nat)).attr = false then moveS s 0 1
  else if skipF (fld ((moveS s 0 1).at ((moveS s 0 1).cursor : Nat)).fa) = true then tabS (moveS s 0 1) else moveS (moveS s 0 1) 0 1
structure Bd where
  s : Sp
  lock : Int
  ins : Bool
  aid : UInt8
def bdO (q pb : Nat) (B : Bd) : List AV := [ptrA q, ptrA pb, .lit (.int .i64 B.lock), .lit (.bool B.ins), byteA B.aid]
/-- A board at k on a screen at q with its row at r and a page of number n at b. -/
def kS (σ : Store) (k q r b : Nat) (n : Int) (x : Option Nat) (B : Bd) : Store := pgS b n x ((putS spO σ q r B.s).upd k (bdO q b B))
structure KOk (σ : Store) (k q r b : Nat) (n : Int) (B : Bd) : Prop where
  kq : ¬ k = q
  kr : ¬ k = r
  kb : ¬ k = b
  qr : ¬ q = r
  qb : ¬ q = b
  rb : ¬ r = b
  none : σ r = none
  page : isPage n
  good : B.s.good
variable {σ : Store} {k q r b : Nat} {n : Int} {B : Bd}
theorem KOk.s (h : KOk σ k q r b n B) {B2 : Bd} (hs : B2.s.good) : KOk σ k q r b n B2 := { h with good := hs }
end Go.Proofs.YtlmdbcgceijlnaaGreatDoor
/-
  The keyboard's small functions.
-/
namespace Go.Proofs.YtlmdbcgceijlnaaGreatDoor
open Go Go.AL Go.Sp
variable {σ : Store} {k q r b : Nat} {n : Int} {B : Bd}

def refE (lock : Int) : Int := if lock = 3 then 14 else if lock = 4 then 7 else 13
def resetB (B : Bd) : Bd := { B with lock := if B.lock = 1 then 1 else 0, ins := false }
theorem NxP.base {σ : Store} {q r k : Nat} {s : Sp} {X : List AV} {x y : Option Nat} (h : NxP ((putS spO σ q r s).upd k X) x y) : NxP σ x y := by
  rcases h with h | ⟨g, h1, h2⟩
  · exact .inl h
  · exact .inr ⟨g, h1, by simpa [putS] using h2⟩
theorem NxP.of {σ σ1 : Store} {x y : Option Nat} (h : NxP σ1 x y) (hm : ∀ g : Nat, σ1 (mkey g) = σ (mkey g)) : NxP σ x y := by
  rcases h with h | ⟨g, h1, h2⟩
  · exact .inl h
  · exact .inr ⟨g, h1, by rw [← hm]; exact h2⟩
/-- A place that is free in a store with a board is free of all. -/
structure Free (σ : Store) (k q r b z : Nat) : Prop where
  k : ¬ z = k
  q : ¬ z = q
  r : ¬ z = r
  b : ¬ z = b
  free : σ z = none
theorem Free.at {z : Nat} (f : Free σ k q r b z) (x : Option Nat) (B : Bd) : (kS σ k q r b n x B) z = none := by
  unfold kS
  rw [pgS_other f.b]
  simp [putS, f.k, f.q, f.r, f.free]
theorem kS_new {z : Nat} (f : Free σ k q r b z) (x : Option Nat) (B : Bd) (X : List AV) : (kS σ k q r b n x B).upd z X = kS (σ.upd z X) k q r b n x B := by
  unfold kS putS
  rw [pgS_upd f.b]
  congr 1
  refine Store.ext2 (fun o => ?_) (fun i => by simp)
  simp only [supd_apply]
  by_cases h1 : o = z
  · subst h1; simp [f.k, f.q, f.r]
  · simp [h1]
theorem Free.ok {z : Nat} (f : Free σ k q r b z) (h : KOk σ k q r b n B) (X : List AV) : KOk (σ.upd z X) k q r b n B := { h with none := by have := f.r; simp [Ne.symm this, h.none] }
theorem Free.drop {z : Nat} (f : Free σ k q r b z) (x : Option Nat) (B : Bd) (X : List AV) : Store.sub (kS σ k q r b n x B) (kS (σ.upd z X) k q r b n x B) := by
  rw [← kS_new f]
  exact Store.sub_upd (f.at x B) (Store.sub_refl _)
end Go.Proofs.YtlmdbcgceijlnaaGreatDoor
/-
  A code is entered at the cursor.
-/
namespace Go.Proofs.YtlmdbcgceijlnaaGreatDoor
open Go Go.AL Go.Sp
variable {σ : Store} {k q r b : Nat} {n : Int} {B : Bd}

def fofF (s : Sp) (n : Nat) : Fld := if 0 ≤ startS s.cells n then fldAt s (startS s.cells n).toNat else ⟨false, false, 0, false⟩
def okF (s : Sp) (n : Nat) : Bool := decide (0 ≤ startS s.cells n)
theorem fofF_calls {s : Sp} (h : Prg σ q r s) {n : Nat} (hn : n < s.n) : ACalls Tryz.prog 65 [ptrA q, .lit (.int .i64 n)] σ fun v σ' => v = .tuple [.agg [.lit (.bool (fofF s n).prot), .lit (.bool (fofF s n).num), .lit (.int .i64 (fofF s n).disp), .lit (.bool (fofF s n).mod)], .lit (.bool (okF s n))] ∧ σ' = σ := by
  have := fof_calls h hn
  unfold fofF okF
  by_cases h0 : 0 ≤ startS s.cells n
  · simp only [if_pos h0] at this ⊢; exact this
  · simp only [if_neg h0] at this ⊢; exact this
def cellE (c : Cell) (b : UInt8) : Cell := { c with char := b, set := 0 }
def setE (s : Sp) (n : Nat) (c : UInt8) : Sp := s.set n (cellE (s.at n) c)
def entS (s : Sp) (n : Nat) (c : UInt8) : Sp := if c = 28 then tabS (modS (setE s n c) n) else afterS (modS (setE s n c) n)
def enterB (n : Int) (B : Bd) (c : UInt8) : Bd × Int :=
  if openS B.s B.s.cursor = false then ({ B with lock := 2 }, 13)
  else if (okF B.s B.s.cursor && (fofF B.s B.s.cursor).num && !(numB n c)) = true then ({ B with lock := 3 }, 14)
  else if (B.ins && !(c == 28)) = true then
    (if (insS B.s B.s.cursor c).2 = false then ({ B with lock := 4 }, 7) else ({ B with s := entS (insS B.s B.s.cursor c).1 B.s.cursor c }, 0))
  else ({ B with s := entS B.s B.s.cursor c }, 0)
end Go.Proofs.YtlmdbcgceijlnaaGreatDoor
/-
  A sign is typed; a field is chosen.
-/
namespace Go.Proofs.YtlmdbcgceijlnaaGreatDoor
open Go Go.AL Go.Sp
variable {σ : Store} {k q r b : Nat} {n : Int} {B : Bd}

def codeU (n s : Int) : UInt8 := UInt8.ofNat ((codeIx n s).getD 0)
def charB (n : Int) (B : Bd) (sg : Int) : Bd × Int := if ((codeIx n sg).isSome && dataB (codeU n sg)) = true then enterB n B (codeU n sg) else (B, 12)
def chooseB (n : Int) (B : Bd) : Bd × Bool × Int :=
  if (!okF B.s B.s.cursor || (B.s.at (B.s.cursor : Nat)).attr || !detB (fofF B.s B.s.cursor)) = true then ({ B with lock := 2 }, false, 13)
  else
    let a : Int := startS B.s.cells B.s.cursor
    let d := desigN n (B.s.at (a + 1)).char
    if d = 0 ∨ d < 3 ∧ (fofF B.s B.s.cursor).prot = true then ({ B with lock := 2 }, false, 13)
    else if d = 1 then ({ B with s := modS (B.s.put (a + 1) (codeU n 62)) B.s.cursor }, false, 0)
    else if d = 2 then ({ B with s := B.s.put (a + 1) (codeU n 63) }, false, 0)
    else ({ B with s := modS B.s B.s.cursor, lock := 1, ins := false, aid := if d = 3 then 126 else 125 }, true, 0)
end Go.Proofs.YtlmdbcgceijlnaaGreatDoor
/-
  A field is chosen: the walk.
-/
namespace Go.Proofs.YtlmdbcgceijlnaaGreatDoor
open Go Go.AL Go.Sp
variable {σ : Store} {k q r b : Nat} {n : Int} {B : Bd}

theorem start_lt {s : Sp} (h : s.good) {n : Nat} (hn : n < s.n) (ho : okF s n = true) : ∃ a, startS s.cells n = (a : Nat) ∧ a < s.n := by
  unfold okF at ho
  simp at ho
  by_cases hc : s.count = 0
  · rw [startS_none hc] at ho; omega
  · obtain ⟨h1, h2⟩ := startS_at h hn hc
    exact ⟨(startS s.cells n).toNat, by omega, h2⟩
end Go.Proofs.YtlmdbcgceijlnaaGreatDoor
