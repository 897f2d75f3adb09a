/-
  Join and Itoa as abstract states.
-/
import Derived.Test.YtkggdohfcmiakaaGreatDoorSPart19
set_option linter.unusedSimpArgs false
set_option linter.unusedVariables false
namespace Go.Proofs.YtkggdohfcmiakaaGreatDoor
open Go Go.AL Go.RowKit
theorem args2 {cargs : Array Value} (h : 2 = cargs.size) : ∃ c0 c1, cargs = #[c0, c1] := ⟨cargs[0], cargs[1], by
  apply Array.ext
  · simp [← h]
  · intro i h1 h2
    match i with
    | 0 => rfl
    | 1 => rfl
    | _ + 2 => simp at h2; omega⟩

theorem below_WR {D : Nat → Prop} {G : Ghost} {σ : Store} {w w' : World} (hW : WR D G σ w) (hD : ∀ k, w.heap.size ≤ k → D k) (h : Below w.heap.size w w') : WR D G σ w' ∧ Ext D G w G w' := by
  obtain ⟨h1, h2, h3, h4, h5⟩ := h
  refine ⟨hW.grow h5 fun k hd _ => hd, ⟨h1, h2, h3, h4, fun _ _ _ h => h, fun k hk => ⟨?_, rfl, rfl⟩⟩⟩
  rcases Nat.lt_or_ge k w.heap.size with hlt | hge
  · exact h5 k hlt
  · exact absurd (hD k hge) hk
theorem grow_below (w : World) (k : Nat) (os : Array Obj) : Below w.heap.size w (Go.Sort.grow (w.drewN k) os) := by
  refine ⟨rfl, rfl, rfl, ?_, fun i hi => ?_⟩
  · simp [Go.Sort.grow, World.drewN]
  · simp only [Go.Sort.grow, World.drewN]
    rw [Array.getElem?_append_left hi]
theorem tab0 {D : Nat → Prop} {G : Ghost} {σ : Store} {w : World} (hW : WR D G σ w) : Lib.TabIs Tryz.prog w "internal/strconv.uint64pow10" .u64 Lib.pow10Tab := by
  obtain ⟨_, T, fz, h⟩ := hW.vars 2 pow10A rfl
  unfold Lib.TabIs World.var?
  rw [show Tryz.prog.globalNamed "internal/strconv.uint64pow10" = some 2 by kernel_rfl]
  simp [h, pow10A]
theorem itoaZ_calls (n : Int) (h0 : -9223372036854775808 ≤ n) (h1 : n ≤ 9223372036854775807) (σ : Store) : ACalls Tryz.prog 20 [.lit (.int .i64 n)] σ fun v σ' => v = .lit (.string (toB (Lib.itoa n))) ∧ σ' = σ := by
  intro D G w cargs hl hargs hW hfresh
  obtain ⟨c0, rfl⟩ := args1 (by simpa using hl)
  have e0 := (hargs 0 _ c0 rfl rfl).1.lit_eq rfl
  subst e0
  refine (itoa_run n h0 h1 w (tab0 hW)).mono ?_
  rintro e w' ⟨rfl, k, os, rfl⟩
  obtain ⟨r1, r2⟩ := below_WR hW hfresh (grow_below w k os)
  exact ⟨_, _, G, _, rfl, ⟨rfl, rfl⟩, .lit _, OwnAt.of_plain rfl, r1, r2⟩
theorem flat_strs (l : List (List UInt8)) : flat (strsA l) = strsA l := by
  induction l with
  | nil => rfl
  | cons a l ih => simp only [flat, strsA, List.map_cons, List.flatMap_cons] at ih ⊢; rw [ih]; rfl
theorem join_calls (own : Bool) (l : List (List UInt8)) (sep : List UInt8) (hN : l.length ≤ 140737488355328) (hlen : (Lib.join l sep).length ≤ 140737488355328) (σ : Store) :
    ACalls Tryz.prog 18 [.list own 1 (strsA l), .lit (.string (toB sep))] σ fun v σ' => v = .lit (.string (toB (Lib.join l sep))) ∧ σ' = σ := by
  intro D G w cargs hl hargs hW hfresh
  obtain ⟨c0, c1, rfl⟩ := args2 (by simpa using hl)
  have hv := (hargs 0 _ c0 rfl rfl).1
  have e1 := (hargs 1 _ c1 rfl rfl).1.lit_eq rfl
  subst e1
  have fin0 : ∀ (e : Ending) (w' : World), (e = .returned (.string ⟨#[]⟩) ∧ w' = w) → l = [] → ∃ v cv G' σ', e = .returned cv ∧ (v = .lit (.string (toB (Lib.join l sep))) ∧ σ' = σ) ∧ VR G'.F v cv ∧ OwnAt G' D .acc v cv ∧ WR D G' σ' w' ∧ Ext D G w G' w' := by
    rintro e w' ⟨rfl, rfl⟩ rfl
    exact ⟨_, _, G, _, rfl, ⟨rfl, rfl⟩, .lit _, OwnAt.of_plain rfl, hW, Ext.refl ..⟩
  generalize hL : AV.list own 1 (strsA l) = L at hv
  cases hv with
  | nil o s =>
    have : l = [] := by injection hL with _ _ h; simpa [strsA] using h
    exact (join_none_run none 0 (toB sep) w).mono fun e w' h => fin0 e w' h this
  | void s a =>
    have : l = [] := by injection hL with _ _ h; simpa [strsA] using h
    exact (join_none_run (some a) 0 (toB sep) w).mono fun e w' h => fin0 e w' h this
  | top => cases hL
  | lit => cases hL
  | fptr => cases hL
  | func => cases hL
  | iface => cases hL
  | agg => cases hL
  | tuple => cases hL
  | row => cases hL
  | list o s vs g off n cap us hn hc hw hul hF hvr =>
    injection hL with _ _ h3
    subst h3
    have hnl : n = l.length := by simpa [strsA] using hn
    subst hnl
    rw [flat_strs] at hul hvr
    have hul' : us.length = l.length := by simpa [strsA] using hul
    have hu : ∀ j x, (l.map toB)[j]? = some x → us[j]? = some (Value.string x) := fun j x hj => by
      have hjl : j < l.length := by have := (List.getElem?_eq_some_iff.1 hj).1; simpa using this
      have hus : us[j]? = some (us[j]'(by omega)) := List.getElem?_eq_getElem _
      have h2 := hvr j (.lit (.string x)) _ (by
        rw [List.getElem?_map] at hj
        cases e : l[j]? with
        | none => rw [e] at hj; cases hj
        | some y =>
          rw [e] at hj
          simp only [Option.map_some, Option.some.injEq] at hj
          simp [strsA, e, hj]) hus
      rw [hus, h2.lit_eq rfl]
    have hcells : ∀ (j : Nat) x, (l.map toB)[j]? = some x → w.cell? ⟨g, off + j, none⟩ = some (.string x) := fun j x hj => by
      obtain ⟨cur, e, fz, q1, q2⟩ := hW.frz _ _ _ (hF j _ (hu j x hj)).1
      simp [World.cell?, q1, q2]
    by_cases hl0 : l = []
    · subst hl0
      exact (join_none_run (some ⟨g, off, none⟩) cap (toB sep) w).mono fun e w' h => fin0 e w' h rfl
    · have hg : g < w.heap.size := by
        obtain ⟨x, hx⟩ : ∃ x, (l.map toB)[0]? = some x := by
          cases l with
          | nil => exact absurd rfl hl0
          | cons a b => exact ⟨_, rfl⟩
        obtain ⟨cur, e, fz, q1, q2⟩ := hW.frz _ _ _ (hF 0 _ (hu 0 x hx)).1
        exact (Array.getElem?_eq_some_iff.1 q1).1
      have e2 : (l.map toB).map (·.data.toList) = l := by
        rw [List.map_map]
        exact (List.map_congr_left fun a _ => by simp [toB]).trans (List.map_id l)
      have e3 : (toB sep).data.toList = sep := by simp [toB]
      have hr := join_run g off cap (l.map toB) (toB sep) w hcells hg (by simpa using hN) (by simpa using hc) (by rw [e2, e3]; exact hlen)
      rw [e2, e3, List.length_map] at hr
      refine hr.mono ?_
      rintro e w' ⟨rfl, hb⟩
      obtain ⟨r1, r2⟩ := below_WR hW hfresh hb
      exact ⟨_, _, G, _, rfl, ⟨rfl, rfl⟩, .lit _, OwnAt.of_plain rfl, r1, r2⟩
end Go.Proofs.YtkggdohfcmiakaaGreatDoor
/-
  The document's keys that send.
-/
namespace Go.Proofs.YtkggdohfcmiakaaGreatDoor
open Go Go.AL Go.Sp
variable {σ : Store} {n : Int}

def aidsL : List UInt8 := [102, 49, 102, 50, 102, 51, 102, 52, 102, 53, 102, 54, 102, 55, 102, 56, 102, 57, 55, 97, 55, 98, 55, 99, 99, 49, 99, 50, 99, 51, 99, 52, 99, 53, 99, 54, 99, 55, 99, 56, 99, 57, 52, 97, 52, 98, 52, 99, 54, 99, 54, 101, 54, 98]
def aidT : List Nat := pfT ++ paT
theorem aids_len : aidsL.length = 54 := by decide
theorem aids_at : ∀ i : Fin 27, numL ((aidsL.drop (2 * i.val)).take 2) = aidT.getD i.val 0 := by decide +kernel
theorem aidT_lt : ∀ i : Fin 27, aidT.getD i.val 0 < 256 := by decide +kernel
theorem mk_aids (a : Array UInt8) (h : a = aidsL.toArray) : ByteArray.mk a = toB aidsL := by rw [h]; rfl
set_option maxRecDepth 8000 in
theorem rat27_calls (i : Nat) (hi : i < 27) (σ : Store) : ACalls Tryz.prog 51 [.lit (.int .i64 i)] σ fun v σ' => v = .lit (.int .u8 (aidT.getD i 0 : Nat)) ∧ σ' = σ := by
  obtain ⟨p1, p2⟩ := numS_part aidsL (2 * i) 2 (by rw [aids_len]; omega)
  have ha := aids_at ⟨i, hi⟩
  have hlt := aidT_lt ⟨i, hi⟩
  dsimp only at ha hlt
  have hn1 := nums_calls ((toB aidsL).extract (2 * i) (2 * i + 2)) (by rw [p1]; omega) σ
  rw [p2, ha] at hn1
  have hw2 : IntKind.i64.wrap (2 * (i : Int)) = 2 * (i : Int) := wrap_i64 (by omega) (by omega)
  have hw4 : IntKind.i64.wrap (2 * (i : Int) + 2) = 2 * (i : Int) + 2 := wrap_i64 (by omega) (by omega)
  have hsB := toB_size aidsL
  rw [aids_len] at hsB
  have g0 : (0 : Int) ≤ 2 * (i : Int) := by omega
  have g4 : (0 : Int) ≤ 2 * (i : Int) + 2 := by omega
  have t0 : (2 * (i : Int)).toNat = 2 * i := by omega
  have t4 : (2 * (i : Int) + 2).toNat = 2 * i + 2 := by omega
  have l4 : 2 * i ≤ 2 * i + 2 ∧ 2 * i + 2 ≤ (toB aidsL).size := by omega
  have hwi : IntKind.u8.wrap ((aidT.getD i 0 : Nat) : Int) = (aidT.getD i 0 : Nat) := wrap_u8 (by omega) (by omega)
  generalize aidT.getD i 0 = w at *
  refine ACalls.of_awp follows (st := st51) (plans := pl51) (n := 11) Tryz.func51 rfl (by kernel_rfl) (by kernel_rfl) (by kernel_rfl) ?_
  simp [hw2, hw4]
  rw [mk_aids]
  rotate_left
  · kernel_rfl
  rw [if_pos g0, if_pos g4, t0, t4]
  dsimp only
  rw [if_pos l4]
  simp
  refine callK.of hn1 ?_
  rintro v τ ⟨rfl, eτ⟩
  rw [eτ]
  simp [hwi]
end Go.Proofs.YtkggdohfcmiakaaGreatDoor
/-
  The names of the keys that send: the program's, the document's; nothing of no keyboard.
-/
namespace Go.Proofs.YtkggdohfcmiakaaGreatDoor
open Go Go.AL Go.Sp
variable {σ : Store}

def pfB : List UInt8 := [241, 242, 243, 244, 245, 246, 247, 248, 249, 122, 123, 124, 193, 194, 195, 196, 197, 198, 199, 200, 201, 74, 75, 76]
def paB : List UInt8 := [108, 110, 107]
def tailL (a : UInt8) : List UInt8 :=
  if a = 125 then [69, 110, 116, 101, 114] else if a = 109 then [67, 108, 101, 97, 114] else if a = 126 then [83, 101, 108, 101, 99, 116] else if a = 96 then [78, 111, 110, 101] else []
def nameL (a : UInt8) : List UInt8 :=
  if a = 125 ∨ a = 109 ∨ a = 126 ∨ a = 96 then tailL a else if 0 < plcN pfB a then [80, 70] ++ decL (plcN pfB a) else if 0 < plcN paB a then [80, 65] ++ decL (plcN paB a) else []
def shortB (a : UInt8) : Bool := a = 109 ∨ a = 108 ∨ a = 110 ∨ a = 107
theorem u8_all {p : UInt8 → Prop} (h : ∀ i : Fin 256, p (UInt8.ofNat i.val)) (a : UInt8) : p a := by
  have := h ⟨a.toNat, a.toNat_lt⟩
  simpa using this
theorem plc_pf : ∀ i : Fin 256, plcN pfB (UInt8.ofNat i.val) ≤ 24 := by decide +kernel
theorem plc_pa : ∀ i : Fin 256, plcN paB (UInt8.ofNat i.val) ≤ 3 := by decide +kernel
theorem name_at : ∀ i : Fin 27, nameL (UInt8.ofNat (aidT.getD i.val 0)) = if i.val < 24 then [80, 70] ++ decL (i.val + 1) else [80, 65] ++ decL (i.val - 23) := by decide +kernel
theorem name_out : ∀ i : Fin 256, (∀ j : Fin 27, aidT.getD j.val 0 ≠ i.val) → nameL (UInt8.ofNat i.val) = tailL (UInt8.ofNat i.val) := by decide +kernel
theorem pf_room (L : List UInt8) (hL : L.length ≤ 10) (n : Nat) : ¬ (9223372036854775807 : Int) < ((toB L).size : Int) + ((toB (decL n)).size : Int) := by
  have h2 := decL_len n
  rw [toB_size, toB_size]; omega
theorem place_pf (a : UInt8) (σ : Store) : ACalls Tryz.prog 49 [.lit (.string ⟨#[241, 242, 243, 244, 245, 246, 247, 248, 249, 122, 123, 124, 193, 194, 195, 196, 197, 198, 199, 200, 201, 74, 75, 76]⟩), byteA a] σ fun v σ' => v = .lit (.int .i64 (plcN pfB a : Nat)) ∧ σ' = σ :=
  keyplc_calls pfB (by decide) a σ
theorem place_pa (a : UInt8) (σ : Store) : ACalls Tryz.prog 49 [.lit (.string ⟨#[108, 110, 107]⟩), byteA a] σ fun v σ' => v = .lit (.int .i64 (plcN paB a : Nat)) ∧ σ' = σ :=
  keyplc_calls paB (by decide) a σ
theorem toB_mk (L : List UInt8) : ByteArray.mk L.toArray = toB L := rfl
set_option maxRecDepth 8000 in
theorem name_calls (a : UInt8) (σ : Store) : ACalls Tryz.prog 19 [byteA a] σ fun v σ' => v = .lit (.string (toB (nameL a))) ∧ σ' = σ := by
  have hp := place_pf a σ
  have hq := place_pa a σ
  have l1 := u8_all (p := fun a => plcN pfB a ≤ 24) plc_pf a
  have l2 := u8_all (p := fun a => plcN paB a ≤ 3) plc_pa a
  have i1 := itoa_calls (n := plcN pfB a) (by omega) σ
  have i2 := itoa_calls (n := plcN paB a) (by omega) σ
  have r1 := pf_room [80, 70] (by decide) (plcN pfB a)
  have r2 := pf_room [80, 65] (by decide) (plcN paB a)
  have e : ∀ (m : Nat), (a.toNat : Int) = m ↔ a.toNat = m := fun m => by omega
  unfold nameL tailL
  refine ACalls.of_awp follows (st := st19) (plans := pl19) (n := 28) Tryz.func19 rfl (by kernel_rfl) (by kernel_rfl) (by kernel_rfl) ?_
  by_cases c1 : a = 125
  · subst c1; simp [byteA]; exact AV.le_refl _
  by_cases c2 : a = 109
  · subst c2; simp [byteA]; exact AV.le_refl _
  by_cases c3 : a = 126
  · subst c3; simp [byteA]; exact AV.le_refl _
  by_cases c4 : a = 96
  · subst c4; simp [byteA]; exact AV.le_refl _
  have k1 : ¬ (a.toNat : Int) = 125 := fun h => c1 (UInt8.toNat_inj.1 (by show a.toNat = 125; omega))
  have k2 : ¬ (a.toNat : Int) = 109 := fun h => c2 (UInt8.toNat_inj.1 (by show a.toNat = 109; omega))
  have k3 : ¬ (a.toNat : Int) = 126 := fun h => c3 (UInt8.toNat_inj.1 (by show a.toNat = 126; omega))
  have k4 : ¬ (a.toNat : Int) = 96 := fun h => c4 (UInt8.toNat_inj.1 (by show a.toNat = 96; omega))
  rw [if_neg (by simp [c1, c2, c3, c4])]
  unfold byteA at *
  simp [k1, k2, k3, k4]
  refine callK.eq hp ?_
  generalize plcN pfB a = x at *
  generalize plcN paB a = y at *
  rw [← toB_mk] at r1 r2
  by_cases hx : 0 < x
  · simp [hx]
    refine callK.eq i1 ?_
    simp [r1]
    rw [show (⟨#[80, 70]⟩ : ByteArray) ++ toB (decL x) = toB (80 :: 70 :: decL x) from toB_append [80, 70] _]
    exact AV.le_refl _
  · simp [hx]
    refine callK.eq hq ?_
    by_cases hy : 0 < y
    · simp [hy]
      refine callK.eq i2 ?_
      simp [r2]
      rw [show (⟨#[80, 65]⟩ : ByteArray) ++ toB (decL y) = toB (80 :: 65 :: decL y) from toB_append [80, 65] _]
      exact AV.le_refl _
    · simp [hy]
      exact AV.le_refl _
set_option maxRecDepth 8000 in
theorem rname_calls (a : UInt8) (σ : Store) : ACalls Tryz.prog 21 [byteA a] σ fun v σ' => v = .lit (.string (toB (nameL a))) ∧ σ' = σ := by
  have h27 := fun τ i hi => rat27_calls i hi τ
  have hd := fun i hi τ => rdec_calls (n := i) hi τ
  have hout : (∀ j : Fin 27, aidT.getD j.val 0 ≠ a.toNat) → nameL a = tailL a := by
    have := name_out ⟨a.toNat, a.toNat_lt⟩
    simpa using this
  have hat : ∀ i, i < 27 → (aidT.getD i 0) = a.toNat → nameL a = if i < 24 then [80, 70] ++ decL (i + 1) else [80, 65] ++ decL (i - 23) := fun i hi e => by
    have := name_at ⟨i, hi⟩
    dsimp only at this
    rw [e] at this
    simpa using this
  refine ACalls.of_awp follows (st := st21) (plans := pl21) (n := 37) Tryz.func21 rfl (by kernel_rfl) (by kernel_rfl) (by kernel_rfl) ?_
  simp [byteA]
  refine codeK.loop follows (st := st21) (plans := pl21) (X := Nat) (fun i => i ≤ 27 ∧ ∀ j, j < i → aidT.getD j 0 ≠ a.toNat)
    (fun i => [(0, byteA a), (3, .lit (.int .i64 i))]) (fun _ => σ) (fun i => 27 - i) 0 (by kernel_rfl) (by simp) (by simp [byteA]) (Store.sub_refl _) fun i hi => ?_
  obtain ⟨hi1, hi2⟩ := hi
  by_cases hlt : i < 27
  · have hw1 : IntKind.i64.wrap ((i : Int) + 1) = (i : Int) + 1 := wrap_i64 (by omega) (by omega)
    have hw2 : IntKind.i64.wrap ((i : Int) - 23) = (i : Int) - 23 := wrap_i64 (by omega) (by omega)
    have hc := h27 σ i hlt
    have hA := hat i hlt
    have hlt' : (i : Int) < 27 := by omega
    have hnx : aidT.getD i 0 ≠ a.toNat → ∀ j, j < i + 1 → aidT.getD j 0 ≠ a.toNat := fun h j hj => by
      rcases Nat.lt_or_ge j i with h1 | h1
      · exact hi2 j h1
      · rw [show j = i from by omega]; exact h
    generalize hT : aidT.getD i 0 = w at *
    simp [byteA, hlt, hlt']
    refine callK.eq hc ?_
    by_cases he : w = a.toNat
    · have hA' := hA he
      by_cases h24 : i < 24
      · have h24' : (i : Int) < 24 := by omega
        rw [if_pos h24] at hA'
        have hdc := hd (i + 1) (by omega) σ
        have r1 := pf_room [80, 70] (by decide) (i + 1)
        rw [← toB_mk] at r1
        rw [show ((i + 1 : Nat) : Int) = (i : Int) + 1 from by omega] at hdc
        rw [hA']
        simp [he, h24, h24', hw1]
        refine callK.eq hdc ?_
        simp [r1]
        rw [show (⟨#[80, 70]⟩ : ByteArray) ++ toB (decL (i + 1)) = toB (80 :: 70 :: decL (i + 1)) from toB_append [80, 70] _]
        exact AV.le_refl _
      · have h24' : ¬ (i : Int) < 24 := by omega
        rw [if_neg h24] at hA'
        have hdc := hd (i - 23) (by omega) σ
        have r1 := pf_room [80, 65] (by decide) (i - 23)
        rw [← toB_mk] at r1
        rw [show ((i - 23 : Nat) : Int) = (i : Int) - 23 from by omega] at hdc
        rw [hA']
        simp [he, h24, h24']
        refine callK.eq (h27 σ i hlt) ?_
        rw [hT]
        simp [he, hw2]
        refine callK.eq hdc ?_
        simp [r1]
        rw [show (⟨#[80, 65]⟩ : ByteArray) ++ toB (decL (i - 23)) = toB (80 :: 65 :: decL (i - 23)) from toB_append [80, 65] _]
        exact AV.le_refl _
    · have he' : ¬ (w : Int) = (a.toNat : Int) := by omega
      simp [he, he']
      refine callK.eq (h27 σ i hlt) ?_
      rw [hT]
      simp [he, he', hw1]
      exact ⟨i + 1, ⟨by omega, hnx he⟩, by omega, by simp⟩
  · obtain rfl : i = 27 := by omega
    rw [hout fun j => hi2 j.val j.isLt]
    unfold tailL
    simp [byteA]
    by_cases c1 : a = 125
    · subst c1; simp; exact AV.le_refl _
    by_cases c2 : a = 109
    · subst c2; simp; exact AV.le_refl _
    by_cases c3 : a = 126
    · subst c3; simp; exact AV.le_refl _
    by_cases c4 : a = 96
    · subst c4; simp; exact AV.le_refl _
    have k1 : ¬ (a.toNat : Int) = 125 := fun h => c1 (UInt8.toNat_inj.1 (by show a.toNat = 125; omega))
    have k2 : ¬ (a.toNat : Int) = 109 := fun h => c2 (UInt8.toNat_inj.1 (by show a.toNat = 109; omega))
    have k3 : ¬ (a.toNat : Int) = 126 := fun h => c3 (UInt8.toNat_inj.1 (by show a.toNat = 126; omega))
    have k4 : ¬ (a.toNat : Int) = 96 := fun h => c4 (UInt8.toNat_inj.1 (by show a.toNat = 96; omega))
    simp [k1, k2, k3, k4, c1, c2, c3, c4]
    exact AV.le_refl _
end Go.Proofs.YtkggdohfcmiakaaGreatDoor
/-
  The document's decimal numbers, of any size.
-/
namespace Go.Proofs.YtkggdohfcmiakaaGreatDoor
open Go Go.AL Go.Sp

theorem toB_app (l m : List UInt8) : toB l ++ toB m = toB (l ++ m) := by
  apply ByteArray.ext
  simp [toB]
theorem bt1 (a : UInt8) : (⟨#[a]⟩ : ByteArray) = toB [a] := by rfl
theorem itoa_nat (n : Nat) : Lib.itoa (n : Int) = Lib.decDigits n := by
  unfold Lib.itoa
  rw [if_neg (by omega)]
  simp
theorem itoa_neg (m : Nat) (h : 0 < m) : Lib.itoa (-(m : Int)) = 45 :: Lib.decDigits m := by
  unfold Lib.itoa
  rw [if_pos (by omega)]
  simp
theorem dec_small {n : Nat} (h : n < 10) : Lib.decDigits n = decL n := by
  rw [Lib.decDigits, dif_pos h]
  unfold decL
  rw [if_pos h]
theorem dec_big {n : Nat} (h : ¬ n < 10) : Lib.decDigits n = Lib.decDigits (n / 10) ++ Lib.decDigits (n % 10) := by
  rw [Lib.decDigits, dif_neg h]
  congr 1
  rw [Lib.decDigits, dif_pos (Nat.mod_lt _ (by omega))]
theorem dec_len : ∀ (k n : Nat), n < 10 ^ (k + 1) → (Lib.decDigits n).length ≤ k + 1
  | 0, n, h => by rw [Lib.decDigits, dif_pos (by simpa using h)]; simp
  | k + 1, n, h => by
    by_cases h10 : n < 10
    · rw [Lib.decDigits, dif_pos h10]; simp
    · rw [dec_big h10, List.length_append]
      have h1 := dec_len k (n / 10) (by rw [Nat.pow_succ] at h; omega)
      have h2 := dec_len 0 (n % 10) (by simpa using Nat.mod_lt n (by omega : 0 < 10))
      omega
theorem dec_le (n : Nat) (h : n ≤ 9223372036854775808) : (Lib.decDigits n).length ≤ 20 := dec_len 19 n (by omega)
set_option maxRecDepth 8000 in
theorem rdecA_calls : ∀ (f n : Nat), n < 10 ^ f → n ≤ 9223372036854775807 → ∀ (σ : Store), ACalls Tryz.prog 22 [.lit (.int .i64 n)] σ fun v σ' => v = .lit (.string (toB (Lib.decDigits n))) ∧ σ' = σ
  | 0, n, h, _, σ => by
    obtain rfl : n = 0 := by simpa using h
    rw [dec_small (by omega)]
    exact rdec10_calls (n := 0) (by omega) σ
  | f + 1, n, h, hb, σ => by
    by_cases h10 : n < 10
    · rw [dec_small h10]
      exact rdec10_calls h10 σ
    have q1 : n / 10 < 10 ^ f := by rw [Nat.pow_succ] at h; omega
    have i1 := rdecA_calls f (n / 10) q1 (by omega) σ
    have i2 := rdec10_calls (n := n % 10) (Nat.mod_lt _ (by omega)) σ
    rw [← dec_small (Nat.mod_lt _ (by omega))] at i2
    have g1 : (n : Int).tdiv 10 = ((n / 10 : Nat) : Int) := rfl
    have g2 : (n : Int).tmod 10 = ((n % 10 : Nat) : Int) := rfl
    have h10' : ¬ (n : Int) < 10 := by omega
    have h0 : ¬ (n : Int) < 0 := by omega
    have l1 := dec_le (n / 10) (by omega)
    have l2 := dec_le (n % 10) (by omega)
    rw [dec_big h10]
    have w1 : IntKind.i64.wrap ((n : Int).tdiv 10) = ((n / 10 : Nat) : Int) := by rw [g1]; exact wrap_i64 (by omega) (by omega)
    have w2 : IntKind.i64.wrap ((n / 10 : Nat) : Int) = ((n / 10 : Nat) : Int) := wrap_i64 (by omega) (by omega)
    have w3 : IntKind.i64.wrap ((n % 10 : Nat) : Int) = ((n % 10 : Nat) : Int) := wrap_i64 (by omega) (by omega)
    generalize Lib.decDigits (n / 10) = d1 at *
    generalize Lib.decDigits (n % 10) = d2 at *
    generalize n / 10 = a at *
    generalize n % 10 = b at *
    have hz1 : (toB d1).size = d1.length := toB_size _
    have hz2 : (toB d2).size = d2.length := toB_size _
    have hno : ¬ (9223372036854775807 : Int) < (d1.length : Int) + (d2.length : Int) := by omega
    have hap := toB_app d1 d2
    refine ACalls.of_awp follows (st := st22) (plans := pl22) (n := 21) Tryz.func22 rfl (by kernel_rfl) (by kernel_rfl) (by kernel_rfl) ?_
    simp [h10, h10', h0, g1, g2, w1, w2, w3]
    refine callK.eq i1 ?_
    simp [h10, h10', h0, g1, g2, w1, w2, w3]
    refine callK.eq i2 ?_
    simp [hz1, hz2, hno, hap]
theorem rdecN_calls (n : Nat) (h : n ≤ 9223372036854775807) (σ : Store) : ACalls Tryz.prog 22 [.lit (.int .i64 n)] σ fun v σ' => v = .lit (.string (toB (Lib.decDigits n))) ∧ σ' = σ :=
  rdecA_calls 20 n (by omega) h σ
set_option maxRecDepth 8000 in
theorem rneg_calls (m : Nat) (hm : m ≤ 9223372036854775808) (σ : Store) : ACalls Tryz.prog 52 [.lit (.int .i64 (-(m : Int)))] σ fun v σ' => v = .lit (.string (toB (Lib.decDigits m))) ∧ σ' = σ := by
  have g1 : (-(m : Int)).tdiv 10 = -((m / 10 : Nat) : Int) := by rw [Int.neg_tdiv]; rfl
  have g2 : (-(m : Int)).tmod 10 = -((m % 10 : Nat) : Int) := by rw [Int.neg_tmod]; rfl
  have w1 : IntKind.i64.wrap (-((m / 10 : Nat) : Int)) = -((m / 10 : Nat) : Int) := wrap_i64 (by omega) (by omega)
  have w1' : IntKind.i64.wrap (((m / 10 : Nat) : Int)) = ((m / 10 : Nat) : Int) := wrap_i64 (by omega) (by omega)
  have w2 : IntKind.i64.wrap (-((m % 10 : Nat) : Int)) = -((m % 10 : Nat) : Int) := wrap_i64 (by omega) (by omega)
  have w2' : IntKind.i64.wrap (((m % 10 : Nat) : Int)) = ((m % 10 : Nat) : Int) := wrap_i64 (by omega) (by omega)
  have w3 : IntKind.i64.wrap (((m % 10 : Nat) : Int) + 1) = ((m % 10 : Nat) : Int) + 1 := wrap_i64 (by omega) (by omega)
  have hk : m % 10 < 10 := Nat.mod_lt _ (by omega)
  have hd := digs_at ⟨m % 10, hk⟩
  dsimp only at hd
  have hsl := aSlice_str (P := Tryz.prog) (t := 9) (by simp) (by simp) digsL (m % 10) (m % 10 + 1) ((m % 10 : Nat) : Int) (((m % 10 : Nat) : Int) + 1) rfl (by omega) (by omega) (by show m % 10 + 1 ≤ 10; omega)
  rw [show m % 10 + 1 - m % 10 = 1 from by omega, hd] at hsl
  have hc : (⟨#[48, 49, 50, 51, 52, 53, 54, 55, 56, 57]⟩ : ByteArray) = toB digsL := rfl
  have i1 := fun τ => rdecN_calls (m / 10) (by omega) τ
  by_cases h10 : m < 10
  · have e : m % 10 = m := Nat.mod_eq_of_lt h10
    rw [e] at g2 w2 w2' w3 hsl
    rw [dec_small h10]
    have hgt : (-10 : Int) < -(m : Int) := by omega
    refine ACalls.of_awp follows (st := st52) (plans := pl52) (n := 22) Tryz.func52 rfl (by kernel_rfl) (by kernel_rfl) (by kernel_rfl) ?_
    simp [-e_aSlice_1, -e_aSlice_2, hc, g2, w2, w2', w3, hsl, hgt, h10]
  · rw [dec_big h10, dec_small hk]
    have l1 := dec_le (m / 10) (by omega)
    have l2 := decL_len (m % 10)
    have hgt : ¬ (-10 : Int) < -(m : Int) := by omega
    generalize Lib.decDigits (m / 10) = d1 at *
    generalize decL (m % 10) = d2 at *
    generalize m / 10 = a at *
    generalize m % 10 = b at *
    have hno : ¬ (9223372036854775807 : Int) < (d1.length : Int) + (d2.length : Int) := by omega
    refine ACalls.of_awp follows (st := st52) (plans := pl52) (n := 22) Tryz.func52 rfl (by kernel_rfl) (by kernel_rfl) (by kernel_rfl) ?_
    simp [-e_aSlice_1, -e_aSlice_2, hc, g1, g2, w1, w1', w2, w2', w3, hsl, hgt]
    refine callK.eq (i1 _) ?_
    simp [toB_size, toB_app, hno]
set_option maxRecDepth 8000 in
theorem rdecZ_calls (n : Int) (h0 : -9223372036854775808 ≤ n) (h1 : n ≤ 9223372036854775807) (σ : Store) : ACalls Tryz.prog 22 [.lit (.int .i64 n)] σ fun v σ' => v = .lit (.string (toB (Lib.itoa n))) ∧ σ' = σ := by
  by_cases hn : n < 0
  · obtain ⟨m, rfl⟩ : ∃ m : Nat, n = -(m : Int) := ⟨(-n).toNat, by omega⟩
    rw [itoa_neg m (by omega)]
    have l1 := dec_le m (by omega)
    have i1 := fun τ => rneg_calls m (by omega) τ
    generalize Lib.decDigits m = d at *
    have hno : ¬ (9223372036854775807 : Int) < 1 + (d.length : Int) := by omega
    have hm : 0 < m := by omega
    refine ACalls.of_awp follows (st := st22) (plans := pl22) (n := 21) Tryz.func22 rfl (by kernel_rfl) (by kernel_rfl) (by kernel_rfl) ?_
    simp [hn, hm]
    refine callK.eq (i1 _) ?_
    simp [bt1, toB_size, toB_app, hno]
  · obtain ⟨m, rfl⟩ : ∃ m : Nat, n = (m : Int) := ⟨n.toNat, by omega⟩
    rw [itoa_nat]
    exact rdecN_calls m (by omega) σ
theorem itoa_len (n : Int) (h0 : -9223372036854775808 ≤ n) (h1 : n ≤ 9223372036854775807) : (Lib.itoa n).length ≤ 21 := by
  unfold Lib.itoa
  split
  · have := dec_le n.natAbs (by omega)
    simp; omega
  · have := dec_le n.toNat (by omega)
    omega
end Go.Proofs.YtkggdohfcmiakaaGreatDoor
