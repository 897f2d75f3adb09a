/-
  The abstract-state logic: rows by value: a slice literal, make, append.
-/
import Derived.Test.YtkfhpnfgnjmdbaaALEff
namespace Go.AL
open Go Go.RowKit Classical

/-- A new row, frozen up to there, is a list. -/
theorem newList {D : Nat → Prop} {n : Nat} {G : Ghost} {A : Slots} {σ : Store} {a : Act} {w : World} (h : Rel D n G A σ a w) (cur : Array Value) (e : TypeId) (sz : Nat) (vs : List AV) (cap : Nat)
    (hcap : cap * sz = cur.size) (hle : vs.length ≤ cap) (hmax : cap ≤ maxLen) (hw : ∀ v ∈ vs, v.cells.length = sz) (us : List Value) (hus : CellsR (VR G.F) (flat vs) us) (hcur : ∀ (i : Nat) (u : Value), us[i]? = some u → cur[i]? = some u) :
    ∃ G', Rel D n G' A σ a (w.alloc (.cells cur e)) ∧ VR G'.F (.list true sz vs) (.slice (some ⟨w.heap.size, 0, none⟩) vs.length cap) ∧ OwnAt G' D .acc (.list true sz vs) (.slice (some ⟨w.heap.size, 0, none⟩) vs.length cap) ∧
      Ext D G w G' (w.alloc (.cells cur e)) ∧ (∀ g i u, G.F g i = some u → G'.F g i = some u) := by
  have hD := h.fresh _ (Nat.le_refl w.heap.size)
  have hnoF : ∀ i, G.F w.heap.size i = none := fun i => by
    cases hF : G.F w.heap.size i with
    | none => rfl
    | some u => obtain ⟨c, e', fz, h1, _⟩ := h.world.frz _ i u hF; have := (Array.getElem?_eq_some_iff.1 h1).1; omega
  have hW1 := h.world.newRow cur e (.acc 0)
  have hS1 : (G.setS w.heap.size (0, cur.size, .acc 0)).S w.heap.size = some (0, cur.size, .acc 0) := by simp [Ghost.setS]
  have hW2 := hW1.freeze hS1 (by simp) (heap_alloc_new w (.cells cur e)) us (fun i u hu => by simpa using hcur i u hu) (.acc 0)
  generalize hG' : Ghost.setS ⟨Frz.put (G.setS w.heap.size (0, cur.size, .acc 0)).F w.heap.size 0 us, (G.setS w.heap.size (0, cur.size, .acc 0)).S⟩ w.heap.size (0 + us.length, cur.size, .acc 0) = G' at hW2
  have hGF : G'.F = Frz.put G.F w.heap.size 0 us := by subst hG'; rfl
  have hmono : ∀ g i u, G.F g i = some u → G'.F g i = some u := fun g i u hu => by
    rw [hGF]; exact Frz.put_mono (fun i _ => hnoF i) g i u hu
  have hGS : ∀ k, k ≠ w.heap.size → G'.S k = G.S k := fun k hk => by subst hG'; simp [Ghost.setS, hk]
  have hGS0 : G'.S w.heap.size = some (us.length, cur.size, .acc 0) := by subst hG'; simp [Ghost.setS]
  have hfl := flat_length hw
  refine ⟨G', h.step hmono (fun g m z i j hd hg => ?_) hW2 (by simp), ?_, ⟨hD, cur.size, ?_, ?_, hmax⟩, ⟨rfl, rfl, rfl, by simp, hmono, fun k hk => ?_⟩, hmono⟩
  · have : g ≠ w.heap.size := fun e => by
      subst e; obtain ⟨_, ⟨c, e', h2, _⟩, _⟩ := h.world.own _ _ _ _ hg; have := (Array.getElem?_eq_some_iff.1 h2).1; omega
    rw [hGS g this]; exact hg
  · refine .list true sz vs w.heap.size 0 _ cap us rfl hle hw hus.1.symm (fun i u hu => ⟨?_, hus.2.1 i u hu⟩) fun i c u hc hu => (hus.2.2 i c u hc hu).mono hmono
    rw [hGF]; exact Frz.put_at G.F w.heap.size 0 us i u hu
  · rw [hGS0, hus.1.symm, hfl]; simp
  · simp only [Nat.zero_add]; omega
  · have hne : k ≠ w.heap.size := fun e => hk (e ▸ hD)
    refine ⟨(Ext.alloc h.fresh G (.cells cur e)).block k hk |>.1, hGS k hne, ?_⟩
    rw [hGF]; exact Frz.put_other hne

/-! ### A slice literal -/
def setEls (P : Program) (e : TypeId) (s : Nat) (els : List AV) : List (Nat × AV) → Option (List AV)
  | [] => some els
  | (i, v) :: rest => if (conv P e v.share).share.solid = true ∧ (conv P e v.share).share.cells.length = s ∧ i < els.length then setEls P e s (els.set i (conv P e v.share).share) rest else none

def zeroEl (P : Program) (e : TypeId) : Option AV :=
  match tAgg P e, azero P e with
  | some b, some zs => (mkAV b zs).map AV.share
  | _, _ => none

def aBuildSlice (P : Program) (t : TypeId) (len : Nat) (parts : List (Nat × AV)) : Option AV :=
  match tElem P t with
  | some e => match tSize P e, zeroEl P e with
    | some s, some z => if len * s ≤ 16777216 ∧ 0 < s ∧ z.cells.length = s ∧ z.solid = true then (setEls P e s (List.replicate len z) parts).map (.list true s) else none
    | _, _ => none
  | none => none

theorem zeroCells_eq (z : List Value) (s n : Nat) (hs : z.length = s) : (List.range (n * s)).map (fun i => z[i % s]!) = (List.replicate n z).flatten := by
  induction n with
  | zero => simp
  | succ n ih =>
    rw [Nat.succ_mul, List.range_add, List.map_append, ih, List.replicate_succ', List.flatten_append]
    congr 1
    simp only [List.map_map, List.flatten_cons, List.flatten_nil, List.append_nil]
    apply List.ext_getElem
    · simp [hs]
    · intro i h1 h2
      simp at h1
      simp only [List.getElem_map, List.getElem_range, Function.comp]
      have : (n * s + i) % s = i := by rw [Nat.mul_comm, Nat.mul_add_mod]; exact Nat.mod_eq_of_lt h1
      rw [this, getElem!_pos z i h2]

theorem flat_set {els : List AV} {s : Nat} (hw : ∀ v ∈ els, v.cells.length = s) {i : Nat} (hi : i < els.length) {v : AV} (hv : v.cells.length = s) : flat (els.set i v) = setRange (flat els) (i * s) v.cells := by
  have hw' : ∀ x ∈ els.set i v, x.cells.length = s := fun x hx => by
    rcases List.mem_or_eq_of_mem_set hx with h | h
    · exact hw x h
    · rw [h, hv]
  have hl := flat_length hw
  have hl' := flat_length hw'
  rw [List.length_set] at hl'
  have hmul : (i + 1) * s ≤ els.length * s := Nat.mul_le_mul_right _ hi
  rw [Nat.succ_mul] at hmul
  apply List.ext_getElem?
  intro k
  rw [setRange_get _ _ _ _ (by omega)]
  by_cases hs : s = 0
  · subst hs
    rw [if_neg (by omega)]
    have e1 : flat els = [] := List.eq_nil_of_length_eq_zero (by simpa using hl)
    have e2 : flat (els.set i v) = [] := List.eq_nil_of_length_eq_zero (by simpa using hl')
    rw [e1, e2]
  have hs' : 0 < s := Nat.pos_of_ne_zero hs
  by_cases hk : k < els.length * s
  · have hq : k / s < els.length := Nat.div_lt_of_lt_mul (by rw [Nat.mul_comm]; exact hk)
    have hkm : k / s * s + k % s = k := Nat.div_add_mod' k s
    have hm : k % s < s := Nat.mod_lt _ hs'
    have get : ∀ (xs : List AV), (∀ x ∈ xs, x.cells.length = s) → ∀ x, xs[k / s]? = some x → (flat xs)[k]? = x.cells[k % s]? := fun xs hxs x hx => by
      have hxl : x.cells.length = s := hxs x (List.mem_of_getElem? hx)
      have hc : x.cells[k % s]? = some (x.cells[k % s]'(by omega)) := List.getElem?_eq_getElem _
      have := flat_at hxs hx (k % s) _ hc
      rw [hkm] at this
      rw [this, hc]
    by_cases hki : k / s = i
    · rw [get _ hw' v (by rw [hki]; simp [hi])]
      rw [if_pos (by rw [← hki, hv]; omega)]
      congr 1; rw [← hki]; omega
    · rw [if_neg]
      · rw [get _ hw' (els[k / s]) (by rw [List.getElem?_set_ne (Ne.symm hki)]; exact List.getElem?_eq_getElem hq), get _ hw _ (List.getElem?_eq_getElem hq)]
      · rw [hv]
        rintro ⟨a1, a2⟩
        apply hki
        rw [Nat.div_eq_iff hs']
        omega
  · rw [List.getElem?_eq_none (by omega), if_neg (by omega), List.getElem?_eq_none (by omega)]

theorem setEls_sound {P : Program} {e : TypeId} {F : Frz} {s : Nat} : ∀ (parts : List (Nat × AV)) (parts' : List (Nat × Value)) (els r : List AV) (us : Array Value),
    parts.length = parts'.length → (∀ (i : Nat) p q, parts[i]? = some p → parts'[i]? = some q → p.1 = q.1 ∧ VR F p.2 q.2) → (∀ v ∈ els, v.cells.length = s) → CellsR (VR F) (flat els) us.toList → setEls P e s els parts = some r →
    ∃ us', Instr.fill (fun i => some (i * s, s)) us parts' = some us' ∧ CellsR (VR F) (flat r) us'.toList ∧ r.length = els.length ∧ (∀ v ∈ r, v.cells.length = s)
  | [], [], els, r, us, _, _, hw, hc, h => by simp [setEls] at h; subst h; exact ⟨us, rfl, hc, rfl, hw⟩
  | [], _ :: _, _, _, _, hl, _, _, _, _ => by simp at hl
  | _ :: _, [], _, _, _, hl, _, _, _, _ => by simp at hl
  | (i, v) :: rest, (i', v') :: rest', els, r, us, hl, hvr, hw, hc, h => by
    obtain ⟨e1, e2⟩ := hvr 0 _ _ rfl rfl
    simp only at e1 e2; subst e1
    simp only [setEls] at h
    split at h
    case isFalse => simp at h
    rename_i hcond
    obtain ⟨c1, c2, c3⟩ := hcond
    have hv2 : VR F (conv P e v.share).share v' := (conv_VR e2.share).share
    generalize (conv P e v.share).share = v2 at *
    have hcv := hv2.cellsR c1
    have hsz : v'.cells.size = s := by have := hcv.1; simp at this; omega
    have hfl := flat_length hw
    have hus : (flat els).length = us.size := by simpa using hc.1
    have hmul : (i + 1) * s ≤ els.length * s := Nat.mul_le_mul_right _ c3
    rw [Nat.succ_mul] at hmul
    have hset := hc.setRange (off := i * s) hcv (by omega)
    rw [← flat_set hw c3 c2] at hset
    have hw2 : ∀ x ∈ els.set i v2, x.cells.length = s := fun x hx => by
      rcases List.mem_or_eq_of_mem_set hx with h | h
      · exact hw x h
      · rw [h, c2]
    obtain ⟨us', h1, h2, h3, h4⟩ := setEls_sound rest rest' (els.set i v2) r (v'.cells.zipIdx.foldl (fun cs p => cs.setIfInBounds (i * s + p.2) p.1) us) (by simpa using hl)
      (fun j p q hp hq => hvr (j + 1) p q (by simpa using hp) (by simpa using hq)) hw2 (by
        have := foldl_set v'.cells.toList us (i * s) 0
        rw [← Array.foldl_toList]
        simp only [Nat.add_zero, Array.toList_zipIdx] at this ⊢
        rw [this]; exact hset) h
    refine ⟨us', ?_, h2, by simpa using h3, h4⟩
    simp only [Instr.fill, hsz]
    rw [if_neg (by simp; omega)]
    exact h1

theorem flat_replicate {z : AV} (n : Nat) : flat (List.replicate n z) = (List.replicate n z.cells).flatten := by
  induction n with
  | zero => rfl
  | succ n ih => simp only [flat, List.replicate_succ, List.flatMap_cons, List.flatten_cons] at ih ⊢; rw [ih]

theorem CellsR.append {R : AV → Value → Prop} {cs ds : List AV} {us vs : List Value} (h : CellsR R cs us) (k : CellsR R ds vs) : CellsR R (cs ++ ds) (us ++ vs) := by
  obtain ⟨h1, h2, h3⟩ := h
  obtain ⟨k1, k2, k3⟩ := k
  refine ⟨by simp; omega, fun i u hu => ?_, fun i c u hc hu => ?_⟩
  · rw [List.getElem?_append] at hu
    split at hu
    · exact h2 _ _ hu
    · exact k2 _ _ hu
  · rw [List.getElem?_append] at hu hc
    rw [h1] at hc
    split at hu
    · rename_i hi; rw [if_pos hi] at hc; exact h3 _ _ _ hc hu
    · rename_i hi; rw [if_neg hi] at hc; exact k3 _ _ _ hc hu
theorem CellsR.rep {R : AV → Value → Prop} {cs : List AV} {us : List Value} (h : CellsR R cs us) (n : Nat) : CellsR R (List.replicate n cs).flatten (List.replicate n us).flatten := by
  induction n with
  | zero => exact ⟨rfl, by simp, by simp⟩
  | succ n ih => simp only [List.replicate_succ, List.flatten_cons]; exact h.append ih

theorem zeroEl_sound {P : Program} {e : TypeId} {z : AV} (h : zeroEl P e = some z) (F : Frz) : ∃ zv, tZero P e = some zv ∧ CellsR (VR F) z.cells zv.cells.toList := by
  unfold zeroEl at h
  split at h
  case h_2 => simp at h
  rename_i b zs hb hz
  obtain ⟨zv, h1, h2⟩ := azero_sound hz F
  refine ⟨zv, h1, ?_⟩
  cases b with
  | true =>
    simp [mkAV] at h; subst h
    simp only [AV.share, AV.cells]
    refine ⟨by simpa using h2.1, h2.2.1, fun i c u hc hu => ?_⟩
    rw [List.getElem?_map] at hc
    cases hci : zs[i]? with
    | none => simp [hci] at hc
    | some c' => simp [hci] at hc; subst hc; exact (h2.2.2 i c' u hci hu).1.drop1
  | false =>
    match zs, h with
    | [c], h =>
      simp [mkAV] at h; subst h
      have hlen : zv.cells.size = 1 := by have := h2.1; simp at this; omega
      have hs : CellsR (VR F) [c.share] zv.cells.toList := by
        refine ⟨by simpa using hlen.symm, h2.2.1, fun i c' u hc hu => ?_⟩
        cases i with
        | zero => simp at hc; subst hc; exact (h2.2.2 0 c u rfl hu).1.share
        | succ i => simp at hc
      have hone : c.share.cells = [c.share] := by
        have hu : zv.cells.toList[0]? = some (zv.cells[0]'(by omega)) := by simp [hlen]
        have := (h2.2.2 0 c _ rfl hu).1
        have h1c := h2.2.1 0 _ hu
        cases c with
        | agg cs => generalize zv.cells[0] = u at this h1c; cases this; simp [Value.oneCell'] at h1c
        | _ => rfl
      rw [hone]; exact hs
    | [], h => simp [mkAV] at h
    | _ :: _ :: _, h => simp [mkAV] at h

theorem maxLen_big {n : Nat} (h : n ≤ 16777216) : n ≤ maxLen := by unfold maxLen; omega

theorem aBuildSlice_sound {P : Program} {D : Nat → Prop} {n : Nat} {G : Ghost} {A : Slots} {σ : Store} {a : Act} {w : World} (h : Rel D n G A σ a w) {o : Oper} {K : AV → Slots → Store → Prop} {t : TypeId} {len : Nat} {parts : Array (Nat × Operand)}
    (ho : o.op = .buildSlice t len parts) {v : AV} (hv : aBuildSlice P t len (nodeOf parts A) = some v) (hK : K v A σ) : Does P D n G a w o K := by
  unfold aBuildSlice at hv
  split at hv
  case h_2 => simp at hv
  rename_i e he
  split at hv
  case h_2 => simp at hv
  rename_i s z hs hz
  split at hv
  case isFalse => simp at hv
  rename_i hc
  obtain ⟨c1, c2, c3, c4⟩ := hc
  cases hr : setEls P e s (List.replicate len z) (nodeOf parts A) with
  | none => simp [hr] at hv
  | some r =>
    simp [hr] at hv; subst hv
    obtain ⟨zv, hz1, hz2⟩ := zeroEl_sound hz G.F
    have hzl : zv.cells.size = s := by have := hz2.1; simp at this; omega
    generalize hz0 : ((Array.range (len * s)).map (zv.cells[· % zv.cells.size]!)) = z0
    have hz0' : z0.toList = (List.replicate len zv.cells.toList).flatten := by
      subst hz0
      rw [← zeroCells_eq zv.cells.toList s len (by simpa using hzl), hzl]
      simp only [Array.toList_map, Array.toList_range]
      apply List.map_congr_left
      intro i _
      rw [Array.getElem!_toList]
    obtain ⟨us', h1, h2, h3, h4⟩ := setEls_sound (P := P) (e := e) (F := G.F) (nodeOf parts A) (parts.map fun p => (p.1, a.eval p.2)).toList (List.replicate len z) r z0 (by simp [nodeOf]) (fun i p q hp hq => by
      simp only [nodeOf, List.getElem?_map, Array.getElem?_toList, Array.toList_map] at hp hq
      cases hx : parts[i]? with
      | none => simp [hx] at hp
      | some x => simp [hx] at hp hq; subst hp hq; exact ⟨rfl, h.eval x.2⟩) (fun v hv => by rw [(List.mem_replicate.1 hv).2, c3]) (by rw [flat_replicate, hz0']; exact hz2.rep len) hr
    have hfl := flat_length h4
    simp only [List.length_replicate] at h3
    have husz : us'.size = len * s := by have := h2.1; rw [hfl, h3] at this; simpa using this.symm
    obtain ⟨G', q1, q2, q3, q4, _⟩ := newList h us' e s r len husz.symm (by omega) (maxLen_big (Nat.le_trans (Nat.le_mul_of_pos_right _ c2) c1)) h4 us'.toList h2 (fun i u hu => by simpa using hu)
    refine ⟨_, _, A, σ, G', _, hK, .inl ?_, q1, q2, q3, q4⟩
    have hlim : ¬ (2 ^ 24 < len * s) := by omega
    rw [h3]
    rw [Array.toList_map] at h1
    by_cases h0 : len * s = 0
    · have hl0 : len = 0 := by
        rcases Nat.mul_eq_zero.1 h0 with h | h
        · exact h
        · omega
      subst hl0
      have hz00 : z0 = #[] := by subst hz0; simp
      rw [hz00] at h1
      simp [execOp, ho, Instr.buildSlice, run_underlying (under_elem he), run_sizeOf hs, Array.range_zero', h1, newRow] 
    · simp [execOp, ho, Instr.buildSlice, run_underlying (under_elem he), run_sizeOf hs, hlim, h0, run_zeroValue hz1, hz0, h1, newRow]

end Go.AL
