/-
  The abstract-state logic: functions, loops, a law.
-/
import Derived.Test.YtkfhpnfgnjmdbaaALPlan
import Derived.LoopN
namespace Go.AL
open Go Go.RowKit Classical

/-! ### Knowing less -/
def AV.le (a b : AV) : Prop := ∀ (F : Frz) (v : Value), VR F a v → VR F b v ∧ ∀ (G : Ghost) (D : Nat → Prop) (r : Nat → Place), OwnAt G D r a v → OwnAt G D r b v
theorem AV.le_refl (a : AV) : a.le a := fun _ _ h => ⟨h, fun _ _ _ h => h⟩
theorem AV.le_trans {a b c : AV} (h : a.le b) (k : b.le c) : a.le c := fun F v hv => ⟨(k F v (h F v hv).1).1, fun G D r ho => (k F v (h F v hv).1).2 G D r ((h F v hv).2 G D r ho)⟩
theorem AV.le_top (a : AV) : a.le .top := fun _ v _ => ⟨.top v, fun _ _ _ _ => OwnAt.of_plain rfl⟩
theorem AV.le_share (a : AV) : a.le a.share := fun _ _ h => ⟨h.share, fun _ _ _ _ => OwnAt.share ..⟩
theorem AV.le_list (o : Bool) (sz : Nat) (vs : List AV) : (AV.list o sz vs).le (.list false sz vs) := AV.le_share (.list o sz vs)
/-- The nil slice, and an empty list. -/
theorem AV.le_nil (o : Bool) (sz : Nat) : (AV.lit (.slice none 0 0)).le (.list o sz []) := fun F v h => by
  cases h
  exact ⟨.nil o sz, fun _ _ _ _ => by cases o <;> simp [OwnAt, Own1]⟩
/-- Cell by cell. -/
def AV.le1 (a b : AV) : Prop := ∀ (F : Frz) (v : Value), VR F a v → VR F b v ∧ ∀ (G : Ghost) (D : Nat → Prop) (π : Place), Own1 G D π a v → Own1 G D π b v
theorem AV.le1_refl (a : AV) : a.le1 a := fun _ _ h => ⟨h, fun _ _ _ h => h⟩
theorem AV.le1_top (a : AV) : a.le1 .top := fun _ v _ => ⟨.top v, fun _ _ _ _ => Own1.of_plain rfl⟩
theorem AV.le1_drop (a : AV) : a.le1 a.drop1 := fun _ _ h => ⟨h.drop1, fun _ _ _ _ => Own1.drop1 ..⟩
theorem AV.le1_list (o : Bool) (sz : Nat) (vs : List AV) : (AV.list o sz vs).le1 (.list false sz vs) := AV.le1_drop (.list o sz vs)
theorem AV.le1_nil (o : Bool) (sz : Nat) : (AV.lit (.slice none 0 0)).le1 (.list o sz []) := fun F v h => by
  cases h
  exact ⟨.nil o sz, fun _ _ _ _ => by cases o <;> simp [Own1]⟩
def AllLe1 : List AV → List AV → Prop
  | [], [] => True
  | a :: as, b :: bs => a.le1 b ∧ AllLe1 as bs
  | _, _ => False
theorem AllLe1.get : ∀ {as bs : List AV}, AllLe1 as bs → as.length = bs.length ∧ ∀ (i : Nat) (b : AV), bs[i]? = some b → ∃ a, as[i]? = some a ∧ a.le1 b
  | [], [], _ => ⟨rfl, by simp⟩
  | [], _ :: _, h => h.elim
  | _ :: _, [], h => h.elim
  | a :: as, b :: bs, h => by
    obtain ⟨h1, h2⟩ := AllLe1.get h.2
    refine ⟨by simp [h1], fun i x hx => ?_⟩
    cases i with
    | zero => simp at hx; subst hx; exact ⟨a, rfl, h.1⟩
    | succ i => simp at hx; simpa using h2 i x hx
theorem AV.le_agg {as bs : List AV} (h : AllLe1 as bs) : (AV.agg as).le (.agg bs) := fun F v hv => by
  obtain ⟨hl, hg⟩ := h.get
  cases hv with | agg _ us l1 l2 l3 => ?_
  refine ⟨.agg bs us (by omega) l2 fun i c u hc hu => ?_, fun G D r ho j c u hc hu => ?_⟩
  · obtain ⟨a, ha, hle⟩ := hg i c hc; exact (hle F u (l3 i a u ha hu)).1
  · obtain ⟨a, ha, hle⟩ := hg j c hc; exact (hle F u (l3 j a u ha hu)).2 G D _ (ho j a u ha hu)
theorem AV.le_tuple {as bs : List AV} (h : AllLe1 as bs) : (AV.tuple as).le (.tuple bs) := fun F v hv => by
  obtain ⟨hl, hg⟩ := h.get
  cases hv with | tuple _ us l1 l3 => ?_
  refine ⟨.tuple bs us (by omega) fun i c u hc hu => ?_, fun G D r ho j c u hc hu => ?_⟩
  · obtain ⟨a, ha, hle⟩ := hg i c hc; exact (hle F u (l3 i a u ha hu)).1
  · obtain ⟨a, ha, hle⟩ := hg j c hc; exact (hle F u (l3 j a u ha hu)).2 G D _ (ho j a u ha hu)

def Slots.le (A B : Slots) : Prop := ∀ i, (A i).le (B i)
def noSlots : Slots := fun _ => .top
theorem Slots.le_none (A : Slots) : Slots.le A noSlots := fun _ => AV.le_top _
theorem Slots.le_upd {A B : Slots} {i : Nat} {v : AV} (h : (A i).le v) (k : Slots.le A B) : Slots.le A (upd B i v) := fun j => by
  simp only [upd]; split
  · rename_i hj; subst hj; exact h
  · exact k j
theorem Slots.le_refl (A : Slots) : Slots.le A A := fun _ => AV.le_refl _
theorem Rel.le {D : Nat → Prop} {n : Nat} {G : Ghost} {A B : Slots} {σ : Store} {a : Act} {w : World} (h : Rel D n G A σ a w) (hl : Slots.le A B) : Rel D n G B σ a w :=
  ⟨h.defers, h.size, fun i => (hl i _ _ (h.val i)).1, fun i => (hl i _ _ (h.val i)).2 _ _ _ (h.own i), h.world, h.fresh⟩
theorem AWp.le {P : Program} {n : Nat} {c : Code} {Q : Exit → Slots → Store → Prop} {A B : Slots} {σ : Store} (h : AWp P n c Q B σ) (hl : Slots.le A B) : AWp P n c Q A σ :=
  fun D G a w hR => h D G a w (hR.le hl)

/-! ### A loop -/
def Store.sub (σ' σ : Store) : Prop := ∀ o, σ' o = none ∨ σ' o = σ o
theorem Store.sub_refl (σ : Store) : Store.sub σ σ := fun _ => .inr rfl
theorem Store.sub_upd {σ τ : Store} {p : Nat} {cs : List AV} (hp : σ p = none) (h : Store.sub σ τ) : Store.sub σ (τ.upd p cs) := fun o => by
  by_cases ho : o = p
  · subst ho; exact .inl hp
  · rcases h o with h | h
    · exact .inl h
    · exact .inr (by simp [Store.upd, ho, h])

theorem Rel.sub {D : Nat → Prop} {n : Nat} {G : Ghost} {A : Slots} {σ τ : Store} {a : Act} {w : World} (h : Rel D n G A σ a w) (hs : Store.sub τ σ) : Rel D n G A τ a w :=
  ⟨h.defers, h.size, h.val, h.own, h.world.forget hs, h.fresh⟩
theorem AWp.sub {P : Program} {n : Nat} {c : Code} {Q : Exit → Slots → Store → Prop} {A : Slots} {σ τ : Store} (h : AWp P n c Q A τ) (hs : Store.sub τ σ) : AWp P n c Q A σ :=
  fun D G a w hR => h D G a w (hR.sub hs)
theorem AWp.loop {P : Program} {n : Nat} {c : Code} {Q : Exit → Slots → Store → Prop} {A : Slots} {σ : Store} {X : Type} (Inv : X → Prop) (sl : X → Slots) (so : X → Store) (μ : X → Nat) (x0 : X) (h0 : Inv x0) (hA : Slots.le A (sl x0)) (hσ : Store.sub (so x0) σ)
    (round : ∀ x, Inv x → AWp P n c (athen (fun A' σ' => ∃ y, Inv y ∧ μ y < μ x ∧ Slots.le A' (sl y) ∧ Store.sub (so y) σ') Q) (sl x) (so x)) : AWp P n (.loop c) Q A σ := by
  refine AWp.le (B := sl x0) ?_ hA
  refine AWp.sub ?_ hσ
  intro D G a w hR
  have key : ∀ (m : Nat) (x : X), μ x ≤ m → Inv x → ∀ (G1 : Ghost) (a1 : Act) (w1 : World), Rel D n G1 (sl x) (so x) a1 w1 → Ext D G w G1 w1 → Code.rounds P c (fun e a' w' => lift D n G w (Q e) a' w') (m + 1) a1 w1 := by
    intro m
    induction m with
    | zero =>
      intro x hx hI G1 a1 w1 hR1 hext
      rw [rounds_succ]
      refine wp_mono (round x hI D G1 a1 w1 hR1) fun e a' w' hl => ?_
      cases e with
      | normal => obtain ⟨G', A', σ', ⟨y, _, hy, _⟩, _, _⟩ := hl; omega
      | _ => exact lift_trans hext hl
    | succ m ih =>
      intro x hx hI G1 a1 w1 hR1 hext
      rw [rounds_succ]
      refine wp_mono (round x hI D G1 a1 w1 hR1) fun e a' w' hl => ?_
      cases e with
      | normal =>
        obtain ⟨G', A', σ', ⟨y, hyI, hy, hle, hsub⟩, hR', hext'⟩ := hl
        exact ih y (by omega) hyI G' a' w' ((hR'.le hle).sub hsub) (hext.trans hext')
      | _ => exact lift_trans hext hl
  exact wp_loop_rounds _ (key (μ x0) x0 (Nat.le_refl _) h0 G a w hR (Ext.refl ..))

/-- Slots by a list; what is not named is not known. -/
def slotsL : List (Nat × AV) → Slots
  | [] => noSlots
  | p :: r => upd (slotsL r) p.1 p.2
def LeL (A : Slots) : List (Nat × AV) → Prop
  | [] => True
  | p :: r => (A p.1).le p.2 ∧ LeL A r
theorem Slots.le_of {A : Slots} : ∀ {l : List (Nat × AV)}, LeL A l → Slots.le A (slotsL l)
  | [], _ => Slots.le_none A
  | _ :: _, h => Slots.le_upd h.1 (Slots.le_of h.2)

/-- A loop: what holds at each round's head ('Inv x'; the slots 'sl x'; the store 'so x'), what goes down. -/
theorem AWp.loopL {P : Program} (hm : P.follows .mixedOrders = true) {st : List Tmp} {plans : List (Nat × Plan)} {n : Nat} {c : Code} {Q : Exit → Slots → Store → Prop} {A : Slots} {σ : Store} {X : Type} (Inv : X → Prop) (sl : X → List (Nat × AV)) (so : X → Store) (μ : X → Nat) (x0 : X)
    (hok : codeOk st plans n c = true) (h0 : Inv x0) (hA : LeL A (sl x0)) (hσ : Store.sub (so x0) σ)
    (round : ∀ x, Inv x → awp P st plans n c (athen (fun A' σ' => ∃ y, Inv y ∧ μ y < μ x ∧ LeL A' (sl y) ∧ Store.sub (so y) σ') Q) (slotsL (sl x)) (so x)) : AWp P n (.loop c) Q A σ :=
  AWp.loop Inv (fun x => slotsL (sl x)) so μ x0 h0 (Slots.le_of hA) hσ fun x hx => (awp_sound hm c hok (round x hx)).mono fun e A' σ' h => by
    cases e with
    | normal => obtain ⟨y, h1, h2, h3, h4⟩ := h; exact ⟨y, h1, h2, Slots.le_of h3, h4⟩
    | _ => exact h

/-! ### Results -/
def resVal (P : Program) (A : Slots) (σ : Store) : ResultVar → Option AV
  | .tmp t => some (A t)
  | .cell p t => (aLoad P σ t (A p)).map AV.share
def ares (P : Program) (A : Slots) (σ : Store) : List ResultVar → Option AV
  | [r] => resVal P A σ r
  | rs => (rs.mapM (resVal P A σ)).map fun vs => .tuple (vs.map AV.keep1)
def aret (P : Program) (rs : List ResultVar) (R : AV → Store → Prop) : Exit → Slots → Store → Prop
  | .normal, A, σ | .ret, A, σ => match ares P A σ rs with
    | some v => ∃ v' σ', v.le v' ∧ Store.sub σ' σ ∧ R v' σ'
    | none => False
  | _, _, _ => False

def resTmps (rs : List ResultVar) : List Tmp := rs.filterMap fun | .tmp t => some t | _ => none
/-- Results lie in slots of their own. -/
def resOk (rs : List ResultVar) : Bool := decide (resTmps rs).Nodup

/-- From the result slots into the accumulator. -/
def toRes (rs : List ResultVar) : Place → Place
  | .slot t j => match rs with
    | [_] => .acc j
    | rs => .acc (rs.findIdx fun | .tmp u => u == t | _ => false)
  | π => π

def resSem (tmps : Array Value) : ResultVar → Sem Value
  | .tmp t => pure (tmps.getD t undef)
  | .cell p t => do loadVar t (← asAddr (tmps.getD p undef))
theorem results_eq (fn : Func) (tmps : Array Value) : results fn tmps = (do let vs ← fn.results.mapM (resSem tmps); pure (if h : vs.size = 1 then vs[0] else .tuple vs)) := by
  unfold results
  congr 2
theorem toRes_many : ∀ (rs : List ResultVar) (t : Tmp) (j : Nat), (∀ r, rs = [r] → False) → toRes rs (.slot t j) = .acc (rs.findIdx fun | .tmp u => u == t | _ => false)
  | [], _, _, _ => rfl
  | [r], _, _, h => (h r rfl).elim
  | _ :: _ :: _, _, _, _ => rfl

theorem run_resVal {P : Program} {D : Nat → Prop} {n : Nat} {G : Ghost} {A : Slots} {σ : Store} {a : Act} {w : World} (hR : Rel D n G A σ a w) {r : ResultVar} {v : AV} (h : resVal P A σ r = some v) :
    ∃ cv, (resSem a.tmps r).run P w = .ok cv w ∧ VR G.F v cv ∧
      (∀ t, r = .tmp t → cv = a.tmps.getD t undef ∧ v = A t) ∧ ((∃ p t, r = .cell p t) → v.plain = true) := by
  cases r with
  | tmp t => simp [resVal] at h; subst h; exact ⟨_, rfl, hR.val t, fun t' h => by cases h; exact ⟨rfl, rfl⟩, fun ⟨_, _, h⟩ => by cases h⟩
  | cell p t =>
    simp only [resVal] at h
    cases hl : aLoad P σ t (A p) with
    | none => simp [hl] at h
    | some v' =>
      simp [hl] at h; subst h
      obtain ⟨cv, h1, h2⟩ := aLoad_sound hR.world hl (hR.val p)
      refine ⟨cv, ?_, h2.share, fun t' h => (by cases h), fun _ => ?_⟩
      · generalize hx : a.tmps.getD p undef = x at h1
        cases x with
        | pointer ad =>
          cases ad with
          | none => simp [Instr.loadAt, Instr.sureAddr] at h1
          | some ad =>
            have hx' : a.tmps[p]?.getD undef = .pointer (some ad) := by simpa using hx
            simpa [resSem, Instr.loadAt, Instr.sureAddr, asAddr, hx'] using h1
        | _ => simp [Instr.loadAt, Instr.sureAddr] at h1
      · cases v' with
        | agg cs => simp [AV.share, AV.plain, plain1_drop1]
        | tuple cs => simp [AV.share, AV.plain, plain1_drop1]
        | _ => rfl

theorem mapM_res {P : Program} {D : Nat → Prop} {n : Nat} {G : Ghost} {A : Slots} {σ : Store} {a : Act} {w : World} (hR : Rel D n G A σ a w) : ∀ (rs : List ResultVar) (vs : List AV), rs.mapM (resVal P A σ) = some vs →
    ∃ cvs : List Value, (rs.mapM (resSem a.tmps)).run P w = .ok cvs w ∧ vs.length = rs.length ∧ cvs.length = rs.length ∧
      ∀ (i : Nat) (r : ResultVar) (v : AV) (cv : Value), rs[i]? = some r → vs[i]? = some v → cvs[i]? = some cv → VR G.F v cv ∧ (∀ t, r = .tmp t → cv = a.tmps.getD t undef ∧ v = A t) ∧ ((∃ p t, r = .cell p t) → v.plain = true)
  | [], vs, h => by simp at h; subst h; exact ⟨[], rfl, rfl, rfl, by simp⟩
  | r :: rs, vs, h => by
    simp only [List.mapM_cons] at h
    cases hv : resVal P A σ r with
    | none => rw [hv] at h; simp at h
    | some v =>
      cases hvs : rs.mapM (resVal P A σ) with
      | none => rw [hv, hvs] at h; simp at h
      | some vs' =>
        rw [hv, hvs] at h; simp at h; subst h
        obtain ⟨cv, h1, h2, h3, h4⟩ := run_resVal hR hv
        obtain ⟨cvs, k1, k2, k3, k4⟩ := mapM_res hR rs vs' hvs
        refine ⟨cv :: cvs, ?_, by simp [k2], by simp [k3], fun i r' v' cv' hr hv' hcv => ?_⟩
        · simp only [List.mapM_cons, Sem.run_bind, h1, Result.andThen_ok, k1, Sem.run_pure]
        · cases i with
          | zero => simp at hr hv' hcv; subst hr hv' hcv; exact ⟨h2, h3, h4⟩
          | succ i => simp at hr hv' hcv; exact k4 i r' v' cv' hr hv' hcv

theorem findIdx_tmp {rs : List ResultVar} (hnd : (resTmps rs).Nodup) : ∀ (i : Nat) (t : Tmp), rs[i]? = some (.tmp t) → (rs.findIdx fun | .tmp u => u == t | _ => false) = i := by
  induction rs with
  | nil => intro i t h; simp at h
  | cons r rs ih =>
    intro i t h
    cases i with
    | zero => simp at h; subst h; simp [List.findIdx_cons]
    | succ i =>
      simp at h
      rw [List.findIdx_cons]
      have hmem : t ∈ resTmps rs := by
        simp only [resTmps, List.mem_filterMap]
        exact ⟨.tmp t, List.mem_of_getElem? h, rfl⟩
      cases r with
      | tmp u =>
        have hnd : u ∉ resTmps rs ∧ (resTmps rs).Nodup := by simpa [resTmps] using hnd
        have hne : u ≠ t := fun e => hnd.1 (e ▸ hmem)
        have := ih hnd.2 i t h
        have hb : (u == t) = false := beq_eq_false_iff_ne.2 hne
        simp [hb, this]
      | cell p u =>
        have hnd : (resTmps rs).Nodup := by simpa [resTmps] using hnd
        have := ih hnd i t h
        simp [this]

theorem ares_sound {P : Program} {fn : Func} (hok : resOk fn.results.toList = true) {D : Nat → Prop} {n : Nat} {G : Ghost} {A : Slots} {σ : Store} {a : Act} {w : World} (hR : Rel D n G A σ a w) {v : AV} (h : ares P A σ fn.results.toList = some v) :
    ∃ cv, (results fn a.tmps).run P w = .ok cv w ∧ VR G.F v cv ∧ OwnAt (G.mv D (toRes fn.results.toList)) D .acc v cv := by
  have hres : ∀ (cvs : List Value), (fn.results.toList.mapM (resSem a.tmps)).run P w = .ok cvs w →
      (results fn a.tmps).run P w = .ok (if h : cvs.length = 1 then cvs[0] else .tuple cvs.toArray) w := fun cvs hc => by
    rw [results_eq, Sem.run_bind, Array.mapM_eq_mapM_toList, Sem.run_map, hc]
    simp only [Result.andThen_ok, Sem.run_pure]
    congr 1
  unfold ares at h
  split at h
  · rename_i r hr
    obtain ⟨cv, h1, h2, h3, h4⟩ := run_resVal hR h
    refine ⟨cv, ?_, h2, ?_⟩
    · have := hres [cv] (by rw [hr]; simp only [List.mapM_cons, List.mapM_nil, Sem.run_bind, h1, Result.andThen_ok, Sem.run_pure])
      simpa using this
    · cases r with
      | tmp t =>
        obtain ⟨rfl, rfl⟩ := h3 t rfl
        exact (hR.own t).re fun g m z j hd hg => by rw [Ghost.mv_some hd hg, hr]; rfl
      | cell p t => exact OwnAt.of_plain (h4 ⟨p, t, rfl⟩)
  · rename_i rs hne
    cases hm : fn.results.toList.mapM (resVal P A σ) with
    | none => rw [hm] at h; simp at h
    | some vs =>
      rw [hm] at h; simp at h; subst h
      obtain ⟨cvs, h1, h2, h3, h4⟩ := mapM_res hR _ vs hm
      have hl1 : cvs.length ≠ 1 := fun hl => by
        rw [hl] at h3
        match hh : fn.results.toList, h3 with
        | [r], _ => exact hne r hh
      refine ⟨.tuple cvs.toArray, by rw [hres cvs h1, dif_neg hl1], .tuple _ _ (by simp [h2, h3]) fun i c u hc hu => ?_, fun j c u hc hu => ?_⟩
      · rw [List.getElem?_map] at hc
        cases hv : vs[i]? with
        | none => simp [hv] at hc
        | some v =>
          simp [hv] at hc; subst hc
          have hi : i < fn.results.toList.length := by have := (List.getElem?_eq_some_iff.1 hv).1; omega
          exact (h4 i _ v u (List.getElem?_eq_getElem hi) hv (by simpa using hu)).1.keep1
      · rw [List.getElem?_map] at hc
        cases hv : vs[j]? with
        | none => simp [hv] at hc
        | some v =>
          simp [hv] at hc; subst hc
          have hi : j < fn.results.toList.length := by have := (List.getElem?_eq_some_iff.1 hv).1; omega
          have hr := List.getElem?_eq_getElem hi
          obtain ⟨q1, q2, q3⟩ := h4 j _ v u hr hv (by simpa using hu)
          cases v with
          | list own sz ws =>
            cases hrr : fn.results.toList[j] with
            | tmp t =>
              obtain ⟨rfl, hA⟩ := q2 t hrr
              have ho := hR.own t
              rw [← hA] at ho
              refine Own1.re (π := .slot t 0) ho fun g m z hd hg => ?_
              rw [Ghost.mv_some hd hg]
              have hidx := findIdx_tmp (rs := fn.results.toList) (by simpa [resOk] using hok) j t (by rw [hr, hrr])
              have : toRes fn.results.toList (.slot t 0) = .acc j := by
                rw [toRes_many _ _ _ hne, hidx]
              rw [this]
            | cell p t =>
              have := q3 ⟨p, t, hrr⟩
              exact Own1.of_plain (by simpa [AV.plain, AV.keep1, AV.plain1] using this)
          | agg cs => exact Own1.of_plain rfl
          | tuple cs => exact Own1.of_plain rfl
          | _ => exact Own1.of_plain rfl

/-! ### A function -/
def slotsOf (args : List AV) : Slots := fun i => (args[i]?).getD .top

/-- From the arguments' places into the slots. -/
def fromArg : Place → Place
  | .arg i j => .slot i j
  | π => π

theorem ACalls.of_awp {P : Program} (hm : P.follows .mixedOrders = true) {f : FuncId} {fn : Func} {c : Code} (hf : P.funcs[f]? = some fn) (hb : fn.body = some c) {st : List Tmp} {plans : List (Nat × Plan)} {args : List AV} (hr : resOk fn.results.toList = true)
    {n : Nat} (hn : args.length + (fn.ntmps - args.length) = n) (hok : codeOk st plans n c = true) {σ : Store} {R : AV → Store → Prop} (h : awp P st plans n c (aret P fn.results.toList R) (slotsOf args) σ) : ACalls P f args σ R := by
  intro D G w cargs hl hargs hW hD
  refine calls_of_wp hf hb ?_
  have hR : Rel D n (G.mv D fromArg) (slotsOf args) σ { tmps := cargs ++ Array.replicate (fn.ntmps - cargs.size) undef, defers := [] } w := by
    have key : ∀ i, (∃ c u, args[i]? = some c ∧ cargs[i]? = some u ∧ slotsOf args i = c ∧ (cargs ++ Array.replicate (fn.ntmps - cargs.size) undef).getD i undef = u) ∨ slotsOf args i = .top := by
      intro i
      rcases Nat.lt_or_ge i args.length with hi | hi
      · refine .inl ⟨args[i], cargs[i]'(by omega), by simp, by simp, by simp [slotsOf, hi], ?_⟩
        simp [Array.getD_eq_getD_getElem?, Array.getElem?_append_left (show i < cargs.size by omega), show i < cargs.size by omega]
      · exact .inr (by simp [slotsOf, hi])
    refine ⟨rfl, by simp; omega, fun i => ?_, fun i => ?_, hW.mv _ (fun _ _ => rfl), hD⟩
    · rcases key i with ⟨c, u, h1, h2, h3, h4⟩ | h3
      · rw [h3]; simp only [h4]; exact (hargs i c u h1 h2).1
      · rw [h3]; exact .top _
    · rcases key i with ⟨c, u, h1, h2, h3, h4⟩ | h3
      · rw [h3]; simp only [h4]; exact (hargs i c u h1 h2).2.re fun g m z j hd hg => by rw [Ghost.mv_some hd hg]; rfl
      · rw [h3]; exact OwnAt.of_plain rfl
  refine wp_mono (awp_sound hm c hok h D _ _ w hR) fun e a' w' hl' => ?_
  obtain ⟨G', A', σ', h1, h2, h3⟩ := hl'
  have fin : (match ares P A' σ' fn.results.toList with | some v => ∃ v' σ'', v.le v' ∧ Store.sub σ'' σ' ∧ R v' σ'' | none => False) →
      a'.defers = [] ∧ ∃ v, (results fn a'.tmps).run P w' = .ok v w' ∧ ∃ v0 cv G'' σ'', Ending.returned v = .returned cv ∧ R v0 σ'' ∧ VR G''.F v0 cv ∧ OwnAt G'' D .acc v0 cv ∧ WR D G'' σ'' w' ∧ Ext D G w G'' w' := by
    intro hh
    refine ⟨h2.defers, ?_⟩
    split at hh
    · rename_i v hv
      obtain ⟨v', σ'', hle, hsub, hRR⟩ := hh
      obtain ⟨cv, q1, q2, q3⟩ := ares_sound hr h2 hv
      exact ⟨cv, q1, v', cv, G'.mv D (toRes fn.results.toList), σ'', rfl, hRR, (hle _ _ q2).1, (hle _ _ q2).2 _ _ _ q3, (h2.world.mv _ (fun _ _ => rfl)).forget hsub, ((Ext.mv ..).trans h3).trans (Ext.mv ..)⟩
    · exact hh.elim
  cases e with
  | normal => exact fin h1
  | ret => exact fin h1
  | _ => exact h1.elim

/-! ### A law -/
/-- All that is there counts as frozen. -/
def allFrz (W : World) : Frz := fun g i => match W.heap[g]? with
  | some (.cells cur _ _) => cur[i]?
  | _ => none

theorem law_calls {P : Program} {f : FuncId} {args : List AV} (h : ACalls P f args (fun _ => none) fun v _ => v = .lit (.bool true)) (W : World) (cargs : Array Value) (hl : args.length = cargs.size)
    (hargs : ∀ (i : Nat) (c : AV) (u : Value), args[i]? = some c → cargs[i]? = some u → VR (allFrz W) c u ∧ c.plain = true) :
    Calls P f cargs W fun e W' => e = .returned (.bool true) ∧ Below W.heap.size W W' := by
  refine (h (fun k => W.heap.size ≤ k) ⟨allFrz W, fun _ => none⟩ W cargs hl (fun i c u hc hu => ⟨(hargs i c u hc hu).1, OwnAt.of_plain (hargs i c u hc hu).2⟩) ⟨fun g i u hu => ?_, fun g n z π hg => (by cases hg), fun o cs ho => (by cases ho)⟩ (fun k hk => hk)).mono ?_
  · simp only [allFrz] at hu
    split at hu
    · rename_i cur e fz hg; exact ⟨cur, e, fz, hg, hu⟩
    · cases hu
  · rintro e w' ⟨v, cv, G', σ', rfl, rfl, hv, _, _, hext⟩
    cases hv
    exact ⟨rfl, hext.os, hext.tape, hext.output, hext.size, fun k hk => (hext.block k (by omega)).1⟩

end Go.AL
