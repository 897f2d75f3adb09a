/-
  The abstract-state logic: structs built of their parts; the operations that leave the state alone, under one name.
-/
import Derived.Test.YtkfhpnfgnjmdbaaALPure3
namespace Go.AL
open Go Go.RowKit Classical

theorem conv_plainlit {P : Program} {t : TypeId} {F : Frz} {v : Value} : VR F (conv P t (.lit v)) v := conv_VR (.lit v)

theorem azero_sound {P : Program} {t : TypeId} {zs : List AV} (h : azero P t = some zs) (F : Frz) : ∃ z, tZero P t = some z ∧ CellsR (VRn F) zs z.cells.toList := by
  unfold azero at h
  cases hz : tZero P t with
  | none => simp [hz] at h
  | some z =>
    simp only [hz, Option.bind_some] at h
    split at h
    case isFalse => simp at h
    rename_i hall
    simp at h; subst h
    refine ⟨z, rfl, by simp, fun i u hu => List.all_eq_true.1 hall u (List.mem_of_getElem? hu), fun i c u hc hu => ?_⟩
    rw [List.getElem?_map, List.getElem?_zipIdx] at hc
    rw [hu] at hc
    simp at hc; subst hc
    refine ⟨conv_plainlit, ?_⟩
    unfold conv
    split
    · rename_i heq; simp only [AV.lit.injEq] at heq; exact .inr heq
    · exact .inl rfl

theorem mapM_sizes {P : Program} (w : World) : ∀ (l : List Field), (∀ f ∈ l, (tSize P f.type).isSome = true) → (l.mapM fun f => (do pure (f.offset, ← sizeOf f.type) : Sem (Nat × Nat))).run P w = .ok (l.map fun f => (f.offset, (tSize P f.type).getD 0)) w
  | [], _ => rfl
  | f :: l, h => by
    obtain ⟨s, hs⟩ := Option.isSome_iff_exists.1 (h f (by simp))
    have ih := mapM_sizes w l (fun g hg => h g (by simp [hg]))
    simp only [List.mapM_cons, Sem.run_bind, run_sizeOf hs, Result.andThen_ok, Sem.run_pure, ih]
    simp [hs]

theorem build_sound {P : Program} {F : Frz} {w : World} {t : TypeId} {parts : List (Nat × AV)} {parts' : List (Nat × Value)} {v : AV} (h : aBuild P t parts = some v) (hl : parts.length = parts'.length)
    (hv : ∀ (i : Nat) p q, parts[i]? = some p → parts'[i]? = some q → p.1 = q.1 ∧ (p.2.solid = true → CellsR (VRn F) p.2.cells q.2.cells.toList)) : ∃ cv, (Instr.build t parts'.toArray).run P w = .ok cv w ∧ VR F v cv ∧ ∀ (G : Ghost) D r, OwnAt G D r v cv := by
  unfold aBuild at h
  split at h
  case h_2 => simp at h
  rename_i zs hb hz
  obtain ⟨z, hz1, hz2⟩ := azero_sound hz F
  cases hr : fillA P t zs parts with
  | none => simp [hr] at h
  | some r =>
    simp [hr] at h; subst h
    unfold tParts at hb
    cases hu : P.underlying t with
    | none => simp [hu] at hb
    | some d =>
      cases d with
      | struct fs =>
        have hplace : ∀ i p, tPart P t i = some p → ((fs.toList.map fun f => (f.offset, (tSize P f.type).getD 0)).toArray[·]?) i = some p := by
          intro i p hp
          have ha : tArr P t = none := by simp [tArr, hu]
          simp only [tPart, ha, tField, hu, Option.bind_some] at hp
          cases hf : fs[i]? with
          | none => simp [hf] at hp
          | some f =>
            simp [hf] at hp
            obtain ⟨s, hs, rfl⟩ := hp
            simp [hf, hs]
        obtain ⟨us', h1, h2⟩ := fill_sound hplace parts parts' zs z.cells r hl hv hz2 hr
        have hm := mapM_sizes (P := P) w fs.toList (by intro f hf; simp only [hu, Option.any_some] at hb; exact List.all_eq_true.1 hb f hf)
        refine ⟨.agg us', ?_, .agg _ _ (by simpa using h2.1) (fun i u hu' => h2.2.1 i u (by simpa using hu')) fun i c u hc hu' => (h2.2.2 i c u hc (by simpa using hu')).1, fun G D ρ j c u hc hu' => (h2.2.2 j c u hc (by simpa using hu')).own ..⟩
        have hm' : (fs.mapM fun f => (do pure (f.offset, ← sizeOf f.type) : Sem (Nat × Nat))).run P w = .ok (fs.toList.map fun f => (f.offset, (tSize P f.type).getD 0)).toArray w := by
          rw [Array.mapM_eq_mapM_toList, Sem.run_map, hm]
          rfl
        simp only [Instr.build, Sem.run_bind, run_zeroValue hz1, Result.andThen_ok, run_underlying hu, hm', h1]
        simp
      | array n e =>
        have ha : tArr P t = some (n, e) := by simp [tArr, hu]
        cases hs : tSize P e with
        | none => simp [hu, hs] at hb
        | some s =>
          have hplace : ∀ i p, tPart P t i = some p → (fun i => some (i * s, s)) i = some p := by
            intro i p hp; simpa [tPart, ha, hs] using hp
          obtain ⟨us', h1, h2⟩ := fill_sound hplace parts parts' zs z.cells r hl hv hz2 hr
          refine ⟨.agg us', ?_, .agg _ _ (by simpa using h2.1) (fun i u hu' => h2.2.1 i u (by simpa using hu')) fun i c u hc hu' => (h2.2.2 i c u hc (by simpa using hu')).1, fun G D ρ j c u hc hu' => (h2.2.2 j c u hc (by simpa using hu')).own ..⟩
          simp only [Instr.build, Sem.run_bind, run_zeroValue hz1, Result.andThen_ok, run_underlying hu, run_sizeOf hs]
          simp [h1]
      | _ => simp [hu] at hb

/-! ### Under one name -/
def nodeOf (parts : Array (Nat × Operand)) (A : Slots) : List (Nat × AV) := parts.toList.map fun p => (p.1, evalA A p.2)

/-- The conversion of the written value at a part's type. -/
def apure (P : Program) (o : Oper) (A : Slots) (σ : Store) : Option AV :=
  match o.op with
  | .move (.const c) => some (conv P o.type (.lit c))
  | .move x => some (evalA A x).share
  | .pick c a b => match evalA A c with
    | .lit (.bool t) => some (evalA A (if t then a else b)).share
    | _ => none
  | .load t x => (aLoad P σ t (evalA A x)).map AV.share
  | .nilCheck x => aNilCheck (evalA A x)
  | .binOp op t x y _ => aBin P op t (evalA A x) (evalA A y)
  | .unOp op _ x => match evalA A x with
    | .lit v => (pureUn op v).map .lit
    | _ => none
  | .convert src dst x => aConv P src dst (evalA A x)
  | .fieldAddr s x f => aFieldAddr P s f (evalA A x)
  | .field t x f => (aField P t f (evalA A x)).map AV.share
  | .indexAddr t x ix => aIndexAddr P t (evalA A x) (evalA A ix)
  | .index t x ix => (aIndex P t (evalA A x) (evalA A ix)).map AV.share
  | .slice t x lo hi mx => aSlice P t (evalA A x) (lo.map (evalA A)) (hi.map (evalA A)) (mx.map (evalA A))
  | .makeInterface t x => match tIface P t with
    | some false => some (.iface t (evalA A x).share)
    | _ => none
  | .makeFunc fn first captured => some (.func fn (first.toList.map fun x => (evalA A x).share) (captured.toList.map fun x => (evalA A x).share))
  | .build t parts => (aBuild P t ((nodeOf parts A).map fun p => (p.1, conv P (((tField P t p.1).map (·.2)).getD (((tArr P t).map (·.2)).getD 0)) p.2.share)))
  | .call c => match c.callee, c.args.toList, c.argTypes.toList with
    | .builtin .len, [x], [t] => aLen P t (evalA A x)
    | .builtin .min, [x, y], _ => aMin (evalA A x) (evalA A y)
    | .builtin .max, [x, y], _ => aMax (evalA A x) (evalA A y)
    | _, _, _ => none
  | _ => none

theorem optVR {D : Nat → Prop} {n : Nat} {G : Ghost} {A : Slots} {σ : Store} {a : Act} {w : World} (h : Rel D n G A σ a w) (o : Option Operand) : OptVR G.F (o.map (evalA A)) (o.map a.eval) := by
  cases o with
  | none => trivial
  | some x => exact h.eval x

theorem value_ok {P : Program} {s : Sem Value} {w w' : World} {v : Value} (h : s.run P w = .ok v w') : (do pure (Next.value (← s)) : Sem Next).run P w = .ok (.value v) w' := by
  simp [Sem.run_bind, h]

theorem apure_sound {P : Program} {o : Oper} {D : Nat → Prop} {n : Nat} {G : Ghost} {A : Slots} {σ : Store} {a : Act} {w : World} {v : AV} (h : apure P o A σ = some v) (hR : Rel D n G A σ a w) :
    ∃ cv, (execOp a.eval o).run P w = .ok (.value cv) w ∧ VR G.F v cv ∧ OwnAt G D .acc v cv := by
  unfold apure at h
  unfold execOp
  have share : ∀ {x : Option AV} {s : Sem Value}, x.map AV.share = some v → (∀ v', x = some v' → ∃ cv, s.run P w = .ok cv w ∧ VR G.F v' cv) →
      ∃ cv, (do pure (Next.value (← s)) : Sem Next).run P w = .ok (.value cv) w ∧ VR G.F v cv ∧ OwnAt G D .acc v cv := by
    intro x s hx hs
    cases x with
    | none => simp at hx
    | some v' =>
      simp at hx; subst hx
      obtain ⟨cv, h1, h2⟩ := hs v' rfl
      exact ⟨cv, value_ok h1, h2.share, OwnAt.share ..⟩
  have plain : ∀ {s : Sem Value}, v.plain = true → (∃ cv, s.run P w = .ok cv w ∧ VR G.F v cv) →
      ∃ cv, (do pure (Next.value (← s)) : Sem Next).run P w = .ok (.value cv) w ∧ VR G.F v cv ∧ OwnAt G D .acc v cv := by
    rintro s hp ⟨cv, h1, h2⟩
    exact ⟨cv, value_ok h1, h2, OwnAt.of_plain hp⟩
  generalize o.op = op at h ⊢
  cases op with
  | move x =>
    cases x with
    | const c =>
      simp only [Option.some.injEq] at h; subst h
      exact ⟨c, rfl, conv_VR (.lit c), conv_own (F := G.F) (.lit c) (OwnAt.of_plain rfl)⟩
    | tmp t => simp only [Option.some.injEq] at h; subst h; exact ⟨_, rfl, (hR.eval (.tmp t)).share, OwnAt.share ..⟩
    | global g => simp only [Option.some.injEq] at h; subst h; exact ⟨_, rfl, (hR.eval (.global g)).share, OwnAt.share ..⟩
    | func f => simp only [Option.some.injEq] at h; subst h; exact ⟨_, rfl, (hR.eval (.func f)).share, OwnAt.share ..⟩
  | pick c x y =>
    dsimp only at h
    split at h
    case h_2 => simp at h
    rename_i t hc
    simp at h; subst h
    have hcv := hR.eval c
    rw [hc] at hcv
    generalize hcc : a.eval c = cc at hcv
    cases hcv
    refine ⟨if t then a.eval x else a.eval y, by cases t <;> simp [hcc, asBool, Sem.run_bind], ?_, OwnAt.share ..⟩
    cases t
    · exact (hR.eval y).share
    · exact (hR.eval x).share
  | load t x => exact share h fun v' hv' => aLoad_sound hR.world hv' (hR.eval x)
  | nilCheck x =>
    dsimp only at h ⊢
    have hx := hR.eval x
    unfold aNilCheck at h
    split at h
    · rename_i p heq
      simp at h; subst h
      rw [heq] at hx
      generalize a.eval x = cx at hx
      cases hx
      exact ⟨_, rfl, .lit _, OwnAt.of_plain rfl⟩
    · rename_i cs heq
      simp at h; subst h
      rw [heq] at hx
      generalize a.eval x = cx at hx
      cases hx with | fptr _ g off us hl hF hv => ?_
      exact ⟨_, rfl, .fptr cs g off us hl hF hv, OwnAt.of_plain rfl⟩
    · rename_i f fs cs heq
      simp at h; subst h
      rw [heq] at hx
      generalize a.eval x = cx at hx
      cases hx with | func _ _ _ ufs ucs h1 h2 h3 h4 => ?_
      exact ⟨_, rfl, .func _ _ _ _ _ h1 h2 h3 h4, OwnAt.of_plain rfl⟩
    · simp at h
  | binOp op t x y ty =>
    dsimp only at h ⊢
    refine plain ?_ (aBin_sound h (hR.eval x) (hR.eval y) x y)
    unfold aBin nilBin at h
    split at h
    · split at h
      · simp at h; subst h; rfl
      · split at h
        · cases hr : eqNil P t _ _ <;> rw [hr] at h <;> simp at h; subst h; rfl
        · cases hr : eqNil P t _ _ <;> rw [hr] at h <;> simp at h; subst h; rfl
        · simp at h
    · split at h
      · cases hr : eqNil P t _ _ <;> rw [hr] at h <;> simp at h; subst h; rfl
      · cases hr : eqNil P t _ _ <;> rw [hr] at h <;> simp at h; subst h; rfl
      · simp at h
  | unOp op t x =>
    dsimp only at h ⊢
    have hx := hR.eval x
    split at h
    case h_2 => simp at h
    rename_i v' heq
    cases hp : pureUn op v' with
    | none => simp [hp] at h
    | some r =>
      simp [hp] at h; subst h
      rw [heq] at hx
      generalize a.eval x = cx at hx
      cases hx
      exact plain rfl ⟨_, pureUn_sound hp w, .lit _⟩
  | convert src dst x =>
    refine plain ?_ (aConv_sound hR.world h (hR.eval x))
    dsimp only at h
    unfold aConv at h
    split at h
    · split at h
      · simp at h; subst h; rfl
      · simp at h
    · split at h
      · simp at h; obtain ⟨_, _, rfl⟩ := h; rfl
      · simp at h
    · simp at h
  | fieldAddr s x f =>
    refine plain ?_ (aFieldAddr_sound h (hR.eval x))
    dsimp only at h
    unfold aFieldAddr at h
    (repeat' split at h) <;> first
      | (simp at h; done)
      | (simp at h; subst h; rfl)
  | field t x f => exact share h fun v' hv' => aField_sound hv' (hR.eval x)
  | indexAddr t x ix =>
    refine plain ?_ (aIndexAddr_sound h (hR.eval x) (hR.eval ix))
    dsimp only at h
    unfold aIndexAddr at h
    (repeat' split at h) <;> first
      | (simp at h; done)
      | (simp at h; subst h; rfl)
      | (simp at h; obtain ⟨_, _, rfl⟩ := h; rfl)
  | index t x ix => exact share h fun v' hv' => aIndex_sound hv' (hR.eval x) (hR.eval ix)
  | slice t x lo hi mx =>
    refine plain ?_ (aSlice_sound h (hR.eval x) (optVR hR lo) (optVR hR hi) (optVR hR mx))
    dsimp only at h
    unfold aSlice at h
    (repeat' split at h) <;> first
      | (simp at h; done)
      | (simp at h; subst h; rfl)
  | makeInterface t x =>
    dsimp only at h ⊢
    split at h
    case h_2 => simp at h
    rename_i ht
    simp at h; subst h
    obtain ⟨d, hd, hi⟩ := under_iface ht
    refine plain rfl ⟨.iface t (a.eval x), ?_, .iface t _ _ (hR.eval x).share⟩
    cases d <;> first
      | (simp at hi; done)
      | simp [Instr.makeInterface, run_underlying hd]
  | makeFunc fn first captured =>
    dsimp only at h ⊢
    simp at h; subst h
    refine plain rfl ⟨.func fn (first.map a.eval) (captured.map a.eval), rfl, .func _ _ _ _ _ (by simp) (by simp) (fun i c u hc hu => ?_) fun i c u hc hu => ?_⟩
    · simp only [List.getElem?_map, Array.getElem?_toList] at hc
      simp only [Array.getElem?_map] at hu
      cases hx : first[i]? with
      | none => simp [hx] at hc
      | some x => simp [hx] at hc hu; subst hc hu; exact (hR.eval x).share
    · simp only [List.getElem?_map, Array.getElem?_toList] at hc
      simp only [Array.getElem?_map] at hu
      cases hx : captured[i]? with
      | none => simp [hx] at hc
      | some x => simp [hx] at hc hu; subst hc hu; exact (hR.eval x).share
  | build t parts =>
    dsimp only at h ⊢
    obtain ⟨cv, h1, h2, h3⟩ := build_sound (w := w) (F := G.F) (parts' := (parts.map fun p => (p.1, a.eval p.2)).toList) h (by simp [nodeOf]) (fun i p q hp hq => by
      simp only [nodeOf, List.map_map, List.getElem?_map, Array.getElem?_toList, Array.toList_map] at hp hq
      cases hx : parts[i]? with
      | none => simp [hx] at hp
      | some x =>
        simp [hx] at hp hq; subst hp hq
        exact ⟨rfl, fun hs => (hR.eval x.2).cellsRn_conv hs⟩)
    rw [Array.toArray_toList] at h1
    exact ⟨cv, value_ok h1, h2, h3 ..⟩
  | call c =>
    obtain ⟨callee, args, argTypes⟩ := c
    dsimp only at h ⊢
    split at h
    · rename_i x t hargs hts
      have e1 : args = #[x] := by rw [← Array.toArray_toList (xs := args), hargs]
      have e2 : argTypes = #[t] := by rw [← Array.toArray_toList (xs := argTypes), hts]
      subst e1 e2
      obtain ⟨cv, h1, h2⟩ := aLen_sound (w := w) (ty := o.type) h (hR.eval x)
      refine ⟨cv, ?_, h2, OwnAt.of_plain ?_⟩
      · simp [resolve, invoke, builtin, Sem.run_bind, h1]
      · unfold aLen at h
        (repeat' split at h) <;> first
          | (simp at h; done)
          | (simp at h; subst h; rfl)
    · rename_i x y hargs
      have e1 : args = #[x, y] := by rw [← Array.toArray_toList (xs := args), hargs]
      subst e1
      obtain ⟨cv, h1, h2⟩ := aMin_sound (P := P) (w := w) (ts := argTypes) (ty := o.type) h (hR.eval x) (hR.eval y)
      refine ⟨cv, ?_, h2, OwnAt.of_plain ?_⟩
      · simp [resolve, invoke, builtin, Sem.run_bind, h1]
      · unfold aMin at h
        split at h
        · simp at h; subst h; rfl
        · simp at h
    · rename_i x y hargs
      have e1 : args = #[x, y] := by rw [← Array.toArray_toList (xs := args), hargs]
      subst e1
      obtain ⟨cv, h1, h2⟩ := aMax_sound (P := P) (w := w) (ts := argTypes) (ty := o.type) h (hR.eval x) (hR.eval y)
      refine ⟨cv, ?_, h2, OwnAt.of_plain ?_⟩
      · simp [resolve, invoke, builtin, Sem.run_bind, h1]
      · unfold aMax at h
        split at h
        · simp at h; subst h; rfl
        · simp at h
    · simp at h
  | _ => simp at h

end Go.AL
