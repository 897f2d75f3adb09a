/-
  TallySums: the law.
-/
import Derived.Test.YtgelodhkbpmlfaaSPart14
set_option linter.unusedSimpArgs false
set_option linter.unusedVariables false
namespace Go.Proofs.Ytgelodhkbpmlfaa
open Go Go.AL

/-- What lies apart. -/
structure Apart (b c d b2 c2 d2 : Nat) (ns ms : List Str) : Prop where
  bb : ¬ b2 = b
  bc : ¬ b2 = c
  cb : ¬ c2 = b
  cc : ¬ c2 = c
  o1 : ns = [] ∨ (¬ d = b2 ∧ ¬ d = c2 ∧ ¬ d = b ∧ ¬ d = c)
  o2 : ms = [] ∨ (¬ d2 = b ∧ ¬ d2 = c ∧ ¬ d2 = b2 ∧ ¬ d2 = c2)
  dd : ns = [] ∨ ms = [] ∨ ¬ d2 = d
structure St (τ : Store) (b c d b2 c2 d2 : Nat) (W W2 : AV) (ns ms : List Str) (xs ys zs : List Nat) : Prop where
  t1 : TV τ b c (ptrA b) ns xs
  t2 : TV τ b2 c2 (ptrA b2) ms ys
  l1 : LW τ d W (ns.zip zs)
  l2 : LW τ d2 W2 (ms.zip ys)
  lz : zs.length = ns.length
theorem St.more {τ υ : Store} {b c d b2 c2 d2 : Nat} {W W2 : AV} {ns ms : List Str} {xs ys zs : List Nat} (h : St τ b c d b2 c2 d2 W W2 ns ms xs ys zs) (hs : Store.sub τ υ) : St υ b c d b2 c2 d2 W W2 ns ms xs ys zs :=
  ⟨h.t1.more hs, h.t2.more hs, h.l1.more hs, h.l2.more hs, h.lz⟩
theorem TV.keep {σ σ' : Store} {b2 c2 : Nat} {tw : AV} {ms : List Str} {ys : List Nat} (h : TV σ b2 c2 tw ms ys) (hb : ∀ x, σ b2 = some x → σ' b2 = some x) (hc : ∀ x, σ c2 = some x → σ' c2 = some x) (hm : ∀ q x, σ (mkey q) = some x → σ' (mkey q) = some x) : TV σ' b2 c2 tw ms ys := by
  rcases h with h | ⟨h1, m, h⟩
  · exact .inl h
  · exact .inr ⟨h1, m, hb _ h.obj, hc _ h.row, h.len, h.ne, fun q e => hm q _ (h.map q e), h.nd, h.le⟩
theorem LW.keep {σ σ' : Store} {d : Nat} {V : AV} {l : List Ct} (h : LW σ d V l) (hk : l = [] ∨ ∀ x, σ d = some x → σ' d = some x) : LW σ' d V l := by
  rcases h with h | ⟨cap, h1, h2, h3⟩
  · exact .inl h
  · refine .inr ⟨cap, h1, fun hn => ?_, h3⟩
    obtain ⟨rest, h4⟩ := h2 hn
    rcases hk with hk | hk
    · exact absurd hk hn
    · exact ⟨rest, hk _ h4⟩
theorem nat_off {a b c : Nat} (h1 : ¬ a = b) (h2 : ¬ a = c) : ¬ (a : Int) = b ∧ ¬ (a : Int) = c := ⟨fun e => h1 (by omega), fun e => h2 (by omega)⟩
theorem St.one {τ τ' : Store} {b c d b2 c2 d2 : Nat} {W W2 : AV} {ns ms : List Str} {xs ys zs xs' : List Nat} (h : St τ b c d b2 c2 d2 W W2 ns ms xs ys zs) (hA : Apart b c d b2 c2 d2 ns ms)
    (h1 : TV τ' b c (ptrA b) ns xs') (h2 : LW τ' d W (ns.zip xs')) (hf : FrD (ptrA b) b c d (ns = []) τ τ') : St τ' b c d b2 c2 d2 W W2 ns ms xs' ys xs' := by
  have e1 : ns = [] ∨ ¬ (b2 : Int) = d := hA.o1.imp_right fun h e => h.1 (by omega)
  have e2 : ns = [] ∨ ¬ (c2 : Int) = d := hA.o1.imp_right fun h e => h.2.1 (by omega)
  refine ⟨h1, h.t2.keep (fun x hx => hf _ x (.inr (nat_off hA.bb hA.bc)) e1 hx) (fun x hx => hf _ x (.inr (nat_off hA.cb hA.cc)) e2 hx) (fun q x hx => hf _ x (.inr ⟨by simp, by simp⟩) (.inr (by simp)) hx), h2, h.l2.keep ?_, h1.ns.2.2⟩
  rcases hA.o2 with e | ⟨q1, q2, _⟩
  · exact .inl (by rw [e]; rfl)
  · rcases hA.dd with e | e | e
    · exact .inr fun x hx => hf _ x (.inr (nat_off q1 q2)) (.inl e) hx
    · exact .inl (by rw [e]; rfl)
    · exact .inr fun x hx => hf _ x (.inr (nat_off q1 q2)) (.inr fun e' => e (by omega)) hx
theorem St.two {τ τ' : Store} {b c d b2 c2 d2 : Nat} {W W2 : AV} {ns ms : List Str} {xs ys zs ys' : List Nat} (h : St τ b c d b2 c2 d2 W W2 ns ms xs ys zs) (hA : Apart b c d b2 c2 d2 ns ms)
    (h1 : TV τ' b2 c2 (ptrA b2) ms ys') (h2 : LW τ' d2 W2 (ms.zip ys')) (hf : FrD (ptrA b2) b2 c2 d2 (ms = []) τ τ') : St τ' b c d b2 c2 d2 W W2 ns ms xs ys' zs := by
  have e1 : ms = [] ∨ ¬ (b : Int) = d2 := hA.o2.imp_right fun h e => h.1 (by omega)
  have e2 : ms = [] ∨ ¬ (c : Int) = d2 := hA.o2.imp_right fun h e => h.2.1 (by omega)
  refine ⟨h.t1.keep (fun x hx => hf _ x (.inr (nat_off (fun e => hA.bb e.symm) (fun e => hA.cb e.symm))) e1 hx) (fun x hx => hf _ x (.inr (nat_off (fun e => hA.bc e.symm) (fun e => hA.cc e.symm))) e2 hx) (fun q x hx => hf _ x (.inr ⟨by simp, by simp⟩) (.inr (by simp)) hx), h1, h.l1.keep ?_, h2, h.lz⟩
  rcases hA.o1 with e | ⟨q1, q2, _⟩
  · exact .inl (by rw [e]; rfl)
  · rcases hA.dd with e | e | e
    · exact .inl (by rw [e]; rfl)
    · exact .inr fun x hx => hf _ x (.inr (nat_off q1 q2)) (.inl e) hx
    · exact .inr fun x hx => hf _ x (.inr (nat_off q1 q2)) (.inr fun e' => e (by omega)) hx
theorem St.sum {τ τ' : Store} {b c d b2 c2 d2 : Nat} {W W2 : AV} {ns ms : List Str} {xs ys zs xs' : List Nat} (h : St τ b c d b2 c2 d2 W W2 ns ms xs ys zs) (hA : Apart b c d b2 c2 d2 ns ms)
    (h1 : TV τ' b c (ptrA b) ns xs') (h2 : TV τ' b2 c2 (ptrA b2) ms ys) (hf : FrT (ptrA b) (ptrA b2) b c b2 c2 τ τ') : St τ' b c d b2 c2 d2 W W2 ns ms xs' ys zs := by
  refine ⟨h1, h2, h.l1.keep ?_, h.l2.keep ?_, h.lz⟩
  · rcases hA.o1 with e | ⟨q1, q2, q3, q4⟩
    · exact .inl (by rw [e]; rfl)
    · exact .inr fun x hx => hf _ x (.inr (nat_off q3 q4)) (.inr (nat_off q1 q2)) hx
  · rcases hA.o2 with e | ⟨q1, q2, q3, q4⟩
    · exact .inl (by rw [e]; rfl)
    · exact .inr fun x hx => hf _ x (.inr (nat_off q1 q2)) (.inr (nat_off q3 q4)) hx
theorem St.fr1 {τ τ' : Store} {b c d b2 c2 d2 : Nat} {W W2 : AV} {ns ms : List Str} {xs ys zs : List Nat} (h : St τ b c d b2 c2 d2 W W2 ns ms xs ys zs) (hA : Apart b c d b2 c2 d2 ns ms)
    (h1 : TV τ' b c (ptrA b) ns xs) (hf : Fr (ptrA b) b c τ τ') : St τ' b c d b2 c2 d2 W W2 ns ms xs ys zs :=
  h.sum hA h1 (h.t2.fr (.inr ⟨.inr (nat_off hA.bb hA.bc), .inr (nat_off hA.cb hA.cc)⟩) hf) fun k x o1 _ hx => hf k x o1 hx
theorem St.fr2 {τ τ' : Store} {b c d b2 c2 d2 : Nat} {W W2 : AV} {ns ms : List Str} {xs ys zs : List Nat} (h : St τ b c d b2 c2 d2 W W2 ns ms xs ys zs) (hA : Apart b c d b2 c2 d2 ns ms)
    (h2 : TV τ' b2 c2 (ptrA b2) ms ys) (hf : Fr (ptrA b2) b2 c2 τ τ') : St τ' b c d b2 c2 d2 W W2 ns ms xs ys zs :=
  h.sum hA (h.t1.fr (.inr ⟨.inr (nat_off (fun e => hA.bb e.symm) (fun e => hA.cb e.symm)), .inr (nat_off (fun e => hA.bc e.symm) (fun e => hA.cc e.symm))⟩) hf) h2 fun k x _ o2 hx => hf k x o2 hx
theorem St.sums {τ : Store} {b c d b2 c2 d2 : Nat} {W W2 : AV} {ns ms : List Str} {xs ys zs : List Nat} (h : St τ b c d b2 c2 d2 W W2 ns ms xs ys zs) (hA : Apart b c d b2 c2 d2 ns ms) :
    ACalls Try.prog 14 [ptrA b, ptrA b2] τ fun v σ' => v = .lit (.bool (fitsN ns ms)) ∧ St σ' b c d b2 c2 d2 W W2 ns ms (if fitsN ns ms = true then addAll ns xs (ms.zip ys) else xs) ys zs :=
  (tsum_calls h.t1 h.t2 (.inr ⟨.inr (nat_off hA.bb hA.bc), .inr (nat_off hA.cb hA.cc)⟩) (.inr ⟨.inr (nat_off (fun e => hA.bb e.symm) (fun e => hA.cb e.symm)), .inr (nat_off (fun e => hA.bc e.symm) (fun e => hA.cc e.symm))⟩)).mono
    fun v σ' ⟨h1, h2, h3, h4⟩ => ⟨by rw [h1]; rfl, h.sum hA h2 h3 h4⟩
theorem St.nothing {τ : Store} {b c d b2 c2 d2 : Nat} {W W2 : AV} {ns ms : List Str} {xs ys zs : List Nat} (h : St τ b c d b2 c2 d2 W W2 ns ms xs ys zs) :
    ACalls Try.prog 14 [ptrA b, .lit (.pointer none)] τ fun v _ => v = .lit (.bool true) :=
  (tsum_calls h.t1 (.inl ⟨rfl, rfl, rfl⟩ : TV τ 0 0 (.lit (.pointer none)) [] []) (.inl rfl) (.inr ⟨.inl rfl, .inl rfl⟩)).mono fun v σ' ⟨h1, _⟩ => by rw [h1]; rfl
theorem St.put {τ : Store} {b c d b2 c2 d2 : Nat} {W W2 : AV} {ns ms : List Str} {xs ys zs zs' : List Nat} (h : St τ b c d b2 c2 d2 W W2 ns ms xs ys zs) (hA : Apart b c d b2 c2 d2 ns ms) (hn : ¬ ns = []) (hl : zs'.length = ns.length) (rest : List AV) :
    St (τ.upd d (cA (ns.zip zs') ++ rest)) b c d b2 c2 d2 W W2 ns ms xs ys zs' := by
  obtain ⟨q1, q2, q3, q4⟩ := hA.o1.resolve_left hn
  refine ⟨h.t1.updD (.inr (nat_off q3 q4)) _, h.t2.updD (.inr (nat_off q1 q2)) _, ?_, h.l2.updO ?_ _, hl⟩
  · have hlz := h.lz
    have e1 : (ns.zip zs).length = ns.length := by rw [List.length_zip]; omega
    have e2 : (ns.zip zs').length = ns.length := by rw [List.length_zip]; omega
    rcases h.l1 with ⟨h1, _⟩ | ⟨cap, h1, h2, h3⟩
    · rw [h1] at e1
      exact absurd (List.length_eq_zero_iff.1 e1.symm) hn
    · exact .inr ⟨cap, by rw [h1, e1, e2], fun _ => ⟨rest, by rw [upd_nat, if_pos rfl]⟩, by omega⟩
  · rcases hA.dd with e | e | e
    · exact absurd e hn
    · exact .inl (by rw [e]; rfl)
    · exact .inr fun e' => e e'.symm
theorem updX_len (xs : List Nat) (o : Option Nat) (f : Nat → Nat) : (updX xs o f).length = xs.length := by unfold updX; split <;> simp
theorem addAll_len (ns : List Str) : ∀ (l : List Ct) (xs : List Nat), (addAll ns xs l).length = xs.length
  | [], _ => rfl
  | c :: l, xs => by
    show (addAll ns (updX xs (ixN ns c.1) _) l).length = _
    rw [addAll_len ns l, updX_len]
set_option maxRecDepth 8000 in
set_option maxHeartbeats 2000000 in
theorem sums_calls (one two : List (List UInt8)) (hn1 : one.length ≤ 9223372036854775807) (hn2 : two.length ≤ 9223372036854775807) (script other : List Opn) (hs1 : script.length ≤ 9223372036854775807) (hs2 : other.length ≤ 9223372036854775807) (σ : Store) :
    ACalls Try.prog 4 [.list false 1 (strsA one), .list false 1 (strsA two), .list false 3 (opnsA script), .list false 3 (opnsA other)] σ fun v _ => v = .lit (.bool true) := by
  have hfew1 := fun o τ => few_calls one hn1 o τ
  have hfl1 := fewN_len one
  have hfew2 := fun o τ => few_calls two hn2 o τ
  have hfl2 := fewN_len two
  generalize fewN one = l at *
  generalize fewN two = m at *
  have hrl := fun τ => rnew_calls l (by omega) true τ
  have hrm := fun τ => rnew_calls m (by omega) true τ
  have hnl := fun τ => new_calls (.list true 1 (strsA l)) l (by omega) τ (.inl ⟨_, rfl⟩)
  have hnm := fun τ => new_calls (.list true 1 (strsA m)) m (by omega) τ (.inl ⟨_, rfl⟩)
  obtain ⟨el, _, _⟩ := new_same l
  obtain ⟨em, _, _⟩ := new_same m
  refine ACalls.of_awp follows (st := st4) (plans := pl4) (n := 149) Try.func4 rfl (by kernel_rfl) (by kernel_rfl) (by kernel_rfl) ?_
  simp
  refine callK.of (awake_calls _) ?_
  rintro v σ1 ⟨rfl, _⟩
  simp
  refine callK.of (hfew1 _ _) ?_
  rintro v σ2 ⟨rfl, rfl⟩
  simp
  refine callK.of (hnl _) ?_
  rintro v σ3 hv
  obtain ⟨a, b, c, ns, xs, rfl, hT⟩ := newT hv
  clear hv
  simp
  refine callK.of (hfew1 _ _) ?_
  rintro v σ4 ⟨rfl, rfl⟩
  simp
  refine callK.of (hrl _) ?_
  rintro v σ5 ⟨V, rfl, hV, hs5⟩
  obtain ⟨W, d, hW, f1, f2, f3, f4, f7⟩ := newV hV
  rw [el]
  simp [f1, f2, f3, f4]
  refine callK.of (hfew2 _ _) ?_
  rintro v σ6 ⟨rfl, rfl⟩
  simp
  refine callK.of (hnm _) ?_
  rintro v σ7 hv
  obtain ⟨a2, b2, c2, ms, ys, rfl, hT2⟩ := newT hv
  clear hv
  simp
  refine callK.of (hfew2 _ _) ?_
  rintro v σ8 ⟨rfl, rfl⟩
  simp
  refine callK.of (hrm _) ?_
  rintro v σ9 ⟨V2, rfl, hV2, hs9⟩
  obtain ⟨W2, d2, hW2, g1, g2, g3, g4, g7⟩ := newV hV2
  rw [em]
  simp [g1, g2, g3, g4]
  by_cases hel : newE l = 0
  case neg => simp [hel]; exact ⟨_, Store.sub_refl _⟩
  by_cases hem : newE m = 0
  case neg => simp [hel, hem]; exact ⟨_, Store.sub_refl _⟩
  simp [hel, hem]
  have ha : ∃ x, a = some x := by
    cases ha : a with
    | none => exact absurd hel (hT.nil.1 (by rw [ha]; rfl))
    | some x => exact ⟨x, rfl⟩
  have ha2 : ∃ x, a2 = some x := by
    cases ha : a2 with
    | none => exact absurd hem (hT2.nil.1 (by rw [ha]; rfl))
    | some x => exact ⟨x, rfl⟩
  have hpa : AV.lit (.pointer a) = ptrA b := by
    obtain ⟨x, rfl⟩ := ha
    rcases hT.t with ⟨h, _⟩ | ⟨h, _⟩
    · cases h
    · exact h
  have hpa2 : AV.lit (.pointer a2) = ptrA b2 := by
    obtain ⟨x, rfl⟩ := ha2
    rcases hT2.t with ⟨h, _⟩ | ⟨h, _⟩
    · cases h
    · exact h
  rw [hpa, hpa2]
  have ht1 := hT.t
  have ht2 := hT2.t
  have ho := hT2.off
  rw [hpa] at ht1
  rw [hpa2] at ht2 ho
  obtain ⟨m1, hP⟩ : ∃ m, TP σ4 b c ns xs m := by
    rcases ht1 with ⟨h, _⟩ | ⟨_, h⟩
    · cases h
    · exact h
  obtain ⟨m2, hP2⟩ : ∃ m, TP σ8 b2 c2 ms ys m := by
    rcases ht2 with ⟨h, _⟩ | ⟨_, h⟩
    · cases h
    · exact h
  have hoff : ∀ (k : Nat) C, σ6 k = some C → ¬ b2 = k ∧ ¬ c2 = k := fun k C hk => by
    rcases ho k C hk with h | ⟨h1, h2⟩
    · cases h
    · exact ⟨fun e => h1 (by rw [e]), fun e => h2 (by rw [e])⟩
  have kb := sub_at hP.obj hs5
  have kc := sub_at hP.row hs5
  have hz1 := hT.z
  have hz2 := hT2.z
  rw [hz1] at hW f7
  rw [hz2] at hW2 g7
  have hns : ns.zip xs = [] → ns = [] := fun e => by
    have := congrArg List.length e
    rw [List.length_zip, hP.len] at this
    exact List.length_eq_zero_iff.1 (by simpa using this)
  have hms : ms.zip ys = [] → ms = [] := fun e => by
    have := congrArg List.length e
    rw [List.length_zip, hP2.len] at this
    exact List.length_eq_zero_iff.1 (by simpa using this)
  have hdk : ns.zip xs = [] ∨ ∃ C, σ6 d = some C := by
    rcases hW with ⟨h, _⟩ | ⟨cap, _, h, _⟩
    · exact .inl h
    · by_cases e : ns.zip xs = []
      · exact .inl e
      · obtain ⟨rest, h⟩ := h e; exact .inr ⟨_, h⟩
  have hA : Apart b c d b2 c2 d2 ns ms := by
    refine ⟨(hoff b _ kb).1, (hoff c _ kc).1, (hoff b _ kb).2, (hoff c _ kc).2, ?_, ?_, ?_⟩
    · rcases hdk with h | ⟨C, h⟩
      · exact .inl (hns h)
      · rcases f7 b _ hP.obj with e | e
        · exact .inl (hns e)
        · rcases f7 c _ hP.row with e' | e'
          · exact .inl (hns e')
          · exact .inr ⟨fun q => (hoff d C h).1 q.symm, fun q => (hoff d C h).2 q.symm, fun q => e q.symm, fun q => e' q.symm⟩
    · rcases g7 b _ (sub_at kb hT2.sub) with e | e
      · exact .inl (hms e)
      · rcases g7 c _ (sub_at kc hT2.sub) with e' | e'
        · exact .inl (hms e')
        · rcases g7 b2 _ hP2.obj with i | i
          · exact .inl (hms i)
          · rcases g7 c2 _ hP2.row with i' | i'
            · exact .inl (hms i')
            · exact .inr ⟨fun q => e q.symm, fun q => e' q.symm, fun q => i q.symm, fun q => i' q.symm⟩
    · rcases hdk with h | ⟨C, h⟩
      · exact .inl (hns h)
      · rcases g7 d _ (sub_at h hT2.sub) with e | e
        · exact .inr (.inl (hms e))
        · exact .inr (.inr fun q => e q.symm)
  have hS : St σ9 b c d b2 c2 d2 W W2 ns ms xs ys xs := by
    refine ⟨((ht1.more hs5).more hT2.sub).more hs9, ht2.more hs9, (hW.more hT2.sub).more hs9, hW2, hP.len⟩
  have hl64 := hP.le
  have hm64 := hP2.le
  have hxl := hP.len
  have hyl := hP2.len
  have hWf := hW.facts
  clear hT hT2 ht1 ht2 ho hP hP2 hoff kb kc hz1 hz2 hW hW2 f7 g7 hdk hV hV2 hs5 hs9 hrl hrm hnl hnm hfew1 hfew2
  refine codeK.loop follows (st := st4) (plans := pl4) (X := Nat × List Nat × Store) (fun x => x.1 ≤ script.length ∧ St x.2.2 b c d b2 c2 d2 W W2 ns ms x.2.1 ys x.2.1)
    (fun x => [(3, .list false 3 (opnsA other)), (9, ptrA b), (11, W), (13, ptrA b2), (15, W2), (58, .list false 3 (opnsA script)), (59, .lit (.int .i64 script.length)), (60, .lit (.int .i64 x.1))]) (fun x => x.2.2) (fun x => script.length - x.1) (0, xs, σ9) (by kernel_rfl)
    ⟨Nat.zero_le _, hS⟩ (by simp [f3, g3]) (Store.sub_refl _) ?_
  rintro ⟨j, us, υ⟩ ⟨hj, hSj⟩
  dsimp only at hj hSj ⊢
  by_cases hlt2 : j < script.length
  · obtain ⟨x, hx⟩ : ∃ x, script[j] = x := ⟨_, rfl⟩
    have hlw : IntKind.i64.wrap ((j : Int) + 1) = ((j + 1 : Nat) : Int) := wrap_i64 (by omega) (by omega)
    obtain ⟨xd, xn, xv⟩ := x
    have hg1 : (opnsA script)[j]? = some (.agg [.lit (.int .u8 xd.toNat), .lit (.string (toB xn)), .lit (.int .u64 xv)]) := by simp [opnsA, opnA, hlt2, hx]
    have hg2 : ∀ h : j < (opnsA script).length, (opnsA script)[j]'h = .agg [.lit (.int .u8 xd.toNat), .lit (.string (toB xn)), .lit (.int .u64 xv)] := fun h => by simp [opnsA, opnA, hx]
    by_cases h20 : j < 20
    · have h20' : (j : Int) < 20 := by omega
      simp [hlt2, hg1, hg2, h20, h20', f3, f4]
      intro z hz
      have hsz := Store.sub_upd (cs := [AV.lit (.int .u8 xd.toNat), .lit (.string (toB xn)), .lit (.int .u64 xv)]) hz (Store.sub_refl υ)
      have hS2 := hSj.more hsz
      refine callK.of (do_calls xd xn xv hS2.t1 hS2.l1) ?_
      rintro v υ3 ⟨rfl, hT3, hW3, hF3⟩
      have hS3 := hS2.one hA hT3 hW3 hF3
      simp
      exact ⟨j + 1, _, υ3, ⟨by omega, hS3⟩, by omega, by rw [hlw]; exact AV.le_refl _, Store.sub_refl _⟩
    · have h20' : ¬ (j : Int) < 20 := by omega
      simp [hlt2, hg1, hg2, h20, h20', f3, f4]
      exact fun z hz => ⟨j + 1, us, _, ⟨by omega, hSj.more (Store.sub_upd hz (Store.sub_refl υ))⟩, by omega, by rw [hlw]; exact AV.le_refl _, Store.sub_refl _⟩
  · obtain rfl : j = script.length := by omega
    simp [g3]
    refine codeK.loop follows (st := st4) (plans := pl4) (X := Nat × List Nat × Store) (fun x => x.1 ≤ other.length ∧ St x.2.2 b c d b2 c2 d2 W W2 ns ms us x.2.1 us)
      (fun x => [(9, ptrA b), (11, W), (13, ptrA b2), (15, W2), (75, .list false 3 (opnsA other)), (76, .lit (.int .i64 other.length)), (77, .lit (.int .i64 x.1))]) (fun x => x.2.2) (fun x => other.length - x.1) (0, ys, υ) (by kernel_rfl)
      ⟨Nat.zero_le _, hSj⟩ (by simp [f3, g3]) (Store.sub_refl _) ?_
    clear hSj hyl hS
    rintro ⟨j, vs, υ2⟩ ⟨hj, hSj⟩
    dsimp only at hj hSj ⊢
    by_cases hlt2 : j < other.length
    · obtain ⟨x, hx⟩ : ∃ x, other[j] = x := ⟨_, rfl⟩
      have hlw : IntKind.i64.wrap ((j : Int) + 1) = ((j + 1 : Nat) : Int) := wrap_i64 (by omega) (by omega)
      obtain ⟨xd, xn, xv⟩ := x
      have hg1 : (opnsA other)[j]? = some (.agg [.lit (.int .u8 xd.toNat), .lit (.string (toB xn)), .lit (.int .u64 xv)]) := by simp [opnsA, opnA, hlt2, hx]
      have hg2 : ∀ h : j < (opnsA other).length, (opnsA other)[j]'h = .agg [.lit (.int .u8 xd.toNat), .lit (.string (toB xn)), .lit (.int .u64 xv)] := fun h => by simp [opnsA, opnA, hx]
      by_cases h20 : j < 20
      · have h20' : (j : Int) < 20 := by omega
        simp [hlt2, hg1, hg2, h20, h20', g3, g4]
        intro z hz
        have hS2 := hSj.more (Store.sub_upd (cs := [AV.lit (.int .u8 xd.toNat), .lit (.string (toB xn)), .lit (.int .u64 xv)]) hz (Store.sub_refl υ2))
        refine callK.of (do_calls xd xn xv hS2.t2 hS2.l2) ?_
        rintro v υ3 ⟨rfl, hT3, hW3, hF3⟩
        have hS3 := hS2.two hA hT3 hW3 hF3
        simp
        exact ⟨j + 1, _, υ3, ⟨by omega, hS3⟩, by omega, by rw [hlw]; exact AV.le_refl _, Store.sub_refl _⟩
      · have h20' : ¬ (j : Int) < 20 := by omega
        simp [hlt2, hg1, hg2, h20, h20', g3, g4]
        exact fun z hz => ⟨j + 1, vs, _, ⟨by omega, hSj.more (Store.sub_upd hz (Store.sub_refl υ2))⟩, by omega, by rw [hlw]; exact AV.le_refl _, Store.sub_refl _⟩
    · obtain rfl : j = other.length := by omega
      have hyl := hSj.t2.ns.2.2
      have hul := hSj.t1.ns.2.2
      have hlen2 := hSj.l2.len
      have hzl2 : (ms.zip vs).length = ms.length := by rw [List.length_zip]; omega
      rw [hzl2] at hlen2
      have hgt : ∀ k (hk : k < ms.length), (ms.zip vs)[k]'(by omega) = (ms.getD k [], vs.getD k 0) := fun k hk => by
        rw [List.getElem_zip]; simp [List.getD_eq_getElem?_getD, hk, show k < vs.length by omega]
      simp [g3, g4, hlen2]
      refine codeK.loop follows (st := st4) (plans := pl4) (X := Nat × Store) (fun x => x.1 ≤ ms.length ∧ St x.2 b c d b2 c2 d2 W W2 ns ms us vs us)
        (fun x => [(9, ptrA b), (11, W), (13, ptrA b2), (15, W2), (21, .lit (.bool (fitsN ns (ms.take x.1)))), (92, W2), (93, .lit (.int .i64 ms.length)), (94, .lit (.int .i64 x.1))]) (fun x => x.2) (fun x => ms.length - x.1) (0, υ2) (by kernel_rfl)
        ⟨Nat.zero_le _, hSj⟩ (by simp [f3, g3, fitsN]) (Store.sub_refl _) ?_
      rintro ⟨k, υ3⟩ ⟨hk, hSk⟩
      dsimp only at hk hSk ⊢
      by_cases hlt3 : k < ms.length
      · have hlw : IntKind.i64.wrap ((k : Int) + 1) = ((k + 1 : Nat) : Int) := wrap_i64 (by omega) (by omega)
        have hl2 := hSk.l2
        rcases hl2 with ⟨h, _⟩ | ⟨cap2, rfl, hdd2, hcap2⟩
        · rw [h] at hzl2; simp at hzl2; omega
        obtain ⟨rest2, hd2⟩ := hdd2 (fun h => by rw [h] at hzl2; simp at hzl2; omega)
        have g5 := cA_two (ms.zip vs) rest2 (k := k) (by omega)
        have hlc : (cA (ms.zip vs) ++ rest2).length = ms.length * 2 + rest2.length := by rw [List.length_append, cA_length, hzl2]
        have hbd : k * 2 + 2 ≤ ms.length * 2 + rest2.length := by omega
        have htk : ms.take (k + 1) = ms.take k ++ [ms.getD k []] := by rw [List.take_succ_eq_append_getElem hlt3]; simp [List.getD_eq_getElem?_getD, hlt3]
        have hfs : fitsN ns (ms.take (k + 1)) = (fitsN ns (ms.take k) && (ixN ns (ms.getD k [])).isSome) := by rw [htk]; simp [fitsN]
        rw [hgt k hlt3] at g5
        simp only [strV] at g5
        rw [hzl2] at hSk ⊢
        generalize cA (ms.zip vs) ++ rest2 = CC at *
        generalize List.getD ms k [] = x at *
        generalize (vs.getD k 0) = y at *
        cases hfk : fitsN ns (ms.take k) with
        | false =>
          rw [hfk] at hfs
          simp [hlt3, hd2, hlc, g5, hbd, mkAV_true]
          exact fun z hz => ⟨k + 1, _, ⟨by omega, hSk.more (Store.sub_upd hz (Store.sub_refl υ3))⟩, by omega, ⟨by rw [hfs]; exact AV.le_refl _, by rw [hlw]; exact AV.le_refl _⟩, Store.sub_refl _⟩
        | true =>
          rw [hfk] at hfs
          simp [hlt3, hd2, hlc, g5, hbd, mkAV_true, f3, f4]
          intro z hz
          have hS3 := hSk.more (Store.sub_upd (cs := [AV.lit (.string (toB x)), .lit (.int .u64 y)]) hz (Store.sub_refl υ3))
          have hfi := find_calls d W (ns.zip us) (by rw [List.length_zip]; omega) x _ hS3.l1
          rw [findC_zip _ _ hul] at hfi
          refine callK.of hfi ?_
          rintro v υ4 ⟨rfl, rfl⟩
          cases hix : ixN ns x with
          | none =>
            rw [hix] at hfs
            simp [ixI]
            exact ⟨k + 1, _, ⟨by omega, hS3⟩, by omega, ⟨by rw [hfs]; exact AV.le_refl _, by rw [hlw]; exact AV.le_refl _⟩, Store.sub_refl _⟩
          | some i =>
            rw [hix] at hfs
            simp [ixI]
            exact ⟨k + 1, _, ⟨by omega, hS3⟩, by omega, ⟨by rw [hfs]; exact AV.le_refl _, by rw [hlw]; exact AV.le_refl _⟩, Store.sub_refl _⟩
      · obtain rfl : k = ms.length := by omega
        rw [List.take_length]
        cases hfit : fitsN ns ms with
        | false =>
          simp
          refine callK.of (hSk.sums hA) ?_
          rintro v υ4 ⟨rfl, hS4⟩
          rw [hfit] at *
          simp
          refine callK.of (all_calls 1000 (by omega) hS4.t1) ?_
          rintro v υ5 ⟨rfl, t5, r5⟩
          have hS5 := hS4.fr1 hA t5 r5
          have hz5 : (ns.zip us).length ≤ 64 := by rw [List.length_zip]; omega
          rw [List.take_of_length_le (by simp at hz5 ⊢; omega)]
          simp [f3, f4]
          refine callK.of (same_calls d W (ns.zip us) (ns.zip us) (by omega) hz5 false υ5 hS5.l1) ?_
          rintro v υ6 ⟨rfl, rfl⟩
          simp
          refine callK.of (all_calls 1000 (by omega) hS5.t2) ?_
          rintro v υ7 ⟨rfl, t7, r7⟩
          have hS7 := hS5.fr2 hA t7 r7
          have hz7 : (ms.zip vs).length ≤ 64 := by omega
          rw [List.take_of_length_le (by omega)]
          simp [g3, g4]
          refine callK.of (same_calls d2 W2 (ms.zip vs) (ms.zip vs) (by omega) hz7 false υ7 hS7.l2) ?_
          rintro v υ8 ⟨rfl, rfl⟩
          simp
          refine callK.of hS7.nothing ?_
          rintro v υ9 rfl
          simp
          exact ⟨_, Store.sub_refl _⟩
        | true =>
          simp [hlen2, g3, g4]
          refine codeK.loop follows (st := st4) (plans := pl4) (X := Nat × Store) (fun x => x.1 ≤ ms.length ∧ St x.2 b c d b2 c2 d2 W W2 ns ms us vs (addAll ns us ((ms.zip vs).take x.1)))
            (fun x => [(9, ptrA b), (11, W), (13, ptrA b2), (15, W2), (21, .lit (.bool true)), (108, W2), (109, .lit (.int .i64 ms.length)), (110, .lit (.int .i64 x.1))]) (fun x => x.2) (fun x => ms.length - x.1) (0, υ3) (by kernel_rfl)
            ⟨Nat.zero_le _, hSk⟩ (by simp [f3, g3]) (Store.sub_refl _) ?_
          clear hSk
          rintro ⟨k, υ3⟩ ⟨hk, hSk⟩
          dsimp only at hk hSk ⊢
          by_cases hlt3 : k < ms.length
          · have hlw : IntKind.i64.wrap ((k : Int) + 1) = ((k + 1 : Nat) : Int) := wrap_i64 (by omega) (by omega)
            have hl2 := hSk.l2
            rcases hl2 with ⟨h, _⟩ | ⟨cap2, rfl, hdd2, hcap2⟩
            · rw [h] at hzl2; simp at hzl2; omega
            obtain ⟨rest2, hd2⟩ := hdd2 (fun h => by rw [h] at hzl2; simp at hzl2; omega)
            have g5 := cA_two (ms.zip vs) rest2 (k := k) (by omega)
            have hlc : (cA (ms.zip vs) ++ rest2).length = ms.length * 2 + rest2.length := by rw [List.length_append, cA_length, hzl2]
            have hbd : k * 2 + 2 ≤ ms.length * 2 + rest2.length := by omega
            have hzk := zip_get hyl hlt3
            obtain ⟨i, hix⟩ : ∃ i, ixN ns (ms.getD k []) = some i := by
              have := List.all_eq_true.1 (show ms.all _ = true from hfit) (ms.getD k []) (by simp [List.getD_eq_getElem?_getD, hlt3])
              exact Option.isSome_iff_exists.1 this
            have hin := ixN_lt hix
            have hnn : ¬ ns = [] := fun e => by rw [e] at hin; simp at hin
            have hadd : addAll ns us ((ms.zip vs).take (k + 1)) = (addAll ns us ((ms.zip vs).take k)).set i (((addAll ns us ((ms.zip vs).take k)).getD i 0 + vs.getD k 0) % 18446744073709551616) := by
              rw [hzk, addAll_snoc, hix]; rfl
            rw [hgt k hlt3] at g5
            simp only [strV] at g5
            rw [hzl2] at hSk ⊢
            generalize cA (ms.zip vs) ++ rest2 = CC at *
            generalize List.getD ms k [] = x at *
            generalize (vs.getD k 0) = y at *
            have hzl := hSk.lz
            generalize hZ : addAll ns us ((ms.zip vs).take k) = zs at *
            have hzz : (ns.zip zs).length = ns.length := by rw [List.length_zip]; omega
            have hl1 := hSk.l1
            rcases hl1 with ⟨h, _⟩ | ⟨cap1, rfl, hdd1, hcap1⟩
            · rw [h] at hzz; simp at hzz; omega
            obtain ⟨rest1, hd1⟩ := hdd1 (fun h => by rw [h] at hzz; simp at hzz; omega)
            have hiz : i < (ns.zip zs).length := by omega
            have hw2 := (cA_at (ns.zip zs) rest1 hiz).2
            have hx2 : (ns.zip zs)[i].2 = zs.getD i 0 := by simp [List.getElem_zip, List.getD_eq_getElem?_getD, show i < zs.length by omega]
            rw [hx2] at hw2
            have hset := cA_set (ns.zip zs) rest1 hiz ((zs.getD i 0 + y) % 18446744073709551616)
            rw [zip_set, ← wrap_u64n] at hset
            have hlc1 : (cA (ns.zip zs) ++ rest1).length = ns.length * 2 + rest1.length := by rw [List.length_append, cA_length, hzz]
            have hbd1 : i * 2 + 1 < ns.length * 2 + rest1.length := by omega
            have hbd3 : i * 2 + 1 + 1 ≤ ns.length * 2 + rest1.length := by omega
            have hput := hSk.put hA hnn (zs' := zs.set i ((zs.getD i 0 + y) % 18446744073709551616)) (by simp [hzl]) rest1
            have hfi := fun τ h => find_calls d (sliA d (ns.zip zs).length cap1) (ns.zip zs) (by omega) x τ h
            simp only [findC_zip _ _ hzl, hix, ixI] at hfi
            have hg2 : ∀ h : i * 2 + 1 < (cA (ns.zip zs) ++ rest1).length, (cA (ns.zip zs) ++ rest1)[i * 2 + 1]'h = .lit (.int .u64 ((zs.getD i 0 : Nat) : Int)) := fun h => by rw [List.getElem?_eq_getElem h] at hw2; exact Option.some.inj hw2
            rw [hzz] at *
            generalize cA (ns.zip zs) ++ rest1 = CC1 at *
            simp only [List.getD_eq_getElem?_getD] at hset hput hg2 hw2 hadd ⊢
            generalize zs[i]?.getD 0 = w at *
            simp [hlt3, hd2, hlc, g5, hbd, mkAV_true]
            intro z hz
            have hS3 := hSk.more (Store.sub_upd (cs := [AV.lit (.string (toB x)), .lit (.int .u64 y)]) hz (Store.sub_refl υ3))
            have ed : (υ3.upd z [AV.lit (.string (toB x)), .lit (.int .u64 y)]) d = some CC1 := sub_at hd1 (Store.sub_upd hz (Store.sub_refl υ3))
            have ez : (υ3.upd z [AV.lit (.string (toB x)), .lit (.int .u64 y)]) z = some [AV.lit (.string (toB x)), .lit (.int .u64 y)] := by simp
            have hput := hS3.put hA hnn (zs' := zs.set i ((w + y) % 18446744073709551616)) (by simp [hzl]) rest1
            generalize υ3.upd z [AV.lit (.string (toB x)), .lit (.int .u64 y)] = υ4 at *
            with_reducible apply And.intro
            all_goals
              refine callK.of (hfi υ4 hS3.l1) ?_
              rintro v υ5 ⟨rfl, rfl⟩
              simp [ed, ez, hin, hlc1, hbd1, hbd3, hw2, hg2, hset]
              exact ⟨k + 1, _, ⟨by omega, by rw [hadd]; exact hput⟩, by omega, by rw [hlw]; exact AV.le_refl _, Store.sub_refl _⟩
          · obtain rfl : k = ms.length := by omega
            have e : (ms.zip vs).take ms.length = ms.zip vs := List.take_of_length_le (by omega)
            rw [e] at hSk
            have hal := addAll_len ns (ms.zip vs) us
            simp
            refine callK.of (hSk.sums hA) ?_
            rintro v υ4 ⟨rfl, hS4⟩
            rw [hfit] at *
            simp
            refine callK.of (all_calls 1000 (by omega) hS4.t1) ?_
            rintro v υ5 ⟨rfl, t5, r5⟩
            have hS5 := hS4.fr1 hA t5 r5
            have hz5 : (ns.zip (addAll ns us (ms.zip vs))).length ≤ 64 := by rw [List.length_zip]; omega
            rw [List.take_of_length_le (by simp at hz5 ⊢; omega)]
            simp [f3, f4]
            refine callK.of (same_calls d W (ns.zip (addAll ns us (ms.zip vs))) (ns.zip (addAll ns us (ms.zip vs))) (by omega) hz5 false υ5 hS5.l1) ?_
            rintro v υ6 ⟨rfl, rfl⟩
            simp
            refine callK.of (all_calls 1000 (by omega) hS5.t2) ?_
            rintro v υ7 ⟨rfl, t7, r7⟩
            have hS7 := hS5.fr2 hA t7 r7
            have hz7 : (ms.zip vs).length ≤ 64 := by omega
            rw [List.take_of_length_le (by omega)]
            simp [g3, g4]
            refine callK.of (same_calls d2 W2 (ms.zip vs) (ms.zip vs) (by omega) hz7 false υ7 hS7.l2) ?_
            rintro v υ8 ⟨rfl, rfl⟩
            simp
            refine callK.of hS7.nothing ?_
            rintro v υ9 rfl
            simp
            exact ⟨_, Store.sub_refl _⟩
end Go.Proofs.Ytgelodhkbpmlfaa
/-
  Arguments opened; TallyNil for a string's bytes.
-/
namespace Go.Proofs.Ytgelodhkbpmlfaa
open Go Go.AL
theorem open_u64 : Opens Try.prog 33 (fun n : Nat => [.lit (.int .u64 (n : Int))]) (fun _ => True) :=
  (Opens.int (k := .u64) Try.underlying33).by Int.toNat fun n h => ⟨trivial, by
    have : 0 ≤ n := by
      have := h
      have hm : IntKind.u64.min = 0 := rfl
      simp [Lit.wf, hm] at this
      omega
    rw [Int.toNat_of_nonneg this]⟩
theorem toB_of (s : ByteArray) : toB s.data.toList = s := by cases s; simp [toB]
end Go.Proofs.Ytgelodhkbpmlfaa
/-
  Arguments opened: names, scripts; TallyPlays for what is read.
-/
namespace Go.Proofs.Ytgelodhkbpmlfaa
open Go Go.AL
theorem open_str : Opens Try.prog 9 (fun s : List UInt8 => [strV s]) (fun _ => True) :=
  (Opens.string Try.underlying9).by (fun s => s.data.toList) fun s _ => ⟨trivial, by simp [strV, toB_of]⟩
theorem open_strs : Opens Try.prog 22 (fun l : List (List UInt8) => [.list false 1 (strsA l)]) (fun l => l.length ≤ maxLen) :=
  (Opens.slice Try.underlying22 (sz := 1) (by kernel_rfl) (by omega) open_str strV (fun _ => rfl) (fun _ => rfl)).by id fun _ h => ⟨h.1, rfl⟩
theorem open_opn : Opens Try.prog 35 (fun o : Opn => [.lit (.int .u8 o.d.toNat), strV o.name, .lit (.int .u64 o.n)]) (fun _ => True) :=
  (Opens.struct (total := 3) Try.underlying35 (by kernel_rfl)
    (.cons (k := 1) rfl (by kernel_rfl) (by omega) (Opens.u8 Try.underlying5) (.cons (k := 1) rfl (by kernel_rfl) (by omega) open_str (.cons (k := 1) rfl (by kernel_rfl) (by omega) open_u64 .nil)))).by
    (fun x => ⟨x.1, x.2.1, x.2.2.1⟩) fun _ _ => ⟨trivial, rfl⟩
theorem open_opns : Opens Try.prog 23 (fun l : List Opn => [.list false 3 (opnsA l)]) (fun l => l.length ≤ maxLen) :=
  (Opens.slice Try.underlying23 (by kernel_rfl) (by omega) open_opn opnA (fun _ => rfl) (fun _ => rfl)).by id fun _ h => ⟨h.1, rfl⟩
end Go.Proofs.Ytgelodhkbpmlfaa
/-
  TallySums for what is read.
-/
namespace Go.Proofs.Ytgelodhkbpmlfaa
open Go Go.AL
theorem tallySums_law (l m : List (List UInt8)) (hl : l.length ≤ maxLen) (hm : m.length ≤ maxLen) (s o : List Opn) (hs : s.length ≤ maxLen) (ho : o.length ≤ maxLen) (σ : Store) :
    ACalls Try.prog 4 [.list false 1 (strsA l), .list false 1 (strsA m), .list false 3 (opnsA s), .list false 3 (opnsA o)] σ fun v _ => v = .lit (.bool true) :=
  sums_calls l m (by unfold maxLen at hl; omega) (by unfold maxLen at hm; omega) s o (by unfold maxLen at hs; omega) (by unfold maxLen at ho; omega) σ
end Go.Proofs.Ytgelodhkbpmlfaa
