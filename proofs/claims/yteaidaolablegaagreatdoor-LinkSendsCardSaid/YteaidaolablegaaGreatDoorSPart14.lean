/-
  Escape, of the program and of the reference: each ff twice.
-/
import Derived.Test.YteaidaolablegaaGreatDoorSPart13
set_option linter.unusedSimpArgs false
set_option linter.unusedVariables false
namespace Go.Proofs.YteaidaolablegaaGreatDoor
open Go Go.AL

@[simp] theorem callable118 : callable Tryz.prog 118 = false := nr (by kernel_rfl)
set_option maxRecDepth 8000 in
theorem ext118 (o : Bool) (l : List UInt8) (c : UInt8) (σ : Store) : AExt Tryz.prog 118 [.list o 1 (bytesA l), byteA c] σ fun v σ' => v = .lit (.int .i64 (l.count c)) ∧ σ' = σ :=
  ext_count Tryz.func118 (by kernel_rfl) (by kernel_rfl) (by kernel_rfl) (by kernel_rfl) o l c σ
set_option maxRecDepth 8000 in
theorem count_calls (o o' : Bool) (l : List UInt8) (c : UInt8) (σ : Store) :
    ACalls Tryz.prog 103 [.list o 1 (bytesA l), .list o' 1 (bytesA [c])] σ fun v σ' => v = .lit (.int .i64 (l.count c)) ∧ σ' = σ := by
  refine ACalls.of_awp follows (st := st103) (plans := pl103) (n := 35) Tryz.func103 rfl (by kernel_rfl) (by kernel_rfl) (by kernel_rfl) ?_
  simp [bytesA, byteA]
  refine extK.of (ext118 false l c σ) ?_
  rintro v σ' ⟨rfl, rfl⟩
  simp

/-- How far bytes.Replace is: what it has read, what it has written. -/
def RepInv (l : List UInt8) (c : UInt8) (new : List UInt8) (i st : Nat) (rest : List AV) : Prop :=
  st ≤ l.length ∧ (l.drop st).count c + i = l.count c ∧ (escOf c new (l.take st)).length + rest.length = (escOf c new l).length

set_option maxHeartbeats 1000000 in
set_option maxRecDepth 10000 in
theorem replace_calls (o o1 o2 : Bool) (l : List UInt8) (c : UInt8) (new : List UInt8) (σ : Store) (hl : l.length ≤ 1000000) (hn : 1 ≤ new.length) (hn2 : new.length ≤ 100) :
    ACalls Tryz.prog 87 [.list o 1 (bytesA l), .list o1 1 (bytesA [c]), .list o2 1 (bytesA new), .lit (.int .i64 (-1))] σ fun v σ' => v = .list true 1 (bytesA (escOf c new l)) ∧ σ' = σ := by
  refine ACalls.shift (R := fun v σ' => (v = .list true 1 (bytesA (escOf c new l)) ∧ σ' = σ) ∨ ∃ p : Nat, σ p = none ∧ v = rowA p (escOf c new l).length (escOf c new l) ∧ σ' = σ.upd p (bytesA (escOf c new l))) ?_ ?_
  · refine ACalls.of_awp follows (st := st87) (plans := pl87) (n := 132) Tryz.func87 rfl (by kernel_rfl) (by kernel_rfl) (by kernel_rfl) ?_
    simp
    refine callK.of (count_calls false false l c σ) ?_
    rintro v σ' ⟨rfl, rfl⟩
    have hcl := l.count_le_length (a := c)
    have hlen := escOf_length c new l
    have hnb : l.count c * new.length ≤ l.count c * 100 := Nat.mul_le_mul_left _ hn2
    have hnb1 : l.count c * 1 ≤ l.count c * new.length := Nat.mul_le_mul_left _ hn
    by_cases h0 : l.count c = 0
    · have hc : c ∉ l := List.count_eq_zero.1 h0
      simp [h0]
      refine ⟨by omega, by omega, _, AV.le_refl _, _, Store.sub_refl _, .inl ⟨by rw [escOf_none c new l hc], rfl⟩⟩
    · have hN : IntKind.i64.wrap ((l.length : Int) + IntKind.i64.wrap ((l.count c : Int) * IntKind.i64.wrap ((new.length : Int) - 1))) = ((escOf c new l).length : Int) := by
        rw [wrap_i64 (n := (new.length : Int) - 1) (by omega) (by omega), Int.mul_sub, Int.mul_one, ← Int.natCast_mul]
        rw [wrap_i64 (n := ((l.count c * new.length : Nat) : Int) - (l.count c : Int)) (by omega) (by omega), wrap_i64 (by omega) (by omega)]
        omega
      simp [h0, hN]
      refine ⟨by omega, by omega, fun p hp => ?_⟩
      generalize hNN : (escOf c new l).length = N at *
      have hzero : (List.replicate N [AV.lit (.int .u8 0)]).flatten.length = N := by simp
      refine codeK.loop follows (st := st87) (plans := pl87) (X := Nat × Nat × List AV) (fun x => x.1 ≤ l.count c ∧ RepInv l c new x.1 x.2.1 x.2.2)
        (fun x => [(0, .list false 1 (bytesA l)), (1, .list false 1 (bytesA [c])), (2, .list false 1 (bytesA new)), (10, .lit (.slice (some ⟨p, 0, none⟩) N N)), (11, .lit (.int .i64 (escOf c new (l.take x.2.1)).length)), (12, .lit (.int .i64 x.2.1)), (48, .lit (.int .i64 (l.count c))), (49, .lit (.int .i64 x.1))])
        (fun x => σ'.upd p (bytesA (escOf c new (l.take x.2.1)) ++ x.2.2)) (fun x => l.count c - x.1) (0, 0, (List.replicate N [AV.lit (.int .u8 0)]).flatten) (by kernel_rfl)
        ⟨by simp, by simp, by simp, by rw [hzero, List.take_zero, hNN]; show 0 + N = N; omega⟩ (by simp [escOf, bytesA]) (by simp [escOf, bytesA]) fun x hx => ?_
      obtain ⟨i, st, rest⟩ := x
      obtain ⟨hi, h1, h2, h3⟩ := hx
      dsimp only at hi h1 h2 h3 ⊢
      rw [hNN] at h3
      by_cases hlt : i < l.count c
      · obtain ⟨pre, post, e1, e2, e3⟩ := indexByte_split (l.drop st) c (by omega)
        have hpl : st + pre.length + 1 + post.length = l.length := by
          have := congrArg List.length e1
          simp at this; omega
        have htk : l.take (st + pre.length + 1) = l.take st ++ pre ++ [c] := by
          have : l = l.take st ++ (pre ++ c :: post) := by rw [← e1, List.take_append_drop]
          conv => lhs; rw [this]
          rw [List.take_append, List.length_take, List.take_of_length_le (l := l.take st) (by simp; omega)]
          have hk : st + pre.length + 1 - min st l.length = pre.length + 1 := by omega
          rw [hk, List.append_assoc]
          congr 1
          rw [List.take_append, List.take_of_length_le (by omega)]
          simp
        have hdr : l.drop (st + pre.length + 1) = post := by
          rw [Nat.add_assoc, ← List.drop_drop, e1]; simp
        have hesc : escOf c new (l.take (st + pre.length + 1)) = escOf c new (l.take st) ++ pre ++ new := by
          rw [htk, escOf_append, escOf_append, escOf_none c new pre e2]; simp [escOf]
        have hcn : (l.drop (st + pre.length + 1)).count c + (i + 1) = l.count c := by
          rw [hdr]
          rw [e1] at h2
          have hp0 : pre.count c = 0 := List.count_eq_zero.2 e2
          simp [List.count_append, List.count_cons, hp0] at h2
          omega
        have htot : (escOf c new (l.take st)).length + pre.length + new.length ≤ N := by
          have := congrArg List.length hesc
          have h9 : escOf c new l = escOf c new (l.take (st + pre.length + 1)) ++ escOf c new (l.drop (st + pre.length + 1)) := by rw [← escOf_append, List.take_append_drop]
          have h10 := congrArg List.length h9
          rw [List.length_append, hNN, this] at h10
          simp at h10; omega
        generalize hA : escOf c new (l.take st) = A at *
        have hfull : (bytesA l).take l.length = bytesA l := List.take_of_length_le (by simp)
        have hAr : (bytesA A ++ rest).length = N := by simp; omega
        have hw1 : IntKind.i64.wrap ((st : Int) + (pre.length : Int)) = ((st + pre.length : Nat) : Int) := by rw [wrap_i64 (by omega) (by omega)]; omega
        have hle1 : A.length ≤ N := by omega
        have hne1 : ¬ N = A.length := by omega
        have hle2 : A.length + pre.length ≤ N := by omega
        have hne2 : ¬ N = A.length + pre.length := by omega
        have hsl : List.drop st (List.take (st + pre.length) (bytesA l)) = bytesA pre := by
          rw [bytesA_take, bytesA_drop]
          congr 1
          rw [List.drop_take, Nat.add_sub_cancel_left, e1]
          simp
        have hm1 : min (N - A.length) pre.length = pre.length := by omega
        have hm2 : min (N - (A.length + pre.length)) new.length = new.length := by omega
        have hs1 : setRange (bytesA A ++ rest) A.length (bytesA pre) = bytesA (A ++ pre) ++ rest.drop pre.length := by
          have := setRange_app (bytesA A) rest (bytesA pre) (by simp; omega)
          rw [bytesA_length, bytesA_length] at this
          rw [this, bytesA_append]
        have hs2 : setRange (bytesA (A ++ pre) ++ rest.drop pre.length) (A.length + pre.length) (bytesA new) = bytesA (A ++ pre ++ new) ++ rest.drop (pre.length + new.length) := by
          have := setRange_app (bytesA (A ++ pre)) (rest.drop pre.length) (bytesA new) (by simp; omega)
          rw [bytesA_length, bytesA_length, List.length_append, List.drop_drop] at this
          rw [this, bytesA_append (A ++ pre)]
        have hw2 : IntKind.i64.wrap ((A.length : Int) + (pre.length : Int)) = ((A.length + pre.length : Nat) : Int) := by rw [wrap_i64 (by omega) (by omega)]; omega
        have hw3 : IntKind.i64.wrap (((A.length + pre.length : Nat) : Int) + (new.length : Int)) = ((A.length + pre.length + new.length : Nat) : Int) := by rw [wrap_i64 (by omega) (by omega)]; omega
        have hfn : (bytesA new).take new.length = bytesA new := List.take_of_length_le (by simp)
        have hfp : (bytesA pre).take pre.length = bytesA pre := List.take_of_length_le (by simp)
        simp [hlt, bytesA_drop, hfull, h1]
        refine callK.of (index_calls false false (l.drop st) c _) ?_
        rintro v σ2 ⟨rfl, rfl⟩
        rw [e3]
        obtain ⟨j, hj⟩ : ∃ j, st + pre.length = j := ⟨_, rfl⟩
        obtain ⟨w2, hw2'⟩ : ∃ w2, A.length + pre.length = w2 := ⟨_, rfl⟩
        obtain ⟨w3, hw3'⟩ : ∃ w3, w2 + new.length = w3 := ⟨_, rfl⟩
        rw [hj] at hw1 hsl
        rw [hw2'] at hle2 hne2 hm2 hs2 hw2 hw3
        rw [hw3'] at hw3
        have hjl : j ≤ l.length := by omega
        have hsj : st ≤ j := by omega
        have hw4 : IntKind.i64.wrap ((j : Int) + 1) = ((j + 1 : Nat) : Int) := by rw [wrap_i64 (by omega) (by omega)]; omega
        have hwi : IntKind.i64.wrap ((i : Int) + 1) = ((i + 1 : Nat) : Int) := by rw [wrap_i64 (by omega) (by omega)]; omega
        simp [hw1, copyDst, copySrc, hle1, hne1, Addr.add_lit, hle2, hne2, hsl, hm1, hm2, hs1, hs2, flat_bytesA, drop1_bytesA, hfp, hfn, hw2, hw3, hAr, hjl, hsj]
        subst hj hw2' hw3'
        refine ⟨by omega, by omega, i + 1, st + pre.length + 1, rest.drop (pre.length + new.length), ⟨by omega, by omega, hcn, by rw [hesc, hNN]; simp; omega⟩, by omega, ⟨?_, by rw [hw4]; exact AV.le_refl _, by rw [hwi]; exact AV.le_refl _⟩, ?_⟩
        · rw [hesc, List.length_append, List.length_append]; exact AV.le_refl _
        · rw [hesc, List.append_assoc]; exact Store.sub_refl _
      · have hi2 : i = l.count c := by omega
        have hc0 : (l.drop st).count c = 0 := by omega
        have hfin : escOf c new l = escOf c new (l.take st) ++ l.drop st := by
          conv => lhs; rw [← List.take_append_drop st l]
          rw [escOf_append, escOf_none c new (l.drop st) (List.count_eq_zero.1 hc0)]
        generalize hA : escOf c new (l.take st) = A at *
        have hfl := congrArg List.length hfin
        rw [List.length_append, hNN] at hfl
        have hfull : (bytesA l).take l.length = bytesA l := List.take_of_length_le (by simp)
        generalize hd : l.drop st = d at *
        have hdl : d.length = rest.length := by omega
        have hm1 : min (N - A.length) d.length = d.length := by omega
        have hle1 : A.length ≤ N := by omega
        have hAr : (bytesA A ++ rest).length = N := by simp; omega
        have hfd : (bytesA d).take d.length = bytesA d := List.take_of_length_le (by simp)
        have hw2 : IntKind.i64.wrap ((A.length : Int) + (d.length : Int)) = (N : Int) := by rw [wrap_i64 (by omega) (by omega)]; omega
        have hs1 : setRange (bytesA A ++ rest) A.length (bytesA d) = bytesA (A ++ d) := by
          have := setRange_app (bytesA A) rest (bytesA d) (by simp; omega)
          rw [bytesA_length, bytesA_length] at this
          rw [this, bytesA_append, hdl]; simp
        by_cases hz : N = A.length
        · have hd0 : d = [] := List.eq_nil_of_length_eq_zero (by omega)
          have hr0 : rest = [] := List.eq_nil_of_length_eq_zero (by omega)
          subst hd0 hr0
          have hs0 : setRange (bytesA A) 0 [] = bytesA A := setRange_nil _ _ (by omega)
          simp [hi2, bytesA_drop, hfull, h1, hd, copyDst, copySrc, hle1, ← hz, hs0, bytesA_nil, show IntKind.i64.wrap (N : Int) = (N : Int) by rw [wrap_i64 (by omega) (by omega)], Addr.add_lit]
          refine ⟨_, AV.le_refl _, _, Store.sub_refl _, .inr ⟨p, hp, by simp [rowA, hNN], by rw [hfin]; simp⟩⟩
        · simp [hi2, bytesA_drop, hfull, h1, hd, copyDst, copySrc, hle1, hz, hm1, hs1, hfd, flat_bytesA, drop1_bytesA, Addr.add_lit, hw2]
          refine ⟨by omega, _, AV.le_refl _, _, Store.sub_refl _, .inr ⟨p, hp, by simp [rowA, hNN], by rw [hfin]⟩⟩
  · rintro v σ' (⟨rfl, rfl⟩ | ⟨p, hp, rfl, rfl⟩)
    · exact .inl ⟨_, _, AV.le_refl _, Store.sub_refl _, rfl, rfl⟩
    · have hlen := escOf_length c new l
      have hcl := l.count_le_length (a := c)
      have hnb : l.count c * new.length ≤ l.count c * 100 := Nat.mul_le_mul_left _ hn2
      refine .inr ⟨p, (escOf c new l).length, 1, bytesA (escOf c new l), [], by simp [rowA], by rw [flat_bytesA]; simp [Store.upd], by rw [flat_bytesA]; simp, by rw [maxLen_val]; omega, by simp, ?_, .list true 1 (bytesA (escOf c new l)), AV.le_refl _, rfl, ?_⟩
      · intro v hv
        obtain ⟨b, _, rfl⟩ := List.mem_map.1 hv
        rfl
      · rw [del_upd_new hp]

def esc (l : List UInt8) : List UInt8 := escOf 255 [255, 255] l
theorem esc_length (l : List UInt8) : l.length ≤ (esc l).length ∧ (esc l).length ≤ 2 * l.length := by
  have h1 := escOf_length 255 [255, 255] l
  have h2 := l.count_le_length (a := (255 : UInt8))
  simp only [esc, List.length_cons, List.length_nil] at *; omega

set_option maxRecDepth 8000 in
theorem replaceAll_calls (o o1 o2 : Bool) (l : List UInt8) (c : UInt8) (new : List UInt8) (σ : Store) (hl : l.length ≤ 1000000) (hn : 1 ≤ new.length) (hn2 : new.length ≤ 100) :
    ACalls Tryz.prog 71 [.list o 1 (bytesA l), .list o1 1 (bytesA [c]), .list o2 1 (bytesA new)] σ fun v σ' => v = .list true 1 (bytesA (escOf c new l)) ∧ σ' = σ := by
  refine ACalls.of_awp follows (st := st71) (plans := pl71) (n := 11) Tryz.func71 rfl (by kernel_rfl) (by kernel_rfl) (by kernel_rfl) ?_
  simp
  refine callK.of (replace_calls false false false l c new σ hl hn hn2) ?_
  rintro v σ' ⟨rfl, rfl⟩
  simp

set_option maxRecDepth 8000 in
theorem escape_calls (o : Bool) (l : List UInt8) (σ : Store) (hl : l.length ≤ 1000000) :
    ACalls Tryz.prog 52 [.list o 1 (bytesA l)] σ fun v σ' => v = .list true 1 (bytesA (esc l)) ∧ σ' = σ := by
  refine ACalls.of_awp follows (st := st52) (plans := pl52) (n := 7) Tryz.func52 rfl (by kernel_rfl) (by kernel_rfl) (by kernel_rfl) ?_
  simp
  refine callK.le (args' := [.list false 1 (bytesA l), .list true 1 (bytesA [255]), .list true 1 (bytesA [255, 255])]) ?_ (replaceAll_calls false true true l 255 [255, 255] σ hl (by simp) (by simp)) ?_
  · simp [bytesA, byteA]
  rintro v σ' ⟨rfl, rfl⟩
  simp [esc]

def subBytes (o : UInt8) (l : List UInt8) : List UInt8 := [255, 250, o] ++ esc l ++ [255, 240]
set_option maxRecDepth 8000 in
theorem subBytes_calls (o : Bool) (c : UInt8) (l : List UInt8) (σ : Store) (hl : l.length ≤ 1000000) :
    ACalls Tryz.prog 96 [byteA c, .list o 1 (bytesA l)] σ fun v σ' => v = .list true 1 (bytesA (subBytes c l)) ∧ σ' = σ := by
  refine ACalls.of_awp follows (st := st96) (plans := pl96) (n := 12) Tryz.func96 rfl (by kernel_rfl) (by kernel_rfl) (by kernel_rfl) ?_
  have h1 := esc_length l
  simp [byteA]
  refine callK.of (escape_calls false l σ hl) ?_
  rintro v σ' ⟨rfl, rfl⟩
  simp
  refine ⟨by omega, by omega, by omega, by omega, ?_⟩
  simp [subBytes, bytesA, byteA]

set_option maxRecDepth 8000 in
theorem say_calls (v o : UInt8) (σ : Store) :
    ACalls Tryz.prog 123 [byteA v, byteA o] σ fun v' σ' => v' = .list true 1 (bytesA [255, v, o]) ∧ σ' = σ := by
  refine ACalls.of_awp follows (st := st123) (plans := pl123) (n := 8) Tryz.func123 rfl (by kernel_rfl) (by kernel_rfl) (by kernel_rfl) ?_
  simp [bytesA, byteA]
end Go.Proofs.YteaidaolablegaaGreatDoor
/-
  A list that rises is sorted as it is.
-/
namespace Go.Proofs.YteaidaolablegaaGreatDoor
open Go Go.AL

set_option maxRecDepth 8000 in
theorem values_calls (o : Bool) (l : List UInt8) (σ : Store) : ACalls Tryz.prog 135 [.list o 1 (bytesA l)] σ fun v σ' => ∃ b : Nat, σ b = none ∧ v = .func (.func 139) [] [ptrA b] ∧ σ' = σ.upd b [.list o 1 (bytesA l)] := by
  refine ACalls.of_awp follows (st := st135) (plans := pl135) (n := 4) Tryz.func135 rfl (by kernel_rfl) (by kernel_rfl) (by kernel_rfl) ?_
  simp
  exact fun b hb => ⟨_, AV.le_refl _, _, Store.sub_refl _, b, hb, rfl, rfl⟩
set_option maxRecDepth 8000 in
theorem values_iter (b : Nat) (o : Bool) (l : List UInt8) (hl : l.length ≤ 1000000) (σ : Store) (hb : σ b = some [.list o 1 (bytesA l)]) : Iter Tryz.prog 139 [ptrA b] σ (l.map fun c => [byteA c]) := by
  intro X lp I J hy τ E h0 hs
  refine ACallsY.of_awp follows (st := st139) (plans := pl139) (n := 16) Tryz.func139 rfl (by kernel_rfl) (by kernel_rfl) (by kernel_rfl) ?_
  simp [hb, ptrA]
  refine codeYK.loop follows (st := st139) (plans := pl139) (S := Nat × Store) (fun x => x.1 ≤ l.length)
    (fun x => [(0, .func (.yield lp) [] []), (5, .list false 1 (bytesA l)), (6, .lit (.int .i64 l.length)), (7, .lit (.int .i64 x.1))]) (fun x => x.2) (fun x E => I x.1 x.2 E) (fun x => l.length - x.1) (0, τ) (by kernel_rfl) (by simp) (by simp) hs h0 ?_
  rintro ⟨k, τ1⟩ E1 hk hI
  dsimp only at hk hI ⊢
  by_cases hlt : k < l.length
  · have hw : IntKind.i64.wrap ((k : Int) + 1) = ((k + 1 : Nat) : Int) := wrap_i64 (by omega) (by omega)
    have hyk := hy k (by simpa using hlt) τ1 E1 hI
    obtain ⟨c, hc⟩ : ∃ c, l[k] = c := ⟨_, rfl⟩
    have hg : ∀ h : k < (bytesA l).length, (bytesA l)[k]'h = .lit (.int .u8 c.toNat) := fun h => by
      rw [List.getElem_eq_iff, bytesA_get, List.getElem?_eq_getElem hlt, hc]; rfl
    have hlt' : (k : Int) < l.length := by omega
    have hx : (l.map fun c => [byteA c])[k]'(by simpa using hlt) = [.lit (.int .u8 c.toNat)] := by simp [hc, byteA]
    rw [hx] at hyk
    simp [hlt, hlt', hg]
    refine yieldK.of (by simp) hyk (Store.sub_refl _) ?_
    intro b2 τ' E' hR hap
    cases b2
    · simp
      exact ⟨⟨_, AV.le_refl _⟩, _, Store.sub_over _ _ _, τ', Store.sub_refl _, .inr (by simpa using hR)⟩
    · simp
      refine ⟨k + 1, by omega, by omega, by rw [hw]; exact AV.le_refl _, τ', Store.sub_over _ _ _, by simpa using hR⟩
  · obtain rfl : k = l.length := by omega
    simp
    exact ⟨⟨_, AV.le_refl _⟩, _, Store.sub_refl _, τ1, Store.sub_refl _, .inl (by simpa using hI)⟩
set_option maxRecDepth 8000 in
theorem isnan_calls (c : UInt8) (σ : Store) : ACalls Tryz.prog 159 [byteA c] σ fun v σ' => v = .lit (.bool false) ∧ σ' = σ := by
  refine ACalls.of_awp follows (st := st159) (plans := pl159) (n := 6) Tryz.func159 rfl (by kernel_rfl) (by kernel_rfl) (by kernel_rfl) ?_
  simp [byteA]
set_option maxRecDepth 8000 in
theorem less_calls (c d : UInt8) (σ : Store) : ACalls Tryz.prog 149 [byteA c, byteA d] σ fun v σ' => v = .lit (.bool (decide (c.toNat < d.toNat))) ∧ σ' = σ := by
  have h := fun τ => isnan_calls c τ
  rw [byteA_lit] at h
  have hd : decide ((c.toNat : Int) < (d.toNat : Int)) = decide (c.toNat < d.toNat) := by rw [decide_eq_decide]; omega
  refine ACalls.of_awp follows (st := st149) (plans := pl149) (n := 17) Tryz.func149 rfl (by kernel_rfl) (by kernel_rfl) (by kernel_rfl) ?_
  simp [byteA]
  refine callK.of (h _) ?_
  rintro v σ' ⟨rfl, rfl⟩
  simp
/-- Each byte is at least the one ahead of it. -/
def Up1 (l : List UInt8) : Prop := ∀ i, 0 < i → i < l.length → ((l[i - 1]?).getD 0).toNat ≤ ((l[i]?).getD 0).toNat
set_option maxRecDepth 8000 in
theorem insert_calls (o : Bool) (l : List UInt8) (hl : l.length ≤ 1000000) (hr : Up1 l) (σ : Store) : ACalls Tryz.prog 143 [.list o 1 (bytesA l), .lit (.int .i64 0), .lit (.int .i64 l.length)] σ fun v σ' => v = .tuple [] ∧ σ' = σ := by
  refine ACalls.of_awp follows (st := st143) (plans := pl143) (n := 49) Tryz.func143 rfl (by kernel_rfl) (by kernel_rfl) (by kernel_rfl) ?_
  have h01 : IntKind.i64.wrap 1 = 1 := by decide
  simp
  refine codeK.loop follows (st := st143) (plans := pl143) (X := Nat) (fun i => 1 ≤ i ∧ (i ≤ l.length ∨ l.length = 0 ∧ i = 1))
    (fun i => [(0, .list o 1 (bytesA l)), (1, .lit (.int .i64 0)), (2, .lit (.int .i64 l.length)), (6, .lit (.int .i64 i))]) (fun _ => σ) (fun i => l.length + 1 - i) 1 (by kernel_rfl) (by omega) (by simp [h01]) (Store.sub_refl _) fun i hi => ?_
  obtain ⟨h1, hi⟩ := hi
  by_cases hlt : i < l.length
  · have hw : IntKind.i64.wrap ((i : Int) + 1) = ((i + 1 : Nat) : Int) := wrap_i64 (by omega) (by omega)
    have hw2 : IntKind.i64.wrap ((i : Int) - 1) = ((i - 1 : Nat) : Int) := by rw [wrap_i64 (by omega) (by omega)]; omega
    have hlt' : (i : Int) < l.length := by omega
    have hil : i - 1 < l.length := by omega
    have hri := hr i (by omega) hlt
    obtain ⟨c, hc⟩ : ∃ c, l[i]? = some c := ⟨_, List.getElem?_eq_getElem hlt⟩
    obtain ⟨d, hd⟩ : ∃ d, l[i - 1]? = some d := ⟨_, List.getElem?_eq_getElem hil⟩
    rw [hc, hd] at hri
    simp only [Option.getD_some] at hri
    have hg : ∀ h : i < (bytesA l).length, (bytesA l)[i]'h = .lit (.int .u8 c.toNat) := fun h => by
      rw [List.getElem_eq_iff, bytesA_get, hc]; rfl
    have hg2 : ∀ h : i - 1 < (bytesA l).length, (bytesA l)[i - 1]'h = .lit (.int .u8 d.toNat) := fun h => by
      rw [List.getElem_eq_iff, bytesA_get, hd]; rfl
    have hle := fun τ => less_calls c d τ
    rw [byteA_lit, byteA_lit] at hle
    have hno : decide (c.toNat < d.toNat) = false := by simp; omega
    rw [hno] at hle
    have h0i : (0 : Int) < (i : Int) := by omega
    simp [hlt']
    refine codeK.loop follows (st := st143) (plans := pl143) (X := Unit) (fun _ => True)
      (fun _ => [(0, .list o 1 (bytesA l)), (1, .lit (.int .i64 0)), (2, .lit (.int .i64 l.length)), (6, .lit (.int .i64 i)), (7, .lit (.int .i64 i))]) (fun _ => σ) (fun _ => 0) () (by kernel_rfl) trivial (by simp) (Store.sub_refl _) fun _ _ => ?_
    simp [hlt, hil, hg, hg2, hw2, show 0 < i by omega]
    refine callK.of (hle _) ?_
    rintro v σ' ⟨rfl, rfl⟩
    simp
    exact ⟨i + 1, ⟨by omega, by omega⟩, by omega, by rw [hw]; exact AV.le_refl _⟩
  · have hnl : ¬ (i : Int) < l.length := by omega
    simp [hnl]
end Go.Proofs.YteaidaolablegaaGreatDoor
/-
  A list that rises is sorted as it is: the sort.
-/
namespace Go.Proofs.YteaidaolablegaaGreatDoor
open Go Go.AL

set_option maxRecDepth 20000 in
set_option maxHeartbeats 4000000 in
theorem len64_calls (n : Nat) (hn : n ≤ 5) (σ : Store) : ACalls Tryz.prog 153 [.lit (.int .u64 n)] σ fun v σ' => (∃ k : Int, v = .lit (.int .i64 k)) ∧ σ' = σ := by
  have hcase : n = 0 ∨ n = 1 ∨ n = 2 ∨ n = 3 ∨ n = 4 ∨ n = 5 := by omega
  refine ACalls.of_awp follows (st := st153) (plans := pl153) (n := 25) Tryz.func153 rfl (by kernel_rfl) (by kernel_rfl) (by kernel_rfl) ?_
  have w0 : IntKind.u8.wrap 0 = 0 := by decide
  have w1 : IntKind.u8.wrap 1 = 1 := by decide
  have w2 : IntKind.u8.wrap 2 = 2 := by decide
  have w3 : IntKind.u8.wrap 3 = 3 := by decide
  have w4 : IntKind.u8.wrap 4 = 4 := by decide
  have w5 : IntKind.u8.wrap 5 = 5 := by decide
  rcases hcase with rfl | rfl | rfl | rfl | rfl | rfl
  · simp [w0]
    exact ⟨_, AV.le_refl _, _, rfl⟩
  · simp [w1]
    exact ⟨_, AV.le_refl _, _, rfl⟩
  · simp [w2]
    exact ⟨_, AV.le_refl _, _, rfl⟩
  · simp [w3]
    exact ⟨_, AV.le_refl _, _, rfl⟩
  · simp [w4]
    exact ⟨_, AV.le_refl _, _, rfl⟩
  · simp [w5]
    exact ⟨_, AV.le_refl _, _, rfl⟩
set_option maxRecDepth 8000 in
theorem len_calls (n : Nat) (hn : n ≤ 5) (σ : Store) : ACalls Tryz.prog 142 [.lit (.int .u64 n)] σ fun v σ' => (∃ k : Int, v = .lit (.int .i64 k)) ∧ σ' = σ := by
  have h := fun τ => len64_calls n hn τ
  refine ACalls.of_awp follows (st := st142) (plans := pl142) (n := 8) Tryz.func142 rfl (by kernel_rfl) (by kernel_rfl) (by kernel_rfl) ?_
  simp
  refine callK.of (h _) ?_
  rintro v σ' ⟨⟨k, rfl⟩, rfl⟩
  simp
  exact ⟨_, AV.le_refl _, _, rfl⟩
set_option maxRecDepth 8000 in
theorem pdq_calls (o : Bool) (l : List UInt8) (hl : l.length ≤ 12) (hr : Up1 l) (k : Int) (σ : Store) : ACalls Tryz.prog 141 [.list o 1 (bytesA l), .lit (.int .i64 0), .lit (.int .i64 l.length), .lit (.int .i64 k)] σ fun v σ' => v = .tuple [] ∧ σ' = σ := by
  have hi := fun τ => insert_calls false l (by omega) hr τ
  have hw : IntKind.i64.wrap (l.length : Int) = (l.length : Int) := wrap_i64 (by omega) (by omega)
  have h12 : (l.length : Int) ≤ 12 := by omega
  refine ACalls.of_awp follows (st := st141) (plans := pl141) (n := 134) Tryz.func141 rfl (by kernel_rfl) (by kernel_rfl) (by kernel_rfl) ?_
  simp
  refine codeK.loop follows (st := st141) (plans := pl141) (X := Unit) (fun _ => True)
    (fun _ => [(0, .list o 1 (bytesA l)), (1, .lit (.int .i64 0)), (2, .lit (.int .i64 l.length)), (3, .lit (.int .i64 k))]) (fun _ => σ) (fun _ => 0) () (by kernel_rfl) trivial (by simp) (Store.sub_refl _) fun _ _ => ?_
  simp [hw, h12]
  refine callK.of (hi _) ?_
  rintro v σ' ⟨rfl, rfl⟩
  simp
set_option maxRecDepth 8000 in
theorem sort_calls (o : Bool) (l : List UInt8) (hl : l.length ≤ 5) (hr : Up1 l) (σ : Store) : ACalls Tryz.prog 138 [.list o 1 (bytesA l)] σ fun v σ' => v = .tuple [] ∧ σ' = σ := by
  have hle := fun τ => len_calls l.length hl τ
  have hp := fun k τ => pdq_calls false l (by omega) hr k τ
  have hw : IntKind.u64.wrap (l.length : Int) = (l.length : Int) := by
    have hcase : l.length = 0 ∨ l.length = 1 ∨ l.length = 2 ∨ l.length = 3 ∨ l.length = 4 ∨ l.length = 5 := by omega
    rcases hcase with h | h | h | h | h | h <;> rw [h] <;> decide
  refine ACalls.of_awp follows (st := st138) (plans := pl138) (n := 11) Tryz.func138 rfl (by kernel_rfl) (by kernel_rfl) (by kernel_rfl) ?_
  simp [hw]
  refine callK.of (hle _) ?_
  rintro v σ' ⟨⟨k, rfl⟩, rfl⟩
  simp
  refine callK.of (hp k _) ?_
  rintro v σ' ⟨rfl, rfl⟩
  simp
end Go.Proofs.YteaidaolablegaaGreatDoor
/-
  Any short list of bytes is sorted: the insertion sort, in place.
-/
namespace Go.Proofs.YteaidaolablegaaGreatDoor
open Go Go.AL

/-- A byte of a list, as a number. -/
def gN (L : List UInt8) (k : Nat) : Nat := (L[k]?.getD 0).toNat
def swapL (L : List UInt8) (j : Nat) : List UInt8 := (L.set j (L[j - 1]?.getD 0)).set (j - 1) (L[j]?.getD 0)
theorem swapL_get {L : List UInt8} {j : Nat} (h0 : 0 < j) (hj : j < L.length) (k : Nat) : gN (swapL L j) k = if k = j - 1 then gN L j else if k = j then gN L (j - 1) else gN L k := by
  have hj1 : j - 1 < L.length := by omega
  unfold gN swapL
  rw [List.getElem?_set (i := j - 1), List.getElem?_set, List.length_set]
  by_cases h1 : k = j - 1
  · subst h1
    simp [hj1]
  · rw [if_neg (fun e => h1 e.symm), if_neg h1]
    by_cases h2 : k = j
    · subst h2
      simp [hj]
    · rw [if_neg (fun e => h2 e.symm), if_neg h2]
theorem swapL_perm {L : List UInt8} {j : Nat} (h0 : 0 < j) (hj : j < L.length) : (swapL L j).Perm L := by
  obtain ⟨i, rfl⟩ : ∃ i, j = i + 1 := ⟨j - 1, by omega⟩
  have e1 : L = L.take i ++ L[i] :: L[i + 1] :: L.drop (i + 2) := by
    rw [← List.drop_eq_getElem_cons hj, ← List.drop_eq_getElem_cons (by omega), List.take_append_drop]
  have e2 : swapL L (i + 1) = L.take i ++ L[i + 1] :: L[i] :: L.drop (i + 2) := by
    unfold swapL
    rw [Nat.add_sub_cancel, List.getElem?_eq_getElem hj, List.getElem?_eq_getElem (show i < L.length by omega)]
    simp only [Option.getD_some]
    apply List.ext_getElem?
    intro k
    rw [List.getElem?_set, List.getElem?_set, List.length_set]
    have hl : (L.take i).length = i := by simp; omega
    by_cases h1 : i = k
    · subst h1
      rw [if_pos rfl, if_pos (by omega), List.getElem?_append_right (by omega), hl]; simp
    · rw [if_neg h1]
      by_cases h2 : i + 1 = k
      · subst h2
        rw [if_pos rfl, if_pos hj, List.getElem?_append_right (by omega), hl]; simp
      · rw [if_neg h2]
        by_cases h3 : k < i
        · rw [List.getElem?_append_left (by omega), List.getElem?_take_of_lt h3]
        · rw [List.getElem?_append_right (by omega), hl, show k - i = (k - (i + 2)) + 1 + 1 by omega, List.getElem?_cons_succ, List.getElem?_cons_succ, List.getElem?_drop]
          congr 1; omega
  rw [e2]
  conv => rhs; rw [e1]
  exact (List.Perm.swap _ _ _).append_left _
/-- Rising up to a place. -/
def AscTo (L : List UInt8) (i : Nat) : Prop := ∀ a b, a < b → b < i → gN L a ≤ gN L b
def AscBut (L : List UInt8) (i j : Nat) : Prop := (∀ a b, a < b → b ≤ i → a ≠ j → b ≠ j → gN L a ≤ gN L b) ∧ ∀ b, j < b → b ≤ i → gN L j ≤ gN L b
theorem AscBut.start {L : List UInt8} {i : Nat} (h : AscTo L i) : AscBut L i i :=
  ⟨fun a b hab hb _ hbi => h a b hab (by omega), fun b hb hbi => by omega⟩
theorem AscBut.step {L : List UInt8} {i j : Nat} (h : AscBut L i j) (h0 : 0 < j) (hj : j < L.length) (hji : j ≤ i) (hlt : gN L j < gN L (j - 1)) : AscBut (swapL L j) i (j - 1) := by
  obtain ⟨h1, h2⟩ := h
  refine ⟨fun a b hab hb ha hbj => ?_, fun b hb hbi => ?_⟩
  · rw [swapL_get h0 hj, swapL_get h0 hj, if_neg ha, if_neg hbj]
    by_cases haj : a = j
    · rw [if_pos haj, if_neg (by omega)]
      exact h1 _ _ (by omega) hb (by omega) (by omega)
    · rw [if_neg haj]
      by_cases hbe : b = j
      · rw [if_pos hbe]; exact h1 _ _ (by omega) (by omega) haj (by omega)
      · rw [if_neg hbe]; exact h1 _ _ hab hb haj hbe
  · rw [swapL_get h0 hj, swapL_get h0 hj, if_pos rfl, if_neg (by omega)]
    by_cases hbe : b = j
    · rw [if_pos hbe]; omega
    · rw [if_neg hbe]; exact h2 b (by omega) hbi
theorem AscBut.done {L : List UInt8} {i j : Nat} (h : AscBut L i j) (hji : j ≤ i) (hx : j = 0 ∨ ¬ gN L j < gN L (j - 1)) : AscTo L (i + 1) := by
  obtain ⟨h1, h2⟩ := h
  intro a b hab hb
  by_cases haj : a = j
  · subst haj; exact h2 b hab (by omega)
  · by_cases hbj : b = j
    · subst hbj
      rcases hx with rfl | hx
      · omega
      · by_cases ha1 : a = b - 1
        · subst ha1; omega
        · have := h1 a (b - 1) (by omega) (by omega) haj (by omega)
          omega
    · exact h1 a b hab (by omega) haj hbj
/-- A row that is an object: its slice. -/
abbrev sliA (p n cap : Nat) : AV := .lit (.slice (some ⟨p, 0, none⟩) n cap)
theorem row_get {L : List UInt8} {rest : List AV} {k : Nat} (h : k < L.length) : (bytesA L ++ rest)[k]? = some (.lit (.int .u8 (gN L k))) := by
  rw [List.getElem?_append_left (by simpa using h), bytesA_get, List.getElem?_eq_getElem h]
  simp [gN, byteA, List.getElem?_eq_getElem h]
theorem row_set {L : List UInt8} {rest : List AV} {k : Nat} {b : UInt8} (h : k < L.length) : (bytesA L ++ rest).set k (.lit (.int .u8 b.toNat)) = bytesA (L.set k b) ++ rest := by
  rw [List.set_append, if_pos (by simpa using h)]
  simp [bytesA, byteA, List.map_set]
theorem setRange_one {α : Type} (cs : List α) (off : Nat) (x : α) : setRange cs off [x] = cs.set off x := nr rfl
set_option maxRecDepth 8000 in
set_option maxHeartbeats 1000000 in
theorem insertG_calls (p cap : Nat) (l : List UInt8) (rest : List AV) (hl : l.length ≤ 1000000) (σ : Store) (hp : σ p = some (bytesA l ++ rest)) :
    ACalls Tryz.prog 143 [sliA p l.length cap, .lit (.int .i64 0), .lit (.int .i64 l.length)] σ fun v σ' => v = .tuple [] ∧ ∃ L : List UInt8, L.Perm l ∧ AscTo L l.length ∧ σ' = σ.upd p (bytesA L ++ rest) := by
  refine ACalls.of_awp follows (st := st143) (plans := pl143) (n := 49) Tryz.func143 rfl (by kernel_rfl) (by kernel_rfl) (by kernel_rfl) ?_
  have h01 : IntKind.i64.wrap 1 = 1 := by decide
  have hb0 : σ.upd p (bytesA l ++ rest) = σ := upd_back hp
  simp
  refine codeK.loop follows (st := st143) (plans := pl143) (X := Nat × List UInt8) (fun x => 1 ≤ x.1 ∧ (x.1 ≤ l.length ∨ l.length = 0 ∧ x.1 = 1) ∧ x.2.Perm l ∧ AscTo x.2 x.1)
    (fun x => [(0, sliA p l.length cap), (1, .lit (.int .i64 0)), (2, .lit (.int .i64 l.length)), (6, .lit (.int .i64 x.1))]) (fun x => σ.upd p (bytesA x.2 ++ rest)) (fun x => l.length + 1 - x.1) (1, l) (by kernel_rfl)
    ⟨by omega, by omega, List.Perm.refl _, fun a b hab hb => by omega⟩ (by simp [h01]) (by rw [hb0]; exact Store.sub_refl _) ?_
  rintro ⟨i, L⟩ ⟨h1, hi, hpm, has⟩
  dsimp only at h1 hi hpm has ⊢
  have hLl : L.length = l.length := hpm.length_eq
  by_cases hlt : i < l.length
  · have hw : IntKind.i64.wrap ((i : Int) + 1) = ((i + 1 : Nat) : Int) := wrap_i64 (by omega) (by omega)
    have hlt' : (i : Int) < l.length := by omega
    simp [hlt, hlt']
    refine codeK.loop follows (st := st143) (plans := pl143) (X := Nat × List UInt8) (fun x => x.1 ≤ i ∧ x.2.Perm l ∧ AscBut x.2 i x.1)
      (fun x => [(0, sliA p l.length cap), (1, .lit (.int .i64 0)), (2, .lit (.int .i64 l.length)), (6, .lit (.int .i64 i)), (7, .lit (.int .i64 x.1))]) (fun x => σ.upd p (bytesA x.2 ++ rest)) (fun x => x.1) (i, L) (by kernel_rfl) ⟨Nat.le_refl _, hpm, .start has⟩ (by simp) (Store.sub_refl _) ?_
    rintro ⟨j, K⟩ ⟨hji, hkp, hbut⟩
    dsimp only at hji hkp hbut ⊢
    have hKl : K.length = l.length := hkp.length_eq
    by_cases h0 : j = 0
    · subst h0
      simp
      exact ⟨i + 1, K, ⟨by omega, by omega, hkp, hbut.done (by omega) (.inl rfl)⟩, by omega, by rw [hw]; exact AV.le_refl _, Store.sub_refl _⟩
    · have hjl : j < l.length := by omega
      have h0' : (0 : Int) < (j : Int) := by omega
      have hw2 : IntKind.i64.wrap ((j : Int) - 1) = ((j - 1 : Nat) : Int) := by rw [wrap_i64 (by omega) (by omega)]; omega
      have hg1 := row_get (L := K) (rest := rest) (k := j) (by omega)
      have hg2 := row_get (L := K) (rest := rest) (k := j - 1) (by omega)
      have hle := fun τ => less_calls (K[j]?.getD 0) (K[j - 1]?.getD 0) τ
      rw [byteA_lit, byteA_lit] at hle
      have hgd1 : ((K[j]?.getD 0).toNat : Int) = (gN K j : Int) := rfl
      have hgd2 : ((K[j - 1]?.getD 0).toNat : Int) = (gN K (j - 1) : Int) := rfl
      rw [hgd1, hgd2] at hle
      have hdec : decide ((K[j]?.getD 0).toNat < (K[j - 1]?.getD 0).toNat) = decide (gN K j < gN K (j - 1)) := rfl
      rw [hdec] at hle
      simp [h0', hlt, hjl, hw2, hg1, hg2, show 0 < j by omega, show j - 1 < l.length by omega]
      refine callK.of (hle _) ?_
      rintro v σ' ⟨rfl, rfl⟩
      by_cases hc : gN K j < gN K (j - 1)
      · simp [hc, hw2, hg1, hg2, hjl, show j - 1 < l.length by omega, -e_setRange_1, -e_setRange_2, setRange_one]
        have hsw : ((bytesA K ++ rest).set j (.lit (.int .u8 (gN K (j - 1))))).set (j - 1) (.lit (.int .u8 (gN K j))) = bytesA (swapL K j) ++ rest := by
          rw [← hgd1, ← hgd2, row_set (by omega), row_set (by simp; omega)]; rfl
        exact ⟨by omega, by omega, j - 1, swapL K j, ⟨by omega, (swapL_perm (by omega) (by omega)).trans hkp, hbut.step (by omega) (by omega) hji hc⟩, by omega, AV.le_refl _, by rw [hsw]; exact Store.sub_refl _⟩
      · simp [hc]
        exact ⟨i + 1, K, ⟨by omega, by omega, hkp, hbut.done (by omega) (.inr hc)⟩, by omega, by rw [hw]; exact AV.le_refl _, Store.sub_refl _⟩
  · have hnl : ¬ (i : Int) < l.length := by omega
    simp [hnl, show ¬ i < l.length by omega]
    exact ⟨_, AV.le_refl _, _, Store.sub_refl _, rfl, L, hpm, fun a b hab hb => has a b hab (by omega), rfl⟩
end Go.Proofs.YteaidaolablegaaGreatDoor
