/-
  Escape, of the program and of the reference: each ff twice.
-/
import Derived.Test.YtkfhpnfgnjmdbaaDoorPCuts
import Derived.Test.YtkfhpnfgnjmdbaaDoorALBytes
namespace Go.Proofs.YtkfhpnfgnjmdbaaDoor
open Go Go.AL

@[simp] theorem callable36 : callable Tryd.prog 36 = false := nr (by kernel_rfl)
@[simp] theorem callable44 : callable Tryd.prog 44 = false := nr (by kernel_rfl)
theorem ext36 (o : Bool) (l : List UInt8) (c : UInt8) (σ : Store) : AExt Tryd.prog 36 [.list o 1 (bytesA l), byteA c] σ fun v σ' => v = .lit (.int .i64 (l.count c)) ∧ σ' = σ :=
  ext_count Tryd.func36 (by kernel_rfl) (by kernel_rfl) (by kernel_rfl) (by kernel_rfl) o l c σ
theorem ext44 (o : Bool) (l : List UInt8) (c : UInt8) (σ : Store) : AExt Tryd.prog 44 [.list o 1 (bytesA l), byteA c] σ fun v σ' => v = .lit (.int .i64 (Lib.indexByte l c)) ∧ σ' = σ :=
  ext_indexByte Tryd.func44 (by kernel_rfl) (by kernel_rfl) (by kernel_rfl) (by kernel_rfl) o l c σ

theorem indexByte_calls (o : Bool) (l : List UInt8) (c : UInt8) (σ : Store) :
    ACalls Tryd.prog 37 [.list o 1 (bytesA l), byteA c] σ fun v σ' => v = .lit (.int .i64 (Lib.indexByte l c)) ∧ σ' = σ := by
  refine ACalls.of_awp follows (st := st37) (plans := pl37) (n := 8) Tryd.func37 rfl (by kernel_rfl) (by kernel_rfl) (by kernel_rfl) ?_
  simp [byteA]
  refine extK.of (ext44 false l c σ) ?_
  rintro v σ' ⟨rfl, rfl⟩
  simp

theorem count_calls (o o' : Bool) (l : List UInt8) (c : UInt8) (σ : Store) :
    ACalls Tryd.prog 32 [.list o 1 (bytesA l), .list o' 1 (bytesA [c])] σ fun v σ' => v = .lit (.int .i64 (l.count c)) ∧ σ' = σ := by
  refine ACalls.of_awp follows (st := st32) (plans := pl32) (n := 35) Tryd.func32 rfl (by kernel_rfl) (by kernel_rfl) (by kernel_rfl) ?_
  simp [bytesA, byteA]
  refine extK.of (ext36 false l c σ) ?_
  rintro v σ' ⟨rfl, rfl⟩
  simp

set_option maxRecDepth 10000 in
theorem index_calls (o o' : Bool) (l : List UInt8) (c : UInt8) (σ : Store) :
    ACalls Tryd.prog 33 [.list o 1 (bytesA l), .list o' 1 (bytesA [c])] σ fun v σ' => v = .lit (.int .i64 (Lib.indexByte l c)) ∧ σ' = σ := by
  refine ACalls.of_awp follows (st := st33) (plans := pl33) (n := 200) Tryd.func33 rfl (by kernel_rfl) (by kernel_rfl) (by kernel_rfl) ?_
  simp [bytesA, byteA]
  refine callK.of (indexByte_calls false l c σ) ?_
  rintro v σ' ⟨rfl, rfl⟩
  simp

/-- How far bytes.Replace is: what it has read, what it has written. -/
def RepInv (l : List UInt8) (c : UInt8) (new : List UInt8) (i st : Nat) (rest : List AV) : Prop :=
  st ≤ l.length ∧ (l.drop st).count c + i = l.count c ∧ (escOf c new (l.take st)).length + rest.length = (escOf c new l).length

set_option maxHeartbeats 1000000 in
set_option maxRecDepth 10000 in
theorem replace_calls (o o1 o2 : Bool) (l : List UInt8) (c : UInt8) (new : List UInt8) (σ : Store) (hl : l.length ≤ 1000000) (hn : 1 ≤ new.length) (hn2 : new.length ≤ 100) :
    ACalls Tryd.prog 27 [.list o 1 (bytesA l), .list o1 1 (bytesA [c]), .list o2 1 (bytesA new), .lit (.int .i64 (-1))] σ fun v σ' => v = .list true 1 (bytesA (escOf c new l)) ∧ σ' = σ := by
  refine ACalls.shift (R := fun v σ' => (v = .list true 1 (bytesA (escOf c new l)) ∧ σ' = σ) ∨ ∃ p, σ p = none ∧ v = rowA p (escOf c new l).length (escOf c new l) ∧ σ' = σ.upd p (bytesA (escOf c new l))) ?_ ?_
  · refine ACalls.of_awp follows (st := st27) (plans := pl27) (n := 132) Tryd.func27 rfl (by kernel_rfl) (by kernel_rfl) (by kernel_rfl) ?_
    simp
    refine callK.of (count_calls false false l c σ) ?_
    rintro v σ' ⟨rfl, rfl⟩
    have hcl := l.count_le_length (a := c)
    have hlen := escOf_length c new l
    have hnb : l.count c * new.length ≤ l.count c * 100 := Nat.mul_le_mul_left _ hn2
    have hnb1 : l.count c * 1 ≤ l.count c * new.length := Nat.mul_le_mul_left _ hn
    by_cases h0 : l.count c = 0
    · have hc : c ∉ l := List.count_eq_zero.1 h0
      simp [h0]
      refine ⟨by omega, by omega, _, AV.le_refl _, _, Store.sub_refl _, .inl ⟨by rw [escOf_none c new l hc], rfl⟩⟩
    · have hN : IntKind.i64.wrap ((l.length : Int) + IntKind.i64.wrap ((l.count c : Int) * IntKind.i64.wrap ((new.length : Int) - 1))) = ((escOf c new l).length : Int) := by
        rw [wrap_i64 (n := (new.length : Int) - 1) (by omega) (by omega), Int.mul_sub, Int.mul_one, ← Int.natCast_mul]
        rw [wrap_i64 (n := ((l.count c * new.length : Nat) : Int) - (l.count c : Int)) (by omega) (by omega), wrap_i64 (by omega) (by omega)]
        omega
      simp [h0, hN]
      refine ⟨by omega, by omega, fun p hp => ?_⟩
      generalize hNN : (escOf c new l).length = N at *
      have hzero : (List.replicate N [AV.lit (.int .u8 0)]).flatten.length = N := by simp
      refine codeK.loop follows (st := st27) (plans := pl27) (X := Nat × Nat × List AV) (fun x => x.1 ≤ l.count c ∧ RepInv l c new x.1 x.2.1 x.2.2)
        (fun x => [(0, .list false 1 (bytesA l)), (1, .list false 1 (bytesA [c])), (2, .list false 1 (bytesA new)), (10, .lit (.slice (some ⟨p, 0, none⟩) N N)), (11, .lit (.int .i64 (escOf c new (l.take x.2.1)).length)), (12, .lit (.int .i64 x.2.1)), (48, .lit (.int .i64 (l.count c))), (49, .lit (.int .i64 x.1))])
        (fun x => σ'.upd p (bytesA (escOf c new (l.take x.2.1)) ++ x.2.2)) (fun x => l.count c - x.1) (0, 0, (List.replicate N [AV.lit (.int .u8 0)]).flatten) (by kernel_rfl)
        ⟨by simp, by simp, by simp, by rw [hzero, List.take_zero, hNN]; show 0 + N = N; omega⟩ (by simp [escOf, bytesA]) (by simp [escOf, bytesA]) fun x hx => ?_
      obtain ⟨i, st, rest⟩ := x
      obtain ⟨hi, h1, h2, h3⟩ := hx
      dsimp only at hi h1 h2 h3 ⊢
      rw [hNN] at h3
      by_cases hlt : i < l.count c
      · obtain ⟨pre, post, e1, e2, e3⟩ := indexByte_split (l.drop st) c (by omega)
        have hpl : st + pre.length + 1 + post.length = l.length := by
          have := congrArg List.length e1
          simp at this; omega
        have htk : l.take (st + pre.length + 1) = l.take st ++ pre ++ [c] := by
          have : l = l.take st ++ (pre ++ c :: post) := by rw [← e1, List.take_append_drop]
          conv => lhs; rw [this]
          rw [List.take_append, List.length_take, List.take_of_length_le (l := l.take st) (by simp; omega)]
          have hk : st + pre.length + 1 - min st l.length = pre.length + 1 := by omega
          rw [hk, List.append_assoc]
          congr 1
          rw [List.take_append, List.take_of_length_le (by omega)]
          simp
        have hdr : l.drop (st + pre.length + 1) = post := by
          rw [Nat.add_assoc, ← List.drop_drop, e1]; simp
        have hesc : escOf c new (l.take (st + pre.length + 1)) = escOf c new (l.take st) ++ pre ++ new := by
          rw [htk, escOf_append, escOf_append, escOf_none c new pre e2]; simp [escOf]
        have hcn : (l.drop (st + pre.length + 1)).count c + (i + 1) = l.count c := by
          rw [hdr]
          rw [e1] at h2
          have hp0 : pre.count c = 0 := List.count_eq_zero.2 e2
          simp [List.count_append, List.count_cons, hp0] at h2
          omega
        have htot : (escOf c new (l.take st)).length + pre.length + new.length ≤ N := by
          have := congrArg List.length hesc
          have h9 : escOf c new l = escOf c new (l.take (st + pre.length + 1)) ++ escOf c new (l.drop (st + pre.length + 1)) := by rw [← escOf_append, List.take_append_drop]
          have h10 := congrArg List.length h9
          rw [List.length_append, hNN, this] at h10
          simp at h10; omega
        generalize hA : escOf c new (l.take st) = A at *
        have hfull : (bytesA l).take l.length = bytesA l := List.take_of_length_le (by simp)
        have hAr : (bytesA A ++ rest).length = N := by simp; omega
        have hw1 : IntKind.i64.wrap ((st : Int) + (pre.length : Int)) = ((st + pre.length : Nat) : Int) := by rw [wrap_i64 (by omega) (by omega)]; omega
        have hle1 : A.length ≤ N := by omega
        have hne1 : ¬ N = A.length := by omega
        have hle2 : A.length + pre.length ≤ N := by omega
        have hne2 : ¬ N = A.length + pre.length := by omega
        have hsl : List.drop st (List.take (st + pre.length) (bytesA l)) = bytesA pre := by
          rw [bytesA_take, bytesA_drop]
          congr 1
          rw [List.drop_take, Nat.add_sub_cancel_left, e1]
          simp
        have hm1 : min (N - A.length) pre.length = pre.length := by omega
        have hm2 : min (N - (A.length + pre.length)) new.length = new.length := by omega
        have hs1 : setRange (bytesA A ++ rest) A.length (bytesA pre) = bytesA (A ++ pre) ++ rest.drop pre.length := by
          have := setRange_app (bytesA A) rest (bytesA pre) (by simp; omega)
          rw [bytesA_length, bytesA_length] at this
          rw [this, bytesA_append]
        have hs2 : setRange (bytesA (A ++ pre) ++ rest.drop pre.length) (A.length + pre.length) (bytesA new) = bytesA (A ++ pre ++ new) ++ rest.drop (pre.length + new.length) := by
          have := setRange_app (bytesA (A ++ pre)) (rest.drop pre.length) (bytesA new) (by simp; omega)
          rw [bytesA_length, bytesA_length, List.length_append, List.drop_drop] at this
          rw [this, bytesA_append (A ++ pre)]
        have hw2 : IntKind.i64.wrap ((A.length : Int) + (pre.length : Int)) = ((A.length + pre.length : Nat) : Int) := by rw [wrap_i64 (by omega) (by omega)]; omega
        have hw3 : IntKind.i64.wrap (((A.length + pre.length : Nat) : Int) + (new.length : Int)) = ((A.length + pre.length + new.length : Nat) : Int) := by rw [wrap_i64 (by omega) (by omega)]; omega
        have hfn : (bytesA new).take new.length = bytesA new := List.take_of_length_le (by simp)
        have hfp : (bytesA pre).take pre.length = bytesA pre := List.take_of_length_le (by simp)
        simp [hlt, bytesA_drop, hfull, h1]
        refine callK.of (index_calls false false (l.drop st) c _) ?_
        rintro v σ2 ⟨rfl, rfl⟩
        rw [e3]
        obtain ⟨j, hj⟩ : ∃ j, st + pre.length = j := ⟨_, rfl⟩
        obtain ⟨w2, hw2'⟩ : ∃ w2, A.length + pre.length = w2 := ⟨_, rfl⟩
        obtain ⟨w3, hw3'⟩ : ∃ w3, w2 + new.length = w3 := ⟨_, rfl⟩
        rw [hj] at hw1 hsl
        rw [hw2'] at hle2 hne2 hm2 hs2 hw2 hw3
        rw [hw3'] at hw3
        have hjl : j ≤ l.length := by omega
        have hsj : st ≤ j := by omega
        have hw4 : IntKind.i64.wrap ((j : Int) + 1) = ((j + 1 : Nat) : Int) := by rw [wrap_i64 (by omega) (by omega)]; omega
        have hwi : IntKind.i64.wrap ((i : Int) + 1) = ((i + 1 : Nat) : Int) := by rw [wrap_i64 (by omega) (by omega)]; omega
        simp [hw1, copyDst, copySrc, hle1, hne1, Addr.add_lit, hle2, hne2, hsl, hm1, hm2, hs1, hs2, flat_bytesA, drop1_bytesA, hfp, hfn, hw2, hw3, hAr, hjl, hsj]
        subst hj hw2' hw3'
        refine ⟨by omega, by omega, i + 1, st + pre.length + 1, rest.drop (pre.length + new.length), ⟨by omega, by omega, hcn, by rw [hesc, hNN]; simp; omega⟩, by omega, ⟨?_, by rw [hw4]; exact AV.le_refl _, by rw [hwi]; exact AV.le_refl _⟩, ?_⟩
        · rw [hesc, List.length_append, List.length_append]; exact AV.le_refl _
        · rw [hesc, List.append_assoc]; exact Store.sub_refl _
      · have hi2 : i = l.count c := by omega
        have hc0 : (l.drop st).count c = 0 := by omega
        have hfin : escOf c new l = escOf c new (l.take st) ++ l.drop st := by
          conv => lhs; rw [← List.take_append_drop st l]
          rw [escOf_append, escOf_none c new (l.drop st) (List.count_eq_zero.1 hc0)]
        generalize hA : escOf c new (l.take st) = A at *
        have hfl := congrArg List.length hfin
        rw [List.length_append, hNN] at hfl
        have hfull : (bytesA l).take l.length = bytesA l := List.take_of_length_le (by simp)
        generalize hd : l.drop st = d at *
        have hdl : d.length = rest.length := by omega
        have hm1 : min (N - A.length) d.length = d.length := by omega
        have hle1 : A.length ≤ N := by omega
        have hAr : (bytesA A ++ rest).length = N := by simp; omega
        have hfd : (bytesA d).take d.length = bytesA d := List.take_of_length_le (by simp)
        have hw2 : IntKind.i64.wrap ((A.length : Int) + (d.length : Int)) = (N : Int) := by rw [wrap_i64 (by omega) (by omega)]; omega
        have hs1 : setRange (bytesA A ++ rest) A.length (bytesA d) = bytesA (A ++ d) := by
          have := setRange_app (bytesA A) rest (bytesA d) (by simp; omega)
          rw [bytesA_length, bytesA_length] at this
          rw [this, bytesA_append, hdl]; simp
        by_cases hz : N = A.length
        · have hd0 : d = [] := List.eq_nil_of_length_eq_zero (by omega)
          have hr0 : rest = [] := List.eq_nil_of_length_eq_zero (by omega)
          subst hd0 hr0
          have hs0 : setRange (bytesA A) 0 [] = bytesA A := setRange_nil _ _ (by omega)
          simp [hi2, bytesA_drop, hfull, h1, hd, copyDst, copySrc, hle1, ← hz, hs0, bytesA_nil, show IntKind.i64.wrap (N : Int) = (N : Int) by rw [wrap_i64 (by omega) (by omega)], Addr.add_lit]
          refine ⟨_, AV.le_refl _, _, Store.sub_refl _, .inr ⟨p, hp, by simp [rowA, hNN], by rw [hfin]; simp⟩⟩
        · simp [hi2, bytesA_drop, hfull, h1, hd, copyDst, copySrc, hle1, hz, hm1, hs1, hfd, flat_bytesA, drop1_bytesA, Addr.add_lit, hw2]
          refine ⟨by omega, _, AV.le_refl _, _, Store.sub_refl _, .inr ⟨p, hp, by simp [rowA, hNN], by rw [hfin]⟩⟩
  · rintro v σ' (⟨rfl, rfl⟩ | ⟨p, hp, rfl, rfl⟩)
    · exact .inl ⟨_, _, AV.le_refl _, Store.sub_refl _, rfl, rfl⟩
    · have hlen := escOf_length c new l
      have hcl := l.count_le_length (a := c)
      have hnb : l.count c * new.length ≤ l.count c * 100 := Nat.mul_le_mul_left _ hn2
      refine .inr ⟨p, (escOf c new l).length, 1, bytesA (escOf c new l), [], by simp [rowA], by rw [flat_bytesA]; simp [Store.upd], by rw [flat_bytesA]; simp, by rw [maxLen_val]; omega, by simp, ?_, .list true 1 (bytesA (escOf c new l)), AV.le_refl _, rfl, ?_⟩
      · intro v hv
        obtain ⟨b, _, rfl⟩ := List.mem_map.1 hv
        rfl
      · funext q
        simp only [Store.del, Store.upd]
        split
        · rename_i hq; rw [hq, hp]
        · rfl

def esc (l : List UInt8) : List UInt8 := escOf 255 [255, 255] l
theorem esc_length (l : List UInt8) : l.length ≤ (esc l).length ∧ (esc l).length ≤ 2 * l.length := by
  have h1 := escOf_length 255 [255, 255] l
  have h2 := l.count_le_length (a := (255 : UInt8))
  simp only [esc, List.length_cons, List.length_nil] at *; omega

theorem replaceAll_calls (o o1 o2 : Bool) (l : List UInt8) (c : UInt8) (new : List UInt8) (σ : Store) (hl : l.length ≤ 1000000) (hn : 1 ≤ new.length) (hn2 : new.length ≤ 100) :
    ACalls Tryd.prog 21 [.list o 1 (bytesA l), .list o1 1 (bytesA [c]), .list o2 1 (bytesA new)] σ fun v σ' => v = .list true 1 (bytesA (escOf c new l)) ∧ σ' = σ := by
  refine ACalls.of_awp follows (st := st21) (plans := pl21) (n := 11) Tryd.func21 rfl (by kernel_rfl) (by kernel_rfl) (by kernel_rfl) ?_
  simp
  refine callK.of (replace_calls false false false l c new σ hl hn hn2) ?_
  rintro v σ' ⟨rfl, rfl⟩
  simp

theorem escape_calls (o : Bool) (l : List UInt8) (σ : Store) (hl : l.length ≤ 1000000) :
    ACalls Tryd.prog 10 [.list o 1 (bytesA l)] σ fun v σ' => v = .list true 1 (bytesA (esc l)) ∧ σ' = σ := by
  refine ACalls.of_awp follows (st := st10) (plans := pl10) (n := 7) Tryd.func10 rfl (by kernel_rfl) (by kernel_rfl) (by kernel_rfl) ?_
  simp
  refine callK.le (args' := [.list false 1 (bytesA l), .list true 1 (bytesA [255]), .list true 1 (bytesA [255, 255])]) ?_ (replaceAll_calls false true true l 255 [255, 255] σ hl (by simp) (by simp)) ?_
  · simp [bytesA, byteA]
  rintro v σ' ⟨rfl, rfl⟩
  simp [esc]

def subBytes (o : UInt8) (l : List UInt8) : List UInt8 := [255, 250, o] ++ esc l ++ [255, 240]
theorem subBytes_calls (o : Bool) (c : UInt8) (l : List UInt8) (σ : Store) (hl : l.length ≤ 1000000) :
    ACalls Tryd.prog 7 [byteA c, .list o 1 (bytesA l)] σ fun v σ' => v = .list true 1 (bytesA (subBytes c l)) ∧ σ' = σ := by
  refine ACalls.of_awp follows (st := st7) (plans := pl7) (n := 12) Tryd.func7 rfl (by kernel_rfl) (by kernel_rfl) (by kernel_rfl) ?_
  have h1 := esc_length l
  simp [byteA]
  refine callK.of (escape_calls false l σ hl) ?_
  rintro v σ' ⟨rfl, rfl⟩
  simp
  refine ⟨by omega, by omega, by omega, by omega, ?_⟩
  simp [subBytes, bytesA, byteA]

theorem say_calls (v o : UInt8) (σ : Store) :
    ACalls Tryd.prog 11 [byteA v, byteA o] σ fun v' σ' => v' = .list true 1 (bytesA [255, v, o]) ∧ σ' = σ := by
  refine ACalls.of_awp follows (st := st11) (plans := pl11) (n := 8) Tryd.func11 rfl (by kernel_rfl) (by kernel_rfl) (by kernel_rfl) ?_
  simp [bytesA, byteA]
end Go.Proofs.YtkfhpnfgnjmdbaaDoor
