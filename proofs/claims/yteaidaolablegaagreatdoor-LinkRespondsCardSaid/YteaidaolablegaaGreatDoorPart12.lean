/-
  The options' machine: its cells, what it hears and is asked.
-/
import Derived.Test.YteaidaolablegaaGreatDoorPart11
namespace Go.Proofs.YteaidaolablegaaGreatDoor
open Go Go.AL

/-- States and what is agreed to, by sides. -/
structure Om where
  st : Nat → Nat → UInt8
  ag : Nat → Nat → Bool
def omC (m : Om) (i : Nat) : AV := if i % 512 < 256 then byteA (m.st (i / 512) (i % 512)) else .lit (.bool (m.ag (i / 512) (i % 512 - 256)))
def omA (m : Om) : List AV := (List.range 1024).map (omC m)
@[simp] theorem omA_length (m : Om) : (omA m).length = 1024 := by simp [omA]
theorem omA_get (m : Om) {i : Nat} (h : i < 1024) : (omA m)[i]? = some (omC m i) := by simp [omA, h]
theorem omC_st (m : Om) (s : Nat) {o : Nat} (h : o < 256) : omC m (s * 512 + o) = byteA (m.st s o) := by
  unfold omC
  rw [if_pos (by omega)]
  congr 2 <;> omega
theorem omC_ag (m : Om) (s : Nat) {o : Nat} (h : o < 256) : omC m (s * 512 + 256 + o) = .lit (.bool (m.ag s o)) := by
  unfold omC
  rw [if_neg (by omega)]
  have e1 : (s * 512 + 256 + o) / 512 = s := by omega
  have e2 : (s * 512 + 256 + o) % 512 - 256 = o := by omega
  rw [e1, e2]
def Om.setSt (m : Om) (s o : Nat) (b : UInt8) : Om := { m with st := fun s' o' => if s' = s ∧ o' = o then b else m.st s' o' }
def Om.setAg (m : Om) (s o : Nat) (b : Bool) : Om := { m with ag := fun s' o' => if s' = s ∧ o' = o then b else m.ag s' o' }
theorem omA_setSt (m : Om) (s : Nat) {o : Nat} (b : UInt8) (h : o < 256) : (omA m).set (s * 512 + o) (byteA b) = omA (m.setSt s o b) := by
  apply List.ext_getElem?
  intro i
  rw [List.getElem?_set, omA_length]
  by_cases hi : i < 1024
  · rw [omA_get _ hi, omA_get _ hi]
    by_cases h1 : s * 512 + o = i
    · subst h1
      rw [if_pos rfl, if_pos hi, omC_st _ _ h]
      simp [Om.setSt]
    · rw [if_neg h1]
      unfold omC
      congr 1
      by_cases h2 : i % 512 < 256
      · rw [if_pos h2, if_pos h2]
        simp only [Om.setSt]
        rw [if_neg (by omega)]
      · rw [if_neg h2, if_neg h2]; rfl
  · rw [List.getElem?_eq_none (by simpa using hi), List.getElem?_eq_none (by simpa using hi)]
    split
    · rw [if_neg (by omega)]
    · rfl
theorem omA_setAg (m : Om) (s : Nat) {o : Nat} (b : Bool) (h : o < 256) : (omA m).set (s * 512 + 256 + o) (.lit (.bool b)) = omA (m.setAg s o b) := by
  apply List.ext_getElem?
  intro i
  rw [List.getElem?_set, omA_length]
  by_cases hi : i < 1024
  · rw [omA_get _ hi, omA_get _ hi]
    by_cases h1 : s * 512 + 256 + o = i
    · subst h1
      rw [if_pos rfl, if_pos hi, omC_ag _ _ h]
      simp [Om.setAg]
    · rw [if_neg h1]
      unfold omC
      congr 1
      by_cases h2 : i % 512 < 256
      · rw [if_pos h2, if_pos h2]; rfl
      · rw [if_neg h2, if_neg h2]
        simp only [Om.setAg]
        rw [if_neg (by omega)]
  · rw [List.getElem?_eq_none (by simpa using hi), List.getElem?_eq_none (by simpa using hi)]
    split
    · rw [if_neg (by omega)]
    · rfl
/-- He says on, off; we ask for off: the state then, and the word (0 nothing, 1 off, 2 on). -/
def onF (s : UInt8) (a : Bool) : UInt8 × Nat := if s = 0 then (if a = true then (1, 2) else (0, 1)) else if s = 2 then (0, 0) else if s = 5 then (2, 1) else (1, 0)
def offF (s : UInt8) : UInt8 × Nat := if s = 1 then (0, 1) else if s = 3 then (4, 2) else (0, 0)
def askF (s : UInt8) : UInt8 × Nat × Bool := if s = 1 then (2, 1, true) else if s = 3 then (2, 0, true) else if s = 4 then (5, 0, true) else (s, 0, false)
/-- Messages: a verb and an option. -/
def saidF (side w : Nat) (o : UInt8) : List (UInt8 × UInt8) := if w = 0 then [] else [(UInt8.ofNat ((if side = 0 then 251 else 253) + (if w = 1 then 1 else 0)), o)]
def msgA (x : UInt8 × UInt8) : AV := .agg [byteA x.1, byteA x.2]
def msgsA (l : List (UInt8 × UInt8)) : List AV := l.map msgA
/-- What is heard: the machine then, and the answer. -/
def Om.hear (m : Om) (verb o : UInt8) : Om × List (UInt8 × UInt8) :=
  if verb = 251 then ((m.setSt 1 o.toNat (onF (m.st 1 o.toNat) (m.ag 1 o.toNat)).1), saidF 1 (onF (m.st 1 o.toNat) (m.ag 1 o.toNat)).2 o)
  else if verb = 252 then ((m.setSt 1 o.toNat (offF (m.st 1 o.toNat)).1), saidF 1 (offF (m.st 1 o.toNat)).2 o)
  else if verb = 253 then ((m.setSt 0 o.toNat (onF (m.st 0 o.toNat) (m.ag 0 o.toNat)).1), saidF 0 (onF (m.st 0 o.toNat) (m.ag 0 o.toNat)).2 o)
  else if verb = 254 then ((m.setSt 0 o.toNat (offF (m.st 0 o.toNat)).1), saidF 0 (offF (m.st 0 o.toNat)).2 o)
  else (m, [])

def Om.zero : Om := ⟨fun _ _ => 0, fun _ _ => false⟩
@[simp] theorem azero147 : azero Tryz.prog 147 = some (omA .zero) := nr (by kernel_rfl)
theorem st_get (m : Om) (off : Nat) {o : Nat} (hs : off = 0 ∨ off = 512) (h : o < 256) : (omA m)[off + o]? = some (byteA (m.st (off / 512) o)) := by
  rcases hs with rfl | rfl
  · rw [omA_get _ (by omega)]
    have := omC_st m 0 h
    simp only [Nat.zero_mul] at this
    rw [this]
  · rw [omA_get _ (by omega)]
    have := omC_st m 1 h
    simp only [Nat.one_mul] at this
    rw [this]
theorem ag_get (m : Om) (off : Nat) {o : Nat} (hs : off = 0 ∨ off = 512) (h : o < 256) : (omA m)[off + 256 + o]? = some (.lit (.bool (m.ag (off / 512) o))) := by
  rcases hs with rfl | rfl
  · rw [omA_get _ (by omega)]
    have := omC_ag m 0 h
    simp only [Nat.zero_mul] at this
    rw [this]
  · rw [omA_get _ (by omega)]
    have := omC_ag m 1 h
    simp only [Nat.one_mul] at this
    rw [this]
abbrev sideA (b off : Nat) : AV := .lit (.pointer (some ⟨b, off, none⟩))
set_option maxRecDepth 8000 in
theorem on_calls (b off : Nat) (m : Om) (o : UInt8) (hs : off = 0 ∨ off = 512) (σ : Store) (hb : σ b = some (omA m)) :
    ACalls Tryz.prog 106 [sideA b off, byteA o] σ fun v σ' => v = .tuple [byteA (onF (m.st (off / 512) o.toNat) (m.ag (off / 512) o.toNat)).1, .lit (.int .u8 (onF (m.st (off / 512) o.toNat) (m.ag (off / 512) o.toNat)).2)] ∧ σ' = σ := by
  have ho := o.toNat_lt
  have h1 := st_get m off hs ho
  have h2 := ag_get m off hs ho
  have ho' : (o.toNat : Int) < 256 := by omega
  generalize m.st (off / 512) o.toNat = s at *
  generalize m.ag (off / 512) o.toNat = a at *
  refine ACalls.of_awp follows (st := st106) (plans := pl106) (n := 24) Tryz.func106 rfl (by kernel_rfl) (by kernel_rfl) (by kernel_rfl) ?_
  by_cases e0 : s = 0
  · subst e0
    cases a
    · simp [hb, byteA, ho', h1, h2, onF]
    · simp [hb, byteA, ho', h1, h2, onF]
  have n0 : ¬ (s.toNat : Int) = 0 := u8_ne (n := 0) (by omega) e0
  by_cases e2 : s = 2
  · subst e2
    simp [hb, byteA, ho', h1, h2, onF]
  have n2 : ¬ (s.toNat : Int) = 2 := u8_ne (n := 2) (by omega) e2
  by_cases e5 : s = 5
  · subst e5
    simp [hb, byteA, ho', h1, h2, onF]
  have n5 : ¬ (s.toNat : Int) = 5 := u8_ne (n := 5) (by omega) e5
  have hf : onF s a = (1, 0) := by unfold onF; rw [if_neg e0, if_neg e2, if_neg e5]
  rw [hf]
  have n0' : ¬ s.toNat = 0 := by omega
  simp [hb, byteA, ho', h1, h2, n0, n0', n2, n5]
set_option maxRecDepth 8000 in
theorem off_calls (b off : Nat) (m : Om) (o : UInt8) (hs : off = 0 ∨ off = 512) (σ : Store) (hb : σ b = some (omA m)) :
    ACalls Tryz.prog 107 [sideA b off, byteA o] σ fun v σ' => v = .tuple [byteA (offF (m.st (off / 512) o.toNat)).1, .lit (.int .u8 (offF (m.st (off / 512) o.toNat)).2)] ∧ σ' = σ := by
  have ho := o.toNat_lt
  have h1 := st_get m off hs ho
  have ho' : (o.toNat : Int) < 256 := by omega
  generalize m.st (off / 512) o.toNat = s at *
  refine ACalls.of_awp follows (st := st107) (plans := pl107) (n := 16) Tryz.func107 rfl (by kernel_rfl) (by kernel_rfl) (by kernel_rfl) ?_
  by_cases e1 : s = 1
  · subst e1
    simp [hb, byteA, ho', h1, offF]
  have n1 : ¬ (s.toNat : Int) = 1 := u8_ne (n := 1) (by omega) e1
  by_cases e3 : s = 3
  · subst e3
    simp [hb, byteA, ho', h1, offF]
  have n3 : ¬ (s.toNat : Int) = 3 := u8_ne (n := 3) (by omega) e3
  have hf : offF s = (0, 0) := by unfold offF; rw [if_neg e1, if_neg e3]
  rw [hf]
  simp [hb, byteA, ho', h1, n1, n3]
set_option maxRecDepth 8000 in
theorem ask_calls (b off : Nat) (m : Om) (o : UInt8) (hs : off = 0 ∨ off = 512) (σ : Store) (hb : σ b = some (omA m)) :
    ACalls Tryz.prog 115 [sideA b off, byteA o] σ fun v σ' => v = .tuple [byteA (askF (m.st (off / 512) o.toNat)).1, .lit (.int .u8 (askF (m.st (off / 512) o.toNat)).2.1), .lit (.bool (askF (m.st (off / 512) o.toNat)).2.2)] ∧ σ' = σ := by
  have ho := o.toNat_lt
  have h1 := st_get m off hs ho
  have ho' : (o.toNat : Int) < 256 := by omega
  generalize m.st (off / 512) o.toNat = s at *
  refine ACalls.of_awp follows (st := st115) (plans := pl115) (n := 25) Tryz.func115 rfl (by kernel_rfl) (by kernel_rfl) (by kernel_rfl) ?_
  by_cases e1 : s = 1
  · subst e1
    simp [hb, byteA, ho', h1, askF]
  have n1 : ¬ (s.toNat : Int) = 1 := u8_ne (n := 1) (by omega) e1
  by_cases e3 : s = 3
  · subst e3
    simp [hb, byteA, ho', h1, askF]
  have n3 : ¬ (s.toNat : Int) = 3 := u8_ne (n := 3) (by omega) e3
  by_cases e4 : s = 4
  · subst e4
    simp [hb, byteA, ho', h1, askF]
  have n4 : ¬ (s.toNat : Int) = 4 := u8_ne (n := 4) (by omega) e4
  have hf : askF s = (s, 0, false) := by unfold askF; rw [if_neg e1, if_neg e3, if_neg e4]
  rw [hf]
  simp [hb, byteA, ho', h1, n1, n3, n4]
set_option maxRecDepth 8000 in
theorem said_calls (side w : Nat) (o : UInt8) (hs : side = 0 ∨ side = 1) (hw : w ≤ 2) (σ : Store) :
    ACalls Tryz.prog 108 [.lit (.int .i64 side), .lit (.int .u8 w), byteA o] σ fun v σ' => v = .list true 2 (msgsA (saidF side w o)) ∧ σ' = σ := by
  refine ACalls.of_awp follows (st := st108) (plans := pl108) (n := 21) Tryz.func108 rfl (by kernel_rfl) (by kernel_rfl) (by kernel_rfl) ?_
  have hw3 : w = 0 ∨ w = 1 ∨ w = 2 := by omega
  rcases hs with rfl | rfl <;> rcases hw3 with rfl | rfl | rfl
  all_goals
    simp [byteA, saidF, msgsA, msgA]
    intro p hp
    first
      | exact ⟨_, AV.le_refl _, sub_upd_self _ _ _ hp⟩
      | exact sub_upd_self _ _ _ hp
      | skip
end Go.Proofs.YteaidaolablegaaGreatDoor
/-
  Escape, of the program and of the reference: each ff twice.
-/
namespace Go.Proofs.YteaidaolablegaaGreatDoor
open Go Go.AL

@[simp] theorem callable118 : callable Tryz.prog 118 = false := nr (by kernel_rfl)
set_option maxRecDepth 8000 in
theorem ext118 (o : Bool) (l : List UInt8) (c : UInt8) (σ : Store) : AExt Tryz.prog 118 [.list o 1 (bytesA l), byteA c] σ fun v σ' => v = .lit (.int .i64 (l.count c)) ∧ σ' = σ :=
  ext_count Tryz.func118 (by kernel_rfl) (by kernel_rfl) (by kernel_rfl) (by kernel_rfl) o l c σ
set_option maxRecDepth 8000 in
theorem count_calls (o o' : Bool) (l : List UInt8) (c : UInt8) (σ : Store) :
    ACalls Tryz.prog 103 [.list o 1 (bytesA l), .list o' 1 (bytesA [c])] σ fun v σ' => v = .lit (.int .i64 (l.count c)) ∧ σ' = σ := by
  refine ACalls.of_awp follows (st := st103) (plans := pl103) (n := 35) Tryz.func103 rfl (by kernel_rfl) (by kernel_rfl) (by kernel_rfl) ?_
  simp [bytesA, byteA]
  refine extK.of (ext118 false l c σ) ?_
  rintro v σ' ⟨rfl, rfl⟩
  simp

/-- How far bytes.Replace is: what it has read, what it has written. -/
def RepInv (l : List UInt8) (c : UInt8) (new : List UInt8) (i st : Nat) (rest : List AV) : Prop :=
  st ≤ l.length ∧ (l.drop st).count c + i = l.count c ∧ (escOf c new (l.take st)).length + rest.length = (escOf c new l).length

set_option maxHeartbeats 1000000 in
set_option maxRecDepth 10000 in
theorem replace_calls (o o1 o2 : Bool) (l : List UInt8) (c : UInt8) (new : List UInt8) (σ : Store) (hl : l.length ≤ 1000000) (hn : 1 ≤ new.length) (hn2 : new.length ≤ 100) :
    ACalls Tryz.prog 87 [.list o 1 (bytesA l), .list o1 1 (bytesA [c]), .list o2 1 (bytesA new), .lit (.int .i64 (-1))] σ fun v σ' => v = .list true 1 (bytesA (escOf c new l)) ∧ σ' = σ := by
  refine ACalls.shift (R := fun v σ' => (v = .list true 1 (bytesA (escOf c new l)) ∧ σ' = σ) ∨ ∃ p, σ p = none ∧ v = rowA p (escOf c new l).length (escOf c new l) ∧ σ' = σ.upd p (bytesA (escOf c new l))) ?_ ?_
  · refine ACalls.of_awp follows (st := st87) (plans := pl87) (n := 132) Tryz.func87 rfl (by kernel_rfl) (by kernel_rfl) (by kernel_rfl) ?_
    simp
    refine callK.of (count_calls false false l c σ) ?_
    rintro v σ' ⟨rfl, rfl⟩
    have hcl := l.count_le_length (a := c)
    have hlen := escOf_length c new l
    have hnb : l.count c * new.length ≤ l.count c * 100 := Nat.mul_le_mul_left _ hn2
    have hnb1 : l.count c * 1 ≤ l.count c * new.length := Nat.mul_le_mul_left _ hn
    by_cases h0 : l.count c = 0
    · have hc : c ∉ l := List.count_eq_zero.1 h0
      simp [h0]
      refine ⟨by omega, by omega, _, AV.le_refl _, _, Store.sub_refl _, .inl ⟨by rw [escOf_none c new l hc], rfl⟩⟩
    · have hN : IntKind.i64.wrap ((l.length : Int) + IntKind.i64.wrap ((l.count c : Int) * IntKind.i64.wrap ((new.length : Int) - 1))) = ((escOf c new l).length : Int) := by
        rw [wrap_i64 (n := (new.length : Int) - 1) (by omega) (by omega), Int.mul_sub, Int.mul_one, ← Int.natCast_mul]
        rw [wrap_i64 (n := ((l.count c * new.length : Nat) : Int) - (l.count c : Int)) (by omega) (by omega), wrap_i64 (by omega) (by omega)]
        omega
      simp [h0, hN]
      refine ⟨by omega, by omega, fun p hp => ?_⟩
      generalize hNN : (escOf c new l).length = N at *
      have hzero : (List.replicate N [AV.lit (.int .u8 0)]).flatten.length = N := by simp
      refine codeK.loop follows (st := st87) (plans := pl87) (X := Nat × Nat × List AV) (fun x => x.1 ≤ l.count c ∧ RepInv l c new x.1 x.2.1 x.2.2)
        (fun x => [(0, .list false 1 (bytesA l)), (1, .list false 1 (bytesA [c])), (2, .list false 1 (bytesA new)), (10, .lit (.slice (some ⟨p, 0, none⟩) N N)), (11, .lit (.int .i64 (escOf c new (l.take x.2.1)).length)), (12, .lit (.int .i64 x.2.1)), (48, .lit (.int .i64 (l.count c))), (49, .lit (.int .i64 x.1))])
        (fun x => σ'.upd p (bytesA (escOf c new (l.take x.2.1)) ++ x.2.2)) (fun x => l.count c - x.1) (0, 0, (List.replicate N [AV.lit (.int .u8 0)]).flatten) (by kernel_rfl)
        ⟨by simp, by simp, by simp, by rw [hzero, List.take_zero, hNN]; show 0 + N = N; omega⟩ (by simp [escOf, bytesA]) (by simp [escOf, bytesA]) fun x hx => ?_
      obtain ⟨i, st, rest⟩ := x
      obtain ⟨hi, h1, h2, h3⟩ := hx
      dsimp only at hi h1 h2 h3 ⊢
      rw [hNN] at h3
      by_cases hlt : i < l.count c
      · obtain ⟨pre, post, e1, e2, e3⟩ := indexByte_split (l.drop st) c (by omega)
        have hpl : st + pre.length + 1 + post.length = l.length := by
          have := congrArg List.length e1
          simp at this; omega
        have htk : l.take (st + pre.length + 1) = l.take st ++ pre ++ [c] := by
          have : l = l.take st ++ (pre ++ c :: post) := by rw [← e1, List.take_append_drop]
          conv => lhs; rw [this]
          rw [List.take_append, List.length_take, List.take_of_length_le (l := l.take st) (by simp; omega)]
          have hk : st + pre.length + 1 - min st l.length = pre.length + 1 := by omega
          rw [hk, List.append_assoc]
          congr 1
          rw [List.take_append, List.take_of_length_le (by omega)]
          simp
        have hdr : l.drop (st + pre.length + 1) = post := by
          rw [Nat.add_assoc, ← List.drop_drop, e1]; simp
        have hesc : escOf c new (l.take (st + pre.length + 1)) = escOf c new (l.take st) ++ pre ++ new := by
          rw [htk, escOf_append, escOf_append, escOf_none c new pre e2]; simp [escOf]
        have hcn : (l.drop (st + pre.length + 1)).count c + (i + 1) = l.count c := by
          rw [hdr]
          rw [e1] at h2
          have hp0 : pre.count c = 0 := List.count_eq_zero.2 e2
          simp [List.count_append, List.count_cons, hp0] at h2
          omega
        have htot : (escOf c new (l.take st)).length + pre.length + new.length ≤ N := by
          have := congrArg List.length hesc
          have h9 : escOf c new l = escOf c new (l.take (st + pre.length + 1)) ++ escOf c new (l.drop (st + pre.length + 1)) := by rw [← escOf_append, List.take_append_drop]
          have h10 := congrArg List.length h9
          rw [List.length_append, hNN, this] at h10
          simp at h10; omega
        generalize hA : escOf c new (l.take st) = A at *
        have hfull : (bytesA l).take l.length = bytesA l := List.take_of_length_le (by simp)
        have hAr : (bytesA A ++ rest).length = N := by simp; omega
        have hw1 : IntKind.i64.wrap ((st : Int) + (pre.length : Int)) = ((st + pre.length : Nat) : Int) := by rw [wrap_i64 (by omega) (by omega)]; omega
        have hle1 : A.length ≤ N := by omega
        have hne1 : ¬ N = A.length := by omega
        have hle2 : A.length + pre.length ≤ N := by omega
        have hne2 : ¬ N = A.length + pre.length := by omega
        have hsl : List.drop st (List.take (st + pre.length) (bytesA l)) = bytesA pre := by
          rw [bytesA_take, bytesA_drop]
          congr 1
          rw [List.drop_take, Nat.add_sub_cancel_left, e1]
          simp
        have hm1 : min (N - A.length) pre.length = pre.length := by omega
        have hm2 : min (N - (A.length + pre.length)) new.length = new.length := by omega
        have hs1 : setRange (bytesA A ++ rest) A.length (bytesA pre) = bytesA (A ++ pre) ++ rest.drop pre.length := by
          have := setRange_app (bytesA A) rest (bytesA pre) (by simp; omega)
          rw [bytesA_length, bytesA_length] at this
          rw [this, bytesA_append]
        have hs2 : setRange (bytesA (A ++ pre) ++ rest.drop pre.length) (A.length + pre.length) (bytesA new) = bytesA (A ++ pre ++ new) ++ rest.drop (pre.length + new.length) := by
          have := setRange_app (bytesA (A ++ pre)) (rest.drop pre.length) (bytesA new) (by simp; omega)
          rw [bytesA_length, bytesA_length, List.length_append, List.drop_drop] at this
          rw [this, bytesA_append (A ++ pre)]
        have hw2 : IntKind.i64.wrap ((A.length : Int) + (pre.length : Int)) = ((A.length + pre.length : Nat) : Int) := by rw [wrap_i64 (by omega) (by omega)]; omega
        have hw3 : IntKind.i64.wrap (((A.length + pre.length : Nat) : Int) + (new.length : Int)) = ((A.length + pre.length + new.length : Nat) : Int) := by rw [wrap_i64 (by omega) (by omega)]; omega
        have hfn : (bytesA new).take new.length = bytesA new := List.take_of_length_le (by simp)
        have hfp : (bytesA pre).take pre.length = bytesA pre := List.take_of_length_le (by simp)
        simp [hlt, bytesA_drop, hfull, h1]
        refine callK.of (index_calls false false (l.drop st) c _) ?_
        rintro v σ2 ⟨rfl, rfl⟩
        rw [e3]
        obtain ⟨j, hj⟩ : ∃ j, st + pre.length = j := ⟨_, rfl⟩
        obtain ⟨w2, hw2'⟩ : ∃ w2, A.length + pre.length = w2 := ⟨_, rfl⟩
        obtain ⟨w3, hw3'⟩ : ∃ w3, w2 + new.length = w3 := ⟨_, rfl⟩
        rw [hj] at hw1 hsl
        rw [hw2'] at hle2 hne2 hm2 hs2 hw2 hw3
        rw [hw3'] at hw3
        have hjl : j ≤ l.length := by omega
        have hsj : st ≤ j := by omega
        have hw4 : IntKind.i64.wrap ((j : Int) + 1) = ((j + 1 : Nat) : Int) := by rw [wrap_i64 (by omega) (by omega)]; omega
        have hwi : IntKind.i64.wrap ((i : Int) + 1) = ((i + 1 : Nat) : Int) := by rw [wrap_i64 (by omega) (by omega)]; omega
        simp [hw1, copyDst, copySrc, hle1, hne1, Addr.add_lit, hle2, hne2, hsl, hm1, hm2, hs1, hs2, flat_bytesA, drop1_bytesA, hfp, hfn, hw2, hw3, hAr, hjl, hsj]
        subst hj hw2' hw3'
        refine ⟨by omega, by omega, i + 1, st + pre.length + 1, rest.drop (pre.length + new.length), ⟨by omega, by omega, hcn, by rw [hesc, hNN]; simp; omega⟩, by omega, ⟨?_, by rw [hw4]; exact AV.le_refl _, by rw [hwi]; exact AV.le_refl _⟩, ?_⟩
        · rw [hesc, List.length_append, List.length_append]; exact AV.le_refl _
        · rw [hesc, List.append_assoc]; exact Store.sub_refl _
      · have hi2 : i = l.count c := by omega
        have hc0 : (l.drop st).count c = 0 := by omega
        have hfin : escOf c new l = escOf c new (l.take st) ++ l.drop st := by
          conv => lhs; rw [← List.take_append_drop st l]
          rw [escOf_append, escOf_none c new (l.drop st) (List.count_eq_zero.1 hc0)]
        generalize hA : escOf c new (l.take st) = A at *
        have hfl := congrArg List.length hfin
        rw [List.length_append, hNN] at hfl
        have hfull : (bytesA l).take l.length = bytesA l := List.take_of_length_le (by simp)
        generalize hd : l.drop st = d at *
        have hdl : d.length = rest.length := by omega
        have hm1 : min (N - A.length) d.length = d.length := by omega
        have hle1 : A.length ≤ N := by omega
        have hAr : (bytesA A ++ rest).length = N := by simp; omega
        have hfd : (bytesA d).take d.length = bytesA d := List.take_of_length_le (by simp)
        have hw2 : IntKind.i64.wrap ((A.length : Int) + (d.length : Int)) = (N : Int) := by rw [wrap_i64 (by omega) (by omega)]; omega
        have hs1 : setRange (bytesA A ++ rest) A.length (bytesA d) = bytesA (A ++ d) := by
          have := setRange_app (bytesA A) rest (bytesA d) (by simp; omega)
          rw [bytesA_length, bytesA_length] at this
          rw [this, bytesA_append, hdl]; simp
        by_cases hz : N = A.length
        · have hd0 : d = [] := List.eq_nil_of_length_eq_zero (by omega)
          have hr0 : rest = [] := List.eq_nil_of_length_eq_zero (by omega)
          subst hd0 hr0
          have hs0 : setRange (bytesA A) 0 [] = bytesA A := setRange_nil _ _ (by omega)
          simp [hi2, bytesA_drop, hfull, h1, hd, copyDst, copySrc, hle1, ← hz, hs0, bytesA_nil, show IntKind.i64.wrap (N : Int) = (N : Int) by rw [wrap_i64 (by omega) (by omega)], Addr.add_lit]
          refine ⟨_, AV.le_refl _, _, Store.sub_refl _, .inr ⟨p, hp, by simp [rowA, hNN], by rw [hfin]; simp⟩⟩
        · simp [hi2, bytesA_drop, hfull, h1, hd, copyDst, copySrc, hle1, hz, hm1, hs1, hfd, flat_bytesA, drop1_bytesA, Addr.add_lit, hw2]
          refine ⟨by omega, _, AV.le_refl _, _, Store.sub_refl _, .inr ⟨p, hp, by simp [rowA, hNN], by rw [hfin]⟩⟩
  · rintro v σ' (⟨rfl, rfl⟩ | ⟨p, hp, rfl, rfl⟩)
    · exact .inl ⟨_, _, AV.le_refl _, Store.sub_refl _, rfl, rfl⟩
    · have hlen := escOf_length c new l
      have hcl := l.count_le_length (a := c)
      have hnb : l.count c * new.length ≤ l.count c * 100 := Nat.mul_le_mul_left _ hn2
      refine .inr ⟨p, (escOf c new l).length, 1, bytesA (escOf c new l), [], by simp [rowA], by rw [flat_bytesA]; simp [Store.upd], by rw [flat_bytesA]; simp, by rw [maxLen_val]; omega, by simp, ?_, .list true 1 (bytesA (escOf c new l)), AV.le_refl _, rfl, ?_⟩
      · intro v hv
        obtain ⟨b, _, rfl⟩ := List.mem_map.1 hv
        rfl
      · funext q
        simp only [Store.del, Store.upd]
        split
        · rename_i hq; rw [hq, hp]
        · rfl

def esc (l : List UInt8) : List UInt8 := escOf 255 [255, 255] l
theorem esc_length (l : List UInt8) : l.length ≤ (esc l).length ∧ (esc l).length ≤ 2 * l.length := by
  have h1 := escOf_length 255 [255, 255] l
  have h2 := l.count_le_length (a := (255 : UInt8))
  simp only [esc, List.length_cons, List.length_nil] at *; omega

set_option maxRecDepth 8000 in
theorem replaceAll_calls (o o1 o2 : Bool) (l : List UInt8) (c : UInt8) (new : List UInt8) (σ : Store) (hl : l.length ≤ 1000000) (hn : 1 ≤ new.length) (hn2 : new.length ≤ 100) :
    ACalls Tryz.prog 71 [.list o 1 (bytesA l), .list o1 1 (bytesA [c]), .list o2 1 (bytesA new)] σ fun v σ' => v = .list true 1 (bytesA (escOf c new l)) ∧ σ' = σ := by
  refine ACalls.of_awp follows (st := st71) (plans := pl71) (n := 11) Tryz.func71 rfl (by kernel_rfl) (by kernel_rfl) (by kernel_rfl) ?_
  simp
  refine callK.of (replace_calls false false false l c new σ hl hn hn2) ?_
  rintro v σ' ⟨rfl, rfl⟩
  simp

set_option maxRecDepth 8000 in
theorem escape_calls (o : Bool) (l : List UInt8) (σ : Store) (hl : l.length ≤ 1000000) :
    ACalls Tryz.prog 52 [.list o 1 (bytesA l)] σ fun v σ' => v = .list true 1 (bytesA (esc l)) ∧ σ' = σ := by
  refine ACalls.of_awp follows (st := st52) (plans := pl52) (n := 7) Tryz.func52 rfl (by kernel_rfl) (by kernel_rfl) (by kernel_rfl) ?_
  simp
  refine callK.le (args' := [.list false 1 (bytesA l), .list true 1 (bytesA [255]), .list true 1 (bytesA [255, 255])]) ?_ (replaceAll_calls false true true l 255 [255, 255] σ hl (by simp) (by simp)) ?_
  · simp [bytesA, byteA]
  rintro v σ' ⟨rfl, rfl⟩
  simp [esc]

def subBytes (o : UInt8) (l : List UInt8) : List UInt8 := [255, 250, o] ++ esc l ++ [255, 240]
set_option maxRecDepth 8000 in
theorem subBytes_calls (o : Bool) (c : UInt8) (l : List UInt8) (σ : Store) (hl : l.length ≤ 1000000) :
    ACalls Tryz.prog 96 [byteA c, .list o 1 (bytesA l)] σ fun v σ' => v = .list true 1 (bytesA (subBytes c l)) ∧ σ' = σ := by
  refine ACalls.of_awp follows (st := st96) (plans := pl96) (n := 12) Tryz.func96 rfl (by kernel_rfl) (by kernel_rfl) (by kernel_rfl) ?_
  have h1 := esc_length l
  simp [byteA]
  refine callK.of (escape_calls false l σ hl) ?_
  rintro v σ' ⟨rfl, rfl⟩
  simp
  refine ⟨by omega, by omega, by omega, by omega, ?_⟩
  simp [subBytes, bytesA, byteA]

set_option maxRecDepth 8000 in
theorem say_calls (v o : UInt8) (σ : Store) :
    ACalls Tryz.prog 123 [byteA v, byteA o] σ fun v' σ' => v' = .list true 1 (bytesA [255, v, o]) ∧ σ' = σ := by
  refine ACalls.of_awp follows (st := st123) (plans := pl123) (n := 8) Tryz.func123 rfl (by kernel_rfl) (by kernel_rfl) (by kernel_rfl) ?_
  simp [bytesA, byteA]
end Go.Proofs.YteaidaolablegaaGreatDoor
/-
  A list that rises is sorted as it is.
-/
namespace Go.Proofs.YteaidaolablegaaGreatDoor
open Go Go.AL

set_option maxRecDepth 8000 in
theorem values_calls (o : Bool) (l : List UInt8) (σ : Store) : ACalls Tryz.prog 135 [.list o 1 (bytesA l)] σ fun v σ' => ∃ b, σ b = none ∧ v = .func (.func 139) [] [ptrA b] ∧ σ' = σ.upd b [.list o 1 (bytesA l)] := by
  refine ACalls.of_awp follows (st := st135) (plans := pl135) (n := 4) Tryz.func135 rfl (by kernel_rfl) (by kernel_rfl) (by kernel_rfl) ?_
  simp
  exact fun b hb => ⟨_, AV.le_refl _, _, Store.sub_refl _, b, hb, rfl, rfl⟩
set_option maxRecDepth 8000 in
theorem values_iter (b : Nat) (o : Bool) (l : List UInt8) (hl : l.length ≤ 1000000) (σ : Store) (hb : σ b = some [.list o 1 (bytesA l)]) : Iter Tryz.prog 139 [ptrA b] σ (l.map fun c => [byteA c]) := by
  intro X lp I J hy τ E h0 hs
  refine ACallsY.of_awp follows (st := st139) (plans := pl139) (n := 16) Tryz.func139 rfl (by kernel_rfl) (by kernel_rfl) (by kernel_rfl) ?_
  simp [hb, ptrA]
  refine codeYK.loop follows (st := st139) (plans := pl139) (S := Nat × Store) (fun x => x.1 ≤ l.length)
    (fun x => [(0, .func (.yield lp) [] []), (5, .list false 1 (bytesA l)), (6, .lit (.int .i64 l.length)), (7, .lit (.int .i64 x.1))]) (fun x => x.2) (fun x E => I x.1 x.2 E) (fun x => l.length - x.1) (0, τ) (by kernel_rfl) (by simp) (by simp) hs h0 ?_
  rintro ⟨k, τ1⟩ E1 hk hI
  dsimp only at hk hI ⊢
  by_cases hlt : k < l.length
  · have hw : IntKind.i64.wrap ((k : Int) + 1) = ((k + 1 : Nat) : Int) := wrap_i64 (by omega) (by omega)
    have hyk := hy k (by simpa using hlt) τ1 E1 hI
    obtain ⟨c, hc⟩ : ∃ c, l[k] = c := ⟨_, rfl⟩
    have hg : ∀ h : k < (bytesA l).length, (bytesA l)[k]'h = .lit (.int .u8 c.toNat) := fun h => by
      rw [List.getElem_eq_iff, bytesA_get, List.getElem?_eq_getElem hlt, hc]; rfl
    have hlt' : (k : Int) < l.length := by omega
    have hx : (l.map fun c => [byteA c])[k]'(by simpa using hlt) = [.lit (.int .u8 c.toNat)] := by simp [hc, byteA]
    rw [hx] at hyk
    simp [hlt, hlt', hg]
    refine yieldK.of (by simp) hyk (Store.sub_refl _) ?_
    intro b2 τ' E' hR hap
    cases b2
    · simp
      exact ⟨⟨_, AV.le_refl _⟩, _, Store.sub_over _ _ _, τ', Store.sub_refl _, .inr (by simpa using hR)⟩
    · simp
      refine ⟨k + 1, by omega, by omega, by rw [hw]; exact AV.le_refl _, τ', Store.sub_over _ _ _, by simpa using hR⟩
  · obtain rfl : k = l.length := by omega
    simp
    exact ⟨⟨_, AV.le_refl _⟩, _, Store.sub_refl _, τ1, Store.sub_refl _, .inl (by simpa using hI)⟩
set_option maxRecDepth 8000 in
theorem appseq_calls (b : Nat) (o : Bool) (l : List UInt8) (hl : l.length ≤ 1000000) (σ : Store) (hb : σ b = some [.list o 1 (bytesA l)]) :
    ACalls Tryz.prog 140 [.list true 1 [], .func (.func 139) [] [ptrA b]] σ fun v σ' => v = .list false 1 (bytesA l) ∧ σ' = σ := by
  have hi := fun τ ht => values_iter b o l hl τ ht
  refine ACalls.of_awpY follows (st := st140) (plans := pl140) (n := 13) Tryz.func140 rfl (by kernel_rfl) (by kernel_rfl) (by kernel_rfl) ?_
  simp
  intro q hq
  have hqb : ¬ b = q := by rintro rfl; rw [hb] at hq; cases hq
  refine codeYK.range follows (st := st140) (plans := pl140) (hi (σ.upd q [.list true 1 []]) (by simp [hqb, hb])) (by simp [ptrA]) (by simp) (by intro x hx; obtain ⟨_, _, rfl⟩ := List.mem_map.1 hx; rfl) (by kernel_rfl) (by kernel_rfl) (by kernel_rfl)
    (fun k τ _ => k ≤ l.length ∧ τ = σ.upd q [.list true 1 (bytesA (l.take k))]) (fun _ _ _ => False)
    _ ⟨by omega, rfl⟩ ?_ ?_ ?_ ?_
  · simp [bytesA]
  · rintro k hk τ E ⟨h1, rfl⟩
    have hk' : k < l.length := by simpa using hk
    obtain ⟨c, hc⟩ : ∃ c, l[k] = c := ⟨_, rfl⟩
    have ht : l.take (k + 1) = l.take k ++ [c] := by rw [List.take_succ_eq_append_getElem hk', hc]
    have hx : (l.map fun c => [byteA c])[k]'hk = [.lit (.int .u8 c.toNat)] := by simp [hc, byteA]
    have hlk : (l.take k).length ≤ 1000000 := by simp; omega
    rw [hx]
    simp
    refine ⟨by omega, by omega, ?_, by omega⟩
    rw [ht, bytesA_append]
    exact Store.sub_refl _
  · rintro τ E σ' hs ⟨h2, rfl⟩
    have e2 : σ' q = some [.list true 1 (bytesA l)] := by
      rcases hs q with h | h
      · simp at h
      · rw [← h]; simp
    simp [e2]
    refine Store.sub_trans ?_ hs
    (intro q; simp only [Store.upd, Store.del]; (repeat' split) <;> simp_all)
  · rintro c τ E σ' hs h
    exact h.elim
set_option maxRecDepth 8000 in
theorem isnan_calls (c : UInt8) (σ : Store) : ACalls Tryz.prog 159 [byteA c] σ fun v σ' => v = .lit (.bool false) ∧ σ' = σ := by
  refine ACalls.of_awp follows (st := st159) (plans := pl159) (n := 6) Tryz.func159 rfl (by kernel_rfl) (by kernel_rfl) (by kernel_rfl) ?_
  simp [byteA]
set_option maxRecDepth 8000 in
theorem less_calls (c d : UInt8) (σ : Store) : ACalls Tryz.prog 149 [byteA c, byteA d] σ fun v σ' => v = .lit (.bool (decide (c.toNat < d.toNat))) ∧ σ' = σ := by
  have h := fun τ => isnan_calls c τ
  rw [byteA_lit] at h
  have hd : decide ((c.toNat : Int) < (d.toNat : Int)) = decide (c.toNat < d.toNat) := by rw [decide_eq_decide]; omega
  refine ACalls.of_awp follows (st := st149) (plans := pl149) (n := 17) Tryz.func149 rfl (by kernel_rfl) (by kernel_rfl) (by kernel_rfl) ?_
  simp [byteA]
  refine callK.of (h _) ?_
  rintro v σ' ⟨rfl, rfl⟩
  simp
/-- Each byte is at least the one ahead of it. -/
def Up1 (l : List UInt8) : Prop := ∀ i, 0 < i → i < l.length → ((l[i - 1]?).getD 0).toNat ≤ ((l[i]?).getD 0).toNat
set_option maxRecDepth 8000 in
theorem insert_calls (o : Bool) (l : List UInt8) (hl : l.length ≤ 1000000) (hr : Up1 l) (σ : Store) : ACalls Tryz.prog 143 [.list o 1 (bytesA l), .lit (.int .i64 0), .lit (.int .i64 l.length)] σ fun v σ' => v = .tuple [] ∧ σ' = σ := by
  refine ACalls.of_awp follows (st := st143) (plans := pl143) (n := 49) Tryz.func143 rfl (by kernel_rfl) (by kernel_rfl) (by kernel_rfl) ?_
  have h01 : IntKind.i64.wrap 1 = 1 := by decide
  simp
  refine codeK.loop follows (st := st143) (plans := pl143) (X := Nat) (fun i => 1 ≤ i ∧ (i ≤ l.length ∨ l.length = 0 ∧ i = 1))
    (fun i => [(0, .list o 1 (bytesA l)), (1, .lit (.int .i64 0)), (2, .lit (.int .i64 l.length)), (6, .lit (.int .i64 i))]) (fun _ => σ) (fun i => l.length + 1 - i) 1 (by kernel_rfl) (by omega) (by simp [h01]) (Store.sub_refl _) fun i hi => ?_
  obtain ⟨h1, hi⟩ := hi
  by_cases hlt : i < l.length
  · have hw : IntKind.i64.wrap ((i : Int) + 1) = ((i + 1 : Nat) : Int) := wrap_i64 (by omega) (by omega)
    have hw2 : IntKind.i64.wrap ((i : Int) - 1) = ((i - 1 : Nat) : Int) := by rw [wrap_i64 (by omega) (by omega)]; omega
    have hlt' : (i : Int) < l.length := by omega
    have hil : i - 1 < l.length := by omega
    have hri := hr i (by omega) hlt
    obtain ⟨c, hc⟩ : ∃ c, l[i]? = some c := ⟨_, List.getElem?_eq_getElem hlt⟩
    obtain ⟨d, hd⟩ : ∃ d, l[i - 1]? = some d := ⟨_, List.getElem?_eq_getElem hil⟩
    rw [hc, hd] at hri
    simp only [Option.getD_some] at hri
    have hg : ∀ h : i < (bytesA l).length, (bytesA l)[i]'h = .lit (.int .u8 c.toNat) := fun h => by
      rw [List.getElem_eq_iff, bytesA_get, hc]; rfl
    have hg2 : ∀ h : i - 1 < (bytesA l).length, (bytesA l)[i - 1]'h = .lit (.int .u8 d.toNat) := fun h => by
      rw [List.getElem_eq_iff, bytesA_get, hd]; rfl
    have hle := fun τ => less_calls c d τ
    rw [byteA_lit, byteA_lit] at hle
    have hno : decide (c.toNat < d.toNat) = false := by simp; omega
    rw [hno] at hle
    have h0i : (0 : Int) < (i : Int) := by omega
    simp [hlt']
    refine codeK.loop follows (st := st143) (plans := pl143) (X := Unit) (fun _ => True)
      (fun _ => [(0, .list o 1 (bytesA l)), (1, .lit (.int .i64 0)), (2, .lit (.int .i64 l.length)), (6, .lit (.int .i64 i)), (7, .lit (.int .i64 i))]) (fun _ => σ) (fun _ => 0) () (by kernel_rfl) trivial (by simp) (Store.sub_refl _) fun _ _ => ?_
    simp [hlt, hil, hg, hg2, hw2, show 0 < i by omega]
    refine callK.of (hle _) ?_
    rintro v σ' ⟨rfl, rfl⟩
    simp
    exact ⟨i + 1, ⟨by omega, by omega⟩, by omega, by rw [hw]; exact AV.le_refl _⟩
  · have hnl : ¬ (i : Int) < l.length := by omega
    simp [hnl]
end Go.Proofs.YteaidaolablegaaGreatDoor
/-
  A list that rises is sorted as it is: the sort.
-/
namespace Go.Proofs.YteaidaolablegaaGreatDoor
open Go Go.AL

set_option maxRecDepth 20000 in
set_option maxHeartbeats 4000000 in
theorem len64_calls (n : Nat) (hn : n ≤ 5) (σ : Store) : ACalls Tryz.prog 153 [.lit (.int .u64 n)] σ fun v σ' => (∃ k : Int, v = .lit (.int .i64 k)) ∧ σ' = σ := by
  have hcase : n = 0 ∨ n = 1 ∨ n = 2 ∨ n = 3 ∨ n = 4 ∨ n = 5 := by omega
  refine ACalls.of_awp follows (st := st153) (plans := pl153) (n := 25) Tryz.func153 rfl (by kernel_rfl) (by kernel_rfl) (by kernel_rfl) ?_
  have w0 : IntKind.u8.wrap 0 = 0 := by decide
  have w1 : IntKind.u8.wrap 1 = 1 := by decide
  have w2 : IntKind.u8.wrap 2 = 2 := by decide
  have w3 : IntKind.u8.wrap 3 = 3 := by decide
  have w4 : IntKind.u8.wrap 4 = 4 := by decide
  have w5 : IntKind.u8.wrap 5 = 5 := by decide
  rcases hcase with rfl | rfl | rfl | rfl | rfl | rfl
  · simp [w0]
    exact ⟨_, AV.le_refl _, _, rfl⟩
  · simp [w1]
    exact ⟨_, AV.le_refl _, _, rfl⟩
  · simp [w2]
    exact ⟨_, AV.le_refl _, _, rfl⟩
  · simp [w3]
    exact ⟨_, AV.le_refl _, _, rfl⟩
  · simp [w4]
    exact ⟨_, AV.le_refl _, _, rfl⟩
  · simp [w5]
    exact ⟨_, AV.le_refl _, _, rfl⟩
set_option maxRecDepth 8000 in
theorem len_calls (n : Nat) (hn : n ≤ 5) (σ : Store) : ACalls Tryz.prog 142 [.lit (.int .u64 n)] σ fun v σ' => (∃ k : Int, v = .lit (.int .i64 k)) ∧ σ' = σ := by
  have h := fun τ => len64_calls n hn τ
  refine ACalls.of_awp follows (st := st142) (plans := pl142) (n := 8) Tryz.func142 rfl (by kernel_rfl) (by kernel_rfl) (by kernel_rfl) ?_
  simp
  refine callK.of (h _) ?_
  rintro v σ' ⟨⟨k, rfl⟩, rfl⟩
  simp
  exact ⟨_, AV.le_refl _, _, rfl⟩
set_option maxRecDepth 8000 in
theorem pdq_calls (o : Bool) (l : List UInt8) (hl : l.length ≤ 12) (hr : Up1 l) (k : Int) (σ : Store) : ACalls Tryz.prog 141 [.list o 1 (bytesA l), .lit (.int .i64 0), .lit (.int .i64 l.length), .lit (.int .i64 k)] σ fun v σ' => v = .tuple [] ∧ σ' = σ := by
  have hi := fun τ => insert_calls false l (by omega) hr τ
  have hw : IntKind.i64.wrap (l.length : Int) = (l.length : Int) := wrap_i64 (by omega) (by omega)
  have h12 : (l.length : Int) ≤ 12 := by omega
  refine ACalls.of_awp follows (st := st141) (plans := pl141) (n := 134) Tryz.func141 rfl (by kernel_rfl) (by kernel_rfl) (by kernel_rfl) ?_
  simp
  refine codeK.loop follows (st := st141) (plans := pl141) (X := Unit) (fun _ => True)
    (fun _ => [(0, .list o 1 (bytesA l)), (1, .lit (.int .i64 0)), (2, .lit (.int .i64 l.length)), (3, .lit (.int .i64 k))]) (fun _ => σ) (fun _ => 0) () (by kernel_rfl) trivial (by simp) (Store.sub_refl _) fun _ _ => ?_
  simp [hw, h12]
  refine callK.of (hi _) ?_
  rintro v σ' ⟨rfl, rfl⟩
  simp
set_option maxRecDepth 8000 in
theorem sort_calls (o : Bool) (l : List UInt8) (hl : l.length ≤ 5) (hr : Up1 l) (σ : Store) : ACalls Tryz.prog 138 [.list o 1 (bytesA l)] σ fun v σ' => v = .tuple [] ∧ σ' = σ := by
  have hle := fun τ => len_calls l.length hl τ
  have hp := fun k τ => pdq_calls false l (by omega) hr k τ
  have hw : IntKind.u64.wrap (l.length : Int) = (l.length : Int) := by
    have hcase : l.length = 0 ∨ l.length = 1 ∨ l.length = 2 ∨ l.length = 3 ∨ l.length = 4 ∨ l.length = 5 := by omega
    rcases hcase with h | h | h | h | h | h <;> rw [h] <;> decide
  refine ACalls.of_awp follows (st := st138) (plans := pl138) (n := 11) Tryz.func138 rfl (by kernel_rfl) (by kernel_rfl) (by kernel_rfl) ?_
  simp [hw]
  refine callK.of (hle _) ?_
  rintro v σ' ⟨⟨k, rfl⟩, rfl⟩
  simp
  refine callK.of (hp k _) ?_
  rintro v σ' ⟨rfl, rfl⟩
  simp
set_option maxRecDepth 8000 in
theorem agree_calls (q : Nat) (e : Ng) (o1 o2 o : Bool) (l : List UInt8) (hl : l.length ≤ 5) (hr : Up1 l) (σ : Store) (h : σ q = some (endO e o1 o2)) :
    ACalls Tryz.prog 128 [ptrA q, .list o 1 (bytesA l)] σ fun v σ' => v = .tuple [] ∧ Up σ q { e with st := 3, agreed := l } σ' := by
  have hv := fun τ => values_calls false l τ
  have has := fun b τ ht => appseq_calls b false l (by omega) τ ht
  have hso := fun τ => sort_calls false l hl hr τ
  have hco : ∀ b τ, τ b = some [.list false 1 (bytesA l)] → ACalls Tryz.prog 137 [.func (.func 139) [] [ptrA b]] τ fun v σ' => v = .list false 1 (bytesA l) ∧ σ' = τ := fun b τ ht => by
    have := has b τ ht
    refine ACalls.of_awp follows (st := st137) (plans := pl137) (n := 5) Tryz.func137 rfl (by kernel_rfl) (by kernel_rfl) (by kernel_rfl) ?_
    simp
    refine callK.of this ?_
    rintro v σ' ⟨rfl, rfl⟩
    simp
  have hsd : ∀ b τ, τ b = some [.list false 1 (bytesA l)] → ACalls Tryz.prog 134 [.func (.func 139) [] [ptrA b]] τ fun v σ' => v = .list false 1 (bytesA l) ∧ σ' = τ := fun b τ ht => by
    have := hco b τ ht
    refine ACalls.of_awp follows (st := st134) (plans := pl134) (n := 9) Tryz.func134 rfl (by kernel_rfl) (by kernel_rfl) (by kernel_rfl) ?_
    simp
    refine callK.of this ?_
    rintro v σ' ⟨rfl, rfl⟩
    simp
    refine callK.of (hso _) ?_
    rintro v σ' ⟨rfl, rfl⟩
    simp
  have h0 := h
  unfold endO at h
  refine ACalls.of_awp follows (st := st128) (plans := pl128) (n := 13) Tryz.func128 rfl (by kernel_rfl) (by kernel_rfl) (by kernel_rfl) ?_
  simp [ptrA]
  refine callK.of (hv _) ?_
  rintro v σ' ⟨b, hb, rfl, rfl⟩
  have hqb : ¬ q = b := by rintro rfl; rw [h0] at hb; cases hb
  simp
  have := hsd b (σ.upd b [.list false 1 (bytesA l)]) (by simp)
  refine callK.of this ?_
  rintro v σ' ⟨rfl, rfl⟩
  simp [hqb, h]
  refine ⟨_, AV.le_refl _, _, ?_, rfl, o1, false, rfl⟩
  unfold endO
  (intro q; simp only [Store.upd, Store.del]; (repeat' split) <;> first | exact Or.inr rfl | exact Or.inl rfl | (exfalso; omega) | (left; subst_vars; assumption) | simp_all)
end Go.Proofs.YteaidaolablegaaGreatDoor
