/-
  A link is made; the document's example.
-/
import Derived.Test.YteaidaolablegaaGreatDoorSPart18
set_option linter.unusedSimpArgs false
set_option linter.unusedVariables false
namespace Go.Proofs.YteaidaolablegaaGreatDoor
open Go Go.AL

theorem rises_le {l : List UInt8} (h : Rises l) : ∀ x ∈ l, x.toNat ≤ 4 := fun x hx => by
  obtain ⟨i, hi, rfl⟩ := List.getElem_of_mem hx
  have h1 := (h i hi).1
  rw [List.getElem?_eq_getElem hi] at h1
  exact h1
/-- Five new blocks. -/
theorem putL_new {k : Bk} {σ : Store} (h1 : σ k.l = none) (h2 : σ k.r = none) (h3 : σ k.o = none) (h4 : σ k.e = none) (h5 : σ k.m = none) (L : Lk) (a b : Bool) : Store.sub σ (putL k L a b σ) := by
  refine Store.sub2 (fun x => ?_) (fun g => .inr (by simp [putL]))
  rw [putL_apply]
  split
  · rename_i e; left; rw [e]; exact h5
  split
  · rename_i e; left; rw [e]; exact h4
  split
  · rename_i e; left; rw [e]; exact h3
  split
  · rename_i e; left; rw [e]; exact h2
  split
  · rename_i e; left; rw [e]; exact h1
  · right; rfl
theorem init_ok {e : Ng} {x : Bool} (hs : Small e) (hk : okC e) : LkOk (.init e x) 0 :=
  ⟨by simp [Lk.init], by simp [Lk.init], ⟨hs.ty, hs.dev, hs.fns, by simp [Lk.init]⟩, rises_le hk.2.2, ⟨rfl, rfl, by simp [Lk.init, Rd.init]⟩⟩
def Lk.emptied (L : Lk) : Lk := { L with out := [] }
theorem emptied_ok {L : Lk} {n : Nat} (h : LkOk L n) : LkOk L.emptied n := ⟨Nat.zero_le _, h.mp, h.small, h.ok, h.rd⟩
def ngT : Ng := { ty := [84], dev := [], fns := [] }
def awP : List UInt8 := [255, 253, 40]
def awQ : List UInt8 := [255, 250, 40, 8, 2, 255, 240]
def awL : Lk := (Lk.init ngT true).all awP
theorem awL_out : awL.out = [255, 251, 40] := by decide +kernel
theorem awL_out2 : (awL.emptied.all awQ).out = [255, 250, 40, 2, 7, 84, 255, 240] := by decide +kernel
theorem ngT_ok : okC ngT := by decide +kernel
theorem ngT_few : ngT.few = ngT := rfl
theorem awL_ex : ∃ L0, Lk.init ngT true = L0 ∧ LkOk L0 0 ∧ (L0.all awP).out = [255, 251, 40] ∧ ((L0.all awP).emptied.all awQ).out = [255, 250, 40, 2, 7, 84, 255, 240] :=
  ⟨_, rfl, init_ok ⟨by simp [ngT], by simp [ngT], by simp [ngT], by simp [ngT]⟩ ngT_ok, awL_out, awL_out2⟩
/-- A link that is made. -/
def LaidR (L : Lk) (σ : Store) (v : AV) (σ' : Store) : Prop := ∃ (ad : Option Addr) (f : Int) (kb : Bk) (a b : Bool), kb.Ok ∧ (∀ L a b, Store.sub σ (putL kb L a b σ)) ∧ v = .tuple [ptrA kb.l, .lit (.pointer ad), .lit (.int .i64 0), .lit (.int .i64 f)] ∧ σ' = putL kb L a b σ
theorem laid_calls {e : Ng} (h : okC e.few) (o x : Bool) (σ : Store) : ACalls Tryz.prog 9 [confA e o, .lit (.bool x)] σ (LaidR (.init e.few x) σ) := by
  refine (lay_calls e o x σ).mono fun v σ' hh => ?_
  obtain ⟨ad, f, _, h1 | ⟨_, kb, hk, ⟨n1, n2, n3, n4, n5⟩, hv, a, b, hs⟩⟩ := hh
  · exfalso; exact h1.1 h
  · exact ⟨ad, f, kb, a, b, hk, putL_new n1 n2 n3 n4 n5, hv, hs⟩
set_option maxRecDepth 8000 in
set_option maxHeartbeats 1000000 in
theorem awake_calls (σ : Store) : ACalls Tryz.prog 8 [] σ fun v σ' => v = .lit (.bool true) ∧ σ' = σ := by
  have hlay := laid_calls (e := ngT) ngT_ok true true σ
  rw [ngT_few] at hlay
  obtain ⟨L0, hL0, hok0, ho1, ho2⟩ := awL_ex
  rw [hL0] at hlay
  clear hL0
  have hlay : ACalls Tryz.prog 9 [.agg [.lit (.string { data := #[84] }), .lit (.string ByteArray.empty), .list true 1 []], .lit (.bool true)] σ (LaidR L0 σ) := hlay
  refine ACalls.of_awp follows (st := st8) (plans := pl8) (n := 36) Tryz.func8 rfl (by kernel_rfl) (by kernel_rfl) (by kernel_rfl) ?_
  simp
  refine callK.of hlay ?_
  rintro v σ1 ⟨ad, f, kb, a1, b1, hk, hsub, rfl, rfl⟩
  have hok1 := all_ok hok0 awP (by simp [awP])
  generalize hL1 : L0.all awP = L1 at *
  have hok2 := emptied_ok hok1
  have hat1 := putL_at hk L0 a1 b1 σ
  have h1 := ltk_calls kb hk _ _ _ true 0 awP (by simp [awP]) hok0 _ hat1
  rw [hL1] at h1
  have h2 := fun a b => ltk_calls kb hk _ _ _ true _ awQ (by simp [awP, awQ]) hok2 _ (putL_at hk L1.emptied a b σ)
  have e1 : bytesA awP = [.lit (.int .u8 255), .lit (.int .u8 253), .lit (.int .u8 40)] := rfl
  have e2 : bytesA awQ = [.lit (.int .u8 255), .lit (.int .u8 250), .lit (.int .u8 40), .lit (.int .u8 8), .lit (.int .u8 2), .lit (.int .u8 255), .lit (.int .u8 240)] := rfl
  rw [e1] at h1
  rw [e2] at h2
  generalize hL2 : L1.emptied.all awQ = L2 at *
  have c1 := fun τ => same_calls false true L1.out [255, 251, 40] τ
  have c2 := fun τ => same_calls false true L2.out [255, 250, 40, 2, 7, 84, 255, 240] τ
  have e3 : bytesA [255, 251, 40] = [.lit (.int .u8 255), .lit (.int .u8 251), .lit (.int .u8 40)] := rfl
  have e4 : bytesA [255, 250, 40, 2, 7, 84, 255, 240] = [.lit (.int .u8 255), .lit (.int .u8 250), .lit (.int .u8 40), .lit (.int .u8 2), .lit (.int .u8 7), .lit (.int .u8 84), .lit (.int .u8 255), .lit (.int .u8 240)] := rfl
  rw [e3] at c1
  rw [e4] at c2
  rw [ho1] at c1
  rw [ho2] at c2
  have o1 := fun a b => lout_calls kb hk L1 a b _ (putL_at hk L1 a b σ)
  have o2 := fun a b => lout_calls kb hk L2 a b _ (putL_at hk L2 a b σ)
  rw [ho1] at o1
  rw [ho2] at o2
  simp
  refine callK.of h1 ?_
  rintro v σ1 ⟨rfl, a2, b2, rfl⟩
  rw [putL_putL]
  simp
  refine callK.of (o1 a2 b2) ?_
  rintro v σ1 ⟨rfl, rfl⟩
  rw [putL_putL]
  simp
  refine callK.of (h2 a2 b2) ?_
  rintro v σ1 ⟨rfl, a3, b3, rfl⟩
  rw [putL_putL]
  simp
  refine callK.of (c1 _) ?_
  rintro v σ1 ⟨rfl, rfl⟩
  simp
  refine callK.of (o2 a3 b3) ?_
  rintro v σ1 ⟨rfl, rfl⟩
  rw [putL_putL]
  simp
  refine callK.of (c2 _) ?_
  rintro v σ1 ⟨rfl, rfl⟩
  simp
  exact hsub _ _ _
end Go.Proofs.YteaidaolablegaaGreatDoor
/-
  The responses: the program's and the document's.
-/
namespace Go.Proofs.YteaidaolablegaaGreatDoor
open Go Go.AL

theorem esc_snoc (l : List UInt8) (b : UInt8) : esc (l ++ [b]) = esc l ++ (if (b.toNat : Int) = 255 then [b, b] else [b]) := by
  rw [esc, escOf_append]
  congr 1
  by_cases h : b = 255
  · subst h; rfl
  · have : ¬ (b.toNat : Int) = 255 := fun e => h (UInt8.toNat_inj.1 (by show b.toNat = 255; omega))
    simp [escOf, h, this]
/-- The code of an error. -/
def codeF (n : Nat) : UInt8 := if n = 11 then 0 else if n = 6 ∨ n = 8 then 1 else if n = 3 ∨ n = 7 then 3 else 2
/-- A response. -/
def answerL (seq : Nat) (bad code : UInt8) : List UInt8 := [2, 0, bad, UInt8.ofNat (seq / 256), UInt8.ofNat seq, code]
end Go.Proofs.YteaidaolablegaaGreatDoor
/-
  The program's answer to a record.
-/
namespace Go.Proofs.YteaidaolablegaaGreatDoor
open Go Go.AL

/-- The answer to a record with this header. -/
def answerF (h : Hd) (code : Nat) : Option (List UInt8) :=
  if h.ty = 2 ∨ h.ty = 6 ∨ h.resp = 0 ∨ 2 < h.resp.toNat then none
  else if code ≠ 0 then some (answerL h.seq 1 (codeF code))
  else if h.resp = 2 then some (answerL h.seq 0 0) else none
def AnsR (h : Hd) (code : Nat) (σ : Store) (v : AV) (σ' : Store) : Prop := σ' = σ ∧ match answerF h code with
  | some l => v = .tuple [.list true 1 (bytesA l), .lit (.bool true)]
  | none => v = .tuple [.list true 1 [], .lit (.bool false)]
end Go.Proofs.YteaidaolablegaaGreatDoor
/-
  The link responds.
-/
namespace Go.Proofs.YteaidaolablegaaGreatDoor
open Go Go.AL

set_option maxRecDepth 8000 in
theorem rbytes_calls (o : Bool) (l : List UInt8) (σ : Store) (hl : l.length ≤ 1000000) : ACalls Tryz.prog 42 [.list o 1 (bytesA l)] σ fun v σ' => v = .list true 1 (bytesA (esc l ++ [255, 239])) ∧ σ' = σ := by
  have h1 := esc_length l
  have he := fun τ => escape_calls false l τ hl
  generalize esc l = k at *
  refine ACalls.of_awp follows (st := st42) (plans := pl42) (n := 7) Tryz.func42 rfl (by kernel_rfl) (by kernel_rfl) (by kernel_rfl) ?_
  simp
  refine callK.of (he _) ?_
  rintro v σ1 ⟨rfl, rfl⟩
  simp
  refine ⟨by omega, by omega, ?_⟩
  simp [bytesA, byteA]
def Ng.has (e : Ng) (c : UInt8) : Bool := decide (e.st = 3) && decide (c ∈ e.agreed)
set_option maxRecDepth 8000 in
theorem has_calls (q : Nat) (e : Ng) (o1 o2 : Bool) (c : UInt8) (hs : Small e) (σ : Store) (h : σ q = some (endO e o1 o2)) :
    ACalls Tryz.prog 39 [ptrA q, byteA c] σ fun v σ' => v = .lit (.bool (e.has c)) ∧ σ' = σ := by
  have h1 := functions_calls q e o1 o2 hs σ h
  have h2 := fun τ => indexByte_calls true (if e.st = 3 then e.agreed else []) c τ
  have h3 := ixByte_mem (if e.st = 3 then e.agreed else []) c
  have h4 : e.has c = decide (c ∈ (if e.st = 3 then e.agreed else [])) := by
    unfold Ng.has
    by_cases c3 : e.st = 3 <;> simp [c3]
  rw [h4]
  generalize (if e.st = 3 then e.agreed else []) = l at *
  rw [byteA_lit] at h2
  refine ACalls.of_awp follows (st := st39) (plans := pl39) (n := 10) Tryz.func39 rfl (by kernel_rfl) (by kernel_rfl) (by kernel_rfl) ?_
  simp [byteA]
  refine callK.of h1 ?_
  rintro v σ1 ⟨rfl, rfl⟩
  simp
  refine callK.of (h2 _) ?_
  rintro v σ1 ⟨rfl, rfl⟩
  by_cases hc : c ∈ l
  · have : 0 ≤ Lib.indexByte l c := by
      have := mt h3.1.1 (by simpa using hc)
      omega
    simp [hc, this]
  · have := h3.2 hc
    simp [hc, this]
/-- What the link does when a record is answered. -/
def Lk.respond (L : Lk) (e : LE) (code : Nat) : Lk × Bool :=
  if e.headed = true ∧ L.mode = 2 ∧ L.e.has 2 = true then
    match answerF e.hd code with
    | some a => ({ L with out := L.out ++ (esc a ++ [255, 239]) }, true)
    | .none => (L, false)
  else (L, false)
end Go.Proofs.YteaidaolablegaaGreatDoor
/-
  Nothing but text unless it is agreed: the plain law; one lot of bytes.
-/
namespace Go.Proofs.YteaidaolablegaaGreatDoor
open Go Go.AL

/-- May an event be told, as the link is? -/
def MayTell (e : LE) (L : Lk) : Prop := (e.kind ≠ 2 → L.modeNow = 1 ∨ L.modeNow = 2) ∧ (e.kind = 2 → e.headed = false → L.modeNow = 0)
end Go.Proofs.YteaidaolablegaaGreatDoor
/-
  A record that is sent is one that is told.
-/
namespace Go.Proofs.YteaidaolablegaaGreatDoor
open Go Go.AL

theorem esc_cons (b : UInt8) (l : List UInt8) : esc (b :: l) = (if (b.toNat : Int) = 255 then [b, b] else [b]) ++ esc l := by
  have : b :: l = [b] ++ l := rfl
  rw [this, esc, escOf_append]
  congr 1
  exact esc_snoc [] b
theorem feed_app (r : Rd) (p q : List UInt8) : r.feed (p ++ q) = (r.feed p).feed q := by simp [Rd.feed]
theorem feed_esc (V : Rd) (hs : V.state = 0) (d : List UInt8) : V.feed (esc d) = { V with data := V.data ++ d, state := 0 } := by
  induction d generalizing V with
  | nil => simp [esc, escOf, Rd.feed, ← hs]
  | cons b d ih =>
    rw [esc_cons, feed_app]
    by_cases hb : (b.toNat : Int) = 255
    · rw [if_pos hb]
      show ((V.take b).take b).feed (esc d) = _
      rw [show V.take b = { V with state := 1 } by simp [Rd.take, hs, hb]]
      rw [show ({ V with state := 1 } : Rd).take b = { V with data := V.data ++ [b], state := 0 } by simp [Rd.take, Rd.command, hb], ih _ rfl]
      simp
    · rw [if_neg hb]
      show (V.take b).feed (esc d) = _
      rw [show V.take b = { V with data := V.data ++ [b], state := 0 } by simp [Rd.take, hs, hb], ih _ rfl]
      simp
end Go.Proofs.YteaidaolablegaaGreatDoor
/-
  Records on the line, and what they are read as.
-/
namespace Go.Proofs.YteaidaolablegaaGreatDoor
open Go Go.AL

def eorEv : Ev := ⟨1, 239, 0, [], false, false⟩
/-- The events of records. -/
def recEvs1 (d : List UInt8) : List Ev := (if 0 < d.length then [dataEv d] else []) ++ [eorEv]
def recEvs (ds : List (List UInt8)) : List Ev := ds.flatMap recEvs1
def wire (ds : List (List UInt8)) : List UInt8 := ds.flatMap fun d => esc d ++ [255, 239]
theorem wire_append (a b : List (List UInt8)) : wire (a ++ b) = wire a ++ wire b := by simp [wire]
theorem wire_one (d : List UInt8) : wire [d] = esc d ++ [255, 239] := by simp [wire]
theorem feed_one (V : Rd) (hs : V.state = 0) (hd : V.data = []) (d : List UInt8) :
    V.feed (esc d ++ [255, 239]) = { V with data := [], state := 0, out := V.out ++ recEvs1 d } := by
  rw [feed_app, feed_esc V hs d, hd, List.nil_append]
  show ((({ V with data := d, state := 0 } : Rd).take 255).take 239) = _
  rw [show ({ V with data := d, state := 0 } : Rd).take 255 = { V with data := d, state := 1 } by simp [Rd.take]]
  rw [show ({ V with data := d, state := 1 } : Rd).take 239 = ({ V with data := d, state := 1 } : Rd).command 239 by simp [Rd.take]]
  by_cases h : 0 < d.length
  · simp [Rd.command, Rd.tell, Rd.flush, h, recEvs1, eorEv, dataEv]
  · have : d = [] := List.eq_nil_of_length_eq_zero (by omega)
    subst this
    simp [Rd.command, Rd.tell, Rd.flush, recEvs1, eorEv]
theorem feed_wire (ds : List (List UInt8)) : ∀ (V : Rd), V.state = 0 → V.data = [] → V.feed (wire ds) = { V with data := [], state := 0, out := V.out ++ recEvs ds } := by
  induction ds with
  | nil =>
    intro V h1 h2
    obtain ⟨s, v, o, d, sb, lg, ou⟩ := V
    dsimp only at h1 h2
    subst h1 h2
    simp [wire, recEvs, Rd.feed]
  | cons d ds ih =>
    intro V h1 h2
    have e1 : wire (d :: ds) = (esc d ++ [255, 239]) ++ wire ds := rfl
    have e2 : recEvs (d :: ds) = recEvs1 d ++ recEvs ds := rfl
    rw [e1, feed_app, feed_one V h1 h2, ih _ rfl rfl, e2]
    simp
/-- Nothing of data stands last. -/
def Shut (m : List Ev) : Prop := ∀ e, m.getLast? = some e → e.kind ≠ 0
theorem merge_one (m : List Ev) (hm : Shut m) (d : List UInt8) : (recEvs1 d).foldl mergeStep m = m ++ recEvs1 d ∧ Shut (m ++ recEvs1 d) := by
  constructor
  · unfold recEvs1
    split
    · rename_i h
      have hd : d ≠ [] := fun e => by subst e; simp at h
      have e1 : mergeStep m (dataEv d) = m ++ [dataEv d] := by
        unfold mergeStep
        rw [if_neg (by simp [dataEv]), if_neg (by simpa [dataEv] using hd)]
        have hdd : dataEv (dataEv d).data = dataEv d := rfl
        rw [hdd]
        cases hl : m.getLast? with
        | none => simp_all
        | some last => dsimp only; rw [if_neg (hm last hl)]
      simp only [List.cons_append, List.nil_append, List.foldl_cons, List.foldl_nil, e1]
      unfold mergeStep
      rw [if_pos (by simp [eorEv])]
      simp
    · simp only [List.nil_append, List.foldl_cons, List.foldl_nil]
      unfold mergeStep
      rw [if_pos (by simp [eorEv])]
  · intro e he
    have : (m ++ recEvs1 d).getLast? = some eorEv := by unfold recEvs1; rw [← List.append_assoc]; simp
    rw [this] at he
    obtain rfl := Option.some.inj he
    decide
theorem merge_recs (ds : List (List UInt8)) : ∀ m, Shut m → (recEvs ds).foldl mergeStep m = m ++ recEvs ds := by
  induction ds with
  | nil => intro m _; simp [recEvs]
  | cons d ds ih =>
    intro m hm
    have e2 : recEvs (d :: ds) = recEvs1 d ++ recEvs ds := rfl
    obtain ⟨h1, h2⟩ := merge_one m hm d
    rw [e2, List.foldl_append, h1, ih _ h2, List.append_assoc]
theorem told_wire (ds : List (List UInt8)) : (Rd.init.feed (wire ds)).told = recEvs ds ∧ (Rd.init.feed (wire ds)).state = 0 := by
  rw [feed_wire ds Rd.init rfl rfl]
  refine ⟨?_, rfl⟩
  have e : Rd.init.out = [] := rfl
  rw [told_of, if_pos rfl]
  show merge (Rd.init.out ++ recEvs ds) = _
  rw [e, List.nil_append]
  have := merge_recs ds [] (fun e he => by simp at he)
  rw [List.nil_append] at this
  exact this
/-! ### The document's records -/
def recStep (s : List (List UInt8) × List UInt8) (e : Ev) : List (List UInt8) × List UInt8 :=
  if e.kind = 0 then (s.1, s.2 ++ e.data) else if e.kind = 1 ∧ e.verb = 239 then (s.1 ++ [s.2], []) else s
theorem recs_wire (ds : List (List UInt8)) : ∀ a, (recEvs ds).foldl recStep (a, []) = (a ++ ds, []) := by
  induction ds with
  | nil => intro a; simp [recEvs]
  | cons d ds ih =>
    intro a
    have e2 : recEvs (d :: ds) = recEvs1 d ++ recEvs ds := rfl
    have e3 : (recEvs1 d).foldl recStep (a, []) = (a ++ [d], []) := by
      unfold recEvs1
      split
      · simp [recStep, dataEv, eorEv]
      · rename_i h
        have : d = [] := List.eq_nil_of_length_eq_zero (by omega)
        subst this
        simp [recStep, eorEv]
    rw [e2, List.foldl_append, e3, ih]
    simp
theorem recs_size (l : List Ev) : ∀ s, (l.foldl recStep s).2.length ≤ s.2.length + bytesIn l ∧ (l.foldl recStep s).1.length ≤ s.1.length + l.length := by
  induction l with
  | nil => intro s; simp
  | cons e l ih =>
    intro s
    have h := ih (recStep s e)
    have hb : bytesIn (e :: l) = e.data.length + bytesIn l := by simp [bytesIn]
    simp only [List.foldl_cons, List.length_cons, hb]
    have h1 : (recStep s e).2.length ≤ s.2.length + e.data.length ∧ (recStep s e).1.length ≤ s.1.length + 1 := by
      unfold recStep
      split
      · simp
      · split <;> simp
    omega
def recsA (ds : List (List UInt8)) : List AV := ds.map fun d => .agg [.list false 1 (bytesA d), .lit (.bool false)]
@[simp] theorem recsA_length (ds : List (List UInt8)) : (recsA ds).length = ds.length := by simp [recsA]
theorem recsA_append (a b : List (List UInt8)) : recsA (a ++ b) = recsA a ++ recsA b := by simp [recsA]
theorem recStep_take (E : List Ev) (i : Nat) (h : i < E.length) (s : List (List UInt8) × List UInt8) : (E.take (i + 1)).foldl recStep s = recStep ((E.take i).foldl recStep s) E[i] := by
  rw [List.take_succ_eq_append_getElem h, List.foldl_append]; rfl
set_option maxRecDepth 8000 in
theorem r7of_calls (o : Bool) (p : List UInt8) (hp : p.length ≤ 8192) (σ : Store) : ACalls Tryz.prog 44 [.list o 1 (bytesA p)] σ fun v σ' => v = .agg [.list false 1 (bytesA p), .lit (.bool false)] ∧ σ' = σ := by
  have hc := fun τ => copy_calls false p τ (by omega)
  have hn : ¬ 8192 < (p.length : Int) := by omega
  refine ACalls.of_awp follows (st := st44) (plans := pl44) (n := 13) Tryz.func44 rfl (by kernel_rfl) (by kernel_rfl) (by kernel_rfl) ?_
  simp
  intro q hq
  simp [hn]
  refine callK.of (hc _) ?_
  rintro v σ1 ⟨rfl, rfl⟩
  simp
  (intro q; simp only [Store.upd, Store.del]; (repeat' split) <;> first | exact Or.inr rfl | exact Or.inl rfl | (exfalso; omega) | (left; subst_vars; assumption) | simp_all)
set_option maxRecDepth 8000 in
set_option maxHeartbeats 1000000 in
theorem records_calls (o : Bool) (p : List UInt8) (hp : p.length ≤ 8000) (hsz : (Rd.init.feed p).told.length ≤ 20000 ∧ bytesIn (Rd.init.feed p).told ≤ 8000) (σ : Store) :
    ACalls Tryz.prog 15 [.list o 1 (bytesA p)] σ fun v σ' => v = .list false 2 (recsA ((Rd.init.feed p).told.foldl recStep ([], [])).1) ∧ σ' = σ := by
  have hr := fun τ => read_calls false p τ (by omega)
  generalize (Rd.init.feed p).told = E at *
  obtain ⟨hE1, hE2⟩ := hsz
  refine ACalls.of_awp follows (st := st15) (plans := pl15) (n := 44) Tryz.func15 rfl (by kernel_rfl) (by kernel_rfl) (by kernel_rfl) ?_
  simp
  refine callK.of (hr _) ?_
  rintro v σ1 ⟨rfl, rfl⟩
  simp
  refine codeK.loop follows (st := st15) (plans := pl15) (X := Nat) (fun i => i ≤ E.length)
    (fun i => [(5, .list true 2 (recsA ((E.take i).foldl recStep ([], [])).1)), (6, .list true 1 (bytesA ((E.take i).foldl recStep ([], [])).2)), (14, .list false 6 (evsA E)), (15, .lit (.int .i64 E.length)), (16, .lit (.int .i64 i))]) (fun _ => σ1) (fun i => E.length - i) 0 (by kernel_rfl) (Nat.zero_le _) (by simp [recsA, bytesA_nil]) (Store.sub_refl _) ?_
  intro i hi
  by_cases hlt : i < E.length
  · have hlt' : (i : Int) < E.length := by omega
    obtain ⟨e, he⟩ : ∃ e, E[i] = e := ⟨_, rfl⟩
    have hst := recStep_take E i hlt ([], [])
    have hs := recs_size (E.take i) ([], [])
    have hb1 := bytesIn_take E i
    have hb2 : e.data.length ≤ bytesIn E := bytesIn_le (by rw [← he]; exact List.getElem_mem ..)
    simp only [List.length_nil, Nat.zero_add] at hs
    have hti : (E.take i).length ≤ 20000 := by simp; omega
    have hw : IntKind.i64.wrap ((i : Int) + 1) = ((i + 1 : Nat) : Int) := wrap_i64 (by omega) (by omega)
    have hg : ∀ q : i < (evsA E).length, (evsA E)[i]'q = evA e := fun q => by simp [evsA, he]
    rw [he] at hst
    have hof := fun τ (h : ((E.take i).foldl recStep ([], [])).2.length ≤ 8192) => r7of_calls false ((E.take i).foldl recStep ([], [])).2 h τ
    generalize (E.take i).foldl recStep ([], []) = S at *
    obtain ⟨acc, dat⟩ := S
    dsimp only at hs hof
    dsimp only
    by_cases hk0 : e.kind = 0
    · have hst' : (E.take (i + 1)).foldl recStep ([], []) = (acc, dat ++ e.data) := by rw [hst]; unfold recStep; rw [if_pos hk0]
      simp [hlt, hlt', hg, evA, byteA, hk0]
      intro q hq
      refine ⟨by omega, by omega, i + 1, by omega, by omega, ?_, ?_⟩
      · rw [hst', hw]; exact ⟨AV.le_refl _, by rw [bytesA_append]; exact AV.le_refl _, AV.le_refl _⟩
      · (intro q; simp only [Store.upd, Store.del]; (repeat' split) <;> first | exact Or.inr rfl | exact Or.inl rfl | (exfalso; omega) | (left; subst_vars; assumption) | simp_all)
    · by_cases hk1 : e.kind = 1 ∧ e.verb = 239
      · have hst' : (E.take (i + 1)).foldl recStep ([], []) = (acc ++ [dat], []) := by rw [hst]; unfold recStep; rw [if_neg hk0, if_pos hk1]
        simp [hlt, hlt', hg, evA, byteA, hk1.1, hk1.2]
        intro q hq
        refine callK.of (hof _ (by omega)) ?_
        rintro v σ2 ⟨rfl, rfl⟩
        simp
        refine ⟨by omega, by omega, i + 1, by omega, by omega, ?_, ?_⟩
        · rw [hst', hw]; exact ⟨by rw [recsA_append]; exact AV.le_refl _, AV.le_refl _, AV.le_refl _⟩
        · (intro q; simp only [Store.upd, Store.del]; (repeat' split) <;> first | exact Or.inr rfl | exact Or.inl rfl | (exfalso; omega) | (left; subst_vars; assumption) | simp_all)
      · have hst' : (E.take (i + 1)).foldl recStep ([], []) = (acc, dat) := by rw [hst]; unfold recStep; rw [if_neg hk0, if_neg hk1]
        have hk2 : ¬ ((e.kind : Int) = 1 ∧ (e.verb.toNat : Int) = 239) := fun ⟨h1, h2⟩ => hk1 ⟨by omega, UInt8.toNat_inj.1 (by show e.verb.toNat = 239; omega)⟩
        by_cases hk3 : e.kind = 1
        · have hv : ¬ (e.verb.toNat : Int) = 239 := fun h => hk2 ⟨by omega, h⟩
          simp [hlt, hlt', hg, evA, byteA, hk3, hv]
          intro q hq
          refine ⟨i + 1, by omega, by omega, ?_, ?_⟩
          · rw [hst', hw]; exact ⟨AV.le_refl _, AV.le_refl _, AV.le_refl _⟩
          · (intro q; simp only [Store.upd, Store.del]; (repeat' split) <;> first | exact Or.inr rfl | exact Or.inl rfl | (exfalso; omega) | (left; subst_vars; assumption) | simp_all)
        · simp [hlt, hlt', hg, evA, byteA, hk0, hk3]
          intro q hq
          refine ⟨i + 1, by omega, by omega, ?_, ?_⟩
          · rw [hst', hw]; exact ⟨AV.le_refl _, AV.le_refl _, AV.le_refl _⟩
          · (intro q; simp only [Store.upd, Store.del]; (repeat' split) <;> first | exact Or.inr rfl | exact Or.inl rfl | (exfalso; omega) | (left; subst_vars; assumption) | simp_all)
  · obtain rfl : i = E.length := by omega
    simp
end Go.Proofs.YteaidaolablegaaGreatDoor
/-
  The document's responses.
-/
namespace Go.Proofs.YteaidaolablegaaGreatDoor
open Go Go.AL

@[simp] def st18o : List Nat := [1000036]
@[simp] def pl18o : List (Nat × Plan) := []
/-- The five bytes of a header. -/
def headL (h : Hd) : List UInt8 := [h.ty, h.req, h.resp, UInt8.ofNat (h.seq / 256), UInt8.ofNat h.seq]
def headOk (h : Hd) : Prop := ¬ (8 < h.ty.toNat ∨ 2 < h.resp.toNat ∨ (h.ty = 2 ∧ h.resp = 2))
instance (h : Hd) : Decidable (headOk h) := by unfold headOk; infer_instance
def HBytesR (h : Hd) (σ : Store) (v : AV) (σ' : Store) : Prop := σ' = σ ∧ ((headOk h ∧ v = .tuple [.list true 1 (bytesA (headL h)), .lit (.int .i64 0)]) ∨ (¬ headOk h ∧ v = .tuple [.list true 1 [], .lit (.int .i64 1)]))
end Go.Proofs.YteaidaolablegaaGreatDoor
/-
  What is sent: the header.
-/
namespace Go.Proofs.YteaidaolablegaaGreatDoor
open Go Go.AL

set_option maxRecDepth 8000 in
set_option maxHeartbeats 1000000 in
theorem hbytes_calls (seq : Nat) (hs : seq < 65536) (σ : Store) : ACalls Tryz.prog 41 [.agg [.lit (.int .u8 0), .lit (.int .u8 0), .lit (.int .u8 0), .lit (.int .u16 seq)]] σ fun v σ' => v = .tuple [.list true 1 (bytesA (headL ⟨0, 0, 0, seq⟩)), .lit (.int .i64 0)] ∧ σ' = σ := by
  have hr := fun τ => right_calls ⟨0, 0, 0, seq⟩ τ
  have er : Hd.right ⟨0, 0, 0, seq⟩ = true := by simp [Hd.right]
  rw [er] at hr
  have e0 : (0 : UInt8).toNat = 0 := rfl
  simp [hdL, byteA_lit, e0] at hr
  have hp : (2 : Int) ^ min 8 IntKind.u16.bits = 256 := by decide
  have e1 : IntKind.u8.wrap ((seq : Int).fdiv (2 ^ min 8 IntKind.u16.bits)) = (seq : Int) / 256 % 256 := by
    rw [hp, Int.fdiv_eq_ediv_of_nonneg _ (by omega)]
    unfold IntKind.wrap
    simp [IntKind.signed, IntKind.bits]
  have e2 : IntKind.u8.wrap (seq : Int) = (seq : Int) % 256 := by
    unfold IntKind.wrap
    simp [IntKind.signed, IntKind.bits]
  refine ACalls.of_awp follows (st := st41) (plans := pl41) (n := 21) Tryz.func41 rfl (by kernel_rfl) (by kernel_rfl) (by kernel_rfl) ?_
  simp
  intro p hp0
  refine callK.of (hr _) ?_
  rintro v σ1 ⟨rfl, rfl⟩
  simp
  rw [e1, e2]
  refine ⟨le_of_eq ?_, sub_upd_self _ _ _ hp0⟩
  simp [headL, bytesA, byteA]
def nextSeq (n : Nat) : Nat := if 32767 ≤ n then 0 else n + 1
set_option maxRecDepth 8000 in
theorem next_calls (n : Nat) (σ : Store) : ACalls Tryz.prog 40 [.lit (.int .u16 n)] σ fun v σ' => v = .lit (.int .u16 (nextSeq n)) ∧ σ' = σ := by
  refine ACalls.of_awp follows (st := st40) (plans := pl40) (n := 7) Tryz.func40 rfl (by kernel_rfl) (by kernel_rfl) (by kernel_rfl) ?_
  unfold nextSeq
  by_cases c : 32767 ≤ n
  · have c' : 32767 ≤ (n : Int) := by omega
    simp [c, c']
  · have c' : ¬ 32767 ≤ (n : Int) := by omega
    have hw : IntKind.u16.wrap ((n : Int) + 1) = (n : Int) + 1 := by
      unfold IntKind.wrap
      simp [IntKind.signed, IntKind.bits]
      omega
    simp [c, c', hw]
/-- What the link does when a record is sent. -/
def Lk.send (L : Lk) (p : List UInt8) : Lk :=
  if L.mode = 2 then
    (if L.e.has 2 = true then { L with seq := nextSeq L.seq, out := L.out ++ (esc (headL ⟨0, 0, 0, L.seq⟩ ++ p) ++ [255, 239]) }
     else { L with out := L.out ++ (esc (headL ⟨0, 0, 0, 0⟩ ++ p) ++ [255, 239]) })
  else { L with out := L.out ++ (esc p ++ [255, 239]) }
end Go.Proofs.YteaidaolablegaaGreatDoor
/-
  LinkResponds: its link; what a record of its own gives, and what it answers.
-/
namespace Go.Proofs.YteaidaolablegaaGreatDoor
open Go Go.AL

def ngR : Ng := { ty := [84], dev := [], fns := [2] }
def helloR : List UInt8 := [255, 253, 40, 255, 250, 40, 8, 2, 255, 240, 255, 250, 40, 2, 4, 84, 1, 76, 255, 240, 255, 250, 40, 3, 4, 2, 255, 240]
def respL0 : Lk := (Lk.init ngR true).all helloR
/-- What stays so of this law's link. -/
structure RespOk (L : Lk) : Prop where
  ok : LkOk L 56
  mode : L.mode = 2
  now : L.mode = L.modeNow
  mp : L.mp = []
  state : L.rd.state = 0
  has : L.e.has 2 = true
  out : L.out = []
end Go.Proofs.YteaidaolablegaaGreatDoor
/-
  LinkSends: what is sent, in plain words.
-/
namespace Go.Proofs.YteaidaolablegaaGreatDoor
open Go Go.AL

/-- What is told of a record, by its number. -/
def wantF (x fn : Bool) (i : Nat) (p : List UInt8) : List UInt8 := if x = true then headL ⟨0, 0, 0, if fn = true then i else 0⟩ ++ p else p
def wants (x fn : Bool) (ps : List (List UInt8)) : List (List UInt8) := ps.mapIdx (wantF x fn)
theorem wants_snoc (x fn : Bool) (ps : List (List UInt8)) (p : List UInt8) : wants x fn (ps ++ [p]) = wants x fn ps ++ [wantF x fn ps.length p] := by
  unfold wants; rw [List.mapIdx_concat]
theorem wants_length (x fn : Bool) (ps : List (List UInt8)) : (wants x fn ps).length = ps.length := by simp [wants]
theorem wants_at (x fn : Bool) (ps : List (List UInt8)) (i : Nat) (h : i < (wants x fn ps).length) : (wants x fn ps)[i] = wantF x fn i (ps[i]'(by rw [wants_length] at h; exact h)) := by simp [wants]
theorem wantF_length (x fn : Bool) (i : Nat) (p : List UInt8) : (wantF x fn i p).length ≤ 5 + p.length := by
  unfold wantF headL; split <;> simp <;> omega
structure SntOk (x fn : Bool) (L : Lk) : Prop where
  mode : L.mode = if x = true then 2 else 1
  small : Small L.e
  has : x = true → L.e.has 2 = fn
  seq : L.seq = 0
  out : L.out = []
def Lk.sent (L : Lk) (x fn : Bool) (ps : List (List UInt8)) : Lk := { L with out := wire (wants x fn ps), seq := if (x && fn) = true then ps.length else 0 }
theorem sent_nil {x fn : Bool} {L : Lk} (h : SntOk x fn L) : L.sent x fn [] = L := by
  have h1 := h.seq
  have h2 := h.out
  obtain ⟨rd, o, e, mp, out, seq, mode⟩ := L
  dsimp only at h1 h2
  subst h1 h2
  unfold Lk.sent
  simp [wants, wire]
theorem sent_snoc {x fn : Bool} {L : Lk} (h : SntOk x fn L) (ps : List (List UInt8)) (p : List UInt8) (hl : ps.length ≤ 100) : (L.sent x fn ps).send p = L.sent x fn (ps ++ [p]) := by
  have h1 := h.mode
  have h2 := h.has
  obtain ⟨rd, o, e, mp, out, seq, mode⟩ := L
  dsimp only at h1 h2
  unfold Lk.sent Lk.send
  dsimp only
  rw [wants_snoc, wire_append, wire_one]
  subst h1
  cases x with
  | false => simp [wantF]
  | true =>
    have h2 := h2 rfl
    subst h2
    cases hh : e.has 2 with
    | false => simp [wantF, hh]
    | true =>
      have : nextSeq ps.length = ps.length + 1 := by unfold nextSeq; rw [if_neg (by omega)]
      simp [wantF, hh, this]
/-- The hosts' first bytes. -/
def helloS : Bool → Bool → List UInt8
  | true, true => helloR
  | true, false => [255, 253, 40, 255, 250, 40, 8, 2, 255, 240, 255, 250, 40, 2, 4, 84, 1, 76, 255, 240, 255, 250, 40, 3, 4, 255, 240]
  | false, _ => [255, 253, 24, 255, 250, 24, 1, 255, 240, 255, 253, 25, 255, 251, 25, 255, 253, 0, 255, 251, 0]
def ngS (x fn : Bool) : Ng := { ty := [84], dev := [], fns := if (x && fn) = true then [2] else [] }
theorem ngS_few (x fn : Bool) : (ngS x fn).few = ngS x fn := by cases x <;> cases fn <;> rfl
theorem ngS_ok (x fn : Bool) : okC (ngS x fn) := by cases x <;> cases fn <;> decide +kernel
theorem snt_facts (x fn : Bool) : ((Lk.init (ngS x fn) x).all (helloS x fn)).mode = (if x = true then 2 else 1) ∧ (x = true → ((Lk.init (ngS x fn) x).all (helloS x fn)).e.has 2 = fn) ∧ ((Lk.init (ngS x fn) x).all (helloS x fn)).seq = 0 := by
  cases x <;> cases fn <;> decide +kernel
theorem snt_ok (x fn : Bool) : LkOk (Lk.init (ngS x fn) x) 0 := init_ok (by cases x <;> cases fn <;> exact ⟨by simp [ngS], by simp [ngS], by simp [ngS], by simp [ngS]⟩) (ngS_ok x fn)
theorem snt_ex (x fn : Bool) : ∃ L0 L1, Lk.init (ngS x fn) x = L0 ∧ LkOk L0 0 ∧ L0.all (helloS x fn) = L1 ∧ SntOk x fn L1.emptied := by
  refine ⟨_, _, rfl, snt_ok x fn, rfl, ?_⟩
  obtain ⟨h1, h2, h3⟩ := snt_facts x fn
  have h4 := (all_ok (snt_ok x fn) (helloS x fn) (by cases x <;> cases fn <;> simp [helloS, helloR])).small
  exact ⟨h1, h4, h2, h3, rfl⟩
theorem wire_length (ds : List (List UInt8)) (n : Nat) (h : ∀ d ∈ ds, d.length ≤ n) : (wire ds).length ≤ ds.length * (2 * n + 2) := by
  induction ds with
  | nil => simp [wire]
  | cons d ds ih =>
    have e : wire (d :: ds) = (esc d ++ [255, 239]) ++ wire ds := rfl
    have h1 := ih fun x hx => h x (by simp [hx])
    have h2 := (esc_length d).2
    have h3 := h d (by simp)
    rw [e, List.length_append, List.length_append, List.length_cons (a := d), Nat.add_mul]
    simp only [List.length_cons, List.length_nil]
    omega
theorem recEvs_size (ds : List (List UInt8)) (n : Nat) (h : ∀ d ∈ ds, d.length ≤ n) : (recEvs ds).length ≤ 2 * ds.length ∧ bytesIn (recEvs ds) ≤ ds.length * n := by
  induction ds with
  | nil => simp [recEvs, bytesIn]
  | cons d ds ih =>
    have e : recEvs (d :: ds) = recEvs1 d ++ recEvs ds := rfl
    obtain ⟨h1, h2⟩ := ih fun x hx => h x (by simp [hx])
    have h3 := h d (by simp)
    have h4 : (recEvs1 d).length ≤ 2 ∧ bytesIn (recEvs1 d) ≤ n := by
      unfold recEvs1
      split <;> simp [bytesIn, dataEv, eorEv]
      exact h3
    rw [e, List.length_append, bytesIn_append, List.length_cons, Nat.add_mul]
    omega
end Go.Proofs.YteaidaolablegaaGreatDoor
/-
  What is sent: the record.
-/
namespace Go.Proofs.YteaidaolablegaaGreatDoor
open Go Go.AL

@[simp] def st14s : List Nat := [6, 40, 44, 46, 53]
set_option maxRecDepth 8000 in
set_option maxHeartbeats 2000000 in
theorem send_calls (kb : Bk) (hk : kb.Ok) (L : Lk) (a b o : Bool) (p : List UInt8) (hp : p.length ≤ 10000) (hm0 : ¬ L.mode = 0) (hs : L.seq < 65536) (hsm : Small L.e) (hl : L.out.length ≤ 100000000000) (σ : Store) (h : LkAt kb L a b σ) :
    ACalls Tryz.prog 14 [ptrA kb.l, .list o 1 (bytesA p)] σ fun v σ' => v = .lit (.int .i64 0) ∧ LkTo kb (L.send p) σ σ' := by
  have hl0 := h.l
  unfold lkO at hl0
  have hhas := has_calls kb.e L.e a b 2 hsm _ h.e
  have e2 : (2 : UInt8).toNat = 2 := rfl
  rw [byteA_lit, e2] at hhas
  have hm0' : ¬ (L.mode : Int) = 0 := by omega
  refine ACalls.of_awp follows (st := st14s) (plans := pl14) (n := 59) Tryz.func14 rfl (by kernel_rfl) (by kernel_rfl) (by kernel_rfl) ?_
  unfold Lk.send
  by_cases hm : L.mode = 2
  · have hm' : (L.mode : Int) = 2 := by omega
    rw [if_pos hm]
    simp [hl0, hm']
    refine callK.of hhas ?_
    rintro v σ1 ⟨rfl, rfl⟩
    cases hh : L.e.has 2
    · have hhb := fun τ => hbytes_calls 0 (by omega) τ
      have hel := esc_length (headL ⟨0, 0, 0, 0⟩ ++ p)
      have hhl : (headL ⟨0, 0, 0, 0⟩).length = 5 := rfl
      have hal : (headL ⟨0, 0, 0, 0⟩ ++ p).length = 5 + p.length := by rw [List.length_append, hhl]
      have hb := fun τ => rbytes_calls false (headL ⟨0, 0, 0, 0⟩ ++ p) τ (by omega)
      have hbl : (esc (headL ⟨0, 0, 0, 0⟩ ++ p) ++ [255, 239]).length = (esc (headL ⟨0, 0, 0, 0⟩ ++ p)).length + 2 := by simp
      have hpl := put_l hk h (L.out ++ (esc (headL ⟨0, 0, 0, 0⟩ ++ p) ++ [255, 239])) L.seq L.mode
      generalize esc (headL ⟨0, 0, 0, 0⟩ ++ p) ++ [255, 239] = w at *
      generalize headL ⟨0, 0, 0, 0⟩ = hd at *
      unfold lkO at hpl
      simp only [bytesA_append] at hpl hb
      simp [hl0]
      refine callK.of (hhb _) ?_
      rintro v σ1 ⟨rfl, rfl⟩
      simp [hl0]
      refine ⟨by omega, by omega, ?_⟩
      repeat' with_reducible apply And.intro
      all_goals
        refine callK.of (hb _) ?_
        rintro v σ1 ⟨rfl, rfl⟩
        simp [hl0]
        exact ⟨by omega, by omega, _, AV.le_refl _, _, Store.sub_refl _, rfl, a, b, hpl⟩
    · have hnx := fun τ => next_calls L.seq τ
      have hhb := fun τ => hbytes_calls L.seq hs τ
      have hel := esc_length (headL ⟨0, 0, 0, L.seq⟩ ++ p)
      have hhl : (headL ⟨0, 0, 0, L.seq⟩).length = 5 := rfl
      have hal : (headL ⟨0, 0, 0, L.seq⟩ ++ p).length = 5 + p.length := by rw [List.length_append, hhl]
      have hb := fun τ => rbytes_calls false (headL ⟨0, 0, 0, L.seq⟩ ++ p) τ (by omega)
      have hbl : (esc (headL ⟨0, 0, 0, L.seq⟩ ++ p) ++ [255, 239]).length = (esc (headL ⟨0, 0, 0, L.seq⟩ ++ p)).length + 2 := by simp
      have hpl := put_l hk h (L.out ++ (esc (headL ⟨0, 0, 0, L.seq⟩ ++ p) ++ [255, 239])) (nextSeq L.seq) L.mode
      generalize esc (headL ⟨0, 0, 0, L.seq⟩ ++ p) ++ [255, 239] = w at *
      generalize headL ⟨0, 0, 0, L.seq⟩ = hd at *
      unfold lkO at hpl
      simp only [bytesA_append] at hpl hb
      simp [hl0]
      repeat' with_reducible apply And.intro
      all_goals
        refine callK.of (hnx _) ?_
        rintro v σ1 ⟨rfl, rfl⟩
        simp [hl0]
        refine callK.of (hhb _) ?_
        rintro v σ1 ⟨rfl, rfl⟩
        simp [hl0]
        refine ⟨by omega, by omega, ?_⟩
        repeat' with_reducible apply And.intro
      all_goals
        refine callK.of (hb _) ?_
        rintro v σ1 ⟨rfl, rfl⟩
        simp [hl0]
        exact ⟨by omega, by omega, _, AV.le_refl _, _, Store.sub_refl _, rfl, a, b, hpl⟩
  · have hm' : ¬ (L.mode : Int) = 2 := by omega
    rw [if_neg hm]
    have hel := esc_length p
    have hb := fun τ => rbytes_calls false p τ (by omega)
    have hbl : (esc p ++ [255, 239]).length = (esc p).length + 2 := by simp
    have hpl := put_l hk h (L.out ++ (esc p ++ [255, 239])) L.seq L.mode
    generalize esc p ++ [255, 239] = w at *
    unfold lkO at hpl
    simp only [bytesA_append] at hpl
    simp [hl0, hm0, hm0', hm']
    repeat' with_reducible apply And.intro
    all_goals
      refine callK.of (hb _) ?_
      rintro v σ1 ⟨rfl, rfl⟩
      simp [hl0]
      refine ⟨by omega, by omega, _, AV.le_refl _, _, Store.sub_refl _, rfl, a, b, hpl⟩
end Go.Proofs.YteaidaolablegaaGreatDoor
