/-
 The abstract-state logic: what came in, opened type by type.
-/
import Derived.Test.YtlmdbcgceijlnaaGreatPALPart6
set_option linter.unusedSimpArgs false
set_option linter.unusedVariables false
set_option maxRecDepth 8000
set_option maxHeartbeats 8000000

namespace Go.AL
open Go Go.ChangeShapes Go.WideShapes Go.ChangeAt Go.RowKit
variable [GL]
set_option linter.unusedSectionVars false
structure Opens (P : Program) (t : TypeId) {α : Type} (f : α → List AV) (ok : α → Prop) : Prop where
 go : ∀ {H : Type} (enc : TypeId × Value → H) (W : World) (fuel : Nat) (cs : List Value) (x : DataW H × List MemPlace),
  DataW.trod enc P W 0 (fun _ => true) true fuel t cs = some x → ∃ a, ok a ∧ CellsR (VR (allFrz W)) (f a) cs
theorem CellsR.one {R : AV → Value → Prop} {c : AV} {u : Value} (h1 : u.oneCell' = true) (h : R c u) : CellsR R [c] [u] :=
 ⟨rfl, fun i u' hu => by
  cases i with
  | zero => simp at hu; subst hu; exact h1
  | succ i => simp at hu, fun i c' u' hc hu => by
  cases i with
  | zero => simp at hc hu; subst hc hu; exact h
  | succ i => simp at hc⟩
theorem Opens.int {P : Program} {t : TypeId} {k : IntKind} (ht : P.underlying t = some (.int k)) : Opens P t (fun n : Int => [.lit (.int k n)]) (fun n => (Lit.int k n).wf = true) := by
 refine ⟨fun {H} enc W fuel cs x h => ?_⟩
 obtain ⟨n, rfl, _, hw⟩ := DataW.trod_int ht h
 exact ⟨n, hw, .one rfl (.lit _)⟩
theorem Opens.i64 {P : Program} {t : TypeId} (ht : P.underlying t = some (.int .i64)) : Opens P t (fun n : Int => [.lit (.int .i64 n)]) (fun n => -9223372036854775808 ≤ n ∧ n ≤ 9223372036854775807) := by
 refine ⟨fun {H} enc W fuel cs x h => ?_⟩
 obtain ⟨n, hn, hc⟩ := (Opens.int ht).go enc W fuel cs x h
 refine ⟨n, ?_, hc⟩
 simpa [Lit.wf, IntKind.min, IntKind.max, IntKind.bits, IntKind.signed] using hn
theorem Opens.u8 {P : Program} {t : TypeId} (ht : P.underlying t = some (.int .u8)) : Opens P t (fun b : UInt8 => [.lit (.int .u8 (b.toNat : Int))]) (fun _ => True) := by
 refine ⟨fun {H} enc W fuel cs x h => ?_⟩
 obtain ⟨n, hn, hc⟩ := (Opens.int ht).go enc W fuel cs x h
 have := bounds_u8 hn
 refine ⟨UInt8.ofNat n.toNat, trivial, ?_⟩
 have e : ((UInt8.ofNat n.toNat).toNat : Int) = n := by rw [UInt8.toNat_ofNat']; omega
 rw [e]; exact hc
theorem Opens.bool {P : Program} {t : TypeId} (ht : P.underlying t = some .bool) : Opens P t (fun b : Bool => [.lit (.bool b)]) (fun _ => True) := by
 refine ⟨fun {H} enc W fuel cs x h => ?_⟩
 obtain ⟨b, rfl, _⟩ := DataW.trod_bool ht h
 exact ⟨b, trivial, .one rfl (.lit _)⟩
theorem Opens.string {P : Program} {t : TypeId} (ht : P.underlying t = some .string) : Opens P t (fun s : ByteArray => [.lit (.string s)]) (fun s => s.size ≤ maxLen) := by
 refine ⟨fun {H} enc W fuel cs x h => ?_⟩
 obtain ⟨s, rfl, _, hs⟩ := DataW.trod_string ht h
 exact ⟨s, hs, .one rfl (.lit _)⟩
theorem flatten_at {β : Type} {sz : Nat} (hpos : 0 < sz) (L : List (List β)) (hL : ∀ x ∈ L, x.length = sz) (k : Nat) : L.flatten[k]? = (L[k / sz]?).bind fun x => x[k % sz]? := by
 induction L generalizing k with
 | nil => simp
 | cons x L ih =>
  have hx := hL x (by simp)
  have ih := ih (fun y hy => hL y (by simp [hy]))
  rw [List.flatten_cons, List.getElem?_append]
  by_cases h : k < sz
  ·rw [if_pos (by omega), Nat.div_eq_of_lt h, Nat.mod_eq_of_lt h]; rfl
  ·rw [if_neg (by omega), hx, ih]
   have e : k = k - sz + sz := by omega
   have e1 : k / sz = (k - sz) / sz + 1 := by rw [e, Nat.add_div_right _ hpos]; simp
   have e2 : k % sz = (k - sz) % sz := by rw [e, Nat.add_mod_right]; simp
   rw [e1, e2]; rfl
theorem flatten_length {β : Type} {sz : Nat} (L : List (List β)) (hL : ∀ x ∈ L, x.length = sz) : L.flatten.length = L.length * sz := by
 induction L with
 | nil => simp
 | cons x L ih => rw [List.flatten_cons, List.length_append, hL x (by simp), ih (fun y hy => hL y (by simp [hy])), List.length_cons, Nat.succ_mul]; omega
theorem exists_row {β : Type} {Q : Nat → β → Prop} (n : Nat) (h : ∀ i, i < n → ∃ a, Q i a) : ∃ l : List β, l.length = n ∧ ∀ i a, l[i]? = some a → Q i a := by
 induction n with
 | zero => exact ⟨[], rfl, by simp⟩
 | succ n ih =>
  obtain ⟨l, h1, h2⟩ := ih fun i hi => h i (by omega)
  obtain ⟨a, ha⟩ := h n (by omega)
  refine ⟨l ++ [a], by simp [h1], fun i b hb => ?_⟩
  rw [List.getElem?_append] at hb
  split at hb
  ·exact h2 i b hb
  ·rename_i hlt
   have : i - l.length = 0 := by
    rcases Nat.eq_zero_or_pos (i - l.length) with h | h
    ·exact h
    ·rw [List.getElem?_eq_none (by simp; omega)] at hb; cases hb
   rw [this] at hb
   simp at hb; subst hb
   rwa [show i = n by omega]
theorem Opens.slice {P : Program} {t e : TypeId} {α : Type} {f : α → List AV} {ok : α → Prop} {sz : Nat} (ht : P.underlying t = some (.slice e)) (hc : P.cellsOf e = sz) (hpos : 0 < sz) (he : Opens P e f ok) (g : α → AV) (hg : ∀ a, (g a).cells = f a) (hsz : ∀ a, (f a).length = sz) :
  Opens P t (fun l : List α => [.list false sz (l.map g)]) (fun l => l.length ≤ maxLen ∧ ∀ a ∈ l, ok a) := by
 refine ⟨fun {H} enc W fuel cs x h => ?_⟩
 rcases DataW.trod_slice ht h with ⟨rfl, _⟩ | ⟨a, len, cap, elems, rest, n, _, rfl, _, hb, hl, hm, hlen, hel, hsp, _⟩
 ·exact ⟨[], ⟨Nat.zero_le _, by simp⟩, .one rfl (.nil ..)⟩
 have each : ∀ i, i < len → ∃ q : α × List Value, ok q.1 ∧ q.2.length = sz ∧ CellsR (VR (allFrz W)) (f q.1) q.2 ∧ ∀ j, j < sz → W.cell? ((a.add (i * sz)).add j) = q.2[j]? := by
  intro i hi
  have hE := hel i hi
  rw [hc, List.getElem?_eq_getElem (by omega), Option.bind_eq_some_iff] at hE
  obtain ⟨c1, hc1, hy⟩ := hE
  obtain ⟨q, hq1, hq2⟩ := he.go enc W n c1 _ hy
  obtain ⟨_, w2, w3⟩ := World.cells?_some hc1
  exact ⟨(q, c1), hq1, w2, hq2, w3⟩
 obtain ⟨l, hll, hQ⟩ := exists_row len each
 have hok : ∀ q ∈ l, ok q.1 ∧ q.2.length = sz ∧ CellsR (VR (allFrz W)) (f q.1) q.2 := fun q hq => by
  obtain ⟨i, hi⟩ := List.getElem?_of_mem hq
  have := hQ i q hi
  exact ⟨this.1, this.2.1, this.2.2.1⟩
 refine ⟨l.map (·.1), ⟨by rw [List.length_map, hll]; exact Nat.le_trans hl hm, fun b hb => ?_⟩, .one rfl ?_⟩
 ·obtain ⟨q, hq, rfl⟩ := List.mem_map.1 hb
  exact (hok q hq).1
 by_cases hcap : cap = 0
 ·subst hcap
  have h0 : len = 0 := by omega
  subst h0
  have : l = [] := List.eq_nil_of_length_eq_zero hll
  subst this
  exact .void sz a
 have hspot : a.spot = none := by
  have first : ∃ v, W.cell? a = some v := by
   by_cases h0 : 0 < len
   ·have h1 := hel 0 h0
    rw [hc, List.getElem?_eq_getElem (by omega), Option.bind_eq_some_iff] at h1
    obtain ⟨c1, hc1, _⟩ := h1
    obtain ⟨_, w2, w3⟩ := World.cells?_some hc1
    have := w3 0 hpos
    rw [List.getElem?_eq_getElem (by omega)] at this
    have e0 : (a.add (0 * sz)).add 0 = a := by simp [Addr.add]
    rw [e0] at this; exact ⟨_, this⟩
   ·obtain ⟨r1, r2⟩ := hsp rfl
    have h1 := r2 0 (by omega)
    have hl0 : len = 0 := by omega
    rw [hc, List.getElem?_eq_getElem (by omega), Option.bind_eq_some_iff] at h1
    obtain ⟨c1, hc1, _⟩ := h1
    obtain ⟨_, w2, w3⟩ := World.cells?_some hc1
    have := w3 0 hpos
    rw [List.getElem?_eq_getElem (by omega)] at this
    have e0 : (a.add ((len + 0) * sz)).add 0 = a := by simp [Addr.add, hl0]
    rw [e0] at this; exact ⟨_, this⟩
  obtain ⟨v, hv⟩ := first
  unfold World.cell? at hv
  split at hv
  ·split at hv
   ·cases hv
   ·rename_i hs; simpa using hs
  ·cases hv
 obtain ⟨b, off, spot⟩ := a
 simp only at hspot; subst hspot
 have flen : ∀ y ∈ l.map (fun q => f q.1), y.length = sz := fun y hy => by
  obtain ⟨q, _, rfl⟩ := List.mem_map.1 hy; exact hsz _
 have vlen : ∀ y ∈ l.map (fun q => q.2), y.length = sz := fun y hy => by
  obtain ⟨q, hq, rfl⟩ := List.mem_map.1 hy; exact (hok q hq).2.1
 have eflat : flat ((l.map (·.1)).map g) = (l.map fun q => f q.1).flatten := by
  unfold flat
  rw [List.flatMap_def, List.map_map, List.map_map]
  congr 1
  apply List.map_congr_left
  intro q _
  exact hg q.1
 refine .list false sz _ b off len cap (l.map (·.2)).flatten (by simp; omega) hl (fun v hv => ?_) ?_ (fun k u hu => ?_) fun k c u hcc hu => ?_
 ·obtain ⟨q, _, rfl⟩ := List.mem_map.1 hv
  rw [hg]; exact hsz _
 ·rw [eflat, flatten_length _ flen, flatten_length _ vlen]; simp
 ·rw [flatten_at hpos _ vlen, Option.bind_eq_some_iff] at hu
  obtain ⟨cs', h1, h2⟩ := hu
  rw [List.getElem?_map] at h1
  cases hli : l[k / sz]? with
  | none => rw [hli] at h1; cases h1
  | some q =>
   rw [hli] at h1
   simp only [Option.map_some, Option.some.injEq] at h1; subst h1
   obtain ⟨q1, q2, q3, q4⟩ := hQ _ q hli
   have hj : k % sz < sz := Nat.mod_lt _ hpos
   have h4 := q4 _ hj
   rw [h2, Addr.add_lit, Addr.add_lit] at h4
   have e : off + k / sz * sz + k % sz = off + k := by have := Nat.div_add_mod k sz; rw [Nat.mul_comm] at this; omega
   rw [e] at h4
   exact ⟨cell_back h4, q3.2.1 _ _ h2⟩
 ·rw [eflat, flatten_at hpos _ flen, Option.bind_eq_some_iff] at hcc
  rw [flatten_at hpos _ vlen, Option.bind_eq_some_iff] at hu
  obtain ⟨fs, h1, h2⟩ := hcc
  obtain ⟨cs', h3, h4⟩ := hu
  rw [List.getElem?_map] at h1 h3
  cases hli : l[k / sz]? with
  | none => rw [hli] at h1; cases h1
  | some q =>
   rw [hli] at h1 h3
   simp only [Option.map_some, Option.some.injEq] at h1 h3; subst h1 h3
   exact (hok q (List.mem_of_getElem? hli)).2.2.2.2 _ _ _ h2 h4
structure OpensF (P : Program) (total off : Nat) (fs : List Field) {α : Type} (f : α → List AV) (ok : α → Prop) : Prop where
 go : ∀ {H : Type} (enc : TypeId × Value → H) (W : World) (fuel : Nat) (cs : List Value), cs.length = total →
  (∀ (i : Nat) (fd : Field), fs[i]? = some fd → ∃ x, DataW.trod enc P W 0 (fun _ => true) true fuel fd.type ((cs.drop fd.offset).take (P.cellsOf fd.type)) = some x) → ∃ a, ok a ∧ CellsR (VR (allFrz W)) (f a) (cs.drop off)
theorem OpensF.nil {P : Program} {total : Nat} : OpensF P total total [] (fun _ : Unit => []) (fun _ => True) := by
 refine ⟨fun {H} enc W fuel cs hl _ => ?_⟩
 refine ⟨(), trivial, ?_⟩
 rw [List.drop_of_length_le (by omega)]
 exact ⟨rfl, by simp, by simp⟩
theorem OpensF.cons {P : Program} {total off k : Nat} {fd : Field} {fs : List Field} {α β : Type} {f : α → List AV} {ok : α → Prop} {g : β → List AV} {ok' : β → Prop} (ho : fd.offset = off) (hk : P.cellsOf fd.type = k) (_hle : off + k ≤ total)
  (h1 : Opens P fd.type f ok) (h2 : OpensF P total (off + k) fs g ok') : OpensF P total off (fd :: fs) (fun x : α × β => f x.1 ++ g x.2) (fun x => ok x.1 ∧ ok' x.2) := by
 refine ⟨fun {H} enc W fuel cs hl h => ?_⟩
 obtain ⟨x, hx⟩ := h 0 fd rfl
 obtain ⟨a, ha, hca⟩ := h1.go enc W fuel _ x hx
 obtain ⟨b, hb, hcb⟩ := h2.go enc W fuel cs hl fun i fd' hi => h (i + 1) fd' hi
 refine ⟨(a, b), ⟨ha, hb⟩, ?_⟩
 rw [ho, hk] at hca
 have e : cs.drop off = (cs.drop off).take k ++ cs.drop (off + k) := by
  rw [← List.drop_drop, List.take_append_drop]
 rw [e]
 exact hca.append hcb
theorem Opens.struct {P : Program} {t : TypeId} {fs : Array Field} {total : Nat} {α : Type} {f : α → List AV} {ok : α → Prop} (ht : P.underlying t = some (.struct fs)) (hc : P.cellsOf t = total) (h : OpensF P total 0 fs.toList f ok) : Opens P t f ok := by
 refine ⟨fun {H} enc W fuel cs x hx => ?_⟩
 obtain ⟨xs, n, _, _, hl, hxs, hf⟩ := DataW.trod_struct ht hx
 have := h.go enc W n cs (by omega) fun i fd hi => by
  have hi' : fs[i]? = some fd := by simpa using hi
  have hlt : i < xs.length := by rw [hxs]; exact (Array.getElem?_eq_some_iff.1 hi').1
  exact ⟨_, by rw [hf i fd hi', List.getElem?_eq_getElem hlt]⟩
 simpa using this
theorem Opens.by {P : Program} {t : TypeId} {α β : Type} {f : α → List AV} {ok : α → Prop} {g : β → List AV} {ok' : β → Prop} (h : Opens P t f ok) (m : α → β) (hm : ∀ a, ok a → ok' (m a) ∧ g (m a) = f a) : Opens P t g ok' := by
 refine ⟨fun {H} enc W fuel cs x hx => ?_⟩
 obtain ⟨a, ha, hc⟩ := h.go enc W fuel cs x hx
 exact ⟨m a, (hm a ha).1, by rw [(hm a ha).2]; exact hc⟩
theorem Opens.arg {P : Program} {t : TypeId} {α : Type} {f : α → List AV} {ok : α → Prop} (h : Opens P t f ok) (g : α → AV) (hg : ∀ a, f a = [g a]) {H : Type} {enc : TypeId × Value → H} {W : World} {v : Value} {d : DataW H} {p : List MemPlace} (hv : v.cells = #[v])
  (hx : DataW.Trod enc P W 0 (fun _ => true) true t v d p) : ∃ a, ok a ∧ VR (allFrz W) (g a) v := by
 obtain ⟨fuel, hf⟩ := hx
 obtain ⟨a, ha, hc⟩ := h.go enc W fuel _ _ hf
 refine ⟨a, ha, hc.2.2 0 _ _ ?_ ?_⟩
 ·rw [hg]; rfl
 ·rw [hv]; rfl
theorem Opens.args {P : Program} {t : TypeId} {α : Type} {f : α → List AV} {ok : α → Prop} (h : Opens P t f ok) {H : Type} {enc : TypeId × Value → H} {W : World} {v : Value} {us : Array Value} {d : DataW H} {p : List MemPlace} (hv : v = .agg us)
  (hx : DataW.Trod enc P W 0 (fun _ => true) true t v d p) : ∃ a, ok a ∧ VR (allFrz W) (.agg (f a)) v := by
 subst hv
 obtain ⟨fuel, hf⟩ := hx
 obtain ⟨a, ha, hc⟩ := h.go enc W fuel _ _ hf
 refine ⟨a, ha, .agg _ _ (by simpa [Value.cells] using hc.1) (fun i u hu => hc.2.1 i u (by simpa [Value.cells] using hu)) fun i c u h1 h2 => hc.2.2 i c u h1 (by simpa [Value.cells] using h2)⟩
end Go.AL
namespace Go.AL
open Go
def seqOk (st : List Tmp) (ops : Array Oper) : List Nat → Array Bool → Option (Array Bool)
 | [], L => some L
 | k :: r, L => if ((Region.ready .any ops L).contains k && ((Region.ready .any ops L).all (· == k) || ample st ops L k (behind ops k))) = true then seqOk st ops r (L.setIfInBounds k true) else none
theorem planOk_seq {st : List Tmp} {ops : Array Oper} {L' : Array Bool} {p : Plan} {f : Nat} : ∀ (ks : List Nat) (L : Array Bool), seqOk st ops ks L = some L' → planOk st ops f L' p = true → planOk st ops (f + ks.length) L (Plan.seq ks p) = true
 | [], L, h, hp => by
  cases h; exact hp
 | k :: r, L, h, hp => by
  unfold seqOk at h
  split at h
  ·next hc =>
   have ih := planOk_seq r _ h hp
   show planOk st ops (f + r.length + 1) L (.step k (Plan.seq r p)) = true
   unfold planOk
   show ((Region.ready .any ops L).contains k && ((Region.ready .any ops L).all (· == k) || ample st ops L k (behind ops k)) && planOk st ops (f + r.length) (L.setIfInBounds k true) (Plan.seq r p)) = true
   rw [hc, ih]; rfl
  ·cases h
theorem planOk_fork {st : List Tmp} {ops : Array Oper} {L L1 L2 : Array Bool} {k1 k2 : Nat} {r1 r2 : List Nat} {p1 p2 : Plan} {f f1 f2 : Nat}
  (h : (((Region.ready .any ops L).all fun i => k1 == i || k2 == i) && (Region.ready .any ops L).contains k1 && (Region.ready .any ops L).contains k2) = true)
  (h1 : seqOk st ops r1 (L.setIfInBounds k1 true) = some L1) (g1 : f1 + r1.length = f) (q1 : planOk st ops f1 L1 p1 = true)
  (h2 : seqOk st ops r2 (L.setIfInBounds k2 true) = some L2) (g2 : f2 + r2.length = f) (q2 : planOk st ops f2 L2 p2 = true) :
  planOk st ops (f + 1) L (.alt (Plan.seq (k1 :: r1) p1) (Plan.seq (k2 :: r2) p2)) = true := by
 have e1 := planOk_seq r1 _ h1 q1
 have e2 := planOk_seq r2 _ h2 q2
 rw [g1] at e1
 rw [g2] at e2
 simp only [Bool.and_eq_true] at h
 obtain ⟨⟨ha, hb⟩, hc⟩ := h
 unfold planOk
 show (((Region.ready .any ops L).all fun i => [(k1, Plan.seq r1 p1), (k2, Plan.seq r2 p2)].any (·.1 == i)) && [(k1, Plan.seq r1 p1), (k2, Plan.seq r2 p2)].all fun x => (Region.ready .any ops L).contains x.1 && planOk st ops f (L.setIfInBounds x.1 true) x.2) = true
 simp [e1, e2]
 simp at ha hb hc
 exact ⟨ha, hb, hc⟩
def regAll (id : Nat) : Code → List (Array Oper)
 | .seq x y => regAll id x ++ regAll id y
 | .cond _ x y => regAll id x ++ regAll id y
 | .block _ c => regAll id c
 | .loop c => regAll id c
 | .region i ops _ => if i = id then [ops] else []
 | _ => []
def codeOkBut (st : List Tmp) (plans : List (Nat × Plan)) (n id : Nat) : Code → Bool
 | .seq x y => codeOkBut st plans n id x && codeOkBut st plans n id y
 | .cond _ x y => codeOkBut st plans n id x && codeOkBut st plans n id y
 | .block _ c => codeOkBut st plans n id c
 | .loop c => codeOkBut st plans n id c
 | .region i ops draw => ops.toList.all (dstOk n) && (i == id || !draw || match plans.lookup i with | some p => planOk st ops ops.size (Array.replicate ops.size false) p | none => false)
 | _ => true
theorem codeOk_but {st : List Tmp} {plans : List (Nat × Plan)} {n id : Nat} {p : Plan} (hp : plans.lookup id = some p) : ∀ c : Code, codeOkBut st plans n id c = true → (∀ ops ∈ regAll id c, planOk st ops ops.size (Array.replicate ops.size false) p = true) → codeOk st plans n c = true
 | .seq x y, h, hr => by
  simp only [codeOkBut, Bool.and_eq_true] at h
  simp only [codeOk, Bool.and_eq_true]
  exact ⟨codeOk_but hp x h.1 fun o ho => hr o (by simp [regAll, ho]), codeOk_but hp y h.2 fun o ho => hr o (by simp [regAll, ho])⟩
 | .cond _ x y, h, hr => by
  simp only [codeOkBut, Bool.and_eq_true] at h
  simp only [codeOk, Bool.and_eq_true]
  exact ⟨codeOk_but hp x h.1 fun o ho => hr o (by simp [regAll, ho]), codeOk_but hp y h.2 fun o ho => hr o (by simp [regAll, ho])⟩
 | .block _ c, h, hr => codeOk_but hp c h hr
 | .loop c, h, hr => codeOk_but hp c h hr
 | .region i ops draw, h, hr => by
  simp only [codeOkBut, Bool.and_eq_true, Bool.or_eq_true] at h
  simp only [codeOk, Bool.and_eq_true, Bool.or_eq_true]
  refine ⟨h.1, ?_⟩
  rcases h.2 with (h2 | h2) | h2
  ·have e : i = id := by simpa using h2
   subst e
   right
   rw [hp]
   exact hr ops (by simp [regAll])
  ·exact .inl h2
  ·exact .inr h2
 | .skip, _, _ => rfl
 | .rangeFunc .., _, _ => rfl
 | .exit _, _, _ => rfl
 | .scope _, _, _ => rfl
 | .label _, _, _ => rfl
 | .goto _, _, _ => rfl
 | .ret, _, _ => rfl
 | .refuse _, _, _ => rfl
variable [GL]
set_option linter.unusedSectionVars false
theorem ite_free {α : Type} {p q : Nat} (x : α) (y : Option α) : (if p = q then some x else y) = none ↔ ¬ p = q ∧ ¬ q = p ∧ y = none := by
 by_cases h : p = q
 ·simp [h]
 ·simp [h, Ne.symm h]
@[simp] theorem aField_agg (P : Program) (t : TypeId) (f : Nat) (cs : List AV) : aField P t f (.agg cs) = match tField P t f with | some (off, ft) => cutAV P ft cs off | none => none := nr (by
 unfold aField; cases tField P t f <;> rfl)
theorem upd_back {σ : Store} {q : Nat} {x : List AV} (h : σ q = some x) : σ.upd q x = σ := by
 funext k; simp only [Store.upd]; split
 ·rename_i h'; subst h'; exact h.symm
 ·rfl
theorem sub_box2 {σ : Store} {o p : Nat} {x y z : List AV} (hp : σ p = none) (ho : ¬ o = p) : Store.sub (σ.upd o y) (((σ.upd o x).upd p z).upd o y) := by
 refine Store.sub2 (fun q => ?_) (fun g => by simp)
 by_cases h1 : q = o
 ·right; simp [h1]
 ·by_cases h2 : q = p
  ·left; simp [h2, hp]; intro e; exact absurd e.symm ho
  ·right; simp [h1, h2]
end Go.AL
