/-
  NegoAgrees: a host and a terminal agree.
-/
import Derived.Test.YtlhfhanmbdncdaaPart11
namespace Go.Proofs.Ytlhfhanmbdncdaa
open Go Go.AL

def giveB (nm : List UInt8) : List UInt8 := [2, 4, 73, 66, 77, 45, 51, 50, 55, 56, 45, 50, 1] ++ nm
theorem dev_step {e : Ng} (h : e.st = 1) {nm : List UInt8} (hn : nameS nm = true) : hearF e (giveB nm) = (3 :: 7 :: e.fns, 0, { e with st := 2, name := nm, agreed := [] }) := by
  have hg : gotF ([73, 66, 77, 45, 51, 50, 55, 56, 45, 50] ++ 1 :: nm) = (nm, true) := by
    unfold gotF
    rw [cutF_split (by decide)]
    have : nameS [73, 66, 77, 45, 51, 50, 55, 56, 45, 50] = true := by decide
    simp [this, hn]
  show (if (2 : UInt8) = 8 ∧ 4 :: ([73, 66, 77, 45, 51, 50, 55, 56, 45, 50] ++ 1 :: nm) = [2] then (if e.st = 4 then (([], 6, e) : List UInt8 × Nat × Ng) else (askB e, 0, e.asked)) else if (2 : UInt8) = 2 then devF e (4 :: ([73, 66, 77, 45, 51, 50, 55, 56, 45, 50] ++ 1 :: nm)) else if (2 : UInt8) = 3 then fnF e (4 :: ([73, 66, 77, 45, 51, 50, 55, 56, 45, 50] ++ 1 :: nm)) else ([], 4, e)) = _
  rw [if_neg (fun h => by cases h.1), if_pos rfl]
  show (if (([73, 66, 77, 45, 51, 50, 55, 56, 45, 50] ++ 1 :: nm).length = 2 ∧ (4 : UInt8) = 6 ∧ ([73, 66, 77, 45, 51, 50, 55, 56, 45, 50] ++ 1 :: nm).head? = some 5) then (if e.st = 1 then (([], 0, { e with st := 4 }) : List UInt8 × Nat × Ng) else ([], 6, e))
    else if ¬ (4 : UInt8) = 4 ∨ (gotF ([73, 66, 77, 45, 51, 50, 55, 56, 45, 50] ++ 1 :: nm)).2 = false then ([], 4, e) else if ¬ e.st = 1 then ([], 6, e) else (3 :: 7 :: e.fns, 0, { e with st := 2, name := (gotF ([73, 66, 77, 45, 51, 50, 55, 56, 45, 50] ++ 1 :: nm)).1, agreed := [] })) = _
  rw [hg, if_neg (fun h => by cases h.2.1), if_neg (by simp), if_neg (by simp [h])]
theorem hear_fn (e : Ng) (k : List UInt8) : hearF e (3 :: k) = fnF e k := by
  simp [hearF]
theorem fn_is {e : Ng} (h : e.st = 2) {k : List UInt8} (hn : k.Nodup) (ho : ownS e k = true) : hearF e (3 :: 4 :: k) = ([], 0, { e with st := 3, agreed := k }) := by
  rw [hear_fn]
  unfold fnF
  simp only
  rw [if_neg (by simp [hn]), if_neg (by simp [h]), if_pos ho]; rfl
theorem fn_asks {e : Ng} (h : e.st = 2) {k : List UInt8} (hn : k.Nodup) (ho : ownS e k = true) : hearF e (3 :: 7 :: k) = (3 :: 4 :: k, 0, { e with st := 3, agreed := k }) := by
  rw [hear_fn]
  unfold fnF
  simp only
  rw [if_neg (by simp [hn]), if_neg (by simp [h]), if_pos ho]; rfl
theorem fn_cuts {e : Ng} (h : e.st = 2) {k : List UInt8} (hn : k.Nodup) (ho : ownS e k = false) : hearF e (3 :: 7 :: k) = (3 :: 7 :: k.filter (fun c => decide (c ∈ e.fns)), 0, e.offered) := by
  rw [hear_fn]
  unfold fnF
  simp only
  rw [if_neg (by simp [hn]), if_neg (by simp [h]), if_neg (by simp [ho]), if_neg (by decide)]
theorem own_filter (e : Ng) (k : List UInt8) : ownS e (k.filter fun c => decide (c ∈ e.fns)) = true := by
  unfold ownS
  rw [List.all_eq_true]
  intro x hx
  exact (List.mem_filter.1 hx).2
theorem own_same {e : Ng} {k : List UInt8} (h : ownS e k = true) : k.filter (fun c => decide (c ∈ e.fns)) = k := by
  unfold ownS at h
  rw [List.all_eq_true] at h
  exact List.filter_eq_self.2 h
/-- The name that is asked for. -/
def nmF (name : List UInt8) : List UInt8 := if nameS (name.take 45) = true then name.take 45 else [76, 85, 49]
theorem nmF_ok (name : List UInt8) : nameS (nmF name) = true := by
  unfold nmF
  split
  · assumption
  · decide
theorem nameS_len {l : List UInt8} (h : nameS l = true) : l.length ≤ 40 := by
  unfold nameS at h
  simp at h
  exact h.2
set_option maxRecDepth 8000 in
set_option maxHeartbeats 2000000 in
theorem negoAgrees_law (c : Ng) (host name : List UInt8) (asks : Bool) (hh : host.length ≤ 9223372036854775807) (σ : Store) :
    ACalls Try.prog 4 [confA c false, .list false 1 (bytesA host), strS name, .lit (.bool asks)] σ fun v σ' => v = .lit (.bool true) ∧ σ' = σ := by
  have haw := fun τ => awake_calls τ
  have hfw := fun τ => few_calls c false τ
  have hfs := few_small c
  have hnew := fun τ => new_calls c.few false hfs τ
  have hct := fun τ => ctext_calls name 45 τ (by omega)
  have hrn := fun τ => rname_calls (name.take 45) (by simp; omega) τ
  have hnm := nmF_ok name
  have hnl := nameS_len hnm
  have hnd : (nameS (name.take 45) = true → name.take 45 = nmF name) ∧ (nameS (name.take 45) = false → nmF name = [76, 85, 49]) := by
    unfold nmF
    cases nameS (name.take 45) <;> simp
  unfold confA at *
  refine ACalls.of_awp follows (st := st4) (plans := pl4) (n := 135) Try.func4 rfl (by kernel_rfl) (by kernel_rfl) (by kernel_rfl) ?_
  simp
  intro b hb
  refine callK.of (haw _) ?_
  rintro v σ0 ⟨rfl, rfl⟩
  simp
  refine callK.of (hfw _) ?_
  rintro v σ0 ⟨rfl, rfl⟩
  simp
  refine callK.of (hct _) ?_
  rintro v σ0 ⟨rfl, rfl⟩
  simp
  refine callK.of (hrn _) ?_
  rintro v σ0 ⟨rfl, rfl⟩
  cases hnc : nameS (name.take 45)
  case' true =>
    rw [hnd.1 hnc]
    generalize nmF name = nm at *
    simp
  case' false =>
    have hs3 : AV.lit (.string ⟨#[76, 85, 49]⟩) = strS (nmF name) := by rw [hnd.2 hnc]
    simp [hs3]
    generalize nmF name = nm at *
  all_goals
    refine callK.of (hnew _) ?_
    rintro v σ1 (⟨_, ⟨k, hk, rfl⟩, rfl⟩ | ⟨hok, q, hq, rfl, o1, o2, rfl⟩)
    · simp [hk]
      exact sub_upd_self _ _ _ hb
    simp only [supd_apply, ite_none] at hq
    obtain ⟨hqb, hq⟩ := hq
    have hbq : ¬ b = q := fun e => hqb e.symm
    have hsm : Small { ty := c.few.ty, dev := c.few.dev, fns := c.few.fns } := hfs
    have hfl : c.few.fns.length ≤ 8 := by simp [Ng.few]; omega
    have hfn := rises_nodup hok.2.2
    have hst0 : ({ ty := c.few.ty, dev := c.few.dev, fns := c.few.fns } : Ng).st = 0 := rfl
    have hty : nameS ({ ty := c.few.ty, dev := c.few.dev, fns := c.few.fns } : Ng).ty = true := hok.1
    have hfe : ({ ty := c.few.ty, dev := c.few.dev, fns := c.few.fns } : Ng).fns = c.few.fns := rfl
    generalize ({ ty := c.few.ty, dev := c.few.dev, fns := c.few.fns } : Ng) = e0 at *
    -- what both have
    have hbo := fun τ => both_calls false false c.few.fns host (by omega) hfn hh τ
    have hwp : (bothL c.few.fns host).Pairwise fun a b => a.toNat < b.toNat := (onceN_pair host 5 (by omega)).filter _
    have hwl : (bothL c.few.fns host).length ≤ 5 := Nat.le_trans (List.length_filter_le _ _) (onceN_len host 5)
    have hwo : ownS e0 (bothL c.few.fns host) = true := by rw [← hfe]; exact own_filter e0 _
    have hol := onceN_len host 5
    have hop := onceN_pair host 5 (by omega)
    have hlo := fun τ => lonce_calls false host hh τ
    have hsplit : (ownS e0 (onceN host 5) = true ∧ bothL c.few.fns host = onceN host 5) ∨ (ownS e0 (onceN host 5) = false ∧ (onceN host 5).filter (fun f => decide (f ∈ e0.fns)) = bothL c.few.fns host) := by
      cases ho : ownS e0 (onceN host 5)
      · right; exact ⟨rfl, by rw [hfe]; rfl⟩
      · left; refine ⟨rfl, ?_⟩
        have := own_same ho
        rw [hfe] at this; exact this
    generalize bothL c.few.fns host = W at *
    generalize onceN host 5 = K at *
    simp [ptrA, hbq]
    refine callK.of (hbo _) ?_
    rintro v σ2 ⟨rfl, rfl⟩
    simp
    -- asked for its device
    have hf0 : hearF e0 [8, 2] = (askB e0, 0, e0.asked) := by simp [hearF, hst0]
    refine callK.of (hear_calls q e0 o1 o2 true [8, 2] (by simp) hsm _ (by simp) (fun _ _ _ _ _ h => by omega)) ?_
    rintro v τ1 ⟨rfl, p1, p2, rfl⟩
    rw [hf0]
    obtain ⟨A, hA, hAl⟩ : ∃ A, askB e0 = 2 :: 7 :: A ∧ 1 ≤ A.length := ⟨_, rfl, by have := ask_len e0 hty; simp [askB] at this ⊢; omega⟩
    have hAb : bytesA (2 :: 7 :: A) = .lit (.int .u8 2) :: .lit (.int .u8 7) :: bytesA A := rfl
    have hA3 : ¬ ((A.length : Int) + 1 + 1 < 3) := by omega
    rw [hA]
    have hsm1 := small_asked hsm
    have hd1 := dev_step (e := e0.asked) rfl hnm
    have hfe1 : e0.asked.fns = e0.fns := rfl
    have hst1 : e0.asked.st = 1 := rfl
    have hgb : (giveB nm).length ≤ 60 := by simp [giveB]; omega
    have hs13 : [AV.lit (.int .u8 2), .lit (.int .u8 4), .lit (.int .u8 73), .lit (.int .u8 66), .lit (.int .u8 77), .lit (.int .u8 45), .lit (.int .u8 51), .lit (.int .u8 50), .lit (.int .u8 55), .lit (.int .u8 56), .lit (.int .u8 45), .lit (.int .u8 50), .lit (.int .u8 1)] ++ bytesA nm = bytesA (giveB nm) := by unfold giveB; rw [bytesA_append]; rfl
    have hvn := bytesV_mk nm
    have hzn := str_size nm
    have hsz2 : 13 + (ByteArray.mk nm.toArray).size ≤ 9223372036854775807 := by rw [hzn]; omega
    have hsz3 : 13 + (ByteArray.mk nm.toArray).size ≤ 140737488355328 := by rw [hzn]; omega
    have hs14 : [AV.lit (.int .u8 2), .lit (.int .u8 4), .lit (.int .u8 73), .lit (.int .u8 66), .lit (.int .u8 77), .lit (.int .u8 45), .lit (.int .u8 51), .lit (.int .u8 50), .lit (.int .u8 55), .lit (.int .u8 56), .lit (.int .u8 45), .lit (.int .u8 50), .lit (.int .u8 1)] ++ bytesV ⟨nm.toArray⟩ = bytesA (giveB nm) := by rw [hvn]; exact hs13
    simp only [List.cons_append, List.nil_append] at hs14
    simp [hAb, hA3]
    refine ⟨hsz2, hsz3, ?_⟩
    rw [hs14]
    refine callK.of (hear_calls q e0.asked p1 p2 true (giveB nm) (by omega) hsm1 _ (by simp) (fun _ _ _ _ _ h => by rcases h with h | h <;> cases h)) ?_
    rintro v τ2 ⟨rfl, r1, r2, rfl⟩
    rw [hd1]
    have hsm2 : Small { e0.asked with st := 2, name := nm, agreed := [] } := ⟨hsm.ty, hsm.dev, hsm.fns, Nat.zero_le _⟩
    have hst2 : ({ e0.asked with st := 2, name := nm, agreed := [] } : Ng).st = 2 := rfl
    have hnm2 : ({ e0.asked with st := 2, name := nm, agreed := [] } : Ng).name = nm := rfl
    have hfe2 : ({ e0.asked with st := 2, name := nm, agreed := [] } : Ng).fns = e0.fns := rfl
    have how2 : ∀ k, ownS { e0.asked with st := 2, name := nm, agreed := [] } k = ownS e0 k := fun _ => rfl
    generalize ({ e0.asked with st := 2, name := nm, agreed := [] } : Ng) = e2 at *
    rw [hfe1]
    rw [hfe] at *
    simp
    refine callK.of (device_calls q e2 r1 r2 _ (by simp)) ?_
    rintro v σ2 ⟨rfl, rfl⟩
    rw [hnm2]
    have hb37 : bytesA (3 :: 7 :: c.few.fns) = .lit (.int .u8 3) :: .lit (.int .u8 7) :: bytesA c.few.fns := rfl
    have htk := htake c.few.fns
    have hn2 : ¬ ((c.few.fns.length : Int) + 1 + 1 < 2) := by omega
    simp [hb37, hn2, htk, hbq]
    refine callK.of (same_calls false false c.few.fns c.few.fns _) ?_
    rintro v σ2 ⟨rfl, rfl⟩
    simp
    -- what the end is, is what both have
    have hag : ∀ (e : Ng) (x : UInt8) (k : List UInt8), k.length ≤ 5 → (k.Pairwise fun a b => a.toNat < b.toNat) → ∀ k' τ p1 p2, (3 :: x :: k).tail.tail = k' → (e.st = 2 ∨ e.st = 3) → ownS e k' = true → k'.Nodup → τ q = some (endO e p1 p2) → ACalls Try.prog 41 [ptrA q, .list false 1 (bytesA k')] τ fun v σ' => v = .tuple [] ∧ Up τ q { e with st := 3, agreed := k' } σ' := by
      rintro e x k hl hp _ τ p1 p2 rfl _ _ _ hτ
      exact agree_calls q e p1 p2 false k hl (pair_up1 hp) τ hτ
    have hW34 : bytesA (3 :: 4 :: W) = .lit (.int .u8 3) :: .lit (.int .u8 4) :: bytesA W := rfl
    have hK37 : bytesA (3 :: 7 :: K) = .lit (.int .u8 3) :: .lit (.int .u8 7) :: bytesA K := rfl
    have hrd := fun (e3 : Ng) (s1 s2 : Bool) τ (h3 : e3.st = 3) (ht : τ q = some (endO e3 s1 s2)) => ready_calls q e3 s1 s2 τ ht
    have hfu := fun (e3 : Ng) (s1 s2 : Bool) τ (hs : Small e3) (ht : τ q = some (endO e3 s1 s2)) => functions_calls q e3 s1 s2 hs τ ht
    unfold ptrA at hrd hfu
    have hfinal : ∀ X : List AV, Store.sub σ (((σ.upd b [strS c.few.ty, strS c.few.dev, AV.list false 1 (bytesA c.few.fns)]).upd q X)) := fun X => by (intro q; simp only [Store.upd, Store.del]; (repeat' split) <;> first | exact Or.inr rfl | exact Or.inl rfl | (exfalso; omega) | (left; subst_vars; assumption) | simp_all)
    cases asks
    · simp
      refine ⟨by omega, by omega, ?_⟩
      rw [← hW34]
      refine callK.of (hear_calls q e2 r1 r2 true (3 :: 4 :: W) (by simp; omega) hsm2 _ (by simp) (hag e2 4 W hwl hwp)) ?_
      rintro v τ3 ⟨rfl, s1, s2, rfl⟩
      rw [fn_is hst2 (pair_nodup hwp) ((how2 W).trans hwo)]
      have hsm3 : Small { e2 with st := 3, agreed := W } := ⟨hsm2.ty, hsm2.dev, hsm2.fns, by show W.length ≤ 1000; omega⟩
      simp
      refine callK.of (hrd { e2 with st := 3, agreed := W } s1 s2 _ rfl (by simp)) ?_
      rintro v σ3 ⟨rfl, rfl⟩
      simp
      refine callK.of (hfu { e2 with st := 3, agreed := W } s1 s2 _ hsm3 (by simp)) ?_
      rintro v σ3 ⟨rfl, rfl⟩
      simp
      refine callK.of (same_calls true false W W _) ?_
      rintro v σ3 ⟨rfl, rfl⟩
      simp
      exact hfinal _
    · rcases hsplit with ⟨ho, rfl⟩ | ⟨ho, hfil⟩
      · simp
        refine callK.of (hlo _) ?_
        rintro v σ3 ⟨rfl, rfl⟩
        simp
        refine ⟨by omega, by omega, ?_⟩
        rw [← hK37]
        refine callK.of (hear_calls q e2 r1 r2 true (3 :: 7 :: W) (by simp; omega) hsm2 _ (by simp) (hag e2 7 W hwl hwp)) ?_
        rintro v τ3 ⟨rfl, s1, s2, rfl⟩
        rw [fn_asks hst2 (pair_nodup hwp) ((how2 W).trans hwo)]
        have hsm3 : Small { e2 with st := 3, agreed := W } := ⟨hsm2.ty, hsm2.dev, hsm2.fns, by show W.length ≤ 1000; omega⟩
        have hn3 : ¬ ((W.length : Int) + 1 + 1 < 2) := by omega
        simp [hW34, hn3]
        refine callK.of (hrd { e2 with st := 3, agreed := W } s1 s2 _ rfl (by simp)) ?_
        rintro v σ3 ⟨rfl, rfl⟩
        simp
        refine callK.of (hfu { e2 with st := 3, agreed := W } s1 s2 _ hsm3 (by simp)) ?_
        rintro v σ3 ⟨rfl, rfl⟩
        simp
        refine callK.of (same_calls true false W W _) ?_
        rintro v σ3 ⟨rfl, rfl⟩
        simp
        exact hfinal _
      · simp
        refine callK.of (hlo _) ?_
        rintro v σ3 ⟨rfl, rfl⟩
        simp
        refine ⟨by omega, by omega, ?_⟩
        rw [← hK37]
        refine callK.of (hear_calls q e2 r1 r2 true (3 :: 7 :: K) (by simp; omega) hsm2 _ (by simp) (hag e2 7 K hol hop)) ?_
        rintro v τ3 ⟨rfl, s1, s2, rfl⟩
        rw [fn_cuts hst2 (pair_nodup hop) ((how2 K).trans ho), hfe2, hfil]
        have hsm3 : Small e2.offered := ⟨hsm2.ty, hsm2.dev, hsm2.fns, Nat.zero_le _⟩
        have hst3 : e2.offered.st = 2 := rfl
        have how3 : ownS e2.offered W = true := (how2 W).trans hwo
        generalize e2.offered = e3 at *
        have hn3 : ¬ ((W.length : Int) + 1 + 1 < 2) := by omega
        have hW37 : bytesA (3 :: 7 :: W) = .lit (.int .u8 3) :: .lit (.int .u8 7) :: bytesA W := rfl
        have htw := htake W
        simp [hW37, hn3, htw]
        refine ⟨by omega, by omega, ?_⟩
        rw [← hW34]
        refine callK.of (hear_calls q e3 s1 s2 true (3 :: 4 :: W) (by simp; omega) hsm3 _ (by simp) (hag e3 4 W hwl hwp)) ?_
        rintro v τ3 ⟨rfl, s1, s2, rfl⟩
        rw [fn_is hst3 (pair_nodup hwp) how3]
        have hsm4 : Small { e3 with st := 3, agreed := W } := ⟨hsm3.ty, hsm3.dev, hsm3.fns, by show W.length ≤ 1000; omega⟩
        simp
        refine callK.of (hrd { e3 with st := 3, agreed := W } s1 s2 _ rfl (by simp)) ?_
        rintro v σ3 ⟨rfl, rfl⟩
        simp
        refine callK.of (hfu { e3 with st := 3, agreed := W } s1 s2 _ hsm4 (by simp)) ?_
        rintro v σ3 ⟨rfl, rfl⟩
        simp
        refine callK.of (same_calls true false W W _) ?_
        rintro v σ3 ⟨rfl, rfl⟩
        simp
        exact hfinal _
theorem negoAgrees_said (c : Ng) (host name : List UInt8) (asks : Bool) (hh : host.length ≤ maxLen) (σ : Store) :
    ACalls Try.prog 4 [confA c false, .list false 1 (bytesA host), strS name, .lit (.bool asks)] σ fun v _ => v = .lit (.bool true) :=
  (negoAgrees_law c host name asks (Nat.le_trans hh (by decide)) σ).mono fun _ _ h => h.1
end Go.Proofs.Ytlhfhanmbdncdaa
/-
  Arguments opened.
-/
namespace Go.Proofs.Ytlhfhanmbdncdaa
open Go Go.AL
theorem open_str : Opens Try.prog 9 (fun l : List UInt8 => [strS l]) (fun _ => True) :=
  (Opens.string Try.underlying9).by (fun s => s.data.toList) fun s _ => ⟨trivial, by cases s; simp⟩
theorem open_bytes : Opens Try.prog 22 (fun l : List UInt8 => [.list false 1 (bytesA l)]) (fun l => l.length ≤ maxLen) :=
  (Opens.slice Try.underlying22 (sz := 1) (by kernel_rfl) (by omega) (Opens.u8 Try.underlying5) byteA (fun _ => rfl) (fun _ => rfl)).by id fun _ h => ⟨h.1, rfl⟩
theorem open_conf : Opens Try.prog 24 (fun c : Ng => [strS c.ty, strS c.dev, .list false 1 (bytesA c.fns)]) (fun _ => True) :=
  (Opens.struct (total := 3) Try.underlying24 (by kernel_rfl)
    (.cons (k := 1) rfl (by kernel_rfl) (by omega) open_str (.cons (k := 1) rfl (by kernel_rfl) (by omega) open_str (.cons (k := 1) rfl (by kernel_rfl) (by omega) open_bytes .nil)))).by
    (fun x => ⟨x.1, x.2.1, x.2.2.1, 0, [], []⟩) fun _ _ => ⟨trivial, rfl⟩
theorem open_lists : Opens Try.prog 25 (fun l : List (List UInt8) => [.list false 1 (l.map fun p => .list false 1 (bytesA p))]) (fun l => l.length ≤ maxLen) :=
  (Opens.slice Try.underlying25 (sz := 1) (by kernel_rfl) (by omega) open_bytes (fun p => .list false 1 (bytesA p)) (fun _ => rfl) (fun _ => rfl)).by id fun _ h => ⟨h.1, rfl⟩
end Go.Proofs.Ytlhfhanmbdncdaa
