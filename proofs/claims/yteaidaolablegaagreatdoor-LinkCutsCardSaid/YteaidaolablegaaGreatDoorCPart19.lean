/-
  LinkCuts: what comes of bytes, each record answered.
-/
import Derived.Test.YteaidaolablegaaGreatDoorCPart18
set_option linter.unusedSimpArgs false
set_option linter.unusedVariables false
namespace Go.Proofs.YteaidaolablegaaGreatDoor
open Go Go.AL

theorem LkAt.beside {k : Bk} {L : Lk} {a b : Bool} {σ : Store} (h : LkAt k L a b σ) {p : Nat} (X : List AV) (hp : ¬ p = k.m ∧ ¬ p = k.e ∧ ¬ p = k.o ∧ ¬ p = k.r ∧ ¬ p = k.l) : LkAt k L a b (σ.upd p X) := by
  obtain ⟨h1, h2, h3, h4, h5⟩ := hp
  refine ⟨?_, ?_, ?_, ?_, ?_⟩ <;> rw [supd_apply, if_neg]
  · exact h.l
  · exact fun e => h5 e.symm
  · exact h.r
  · exact fun e => h4 e.symm
  · exact h.o
  · exact fun e => h3 e.symm
  · exact h.e
  · exact fun e => h2 e.symm
  · exact h.m
  · exact fun e => h1 e.symm
theorem LkAt.cell_ne {k : Bk} {L : Lk} {a b : Bool} {σ : Store} (h : LkAt k L a b σ) {p : Nat} {x : AV} (hp : σ p = some [x]) : ¬ p = k.m ∧ ¬ p = k.e ∧ ¬ p = k.o ∧ ¬ p = k.r ∧ ¬ p = k.l := by
  have ne : ∀ (q : Nat) cs, σ q = some cs → cs.length ≠ 1 → ¬ p = q := fun q cs hq hl e => by
    rw [← e, hp] at hq
    cases hq; exact hl rfl
  exact ⟨ne _ _ h.m (by simp [mkA]), ne _ _ h.e (by simp [endO]), ne _ _ h.o (by simp), ne _ _ h.r (by simp [rdA]), ne _ _ h.l (by simp [lkO])⟩
theorem putL_off {k : Bk} (L : Lk) (a b : Bool) (σ : Store) {p : Nat} (hp : ¬ p = k.m ∧ ¬ p = k.e ∧ ¬ p = k.o ∧ ¬ p = k.r ∧ ¬ p = k.l) : putL k L a b σ p = σ p := by
  rw [putL_apply, if_neg hp.1, if_neg hp.2.1, if_neg hp.2.2.1, if_neg hp.2.2.2.1, if_neg hp.2.2.2.2]
/-- The n-th code. -/
theorem codeAt_some {codes : List UInt8} {n : Nat} (h : 0 < codes.length) (hq : n % codes.length < codes.length) : codeAt codes n = codes[n % codes.length].toNat % 16 := by
  unfold codeAt
  rw [if_neg (by omega)]
  simp [hq]
theorem parse_seq {l : List UInt8} {h : Hd} {r : List UInt8} (e : parseF l = some (h, r)) : h.seq < 65536 := by
  unfold parseF at e
  split at e
  · rename_i a b c d e' t
    split at e
    · obtain ⟨rfl, _⟩ := Prod.mk.inj (Option.some.inj e)
      show d.toNat * 256 + e'.toNat < 65536
      have := d.toNat_lt
      have := e'.toNat_lt
      omega
    · cases e
  · cases e
theorem take_seq (L : Lk) (ev : Ev) : (L.take ev).1.hd.seq < 65536 := by
  unfold Lk.take
  split
  · simp [LE.none, Hd.zero]
  split
  · simp [LE.none, Hd.zero]
  split
  · simp [Hd.zero]
  split
  · simp [LE.none, Hd.zero]
  split
  · show (toldF L.mode L.mp).hd.seq < 65536
    unfold toldF
    split
    · simp [Hd.zero]
    · cases h : parseF L.mp with
      | none => simp [Hd.zero]
      | some x => obtain ⟨y, r⟩ := x; exact parse_seq h
  · simp [LE.none, Hd.zero]
theorem tlr_seq (r : List Ev) : ∀ (L : Lk), ∀ x ∈ L.tlr r, x.1.hd.seq < 65536 := by
  induction r with
  | nil => intro L x hx; cases hx
  | cons ev r ih =>
    intro L x hx
    simp only [Lk.tlr] at hx
    split at hx
    · rcases List.mem_cons.1 hx with h | h
      · rw [h]; exact take_seq L ev
      · exact ih _ x h
    · exact ih _ x hx
@[simp] def st48x : List Nat := [16, 5000004, 5000006, 5000007, 4000012, 4000024, 4000027, 4000028, 4000031, 4000038, 4000043]
set_option maxRecDepth 8000 in
set_option maxHeartbeats 2000000 in
theorem answered_calls (kb : Bk) (hk : kb.Ok) (L : Lk) (a b o o2 : Bool) (n0 n : Nat) (p codes : List UInt8) (hn : n0 + 2 * p.length ≤ 8000) (hL : LkOk L n0) (hcnt : n ≤ 1000000) (nn : Nat) (σ : Store) (h : LkAt kb L a b σ) (hnn : σ nn = some [.lit (.int .i64 n)]) :
    ACalls Tryz.prog 48 [ptrA kb.l, .list o 1 (bytesA p), .list o2 1 (bytesA codes), ptrA nn] σ fun v σ' => v = .list false 7 (lesA (L.ans codes n p).out) ∧ LkTo kb (L.ans codes n p).L (σ.upd nn [.lit (.int .i64 (L.ans codes n p).n)]) σ' := by
  have hroom := fed_room hL p (by omega)
  obtain ⟨f1, f2, f3, f4⟩ := fed_b hL.rd p
  have hFIN : L.ans codes n p = (Cs.mk (L.fed p) n []).run codes (L.rd.fed p) := rfl
  generalize L.ans codes n p = FIN at *
  generalize hT : (L.fed p).tlr (L.rd.fed p) = T at *
  have hUk : ∀ k x, T[k]? = some x → (T.map (·.1)).take (k + 1) = (T.map (·.1)).take k ++ [x.1] := fun k x hx => by
    obtain ⟨h1, h2⟩ := List.getElem?_eq_some_iff.1 hx
    rw [List.take_succ_eq_append_getElem (by simpa using h1)]; simp [h2]
  have hUl : (T.map (·.1)).length = T.length := by simp
  generalize T.map (·.1) = U at *
  have hTl : T.length ≤ 100000 := by
    have : ∀ (r : List Ev) (M : Lk), (M.tlr r).length ≤ r.length := fun r => by
      induction r with
      | nil => intro M; exact Nat.le_refl _
      | cons ev r ih =>
        intro M
        simp only [Lk.tlr]
        split
        · simp only [List.length_cons]; have := ih (M.take ev).2.2; omega
        · simp only [List.length_cons]; have := ih (M.take ev).2.2; omega
    have := this (L.rd.fed p) (L.fed p)
    rw [hT] at this
    omega
  have hit := fun τ => iter_calls kb false p τ
  have hnk := h.cell_ne hnn
  refine ACalls.of_awpY follows (st := st48x) (plans := pl48) (n := 48) Tryz.func48 rfl (by kernel_rfl) (by kernel_rfl) (by kernel_rfl) ?_
  simp
  intro q hq
  refine callK.of (hit _) ?_
  rintro v σ1 ⟨c1, c2, hc1, hc2, hcc, rfl, rfl⟩
  rw [supd_apply, ite_none] at hc1 hc2
  obtain ⟨hc1q, hc1⟩ := hc1
  obtain ⟨hc2q, hc2⟩ := hc2
  obtain ⟨n1, n2, n3, n4, n5⟩ := h.ne hq
  have hqk : ¬ q = kb.m ∧ ¬ q = kb.e ∧ ¬ q = kb.o ∧ ¬ q = kb.r ∧ ¬ q = kb.l := ⟨fun e => n5 e.symm, fun e => n4 e.symm, fun e => n3 e.symm, fun e => n2 e.symm, fun e => n1 e.symm⟩
  have hqc1 : ¬ q = c1 := fun e => hc1q e.symm
  have hqc2 : ¬ q = c2 := fun e => hc2q e.symm
  have hfn : ∀ x : Nat, σ x = none → ¬ nn = x := fun x hx e => by rw [← e, hnn] at hx; cases hx
  have hnq := hfn _ hq
  have hn1 := hfn _ hc1
  have hn2 := hfn _ hc2
  have hqn : ¬ q = nn := fun e => hnq e.symm
  -- the store, by what has been gathered, and how many were answered
  let W : List LE → Nat → Store := fun l m => (((σ.upd nn [.lit (.int .i64 m)]).upd q [.list true 7 (lesA l)]).upd c1 [ptrA kb.l]).upd c2 [.list false 1 (bytesA p)]
  have hWat : ∀ l m, LkAt kb L a b (W l m) := fun l m => (((h.beside _ hnk).other (by rw [supd_apply, if_neg hqn]; exact hq) _).other (by rw [supd_apply, if_neg hc1q, supd_apply, if_neg (fun e => hn1 e.symm)]; exact hc1) _).other (by rw [supd_apply, if_neg fun e => hcc e.symm, supd_apply, if_neg hc2q, supd_apply, if_neg (fun e => hn2 e.symm)]; exact hc2) _
  have hWσ : ∀ l (m : Nat), Store.sub (σ.upd nn [.lit (.int .i64 m)]) (W l m) := fun l m => by
    refine Store.sub2 (fun x => ?_) (fun g => .inr (by simp [W]))
    show (σ.upd nn [.lit (.int .i64 m)]) x = none ∨ (σ.upd nn [.lit (.int .i64 m)]) x = W l m x
    by_cases xn : x = nn
    · right; subst xn; simp [W, hnq, hn1, hn2]
    by_cases x2 : x = c2
    · left; rw [x2, supd_apply, if_neg (fun e => hn2 e.symm)]; exact hc2
    by_cases x1 : x = c1
    · left; rw [x1, supd_apply, if_neg (fun e => hn1 e.symm)]; exact hc1
    by_cases x0 : x = q
    · left; rw [x0, supd_apply, if_neg hqn]; exact hq
    · right; simp [W, x1, x2, x0]
  have hW1 : ∀ l m, W l m c1 = some [ptrA kb.l] := fun l m => by simp [W, hcc]
  have hW2 : ∀ l m, W l m c2 = some [.list false 1 (bytesA p)] := fun l m => by simp [W]
  have hWq : ∀ l m, W l m q = some [.list true 7 (lesA l)] := fun l m => by simp [W, hqc1, hqc2]
  have hWn : ∀ l m, W l m nn = some [.lit (.int .i64 m)] := fun l m => by simp [W, hnq, hn1, hn2]
  have hPq : ∀ L' a b l m, (putL kb L' a b (W l m)) q = some [.list true 7 (lesA l)] := fun L' a b l m => by rw [putL_off _ _ _ _ hqk, hWq]
  have hPn : ∀ L' a b l m, (putL kb L' a b (W l m)) nn = some [.lit (.int .i64 m)] := fun L' a b l m => by rw [putL_off _ _ _ _ hnk, hWn]
  have hσn : σ.upd nn [.lit (.int .i64 n)] = σ := by
    refine Store.ext2 (fun x => ?_) (fun g => by simp)
    rw [supd_apply]
    split
    · rename_i e; rw [e, hnn]
    · rfl
  have hWe : ((σ.upd q [.list true 7 []]).upd c1 [ptrA kb.l]).upd c2 [.list false 1 (bytesA p)] = W [] n := by
    show _ = (((σ.upd nn [.lit (.int .i64 n)]).upd q [.list true 7 (lesA [])]).upd c1 [ptrA kb.l]).upd c2 [.list false 1 (bytesA p)]
    rw [hσn]; rfl
  simp only [hWe]
  have hP0 : PreL kb c1 c2 false p T 0 (L, .none) (W [] n) := ⟨⟨a, b, hWat _ _⟩, hW1 _ _, hW2 _ _, hT, hroom, by simp, (fun r h => by cases h), (by rw [hL.rd.out]; simp), (by rw [hL.rd.data]; simp), Nat.le_trans hL.rd.sub (by omega)⟩
  simp
  refine codeYK.rangeL follows (st := st48x) (plans := pl48) (take_iter kb hk c1 c2 false p (by omega) T (W [] n)) (by simp) (by simp) ?_ (by kernel_rfl) (by kernel_rfl) (by kernel_rfl)
    (fun k g τ _ => k ≤ T.length ∧ PreL kb c1 c2 false p T k g τ ∧ (g.now p).rd = L.rd.after p ∧ ∃ f : Fl, ∃ m : Nat, m ≤ n + k ∧ (Cs.mk (g.now p) m (U.take k)).run codes (g.rest p) = FIN ∧ τ = putL kb g.1 f.a f.b (W (U.take k) m))
    (fun k g τ _ => k ≤ T.length ∧ (∃ τ0, PreL kb c1 c2 false p T k g τ0) ∧ (g.now p).rd = L.rd.after p ∧ ∃ f : Fl, ∃ m : Nat, m ≤ n + k ∧ (Cs.mk (g.now p) m (U.take k)).run codes (g.rest p) = FIN ∧ τ = putL kb ((g.now p).adv (g.rest p)) f.a f.b (W (U.take k) m))
    (fun _ _ _ => False) (L, .none) (W [] n) ⟨Nat.zero_le _, hP0, rfl, ⟨a, b⟩, n, by omega, hFIN.symm, (putL_self (hWat _ _)).symm⟩ (Store.sub_refl _) ?_ ?_ ?_ ?_ ?_
  · intro k hk1
    rw [argL_some (List.getElem?_eq_getElem hk1)]; rfl
  · rintro k g τ E _ ⟨_, h1, _⟩
    exact h1
  · rintro k g τ τ' E hkn ⟨h0, h1, h3, f, m, h4, h5, rfl⟩ ⟨a', b', rfl⟩
    exact ⟨h0, ⟨_, h1⟩, h3, ⟨a', b'⟩, m, h4, h5, putL_putL ..⟩
  · rintro k g hk1 τ E ⟨h0, ⟨τ0, h1⟩, h3, f, m, h4, h5, rfl⟩
    have hTd := List.drop_eq_getElem_cons hk1
    obtain ⟨x, hx⟩ : ∃ x, T[k] = x := ⟨_, rfl⟩
    have htold := h1.told
    rw [hTd, hx] at htold
    obtain ⟨q1, q2, q3, q4⟩ := adv_cons htold h1.room
    have hslack := adv_slack htold h1.room
    rw [run_cons codes _ htold] at h5
    rw [argL_some (x := x) (by rw [List.getElem?_eq_getElem hk1, hx])]
    have hTk : T[k]? = some x := by rw [List.getElem?_eq_getElem hk1, hx]
    have hacc := hUk k x hTk
    have hbk := fun τ => lback_calls x.1 τ
    have hlk : (U.take k).length ≤ 100000 := by simp; omega
    have hxs : x.1.hd.seq < 65536 := tlr_seq _ _ x (by rw [htold]; exact List.mem_cons_self)
    have hWsame : ∀ (y : Nat) l m l' m', ¬ y = nn → ¬ y = q → W l m y = W l' m' y := fun y l m l' m' e1 e2 => by simp [W, e1, e2]
    have hnext : ∀ (y : List UInt8) (m' : Nat) (f : Fl), y.length ≤ ((g.now p).adv (g.rest p)).out.length + 14 → m' ≤ n + (k + 1) → (Cs.mk (((g.now p).adv (g.rest p)).withOut y) m' (U.take (k + 1))).run codes x.2 = FIN →
        ∃ g' : LG, k + 1 ≤ T.length ∧ PreL kb c1 c2 false p T (k + 1) g' (putL kb (((g.now p).adv (g.rest p)).withOut y) f.a f.b (W (U.take (k + 1)) m')) ∧ (g'.now p).rd = L.rd.after p ∧ ∃ f' : Fl, ∃ m2 : Nat, m2 ≤ n + (k + 1) ∧ (Cs.mk (g'.now p) m2 (U.take (k + 1))).run codes (g'.rest p) = FIN ∧ putL kb (((g.now p).adv (g.rest p)).withOut y) f.a f.b (W (U.take (k + 1)) m') = putL kb g'.1 f'.a f'.b (W (U.take (k + 1)) m2) := fun y m' f hy hm' hrun =>
      ⟨(((g.now p).adv (g.rest p)).withOut y, some x.2), hk1, ⟨⟨f.a, f.b, putL_at hk ..⟩, putL_c1 (hWat _ _) (hW1 _ _) .., by
        have := putL_c1 (hWat (U.take (k + 1)) m') (hW2 _ _) (((g.now p).adv (g.rest p)).withOut y) f.a f.b
        exact this, by
          show (((g.now p).adv (g.rest p)).withOut y).tlr x.2 = _
          rw [tlr_with]; exact q1, by
          refine ⟨?_, q2.data, q2.mp, q2.small, q2.ok⟩
          show y.length + 30000 * x.2.length ≤ _
          omega, by simp, fun r hr => ⟨x.1, by cases hr; rw [Nat.add_sub_cancel]; exact hTk⟩, by
        show ((g.now p).adv (g.rest p)).rd.out.length ≤ 100 ∧ ((g.now p).adv (g.rest p)).rd.data.length ≤ 100000 ∧ ((g.now p).adv (g.rest p)).rd.sub.length ≤ 100000
        rw [q4, h3]
        exact ⟨by rw [f4.out]; simp, by rw [f4.data]; simp, Nat.le_trans f4.sub (by omega)⟩⟩, q4.trans h3, f, m', hm', hrun, rfl⟩
    rw [hacc] at hnext
    have hsm := q2.small
    have hob := q2.out
    generalize (g.now p).adv (g.rest p) = L2 at *
    have hat2 := putL_at hk L2 f.a f.b (W (U.take k) m)
    obtain ⟨⟨xk, xd, hd0, xh⟩, xr⟩ := x
    dsimp only at hxs
    have hrs := fun τ => respond_calls kb hk L2 f.a f.b ⟨xk, xd, hd0, xh⟩ hxs (codeAt codes m) hsm (by omega) τ
    obtain ⟨yo, hyo, hyl⟩ := respond_grow L2 ⟨xk, xd, hd0, xh⟩ (codeAt codes m)
    have hone : Cs.one codes ⟨L2, m, U.take k⟩ ⟨xk, xd, hd0, xh⟩ = if xk = 2 then ⟨L2, m, U.take k ++ [⟨xk, xd, hd0, xh⟩]⟩ else ⟨L2.withOut yo, m + 1, U.take k ++ [⟨xk, xd, hd0, xh⟩]⟩ := by
      unfold Cs.one
      dsimp only
      rw [hyo]
    dsimp only at h5 hnext
    rw [hone] at h5
    rw [hyo] at hrs
    obtain ⟨ty, req, resp, seq⟩ := hd0
    simp only [leA, hdL, byteA_lit, List.cons_append, List.nil_append] at hbk hrs
    have hw : IntKind.i64.wrap ((m : Int) + 1) = ((m + 1 : Nat) : Int) := wrap_i64 (by omega) (by omega)
    simp [leA, hdL, byteA]
    intro r hr
    have hrq : ¬ r = q := fun e => by rw [e, hPq] at hr; cases hr
    have hqr : ¬ q = r := fun e => hrq e.symm
    have hrn : ¬ r = nn := fun e => by rw [e, hPn] at hr; cases hr
    have hnr : ¬ nn = r := fun e => hrn e.symm
    obtain ⟨r1, r2, r3, r4, r5⟩ := hat2.ne hr
    have hrk : ¬ r = kb.m ∧ ¬ r = kb.e ∧ ¬ r = kb.o ∧ ¬ r = kb.r ∧ ¬ r = kb.l := ⟨fun e => r5 e.symm, fun e => r4 e.symm, fun e => r3 e.symm, fun e => r2 e.symm, fun e => r1 e.symm⟩
    have hWr : ∀ l m, W l m r = none := fun l m => by
      rw [putL_off _ _ _ _ hrk] at hr
      rw [hWsame r l m _ _ hrn hrq]; exact hr
    have hfin : ∀ L3 c d X l' (m' : Nat), Store.sub (putL kb L3 c d (W l' m')) (putL kb L3 c d ((((putL kb L2 f.a f.b (W (U.take k) m)).upd r X).upd q [.list true 7 (lesA l')]).upd nn [.lit (.int .i64 m')])) := fun L3 c d X l' m' => by
      refine Store.sub2 (fun y => ?_) (fun g => by right; simp [putL, W])
      rw [putL_apply, putL_apply]
      by_cases y1 : y = kb.m
      · right; rw [if_pos y1, if_pos y1]
      by_cases y2 : y = kb.e
      · right; rw [if_neg y1, if_pos y2, if_neg y1, if_pos y2]
      by_cases y3 : y = kb.o
      · right; rw [if_neg y1, if_neg y2, if_pos y3, if_neg y1, if_neg y2, if_pos y3]
      by_cases y4 : y = kb.r
      · right; rw [if_neg y1, if_neg y2, if_neg y3, if_pos y4, if_neg y1, if_neg y2, if_neg y3, if_pos y4]
      by_cases y5 : y = kb.l
      · right; rw [if_neg y1, if_neg y2, if_neg y3, if_neg y4, if_pos y5, if_neg y1, if_neg y2, if_neg y3, if_neg y4, if_pos y5]
      rw [if_neg y1, if_neg y2, if_neg y3, if_neg y4, if_neg y5, if_neg y1, if_neg y2, if_neg y3, if_neg y4, if_neg y5, supd_apply, supd_apply, supd_apply]
      by_cases yn : y = nn
      · right; rw [if_pos yn, yn, hWn]
      rw [if_neg yn]
      by_cases yq : y = q
      · right; rw [if_pos yq, yq, hWq]
      rw [if_neg yq]
      by_cases yr : y = r
      · left; rw [yr]; exact hWr _ _
      rw [if_neg yr, putL_off _ _ _ _ ⟨y1, y2, y3, y4, y5⟩]
      right; exact hWsame y _ _ _ _ yn yq
    by_cases hk2 : xk = 2
    · subst hk2
      rw [if_pos rfl] at h5
      simp [hqr, hrq, hPq]
      repeat' with_reducible apply And.intro
      all_goals
        refine callK.of (hbk _) ?_
        rintro v σ2 ⟨rfl, rfl⟩
        simp [hqr, hrq, hPq]
        obtain ⟨g', e1, e2, e3, f', m2, e4, e5, e6⟩ := hnext L2.out m f (by omega) (by omega) h5
        have hfn := hfin L2 f.a f.b [.lit (.int .i64 ((2 : Nat) : Int)), .list false 1 (bytesA xd), .lit (.int .u8 ty.toNat), .lit (.int .u8 req.toNat), .lit (.int .u8 resp.toNat), .lit (.int .u16 seq), .lit (.bool xh)] (U.take k ++ [⟨2, xd, ⟨ty, req, resp, seq⟩, xh⟩]) m
        rw [upd_back (q := nn) (by simp [hnr, hnq, hPn]), putL_self ((hat2.beside _ hrk).beside _ hqk), lesA_append] at hfn
        exact ⟨by omega, by omega, _, hfn, e1, g'.1, g'.2, e2, e3, f', m2, e4, by rw [hacc]; exact e5, by rw [hacc]; exact e6⟩
    · rw [if_neg hk2] at h5
      have hk2' : ¬ (xk : Int) = 2 := by omega
      have hgo : ∀ c d X, ∃ τ : Store, τ.sub (putL kb (L2.withOut yo) c d ((((putL kb L2 f.a f.b (W (U.take k) m)).upd r X).upd q [.list true 7 (lesA (U.take k) ++ lesA [⟨xk, xd, ⟨ty, req, resp, seq⟩, xh⟩])]).upd nn [.lit (.int .i64 (IntKind.i64.wrap ((m : Int) + 1)))])) ∧ k + 1 ≤ T.length ∧ ∃ (g1 : Lk) (g2 : Option (List Ev)), PreL kb c1 c2 false p T (k + 1) (g1, g2) τ ∧ (LG.now (g1, g2) p).rd = L.rd.after p ∧ ∃ f : Fl, ∃ m2 : Nat, m2 ≤ n + (k + 1) ∧ (Cs.mk (LG.now (g1, g2) p) m2 (U.take (k + 1))).run codes (LG.rest (g1, g2) p) = FIN ∧ τ = putL kb g1 f.a f.b (W (U.take (k + 1)) m2) := fun c d X => by
        obtain ⟨g', e1, e2, e3, f', m2, e4, e5, e6⟩ := hnext yo (m + 1) ⟨c, d⟩ hyl (by omega) h5
        have hfn := hfin (L2.withOut yo) c d X (U.take k ++ [⟨xk, xd, ⟨ty, req, resp, seq⟩, xh⟩]) (m + 1)
        rw [lesA_append, ← hw] at hfn
        exact ⟨_, hfn, e1, g'.1, g'.2, e2, e3, f', m2, e4, by rw [hacc]; exact e5, by rw [hacc]; exact e6⟩
      have hSat : ∀ X Y Z, LkAt kb L2 f.a f.b ((((putL kb L2 f.a f.b (W (U.take k) m)).upd r X).upd q Y).upd nn Z) := fun X Y Z => ((hat2.beside _ hrk).beside _ hqk).beside _ hnk
      by_cases hc0 : codes = []
      · have hcode : codeAt codes m = 0 := by subst hc0; rfl
        rw [hcode] at hrs
        have hcl0 : ¬ 0 < codes.length := by subst hc0; simp
        clear hc0
        simp [hqr, hrq, hPq]
        repeat' with_reducible apply And.intro
        all_goals
          refine callK.of (hbk _) ?_
          rintro v σ2 ⟨rfl, rfl⟩
          simp [hqr, hrq, hPq, hk2, hk2', hnr, hrn, hqn, hnq, hPn, hcl0]
          repeat' first | with_reducible apply And.intro | omega
          all_goals
            refine callK.of (hrs _ (hSat _ _ _)) ?_
            rintro v σ3 ⟨rfl, c, d, rfl⟩
            simp
            obtain ⟨τ, t1, t2, g1, g2, t3, t4, f', m2, t5, t6, t7⟩ := hgo c d [.lit (.int .i64 (xk : Int)), .list false 1 (bytesA xd), .lit (.int .u8 ty.toNat), .lit (.int .u8 req.toNat), .lit (.int .u8 resp.toNat), .lit (.int .u16 seq), .lit (.bool xh)]
            exact ⟨τ, t1, t2, g1, g2, t3, t4, f', m2, t5, t6, t7⟩
      · have hcl : 0 < codes.length := by
          rcases codes with _ | ⟨c, l⟩
          · exact absurd rfl hc0
          · simp
        have hmod : ((m : Int).tmod (codes.length : Int)) = ((m % codes.length : Nat) : Int) := rfl
        have hml : m % codes.length < codes.length := Nat.mod_lt _ hcl
        have hcode := codeAt_some hcl hml
        have hcg : ∀ q : m % codes.length < (bytesA codes).length, (bytesA codes)[m % codes.length]'q = .lit (.int .u8 codes[m % codes.length].toNat) := fun q => by simp [bytesA, byteA]
        generalize m % codes.length = ix at *
        generalize codes[ix] = c at *
        have hc16 : IntKind.i64.wrap ((c.toNat : Int).tmod 16) = ((c.toNat % 16 : Nat) : Int) := by
          have : (c.toNat : Int).tmod 16 = ((c.toNat % 16 : Nat) : Int) := rfl
          rw [this]
          exact wrap_i64 (by omega) (by omega)
        rw [hcode, ← hc16] at hrs
        have hml' : (ix : Int) < codes.length := by omega
        simp [hqr, hrq, hPq]
        repeat' with_reducible apply And.intro
        all_goals
          refine callK.of (hbk _) ?_
          rintro v σ2 ⟨rfl, rfl⟩
          simp [hqr, hrq, hPq, hk2, hk2', hnr, hrn, hqn, hnq, hPn, hc0, hmod, hcl, hcg, hml, hml']
          repeat' first | with_reducible apply And.intro | omega
          all_goals
            refine callK.of (hrs _ (hSat _ _ _)) ?_
            rintro v σ3 ⟨rfl, c, d, rfl⟩
            simp
            obtain ⟨τ, t1, t2, g1, g2, t3, t4, f', m2, t5, t6, t7⟩ := hgo c d [.lit (.int .i64 (xk : Int)), .list false 1 (bytesA xd), .lit (.int .u8 ty.toNat), .lit (.int .u8 req.toNat), .lit (.int .u8 resp.toNat), .lit (.int .u16 seq), .lit (.bool xh)]
            exact ⟨τ, t1, t2, g1, g2, t3, t4, f', m2, t5, t6, t7⟩
  · rintro g τ E σ' hs ⟨h0, ⟨τ0, h1⟩, h3, f, m, h4, h5, rfl⟩
    have ht := h1.told
    rw [List.drop_length] at ht
    rw [run_nil codes _ ht] at h5
    subst h5
    dsimp only
    generalize (g.now p).adv (g.rest p) = L2 at *
    have e2 : σ' q = some [.list true 7 (lesA (U.take T.length))] := by
      have e0 := hPq L2 f.a f.b (U.take T.length) m
      rcases hs q with h | h
      · rw [e0] at h; cases h
      · rw [← h]; exact e0
    simp [e2]
    exact ⟨_, AV.le_refl _, _, Store.sub_trans (putL_sub (hWσ _ _)) hs, rfl, ⟨f.a, f.b, rfl⟩⟩
  · rintro c τ E σ' hs h
    exact h.elim
end Go.Proofs.YteaidaolablegaaGreatDoor
/-
  LinkCuts: texts that follow one another are one.
-/
namespace Go.Proofs.YteaidaolablegaaGreatDoor
open Go Go.AL

def leBytes (l : List LE) : Nat := (l.map fun x => x.data.length).sum
theorem mergeL_size (l : List LE) : (mergeL l).length ≤ l.length ∧ leBytes (mergeL l) ≤ leBytes l := by
  have key : ∀ (l m : List LE), (l.foldl mstepL m).length ≤ m.length + l.length ∧ leBytes (l.foldl mstepL m) ≤ leBytes m + leBytes l := by
    intro l
    induction l with
    | nil => intro m; simp [leBytes]
    | cons e l ih =>
      intro m
      have h1 := mstepL_size m e
      have h2 := ih (mstepL m e)
      simp only [List.foldl_cons, List.length_cons, leBytes, List.map_cons, List.sum_cons] at *
      omega
  have := key l []
  simpa [mergeL, leBytes] using this
theorem leBytes_mem {l : List LE} {e : LE} (h : e ∈ l) : e.data.length ≤ leBytes l := by
  induction l with
  | nil => cases h
  | cons x l ih =>
    simp only [leBytes, List.map_cons, List.sum_cons] at *
    rcases List.mem_cons.1 h with rfl | h
    · omega
    · have := ih h; omega
theorem leBytes_take (l : List LE) (i : Nat) : leBytes (l.take i) ≤ leBytes l := by
  induction l generalizing i with
  | nil => simp
  | cons e l ih =>
    cases i with
    | zero => simp [leBytes]
    | succ i => have := ih i; simp only [leBytes, List.take_succ_cons, List.map_cons, List.sum_cons] at *; omega
theorem mergeL_take (l : List LE) (i : Nat) (h : i < l.length) : mergeL (l.take (i + 1)) = mstepL (mergeL (l.take i)) l[i] := by
  rw [List.take_succ_eq_append_getElem h, mergeL_snoc]
set_option maxRecDepth 8000 in
set_option maxHeartbeats 2000000 in
theorem lmerge_calls (o : Bool) (l : List LE) (hl : l.length ≤ 100000) (hb : leBytes l ≤ 1000000) (σ : Store) : ACalls Tryz.prog 49 [.list o 7 (lesA l)] σ fun v σ' => v = .list false 7 (lesA (mergeL l)) ∧ σ' = σ := by
  refine ACalls.of_awp follows (st := st49) (plans := pl49) (n := 77) Tryz.func49 rfl (by kernel_rfl) (by kernel_rfl) (by kernel_rfl) ?_
  simp
  refine codeK.loop follows (st := st49) (plans := pl49) (X := Nat) (fun i => i ≤ l.length)
    (fun i => [(3, .list true 7 (lesA (mergeL (l.take i)))), (8, .list false 7 (lesA l)), (9, .lit (.int .i64 l.length)), (10, .lit (.int .i64 i))]) (fun _ => σ) (fun i => l.length - i) 0 (by kernel_rfl) (Nat.zero_le _) (by simp [mergeL, lesA]) (Store.sub_refl _) ?_
  intro i hi
  by_cases hlt : i < l.length
  · have hlt' : (i : Int) < l.length := by omega
    have hw : IntKind.i64.wrap ((i : Int) + 1) = ((i + 1 : Nat) : Int) := wrap_i64 (by omega) (by omega)
    have hst := mergeL_take l i hlt
    have hms := mergeL_size (l.take i)
    have hbt := leBytes_take l i
    have hlt2 : (l.take i).length ≤ 100000 := by simp; omega
    obtain ⟨e, he⟩ : ∃ e, l[i] = e := ⟨_, rfl⟩
    have hbe : e.data.length ≤ leBytes l := leBytes_mem (by rw [← he]; exact List.getElem_mem ..)
    have hg : ∀ q : i < (lesA l).length, (lesA l)[i]'q = leA e := fun q => by simp [lesA, he]
    rw [he] at hst
    generalize mergeL (l.take i) = m at *
    rcases e with ⟨k, d, ⟨ty, req, resp, seq⟩, xh⟩
    simp only [leA, hdL, byteA_lit, List.cons_append, List.nil_append] at hg
    dsimp only at hbe
    have hone : lesA [⟨k, d, ⟨ty, req, resp, seq⟩, xh⟩] = [.agg [.lit (.int .i64 k), .list false 1 (bytesA d), .lit (.int .u8 ty.toNat), .lit (.int .u8 req.toNat), .lit (.int .u8 resp.toNat), .lit (.int .u16 seq), .lit (.bool xh)]] := rfl
    by_cases hk2 : k = 2
    · subst hk2
      cases xh with
      | true =>
        have hs' : mstepL m ⟨2, d, ⟨ty, req, resp, seq⟩, true⟩ = m ++ [⟨2, d, ⟨ty, req, resp, seq⟩, true⟩] := by simp [mstepL]
        rw [hs'] at hst
        simp [hlt, hlt', hg]
        intro q hq
        exact ⟨by omega, by omega, i + 1, by omega, by omega, ⟨by rw [hst, lesA_append]; exact AV.le_refl _, by rw [hw]; exact AV.le_refl _⟩, sub_upd_self _ _ _ hq⟩
      | false =>
        by_cases hd : d = []
        · have hs' : mstepL m ⟨2, d, ⟨ty, req, resp, seq⟩, false⟩ = m := by simp [mstepL, hd]
          rw [hs'] at hst
          subst hd
          simp [hlt, hlt', hg]
          intro q hq
          exact ⟨i + 1, by omega, by omega, ⟨by rw [hst]; exact AV.le_refl _, by rw [hw]; exact AV.le_refl _⟩, sub_upd_self _ _ _ hq⟩
        · have hdl : 0 < d.length := by
            rcases d with _ | ⟨x, d⟩
            · exact absurd rfl hd
            · simp
          have hdl' : ¬ d.length = 0 := by omega
          rcases List.eq_nil_or_concat m with hm | ⟨init, last, hm⟩
          · have hs' : mstepL m ⟨2, d, ⟨ty, req, resp, seq⟩, false⟩ = m ++ [⟨2, d, ⟨ty, req, resp, seq⟩, false⟩] := by simp [mstepL, hd, hm]
            rw [hs'] at hst
            subst hm
            simp [hlt, hlt', hg, hd, hdl']
            intro q hq
            exact ⟨i + 1, by omega, by omega, ⟨by rw [hst]; exact AV.le_refl _, by rw [hw]; exact AV.le_refl _⟩, sub_upd_self _ _ _ hq⟩
          · have hm' : m = init ++ [last] := by rw [hm]; simp
            have hlen : m.length = init.length + 1 := by rw [hm]; simp
            have hpos : 0 < m.length := by omega
            have hn1 : IntKind.i64.wrap ((m.length : Int) - 1) = (init.length : Int) := by rw [hlen, wrap_i64 (by omega) (by omega)]; omega
            have hil : init.length < m.length := by omega
            have hgl : ∀ q : init.length < (lesA m).length, (lesA m)[init.length]'q = leA last := fun q => by simp [lesA, hm']
            have hlast : m.getLast? = some last := by rw [hm]; simp
            have hld : last.data.length ≤ leBytes m := leBytes_mem (by rw [hm']; simp)
            have hti : (lesA m).take init.length = lesA init := by rw [hm']; simp [lesA]
            have hdrop : m.dropLast = init := by rw [hm]; simp
            rcases last with ⟨lk, ld, ⟨lty, lreq, lresp, lseq⟩, lxh⟩
            simp only [leA, hdL, byteA_lit, List.cons_append, List.nil_append] at hgl
            dsimp only at hld
            by_cases hlk : lk = 2 ∧ lxh = false
            · obtain ⟨rfl, rfl⟩ := hlk
              have hs' : mstepL m ⟨2, d, ⟨ty, req, resp, seq⟩, false⟩ = init ++ [⟨2, ld ++ d, .zero, false⟩] := by simp [mstepL, hd, hlast, hdrop]
              rw [hs'] at hst
              have hcp := fun τ => copy_calls false ld τ (by omega)
              simp [hlt, hlt', hg, hd, hdl', hn1, hil, hgl, hpos]
              intro q hq
              have hone2 : lesA (init ++ [⟨2, ld ++ d, .zero, false⟩]) = lesA init ++ [.agg [.lit (.int .i64 2), .list false 1 (bytesA ld ++ bytesA d), .lit (.int .u8 0), .lit (.int .u8 0), .lit (.int .u8 0), .lit (.int .u16 0), .lit (.bool false)]] := by
                rw [lesA_append, ← bytesA_append]; rfl
              have hil2 : init.length ≤ m.length := by omega
              have hinl : init.length ≤ 100000 := by omega
              repeat' with_reducible apply And.intro
              all_goals repeat' (first
                | (intro p hp; rw [ite_none] at hp; obtain ⟨n1, n2⟩ := hp; have n3 := Ne.symm n1; try simp [n1, n3, hn1, hil2, hti])
                | (refine callK.of (hcp _) ?_; rintro v σ' ⟨rfl, rfl⟩; first | simp [n1, n3, hn1, hil2, hti] | simp [hn1, hil2, hti])
                | with_reducible apply And.intro
                | omega
                | exact ⟨i + 1, by omega, by omega, ⟨by rw [hst, hone2]; exact AV.le_refl _, by rw [hw]; exact AV.le_refl _⟩, by (intro q; simp only [Store.upd, Store.del]; (repeat' split) <;> first | exact Or.inr rfl | exact Or.inl rfl | (exfalso; omega) | (left; subst_vars; assumption) | simp_all)⟩)
            · have hs' : mstepL m ⟨2, d, ⟨ty, req, resp, seq⟩, false⟩ = m ++ [⟨2, d, ⟨ty, req, resp, seq⟩, false⟩] := by
                unfold mstepL
                rw [if_neg (by simp), if_neg hd, hlast]
                dsimp only
                rw [if_neg hlk]
              rw [hs'] at hst
              by_cases hlk2 : lk = 2
              · have hlx : lxh = true := by
                  cases lxh
                  · exact absurd ⟨hlk2, rfl⟩ hlk
                  · rfl
                subst hlk2 hlx
                simp [hlt, hlt', hg, hd, hdl', hn1, hil, hgl, hpos]
                intro q hq
                exact ⟨by omega, by omega, i + 1, by omega, by omega, ⟨by rw [hst, lesA_append]; exact AV.le_refl _, by rw [hw]; exact AV.le_refl _⟩, sub_upd_self _ _ _ hq⟩
              · have hlk3 : ¬ (lk : Int) = 2 := by omega
                simp [hlt, hlt', hg, hd, hdl', hn1, hil, hgl, hpos, hlk2, hlk3]
                intro q hq
                exact ⟨by omega, by omega, i + 1, by omega, by omega, ⟨by rw [hst, lesA_append]; exact AV.le_refl _, by rw [hw]; exact AV.le_refl _⟩, sub_upd_self _ _ _ hq⟩
    · have hs' : mstepL m ⟨k, d, ⟨ty, req, resp, seq⟩, xh⟩ = m ++ [⟨k, d, ⟨ty, req, resp, seq⟩, xh⟩] := by simp [mstepL, hk2]
      have hk2' : ¬ (k : Int) = 2 := by omega
      rw [hs'] at hst
      simp [hlt, hlt', hg, hk2, hk2']
      intro q hq
      exact ⟨by omega, by omega, i + 1, by omega, by omega, ⟨by rw [hst, lesA_append]; exact AV.le_refl _, by rw [hw]; exact AV.le_refl _⟩, sub_upd_self _ _ _ hq⟩
  · obtain rfl : i = l.length := by omega
    simp
end Go.Proofs.YteaidaolablegaaGreatDoor
