/-
  Which AIDs are short; how what is sent begins.
-/
import Derived.Test.YtnlggjbcdienfaaPart13
namespace Go.Proofs.Ytnlggjbcdienfaa
open Go Go.AL Go.Sp

def isPA (a : UInt8) : Bool := a == 0x6c || a == 0x6e || a == 0x6b
def isShort (a : UInt8) : Bool := a == 0x6d || isPA a
theorem byte_ne {a b : UInt8} (h : ¬ a = b) : ¬ (a.toNat : Int) = (b.toNat : Int) := fun e => h (UInt8.toNat_inj.1 (by omega))

set_option maxRecDepth 4000 in
theorem place73_calls (a : UInt8) (σ : Store) : ACalls Try.prog 73 [.lit (.string ⟨#[108, 110, 107]⟩), byteA a] σ fun v σ' => (∃ n : Int, v = .lit (.int .i64 n) ∧ decide (0 < n) = isPA a) ∧ σ' = σ := by
  refine ACalls.of_awp follows (st := st73) (plans := pl73) (n := 19) Try.func73 rfl (by kernel_rfl) (by kernel_rfl) (by kernel_rfl) ?_
  have hsz : (ByteArray.mk #[108, 110, 107]).size = 3 := by decide
  simp [hsz]
  refine codeK.loop follows (st := st73) (plans := pl73) (X := Nat) (fun i => i ≤ 3 ∧ (0 < i → ¬ a = 0x6c) ∧ (1 < i → ¬ a = 0x6e) ∧ (2 < i → ¬ a = 0x6b))
    (fun i => [(0, .lit (.string ⟨#[108, 110, 107]⟩)), (1, byteA a), (7, .lit (.int .i64 3)), (8, .lit (.int .i64 i))]) (fun _ => σ) (fun i => 3 - i) 0 (by kernel_rfl) (by simp) (by simp) (by simp) fun i ⟨hi, k1, k2, k3⟩ => ?_
  have hc : i = 0 ∨ i = 1 ∨ i = 2 ∨ i = 3 := by omega
  rcases hc with rfl | rfl | rfl | rfl
  · by_cases h : a = 0x6c
    · subst h
      simp [byteA]
      exact ⟨_, AV.le_refl _, 1, rfl, by decide⟩
    · have h' := byte_ne (b := 0x6c) h
      have h2 : ¬ (108 : Int) = (a.toNat : Int) := fun e => h' e.symm
      simp [byteA, h2]
      exact ⟨1, ⟨by omega, fun _ => h, by omega, by omega⟩, by omega, AV.le_refl _⟩
  · by_cases h : a = 0x6e
    · subst h
      simp [byteA]
      exact ⟨_, AV.le_refl _, 2, rfl, by decide⟩
    · have h' := byte_ne (b := 0x6e) h
      have h2 : ¬ (110 : Int) = (a.toNat : Int) := fun e => h' e.symm
      simp [byteA, h2]
      exact ⟨2, ⟨by omega, fun _ => k1 (by omega), fun _ => h, by omega⟩, by omega, AV.le_refl _⟩
  · by_cases h : a = 0x6b
    · subst h
      simp [byteA]
      exact ⟨_, AV.le_refl _, 3, rfl, by decide⟩
    · have h' := byte_ne (b := 0x6b) h
      have h2 : ¬ (107 : Int) = (a.toNat : Int) := fun e => h' e.symm
      simp [byteA, h2]
      exact ⟨3, ⟨by omega, fun _ => k1 (by omega), fun _ => k2 (by omega), fun _ => h⟩, by omega, AV.le_refl _⟩
  · have hp : isPA a = false := by simp [isPA, k1 (by omega), k2 (by omega), k3 (by omega)]
    simp
    exact ⟨_, AV.le_refl _, 0, rfl, by rw [hp]; simp⟩
set_option maxRecDepth 4000 in
theorem short_calls (a : UInt8) (σ : Store) : ACalls Try.prog 39 [byteA a] σ fun v σ' => v = .lit (.bool (isShort a)) ∧ σ' = σ := by
  have hp := place73_calls a
  refine ACalls.of_awp follows (st := st39) (plans := pl39) (n := 10) Try.func39 rfl (by kernel_rfl) (by kernel_rfl) (by kernel_rfl) ?_
  by_cases h : a = 0x6d
  · subst h
    simp [byteA, isShort]
  · have h' := byte_ne (b := 0x6d) h
    have h2 : ¬ (a.toNat : Int) = 109 := h'
    have h3 : ¬ a.toNat = 109 := fun e => h2 (by omega)
    have hs : isShort a = isPA a := by simp [isShort, h]
    rw [hs]
    have e1 : byteA a = .lit (.int .u8 a.toNat) := rfl
    rw [e1] at hp ⊢
    simp [h2]
    refine callK.of (hp _) ?_
    rintro v σ' ⟨⟨n, rfl, hn⟩, rfl⟩
    simp [hn, h2]
set_option maxRecDepth 4000 in
theorem rshort_calls (a : UInt8) (σ : Store) : ACalls Try.prog 10 [byteA a] σ fun v σ' => v = .lit (.bool (isShort a)) ∧ σ' = σ := by
  refine ACalls.of_awp follows (st := st10) (plans := pl10) (n := 17) Try.func10 rfl (by kernel_rfl) (by kernel_rfl) (by kernel_rfl) ?_
  have e1 : byteA a = .lit (.int .u8 a.toNat) := rfl
  rw [e1]
  by_cases h1 : a = 0x6c
  · subst h1; simp [isShort, isPA]
  by_cases h2 : a = 0x6e
  · subst h2; simp [isShort, isPA]
  by_cases h3 : a = 0x6b
  · subst h3; simp [isShort, isPA]
  by_cases h4 : a = 0x6d
  · subst h4; simp [isShort, isPA]
  have g1 : ¬ a.toNat = 108 := fun e => h1 (UInt8.toNat_inj.1 e)
  have g2 : ¬ a.toNat = 110 := fun e => h2 (UInt8.toNat_inj.1 e)
  have g3 : ¬ a.toNat = 107 := fun e => h3 (UInt8.toNat_inj.1 e)
  have g4 : ¬ a.toNat = 109 := fun e => h4 (UInt8.toNat_inj.1 e)
  have i1 : ¬ (a.toNat : Int) = 108 := by omega
  have i2 : ¬ (a.toNat : Int) = 110 := by omega
  have i3 : ¬ (a.toNat : Int) = 107 := by omega
  have i4 : ¬ (a.toNat : Int) = 109 := by omega
  have hs : isShort a = false := by simp [isShort, isPA, h1, h2, h3, h4]
  rw [hs]
  simp [i1, i2, i3]
  rw [show ((a.toNat : Int) == 109) = false from beq_false_of_ne i4]
  exact AV.le_refl _

/-- The right to append goes with the sender. -/
@[simp] def st47s : List Nat := [1000024, 32]
def headB (s : Sp) (aid : UInt8) : List UInt8 := aid :: encM s.cursor
set_option maxRecDepth 4000 in
theorem begin_long {q p : Nat} {s : Sp} {σ : Store} (h : Prg σ q p s) (aid : UInt8) (mode : Nat) (hm : mode < 3) : ACalls Try.prog 47 [ptrA q, byteA aid, .lit (.int .i64 mode), .lit (.bool false)] σ fun v σ' => ∃ z, σ z = none ∧ v = .tuple [ptrA z, .lit (.int .i64 0)] ∧ σ' = σ.upd z (seO (headB s aid) .zero mode) := by
  have hcu := fun τ (hτ : Prg τ q p s) => cursor_calls hτ
  have hc4 : s.cursor < 4096 := by have := h.good.cursor; have := s.n_le; omega
  have had := fun z τ (hτ : τ z = some (seO [aid] .zero mode)) => saddr_calls z [aid] .zero mode s.cursor hc4 (by simp) τ hτ
  have hhd : [aid] ++ encM s.cursor = headB s aid := rfl
  rw [hhd] at had
  have hs1 : seO [aid] .zero mode = [.list true 1 [byteA aid], .lit (.int .u8 0), .lit (.bool false), .lit (.int .u8 0), .lit (.int .u8 0), .lit (.int .u8 0), .lit (.int .u8 0), .lit (.int .i64 mode)] := rfl
  rw [hs1] at had
  generalize seO (headB s aid) .zero mode = fin at *
  have hm2 : ¬ (mode : Int) < 0 := by omega
  have hm3 : ¬ (2 : Int) < mode := by omega
  refine ACalls.of_awp follows (st := st47s) (plans := pl47) (n := 33) Try.func47 rfl (by kernel_rfl) (by kernel_rfl) (by kernel_rfl) ?_
  simp [hm2, hm3]
  intro z hz
  obtain ⟨m1, m2, m3, m4⟩ := h.fresh hz
  refine callK.of (hcu _ (h.new hz _)) ?_
  rintro v σ' ⟨rfl, rfl⟩
  simp
  refine callK.of (had z _ (by simp)) ?_
  rintro v σ' ⟨rfl, rfl⟩
  simp
  refine ⟨_, AV.le_refl _, _, ?_, z, hz, rfl, rfl⟩
  (intro q; simp only [Store.upd, Store.del]; (repeat' split) <;> first | exact Or.inr rfl | exact Or.inl rfl | (exfalso; omega) | (left; subst_vars; assumption) | simp_all)
set_option maxRecDepth 4000 in
theorem begin_short {q p : Nat} {s : Sp} {σ : Store} (h : Prg σ q p s) (aid : UInt8) (mode : Nat) (hm : mode < 3) : ACalls Try.prog 47 [ptrA q, byteA aid, .lit (.int .i64 mode), .lit (.bool true)] σ fun v σ' => ∃ z, σ z = none ∧ v = .tuple [ptrA z, .lit (.int .i64 0)] ∧ σ' = σ.upd z (seO [aid] .zero mode) := by
  have hs1 : seO [aid] .zero mode = [.list true 1 [byteA aid], .lit (.int .u8 0), .lit (.bool false), .lit (.int .u8 0), .lit (.int .u8 0), .lit (.int .u8 0), .lit (.int .u8 0), .lit (.int .i64 mode)] := rfl
  rw [hs1]
  have hm2 : ¬ (mode : Int) < 0 := by omega
  have hm3 : ¬ (2 : Int) < mode := by omega
  refine ACalls.of_awp follows (st := st47s) (plans := pl47) (n := 33) Try.func47 rfl (by kernel_rfl) (by kernel_rfl) (by kernel_rfl) ?_
  simp [hm2, hm3]
  exact fun z hz => ⟨_, AV.le_refl _, _, Store.sub_refl _, z, hz, rfl, rfl⟩
set_option maxRecDepth 4000 in
theorem bytesOf_calls (z : Nat) (out : List UInt8) (last : Cell) (mode : Nat) (σ : Store) (hz : σ z = some (seO out last mode)) : ACalls Try.prog 66 [ptrA z] σ fun v σ' => v = .list false 1 (bytesA out) ∧ σ' = σ := by
  unfold seO at hz
  refine ACalls.of_awp follows (st := st66) (plans := pl66) (n := 9) Try.func66 rfl (by kernel_rfl) (by kernel_rfl) (by kernel_rfl) ?_
  simp [hz]
end Go.Proofs.Ytnlggjbcdienfaa
/-
  How a cell looks otherwise than another one: the program's pairs.
-/
namespace Go.Proofs.Ytnlggjbcdienfaa
open Go Go.AL Go.Sp

def d1 (a b : Cell) : List (UInt8 × UInt8) := if a.high = b.high then [] else [(0x41, b.high)]
def d2 (a b : Cell) : List (UInt8 × UInt8) := if a.color = b.color then [] else [(0x42, b.color)]
def d3 (a b : Cell) : List (UInt8 × UInt8) := if a.set = b.set then [] else [(0x43, b.set)]
def diffP (a b : Cell) : List (UInt8 × UInt8) := d1 a b ++ (d2 a b ++ d3 a b)
def lookC (c : Cell) : List AV := [.lit (.int .u8 65), byteA c.high, .lit (.int .u8 66), byteA c.color, .lit (.int .u8 67), byteA c.set]
set_option maxRecDepth 8000
set_option maxHeartbeats 1000000
theorem looks_calls (c : Cell) (σ : Store) : ACalls Try.prog 96 [cellA c] σ fun v σ' => v = .agg (lookC c) ∧ σ' = σ := by
  rw [cellA_eq, lookC]
  refine ACalls.of_awp follows (st := st96) (plans := pl96) (n := 13) Try.func96 rfl (by kernel_rfl) (by kernel_rfl) (by kernel_rfl) ?_
  simp +contextual [ite_free]
  intro b hb b2 n1 n2 hb2
  exact Store.sub_upd (by simp [n1, hb2]) (Store.sub_upd hb (Store.sub_refl _))
theorem eqLits_look (c d : Cell) : eqLits [.int, .int, .int, .int, .int, .int] (lookC c) (lookC d) = some (decide (c.high = d.high ∧ c.color = d.color ∧ c.set = d.set)) := by
  obtain ⟨a1, a2, a3, a4, a5, a6⟩ := c
  obtain ⟨b1, b2, b3, b4, b5, b6⟩ := d
  have h : ∀ x y : UInt8, ((x.toNat : Int) == (y.toNat : Int)) = decide (x = y) := fun x y => by rw [byte_eq]; rfl
  simp only [lookC, byteA_lit]
  simp [eqLits, h]
theorem eqLits_pair (n : Int) (x y : UInt8) : eqLits [.int, .int] [.lit (.int .u8 n), byteA x] [.lit (.int .u8 n), byteA y] = some (decide (x = y)) := by
  have h : ((x.toNat : Int) == (y.toNat : Int)) = decide (x = y) := by rw [byte_eq]; rfl
  simp only [byteA_lit]
  simp [eqLits, h]
def pTo (a b : Cell) : Nat → List (UInt8 × UInt8)
  | 0 => []
  | 1 => d1 a b
  | 2 => d1 a b ++ d2 a b
  | _ => diffP a b
def p2A (x : UInt8 × UInt8) : AV := .agg [byteA x.1, byteA x.2]
theorem diff_calls (a b : Cell) (σ : Store) : ACalls Try.prog 81 [cellA a, cellA b] σ fun v σ' => v = .list false 2 ((diffP a b).map p2A) ∧ σ' = σ := by
  have ha := looks_calls a
  have hb := looks_calls b
  rw [cellA_eq] at ha hb
  rw [cellA_eq, cellA_eq]
  refine ACalls.of_awp follows (st := st81) (plans := pl81) (n := 33) Try.func81 rfl (by kernel_rfl) (by kernel_rfl) (by kernel_rfl) ?_
  generalize hrest : Code.seq (Code.seq (Code.region 3 _ false) _) _ = rest
  have hcont : ∀ (A' : Slots) (p6 p7 : Nat) (τ : Store), A' 5 = .list true 2 [] → A' 6 = ptrA p6 → A' 7 = ptrA p7 → τ p6 = some (lookC a) → τ p7 = some (lookC b) → Store.sub σ τ →
      awp Try.prog st81 pl81 33 rest (aret Try.prog [.tmp 4] fun v σ' => v = .list false 2 ((diffP a b).map p2A) ∧ σ' = σ) A' τ := by
    intro A' p6 p7 τ a5 a6 a7 hp6 hp7 hsub
    rw [← hrest]
    clear hrest ha hb
    have heq := eqLits_look a b
    have hl6 : ∀ c, (lookC c).length = 6 := fun _ => rfl
    simp only [lookC] at hp6 hp7 heq
    by_cases he : a.high = b.high ∧ a.color = b.color ∧ a.set = b.set
    · have hd : diffP a b = [] := by simp [diffP, d1, d2, d3, he]
      rw [decide_eq_true he] at heq
      rw [hd]
      simp [-e_eqLits_2, a5, a6, a7, hp6, hp7, heq]
      exact hsub
    · rw [decide_eq_false he] at heq
      simp [-e_eqLits_2, a5, a6, a7, hp6, hp7, heq]
      clear heq he
      have e65 := eqLits_pair 65 a.high b.high
      have e66 := eqLits_pair 66 a.color b.color
      have e67 := eqLits_pair 67 a.set b.set
      refine codeK.loop follows (st := st81) (plans := pl81) (X := Nat) (fun i => i ≤ 3)
        (fun i => [(5, .list true 2 ((pTo a b i).map p2A)), (6, ptrA p6), (7, ptrA p7), (17, .agg (lookC b)), (18, .lit (.int .i64 i))])
        (fun _ => τ) (fun i => 3 - i) 0 (by kernel_rfl) (by simp) (by simp [a5, a6, a7, pTo, lookC]) (Store.sub_refl _) fun i hi => ?_
      have hc : i = 0 ∨ i = 1 ∨ i = 2 ∨ i = 3 := by omega
      rcases hc with rfl | rfl | rfl | rfl
      · simp +contextual [-e_eqLits_2, lookC, hp6, hp7, ite_free]
        intro c hc
        have n1 : ¬ p6 = c := by rintro rfl; rw [hp6] at hc; cases hc
        by_cases h1 : a.high = b.high
        · rw [decide_eq_true h1] at e65
          simp [-e_eqLits_2, n1, hp6, e65]
          exact ⟨1, by omega, by omega, ⟨by rw [show pTo a b 1 = pTo a b 0 by simp [pTo, diffP, d1, d2, d3, h1]]; exact AV.le_refl _, AV.le_refl _⟩, sub_upd_self _ _ _ hc⟩
        · rw [decide_eq_false h1] at e65
          simp [-e_eqLits_2, n1, hp6, e65]
          have hpn : pTo a b 1 = pTo a b 0 ++ [(0x41, b.high)] := by simp [pTo, diffP, d1, d2, d3, h1]
          have hpl : (pTo a b 0).length ≤ 2 := by simp [pTo, d1, d2]; try (split <;> (try split) <;> simp)
          exact ⟨by omega, by omega, 1, by omega, by omega, ⟨by rw [hpn, List.map_append]; exact AV.le_refl _, AV.le_refl _⟩, sub_upd_self _ _ _ hc⟩
      · simp +contextual [-e_eqLits_2, lookC, hp6, hp7, ite_free]
        intro c hc
        have n1 : ¬ p6 = c := by rintro rfl; rw [hp6] at hc; cases hc
        by_cases h1 : a.color = b.color
        · rw [decide_eq_true h1] at e66
          simp [-e_eqLits_2, n1, hp6, e66]
          exact ⟨2, by omega, by omega, ⟨by rw [show pTo a b 2 = pTo a b 1 by simp [pTo, diffP, d1, d2, d3, h1]]; exact AV.le_refl _, AV.le_refl _⟩, sub_upd_self _ _ _ hc⟩
        · rw [decide_eq_false h1] at e66
          simp [-e_eqLits_2, n1, hp6, e66]
          have hpn : pTo a b 2 = pTo a b 1 ++ [(0x42, b.color)] := by simp [pTo, diffP, d1, d2, d3, h1]
          have hpl : (pTo a b 1).length ≤ 2 := by simp [pTo, d1, d2]; try (split <;> (try split) <;> simp)
          exact ⟨by omega, by omega, 2, by omega, by omega, ⟨by rw [hpn, List.map_append]; exact AV.le_refl _, AV.le_refl _⟩, sub_upd_self _ _ _ hc⟩
      · simp +contextual [-e_eqLits_2, lookC, hp6, hp7, ite_free]
        intro c hc
        have n1 : ¬ p6 = c := by rintro rfl; rw [hp6] at hc; cases hc
        by_cases h1 : a.set = b.set
        · rw [decide_eq_true h1] at e67
          simp [-e_eqLits_2, n1, hp6, e67]
          exact ⟨3, by omega, by omega, ⟨by rw [show pTo a b 3 = pTo a b 2 by simp [pTo, diffP, d1, d2, d3, h1]]; exact AV.le_refl _, AV.le_refl _⟩, sub_upd_self _ _ _ hc⟩
        · rw [decide_eq_false h1] at e67
          simp [-e_eqLits_2, n1, hp6, e67]
          have hpn : pTo a b 3 = pTo a b 2 ++ [(0x43, b.set)] := by simp [pTo, diffP, d1, d2, d3, h1]
          have hpl : (pTo a b 2).length ≤ 2 := by simp [pTo, d1, d2]; try (split <;> (try split) <;> simp)
          exact ⟨by omega, by omega, 3, by omega, by omega, ⟨by rw [hpn, List.map_append]; exact AV.le_refl _, AV.le_refl _⟩, sub_upd_self _ _ _ hc⟩
      · simp [pTo]
        exact hsub
  clear hrest
  simp +contextual [ite_free]
  intro b2 hb2 b3 n1 n2 hb3
  repeat' (first
    | with_reducible apply And.intro
    | (refine callK.of (ha _) ?_; rintro v σ' ⟨rfl, rfl⟩; simp +contextual [ite_free, lookC, *])
    | (refine callK.of (hb _) ?_; rintro v σ' ⟨rfl, rfl⟩; simp +contextual [ite_free, lookC, *])
    | (intro p; intros))
  all_goals
    refine hcont _ _ _ _ rfl rfl rfl (by simp [lookC, *]) (by simp [lookC, *]) ?_
    repeat (first | exact Store.sub_refl _ | refine Store.sub_upd (by assumption) ?_)
end Go.Proofs.Ytnlggjbcdienfaa
/-
  A character as it is sent, with how it looks.
-/
namespace Go.Proofs.Ytnlggjbcdienfaa
open Go Go.AL Go.Sp

def saB (l : List (UInt8 × UInt8)) : List UInt8 := l.flatMap fun x => [0x28, x.1, x.2]
theorem saB_length (l : List (UInt8 × UInt8)) : (saB l).length = l.length * 3 := by
  induction l with
  | nil => rfl
  | cons x l ih => simp only [saB, List.flatMap_cons, List.length_append, List.length_cons, List.length_nil] at ih ⊢; omega
theorem diffP_length (a b : Cell) : (diffP a b).length ≤ 3 := by
  unfold diffP d1 d2 d3
  split <;> split <;> split <;> simp
def charG (last c : Cell) : List UInt8 := saB (diffP last c) ++ [codeB c.char]
set_option maxRecDepth 8000
set_option maxHeartbeats 1000000
theorem schar2_calls (z : Nat) (out : List UInt8) (last : Cell) (c : Cell) (ho : out.length ≤ 1000000000) (σ : Store) (hz : σ z = some (seO out last 2)) :
    ACalls Try.prog 50 [ptrA z, cellA c] σ fun v σ' => v = .tuple [] ∧ σ' = σ.upd z (seO (out ++ charG last c) c 2) := by
  have hic := is_calls c.char
  have hd := diff_calls last c
  have hLl := diffP_length last c
  simp only [cellA_eq] at hd ⊢
  have hcc : ∀ c : Cell, cellC c = [byteA c.char, .lit (.bool c.attr), byteA c.fa, byteA c.high, byteA c.color, byteA c.set] := fun _ => rfl
  have hs1 : ∀ l last, seO l last 2 = [.list true 1 (bytesA l), byteA last.char, .lit (.bool last.attr), byteA last.fa, byteA last.high, byteA last.color, byteA last.set, .lit (.int .i64 2)] := fun _ _ => rfl
  rw [charG]
  generalize diffP last c = L at *
  rw [hs1] at hz
  have hzb : ∀ b, σ b = none → ¬ z = b := by rintro b hb rfl; rw [hz] at hb; cases hb
  refine ACalls.of_awp follows (st := st50) (plans := pl50) (n := 69) Try.func50 rfl (by kernel_rfl) (by kernel_rfl) (by kernel_rfl) ?_
  simp
  intro b hb
  have n1 := hzb b hb
  have n2 := Ne.symm n1
  simp [hz, n1, n2]
  refine callK.of (hd _) ?_
  rintro v σ' ⟨rfl, rfl⟩
  simp
  have hst0 : ∀ X, σ.upd b X = (σ.upd b X).upd z (seO (out ++ saB (L.take 0)) last 2) := fun X => by
    funext o
    simp only [supd_apply]
    by_cases e : o = z
    · subst e; simp [n1, hz, saB, hs1]
    · simp [e]
  rw [hst0]
  refine codeK.loop follows (st := st50) (plans := pl50) (X := Nat) (fun i => i ≤ L.length)
    (fun i => [(0, ptrA z), (3, ptrA b), (18, .list false 2 (L.map p2A)), (19, .lit (.int .i64 L.length)), (20, .lit (.int .i64 i))])
    (fun i => (σ.upd b (cellC c)).upd z (seO (out ++ saB (L.take i)) last 2)) (fun i => L.length - i) 0 (by kernel_rfl) (by simp) (by simp) (by rw [hcc]; exact Store.sub_refl _) fun i hi => ?_
  have hol : (out ++ saB (L.take i)).length ≤ 1000000009 := by
    rw [List.length_append, saB_length]
    have : (L.take i).length ≤ L.length := by simp; omega
    omega
  by_cases hlt : i < L.length
  · have hw : IntKind.i64.wrap ((i : Int) + 1) = ((i + 1 : Nat) : Int) := wrap_i64 (by omega) (by omega)
    have hk : (L.map p2A)[i]'(by simpa using hlt) = p2A L[i] := by simp
    have hnx : out ++ saB (L.take (i + 1)) = out ++ saB (L.take i) ++ [0x28, L[i].1, L[i].2] := by
      rw [List.take_succ_eq_append_getElem hlt, saB, List.flatMap_append, ← List.append_assoc]; simp [saB]
    generalize L[i] = x at *
    have hk2 : p2A x = .agg [byteA x.1, byteA x.2] := rfl
    rw [hk2] at hk
    have e3 : bytesA [0x28, x.1, x.2] = [.lit (.int .u8 40), byteA x.1, byteA x.2] := rfl
    have hfin : bytesA (out ++ saB (L.take (i + 1))) = bytesA (out ++ saB (L.take i)) ++ [.lit (.int .u8 40), byteA x.1, byteA x.2] := by rw [hnx, bytesA_append, e3]
    have hgoal : ∀ X d, σ d = none → ¬ d = b → ¬ d = z → Store.sub ((σ.upd b (cellC c)).upd z (seO (out ++ saB (L.take (i + 1))) last 2)) ((((σ.upd b (cellC c)).upd z X).upd d [byteA x.1, byteA x.2]).upd z (seO (out ++ saB (L.take (i + 1))) last 2)) := fun X d h1 h2 h3 o => by
      simp only [supd_apply]
      by_cases g1 : o = z
      · right; simp [g1]
      · by_cases g2 : o = d
        · left; simp [g1, g2, h1, h2, h3]
        · right; simp [g1, g2]
    simp only [hs1] at hgoal ⊢
    rw [hfin] at hgoal
    generalize out ++ saB (L.take i) = base at *
    clear hst0 hnx e3 hd hic hk2
    simp +contextual [hlt, hk, ite_free]
    intro d m1 m2 m3 m4 hdn
    exact ⟨by omega, by omega, i + 1, by omega, by omega, by rw [hw]; exact AV.le_refl _, by rw [hfin]; exact hgoal _ d hdn m3 m1⟩
  · obtain rfl : i = L.length := by omega
    rw [List.take_length]
    simp only [hs1]
    have hsub : ∀ X Y, Store.sub (σ.upd z X) (((σ.upd b Y).upd z X)) := fun X Y o => by
      simp only [supd_apply]
      by_cases g1 : o = z
      · right; simp [g1]
      · by_cases g2 : o = b
        · left; simp [g2, n2, hb]
        · right; simp [g1, g2]
    rw [List.take_length] at hol
    by_cases hor : isOrd c.char = true
    · rw [hor] at hic
      have hf : bytesA (out ++ (saB L ++ [codeB c.char])) = bytesA (out ++ saB L) ++ [.lit (.int .u8 63)] := by
        rw [← List.append_assoc, bytesA_append, codeB, if_pos hor]; rfl
      rw [hf]
      generalize out ++ saB L = base at *
      simp [n1, n2, hcc]
      refine callK.of (hic _) ?_
      rintro v σ' ⟨rfl, rfl⟩
      simp [n1, n2]
      exact ⟨by omega, by omega, hsub _ _⟩
    · rw [show isOrd c.char = false by simpa using hor] at hic
      have hf : bytesA (out ++ (saB L ++ [codeB c.char])) = bytesA (out ++ saB L) ++ [byteA c.char] := by
        rw [← List.append_assoc, bytesA_append, codeB, if_neg hor]; rfl
      rw [hf]
      generalize out ++ saB L = base at *
      simp [n1, n2, hcc]
      refine callK.of (hic _) ?_
      rintro v σ' ⟨rfl, rfl⟩
      simp [n1, n2]
      exact ⟨by omega, by omega, hsub _ _⟩
end Go.Proofs.Ytnlggjbcdienfaa
/-
  What has been sent, and the cell that was sent last, in any mode.
-/
namespace Go.Proofs.Ytnlggjbcdienfaa
open Go Go.AL Go.Sp

/-- What has been sent; the last cell. -/
abbrev Snd := List UInt8 × Cell
def charX (mode : Nat) (x : Snd) (c : Cell) : Snd := if mode = 2 then (x.1 ++ charG x.2 c, c) else (x.1 ++ charB c, x.2)
def someX (mode : Nat) (x : Snd) (c : Cell) : Snd := if c.char = 0 then x else charX mode x c
def seX (mode : Nat) (x : Snd) : List AV := seO x.1 x.2 mode
theorem charG_length (a c : Cell) : (charG a c).length ≤ 10 := by
  have := diffP_length a c
  rw [charG, List.length_append, saB_length]; simp; omega
theorem charB_length (c : Cell) : (charB c).length ≤ 2 := by unfold charB; split <;> simp
theorem someX_length (mode : Nat) (x : Snd) (c : Cell) : (someX mode x c).1.length ≤ x.1.length + 10 := by
  have h1 := charG_length x.2 c
  have h2 := charB_length c
  unfold someX charX
  split
  · omega
  · split <;> simp only [List.length_append] <;> omega
theorem charX_calls (z : Nat) (x : Snd) (mode : Nat) (hm : mode < 3) (c : Cell) (ho : x.1.length ≤ 1000000000) (σ : Store) (hz : σ z = some (seX mode x)) :
    ACalls Try.prog 50 [ptrA z, cellA c] σ fun v σ' => v = .tuple [] ∧ σ' = σ.upd z (seX mode (charX mode x c)) := by
  by_cases h2 : mode = 2
  · subst h2
    have := schar2_calls z x.1 x.2 c ho σ hz
    simpa [seX, charX] using this
  · have := schar_calls z x.1 x.2 mode (by omega) c ho σ hz
    simpa [seX, charX, h2] using this
set_option maxRecDepth 8000 in
theorem someX_calls (z : Nat) (x : Snd) (mode : Nat) (hm : mode < 3) (c : Cell) (ho : x.1.length ≤ 1000000000) (σ : Store) (hz : σ z = some (seX mode x)) :
    ACalls Try.prog 68 [ptrA z, cellA c] σ fun v σ' => v = .tuple [] ∧ σ' = σ.upd z (seX mode (someX mode x c)) := by
  have hch := fun τ (hτ : τ z = some (seX mode x)) => charX_calls z x mode hm c ho τ hτ
  rw [cellA_eq] at hch ⊢
  have hzb : ∀ b, σ b = none → ¬ z = b := by rintro b hb rfl; rw [hz] at hb; cases hb
  refine ACalls.of_awp follows (st := st68) (plans := pl68) (n := 10) Try.func68 rfl (by kernel_rfl) (by kernel_rfl) (by kernel_rfl) ?_
  by_cases h0 : c.char = 0
  · have hs : someX mode x c = x := by simp [someX, h0]
    have e1 : byteA c.char = .lit (.int .u8 0) := by rw [h0]; rfl
    rw [hs, e1, upd_back hz]
    simp
    exact fun b hb => sub_upd_self _ _ _ hb
  · have hs : someX mode x c = charX mode x c := by simp [someX, h0]
    have h0' : ¬ (c.char.toNat : Int) = 0 := fun h => h0 (UInt8.toNat_inj.1 (by have : (0 : UInt8).toNat = 0 := rfl; omega))
    have e1 : byteA c.char = .lit (.int .u8 c.char.toNat) := rfl
    rw [hs]
    rw [e1] at hch ⊢
    have h00 : ¬ c.char.toNat = 0 := by omega
    simp [h00]
    intro b hb
    have n1 := hzb b hb
    have n2 := Ne.symm n1
    refine callK.of (hch _ (by simp [n1, hz])) ?_
    rintro v σ' ⟨rfl, rfl⟩
    simp
    (intro q; simp only [Store.upd, Store.del]; (repeat' split) <;> first | exact Or.inr rfl | exact Or.inl rfl | (exfalso; omega) | (left; subst_vars; assumption) | simp_all)
def cellsX (mode : Nat) (x : Snd) (l : List Cell) : Snd := l.foldl (someX mode) x
def fieldX (mode : Nat) (s : Sp) (x : Snd) (a : Nat) : Snd := ((Sp.places s.cells a).map fun i => s.cells[i]?.getD .zero).foldl (someX mode) (x.1 ++ (0x11 :: encM ((a + 1) % s.n)), x.2)
def modX (mode : Nat) (s : Sp) (aid : UInt8) : Snd := if s.count = 0 then cellsX mode (headB s aid, .zero) s.cells else s.modified.foldl (fieldX mode s) (headB s aid, .zero)
theorem foldl_take {α β : Type} (f : β → α → β) (b : β) (l : List α) (k : Nat) (h : k < l.length) : (l.take (k + 1)).foldl f b = f ((l.take k).foldl f b) l[k] := by
  rw [List.take_succ_eq_append_getElem h, List.foldl_append]; rfl
theorem foldl_length {α : Type} (f : Snd → α → Snd) (n : Nat) (h : ∀ x a, (f x a).1.length ≤ x.1.length + n) : ∀ (l : List α) (x : Snd), (l.foldl f x).1.length ≤ x.1.length + l.length * n
  | [], x => by simp
  | a :: l, x => by
    have h1 := h x a
    have h2 := foldl_length f n h l (f x a)
    rw [List.foldl_cons, List.length_cons, Nat.succ_mul]; omega
end Go.Proofs.Ytnlggjbcdienfaa
/-
  What is modified, as it is sent, in the modes that tell no looks.
-/
namespace Go.Proofs.Ytnlggjbcdienfaa
open Go Go.AL Go.Sp

def fieldB (s : Sp) (a : Nat) : List UInt8 := 0x11 :: encM ((a + 1) % s.n) ++ (Sp.places s.cells a).flatMap fun i => someB (s.cells[i]?.getD .zero)
def bodyB (s : Sp) : List UInt8 := if s.count = 0 then s.cells.flatMap someB else s.modified.flatMap (fieldB s)
def modB (s : Sp) (aid : UInt8) : List UInt8 := headB s aid ++ bodyB s
theorem flatMap_len {α : Type} (f : α → List UInt8) (b : Nat) (h : ∀ x, (f x).length ≤ b) : ∀ l : List α, (l.flatMap f).length ≤ l.length * b
  | [] => by simp
  | x :: l => by
    have := flatMap_len f b h l
    have := h x
    rw [List.flatMap_cons, List.length_append, List.length_cons, Nat.succ_mul]; omega
theorem flatMap_take {α : Type} (f : α → List UInt8) (l : List α) (k : Nat) (h : k < l.length) : (l.take (k + 1)).flatMap f = (l.take k).flatMap f ++ f l[k] := by
  rw [List.take_succ_eq_append_getElem h, List.flatMap_append]; simp

set_option maxRecDepth 8000 in
theorem modified_plain {q p : Nat} {s : Sp} {σ : Store} (h : Prg σ q p s) (aid : UInt8) (mode : Nat) (hm : mode < 2) (hc : s.count = 0) :
    ACalls Try.prog 38 [ptrA q, byteA aid, .lit (.int .i64 mode), .lit (.bool false)] σ fun v σ' => v = .tuple [.list false 1 (bytesA (modB s aid)), .lit (.int .i64 0)] ∧ σ' = σ := by
  have hb := fun τ (hτ : Prg τ q p s) => begin_long hτ aid mode (by omega)
  have hfm := fun τ (hτ : Prg τ q p s) => formatted_calls hτ
  simp only [hc, show ¬ (0 < 0) by omega, decide_false] at hfm
  have hmb : modB s aid = headB s aid ++ s.cells.flatMap someB := by simp [modB, bodyB, hc]
  have hhl : (headB s aid).length = 3 := rfl
  have hln := h.good.len
  have hn := s.n_le
  refine ACalls.of_awpY follows (st := st38) (plans := pl38) (n := 78) Try.func38 rfl (by kernel_rfl) (by kernel_rfl) (by kernel_rfl) ?_
  simp
  intro bs hbs
  obtain ⟨s1, s2, s3, s4⟩ := h.fresh hbs
  have hP1 := h.new hbs [ptrA q]
  refine callK.of (hb _ hP1) ?_
  rintro v σ' ⟨z, hz, rfl, rfl⟩
  have hP2 := hP1.new hz (seO (headB s aid) .zero mode)
  simp only [supd_apply, ite_none] at hz
  obtain ⟨z1, hz⟩ := hz
  simp +contextual [ite_free, Ne.symm z1]
  intro bt t1 t2 t3 t4 ht
  obtain ⟨u1, u2, u3, u4⟩ := h.fresh ht
  have hP3 := hP2.upd ⟨u1, u2⟩ [ptrA z]
  refine callK.of (hfm _ hP3) ?_
  rintro v σ' ⟨rfl, rfl⟩
  simp [t4, Ne.symm z1]
  refine callK.of (all_calls2 q _) ?_
  rintro v σ' ⟨b2, hb2, rfl, rfl⟩
  simp only [supd_apply, ite_none] at hb2
  obtain ⟨v1, v2, v3, hb2⟩ := hb2
  obtain ⟨w1, w2, w3, w4⟩ := h.fresh hb2
  obtain ⟨y1, y2, y3, y4⟩ := h.fresh hz
  simp
  have hbig : ∀ k, (headB s aid ++ (s.cells.take k).flatMap someB).length ≤ 1000000000 := fun k => by
    have h1 := flatMap_len someB 2 someB_len (s.cells.take k)
    have h2 : (s.cells.take k).length ≤ s.cells.length := by simp; omega
    have h3 : (s.cells.take k).length * 2 ≤ s.cells.length * 2 := Nat.mul_le_mul_right 2 h2
    rw [List.length_append, hhl]; omega
  obtain ⟨oK, hoK⟩ : ∃ f : Nat → List AV, ∀ k, f k = seO (headB s aid ++ (s.cells.take k).flatMap someB) .zero mode := ⟨_, fun _ => rfl⟩
  have ho0 : seO (headB s aid) .zero mode = oK 0 := by rw [hoK]; simp
  rw [ho0]
  refine codeYK.rangeG follows (st := st38) (plans := pl38) (all_iter b2 q p s _) (by simp) (by simp) (by simp [cellA]) (by kernel_rfl) (by kernel_rfl) (by kernel_rfl)
    (fun k ρ _ => ρ = (((σ.upd bt [ptrA z]).upd b2 [ptrA q])).upd z (oK k)) (fun _ _ _ => False)
    _ rfl ?_ ?_ ?_ ?_ ?_
  · (intro q; simp only [Store.upd, Store.del]; (repeat' split) <;> first | exact Or.inr rfl | exact Or.inl rfl | (exfalso; omega) | (left; subst_vars; assumption) | simp_all)
  · rintro k ρ E hk rfl
    refine ⟨by simp [v2], ((h.upd ⟨u1, u2⟩ _).upd ⟨w1, w2⟩ _).upd ⟨y1, y2⟩ _⟩
  · rintro k hk ρ E rfl
    have hkc : k < s.cells.length := by omega
    have hat := at_of h.good hk
    have hcc : s.at (k : Int) = s.cells[k] := by rw [hat]; simp [hkc]
    have hft := flatMap_take someB s.cells k hkc
    have hso := fun τ (hτ : τ z = some (seO (headB s aid ++ (s.cells.take k).flatMap someB) .zero mode)) => ssome_calls z _ .zero mode hm s.cells[k] (hbig k) τ hτ
    rw [hcc]
    rw [List.append_assoc, ← hft] at hso
    simp only [cellA_eq, ← hoK] at hso ⊢
    generalize s.cells[k] = c at *
    clear hbig hft hoK hat hcc hfm hb hmb
    have hz3 : (((σ.upd bt [ptrA z]).upd b2 [ptrA q]).upd z (oK k)) z = some (oK k) := by simp
    have ht3 : (((σ.upd bt [ptrA z]).upd b2 [ptrA q]).upd z (oK k)) bt = some [ptrA z] := by simp [t1, Ne.symm v1]
    have hfin : (((σ.upd bt [ptrA z]).upd b2 [ptrA q]).upd z (oK k)).upd z (oK (k + 1)) = (((σ.upd bt [ptrA z]).upd b2 [ptrA q]).upd z (oK (k + 1))) := by simp
    generalize (((σ.upd bt [ptrA z]).upd b2 [ptrA q]).upd z (oK k)) = σ3 at *
    rw [← hfin]
    generalize hA : setPs _ [37, 38] _ = A1
    have hA10 : A1 10 = ptrA bt := by rw [← hA]; simp
    have hA38 : A1 38 = cellA c := by rw [← hA]; simp [cellA_eq]
    clear hA hP1 hP2 hP3 hfin
    simp +contextual [ht3, hA10, hA38, cellA_eq]
    intro b hb
    have n1 : ¬ bt = b := fun e => by rw [e, hb] at ht3; cases ht3
    have n2 : ¬ z = b := fun e => by rw [e, hb] at hz3; cases hz3
    simp [n1]
    refine callK.of (hso _ (by simp [n2, hz3])) ?_
    rintro v σ' ⟨rfl, rfl⟩
    simp
    exact sub_box hb n2 rfl
  · rintro ρ E σ2 hs2 rfl
    have hz2 := sub_at (x := oK s.n) (b := z) (by simp) hs2
    have ht2 := sub_at (x := [ptrA z]) (b := bt) (by simp [t1, Ne.symm v1]) hs2
    rw [hoK, List.take_of_length_le (by omega), ← hmb] at hz2
    unfold seO at hz2
    have hzn : Store.sub σ (((σ.upd bt [ptrA z]).upd b2 [ptrA q]).upd z (oK s.n)) := by (intro q; simp only [Store.upd, Store.del]; (repeat' split) <;> first | exact Or.inr rfl | exact Or.inl rfl | (exfalso; omega) | (left; subst_vars; assumption) | simp_all)
    simp [hz2, ht2]
    exact Store.sub_trans hzn hs2
  · rintro c ρ E σ2 hs2 hf
    exact hf.elim
end Go.Proofs.Ytnlggjbcdienfaa
