/-
  No screen is read.
-/
import Derived.Test.YtnlggjbcdienfaaPart14
namespace Go.Proofs.Ytnlggjbcdienfaa
open Go Go.AL Go.Sp

abbrev nilA : AV := .lit (.pointer none)
abbrev nilB : AV := .list false 1 []
set_option maxRecDepth 8000
theorem begin_nil (aid : UInt8) (mode : Int) (b : Bool) (σ : Store) : ACalls Try.prog 47 [nilA, byteA aid, .lit (.int .i64 mode), .lit (.bool b)] σ fun v σ' => v = .tuple [nilA, .lit (.int .i64 5)] ∧ σ' = σ := by
  refine ACalls.of_awp follows (st := st47) (plans := pl47) (n := 33) Try.func47 rfl (by kernel_rfl) (by kernel_rfl) (by kernel_rfl) ?_
  simp
theorem bytesOf_nil (σ : Store) : ACalls Try.prog 66 [nilA] σ fun v σ' => v = nilB ∧ σ' = σ := by
  refine ACalls.of_awp follows (st := st66) (plans := pl66) (n := 9) Try.func66 rfl (by kernel_rfl) (by kernel_rfl) (by kernel_rfl) ?_
  simp
theorem buffer_nil (aid : UInt8) (mode : Int) (σ : Store) : ACalls Try.prog 20 [nilA, byteA aid, .lit (.int .i64 mode)] σ fun v σ' => v = .tuple [nilB, .lit (.int .i64 5)] ∧ σ' = σ := by
  have hb := begin_nil aid mode false
  refine ACalls.of_awpY follows (st := st20) (plans := pl20) (n := 38) Try.func20 rfl (by kernel_rfl) (by kernel_rfl) (by kernel_rfl) ?_
  simp
  refine callK.of (hb _) ?_
  rintro v σ' ⟨rfl, rfl⟩
  simp +contextual
  exact fun _ _ => AV.le_tuple ⟨AV.le1_list _ _ _, AV.le1_refl _, trivial⟩
theorem modified_nil (aid : UInt8) (mode : Int) (b : Bool) (σ : Store) : ACalls Try.prog 38 [nilA, byteA aid, .lit (.int .i64 mode), .lit (.bool b)] σ fun v σ' => v = .tuple [nilB, .lit (.int .i64 5)] ∧ σ' = σ := by
  have hb := begin_nil aid mode b
  refine ACalls.of_awpY follows (st := st38) (plans := pl38) (n := 78) Try.func38 rfl (by kernel_rfl) (by kernel_rfl) (by kernel_rfl) ?_
  simp
  intro bs hbs
  refine callK.of (hb _) ?_
  rintro v σ' ⟨rfl, rfl⟩
  simp +contextual [ite_free]
  intro bt t1 t2 ht
  refine callK.of (bytesOf_nil _) ?_
  rintro v σ' ⟨rfl, rfl⟩
  simp
  (intro q; simp only [Store.upd, Store.del]; (repeat' split) <;> first | exact Or.inr rfl | exact Or.inl rfl | (exfalso; omega) | (left; subst_vars; assumption) | simp_all)
theorem rmodified_nil (aid : UInt8) (mode : Int) (σ : Store) : ACalls Try.prog 11 [nilA, byteA aid, .lit (.int .i64 mode)] σ fun v σ' => v = .tuple [nilB, .lit (.int .i64 5)] ∧ σ' = σ := by
  have hs := short_calls aid
  generalize isShort aid = b at hs
  refine ACalls.of_awp follows (st := st11) (plans := pl11) (n := 16) Try.func11 rfl (by kernel_rfl) (by kernel_rfl) (by kernel_rfl) ?_
  simp
  refine callK.of (hs _) ?_
  rintro v σ' ⟨rfl, rfl⟩
  simp
  refine callK.of (modified_nil aid mode b _) ?_
  rintro v σ' ⟨rfl, rfl⟩
  simp
theorem rall_nil (aid : UInt8) (mode : Int) (σ : Store) : ACalls Try.prog 18 [nilA, byteA aid, .lit (.int .i64 mode)] σ fun v σ' => v = .tuple [nilB, .lit (.int .i64 5)] ∧ σ' = σ := by
  refine ACalls.of_awp follows (st := st18) (plans := pl18) (n := 14) Try.func18 rfl (by kernel_rfl) (by kernel_rfl) (by kernel_rfl) ?_
  simp
  refine callK.of (modified_nil aid mode false _) ?_
  rintro v σ' ⟨rfl, rfl⟩
  simp
def forE (c : Int) : Int := if c = 5 ∨ c = 6 ∨ c = 7 then 5 else 11
theorem rfor_nil (c : Int) (aid : UInt8) (mode : Int) (σ : Store) : ACalls Try.prog 21 [nilA, .lit (.int .i64 c), byteA aid, .lit (.int .i64 mode)] σ fun v σ' => v = .tuple [nilB, .lit (.int .i64 (forE c))] ∧ σ' = σ := by
  refine ACalls.of_awp follows (st := st21) (plans := pl21) (n := 35) Try.func21 rfl (by kernel_rfl) (by kernel_rfl) (by kernel_rfl) ?_
  by_cases h5 : c = 5
  · subst h5
    simp
    refine callK.of (buffer_nil aid mode _) ?_
    rintro v σ' ⟨rfl, rfl⟩
    simp [forE]
  by_cases h6 : c = 6
  · subst h6
    simp
    refine callK.of (rmodified_nil aid mode _) ?_
    rintro v σ' ⟨rfl, rfl⟩
    simp [forE]
  by_cases h7 : c = 7
  · subst h7
    simp
    refine callK.of (rall_nil aid mode _) ?_
    rintro v σ' ⟨rfl, rfl⟩
    simp [forE]
  simp [h5, h6, h7, forE]
  exact AV.le_tuple ⟨AV.le1_list _ _ _, AV.le1_refl _, trivial⟩
theorem length_nil (mode : Int) (σ : Store) : ACalls Try.prog 22 [nilA, .lit (.int .i64 mode)] σ fun v σ' => v = .lit (.int .i64 0) ∧ σ' = σ := by
  refine ACalls.of_awp follows (st := st22) (plans := pl22) (n := 15) Try.func22 rfl (by kernel_rfl) (by kernel_rfl) (by kernel_rfl) ?_
  simp
  refine callK.of (buffer_nil 0 mode _) ?_
  rintro v σ' ⟨rfl, rfl⟩
  simp
theorem size_nil (σ : Store) : ACalls Try.prog 51 [nilA] σ fun v σ' => v = .agg [.lit (.int .i64 0), .lit (.int .i64 0)] ∧ σ' = σ := by
  refine ACalls.of_awp follows (st := st51) (plans := pl51) (n := 10) Try.func51 rfl (by kernel_rfl) (by kernel_rfl) (by kernel_rfl) ?_
  simp
  exact fun p hp => Store.sub_upd hp (Store.sub_refl _)
theorem cells_nil (σ : Store) : ACalls Try.prog 52 [.agg [.lit (.int .i64 0), .lit (.int .i64 0)]] σ fun v σ' => v = .lit (.int .i64 0) ∧ σ' = σ := by
  have hv : ∀ τ, ACalls Try.prog 83 [.agg [.lit (.int .i64 0), .lit (.int .i64 0)]] τ fun v σ' => v = .lit (.bool false) ∧ σ' = τ := by
    intro τ
    refine ACalls.of_awp follows (st := st83) (plans := pl83) (n := 29) Try.func83 rfl (by kernel_rfl) (by kernel_rfl) (by kernel_rfl) ?_
    simp
    exact fun p hp => Store.sub_upd hp (Store.sub_refl _)
  refine ACalls.of_awp follows (st := st52) (plans := pl52) (n := 11) Try.func52 rfl (by kernel_rfl) (by kernel_rfl) (by kernel_rfl) ?_
  simp
  intro p hp
  refine callK.of (hv _) ?_
  rintro v σ' ⟨rfl, rfl⟩
  simp
  exact Store.sub_upd hp (Store.sub_refl _)
theorem most_nil (σ : Store) : ACalls Try.prog 23 [nilA] σ fun v σ' => v = .lit (.int .i64 3) ∧ σ' = σ := by
  refine ACalls.of_awp follows (st := st23) (plans := pl23) (n := 8) Try.func23 rfl (by kernel_rfl) (by kernel_rfl) (by kernel_rfl) ?_
  simp
  refine callK.of (size_nil _) ?_
  rintro v σ' ⟨rfl, rfl⟩
  simp
  refine callK.of (cells_nil _) ?_
  rintro v σ' ⟨rfl, rfl⟩
  simp

theorem readNil_calls (c : Int) (aid : UInt8) (mode : Int) (σ : Store) : ACalls Try.prog 5 [.lit (.int .i64 c), byteA aid, .lit (.int .i64 mode)] σ fun v σ' => v = .lit (.bool true) ∧ σ' = σ := by
  have hw := awake_calls
  have hb := buffer_nil aid mode
  have hm := rmodified_nil aid mode
  have hr := rall_nil aid mode
  have hf := rfor_nil c aid mode
  have hfe : (c < 5 → forE c = 11) ∧ (7 < c → forE c = 11) ∧ (¬ c < 5 → ¬ 7 < c → forE c = 5) := by
    unfold forE
    refine ⟨fun h => if_neg (by omega), fun h => if_neg (by omega), fun h1 h2 => if_pos (by omega)⟩
  generalize forE c = e at *
  have hl := length_nil mode
  refine ACalls.of_awp follows (st := st5) (plans := pl5) (n := 73) Try.func5 rfl (by kernel_rfl) (by kernel_rfl) (by kernel_rfl) ?_
  simp
  refine callK.of (hw _) ?_
  rintro v σ' ⟨rfl, rfl⟩
  simp
  refine callK.of (hb _) ?_
  rintro v σ' ⟨rfl, rfl⟩
  simp
  refine callK.of (hm _) ?_
  rintro v σ' ⟨rfl, rfl⟩
  simp
  refine callK.of (hr _) ?_
  rintro v σ' ⟨rfl, rfl⟩
  simp
  refine callK.of (hf _) ?_
  rintro v σ' ⟨rfl, rfl⟩
  by_cases h1 : c < 5
  · simp [h1, hfe.1 h1]
    refine callK.of (hl _) ?_
    rintro v σ' ⟨rfl, rfl⟩
    simp
    refine callK.of (most_nil _) ?_
    rintro v σ' ⟨rfl, rfl⟩
    simp
  by_cases h2 : 7 < c
  · simp [h1, h2, hfe.2.1 h2]
    refine callK.of (hl _) ?_
    rintro v σ' ⟨rfl, rfl⟩
    simp
    refine callK.of (most_nil _) ?_
    rintro v σ' ⟨rfl, rfl⟩
    simp
  simp [h1, h2, hfe.2.2 h1 h2]
  refine callK.of (hl _) ?_
  rintro v σ' ⟨rfl, rfl⟩
  simp
  refine callK.of (most_nil _) ?_
  rintro v σ' ⟨rfl, rfl⟩
  simp
theorem readNil_law (c : Int) (aid : UInt8) (mode : Int) (σ : Store) : ACalls Try.prog 5 [.lit (.int .i64 c), byteA aid, .lit (.int .i64 mode)] σ fun v _ => v = .lit (.bool true) :=
  (readNil_calls c aid mode σ).mono fun _ _ h => h.1
end Go.Proofs.Ytnlggjbcdienfaa
/-
  Arguments opened.
-/
namespace Go.Proofs.Ytnlggjbcdienfaa
open Go Go.AL Go.Sp
theorem open_bytes : Opens Try.prog 31 (fun l : List UInt8 => [.list false 1 (bytesA l)]) (fun l => l.length ≤ maxLen) :=
  (Opens.slice Try.underlying31 (sz := 1) (by kernel_rfl) (by omega) (Opens.u8 Try.underlying5) byteA (fun _ => rfl) (fun _ => rfl)).by id fun _ h => ⟨h.1, rfl⟩
theorem open_cell : Opens Try.prog 48 (fun c : Cell => cellC c) (fun _ => True) :=
  (Opens.struct (total := 6) Try.underlying48 (by kernel_rfl)
    (.cons (k := 1) rfl (by kernel_rfl) (by omega) (Opens.u8 Try.underlying5) (.cons (k := 1) rfl (by kernel_rfl) (by omega) (Opens.bool Try.underlying4) (.cons (k := 1) rfl (by kernel_rfl) (by omega) (Opens.u8 Try.underlying5)
      (.cons (k := 1) rfl (by kernel_rfl) (by omega) (Opens.u8 Try.underlying5) (.cons (k := 1) rfl (by kernel_rfl) (by omega) (Opens.u8 Try.underlying5) (.cons (k := 1) rfl (by kernel_rfl) (by omega) (Opens.u8 Try.underlying5) .nil))))))).by
    (fun x => ⟨x.1, x.2.1, x.2.2.1, x.2.2.2.1, x.2.2.2.2.1, x.2.2.2.2.2.1⟩) fun _ _ => ⟨trivial, rfl⟩
theorem open_act : Opens Try.prog 76 (fun a : Sp.Act => actC a) (fun a => a.text.length ≤ maxLen) :=
  (Opens.struct (total := 11) Try.underlying76 (by kernel_rfl)
    (.cons (k := 1) rfl (by kernel_rfl) (by omega) (Opens.u8 Try.underlying5) (.cons (k := 1) rfl (by kernel_rfl) (by omega) (Opens.i64 Try.underlying3) (.cons (k := 1) rfl (by kernel_rfl) (by omega) (Opens.bool Try.underlying4)
      (.cons (k := 1) rfl (by kernel_rfl) (by omega) (Opens.u8 Try.underlying5) (.cons (k := 6) rfl (by kernel_rfl) (by omega) open_cell (.cons (k := 1) rfl (by kernel_rfl) (by omega) open_bytes .nil))))))).by
    (fun x => ⟨x.1, x.2.1, x.2.2.1, x.2.2.2.1, x.2.2.2.2.1, x.2.2.2.2.2.1⟩) fun _ h => ⟨h.2.2.2.2.2.1, rfl⟩
theorem open_acts : Opens Try.prog 22 (fun l : List Sp.Act => [.list false 11 (actsA l)]) (fun l => l.length ≤ maxLen ∧ ∀ a ∈ l, a.text.length ≤ maxLen) :=
  Opens.slice Try.underlying22 (by kernel_rfl) (by omega) open_act actA (fun _ => rfl) (fun _ => rfl)
end Go.Proofs.Ytnlggjbcdienfaa
