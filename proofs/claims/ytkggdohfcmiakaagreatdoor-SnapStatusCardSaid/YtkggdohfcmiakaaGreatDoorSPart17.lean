/-
  The sign of a place.
-/
import Derived.Test.YtkggdohfcmiakaaGreatDoorSPart16
import Derived.Laws.RangeString
import Derived.Laws.RangeAny
set_option linter.unusedSimpArgs false
set_option linter.unusedVariables false
namespace Go.Proofs.YtkggdohfcmiakaaGreatDoor
open Go Go.AL Go.Sp
variable {σ Y : Store} {q p b : Nat} {s : Sp} {n : Int}

def signN (n : Int) (c : Cell) (hid : Bool) : Nat := if (c.attr || hid) = true then 32 else if c.set = 0xf1 then (escF c.char).getD 32 else shownN n c.char
theorem pgS_prg (hP : Prg Y q p s) (hq : ¬ q = b) (hp : ¬ p = b) (n : Int) (x : Option Nat) : Prg (pgS b n x Y) q p s :=
  ⟨by rw [pgS_other hq]; exact hP.obj, by rw [pgS_other hp]; exact hP.row, hP.ne, hP.good⟩
set_option maxRecDepth 8000 in
theorem sgn_calls (hP : Prg Y q p s) (hq : ¬ q = b) (hp : ¬ p = b) (hn : isPage n) (x : Option Nat) (k : Int) (hid : Bool) : ACalls Tryz.prog 24 [ptrA q, ptrA b, .lit (.int .i64 k), .lit (.bool hid)] (pgS b n x Y) fun v σ' => v = .lit (.int .i32 (signN n (s.at k) hid : Nat)) ∧ ∃ x', NxP Y x x' ∧ σ' = pgS b n x' Y := by
  have hat := at_calls (pgS_prg hP hq hp n x) k
  have hes := fun τ => escape_calls (s.at k).char τ
  have hsh := fun τ => shown_calls b n hn x (s.at k).char τ
  unfold signN
  generalize s.at k = c at *
  rw [cellA_eq] at hat
  refine ACalls.of_awp follows (st := st24) (plans := pl24) (n := 41) Tryz.func24 rfl (by kernel_rfl) (by kernel_rfl) (by kernel_rfl) ?_
  simp
  refine callK.eq hat ?_
  have hfr : ∀ z : Nat, (pgS b n x Y) z = none → ¬ z = b ∧ Y z = none := fun z hz => by
    have h1 : ¬ z = b := by rintro rfl; rw [pgS_cell] at hz; cases hz
    rw [pgS_other h1] at hz; exact ⟨h1, hz⟩
  have hend : ∀ (z : Nat) C, (pgS b n x Y) z = none → Store.sub (pgS b n x Y) ((pgS b n x Y).upd z C) := fun z C hz => sub_upd_self _ _ _ hz
  by_cases ha : c.attr = true
  · simp [ha]
    intro z hz
    exact ⟨_, AV.le_refl _, _, hend z _ hz, rfl, x, .inl rfl, rfl⟩
  have ha' : c.attr = false := by simpa using ha
  cases hid
  case true =>
    simp [ha']
    intro z hz
    exact ⟨_, AV.le_refl _, _, hend z _ hz, rfl, x, .inl rfl, rfl⟩
  by_cases hs : c.set = 0xf1
  · have hs' : (c.set.toNat : Int) = 241 := by rw [hs]; rfl
    simp [ha', hs', hs, byteA]
    intro z hz
    refine callK.eq (hes _) ?_
    cases he : escF c.char with
    | none => simp; exact ⟨_, AV.le_refl _, _, hend z _ hz, rfl, x, .inl rfl, rfl⟩
    | some w => simp; exact ⟨_, AV.le_refl _, _, hend z _ hz, rfl, x, .inl rfl, rfl⟩
  · have hs' : ¬ (c.set.toNat : Int) = 241 := fun h => hs (UInt8.toNat_inj.1 (by show c.set.toNat = 241; omega))
    unfold byteA at *
    simp [ha', hs', hs]
    intro z hz
    obtain ⟨f1, f2⟩ := hfr z hz
    rw [pgS_upd f1]
    refine callK.of (hsh _) ?_
    rintro v τ ⟨rfl, x', nx, rfl⟩
    simp
    refine ⟨_, AV.le_refl _, _, pgS_sub (sub_upd_self Y z _ f2) b n x', rfl, x', nx.of (fun g => by simp), rfl⟩
end Go.Proofs.YtkggdohfcmiakaaGreatDoor
/-
  The document's signs of all places.
-/
namespace Go.Proofs.YtkggdohfcmiakaaGreatDoor
open Go Go.AL Go.Sp
variable {σ Y : Store} {q p b x y : Nat} {s : Sp} {n : Int}

def r32A (l : List Nat) : List AV := l.map fun n : Nat => .lit (.int .i32 (n : Int))
@[simp] theorem r32A_length (l : List Nat) : (r32A l).length = l.length := by simp [r32A]
theorem r32A_set (l : List Nat) (i : Nat) (n : Nat) : (r32A l).set i (.lit (.int .i32 n)) = r32A (l.set i n) := by simp [r32A, List.map_set]
/-- What is written when m places are. -/
def fillTo (f : Nat → Nat) (n m : Nat) : List Nat := (List.range m).map f ++ List.replicate (n - m) 0
theorem fillTo_length (f : Nat → Nat) (n : Nat) {m : Nat} (h : m ≤ n) : (fillTo f n m).length = n := by simp [fillTo]; omega
theorem fillTo_succ (f : Nat → Nat) {n m : Nat} (h : m < n) : fillTo f n (m + 1) = (fillTo f n m).set m (f m) := by
  unfold fillTo
  rw [List.range_succ, List.map_append, List.set_append_right (h := by simp), show n - m = (n - (m + 1)) + 1 by omega, List.replicate_succ]
  simp
theorem fillTo_zero (f : Nat → Nat) (n : Nat) : fillTo f n 0 = List.replicate n 0 := by simp [fillTo]
theorem fillTo_all (f : Nat → Nat) (n : Nat) : fillTo f n n = (List.range n).map f := by simp [fillTo]
/-- A place lies in a hidden field. -/
def hidAt (s : Sp) (i : Nat) : Bool := decide ((fofF s i).disp = 3)
def signAt (n : Int) (s : Sp) (i : Nat) : Nat := signN n (s.cells[i]?.getD .zero) (hidAt s i)
def signsL (n : Int) (s : Sp) : List Nat := (List.range s.n).map (signAt n s)
end Go.Proofs.YtkggdohfcmiakaaGreatDoor
/-
  The program's signs of all places.
-/
namespace Go.Proofs.YtkggdohfcmiakaaGreatDoor
open Go Go.AL Go.Sp
variable {σ Y Z : Store} {q p b x y : Nat} {s : Sp} {n : Int}

theorem pgS_fresh {z : Nat} {n : Int} {x : Option Nat} (hz : (pgS b n x Y) z = none) : ¬ z = b ∧ Y z = none := by
  have h1 : ¬ z = b := by rintro rfl; rw [pgS_cell] at hz; cases hz
  rw [pgS_other h1] at hz; exact ⟨h1, hz⟩
theorem ne_at {Z : Store} {a c : Nat} {X : List AV} (h : Z a = some X) (h0 : Z c = none) : ¬ a = c ∧ ¬ c = a := by
  have h1 : ¬ a = c := fun e => by subst e; rw [h] at h0; cases h0
  exact ⟨h1, fun e => h1 e.symm⟩
theorem sub_none {Y Z : Store} (h : Store.sub Y Z) {o : Nat} (h0 : Z o = none) : Y o = none := by
  rcases h o with e | e
  · exact e
  · rw [e, h0]
theorem sub_reset {Y Z : Store} {w : Nat} {R R' : List AV} (h : Store.sub (Y.upd w R) Z) : Store.sub (Y.upd w R') (Z.upd w R') := by
  refine Store.sub2 (fun o => ?_) (fun i => by have := h (mkey i); simpa using this)
  by_cases e : o = w
  · subst e; right; simp
  · rcases h o with h | h
    · left; simpa [e] using h
    · right; simpa [e] using h
/-- Before place k is looked at: whether the field is hidden. -/
def hidTo (s : Sp) (k : Nat) : Bool := hidAt s (k - 1)
theorem hid_same {k : Nat} (h : isAt s k = false) : hidAt s k = hidTo s k := by
  unfold hidTo
  cases k with
  | zero => rfl
  | succ k =>
    have e : startS s.cells (k + 1) = startS s.cells k := by
      rw [startS_eq, startS_eq, lastTo_succ, if_neg (by rw [h]; simp)]
    show hidAt s (k + 1) = hidAt s k
    unfold hidAt fofF
    rw [e]
structure SgD (Y : Store) (q p b w z2 z3 z6 z9 zf : Nat) : Prop where
  n9 : ¬ z2 = z9 ∧ ¬ z3 = z9 ∧ ¬ z6 = z9 ∧ ¬ zf = z9 ∧ ¬ w = z9 ∧ ¬ q = z9 ∧ ¬ p = z9
  nw : ¬ z2 = w ∧ ¬ z3 = w ∧ ¬ z6 = w ∧ ¬ zf = w ∧ ¬ z9 = w ∧ ¬ q = w ∧ ¬ p = w
  nb : ¬ z2 = b ∧ ¬ z3 = b ∧ ¬ z6 = b ∧ ¬ zf = b ∧ ¬ z9 = b ∧ ¬ q = b ∧ ¬ p = b ∧ ¬ w = b
  y9 : Y z9 = none
structure SgL (Y Z : Store) (q p b w z2 z3 z6 z9 zf : Nat) (n : Int) (s : Sp) (k : Nat) : Prop where
  c2 : Z z2 = some [ptrA q]
  c3 : Z z3 = some [pgP b]
  c6 : Z z6 = some [.lit (.slice (some ⟨w, 0, none⟩) s.n s.n)]
  c9 : Z z9 = some [.lit (.bool (hidTo s k))]
  cf : Z zf = some [ptrA q]
  cw : Z w = some (r32A (fillTo (signAt n s) s.n k))
  prg : Prg Z q p s
  sub : Store.sub (Y.upd w (r32A (fillTo (signAt n s) s.n k))) Z
  map : ∀ g : Nat, Z (mkey g) = Y (mkey g)
set_option maxHeartbeats 2000000 in
set_option maxRecDepth 8000 in
theorem signs_calls (hP : Prg Y q p s) (hq : ¬ q = b) (hp : ¬ p = b) (hn : isPage n) (x : Option Nat) : ACalls Tryz.prog 40 [ptrA q, pgP b] (pgS b n x Y) fun v σ' => ∃ (w : Nat) (x' : Option Nat), Y w = none ∧ ¬ w = b ∧ NxP Y x x' ∧ v = .lit (.slice (some ⟨w, 0, none⟩) s.n s.n) ∧ σ' = pgS b n x' (Y.upd w (r32A (signsL n s))) := by
  have hg := hP.good
  have hln := hg.len
  have hsn := s.n_le
  have hi1 : (s.n : Int) ≤ 9223372036854775807 := by omega
  have hi2 : 4 * (s.n : Int) ≤ 281474976710656 := by omega
  have hz0 : List.replicate s.n (.lit (.int .i32 0)) = r32A (fillTo (signAt n s) s.n 0) := by rw [fillTo_zero]; simp [r32A]
  refine ACalls.of_awpY follows (st := st40) (plans := pl40) (n := 55) Tryz.func40 rfl (by kernel_rfl) (by kernel_rfl) (by kernel_rfl) ?_
  simp
  intro z2 hz2
  obtain ⟨b2, y2⟩ := pgS_fresh hz2
  simp +contextual [ite_free]
  intro z3 n32 n23 hz3
  obtain ⟨b3, y3⟩ := pgS_fresh hz3
  have hP1 : Prg ((Y.upd z2 [ptrA q]).upd z3 [pgP b]) q p s := (hP.new y2 _).new (r := z3) (by simp [n32, y3]) _
  rw [pgS_upd b2, pgS_upd b3]
  refine callK.eq (size_calls (pgS_prg hP1 hq hp n x)) ?_
  simp [n23, n32, pgS_other b2, pgS_other b3]
  intro z5 hz5
  obtain ⟨b5, y5⟩ := pgS_fresh hz5
  rw [pgS_upd b5]
  simp only [supd_apply, Int.natCast_inj, ite_none] at y5
  obtain ⟨n53, n52, y5⟩ := y5
  have n35 : ¬ z3 = z5 := fun e => n53 e.symm
  have n25 : ¬ z2 = z5 := fun e => n52 e.symm
  simp [n35, pgS_other b3, pgS_other b5]
  have hP2 := hP1.new (r := z5) (by simp [n53, n52, y5]) [.lit (.int .i64 s.rows), .lit (.int .i64 s.cols)]
  have hs2 : Store.sub Y (((Y.upd z2 [ptrA q]).upd z3 [pgP b]).upd z5 [.lit (.int .i64 s.rows), .lit (.int .i64 s.cols)]) :=
    Store.sub_upd y5 (Store.sub_upd y3 (Store.sub_upd y2 (Store.sub_refl _)))
  have a2 : (((Y.upd z2 [ptrA q]).upd z3 [pgP b]).upd z5 [.lit (.int .i64 s.rows), .lit (.int .i64 s.cols)]) z2 = some [ptrA q] := by simp [n25, n23]
  have a3 : (((Y.upd z2 [ptrA q]).upd z3 [pgP b]).upd z5 [.lit (.int .i64 s.rows), .lit (.int .i64 s.cols)]) z3 = some [pgP b] := by simp [n35]
  have a5 : (((Y.upd z2 [ptrA q]).upd z3 [pgP b]).upd z5 [.lit (.int .i64 s.rows), .lit (.int .i64 s.cols)]) z5 = some [.lit (.int .i64 s.rows), .lit (.int .i64 s.cols)] := by simp
  have hm2 : ∀ g : Nat, (((Y.upd z2 [ptrA q]).upd z3 [pgP b]).upd z5 [.lit (.int .i64 s.rows), .lit (.int .i64 s.cols)]) (mkey g) = Y (mkey g) := fun g => by simp
  generalize (((Y.upd z2 [ptrA q]).upd z3 [pgP b]).upd z5 [.lit (.int .i64 s.rows), .lit (.int .i64 s.cols)]) = Z2 at *
  refine callK.eq (scells_calls s _) ?_
  simp [hi1, hi2, hz0]
  intro w hw
  obtain ⟨bw, w0⟩ := pgS_fresh hw
  obtain ⟨nw2, nw2'⟩ := ne_at a2 w0
  obtain ⟨nw3, nw3'⟩ := ne_at a3 w0
  obtain ⟨nw5, nw5'⟩ := ne_at a5 w0
  obtain ⟨nwq, _⟩ := ne_at hP2.obj w0
  obtain ⟨nwp, _⟩ := ne_at hP2.row w0
  have yw : Y w = none := sub_none hs2 w0
  simp +contextual [ite_free]
  intro z6 n6w nw6 hz6
  obtain ⟨b6, y6⟩ := pgS_fresh hz6
  obtain ⟨n26, n62⟩ := ne_at a2 y6
  obtain ⟨n36, n63⟩ := ne_at a3 y6
  obtain ⟨n56, n65⟩ := ne_at a5 y6
  obtain ⟨nq6, _⟩ := ne_at hP2.obj y6
  obtain ⟨np6, _⟩ := ne_at hP2.row y6
  have y6' : Y z6 = none := sub_none hs2 y6
  simp [n26, nw2, pgS_other b2, a2, hz0]
  rw [pgS_upd bw, pgS_upd b6]
  have hP3 : Prg ((Z2.upd w (r32A (fillTo (signAt n s) s.n 0))).upd z6 [.lit (.slice (some ⟨w, 0, none⟩) s.n s.n)]) q p s := (hP2.new w0 _).new (r := z6) (by simp [n6w, y6]) _
  have hs3 : Store.sub (Y.upd w (r32A (fillTo (signAt n s) s.n 0))) ((Z2.upd w (r32A (fillTo (signAt n s) s.n 0))).upd z6 [.lit (.slice (some ⟨w, 0, none⟩) s.n s.n)]) := by
    refine Store.sub_upd (by simp [n6w, y6']) (Store.sub2 (fun o => ?_) (fun i => by have := hs2 (mkey i); simpa using this))
    by_cases e : o = w
    · subst e; right; simp
    · rcases hs2 o with h | h
      · left; simp [e, h]
      · right; simp [e, h]
  have a2' : ((Z2.upd w (r32A (fillTo (signAt n s) s.n 0))).upd z6 [.lit (.slice (some ⟨w, 0, none⟩) s.n s.n)]) z2 = some [ptrA q] := by simp [n26, nw2, a2]
  have a3' : ((Z2.upd w (r32A (fillTo (signAt n s) s.n 0))).upd z6 [.lit (.slice (some ⟨w, 0, none⟩) s.n s.n)]) z3 = some [pgP b] := by simp [n36, nw3, a3]
  have aw' : ((Z2.upd w (r32A (fillTo (signAt n s) s.n 0))).upd z6 [.lit (.slice (some ⟨w, 0, none⟩) s.n s.n)]) w = some (r32A (fillTo (signAt n s) s.n 0)) := by simp [nw6]
  have a6' : ((Z2.upd w (r32A (fillTo (signAt n s) s.n 0))).upd z6 [.lit (.slice (some ⟨w, 0, none⟩) s.n s.n)]) z6 = some [.lit (.slice (some ⟨w, 0, none⟩) s.n s.n)] := by simp
  have hm3 : ∀ g : Nat, ((Z2.upd w (r32A (fillTo (signAt n s) s.n 0))).upd z6 [.lit (.slice (some ⟨w, 0, none⟩) s.n s.n)]) (mkey g) = Y (mkey g) := fun g => by simp [hm2]
  generalize ((Z2.upd w (r32A (fillTo (signAt n s) s.n 0))).upd z6 [.lit (.slice (some ⟨w, 0, none⟩) s.n s.n)]) = Z3 at *
  have hn0 := s.n_pos
  refine callK.eq (fofF_calls (pgS_prg hP3 hq hp n x) hn0) ?_
  simp
  intro z7 hz7
  obtain ⟨b7, y7⟩ := pgS_fresh hz7
  obtain ⟨n27, n72⟩ := ne_at a2' y7
  rw [pgS_upd b7]
  refine callK.eq (hidden_calls _ _ _ _ _) ?_
  simp
  intro z9 hz9
  obtain ⟨b9, y9⟩ := pgS_fresh hz9
  rw [pgS_upd b9]
  simp only [supd_apply, Int.natCast_inj, ite_none] at y9
  obtain ⟨n97, y9⟩ := y9
  have n79 : ¬ z7 = z9 := fun e => n97 e.symm
  obtain ⟨n29, n92⟩ := ne_at a2' y9
  obtain ⟨n39, n93⟩ := ne_at a3' y9
  obtain ⟨n69, n96⟩ := ne_at a6' y9
  obtain ⟨nw9, n9w⟩ := ne_at aw' y9
  obtain ⟨nq9, _⟩ := ne_at hP3.obj y9
  obtain ⟨np9, _⟩ := ne_at hP3.row y9
  obtain ⟨n37, n73⟩ := ne_at a3' y7
  obtain ⟨n67, n76⟩ := ne_at a6' y7
  obtain ⟨nw7, n7w⟩ := ne_at aw' y7
  have y9' : Y z9 = none := by
    have := sub_none hs3 y9
    simpa [n9w] using this
  have y7' : Y z7 = none := by
    have := sub_none hs3 y7
    simpa [n7w] using this
  simp [n29, n27, pgS_other b2, a2']
  refine callK.of (all_calls2 q _) ?_
  rintro v τ ⟨zf, hzf, rfl, rfl⟩
  obtain ⟨bf, yf⟩ := pgS_fresh hzf
  rw [pgS_upd bf]
  simp only [supd_apply, Int.natCast_inj, ite_none] at yf
  obtain ⟨nf9, nf7, yf⟩ := yf
  obtain ⟨n2f, nf2⟩ := ne_at a2' yf
  obtain ⟨n3f, nf3⟩ := ne_at a3' yf
  obtain ⟨n6f, nf6⟩ := ne_at a6' yf
  obtain ⟨nwf, nfw⟩ := ne_at aw' yf
  have n9f : ¬ z9 = zf := fun e => nf9 e.symm
  have n7f : ¬ z7 = zf := fun e => nf7 e.symm
  have yf' : Y zf = none := by
    have := sub_none hs3 yf
    simpa [nfw] using this
  simp
  refine codeYK.rangeG follows (st := st40) (plans := pl40) (all_iter zf q p s _) (by simp) (by simp) (by simp) (by kernel_rfl) (by kernel_rfl) (by kernel_rfl)
    (fun k ρ E => ∃ x' Z, NxP Y x x' ∧ ρ = pgS b n x' Z ∧ SgL Y Z q p b w z2 z3 z6 z9 zf n s k) (fun c ρ E => False)
    _ ⟨x, _, .inl rfl, rfl, ?_⟩ (Store.sub_refl _) ?_ ?_ ?_ ?_
  · have hQ := ((hP3.new y7 [.lit (.bool (fofF s 0).prot), .lit (.bool (fofF s 0).num), .lit (.int .i64 (fofF s 0).disp), .lit (.bool (fofF s 0).mod)]).new (r := z9) (by simp [n97, y9]) [.lit (.bool (decide ((fofF s 0).disp = 3)))]).new (r := zf) (by simp [nf9, nf7, yf]) [ptrA q]
    refine ⟨by simp [n2f, n29, n27, a2'], by simp [n3f, n39, n37, a3'], by simp [n6f, n69, n67, a6'], by simp [n9f, hidTo, hidAt], by simp, by simp [nwf, nw9, nw7, aw'], hQ, ?_, fun g => by simp [hm3]⟩
    refine Store.sub_upd (by simp [nfw, yf']) (Store.sub_upd (by simp [n9w, y9']) (Store.sub_upd (by simp [n7w, y7']) hs3))
  · rintro k ρ E hk ⟨x', Z, nx, rfl, hL⟩
    exact ⟨by rw [pgS_other bf]; exact hL.cf, pgS_prg hL.prg hq hp n x'⟩
  · rintro k hk ρ E ⟨x', Z, nx, rfl, hL⟩
    obtain ⟨l2, l3, l6, l9, lf, lw, lP, ls, lm⟩ := hL
    have hat : s.at (k : Int) = s.cells[k]?.getD .zero := at_of hg hk
    have hia : isAt s k = (s.at (k : Int)).attr := by rw [hat]; unfold isAt; have hkc : k < s.cells.length := by omega
                                                      simp [hkc]
    have hsg : signAt n s k = signN n (s.at (k : Int)) (hidAt s k) := by rw [hat]; rfl
    have hfs := fillTo_succ (signAt n s) hk
    rw [hsg] at hfs
    have hfl := fillTo_length (signAt n s) s.n (Nat.le_of_lt hk)
    have hho : hidTo s (k + 1) = hidAt s k := rfl
    have hsgn := fun (Z' : Store) (hP' : Prg Z' q p s) (x'' : Option Nat) (h : Bool) => sgn_calls hP' hq hp hn x'' (k : Int) h
    have hfof := fun (Z' : Store) (hP' : Prg Z' q p s) (x'' : Option Nat) => fofF_calls (pgS_prg hP' hq hp n x'') hk
    have hRl : (r32A (fillTo (signAt n s) s.n k)).length = s.n := by rw [r32A_length, hfl]
    have hRn : r32A (fillTo (signAt n s) s.n (k + 1)) = (r32A (fillTo (signAt n s) s.n k)).set k (.lit (.int .i32 (signN n (s.at (k : Int)) (hidAt s k) : Nat))) := by rw [hfs, r32A_set]
    generalize hRR : r32A (fillTo (signAt n s) s.n k) = RR at *
    have hcx : cellA (s.at (k : Int)) = .agg [byteA (s.at (k : Int)).char, .lit (.bool (s.at (k : Int)).attr), byteA (s.at (k : Int)).fa, byteA (s.at (k : Int)).high, byteA (s.at (k : Int)).color, byteA (s.at (k : Int)).set] := rfl
    rw [hcx]
    generalize hcc : s.at (k : Int) = c at *
    by_cases hca : c.attr = true
    · rw [hca]
      simp
      intro zc hzc
      obtain ⟨bc, yc⟩ := pgS_fresh hzc
      obtain ⟨m2, m2'⟩ := ne_at l2 yc
      obtain ⟨m3, m3'⟩ := ne_at l3 yc
      obtain ⟨m6, m6'⟩ := ne_at l6 yc
      obtain ⟨m9, m9'⟩ := ne_at l9 yc
      obtain ⟨mf, mf'⟩ := ne_at lf yc
      obtain ⟨mw, mw'⟩ := ne_at lw yc
      have ycY : Y zc = none := by
        have := sub_none ls yc
        simpa [mw'] using this
      rw [pgS_upd bc]
      have hP2 := lP.new yc [byteA c.char, .lit (.bool true), byteA c.fa, byteA c.high, byteA c.color, byteA c.set]
      simp [m2, pgS_other b2, l2]
      refine callK.eq (hfof _ hP2 x') ?_
      simp
      intro zt hzt
      obtain ⟨bt, yt⟩ := pgS_fresh hzt
      rw [pgS_upd bt]
      simp only [supd_apply, Int.natCast_inj, ite_none] at yt
      obtain ⟨ntc, yt⟩ := yt
      obtain ⟨t2, t2'⟩ := ne_at l2 yt
      obtain ⟨t3, t3'⟩ := ne_at l3 yt
      obtain ⟨t6, t6'⟩ := ne_at l6 yt
      obtain ⟨t9, t9'⟩ := ne_at l9 yt
      obtain ⟨tf, tf'⟩ := ne_at lf yt
      obtain ⟨tw, tw'⟩ := ne_at lw yt
      have ytY : Y zt = none := by
        have := sub_none ls yt
        simpa [tw'] using this
      refine callK.eq (hidden_calls _ _ _ _ _) ?_
      simp [m9, t9, pgS_other b9, l9]
      rw [pgS_upd b9]
      have hhk : decide ((fofF s k).disp = 3) = hidAt s k := rfl
      rw [hhk]
      have hP3 := (hP2.new (r := zt) (by simp [ntc, yt]) [.lit (.bool (fofF s k).prot), .lit (.bool (fofF s k).num), .lit (.int .i64 (fofF s k).disp), .lit (.bool (fofF s k).mod)]).upd (r := z9) ⟨nq9, np9⟩ [.lit (.bool (hidAt s k))]
      have hs := hsgn _ hP3 x' (hidAt s k)
      have hnew : SgL Y ((((Z.upd zc [byteA c.char, .lit (.bool true), byteA c.fa, byteA c.high, byteA c.color, byteA c.set]).upd zt [.lit (.bool (fofF s k).prot), .lit (.bool (fofF s k).num), .lit (.int .i64 (fofF s k).disp), .lit (.bool (fofF s k).mod)]).upd z9 [.lit (.bool (hidAt s k))]).upd w (r32A (fillTo (signAt n s) s.n (k + 1)))) q p b w z2 z3 z6 z9 zf n s (k + 1) := by
        refine ⟨by simp [nw2', nw2, n29, t2, m2, l2], by simp [nw3', nw3, n39, t3, m3, l3], by simp [n6w, nw6, n69, t6, m6, l6], ?_, by simp [nfw, nf9, tf, mf, lf], by simp, hP3.upd ⟨nwq, nwp⟩ _, sub_reset (Store.sub_upd (by simp [n9w, y9']) (Store.sub_upd (by simp [tw', ytY]) (Store.sub_upd (by simp [mw', ycY]) ls))), fun g => by simp [lm]⟩
        rw [hho]; simp [n9w]
      simp [m2, m3, m6, t2, t3, t6, n29, n39, n69, pgS_other b2, pgS_other b3, pgS_other b6, pgS_other b9, l2, l3, l6]
      constructor
      all_goals
        refine callK.of hs ?_
        rintro v τ ⟨rfl, x'', nx2, rfl⟩
        have hfin : Store.sub (pgS b n x'' ((((Z.upd zc [byteA c.char, .lit (.bool true), byteA c.fa, byteA c.high, byteA c.color, byteA c.set]).upd zt [.lit (.bool (fofF s k).prot), .lit (.bool (fofF s k).num), .lit (.int .i64 (fofF s k).disp), .lit (.bool (fofF s k).mod)]).upd z9 [.lit (.bool (hidAt s k))]).upd w (r32A (fillTo (signAt n s) s.n (k + 1))))) ((pgS b n x'' (((Z.upd zc [byteA c.char, .lit (.bool true), byteA c.fa, byteA c.high, byteA c.color, byteA c.set]).upd zt [.lit (.bool (fofF s k).prot), .lit (.bool (fofF s k).num), .lit (.int .i64 (fofF s k).disp), .lit (.bool (fofF s k).mod)]).upd z9 [.lit (.bool (hidAt s k))])).upd w (RR.set k (.lit (.int .i32 (signN n c (hidAt s k) : Nat))))) := by
          rw [pgS_upd bw, hRn]; exact Store.sub_refl _
        simp [m6, mw, t6, tw, n69, nw9, pgS_other b6, pgS_other bw, l6, lw, hRl, hk]
        exact ⟨by omega, _, hfin, x'', nx.trans (nx2.of (fun g => by simp [lm])), _, rfl, hnew⟩
    · have hca' : c.attr = false := by simpa using hca
      rw [hca']
      simp
      intro zc hzc
      obtain ⟨bc, yc⟩ := pgS_fresh hzc
      obtain ⟨m2, m2'⟩ := ne_at l2 yc
      obtain ⟨m3, m3'⟩ := ne_at l3 yc
      obtain ⟨m6, m6'⟩ := ne_at l6 yc
      obtain ⟨m9, m9'⟩ := ne_at l9 yc
      obtain ⟨mf, mf'⟩ := ne_at lf yc
      obtain ⟨mw, mw'⟩ := ne_at lw yc
      have ycY : Y zc = none := by
        have := sub_none ls yc
        simpa [mw'] using this
      rw [pgS_upd bc]
      have hP2 := lP.new yc [byteA c.char, .lit (.bool false), byteA c.fa, byteA c.high, byteA c.color, byteA c.set]
      have hs := hsgn _ hP2 x' (hidTo s k)
      have hh := hid_same (s := s) (k := k) (by rw [hia, hca'])
      rw [← hh] at hs l9
      have hnew : SgL Y (((Z.upd zc [byteA c.char, .lit (.bool false), byteA c.fa, byteA c.high, byteA c.color, byteA c.set])).upd w (r32A (fillTo (signAt n s) s.n (k + 1)))) q p b w z2 z3 z6 z9 zf n s (k + 1) := by
        refine ⟨by simp [nw2', nw2, m2, l2], by simp [nw3', nw3, m3, l3], by simp [n6w, nw6, m6, l6], ?_, by simp [nfw, mf, lf], by simp, ?_, sub_reset (Store.sub_upd (by simp [mw', ycY]) ls), fun g => by simp [lm]⟩
        · rw [hho]; simp [n9w, m9, l9]
        · exact hP2.upd ⟨nwq, nwp⟩ _
      simp [m2, m3, m6, m9, pgS_other b2, pgS_other b3, pgS_other b6, pgS_other b9, l2, l3, l6, l9]
      constructor
      all_goals
        refine callK.of hs ?_
        rintro v τ ⟨rfl, x'', nx2, rfl⟩
        have hfin : Store.sub (pgS b n x'' ((Z.upd zc [byteA c.char, .lit (.bool false), byteA c.fa, byteA c.high, byteA c.color, byteA c.set]).upd w (r32A (fillTo (signAt n s) s.n (k + 1))))) ((pgS b n x'' (Z.upd zc [byteA c.char, .lit (.bool false), byteA c.fa, byteA c.high, byteA c.color, byteA c.set])).upd w (RR.set k (.lit (.int .i32 (signN n c (hidAt s k) : Nat))))) := by
          rw [pgS_upd bw, hRn]; exact Store.sub_refl _
        simp [m6, mw, pgS_other b6, pgS_other bw, l6, lw, hRl, hk]
        exact ⟨by omega, _, hfin, x'', nx.trans (nx2.of (fun g => by simp [lm])), _, rfl, hnew⟩
  · rintro ρ E σ' hs ⟨x', Z, nx, rfl, hL⟩
    obtain ⟨l2, l3, l6, l9, lf, lw, lP, ls, lm⟩ := hL
    have e6 : σ' z6 = some [.lit (.slice (some ⟨w, 0, none⟩) s.n s.n)] := sub_at (by rw [pgS_other b6]; exact l6) hs
    rw [fillTo_all] at ls
    simp [e6]
    exact ⟨_, AV.le_refl _, pgS b n x' (Y.upd w (r32A (signsL n s))), Store.sub_trans (pgS_sub ls b n x') hs, w, yw, bw, x', nx, rfl, rfl⟩
  · rintro c ρ E σ' _ h
    exact h.elim
theorem flat_r32A (l : List Nat) : flat (r32A l) = r32A l := flat_ones fun v hv => by
  obtain ⟨a, _, rfl⟩ := List.mem_map.1 hv; rfl
theorem signsL_length (n : Int) (s : Sp) : (signsL n s).length = s.n := by simp [signsL]
theorem r32_shift {R : AV → Store → Prop} {L : List Nat} {w m : Nat} {τ : Store} (hl : L.length = m) (hm : m ≤ 100000) (hp : τ w = some (r32A L)) (hR : R (.list true 1 (r32A L)) (τ.del w)) : Shift R (.lit (.slice (some ⟨w, 0, none⟩) m m)) τ := by
  subst hl
  refine .inr ⟨w, L.length, 1, r32A L, [], by rw [r32A_length], by rw [flat_r32A, List.append_nil]; exact hp, by rw [flat_r32A]; simp, by unfold maxLen; omega, by simp, fun v hv => ?_, _, AV.le_refl _, hR⟩
  obtain ⟨a, _, rfl⟩ := List.mem_map.1 hv; rfl
theorem psigns_calls (hP : Prg Y q p s) (hq : ¬ q = b) (hp : ¬ p = b) (hn : isPage n) (x : Option Nat) : ACalls Tryz.prog 40 [ptrA q, pgP b] (pgS b n x Y) fun v σ' => v = .list true 1 (r32A (signsL n s)) ∧ ∃ x', NxP Y x x' ∧ σ' = pgS b n x' Y := by
  refine ACalls.shift (signs_calls hP hq hp hn x) ?_
  rintro v τ ⟨w, x', y0, bw, nx, rfl, rfl⟩
  have hsn := s.n_le
  refine r32_shift (signsL_length n s) (by omega) (by rw [pgS_other bw]; simp) ⟨rfl, x', nx, ?_⟩
  rw [← pgS_upd bw]
  exact del_upd_new (by rw [pgS_other bw]; exact y0)
end Go.Proofs.YtkggdohfcmiakaaGreatDoor
/-
  A text is typed.
-/
namespace Go.Proofs.YtkggdohfcmiakaaGreatDoor
open Go Go.AL Go.Sp
variable {σ : Store} {k q r b : Nat} {n : Int} {B : Bd}

def runeK (s : ByteArray) (pos : Nat) : Key := ⟨1, ((Utf8.decode s pos).1 : Nat), 0⟩
def typeF (n : Int) (s : ByteArray) : Nat → Nat → Int → Bd → Bd × Int × Int
  | 0, _, c, B => (B, c, 0)
  | f + 1, pos, c, B =>
    if pos < s.size then
      (if (pressB n B (runeK s pos)).2.2 = 0 then typeF n s f (pos + (Utf8.decode s pos).2) (c + 1) (pressB n B (runeK s pos)).1
       else ((pressB n B (runeK s pos)).1, c, (pressB n B (runeK s pos)).2.2))
    else (B, c, 0)
structure TySt where
  f : Nat
  pos : Nat
  c : Nat
  r : Nat
  x : Option Nat
  B : Bd
end Go.Proofs.YtkggdohfcmiakaaGreatDoor
/-
  The example that awake asks for.
-/
namespace Go.Proofs.YtkggdohfcmiakaaGreatDoor
open Go Go.AL Go.Sp

def awS : Sp := Sp.lays 0 [{ what := 3, n := 0, on := false, code := 0, c := .zero, text := [] }, { what := 1, n := 1, on := false, code := 0, c := .zero, text := [] }]
def awT : Bd × Int × Int := typeF 37 ⟨#[65, 98]⟩ 2 0 0 (newB awS)
end Go.Proofs.YtkggdohfcmiakaaGreatDoor
/-
  awake: the walk.
-/
namespace Go.Proofs.YtkggdohfcmiakaaGreatDoor
open Go Go.AL Go.Sp

end Go.Proofs.YtkggdohfcmiakaaGreatDoor
