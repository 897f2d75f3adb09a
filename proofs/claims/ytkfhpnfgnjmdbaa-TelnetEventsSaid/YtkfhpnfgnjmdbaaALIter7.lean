/-
  The abstract-state logic: iterators that tell a list, and the loops over them.
-/
import Derived.Test.YtkfhpnfgnjmdbaaALIter6
namespace Go.AL
open Go Classical

theorem AYields.sub {P : Program} {X : Nat → Prop} {l : Nat} {args : List AV} {τ σ : Store} {E : Env X} {R : Bool → Store → Env X → Prop} (h : AYields P l args τ E R) (hs : Store.sub τ σ) : AYields P l args σ E R :=
  fun D G w cargs h1 h2 h3 h4 h5 => h D G w cargs h1 h2 (h3.forget hs) h4 h5

/-- Calling f (with these cells captured) on a yield asks a round for each of xs, in order, till one says no. -/
def Iter (P : Program) (f : FuncId) (caps : List AV) (σ : Store) (xs : List (List AV)) : Prop :=
  ∀ (X : Nat → Prop) (l : Nat) (I : Nat → Store → Env X → Prop) (J : Store → Env X → Prop),
    (∀ (k : Nat) (h : k < xs.length) (τ : Store) (E : Env X), I k τ E → AYields P l xs[k] τ E fun b τ' E' => if b = true then I (k + 1) τ' E' else J τ' E') →
    ∀ (τ : Store) (E : Env X), I 0 τ E → Store.sub τ σ →
      ACallsY P f (.func (.yield l) [] [] :: caps.map AV.share) σ E fun _ σ' E' => ∃ τ', Store.sub τ' σ' ∧ (I xs.length τ' E' ∨ J τ' E')

/-- How a round may end. -/
def roundQ {X : Nat → Prop} (live : Store → Env X → Prop) (dead : Code → Store → Env X → Prop) : Exit → Env X → Slots → Store → Prop
  | .normal, E, _, σ => ∃ τ, Store.sub τ σ ∧ live τ E
  | .ret, E, _, σ => ∃ τ, Store.sub τ σ ∧ dead .ret τ E
  | .exit id, E, _, σ => ∃ τ, Store.sub τ σ ∧ dead (.exit id) τ E
  | .goto t, E, _, σ => ∃ τ, Store.sub τ σ ∧ dead (.goto t) τ E
  | _, _, _, _ => False

theorem codeYK.range {P : Program} {X : Nat → Prop} (hm : P.follows .mixedOrders = true) {st : List Tmp} {plans : List (Nat × Plan)} {n : Nat} {g : Operand} {ps : Array Tmp} {assign body : Code} {A : Slots} {σ : Store} {E : Env X} {Q : Exit → Env X → Slots → Store → Prop} {t : Tag Q}
    {f : FuncId} {caps : List AV} {xs : List (List AV)} (hi : Iter P f caps σ xs) (hg : evalA A g = .func (.func f) [] caps) (hc : callable P f = true) (hlen : ∀ x ∈ xs, x.length = ps.size) (hps : (ps.toList.all fun p => decide (p < n)) = true)
    (hok1 : codeOk st plans n assign = true) (hok2 : codeOk st plans n body = true) (Live : Nat → Store → Env X → Prop) (Dead : Code → Store → Env X → Prop) (τ0 : Store) (h0 : Live 0 τ0 E) (hs0 : Store.sub τ0 σ)
    (hround : ∀ (k : Nat) (h : k < xs.length) (τ : Store) (E : Env X), Live k τ E → awpY P st plans n assign (thenY (awpY P st plans n body (roundQ (Live (k + 1)) Dead)) fun _ _ _ _ => False) E (setPs (fun i => (A i).share) ps.toList xs[k]) τ)
    (hdone : ∀ (τ : Store) (E : Env X) (σ' : Store), Store.sub τ σ' → Live xs.length τ E → Q .normal E A σ')
    (hdead : ∀ (c : Code) (τ : Store) (E : Env X) (σ' : Store), Store.sub τ σ' → Dead c τ E → jumpQ Q c E A σ') : codeYK P n (.rangeFunc g ps assign body) Q E A σ t := by
  refine AWpY.rangeK hg hc fun l hl => ?_
  let L : Link := ⟨fun i => (A i).share, n, ps, assign, body⟩
  refine (hi (AddX X l) l (fun k τ E' => ∃ τ1 E0, Store.sub τ1 τ ∧ Live k τ1 E0 ∧ E' = E0.link l L .ready none) (fun τ E' => ∃ τ1 E0 c, Store.sub τ1 τ ∧ Dead c τ1 E0 ∧ E' = E0.link l L .done (some c)) ?_ τ0 _ ⟨τ0, E, Store.sub_refl _, h0, rfl⟩ hs0).mono ?_
  · rintro k hk τ E' ⟨τ1, E0, h1, h2, rfl⟩
    refine AYields.sub (AYields.of_round hl (L := L) (hlen _ (List.getElem_mem hk)) (fun p hp => by simpa using List.all_eq_true.1 hps p hp) (fun i => share_plain _) ?_) h1
    refine (awpY_sound hm assign hok1 (hround k hk τ1 E0 h2)).mono fun e E2 A2 σ2 hh => ?_
    cases e with
    | normal =>
      refine AWpY.mono (awpY_sound hm body hok2 hh) fun e E3 A3 σ3 h3 => ?_
      cases e with
      | normal => obtain ⟨τ3, q1, q2⟩ := h3; exact ⟨τ3, E3, q1, q2, rfl⟩
      | ret => obtain ⟨τ3, q1, q2⟩ := h3; exact ⟨τ3, E3, _, q1, q2, rfl⟩
      | exit id => obtain ⟨τ3, q1, q2⟩ := h3; exact ⟨τ3, E3, _, q1, q2, rfl⟩
      | goto t => obtain ⟨τ3, q1, q2⟩ := h3; exact ⟨τ3, E3, _, q1, q2, rfl⟩
      | _ => exact h3.elim
    | _ => exact hh
  · rintro v σ' E' ⟨τ', h1, ⟨τ1, E0, h2, h3, rfl⟩ | ⟨τ1, E0, c, h2, h3, rfl⟩⟩
    · exact .inl ⟨E0, rfl, hdone τ1 E0 σ' (Store.sub_trans h2 h1) h3⟩
    · exact .inr ⟨E0, c, rfl, hdead c τ1 E0 σ' (Store.sub_trans h2 h1) h3⟩
section
variable {X : Nat → Prop} (live : Store → Env X → Prop) (dead : Code → Store → Env X → Prop) (E : Env X) (A : Slots) (σ : Store)
theorem y_round_normal : roundQ live dead .normal E A σ = ∃ τ, Store.sub τ σ ∧ live τ E := nr rfl
theorem y_round_ret : roundQ live dead .ret E A σ = ∃ τ, Store.sub τ σ ∧ dead .ret τ E := nr rfl
theorem y_round_exit (id : Nat) : roundQ live dead (.exit id) E A σ = ∃ τ, Store.sub τ σ ∧ dead (.exit id) τ E := nr rfl
theorem y_round_goto (id : Nat) : roundQ live dead (.goto id) E A σ = ∃ τ, Store.sub τ σ ∧ dead (.goto id) τ E := nr rfl
end
attribute [simp ↓] y_round_normal y_round_ret y_round_exit y_round_goto
@[simp] theorem setPs_nil (A : Slots) (vs : List AV) : setPs A [] vs = A := nr (by cases vs <;> rfl)
@[simp] theorem setPs_cons (A : Slots) (p : Tmp) (ps : List Tmp) (v : AV) (vs : List AV) : setPs A (p :: ps) (v :: vs) = setPs (upd A p v.share) ps vs := nr rfl
section
variable {X : Nat → Prop} (Q : Exit → Env X → Slots → Store → Prop) (E : Env X) (A : Slots) (σ : Store)
@[simp] theorem jumpQ_ret : jumpQ Q .ret E A σ = Q .ret E A σ := nr rfl
@[simp] theorem jumpQ_exit (id : Nat) : jumpQ Q (.exit id) E A σ = Q (.exit id) E A σ := nr rfl
@[simp] theorem jumpQ_goto (id : Nat) : jumpQ Q (.goto id) E A σ = Q (.goto id) E A σ := nr rfl
end
end Go.AL
