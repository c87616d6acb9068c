/-
  A region that draws its order, with guards ('and', 'or'): reads that leave known values, calls that make memory and leave a value of which something is known; a guard's value is known: one way, whatever order comes up. It speaks of no program.
-/
import Derived.Below
import Derived.Test.YthnbgbocanpkjaaGreatInvC
namespace Go.Proofs.YthnbgbocanpkjaaGreat
open Go.RowKit
section
variable {P : Program} {ops : Array Oper} {Q : Exit → Act → World → Prop}
/-- whether an operation is wanted, by the known values -/
def wantC (c : List Value) (o : Oper) : Bool := match o.guard with
  | none => true
  | some (g, b) => match c.getD g undef with
    | .bool v => v == b
    | _ => false
/-- each guard is a known test of an operation that is waited for -/
def guardB (ops : Array Oper) (c : List Value) (K : Nat → Bool) : Bool := ops.all fun o => match o.guard with
  | none => true
  | some (g, _) => (!K g) && (match c.getD g undef with | .bool _ => true | _ => false) && (o.after.any fun e => e.on == g && Region.binds .any e)
theorem guardB_spec {c : List Value} {K : Nat → Bool} (h : guardB ops c K = true) {i : Nat} {o : Oper} (ho : ops[i]? = some o) {g : Nat} {b : Bool} (hg : o.guard = some (g, b)) :
    K g = false ∧ (∃ v, c.getD g undef = .bool v) ∧ ∃ e ∈ o.after, e.on = g ∧ Region.binds .any e = true := by
  have h1 := Array.all_eq_true_iff_forall_mem.1 h o (Array.mem_of_getElem? ho)
  rw [hg] at h1
  simp only [Bool.and_eq_true, Bool.not_eq_true'] at h1
  obtain ⟨⟨h2, h3⟩, h4⟩ := h1
  refine ⟨h2, ?_, ?_⟩
  · revert h3
    cases c.getD g undef <;> intro h3 <;> first | exact ⟨_, rfl⟩ | cases h3
  · obtain ⟨k, hk, h5⟩ := Array.any_eq_true.1 h4
    simp only [Bool.and_eq_true, beq_iff_eq] at h5
    exact ⟨_, Array.getElem_mem hk, h5.1, h5.2⟩
theorem wp_region_G {id : Nat} {a : Act} {w : World} (D n : Nat) (hn : ops.size = n) (hm : P.follows .mixedOrders = true) (hB : backB ops = true) (hD : dstB ops D n = true) (hsz : D + n ≤ a.tmps.size)
    (c : List Value) (K : Nat → Bool) (hgd : guardB ops c K = true) (p : Nat → Value → World → Prop) (EW : World → Prop)
    (h0 : EW { w with drawn := w.drawn + 1 }) (hEB : ∀ U V, EW U → Below U.heap.size U V → EW V)
    (hst : ∀ i v U V, K i = true → p i v U → Below U.heap.size U V → p i v V)
    (hun : ∀ (i : Nat) (o : Oper), ops[i]? = some o → wantC c o = false → K i = false ∧ c.getD i undef = undef)
    (hop : ∀ (i : Nat) (o : Oper), ops[i]? = some o → wantC c o = true → ∀ U, EW U → ∀ ρ : Operand → Value, (∀ v, ρ (.const v) = v) → (∀ f, ρ (.func f) = .func (.func f) #[] #[]) → (∀ t, t < D → ρ (.tmp t) = a.eval (.tmp t)) → (∀ e ∈ o.after, Region.binds .any e = true → SC c K p e.on (ρ (.tmp (D + e.on))) U) → RunsTo P ρ o U (fun v V => Below U.heap.size U V ∧ SC c K p i v V))
    (hend : ∀ u U, EW U → (∀ i, i < n → SC c K p i (u i) U) → Q .normal (mkAt a D n u) U) : (Code.region id ops true).wp P Q a w := by
  subst hn
  refine wp_region_any hm ?_
  refine wpAny_inv (Inv := fun l a' w => ∃ u, a' = mkAt a D ops.size u ∧ EW w ∧ ∀ i, l[i]? = some true → SC c K p i (u i) w) hB ?_ ?_ _ _ _ _ (by simp) ?_ ?_
  · rintro l a' w i o ⟨u, rfl, hE, hS⟩ hl ho hf hp
    have hio := (Array.getElem?_eq_some_iff.1 ho).1
    have hupd : ∀ v w', EW w' → Below w.heap.size w w' → SC c K p i v w' → ∃ u', (mkAt a D ops.size u).put o.dst v = mkAt a D ops.size u' ∧ EW w' ∧ ∀ k, (l.setIfInBounds i true)[k]? = some true → SC c K p k (u' k) w' := by
      intro v w' hE' hb hs
      refine ⟨upd u i v, by rw [dstB_spec hD ho hio]; exact mkAt_put a u hsz hio v, hE', fun k hk => ?_⟩
      by_cases hki : k = i
      · subst hki; rw [upd_self]; exact hs
      · rw [upd_ne hki]
        rw [Array.getElem?_setIfInBounds_ne (fun e => hki e.symm)] at hk
        have h1 := hS k hk
        cases hkk : K k with
        | true => exact SC.ofP hkk (hst k _ _ _ hkk (h1.got hkk) hb)
        | false =>
          have := h1.val hkk
          rw [this]
          exact SC.ofV hkk
    have hw : Region.wanted o (yielded ops (mkAt a D ops.size u).tmps) = wantC c o := by
      unfold Region.wanted wantC
      rcases hg : o.guard with _ | ⟨g, b⟩
      · rfl
      · obtain ⟨h1, ⟨v, h2⟩, e, he, heg, hbn⟩ := guardB_spec hgd ho hg
        have hlt := backB_spec hB ho e he
        rw [heg] at hlt
        have h3 := hS g (by rw [← heg]; exact hp e he hbn)
        have h4 := h3.val h1
        rw [h2] at h4
        have hog : ops[g]? = some ops[g] := Array.getElem?_eq_getElem (by omega)
        have hy : yielded ops (mkAt a D ops.size u).tmps g = some v := by
          unfold yielded
          rw [hog]
          simp only [Option.bind_some]
          rw [dstB_spec hD hog (by omega)]
          simp only [Option.bind_some]
          rw [mkAt_get a u hsz (D + g), if_neg (by omega), if_pos (by omega), show D + g - D = g by omega, h4]
        simp only [hy, h2]
        cases v <;> cases b <;> rfl
    unfold wpOp
    rw [ho]
    simp only [hw]
    cases hwc : wantC c o with
    | true =>
      simp only [if_true]
      refine .inl (RunsTo.wp ((hop i o ho hwc w hE _ (fun _ => rfl) (fun _ => rfl) (fun t ht => mkAt_eval a u hsz ht) (fun e he hb => ?_)).mono fun v V ⟨hb, hs⟩ => hupd v V (hEB _ _ hE hb) hb hs))
      rw [mkAt_eval_in a u hsz (by have := backB_spec hB ho e he; omega)]
      exact hS e.on (hp e he hb)
    | false =>
      obtain ⟨h1, h2⟩ := hun i o ho hwc
      simp only [Bool.false_eq_true, if_false]
      refine hupd undef w hE (Below.refl _ _) ?_
      have := SC.ofV (c := c) (K := K) (p := p) (w := w) h1
      rwa [h2] at this
  · rintro l a' w ⟨u, rfl, hE, hS⟩ hl hall
    exact hend u w hE fun i hi => hS i (hall i hi)
  · have : (Array.replicate ops.size false).toList.count false = ops.size := by simp
    omega
  · refine ⟨_, mkAt_self a hsz, h0, fun i hi => ?_⟩
    have := (Array.getElem?_eq_some_iff.1 hi).2
    simp at this
end
end Go.Proofs.YthnbgbocanpkjaaGreat
