/-
  A region that draws its order and appends one record to a field (pure operations, one literal, one append, one store at the end): one way, whatever order comes up. It speaks of no program.
-/
import Derived.Below
import Derived.Test.YtldchpmilknlmaaGreatInvR
import Derived.Test.YtldchpmilknlmaaGreatCore
namespace Go.Proofs.YtldchpmilknlmaaGreat
open Go.RowKit
section
variable {P : Program} {ops : Array Oper} {Q : Exit → Act → World → Prop}
def dstB (ops : Array Oper) (D n : Nat) : Bool := (List.range n).all fun i => ((ops[i]?).map fun o => o.dst == some (D + i)).getD false
theorem dstB_spec {D n : Nat} (h : dstB ops D n = true) {i : Nat} {o : Oper} (ho : ops[i]? = some o) (hi : i < n) : o.dst = some (D + i) := by
  have h1 := List.all_eq_true.1 h i (List.mem_range.2 hi)
  rw [ho] at h1
  simpa using h1
/-- what the operations of the region leave: constants, but for the literal (k1) and the append (k2) -/
def SA (c : List Value) (k1 k2 : Nat) (p1 p2 : Value → World → Prop) (i : Nat) (u : Nat → Value) (w : World) : Prop :=
  if i = k1 then p1 (u k1) w else if i = k2 then p2 (u k2) w else u i = c.getD i undef
theorem SA.c {c : List Value} {k1 k2 : Nat} {p1 p2 : Value → World → Prop} {i : Nat} {u : Nat → Value} {w : World} (h1 : i ≠ k1) (h2 : i ≠ k2) : SA c k1 k2 p1 p2 i u w ↔ u i = c.getD i undef := by
  unfold SA; rw [if_neg h1, if_neg h2]
theorem SA.a {c : List Value} {k1 k2 : Nat} {p1 p2 : Value → World → Prop} {u : Nat → Value} {w : World} : SA c k1 k2 p1 p2 k1 u w ↔ p1 (u k1) w := by
  unfold SA; rw [if_pos rfl]
theorem SA.b {c : List Value} {k1 k2 : Nat} {p1 p2 : Value → World → Prop} {u : Nat → Value} {w : World} (h : k1 ≠ k2) : SA c k1 k2 p1 p2 k2 u w ↔ p2 (u k2) w := by
  unfold SA; rw [if_neg (fun e => h e.symm), if_pos rfl]
theorem wp_region_B {id : Nat} {a : Act} {w : World} (D n k1 k2 : Nat) (last : Oper) (hn : ops.size = n + 1) (hlast : ops[n]? = some last) (hm : P.follows .mixedOrders = true) (hB : backB ops = true) (hG : plainB ops = true) (hC : childB ops = true) (hD : dstB ops D n = true) (hsz : D + n ≤ a.tmps.size)
    (hk1 : k1 < n) (hk2 : k2 < n) (hk : k1 ≠ k2) (hldst : last.dst = none)
    (c : List Value) (p1 p2 : Value → World → Prop) (EW ES : World → Prop) (LA : World → World → Prop)
    (h0 : ES { w with drawn := w.drawn + 1 }) (hES : ∀ w, ES w → EW w)
    (s1 : ∀ v w w', p1 v w → Below w.heap.size w w' → p1 v w') (s2 : ∀ v w w', p2 v w → Below w.heap.size w w' → p2 v w') (sA : ∀ v w w', ES w → p1 v w → LA w w' → p1 v w')
    (hpure : ∀ (i : Nat) (o : Oper), ops[i]? = some o → i < n → i ≠ k1 → i ≠ k2 → ∀ w, EW w → ∀ ρ : Operand → Value, (∀ v, ρ (.const v) = v) → (∀ t, t < D → ρ (.tmp t) = a.eval (.tmp t)) → (∀ e ∈ o.after, Region.binds .any e = true → e.on ≠ k1 → e.on ≠ k2 → ρ (.tmp (D + e.on)) = c.getD e.on undef) → (execOp ρ o).run P w = .ok (.value (c.getD i undef)) w)
    (hlit : ∀ o, ops[k1]? = some o → ∀ w, EW w → ∀ ρ : Operand → Value, (∀ v, ρ (.const v) = v) → (∀ e ∈ o.after, Region.binds .any e = true → e.on ≠ k2 → ρ (.tmp (D + e.on)) = c.getD e.on undef) → ∃ v w', (execOp ρ o).run P w = .ok (.value v) w' ∧ EW w' ∧ (ES w → ES w') ∧ Below w.heap.size w w' ∧ p1 v w')
    (happ : ∀ o, ops[k2]? = some o → ∀ w v, ES w → p1 v w → ∀ ρ : Operand → Value, ρ (.tmp (D + k1)) = v → (∀ e ∈ o.after, Region.binds .any e = true → e.on ≠ k1 → ρ (.tmp (D + e.on)) = c.getD e.on undef) → ∃ v w', (execOp ρ o).run P w = .ok (.value v) w' ∧ EW w' ∧ LA w w' ∧ p2 v w')
    (hpar : ∀ o, ops[k2]? = some o → ∃ e ∈ o.after, e.on = k1 ∧ Region.binds .any e = true)
    (hend : ∀ u w, EW w → p2 (u k2) w → (∀ i, i < n → i ≠ k1 → i ≠ k2 → u i = c.getD i undef) → ∀ ρ : Operand → Value, (∀ v, ρ (.const v) = v) → (∀ t, t < D → ρ (.tmp t) = a.eval (.tmp t)) → (∀ j, j < n → ρ (.tmp (D + j)) = u j) → ∃ w', (execOp ρ last).run P w = .ok .skip w' ∧ Q .normal (mkAt a D n u) w') : (Code.region id ops true).wp P Q a w := by
  refine wp_region_T n last hn hlast hm hB hG hC (mkAt a D n) _ (mkAt_self a hsz) (fun i o ho hi u v => by rw [dstB_spec hD ho hi]; exact mkAt_put a u hsz hi v) (SA c k1 k2 p1 p2)
    (fun l _ w => EW w ∧ (l[k2]? = some false → ES w)) (fun j _ w w' => if j = k2 then LA w w' else Below w.heap.size w w') ⟨hES _ h0, fun _ => h0⟩ ?_ ?_ ?_ ?_
  · intro l i j u w w' hij hi hE hf hS hL
    by_cases hj : j = k2
    · rw [if_pos hj] at hL
      subst hj
      by_cases h1 : i = k1
      · subst h1
        exact SA.a.2 (sA _ _ _ (hE.2 hf) (SA.a.1 hS) hL)
      · exact (SA.c h1 hij).2 ((SA.c h1 hij).1 hS)
    · rw [if_neg hj] at hL
      by_cases h1 : i = k1
      · subst h1
        exact SA.a.2 (s1 _ _ _ (SA.a.1 hS) hL)
      · by_cases h2 : i = k2
        · subst h2
          exact (SA.b hk).2 (s2 _ _ _ ((SA.b hk).1 hS) hL)
        · exact (SA.c h1 h2).2 ((SA.c h1 h2).1 hS)
  · intro i o ho hi j u v w hij _ hS
    have e := upd_ne (Ne.symm hij) u v
    unfold SA at hS ⊢
    by_cases h1 : i = k1
    · subst h1
      rw [if_pos rfl] at hS ⊢
      rw [e]; exact hS
    · rw [if_neg h1] at hS ⊢
      by_cases h2 : i = k2
      · subst h2
        rw [if_pos rfl] at hS ⊢
        rw [e]; exact hS
      · rw [if_neg h2] at hS ⊢
        rw [e]; exact hS
  · intro i o ho hi l u w hE hf hp K hK
    have q0 : ∀ v, (mkAt a D n u).eval (.const v) = v := fun _ => rfl
    have q1 : ∀ t, t < D → (mkAt a D n u).eval (.tmp t) = a.eval (.tmp t) := fun t ht => mkAt_eval a u hsz ht
    have q2 : ∀ e ∈ o.after, Region.binds .any e = true → (mkAt a D n u).eval (.tmp (D + e.on)) = u e.on := fun e he hb => mkAt_eval_in a u hsz (by have := backB_spec hB ho e he; omega)
    by_cases h1 : i = k1
    · subst h1
      obtain ⟨v, w', hr, hw', hs', hb, hp1⟩ := hlit o ho w hE.1 _ q0 (fun e he hbn hne => by
        rw [q2 e he hbn]
        exact (SA.c (by have := backB_spec hB ho e he; omega) hne).1 (hp e he hbn))
      exact wp_val v hr (hK v w' ⟨hw', fun hc => hs' (hE.2 (by rwa [Array.getElem?_setIfInBounds_ne hk] at hc))⟩ (by rw [if_neg hk]; exact hb) (SA.a.2 (by rw [upd_self]; exact hp1)))
    · by_cases h2 : i = k2
      · subst h2
        obtain ⟨e, he, hek, hbn⟩ := hpar o ho
        have hp1 : p1 (u k1) w := by have := hp e he hbn; rw [hek] at this; exact SA.a.1 this
        obtain ⟨v, w', hr, hw', hl', hp2'⟩ := happ o ho w (u k1) (hE.2 hf) hp1 _ (by have := q2 e he hbn; rwa [hek] at this) (fun e he hbn hne => by
          rw [q2 e he hbn]
          exact (SA.c hne (by have := backB_spec hB ho e he; omega)).1 (hp e he hbn))
        exact wp_val v hr (hK v w' ⟨hw', fun hc => by
          rw [Array.getElem?_setIfInBounds_self] at hc
          split at hc <;> cases hc⟩ (by rw [if_pos rfl]; exact hl') ((SA.b hk).2 (by rw [upd_self]; exact hp2')))
      · have hr := hpure i o ho hi h1 h2 w hE.1 _ q0 q1 (fun e he hbn hn1 hn2 => by
          rw [q2 e he hbn]
          exact (SA.c hn1 hn2).1 (hp e he hbn))
        exact wp_val _ hr (hK _ w ⟨hE.1, fun hc => hE.2 (by rwa [Array.getElem?_setIfInBounds_ne h2] at hc)⟩ (by rw [if_neg h2]; exact Below.refl _ _) ((SA.c h1 h2).2 (upd_self _ _ _)))
  · intro l u w hE hS K hK
    obtain ⟨w', hr, hq⟩ := hend u w hE.1 ((SA.b hk).1 (hS k2 hk2)) (fun i hi h1 h2 => (SA.c h1 h2).1 (hS i hi)) (mkAt a D n u).eval (fun _ => rfl) (fun t ht => mkAt_eval a u hsz ht) (fun j hj => mkAt_eval_in a u hsz hj)
    refine wp_skip hr ?_
    rw [hldst]
    exact hK _ _ hq
end
end Go.Proofs.YtldchpmilknlmaaGreat
