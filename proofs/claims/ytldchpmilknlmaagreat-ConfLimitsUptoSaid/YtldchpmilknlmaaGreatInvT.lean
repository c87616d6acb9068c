/-
  A region that draws its order and appends a record of the very row that it appends to: all reads come ahead of the append. It speaks of no program.
-/
import Derived.Below
import Derived.Test.YtldchpmilknlmaaGreatInvC
namespace Go.Proofs.YtldchpmilknlmaaGreat
open Go Go.RowKit
section
variable {P : Program} {ops : Array Oper} {md : Region.Mode} {Q : Exit → Act → World → Prop}
/-- for each operation but the last what holds of its value (and of those that it waits for); how worlds go on (Le); what holds of each world (E); the last operation, for which all others wait, comes behind -/
theorem wp_region_T2 {id : Nat} {a : Act} {w : World} (n : Nat) (last : Oper) (hn : ops.size = n + 1) (hlast : ops[n]? = some last) (hm : P.follows .mixedOrders = true) (hB : backB ops = true) (hG : plainB ops = true) (hC : childB ops = true)
    (mk : (Nat → Value) → Act) (u0 : Nat → Value) (ha : a = mk u0) (hput : ∀ (i : Nat) (o : Oper), ops[i]? = some o → i < n → ∀ u v, (mk u).put o.dst v = mk (upd u i v))
    (S : Nat → (Nat → Value) → World → Prop) (E : Array Bool → (Nat → Value) → World → Prop) (Le : Nat → (Nat → Value) → World → World → Prop)
    (hE0 : E (Array.replicate ops.size false) u0 { w with drawn := w.drawn + 1 })
    (hst : ∀ l i j u w w', i ≠ j → i < n → E l u w → l[j]? = some false → S i u w → Le j u w w' → S i u w')
    (hloc : ∀ (i : Nat) (o : Oper), ops[i]? = some o → i < n → ∀ j u v w, j ≠ i → (∀ e ∈ o.after, Region.binds .any e = true → e.on ≠ j) → S i u w → S i (upd u j v) w)
    (hop : ∀ (i : Nat) (o : Oper), ops[i]? = some o → i < n → ∀ l u w, E l u w → l[i]? = some false → (∀ (k : Nat) (ok : Oper), ops[k]? = some ok → l[k]? = some true → ∀ e ∈ ok.after, Region.binds .any e = true → l[e.on]? = some true) → (∀ e ∈ o.after, Region.binds .any e = true → S e.on u w) → ∀ K : Act → World → Prop, (∀ v w', E (l.setIfInBounds i true) (upd u i v) w' → Le i u w w' → S i (upd u i v) w' → K ((mk u).put o.dst v) w') → o.wp P (mk u) w K Q)
    (hend : ∀ l u w, E l u w → (∀ i, i < n → S i u w) → ∀ K : Act → World → Prop, (∀ a' w', Q .normal a' w' → K a' w') → last.wp P (mk u) w K Q) : (Code.region id ops true).wp P Q a w := by
  refine wp_region_any hm ?_
  refine wpAny_inv (Inv := fun l a w => (∀ (i : Nat) (o : Oper), ops[i]? = some o → l[i]? = some true → ∀ e ∈ o.after, Region.binds .any e = true → l[e.on]? = some true) ∧
    ((l[n]? = some false ∧ ∃ u, a = mk u ∧ E l u w ∧ ∀ i, i < n → l[i]? = some true → S i u w) ∨ ((∀ i, i < ops.size → l[i]? = some true) ∧ Q .normal a w))) hB ?_ ?_ _ _ _ _ (by simp) ?_ ?_
  · rintro l a w i o ⟨hcl, hI⟩ hl ho hf hp
    have hio := (Array.getElem?_eq_some_iff.1 ho).1
    have hg : o.guard = none := by
      have h1 := Array.all_eq_true_iff_forall_mem.1 hG o (Array.mem_of_getElem? ho)
      simpa using h1
    rcases hI with ⟨hln, u, rfl, hE, hS⟩ | ⟨hall, _⟩
    · have hw : Region.wanted o (yielded ops (mk u).tmps) = true := by simp [Region.wanted, hg]
      have hcl' : ∀ (k : Nat) (ok : Oper), ops[k]? = some ok → (l.setIfInBounds i true)[k]? = some true → ∀ e ∈ ok.after, Region.binds .any e = true → (l.setIfInBounds i true)[e.on]? = some true := by
        intro k ok hok hk e he hb
        have h5 : l[e.on]? = some true := by
          by_cases hki : k = i
          · subst hki
            rw [ho] at hok
            injection hok with hok
            subst hok
            exact hp e he hb
          · rw [Array.getElem?_setIfInBounds_ne (fun e => hki e.symm)] at hk
            exact hcl k ok hok hk e he hb
        by_cases hei : e.on = i
        · rw [hei] at h5
          rw [hf] at h5
          cases h5
        · rw [Array.getElem?_setIfInBounds_ne (fun e => hei e.symm)]
          exact h5
      unfold wpOp
      rw [ho]
      simp only [hw, if_true]
      by_cases hin : i = n
      · subst hin
        rw [hlast] at ho
        injection ho with ho
        subst ho
        have hall := all_listed hn hB hC hcl (fun o2 ho2 => by rw [hlast] at ho2; injection ho2 with ho2; subst ho2; exact hp)
        refine .inl (hend l u w hE (fun k hk => hS k hk (hall (i - k - 1) k (by omega))) _ fun a' w' hq => ⟨hcl', .inr ⟨fun k hk => ?_, hq⟩⟩)
        by_cases hki : k = i
        · subst hki
          rw [Array.getElem?_setIfInBounds_self, if_pos (by omega)]
        · rw [Array.getElem?_setIfInBounds_ne (fun e => hki e.symm)]
          exact hall (i - k - 1) k (by omega)
      · have hlt : i < n := by omega
        refine .inl (hop i o ho hlt l u w hE hf hcl (fun e he hb => hS e.on (by have := backB_spec hB ho e he; omega) (hp e he hb)) _ fun v w' hE' hle hSi => ?_)
        refine ⟨hcl', .inl ⟨by rw [Array.getElem?_setIfInBounds_ne hin]; exact hln, upd u i v, hput i o ho hlt u v, hE', ?_⟩⟩
        intro k hkn hk
        by_cases hki : k = i
        · subst hki; exact hSi
        · rw [Array.getElem?_setIfInBounds_ne (fun e => hki e.symm)] at hk
          have hok : ops[k]? = some ops[k] := Array.getElem?_eq_getElem (by omega)
          refine hloc k _ hok hkn i u v w' (fun e => hki e.symm) (fun e he hb hei => ?_) (hst l k i _ _ _ hki hkn hE hf (hS k hkn hk) hle)
          have := hcl k _ hok hk e he hb
          rw [hei, hf] at this
          cases this
    · rw [hall i hio] at hf
      cases hf
  · rintro l a w ⟨_, hI⟩ hl hall
    rcases hI with ⟨hln, _⟩ | ⟨_, hq⟩
    · rw [hall n (by omega)] at hln
      cases hln
    · exact hq
  · have : (Array.replicate ops.size false).toList.count false = ops.size := by simp
    omega
  · refine ⟨fun i o ho hi => ?_, .inl ⟨by simp [hn], u0, ha, hE0, fun i _ hi => ?_⟩⟩
    · have := (Array.getElem?_eq_some_iff.1 hi).2
      simp at this
    · have := (Array.getElem?_eq_some_iff.1 hi).2
      simp at this
/-- as wp_region_B, but an operation that the append waits for runs ahead of it alone (F: those that do not touch memory) -/
theorem wp_region_A {id : Nat} {a : Act} {w : World} (D n k1 k2 : Nat) (last : Oper) (hn : ops.size = n + 1) (hlast : ops[n]? = some last) (hm : P.follows .mixedOrders = true) (hB : backB ops = true) (hG : plainB ops = true) (hC : childB ops = true) (hD : dstB ops D n = true) (hsz : D + n ≤ a.tmps.size)
    (hk1 : k1 < n) (hk2 : k2 < n) (hk : k1 ≠ k2) (hldst : last.dst = none)
    (F : Nat → Bool) (hanc : ∀ l : Array Bool, (∀ (k : Nat) (ok : Oper), ops[k]? = some ok → l[k]? = some true → ∀ e ∈ ok.after, Region.binds .any e = true → l[e.on]? = some true) → l[k2]? = some true → ∀ i, i < n → F i = false → i ≠ k2 → l[i]? = some true)
    (c : List Value) (p1 p2 : Value → World → Prop) (EW ES : World → Prop) (LA : World → World → Prop)
    (h0 : ES { w with drawn := w.drawn + 1 }) (hES : ∀ w, ES w → EW w)
    (s1 : ∀ v w w', p1 v w → Below w.heap.size w w' → p1 v w') (s2 : ∀ v w w', p2 v w → Below w.heap.size w w' → p2 v w') (sA : ∀ v w w', ES w → p1 v w → LA w w' → p1 v w')
    (hpure : ∀ (i : Nat) (o : Oper), ops[i]? = some o → i < n → i ≠ k1 → i ≠ k2 → ∀ w, (F i = false → ES w) → ∀ ρ : Operand → Value, (∀ v, ρ (.const v) = v) → (∀ t, t < D → ρ (.tmp t) = a.eval (.tmp t)) → (∀ e ∈ o.after, Region.binds .any e = true → e.on ≠ k1 → e.on ≠ k2 → ρ (.tmp (D + e.on)) = c.getD e.on undef) → (execOp ρ o).run P w = .ok (.value (c.getD i undef)) w)
    (hlit : ∀ o, ops[k1]? = some o → ∀ w, EW w → ∀ ρ : Operand → Value, (∀ v, ρ (.const v) = v) → (∀ e ∈ o.after, Region.binds .any e = true → e.on ≠ k2 → ρ (.tmp (D + e.on)) = c.getD e.on undef) → ∃ v w', (execOp ρ o).run P w = .ok (.value v) w' ∧ EW w' ∧ (ES w → ES w') ∧ Below w.heap.size w w' ∧ p1 v w')
    (happ : ∀ o, ops[k2]? = some o → ∀ w v, ES w → p1 v w → ∀ ρ : Operand → Value, ρ (.tmp (D + k1)) = v → (∀ e ∈ o.after, Region.binds .any e = true → e.on ≠ k1 → ρ (.tmp (D + e.on)) = c.getD e.on undef) → ∃ v w', (execOp ρ o).run P w = .ok (.value v) w' ∧ EW w' ∧ LA w w' ∧ p2 v w')
    (hpar : ∀ o, ops[k2]? = some o → ∃ e ∈ o.after, e.on = k1 ∧ Region.binds .any e = true)
    (hend : ∀ u w, EW w → p2 (u k2) w → (∀ i, i < n → i ≠ k1 → i ≠ k2 → u i = c.getD i undef) → ∀ ρ : Operand → Value, (∀ v, ρ (.const v) = v) → (∀ t, t < D → ρ (.tmp t) = a.eval (.tmp t)) → (∀ j, j < n → ρ (.tmp (D + j)) = u j) → ∃ w', (execOp ρ last).run P w = .ok .skip w' ∧ Q .normal (mkAt a D n u) w') : (Code.region id ops true).wp P Q a w := by
  refine wp_region_T2 n last hn hlast hm hB hG hC (mkAt a D n) _ (mkAt_self a hsz) (fun i o ho hi u v => by rw [dstB_spec hD ho hi]; exact mkAt_put a u hsz hi v) (SA c k1 k2 p1 p2)
    (fun l _ w => EW w ∧ (l[k2]? = some false → ES w) ∧ l.size = ops.size) (fun j _ w w' => if j = k2 then LA w w' else Below w.heap.size w w') ⟨hES _ h0, fun _ => h0, by simp⟩ ?_ ?_ ?_ ?_
  · intro l i j u w w' hij hi hE hf hS hL
    by_cases hj : j = k2
    · rw [if_pos hj] at hL
      subst hj
      by_cases h1 : i = k1
      · subst h1
        exact SA.a.2 (sA _ _ _ (hE.2.1 hf) (SA.a.1 hS) hL)
      · exact (SA.c h1 hij).2 ((SA.c h1 hij).1 hS)
    · rw [if_neg hj] at hL
      by_cases h1 : i = k1
      · subst h1
        exact SA.a.2 (s1 _ _ _ (SA.a.1 hS) hL)
      · by_cases h2 : i = k2
        · subst h2
          exact (SA.b hk).2 (s2 _ _ _ ((SA.b hk).1 hS) hL)
        · exact (SA.c h1 h2).2 ((SA.c h1 h2).1 hS)
  · intro i o ho hi j u v w hij _ hS
    have e := upd_ne (Ne.symm hij) u v
    unfold SA at hS ⊢
    by_cases h1 : i = k1
    · subst h1
      rw [if_pos rfl] at hS ⊢
      rw [e]; exact hS
    · rw [if_neg h1] at hS ⊢
      by_cases h2 : i = k2
      · subst h2
        rw [if_pos rfl] at hS ⊢
        rw [e]; exact hS
      · rw [if_neg h2] at hS ⊢
        rw [e]; exact hS
  · intro i o ho hi l u w hE hf hcl hp K hK
    have q0 : ∀ v, (mkAt a D n u).eval (.const v) = v := fun _ => rfl
    have q1 : ∀ t, t < D → (mkAt a D n u).eval (.tmp t) = a.eval (.tmp t) := fun t ht => mkAt_eval a u hsz ht
    have q2 : ∀ e ∈ o.after, Region.binds .any e = true → (mkAt a D n u).eval (.tmp (D + e.on)) = u e.on := fun e he hb => mkAt_eval_in a u hsz (by have := backB_spec hB ho e he; omega)
    by_cases h1 : i = k1
    · subst h1
      obtain ⟨v, w', hr, hw', hs', hb, hp1⟩ := hlit o ho w hE.1 _ q0 (fun e he hbn hne => by
        rw [q2 e he hbn]
        exact (SA.c (by have := backB_spec hB ho e he; omega) hne).1 (hp e he hbn))
      exact wp_val v hr (hK v w' ⟨hw', fun hc => hs' (hE.2.1 (by rwa [Array.getElem?_setIfInBounds_ne hk] at hc)), by simpa using hE.2.2⟩ (by rw [if_neg hk]; exact hb) (SA.a.2 (by rw [upd_self]; exact hp1)))
    · by_cases h2 : i = k2
      · subst h2
        obtain ⟨e, he, hek, hbn⟩ := hpar o ho
        have hp1 : p1 (u k1) w := by have := hp e he hbn; rw [hek] at this; exact SA.a.1 this
        obtain ⟨v, w', hr, hw', hl', hp2'⟩ := happ o ho w (u k1) (hE.2.1 hf) hp1 _ (by have := q2 e he hbn; rwa [hek] at this) (fun e he hbn hne => by
          rw [q2 e he hbn]
          exact (SA.c hne (by have := backB_spec hB ho e he; omega)).1 (hp e he hbn))
        exact wp_val v hr (hK v w' ⟨hw', (fun hc => by
          rw [Array.getElem?_setIfInBounds_self] at hc
          split at hc <;> cases hc), by simpa using hE.2.2⟩ (by rw [if_pos rfl]; exact hl') ((SA.b hk).2 (by rw [upd_self]; exact hp2')))
      · have hr := hpure i o ho hi h1 h2 w (fun hF => hE.2.1 (by
          rcases hk2v : l[k2]? with _ | b
          · exact absurd hk2v (by have := hE.2.2; rw [Array.getElem?_eq_getElem (by omega)]; simp)
          · cases b with
            | false => rfl
            | true => have := hanc l hcl hk2v i hi hF h2; rw [hf] at this; cases this)) _ q0 q1 (fun e he hbn hn1 hn2 => by
          rw [q2 e he hbn]
          exact (SA.c hn1 hn2).1 (hp e he hbn))
        exact wp_val _ hr (hK _ w ⟨hE.1, fun hc => hE.2.1 (by rwa [Array.getElem?_setIfInBounds_ne h2] at hc), by simpa using hE.2.2⟩ (by rw [if_neg h2]; exact Below.refl _ _) ((SA.c h1 h2).2 (upd_self _ _ _)))
  · intro l u w hE hS K hK
    obtain ⟨w', hr, hq⟩ := hend u w hE.1 ((SA.b hk).1 (hS k2 hk2)) (fun i hi h1 h2 => (SA.c h1 h2).1 (hS i hi)) (mkAt a D n u).eval (fun _ => rfl) (fun t ht => mkAt_eval a u hsz ht) (fun j hj => mkAt_eval_in a u hsz hj)
    refine wp_skip hr ?_
    rw [hldst]
    exact hK _ _ hq
/-- as wp_region_T, over what the operands stand for -/
theorem wp_region_D {id : Nat} {a : Act} {w : World} (D n : Nat) (last : Oper) (hn : ops.size = n + 1) (hlast : ops[n]? = some last) (hm : P.follows .mixedOrders = true) (hB : backB ops = true) (hG : plainB ops = true) (hC : childB ops = true) (hD : dstB ops D n = true) (hsz : D + n ≤ a.tmps.size)
    (S : Nat → (Nat → Value) → World → Prop) (E : Array Bool → World → Prop) (Le : Nat → World → World → Prop)
    (hE0 : E (Array.replicate ops.size false) { w with drawn := w.drawn + 1 })
    (hst : ∀ l i j u w w', i ≠ j → i < n → E l w → l[j]? = some false → S i u w → Le j w w' → S i u w')
    (hloc : ∀ i j u v w, i < n → j ≠ i → S i u w → S i (upd u j v) w)
    (hop : ∀ (i : Nat) (o : Oper), ops[i]? = some o → i < n → ∀ l u U, E l U → l[i]? = some false → (∀ e ∈ o.after, Region.binds .any e = true → S e.on u U) → ∀ ρ : Operand → Value, (∀ v, ρ (.const v) = v) → (∀ f, ρ (.func f) = .func (.func f) #[] #[]) → (∀ t, t < D → ρ (.tmp t) = a.eval (.tmp t)) → (∀ e ∈ o.after, Region.binds .any e = true → ρ (.tmp (D + e.on)) = u e.on) →
      RunsTo P ρ o U (fun v V => E (l.setIfInBounds i true) V ∧ Le i U V ∧ S i (upd u i v) V))
    (hend : ∀ l u U, E l U → (∀ i, i < n → S i u U) → ∀ ρ : Operand → Value, ρ = (mkAt a D n u).eval → (∀ v, ρ (.const v) = v) → (∀ f, ρ (.func f) = .func (.func f) #[] #[]) → (∀ t, t < D → ρ (.tmp t) = a.eval (.tmp t)) → (∀ j, j < n → ρ (.tmp (D + j)) = u j) → ∀ Kk : Act → World → Prop, (∀ a' V, Q .normal a' V → Kk a' V) → last.wp P (mkAt a D n u) U Kk Q) : (Code.region id ops true).wp P Q a w := by
  refine wp_region_T n last hn hlast hm hB hG hC (mkAt a D n) _ (mkAt_self a hsz) (fun i o ho hi u v => by rw [dstB_spec hD ho hi]; exact mkAt_put a u hsz hi v) S (fun l _ w => E l w) (fun j _ w w' => Le j w w') hE0 hst ?_ ?_ ?_
  · intro i o ho hi j u v w hij _ hS
    exact hloc i j u v w hi hij hS
  · intro i o ho hi l u w hE hf hp K hK
    refine RunsTo.wp ((hop i o ho hi l u w hE hf hp _ (fun _ => rfl) (fun _ => rfl) (fun t ht => mkAt_eval a u hsz ht) (fun e he hb => mkAt_eval_in a u hsz (by have := backB_spec hB ho e he; omega))).mono fun v V ⟨h1, h2, h3⟩ => hK v V h1 h2 h3)
  · intro l u w hE hS K hK
    exact hend l u w hE hS _ rfl (fun _ => rfl) (fun _ => rfl) (fun t ht => mkAt_eval a u hsz ht) (fun j hj => mkAt_eval_in a u hsz hj) K hK
end
end Go.Proofs.YtldchpmilknlmaaGreat
