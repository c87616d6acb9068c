/-
  As InvR, where an operation may wait for a later one in an order that the region does not keep. It speaks of no program.
-/
import Derived.Test.YtpedlbjbbcbbkaaGreatInvZ
namespace Go.Proofs.YtpedlbjbbcbbkaaGreat
open Go
section
variable {P : Program} {ops : Array Oper} {Q : Exit → Act → World → Prop}
/-- each operation waits for earlier ones alone, where the order binds -/
def backA (ops : Array Oper) : Bool := (List.range ops.size).all fun i => ((ops[i]?).map fun o => o.after.all fun e => !Region.binds .any e || decide (e.on < i)).getD true
theorem backA_spec (h : backA ops = true) {i : Nat} {o : Oper} (ho : ops[i]? = some o) : ∀ e ∈ o.after, Region.binds .any e = true → e.on < i := by
  intro e he hb
  unfold backA at h
  have hi : i < ops.size := (Array.getElem?_eq_some_iff.1 ho).1
  have := List.all_eq_true.1 h i (List.mem_range.2 hi)
  rw [ho] at this
  simp only [Option.map_some, Option.getD_some] at this
  have h2 := Array.all_eq_true_iff_forall_mem.1 this e he
  rw [hb] at h2
  simpa using h2
theorem ready_nilA (hB : backA ops = true) {l : Array Bool} (hl : l.size = ops.size) (hr : Region.ready .any ops l = []) : ∀ i, i < ops.size → l[i]? = some true := by
  intro i
  induction i using Nat.strongRecOn with
  | ind i ih =>
    intro hi
    have hli : l[i]? = some l[i] := Array.getElem?_eq_getElem (by omega)
    cases hb : l[i] with
    | true => rw [hli, hb]
    | false =>
      exfalso
      have ho : ops[i]? = some ops[i] := Array.getElem?_eq_getElem hi
      have : i ∈ Region.ready .any ops l := ready_of ho (by rw [getD_some hli]; exact hb) fun e he hbn => by
        have h1 := backA_spec hB ho e he hbn
        exact getD_some (ih e.on h1 (by omega))
      rw [hr] at this
      cases this
theorem wpAny_invA {Inv : Array Bool → Act → World → Prop} (hB : backA ops = true)
    (hs : ∀ l a w i o, Inv l a w → l.size = ops.size → ops[i]? = some o → l[i]? = some false → (∀ e ∈ o.after, Region.binds .any e = true → l[e.on]? = some true) → wpOp P ops Q i (Inv (l.setIfInBounds i true)) a w)
    (he : ∀ l a w, Inv l a w → l.size = ops.size → (∀ i, i < ops.size → l[i]? = some true) → Q .normal a w) :
    ∀ (fuel : Nat) (l : Array Bool) (a : Act) (w : World), l.size = ops.size → l.toList.count false ≤ fuel → Inv l a w → wpAny P .any ops Q fuel l a w
  | 0, l, a, w, hl, hc, hI => by
    have hall : ∀ i, i < ops.size → l[i]? = some true := fun i hi => by
      have hli : l[i]? = some l[i] := Array.getElem?_eq_getElem (by omega)
      cases hb : l[i] with
      | true => rw [hli, hb]
      | false =>
        exfalso
        have : 0 < l.toList.count false := List.count_pos_iff.2 (by rw [← hb]; simp)
        omega
    refine ⟨?_, he l a w hI hl hall⟩
    cases hr : Region.ready .any ops l with
    | nil => rfl
    | cons i r =>
      exfalso
      obtain ⟨o, ho, h1, _⟩ := ready_spec (md := .any) (ops := ops) (l := l) (i := i) (by rw [hr]; simp)
      rw [getD_some (hall i (Array.getElem?_eq_some_iff.1 ho).1)] at h1
      cases h1
  | fuel + 1, l, a, w, hl, hc, hI => by
    refine ⟨fun hr => he l a w hI hl (ready_nilA hB hl hr), fun i hi => ?_⟩
    obtain ⟨o, ho, h1, h2⟩ := ready_spec hi
    have hio := (Array.getElem?_eq_some_iff.1 ho).1
    have hli : l[i]? = some l[i] := Array.getElem?_eq_getElem (by omega)
    have hf : l[i]? = some false := by rw [getD_some hli] at h1; rw [hli, h1]
    refine wpOp_mono (fun a' w' hI' => wpAny_invA hB hs he fuel _ a' w' (by simpa using hl) (by have := count_set hf; omega) hI') (hs l a w i o hI hl ho hf fun e he2 hb => ?_)
    have h3 := h2 e he2 hb
    have h4 := backA_spec hB ho e he2 hb
    have hle : l[e.on]? = some l[e.on] := Array.getElem?_eq_getElem (by omega)
    rw [getD_some hle] at h3
    rw [hle, h3]
theorem wp_region_SA {id : Nat} {a : Act} {w : World} (hm : P.follows .mixedOrders = true) (hB : backA ops = true) (hG : plainB ops = true)
    (mk : (Nat → Value) → Act) (u0 : Nat → Value) (ha : a = mk u0) (hput : ∀ (i : Nat) (o : Oper), ops[i]? = some o → ∀ u v, (mk u).put o.dst v = mk (upd u i v))
    (S : Nat → (Nat → Value) → World → Prop) (E : (Nat → Value) → World → Prop) (Le : Nat → (Nat → Value) → World → World → Prop)
    (hE0 : E u0 { w with drawn := w.drawn + 1 })
    (hst : ∀ i j u w w', i ≠ j → E u w → S i u w → Le j u w w' → S i u w')
    (hloc : ∀ (i : Nat) (o : Oper), ops[i]? = some o → ∀ j u v w, j ≠ i → (∀ e ∈ o.after, Region.binds .any e = true → e.on ≠ j) → S i u w → S i (upd u j v) w)
    (hop : ∀ (i : Nat) (o : Oper), ops[i]? = some o → ∀ u w, E u w → (∀ e ∈ o.after, Region.binds .any e = true → S e.on u w) → ∀ K : Act → World → Prop, (∀ v w', E (upd u i v) w' → Le i u w w' → S i (upd u i v) w' → K ((mk u).put o.dst v) w') → o.wp P (mk u) w K Q)
    (hend : ∀ u w, E u w → (∀ i, i < ops.size → S i u w) → Q .normal (mk u) w) : (Code.region id ops true).wp P Q a w := by
  refine wp_region_any hm ?_
  refine wpAny_invA (Inv := fun l a w => (∀ (i : Nat) (o : Oper), ops[i]? = some o → l[i]? = some true → ∀ e ∈ o.after, Region.binds .any e = true → l[e.on]? = some true) ∧ ∃ u, a = mk u ∧ E u w ∧ ∀ i, l[i]? = some true → S i u w) hB ?_ ?_ _ _ _ _ (by simp) ?_ ?_
  · rintro l a w i o ⟨hcl, u, rfl, hE, hS⟩ hl ho hf hp
    have hio := (Array.getElem?_eq_some_iff.1 ho).1
    have hg : o.guard = none := by
      have h1 := Array.all_eq_true_iff_forall_mem.1 hG o (Array.mem_of_getElem? ho)
      simpa using h1
    have hw : Region.wanted o (yielded ops (mk u).tmps) = true := by simp [Region.wanted, hg]
    unfold wpOp
    rw [ho]
    simp only [hw, if_true]
    refine .inl (hop i o ho u w hE (fun e he hb => hS e.on (hp e he hb)) _ fun v w' hE' hle hSi => ?_)
    refine ⟨?_, upd u i v, hput i o ho u v, hE', ?_⟩
    · intro k ok hok hk e he hb
      by_cases hki : k = i
      · subst hki
        rw [ho] at hok
        injection hok with hok
        subst hok
        have hlt := backA_spec hB ho e he hb
        rw [Array.getElem?_setIfInBounds_ne (by omega)]
        exact hp e he hb
      · rw [Array.getElem?_setIfInBounds_ne (fun e => hki e.symm)] at hk
        have h5 := hcl k ok hok hk e he hb
        by_cases hei : e.on = i
        · rw [hei, Array.getElem?_setIfInBounds_self]
          rw [if_pos (by omega)]
        · rw [Array.getElem?_setIfInBounds_ne (fun e => hei e.symm)]
          exact h5
    · intro k hk
      by_cases hki : k = i
      · subst hki; exact hSi
      · rw [Array.getElem?_setIfInBounds_ne (fun e => hki e.symm)] at hk
        have hkl : k < ops.size := by have := (Array.getElem?_eq_some_iff.1 hk).1; omega
        have hok : ops[k]? = some ops[k] := Array.getElem?_eq_getElem hkl
        refine hloc k _ hok i u v w' (fun e => hki e.symm) (fun e he hb hei => ?_) (hst k i _ _ _ hki hE (hS k hk) hle)
        have := hcl k _ hok hk e he hb
        rw [hei, hf] at this
        cases this
  · rintro l a w ⟨_, u, rfl, hE, hS⟩ hl hall
    exact hend u w hE fun i hi => hS i (hall i hi)
  · have : (Array.replicate ops.size false).toList.count false = ops.size := by simp
    omega
  · refine ⟨fun i o ho hi => ?_, u0, ha, hE0, fun i hi => ?_⟩
    · have := (Array.getElem?_eq_some_iff.1 hi).2
      simp at this
    · have := (Array.getElem?_eq_some_iff.1 hi).2
      simp at this
end
end Go.Proofs.YtpedlbjbbcbbkaaGreat
