/-
  A region that draws its order, by an invariant: for each operation what holds of the value that it has left, once it has come up, in whatever order. It speaks of no program.
-/
import Derived.Orders
import Derived.Calls
import Derived.WalkKit
namespace Go.Proofs.YtldchpmilknlmaaGreat
open Go
section
variable {P : Program} {ops : Array Oper} {md : Region.Mode} {Q : Exit → Act → World → Prop}
/-- each operation waits for earlier ones alone -/
def backB (ops : Array Oper) : Bool := (List.range ops.size).all fun i => ((ops[i]?).map fun o => o.after.all fun e => decide (e.on < i)).getD true
def plainB (ops : Array Oper) : Bool := ops.all fun o => o.guard.isNone
theorem backB_spec (h : backB ops = true) {i : Nat} {o : Oper} (ho : ops[i]? = some o) : ∀ e ∈ o.after, e.on < i := by
  intro e he
  unfold backB at h
  have hi : i < ops.size := (Array.getElem?_eq_some_iff.1 ho).1
  have := List.all_eq_true.1 h i (List.mem_range.2 hi)
  rw [ho] at this
  simp only [Option.map_some, Option.getD_some] at this
  exact of_decide_eq_true (Array.all_eq_true_iff_forall_mem.1 this e he)
theorem ready_spec {l : Array Bool} {i : Nat} (h : i ∈ Region.ready md ops l) : ∃ o, ops[i]? = some o ∧ l.getD i true = false ∧ ∀ e ∈ o.after, Region.binds md e = true → l.getD e.on false = true := by
  unfold Region.ready at h
  obtain ⟨h1, h2⟩ := List.mem_filter.1 h
  have hi := List.mem_range.1 h1
  have ho : ops[i]? = some ops[i] := Array.getElem?_eq_getElem hi
  rw [ho] at h2
  simp only [Bool.and_eq_true, Option.map_some, Option.getD_some, Bool.not_eq_true'] at h2
  refine ⟨_, ho, h2.1, fun e he hb => ?_⟩
  have h3 := Array.all_eq_true_iff_forall_mem.1 h2.2 e he
  rw [hb] at h3
  simpa using h3
theorem ready_of {l : Array Bool} {i : Nat} {o : Oper} (ho : ops[i]? = some o) (hl : l.getD i true = false) (hp : ∀ e ∈ o.after, Region.binds md e = true → l.getD e.on false = true) : i ∈ Region.ready md ops l := by
  unfold Region.ready
  refine List.mem_filter.2 ⟨List.mem_range.2 (Array.getElem?_eq_some_iff.1 ho).1, ?_⟩
  rw [ho]
  simp only [hl, Bool.not_false, Option.map_some, Option.getD_some, Bool.true_and]
  refine Array.all_eq_true_iff_forall_mem.2 fun e he => ?_
  cases hb : Region.binds md e
  · rfl
  · simpa using hp e he hb
theorem getD_some {l : Array Bool} {i : Nat} {d b : Bool} (h : l[i]? = some b) : l.getD i d = b := by
  rw [Array.getD_eq_getD_getElem?, h]; rfl
theorem ready_nil (hB : backB ops = true) {l : Array Bool} (hl : l.size = ops.size) (hr : Region.ready md ops l = []) : ∀ i, i < ops.size → l[i]? = some true := by
  intro i
  induction i using Nat.strongRecOn with
  | ind i ih =>
    intro hi
    have hli : l[i]? = some l[i] := Array.getElem?_eq_getElem (by omega)
    cases hb : l[i] with
    | true => rw [hli, hb]
    | false =>
      exfalso
      have ho : ops[i]? = some ops[i] := Array.getElem?_eq_getElem hi
      have : i ∈ Region.ready md ops l := ready_of ho (by rw [getD_some hli]; exact hb) fun e he _ => by
        have h1 := backB_spec hB ho e he
        exact getD_some (ih e.on h1 (by omega))
      rw [hr] at this
      cases this
theorem count_set {l : Array Bool} {i : Nat} (h : l[i]? = some false) : (l.setIfInBounds i true).toList.count false + 1 = l.toList.count false := by
  have hi : i < l.toList.length := by
    have := (Array.getElem?_eq_some_iff.1 h).1
    simpa using this
  have hv : l.toList[i] = false := by
    have := (Array.getElem?_eq_some_iff.1 h).2
    simpa using this
  have hpos : 0 < l.toList.count false := List.count_pos_iff.2 (by rw [← hv]; exact List.getElem_mem hi)
  have h2 := List.count_set (a := true) (b := false) hi
  rw [hv, if_pos (by rfl), if_neg (by decide)] at h2
  rw [Array.toList_setIfInBounds, h2]
  omega
theorem wpAny_inv {Inv : Array Bool → Act → World → Prop} (hB : backB ops = true)
    (hs : ∀ l a w i o, Inv l a w → l.size = ops.size → ops[i]? = some o → l[i]? = some false → (∀ e ∈ o.after, Region.binds md e = true → l[e.on]? = some true) → wpOp P ops Q i (Inv (l.setIfInBounds i true)) a w)
    (he : ∀ l a w, Inv l a w → l.size = ops.size → (∀ i, i < ops.size → l[i]? = some true) → Q .normal a w) :
    ∀ (fuel : Nat) (l : Array Bool) (a : Act) (w : World), l.size = ops.size → l.toList.count false ≤ fuel → Inv l a w → wpAny P md ops Q fuel l a w
  | 0, l, a, w, hl, hc, hI => by
    have hall : ∀ i, i < ops.size → l[i]? = some true := fun i hi => by
      have hli : l[i]? = some l[i] := Array.getElem?_eq_getElem (by omega)
      cases hb : l[i] with
      | true => rw [hli, hb]
      | false =>
        exfalso
        have : 0 < l.toList.count false := List.count_pos_iff.2 (by rw [← hb]; simp)
        omega
    refine ⟨?_, he l a w hI hl hall⟩
    cases hr : Region.ready md ops l with
    | nil => rfl
    | cons i r =>
      exfalso
      obtain ⟨o, ho, h1, _⟩ := ready_spec (md := md) (ops := ops) (l := l) (i := i) (by rw [hr]; simp)
      rw [getD_some (hall i (Array.getElem?_eq_some_iff.1 ho).1)] at h1
      cases h1
  | fuel + 1, l, a, w, hl, hc, hI => by
    refine ⟨fun hr => he l a w hI hl (ready_nil hB hl hr), fun i hi => ?_⟩
    obtain ⟨o, ho, h1, h2⟩ := ready_spec hi
    have hio := (Array.getElem?_eq_some_iff.1 ho).1
    have hli : l[i]? = some l[i] := Array.getElem?_eq_getElem (by omega)
    have hf : l[i]? = some false := by rw [getD_some hli] at h1; rw [hli, h1]
    refine wpOp_mono (fun a' w' hI' => wpAny_inv hB hs he fuel _ a' w' (by simpa using hl) (by have := count_set hf; omega) hI') (hs l a w i o hI hl ho hf fun e he2 hb => ?_)
    have h3 := h2 e he2 hb
    have h4 := backB_spec hB ho e he2
    have hle : l[e.on]? = some l[e.on] := Array.getElem?_eq_getElem (by omega)
    rw [getD_some hle] at h3
    rw [hle, h3]
def upd (u : Nat → Value) (i : Nat) (v : Value) : Nat → Value := fun j => if j = i then v else u j
theorem upd_self (u : Nat → Value) (i : Nat) (v : Value) : upd u i v i = v := if_pos rfl
theorem upd_ne {i j : Nat} (h : j ≠ i) (u : Nat → Value) (v : Value) : upd u i v j = u j := if_neg h
/-- each operation but the last has a later one that waits for it -/
def childB (ops : Array Oper) : Bool := (List.range (ops.size - 1)).all fun j => (List.range ops.size).any fun i => ((ops[i]?).map fun o => o.after.any fun e => e.on == j && Region.binds .any e).getD false
theorem childB_spec (h : childB ops = true) {j : Nat} (hj : j + 1 < ops.size) : ∃ (i : Nat) (o : Oper) (e : _), ops[i]? = some o ∧ e ∈ o.after ∧ e.on = j ∧ Region.binds .any e = true := by
  unfold childB at h
  have h1 := List.all_eq_true.1 h j (List.mem_range.2 (by omega))
  obtain ⟨i, hi, h2⟩ := List.any_eq_true.1 h1
  have hi := List.mem_range.1 hi
  have ho : ops[i]? = some ops[i] := Array.getElem?_eq_getElem hi
  rw [ho] at h2
  simp only [Option.map_some, Option.getD_some] at h2
  obtain ⟨k, hk, h3⟩ := Array.any_eq_true.1 h2
  simp only [Bool.and_eq_true, beq_iff_eq] at h3
  exact ⟨i, _, _, ho, Array.getElem_mem hk, h3.1, h3.2⟩
/-- once what the last operation waits for has come up, all have -/
theorem all_listed {l : Array Bool} {n : Nat} (hn : ops.size = n + 1) (hB : backB ops = true) (hC : childB ops = true) (hcl : ∀ (i : Nat) (o : Oper), ops[i]? = some o → l[i]? = some true → ∀ e ∈ o.after, Region.binds .any e = true → l[e.on]? = some true)
    (hl : ∀ o, ops[n]? = some o → ∀ e ∈ o.after, Region.binds .any e = true → l[e.on]? = some true) : ∀ d j, j + d + 1 = n → l[j]? = some true := by
  intro d
  induction d using Nat.strongRecOn with
  | ind d ih =>
    intro j hj
    obtain ⟨i, o, e, ho, he, hej, hb⟩ := childB_spec hC (j := j) (by omega)
    have hlt := backB_spec hB ho e he
    have hio := (Array.getElem?_eq_some_iff.1 ho).1
    rw [hej] at hlt
    by_cases hin : i = n
    · subst hin
      have := hl o ho e he hb
      rwa [hej] at this
    · have h1 := ih (n - i - 1) (by omega) i (by omega)
      have := hcl i o ho h1 e he hb
      rwa [hej] at this
/-- for each operation but the last what holds of its value (and of those that it waits for); how worlds go on (Le); what holds of each world (E); the last operation, for which all others wait, comes behind -/
theorem wp_region_T {id : Nat} {a : Act} {w : World} (n : Nat) (last : Oper) (hn : ops.size = n + 1) (hlast : ops[n]? = some last) (hm : P.follows .mixedOrders = true) (hB : backB ops = true) (hG : plainB ops = true) (hC : childB ops = true)
    (mk : (Nat → Value) → Act) (u0 : Nat → Value) (ha : a = mk u0) (hput : ∀ (i : Nat) (o : Oper), ops[i]? = some o → i < n → ∀ u v, (mk u).put o.dst v = mk (upd u i v))
    (S : Nat → (Nat → Value) → World → Prop) (E : Array Bool → (Nat → Value) → World → Prop) (Le : Nat → (Nat → Value) → World → World → Prop)
    (hE0 : E (Array.replicate ops.size false) u0 { w with drawn := w.drawn + 1 })
    (hst : ∀ l i j u w w', i ≠ j → i < n → E l u w → l[j]? = some false → S i u w → Le j u w w' → S i u w')
    (hloc : ∀ (i : Nat) (o : Oper), ops[i]? = some o → i < n → ∀ j u v w, j ≠ i → (∀ e ∈ o.after, Region.binds .any e = true → e.on ≠ j) → S i u w → S i (upd u j v) w)
    (hop : ∀ (i : Nat) (o : Oper), ops[i]? = some o → i < n → ∀ l u w, E l u w → l[i]? = some false → (∀ e ∈ o.after, Region.binds .any e = true → S e.on u w) → ∀ K : Act → World → Prop, (∀ v w', E (l.setIfInBounds i true) (upd u i v) w' → Le i u w w' → S i (upd u i v) w' → K ((mk u).put o.dst v) w') → o.wp P (mk u) w K Q)
    (hend : ∀ l u w, E l u w → (∀ i, i < n → S i u w) → ∀ K : Act → World → Prop, (∀ a' w', Q .normal a' w' → K a' w') → last.wp P (mk u) w K Q) : (Code.region id ops true).wp P Q a w := by
  refine wp_region_any hm ?_
  refine wpAny_inv (Inv := fun l a w => (∀ (i : Nat) (o : Oper), ops[i]? = some o → l[i]? = some true → ∀ e ∈ o.after, Region.binds .any e = true → l[e.on]? = some true) ∧
    ((l[n]? = some false ∧ ∃ u, a = mk u ∧ E l u w ∧ ∀ i, i < n → l[i]? = some true → S i u w) ∨ ((∀ i, i < ops.size → l[i]? = some true) ∧ Q .normal a w))) hB ?_ ?_ _ _ _ _ (by simp) ?_ ?_
  · rintro l a w i o ⟨hcl, hI⟩ hl ho hf hp
    have hio := (Array.getElem?_eq_some_iff.1 ho).1
    have hg : o.guard = none := by
      have h1 := Array.all_eq_true_iff_forall_mem.1 hG o (Array.mem_of_getElem? ho)
      simpa using h1
    rcases hI with ⟨hln, u, rfl, hE, hS⟩ | ⟨hall, _⟩
    · have hw : Region.wanted o (yielded ops (mk u).tmps) = true := by simp [Region.wanted, hg]
      have hcl' : ∀ (k : Nat) (ok : Oper), ops[k]? = some ok → (l.setIfInBounds i true)[k]? = some true → ∀ e ∈ ok.after, Region.binds .any e = true → (l.setIfInBounds i true)[e.on]? = some true := by
        intro k ok hok hk e he hb
        have h5 : l[e.on]? = some true := by
          by_cases hki : k = i
          · subst hki
            rw [ho] at hok
            injection hok with hok
            subst hok
            exact hp e he hb
          · rw [Array.getElem?_setIfInBounds_ne (fun e => hki e.symm)] at hk
            exact hcl k ok hok hk e he hb
        by_cases hei : e.on = i
        · rw [hei] at h5
          rw [hf] at h5
          cases h5
        · rw [Array.getElem?_setIfInBounds_ne (fun e => hei e.symm)]
          exact h5
      unfold wpOp
      rw [ho]
      simp only [hw, if_true]
      by_cases hin : i = n
      · subst hin
        rw [hlast] at ho
        injection ho with ho
        subst ho
        have hall := all_listed hn hB hC hcl (fun o2 ho2 => by rw [hlast] at ho2; injection ho2 with ho2; subst ho2; exact hp)
        refine .inl (hend l u w hE (fun k hk => hS k hk (hall (i - k - 1) k (by omega))) _ fun a' w' hq => ⟨hcl', .inr ⟨fun k hk => ?_, hq⟩⟩)
        by_cases hki : k = i
        · subst hki
          rw [Array.getElem?_setIfInBounds_self, if_pos (by omega)]
        · rw [Array.getElem?_setIfInBounds_ne (fun e => hki e.symm)]
          exact hall (i - k - 1) k (by omega)
      · have hlt : i < n := by omega
        refine .inl (hop i o ho hlt l u w hE hf (fun e he hb => hS e.on (by have := backB_spec hB ho e he; omega) (hp e he hb)) _ fun v w' hE' hle hSi => ?_)
        refine ⟨hcl', .inl ⟨by rw [Array.getElem?_setIfInBounds_ne hin]; exact hln, upd u i v, hput i o ho hlt u v, hE', ?_⟩⟩
        intro k hkn hk
        by_cases hki : k = i
        · subst hki; exact hSi
        · rw [Array.getElem?_setIfInBounds_ne (fun e => hki e.symm)] at hk
          have hok : ops[k]? = some ops[k] := Array.getElem?_eq_getElem (by omega)
          refine hloc k _ hok hkn i u v w' (fun e => hki e.symm) (fun e he hb hei => ?_) (hst l k i _ _ _ hki hkn hE hf (hS k hkn hk) hle)
          have := hcl k _ hok hk e he hb
          rw [hei, hf] at this
          cases this
    · rw [hall i hio] at hf
      cases hf
  · rintro l a w ⟨_, hI⟩ hl hall
    rcases hI with ⟨hln, _⟩ | ⟨_, hq⟩
    · rw [hall n (by omega)] at hln
      cases hln
    · exact hq
  · have : (Array.replicate ops.size false).toList.count false = ops.size := by simp
    omega
  · refine ⟨fun i o ho hi => ?_, .inl ⟨by simp [hn], u0, ha, hE0, fun i _ hi => ?_⟩⟩
    · have := (Array.getElem?_eq_some_iff.1 hi).2
      simp at this
    · have := (Array.getElem?_eq_some_iff.1 hi).2
      simp at this
/-- for each operation what holds of its value (and of those that it waits for); how worlds go on (Le); what holds of each world (E) -/
theorem wp_region_S {id : Nat} {a : Act} {w : World} (hm : P.follows .mixedOrders = true) (hB : backB ops = true) (hG : plainB ops = true)
    (mk : (Nat → Value) → Act) (u0 : Nat → Value) (ha : a = mk u0) (hput : ∀ (i : Nat) (o : Oper), ops[i]? = some o → ∀ u v, (mk u).put o.dst v = mk (upd u i v))
    (S : Nat → (Nat → Value) → World → Prop) (E : (Nat → Value) → World → Prop) (Le : Nat → (Nat → Value) → World → World → Prop)
    (hE0 : E u0 { w with drawn := w.drawn + 1 })
    (hst : ∀ i j u w w', i ≠ j → E u w → S i u w → Le j u w w' → S i u w')
    (hloc : ∀ (i : Nat) (o : Oper), ops[i]? = some o → ∀ j u v w, j ≠ i → (∀ e ∈ o.after, Region.binds .any e = true → e.on ≠ j) → S i u w → S i (upd u j v) w)
    (hop : ∀ (i : Nat) (o : Oper), ops[i]? = some o → ∀ u w, E u w → (∀ e ∈ o.after, Region.binds .any e = true → S e.on u w) → ∀ K : Act → World → Prop, (∀ v w', E (upd u i v) w' → Le i u w w' → S i (upd u i v) w' → K ((mk u).put o.dst v) w') → o.wp P (mk u) w K Q)
    (hend : ∀ u w, E u w → (∀ i, i < ops.size → S i u w) → Q .normal (mk u) w) : (Code.region id ops true).wp P Q a w := by
  refine wp_region_any hm ?_
  refine wpAny_inv (Inv := fun l a w => (∀ (i : Nat) (o : Oper), ops[i]? = some o → l[i]? = some true → ∀ e ∈ o.after, Region.binds .any e = true → l[e.on]? = some true) ∧ ∃ u, a = mk u ∧ E u w ∧ ∀ i, l[i]? = some true → S i u w) hB ?_ ?_ _ _ _ _ (by simp) ?_ ?_
  · rintro l a w i o ⟨hcl, u, rfl, hE, hS⟩ hl ho hf hp
    have hio := (Array.getElem?_eq_some_iff.1 ho).1
    have hg : o.guard = none := by
      have h1 := Array.all_eq_true_iff_forall_mem.1 hG o (Array.mem_of_getElem? ho)
      simpa using h1
    have hw : Region.wanted o (yielded ops (mk u).tmps) = true := by simp [Region.wanted, hg]
    unfold wpOp
    rw [ho]
    simp only [hw, if_true]
    refine .inl (hop i o ho u w hE (fun e he hb => hS e.on (hp e he hb)) _ fun v w' hE' hle hSi => ?_)
    refine ⟨?_, upd u i v, hput i o ho u v, hE', ?_⟩
    · intro k ok hok hk e he hb
      by_cases hki : k = i
      · subst hki
        rw [ho] at hok
        injection hok with hok
        subst hok
        have hlt := backB_spec hB ho e he
        rw [Array.getElem?_setIfInBounds_ne (by omega)]
        exact hp e he hb
      · rw [Array.getElem?_setIfInBounds_ne (fun e => hki e.symm)] at hk
        have h5 := hcl k ok hok hk e he hb
        by_cases hei : e.on = i
        · rw [hei, Array.getElem?_setIfInBounds_self]
          rw [if_pos (by omega)]
        · rw [Array.getElem?_setIfInBounds_ne (fun e => hei e.symm)]
          exact h5
    · intro k hk
      by_cases hki : k = i
      · subst hki; exact hSi
      · rw [Array.getElem?_setIfInBounds_ne (fun e => hki e.symm)] at hk
        have hkl : k < ops.size := by have := (Array.getElem?_eq_some_iff.1 hk).1; omega
        have hok : ops[k]? = some ops[k] := Array.getElem?_eq_getElem hkl
        refine hloc k _ hok i u v w' (fun e => hki e.symm) (fun e he hb hei => ?_) (hst k i _ _ _ hki hE (hS k hk) hle)
        have := hcl k _ hok hk e he hb
        rw [hei, hf] at this
        cases this
  · rintro l a w ⟨_, u, rfl, hE, hS⟩ hl hall
    exact hend u w hE fun i hi => hS i (hall i hi)
  · have : (Array.replicate ops.size false).toList.count false = ops.size := by simp
    omega
  · refine ⟨fun i o ho hi => ?_, u0, ha, hE0, fun i hi => ?_⟩
    · have := (Array.getElem?_eq_some_iff.1 hi).2
      simp at this
    · have := (Array.getElem?_eq_some_iff.1 hi).2
      simp at this
/-- a frame with k slots from D on that hold the values u -/
def mkAt (a : Act) (D k : Nat) (u : Nat → Value) : Act := { a with tmps := (a.tmps.toList.take D ++ (List.range k).map u ++ a.tmps.toList.drop (D + k)).toArray }
theorem mkAt_get (a : Act) {D k : Nat} (u : Nat → Value) (hs : D + k ≤ a.tmps.size) (t : Nat) : (mkAt a D k u).tmps[t]? = if t < D then a.tmps[t]? else if t < D + k then some (u (t - D)) else a.tmps[t]? := by
  unfold mkAt
  simp only [List.getElem?_toArray]
  have hl : (a.tmps.toList.take D).length = D := by simp; omega
  have hl2 : (a.tmps.toList.take D ++ (List.range k).map u).length = D + k := by simp; omega
  by_cases h1 : t < D
  · rw [if_pos h1, List.append_assoc, List.getElem?_append_left (by omega), List.getElem?_take_of_lt h1]
    simp
  · rw [if_neg h1]
    by_cases h2 : t < D + k
    · rw [if_pos h2, List.getElem?_append_left (by omega), List.getElem?_append_right (by omega), hl]
      rw [List.getElem?_map, List.getElem?_range (by omega)]
      rfl
    · rw [if_neg h2, List.getElem?_append_right (by omega), hl2, List.getElem?_drop, show D + k + (t - (D + k)) = t by omega]
      simp
theorem mkAt_eval (a : Act) {D k : Nat} (u : Nat → Value) (hs : D + k ≤ a.tmps.size) {t : Nat} (h : t < D) : (mkAt a D k u).eval (.tmp t) = a.eval (.tmp t) := by
  show (mkAt a D k u).tmps.getD t undef = a.tmps.getD t undef
  rw [Array.getD_eq_getD_getElem?, Array.getD_eq_getD_getElem?, mkAt_get a u hs t, if_pos h]
theorem mkAt_eval_in (a : Act) {D k : Nat} (u : Nat → Value) (hs : D + k ≤ a.tmps.size) {i : Nat} (h : i < k) : (mkAt a D k u).eval (.tmp (D + i)) = u i := by
  show (mkAt a D k u).tmps.getD (D + i) undef = u i
  rw [Array.getD_eq_getD_getElem?, mkAt_get a u hs (D + i), if_neg (show ¬ D + i < D by omega), if_pos (show D + i < D + k by omega), show D + i - D = i by omega]
  rfl
theorem mkAt_put (a : Act) {D k : Nat} (u : Nat → Value) (hs : D + k ≤ a.tmps.size) {i : Nat} (h : i < k) (v : Value) : (mkAt a D k u).put (some (D + i)) v = mkAt a D k (upd u i v) := by
  have e : ((mkAt a D k u).tmps.setIfInBounds (D + i) v) = (mkAt a D k (upd u i v)).tmps := by
    apply Array.ext_getElem?
    intro t
    rw [Array.getElem?_setIfInBounds]
    have hsz : (mkAt a D k u).tmps.size = a.tmps.size := by unfold mkAt; simp; omega
    rw [hsz, mkAt_get a u hs, mkAt_get a (upd u i v) hs]
    by_cases ht : D + i = t
    · subst ht
      rw [if_pos rfl, if_pos (by omega), if_neg (by omega), if_pos (by omega), show D + i - D = i by omega, upd_self]
    · rw [if_neg ht]
      by_cases h1 : t < D
      · rw [if_pos h1, if_pos h1]
      · rw [if_neg h1, if_neg h1]
        by_cases h2 : t < D + k
        · rw [if_pos h2, if_pos h2, upd_ne (by omega)]
        · rw [if_neg h2, if_neg h2]
  unfold Act.put
  show ({ mkAt a D k u with tmps := (mkAt a D k u).tmps.setIfInBounds (D + i) v } : Act) = _
  rw [e]
  rfl
theorem mkAt_self (a : Act) {D k : Nat} (hs : D + k ≤ a.tmps.size) : a = mkAt a D k (fun i => a.tmps.getD (D + i) undef) := by
  have e : a.tmps = (mkAt a D k (fun i => a.tmps.getD (D + i) undef)).tmps := by
    apply Array.ext_getElem?
    intro t
    rw [mkAt_get a _ hs]
    by_cases h1 : t < D
    · rw [if_pos h1]
    · rw [if_neg h1]
      by_cases h2 : t < D + k
      · rw [if_pos h2, Array.getD_eq_getD_getElem?, show D + (t - D) = t by omega, Array.getElem?_eq_getElem (by omega)]
        rfl
      · rw [if_neg h2]
  have : mkAt a D k (fun i => a.tmps.getD (D + i) undef) = { a with tmps := (mkAt a D k (fun i => a.tmps.getD (D + i) undef)).tmps } := rfl
  rw [this, ← e]
theorem wp_val {P : Program} {o : Oper} {a : Act} {w w' : World} {K : Act → World → Prop} {Q : Exit → Act → World → Prop} (v : Value) (hr : (execOp a.eval o).run P w = .ok (.value v) w') (h : K (a.put o.dst v) w') : o.wp P a w K Q := by
  unfold Oper.wp; rw [hr]; exact h
theorem wp_skip {P : Program} {o : Oper} {a : Act} {w w' : World} {K : Act → World → Prop} {Q : Exit → Act → World → Prop} (hr : (execOp a.eval o).run P w = .ok .skip w') (h : K (a.put o.dst undef) w') : o.wp P a w K Q := by
  unfold Oper.wp; rw [hr]; exact h
theorem wp_call {P : Program} {o : Oper} {a : Act} {w w' : World} {K : Act → World → Prop} {Q : Exit → Act → World → Prop} (f : FuncId) (args : Array Value) (hr : (execOp a.eval o).run P w = .ok (.enter f args) w') (h : Calls P f args w' (fun e w'' => ∃ v, e = .returned v ∧ K (a.put o.dst v) w'')) : o.wp P a w K Q := by
  unfold Oper.wp; rw [hr]
  exact h.mono fun e w'' ⟨v, he, hk⟩ => by subst he; exact hk
end
end Go.Proofs.YtldchpmilknlmaaGreat
