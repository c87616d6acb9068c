/-
  That the reference's way to find whether messages flow (a set of places that grows until it stays the same) and the way by rows agree. It speaks of no program; no condition.
-/
import Derived.Test.YtifmcdnaaaphmaaFlow
namespace Go.Proofs.Ytifmcdnaaaphmaa
open Go.RowKit
inductive Rch (c : Cfg) (f : Int) : Nat → Prop
  | one {k : Nat} : k < c.parts.length → sendsB c f (pid c k) = true → Rch c f k
  | step {j k : Nat} : Rch c f j → k < c.parts.length → sendsB c (pid c j) (pid c k) = true → Rch c f k
theorem Rch.lt {c : Cfg} {f : Int} {k : Nat} (h : Rch c f k) : k < c.parts.length := by
  cases h with
  | one h _ => exact h
  | step _ h _ => exact h
theorem mem_row {c : Cfg} {i : Nat} {x : Int} : x ∈ rowTo c i c.parts.length ↔ ∃ n : Nat, x = (n : Int) ∧ n < c.parts.length ∧ sendsB c (pid c i) (pid c n) = true := by
  unfold rowTo
  rw [List.mem_map]
  constructor
  · rintro ⟨n, hn, rfl⟩
    rw [List.mem_filter, List.mem_range] at hn
    exact ⟨n, rfl, hn.1, hn.2⟩
  · rintro ⟨n, rfl, h1, h2⟩
    exact ⟨n, List.mem_filter.2 ⟨List.mem_range.2 h1, h2⟩, rfl⟩
theorem rowOf_mat {c : Cfg} {i : Nat} (hi : i < c.parts.length) : rowOf (matRows c) (i : Int) = rowTo c i c.parts.length := by
  apply rowOf_at
  unfold matRows matTo
  rw [List.getElem?_map, List.getElem?_range hi]; rfl
theorem path_rch {c : Cfg} {i : Nat} (hi : i < c.parts.length) {x : Int} (h : Path (matRows c) (i : Int) x) : ∃ k : Nat, x = (k : Int) ∧ Rch c (pid c i) k := by
  induction h with
  | one hk =>
    rw [rowOf_mat hi, mem_row] at hk
    obtain ⟨n, rfl, h1, h2⟩ := hk
    exact ⟨n, rfl, .one h1 h2⟩
  | step _ hk ih =>
    obtain ⟨j, rfl, hj⟩ := ih
    rw [rowOf_mat hj.lt, mem_row] at hk
    obtain ⟨n, rfl, h1, h2⟩ := hk
    exact ⟨n, rfl, .step hj h1 h2⟩
theorem rch_path {c : Cfg} {i k : Nat} (hi : i < c.parts.length) (h : Rch c (pid c i) k) : Path (matRows c) (i : Int) (k : Int) := by
  induction h with
  | one h1 h2 => exact .one (by rw [rowOf_mat hi, mem_row]; exact ⟨_, rfl, h1, h2⟩)
  | step hj h1 h2 ih => exact .step ih (by rw [rowOf_mat hj.lt, mem_row]; exact ⟨_, rfl, h1, h2⟩)
theorem no_from {c : Cfg} (hr : rightB c = true) {f : Int} (h : idx (fun x => x.id == f) c.parts = -1) (t : Int) : sendsB c f t = false := by
  rw [Bool.eq_false_iff]
  intro e
  obtain ⟨x, hx, h1, _⟩ := sends_iff.1 e
  have := (right_owned hr x hx).1
  unfold ownerOf at this
  rw [h1, h] at this
  omega
theorem flow_rch {c : Cfg} (hr : rightB c = true) {f t : Int} {k : Nat} (ht : idx (fun x => x.id == t) c.parts = (k : Int)) : flowB c f t = true ↔ Rch c f k := by
  rcases idx_cases (fun x => x.id == f) c.parts with ⟨h1, _⟩ | ⟨i, x, h1, hi, hx, _, hp⟩
  · rw [flowB_no1 h1]
    constructor
    · intro e; cases e
    · intro e
      exfalso
      have hno : ∀ k, ¬ Rch c f k := by
        intro k h
        induction h with
        | one _ h2 => rw [no_from hr h1] at h2; cases h2
        | step _ _ _ ih => exact ih
      exact hno _ e
  · have hpi : pid c i = f := by rw [pid_at hx]; simpa using hp
    constructor
    · intro e
      by_cases hq : Path (matRows c) (i : Int) (k : Int)
      · obtain ⟨j, hj, hR⟩ := path_rch hi hq
        obtain rfl : k = j := by omega
        rwa [hpi] at hR
      · rw [flowB_not h1 ht hq] at e; cases e
    · intro e
      exact flowB_yes h1 ht (rch_path hi (by rw [hpi]; exact e))
/-- whether a place is hit: from the start, or from one of the first m places that have been seen -/
def anyS (c : Cfg) (bs : List Bool) (k m : Nat) : Bool := (List.range m).any fun i => (bs[i]?).getD false && sendsB c (pid c i) (pid c k)
def hitB (c : Cfg) (f : Int) (bs : List Bool) (k m : Nat) : Bool := sendsB c f (pid c k) || anyS c bs k m
theorem hitB_zero (c : Cfg) (f : Int) (bs : List Bool) (k : Nat) : hitB c f bs k 0 = sendsB c f (pid c k) := by simp [hitB, anyS]
theorem hitB_next {c : Cfg} {f : Int} {bs : List Bool} {k m : Nat} {b : Bool} (h : bs[m]? = some b) : hitB c f bs k (m + 1) = (hitB c f bs k m || (b && sendsB c (pid c m) (pid c k))) := by
  unfold hitB anyS
  rw [List.range_succ, List.any_append]
  simp only [List.any_cons, List.any_nil, Bool.or_false, h, Option.getD_some]
  rw [Bool.or_assoc]
theorem hit_rch {c : Cfg} {f : Int} {bs : List Bool} {k m : Nat} (hk : k < c.parts.length) (h1 : ∀ i, bs[i]? = some true → Rch c f i) (h : hitB c f bs k m = true) : Rch c f k := by
  unfold hitB anyS at h
  rw [Bool.or_eq_true] at h
  rcases h with h | h
  · exact .one hk h
  · rw [List.any_eq_true] at h
    obtain ⟨i, _, hi⟩ := h
    rw [Bool.and_eq_true] at hi
    rcases hb : bs[i]? with _ | b
    · rw [hb] at hi; simp at hi
    · rw [hb] at hi
      simp at hi
      obtain ⟨rfl, h2⟩ := hi
      exact .step (h1 i hb) hk h2
theorem closed_all {c : Cfg} {f : Int} {bs : List Bool} (hl : bs.length = c.parts.length) (h2 : ∀ k, bs[k]? = some false → hitB c f bs k c.parts.length = false) {k : Nat} (h : Rch c f k) : bs[k]? = some true := by
  have aux : ∀ {k : Nat}, k < c.parts.length → hitB c f bs k c.parts.length = true → bs[k]? = some true := by
    intro k hk hh
    obtain ⟨b, hb⟩ : ∃ b, bs[k]? = some b := ⟨_, List.getElem?_eq_getElem (by omega)⟩
    cases b with
    | true => exact hb
    | false => rw [h2 k hb] at hh; cases hh
  induction h with
  | one hk hs => exact aux hk (by unfold hitB; rw [hs]; rfl)
  | step hj hk hs ih =>
    rename_i j k'
    refine aux hk ?_
    unfold hitB anyS
    rw [Bool.or_eq_true, List.any_eq_true]
    exact .inr ⟨j, List.mem_range.2 hj.lt, by rw [ih, hs]; rfl⟩
theorem flow_seen {c : Cfg} (hr : rightB c = true) {f t : Int} {bs : List Bool} (hl : bs.length = c.parts.length) (h1 : ∀ i, bs[i]? = some true → Rch c f i) (h2 : ∀ k, bs[k]? = some false → hitB c f bs k c.parts.length = false)
    {k : Nat} (ht : idx (fun x => x.id == t) c.parts = (k : Int)) {b : Bool} (hb : bs[k]? = some b) : flowB c f t = b := by
  cases b with
  | true => exact (flow_rch hr ht).2 (h1 k hb)
  | false =>
    rw [Bool.eq_false_iff]
    intro e
    have := closed_all hl h2 ((flow_rch hr ht).1 e)
    rw [hb] at this
    cases this
def cntN (bs : List Bool) : Nat := bs.countP (fun b => !b)
theorem cntN_set : ∀ {bs : List Bool} {k : Nat}, bs[k]? = some false → cntN (bs.set k true) + 1 = cntN bs
  | [], k, h => by simp at h
  | b :: r, 0, h => by
    simp at h; subst h
    simp [cntN]
  | b :: r, k + 1, h => by
    have h' : r[k]? = some false := by simpa using h
    have := cntN_set h'
    unfold cntN at this ⊢
    rw [List.set_cons_succ, List.countP_cons, List.countP_cons]
    omega
/-- what a pass over the places has come to: bs0 stood at its start -/
structure Pass (c : Cfg) (f : Int) (bs0 bs : List Bool) (k : Nat) (gr : Bool) : Prop where
  len : bs.length = c.parts.length
  rch : ∀ i, bs[i]? = some true → Rch c f i
  cnt : cntN bs ≤ cntN bs0
  yes : gr = true → cntN bs < cntN bs0
  no : gr = false → bs = bs0 ∧ ∀ j, j < k → bs[j]? = some false → hitB c f bs j c.parts.length = false
theorem Pass.start {c : Cfg} {f : Int} {bs : List Bool} (hl : bs.length = c.parts.length) (h1 : ∀ i, bs[i]? = some true → Rch c f i) : Pass c f bs bs 0 false :=
  ⟨hl, h1, Nat.le_refl _, fun h => Bool.noConfusion h, fun _ => ⟨rfl, fun j hj => absurd hj (Nat.not_lt_zero j)⟩⟩
theorem Pass.skip {c : Cfg} {f : Int} {bs0 bs : List Bool} {k : Nat} {gr : Bool} (h : Pass c f bs0 bs k gr) (hb : bs[k]? = some true) : Pass c f bs0 bs (k + 1) gr :=
  ⟨h.len, h.rch, h.cnt, h.yes, fun e => ⟨(h.no e).1, fun j hj hf => by
    rcases Nat.lt_or_ge j k with hl | hl
    · exact (h.no e).2 j hl hf
    · obtain rfl : j = k := by omega
      rw [hb] at hf; cases hf⟩⟩
theorem Pass.miss {c : Cfg} {f : Int} {bs0 bs : List Bool} {k : Nat} {gr : Bool} (h : Pass c f bs0 bs k gr) (hh : hitB c f bs k c.parts.length = false) : Pass c f bs0 bs (k + 1) gr :=
  ⟨h.len, h.rch, h.cnt, h.yes, fun e => ⟨(h.no e).1, fun j hj hf => by
    rcases Nat.lt_or_ge j k with hl | hl
    · exact (h.no e).2 j hl hf
    · obtain rfl : j = k := by omega
      exact hh⟩⟩
theorem Pass.hit {c : Cfg} {f : Int} {bs0 bs : List Bool} {k : Nat} {gr : Bool} (h : Pass c f bs0 bs k gr) (hk : k < c.parts.length) (hb : bs[k]? = some false) (hh : hitB c f bs k c.parts.length = true) : Pass c f bs0 (bs.set k true) (k + 1) true := by
  have hc := cntN_set hb
  refine ⟨by rw [List.length_set]; exact h.len, fun i hi => ?_, (by have := h.cnt; omega), fun _ => (by have := h.cnt; omega), fun e => Bool.noConfusion e⟩
  by_cases hik : k = i
  · subst hik; exact hit_rch hk h.rch hh
  · rw [List.getElem?_set_ne hik] at hi; exact h.rch i hi
theorem Pass.end_ {c : Cfg} {f : Int} {bs0 bs : List Bool} (h : Pass c f bs0 bs c.parts.length false) : ∀ k, bs[k]? = some false → hitB c f bs k c.parts.length = false := fun k hk =>
  (h.no rfl).2 k (by rw [← h.len]; exact (List.getElem?_eq_some_iff.1 hk).1) hk
def isF : Value → Bool
  | .bool false => true
  | _ => false
@[irreducible] def boolsV (bs : List Bool) : Array Value := (bs.map Value.bool).toArray
theorem boolsV_eq (bs : List Bool) : boolsV bs = (bs.map Value.bool).toArray := by unfold boolsV; rfl
def cntF (w : World) (g : Nat) : Nat := match w.heap[g]? with
  | some (.cells cs _ _) => cs.toList.countP isF
  | _ => 0
theorem Blk.cntF {w : World} {g : Nat} {t : TypeId} {bs : List Bool} (h : Blk w g t (boolsV bs)) : cntF w g = cntN bs := by
  unfold Go.Proofs.Ytifmcdnaaaphmaa.cntF cntN
  rw [show w.heap[g]? = some (.cells (boolsV bs) t (0, 0)) from h, boolsV_eq]
  show List.countP isF (bs.map Value.bool) = _
  rw [List.countP_map]
  congr 1
  funext b
  cases b <;> rfl
theorem bools_cell {w : World} {g : Nat} {t : TypeId} {bs : List Bool} {k : Nat} {b : Bool} (h : Blk w g t (boolsV bs)) (hb : bs[k]? = some b) : w.cell? ⟨g, k, none⟩ = some (.bool b) := by
  rw [h.cell, boolsV_eq]; simp [hb]
theorem bools_set {w : World} {g : Nat} {t : TypeId} {bs : List Bool} {k : Nat} {b : Bool} (h : Blk w g t (boolsV bs)) : Blk (w.setCell ⟨g, k, none⟩ (.bool b)) g t (boolsV (bs.set k b)) := by
  have := h.set_ k (.bool b)
  rw [boolsV_eq] at this ⊢
  rw [List.map_set, ← List.setIfInBounds_toArray]
  exact this
theorem path_trans {m : List (List Int)} {i j k : Int} (h1 : Path m i j) (h2 : Path m j k) : Path m i k := by
  induction h2 with
  | one hk => exact .step h1 hk
  | step _ hk ih => exact .step ih hk
theorem flow_trans {c : Cfg} {p q r : Int} (h1 : flowB c p q = true) (h2 : flowB c q r = true) : flowB c p r = true := by
  unfold flowB at h1 h2 ⊢
  have h1 := @of_decide_eq_true _ (Classical.propDecidable _) h1
  have h2 := @of_decide_eq_true _ (Classical.propDecidable _) h2
  exact @decide_eq_true _ (Classical.propDecidable _) ⟨h1.1, h2.2.1, path_trans h1.2.2 h2.2.2⟩
end Go.Proofs.Ytifmcdnaaaphmaa
