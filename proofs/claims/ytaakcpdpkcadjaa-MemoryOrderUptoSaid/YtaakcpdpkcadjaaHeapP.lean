/-
  Heaps as lists: what sifting down and up keeps. Plain lists; no program in sight; no condition.
-/
import Derived.Test.YtaakcpdpkcadjaaBase
namespace Go.Proofs.Ytaakcpdpkcadjaa
structure Itm where
  lo : Int
  len : Int
  idx : Int
instance : Inhabited Itm := ⟨⟨0, 0, 0⟩⟩
section
variable {α : Type}
/-- the key of the j-th element -/
def kv (key : α → Int) (l : List α) (j : Nat) : Int := match l[j]? with
  | some x => key x
  | none => 0
def swp (l : List α) (i j : Nat) : List α := match l[i]?, l[j]? with
  | some x, some y => (l.set i y).set j x
  | _, _ => l
theorem kv_at {key : α → Int} {l : List α} {j : Nat} {x : α} (h : l[j]? = some x) : kv key l j = key x := by simp [kv, h]
theorem swp_eq {l : List α} {i j : Nat} {x y : α} (hx : l[i]? = some x) (hy : l[j]? = some y) : swp l i j = (l.set i y).set j x := by simp [swp, hx, hy]
theorem swp_len (l : List α) (i j : Nat) : (swp l i j).length = l.length := by
  unfold swp
  split <;> simp
theorem swp_get {l : List α} {i j : Nat} (hi : i < l.length) (hj : j < l.length) (k : Nat) : (swp l i j)[k]? = if k = j then l[i]? else if k = i then l[j]? else l[k]? := by
  obtain ⟨x, hx⟩ : ∃ x, l[i]? = some x := ⟨_, List.getElem?_eq_getElem hi⟩
  obtain ⟨y, hy⟩ : ∃ y, l[j]? = some y := ⟨_, List.getElem?_eq_getElem hj⟩
  rw [swp_eq hx hy]
  by_cases h1 : k = j
  · subst h1
    rw [if_pos rfl, List.getElem?_set_self (by simpa using hj), hx]
  · rw [if_neg h1, List.getElem?_set_ne (fun e => h1 e.symm)]
    by_cases h2 : k = i
    · subst h2
      rw [if_pos rfl, List.getElem?_set_self hi, hy]
    · rw [if_neg h2, List.getElem?_set_ne (fun e => h2 e.symm)]
theorem kv_swp {key : α → Int} {l : List α} {i j : Nat} (hi : i < l.length) (hj : j < l.length) (k : Nat) : kv key (swp l i j) k = if k = j then kv key l i else if k = i then kv key l j else kv key l k := by
  unfold kv
  rw [swp_get hi hj]
  by_cases h1 : k = j
  · rw [if_pos h1, if_pos h1]
  · rw [if_neg h1, if_neg h1]
    by_cases h2 : k = i
    · rw [if_pos h2, if_pos h2]
    · rw [if_neg h2, if_neg h2]
theorem perm_set_cons {l : List α} {i : Nat} {x y : α} (h : l[i]? = some x) : (y :: l).Perm (x :: l.set i y) := by
  induction l generalizing i with
  | nil => simp at h
  | cons z r ih =>
    cases i with
    | zero =>
      simp at h
      subst h
      exact List.Perm.swap _ _ _
    | succ i =>
      have h' : r[i]? = some x := by simpa using h
      rw [List.set_cons_succ]
      exact ((List.Perm.swap _ _ _).trans ((ih h').cons z)).trans (List.Perm.swap _ _ _)
theorem swp_perm (l : List α) (i j : Nat) : (swp l i j).Perm l := by
  rcases hx : l[i]? with _ | x
  · simp [swp, hx]
  · rcases hy : l[j]? with _ | y
    · simp [swp, hx, hy]
    · rw [swp_eq hx hy]
      by_cases hij : i = j
      · subst hij
        rw [hx] at hy; injection hy with hy; subst hy
        rw [List.set_set]
        have hlt := (List.getElem?_eq_some_iff.1 hx)
        obtain ⟨hl, he⟩ := hlt
        rw [← he, List.set_getElem_self]
      · have h1 : (y :: l).Perm (x :: l.set i y) := perm_set_cons hx
        have hy2 : (l.set i y)[j]? = some y := by rw [List.getElem?_set_ne hij]; exact hy
        have h2 : (x :: l.set i y).Perm (y :: (l.set i y).set j x) := perm_set_cons hy2
        exact ((List.perm_cons y).1 (h1.trans h2)).symm
/-- the pairs of a parent at s or behind and a child ahead of n are in order -/
def HeapFrom (key : α → Int) (l : List α) (n s : Nat) : Prop := ∀ j, 0 < j → j < n → s ≤ (j - 1) / 2 → kv key l ((j - 1) / 2) ≤ kv key l j
theorem HeapFrom.less {key : α → Int} {l : List α} {n m s : Nat} (h : HeapFrom key l n s) (hm : m ≤ n) : HeapFrom key l m s := fun j h0 h1 h2 => h j h0 (by omega) h2
theorem HeapFrom.none {key : α → Int} {l : List α} {n s : Nat} (h : n ≤ 2 * s + 1) : HeapFrom key l n s := fun j h0 h1 h2 => by omega
/-- the first is the least -/
theorem heap_min {key : α → Int} {l : List α} {n : Nat} (h : HeapFrom key l n 0) : ∀ j, j < n → kv key l 0 ≤ kv key l j := by
  intro j
  induction j using Nat.strongRecOn with
  | _ j ih =>
    intro hj
    rcases Nat.eq_zero_or_pos j with h0 | h0
    · subst h0; exact Int.le_refl _
    · exact Int.le_trans (ih ((j - 1) / 2) (by omega) (by omega)) (h j h0 hj (Nat.zero_le _))
theorem heap_append {key : α → Int} {l m : List α} {n s : Nat} (hn : n ≤ l.length) : HeapFrom key (l ++ m) n s ↔ HeapFrom key l n s := by
  have e : ∀ j, j < n → kv key (l ++ m) j = kv key l j := fun j hj => by unfold kv; rw [List.getElem?_append_left (by omega)]
  constructor
  · intro h j h0 h1 h2
    have := h j h0 h1 h2
    rwa [e _ h1, e _ (by omega)] at this
  · intro h j h0 h1 h2
    rw [e _ h1, e _ (by omega)]
    exact h j h0 h1 h2
/-- where sifting down stands: the element at i may be too great for its children -/
structure DnInv (key : α → Int) (l0 l : List α) (n i0 i : Nat) : Prop where
  len : l.length = l0.length
  perm : l.Perm l0
  tail : ∀ j, n ≤ j → l[j]? = l0[j]?
  nl : n ≤ l0.length
  ge : i0 ≤ i
  up : i ≠ i0 → i0 ≤ (i - 1) / 2
  c1 : ∀ j, 0 < j → j < n → i0 ≤ (j - 1) / 2 → (j - 1) / 2 ≠ i → kv key l ((j - 1) / 2) ≤ kv key l j
  c2 : i ≠ i0 → ∀ j, 0 < j → j < n → (j - 1) / 2 = i → kv key l ((i - 1) / 2) ≤ kv key l j
theorem DnInv.start {key : α → Int} {l : List α} {n i0 : Nat} (hn : n ≤ l.length) (h : HeapFrom key l n (i0 + 1)) : DnInv key l l n i0 i0 :=
  ⟨rfl, List.Perm.refl _, fun _ _ => rfl, hn, Nat.le_refl _, fun h => absurd rfl h, fun j h0 h1 h2 h3 => h j h0 h1 (by omega), fun h => absurd rfl h⟩
theorem DnInv.done {key : α → Int} {l0 l : List α} {n i0 i : Nat} (h : DnInv key l0 l n i0 i) (hc : ∀ j, 0 < j → j < n → (j - 1) / 2 = i → kv key l i ≤ kv key l j) : HeapFrom key l n i0 := fun j h0 h1 h2 => by
  by_cases hj : (j - 1) / 2 = i
  · rw [hj]; exact hc j h0 h1 hj
  · exact h.c1 j h0 h1 h2 hj
theorem DnInv.step {key : α → Int} {l0 l : List α} {n i0 i j : Nat} (h : DnInv key l0 l n i0 i) (hj0 : 0 < j) (hj : j < n) (hp : (j - 1) / 2 = i) (hlt : kv key l j < kv key l i) (hmin : ∀ k, 0 < k → k < n → (k - 1) / 2 = i → kv key l j ≤ kv key l k) :
    DnInv key l0 (swp l i j) n i0 j := by
  have hlen := h.len
  have hnl := h.nl
  have hij : i < j := by omega
  have hi : i < l.length := by omega
  have hjl : j < l.length := by omega
  have hge := h.ge
  have e := fun k => kv_swp (key := key) hi hjl k
  refine ⟨by rw [swp_len, hlen], (swp_perm l i j).trans h.perm, fun k hk => ?_, hnl, by omega, fun _ => by omega, fun k h0 h1 h2 h3 => ?_, fun _ k h0 h1 h2 => ?_⟩
  · rw [swp_get hi hjl, if_neg (by omega), if_neg (by omega)]; exact h.tail k hk
  · rw [e, e, if_neg h3]
    by_cases hki : (k - 1) / 2 = i
    · rw [if_pos hki]
      by_cases hkj : k = j
      · rw [if_pos hkj]; omega
      · rw [if_neg hkj, if_neg (by omega)]
        exact hmin k h0 h1 hki
    · rw [if_neg hki]
      by_cases hkj : k = j
      · subst hkj; exact absurd hp hki
      · rw [if_neg hkj]
        by_cases hk : k = i
        · rw [if_pos hk]
          subst hk
          exact h.c2 (by omega) j hj0 hj hp
        · rw [if_neg hk]
          exact h.c1 k h0 h1 h2 hki
  · rw [e, e, hp, if_neg (by omega), if_pos rfl, if_neg (by omega), if_neg (by omega)]
    have := h.c1 k h0 h1 (by omega) (by omega)
    rwa [h2] at this
/-- where sifting up stands: the element at j may be too small for its parent -/
structure UpInv (key : α → Int) (l0 l : List α) (n j : Nat) : Prop where
  len : l.length = l0.length
  perm : l.Perm l0
  nl : n ≤ l0.length
  jn : j < n
  c1 : ∀ k, 0 < k → k < n → k ≠ j → kv key l ((k - 1) / 2) ≤ kv key l k
  c2 : 0 < j → ∀ k, 0 < k → k < n → (k - 1) / 2 = j → kv key l ((j - 1) / 2) ≤ kv key l k
theorem UpInv.start {key : α → Int} {l : List α} {n : Nat} (hn : n + 1 ≤ l.length) (h : HeapFrom key l n 0) : UpInv key l l (n + 1) n :=
  ⟨rfl, List.Perm.refl _, hn, by omega, fun k h0 h1 h2 => h k h0 (by omega) (Nat.zero_le _), fun _ k h0 h1 h2 => by omega⟩
theorem UpInv.done {key : α → Int} {l0 l : List α} {n j : Nat} (h : UpInv key l0 l n j) (hc : j = 0 ∨ kv key l ((j - 1) / 2) ≤ kv key l j) : HeapFrom key l n 0 := fun k h0 h1 _ => by
  by_cases hk : k = j
  · subst hk
    rcases hc with hc | hc
    · omega
    · exact hc
  · exact h.c1 k h0 h1 hk
theorem UpInv.step {key : α → Int} {l0 l : List α} {n j : Nat} (h : UpInv key l0 l n j) (hj0 : 0 < j) (hlt : kv key l j < kv key l ((j - 1) / 2)) : UpInv key l0 (swp l ((j - 1) / 2) j) n ((j - 1) / 2) := by
  have hlen := h.len
  have hnl := h.nl
  have hjn := h.jn
  generalize hi : (j - 1) / 2 = i at *
  have hil : i < l.length := by omega
  have hjl : j < l.length := by omega
  have e := fun k => kv_swp (key := key) hil hjl k
  refine ⟨by rw [swp_len, hlen], (swp_perm l i j).trans h.perm, hnl, by omega, fun k h0 h1 h2 => ?_, fun h0 k h1 h2 h3 => ?_⟩
  · rw [e, e]
    by_cases hkj : k = j
    · subst hkj
      rw [if_pos rfl, hi, if_neg (by omega), if_pos rfl]; omega
    · rw [if_neg hkj, if_neg h2]
      by_cases hpj : (k - 1) / 2 = j
      · rw [if_pos hpj]
        have := h.c2 hj0 k h0 h1 hpj
        rwa [hi] at this
      · rw [if_neg hpj]
        by_cases hpi : (k - 1) / 2 = i
        · rw [if_pos hpi]
          have := h.c1 k h0 h1 hkj
          rw [hpi] at this
          omega
        · rw [if_neg hpi]
          exact h.c1 k h0 h1 hkj
  · have hpi : (i - 1) / 2 ≠ i := by omega
    have hpj : (i - 1) / 2 ≠ j := by omega
    rw [e, e, if_neg hpj, if_neg hpi]
    have hp := h.c1 i h0 (by omega) (by omega)
    by_cases hkj : k = j
    · rw [if_pos hkj]; exact hp
    · rw [if_neg hkj, if_neg (by omega)]
      have := h.c1 k h1 h2 hkj
      rw [h3] at this
      omega
end
end Go.Proofs.Ytaakcpdpkcadjaa
