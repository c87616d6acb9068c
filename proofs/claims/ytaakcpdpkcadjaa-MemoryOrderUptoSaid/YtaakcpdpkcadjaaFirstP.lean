/-
  The least pair of regions that overlap and may not, as a plain law: what sweep.First picks is what the reference finds. It speaks of no program.
-/
import Derived.Test.YtaakcpdpkcadjaaPairsW
import Derived.Test.YtaakcpdpkcadjaaClashP
namespace Go.Proofs.Ytaakcpdpkcadjaa
open Go.RowKit
theorem bad_cases : ∀ (l : List Int) (s : Nat), (bad s l = (0, 0) ∧ ∀ e ∈ l, e = 0) ∨ ∃ (j : Nat) (e : Int), l[j]? = some e ∧ e ≠ 0 ∧ bad s l = (e, ((s + j : Nat) : Int)) ∧ ∀ (i : Nat) (e' : Int), i < j → l[i]? = some e' → e' = 0
  | [], s => .inl ⟨rfl, by simp⟩
  | x :: r, s => by
    unfold bad
    by_cases hx : x = 0
    · rw [if_pos hx]
      rcases bad_cases r (s + 1) with ⟨h1, h2⟩ | ⟨j, e, h1, h2, h3, h4⟩
      · exact .inl ⟨h1, by simp [hx]; exact h2⟩
      · refine .inr ⟨j + 1, e, by simpa using h1, h2, by rw [h3]; congr 2; omega, fun i e' hi he => ?_⟩
        rcases i with _ | i
        · simp at he; omega
        · exact h4 i e' (by omega) (by simpa using he)
    · rw [if_neg hx]
      exact .inr ⟨0, x, rfl, hx, rfl, fun i e' hi => by omega⟩
theorem meetS_iff {a b : Spn} (ha : okSp a.lo a.len) (hb : okSp b.lo b.len) : meetS a b = true ↔ (a.lo ≤ b.lo + b.len - 1 ∧ b.lo ≤ a.lo + a.len - 1) := by
  have h1 := ha.2.1
  have h2 := hb.2.1
  unfold meetS hasS
  simp only [Bool.or_eq_true, Bool.and_eq_true, decide_eq_true_eq]
  omega
theorem pairs_meet {l : List Spn} {L : List Pr} (hsp : ∀ s ∈ l, okSp s.lo s.len) (h : PairsOf (itemsOf l) L) {p : Pr} : p ∈ L ↔ ∃ (i j : Nat) (x y : Spn), l[i]? = some x ∧ l[j]? = some y ∧ i < j ∧ meetS x y = true ∧ p = ⟨(i : Int), (j : Int)⟩ := by
  rw [h p]
  constructor
  · rintro ⟨x, hx, y, hy, hne, h1, h2, rfl⟩
    obtain ⟨a, ha⟩ := List.mem_iff_getElem?.1 hx
    obtain ⟨b, hb⟩ := List.mem_iff_getElem?.1 hy
    obtain ⟨sx, hsx, rfl⟩ := itemsOf_at.1 ha
    obtain ⟨sy, hsy, rfl⟩ := itemsOf_at.1 hb
    have ox := hsp sx (List.mem_of_getElem? hsx)
    have oy := hsp sy (List.mem_of_getElem? hsy)
    simp only [lastOf] at h1 h2
    rcases Nat.lt_trichotomy a b with hab | hab | hab
    · exact ⟨a, b, sx, sy, hsx, hsy, hab, (meetS_iff ox oy).2 ⟨h1, h2⟩, by unfold prOf; congr 1 <;> simp <;> omega⟩
    · exact absurd (by rw [hab]) hne
    · exact ⟨b, a, sy, sx, hsy, hsx, hab, (meetS_iff oy ox).2 ⟨h2, h1⟩, by unfold prOf; congr 1 <;> simp <;> omega⟩
  · rintro ⟨i, j, x, y, hi, hj, hij, hm, rfl⟩
    have ox := hsp x (List.mem_of_getElem? hi)
    have oy := hsp y (List.mem_of_getElem? hj)
    have hm2 := (meetS_iff ox oy).1 hm
    exact ⟨⟨x.lo, x.len, (i : Int)⟩, List.mem_of_getElem? (itemsOf_at.2 ⟨x, hi, rfl⟩), ⟨y.lo, y.len, (j : Int)⟩, List.mem_of_getElem? (itemsOf_at.2 ⟨y, hj, rfl⟩), by simp; omega, hm2.1, hm2.2, by unfold prOf; congr 1 <;> simp <;> omega⟩
def alP (l : List Reg) (p : Pr) : Bool := match l[p.i.toNat]?, l[p.j.toNat]? with | some x, some y => regAl x y | _, _ => false
/-- m is the least second place of the pairs of L that may not overlap; -1: there is none -/
def FJ (l : List Reg) (L : List Pr) (m : Int) : Prop := (m = -1 ∧ ∀ p ∈ L, alP l p = true) ∨ (0 ≤ m ∧ (∃ p ∈ L, alP l p = false ∧ p.j = m) ∧ ∀ p ∈ L, alP l p = false → m ≤ p.j)
theorem FJ.skip {l : List Reg} {L : List Pr} {m : Int} {p : Pr} (h : FJ l L m) (hp : alP l p = true) : FJ l (L ++ [p]) m := by
  rcases h with ⟨h1, h2⟩ | ⟨h1, ⟨q, hq, h3⟩, h4⟩
  · exact .inl ⟨h1, fun r hr => by rcases List.mem_append.1 hr with hr | hr; exact h2 r hr; rw [List.mem_singleton] at hr; rw [hr]; exact hp⟩
  · refine .inr ⟨h1, ⟨q, by simp [hq], h3⟩, fun r hr hn => ?_⟩
    rcases List.mem_append.1 hr with hr | hr
    · exact h4 r hr hn
    · rw [List.mem_singleton] at hr; rw [hr, hp] at hn; cases hn
theorem FJ.take_ {l : List Reg} {L : List Pr} {m : Int} {p : Pr} (h : FJ l L m) (hp : alP l p = false) (h0 : 0 ≤ p.j) (hm : m < 0 ∨ p.j < m) : FJ l (L ++ [p]) p.j := by
  refine .inr ⟨h0, ⟨p, by simp, hp, rfl⟩, fun r hr hn => ?_⟩
  rcases List.mem_append.1 hr with hr | hr
  · rcases h with ⟨_, h2⟩ | ⟨h1, _, h4⟩
    · rw [h2 r hr] at hn; cases hn
    · have := h4 r hr hn; omega
  · rw [List.mem_singleton] at hr; rw [hr]; exact Int.le_refl _
theorem FJ.keep {l : List Reg} {L : List Pr} {m : Int} {p : Pr} (h : FJ l L m) (h0 : ¬ m < 0) (hm : ¬ p.j < m) : FJ l (L ++ [p]) m := by
  rcases h with ⟨h1, h2⟩ | ⟨h1, ⟨q, hq, h3⟩, h4⟩
  · omega
  · refine .inr ⟨h1, ⟨q, by simp [hq], h3⟩, fun r hr hn => ?_⟩
    rcases List.mem_append.1 hr with hr | hr
    · exact h4 r hr hn
    · rw [List.mem_singleton] at hr; rw [hr]; omega
def clashJ (l : List Reg) : Int := if (clashBad l).1 = 0 then -1 else (clashBad l).2
theorem clash_over {l : List Reg} {j : Nat} (h : clashAt l j ≠ 0) : ∃ (i : Nat) (x y : Reg), i < j ∧ l[i]? = some x ∧ l[j]? = some y ∧ overR x y = true := by
  unfold clashAt at h
  rcases hy : l[j]? with _ | y
  · rw [hy] at h; exact absurd rfl h
  · rw [hy] at h
    simp only at h
    by_cases ha : (l.take j).any (fun x => overR x y) = true
    · rw [List.any_eq_true] at ha
      obtain ⟨x, hx, ho⟩ := ha
      obtain ⟨i, hi⟩ := List.mem_iff_getElem?.1 hx
      rw [List.getElem?_take] at hi
      split at hi
      · rename_i hij; exact ⟨i, x, y, hij, hi, rfl, ho⟩
      · cases hi
    · rw [if_neg ha] at h; exact absurd rfl h
theorem first_val {l : List Reg} {L : List Pr} {m : Int} (hsp : ∀ s ∈ l.map spnOf, okSp s.lo s.len) (h : PairsOf (itemsOf (l.map spnOf)) L) (hf : FJ l L m) : m = clashJ l := by
  have toL : ∀ {i j : Nat} {x y : Reg}, i < j → l[i]? = some x → l[j]? = some y → overR x y = true → (⟨(i : Int), (j : Int)⟩ : Pr) ∈ L ∧ alP l ⟨(i : Int), (j : Int)⟩ = false := by
    intro i j x y hij hx hy ho
    unfold overR at ho
    rw [Bool.and_eq_true] at ho
    refine ⟨(pairs_meet hsp h).2 ⟨i, j, spnOf x, spnOf y, by rw [List.getElem?_map, hx]; rfl, by rw [List.getElem?_map, hy]; rfl, hij, ho.1, rfl⟩, ?_⟩
    unfold alP
    simp only [Int.toNat_natCast]
    rw [hx, hy]
    simpa using ho.2
  unfold clashJ
  unfold clashBad
  rcases bad_cases ((List.range l.length).map (clashAt l)) 0 with ⟨h1, h2⟩ | ⟨j, e, h1, h2, h3, h4⟩
  · rw [h1, if_pos rfl]
    rcases hf with ⟨hm, _⟩ | ⟨_, ⟨p, hp, hn, hj⟩, _⟩
    · exact hm
    · exfalso
      obtain ⟨i, j, sx, sy, hx, hy, hij, hmt, rfl⟩ := (pairs_meet hsp h).1 hp
      rw [List.getElem?_map] at hx hy
      obtain ⟨x, gx, rfl⟩ := Option.map_eq_some_iff.1 hx
      obtain ⟨y, gy, rfl⟩ := Option.map_eq_some_iff.1 hy
      clear hx hy
      have hx := gx
      have hy := gy
      unfold alP at hn
      simp only [Int.toNat_natCast] at hn
      rw [hx, hy] at hn
      have h0 := over_hit hy hx hij (by unfold overR; rw [hmt]; simp at hn; simp [hn])
      have hjl : j < l.length := (List.getElem?_eq_some_iff.1 hy).1
      have := h2 _ (List.mem_of_getElem? (clash_list hjl))
      rw [h0] at this
      cases this
  · rw [h3, if_neg h2]
    have hjl : j < l.length := by have := (List.getElem?_eq_some_iff.1 h1).1; simpa using this
    rw [clash_list hjl] at h1
    injection h1 with h1
    obtain ⟨i, x, y, hij, hx, hy, ho⟩ := clash_over (l := l) (j := j) (by rw [h1]; exact h2)
    obtain ⟨hmem, hnal⟩ := toL hij hx hy ho
    rcases hf with ⟨_, hall⟩ | ⟨h0, ⟨p, hp, hn, hpj⟩, hle⟩
    · rw [hall _ hmem] at hnal; cases hnal
    · have hmj : m ≤ (j : Int) := hle _ hmem hnal
      obtain ⟨i', j', sx, sy, hx', hy', hij', hmt, rfl⟩ := (pairs_meet hsp h).1 hp
      rw [List.getElem?_map] at hx' hy'
      obtain ⟨x', gx', rfl⟩ := Option.map_eq_some_iff.1 hx'
      obtain ⟨y', gy', rfl⟩ := Option.map_eq_some_iff.1 hy'
      clear hx' hy'
      have hx' := gx'
      have hy' := gy'
      unfold alP at hn
      simp only [Int.toNat_natCast] at hn
      rw [hx', hy'] at hn
      have h0' := over_hit hy' hx' hij' (by unfold overR; rw [hmt]; simp at hn; simp [hn])
      have hjl' : j' < l.length := (List.getElem?_eq_some_iff.1 hy').1
      simp only at hpj
      rcases Nat.lt_or_ge j' j with hlt | hge
      · have := h4 j' _ hlt (clash_list hjl')
        rw [h0'] at this
        cases this
      · show m = ((0 + j : Nat) : Int)
        omega
end Go.Proofs.Ytaakcpdpkcadjaa
