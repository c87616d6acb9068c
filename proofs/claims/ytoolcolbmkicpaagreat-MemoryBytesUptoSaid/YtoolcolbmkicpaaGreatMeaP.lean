/-
  How many addresses a list of spans leaves, as a plain law: gaps in order and cut spans come to the same number. It speaks of no program.
-/
import Derived.Test.YtoolcolbmkicpaaGreatCutP
namespace Go.Proofs.YtoolcolbmkicpaaGreat
open Go.RowKit
/-- how many of the first n numbers have a property -/
def cntB (p : Int → Bool) : Nat → Nat
  | 0 => 0
  | n + 1 => cntB p n + if p (n : Int) then 1 else 0
theorem cntB_le (p : Int → Bool) : ∀ n, cntB p n ≤ n
  | 0 => Nat.le_refl _
  | n + 1 => by have := cntB_le p n; unfold cntB; split <;> omega
theorem cntB_congr {p q : Int → Bool} : ∀ {n : Nat}, (∀ a : Nat, a < n → p a = q a) → cntB p n = cntB q n
  | 0, _ => rfl
  | n + 1, h => by
    unfold cntB
    rw [cntB_congr (n := n) fun a ha => h a (by omega), h n (by omega)]
theorem cntB_not (p : Int → Bool) : ∀ n, cntB p n + cntB (fun a => !p a) n = n
  | 0 => rfl
  | n + 1 => by
    have := cntB_not p n
    unfold cntB
    cases p (n : Int) <;> simp <;> omega
theorem cntB_none {p : Int → Bool} : ∀ {n : Nat}, (∀ a : Nat, a < n → p a = false) → cntB p n = 0
  | 0, _ => rfl
  | n + 1, h => by
    unfold cntB
    rw [cntB_none (n := n) fun a ha => h a (by omega), h n (by omega)]
    rfl
theorem cntB_all {p : Int → Bool} : ∀ {n : Nat}, (∀ a : Nat, a < n → p a = true) → cntB p n = n
  | 0, _ => rfl
  | n + 1, h => by
    unfold cntB
    rw [cntB_all (n := n) fun a ha => h a (by omega), h n (by omega)]
    rfl
theorem cntB_full {p : Int → Bool} {n : Nat} (h : cntB p n = n) : ∀ a : Nat, a < n → p a = true := by
  induction n with
  | zero => intro a ha; omega
  | succ n ih =>
    unfold cntB at h
    have h1 := cntB_le p n
    intro a ha
    by_cases hn : p (n : Int) = true
    · rw [if_pos hn] at h
      rcases Nat.lt_or_ge a n with h2 | h2
      · exact ih (by omega) a h2
      · obtain rfl : a = n := by omega
        exact hn
    · rw [if_neg hn] at h
      omega
theorem cntB_or {p q : Int → Bool} : ∀ {n : Nat}, (∀ a : Nat, a < n → ¬ (p a = true ∧ q a = true)) → cntB (fun a => p a || q a) n = cntB p n + cntB q n
  | 0, _ => rfl
  | n + 1, h => by
    unfold cntB
    rw [cntB_or (n := n) fun a ha => h a (by omega)]
    have := h n (by omega)
    revert this
    cases p (n : Int) <;> cases q (n : Int) <;> simp <;> omega
theorem cntB_span (s : Spn) (h0 : 0 ≤ s.lo) (h1 : 0 ≤ s.len) : ∀ {n : Nat}, s.lo + s.len ≤ (n : Int) → (cntB (hasS s) n : Int) = s.len := by
  have key : ∀ n : Nat, (cntB (hasS s) n : Int) = max 0 (min (n : Int) (s.lo + s.len) - s.lo) := by
    intro n
    induction n with
    | zero => simp [cntB]; omega
    | succ n ih =>
      unfold cntB
      have hh : hasS s (n : Int) = true ↔ (s.lo ≤ (n : Int) ∧ (n : Int) ≤ s.lo + s.len - 1) := by unfold hasS; simp
      by_cases hc : s.lo ≤ (n : Int) ∧ (n : Int) ≤ s.lo + s.len - 1
      · rw [if_pos (hh.2 hc)]
        push_cast
        omega
      · rw [if_neg (fun e => hc (hh.1 e))]
        push_cast
        omega
  intro n hn
  rw [key n]
  omega
def hasLB (l : List Spn) (a : Int) : Bool := l.any fun x => hasS x a
theorem hasLB_iff {l : List Spn} {a : Int} : hasLB l a = true ↔ hasL l a := by unfold hasLB hasL; rw [List.any_eq_true]
/-- the numbers of spans that lie apart -/
theorem cntB_apart : ∀ {l : List Spn} {n : Nat}, (∀ x ∈ l, okS x ∧ x.lo + x.len ≤ (n : Int)) → Apart l → (cntB (hasLB l) n : Int) = (l.map (·.len)).sum
  | [], n, _, _ => by
    rw [cntB_none (fun a _ => rfl)]; rfl
  | x :: r, n, h, ha => by
    have hx := h x (by simp)
    have ha2 := List.pairwise_cons.1 ha
    have ih := cntB_apart (l := r) (n := n) (fun y hy => h y (by simp [hy])) ha2.2
    have e : cntB (hasLB (x :: r)) n = cntB (fun a => hasS x a || hasLB r a) n := rfl
    rw [e, cntB_or (fun a _ => ?_)]
    · rw [List.map_cons, List.sum_cons, Int.natCast_add, ih, cntB_span x hx.1.1 (by have := hx.1.2.1; omega) hx.2]
    · rintro ⟨h1, h2⟩
      obtain ⟨y, hy, h3⟩ := hasLB_iff.1 h2
      have q1 := hasS_iff.1 h1
      have q2 := hasS_iff.1 h3
      have := ha2.1 y hy
      omega
/-- whether a region of a list has an address -/
def ownedB (l : List Reg) (a : Int) : Bool := l.any fun r => ownsB r a
theorem owned_not {l : List Reg} {a : Int} : (!ownedB l a) = true ↔ ∀ r ∈ l, ownsB r a = false := by
  unfold ownedB
  simp
/-- what is left of a span, counted -/
theorem LeftOk.sum {s : Spn} {l : List Reg} {o : List Spn} (h : LeftOk s l o) {n : Nat} (hn : s.lo + s.len ≤ (n : Int)) : (o.map (·.len)).sum = (cntB (fun a => hasS s a && !ownedB l a) n : Int) := by
  have hin : ∀ x ∈ o, okS x ∧ x.lo + x.len ≤ (n : Int) := fun x hx => by
    have h1 := h.ok x hx
    have h2 := (h.has (lastS x)).1 ⟨x, hx, hasS_iff.2 ⟨by unfold lastS; have := h1.2.1; omega, Int.le_refl _⟩⟩
    have h3 := hasS_iff.1 h2.1
    unfold lastS at h3
    exact ⟨h1, by omega⟩
  rw [← cntB_apart hin h.ap]
  congr 1
  refine cntB_congr fun a _ => ?_
  rw [Bool.eq_iff_iff, hasLB_iff, h.has, Bool.and_eq_true, owned_not]
/-! ### gaps in order -/
def covI (y : Itm) (a : Int) : Prop := y.lo ≤ a ∧ a ≤ lastOf y
/-- some item ends right ahead of a number, or that is 0 -/
def tipP (d : List Itm) (next : Int) : Prop := next = 0 ∨ ∃ y ∈ d, lastOf y + 1 = next
/-- where the walk over the gaps stands: the first number that is not covered yet, whether there is none, the gaps, and the number up to which all is settled -/
structure GapSt (d : List Itm) (next : Int) (full : Bool) (out : List Spn) (m : Int) : Prop where
  n0 : 0 ≤ next
  n1 : next ≤ 18446744073709551615
  m0 : 0 ≤ m
  m1 : m ≤ 18446744073709551615
  ok : ∀ x ∈ out, okS x ∧ x.lo + x.len ≤ m
  ap : Apart out
  has : ∀ a : Int, 0 ≤ a → a < m → (hasL out a ↔ ∀ y ∈ d, ¬ covI y a)
  op : full = false → m = next ∧ (∀ y ∈ d, lastOf y < next) ∧ tipP d next
  fl : full = true → ∃ y ∈ d, y.lo ≤ m ∧ lastOf y = 18446744073709551615
  len : out.length ≤ d.length
theorem GapSt.start : GapSt [] 0 false [] 0 :=
  ⟨by omega, by omega, by omega, by omega, by simp, List.Pairwise.nil, fun a h0 h1 => by omega, fun _ => ⟨rfl, by simp, .inl rfl⟩, by simp, by simp⟩
/-- the gaps behind one more end -/
def gapAdd (next : Int) (full : Bool) (out : List Spn) (e : Int) : List Spn := if full = false ∧ next < e then out ++ [⟨next, e - next⟩] else out
def gapNext (next : Int) (x : Itm) : Int := if lastOf x = 18446744073709551615 then next else max next (lastOf x + 1)
def gapFull (full : Bool) (x : Itm) : Bool := if lastOf x = 18446744073709551615 then true else full
theorem hasL_app {l m : List Spn} {a : Int} : hasL (l ++ m) a ↔ hasL l a ∨ hasL m a := by
  unfold hasL
  constructor
  · rintro ⟨x, hx, h⟩
    rcases List.mem_append.1 hx with hx | hx
    · exact .inl ⟨x, hx, h⟩
    · exact .inr ⟨x, hx, h⟩
  · rintro (⟨x, hx, h⟩ | ⟨x, hx, h⟩)
    · exact ⟨x, by simp [hx], h⟩
    · exact ⟨x, by simp [hx], h⟩
theorem hasL_one {x : Spn} {a : Int} : hasL [x] a ↔ (x.lo ≤ a ∧ a ≤ lastS x) := by
  unfold hasL
  simp only [List.mem_singleton, exists_eq_left, hasS_iff]
theorem all_snoc {d : List Itm} {x : Itm} {a : Int} : (∀ y ∈ d ++ [x], ¬ covI y a) ↔ (∀ y ∈ d, ¬ covI y a) ∧ ¬ covI x a := by
  constructor
  · intro h; exact ⟨fun y hy => h y (by simp [hy]), h x (by simp)⟩
  · rintro ⟨h1, h2⟩ y hy
    rcases List.mem_append.1 hy with hy | hy
    · exact h1 y hy
    · rw [List.mem_singleton] at hy; rw [hy]; exact h2
section
variable {d : List Itm} {next m : Int} {full : Bool} {out : List Spn} {x : Itm}
theorem GapSt.more (h : GapSt d next full out m) (hx : okItm x) (hle : ∀ y ∈ d, y.lo ≤ x.lo) : ∃ m', GapSt (d ++ [x]) (gapNext next x) (gapFull full x) (gapAdd next full out x.lo) m' := by
  have hx0 : 0 ≤ x.lo := hx.1
  have hx1 : 1 ≤ x.len := hx.2.1
  have hx2 : x.lo + x.len ≤ 18446744073709551616 := hx.2.2
  have hl : lastOf x = x.lo + x.len - 1 := rfl
  have hn0 := h.n0
  have hn1 := h.n1
  have hm0 := h.m0
  have hm1 := h.m1
  have hN0 : 0 ≤ gapNext next x := by unfold gapNext; split <;> omega
  have hN1 : gapNext next x ≤ 18446744073709551615 := by unfold gapNext; split <;> omega
  rcases hf : full with _ | _
  · obtain ⟨e, hb, htip⟩ := h.op hf
    subst e
    have hg : gapAdd m false out x.lo = if m < x.lo then out ++ [⟨m, x.lo - m⟩] else out := by unfold gapAdd; simp
    have hlen : (gapAdd m false out x.lo).length ≤ (d ++ [x]).length := by
      rw [hg]
      have := h.len
      split <;> simp <;> omega
    have hok : ∀ y ∈ gapAdd m false out x.lo, okS y ∧ y.lo + y.len ≤ max m x.lo := by
      rw [hg]
      split
      · intro y hy
        rcases List.mem_append.1 hy with hy | hy
        · have := h.ok y hy; exact ⟨this.1, by omega⟩
        · rw [List.mem_singleton] at hy; subst hy
          exact ⟨⟨by simp only; omega, by simp only; omega, by simp only; omega⟩, by simp only; omega⟩
      · intro y hy; have := h.ok y hy; exact ⟨this.1, by omega⟩
    have hap : Apart (gapAdd m false out x.lo) := by
      rw [hg]
      split
      · unfold Apart
        rw [List.pairwise_append]
        refine ⟨h.ap, by simp, fun y hy z hz => ?_⟩
        rw [List.mem_singleton] at hz; subst hz
        have := (h.ok y hy).2
        unfold lastS; simp only; omega
      · exact h.ap
    have hhas : ∀ a : Int, 0 ≤ a → a < max m x.lo → (hasL (gapAdd m false out x.lo) a ↔ ∀ y ∈ d ++ [x], ¬ covI y a) := by
      intro a a0 a1
      rw [all_snoc, hg]
      by_cases ham : a < m
      · have h1 := h.has a a0 ham
        have h2 : hasL (if m < x.lo then out ++ [⟨m, x.lo - m⟩] else out) a ↔ hasL out a := by
          split
          · rw [hasL_app, hasL_one]
            constructor
            · rintro (q | q)
              · exact q
              · exact absurd q.1 (by simp only; omega)
            · exact .inl
          · exact Iff.rfl
        rw [h2, h1]
        constructor
        · intro q
          refine ⟨q, fun hc => ?_⟩
          unfold tipP at htip
          rcases htip with ht | ⟨y, hy, ht⟩
          · omega
          · exact q y hy ⟨by have := hle y hy; have := hc.1; omega, by omega⟩
        · exact fun q => q.1
      · rw [if_pos (by omega), hasL_app, hasL_one]
        constructor
        · intro _
          exact ⟨fun y hy hc => by have := hb y hy; have := hc.2; omega, fun hc => by have := hc.1; omega⟩
        · intro _
          exact .inr ⟨by simp only; omega, by unfold lastS; simp only; omega⟩
    by_cases ht : lastOf x = 18446744073709551615
    · refine ⟨max m x.lo, hN0, hN1, by omega, by omega, hok, hap, hhas, fun q => ?_, fun _ => ⟨x, by simp, by omega, ht⟩, hlen⟩
      unfold gapFull at q
      rw [if_pos ht] at q
      cases q
    · have hgn : gapNext m x = max m (lastOf x + 1) := if_neg ht
      have hgf : gapFull false x = false := if_neg ht
      rw [hgn] at hN0 hN1
      rw [hgf, hgn]
      refine ⟨max m (lastOf x + 1), hN0, hN1, hN0, hN1, fun y hy => ?_, hap, fun a a0 a1 => ?_, fun _ => ⟨rfl, fun y hy => ?_, ?_⟩, (fun q => by cases q), hlen⟩
      · have := hok y hy; exact ⟨this.1, by omega⟩
      · by_cases ha : a < max m x.lo
        · exact hhas a a0 ha
        · rw [all_snoc]
          constructor
          · intro q
            exfalso
            obtain ⟨y, hy, hq⟩ := q
            have := (hok y hy).2
            have := (hasS_iff.1 hq).2
            unfold lastS at this
            omega
          · rintro ⟨_, q⟩
            exact absurd ⟨by omega, by omega⟩ q
      · rcases List.mem_append.1 hy with hy | hy
        · have := hb y hy; omega
        · rw [List.mem_singleton] at hy; subst hy; omega
      · show _ ∨ _
        by_cases hc : m ≤ lastOf x + 1
        · exact .inr ⟨x, by simp, by omega⟩
        · unfold tipP at htip
          rcases htip with q | ⟨y, hy, q⟩
          · omega
          · exact .inr ⟨y, by simp [hy], by omega⟩
  · obtain ⟨y, hy, hym, hyt⟩ := h.fl hf
    have hg : gapAdd next true out x.lo = out := by unfold gapAdd; simp
    have hgf : gapFull true x = true := by unfold gapFull; split <;> rfl
    rw [hg, hgf]
    refine ⟨m, hN0, hN1, hm0, hm1, h.ok, h.ap, fun a a0 a1 => ?_, (fun q => by cases q), fun _ => ⟨y, by simp [hy], hym, hyt⟩, by have := h.len; simp; omega⟩
    rw [all_snoc, h.has a a0 a1]
    constructor
    · intro q
      refine ⟨q, fun hc => q y hy ⟨by have := hle y hy; have := hc.1; omega, by omega⟩⟩
    · exact fun q => q.1
/-- all gaps below the last number -/
theorem GapSt.done (h : GapSt d next full out m) {o : List Spn} (ho : gapAdd next full out 18446744073709551615 = o) : (∀ y ∈ o, okS y ∧ y.lo + y.len ≤ 18446744073709551615) ∧ Apart o ∧ o.length ≤ d.length + 1 ∧ ∀ a : Int, 0 ≤ a → a < 18446744073709551615 → (hasL o a ↔ ∀ y ∈ d, ¬ covI y a) := by
  have hm1 := h.m1
  have hn0 := h.n0
  subst ho
  rcases hf : full with _ | _
  · obtain ⟨e, hb, _⟩ := h.op hf
    subst e
    unfold gapAdd
    by_cases hc : m < 18446744073709551615
    · rw [if_pos ⟨rfl, hc⟩]
      refine ⟨fun y hy => ?_, ?_, by have := h.len; simp; omega, fun a a0 a1 => ?_⟩
      · rcases List.mem_append.1 hy with hy | hy
        · have := h.ok y hy; exact ⟨this.1, by omega⟩
        · rw [List.mem_singleton] at hy; subst hy
          exact ⟨⟨by simp only; omega, by simp only; omega, by simp only; omega⟩, by simp only; omega⟩
      · unfold Apart
        rw [List.pairwise_append]
        refine ⟨h.ap, by simp, fun y hy z hz => ?_⟩
        rw [List.mem_singleton] at hz; subst hz
        have := (h.ok y hy).2
        unfold lastS; simp only; omega
      · rw [hasL_app, hasL_one]
        by_cases ham : a < m
        · rw [← h.has a a0 ham]
          constructor
          · rintro (q | q)
            · exact q
            · exact absurd q.1 (by simp only; omega)
          · exact .inl
        · constructor
          · intro _ y hy q
            have := hb y hy; have := q.2; omega
          · intro _
            exact .inr ⟨by simp only; omega, by unfold lastS; simp only; omega⟩
    · rw [if_neg (fun q => hc q.2)]
      exact ⟨fun y hy => by have := h.ok y hy; exact ⟨this.1, by omega⟩, h.ap, by have := h.len; omega, fun a a0 a1 => h.has a a0 (by omega)⟩
  · obtain ⟨y, hy, hym, hyt⟩ := h.fl hf
    unfold gapAdd
    rw [if_neg (fun q => by cases q.1)]
    refine ⟨fun y hy => by have := h.ok y hy; exact ⟨this.1, by omega⟩, h.ap, by have := h.len; omega, fun a a0 a1 => ?_⟩
    by_cases ham : a < m
    · exact h.has a a0 ham
    · constructor
      · rintro ⟨z, hz, q⟩
        exfalso
        have := (h.ok z hz).2
        have := (hasS_iff.1 q).2
        unfold lastS at this
        omega
      · intro q
        exact absurd ⟨by omega, by omega⟩ (q y hy)
end
end Go.Proofs.YtoolcolbmkicpaaGreat
