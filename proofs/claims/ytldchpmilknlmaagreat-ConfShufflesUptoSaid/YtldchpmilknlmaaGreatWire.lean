/-
  What the checks of ports and channels come to, as plain functions of the records, and that the program's way (a set of used ports) and the reference's way (a look at the channels before) agree. It speaks of no program; no condition.
-/
import Derived.Test.YtldchpmilknlmaaGreatRef13
namespace Go.Proofs.YtldchpmilknlmaaGreat
open Go.RowKit
theorem idx_cases {α : Type} (p : α → Bool) (l : List α) : (idx p l = -1 ∧ l.find? p = none) ∨ ∃ (k : Nat) (x : α), idx p l = (k : Int) ∧ k < l.length ∧ l[k]? = some x ∧ l.find? p = some x ∧ p x = true := by
  have h : ∀ (l : List α) (i : Nat), (idxFrom p i l = -1 ∧ l.find? p = none) ∨ ∃ (k : Nat) (x : α), idxFrom p i l = ((i + k : Nat) : Int) ∧ k < l.length ∧ l[k]? = some x ∧ l.find? p = some x ∧ p x = true := by
    intro l
    induction l with
    | nil => intro i; exact .inl ⟨rfl, rfl⟩
    | cons y r ih =>
      intro i
      unfold idxFrom
      by_cases hy : p y = true
      · exact .inr ⟨0, y, by rw [if_pos hy]; rfl, by simp, rfl, by simp [hy], hy⟩
      · rcases ih (i + 1) with ⟨h1, h2⟩ | ⟨k, x, h1, h2, h3, h4, h5⟩
        · exact .inl ⟨by rw [if_neg hy, h1], by simp [hy, h2]⟩
        · exact .inr ⟨k + 1, x, by rw [if_neg hy, h1]; congr 1; omega, by simpa using h2, by simpa using h3, by simp [hy, h4], h5⟩
  rcases h l 0 with h1 | ⟨k, x, h1, r⟩
  · exact .inl h1
  · exact .inr ⟨k, x, by rw [Nat.zero_add] at h1; exact h1, r⟩
/-- the first number that is not zero, with its place -/
def bad : Nat → List Int → Int × Int
  | _, [] => (0, 0)
  | i, e :: r => if e = 0 then bad (i + 1) r else (e, i)
theorem bad_hit {l : List Int} {k : Nat} {e : Int} {v : Int × Int} (h : v = bad k (l.drop k)) (hx : l[k]? = some e) (hp : e ≠ 0) : v = (e, (k : Int)) := by
  rw [h, drop_cons hx, bad, if_neg hp]
theorem bad_miss {l : List Int} {k : Nat} {v : Int × Int} (h : v = bad k (l.drop k)) (hx : l[k]? = some 0) : v = bad (k + 1) (l.drop (k + 1)) := by
  rw [h, drop_cons hx, bad, if_pos rfl]
theorem bad_end {l : List Int} {v : Int × Int} (h : v = bad l.length (l.drop l.length)) : v = (0, 0) := by
  rw [h, List.drop_length, bad]
theorem bad_zero : ∀ (l : List Int) (i : Nat), (bad i l).1 = 0 ↔ ∀ e ∈ l, e = 0
  | [], i => by simp [bad]
  | e :: r, i => by
    unfold bad
    by_cases h : e = 0
    · rw [if_pos h, bad_zero r (i + 1)]; simp [h]
    · rw [if_neg h]; simp [h]
theorem bad_fst_zero : ∀ (l : List Int) (i : Nat), (bad i l).1 = 0 → bad i l = (0, 0)
  | [], i, _ => rfl
  | e :: r, i, h => by
    unfold bad at h ⊢
    by_cases h0 : e = 0
    · rw [if_pos h0] at h ⊢; exact bad_fst_zero r (i + 1) h
    · rw [if_neg h0] at h; exact absurd h h0
def portCode (c : Cfg) (p : Prt) : Int := if idx (fun x => x.id == p.part) c.parts < 0 then 19 else if p.size = 0 then 28 else 0
def portBad (c : Cfg) : Int × Int := bad 0 (c.ports.map (portCode c))
def portOf (c : Cfg) (id : Int) : Option Prt := c.ports.find? (fun x => x.id == id)
def noPrt : Prt := ⟨0, 0, ⟨#[]⟩, false, false, 0⟩
def thePort (c : Cfg) (id : Int) : Prt := (portOf c id).getD noPrt
def sameKind (s p : Prt) : Bool := p.queuing == s.queuing && p.size == s.size
/-- the program: the code of a port as an end of a channel -/
def endCode (c : Cfg) (used : List Int) (id : Int) (out : Bool) (fit : Prt → Bool) : Int :=
  match portOf c id with
  | none => 19
  | some p => if p.output = out then if fit p then if id ∈ used then 27 else 0 else 26 else 25
def destsCode (c : Cfg) (s : Prt) : List Int → List Int → Int × List Int
  | used, [] => (0, used)
  | used, d :: r => if endCode c used d false (sameKind s) = 0 then destsCode c s (used ++ [d]) r else (endCode c used d false (sameKind s), used)
def anyPort (_ : Prt) : Bool := true
def chanCode (c : Cfg) (used : List Int) (x : Chn) : Int × List Int :=
  if endCode c used x.source true anyPort = 0 then if x.dests = [] then (28, used ++ [x.source]) else destsCode c (thePort c x.source) (used ++ [x.source]) x.dests
  else (endCode c used x.source true anyPort, used)
def chansBad (c : Cfg) : Nat → List Int → List Chn → Int × Int
  | _, _, [] => (0, 0)
  | i, used, x :: r => if (chanCode c used x).1 = 0 then chansBad c (i + 1) (chanCode c used x).2 r else ((chanCode c used x).1, i)
def chanBad (c : Cfg) : Int × Int := chansBad c 0 [] c.chans
/-- the reference -/
def usesL (l : List Chn) (id : Int) : Bool := l.any fun x => x.source == id || x.dests.contains id
def rDest (c : Cfg) (i : Nat) (x : Chn) (k : Nat) (d : Int) : Int :=
  match portOf c d with
  | none => 19
  | some p => if p.output then 25 else if sameKind (thePort c x.source) p then if usesL (c.chans.take i) p.id || (x.dests.take k).contains p.id then 27 else 0 else 26
def rDests (c : Cfg) (i : Nat) (x : Chn) : Nat → List Int → Int
  | _, [] => 0
  | k, d :: r => if rDest c i x k d = 0 then rDests c i x (k + 1) r else rDest c i x k d
def rChan (c : Cfg) (i : Nat) (x : Chn) : Int :=
  match portOf c x.source with
  | none => 19
  | some p => if p.output then if usesL (c.chans.take i) x.source then 27 else if x.dests = [] then 28 else rDests c i x 0 x.dests else 25
def rChans (c : Cfg) : Nat → List Chn → Int × Int
  | _, [] => (0, 0)
  | i, x :: r => if rChan c i x = 0 then rChans c (i + 1) r else (rChan c i x, i)
def rChanBad (c : Cfg) : Int × Int := rChans c 0 c.chans

theorem portOf_id {c : Cfg} {id : Int} {p : Prt} (h : portOf c id = some p) : p.id = id := by
  have := List.find?_some h
  simpa using this
theorem dests_agree (c : Cfg) (i : Nat) (x : Chn) (s : Prt) (hs : portOf c x.source = some s) (ho : s.output = true) : ∀ (r : List Int) (k : Nat) (u : List Int), x.dests.drop k = r →
    (∀ id, id ∈ u ↔ (usesL (c.chans.take i) id = true ∨ id = x.source ∨ id ∈ x.dests.take k)) →
    (destsCode c s u r).1 = rDests c i x k r ∧ ((destsCode c s u r).1 = 0 → ∀ id, id ∈ (destsCode c s u r).2 ↔ (usesL (c.chans.take i) id = true ∨ id = x.source ∨ id ∈ x.dests))
  | [], k, u, hr, hu => by
    have hk : x.dests.length ≤ k := by simpa using List.drop_eq_nil_iff.1 hr
    refine ⟨rfl, fun _ => ?_⟩
    simp only [destsCode]
    rw [List.take_of_length_le hk] at hu
    exact hu
  | d :: r, k, u, hr, hu => by
    have hd : x.dests[k]? = some d := by
      have := congrArg (·[0]?) hr
      simpa using this
    have hr' : x.dests.drop (k + 1) = r := by
      have := drop_cons hd
      rw [hr] at this
      injection this with _ h; exact h.symm
    have he : endCode c u d false (sameKind s) = rDest c i x k d := by
      unfold endCode rDest
      rcases hp : portOf c d with _ | p
      · rfl
      · have hid := portOf_id hp
        have ht : thePort c x.source = s := by simp [thePort, hs]
        simp only [ht]
        cases hpo : p.output with
        | true => simp
        | false =>
          simp only [if_true, Bool.false_eq_true, if_false]
          by_cases hk : sameKind s p = true
          · simp only [hk, if_true]
            have hds : d ≠ x.source := by
              intro e
              rw [e] at hp
              rw [hs] at hp
              injection hp with hp
              rw [hp, hpo] at ho
              exact Bool.noConfusion ho
            have : d ∈ u ↔ (usesL (c.chans.take i) p.id || (x.dests.take k).contains p.id) = true := by
              rw [hid, hu d]; simp [hds]
            by_cases hm : d ∈ u
            · rw [if_pos hm, if_pos (this.1 hm)]
            · rw [if_neg hm, if_neg fun e => hm (this.2 e)]
          · simp [hk]
    unfold destsCode rDests
    rw [he]
    by_cases h0 : rDest c i x k d = 0
    · rw [if_pos h0, if_pos h0]
      refine dests_agree c i x s hs ho r (k + 1) (u ++ [d]) hr' fun id => ?_
      rw [List.mem_append, List.mem_singleton, hu id, take_next hd, List.mem_append, List.mem_singleton]
      constructor
      · rintro ((h | h | h) | h)
        · exact .inl h
        · exact .inr (.inl h)
        · exact .inr (.inr (.inl h))
        · exact .inr (.inr (.inr h))
      · rintro (h | h | h | h)
        · exact .inl (.inl h)
        · exact .inl (.inr (.inl h))
        · exact .inl (.inr (.inr h))
        · exact .inr h
    · rw [if_neg h0, if_neg h0]
      exact ⟨rfl, fun e => absurd e h0⟩
theorem usesL_next {l : List Chn} {i : Nat} {x : Chn} (hx : l[i]? = some x) (id : Int) : usesL (l.take (i + 1)) id = true ↔ (usesL (l.take i) id = true ∨ id = x.source ∨ id ∈ x.dests) := by
  rw [take_next hx]
  simp only [usesL, List.any_append, List.any_cons, List.any_nil, Bool.or_false, Bool.or_eq_true, beq_iff_eq, List.contains_iff_mem]
  constructor
  · rintro (h | h | h)
    · exact .inl h
    · exact .inr (.inl h.symm)
    · exact .inr (.inr h)
  · rintro (h | h | h)
    · exact .inl h
    · exact .inr (.inl h.symm)
    · exact .inr (.inr h)
theorem chan_agree (c : Cfg) (i : Nat) (x : Chn) (hx : c.chans[i]? = some x) (u : List Int) (hu : ∀ id, id ∈ u ↔ usesL (c.chans.take i) id = true) :
    (chanCode c u x).1 = rChan c i x ∧ ((chanCode c u x).1 = 0 → ∀ id, id ∈ (chanCode c u x).2 ↔ usesL (c.chans.take (i + 1)) id = true) := by
  unfold chanCode rChan
  rcases hs : portOf c x.source with _ | s
  · have he : endCode c u x.source true anyPort = 19 := by simp [endCode, hs]
    rw [he]
    exact ⟨rfl, fun h => absurd h (by simp)⟩
  · cases ho : s.output with
    | false =>
      have he : endCode c u x.source true anyPort = 25 := by simp [endCode, hs, ho]
      rw [he]
      exact ⟨by simp [ho], fun h => absurd h (by simp)⟩
    | true =>
      simp only [ho, if_true]
      by_cases hm : x.source ∈ u
      · have he : endCode c u x.source true anyPort = 27 := by simp [endCode, hs, ho, hm, anyPort]
        rw [he, if_pos ((hu _).1 hm)]
        exact ⟨rfl, fun h => absurd h (by simp)⟩
      · have he : endCode c u x.source true anyPort = 0 := by simp [endCode, hs, ho, hm, anyPort]
        rw [he, if_pos rfl, if_neg fun e => hm ((hu _).2 e)]
        by_cases hd : x.dests = []
        · rw [if_pos hd, if_pos hd]
          exact ⟨rfl, fun h => absurd h (by simp)⟩
        · rw [if_neg hd, if_neg hd]
          have ht : thePort c x.source = s := by simp [thePort, hs]
          rw [ht]
          obtain ⟨h1, h2⟩ := dests_agree c i x s hs ho x.dests 0 (u ++ [x.source]) rfl fun id => by
            rw [List.mem_append, List.mem_singleton, hu id]; simp
          refine ⟨h1, fun e id => ?_⟩
          rw [usesL_next hx]
          exact h2 e id
theorem chans_agree (c : Cfg) : ∀ (r : List Chn) (i : Nat) (u : List Int), c.chans.drop i = r → (∀ id, id ∈ u ↔ usesL (c.chans.take i) id = true) → chansBad c i u r = rChans c i r
  | [], _, _, _, _ => rfl
  | x :: r, i, u, hr, hu => by
    have hx : c.chans[i]? = some x := by
      have := congrArg (·[0]?) hr
      simpa using this
    have hr' : c.chans.drop (i + 1) = r := by
      have := drop_cons hx
      rw [hr] at this
      injection this with _ h; exact h.symm
    obtain ⟨h1, h2⟩ := chan_agree c i x hx u hu
    unfold chansBad rChans
    rw [h1]
    by_cases h0 : rChan c i x = 0
    · rw [if_pos h0, if_pos h0]
      exact chans_agree c r (i + 1) _ hr' (h2 (h1.trans h0))
    · rw [if_neg h0, if_neg h0]
theorem chanBad_eq (c : Cfg) : chanBad c = rChanBad c := chans_agree c c.chans 0 [] rfl (fun id => by simp [usesL])
end Go.Proofs.YtldchpmilknlmaaGreat
