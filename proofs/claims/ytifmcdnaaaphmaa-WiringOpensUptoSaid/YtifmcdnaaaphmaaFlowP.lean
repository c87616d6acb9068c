/-
  Plain laws on the matrix of messages: the program's rows are the reference's. It speaks of no program beyond the definitions; no condition.
-/
import Derived.Test.YtifmcdnaaaphmaaMat
namespace Go.Proofs.Ytifmcdnaaaphmaa
open Go.RowKit Go.Lib
theorem pid_some {c : Cfg} {i : Nat} (hi : i < c.parts.length) : ∃ x, c.parts[i]? = some x ∧ pid c i = x.id := by
  obtain ⟨x, hx⟩ := get_lt hi
  exact ⟨x, hx, pid_at hx⟩
theorem pid_inj {c : Cfg} (hu : (c.parts.map (·.id)).Nodup) {i j : Nat} (hi : i < c.parts.length) (hj : j < c.parts.length) (h : pid c i = pid c j) : i = j := by
  have h1 : (c.parts.map (·.id))[i]? = some (pid c i) := by
    obtain ⟨x, hx, e⟩ := pid_some hi
    rw [e]; simp [hx]
  have h2 : (c.parts.map (·.id))[j]? = some (pid c i) := by
    obtain ⟨x, hx, e⟩ := pid_some hj
    rw [h, e]; simp [hx]
  rcases Nat.lt_or_ge i j with hl | hl
  · exact absurd hu (not_nodup_of h2 (mem_take_of h1 hl))
  · rcases Nat.lt_or_ge j i with hl2 | hl2
    · exact absurd hu (not_nodup_of h1 (mem_take_of h2 hl2))
    · omega
theorem owner_iff {c : Cfg} (hu : (c.parts.map (·.id)).Nodup) {port : Int} (h0 : 0 ≤ ownerOf c port) {i : Nat} (hi : i < c.parts.length) : ownerOf c port = (i : Int) ↔ (thePort c port).part = pid c i := by
  unfold ownerOf at h0 ⊢
  rcases idx_cases (fun y => y.id == (thePort c port).part) c.parts with ⟨h1, _⟩ | ⟨k, x, h1, h2, h3, _, h5⟩
  · omega
  · have hx : x.id = (thePort c port).part := by simpa using h5
    have hk : pid c k = (thePort c port).part := by rw [pid_at h3, hx]
    rw [h1, ← hk]
    constructor
    · intro e
      have : k = i := by omega
      rw [this]
    · intro e
      have := pid_inj hu h2 hi e
      omega
theorem mem_edges {c : Cfg} {l : List Chn} {a b : Int} : (a, b) ∈ edgesTo c l ↔ ∃ x ∈ l, ownerOf c x.source = a ∧ ∃ d ∈ x.dests, ownerOf c d = b := by
  unfold edgesTo edgesOf
  rw [List.mem_flatMap]
  constructor
  · rintro ⟨x, hx, h⟩
    obtain ⟨d, hd, e⟩ := List.mem_map.1 h
    injection e with e1 e2
    exact ⟨x, hx, e1, d, hd, e2⟩
  · rintro ⟨x, hx, e1, d, hd, e2⟩
    exact ⟨x, hx, List.mem_map.2 ⟨d, hd, by rw [e1, e2]⟩⟩
theorem sends_iff {c : Cfg} {f t : Int} : sendsB c f t = true ↔ ∃ x ∈ c.chans, (thePort c x.source).part = f ∧ ∃ d ∈ x.dests, (thePort c d).part = t := by
  unfold sendsB sendsL toB
  simp only [List.any_eq_true, Bool.and_eq_true, beq_iff_eq]
theorem rowTo_asc (c : Cfg) (i m : Nat) : (rowTo c i m).Pairwise (· < ·) := by
  unfold rowTo
  rw [List.pairwise_map]
  exact (List.pairwise_lt_range.filter _).imp (by intro a b h; omega)
theorem rows_agree {c : Cfg} (hu : (c.parts.map (·.id)).Nodup) (ho : ∀ x ∈ c.chans, 0 ≤ ownerOf c x.source ∧ ∀ d ∈ x.dests, 0 ≤ ownerOf c d) : (rowsOf (edgesTo c c.chans) c.parts.length).map (fun l => compact (sortI l)) = matRows c := by
  apply List.ext_getElem?
  intro i
  rw [List.getElem?_map]
  by_cases hi : i < c.parts.length
  · rw [rowsOf_at hi]
    unfold matRows matTo
    rw [List.getElem?_map, List.getElem?_range hi]
    simp only [Option.map_some]
    congr 1
    refine asc_unique (set_asc _) (rowTo_asc _ _ _) fun k => ?_
    rw [set_mem, List.mem_map]
    constructor
    · rintro ⟨⟨a, b⟩, hab, rfl⟩
      obtain ⟨hm, ha⟩ := List.mem_filter.1 hab
      have ha' : a = (i : Int) := by simpa using ha
      subst ha'
      obtain ⟨x, hx, e1, d, hd, e2⟩ := mem_edges.1 hm
      obtain ⟨h1, h2⟩ := ho x hx
      have h3 := h2 d hd
      have hk : ∃ kk : Nat, b = (kk : Int) ∧ kk < c.parts.length := by
        rw [← e2]
        unfold ownerOf at h3 ⊢
        rcases idx_cases (fun y => y.id == (thePort c d).part) c.parts with ⟨q, _⟩ | ⟨k, y, q1, q2, _⟩
        · omega
        · exact ⟨k, q1, q2⟩
      obtain ⟨kk, rfl, hkk⟩ := hk
      unfold rowTo
      refine List.mem_map.2 ⟨kk, List.mem_filter.2 ⟨List.mem_range.2 hkk, ?_⟩, rfl⟩
      exact sends_iff.2 ⟨x, hx, (owner_iff hu h1 hi).1 e1, d, hd, (owner_iff hu h3 hkk).1 e2⟩
    · intro hk
      unfold rowTo at hk
      obtain ⟨kk, hkk, rfl⟩ := List.mem_map.1 hk
      obtain ⟨h1, h2⟩ := List.mem_filter.1 hkk
      rw [List.mem_range] at h1
      obtain ⟨x, hx, e1, d, hd, e2⟩ := sends_iff.1 h2
      obtain ⟨q1, q2⟩ := ho x hx
      exact ⟨((i : Int), (kk : Int)), List.mem_filter.2 ⟨mem_edges.2 ⟨x, hx, (owner_iff hu q1 hi).2 e1, d, hd, (owner_iff hu (q2 d hd) h1).2 e2⟩, by simp⟩, rfl⟩
  · rw [List.getElem?_eq_none (by simp [rowsOf]; omega), List.getElem?_eq_none (by rw [show (matRows c).length = c.parts.length from matTo_len c _]; omega)]; rfl
/-- what the checks say of a right configuration -/
theorem bad_none {l : List Int} {i : Nat} (h : (bad i l).1 = 0) : ∀ e ∈ l, e = 0 := (bad_zero l i).1 h
theorem right_parts {c : Cfg} (h : rightB c = true) : uniqueB c = true ∧ (portBad c).1 = 0 ∧ (rChanBad c).1 = 0 := by
  unfold rightB at h
  simp only [Bool.and_eq_true, decide_eq_true_eq] at h
  exact ⟨h.1.1, h.1.2, h.2⟩
theorem unique_parts {c : Cfg} (h : uniqueB c = true) : (c.parts.map (·.id)).Nodup ∧ (c.ports.map (·.id)).Nodup ∧ (c.chans.map (·.id)).Nodup := of_decide_eq_true h
theorem port_known {c : Cfg} (h : (portBad c).1 = 0) : ∀ p ∈ c.ports, 0 ≤ idx (fun y => y.id == p.part) c.parts ∧ p.size ≠ 0 := by
  intro p hp
  have := bad_none h (portCode c p) (List.mem_map.2 ⟨p, hp, rfl⟩)
  unfold portCode at this
  split at this
  · cases this
  · split at this
    · cases this
    · exact ⟨by omega, by assumption⟩
theorem rChans_ok {c : Cfg} : ∀ (r : List Chn) (i : Nat), (rChans c i r).1 = 0 → ∀ (k : Nat) (x : Chn), r[k]? = some x → rChan c (i + k) x = 0
  | [], _, _, k, x, hx => by simp at hx
  | y :: r, i, h, k, x, hx => by
    unfold rChans at h
    by_cases h0 : rChan c i y = 0
    · rw [if_pos h0] at h
      cases k with
      | zero => simp at hx; subst hx; simpa using h0
      | succ k =>
        have := rChans_ok r (i + 1) h k x (by simpa using hx)
        rwa [show i + 1 + k = i + (k + 1) from by omega] at this
    · rw [if_neg h0] at h; exact absurd h h0
theorem rDests_ok {c : Cfg} {i : Nat} {x : Chn} : ∀ (r : List Int) (k : Nat), rDests c i x k r = 0 → ∀ (m : Nat) (d : Int), r[m]? = some d → rDest c i x (k + m) d = 0
  | [], _, _, m, d, hd => by simp at hd
  | e :: r, k, h, m, d, hd => by
    unfold rDests at h
    by_cases h0 : rDest c i x k e = 0
    · rw [if_pos h0] at h
      cases m with
      | zero => simp at hd; subst hd; simpa using h0
      | succ m =>
        have := rDests_ok r (k + 1) h m d (by simpa using hd)
        rwa [show k + 1 + m = k + (m + 1) from by omega] at this
    · rw [if_neg h0] at h; exact absurd h h0
/-- a right channel: its source is an output, its destinations are inputs of the same kind, none is used before -/
structure GoodCh (c : Cfg) (i : Nat) (x : Chn) : Prop where
  src : ∃ s, portOf c x.source = some s ∧ s.output = true
  fresh : usesL (c.chans.take i) x.source = false
  some_ : x.dests ≠ []
  dst : ∀ (k : Nat) (d : Int), x.dests[k]? = some d → ∃ p, portOf c d = some p ∧ p.output = false ∧ sameKind (thePort c x.source) p = true ∧ usesL (c.chans.take i) d = false ∧ d ∉ x.dests.take k
theorem rChan_good {c : Cfg} {i : Nat} {x : Chn} (h : rChan c i x = 0) : GoodCh c i x := by
  unfold rChan at h
  rcases hs : portOf c x.source with _ | s
  · rw [hs] at h; cases h
  · rw [hs] at h
    simp only at h
    cases ho : s.output with
    | false => rw [ho] at h; simp at h
    | true =>
      rw [ho] at h
      simp only [if_true] at h
      by_cases hu : usesL (c.chans.take i) x.source = true
      · rw [if_pos hu] at h; cases h
      · rw [if_neg hu] at h
        by_cases hd : x.dests = []
        · rw [if_pos hd] at h; cases h
        · rw [if_neg hd] at h
          refine ⟨⟨s, hs, ho⟩, Bool.eq_false_iff.2 hu, hd, fun k d hk => ?_⟩
          have h2 := rDests_ok x.dests 0 h k d hk
          rw [Nat.zero_add] at h2
          unfold rDest at h2
          rcases hp : portOf c d with _ | p
          · rw [hp] at h2; cases h2
          · rw [hp] at h2
            simp only at h2
            cases hpo : p.output with
            | true => rw [hpo] at h2; simp at h2
            | false =>
              rw [hpo] at h2
              simp only [Bool.false_eq_true, if_false] at h2
              by_cases hk2 : sameKind (thePort c x.source) p = true
              · rw [if_pos hk2] at h2
                split at h2
                · cases h2
                · rename_i hn
                  have hid := portOf_id hp
                  rw [hid] at hn
                  simp only [Bool.or_eq_true, not_or] at hn
                  exact ⟨p, rfl, hpo, hk2, Bool.eq_false_iff.2 hn.1, fun hm => hn.2 (List.contains_iff_mem.2 hm)⟩
              · rw [if_neg hk2] at h2; cases h2
theorem right_good {c : Cfg} (h : (rChanBad c).1 = 0) {i : Nat} {x : Chn} (hx : c.chans[i]? = some x) : GoodCh c i x := by
  have := rChans_ok c.chans 0 h i x hx
  rw [Nat.zero_add] at this
  exact rChan_good this
theorem right_wired {c : Cfg} (h : rightB c = true) : wired c := by
  obtain ⟨_, _, h3⟩ := right_parts h
  intro x hx
  obtain ⟨i, hi⟩ := List.mem_iff_getElem?.1 hx
  have g := right_good h3 hi
  obtain ⟨s, hs, _⟩ := g.src
  refine ⟨by rw [hs]; rfl, fun d hd => ?_⟩
  obtain ⟨k, hk⟩ := List.mem_iff_getElem?.1 hd
  obtain ⟨p, hp, _⟩ := g.dst k d hk
  rw [hp]; rfl
theorem right_owned {c : Cfg} (h : rightB c = true) : ∀ x ∈ c.chans, 0 ≤ ownerOf c x.source ∧ ∀ d ∈ x.dests, 0 ≤ ownerOf c d := by
  obtain ⟨_, h2, _⟩ := right_parts h
  have hw := right_wired h
  have hp : ∀ id, (portOf c id).isSome = true → 0 ≤ ownerOf c id := fun id hid => by
    obtain ⟨k, _, hk, _⟩ := port_idx hid
    exact (port_known h2 _ (List.mem_of_getElem? hk)).1
  intro x hx
  obtain ⟨q1, q2⟩ := hw x hx
  exact ⟨hp _ q1, fun d hd => hp _ (q2 d hd)⟩
end Go.Proofs.Ytifmcdnaaaphmaa
