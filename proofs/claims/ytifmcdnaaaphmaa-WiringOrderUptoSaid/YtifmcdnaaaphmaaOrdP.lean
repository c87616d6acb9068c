/-
  Whether ports and channels are right does not depend on their order. Plain lists; no program in sight; no condition.
-/
import Derived.Test.YtifmcdnaaaphmaaWirG
namespace Go.Proofs.Ytifmcdnaaaphmaa
open Go.RowKit
def revD (x : Chn) : Chn := { x with dests := x.dests.reverse }
def Cfg.turn (c : Cfg) : Cfg := { c with ports := c.ports.reverse, chans := (c.chans.map revD).reverse }
theorem find_unique {l : List Prt} (hu : (l.map (·.id)).Nodup) {id : Int} {p : Prt} : l.find? (fun x => x.id == id) = some p ↔ p ∈ l ∧ p.id = id := by
  induction l with
  | nil => simp
  | cons y r ih =>
    rw [List.map_cons, List.nodup_cons] at hu
    rw [List.find?_cons]
    by_cases h : y.id = id
    · rw [show (y.id == id) = true from by simpa using h]
      constructor
      · intro e; injection e with e; subst e; exact ⟨by simp, h⟩
      · rintro ⟨hm, hp⟩
        rcases List.mem_cons.1 hm with rfl | hm
        · rfl
        · exact absurd (List.mem_map.2 ⟨p, hm, by rw [hp, h]⟩) hu.1
    · rw [show (y.id == id) = false from by simpa using h]
      rw [ih hu.2]
      constructor
      · rintro ⟨hm, hp⟩; exact ⟨by simp [hm], hp⟩
      · rintro ⟨hm, hp⟩
        rcases List.mem_cons.1 hm with rfl | hm
        · exact absurd hp h
        · exact ⟨hm, hp⟩
theorem port_turn {c : Cfg} (hu : (c.ports.map (·.id)).Nodup) (id : Int) : portOf c.turn id = portOf c id := by
  have hu' : (c.ports.reverse.map (·.id)).Nodup := by rw [List.map_reverse]; exact (List.reverse_perm _).nodup_iff.2 hu
  apply Option.ext
  intro p
  show c.ports.reverse.find? _ = some p ↔ c.ports.find? _ = some p
  rw [find_unique hu', find_unique hu, List.mem_reverse]
theorem the_turn {c : Cfg} (hu : (c.ports.map (·.id)).Nodup) (id : Int) : thePort c.turn id = thePort c id := by unfold thePort; rw [port_turn hu]
theorem portBad_turn (c : Cfg) : (portBad c.turn).1 = 0 ↔ (portBad c).1 = 0 := by
  unfold portBad
  rw [bad_zero, bad_zero]
  have e : ∀ p, portCode c.turn p = portCode c p := fun _ => rfl
  constructor
  · intro h x hx
    obtain ⟨p, hp, rfl⟩ := List.mem_map.1 hx
    exact h _ (List.mem_map.2 ⟨p, by show p ∈ c.ports.reverse; simpa using hp, rfl⟩)
  · intro h x hx
    obtain ⟨p, hp, rfl⟩ := List.mem_map.1 hx
    exact h _ (List.mem_map.2 ⟨p, by have : p ∈ c.ports.reverse := hp; simpa using this, rfl⟩)
/-- what is asked of an end, but that it is used once -/
def okEnd (c : Cfg) (id : Int) (out : Bool) (fit : Prt → Bool) : Prop := ∃ p, portOf c id = some p ∧ p.output = out ∧ fit p = true
theorem endCode_zero {c : Cfg} {u : List Int} {id : Int} {out : Bool} {fit : Prt → Bool} : endCode c u id out fit = 0 ↔ okEnd c id out fit ∧ id ∉ u := by
  unfold endCode okEnd
  rcases h : portOf c id with _ | p
  · simp
  · by_cases h1 : p.output = out
    · by_cases h2 : fit p = true
      · by_cases h3 : id ∈ u
        · simp [h1, h2, h3]
        · simp [h1, h2, h3]
      · simp [h1, h2]
    · simp [h1]
theorem destsCode_zero {c : Cfg} {s : Prt} : ∀ (l u : List Int), ((destsCode c s u l).1 = 0 ↔ (∀ d ∈ l, okEnd c d false (sameKind s)) ∧ l.Nodup ∧ ∀ d ∈ l, d ∉ u) ∧ ((destsCode c s u l).1 = 0 → (destsCode c s u l).2 = u ++ l)
  | [], u => by simp [destsCode]
  | d :: r, u => by
    unfold destsCode
    obtain ⟨h1, h2⟩ := destsCode_zero (c := c) (s := s) r (u ++ [d])
    by_cases h0 : endCode c u d false (sameKind s) = 0
    · rw [if_pos h0]
      rw [endCode_zero] at h0
      refine ⟨?_, fun e => by rw [h2 e]; simp⟩
      rw [h1]
      constructor
      · rintro ⟨a, b, e⟩
        refine ⟨fun x hx => ?_, ?_, fun x hx => ?_⟩
        · rcases List.mem_cons.1 hx with rfl | hx
          · exact h0.1
          · exact a x hx
        · rw [List.nodup_cons]
          exact ⟨fun hd => e d hd (by simp), b⟩
        · rcases List.mem_cons.1 hx with rfl | hx
          · exact h0.2
          · exact fun hu => e x hx (by simp [hu])
      · rintro ⟨a, b, e⟩
        rw [List.nodup_cons] at b
        refine ⟨fun x hx => a x (by simp [hx]), b.2, fun x hx hu => ?_⟩
        rcases List.mem_append.1 hu with hu | hu
        · exact e x (by simp [hx]) hu
        · rw [List.mem_singleton] at hu; exact b.1 (hu ▸ hx)
    · rw [if_neg h0]
      refine ⟨⟨fun e => absurd e h0, ?_⟩, fun e => absurd e h0⟩
      rintro ⟨a, b, e⟩
      exact absurd (endCode_zero.2 ⟨a d (by simp), e d (by simp)⟩) h0
/-- what is asked of a channel alone -/
def okChan (c : Cfg) (x : Chn) : Prop := okEnd c x.source true anyPort ∧ x.dests ≠ [] ∧ ∀ d ∈ x.dests, okEnd c d false (sameKind (thePort c x.source))
def endsOf (x : Chn) : List Int := x.source :: x.dests
theorem chanCode_zero {c : Cfg} {u : List Int} {x : Chn} : ((chanCode c u x).1 = 0 ↔ okChan c x ∧ (endsOf x).Nodup ∧ ∀ d ∈ endsOf x, d ∉ u) ∧ ((chanCode c u x).1 = 0 → (chanCode c u x).2 = u ++ endsOf x) := by
  unfold chanCode okChan endsOf
  by_cases h0 : endCode c u x.source true anyPort = 0
  · rw [if_pos h0]
    rw [endCode_zero] at h0
    by_cases hd : x.dests = []
    · rw [if_pos hd]
      refine ⟨⟨fun e => by simp at e, ?_⟩, fun e => by simp at e⟩
      rintro ⟨⟨_, h, _⟩, _⟩
      exact absurd hd h
    · rw [if_neg hd]
      obtain ⟨h1, h2⟩ := destsCode_zero (c := c) (s := thePort c x.source) x.dests (u ++ [x.source])
      refine ⟨?_, fun e => by rw [h2 e]; simp⟩
      rw [h1]
      constructor
      · rintro ⟨a, b, e⟩
        refine ⟨⟨h0.1, hd, a⟩, ?_, fun y hy => ?_⟩
        · rw [List.nodup_cons]
          exact ⟨fun hm => e _ hm (by simp), b⟩
        · rcases List.mem_cons.1 hy with rfl | hy
          · exact h0.2
          · exact fun hu => e y hy (by simp [hu])
      · rintro ⟨⟨_, _, a⟩, b, e⟩
        rw [List.nodup_cons] at b
        refine ⟨a, b.2, fun y hy hu => ?_⟩
        rcases List.mem_append.1 hu with hu | hu
        · exact e y (by simp [hy]) hu
        · rw [List.mem_singleton] at hu; exact b.1 (hu ▸ hy)
  · rw [if_neg h0]
    refine ⟨⟨fun e => absurd e h0, ?_⟩, fun e => absurd e h0⟩
    rintro ⟨⟨a, _⟩, _, e⟩
    exact absurd (endCode_zero.2 ⟨a, e _ (by simp)⟩) h0
theorem chansBad_zero {c : Cfg} : ∀ (l : List Chn) (i : Nat) (u : List Int), (chansBad c i u l).1 = 0 ↔ (∀ x ∈ l, okChan c x) ∧ (l.flatMap endsOf).Nodup ∧ ∀ d ∈ l.flatMap endsOf, d ∉ u
  | [], i, u => by simp [chansBad]
  | x :: r, i, u => by
    unfold chansBad
    obtain ⟨h1, h2⟩ := chanCode_zero (c := c) (u := u) (x := x)
    by_cases h0 : (chanCode c u x).1 = 0
    · rw [if_pos h0, chansBad_zero r (i + 1), h2 h0]
      have h3 := h1.1 h0
      rw [List.flatMap_cons, List.nodup_append]
      constructor
      · rintro ⟨a, b, e⟩
        refine ⟨fun y hy => ?_, ⟨h3.2.1, b, fun p hp q hq hpq => ?_⟩, fun y hy => ?_⟩
        · rcases List.mem_cons.1 hy with rfl | hy
          · exact h3.1
          · exact a y hy
        · subst hpq; exact e p hq (by simp [hp])
        · rcases List.mem_append.1 hy with hy | hy
          · exact h3.2.2 y hy
          · exact fun hu => e y hy (by simp [hu])
      · rintro ⟨a, ⟨_, b, e1⟩, e⟩
        refine ⟨fun y hy => a y (by simp [hy]), b, fun y hy hu => ?_⟩
        rcases List.mem_append.1 hu with hu | hu
        · exact e y (by simp [hy]) hu
        · exact e1 y hu y hy rfl
    · rw [if_neg h0]
      refine ⟨fun e => absurd e h0, ?_⟩
      rintro ⟨a, b, e⟩
      rw [List.flatMap_cons, List.nodup_append] at b
      exact absurd (h1.2 ⟨a x (by simp), b.1, fun d hd => e d (by simp [hd])⟩) h0
theorem chanBad_zero (c : Cfg) : (chanBad c).1 = 0 ↔ (∀ x ∈ c.chans, okChan c x) ∧ (c.chans.flatMap endsOf).Nodup := by
  unfold chanBad
  rw [chansBad_zero]
  simp
theorem okEnd_turn {c : Cfg} (hu : (c.ports.map (·.id)).Nodup) {id : Int} {o : Bool} {f : Prt → Bool} : okEnd c.turn id o f ↔ okEnd c id o f := by unfold okEnd; rw [port_turn hu]
theorem okChan_turn {c : Cfg} (hu : (c.ports.map (·.id)).Nodup) {x : Chn} : okChan c.turn (revD x) ↔ okChan c x := by
  unfold okChan revD
  simp only [okEnd_turn hu, the_turn hu, List.mem_reverse, ne_eq, List.reverse_eq_nil_iff]
theorem ends_perm : ∀ (l : List Chn), ((l.map revD).flatMap endsOf).Perm (l.flatMap endsOf)
  | [] => by simp
  | x :: r => by
    rw [List.map_cons, List.flatMap_cons, List.flatMap_cons]
    refine List.Perm.append ?_ (ends_perm r)
    exact (List.reverse_perm x.dests).cons _
theorem flat_rev {α : Type} (f : α → List Int) : ∀ (l : List α), (l.reverse.flatMap f).Perm (l.flatMap f)
  | [] => by simp
  | x :: r => by
    rw [List.reverse_cons, List.flatMap_append, List.flatMap_cons, List.flatMap_cons, List.flatMap_nil, List.append_nil]
    exact (List.Perm.append_right _ (flat_rev f r)).trans List.perm_append_comm
theorem chanBad_turn {c : Cfg} (hu : (c.ports.map (·.id)).Nodup) : (chanBad c.turn).1 = 0 ↔ (chanBad c).1 = 0 := by
  rw [chanBad_zero, chanBad_zero]
  have e1 : (∀ x ∈ c.turn.chans, okChan c.turn x) ↔ ∀ x ∈ c.chans, okChan c x := by
    constructor
    · intro h x hx
      exact (okChan_turn hu).1 (h (revD x) (by show revD x ∈ (c.chans.map revD).reverse; rw [List.mem_reverse]; exact List.mem_map.2 ⟨x, hx, rfl⟩))
    · intro h x hx
      have hx2 : x ∈ (c.chans.map revD).reverse := hx
      rw [List.mem_reverse] at hx2
      obtain ⟨y, hy, rfl⟩ := List.mem_map.1 hx2
      exact (okChan_turn hu).2 (h y hy)
  have e2 : (c.turn.chans.flatMap endsOf).Perm (c.chans.flatMap endsOf) := (flat_rev endsOf (c.chans.map revD)).trans (ends_perm c.chans)
  rw [e1, e2.nodup_iff]
theorem sumDests_turn (l : List Chn) : sumDests (l.map revD).reverse = sumDests l := by
  unfold sumDests
  rw [List.map_reverse, List.sum_reverse, List.map_map]
  congr 1
  apply List.map_congr_left
  intro x _
  simp [revD]
theorem Cfg.turn_small {c : Cfg} (h : c.small) : c.turn.small := by
  obtain ⟨h1, h2, h3⟩ := h
  refine ⟨?_, h2, fun p hp => h3 p (by simpa [Cfg.turn] using hp)⟩
  unfold Cfg.total at h1 ⊢
  simp only [Cfg.turn, List.length_reverse, List.length_map, sumDests_turn]
  exact h1
theorem Cfg.turn_ok {c : Cfg} (h : c.ok) : c.turn.ok := by
  obtain ⟨h0, h1, h2, h3, h4, h5⟩ := h
  refine ⟨h0, h1, h2, h3, fun p hp => h4 p (by simpa [Cfg.turn] using hp), fun x hx => ?_⟩
  have hx2 : x ∈ (c.chans.map revD).reverse := hx
  rw [List.mem_reverse] at hx2
  obtain ⟨y, hy, rfl⟩ := List.mem_map.1 hx2
  exact ⟨(h5 y hy).id, (h5 y hy).source, fun d hd => (h5 y hy).dests d (by simpa [revD] using hd)⟩
theorem badFlt_cases (s : Int) (v : Int × Int) : (v.1 = 0 ∧ badFlt s v = ⟨0, 0, 0⟩) ∨ (v.1 ≠ 0 ∧ ∃ e i, badFlt s v = ⟨e, s, i⟩) := by
  unfold badFlt
  by_cases h : v.1 = 0
  · exact .inl ⟨h, if_pos h⟩
  · exact .inr ⟨h, _, _, if_neg h⟩
theorem turn_ports {c : Cfg} {ec i : Int} (h : portBad c = (ec, i)) : (ec = 0 ∧ pFlt c.turn = ⟨0, 0, 0⟩) ∨ (ec ≠ 0 ∧ ∃ e i, pFlt c.turn = ⟨e, 4, i⟩) := by
  have ht := portBad_turn c
  rw [h] at ht
  rcases badFlt_cases 4 (portBad c.turn) with ⟨h1, h2⟩ | ⟨h1, h2⟩
  · exact .inl ⟨ht.1 h1, h2⟩
  · exact .inr ⟨fun e => h1 (ht.2 e), h2⟩
theorem turn_chans {c : Cfg} (hu : (c.ports.map (·.id)).Nodup) {ec i : Int} (h : rChanBad c = (ec, i)) : (ec = 0 ∧ xFlt c.turn = ⟨0, 0, 0⟩) ∨ (ec ≠ 0 ∧ ∃ e i, xFlt c.turn = ⟨e, 5, i⟩) := by
  have ht := chanBad_turn hu
  rw [chanBad_eq c, h] at ht
  rcases badFlt_cases 5 (chanBad c.turn) with ⟨h1, h2⟩ | ⟨h1, h2⟩
  · exact .inl ⟨ht.1 h1, h2⟩
  · exact .inr ⟨fun e => h1 (ht.2 e), h2⟩
end Go.Proofs.Ytifmcdnaaaphmaa
