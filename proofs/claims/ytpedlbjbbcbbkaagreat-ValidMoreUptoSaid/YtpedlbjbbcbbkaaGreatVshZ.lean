/-
  What it means that the regions are right: each is, and no two of them overlap unless they may. It speaks of no program.
-/
import Derived.Test.YtpedlbjbbcbbkaaGreatMemA
import Derived.Test.YtpedlbjbbcbbkaaGreatWirB
import Derived.Test.YtpedlbjbbcbbkaaGreatLessP
import Derived.Test.YtpedlbjbbcbbkaaGreatNrmP
namespace Go.Proofs.YtpedlbjbbcbbkaaGreat
open Go.RowKit
def rightM (c : Cfg) : Bool := decide ((memBad c).1 = 0)
/-- no region overlaps a later one, unless they may -/
def NoOver (l : List Reg) : Prop := l.Pairwise fun x y => overR x y = false
theorem clashBad_zero {l : List Reg} : (clashBad l).1 = 0 ↔ NoOver l := by
  unfold clashBad
  rw [bad_zero, NoOver, List.pairwise_iff_getElem]
  constructor
  · intro h i j hi hj hij
    have h1 := h (clashAt l j) (List.mem_map.2 ⟨j, List.mem_range.2 hj, rfl⟩)
    rcases hv : overR l[i] l[j] with _ | _
    · rfl
    · have := over_hit (List.getElem?_eq_getElem hj) (List.getElem?_eq_getElem hi) hij hv
      omega
  · intro h e he
    obtain ⟨j, hj, rfl⟩ := List.mem_map.1 he
    have hj := List.mem_range.1 hj
    rcases Decidable.em (clashAt l j = 0) with h1 | h1
    · exact h1
    · obtain ⟨i, x, y, hij, hx, hy, ho⟩ := clash_over h1
      have hi := (List.getElem?_eq_some_iff.1 hx).1
      have := h i j hi hj hij
      rw [(List.getElem?_eq_some_iff.1 hx).2, (List.getElem?_eq_some_iff.1 hy).2, ho] at this
      cases this
theorem rightM_iff {c : Cfg} : rightM c = true ↔ ((∀ r ∈ c.regs, regCode c r = 0) ∧ NoOver c.regs) := by
  unfold rightM memBad
  rw [decide_eq_true_eq]
  have hr : (regBad c).1 = 0 ↔ ∀ r ∈ c.regs, regCode c r = 0 := by
    unfold regBad
    rw [bad_zero]
    constructor
    · intro h r hr; exact h _ (List.mem_map.2 ⟨r, hr, rfl⟩)
    · intro h e he; obtain ⟨r, hr, rfl⟩ := List.mem_map.1 he; exact h r hr
  by_cases h : (regBad c).1 = 0
  · rw [if_pos h, clashBad_zero]
    exact ⟨fun h2 => ⟨hr.1 h, h2⟩, fun h2 => h2.2⟩
  · rw [if_neg h]
    exact ⟨fun h2 => absurd h2 h, fun h2 => absurd (hr.2 h2.1) h⟩
theorem rightM_sp {c : Cfg} (hok : c.ok) (h : rightM c = true) : ∀ x ∈ c.regs, okSp x.base x.size := by
  refine regBad_ok hok ?_
  unfold rightM memBad at h
  rw [decide_eq_true_eq] at h
  by_cases h1 : (regBad c).1 = 0
  · exact h1
  · rw [if_neg h1] at h; exact absurd h h1
theorem memFlt_right {c : Cfg} : (memFlt c = noFlt) ↔ rightM c = true := by
  unfold memFlt rightM
  rw [decide_eq_true_eq]
  constructor
  · intro h
    by_cases h1 : (memBad c).1 = 0
    · exact h1
    · rw [if_neg h1] at h
      exact congrArg Flt.code h
  · intro h; rw [if_pos h]
theorem meetS_comm (a b : Spn) : meetS a b = meetS b a := by unfold meetS; rw [Bool.or_comm]
theorem regNe_comm (x y : Reg) : regNe x y = regNe y x := by
  unfold regNe
  rw [BEq.comm (a := x.base), BEq.comm (a := x.size), BEq.comm (a := x.part), BEq.comm (a := x.rights), BEq.comm (a := x.shared)]
theorem regAl_comm (x y : Reg) : regAl x y = regAl y x := by unfold regAl; rw [regNe_comm, Bool.and_comm x.shared]
theorem overR_comm (x y : Reg) : overR x y = overR y x := by unfold overR; rw [meetS_comm, regAl_comm]
theorem NoOver.rev {l : List Reg} : NoOver l.reverse ↔ NoOver l := by
  unfold NoOver
  rw [List.pairwise_reverse]
  constructor
  · intro h; exact h.imp fun {a b} h => by rw [overR_comm]; exact h
  · intro h; exact h.imp fun {a b} h => by rw [overR_comm]; exact h
end Go.Proofs.YtpedlbjbbcbbkaaGreat
namespace Go.Proofs.YtpedlbjbbcbbkaaGreat
open Go.RowKit
def revD (x : Chn) : Chn := { x with dests := x.dests.reverse }
def Cfg.turn (c : Cfg) : Cfg := { c with ports := c.ports.reverse, chans := (c.chans.map revD).reverse }
theorem find_unique {l : List Prt} (hu : (l.map (·.id)).Nodup) {id : Int} {p : Prt} : l.find? (fun x => x.id == id) = some p ↔ p ∈ l ∧ p.id = id := by
  induction l with
  | nil => simp
  | cons y r ih =>
    rw [List.map_cons, List.nodup_cons] at hu
    rw [List.find?_cons]
    by_cases h : y.id = id
    · rw [show (y.id == id) = true from by simpa using h]
      constructor
      · intro e; injection e with e; subst e; exact ⟨by simp, h⟩
      · rintro ⟨hm, hp⟩
        rcases List.mem_cons.1 hm with rfl | hm
        · rfl
        · exact absurd (List.mem_map.2 ⟨p, hm, by rw [hp, h]⟩) hu.1
    · rw [show (y.id == id) = false from by simpa using h]
      rw [ih hu.2]
      constructor
      · rintro ⟨hm, hp⟩; exact ⟨by simp [hm], hp⟩
      · rintro ⟨hm, hp⟩
        rcases List.mem_cons.1 hm with rfl | hm
        · exact absurd hp h
        · exact ⟨hm, hp⟩
theorem port_turn {c : Cfg} (hu : (c.ports.map (·.id)).Nodup) (id : Int) : portOf c.turn id = portOf c id := by
  have hu' : (c.ports.reverse.map (·.id)).Nodup := by rw [List.map_reverse]; exact (List.reverse_perm _).nodup_iff.2 hu
  apply Option.ext
  intro p
  show c.ports.reverse.find? _ = some p ↔ c.ports.find? _ = some p
  rw [find_unique hu', find_unique hu, List.mem_reverse]
theorem the_turn {c : Cfg} (hu : (c.ports.map (·.id)).Nodup) (id : Int) : thePort c.turn id = thePort c id := by unfold thePort; rw [port_turn hu]
theorem portBad_turn (c : Cfg) : (portBad c.turn).1 = 0 ↔ (portBad c).1 = 0 := by
  unfold portBad
  rw [bad_zero, bad_zero]
  have e : ∀ p, portCode c.turn p = portCode c p := fun _ => rfl
  constructor
  · intro h x hx
    obtain ⟨p, hp, rfl⟩ := List.mem_map.1 hx
    exact h _ (List.mem_map.2 ⟨p, by show p ∈ c.ports.reverse; simpa using hp, rfl⟩)
  · intro h x hx
    obtain ⟨p, hp, rfl⟩ := List.mem_map.1 hx
    exact h _ (List.mem_map.2 ⟨p, by have : p ∈ c.ports.reverse := hp; simpa using this, rfl⟩)
/-- what is asked of an end, but that it is used once -/
def okEnd (c : Cfg) (id : Int) (out : Bool) (fit : Prt → Bool) : Prop := ∃ p, portOf c id = some p ∧ p.output = out ∧ fit p = true
theorem endCode_zero {c : Cfg} {u : List Int} {id : Int} {out : Bool} {fit : Prt → Bool} : endCode c u id out fit = 0 ↔ okEnd c id out fit ∧ id ∉ u := by
  unfold endCode okEnd
  rcases h : portOf c id with _ | p
  · simp
  · by_cases h1 : p.output = out
    · by_cases h2 : fit p = true
      · by_cases h3 : id ∈ u
        · simp [h1, h2, h3]
        · simp [h1, h2, h3]
      · simp [h1, h2]
    · simp [h1]
theorem destsCode_zero {c : Cfg} {s : Prt} : ∀ (l u : List Int), ((destsCode c s u l).1 = 0 ↔ (∀ d ∈ l, okEnd c d false (sameKind s)) ∧ l.Nodup ∧ ∀ d ∈ l, d ∉ u) ∧ ((destsCode c s u l).1 = 0 → (destsCode c s u l).2 = u ++ l)
  | [], u => by simp [destsCode]
  | d :: r, u => by
    unfold destsCode
    obtain ⟨h1, h2⟩ := destsCode_zero (c := c) (s := s) r (u ++ [d])
    by_cases h0 : endCode c u d false (sameKind s) = 0
    · rw [if_pos h0]
      rw [endCode_zero] at h0
      refine ⟨?_, fun e => by rw [h2 e]; simp⟩
      rw [h1]
      constructor
      · rintro ⟨a, b, e⟩
        refine ⟨fun x hx => ?_, ?_, fun x hx => ?_⟩
        · rcases List.mem_cons.1 hx with rfl | hx
          · exact h0.1
          · exact a x hx
        · rw [List.nodup_cons]
          exact ⟨fun hd => e d hd (by simp), b⟩
        · rcases List.mem_cons.1 hx with rfl | hx
          · exact h0.2
          · exact fun hu => e x hx (by simp [hu])
      · rintro ⟨a, b, e⟩
        rw [List.nodup_cons] at b
        refine ⟨fun x hx => a x (by simp [hx]), b.2, fun x hx hu => ?_⟩
        rcases List.mem_append.1 hu with hu | hu
        · exact e x (by simp [hx]) hu
        · rw [List.mem_singleton] at hu; exact b.1 (hu ▸ hx)
    · rw [if_neg h0]
      refine ⟨⟨fun e => absurd e h0, ?_⟩, fun e => absurd e h0⟩
      rintro ⟨a, b, e⟩
      exact absurd (endCode_zero.2 ⟨a d (by simp), e d (by simp)⟩) h0
/-- what is asked of a channel alone -/
def okChan (c : Cfg) (x : Chn) : Prop := okEnd c x.source true anyPort ∧ x.dests ≠ [] ∧ ∀ d ∈ x.dests, okEnd c d false (sameKind (thePort c x.source))
def endsOf (x : Chn) : List Int := x.source :: x.dests
theorem chanCode_zero {c : Cfg} {u : List Int} {x : Chn} : ((chanCode c u x).1 = 0 ↔ okChan c x ∧ (endsOf x).Nodup ∧ ∀ d ∈ endsOf x, d ∉ u) ∧ ((chanCode c u x).1 = 0 → (chanCode c u x).2 = u ++ endsOf x) := by
  unfold chanCode okChan endsOf
  by_cases h0 : endCode c u x.source true anyPort = 0
  · rw [if_pos h0]
    rw [endCode_zero] at h0
    by_cases hd : x.dests = []
    · rw [if_pos hd]
      refine ⟨⟨fun e => by simp at e, ?_⟩, fun e => by simp at e⟩
      rintro ⟨⟨_, h, _⟩, _⟩
      exact absurd hd h
    · rw [if_neg hd]
      obtain ⟨h1, h2⟩ := destsCode_zero (c := c) (s := thePort c x.source) x.dests (u ++ [x.source])
      refine ⟨?_, fun e => by rw [h2 e]; simp⟩
      rw [h1]
      constructor
      · rintro ⟨a, b, e⟩
        refine ⟨⟨h0.1, hd, a⟩, ?_, fun y hy => ?_⟩
        · rw [List.nodup_cons]
          exact ⟨fun hm => e _ hm (by simp), b⟩
        · rcases List.mem_cons.1 hy with rfl | hy
          · exact h0.2
          · exact fun hu => e y hy (by simp [hu])
      · rintro ⟨⟨_, _, a⟩, b, e⟩
        rw [List.nodup_cons] at b
        refine ⟨a, b.2, fun y hy hu => ?_⟩
        rcases List.mem_append.1 hu with hu | hu
        · exact e y (by simp [hy]) hu
        · rw [List.mem_singleton] at hu; exact b.1 (hu ▸ hy)
  · rw [if_neg h0]
    refine ⟨⟨fun e => absurd e h0, ?_⟩, fun e => absurd e h0⟩
    rintro ⟨⟨a, _⟩, _, e⟩
    exact absurd (endCode_zero.2 ⟨a, e _ (by simp)⟩) h0
theorem chansBad_zero {c : Cfg} : ∀ (l : List Chn) (i : Nat) (u : List Int), (chansBad c i u l).1 = 0 ↔ (∀ x ∈ l, okChan c x) ∧ (l.flatMap endsOf).Nodup ∧ ∀ d ∈ l.flatMap endsOf, d ∉ u
  | [], i, u => by simp [chansBad]
  | x :: r, i, u => by
    unfold chansBad
    obtain ⟨h1, h2⟩ := chanCode_zero (c := c) (u := u) (x := x)
    by_cases h0 : (chanCode c u x).1 = 0
    · rw [if_pos h0, chansBad_zero r (i + 1), h2 h0]
      have h3 := h1.1 h0
      rw [List.flatMap_cons, List.nodup_append]
      constructor
      · rintro ⟨a, b, e⟩
        refine ⟨fun y hy => ?_, ⟨h3.2.1, b, fun p hp q hq hpq => ?_⟩, fun y hy => ?_⟩
        · rcases List.mem_cons.1 hy with rfl | hy
          · exact h3.1
          · exact a y hy
        · subst hpq; exact e p hq (by simp [hp])
        · rcases List.mem_append.1 hy with hy | hy
          · exact h3.2.2 y hy
          · exact fun hu => e y hy (by simp [hu])
      · rintro ⟨a, ⟨_, b, e1⟩, e⟩
        refine ⟨fun y hy => a y (by simp [hy]), b, fun y hy hu => ?_⟩
        rcases List.mem_append.1 hu with hu | hu
        · exact e y (by simp [hy]) hu
        · exact e1 y hu y hy rfl
    · rw [if_neg h0]
      refine ⟨fun e => absurd e h0, ?_⟩
      rintro ⟨a, b, e⟩
      rw [List.flatMap_cons, List.nodup_append] at b
      exact absurd (h1.2 ⟨a x (by simp), b.1, fun d hd => e d (by simp [hd])⟩) h0
theorem chanBad_zero (c : Cfg) : (chanBad c).1 = 0 ↔ (∀ x ∈ c.chans, okChan c x) ∧ (c.chans.flatMap endsOf).Nodup := by
  unfold chanBad
  rw [chansBad_zero]
  simp
theorem okEnd_turn {c : Cfg} (hu : (c.ports.map (·.id)).Nodup) {id : Int} {o : Bool} {f : Prt → Bool} : okEnd c.turn id o f ↔ okEnd c id o f := by unfold okEnd; rw [port_turn hu]
theorem okChan_turn {c : Cfg} (hu : (c.ports.map (·.id)).Nodup) {x : Chn} : okChan c.turn (revD x) ↔ okChan c x := by
  unfold okChan revD
  simp only [okEnd_turn hu, the_turn hu, List.mem_reverse, ne_eq, List.reverse_eq_nil_iff]
theorem ends_perm : ∀ (l : List Chn), ((l.map revD).flatMap endsOf).Perm (l.flatMap endsOf)
  | [] => by simp
  | x :: r => by
    rw [List.map_cons, List.flatMap_cons, List.flatMap_cons]
    refine List.Perm.append ?_ (ends_perm r)
    exact (List.reverse_perm x.dests).cons _
theorem flat_rev {α : Type} (f : α → List Int) : ∀ (l : List α), (l.reverse.flatMap f).Perm (l.flatMap f)
  | [] => by simp
  | x :: r => by
    rw [List.reverse_cons, List.flatMap_append, List.flatMap_cons, List.flatMap_cons, List.flatMap_nil, List.append_nil]
    exact (List.Perm.append_right _ (flat_rev f r)).trans List.perm_append_comm
theorem chanBad_turn {c : Cfg} (hu : (c.ports.map (·.id)).Nodup) : (chanBad c.turn).1 = 0 ↔ (chanBad c).1 = 0 := by
  rw [chanBad_zero, chanBad_zero]
  have e1 : (∀ x ∈ c.turn.chans, okChan c.turn x) ↔ ∀ x ∈ c.chans, okChan c x := by
    constructor
    · intro h x hx
      exact (okChan_turn hu).1 (h (revD x) (by show revD x ∈ (c.chans.map revD).reverse; rw [List.mem_reverse]; exact List.mem_map.2 ⟨x, hx, rfl⟩))
    · intro h x hx
      have hx2 : x ∈ (c.chans.map revD).reverse := hx
      rw [List.mem_reverse] at hx2
      obtain ⟨y, hy, rfl⟩ := List.mem_map.1 hx2
      exact (okChan_turn hu).2 (h y hy)
  have e2 : (c.turn.chans.flatMap endsOf).Perm (c.chans.flatMap endsOf) := (flat_rev endsOf (c.chans.map revD)).trans (ends_perm c.chans)
  rw [e1, e2.nodup_iff]
theorem sumDests_turn (l : List Chn) : sumDests (l.map revD).reverse = sumDests l := by
  unfold sumDests
  rw [List.map_reverse, List.sum_reverse, List.map_map]
  congr 1
  apply List.map_congr_left
  intro x _
  simp [revD]
theorem Cfg.turn_small {c : Cfg} (h : c.small) : c.turn.small := by
  obtain ⟨h1, h2, h3⟩ := h
  refine ⟨?_, h2, fun p hp => h3 p (by simpa [Cfg.turn] using hp)⟩
  unfold Cfg.total at h1 ⊢
  simp only [Cfg.turn, List.length_reverse, List.length_map, sumDests_turn]
  exact h1
theorem Cfg.turn_ok {c : Cfg} (h : c.ok) : c.turn.ok := by
  obtain ⟨h0, h1, h2, h3, h4, h5⟩ := h
  refine ⟨h0, h1, h2, h3, fun p hp => h4 p (by simpa [Cfg.turn] using hp), fun x hx => ?_⟩
  have hx2 : x ∈ (c.chans.map revD).reverse := hx
  rw [List.mem_reverse] at hx2
  obtain ⟨y, hy, rfl⟩ := List.mem_map.1 hx2
  exact ⟨(h5 y hy).id, (h5 y hy).source, fun d hd => (h5 y hy).dests d (by simpa [revD] using hd)⟩
theorem badFlt_cases (s : Int) (v : Int × Int) : (v.1 = 0 ∧ badFlt s v = ⟨0, 0, 0⟩) ∨ (v.1 ≠ 0 ∧ ∃ e i, badFlt s v = ⟨e, s, i⟩) := by
  unfold badFlt
  by_cases h : v.1 = 0
  · exact .inl ⟨h, if_pos h⟩
  · exact .inr ⟨h, _, _, if_neg h⟩
theorem turn_ports {c : Cfg} {ec i : Int} (h : portBad c = (ec, i)) : (ec = 0 ∧ pFlt c.turn = ⟨0, 0, 0⟩) ∨ (ec ≠ 0 ∧ ∃ e i, pFlt c.turn = ⟨e, 4, i⟩) := by
  have ht := portBad_turn c
  rw [h] at ht
  rcases badFlt_cases 4 (portBad c.turn) with ⟨h1, h2⟩ | ⟨h1, h2⟩
  · exact .inl ⟨ht.1 h1, h2⟩
  · exact .inr ⟨fun e => h1 (ht.2 e), h2⟩
theorem turn_chans {c : Cfg} (hu : (c.ports.map (·.id)).Nodup) {ec i : Int} (h : rChanBad c = (ec, i)) : (ec = 0 ∧ xFlt c.turn = ⟨0, 0, 0⟩) ∨ (ec ≠ 0 ∧ ∃ e i, xFlt c.turn = ⟨e, 5, i⟩) := by
  have ht := chanBad_turn hu
  rw [chanBad_eq c, h] at ht
  rcases badFlt_cases 5 (chanBad c.turn) with ⟨h1, h2⟩ | ⟨h1, h2⟩
  · exact .inl ⟨ht.1 h1, h2⟩
  · exact .inr ⟨fun e => h1 (ht.2 e), h2⟩
end Go.Proofs.YtpedlbjbbcbbkaaGreat
namespace Go.Proofs.YtpedlbjbbcbbkaaGreat
open Go.RowKit
theorem repV_neg {α : Type} [DecidableEq α] (l : List α) : rep l < 0 ↔ l.Nodup := by
  have key : ∀ (m seen : List α) (i : Nat), repFrom seen i m < 0 ↔ (m.Nodup ∧ ∀ x ∈ m, x ∉ seen) := by
    intro m
    induction m with
    | nil => intro seen i; simp [repFrom]
    | cons x r ih =>
      intro seen i
      unfold repFrom
      by_cases h : x ∈ seen
      · rw [if_pos h]
        constructor
        · intro h2; omega
        · intro h2; exact absurd h (h2.2 x (List.mem_cons_self ..))
      · rw [if_neg h, ih]
        simp only [List.nodup_cons, List.mem_append, List.mem_cons, List.not_mem_nil, or_false, not_or]
        constructor
        · rintro ⟨h1, h2⟩
          refine ⟨⟨fun hx => (h2 x hx).2 rfl, h1⟩, ?_⟩
          rintro y (rfl | hy)
          · exact h
          · exact (h2 y hy).1
        · rintro ⟨⟨h1, h2⟩, h3⟩
          exact ⟨h2, fun y hy => ⟨h3 y (.inr hy), fun e => h1 (e ▸ hy)⟩⟩
  have := key l [] 0
  unfold rep
  rw [this]
  simp
theorem one_zero (s i : Int) : (firstOf s [i]).code = 0 ↔ i < 0 := by
  have e : firstOf s [i] = if 0 ≤ i then ⟨18, s, i⟩ else noFlt := by rw [firstOf, firstOf]
  rw [e]
  by_cases h : 0 ≤ i
  · rw [if_pos h]
    constructor
    · intro h2; exact absurd h2 (by simp)
    · intro h2; omega
  · rw [if_neg h]
    exact ⟨fun _ => by omega, fun _ => rfl⟩
theorem up_zero {c : Cfg} : (valF c 1).code = 0 ↔ (c.parts.map (·.id)).Nodup ∧ (c.parts.map (·.name)).Nodup := by
  show (firstOf 1 [refParts c]).code = 0 ↔ _
  rw [one_zero, ← repV_neg, ← repV_neg]
  unfold refParts
  split <;> omega
theorem ut_zero {c : Cfg} : (valF c 2).code = 0 ↔ (c.ports.map (·.id)).Nodup ∧ (c.ports.map Prt.key).Nodup := by
  show (firstOf 4 [refPorts c]).code = 0 ↔ _
  rw [one_zero, ← repV_neg, ← repV_neg]
  unfold refPorts
  split <;> omega
theorem uc_zero {c : Cfg} : (valF c 3).code = 0 ↔ (c.chans.map (·.id)).Nodup := by
  show (firstOf 5 [rep (c.chans.map (·.id))]).code = 0 ↔ _
  rw [one_zero, repV_neg]
theorem all_zero {α : Type} (f : α → Int) (l : List α) : (bad 0 (l.map f)).1 = 0 ↔ ∀ x ∈ l, f x = 0 := by
  rw [bad_zero]
  constructor
  · intro h x hx; exact h _ (List.mem_map.2 ⟨x, hx, rfl⟩)
  · intro h e he; obtain ⟨x, hx, rfl⟩ := List.mem_map.1 he; exact h x hx
theorem meetJ_back {l : List Win} (h : l.Pairwise fun a b => meetW a b = false) : ¬ 0 ≤ meetJ l := by
  intro h0
  unfold meetJ at h0
  split at h0
  · rename_i j hj
    have h1 := List.find?_some hj
    have h2 := List.mem_range.1 (List.mem_of_find?_eq_some hj)
    unfold meetsAt at h1
    rw [List.getElem?_eq_getElem h2] at h1
    obtain ⟨x, hx, hm⟩ := List.any_eq_true.1 h1
    obtain ⟨i, hi⟩ := List.mem_iff_getElem?.1 hx
    rw [List.getElem?_take] at hi
    split at hi
    · rename_i hij
      obtain ⟨hl, he⟩ := List.getElem?_eq_some_iff.1 hi
      have := List.pairwise_iff_getElem.1 h i j hl h2 hij
      rw [he] at this
      have hm : meetW x l[j] = true := hm
      rw [hm] at this
      cases this
    · cases hi
  · omega
theorem win_zero {c : Cfg} : (valF c 4).code = 0 ↔ c.frame ≠ 0 ∧ (∀ x ∈ c.wins, winE c x = 0) ∧ c.wins.Pairwise (fun a b => meetW a b = false) := by
  show (winBad c).1 = 0 ↔ _
  rw [← all_zero]
  unfold winBad
  by_cases h0 : c.frame = 0
  · rw [if_pos h0]
    exact ⟨fun h => absurd h (by simp), fun h => absurd h0 h.1⟩
  · rw [if_neg h0]
    by_cases h1 : (bad 0 (c.wins.map (winE c))).1 = 0
    · rw [if_neg (by simpa using h1)]
      by_cases h2 : 0 ≤ meetJ c.wins
      · rw [if_pos h2]
        exact ⟨fun h => absurd h (by simp), fun h => absurd h2 (meetJ_back h.2.2)⟩
      · rw [if_neg h2]
        exact ⟨fun _ => ⟨h0, h1, meetJ_none h2⟩, fun _ => rfl⟩
    · rw [if_pos h1]
      exact ⟨fun h => absurd h h1, fun h => absurd h.2.1 h1⟩
theorem dem_zero {c : Cfg} : (valF c 5).code = 0 ↔ ∀ p ∈ c.parts, demE c p = 0 := by
  show (demBad c).1 = 0 ↔ _
  rw [← all_zero]
  unfold demBad
  by_cases h : (bad 0 (c.parts.map (demE c))).1 = 0
  · rw [if_pos h]; exact ⟨fun _ => h, fun _ => rfl⟩
  · rw [if_neg h]
theorem mem_zero {c : Cfg} : (valF c 6).code = 0 ↔ (∀ r ∈ c.regs, regCode c r = 0) ∧ NoOver c.regs := by
  show (memFlt c).code = 0 ↔ _
  rw [← rightM_iff]
  unfold memFlt rightM
  rw [decide_eq_true_eq]
  by_cases h : (memBad c).1 = 0
  · rw [if_pos h]; exact ⟨fun _ => h, fun _ => rfl⟩
  · rw [if_neg h]
theorem prt_zero {c : Cfg} : (valF c 7).code = 0 ↔ ∀ p ∈ c.ports, portCode c p = 0 := by
  show (badFlt 4 (portBad c)).code = 0 ↔ _
  rw [← all_zero]
  unfold badFlt portBad
  by_cases h : (bad 0 (c.ports.map (portCode c))).1 = 0
  · rw [if_pos h]; exact ⟨fun _ => h, fun _ => rfl⟩
  · rw [if_neg h]
theorem chn_zero {c : Cfg} : (valF c 8).code = 0 ↔ (∀ x ∈ c.chans, okChan c x) ∧ (c.chans.flatMap endsOf).Nodup := by
  show (badFlt 5 (chanBad c)).code = 0 ↔ _
  rw [← chanBad_zero]
  unfold badFlt
  by_cases h : (chanBad c).1 = 0
  · rw [if_pos h]; exact ⟨fun _ => h, fun _ => rfl⟩
  · rw [if_neg h]
section
variable {x c : Cfg}
theorem Shuf.cnt (h : Shuf x c) (k : Nat) : cntOf x k = cntOf c k := by
  unfold cntOf
  rw [h.parts.length_eq, h.wins.length_eq, h.regs.length_eq, h.ports.length_eq, h.len, h.sum]
theorem Shuf.idx (h : Shuf x c) (p : Par → Bool) : idx p x.parts < 0 ↔ idx p c.parts < 0 := by
  have key : ∀ l : List Par, Go.Proofs.YtpedlbjbbcbbkaaGreat.idx p l < 0 ↔ ∀ y ∈ l, p y = false := fun l => by
    rw [← idx_neg (p := p) l 0]
    unfold Go.Proofs.YtpedlbjbbcbbkaaGreat.idx
    omega
  rw [key, key]
  exact ⟨fun g y hy => g y (h.parts.mem_iff.2 hy), fun g y hy => g y (h.parts.mem_iff.1 hy)⟩
theorem Shuf.winE (h : Shuf x c) (y : Win) : winE x y = winE c y := by
  unfold Go.Proofs.YtpedlbjbbcbbkaaGreat.winE
  rw [h.frame, h.parts.any_eq]
theorem Shuf.short (h : Shuf x c) (p : Par) : shortB x p = shortB c p := by
  have hw : (winsOf x p.id).Perm (winsOf c p.id) := (h.wins.filter _).map _
  have ht : ∀ per k, tk per k (winsOf x p.id) = tk per k (winsOf c p.id) := fun per k => (hw.map _).sum_nat
  unfold shortB
  simp only [h.frame, ht]
theorem Shuf.demE (h : Shuf x c) (p : Par) : demE x p = demE c p := by
  unfold Go.Proofs.YtpedlbjbbcbbkaaGreat.demE
  rw [h.frame, h.short]
theorem Shuf.regCode (h : Shuf x c) (r : Reg) : regCode x r = regCode c r := by
  unfold Go.Proofs.YtpedlbjbbcbbkaaGreat.regCode
  have := h.idx (fun y => y.id == r.part)
  by_cases h1 : Go.Proofs.YtpedlbjbbcbbkaaGreat.idx (fun y => y.id == r.part) c.parts < 0
  · rw [if_pos h1, if_pos (this.2 h1)]
  · rw [if_neg h1, if_neg (fun q => h1 (this.1 q))]
theorem Shuf.portCode (h : Shuf x c) (r : Prt) : portCode x r = portCode c r := by
  unfold Go.Proofs.YtpedlbjbbcbbkaaGreat.portCode
  have := h.idx (fun y => y.id == r.part)
  by_cases h1 : Go.Proofs.YtpedlbjbbcbbkaaGreat.idx (fun y => y.id == r.part) c.parts < 0
  · rw [if_pos h1, if_pos (this.2 h1)]
  · rw [if_neg h1, if_neg (fun q => h1 (this.1 q))]
theorem Shuf.portOf (h : Shuf x c) (hu : (c.ports.map (·.id)).Nodup) (id : Int) : portOf x id = portOf c id := by
  have hu' : (x.ports.map (·.id)).Nodup := (h.ports.map _).nodup_iff.2 hu
  apply Option.ext
  intro p
  show x.ports.find? _ = some p ↔ c.ports.find? _ = some p
  rw [find_unique hu', find_unique hu, h.ports.mem_iff]
theorem Shuf.okChan (h : Shuf x c) (hu : (c.ports.map (·.id)).Nodup) (y : Chn) : okChan x y ↔ okChan c y := by
  have h1 : ∀ id o f, okEnd x id o f ↔ okEnd c id o f := fun id o f => by unfold okEnd; rw [h.portOf hu]
  have h2 : thePort x y.source = thePort c y.source := by unfold thePort; rw [h.portOf hu]
  unfold Go.Proofs.YtpedlbjbbcbbkaaGreat.okChan
  simp only [h1, h2]
theorem okChan_sort (y : Chn) : okChan c (sortD y) ↔ okChan c y := by
  unfold okChan
  have h1 : (sortD y).dests ≠ [] ↔ y.dests ≠ [] := by
    rw [← List.length_pos_iff, ← List.length_pos_iff]
    rw [show (sortD y).dests.length = y.dests.length from (List.mergeSort_perm _ _).length_eq]
  rw [h1]
  simp only [sortD_mem]
  exact Iff.rfl
theorem ends_sort (l : List Chn) : ((l.map sortD).flatMap endsOf).Perm (l.flatMap endsOf) := by
  induction l with
  | nil => simp
  | cons y r ih =>
    rw [List.map_cons, List.flatMap_cons, List.flatMap_cons]
    exact List.Perm.append ((List.mergeSort_perm y.dests _).cons _) ih
theorem Shuf.vld1 (h : Shuf x c) (hv : vldB c = true) : vldB x = true := by
  rw [vld_all] at hv ⊢
  have v0 := con_zero.1 (hv 0 (by omega))
  have v1 := up_zero.1 (hv 1 (by omega))
  have v2 := ut_zero.1 (hv 2 (by omega))
  have v3 := uc_zero.1 (hv 3 (by omega))
  have v4 := win_zero.1 (hv 4 (by omega))
  have v5 := dem_zero.1 (hv 5 (by omega))
  have v6 := mem_zero.1 (hv 6 (by omega))
  have v7 := prt_zero.1 (hv 7 (by omega))
  have v8 := chn_zero.1 (hv 8 (by omega))
  refine nine (con_zero.2 ⟨fun k hk => ?_, fun y hy => v0.2.1 y (h.parts.mem_iff.1 hy), fun y hy => v0.2.2.1 y (h.ports.mem_iff.1 hy), fun y hy => v0.2.2.2 y (h.regs.mem_iff.1 hy)⟩)
    (up_zero.2 ⟨(h.parts.map _).nodup_iff.2 v1.1, (h.parts.map _).nodup_iff.2 v1.2⟩)
    (ut_zero.2 ⟨(h.ports.map _).nodup_iff.2 v2.1, (h.ports.map _).nodup_iff.2 v2.2⟩)
    (uc_zero.2 ?_)
    (win_zero.2 ⟨by rw [h.frame]; exact v4.1, fun y hy => by rw [h.winE]; exact v4.2.1 y (h.wins.mem_iff.1 hy), ?_⟩)
    (dem_zero.2 fun p hp => by rw [h.demE]; exact v5 p (h.parts.mem_iff.1 hp))
    (mem_zero.2 ⟨fun r hr => by rw [h.regCode]; exact v6.1 r (h.regs.mem_iff.1 hr), ?_⟩)
    (prt_zero.2 fun p hp => by rw [h.portCode]; exact v7 p (h.ports.mem_iff.1 hp))
    (chn_zero.2 ⟨fun y hy => ?_, ?_⟩)
  · have := v0.1 k hk
    unfold overC at this ⊢
    rw [h.cnt]
    exact this
  · have e : ∀ l : List Chn, l.map (·.id) = (l.map sortD).map (·.id) := fun l => by rw [List.map_map]; rfl
    rw [e] at v3 ⊢
    exact (h.chans.map _).nodup_iff.2 v3
  · exact (h.wins.pairwise_iff (fun {a b} hab => by unfold meetW at *; rw [Bool.or_comm]; exact hab)).2 v4.2.2
  · exact (h.regs.pairwise_iff (fun {a b} hab => by rw [overR_comm]; exact hab)).2 v6.2
  · rw [h.okChan v2.1]
    obtain ⟨z, hz, he⟩ := List.mem_map.1 (h.chans.mem_iff.1 (List.mem_map.2 ⟨y, hy, rfl⟩))
    rw [← okChan_sort, ← he, okChan_sort]
    exact v8.1 z hz
  · have hp : (x.chans.flatMap endsOf).Perm (c.chans.flatMap endsOf) := ((ends_sort x.chans).symm.trans (h.chans.flatMap_right endsOf)).trans (ends_sort c.chans)
    exact hp.nodup_iff.2 v8.2
/-- valid or not does not depend on the order -/
theorem Shuf.vld (h : Shuf x c) : vldB x = vldB c := by
  rw [Bool.eq_iff_iff]
  exact ⟨fun g => h.symm.vld1 g, fun g => h.vld1 g⟩
end
/-- merged with itself -/
def dblC (c : Cfg) : Cfg := ⟨c.frame, c.parts ++ c.parts, c.wins ++ c.wins, c.regs ++ c.regs, c.ports ++ c.ports, c.chans ++ c.chans⟩
theorem dup_not {α β : Type} (f : α → β) {l : List α} (h : l ≠ []) : ¬ ((l ++ l).map f).Nodup := by
  intro hn
  obtain ⟨y, r, rfl⟩ := List.exists_cons_of_ne_nil h
  rw [List.map_append, List.nodup_append] at hn
  exact hn.2.2 (f y) (by simp) (f y) (by simp) rfl
theorem dbl_bad {c : Cfg} (hok : c.ok) (hv : vldB c = true) (hn : 0 < c.parts.length + c.wins.length + c.ports.length + c.chans.length) : vldB (dblC c) = false := by
  rw [Bool.eq_false_iff]
  intro hd
  rw [vld_all] at hv hd
  by_cases h1 : c.parts = []
  · by_cases h2 : c.ports = []
    · by_cases h3 : c.chans = []
      · by_cases h4 : c.wins = []
        · rw [h1, h2, h3, h4] at hn; simp at hn
        · obtain ⟨y, r, hy⟩ := List.exists_cons_of_ne_nil h4
          have v4 := win_zero.1 (hv 4 (by omega))
          have d4 := win_zero.1 (hd 4 (by omega))
          have hp := d4.2.2
          rw [show (dblC c).wins = c.wins ++ c.wins from rfl, List.pairwise_append] at hp
          have hm := hp.2.2 y (by rw [hy]; simp) y (by rw [hy]; simp)
          have he := v4.2.1 y (by rw [hy]; simp)
          have hb := Go.bounds_u64 (hok.wins y (by rw [hy]; simp)).len
          unfold winE at he
          unfold meetW at hm
          split at he
          · split at he
            · cases he
            · rename_i hq
              simp only [Bool.not_eq_false', Bool.or_eq_true, decide_eq_true_eq] at hm
              omega
          · cases he
      · exact dup_not _ h3 (uc_zero.1 (hd 3 (by omega)))
    · exact dup_not _ h2 (ut_zero.1 (hd 2 (by omega))).1
  · exact dup_not _ h1 (up_zero.1 (hd 1 (by omega))).1
theorem dbl_ok {c : Cfg} (h : c.ok) : (dblC c).ok := by
  have key : ∀ {α : Type} {P : α → Prop} {l : List α}, (∀ y ∈ l, P y) → ∀ y ∈ l ++ l, P y := fun h y hy => by
    rcases List.mem_append.1 hy with hy | hy <;> exact h y hy
  exact ⟨h.frame, key h.parts, key h.wins, key h.regs, key h.ports, key h.chans⟩
theorem dbl_total (c : Cfg) : (dblC c).total = c.total + c.total := by
  unfold Cfg.total dblC sumDests
  simp only [List.length_append, List.map_append, List.sum_append]
  omega
theorem dbl_small {c : Cfg} (h : c.small) (h2 : c.total ≤ 120) : (dblC c).small := by
  have key : ∀ {α : Type} {P : α → Prop} {l : List α}, (∀ y ∈ l, P y) → ∀ y ∈ l ++ l, P y := fun h y hy => by
    rcases List.mem_append.1 hy with hy | hy <;> exact h y hy
  refine ⟨?_, key h.pnames, key h.tnames⟩
  rw [dbl_total]
  unfold BIG
  omega
end Go.Proofs.YtpedlbjbbcbbkaaGreat
