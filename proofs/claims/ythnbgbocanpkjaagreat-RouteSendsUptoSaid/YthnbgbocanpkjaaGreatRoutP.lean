/-
  Plain laws of a router: its maps hold each source and each destination once, and the normal form answers as the configuration does. It speaks of no program beyond the definitions; no condition.
-/
import Derived.Test.YthnbgbocanpkjaaGreatWirB
import Derived.Test.YthnbgbocanpkjaaGreatIsN
namespace Go.Proofs.YthnbgbocanpkjaaGreat
open Go.RowKit Go.Lib
theorem find_perm {α : Type} {p : α → Bool} {l m : List α} (h : l.Perm m) (hu : ∀ x ∈ l, ∀ y ∈ l, p x = true → p y = true → x = y) : l.find? p = m.find? p := by
  rcases h1 : l.find? p with _ | x
  · symm
    rw [List.find?_eq_none] at h1 ⊢
    exact fun y hy => h1 y (h.mem_iff.2 hy)
  · have hx := List.mem_of_find?_eq_some h1
    have hp := List.find?_some h1
    rcases h2 : m.find? p with _ | y
    · exact absurd hp (List.find?_eq_none.1 h2 x (h.mem_iff.1 hx))
    · have hy := List.mem_of_find?_eq_some h2
      have hq := List.find?_some h2
      rw [hu x hx y (h.mem_iff.2 hy) hp hq]
theorem inj_of_nodup {α β : Type} {f : α → β} {l : List α} (h : (l.map f).Nodup) {x y : α} (hx : x ∈ l) (hy : y ∈ l) (e : f x = f y) : x = y := by
  obtain ⟨i, hi⟩ := List.mem_iff_getElem?.1 hx
  obtain ⟨j, hj⟩ := List.mem_iff_getElem?.1 hy
  have h1 : (l.map f)[i]? = some (f x) := by simp [hi]
  have h2 : (l.map f)[j]? = some (f x) := by simp [hj, e]
  have hij := (List.getElem?_inj (List.getElem?_eq_some_iff.1 h1).1 h).1 (h1.trans h2.symm)
  subst hij
  rw [hi] at hj
  injection hj
/-- the sources of a right configuration -/
theorem src_nodup {c : Cfg} (h : rightB c = true) : (c.chans.map (·.source)).Nodup := by
  obtain ⟨_, _, h3⟩ := right_parts h
  refine List.pairwise_iff_getElem.2 fun i j hi hj hij e => ?_
  have hj2 : j < c.chans.length := by simpa using hj
  have hi2 : i < c.chans.length := by simpa using hi
  have g := right_good h3 (List.getElem?_eq_getElem hj2)
  have hf := g.fresh
  simp only [List.getElem_map] at e
  have := usesL_hit (id := (c.chans[j]).source) (List.getElem?_eq_getElem hi2) hij (by simp [e])
  rw [hf] at this
  cases this
theorem dst_nodup {c : Cfg} (h : rightB c = true) : (c.chans.flatMap (·.dests)).Nodup := by
  obtain ⟨_, _, h3⟩ := right_parts h
  refine List.pairwise_flatMap.2 ⟨fun x hx => ?_, ?_⟩
  · obtain ⟨i, hi⟩ := List.mem_iff_getElem?.1 hx
    have g := right_good h3 hi
    refine List.pairwise_iff_getElem.2 fun a b ha hb hab e => ?_
    obtain ⟨_, _, _, _, _, hn⟩ := g.dst b _ (List.getElem?_eq_getElem hb)
    exact hn (mem_take_of (List.getElem?_eq_some_iff.2 ⟨ha, e⟩) hab)
  · refine List.pairwise_iff_getElem.2 fun i j hi hj hij d hd e he hde => ?_
    subst hde
    have g := right_good h3 (List.getElem?_eq_getElem hj)
    obtain ⟨k, hk⟩ := List.mem_iff_getElem?.1 he
    obtain ⟨_, _, _, _, hu, _⟩ := g.dst k _ hk
    have := usesL_hit (id := d) (List.getElem?_eq_getElem hi) hij (by simp [hd])
    rw [hu] at this
    cases this
/-- what the maps of a router hold -/
theorem sortD_src (x : Chn) : (sortD x).source = x.source := rfl
theorem sortD_has (x : Chn) (d : Int) : hasI (sortD x).dests d = hasI x.dests d := by
  rcases Bool.eq_false_or_eq_true (hasI x.dests d) with h | h
  · rw [h]; exact hasI_iff.2 ((List.mergeSort_perm _ _).mem_iff.2 (hasI_iff.1 h))
  · rw [h]; exact hasI_no fun e => by rw [hasI_iff.2 ((List.mergeSort_perm _ _).mem_iff.1 e)] at h; cases h
theorem flat_dests_perm : ∀ l : List Chn, ((l.map sortD).flatMap (·.dests)).Perm (l.flatMap (·.dests))
  | [] => List.Perm.refl _
  | x :: r => by
    simp only [List.map_cons, List.flatMap_cons]
    exact (List.mergeSort_perm _ _).append (flat_dests_perm r)
theorem norm_chans (c : Cfg) : c.norm.chans.Perm (c.chans.map sortD) := normK_perm keyChn _
theorem norm_src {c : Cfg} (h : rightB c = true) : (c.norm.chans.map (·.source)).Nodup := by
  have hp : (c.norm.chans.map (·.source)).Perm (c.chans.map (·.source)) := by
    have := (norm_chans c).map (·.source)
    rw [List.map_map] at this
    exact this
  exact hp.nodup_iff.2 (src_nodup h)
theorem norm_dst {c : Cfg} (h : rightB c = true) : (c.norm.chans.flatMap (·.dests)).Nodup :=
  (((norm_chans c).flatMap_right _).trans (flat_dests_perm c.chans)).nodup_iff.2 (dst_nodup h)
/-- the route of a port: the destinations of its channel, in ascending order -/
def routeOf (c : Cfg) (id : Int) : List Int := match c.chans.find? (fun x => x.source == id) with
  | none => []
  | some x => (sortD x).dests
theorem route_none {c : Cfg} {id : Int} (h : c.chans.find? (fun x => x.source == id) = none) : routeOf c id = [] := by unfold routeOf; rw [h]
theorem route_some {c : Cfg} {id : Int} {x : Chn} (h : c.chans.find? (fun x => x.source == id) = some x) : routeOf c id = (sortD x).dests := by unfold routeOf; rw [h]
theorem find_map {α β : Type} (f : α → β) (p : β → Bool) (l : List α) : (l.map f).find? p = (l.find? (fun x => p (f x))).map f := by
  induction l with
  | nil => rfl
  | cons x r ih =>
    simp only [List.map_cons, List.find?_cons]
    cases p (f x) <;> simp [ih]
theorem route_norm {c : Cfg} (h : rightB c = true) (id : Int) : (c.norm.chans.find? (fun x => x.source == id)).map (·.dests) = (c.chans.find? (fun x => x.source == id)).map (fun x => (sortD x).dests) := by
  rw [find_perm (norm_chans c) (fun x hx y hy h1 h2 => inj_of_nodup (norm_src h) hx hy (by simp at h1 h2; rw [h1, h2])), find_map, Option.map_map]
  rfl
/-- the port of a configuration and whether there is one -/
def portAns (o : Option Prt) : Prt × Bool := match o with
  | none => (noPrt, false)
  | some p => (p, true)
theorem norm_ports (c : Cfg) : c.norm.ports.Perm c.ports := normK_perm keyPrt _
theorem port_norm {c : Cfg} (h : (c.ports.map (·.id)).Nodup) (id : Int) : portOf c.norm id = portOf c id :=
  (find_perm (norm_ports c).symm (fun x hx y hy h1 h2 => inj_of_nodup h hx hy (by simp at h1 h2; rw [h1, h2]))).symm
def namedOf (c : Cfg) (id : Int) (s : ByteArray) : Option Prt := c.ports.find? (fun x => x.part == id && x.name == s)
theorem named_norm {c : Cfg} (h : (c.ports.map Prt.key).Nodup) (id : Int) (s : ByteArray) : namedOf c.norm id s = namedOf c id s :=
  (find_perm (norm_ports c).symm (fun x hx y hy h1 h2 => inj_of_nodup h hx hy (by
    simp only [Bool.and_eq_true, beq_iff_eq] at h1 h2
    unfold Prt.key
    rw [h1.1, h2.1, beqb_true h1.2, beqb_true h2.2]))).symm
/-- the identifiers of a partition's ports, in ascending order -/
def portsOf (c : Cfg) (id : Int) : List Int := (c.ports.filter (fun x => x.part == id)).map (·.id)
def sortL (l : List Int) : List Int := l.mergeSort (fun a b => decide (a ≤ b))
theorem sortL_asc (l : List Int) : (sortL l).Pairwise (fun a b => a ≤ b) :=
  (List.pairwise_mergeSort (le := fun a b : Int => decide (a ≤ b)) (fun a b c h1 h2 => by simp at *; omega) (fun a b => by simp; omega) l).imp fun h => by simpa using h
theorem sortL_uniq {l m : List Int} (h : m.Perm l) (ha : m.Pairwise (fun a b => a ≤ b)) : m = sortL l :=
  List.Perm.eq_of_pairwise (fun _ _ _ _ h1 h2 => Int.le_antisymm h1 h2) ha (sortL_asc l) (h.trans (List.mergeSort_perm _ _).symm)
theorem keyPrt_le {x y : Prt} (h : cmpL (keyPrt x) (keyPrt y) ≤ 0) : x.id ≤ y.id := by
  unfold keyPrt at h
  rw [cmpL_cons] at h
  rcases ci_cases x.id y.id with ⟨h1, _⟩ | ⟨h1, _⟩ | ⟨h1, e⟩
  · omega
  · omega
  · rw [e] at h; simp at h
theorem ports_norm (c : Cfg) (id : Int) : portsOf c.norm id = sortL (portsOf c id) := by
  refine sortL_uniq (((norm_ports c).filter _).map _) ?_
  have h : Asc keyPrt c.norm.ports := normK_asc keyPrt _
  unfold Asc at h
  exact List.pairwise_map.2 ((h.filter _).imp fun h => keyPrt_le h)
theorem dst_inj {l : List Chn} (hn : (l.flatMap (·.dests)).Nodup) {x y : Chn} (hx : x ∈ l) (hy : y ∈ l) {id : Int} (h1 : hasI x.dests id = true) (h2 : hasI y.dests id = true) : x = y := by
  obtain ⟨i, hi⟩ := List.mem_iff_getElem?.1 hx
  obtain ⟨j, hj⟩ := List.mem_iff_getElem?.1 hy
  have hd := List.pairwise_iff_getElem.1 (List.pairwise_flatMap.1 hn).2
  have m1 := hasI_iff.1 h1
  have m2 := hasI_iff.1 h2
  obtain ⟨hil, hie⟩ := List.getElem?_eq_some_iff.1 hi
  obtain ⟨hjl, hje⟩ := List.getElem?_eq_some_iff.1 hj
  rcases Nat.lt_trichotomy i j with hlt | rfl | hlt
  · exact absurd rfl (hd i j hil hjl hlt id (by rw [hie]; exact m1) id (by rw [hje]; exact m2))
  · rw [hi] at hj; injection hj
  · exact absurd rfl (hd j i hjl hil hlt id (by rw [hje]; exact m2) id (by rw [hie]; exact m1))
/-- the source of a destination -/
theorem from_norm {c : Cfg} (h : rightB c = true) (id : Int) : fromOf c.norm id = fromOf c id := by
  have h1 : chanTo c.norm id = (chanTo c id).map sortD := by
    unfold chanTo
    rw [find_perm (norm_chans c) (fun x hx y hy h1 h2 => dst_inj (norm_dst h) hx hy h1 h2), find_map]
    congr 2
    funext x
    exact sortD_has x id
  rcases h2 : chanTo c id with _ | x
  · rw [h2] at h1; rw [fromOf_none h2, fromOf_none h1]
  · rw [h2] at h1; rw [fromOf_some h2, fromOf_some h1]; rfl
/-- what the map of sources holds: each destination with its source, in order -/
def srcPairs (l : List Chn) : List (Int × Int) := l.flatMap fun x => x.dests.map fun d => (d, x.source)
theorem srcPairs_keys (l : List Chn) : (srcPairs l).map (·.1) = l.flatMap (·.dests) := by
  induction l with
  | nil => rfl
  | cons x r ih =>
    unfold srcPairs at ih ⊢
    simp only [List.flatMap_cons, List.map_append, ih, List.map_map]
    congr 1
    conv => rhs; rw [← List.map_id x.dests]
    rfl
theorem getv_app {α β : Type} [DecidableEq α] (l m : List (α × β)) (x : α) : getv (l ++ m) x = (getv l x).or (getv m x) := by
  induction l with
  | nil => simp [getv]
  | cons p r ih =>
    obtain ⟨a, v⟩ := p
    by_cases h : a = x <;> simp [getv, h, ih]
theorem getv_dests (l : List Int) (s id : Int) : getv (l.map fun d => (d, s)) id = if hasI l id then some s else none := by
  induction l with
  | nil => rfl
  | cons d r ih =>
    by_cases h : d = id
    · subst h
      have : hasI (d :: r) d = true := hasI_iff.2 (List.mem_cons_self ..)
      rw [if_pos this]
      simp [getv]
    · have : hasI (d :: r) id = hasI r id := by
        rcases Bool.eq_false_or_eq_true (hasI r id) with hr | hr
        · rw [hr]; exact hasI_iff.2 (List.mem_cons_of_mem _ (hasI_iff.1 hr))
        · rw [hr]
          refine hasI_no fun hm => ?_
          rcases List.mem_cons.1 hm with e | e
          · exact h e.symm
          · rw [hasI_iff.2 e] at hr; cases hr
      rw [this, List.map_cons, getv, if_neg h, ih]
theorem getv_src (l : List Chn) (id : Int) : getv (srcPairs l) id = (l.find? (fun x => hasI x.dests id)).map (·.source) := by
  induction l with
  | nil => rfl
  | cons x r ih =>
    unfold srcPairs at ih ⊢
    rw [List.flatMap_cons, getv_app, getv_dests, ih, List.find?_cons]
    cases hasI x.dests id <;> simp
theorem getv_from (c : Cfg) (id : Int) : (match getv (srcPairs c.chans) id with | none => ((0 : Int), false) | some s => (s, true)) = fromOf c id := by
  rw [getv_src]
  rcases h : chanTo c id with _ | x
  · rw [fromOf_none h]
    unfold chanTo at h
    rw [h]; rfl
  · rw [fromOf_some h]
    unfold chanTo at h
    rw [h]; rfl
/-- a port is in the route of exactly its source -/
theorem route_has {c : Cfg} (h : rightB c = true) (a b : Int) : hasI (routeOf c a) b = ((fromOf c b).2 && (fromOf c b).1 == a) := by
  have hs := src_nodup h
  have hd := dst_nodup h
  rcases h1 : c.chans.find? (fun x => x.source == a) with _ | x
  · rw [route_none h1]
    rcases h2 : chanTo c b with _ | y
    · rw [fromOf_none h2]; rfl
    · rw [fromOf_some h2]
      have h3 := List.find?_eq_none.1 h1 y (List.mem_of_find?_eq_some (show c.chans.find? (fun x => hasI x.dests b) = some y from h2))
      have h4 : (y.source == a) = false := by simpa using h3
      simp only [h4, Bool.true_and]
      rfl
  · rw [route_some h1]
    have hx := List.mem_of_find?_eq_some h1
    have hxa : x.source = a := by have := List.find?_some h1; simpa using this
    rw [sortD_has]
    rcases h2 : chanTo c b with _ | y
    · rw [fromOf_none h2]
      have h3 := List.find?_eq_none.1 (show c.chans.find? (fun x => hasI x.dests b) = none from h2) x hx
      simpa using h3
    · rw [fromOf_some h2]
      have hy := List.mem_of_find?_eq_some (show c.chans.find? (fun x => hasI x.dests b) = some y from h2)
      have hyq := List.find?_some (show c.chans.find? (fun x => hasI x.dests b) = some y from h2)
      have hyb : hasI y.dests b = true := hyq
      by_cases e : y.source = a
      · have := inj_of_nodup hs hy hx (e.trans hxa.symm)
        subst this
        simp [hyb, e]
      · have h4 : (y.source == a) = false := by simpa using e
        simp only [h4, Bool.and_false]
        rcases Bool.eq_false_or_eq_true (hasI x.dests b) with hb | hb
        · exact absurd (by rw [← dst_inj hd hx hy hb hyb]; exact hxa) e
        · exact hb
/-- as many ports have a source as there are destinations -/
theorem filter_len_le {l m : List Int} (hl : l.Nodup) (h : ∀ x ∈ l, x ∈ m) : l.length ≤ m.length := by
  induction l generalizing m with
  | nil => simp
  | cons x r ih =>
    obtain ⟨hx, hr⟩ := List.nodup_cons.1 hl
    have hm := h x (List.mem_cons_self ..)
    have h2 := ih (m := m.erase x) hr fun y hy => (List.mem_erase_of_ne (fun e => hx (by rw [← e]; exact hy))).2 (h y (List.mem_cons_of_mem _ hy))
    have h3 := List.length_erase_of_mem hm
    have h4 := List.length_pos_of_mem hm
    simp only [List.length_cons]
    omega
def fed (c : Cfg) (x : Prt) : Bool := (fromOf c x.id).2
theorem fed_count {c : Cfg} (h : rightB c = true) : (c.ports.filter (fed c)).length = sumDests c.chans := by
  have hd := dst_nodup h
  obtain ⟨h1, _, h3⟩ := right_parts h
  have hp := (unique_parts h1).2.1
  have hs : sumDests c.chans = (c.chans.flatMap (·.dests)).length := by unfold sumDests; rw [List.length_flatMap]
  have hq : ((c.ports.filter (fed c)).map (·.id)).Nodup := List.Nodup.sublist ((List.filter_sublist (p := fed c) (l := c.ports)).map _) hp
  have hlen : ((c.ports.filter (fed c)).map (·.id)).length = (c.ports.filter (fed c)).length := by simp
  rw [hs, ← hlen]
  refine Nat.le_antisymm (filter_len_le hq fun d hm => ?_) (filter_len_le hd fun d hm => ?_)
  · obtain ⟨x, hx, rfl⟩ := List.mem_map.1 hm
    obtain ⟨_, hf⟩ := List.mem_filter.1 hx
    unfold fed at hf
    rcases h2 : chanTo c x.id with _ | y
    · rw [fromOf_none h2] at hf; cases hf
    · have hy := List.mem_of_find?_eq_some (show c.chans.find? (fun z => hasI z.dests x.id) = some y from h2)
      have hyq := List.find?_some (show c.chans.find? (fun z => hasI z.dests x.id) = some y from h2)
      have hyb : hasI y.dests x.id = true := hyq
      exact List.mem_flatMap.2 ⟨y, hy, hasI_iff.1 hyb⟩
  · obtain ⟨y, hy, hdy⟩ := List.mem_flatMap.1 hm
    obtain ⟨i, hi⟩ := List.mem_iff_getElem?.1 hy
    obtain ⟨k, hk⟩ := List.mem_iff_getElem?.1 hdy
    obtain ⟨p, hpo, _⟩ := (right_good h3 hi).dst k d hk
    have hid := portOf_id hpo
    have hpm := List.mem_of_find?_eq_some (show c.ports.find? (fun x => x.id == d) = some p from hpo)
    refine List.mem_map.2 ⟨p, List.mem_filter.2 ⟨hpm, ?_⟩, hid⟩
    unfold fed
    rw [hid]
    rcases h2 : chanTo c d with _ | z
    · exact absurd (hasI_iff.2 hdy) (List.find?_eq_none.1 (show c.chans.find? (fun z => hasI z.dests d) = none from h2) y hy)
    · rw [fromOf_some h2]
/-! ### the checks ahead of a router -/
def chkF (c : Cfg) : Nat → Flt
  | 0 => firstOf 1 [rep (c.parts.map (·.id)), rep (c.parts.map (·.name))]
  | 1 => firstOf 4 [rep (c.ports.map (·.id)), rep (c.ports.map Prt.key)]
  | 2 => firstOf 5 [rep (c.chans.map (·.id))]
  | 3 => pFlt c
  | 4 => xFlt c
  | _ => noFlt
def rightR (c : Cfg) : Bool := decide (refParts c < 0) && (decide (refPorts c < 0) && (decide (rep (c.chans.map (·.id)) < 0) && rightB c))
theorem first2 (s a b : Int) : (firstOf s [a, b] = noFlt ∧ a < 0 ∧ b < 0) ∨ ((firstOf s [a, b]).code = 18 ∧ (0 ≤ a ∨ 0 ≤ b)) := by
  unfold firstOf firstOf firstOf
  by_cases h1 : 0 ≤ a
  · rw [if_pos h1]; exact .inr ⟨rfl, .inl h1⟩
  · rw [if_neg h1]
    by_cases h2 : 0 ≤ b
    · rw [if_pos h2]; exact .inr ⟨rfl, .inr h2⟩
    · rw [if_neg h2]; exact .inl ⟨rfl, by omega, by omega⟩
theorem first1 (s a : Int) : (firstOf s [a] = noFlt ∧ a < 0) ∨ ((firstOf s [a]).code = 18 ∧ 0 ≤ a) := by
  unfold firstOf firstOf
  by_cases h1 : 0 ≤ a
  · rw [if_pos h1]; exact .inr ⟨rfl, h1⟩
  · rw [if_neg h1]; exact .inl ⟨rfl, by omega⟩
theorem badFlt_cases (s : Int) (v : Int × Int) : (badFlt s v = noFlt ∧ v.1 = 0) ∨ ((badFlt s v).code ≠ 0 ∧ v.1 ≠ 0) := by
  unfold badFlt
  by_cases h : v.1 = 0
  · rw [if_pos h]; exact .inl ⟨rfl, h⟩
  · rw [if_neg h]; exact .inr ⟨h, h⟩
theorem chkF_cases (c : Cfg) (k : Nat) : chkF c k = noFlt ∨ (chkF c k).code ≠ 0 := by
  unfold chkF
  split
  · rcases first2 1 (rep (c.parts.map (·.id))) (rep (c.parts.map (·.name))) with ⟨h, _⟩ | ⟨h, _⟩
    · exact .inl h
    · exact .inr (by rw [h]; decide)
  · rcases first2 4 (rep (c.ports.map (·.id))) (rep (c.ports.map Prt.key)) with ⟨h, _⟩ | ⟨h, _⟩
    · exact .inl h
    · exact .inr (by rw [h]; decide)
  · rcases first1 5 (rep (c.chans.map (·.id))) with ⟨h, _⟩ | ⟨h, _⟩
    · exact .inl h
    · exact .inr (by rw [h]; decide)
  · rcases badFlt_cases 4 (portBad c) with ⟨h, _⟩ | ⟨h, _⟩
    · exact .inl h
    · exact .inr h
  · rcases badFlt_cases 5 (chanBad c) with ⟨h, _⟩ | ⟨h, _⟩
    · exact .inl h
    · exact .inr h
  · exact .inl rfl
theorem rep_neg' {α : Type} [DecidableEq α] (l : List α) : rep l < 0 ↔ l.Nodup := by
  have key : ∀ (m seen : List α) (i : Nat), repFrom seen i m < 0 ↔ (m.Nodup ∧ ∀ x ∈ m, x ∉ seen) := by
    intro m
    induction m with
    | nil => intro seen i; simp [repFrom]
    | cons x r ih =>
      intro seen i
      unfold repFrom
      by_cases h : x ∈ seen
      · rw [if_pos h]
        constructor
        · intro h2; omega
        · intro h2; exact absurd h (h2.2 x (List.mem_cons_self ..))
      · rw [if_neg h, ih]
        simp only [List.nodup_cons, List.mem_append, List.mem_cons, List.not_mem_nil, or_false, not_or]
        constructor
        · rintro ⟨h1, h2⟩
          refine ⟨⟨fun hx => (h2 x hx).2 rfl, h1⟩, ?_⟩
          rintro y (rfl | hy)
          · exact h
          · exact (h2 y hy).1
        · rintro ⟨⟨h1, h2⟩, h3⟩
          exact ⟨h2, fun y hy => ⟨h3 y (.inr hy), fun e => h1 (e ▸ hy)⟩⟩
  have := key l [] 0
  unfold rep
  rw [this]
  simp
theorem refParts_neg {c : Cfg} : refParts c < 0 ↔ (c.parts.map (·.id)).Nodup ∧ (c.parts.map (·.name)).Nodup := by
  unfold refParts
  rw [← rep_neg', ← rep_neg']
  split <;> omega
theorem refPorts_neg {c : Cfg} : refPorts c < 0 ↔ (c.ports.map (·.id)).Nodup ∧ (c.ports.map Prt.key).Nodup := by
  unfold refPorts
  rw [← rep_neg', ← rep_neg']
  split <;> omega
structure RightR (c : Cfg) : Prop where
  pn : (c.parts.map (·.name)).Nodup
  tk : (c.ports.map Prt.key).Nodup
  rb : rightB c = true
theorem rightR_iff {c : Cfg} : rightR c = true ↔ RightR c := by
  unfold rightR
  simp only [Bool.and_eq_true, decide_eq_true_eq, refParts_neg, refPorts_neg, rep_neg']
  constructor
  · rintro ⟨⟨_, h2⟩, ⟨_, h4⟩, _, h6⟩
    exact ⟨h2, h4, h6⟩
  · rintro ⟨h2, h4, h6⟩
    have h := unique_parts (right_parts h6).1
    exact ⟨⟨h.1, h2⟩, ⟨h.2.1, h4⟩, h.2.2, h6⟩
theorem right_flt (c : Cfg) : rightR c = true ↔ ∀ k, k < 5 → chkF c k = noFlt := by
  rw [rightR_iff]
  constructor
  · rintro ⟨h2, h4, h6⟩ k hk
    obtain ⟨q1, q2, q3⟩ := right_parts h6
    have h := unique_parts q1
    match k, hk with
    | 0, _ =>
      rcases first2 1 (rep (c.parts.map (·.id))) (rep (c.parts.map (·.name))) with ⟨e, _⟩ | ⟨_, e | e⟩
      · exact e
      · exact absurd ((rep_neg' _).2 h.1) (by omega)
      · exact absurd ((rep_neg' _).2 h2) (by omega)
    | 1, _ =>
      rcases first2 4 (rep (c.ports.map (·.id))) (rep (c.ports.map Prt.key)) with ⟨e, _⟩ | ⟨_, e | e⟩
      · exact e
      · exact absurd ((rep_neg' _).2 h.2.1) (by omega)
      · exact absurd ((rep_neg' _).2 h4) (by omega)
    | 2, _ =>
      rcases first1 5 (rep (c.chans.map (·.id))) with ⟨e, _⟩ | ⟨_, e⟩
      · exact e
      · exact absurd ((rep_neg' _).2 h.2.2) (by omega)
    | 3, _ =>
      rcases badFlt_cases 4 (portBad c) with ⟨e, _⟩ | ⟨_, e⟩
      · exact e
      · exact absurd q2 e
    | 4, _ =>
      rcases badFlt_cases 5 (chanBad c) with ⟨e, _⟩ | ⟨_, e⟩
      · exact e
      · rw [chanBad_eq] at e; exact absurd q3 e
  · intro h
    have e0 := h 0 (by omega)
    have e1 := h 1 (by omega)
    have e2 := h 2 (by omega)
    have e3 := h 3 (by omega)
    have e4 := h 4 (by omega)
    have bad18 : ∀ f : Flt, f = noFlt → f.code = 18 → False := fun f h1 h2 => by rw [h1] at h2; cases h2
    rcases first2 1 (rep (c.parts.map (·.id))) (rep (c.parts.map (·.name))) with ⟨_, a1, a2⟩ | ⟨e, _⟩
    · rcases first2 4 (rep (c.ports.map (·.id))) (rep (c.ports.map Prt.key)) with ⟨_, b1, b2⟩ | ⟨e, _⟩
      · rcases first1 5 (rep (c.chans.map (·.id))) with ⟨_, d1⟩ | ⟨e, _⟩
        · rcases badFlt_cases 4 (portBad c) with ⟨_, p1⟩ | ⟨e, _⟩
          · rcases badFlt_cases 5 (chanBad c) with ⟨_, x1⟩ | ⟨e, _⟩
            · rw [chanBad_eq] at x1
              refine ⟨(rep_neg' _).1 a2, (rep_neg' _).1 b2, ?_⟩
              unfold rightB uniqueB
              simp only [Bool.and_eq_true, decide_eq_true_eq]
              exact ⟨⟨⟨(rep_neg' _).1 a1, (rep_neg' _).1 b1, (rep_neg' _).1 d1⟩, p1⟩, x1⟩
            · exact absurd (congrArg Flt.code e4) e
          · exact absurd (congrArg Flt.code e3) e
        · exact (bad18 _ e2 e).elim
      · exact (bad18 _ e1 e).elim
    · exact (bad18 _ e0 e).elim
end Go.Proofs.YthnbgbocanpkjaaGreat
