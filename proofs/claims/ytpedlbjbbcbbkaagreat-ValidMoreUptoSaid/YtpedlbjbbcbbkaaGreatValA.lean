/-
  Plain law of demands: visiting the periods that hold the beginning or the end of a window, with one of those between, finds a short period exactly if there is one. It speaks of no program.
-/
import Derived.WalkKit
import Derived.OpenShut
import Derived.Test.YtpedlbjbbcbbkaaGreatCore
namespace Go.Proofs.YtpedlbjbbcbbkaaGreat
/-- the ticks of a window in a period -/
def ov (per k : Nat) (w : Nat × Nat) : Nat := min (w.1 + w.2) ((k + 1) * per) - max w.1 (k * per)
def tk (per k : Nat) (l : List (Nat × Nat)) : Nat := (l.map (ov per k)).sum
/-- what one window does: none if a short period was found -/
def visit1 (per D next t : Nat) (w : Nat × Nat) : Option (Nat × Nat) :=
  let first := w.1 / per
  let last := (w.1 + w.2 - 1) / per
  if next < first ∧ 0 < t ∧ t < D then none
  else
    let n1 := if next < first ∧ 0 < t then next + 1 else next
    let t1 := if next < first ∧ 0 < t then 0 else t
    if n1 < first ∧ 0 < D then none
    else
      let t2 := if n1 < first then 0 else t1
      if first = last then some (first, t2 + w.2)
      else if t2 + (first + 1) * per - w.1 < D then none
      else some (last, w.1 + w.2 - last * per)
/-- whether a short period is found -/
def visits (per D count : Nat) : List (Nat × Nat) → Nat → Nat → Bool
  | [], next, t => decide (next < count ∧ 0 < t ∧ t < D) || decide ((if next < count ∧ 0 < t then next + 1 else next) < count ∧ 0 < D)
  | w :: r, next, t => match visit1 per D next t w with
    | none => true
    | some (n, u) => visits per D count r n u
/-- windows that follow each other from a tick on -/
def After (F : Nat) : Nat → List (Nat × Nat) → Prop
  | b, [] => b ≤ F
  | b, w :: r => b ≤ w.1 ∧ 0 < w.2 ∧ w.1 + w.2 ≤ F ∧ After F (w.1 + w.2) r
theorem tk_cons (per k : Nat) (w : Nat × Nat) (r : List (Nat × Nat)) : tk per k (w :: r) = ov per k w + tk per k r := rfl
theorem After.le {F : Nat} : ∀ {l : List (Nat × Nat)} {b : Nat}, After F b l → ∀ w ∈ l, b ≤ w.1
  | [], _, _, w, hw => by cases hw
  | x :: r, b, h, w, hw => by
    rcases List.mem_cons.1 hw with rfl | hw
    · exact h.1
    · have := After.le h.2.2.2 w hw
      have := h.1
      omega
theorem ov_zero {per k : Nat} {w : Nat × Nat} (h : (k + 1) * per ≤ w.1) : ov per k w = 0 := by
  unfold ov
  omega
theorem tk_zero {F per k b : Nat} {l : List (Nat × Nat)} (h : After F b l) (hk : (k + 1) * per ≤ b) : tk per k l = 0 := by
  have h2 := h.le
  clear h
  induction l with
  | nil => rfl
  | cons w r ih =>
    rw [tk_cons, ih (fun x hx => h2 x (by simp [hx])), ov_zero (Nat.le_trans hk (h2 w (by simp)))]
theorem visits_eq {per D count F : Nat} (hp : 0 < per) (hF : count * per = F) (hD : D ≤ per) : ∀ (l : List (Nat × Nat)) (next t b : Nat) (A : Nat → Nat), (∀ k, k < next → D ≤ A k) → A next = t → (∀ k, next < k → A k = 0) → next * per ≤ b → After F b l →
    (visits per D count l next t = true ↔ ∃ k, k < count ∧ A k + tk per k l < D)
  | [], next, t, b, A, h1, h2, h3, _, _ => by
    unfold visits
    simp only [Bool.or_eq_true, decide_eq_true_eq]
    constructor
    · rintro (⟨q1, q2, q3⟩ | ⟨q1, q2⟩)
      · exact ⟨next, q1, by rw [h2]; simpa [tk] using q3⟩
      · split at q1
        · exact ⟨next + 1, q1, by rw [h3 _ (by omega)]; simpa [tk] using q2⟩
        · rename_i hn
          refine ⟨next, q1, ?_⟩
          have : t = 0 := by
            rcases Nat.eq_zero_or_pos t with h | h
            · exact h
            · exact absurd ⟨q1, h⟩ hn
          rw [h2, this]; simpa [tk] using q2
    · rintro ⟨k, hk, hs⟩
      simp only [tk, List.map_nil, List.sum_nil, Nat.add_zero] at hs
      have hkn : next ≤ k := by
        rcases Nat.lt_or_ge k next with h | h
        · have := h1 k h; omega
        · exact h
      rcases Nat.eq_or_lt_of_le hkn with rfl | hlt
      · rw [h2] at hs
        rcases Nat.eq_zero_or_pos t with h | h
        · right
          rw [if_neg (by omega)]
          omega
        · exact .inl ⟨hk, h, hs⟩
      · right
        rw [h3 k hlt] at hs
        split <;> omega
  | w :: r, next, t, b, A, h1, h2, h3, hb, hA => by
    obtain ⟨a1, a2, a3, a4⟩ := hA
    obtain ⟨s, len⟩ := w
    simp only at a1 a2 a3 a4
    -- the first and the last period of the window
    obtain ⟨first, hf⟩ : ∃ f, f = s / per := ⟨_, rfl⟩
    obtain ⟨last, hl⟩ : ∃ f, f = (s + len - 1) / per := ⟨_, rfl⟩
    have f1 : first * per ≤ s := by rw [hf]; exact Nat.div_mul_le_self s per
    have f2 : s < (first + 1) * per := by rw [hf, Nat.mul_comm]; exact Nat.lt_mul_div_succ s hp
    have l1 : last * per ≤ s + len - 1 := by rw [hl]; exact Nat.div_mul_le_self _ per
    have l2 : s + len - 1 < (last + 1) * per := by rw [hl, Nat.mul_comm]; exact Nat.lt_mul_div_succ _ hp
    have fl : first ≤ last := by rw [hf, hl]; exact Nat.div_le_div_right (by omega)
    have mono : ∀ {i j : Nat}, i ≤ j → i * per ≤ j * per := fun h => Nat.mul_le_mul_right per h
    have nf : next ≤ first := by
      rcases Nat.lt_or_ge first next with h | h
      · have := mono (show first + 1 ≤ next by omega); omega
      · exact h
    have fc : first < count := by
      rcases Nat.lt_or_ge first count with h | h
      · exact h
      · have := mono h; omega
    have o1 : ∀ k, k < first → ov per k (s, len) = 0 := fun k hk => ov_zero (by have := mono (show k + 1 ≤ first by omega); exact Nat.le_trans this f1)
    have o2 : ∀ k, last < k → ov per k (s, len) = 0 := fun k hk => by
      have := mono (show last + 1 ≤ k by omega)
      unfold ov
      simp only
      omega
    have r0 : ∀ k, k < first → tk per k r = 0 := fun k hk => tk_zero a4 (by have := mono (show k + 1 ≤ first by omega); omega)
    have z0 : ∀ k, k < first → A k + tk per k ((s, len) :: r) = A k := fun k hk => by rw [tk_cons, o1 k hk, r0 k hk]; rfl
    -- one step of the invariant
    have go : ∀ (n u : Nat), (∀ k, k < n → D ≤ A k + ov per k (s, len)) → A n + ov per n (s, len) = u → (∀ k, n < k → A k + ov per k (s, len) = 0) → n * per ≤ s + len →
        (visits per D count r n u = true ↔ ∃ k, k < count ∧ A k + tk per k ((s, len) :: r) < D) := fun n u g1 g2 g3 g4 => by
      rw [visits_eq hp hF hD r n u (s + len) (fun k => A k + ov per k (s, len)) g1 g2 g3 g4 a4]
      simp only [tk_cons, Nat.add_assoc]
    unfold visits visit1
    simp only [← hf, ← hl]
    -- the ticks of period next are too few
    by_cases c1 : next < first ∧ 0 < t ∧ t < D
    · rw [if_pos c1]
      exact ⟨fun _ => ⟨next, by omega, by rw [z0 next c1.1, h2]; exact c1.2.2⟩, fun _ => rfl⟩
    · rw [if_neg c1]
      by_cases c2 : (if next < first ∧ 0 < t then next + 1 else next) < first ∧ 0 < D
      · rw [if_pos c2]
        refine ⟨fun _ => ?_, fun _ => rfl⟩
        by_cases c3 : next < first ∧ 0 < t
        · rw [if_pos c3] at c2
          exact ⟨next + 1, by omega, by rw [z0 _ c2.1, h3 _ (by omega)]; exact c2.2⟩
        · rw [if_neg c3] at c2
          have ht : t = 0 := by omega
          exact ⟨next, by omega, by rw [z0 _ c2.1, h2, ht]; exact c2.2⟩
      · rw [if_neg c2]
        -- the periods ahead of the first one are long enough
        have before : ∀ k, k < first → D ≤ A k := fun k hk => by
          by_cases hn : k < next
          · exact h1 k hn
          · by_cases c3 : next < first ∧ 0 < t
            · rw [if_pos c3] at c2
              rcases Nat.eq_or_lt_of_le (Nat.not_lt.1 hn) with e | e
              · rw [← e, h2]; omega
              · omega
            · rw [if_neg c3] at c2
              omega
        obtain ⟨t2, ht2⟩ : ∃ t2, t2 = (if (if next < first ∧ 0 < t then next + 1 else next) < first then 0 else (if next < first ∧ 0 < t then 0 else t)) := ⟨_, rfl⟩
        have At : A first = t2 := by
          rw [ht2]
          rcases Nat.eq_or_lt_of_le nf with e | e
          · rw [if_neg (by rw [if_neg (by omega)]; omega), if_neg (by omega), ← e, h2]
          · rw [h3 first e]
            by_cases c3 : next < first ∧ 0 < t
            · rw [if_pos c3, if_pos c3]
              split <;> rfl
            · rw [if_neg c3, if_pos e]
        rw [← ht2]
        by_cases c4 : first = last
        · rw [if_pos c4]
          refine go first (t2 + len) (fun k hk => Nat.le_trans (before k hk) (Nat.le_add_right _ _)) ?_ (fun k hk => by rw [h3 k (by omega), o2 k (by omega)]) (by omega)
          rw [At]
          unfold ov
          simp only
          rw [← c4] at l2
          omega
        · rw [if_neg c4]
          have hlt : first < last := by omega
          have m1 := mono (show first + 1 ≤ last by omega)
          have of : ov per first (s, len) = (first + 1) * per - s := by
            unfold ov
            simp only
            omega
          by_cases c5 : t2 + (first + 1) * per - s < D
          · rw [if_pos c5]
            have rf : tk per first r = 0 := tk_zero a4 (by omega)
            exact ⟨fun _ => ⟨first, fc, by rw [tk_cons, rf, of, At]; omega⟩, fun _ => rfl⟩
          · rw [if_neg c5]
            refine go last (s + len - last * per) (fun k hk => ?_) ?_ (fun k hk => by rw [h3 k (by omega), o2 k hk]) (by omega)
            · rcases Nat.lt_trichotomy k first with h | h | h
              · exact Nat.le_trans (before k h) (Nat.le_add_right _ _)
              · subst h
                rw [of, At]; omega
              · have q1 := mono (show first + 1 ≤ k by omega)
                have q2 := mono (show k + 1 ≤ last by omega)
                have q3 : (k + 1) * per = k * per + per := Nat.succ_mul k per
                have : ov per k (s, len) = per := by
                  unfold ov
                  simp only
                  omega
                rw [this]; omega
            · rw [h3 last (by omega)]
              unfold ov
              simp only
              omega
/-- windows in order that do not meet follow each other -/
theorem after_of {F : Nat} : ∀ {l : List (Nat × Nat)}, l.Pairwise (fun a b => a.1 ≤ b.1) → l.Pairwise (fun a b => a.1 + a.2 ≤ b.1 ∨ b.1 + b.2 ≤ a.1) → (∀ w ∈ l, 0 < w.2 ∧ w.1 + w.2 ≤ F) → ∀ b, b ≤ F → (∀ w ∈ l, b ≤ w.1) → After F b l
  | [], _, _, _, b, hb, _ => hb
  | w :: r, h1, h2, h3, b, hb, h4 => by
    rw [List.pairwise_cons] at h1 h2
    have hw := h3 w (by simp)
    refine ⟨h4 w (by simp), hw.1, hw.2, after_of h1.2 h2.2 (fun x hx => h3 x (by simp [hx])) _ hw.2 (fun x hx => ?_)⟩
    have q1 := h1.1 x hx
    have q2 := h3 x (by simp [hx])
    rcases h2.1 x hx with q | q
    · exact q
    · omega
theorem apart_perm {l l' : List (Nat × Nat)} (h : l.Pairwise (fun a b => a.1 + a.2 ≤ b.1 ∨ b.1 + b.2 ≤ a.1)) (hp : l'.Perm l) : l'.Pairwise (fun a b => a.1 + a.2 ≤ b.1 ∨ b.1 + b.2 ≤ a.1) :=
  (hp.symm.pairwise_iff (fun {_ _} hab => Or.symm hab)).1 h
theorem tk_perm {per k : Nat} {l l' : List (Nat × Nat)} (hp : l'.Perm l) : tk per k l' = tk per k l := (hp.map (ov per k)).sum_nat
/-- the whole law: a row in order of the windows finds a short period exactly if there is one -/
theorem visits_ok {per D count F : Nat} (hp : 0 < per) (hF : count * per = F) (hD : D ≤ per) {l l' : List (Nat × Nat)} (hperm : l'.Perm l) (hs : l'.Pairwise (fun a b => a.1 ≤ b.1)) (ha : l.Pairwise (fun a b => a.1 + a.2 ≤ b.1 ∨ b.1 + b.2 ≤ a.1)) (hw : ∀ w ∈ l, 0 < w.2 ∧ w.1 + w.2 ≤ F) :
    visits per D count l' 0 0 = true ↔ ∃ k, k < count ∧ tk per k l < D := by
  have h := visits_eq hp hF hD l' 0 0 0 (fun _ => 0) (fun k hk => absurd hk (by omega)) rfl (fun _ _ => rfl) (by omega) (after_of hs (apart_perm ha hperm) (fun w hx => hw w (hperm.mem_iff.1 hx)) 0 (Nat.zero_le _) (fun _ _ => Nat.zero_le _))
  simpa only [Nat.zero_add, tk_perm hperm] using h
end Go.Proofs.YtpedlbjbbcbbkaaGreat
namespace Go.Proofs.YtpedlbjbbcbbkaaGreat
/-- the error of one window -/
def winE (c : Cfg) (x : Win) : Int := if c.parts.any (fun p => p.id == x.part) then (if x.len = 0 ∨ c.frame < x.len ∨ c.frame - x.len < x.start then 20 else 0) else 19
def meetW (a b : Win) : Bool := !(decide (a.start + a.len ≤ b.start) || decide (b.start + b.len ≤ a.start))
def meetsAt (l : List Win) (j : Nat) : Bool := (l.take j).any fun x => match l[j]? with | some y => meetW x y | none => false
/-- the first window that meets an earlier one; -1: none -/
def meetJ (l : List Win) : Int := match (List.range l.length).find? (meetsAt l) with | some j => (j : Int) | none => -1
/-- the fault of the windows: code, section, index -/
def winBad (c : Cfg) : Int × Int × Int :=
  if c.frame = 0 then (17, 0, 0)
  else if (bad 0 (c.wins.map (winE c))).1 ≠ 0 then ((bad 0 (c.wins.map (winE c))).1, 2, (bad 0 (c.wins.map (winE c))).2)
  else if 0 ≤ meetJ c.wins then (21, 2, meetJ c.wins)
  else (0, 0, 0)
theorem bad_none : ∀ (l : List Int) (k : Nat), (bad k l).1 = 0 → ∀ e ∈ l, e = 0
  | [], _, _, e, he => by cases he
  | x :: r, k, h, e, he => by
    unfold bad at h
    by_cases hx : x = 0
    · rw [if_pos hx] at h
      rcases List.mem_cons.1 he with rfl | he
      · exact hx
      · exact bad_none r (k + 1) h e he
    · rw [if_neg hx] at h
      exact absurd h hx
theorem meetJ_none {l : List Win} (h : ¬ 0 ≤ meetJ l) : l.Pairwise fun a b => meetW a b = false := by
  rw [List.pairwise_iff_getElem]
  intro i j hi hj hij
  have hn : (List.range l.length).find? (meetsAt l) = none := by
    unfold meetJ at h
    split at h
    · omega
    · assumption
  rw [List.find?_eq_none] at hn
  have h2 := hn j (List.mem_range.2 hj)
  unfold meetsAt at h2
  rw [List.getElem?_eq_getElem hj] at h2
  simp only [Bool.not_eq_true, List.any_eq_false] at h2
  have h3 := h2 l[i] (List.mem_iff_getElem?.2 ⟨i, by rw [List.getElem?_take, if_pos hij, List.getElem?_eq_getElem hi]⟩)
  cases hm : meetW l[i] l[j] with
  | false => rfl
  | true => exact absurd hm (by simpa using h3)
def natW (x : Win) : Nat × Nat := (x.start.toNat, x.len.toNat)
/-- windows without a fault: inside the frame, none empty, apart -/
theorem win_right {c : Cfg} (hok : ∀ x ∈ c.wins, x.ok) (h : winBad c = (0, 0, 0)) :
    (∀ w ∈ c.wins.map natW, 0 < w.2 ∧ w.1 + w.2 ≤ c.frame.toNat) ∧ (c.wins.map natW).Pairwise fun a b => a.1 + a.2 ≤ b.1 ∨ b.1 + b.2 ≤ a.1 := by
  unfold winBad at h
  split at h
  · simp at h
  · split at h
    · rename_i hn
      exact absurd (congrArg Prod.fst h) hn
    · rename_i hn
      split at h
      · simp at h
      · rename_i hm
        have hz := bad_none _ _ (Decidable.not_not.1 hn)
        have hin : ∀ x ∈ c.wins, 0 ≤ x.start ∧ 0 < x.len ∧ x.start + x.len ≤ c.frame := fun x hx => by
          have e := hz (winE c x) (List.mem_map.2 ⟨x, hx, rfl⟩)
          have b1 := Go.bounds_u64 (hok x hx).start
          have b2 := Go.bounds_u64 (hok x hx).len
          unfold winE at e
          split at e
          · split at e
            · cases e
            · omega
          · cases e
        refine ⟨fun w hw => ?_, ?_⟩
        · obtain ⟨x, hx, rfl⟩ := List.mem_map.1 hw
          have := hin x hx
          simp only [natW]
          omega
        · rw [List.pairwise_map]
          refine (meetJ_none hm).imp_of_mem fun {a b} ha hb hab => ?_
          have q1 := hin a ha
          have q2 := hin b hb
          simp only [meetW, Bool.not_eq_false', Bool.or_eq_true, decide_eq_true_eq] at hab
          simp only [natW]
          omega
/-- the ticks of a window of one partition between two ticks, as the reference counts them -/
def usedW (id lo hi : Int) (x : Win) : Int := if x.part = id ∧ max x.start lo < min (x.start + x.len) hi then min (x.start + x.len) hi - max x.start lo else 0
theorem used_tk (id : Int) (k per : Nat) : ∀ (l : List Win), (∀ x ∈ l, 0 ≤ x.start ∧ 0 ≤ x.len) → (l.map (usedW id ((k * per : Nat) : Int) (((k + 1) * per : Nat) : Int))).sum = ((tk per k ((l.filter fun x => x.part == id).map natW) : Nat) : Int)
  | [], _ => rfl
  | x :: r, h => by
    have ih := used_tk id k per r (fun y hy => h y (by simp [hy]))
    have hx := h x (by simp)
    rw [List.map_cons, List.sum_cons, ih]
    by_cases hp : x.part = id
    · rw [List.filter_cons_of_pos (by simp [hp]), List.map_cons, tk_cons]
      unfold usedW ov natW
      simp only [hp, true_and]
      generalize k * per = a
      generalize (k + 1) * per = b
      split <;> omega
    · rw [List.filter_cons_of_neg (by simp [hp])]
      unfold usedW
      rw [if_neg (fun q => hp q.1), Int.zero_add]
/-- the windows of one partition -/
def winsOf (c : Cfg) (id : Int) : List (Nat × Nat) := (c.wins.filter fun x => x.part == id).map natW
/-- whether a period of a partition has too few ticks -/
def shortB (c : Cfg) (p : Par) : Bool := (List.range (c.frame.toNat / p.period.toNat)).any fun k => decide (tk p.period.toNat k (winsOf c p.id) < p.duration.toNat)
/-- the error of the demand of a partition -/
def demE (c : Cfg) (p : Par) : Int := if p.period = 0 ∨ c.frame % p.period ≠ 0 ∨ p.period < p.duration then 22 else if shortB c p then 23 else 0
/-- the fault of the demands: code, section, index -/
def demBad (c : Cfg) : Int × Int × Int := if (bad 0 (c.parts.map (demE c))).1 = 0 then (0, 0, 0) else ((bad 0 (c.parts.map (demE c))).1, 1, (bad 0 (c.parts.map (demE c))).2)
/-- what the program's visit of the windows in order finds -/
theorem short_visits {c : Cfg} {p : Par} (hok : ∀ x ∈ c.wins, x.ok) (hp : p.ok) (hc : wU64 c.frame) (hw : winBad c = (0, 0, 0)) (h0 : p.period ≠ 0) (h1 : c.frame % p.period = 0) (h2 : ¬ p.period < p.duration) {l' : List (Nat × Nat)} (hperm : l'.Perm (winsOf c p.id)) (hs : l'.Pairwise fun a b => a.1 ≤ b.1) :
    visits p.period.toNat p.duration.toNat (c.frame.toNat / p.period.toNat) l' 0 0 = shortB c p := by
  obtain ⟨g1, g2⟩ := win_right hok hw
  have b1 := Go.bounds_u64 hp.period
  have b2 := Go.bounds_u64 hp.duration
  have b3 := Go.bounds_u64 hc
  have hsub : (winsOf c p.id).Sublist (c.wins.map natW) := List.filter_sublist.map natW
  have hd : p.period.toNat ∣ c.frame.toNat := by
    have e1 : ((p.period.toNat : Nat) : Int) = p.period := Int.toNat_of_nonneg b1.1
    have e2 : ((c.frame.toNat : Nat) : Int) = c.frame := Int.toNat_of_nonneg b3.1
    have : (p.period.toNat : Int) ∣ (c.frame.toNat : Int) := by rw [e1, e2]; exact Int.dvd_of_emod_eq_zero h1
    exact Int.natCast_dvd_natCast.1 this
  have h := visits_ok (per := p.period.toNat) (D := p.duration.toNat) (count := c.frame.toNat / p.period.toNat) (F := c.frame.toNat) (by omega) (Nat.div_mul_cancel hd) (by omega) hperm hs (g2.sublist hsub) (fun w hw => g1 w (hsub.subset hw))
  rw [Bool.eq_iff_iff, h]
  unfold shortB
  simp only [List.any_eq_true, List.mem_range, decide_eq_true_eq]
end Go.Proofs.YtpedlbjbbcbbkaaGreat
namespace Go.Proofs.YtpedlbjbbcbbkaaGreat
/-- the level of each check and those that it needs -/
def lvl (i : Nat) : Nat := [0, 1, 1, 1, 1, 2, 1, 2, 3].getD i 0
def nds (i : Nat) : List Nat := [[], [0], [0], [0], [0], [1, 4], [0], [1, 2, 3], [7]].getD i []
def blk (i : Nat) (bad : List Nat) : Bool := (nds i).any fun n => bad.any fun b => b == n
/-- one check at a level: none if the level goes on with other bad checks; z i: check i finds no fault -/
def one19 (z : List Bool) (name k i : Nat) (bad : List Nat) : Option Bool × List Nat :=
  if lvl i ≠ k then (none, bad)
  else if blk i bad then (if i = name then (some false, bad ++ [i]) else (none, bad ++ [i]))
  else if i = name then (some true, bad)
  else (none, if z.getD i true then bad else bad ++ [i])
def row19 (z : List Bool) (name k : Nat) : List Nat → List Nat → Option Bool × List Nat
  | [], bad => (none, bad)
  | i :: r, bad => match one19 z name k i bad with
    | (some b, bad') => (some b, bad')
    | (none, bad') => row19 z name k r bad'
def only19 (z : List Bool) (name : Nat) : List Nat → List Nat → Option Bool
  | [], _ => none
  | k :: r, bad => match row19 z name k [0, 1, 2, 3, 4, 5, 6, 7, 8] bad with
    | (some b, _) => some b
    | (none, bad') => only19 z name r bad'
/-- whether a check is performed: those that it waits for are performed and find no fault -/
def perf19 (z : List Bool) (i : Nat) : Bool :=
  let q (j : Nat) := z.getD j true
  [true, q 0, q 0, q 0, q 0, (q 0 && q 1) && (q 0 && q 4), q 0, ((q 0 && q 1) && (q 0 && q 2)) && (q 0 && q 3), ((((q 0 && q 1) && (q 0 && q 2)) && (q 0 && q 3)) && q 7)].getD i false
theorem only19_all : ∀ z0 z1 z2 z3 z4 z5 z6 z7 z8 : Bool, ((List.range 9).all fun i => only19 [z0, z1, z2, z3, z4, z5, z6, z7, z8] i [0, 1, 2, 3] [] == some (perf19 [z0, z1, z2, z3, z4, z5, z6, z7, z8] i)) = true := by
  decide +kernel
theorem only19_eq (z0 z1 z2 z3 z4 z5 z6 z7 z8 : Bool) {i : Nat} (hi : i < 9) : only19 [z0, z1, z2, z3, z4, z5, z6, z7, z8] i [0, 1, 2, 3] [] = some (perf19 [z0, z1, z2, z3, z4, z5, z6, z7, z8] i) := by
  have h := only19_all z0 z1 z2 z3 z4 z5 z6 z7 z8
  rw [List.all_eq_true] at h
  exact eq_of_beq (h i (List.mem_range.2 hi))
end Go.Proofs.YtpedlbjbbcbbkaaGreat
