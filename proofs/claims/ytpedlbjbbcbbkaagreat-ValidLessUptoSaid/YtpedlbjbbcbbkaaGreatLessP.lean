/-
  A valid configuration without its regions, its channels, or its ports and channels is valid: plain. It speaks of no program.
-/
import Derived.Test.YtpedlbjbbcbbkaaGreatV19Z
namespace Go.Proofs.YtpedlbjbbcbbkaaGreat
open Go.RowKit
theorem vld_perf {c : Cfg} (h : ∀ i, i < 9 → perfC c i = true → (valF c i).code = 0) : ∀ k, k < 9 → perfC c k = true := by
  intro k
  induction k using Nat.strongRecOn with
  | _ k ih =>
    intro hk
    rw [perf_step c hk, List.all_eq_true]
    intro n hn
    have hlt := nds_lt hk hn
    have hp := ih n hlt (by omega)
    unfold okN zB
    rw [hp, decide_eq_true (h n (by omega) hp)]
    rfl
/-- a configuration is valid exactly if no check finds a fault -/
theorem vld_all {c : Cfg} : vldB c = true ↔ ∀ i, i < 9 → (valF c i).code = 0 := by
  rw [vldB_nil, decide_eq_true_iff, List.length_eq_zero_iff]
  unfold fltsOf
  rw [List.filter_eq_nil_iff]
  constructor
  · intro h
    have h1 : ∀ i, i < 9 → perfC c i = true → (valF c i).code = 0 := by
      intro i hi hp
      have := h (resF c i) (List.mem_map.2 ⟨i, List.mem_range.2 hi, rfl⟩)
      unfold resF at this
      rw [if_pos hp] at this
      simpa using this
    intro i hi
    exact h1 i hi (vld_perf h1 i hi)
  · intro h f hf
    obtain ⟨i, hi, rfl⟩ := List.mem_map.1 hf
    have hz := h i (List.mem_range.1 hi)
    unfold resF
    split
    · simp [hz]
    · simp [noFlt]
theorem idx_neg {α : Type} {p : α → Bool} : ∀ (l : List α) (i : Nat), ¬ (0 : Int) ≤ idxFrom p i l ↔ ∀ x ∈ l, p x = false
  | [], i => by simp [idxFrom]
  | a :: r, i => by
    unfold idxFrom
    cases hp : p a with
    | true =>
      rw [if_pos rfl]
      constructor
      · intro h; exact absurd (Int.natCast_nonneg i) h
      · intro h; have := h a (by simp); rw [hp] at this; cases this
    | false =>
      rw [if_neg (by simp)]
      rw [idx_neg r (i + 1)]
      simp [hp]
theorem con_zero {c : Cfg} : (conFlt c).code = 0 ↔ (∀ k ∈ [1, 2, 3, 4, 5, 6], overC c k = false) ∧ (∀ x ∈ c.parts, badPar x = false) ∧ (∀ x ∈ c.ports, badPrt x = false) ∧ (∀ x ∈ c.regs, badReg x = false) := by
  unfold conFlt chkBad limBad
  rcases hl : [1, 2, 3, 4, 5, 6].find? (overC c) with _ | k
  · have h1 : ∀ k ∈ [1, 2, 3, 4, 5, 6], overC c k = false := by
      intro k hk
      have := List.find?_eq_none.1 hl k hk
      simpa using this
    have e1 := idx_neg (p := badPar) c.parts 0
    have e2 := idx_neg (p := badPrt) c.ports 0
    have e3 := idx_neg (p := badReg) c.regs 0
    rw [← e1, ← e2, ← e3]
    simp only [nameBads, idx]
    by_cases g1 : 0 ≤ idxFrom badPar 0 c.parts
    · simp [g1]
    · by_cases g2 : 0 ≤ idxFrom badPrt 0 c.ports
      · simp [g1, g2]
      · by_cases g3 : 0 ≤ idxFrom badReg 0 c.regs
        · simp [g1, g2, g3]
        · exact ⟨fun _ => ⟨h1, g1, g2, g3⟩, fun _ => by simp [g1, g2, g3]⟩
  · have h1 := List.find?_some hl
    have h2 := List.mem_of_find?_eq_some hl
    constructor
    · intro h; exact absurd h (by simp)
    · intro h
      rw [h.1 k h2] at h1
      cases h1
theorem con_less {a c : Cfg} (h : (conFlt c).code = 0) (hl : ∀ k, cntOf a k ≤ cntOf c k) (hp : ∀ x ∈ a.parts, x ∈ c.parts) (hq : ∀ x ∈ a.ports, x ∈ c.ports) (hr : ∀ x ∈ a.regs, x ∈ c.regs) : (conFlt a).code = 0 := by
  rw [con_zero] at h ⊢
  obtain ⟨h1, h2, h3, h4⟩ := h
  refine ⟨fun k hk => ?_, fun x hx => h2 x (hp x hx), fun x hx => h3 x (hq x hx), fun x hx => h4 x (hr x hx)⟩
  have := h1 k hk
  unfold overC at *
  have hk := hl k
  simp only [decide_eq_false_iff_not] at *
  omega
def lessR (c : Cfg) : Cfg := ⟨c.frame, c.parts, c.wins, [], c.ports, c.chans⟩
def lessC (c : Cfg) : Cfg := ⟨c.frame, c.parts, c.wins, c.regs, c.ports, []⟩
def lessP (c : Cfg) : Cfg := ⟨c.frame, c.parts, c.wins, c.regs, [], []⟩
theorem nine {P : Nat → Prop} (h0 : P 0) (h1 : P 1) (h2 : P 2) (h3 : P 3) (h4 : P 4) (h5 : P 5) (h6 : P 6) (h7 : P 7) (h8 : P 8) : ∀ i, i < 9 → P i := by
  intro i hi
  have : i = 0 ∨ i = 1 ∨ i = 2 ∨ i = 3 ∨ i = 4 ∨ i = 5 ∨ i = 6 ∨ i = 7 ∨ i = 8 := by omega
  rcases this with rfl | rfl | rfl | rfl | rfl | rfl | rfl | rfl | rfl <;> assumption
section
variable {a c : Cfg}
theorem portOf_of (h : a.ports = c.ports) (id : Int) : portOf a id = portOf c id := by unfold portOf; rw [h]
theorem endCode_of (h : a.ports = c.ports) (u : List Int) (id : Int) (o : Bool) (f : Prt → Bool) : endCode a u id o f = endCode c u id o f := by unfold endCode; rw [portOf_of h]
theorem destsCode_of (h : a.ports = c.ports) (s : Prt) : ∀ (l u : List Int), destsCode a s u l = destsCode c s u l
  | [], u => rfl
  | d :: r, u => by
    unfold destsCode
    rw [endCode_of h, destsCode_of h s r]
theorem chanCode_of (h : a.ports = c.ports) (u : List Int) (x : Chn) : chanCode a u x = chanCode c u x := by
  unfold chanCode thePort
  rw [endCode_of h, portOf_of h, destsCode_of h]
theorem chansBad_of (h : a.ports = c.ports) : ∀ (l : List Chn) (i : Nat) (u : List Int), chansBad a i u l = chansBad c i u l
  | [], i, u => rfl
  | x :: r, i, u => by
    unfold chansBad
    rw [chanCode_of h, chansBad_of h r]
theorem xFlt_of (h : a.ports = c.ports) (h2 : a.chans = c.chans) : xFlt a = xFlt c := by
  unfold xFlt chanBad
  rw [chansBad_of h, h2]
end
theorem lessR_vld {c : Cfg} (h : vldB c = true) : vldB (lessR c) = true := by
  rw [vld_all] at h ⊢
  refine nine (con_less (h 0 (by omega)) ?_ (fun _ h => h) (fun _ h => h) (fun _ h => by cases h)) (h 1 (by omega)) (h 2 (by omega)) (h 3 (by omega)) (h 4 (by omega)) (h 5 (by omega)) rfl (h 7 (by omega)) (by show (xFlt (lessR c)).code = 0; rw [xFlt_of (a := lessR c) (c := c) rfl rfl]; exact h 8 (by omega))
  intro k
  unfold cntOf lessR
  split <;> simp
theorem lessC_vld {c : Cfg} (h : vldB c = true) : vldB (lessC c) = true := by
  rw [vld_all] at h ⊢
  refine nine (con_less (h 0 (by omega)) ?_ (fun _ h => h) (fun _ h => h) (fun _ h => h)) (h 1 (by omega)) (h 2 (by omega)) rfl (h 4 (by omega)) (h 5 (by omega)) (h 6 (by omega)) (h 7 (by omega)) rfl
  intro k
  unfold cntOf lessC
  split <;> simp [sumDests]
theorem lessP_vld {c : Cfg} (h : vldB c = true) : vldB (lessP c) = true := by
  rw [vld_all] at h ⊢
  refine nine (con_less (h 0 (by omega)) ?_ (fun _ h => h) (fun _ h => by cases h) (fun _ h => h)) (h 1 (by omega)) rfl rfl (h 4 (by omega)) (h 5 (by omega)) (h 6 (by omega)) rfl rfl
  intro k
  unfold cntOf lessP
  split <;> simp [sumDests]
end Go.Proofs.YtpedlbjbbcbbkaaGreat
