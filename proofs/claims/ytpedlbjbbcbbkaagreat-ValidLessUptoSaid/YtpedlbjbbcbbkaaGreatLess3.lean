/-
  ValidLess: what each operation of the drawn region that makes three copies of a configuration leaves, in whatever order it comes up; and the lesser configurations in memory.
-/
import Derived.Test.YtpedlbjbbcbbkaaGreatInvS
import Derived.Test.YtpedlbjbbcbbkaaGreatLessP
namespace Go.Proofs.YtpedlbjbbcbbkaaGreat
open Go.RowKit Go.Lib
set_option maxRecDepth 100000
def mk9 (x0 x1 x2 x6 x7 x8 x9 x10 x11 x12 x13 x14 x18 x19 x20 x21 x22 x23 x24 x25 x26 x27 x28 x29 x30 x31 x32 x33 x34 x35 x36 x37 x38 : Value) (u : Nat → Value) : Act := { tmps := #[x0, x1, x2, u 3, u 4, u 5, x6, x7, x8, x9, x10, x11, x12, x13, x14, u 0, u 1, u 2, x18, x19, x20, x21, x22, x23, x24, x25, x26, x27, x28, x29, x30, x31, x32, x33, x34, x35, x36, x37, x38], defers := [] }
theorem mk9_put {x0 x1 x2 x6 x7 x8 x9 x10 x11 x12 x13 x14 x18 x19 x20 x21 x22 x23 x24 x25 x26 x27 x28 x29 x30 x31 x32 x33 x34 x35 x36 x37 x38 : Value} (u : Nat → Value) (v : Value) : (∀ i, i < 3 → (mk9 x0 x1 x2 x6 x7 x8 x9 x10 x11 x12 x13 x14 x18 x19 x20 x21 x22 x23 x24 x25 x26 x27 x28 x29 x30 x31 x32 x33 x34 x35 x36 x37 x38 u).put (some (15 + i)) v = mk9 x0 x1 x2 x6 x7 x8 x9 x10 x11 x12 x13 x14 x18 x19 x20 x21 x22 x23 x24 x25 x26 x27 x28 x29 x30 x31 x32 x33 x34 x35 x36 x37 x38 (upd u i v)) ∧ (∀ i, i < 3 → (mk9 x0 x1 x2 x6 x7 x8 x9 x10 x11 x12 x13 x14 x18 x19 x20 x21 x22 x23 x24 x25 x26 x27 x28 x29 x30 x31 x32 x33 x34 x35 x36 x37 x38 u).put (some (3 + i)) v = mk9 x0 x1 x2 x6 x7 x8 x9 x10 x11 x12 x13 x14 x18 x19 x20 x21 x22 x23 x24 x25 x26 x27 x28 x29 x30 x31 x32 x33 x34 x35 x36 x37 x38 (upd u (3 + i) v)) ∧ (∀ i, (mk9 x0 x1 x2 x6 x7 x8 x9 x10 x11 x12 x13 x14 x18 x19 x20 x21 x22 x23 x24 x25 x26 x27 x28 x29 x30 x31 x32 x33 x34 x35 x36 x37 x38 u).put none v = mk9 x0 x1 x2 x6 x7 x8 x9 x10 x11 x12 x13 x14 x18 x19 x20 x21 x22 x23 x24 x25 x26 x27 x28 x29 x30 x31 x32 x33 x34 x35 x36 x37 x38 (upd u (6 + i) v)) := by
  refine ⟨fun i hi => ?_, fun i hi => ?_, fun i => ?_⟩
  · match i, hi with
    | 0, _ => simp [mk9, Act.put, upd]
    | 1, _ => simp [mk9, Act.put, upd]
    | 2, _ => simp [mk9, Act.put, upd]
    | n + 3, hi => exact absurd hi (Nat.not_lt.2 (Nat.le_add_left 3 n))
  · match i, hi with
    | 0, _ => simp [mk9, Act.put, upd]
    | 1, _ => simp [mk9, Act.put, upd]
    | 2, _ => simp [mk9, Act.put, upd]
    | n + 3, hi => exact absurd hi (Nat.not_lt.2 (Nat.le_add_left 3 n))
  · have h : ∀ j, j < 6 → upd u (6 + i) v j = u j := fun j hj => upd_ne (by omega) u v
    simp only [mk9, Act.put, h 0 (by omega), h 1 (by omega), h 2 (by omega), h 3 (by omega), h 4 (by omega), h 5 (by omega)]
def ptr9 (g : Nat) : Value := .pointer (some ⟨g, 0, none⟩)
theorem ptr9_inj {g h : Nat} (e : ptr9 g = ptr9 h) : g = h := by unfold ptr9 at e; injection e with e; injection e with e; injection e
def S9 (H : Nat) (v : Value) (cs0 : Array Value) : Nat → (Nat → Value) → World → Prop
  | 0, u, _ => u 0 = v
  | 1, u, _ => u 1 = v
  | 2, u, _ => u 2 = v
  | 3, u, w => ∃ g cs, u 3 = ptr9 g ∧ H ≤ g ∧ Blk w g 29 cs ∧ cs.size = 6
  | 4, u, w => ∃ g cs, u 4 = ptr9 g ∧ H ≤ g ∧ Blk w g 29 cs ∧ cs.size = 6
  | 5, u, w => ∃ g cs, u 5 = ptr9 g ∧ H ≤ g ∧ Blk w g 29 cs ∧ cs.size = 6
  | 6, u, w => ∃ g, u 3 = ptr9 g ∧ H ≤ g ∧ Blk w g 29 cs0
  | 7, u, w => ∃ g, u 4 = ptr9 g ∧ H ≤ g ∧ Blk w g 29 cs0
  | 8, u, w => ∃ g, u 5 = ptr9 g ∧ H ≤ g ∧ Blk w g 29 cs0
  | _, _, _ => True
/-- the three copies are apart -/
structure Sep9 (u : Nat → Value) (w : World) : Prop where
  ne : ∀ i j g h, 3 ≤ i → i ≤ 5 → 3 ≤ j → j ≤ 5 → i ≠ j → u i = ptr9 g → u j = ptr9 h → g ≠ h
  lt : ∀ i g, 3 ≤ i → i ≤ 5 → u i = ptr9 g → g < w.heap.size
theorem Sep9.other {u : Nat → Value} {w w' : World} (h : Sep9 u w) {i : Nat} (hi : i < 3 ∨ 5 < i) (v : Value) (hw : w.heap.size ≤ w'.heap.size) : Sep9 (upd u i v) w' := by
  have e : ∀ j, 3 ≤ j → j ≤ 5 → upd u i v j = u j := fun j h1 h2 => upd_ne (by omega) u v
  exact ⟨fun a b g k h1 h2 h3 h4 hab ha hb => h.ne a b g k h1 h2 h3 h4 hab (by rwa [e a h1 h2] at ha) (by rwa [e b h3 h4] at hb), fun a g h1 h2 ha => Nat.lt_of_lt_of_le (h.lt a g h1 h2 (by rwa [e a h1 h2] at ha)) hw⟩
theorem Sep9.mk_ {u : Nat → Value} {w w' : World} (h : Sep9 u w) (i : Nat) (hw : w'.heap.size = w.heap.size + 1) : Sep9 (upd u i (ptr9 w.heap.size)) w' := by
  refine ⟨fun a b g k h1 h2 h3 h4 hab ha hb => ?_, fun a g h1 h2 ha => ?_⟩
  · by_cases ea : a = i
    · subst ea
      rw [upd_self] at ha
      rw [upd_ne (Ne.symm hab)] at hb
      have := h.lt b k h3 h4 hb
      have := ptr9_inj ha
      omega
    · rw [upd_ne ea] at ha
      by_cases eb : b = i
      · subst eb
        rw [upd_self] at hb
        have := h.lt a g h1 h2 ha
        have := ptr9_inj hb
        omega
      · rw [upd_ne eb] at hb
        exact h.ne a b g k h1 h2 h3 h4 hab ha hb
  · by_cases ea : a = i
    · subst ea
      rw [upd_self] at ha
      have := ptr9_inj ha
      omega
    · rw [upd_ne ea] at ha
      have := h.lt a g h1 h2 ha
      omega
theorem Sep9.start (w : World) : Sep9 (fun _ => undef) w := ⟨fun _ _ g _ _ _ _ _ _ h => (by unfold ptr9 undef at h; cases h), fun _ g _ _ h => (by unfold ptr9 undef at h; cases h)⟩
/-- one copy is written -/
structure Store6 (g : Nat) (w w' : World) : Prop where
  blk : ∀ t, t ≠ g → w'.heap[t]? = w.heap[t]?
  size : w'.heap.size = w.heap.size
  six : ∀ cs, Blk w g 29 cs → cs.size = 6 → ∃ cs', Blk w' g 29 cs' ∧ cs'.size = 6
theorem Store6.refl (g : Nat) (w : World) : Store6 g w w := ⟨fun _ _ => rfl, rfl, fun cs h1 h2 => ⟨cs, h1, h2⟩⟩
theorem Store6.step {g : Nat} {a w : World} (h : Store6 g a w) (i : Nat) (v : Value) : Store6 g a (w.setCell ⟨g, i, none⟩ v) := by
  refine ⟨fun t ht => (Below.heap_setCell w _ v t ht).trans (h.blk t ht), by simp [h.size], fun cs h1 h2 => ?_⟩
  obtain ⟨cs', k1, k2⟩ := h.six cs h1 h2
  exact ⟨_, k1.set_ i v, by simpa using k2⟩
def Le9 (j : Nat) (u : Nat → Value) (w w' : World) : Prop := if 6 ≤ j then j < 9 ∧ ∃ g, u (j - 3) = ptr9 g ∧ Store6 g w w' else Below w.heap.size w w'
theorem Le9.bel {j : Nat} {u : Nat → Value} {w w' : World} (hj : ¬ 6 ≤ j) (h : Below w.heap.size w w') : Le9 j u w w' := by unfold Le9; rw [if_neg hj]; exact h
theorem Le9.sto {j g : Nat} {u : Nat → Value} {w w' : World} (hj : 6 ≤ j) (hj2 : j < 9) (e : u (j - 3) = ptr9 g) (h : Store6 g w w') : Le9 j u w w' := by unfold Le9; rw [if_pos hj]; exact ⟨hj2, g, e, h⟩
theorem Blk.same9 {w w' : World} {g : Nat} {t : TypeId} {cs : Array Value} (h : Blk w g t cs) (e : w'.heap[g]? = w.heap[g]?) : Blk w' g t cs := by
  unfold Blk at h ⊢; rw [e]; exact h
theorem arr9 {cs : Array Value} (h : cs.size = 6) : ∃ c0 c1 c2 c3 c4 c5, cs = #[c0, c1, c2, c3, c4, c5] := by
  obtain ⟨l⟩ := cs
  match l, h with
  | [c0, c1, c2, c3, c4, c5], _ => exact ⟨c0, c1, c2, c3, c4, c5, rfl⟩
theorem S9.stay (H : Nat) (v : Value) (cs0 : Array Value) (i j : Nat) (u : Nat → Value) (w w' : World) (hij : i ≠ j) (hs : Sep9 u w) (h : S9 H v cs0 i u w) (hl : Le9 j u w w') : S9 H v cs0 i u w' := by
  unfold Le9 at hl
  by_cases hj : 6 ≤ j
  · rw [if_pos hj] at hl
    obtain ⟨hj9, g0, hg0, hst⟩ := hl
    match i with
    | 0 => exact h
    | 1 => exact h
    | 2 => exact h
    | 3 =>
      obtain ⟨g, cs, h1, h2, h3, h4⟩ := h
      by_cases hg : g = g0
      · subst hg
        obtain ⟨cs2, h5, h6⟩ := hst.six cs h3 h4
        exact ⟨g, cs2, h1, h2, h5, h6⟩
      · exact ⟨g, cs, h1, h2, h3.same9 (hst.blk g hg), h4⟩
    | 4 =>
      obtain ⟨g, cs, h1, h2, h3, h4⟩ := h
      by_cases hg : g = g0
      · subst hg
        obtain ⟨cs2, h5, h6⟩ := hst.six cs h3 h4
        exact ⟨g, cs2, h1, h2, h5, h6⟩
      · exact ⟨g, cs, h1, h2, h3.same9 (hst.blk g hg), h4⟩
    | 5 =>
      obtain ⟨g, cs, h1, h2, h3, h4⟩ := h
      by_cases hg : g = g0
      · subst hg
        obtain ⟨cs2, h5, h6⟩ := hst.six cs h3 h4
        exact ⟨g, cs2, h1, h2, h5, h6⟩
      · exact ⟨g, cs, h1, h2, h3.same9 (hst.blk g hg), h4⟩
    | 6 =>
      obtain ⟨g, h1, h2, h3⟩ := h
      exact ⟨g, h1, h2, h3.same9 (hst.blk g (hs.ne 3 (j - 3) g g0 (by omega) (by omega) (by omega) (by omega) (by omega) h1 hg0))⟩
    | 7 =>
      obtain ⟨g, h1, h2, h3⟩ := h
      exact ⟨g, h1, h2, h3.same9 (hst.blk g (hs.ne 4 (j - 3) g g0 (by omega) (by omega) (by omega) (by omega) (by omega) h1 hg0))⟩
    | 8 =>
      obtain ⟨g, h1, h2, h3⟩ := h
      exact ⟨g, h1, h2, h3.same9 (hst.blk g (hs.ne 5 (j - 3) g g0 (by omega) (by omega) (by omega) (by omega) (by omega) h1 hg0))⟩
    | n + 9 => trivial
  · rw [if_neg hj] at hl
    match i with
    | 0 => exact h
    | 1 => exact h
    | 2 => exact h
    | 3 =>
      obtain ⟨g, cs, h1, h2, h3, h4⟩ := h
      exact ⟨g, cs, h1, h2, h3.below hl h3.lt, h4⟩
    | 4 =>
      obtain ⟨g, cs, h1, h2, h3, h4⟩ := h
      exact ⟨g, cs, h1, h2, h3.below hl h3.lt, h4⟩
    | 5 =>
      obtain ⟨g, cs, h1, h2, h3, h4⟩ := h
      exact ⟨g, cs, h1, h2, h3.below hl h3.lt, h4⟩
    | 6 =>
      obtain ⟨g, h1, h2, h3⟩ := h
      exact ⟨g, h1, h2, h3.below hl h3.lt⟩
    | 7 =>
      obtain ⟨g, h1, h2, h3⟩ := h
      exact ⟨g, h1, h2, h3.below hl h3.lt⟩
    | 8 =>
      obtain ⟨g, h1, h2, h3⟩ := h
      exact ⟨g, h1, h2, h3.below hl h3.lt⟩
    | n + 9 => trivial
theorem lessR_ok {c : Cfg} (h : c.ok) : (lessR c).ok := ⟨h.frame, h.parts, h.wins, fun _ q => absurd q (by simp [lessR]), h.ports, h.chans⟩
theorem lessC_ok {c : Cfg} (h : c.ok) : (lessC c).ok := ⟨h.frame, h.parts, h.wins, h.regs, h.ports, fun _ q => absurd q (by simp [lessC])⟩
theorem lessP_ok {c : Cfg} (h : c.ok) : (lessP c).ok := ⟨h.frame, h.parts, h.wins, h.regs, fun _ q => absurd q (by simp [lessP]), fun _ q => absurd q (by simp [lessP])⟩
theorem lessR_small {c : Cfg} (h : c.small) : (lessR c).small := ⟨by have := h.total; unfold Cfg.total lessR at *; simp only [List.length_nil]; omega, h.pnames, h.tnames⟩
theorem lessC_small {c : Cfg} (h : c.small) : (lessC c).small := ⟨by have := h.total; unfold Cfg.total lessC at *; simp only [List.length_nil, sumDests, List.map_nil, List.sum_nil]; omega, h.pnames, h.tnames⟩
theorem lessP_small {c : Cfg} (h : c.small) : (lessP c).small := ⟨by have := h.total; unfold Cfg.total lessP at *; simp only [List.length_nil, sumDests, List.map_nil, List.sum_nil]; omega, h.pnames, fun _ q => absurd q (by simp [lessP])⟩
section
variable {w : World} {B : Nat} {c : Cfg} {A1 A2 A3 A4 A5 : Option Addr} {c1 c2 c3 c4 c5 : Nat}
theorem lessR_R (R : CfgR w B c A1 A2 A3 A4 A5 c1 c2 c3 c4 c5) : CfgR w B (lessR c) A1 A2 none A4 A5 c1 c2 0 c4 c5 :=
  ⟨R.parts, R.wins, Rd.nil, R.ports, R.chans, R.cap1, R.cap2, ⟨Nat.le_refl _, Nat.zero_le _⟩, R.cap4, R.cap5⟩
theorem lessC_R (R : CfgR w B c A1 A2 A3 A4 A5 c1 c2 c3 c4 c5) : CfgR w B (lessC c) A1 A2 A3 A4 none c1 c2 c3 c4 0 :=
  ⟨R.parts, R.wins, R.regs, R.ports, ⟨[], rfl, Rd.nil⟩, R.cap1, R.cap2, R.cap3, R.cap4, ⟨Nat.le_refl _, Nat.zero_le _⟩⟩
theorem lessP_R (R : CfgR w B c A1 A2 A3 A4 A5 c1 c2 c3 c4 c5) : CfgR w B (lessP c) A1 A2 A3 none none c1 c2 c3 0 0 :=
  ⟨R.parts, R.wins, R.regs, Rd.nil, ⟨[], rfl, Rd.nil⟩, R.cap1, R.cap2, R.cap3, ⟨Nat.le_refl _, Nat.zero_le _⟩, ⟨Nat.le_refl _, Nat.zero_le _⟩⟩
end
end Go.Proofs.YtpedlbjbbcbbkaaGreat
