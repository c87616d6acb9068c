/-
  ConfMerges: what each operation of the drawn region that counts three configurations into three arrays leaves, in whatever order it comes up.
-/
import Derived.Test.YtldchpmilknlmaaGreatInvR
import Derived.Test.YtldchpmilknlmaaGreatMrg3
namespace Go.Proofs.YtldchpmilknlmaaGreat
open Go.RowKit Go.Lib
set_option maxRecDepth 100000
def mk4 (x0 x1 x2 x3 x4 x5 x6 x7 x11 x12 x13 x14 x15 x16 x17 x18 x19 x20 x21 x22 x23 x24 x25 x26 x27 x28 x29 x30 x31 x32 x33 x34 x35 x36 x37 x38 x39 x40 x41 x42 x43 x44 x45 x46 x47 x48 x49 x50 x51 x52 x59 x60 x61 x62 x63 x64 x65 x66 x67 x68 x69 x70 x71 x72 x73 x74 x75 x76 x77 x78 x79 x80 x81 x82 x83 x84 x85 x86 x87 x88 x89 x90 : Value) (u : Nat → Value) : Act := { tmps := #[x0, x1, x2, x3, x4, x5, x6, x7, u 6, u 7, u 8, x11, x12, x13, x14, x15, x16, x17, x18, x19, x20, x21, x22, x23, x24, x25, x26, x27, x28, x29, x30, x31, x32, x33, x34, x35, x36, x37, x38, x39, x40, x41, x42, x43, x44, x45, x46, x47, x48, x49, x50, x51, x52, u 0, u 1, u 2, u 3, u 4, u 5, x59, x60, x61, x62, x63, x64, x65, x66, x67, x68, x69, x70, x71, x72, x73, x74, x75, x76, x77, x78, x79, x80, x81, x82, x83, x84, x85, x86, x87, x88, x89, x90], defers := [] }
theorem mk4_put {x0 x1 x2 x3 x4 x5 x6 x7 x11 x12 x13 x14 x15 x16 x17 x18 x19 x20 x21 x22 x23 x24 x25 x26 x27 x28 x29 x30 x31 x32 x33 x34 x35 x36 x37 x38 x39 x40 x41 x42 x43 x44 x45 x46 x47 x48 x49 x50 x51 x52 x59 x60 x61 x62 x63 x64 x65 x66 x67 x68 x69 x70 x71 x72 x73 x74 x75 x76 x77 x78 x79 x80 x81 x82 x83 x84 x85 x86 x87 x88 x89 x90 : Value} (u : Nat → Value) (v : Value) : (∀ i, i < 6 → (mk4 x0 x1 x2 x3 x4 x5 x6 x7 x11 x12 x13 x14 x15 x16 x17 x18 x19 x20 x21 x22 x23 x24 x25 x26 x27 x28 x29 x30 x31 x32 x33 x34 x35 x36 x37 x38 x39 x40 x41 x42 x43 x44 x45 x46 x47 x48 x49 x50 x51 x52 x59 x60 x61 x62 x63 x64 x65 x66 x67 x68 x69 x70 x71 x72 x73 x74 x75 x76 x77 x78 x79 x80 x81 x82 x83 x84 x85 x86 x87 x88 x89 x90 u).put (some (53 + i)) v = mk4 x0 x1 x2 x3 x4 x5 x6 x7 x11 x12 x13 x14 x15 x16 x17 x18 x19 x20 x21 x22 x23 x24 x25 x26 x27 x28 x29 x30 x31 x32 x33 x34 x35 x36 x37 x38 x39 x40 x41 x42 x43 x44 x45 x46 x47 x48 x49 x50 x51 x52 x59 x60 x61 x62 x63 x64 x65 x66 x67 x68 x69 x70 x71 x72 x73 x74 x75 x76 x77 x78 x79 x80 x81 x82 x83 x84 x85 x86 x87 x88 x89 x90 (upd u i v)) ∧ (∀ i, i < 3 → (mk4 x0 x1 x2 x3 x4 x5 x6 x7 x11 x12 x13 x14 x15 x16 x17 x18 x19 x20 x21 x22 x23 x24 x25 x26 x27 x28 x29 x30 x31 x32 x33 x34 x35 x36 x37 x38 x39 x40 x41 x42 x43 x44 x45 x46 x47 x48 x49 x50 x51 x52 x59 x60 x61 x62 x63 x64 x65 x66 x67 x68 x69 x70 x71 x72 x73 x74 x75 x76 x77 x78 x79 x80 x81 x82 x83 x84 x85 x86 x87 x88 x89 x90 u).put (some (8 + i)) v = mk4 x0 x1 x2 x3 x4 x5 x6 x7 x11 x12 x13 x14 x15 x16 x17 x18 x19 x20 x21 x22 x23 x24 x25 x26 x27 x28 x29 x30 x31 x32 x33 x34 x35 x36 x37 x38 x39 x40 x41 x42 x43 x44 x45 x46 x47 x48 x49 x50 x51 x52 x59 x60 x61 x62 x63 x64 x65 x66 x67 x68 x69 x70 x71 x72 x73 x74 x75 x76 x77 x78 x79 x80 x81 x82 x83 x84 x85 x86 x87 x88 x89 x90 (upd u (6 + i) v)) ∧ (∀ i, (mk4 x0 x1 x2 x3 x4 x5 x6 x7 x11 x12 x13 x14 x15 x16 x17 x18 x19 x20 x21 x22 x23 x24 x25 x26 x27 x28 x29 x30 x31 x32 x33 x34 x35 x36 x37 x38 x39 x40 x41 x42 x43 x44 x45 x46 x47 x48 x49 x50 x51 x52 x59 x60 x61 x62 x63 x64 x65 x66 x67 x68 x69 x70 x71 x72 x73 x74 x75 x76 x77 x78 x79 x80 x81 x82 x83 x84 x85 x86 x87 x88 x89 x90 u).put none v = mk4 x0 x1 x2 x3 x4 x5 x6 x7 x11 x12 x13 x14 x15 x16 x17 x18 x19 x20 x21 x22 x23 x24 x25 x26 x27 x28 x29 x30 x31 x32 x33 x34 x35 x36 x37 x38 x39 x40 x41 x42 x43 x44 x45 x46 x47 x48 x49 x50 x51 x52 x59 x60 x61 x62 x63 x64 x65 x66 x67 x68 x69 x70 x71 x72 x73 x74 x75 x76 x77 x78 x79 x80 x81 x82 x83 x84 x85 x86 x87 x88 x89 x90 (upd u (9 + i) v)) := by
  refine ⟨fun i hi => ?_, fun i hi => ?_, fun i => ?_⟩
  · match i, hi with
    | 0, _ => simp [mk4, Act.put, upd]
    | 1, _ => simp [mk4, Act.put, upd]
    | 2, _ => simp [mk4, Act.put, upd]
    | 3, _ => simp [mk4, Act.put, upd]
    | 4, _ => simp [mk4, Act.put, upd]
    | 5, _ => simp [mk4, Act.put, upd]
    | n + 6, hi => exact absurd hi (Nat.not_lt.2 (Nat.le_add_left 6 n))
  · match i, hi with
    | 0, _ => simp [mk4, Act.put, upd]
    | 1, _ => simp [mk4, Act.put, upd]
    | 2, _ => simp [mk4, Act.put, upd]
    | n + 3, hi => exact absurd hi (Nat.not_lt.2 (Nat.le_add_left 3 n))
  · have h : ∀ j, j < 9 → upd u (9 + i) v j = u j := fun j hj => upd_ne (by omega) u v
    simp only [mk4, Act.put, h 0 (by omega), h 1 (by omega), h 2 (by omega), h 3 (by omega), h 4 (by omega), h 5 (by omega), h 6 (by omega), h 7 (by omega), h 8 (by omega)]
def cntA (c : Cfg) : Array Value := #[.int .i64 0, .int .i64 c.parts.length, .int .i64 c.wins.length, .int .i64 c.regs.length, .int .i64 c.ports.length, .int .i64 c.chans.length, .int .i64 (sumDests c.chans)]
def ptr0 (g : Nat) : Value := .pointer (some ⟨g, 0, none⟩)
theorem ptr0_inj {g h : Nat} (e : ptr0 g = ptr0 h) : g = h := by unfold ptr0 at e; injection e with e; injection e with e; injection e
def S4 (H : Nat) (v1 v2 v3 : Value) (C1 C2 C3 : Cfg) : Nat → (Nat → Value) → World → Prop
  | 0, u, _ => u 0 = v1
  | 1, u, _ => u 1 = .agg (cntA C1)
  | 2, u, _ => u 2 = v2
  | 3, u, _ => u 3 = .agg (cntA C2)
  | 4, u, _ => u 4 = v3
  | 5, u, _ => u 5 = .agg (cntA C3)
  | 6, u, w => ∃ g cs, u 6 = ptr0 g ∧ H ≤ g ∧ Blk w g 52 cs ∧ cs.size = 7
  | 7, u, w => ∃ g cs, u 7 = ptr0 g ∧ H ≤ g ∧ Blk w g 52 cs ∧ cs.size = 7
  | 8, u, w => ∃ g cs, u 8 = ptr0 g ∧ H ≤ g ∧ Blk w g 52 cs ∧ cs.size = 7
  | 9, u, w => ∃ g, u 6 = ptr0 g ∧ H ≤ g ∧ Blk w g 52 (cntA C1)
  | 10, u, w => ∃ g, u 7 = ptr0 g ∧ H ≤ g ∧ Blk w g 52 (cntA C2)
  | 11, u, w => ∃ g, u 8 = ptr0 g ∧ H ≤ g ∧ Blk w g 52 (cntA C3)
  | _, _, _ => True
/-- the three arrays are apart -/
structure Sep4 (u : Nat → Value) (w : World) : Prop where
  ne : ∀ i j g h, 6 ≤ i → i ≤ 8 → 6 ≤ j → j ≤ 8 → i ≠ j → u i = ptr0 g → u j = ptr0 h → g ≠ h
  lt : ∀ i g, 6 ≤ i → i ≤ 8 → u i = ptr0 g → g < w.heap.size
theorem Sep4.other {u : Nat → Value} {w w' : World} (h : Sep4 u w) {i : Nat} (hi : i < 6 ∨ 8 < i) (v : Value) (hw : w.heap.size ≤ w'.heap.size) : Sep4 (upd u i v) w' := by
  have e : ∀ j, 6 ≤ j → j ≤ 8 → upd u i v j = u j := fun j h1 h2 => upd_ne (by omega) u v
  exact ⟨fun a b g k h1 h2 h3 h4 hab ha hb => h.ne a b g k h1 h2 h3 h4 hab (by rwa [e a h1 h2] at ha) (by rwa [e b h3 h4] at hb), fun a g h1 h2 ha => Nat.lt_of_lt_of_le (h.lt a g h1 h2 (by rwa [e a h1 h2] at ha)) hw⟩
theorem Sep4.mk_ {u : Nat → Value} {w w' : World} (h : Sep4 u w) (i : Nat) (hw : w'.heap.size = w.heap.size + 1) : Sep4 (upd u i (ptr0 w.heap.size)) w' := by
  refine ⟨fun a b g k h1 h2 h3 h4 hab ha hb => ?_, fun a g h1 h2 ha => ?_⟩
  · by_cases ea : a = i
    · subst ea
      rw [upd_self] at ha
      rw [upd_ne (Ne.symm hab)] at hb
      have := h.lt b k h3 h4 hb
      have := ptr0_inj ha
      omega
    · rw [upd_ne ea] at ha
      by_cases eb : b = i
      · subst eb
        rw [upd_self] at hb
        have := h.lt a g h1 h2 ha
        have := ptr0_inj hb
        omega
      · rw [upd_ne eb] at hb
        exact h.ne a b g k h1 h2 h3 h4 hab ha hb
  · by_cases ea : a = i
    · subst ea
      rw [upd_self] at ha
      have := ptr0_inj ha
      omega
    · rw [upd_ne ea] at ha
      have := h.lt a g h1 h2 ha
      omega
theorem Sep4.start (w : World) : Sep4 (fun _ => undef) w := ⟨fun _ _ g _ _ _ _ _ _ h => (by unfold ptr0 undef at h; cases h), fun _ g _ _ h => (by unfold ptr0 undef at h; cases h)⟩
/-- one array is written -/
structure Store7 (g : Nat) (w w' : World) : Prop where
  blk : ∀ t, t ≠ g → w'.heap[t]? = w.heap[t]?
  size : w'.heap.size = w.heap.size
  seven : ∀ cs, Blk w g 52 cs → cs.size = 7 → ∃ cs', Blk w' g 52 cs' ∧ cs'.size = 7
theorem Store7.refl (g : Nat) (w : World) : Store7 g w w := ⟨fun _ _ => rfl, rfl, fun cs h1 h2 => ⟨cs, h1, h2⟩⟩
theorem Store7.step {g : Nat} {a w : World} (h : Store7 g a w) (i : Nat) (v : Value) : Store7 g a (w.setCell ⟨g, i, none⟩ v) := by
  refine ⟨fun t ht => (Below.heap_setCell w _ v t ht).trans (h.blk t ht), by simp [h.size], fun cs h1 h2 => ?_⟩
  obtain ⟨cs', k1, k2⟩ := h.seven cs h1 h2
  exact ⟨_, k1.set_ i v, by simpa using k2⟩
def Le4 (j : Nat) (u : Nat → Value) (w w' : World) : Prop := if 9 ≤ j then j < 12 ∧ ∃ g, u (j - 3) = ptr0 g ∧ Store7 g w w' else Below w.heap.size w w'
theorem Le4.bel {j : Nat} {u : Nat → Value} {w w' : World} (hj : ¬ 9 ≤ j) (h : Below w.heap.size w w') : Le4 j u w w' := by unfold Le4; rw [if_neg hj]; exact h
theorem Le4.sto {j g : Nat} {u : Nat → Value} {w w' : World} (hj : 9 ≤ j) (hj2 : j < 12) (e : u (j - 3) = ptr0 g) (h : Store7 g w w') : Le4 j u w w' := by unfold Le4; rw [if_pos hj]; exact ⟨hj2, g, e, h⟩
theorem Blk.same {w w' : World} {g : Nat} {t : TypeId} {cs : Array Value} (h : Blk w g t cs) (e : w'.heap[g]? = w.heap[g]?) : Blk w' g t cs := by
  unfold Blk at h ⊢; rw [e]; exact h
theorem arr7 {cs : Array Value} (h : cs.size = 7) : ∃ c0 c1 c2 c3 c4 c5 c6, cs = #[c0, c1, c2, c3, c4, c5, c6] := by
  obtain ⟨l⟩ := cs
  match l, h with
  | [c0, c1, c2, c3, c4, c5, c6], _ => exact ⟨c0, c1, c2, c3, c4, c5, c6, rfl⟩
theorem S4.stay (H : Nat) (v1 v2 v3 : Value) (C1 C2 C3 : Cfg) (i j : Nat) (u : Nat → Value) (w w' : World) (hij : i ≠ j) (hs : Sep4 u w) (h : S4 H v1 v2 v3 C1 C2 C3 i u w) (hl : Le4 j u w w') : S4 H v1 v2 v3 C1 C2 C3 i u w' := by
  unfold Le4 at hl
  by_cases hj : 9 ≤ j
  · rw [if_pos hj] at hl
    obtain ⟨hj12, g0, hg0, hst⟩ := hl
    match i with
    | 0 => exact h
    | 1 => exact h
    | 2 => exact h
    | 3 => exact h
    | 4 => exact h
    | 5 => exact h
    | 6 =>
      obtain ⟨g, cs, h1, h2, h3, h4⟩ := h
      by_cases hg : g = g0
      · subst hg
        obtain ⟨cs2, h5, h6⟩ := hst.seven cs h3 h4
        exact ⟨g, cs2, h1, h2, h5, h6⟩
      · exact ⟨g, cs, h1, h2, h3.same (hst.blk g hg), h4⟩
    | 7 =>
      obtain ⟨g, cs, h1, h2, h3, h4⟩ := h
      by_cases hg : g = g0
      · subst hg
        obtain ⟨cs2, h5, h6⟩ := hst.seven cs h3 h4
        exact ⟨g, cs2, h1, h2, h5, h6⟩
      · exact ⟨g, cs, h1, h2, h3.same (hst.blk g hg), h4⟩
    | 8 =>
      obtain ⟨g, cs, h1, h2, h3, h4⟩ := h
      by_cases hg : g = g0
      · subst hg
        obtain ⟨cs2, h5, h6⟩ := hst.seven cs h3 h4
        exact ⟨g, cs2, h1, h2, h5, h6⟩
      · exact ⟨g, cs, h1, h2, h3.same (hst.blk g hg), h4⟩
    | 9 =>
      obtain ⟨g, h1, h2, h3⟩ := h
      exact ⟨g, h1, h2, h3.same (hst.blk g (hs.ne 6 (j - 3) g g0 (by omega) (by omega) (by omega) (by omega) (by omega) h1 hg0))⟩
    | 10 =>
      obtain ⟨g, h1, h2, h3⟩ := h
      exact ⟨g, h1, h2, h3.same (hst.blk g (hs.ne 7 (j - 3) g g0 (by omega) (by omega) (by omega) (by omega) (by omega) h1 hg0))⟩
    | 11 =>
      obtain ⟨g, h1, h2, h3⟩ := h
      exact ⟨g, h1, h2, h3.same (hst.blk g (hs.ne 8 (j - 3) g g0 (by omega) (by omega) (by omega) (by omega) (by omega) h1 hg0))⟩
    | n + 12 => trivial
  · rw [if_neg hj] at hl
    match i with
    | 0 => exact h
    | 1 => exact h
    | 2 => exact h
    | 3 => exact h
    | 4 => exact h
    | 5 => exact h
    | 6 =>
      obtain ⟨g, cs, h1, h2, h3, h4⟩ := h
      exact ⟨g, cs, h1, h2, h3.below hl h3.lt, h4⟩
    | 7 =>
      obtain ⟨g, cs, h1, h2, h3, h4⟩ := h
      exact ⟨g, cs, h1, h2, h3.below hl h3.lt, h4⟩
    | 8 =>
      obtain ⟨g, cs, h1, h2, h3, h4⟩ := h
      exact ⟨g, cs, h1, h2, h3.below hl h3.lt, h4⟩
    | 9 =>
      obtain ⟨g, h1, h2, h3⟩ := h
      exact ⟨g, h1, h2, h3.below hl h3.lt⟩
    | 10 =>
      obtain ⟨g, h1, h2, h3⟩ := h
      exact ⟨g, h1, h2, h3.below hl h3.lt⟩
    | 11 =>
      obtain ⟨g, h1, h2, h3⟩ := h
      exact ⟨g, h1, h2, h3.below hl h3.lt⟩
    | n + 12 => trivial
/-! ### the joined configuration -/
def joinC (F : Int) (a b : Cfg) : Cfg := ⟨F, a.parts ++ b.parts, a.wins ++ b.wins, a.regs ++ b.regs, a.ports ++ b.ports, a.chans ++ b.chans⟩
theorem sumDests_app (l m : List Chn) : sumDests (l ++ m) = sumDests l + sumDests m := by unfold sumDests; rw [List.map_append, List.sum_append]
theorem joinC_total (F : Int) (a b : Cfg) : (joinC F a b).total = a.total + b.total := by
  unfold Cfg.total joinC
  simp only [List.length_append, sumDests_app]
  omega
theorem joinC_ok {F : Int} {a b : Cfg} (hF : wU64 F) (ha : a.ok) (hb : b.ok) : (joinC F a b).ok := by
  refine ⟨hF, fun p hp => ?_, fun p hp => ?_, fun p hp => ?_, fun p hp => ?_, fun p hp => ?_⟩
  · exact (List.mem_append.1 hp).elim (fun h => ha.parts p h) (fun h => hb.parts p h)
  · exact (List.mem_append.1 hp).elim (fun h => ha.wins p h) (fun h => hb.wins p h)
  · exact (List.mem_append.1 hp).elim (fun h => ha.regs p h) (fun h => hb.regs p h)
  · exact (List.mem_append.1 hp).elim (fun h => ha.ports p h) (fun h => hb.ports p h)
  · exact (List.mem_append.1 hp).elim (fun h => ha.chans p h) (fun h => hb.chans p h)
theorem joinC_small {F : Int} {a b : Cfg} (ha : a.small) (hb : b.small) (h : a.total + b.total ≤ BIG) : (joinC F a b).small := by
  refine ⟨by rw [joinC_total]; exact h, fun p hp => ?_, fun p hp => ?_⟩
  · exact (List.mem_append.1 hp).elim (fun h => ha.pnames p h) (fun h => hb.pnames p h)
  · exact (List.mem_append.1 hp).elim (fun h => ha.tnames p h) (fun h => hb.tnames p h)
theorem catAll_two (F : Int) (a b : Cfg) : catAll F [a, b] = joinC F a b := by
  simp [catAll, Cfg.cat, joinC]
def emptyC (F : Int) : Cfg := ⟨F, [], [], [], [], []⟩
theorem catAll_nil (F : Int) : catAll F [] = emptyC F := by simp [catAll, emptyC]
def cntF (c : Cfg) : Nat → Int
  | 1 => c.parts.length
  | 2 => c.wins.length
  | 3 => c.regs.length
  | 4 => c.ports.length
  | 5 => c.chans.length
  | 6 => sumDests c.chans
  | _ => 0
theorem cntA_at (c : Cfg) {k : Nat} (hk : k < 7) : (cntA c)[k]? = some (.int .i64 (cntF c k)) := by
  unfold cntA
  match k, hk with
  | 0, _ => rfl
  | 1, _ => rfl
  | 2, _ => rfl
  | 3, _ => rfl
  | 4, _ => rfl
  | 5, _ => rfl
  | 6, _ => rfl
  | n + 7, hk => exact absurd hk (Nat.not_lt.2 (Nat.le_add_left 7 n))
theorem cntF_join (F : Int) (a b : Cfg) (k : Nat) : cntF (joinC F a b) k = cntF a k + cntF b k := by
  unfold cntF
  split <;> simp [joinC, sumDests_app]
theorem cntF_le (c : Cfg) (k : Nat) : 0 ≤ cntF c k ∧ cntF c k ≤ (c.total : Int) := by
  unfold Cfg.total cntF
  split <;> (constructor <;> omega)
end Go.Proofs.YtldchpmilknlmaaGreat
