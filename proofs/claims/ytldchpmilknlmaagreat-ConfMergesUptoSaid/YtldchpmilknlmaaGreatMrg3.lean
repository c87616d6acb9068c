/-
  ConfMerges: what each operation of the drawn region that makes the joined configuration leaves, in whatever order it comes up.
-/
import Derived.Test.YtldchpmilknlmaaGreatInvR
import Derived.Test.YtldchpmilknlmaaGreatConc
namespace Go.Proofs.YtldchpmilknlmaaGreat
open Go.RowKit Go.Lib
set_option maxRecDepth 100000
def mk3 (x0 x1 x2 x3 x4 x5 x6 x8 x9 x10 x11 x12 x13 x14 x15 x16 x17 x18 x19 x20 x53 x54 x55 x56 x57 x58 x59 x60 x61 x62 x63 x64 x65 x66 x67 x68 x69 x70 x71 x72 x73 x74 x75 x76 x77 x78 x79 x80 x81 x82 x83 x84 x85 x86 x87 x88 x89 x90 : Value) (u : Nat → Value) : Act := { tmps := #[x0, x1, x2, x3, x4, x5, x6, u 32, x8, x9, x10, x11, x12, x13, x14, x15, x16, x17, x18, x19, x20, u 0, u 1, u 2, u 3, u 4, u 5, u 6, u 7, u 8, u 9, u 10, u 11, u 12, u 13, u 14, u 15, u 16, u 17, u 18, u 19, u 20, u 21, u 22, u 23, u 24, u 25, u 26, u 27, u 28, u 29, u 30, u 31, x53, x54, x55, x56, x57, x58, x59, x60, x61, x62, x63, x64, x65, x66, x67, x68, x69, x70, x71, x72, x73, x74, x75, x76, x77, x78, x79, x80, x81, x82, x83, x84, x85, x86, x87, x88, x89, x90], defers := [] }
theorem mk3_put {x0 x1 x2 x3 x4 x5 x6 x8 x9 x10 x11 x12 x13 x14 x15 x16 x17 x18 x19 x20 x53 x54 x55 x56 x57 x58 x59 x60 x61 x62 x63 x64 x65 x66 x67 x68 x69 x70 x71 x72 x73 x74 x75 x76 x77 x78 x79 x80 x81 x82 x83 x84 x85 x86 x87 x88 x89 x90 : Value} (u : Nat → Value) (v : Value) : (∀ i, i < 32 → (mk3 x0 x1 x2 x3 x4 x5 x6 x8 x9 x10 x11 x12 x13 x14 x15 x16 x17 x18 x19 x20 x53 x54 x55 x56 x57 x58 x59 x60 x61 x62 x63 x64 x65 x66 x67 x68 x69 x70 x71 x72 x73 x74 x75 x76 x77 x78 x79 x80 x81 x82 x83 x84 x85 x86 x87 x88 x89 x90 u).put (some (21 + i)) v = mk3 x0 x1 x2 x3 x4 x5 x6 x8 x9 x10 x11 x12 x13 x14 x15 x16 x17 x18 x19 x20 x53 x54 x55 x56 x57 x58 x59 x60 x61 x62 x63 x64 x65 x66 x67 x68 x69 x70 x71 x72 x73 x74 x75 x76 x77 x78 x79 x80 x81 x82 x83 x84 x85 x86 x87 x88 x89 x90 (upd u i v)) ∧ (mk3 x0 x1 x2 x3 x4 x5 x6 x8 x9 x10 x11 x12 x13 x14 x15 x16 x17 x18 x19 x20 x53 x54 x55 x56 x57 x58 x59 x60 x61 x62 x63 x64 x65 x66 x67 x68 x69 x70 x71 x72 x73 x74 x75 x76 x77 x78 x79 x80 x81 x82 x83 x84 x85 x86 x87 x88 x89 x90 u).put (some 7) v = mk3 x0 x1 x2 x3 x4 x5 x6 x8 x9 x10 x11 x12 x13 x14 x15 x16 x17 x18 x19 x20 x53 x54 x55 x56 x57 x58 x59 x60 x61 x62 x63 x64 x65 x66 x67 x68 x69 x70 x71 x72 x73 x74 x75 x76 x77 x78 x79 x80 x81 x82 x83 x84 x85 x86 x87 x88 x89 x90 (upd u 32 v) ∧ (mk3 x0 x1 x2 x3 x4 x5 x6 x8 x9 x10 x11 x12 x13 x14 x15 x16 x17 x18 x19 x20 x53 x54 x55 x56 x57 x58 x59 x60 x61 x62 x63 x64 x65 x66 x67 x68 x69 x70 x71 x72 x73 x74 x75 x76 x77 x78 x79 x80 x81 x82 x83 x84 x85 x86 x87 x88 x89 x90 u).put none v = mk3 x0 x1 x2 x3 x4 x5 x6 x8 x9 x10 x11 x12 x13 x14 x15 x16 x17 x18 x19 x20 x53 x54 x55 x56 x57 x58 x59 x60 x61 x62 x63 x64 x65 x66 x67 x68 x69 x70 x71 x72 x73 x74 x75 x76 x77 x78 x79 x80 x81 x82 x83 x84 x85 x86 x87 x88 x89 x90 (upd u 33 v) := by
  refine ⟨fun i hi => ?_, ?_, ?_⟩
  · match i, hi with
    | 0, _ => simp [mk3, Act.put, upd]
    | 1, _ => simp [mk3, Act.put, upd]
    | 2, _ => simp [mk3, Act.put, upd]
    | 3, _ => simp [mk3, Act.put, upd]
    | 4, _ => simp [mk3, Act.put, upd]
    | 5, _ => simp [mk3, Act.put, upd]
    | 6, _ => simp [mk3, Act.put, upd]
    | 7, _ => simp [mk3, Act.put, upd]
    | 8, _ => simp [mk3, Act.put, upd]
    | 9, _ => simp [mk3, Act.put, upd]
    | 10, _ => simp [mk3, Act.put, upd]
    | 11, _ => simp [mk3, Act.put, upd]
    | 12, _ => simp [mk3, Act.put, upd]
    | 13, _ => simp [mk3, Act.put, upd]
    | 14, _ => simp [mk3, Act.put, upd]
    | 15, _ => simp [mk3, Act.put, upd]
    | 16, _ => simp [mk3, Act.put, upd]
    | 17, _ => simp [mk3, Act.put, upd]
    | 18, _ => simp [mk3, Act.put, upd]
    | 19, _ => simp [mk3, Act.put, upd]
    | 20, _ => simp [mk3, Act.put, upd]
    | 21, _ => simp [mk3, Act.put, upd]
    | 22, _ => simp [mk3, Act.put, upd]
    | 23, _ => simp [mk3, Act.put, upd]
    | 24, _ => simp [mk3, Act.put, upd]
    | 25, _ => simp [mk3, Act.put, upd]
    | 26, _ => simp [mk3, Act.put, upd]
    | 27, _ => simp [mk3, Act.put, upd]
    | 28, _ => simp [mk3, Act.put, upd]
    | 29, _ => simp [mk3, Act.put, upd]
    | 30, _ => simp [mk3, Act.put, upd]
    | 31, _ => simp [mk3, Act.put, upd]
    | n + 32, hi => exact absurd hi (Nat.not_lt.2 (Nat.le_add_left 32 n))
  · simp [mk3, Act.put, upd]
  · simp [mk3, Act.put, upd]
def S3 (H : Nat) (F : Int) (ga gb : Nat) (A1 A2 A3 A4 A5 : Option Addr) (a1 a2 a3 a4 a5 : Nat) (B1 B2 B3 B4 B5 : Option Addr) (b1 b2 b3 b4 b5 : Nat) (a b : Cfg) (ca cb : List Value) : Nat → (Nat → Value) → World → Prop
  | 0, u, _ => u 0 = .int .u64 F
  | 1, u, _ => u 1 = .pointer (some ⟨ga, 1, none⟩)
  | 2, u, _ => u 2 = .slice A1 a.parts.length a1
  | 3, u, _ => u 3 = .pointer (some ⟨gb, 1, none⟩)
  | 4, u, _ => u 4 = .slice B1 b.parts.length b1
  | 5, u, w => ∃ g, u 5 = .slice (some ⟨g, 0, none⟩) 2 2 ∧ Blk w g 23 #[.slice A1 a.parts.length a1, .slice B1 b.parts.length b1]
  | 6, u, w => w.ownsRow H 36 4 (u 6) (a.parts.length + b.parts.length) ((a.parts.flatMap Par.cells) ++ (b.parts.flatMap Par.cells))
  | 7, u, _ => u 7 = .pointer (some ⟨ga, 2, none⟩)
  | 8, u, _ => u 8 = .slice A2 a.wins.length a2
  | 9, u, _ => u 9 = .pointer (some ⟨gb, 2, none⟩)
  | 10, u, _ => u 10 = .slice B2 b.wins.length b2
  | 11, u, w => ∃ g, u 11 = .slice (some ⟨g, 0, none⟩) 2 2 ∧ Blk w g 24 #[.slice A2 a.wins.length a2, .slice B2 b.wins.length b2]
  | 12, u, w => w.ownsRow H 38 3 (u 12) (a.wins.length + b.wins.length) ((a.wins.flatMap Win.cells) ++ (b.wins.flatMap Win.cells))
  | 13, u, _ => u 13 = .pointer (some ⟨ga, 3, none⟩)
  | 14, u, _ => u 14 = .slice A3 a.regs.length a3
  | 15, u, _ => u 15 = .pointer (some ⟨gb, 3, none⟩)
  | 16, u, _ => u 16 = .slice B3 b.regs.length b3
  | 17, u, w => ∃ g, u 17 = .slice (some ⟨g, 0, none⟩) 2 2 ∧ Blk w g 25 #[.slice A3 a.regs.length a3, .slice B3 b.regs.length b3]
  | 18, u, w => w.ownsRow H 40 5 (u 18) (a.regs.length + b.regs.length) ((a.regs.flatMap Reg.cells) ++ (b.regs.flatMap Reg.cells))
  | 19, u, _ => u 19 = .pointer (some ⟨ga, 4, none⟩)
  | 20, u, _ => u 20 = .slice A4 a.ports.length a4
  | 21, u, _ => u 21 = .pointer (some ⟨gb, 4, none⟩)
  | 22, u, _ => u 22 = .slice B4 b.ports.length b4
  | 23, u, w => ∃ g, u 23 = .slice (some ⟨g, 0, none⟩) 2 2 ∧ Blk w g 26 #[.slice A4 a.ports.length a4, .slice B4 b.ports.length b4]
  | 24, u, w => w.ownsRow H 43 6 (u 24) (a.ports.length + b.ports.length) ((a.ports.flatMap Prt.cells) ++ (b.ports.flatMap Prt.cells))
  | 25, u, _ => u 25 = .pointer (some ⟨ga, 5, none⟩)
  | 26, u, _ => u 26 = .slice A5 a.chans.length a5
  | 27, u, _ => u 27 = .pointer (some ⟨gb, 5, none⟩)
  | 28, u, _ => u 28 = .slice B5 b.chans.length b5
  | 29, u, w => ∃ g, u 29 = .slice (some ⟨g, 0, none⟩) 2 2 ∧ Blk w g 27 #[.slice A5 a.chans.length a5, .slice B5 b.chans.length b5]
  | 30, u, w => w.ownsRow H 46 3 (u 30) (a.chans.length + b.chans.length) (ca ++ cb)
  | 31, u, _ => u 31 = .agg #[u 0, u 6, u 12, u 18, u 24, u 30] ∧ u 0 = .int .u64 F ∧ (∃ A n c, u 6 = .slice A n c) ∧ (∃ A n c, u 12 = .slice A n c) ∧ (∃ A n c, u 18 = .slice A n c) ∧ (∃ A n c, u 24 = .slice A n c) ∧ (∃ A n c, u 30 = .slice A n c)
  | 32, u, w => ∃ g cs, u 32 = .pointer (some ⟨g, 0, none⟩) ∧ H ≤ g ∧ Blk w g 29 cs ∧ cs.size = 6
  | 33, u, w => ∃ g vs, u 32 = .pointer (some ⟨g, 0, none⟩) ∧ H ≤ g ∧ u 31 = .agg vs ∧ Blk w g 29 vs
  | _, _, _ => True
/-- how worlds go on: nothing that was turns, but for the last store, which writes a configuration's block -/
structure StoreC (w w' : World) : Prop where
  off : Off 29 w w'
  six : ∀ g cs, Blk w g 29 cs → cs.size = 6 → ∃ cs', Blk w' g 29 cs' ∧ cs'.size = 6
def Le3 (j : Nat) (_ : Nat → Value) (w w' : World) : Prop := if j = 33 then StoreC w w' else Below w.heap.size w w'
theorem Le3.bel {j : Nat} {u : Nat → Value} {w w' : World} (hj : j ≠ 33) (h : Below w.heap.size w w') : Le3 j u w w' := by unfold Le3; rw [if_neg hj]; exact h
theorem StoreC.refl (w : World) : StoreC w w := ⟨⟨rfl, rfl, rfl, Nat.le_refl _, fun _ _ _ => rfl⟩, fun _ cs h1 h2 => ⟨cs, h1, h2⟩⟩
theorem StoreC.trans {a b c : World} (h : StoreC a b) (k : StoreC b c) : StoreC a c :=
  ⟨⟨k.off.os.trans h.off.os, k.off.tape.trans h.off.tape, k.off.output.trans h.off.output, Nat.le_trans h.off.size k.off.size, fun t ht hno => (k.off.block t (Nat.lt_of_lt_of_le ht h.off.size) fun cs fr e => hno cs fr (by rw [← h.off.block t ht hno]; exact e)).trans (h.off.block t ht hno)⟩, fun g cs h1 h2 => by
    obtain ⟨cs2, h3, h4⟩ := h.six g cs h1 h2
    exact k.six g cs2 h3 h4⟩
theorem StoreC.set_ {w : World} {g i : Nat} {cs : Array Value} (h : Blk w g 29 cs) (v : Value) : StoreC w (w.setCell ⟨g, i, none⟩ v) := by
  refine ⟨⟨rfl, rfl, rfl, by simp, fun t _ hno => Below.heap_setCell w _ v t fun e => hno cs (0, 0) (by have e2 : t = g := e; rw [e2]; exact h)⟩, fun g' cs' h1 h2 => ?_⟩
  by_cases hg : g' = g
  · subst hg
    exact ⟨_, h1.set_ i v, by simpa using h2⟩
  · exact ⟨cs', h1.far (p := ⟨g, i, none⟩) hg v, h2⟩
theorem chnsOne {w : World} {B : Nat} : ∀ {l : List Chn} {cs : List Value}, ChnsC w B l cs → ∀ u ∈ cs, u.oneCell' = true
  | [], _, h, u, hu => by subst h; simp at hu
  | _ :: _, _, ⟨c0, c1, e, ⟨A, c, h0, _⟩, h2⟩, u, hu => by
    subst e h0
    rcases List.mem_append.1 hu with h | h
    · simp at h
      rcases h with rfl | rfl | rfl <;> rfl
    · exact chnsOne h2 u h
theorem arr6 {cs : Array Value} (h : cs.size = 6) : ∃ c0 c1 c2 c3 c4 c5, cs = #[c0, c1, c2, c3, c4, c5] := by
  obtain ⟨l⟩ := cs
  match l, h with
  | [c0, c1, c2, c3, c4, c5], _ => exact ⟨c0, c1, c2, c3, c4, c5, rfl⟩
theorem S3.stay (H : Nat) (F : Int) (ga gb : Nat) (A1 A2 A3 A4 A5 : Option Addr) (a1 a2 a3 a4 a5 : Nat) (B1 B2 B3 B4 B5 : Option Addr) (b1 b2 b3 b4 b5 : Nat) (a b : Cfg) (ca cb : List Value) (i j : Nat) (u : Nat → Value) (w w' : World) (hij : i ≠ j) (h : S3 H F ga gb A1 A2 A3 A4 A5 a1 a2 a3 a4 a5 B1 B2 B3 B4 B5 b1 b2 b3 b4 b5 a b ca cb i u w) (hl : Le3 j u w w') : S3 H F ga gb A1 A2 A3 A4 A5 a1 a2 a3 a4 a5 B1 B2 B3 B4 B5 b1 b2 b3 b4 b5 a b ca cb i u w' := by
  unfold Le3 at hl
  by_cases hj : j = 33
  · rw [if_pos hj] at hl
    match i with
    | 0 => exact h
    | 1 => exact h
    | 2 => exact h
    | 3 => exact h
    | 4 => exact h
    | 5 =>
      obtain ⟨g, h1, h2⟩ := h
      exact ⟨g, h1, h2.off hl.off (by decide)⟩
    | 6 => exact own_off h hl.off (by decide)
    | 7 => exact h
    | 8 => exact h
    | 9 => exact h
    | 10 => exact h
    | 11 =>
      obtain ⟨g, h1, h2⟩ := h
      exact ⟨g, h1, h2.off hl.off (by decide)⟩
    | 12 => exact own_off h hl.off (by decide)
    | 13 => exact h
    | 14 => exact h
    | 15 => exact h
    | 16 => exact h
    | 17 =>
      obtain ⟨g, h1, h2⟩ := h
      exact ⟨g, h1, h2.off hl.off (by decide)⟩
    | 18 => exact own_off h hl.off (by decide)
    | 19 => exact h
    | 20 => exact h
    | 21 => exact h
    | 22 => exact h
    | 23 =>
      obtain ⟨g, h1, h2⟩ := h
      exact ⟨g, h1, h2.off hl.off (by decide)⟩
    | 24 => exact own_off h hl.off (by decide)
    | 25 => exact h
    | 26 => exact h
    | 27 => exact h
    | 28 => exact h
    | 29 =>
      obtain ⟨g, h1, h2⟩ := h
      exact ⟨g, h1, h2.off hl.off (by decide)⟩
    | 30 => exact own_off h hl.off (by decide)
    | 31 => exact h
    | 32 =>
      obtain ⟨g, cs, h1, h2, h3, h4⟩ := h
      obtain ⟨cs2, h5, h6⟩ := hl.six g cs h3 h4
      exact ⟨g, cs2, h1, h2, h5, h6⟩
    | 33 => exact absurd hj.symm hij
    | n + 34 => trivial
  · rw [if_neg hj] at hl
    match i with
    | 0 => exact h
    | 1 => exact h
    | 2 => exact h
    | 3 => exact h
    | 4 => exact h
    | 5 =>
      obtain ⟨g, h1, h2⟩ := h
      exact ⟨g, h1, h2.below hl h2.lt⟩
    | 6 => exact own_below h hl
    | 7 => exact h
    | 8 => exact h
    | 9 => exact h
    | 10 => exact h
    | 11 =>
      obtain ⟨g, h1, h2⟩ := h
      exact ⟨g, h1, h2.below hl h2.lt⟩
    | 12 => exact own_below h hl
    | 13 => exact h
    | 14 => exact h
    | 15 => exact h
    | 16 => exact h
    | 17 =>
      obtain ⟨g, h1, h2⟩ := h
      exact ⟨g, h1, h2.below hl h2.lt⟩
    | 18 => exact own_below h hl
    | 19 => exact h
    | 20 => exact h
    | 21 => exact h
    | 22 => exact h
    | 23 =>
      obtain ⟨g, h1, h2⟩ := h
      exact ⟨g, h1, h2.below hl h2.lt⟩
    | 24 => exact own_below h hl
    | 25 => exact h
    | 26 => exact h
    | 27 => exact h
    | 28 => exact h
    | 29 =>
      obtain ⟨g, h1, h2⟩ := h
      exact ⟨g, h1, h2.below hl h2.lt⟩
    | 30 => exact own_below h hl
    | 31 => exact h
    | 32 =>
      obtain ⟨g, cs, h1, h2, h3, h4⟩ := h
      exact ⟨g, cs, h1, h2, h3.below hl h3.lt, h4⟩
    | 33 =>
      obtain ⟨g, cs, h1, h2, h3, h4⟩ := h
      exact ⟨g, cs, h1, h2, h3, h4.below hl h4.lt⟩
    | n + 34 => trivial
end Go.Proofs.YtldchpmilknlmaaGreat
