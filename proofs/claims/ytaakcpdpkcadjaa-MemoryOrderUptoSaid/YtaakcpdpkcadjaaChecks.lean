/-
  What uniq's checks return, walked once.
-/
import Derived.Test.YtaakcpdpkcadjaaNew
namespace Go.Proofs.Ytaakcpdpkcadjaa
open Go.RowKit
theorem firstFrom_nonneg {α : Type} [DecidableEq α] : ∀ (l : List α) (es : List (α × Int)) (i : Nat) (f : Int), 0 ≤ f → firstFrom es i f l = f
  | [], _, _, _, _ => rfl
  | x :: r, es, i, f, h => by
    unfold firstFrom
    split
    · exact firstFrom_nonneg r _ _ _ h
    · rw [if_neg (by omega)]; exact firstFrom_nonneg r _ _ _ h
theorem firstFrom_rep {α : Type} [DecidableEq α] : ∀ (l seen : List α) (es : List (α × Int)) (i : Nat), (∀ x, getv es x = none ↔ x ∉ seen) → firstFrom es i (-1) l = repFrom seen i l
  | [], _, _, _, _ => rfl
  | x :: r, seen, es, i, h => by
    unfold firstFrom repFrom
    by_cases hm : x ∈ seen
    · have hg : ¬ getv es x = none := fun e => (h x).1 e hm
      rw [if_neg (by simpa using hg), if_pos hm, if_pos (by decide)]
      exact firstFrom_nonneg r _ _ _ (by omega)
    · have hg := (h x).2 hm
      rw [if_pos (by simp [hg]), if_neg hm]
      refine firstFrom_rep r _ _ _ fun y => ?_
      rw [getv_append]
      by_cases hxy : x = y
      · subst hxy; simp
      · have := h y
        simp only [hxy, if_false, Option.or_none, List.mem_append, List.mem_singleton, not_or]
        rw [this]
        constructor
        · intro h1; exact ⟨h1, fun e => hxy e.symm⟩
        · exact fun h1 => h1.1
theorem first_rep {α : Type} [DecidableEq α] (l : List α) : firstFrom ([] : List (α × Int)) 0 (-1) l = rep l := firstFrom_rep l [] [] 0 (fun x => by simp [getv])
/-- a list of two numbers, just laid -/
theorem two_new (w : World) (a b : Int) (t : TypeId) : Rd (w.alloc (.cells #[.int .i64 a, .int .i64 b] t)) (w.alloc (.cells #[.int .i64 a, .int .i64 b] t)).heap.size 1 (some ⟨w.heap.size, 0, none⟩) 2 ([a, b].map (Value.int .i64)) := by
  refine ⟨rfl, fun _ => ⟨_, _, rfl, by simp, fun j u hu => ?_⟩⟩
  have := World.news_of_block (heap_alloc_new w (.cells #[.int .i64 a, .int .i64 b] t)) j u (by simpa using hu)
  rwa [addr_add] at this
theorem one_new (w : World) (a : Int) (t : TypeId) : Rd (w.alloc (.cells #[.int .i64 a] t)) (w.alloc (.cells #[.int .i64 a] t)).heap.size 1 (some ⟨w.heap.size, 0, none⟩) 1 ([a].map (Value.int .i64)) := by
  refine ⟨rfl, fun _ => ⟨_, _, rfl, by simp, fun j u hu => ?_⟩⟩
  have := World.news_of_block (heap_alloc_new w (.cells #[.int .i64 a] t)) j u (by simpa using hu)
  rwa [addr_add] at this
theorem MapIs.drew {α β : Type} {w : World} {P : Program} {K : TypeId} {key : α → Value} {val : β → Value} {b : Nat} {es : List (α × β)} (h : MapIs w P K key val b es) : MapIs w.drew P K key val b es := h
/-- where a check of a configuration stands when its argument is boxed and its result is laid -/
structure FltSt (w W : World) (c : Cfg) (A1 A2 A3 A4 A5 : Option Addr) (c1 c2 c3 c4 c5 : Nat) : Prop where
  hz : w.heap.size + 1 < W.heap.size
  bel : Below w.heap.size w W
  x0 : W.cell? ⟨w.heap.size, 0, none⟩ = some (.int .u64 c.frame)
  x1 : W.cell? ⟨w.heap.size, 1, none⟩ = some (.slice A1 c.parts.length c1)
  x2 : W.cell? ⟨w.heap.size, 2, none⟩ = some (.slice A2 c.wins.length c2)
  x3 : W.cell? ⟨w.heap.size, 3, none⟩ = some (.slice A3 c.regs.length c3)
  x4 : W.cell? ⟨w.heap.size, 4, none⟩ = some (.slice A4 c.ports.length c4)
  x5 : W.cell? ⟨w.heap.size, 5, none⟩ = some (.slice A5 c.chans.length c5)
  r0 : W.cell? ⟨w.heap.size + 1, 0, none⟩ = some (.int .i64 0)
  r1 : W.cell? ⟨w.heap.size + 1, 1, none⟩ = some (.int .i64 0)
  r2 : W.cell? ⟨w.heap.size + 1, 2, none⟩ = some (.int .i64 0)
  f0 : W.frozen? ⟨w.heap.size + 1, 0, none⟩ = false
  f1 : W.frozen? ⟨w.heap.size + 1, 1, none⟩ = false
  f2 : W.frozen? ⟨w.heap.size + 1, 2, none⟩ = false
section
variable {w W V : World} {c : Cfg} {A1 A2 A3 A4 A5 : Option Addr} {c1 c2 c3 c4 c5 : Nat}
theorem FltSt.later (h : FltSt w W c A1 A2 A3 A4 A5 c1 c2 c3 c4 c5) (hb : Below W.heap.size W V) : FltSt w V c A1 A2 A3 A4 A5 c1 c2 c3 c4 c5 := by
  have hz := h.hz
  have hs := hb.size
  have hc : ∀ b o, b < W.heap.size → V.cell? ⟨b, o, none⟩ = W.cell? ⟨b, o, none⟩ := fun b o hlt => hb.cell (p := ⟨b, o, none⟩) hlt
  have hf : ∀ b o, b < W.heap.size → V.frozen? ⟨b, o, none⟩ = W.frozen? ⟨b, o, none⟩ := fun b o hlt => hb.frozen (p := ⟨b, o, none⟩) hlt
  exact ⟨by omega, h.bel.trans (hb.mono h.bel.size), (hc _ _ (by omega)).trans h.x0, (hc _ _ (by omega)).trans h.x1, (hc _ _ (by omega)).trans h.x2, (hc _ _ (by omega)).trans h.x3, (hc _ _ (by omega)).trans h.x4, (hc _ _ (by omega)).trans h.x5,
    (hc _ _ (by omega)).trans h.r0, (hc _ _ (by omega)).trans h.r1, (hc _ _ (by omega)).trans h.r2, (hf _ _ (by omega)).trans h.f0, (hf _ _ (by omega)).trans h.f1, (hf _ _ (by omega)).trans h.f2⟩
end
theorem flt_start (w : World) (c : Cfg) (A1 A2 A3 A4 A5 : Option Addr) (c1 c2 c3 c4 c5 : Nat) (t1 t2 : TypeId) :
    FltSt w ((w.alloc (.cells #[.int .u64 c.frame, .slice A1 c.parts.length c1, .slice A2 c.wins.length c2, .slice A3 c.regs.length c3, .slice A4 c.ports.length c4, .slice A5 c.chans.length c5] t1)).alloc (.cells #[.int .i64 0, .int .i64 0, .int .i64 0] t2)) c A1 A2 A3 A4 A5 c1 c2 c3 c4 c5 := by
  refine ⟨by simp, ((Below.refl _ _).alloc (Nat.le_refl _) _).alloc (by simp) _, ?_, ?_, ?_, ?_, ?_, ?_, ?_, ?_, ?_, ?_, ?_, ?_⟩
  all_goals simp [go_sem]
end Go.Proofs.Ytaakcpdpkcadjaa
