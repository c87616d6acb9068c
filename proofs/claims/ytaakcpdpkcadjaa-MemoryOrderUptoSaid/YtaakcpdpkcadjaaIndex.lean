/-
  What the methods of an index return, and fault of the law, walked once.
-/
import Derived.Test.YtaakcpdpkcadjaaChecks
namespace Go.Proofs.Ytaakcpdpkcadjaa
open Go.RowKit
attribute [local go_sem] ext_cell
theorem places_nodup {α : Type} [DecidableEq α] : ∀ (l : List α) (es : List (α × Int)) (i : Nat), (es.map (·.1)).Nodup → ((places es i l).map (·.1)).Nodup
  | [], _, _, h => h
  | x :: r, es, i, h => by
    unfold places
    by_cases hg : getv es x = none
    · rw [if_pos (by simp [hg])]; exact places_nodup r _ _ (nodup_put h hg)
    · rw [if_neg (by simpa using hg)]; exact places_nodup r _ _ h
theorem getv_places {α : Type} [DecidableEq α] (p : α → Bool) (x : α) (hp : ∀ y, p y = true ↔ y = x) : ∀ (l : List α) (es : List (α × Int)) (i : Nat), (getv (places es i l) x).getD (-1) = (getv es x).getD (idxFrom p i l)
  | [], es, i => by simp [places, idxFrom]
  | y :: r, es, i => by
    unfold places idxFrom
    rw [getv_places p x hp r _ (i + 1)]
    by_cases hy : y = x
    · have hpy := (hp y).2 hy
      rw [if_pos hpy]
      by_cases hg : getv es y = none
      · rw [if_pos (by simp [hg]), getv_append, ← hy, hg]; simp
      · rw [if_neg (by simpa using hg)]
        rw [hy] at hg
        cases h2 : getv es x with
        | none => exact absurd h2 hg
        | some v => simp
    · have hpy : ¬ p y = true := fun e => hy ((hp y).1 e)
      rw [if_neg hpy]
      split
      · rw [getv_append]; simp [hy]
      · rfl
theorem getv_idx {α β : Type} [DecidableEq β] (f : α → β) (q : α → Bool) (x : β) (hq : ∀ y, q y = true ↔ f y = x) (l : List α) : (getv (places [] 0 (l.map f)) x).getD (-1) = idx q l := by
  rw [getv_places (fun y => decide (y = x)) x (by simp)]
  simp only [getv, Option.getD_none]
  have : ∀ (l : List α) (i : Nat), idxFrom (fun y => decide (y = x)) i (l.map f) = idxFrom q i l := by
    intro l
    induction l with
    | nil => intro i; rfl
    | cons y r ih =>
      intro i
      rw [List.map_cons, idxFrom, idxFrom, ih]
      by_cases h : f y = x
      · rw [if_pos (by simpa using h), if_pos ((hq y).2 h)]
      · rw [if_neg (by simpa using h), if_neg fun e => h ((hq y).1 e)]
  exact this l 0

set_option maxRecDepth 100000 in
set_option maxHeartbeats 1000000 in
theorem iPartition_ok (c : Cfg) (g : Nat) (id : Int) (w : World) (h : IdxAt w w.heap.size g c) (hid : wU16 id) :
    Calls Try.prog 45 #[.pointer (some ⟨g, 0, none⟩), .int .u16 id] w fun e w' => e = .returned (.int .i64 (idx (fun x => x.id == id) c.parts)) ∧ Below w.heap.size w w' := by
  obtain ⟨hg, b1, b2, b3, b4, l1, l2, l3, l4, k1, k2, k3, k4, m1, m2, m3, m4⟩ := h
  have HF := Lib.hid (findU_ok b1 _ id w m1 (places_nodup _ _ _ (by simp)) hid)
  have HI := Lib.hid (getv_idx (·.id) (fun x => x.id == id) id (by simp) c.parts)
  clear m1 m2 m3 m4
  go_enter Try.func45, Try.ntmps45
  go_wp2_with (go_at_call 53; refine HF.out.mono ?_; rintro e w1 ⟨rfl, hb1⟩)
  go_ret
  exact ⟨ret_int HI.out, hb1⟩
theorem iPartition_nil (id : Int) (w : World) :
    Calls Try.prog 45 #[.pointer none, .int .u16 id] w fun e w' => e = .returned (.int .i64 (-1)) ∧ Below w.heap.size w w' := by
  go_enter Try.func45, Try.ntmps45
  go_wp2
  go_ret
  exact ⟨rfl, Below.refl _ _⟩

theorem MapIs.len {α β : Type} {w : World} {P : Program} {T K E : TypeId} {key : α → Value} {val : β → Value} {b : Nat} {es : List (α × β)} (h : MapIs w P K key val b es) (hT : P.underlying T = some (.map K E)) (ty : TypeId) : (Builtin.len_ #[T] ty #[.map (some b)]).run P w = .ok (goInt es.length) w := by
  obtain ⟨en, clock, hh, hes, _⟩ := h
  have e : en.size = es.length := by
    have := congrArg List.length hes
    simpa using this
  simp [Builtin.len_, run_underlying hT, MapKept.run_getObj_map hh, Result.andThen, e]
theorem named_key {id : Int} {s : ByteArray} (y : Prt) : (y.part == id && y.name == s) = true ↔ y.key = (id, s) := by
  unfold Prt.key
  simp only [Bool.and_eq_true, beq_iff_eq, Prod.mk.injEq]
  constructor
  · rintro ⟨h1, h2⟩; exact ⟨h1, beqb_true h2⟩
  · rintro ⟨h1, h2⟩; exact ⟨h1, by rw [h2, beq_toListBytes]; simp⟩
end Go.Proofs.Ytaakcpdpkcadjaa
