/-
  What package uniq computes, walked once: its maps of places, the checks, the index.
-/
import Derived.Test.YtldchpmilknlmaaGreatRef13b
namespace Go.Proofs.YtldchpmilknlmaaGreat
open Go.RowKit
open Go.Maps (Keyed)
@[reducible] def kU (n : Int) : Value := .int .u16 n
@[reducible] def kS (s : ByteArray) : Value := .string s
@[reducible] def kN (k : Int × ByteArray) : Value := .agg #[.int .u16 k.1, .string k.2]
@[reducible] def vI (n : Int) : Value := .int .i64 n
theorem kU_inj (x y : Int) (h : kU x = kU y) : x = y := by injection h
theorem kS_inj (x y : ByteArray) (h : kS x = kS y) : x = y := by injection h
theorem kN_inj (x y : Int × ByteArray) (h : kN x = kN y) : x = y := by
  obtain ⟨a, s⟩ := x
  obtain ⟨b, t⟩ := y
  simp [kN] at h
  rw [h.1, h.2]
theorem lawU : Keyed Tryz.prog 34 := Go.Maps.int_keyed Tryz.underlying34
theorem lawS : Keyed Tryz.prog 9 := Go.Maps.string_keyed Tryz.underlying9
theorem laidOut : laidOutB Tryz.prog = true := by kernel_rfl
theorem zeroI (w : World) : (zeroValue 3).run Tryz.prog w = .ok (.int .i64 0) w := by kernel_rfl
theorem keyU {n : Int} (h : wU16 n) : ∃ l, keyOf Tryz.prog 34 (kU n) = some l := ⟨_, Go.Maps.keyOf_int_mk Tryz.underlying34 h⟩
theorem keyS {s : ByteArray} (h : s.size ≤ maxLen) : ∃ l, keyOf Tryz.prog 9 (kS s) = some l := ⟨_, Go.WideMaps.keyOf_string_mk Tryz.underlying9 h⟩
theorem typesSize : ∃ d, Tryz.prog.types.size + 1 = d + 1 + 1 := by
  have h : 1 ≤ Tryz.prog.types.size := of_decide_eq_true (by kernel_rfl)
  exact ⟨Tryz.prog.types.size - 1, by omega⟩
/-- the entries of a map of places after the elements of a list were added, from index i on -/
def places {α : Type} [DecidableEq α] : List (α × Int) → Nat → List α → List (α × Int)
  | es, _, [] => es
  | es, i, x :: r => places (if (getv es x).isNone then es ++ [(x, (i : Int))] else es) (i + 1) r
/-- the first index at which a key was there already -/
def firstFrom {α : Type} [DecidableEq α] : List (α × Int) → Nat → Int → List α → Int
  | _, _, f, [] => f
  | es, i, f, x :: r => if (getv es x).isNone then firstFrom (es ++ [(x, (i : Int))]) (i + 1) f r else firstFrom es (i + 1) (if f < 0 then (i : Int) else f) r
theorem nodup_put {α β : Type} [DecidableEq α] {es : List (α × β)} {x : α} {v : β} (hn : (es.map (·.1)).Nodup) (h : getv es x = none) : ((es ++ [(x, v)]).map (·.1)).Nodup := by
  rw [List.map_append, List.nodup_append]
  refine ⟨hn, by simp, ?_⟩
  intro a ha b hb e
  obtain ⟨p, hp, rfl⟩ := List.mem_map.1 ha
  simp at hb
  exact getv_none.1 h p hp (by rw [e, hb])

theorem places_step {α : Type} [DecidableEq α] {R : List (α × Int)} {es : List (α × Int)} {k : Nat} {x : α} {l : List α} (h : R = places es k (l.drop k)) (hx : l[k]? = some x) : R = places (if (getv es x).isNone then es ++ [(x, (k : Int))] else es) (k + 1) (l.drop (k + 1)) := by
  rw [h, drop_cons hx, places]
theorem first_new {α : Type} [DecidableEq α] {v f : Int} {es : List (α × Int)} {k : Nat} {x : α} {l : List α} (h : v = firstFrom es k f (l.drop k)) (hx : l[k]? = some x) (hg : getv es x = none) : v = firstFrom (es ++ [(x, (k : Int))]) (k + 1) f (l.drop (k + 1)) := by
  rw [h, drop_cons hx, firstFrom, hg]; rfl
theorem first_old {α : Type} [DecidableEq α] {v f : Int} {es : List (α × Int)} {k : Nat} {x : α} {l : List α} (h : v = firstFrom es k f (l.drop k)) (hx : l[k]? = some x) (hg : getv es x ≠ none) : v = firstFrom es (k + 1) (if f < 0 then (k : Int) else f) (l.drop (k + 1)) := by
  rw [h, drop_cons hx, firstFrom, if_neg (by simpa using hg)]
theorem grown_trans {a b c : World} {row : Option Nat} (h : a.grownBy b row) (k : b.grownBy c row) : a.grownBy c row := h.trans k
theorem grown_alloc {a b : World} {row : Option Nat} (h : a.grownBy b row) (o : Obj) : a.grownBy (b.alloc o) row := h.trans (World.grownBy_alloc _ _ _)
theorem grown_cell {a b : World} {g : Nat} (h : a.grownBy b (some g)) {c o : Nat} (hc : c < a.heap.size) (hne : c ≠ g) : b.cell? ⟨c, o, none⟩ = a.cell? ⟨c, o, none⟩ :=
  World.cell?_of_block (h.block c hc (fun e => hne (by injection e)))
theorem Rd.grown {w w' : World} {B sz n g : Nat} {A : Option Addr} {xs : List Value} (h : Rd w B sz A n xs) (hg : w.grownBy w' (some g)) (hB : B ≤ w.heap.size) (hne : ∀ b o v, w.cell? ⟨b, o, none⟩ = some v → b ≠ g) : Rd w' B sz A n xs :=
  ⟨h.1, fun hn => by
    obtain ⟨b, o, e, hb, hc⟩ := h.2 hn
    exact ⟨b, o, e, hb, fun j u hu => (grown_cell hg (by omega) (hne b (o + j) u (hc j u hu))).trans (hc j u hu)⟩⟩

theorem grown_below {a b c : World} {g : Nat} (h : a.grownBy b (some g)) (k : Below b.heap.size b c) : a.grownBy c (some g) :=
  h.trans ⟨k.os, k.tape, k.output, k.size, fun i hi _ => k.block i hi⟩
end Go.Proofs.YtldchpmilknlmaaGreat
