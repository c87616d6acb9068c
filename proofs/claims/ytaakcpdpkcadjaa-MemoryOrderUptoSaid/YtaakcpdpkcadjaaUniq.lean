/-
  What package uniq computes, walked once: its maps of places, the checks, the index.
-/
import Derived.Test.YtaakcpdpkcadjaaRef13b
namespace Go.Proofs.Ytaakcpdpkcadjaa
open Go.RowKit
open Go.Maps (Keyed)
@[reducible] def kU (n : Int) : Value := .int .u16 n
@[reducible] def kS (s : ByteArray) : Value := .string s
@[reducible] def kN (k : Int × ByteArray) : Value := .agg #[.int .u16 k.1, .string k.2]
@[reducible] def vI (n : Int) : Value := .int .i64 n
theorem kU_inj (x y : Int) (h : kU x = kU y) : x = y := by injection h
theorem kS_inj (x y : ByteArray) (h : kS x = kS y) : x = y := by injection h
theorem kN_inj (x y : Int × ByteArray) (h : kN x = kN y) : x = y := by
  obtain ⟨a, s⟩ := x
  obtain ⟨b, t⟩ := y
  simp [kN] at h
  rw [h.1, h.2]
theorem lawU : Keyed Try.prog 41 := Go.Maps.int_keyed Try.underlying41
theorem lawS : Keyed Try.prog 9 := Go.Maps.string_keyed Try.underlying9
theorem laidOut : laidOutB Try.prog = true := by kernel_rfl
theorem lawN : Keyed Try.prog 99 := Keyed.of_law (deep_law_laid laidOut (m := 5) (by decide) (of_decide_eq_true (by kernel_rfl)) (by kernel_rfl) (by kernel_rfl))
theorem zeroI (w : World) : (zeroValue 3).run Try.prog w = .ok (.int .i64 0) w := by kernel_rfl
theorem keyU {n : Int} (h : wU16 n) : ∃ l, keyOf Try.prog 41 (kU n) = some l := ⟨_, Go.Maps.keyOf_int_mk Try.underlying41 h⟩
theorem keyS {s : ByteArray} (h : s.size ≤ maxLen) : ∃ l, keyOf Try.prog 9 (kS s) = some l := ⟨_, Go.WideMaps.keyOf_string_mk Try.underlying9 h⟩
theorem keyTypeN : Try.prog.keyType 99 = true := by kernel_rfl
theorem typesSize : ∃ d, Try.prog.types.size + 1 = d + 1 + 1 := by
  have h : 1 ≤ Try.prog.types.size := of_decide_eq_true (by kernel_rfl)
  exact ⟨Try.prog.types.size - 1, by omega⟩
theorem keyN {k : Int × ByteArray} (h : wU16 k.1) (h' : k.2.size ≤ maxLen) : ∃ l, keyOf Try.prog 99 (kN k) = some l := by
  unfold keyOf
  rw [Try.underlying99]
  simp only [keyTypeN, Bool.true_and]
  obtain ⟨d, hd⟩ := typesSize
  rw [hd]
  have e1 : Try.prog.cellsOf 41 = 1 := by kernel_rfl
  have e2 : Try.prog.cellsOf 9 = 1 := by kernel_rfl
  have e3 : Try.prog.cellsOf 99 = 2 := by kernel_rfl
  have h1 : (Lit.int .u16 k.1).wf = true := h
  simp [Program.keyLits, Try.underlying99, Try.underlying41, Try.underlying9, Value.formed, Value.cells, e1, e2, e3, h1, h']

/-- the entries of a map of places after the elements of a list were added, from index i on -/
def places {α : Type} [DecidableEq α] : List (α × Int) → Nat → List α → List (α × Int)
  | es, _, [] => es
  | es, i, x :: r => places (if (getv es x).isNone then es ++ [(x, (i : Int))] else es) (i + 1) r
/-- the first index at which a key was there already -/
def firstFrom {α : Type} [DecidableEq α] : List (α × Int) → Nat → Int → List α → Int
  | _, _, f, [] => f
  | es, i, f, x :: r => if (getv es x).isNone then firstFrom (es ++ [(x, (i : Int))]) (i + 1) f r else firstFrom es (i + 1) (if f < 0 then (i : Int) else f) r
theorem nodup_put {α β : Type} [DecidableEq α] {es : List (α × β)} {x : α} {v : β} (hn : (es.map (·.1)).Nodup) (h : getv es x = none) : ((es ++ [(x, v)]).map (·.1)).Nodup := by
  rw [List.map_append, List.nodup_append]
  refine ⟨hn, by simp, ?_⟩
  intro a ha b hb e
  obtain ⟨p, hp, rfl⟩ := List.mem_map.1 ha
  simp at hb
  exact getv_none.1 h p hp (by rw [e, hb])

theorem addU_new (b : Nat) (es : List (Int × Int)) (x : Int) (i : Int) (w : World) (hm : MapIs w Try.prog 41 kU vI b es) (hn : (es.map (·.1)).Nodup) (hx : wU16 x) (hg : getv es x = none) :
    Calls Try.prog 37 #[.map (some b), .int .u16 x, .int .i64 i] w fun e w' => e = .returned (.bool true) ∧ MapIs w' Try.prog 41 kU vI b (es ++ [(x, i)]) ∧ w.grownBy w' (some b) := by
  obtain ⟨l, hl⟩ := keyU hx
  have hm' := hm
  rcases hm'.look lawU Try.underlying85 (zeroI _) kU_inj hn hl with ⟨_, hr⟩ | ⟨v, h1, _⟩
  · have hr1 := hr true
    obtain ⟨w1, hp, hm1, hg1, _⟩ := hm'.put lawU Try.underlying85 hl kU_inj hg i
    simp only [if_true, kU, vI] at hr1 hp
    clear hr hm hn hg hm' hl
    go_enter Try.func37, Try.ntmps37
    go_wp2
    go_ret
    exact ⟨rfl, hm1, (World.grownBy.refl _ _).trans hg1⟩
  · rw [hg] at h1; cases h1
theorem addU_old (b : Nat) (es : List (Int × Int)) (x : Int) (i : Int) (w : World) (hm : MapIs w Try.prog 41 kU vI b es) (hn : (es.map (·.1)).Nodup) (hx : wU16 x) (hg : getv es x ≠ none) :
    Calls Try.prog 37 #[.map (some b), .int .u16 x, .int .i64 i] w fun e w' => e = .returned (.bool false) ∧ MapIs w' Try.prog 41 kU vI b es ∧ w.grownBy w' (some b) := by
  obtain ⟨l, hl⟩ := keyU hx
  have hm' := hm
  rcases hm'.look lawU Try.underlying85 (zeroI _) kU_inj hn hl with ⟨h1, _⟩ | ⟨v, _, hr⟩
  · exact absurd h1 hg
  · have hr1 := hr true
    have HM := Lib.hid hm'
    simp only [if_true, kU] at hr1
    clear hr hm hn hg hm' hl
    go_enter Try.func37, Try.ntmps37
    go_wp2
    go_ret
    exact ⟨rfl, HM.out, World.grownBy.refl _ _⟩

theorem findU_ok (b : Nat) (es : List (Int × Int)) (x : Int) (w : World) (hm : MapIs w Try.prog 41 kU vI b es) (hn : (es.map (·.1)).Nodup) (hx : wU16 x) :
    Calls Try.prog 53 #[.map (some b), .int .u16 x] w fun e w' => e = .returned (.int .i64 ((getv es x).getD (-1))) ∧ Below w.heap.size w w' := by
  obtain ⟨l, hl⟩ := keyU hx
  have hm' := hm
  rcases hm'.look lawU Try.underlying85 (zeroI _) kU_inj hn hl with ⟨h1, hr⟩ | ⟨v, h1, hr⟩
  · have hr1 := hr true
    simp only [if_true, kU] at hr1
    rw [h1]
    clear hr hm hn hm' hl h1
    go_enter Try.func53, Try.ntmps53
    go_wp2
    go_ret
    exact ⟨rfl, Below.refl _ _⟩
  · have hr1 := hr true
    simp only [if_true, kU, vI] at hr1
    rw [h1]
    clear hr hm hn hm' hl h1
    go_enter Try.func53, Try.ntmps53
    go_wp2
    go_ret
    exact ⟨rfl, Below.refl _ _⟩

theorem addN_new (b : Nat) (es : List ((Int × ByteArray) × Int)) (x : (Int × ByteArray)) (i : Int) (w : World) (hm : MapIs w Try.prog 99 kN vI b es) (hn : (es.map (·.1)).Nodup) (hx : wU16 x.1 ∧ x.2.size ≤ maxLen) (hg : getv es x = none) :
    Calls Try.prog 44 #[.map (some b), .agg #[.int .u16 x.1, .string x.2], .int .i64 i] w fun e w' => e = .returned (.bool true) ∧ MapIs w' Try.prog 99 kN vI b (es ++ [(x, i)]) ∧ w.grownBy w' (some b) := by
  obtain ⟨l, hl⟩ := keyN hx.1 hx.2
  have hm' := hm.alloc (.cells #[.int .u16 x.1, .string x.2] 99)
  rcases hm'.look lawN Try.underlying87 (zeroI _) kN_inj hn hl with ⟨_, hr⟩ | ⟨v, h1, _⟩
  · have hr1 := hr true
    obtain ⟨w1, hp, hm1, hg1, _⟩ := hm'.put lawN Try.underlying87 hl kN_inj hg i
    simp only [if_true, kN, vI] at hr1 hp
    clear hr hm hn hg hm' hl
    go_enter Try.func44, Try.ntmps44
    go_wp2
    go_ret
    exact ⟨rfl, hm1, (World.grownBy_alloc _ _ _).trans hg1⟩
  · rw [hg] at h1; cases h1
theorem addN_old (b : Nat) (es : List ((Int × ByteArray) × Int)) (x : (Int × ByteArray)) (i : Int) (w : World) (hm : MapIs w Try.prog 99 kN vI b es) (hn : (es.map (·.1)).Nodup) (hx : wU16 x.1 ∧ x.2.size ≤ maxLen) (hg : getv es x ≠ none) :
    Calls Try.prog 44 #[.map (some b), .agg #[.int .u16 x.1, .string x.2], .int .i64 i] w fun e w' => e = .returned (.bool false) ∧ MapIs w' Try.prog 99 kN vI b es ∧ w.grownBy w' (some b) := by
  obtain ⟨l, hl⟩ := keyN hx.1 hx.2
  have hm' := hm.alloc (.cells #[.int .u16 x.1, .string x.2] 99)
  rcases hm'.look lawN Try.underlying87 (zeroI _) kN_inj hn hl with ⟨h1, _⟩ | ⟨v, _, hr⟩
  · exact absurd h1 hg
  · have hr1 := hr true
    have HM := Lib.hid hm'
    simp only [if_true, kN] at hr1
    clear hr hm hn hg hm' hl
    go_enter Try.func44, Try.ntmps44
    go_wp2
    go_ret
    exact ⟨rfl, HM.out, World.grownBy_alloc _ _ _⟩

theorem places_step {α : Type} [DecidableEq α] {R : List (α × Int)} {es : List (α × Int)} {k : Nat} {x : α} {l : List α} (h : R = places es k (l.drop k)) (hx : l[k]? = some x) : R = places (if (getv es x).isNone then es ++ [(x, (k : Int))] else es) (k + 1) (l.drop (k + 1)) := by
  rw [h, drop_cons hx, places]
theorem first_new {α : Type} [DecidableEq α] {v f : Int} {es : List (α × Int)} {k : Nat} {x : α} {l : List α} (h : v = firstFrom es k f (l.drop k)) (hx : l[k]? = some x) (hg : getv es x = none) : v = firstFrom (es ++ [(x, (k : Int))]) (k + 1) f (l.drop (k + 1)) := by
  rw [h, drop_cons hx, firstFrom, hg]; rfl
theorem first_old {α : Type} [DecidableEq α] {v f : Int} {es : List (α × Int)} {k : Nat} {x : α} {l : List α} (h : v = firstFrom es k f (l.drop k)) (hx : l[k]? = some x) (hg : getv es x ≠ none) : v = firstFrom es (k + 1) (if f < 0 then (k : Int) else f) (l.drop (k + 1)) := by
  rw [h, drop_cons hx, firstFrom, if_neg (by simpa using hg)]
theorem grown_trans {a b c : World} {row : Option Nat} (h : a.grownBy b row) (k : b.grownBy c row) : a.grownBy c row := h.trans k
theorem grown_alloc {a b : World} {row : Option Nat} (h : a.grownBy b row) (o : Obj) : a.grownBy (b.alloc o) row := h.trans (World.grownBy_alloc _ _ _)
theorem grown_cell {a b : World} {g : Nat} (h : a.grownBy b (some g)) {c o : Nat} (hc : c < a.heap.size) (hne : c ≠ g) : b.cell? ⟨c, o, none⟩ = a.cell? ⟨c, o, none⟩ :=
  World.cell?_of_block (h.block c hc (fun e => hne (by injection e)))
theorem Rd.grown {w w' : World} {B sz n g : Nat} {A : Option Addr} {xs : List Value} (h : Rd w B sz A n xs) (hg : w.grownBy w' (some g)) (hB : B ≤ w.heap.size) (hne : ∀ b o v, w.cell? ⟨b, o, none⟩ = some v → b ≠ g) : Rd w' B sz A n xs :=
  ⟨h.1, fun hn => by
    obtain ⟨b, o, e, hb, hc⟩ := h.2 hn
    exact ⟨b, o, e, hb, fun j u hu => (grown_cell hg (by omega) (hne b (o + j) u (hc j u hu))).trans (hc j u hu)⟩⟩

theorem grown_below {a b c : World} {g : Nat} (h : a.grownBy b (some g)) (k : Below b.heap.size b c) : a.grownBy c (some g) :=
  h.trans ⟨k.os, k.tape, k.output, k.size, fun i hi _ => k.block i hi⟩
theorem portName_ok (x : Prt) (w : World) : Calls Try.prog 43 #[.agg #[.int .u16 x.id, .int .u16 x.part, .string x.name, .bool x.output, .bool x.queuing, .int .u32 x.size]] w fun e w' =>
    e = .returned (.agg #[.int .u16 x.part, .string x.name]) ∧ Below w.heap.size w w' := by
  go_enter Try.func43, Try.ntmps43
  go_wp2
  refine bodyPost_ret (v := .agg #[.int .u16 x.part, .string x.name]) (by simp [results, Try.results43, go_sem]) rfl ⟨rfl, ?_⟩
  exact ((Below.refl _ _).alloc (Nat.le_refl _) _).alloc (by simp) _
end Go.Proofs.Ytaakcpdpkcadjaa
