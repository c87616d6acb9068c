/-
  What the methods of an index return, and fault of the law, walked once.
-/
import Derived.Test.YtgkodbejnbfakaaChecks
namespace Go.Proofs.Ytgkodbejnbfakaa
open Go.RowKit
attribute [local go_sem] ext_cell
theorem places_nodup {α : Type} [DecidableEq α] : ∀ (l : List α) (es : List (α × Int)) (i : Nat), (es.map (·.1)).Nodup → ((places es i l).map (·.1)).Nodup
  | [], _, _, h => h
  | x :: r, es, i, h => by
    unfold places
    by_cases hg : getv es x = none
    · rw [if_pos (by simp [hg])]; exact places_nodup r _ _ (nodup_put h hg)
    · rw [if_neg (by simpa using hg)]; exact places_nodup r _ _ h
theorem getv_places {α : Type} [DecidableEq α] (p : α → Bool) (x : α) (hp : ∀ y, p y = true ↔ y = x) : ∀ (l : List α) (es : List (α × Int)) (i : Nat), (getv (places es i l) x).getD (-1) = (getv es x).getD (idxFrom p i l)
  | [], es, i => by simp [places, idxFrom]
  | y :: r, es, i => by
    unfold places idxFrom
    rw [getv_places p x hp r _ (i + 1)]
    by_cases hy : y = x
    · have hpy := (hp y).2 hy
      rw [if_pos hpy]
      by_cases hg : getv es y = none
      · rw [if_pos (by simp [hg]), getv_append, ← hy, hg]; simp
      · rw [if_neg (by simpa using hg)]
        rw [hy] at hg
        cases h2 : getv es x with
        | none => exact absurd h2 hg
        | some v => simp
    · have hpy : ¬ p y = true := fun e => hy ((hp y).1 e)
      rw [if_neg hpy]
      split
      · rw [getv_append]; simp [hy]
      · rfl
theorem getv_idx {α β : Type} [DecidableEq β] (f : α → β) (q : α → Bool) (x : β) (hq : ∀ y, q y = true ↔ f y = x) (l : List α) : (getv (places [] 0 (l.map f)) x).getD (-1) = idx q l := by
  rw [getv_places (fun y => decide (y = x)) x (by simp)]
  simp only [getv, Option.getD_none]
  have : ∀ (l : List α) (i : Nat), idxFrom (fun y => decide (y = x)) i (l.map f) = idxFrom q i l := by
    intro l
    induction l with
    | nil => intro i; rfl
    | cons y r ih =>
      intro i
      rw [List.map_cons, idxFrom, idxFrom, ih]
      by_cases h : f y = x
      · rw [if_pos (by simpa using h), if_pos ((hq y).2 h)]
      · rw [if_neg (by simpa using h), if_neg fun e => h ((hq y).1 e)]
  exact this l 0

set_option maxRecDepth 100000 in
set_option maxHeartbeats 1000000 in
theorem iPartition_ok (c : Cfg) (g : Nat) (id : Int) (w : World) (h : IdxAt w w.heap.size g c) (hid : wU16 id) :
    Calls Try.prog 13 #[.pointer (some ⟨g, 0, none⟩), .int .u16 id] w fun e w' => e = .returned (.int .i64 (idx (fun x => x.id == id) c.parts)) ∧ Below w.heap.size w w' := by
  obtain ⟨hg, b1, b2, b3, b4, l1, l2, l3, l4, k1, k2, k3, k4, m1, m2, m3, m4⟩ := h
  have HF := Lib.hid (findU_ok b1 _ id w m1 (places_nodup _ _ _ (by simp)) hid)
  have HI := Lib.hid (getv_idx (·.id) (fun x => x.id == id) id (by simp) c.parts)
  clear m1 m2 m3 m4
  go_enter Try.func13, Try.ntmps13
  go_wp2_with (go_at_call 47; refine HF.out.mono ?_; rintro e w1 ⟨rfl, hb1⟩)
  go_ret
  exact ⟨ret_int HI.out, hb1⟩
theorem iPartition_nil (id : Int) (w : World) :
    Calls Try.prog 13 #[.pointer none, .int .u16 id] w fun e w' => e = .returned (.int .i64 (-1)) ∧ Below w.heap.size w w' := by
  go_enter Try.func13, Try.ntmps13
  go_wp2
  go_ret
  exact ⟨rfl, Below.refl _ _⟩

set_option maxRecDepth 100000 in
set_option maxHeartbeats 1000000 in
theorem iPort_ok (c : Cfg) (g : Nat) (id : Int) (w : World) (h : IdxAt w w.heap.size g c) (hid : wU16 id) :
    Calls Try.prog 15 #[.pointer (some ⟨g, 0, none⟩), .int .u16 id] w fun e w' => e = .returned (.int .i64 (idx (fun x => x.id == id) c.ports)) ∧ Below w.heap.size w w' := by
  obtain ⟨hg, b1, b2, b3, b4, l1, l2, l3, l4, k1, k2, k3, k4, m1, m2, m3, m4⟩ := h
  have HF := Lib.hid (findU_ok b2 _ id w m2 (places_nodup _ _ _ (by simp)) hid)
  have HI := Lib.hid (getv_idx (·.id) (fun x => x.id == id) id (by simp) c.ports)
  clear m1 m2 m3 m4
  go_enter Try.func15, Try.ntmps15
  go_wp2_with (go_at_call 47; refine HF.out.mono ?_; rintro e w1 ⟨rfl, hb1⟩)
  go_ret
  exact ⟨ret_int HI.out, hb1⟩
theorem iPort_nil (id : Int) (w : World) :
    Calls Try.prog 15 #[.pointer none, .int .u16 id] w fun e w' => e = .returned (.int .i64 (-1)) ∧ Below w.heap.size w w' := by
  go_enter Try.func15, Try.ntmps15
  go_wp2
  go_ret
  exact ⟨rfl, Below.refl _ _⟩

set_option maxRecDepth 100000 in
set_option maxHeartbeats 1000000 in
theorem iChannel_ok (c : Cfg) (g : Nat) (id : Int) (w : World) (h : IdxAt w w.heap.size g c) (hid : wU16 id) :
    Calls Try.prog 17 #[.pointer (some ⟨g, 0, none⟩), .int .u16 id] w fun e w' => e = .returned (.int .i64 (idx (fun x => x.id == id) c.chans)) ∧ Below w.heap.size w w' := by
  obtain ⟨hg, b1, b2, b3, b4, l1, l2, l3, l4, k1, k2, k3, k4, m1, m2, m3, m4⟩ := h
  have HF := Lib.hid (findU_ok b3 _ id w m3 (places_nodup _ _ _ (by simp)) hid)
  have HI := Lib.hid (getv_idx (·.id) (fun x => x.id == id) id (by simp) c.chans)
  clear m1 m2 m3 m4
  go_enter Try.func17, Try.ntmps17
  go_wp2_with (go_at_call 47; refine HF.out.mono ?_; rintro e w1 ⟨rfl, hb1⟩)
  go_ret
  exact ⟨ret_int HI.out, hb1⟩
theorem iChannel_nil (id : Int) (w : World) :
    Calls Try.prog 17 #[.pointer none, .int .u16 id] w fun e w' => e = .returned (.int .i64 (-1)) ∧ Below w.heap.size w w' := by
  go_enter Try.func17, Try.ntmps17
  go_wp2
  go_ret
  exact ⟨rfl, Below.refl _ _⟩

theorem MapIs.len {α β : Type} {w : World} {P : Program} {T K E : TypeId} {key : α → Value} {val : β → Value} {b : Nat} {es : List (α × β)} (h : MapIs w P K key val b es) (hT : P.underlying T = some (.map K E)) (ty : TypeId) : (Builtin.len_ #[T] ty #[.map (some b)]).run P w = .ok (goInt es.length) w := by
  obtain ⟨en, clock, hh, hes, _⟩ := h
  have e : en.size = es.length := by
    have := congrArg List.length hes
    simpa using this
  simp [Builtin.len_, run_underlying hT, MapKept.run_getObj_map hh, Result.andThen, e]
theorem named_key {id : Int} {s : ByteArray} (y : Prt) : (y.part == id && y.name == s) = true ↔ y.key = (id, s) := by
  unfold Prt.key
  simp only [Bool.and_eq_true, beq_iff_eq, Prod.mk.injEq]
  constructor
  · rintro ⟨h1, h2⟩; exact ⟨h1, beqb_true h2⟩
  · rintro ⟨h1, h2⟩; exact ⟨h1, by rw [h2, beq_toListBytes]; simp⟩
theorem iNamed_nil (id : Int) (s : ByteArray) (w : World) :
    Calls Try.prog 11 #[.pointer none, .int .u16 id, .string s] w fun e w' => e = .returned (.int .i64 (-1)) ∧ Below w.heap.size w w' := by
  go_enter Try.func11, Try.ntmps11
  go_wp2
  go_ret
  exact ⟨rfl, (Below.refl _ _).alloc (Nat.le_refl _) _⟩
set_option maxRecDepth 100000 in
set_option maxHeartbeats 1000000 in
theorem iNamed_ne (c : Cfg) (g : Nat) (id : Int) (s : ByteArray) (w : World) (h : IdxAt w w.heap.size g c) (hid : wU16 id) (hs : s.size ≤ maxLen) (hne : (id == 0) = false) :
    Calls Try.prog 11 #[.pointer (some ⟨g, 0, none⟩), .int .u16 id, .string s] w fun e w' => e = .returned (.int .i64 (idx (fun x => x.part == id && x.name == s) c.ports)) ∧ Below w.heap.size w w' := by
  have hbel : Below w.heap.size w (w.alloc (.cells #[.int .u16 id, .string s] 83)) := (Below.refl _ _).alloc (Nat.le_refl _) _
  obtain ⟨hg, _, _, _, b4, _, _, _, l4, _, _, _, k4, _, _, _, m4⟩ := h
  have hlen := (m4.below hbel l4).len Try.underlying71
  have HM := Lib.hid m4
  have HB := Lib.hid hbel
  have HI := Lib.hid (getv_idx Prt.key (fun x => x.part == id && x.name == s) (id, s) named_key c.ports)
  have HZ := Lib.hid (fun hz : (places [] 0 (c.ports.map Prt.key)).length = 0 => show (getv (places [] 0 (c.ports.map Prt.key)) (id, s)).getD (-1) = -1 by rw [List.eq_nil_of_length_eq_zero hz]; rfl)
  clear m4 hbel
  rename_i q1 q2 q3 q4 q5 q6 q7 q8 q9 q10 q11 q12
  clear q4 q5 q6 q7 q8 q9 q10 q11 q12
  have hg' : g < w.heap.size + 1 := by omega
  go_enter Try.func11, Try.ntmps11
  go_wp2_with fail
  all_goals
    refine wp_region_ext (by kernel_rfl) (by kernel_rfl) ?_
    repeat (go_big_quiet_step ((go_at_call 46; exact Calls.quiet_ext (findN_ok b4 _ (id, s) _ ((HM.out.below HB.out l4).below (ext_below _ _) (by simp; omega)) (places_nodup _ _ _ (by simp)) ⟨hid, hs⟩))))
    refine wpQuiet_nil ?_
    intro xq
    go_wp2
    go_ret
    exact ⟨ret_int HI.out, HB.out.trans ((ext_below _ _).mono HB.out.size)⟩
set_option maxRecDepth 100000 in
set_option maxHeartbeats 1000000 in
theorem iNamed_zero (c : Cfg) (g : Nat) (s : ByteArray) (w : World) (h : IdxAt w w.heap.size g c) (hid : wU16 0) (hs : s.size ≤ maxLen) :
    Calls Try.prog 11 #[.pointer (some ⟨g, 0, none⟩), .int .u16 0, .string s] w fun e w' => e = .returned (.int .i64 (idx (fun x => x.part == 0 && x.name == s) c.ports)) ∧ Below w.heap.size w w' := by
  have hbel : Below w.heap.size w (w.alloc (.cells #[.int .u16 0, .string s] 83)) := (Below.refl _ _).alloc (Nat.le_refl _) _
  obtain ⟨hg, _, _, _, b4, _, _, _, l4, _, _, _, k4, _, _, _, m4⟩ := h
  have hlen := (m4.below hbel l4).len Try.underlying71
  have HM := Lib.hid m4
  have HB := Lib.hid hbel
  have HI := Lib.hid (getv_idx Prt.key (fun x => x.part == 0 && x.name == s) (0, s) named_key c.ports)
  have HZ := Lib.hid (fun hz : (places [] 0 (c.ports.map Prt.key)).length = 0 => show (getv (places [] 0 (c.ports.map Prt.key)) (0, s)).getD (-1) = -1 by rw [List.eq_nil_of_length_eq_zero hz]; rfl)
  clear m4 hbel
  rename_i q1 q2 q3 q4 q5 q6 q7 q8 q9 q10 q11 q12
  clear q4 q5 q6 q7 q8 q9 q10 q11 q12
  have hg' : g < w.heap.size + 1 := by omega
  go_enter Try.func11, Try.ntmps11
  go_wp2_with fail
  · have hz : ((places [] 0 (c.ports.map Prt.key)).length : Int) == 0 := by assumption
    go_ret
    exact ⟨ret_int (by rw [← HI.out, HZ.out (by simpa using hz)]), HB.out⟩
  all_goals
    refine wp_region_ext (by kernel_rfl) (by kernel_rfl) ?_
    repeat (go_big_quiet_step ((go_at_call 46; exact Calls.quiet_ext (findN_ok b4 _ (0, s) _ ((HM.out.below HB.out l4).below (ext_below _ _) (by simp; omega)) (places_nodup _ _ _ (by simp)) ⟨hid, hs⟩))))
    refine wpQuiet_nil ?_
    intro xq
    go_wp2
    go_ret
    exact ⟨ret_int HI.out, HB.out.trans ((ext_below _ _).mono HB.out.size)⟩
theorem iNamed_ok (c : Cfg) (g : Nat) (id : Int) (s : ByteArray) (w : World) (h : IdxAt w w.heap.size g c) (hid : wU16 id) (hs : s.size ≤ maxLen) :
    Calls Try.prog 11 #[.pointer (some ⟨g, 0, none⟩), .int .u16 id, .string s] w fun e w' => e = .returned (.int .i64 (idx (fun x => x.part == id && x.name == s) c.ports)) ∧ Below w.heap.size w w' := by
  rcases beq_cases id 0 with h0 | h0
  · obtain rfl : id = 0 := by simpa using h0
    exact iNamed_zero c g s w h hid hs
  · exact iNamed_ne c g id s w h hid hs h0
theorem fault_ok (s i : Int) (w : World) : Calls Try.prog 20 #[.int .i64 s, .int .i64 i] w fun e w' => e = .returned (fltV (firstOf s [i])) ∧ Below w.heap.size w w' := by
  by_cases h0 : 0 ≤ i
  · have hf : firstOf s [i] = ⟨18, s, i⟩ := by rw [firstOf, if_pos h0]
    rw [hf]
    go_enter Try.func20, Try.ntmps20
    go_wp2
    refine bodyPost_ret (v := fltV ⟨18, s, i⟩) (by simp [results, Try.results20, go_sem]) rfl ⟨rfl, ?_⟩
    exact (Below.refl _ _).alloc (Nat.le_refl _) _
  · have hf : firstOf s [i] = noFlt := by rw [firstOf, if_neg h0, firstOf]
    rw [hf]
    go_enter Try.func20, Try.ntmps20
    go_wp2
    refine bodyPost_ret (v := fltV noFlt) (by simp [results, Try.results20, go_sem, noFlt]) rfl ⟨rfl, ?_⟩
    exact (Below.refl _ _).alloc (Nat.le_refl _) _
end Go.Proofs.Ytgkodbejnbfakaa
