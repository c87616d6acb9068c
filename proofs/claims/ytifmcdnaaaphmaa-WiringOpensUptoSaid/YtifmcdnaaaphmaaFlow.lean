/-
  What Flow of package wiring returns, walked: it follows the rows of the matrix with a stack.
-/
import Derived.Test.YtifmcdnaaaphmaaFlowP
namespace Go.Proofs.Ytifmcdnaaaphmaa
open Go.RowKit Go.Lib
open Go.Maps (Keyed)
attribute [local go_sem] ext_cell
set_option maxHeartbeats 1000000 in
/-- slices.Clone of numbers: the same numbers in memory of the call's own -/
theorem cloneI_ok (l : List Int) (A : Option Addr) (c : Nat) (w : World) (hl : l.length ≤ 4194304) (hP : Rd w w.heap.size 1 A l.length (l.map (Value.int .i64))) (hA : A = none → l = []) :
    Calls Try.prog 46 #[.slice A l.length c] w fun e w' => ∃ v, e = .returned v ∧ w'.ownsRow w.heap.size 3 1 v l.length (l.map (Value.int .i64)) ∧ Below w.heap.size w w' := by
  obtain ⟨i0, hi, hz0, hz1, hz2⟩ := info_parts info_int
  have qT : ∀ (w : World) (a : Option Addr) (n c n' c' : Nat), (binOp .eql 50 (.slice a n c) (.slice none n' c')).run Try.prog w = .ok (.bool a.isNone) w := fun w a n c n' c' => Lib.run_eql_slice_nil w _ _ a n c n' c' Try.underlying50
  rcases A with _ | ad
  · have hn := hA rfl
    subst hn
    go_enter Try.func46, Try.ntmps46
    go_wp2
    go_ret
    exact ⟨_, rfl, by simpa using World.ownsRow_nil _ _ _ _, Below.refl _ _⟩
  · have HO := Lib.hid (World.ownsRow_made (e := 3) (size := 1) w #[] 0 (Nat.le_refl _) (Nat.zero_le _) rfl)
    have HR := Lib.hid ((hP.alloc (Nat.le_refl _) (.cells #[] 3)))
    clear hP hA
    go_enter Try.func46, Try.ntmps46
    go_wp2_with (at_builtin; refine wpList_append_rd _ rfl (.tmp 5) (.tmp 6) _ rfl w.heap.size 3 i0 (.int .i64 0) 1 8 Try.underlying50 hi hz0 hz1 hz2 rfl (by decide) _ 0 [] rfl HO.out w.heap.size (some ad) l.length c _ rfl HR.out (ints_oneCell .i64 l) (by unfold maxLen; omega) (by omega) (by simp) ?_; intro v' w1 hown hg)
    go_ret
    refine ⟨_, rfl, by simpa using hown, ?_⟩
    exact below_own ((Below.refl w.heap.size w).alloc (Nat.le_refl _) _) hg HO.out (by simp)
/-- the row of a place -/
def rowOf (m : List (List Int)) (i : Int) : List Int := if 0 ≤ i then (m[i.toNat]?).getD [] else []
theorem rowOf_at {m : List (List Int)} {i : Nat} {l : List Int} (h : m[i]? = some l) : rowOf m (i : Int) = l := by simp [rowOf, h]
/-- messages get from a place to another one, in one step or more -/
inductive Path (m : List (List Int)) (i : Int) : Int → Prop
  | one {k : Int} : k ∈ rowOf m i → Path m i k
  | step {j k : Int} : Path m i j → k ∈ rowOf m j → Path m i k
structure FlowInv (m : List (List Int)) (start goal : Int) (seen st : List Int) : Prop where
  nd : seen.Nodup
  st_ : ∀ x ∈ st, Path m start x
  se : ∀ x ∈ seen, Path m start x ∧ x ≠ goal
  c0 : ∀ k ∈ rowOf m start, k ∈ seen ∨ k ∈ st
  c1 : ∀ j ∈ seen, ∀ k ∈ rowOf m j, k ∈ seen ∨ k ∈ st
theorem FlowInv.start_ (m : List (List Int)) (start goal : Int) : FlowInv m start goal [] (rowOf m start) :=
  ⟨by simp, fun x hx => .one hx, by simp, fun k hk => .inr hk, by simp⟩
theorem FlowInv.done {m : List (List Int)} {start goal : Int} {seen : List Int} (h : FlowInv m start goal seen []) : ¬ Path m start goal := by
  have : ∀ x, Path m start x → x ∈ seen := fun x hx => by
    induction hx with
    | one hk => simpa using h.c0 _ hk
    | step _ hk ih => simpa using h.c1 _ ih _ hk
  intro hp
  exact (h.se _ (this _ hp)).2 rfl
theorem FlowInv.drop {m : List (List Int)} {start goal : Int} {seen st : List Int} {x : Int} (h : FlowInv m start goal seen (st ++ [x])) (hx : x ∈ seen) : FlowInv m start goal seen st := by
  have aux : ∀ k, k ∈ seen ∨ k ∈ st ++ [x] → k ∈ seen ∨ k ∈ st := fun k hk => by
    rcases hk with hk | hk
    · exact .inl hk
    · rcases List.mem_append.1 hk with hk | hk
      · exact .inr hk
      · rw [List.mem_singleton] at hk; exact .inl (hk ▸ hx)
  exact ⟨h.nd, fun y hy => h.st_ y (List.mem_append_left _ hy), h.se, fun k hk => aux k (h.c0 k hk), fun j hj k hk => aux k (h.c1 j hj k hk)⟩
theorem FlowInv.push {m : List (List Int)} {start goal : Int} {seen st : List Int} {x : Int} (h : FlowInv m start goal seen (st ++ [x])) (hx : x ∉ seen) (hg : x ≠ goal) : FlowInv m start goal (seen ++ [x]) (st ++ rowOf m x) := by
  have hpx := h.st_ x (by simp)
  have aux : ∀ k, k ∈ seen ∨ k ∈ st ++ [x] → k ∈ seen ++ [x] ∨ k ∈ st ++ rowOf m x := fun k hk => by
    rcases hk with hk | hk
    · exact .inl (List.mem_append_left _ hk)
    · rcases List.mem_append.1 hk with hk | hk
      · exact .inr (List.mem_append_left _ hk)
      · exact .inl (List.mem_append_right _ hk)
  refine ⟨nodup_snoc h.nd hx, fun y hy => ?_, fun y hy => ?_, fun k hk => aux k (h.c0 k hk), fun j hj k hk => ?_⟩
  · rcases List.mem_append.1 hy with hy | hy
    · exact h.st_ y (List.mem_append_left _ hy)
    · exact .step hpx hy
  · rcases List.mem_append.1 hy with hy | hy
    · exact h.se y hy
    · rw [List.mem_singleton] at hy; subst hy; exact ⟨hpx, hg⟩
  · rcases List.mem_append.1 hj with hj | hj
    · exact aux k (h.c1 j hj k hk)
    · rw [List.mem_singleton] at hj; subst hj; exact .inr (List.mem_append_right _ hk)
theorem row_range {c : Cfg} {i : Int} : ∀ k ∈ rowOf (matRows c) i, ∃ n : Nat, k = (n : Int) ∧ n < c.parts.length := by
  intro k hk
  unfold rowOf at hk
  split at hk
  · unfold matRows matTo at hk
    rw [List.getElem?_map] at hk
    rcases hj : (List.range c.parts.length)[i.toNat]? with _ | j
    · rw [hj] at hk; simp at hk
    · rw [hj] at hk
      simp only [Option.map_some, Option.getD_some] at hk
      unfold rowTo at hk
      obtain ⟨n, hn, rfl⟩ := List.mem_map.1 hk
      exact ⟨n, rfl, List.mem_range.1 (List.mem_filter.1 hn).1⟩
  · simp at hk
theorem path_range {c : Cfg} {i k : Int} (h : Path (matRows c) i k) : ∃ n : Nat, k = (n : Int) ∧ n < c.parts.length := by
  cases h with
  | one hk => exact row_range _ hk
  | step _ hk => exact row_range _ hk
theorem seen_len : ∀ {n : Nat} {l : List Int}, l.Nodup → (∀ x ∈ l, ∃ k : Nat, x = (k : Int) ∧ k < n) → l.length ≤ n
  | 0, l, _, hr => by
    cases l with
    | nil => simp
    | cons x r => obtain ⟨k, _, hk⟩ := hr x (by simp); omega
  | n + 1, l, h, hr => by
    by_cases hm : (n : Int) ∈ l
    · have h2 := seen_len (n := n) (l := l.erase (n : Int)) (h.erase _) (fun x hx => by
        have hx2 := (List.Nodup.mem_erase_iff h).1 hx
        obtain ⟨k, rfl, hk⟩ := hr x hx2.2
        exact ⟨k, rfl, by have := hx2.1; omega⟩)
      have h3 := List.length_erase_of_mem hm
      omega
    · have h2 := seen_len (n := n) (l := l) h (fun x hx => by
        obtain ⟨k, rfl, hk⟩ := hr x hx
        exact ⟨k, rfl, by
          rcases Nat.lt_or_ge k n with h4 | h4
          · exact h4
          · exact absurd (show (n : Int) ∈ l by rw [show n = k from by omega]; exact hx) hm⟩)
      omega
theorem lawI : Keyed Try.prog 3 := Go.Maps.int_keyed Try.underlying3
@[reducible] def kI (n : Int) : Value := .int .i64 n
theorem kI_inj (x y : Int) (h : kI x = kI y) : x = y := by injection h
theorem keyI {n : Int} (h : (Lit.int .i64 n).wf = true) : ∃ l, keyOf Try.prog 3 (kI n) = some l := ⟨_, Go.Maps.keyOf_int_mk Try.underlying3 h⟩
theorem own_prefix {w : World} {base : Nat} {e : TypeId} {A : Option Addr} {n cap : Nat} {l : List Int} {x : Int} (h : w.ownsRow base e 1 (.slice A (n + 1) cap) (n + 1) ((l ++ [x]).map (Value.int .i64))) : w.ownsRow base e 1 (.slice A n cap) n (l.map (Value.int .i64)) := by
  have hl := h.1
  simp at hl
  rcases h.2 with ⟨e1, _⟩ | ⟨g, cap', cur, e1, hb, hh, h1, h2, h3, h4⟩
  · cases e1
  · injection e1 with e1 _ e3
    subst e1 e3
    refine ⟨by simp; omega, .inr ⟨g, cap, cur, rfl, hb, hh, by omega, h2, h3, ?_⟩⟩
    have := congrArg (List.take n) h4
    rw [List.take_take] at this
    rw [Nat.mul_one, show n = min n ((n + 1) * 1) from by omega, this]
    rw [List.map_append, List.take_append_of_le_length (by simp; omega)]
    rw [List.take_of_length_le (by simp; omega)]
noncomputable def flowB (c : Cfg) (f t : Int) : Bool := @decide (0 ≤ idx (fun x => x.id == f) c.parts ∧ 0 ≤ idx (fun x => x.id == t) c.parts ∧ Path (matRows c) (idx (fun x => x.id == f) c.parts) (idx (fun x => x.id == t) c.parts)) (Classical.propDecidable _)
theorem flowB_no1 {c : Cfg} {f t : Int} (h : idx (fun x => x.id == f) c.parts = -1) : flowB c f t = false := by
  unfold flowB; rw [h]; exact @decide_eq_false _ (Classical.propDecidable _) (fun e => by omega)
theorem flowB_no2 {c : Cfg} {f t : Int} (h : idx (fun x => x.id == t) c.parts = -1) : flowB c f t = false := by
  unfold flowB; rw [h]; exact @decide_eq_false _ (Classical.propDecidable _) (fun e => by omega)
theorem flowB_yes {c : Cfg} {f t : Int} {i j : Nat} (h1 : idx (fun x => x.id == f) c.parts = (i : Int)) (h2 : idx (fun x => x.id == t) c.parts = (j : Int)) (hp : Path (matRows c) i j) : flowB c f t = true := by
  unfold flowB; rw [h1, h2]; exact @decide_eq_true _ (Classical.propDecidable _) ⟨by omega, by omega, hp⟩
theorem flowB_not {c : Cfg} {f t : Int} {i j : Nat} (h1 : idx (fun x => x.id == f) c.parts = (i : Int)) (h2 : idx (fun x => x.id == t) c.parts = (j : Int)) (hp : ¬ Path (matRows c) i j) : flowB c f t = false := by
  unfold flowB; rw [h1, h2]; exact @decide_eq_false _ (Classical.propDecidable _) fun e => hp (by have h := e.2.2; simpa using h)
end Go.Proofs.Ytifmcdnaaaphmaa
