/-
  What the reference of layer 13 (uniq) computes, walked once.
-/
import Derived.Test.YtaakcpdpkcadjaaRef05
namespace Go.Proofs.Ytaakcpdpkcadjaa
open Go.RowKit
/-- the first index from i on at which p holds, or -1 -/
def idxFrom {α : Type} (p : α → Bool) : Nat → List α → Int
  | _, [] => -1
  | i, x :: r => if p x then i else idxFrom p (i + 1) r
def idx {α : Type} (p : α → Bool) (l : List α) : Int := idxFrom p 0 l
theorem idx_hit {α : Type} {p : α → Bool} {l : List α} {k : Nat} {x : α} {v : Int} (h : v = idxFrom p k (l.drop k)) (hx : l[k]? = some x) (hp : p x = true) : v = k := by
  rw [h, drop_cons hx, idxFrom, if_pos hp]
theorem idx_miss {α : Type} {p : α → Bool} {l : List α} {k : Nat} {x : α} {v : Int} (h : v = idxFrom p k (l.drop k)) (hx : l[k]? = some x) (hp : p x = false) : v = idxFrom p (k + 1) (l.drop (k + 1)) := by
  rw [h, drop_cons hx, idxFrom, if_neg (by rw [hp]; decide)]
theorem idx_end {α : Type} {p : α → Bool} {l : List α} {v : Int} (h : v = idxFrom p l.length (l.drop l.length)) : v = -1 := by
  rw [h, List.drop_length, idxFrom]
theorem below_drewN {B : Nat} {a w : World} (h : Below B a w) (n : Nat) : Below B a (w.drewN n) := ⟨h.os, h.tape, h.output, h.size, h.block⟩
theorem beqb_cases (a b : ByteArray) : (a == b) = true ∨ (a == b) = false := by cases (a == b) <;> simp
theorem beq_cases (a b : Int) : (a == b) = true ∨ (a == b) = false := by cases (a == b) <;> simp

set_option maxHeartbeats 1000000 in
theorem rPartition_ok (c : Cfg) (A1 A2 A3 A4 A5 : Option Addr) (c1 c2 c3 c4 c5 : Nat) (w : World) (hR : CfgR w w.heap.size c A1 A2 A3 A4 A5 c1 c2 c3 c4 c5) (hs : c.small) (id : Int) :
    Calls Try.prog 21 #[cfgV c.frame A1 A2 A3 A4 A5 c.parts.length c.wins.length c.regs.length c.ports.length c.chans.length c1 c2 c3 c4 c5, .int .u16 id] w fun e w' =>
      e = .returned (.int .i64 (idx (fun x => x.id == id) c.parts)) ∧ Below w.heap.size w w' := by
  have hP := hR.parts
  have ht : c.total ≤ 1048576 := hs.total
  have b1 : c.parts.length ≤ 1048576 := by unfold Cfg.total at ht; omega
  clear hR hs ht
  go_enter Try.func21, Try.ntmps21
  go_wp2
  go_loop [5] (fun i => ∃ k : Nat, k ≤ c.parts.length ∧ i = .int .i64 k ∧ Hid (idx (fun x => x.id == id) c.parts = idxFrom (fun x => x.id == id) k (c.parts.drop k))) (fun i => c.parts.length - (intOf i).toNat)
  case atStart => exact ⟨0, Nat.zero_le _, rfl, Lib.hid rfl⟩
  case round =>
    obtain ⟨k, hk, rfl, hrest⟩ := hrel
    by_cases hlt : k < c.parts.length
    · obtain ⟨x, hx⟩ := get_lt hlt
      obtain ⟨b, o, rfl, hb, g0, _⟩ := par_at hP hx
      have HX := Lib.hid hx
      clear hx
      rcases beq_cases x.id id with hp | hp
      · have HP := Lib.hid (show (fun x : Par => x.id == id) x = true from hp)
        go_wp2
        go_ret
        exact ⟨ret_int (idx_hit hrest.out HX.out HP.out).symm, (Below.refl _ _).alloc (Nat.le_refl _) _⟩
      · have HP := Lib.hid (show (fun x : Par => x.id == id) x = false from hp)
        go_wp2
        go_round
        case rel => exact ⟨k + 1, by omega, by go_num, Lib.hid (idx_miss hrest.out HX.out HP.out)⟩
        case measure => simp [intOf]; omega
    · obtain rfl : k = c.parts.length := by omega
      go_wp2
      go_ret
      exact ⟨ret_int (idx_end hrest.out).symm, (Below.refl _ _).alloc (Nat.le_refl _) _⟩

/-- the first index at which an element stands that stood before, or -1 -/
def repFrom {α : Type} [DecidableEq α] : List α → Nat → List α → Int
  | _, _, [] => -1
  | seen, i, x :: r => if x ∈ seen then i else repFrom (seen ++ [x]) (i + 1) r
def rep {α : Type} [DecidableEq α] (l : List α) : Int := repFrom [] 0 l
theorem rep_hit {α : Type} [DecidableEq α] {l : List α} {i : Nat} {x : α} {v : Int} (h : v = repFrom (l.take i) i (l.drop i)) (hx : l[i]? = some x) (hm : x ∈ l.take i) : v = i := by
  rw [h, drop_cons hx, repFrom, if_pos hm]
theorem rep_miss {α : Type} [DecidableEq α] {l : List α} {i : Nat} {x : α} {v : Int} (h : v = repFrom (l.take i) i (l.drop i)) (hx : l[i]? = some x) (hm : x ∉ l.take i) : v = repFrom (l.take (i + 1)) (i + 1) (l.drop (i + 1)) := by
  rw [h, drop_cons hx, repFrom, if_neg hm, take_next hx]
theorem rep_end {α : Type} [DecidableEq α] {l : List α} {v : Int} (h : v = repFrom (l.take l.length) l.length (l.drop l.length)) : v = -1 := by
  rw [h, List.drop_length, repFrom]
theorem mem_take_of {α : Type} {l : List α} {i k : Nat} {x : α} (hk : l[k]? = some x) (h : k < i) : x ∈ l.take i := by
  refine List.mem_of_getElem? (i := k) ?_
  rw [List.getElem?_take, if_pos h]
  exact hk
theorem not_mem_next {α : Type} {l : List α} {k : Nat} {x y : α} (hk : l[k]? = some y) (h : x ∉ l.take k) (hne : y ≠ x) : x ∉ l.take (k + 1) := by
  rw [take_next hk, List.mem_append, List.mem_singleton]
  rintro (h1 | h1)
  · exact h h1
  · exact hne h1.symm
end Go.Proofs.Ytaakcpdpkcadjaa
