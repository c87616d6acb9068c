/-
  What the reference of layer 13 (uniq) computes: its checks, walked once.
-/
import Derived.Test.YtldchpmilknlmaaGreatRef13
import Derived.Deep.AppendLies
namespace Go.Proofs.YtldchpmilknlmaaGreat
open Go.RowKit
theorem info_u16 : (Tryz.prog.info? 34).map (fun i => (i.zero, i.size, i.bytes)) = some (some (.int .u16 0), 1, 2) := by kernel_rfl
def refParts (c : Cfg) : Int := if 0 ≤ rep (c.parts.map (·.id)) then rep (c.parts.map (·.id)) else rep (c.parts.map (·.name))
theorem beqb_true {a b : ByteArray} (h : (a == b) = true) : a = b := by
  rw [beq_toListBytes, beq_iff_eq, ByteArray.toList_eq, ByteArray.toList_eq] at h
  cases a; cases b; simp at h; rw [h]
theorem beqb_false {a b : ByteArray} (h : (a == b) = false) : a ≠ b := by
  rintro rfl
  rw [beq_toListBytes] at h
  simp at h
def Prt.key (p : Prt) : Int × ByteArray := (p.part, p.name)
def refPorts (c : Cfg) : Int := if 0 ≤ rep (c.ports.map (·.id)) then rep (c.ports.map (·.id)) else rep (c.ports.map Prt.key)
theorem named_lt {l : List Prt} {i : Nat} {x : Prt} (hx : l[i]? = some x) : idx (fun y => y.part == x.part && y.name == x.name) l < (i : Int) ↔ x.key ∈ (l.map Prt.key).take i := by
  have key : ∀ (m : Nat) (l' : List Prt) (j : Nat), l'[j]? = some x → (idxFrom (fun y => y.part == x.part && y.name == x.name) m l' < ((m + j : Nat) : Int) ↔ x.key ∈ (l'.map Prt.key).take j) := by
    intro m l'
    induction l' generalizing m with
    | nil => intro j h; simp at h
    | cons y r ih =>
      intro j h
      unfold idxFrom
      by_cases hp : (y.part == x.part && y.name == x.name) = true
      · rw [if_pos hp]
        have hpp : y.key = x.key := by
          simp only [Bool.and_eq_true, beq_iff_eq] at hp
          unfold Prt.key
          rw [hp.1, beqb_true hp.2]
        cases j with
        | zero => simp
        | succ j =>
          rw [List.map_cons, List.take_succ_cons, List.mem_cons, hpp]
          constructor
          · intro _; exact Or.inl rfl
          · intro _; omega
      · rw [if_neg hp]
        have hpp : x.key ≠ y.key := fun e => by
          injection e with e1 e2
          exact hp (by rw [e1, e2, beq_toListBytes]; simp)
        cases j with
        | zero =>
          exfalso
          simp at h
          subst h
          exact hpp rfl
        | succ j =>
          have := ih (m + 1) j (by simpa using h)
          rw [List.map_cons, List.take_succ_cons, List.mem_cons, show m + (j + 1) = m + 1 + j from by omega, this]
          constructor
          · exact Or.inr
          · rintro (h1 | h1)
            · exact absurd h1 hpp
            · exact h1
  have := key 0 l i hx
  rw [Nat.zero_add] at this
  exact this
theorem own_form {w : World} {base : Nat} {e : TypeId} {size : Nat} {v : Value} {n : Nat} {xs : List Value} (h : w.ownsRow base e size v n xs) : ∃ A c, v = .slice A n c ∧ n ≤ c ∧ c ≤ maxLen ∧ Rd w w.heap.size size A n xs := by
  rcases h.2 with ⟨rfl, rfl⟩ | ⟨g, cap, cur, rfl, _, _, h1, h2, _⟩
  · have : xs = [] := List.eq_nil_of_length_eq_zero (by simpa using h.1)
    subst this
    exact ⟨none, 0, rfl, Nat.le_refl _, Nat.zero_le _, Rd.nil⟩
  · exact ⟨_, _, rfl, h1, h2, Rd.of_own h⟩
attribute [local go_sem] ext_cell
theorem below_own {B : Nat} {a w w' : World} {e : TypeId} {size n : Nat} {v : Value} {xs : List Value} (h : Below B a w) (hg : w.grownBy w' v.ownBlock) (ho : w.ownsRow B e size v n xs) (hB : B ≤ w.heap.size) : Below B a w' :=
  h.grown hg hB fun k hk => (ho.lt k hk).1
theorem map_next {q : IntKind} {l : List Int} {k : Nat} {x : Int} (h : l[k]? = some x) : (l.take k).map (Value.int q) ++ [Value.int q x] = (l.take (k + 1)).map (Value.int q) := by
  rw [take_next h, List.map_append]; rfl
theorem ids_get {α : Type} {f : α → Int} {l : List α} {k : Nat} {x : α} (h : l[k]? = some x) : (l.map f)[k]? = some (f x) := by simp [h]

end Go.Proofs.YtldchpmilknlmaaGreat
