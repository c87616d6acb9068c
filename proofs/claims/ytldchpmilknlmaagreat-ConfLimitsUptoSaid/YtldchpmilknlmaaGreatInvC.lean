/-
  A region that draws its order: reads that leave known values, calls and other operations that make memory and leave a value of which something is known, one last operation: one way, whatever order comes up. It speaks of no program.
-/
import Derived.Below
import Derived.Test.YtldchpmilknlmaaGreatInvA
namespace Go.Proofs.YtldchpmilknlmaaGreat
open Go.RowKit
section
variable {P : Program} {ops : Array Oper} {Q : Exit → Act → World → Prop}
/-- what an operation leaves: a known value, or one of which p holds -/
def SC (c : List Value) (K : Nat → Bool) (p : Nat → Value → World → Prop) (i : Nat) (v : Value) (w : World) : Prop := if K i = true then p i v w else v = c.getD i undef
theorem SC.val {c : List Value} {K : Nat → Bool} {p : Nat → Value → World → Prop} {i : Nat} {v : Value} {w : World} (h : SC c K p i v w) (hk : K i = false) : v = c.getD i undef := by
  unfold SC at h; rwa [if_neg (by simp [hk])] at h
theorem SC.got {c : List Value} {K : Nat → Bool} {p : Nat → Value → World → Prop} {i : Nat} {v : Value} {w : World} (h : SC c K p i v w) (hk : K i = true) : p i v w := by
  unfold SC at h; rwa [if_pos hk] at h
theorem SC.ofV {c : List Value} {K : Nat → Bool} {p : Nat → Value → World → Prop} {i : Nat} {w : World} (hk : K i = false) : SC c K p i (c.getD i undef) w := by
  unfold SC; rw [if_neg (by simp [hk])]
theorem SC.ofP {c : List Value} {K : Nat → Bool} {p : Nat → Value → World → Prop} {i : Nat} {v : Value} {w : World} (hk : K i = true) (h : p i v w) : SC c K p i v w := by
  unfold SC; rwa [if_pos hk]
/-- an operation's run: a value, or a call -/
def RunsTo (P : Program) (ρ : Operand → Value) (o : Oper) (U : World) (Kk : Value → World → Prop) : Prop :=
  (∃ v V, (execOp ρ o).run P U = .ok (.value v) V ∧ Kk v V) ∨ (∃ f args V, (execOp ρ o).run P U = .ok (.enter f args) V ∧ Calls P f args V fun e V' => ∃ v, e = .returned v ∧ Kk v V')
theorem RunsTo.wp {o : Oper} {a : Act} {U : World} {K : Act → World → Prop} (h : RunsTo P a.eval o U (fun v V => K (a.put o.dst v) V)) : o.wp P a U K Q := by
  rcases h with ⟨v, V, hr, hk⟩ | ⟨f, args, V, hr, hk⟩
  · exact wp_val v hr hk
  · exact wp_call f args hr hk
theorem RunsTo.mono {ρ : Operand → Value} {o : Oper} {U : World} {K K' : Value → World → Prop} (h : RunsTo P ρ o U K) (hi : ∀ v V, K v V → K' v V) : RunsTo P ρ o U K' := by
  rcases h with ⟨v, V, hr, hk⟩ | ⟨f, args, V, hr, hk⟩
  · exact .inl ⟨v, V, hr, hi _ _ hk⟩
  · exact .inr ⟨f, args, V, hr, hk.mono fun e V' ⟨v, he, h⟩ => ⟨v, he, hi _ _ h⟩⟩
theorem RunsTo.val {ρ : Operand → Value} {o : Oper} {U V : World} {K : Value → World → Prop} (v : Value) (hr : (execOp ρ o).run P U = .ok (.value v) V) (h : K v V) : RunsTo P ρ o U K := .inl ⟨v, V, hr, h⟩
theorem RunsTo.call {ρ : Operand → Value} {o : Oper} {U V : World} {K : Value → World → Prop} (f : FuncId) (args : Array Value) (hr : (execOp ρ o).run P U = .ok (.enter f args) V) (h : Calls P f args V fun e V' => ∃ v, e = .returned v ∧ K v V') : RunsTo P ρ o U K := .inr ⟨f, args, V, hr, h⟩
theorem wp_region_C {id : Nat} {a : Act} {w : World} (D n : Nat) (last : Oper) (hn : ops.size = n + 1) (hlast : ops[n]? = some last) (hm : P.follows .mixedOrders = true) (hB : backB ops = true) (hG : plainB ops = true) (hC : childB ops = true) (hD : dstB ops D n = true) (hsz : D + n ≤ a.tmps.size)
    (c : List Value) (K : Nat → Bool) (p : Nat → Value → World → Prop) (EW : World → Prop)
    (h0 : EW { w with drawn := w.drawn + 1 }) (hEB : ∀ U V, EW U → Below U.heap.size U V → EW V)
    (hst : ∀ i v U V, K i = true → p i v U → Below U.heap.size U V → p i v V)
    (hop : ∀ (i : Nat) (o : Oper), ops[i]? = some o → i < n → ∀ U, EW U → ∀ ρ : Operand → Value, (∀ v, ρ (.const v) = v) → (∀ f, ρ (.func f) = .func (.func f) #[] #[]) → (∀ t, t < D → ρ (.tmp t) = a.eval (.tmp t)) → (∀ e ∈ o.after, Region.binds .any e = true → SC c K p e.on (ρ (.tmp (D + e.on))) U) → RunsTo P ρ o U (fun v V => Below U.heap.size U V ∧ SC c K p i v V))
    (hend : ∀ u U, EW U → (∀ i, i < n → SC c K p i (u i) U) → ∀ ρ : Operand → Value, ρ = (mkAt a D n u).eval → (∀ v, ρ (.const v) = v) → (∀ f, ρ (.func f) = .func (.func f) #[] #[]) → (∀ t, t < D → ρ (.tmp t) = a.eval (.tmp t)) → (∀ j, j < n → ρ (.tmp (D + j)) = u j) → ∀ Kk : Act → World → Prop, (∀ a' V, Q .normal a' V → Kk a' V) → last.wp P (mkAt a D n u) U Kk Q) : (Code.region id ops true).wp P Q a w := by
  refine wp_region_T n last hn hlast hm hB hG hC (mkAt a D n) _ (mkAt_self a hsz) (fun i o ho hi u v => by rw [dstB_spec hD ho hi]; exact mkAt_put a u hsz hi v) (fun i u w => SC c K p i (u i) w)
    (fun _ _ w => EW w) (fun _ _ w w' => Below w.heap.size w w') h0 ?_ ?_ ?_ ?_
  · intro l i j u w w' _ _ _ _ hS hb
    cases hk : K i with
    | true => exact SC.ofP hk (hst i _ _ _ hk (hS.got hk) hb)
    | false =>
      have := hS.val hk
      rw [this]
      exact SC.ofV hk
  · intro i o ho hi j u v w hij _ hS
    show SC c K p i (upd u j v i) w
    rw [upd_ne (Ne.symm hij)]
    exact hS
  · intro i o ho hi l u w hE hf hp Kk hK
    refine RunsTo.wp ((hop i o ho hi w hE _ (fun _ => rfl) (fun _ => rfl) (fun t ht => mkAt_eval a u hsz ht) (fun e he hb => ?_)).mono fun v V ⟨hb, hs⟩ => ?_)
    · rw [mkAt_eval_in a u hsz (by have := backB_spec hB ho e he; omega)]
      exact hp e he hb
    · exact hK v V (hEB _ _ hE hb) hb (by show SC c K p i (upd u i v i) V; rw [upd_self]; exact hs)
  · intro l u w hE hS Kk hK
    exact hend u w hE hS _ rfl (fun _ => rfl) (fun _ => rfl) (fun t ht => mkAt_eval a u hsz ht) (fun j hj => mkAt_eval_in a u hsz hj) Kk hK
end
end Go.Proofs.YtldchpmilknlmaaGreat
