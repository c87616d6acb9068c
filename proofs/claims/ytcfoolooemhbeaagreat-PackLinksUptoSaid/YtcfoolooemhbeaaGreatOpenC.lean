/-
  An argument of channels reads as a list of channels. No condition.
-/
import Derived.Test.YtcfoolooemhbeaaGreatLaw11l
namespace Go.Proofs.YtcfoolooemhbeaaGreat
open Go.RowKit Go.ChangeShapes Go.WideShapes Go.ChangeAt Go.Deep
section
variable {H : Type} {enc : TypeId × Value → H} {w : World} {base : Nat} {spare : Nat → Bool} {held : Bool}
theorem open_chns {n : Nat} {cs : List Value} {y : DataW H × List MemPlace} (h : DataW.trod enc Tryz.prog w base spare held n 27 cs = some y) :
    ∃ (A : Option Addr) (c : Nat) (l : List Chn) (rs : List Value), cs = [.slice A l.length c] ∧ l.length ≤ c ∧ c ≤ maxLen ∧ ChnsC w w.heap.size l rs ∧ Rd w w.heap.size 3 A l.length rs ∧ sumDests l + l.length + 1 ≤ Rows.uptoBulk y.1 := by
  obtain ⟨A5, p5, l5, r5, e5, a5, b5, k5, rd5, _, g5⟩ := open_list (rel := ChnC w w.heap.size) (ok := Chn.ok) (g := fun x => x.dests.length) Tryz.underlying27 cellsChn (by omega) (fun n cs y hy => open_chn hy) h
  exact ⟨A5, p5, l5, r5, e5, a5, b5, rowsOf_chns k5, rd5, g5⟩
end
theorem lC_small {l : List Chn} (h : sumDests l + l.length ≤ 1048576) : (lC l).small :=
  ⟨by unfold BIG Cfg.total lC; simp; omega, fun p hp => absurd hp (by simp [lC]), fun p hp => absurd hp (by simp [lC])⟩
end Go.Proofs.YtcfoolooemhbeaaGreat
