/-
  The law ConfLimits returns true for every input whose bulk is at most 1048576 (the statement ConfLimitsUptoSaid), and each argument reads behind the call as it read before.
  Condition: the statement's own (the arguments hold together at most 1048576 values and letters).
-/
import Derived.Test.YtldchpmilknlmaaGreatShell
import Derived.Test.YtldchpmilknlmaaGreatLaw05Lim
namespace Go.Proofs.YtldchpmilknlmaaGreat.lConfLimits
open Go.RowKit Go.ChangeShapes Go.WideShapes Go.ChangeAt
open Go.ChangeMaps (open_string shut_string)
set_option maxRecDepth 100000 in
theorem contract (H : Type) (enc : TypeId × Value → H) (W : World) (base : Nat) (args : Array Value) (ds gs : List (DataW H)) (before : List MemPlace)
    (hval : ∀ (j : Nat) t v, Tryz.f8.params[j]? = some t → args[j]? = some v → Value.okWide Tryz.prog W .any base t v)
    (hW : DataW.Whole enc Tryz.prog Tryz.f8.params.toList Rows.confLimitsSpec.vars false W args.toList ds gs before) (hk : Rows.uptoSmall H (ds ++ gs) = true) :
    Calls Tryz.prog 8 args W fun e W' => ∃ v, e = .returned v ∧ Rows.confLimitsSpec.post enc Tryz.prog Tryz.f8 false true false false W args v W' := by
  have hW' := hW
  have hlt := fun p hp => hW.lt p hp
  obtain ⟨p, q, hA0, hV, rfl, hfz, hnd⟩ := hW
  have hA : DataW.TrodAll enc Tryz.prog W 0 (fun _ => true) true Tryz.f8.params.toList args.toList ds p := hA0
  rw [Tryz.params8] at hA hval
  obtain ⟨v0, vs0, d0, ds0, p0, q0, hargs, e0, f0, h0, r0⟩ := trodAll_cons hA
  obtain ⟨z1, z2, z3⟩ := trodAll_nil r0
  subst z1 z2 z3
  subst e0 f0
  obtain rfl : args = #[v0] := by cases args; simp_all
  obtain ⟨rfl, rfl⟩ := trodVars_none hV
  clear hA0 hA hargs
  simp only [List.append_nil] at hW' hk hlt
  have hbulk := bulk_of hk
  simp only [Rows.uptoBulkAll] at hbulk
  have hx0 := h0
  obtain ⟨sec, rfl, rfl, rfl, w0⟩ := open_int Tryz.underlying5 (hval 0 5 _ rfl rfl) hx0
  refine (confLimits_ok sec w0 W).mono fun e W' ⟨he, hbe⟩ => ?_
  subst he
  refine ⟨_, rfl, post_of_below (pa := ([] : List MemPlace) ++ ([] : List MemPlace)) (pv := []) hW' (fun _ _ _ => trodAll_cons_mk (shut_bool Tryz.underlying4 _) trodAll_mk0) (fun sp hsp => ?_) (fun _ _ => rfl) (by simp) hbe (ok_one (by kernel_rfl) rfl (okWide_bool_mk Tryz.underlying4 _))⟩
  rw [Tryz.params8]
  exact trodAll_cons_mk (trod_kept (by kernel_rfl) (of_decide_eq_true (by kernel_rfl)) h0 hbe (fun x hx => absurd hx (by simp)) (fun x hx => absurd hx (by simp))) (trodAll_mk0)
set_option maxRecDepth 100000 in
theorem lifted (os : Os) (started : os.Started) (H : Type) (enc : TypeId × Value → H) (F : Stop.Interp) :
    ReturnsInHanded {} Tryz.checked os 8 .any ((Rows.OpenSpec.upto Rows.confLimitsSpec).pre6 enc Tryz.prog Tryz.f8 Rows.confLimitsUptoRow.domain false) (((Rows.OpenSpec.upto Rows.confLimitsSpec).at F).post enc Tryz.prog Tryz.f8 false true false false) := by
  refine returnsInHanded_of_cond (C := Tryz.checked) (s := Rows.OpenSpec.upto Rows.confLimitsSpec) (k := Rows.uptoSmall) rfl own started (by kernel_rfl) Tryz.func8
    (OpenSpec.witness (enc := enc) (C := Tryz.checked) (s := Rows.OpenSpec.upto Rows.confLimitsSpec) (k := Rows.uptoSmall) rfl false ⟨#[], #[.int .u8 0], []⟩ 8 (by kernel_rfl) (by kernel_rfl) (by kernel_rfl)
      (x := ([.lit (.int .u8 0)], [], [])) (by kernel_rfl) rfl (by kernel_rfl)) ?_
  intro W base args ds gs before hval hW _ hk _
  exact contract H enc W base args ds gs before hval hW hk
theorem proved : Rows.ConfLimitsUptoSaid :=
  OpenClaim.holds_of_cond 8 Tryz.f8 rfl rfl rfl rfl rfl rfl rfl ⟨rfl, rfl, rfl, rfl, rfl⟩ rfl rfl rfl rfl rfl (by kernel_rfl) Tryz.func8 (by kernel_rfl)
    (of_decide_eq_true (by kernel_rfl)) (by unfold Func.isWrapper; first | (rw [if_pos (by decide +kernel)]; kernel_rfl) | (rw [if_neg (by decide +kernel)]; exact ⟨rfl, rfl⟩))
    (fun os started H enc _ F => lifted os started H enc F)
end Go.Proofs.YtldchpmilknlmaaGreat.lConfLimits
