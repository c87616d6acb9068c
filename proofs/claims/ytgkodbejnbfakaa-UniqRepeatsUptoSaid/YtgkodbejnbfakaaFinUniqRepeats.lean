/-
  The law UniqRepeats returns true for every input whose bulk is at most 1048576 (the statement UniqRepeatsUptoSaid), and each argument reads behind the call as it read before.
  Condition: the statement's own (the arguments hold together at most 1048576 values and letters).
-/
import Derived.Test.YtgkodbejnbfakaaShell
import Derived.Test.YtgkodbejnbfakaaLaw13e
namespace Go.Proofs.Ytgkodbejnbfakaa.lUniqRepeats
open Go.RowKit Go.ChangeShapes Go.WideShapes Go.ChangeAt
open Go.ChangeMaps (open_string shut_string)
set_option maxRecDepth 100000 in
theorem contract (H : Type) (enc : TypeId × Value → H) (W : World) (base : Nat) (args : Array Value) (ds gs : List (DataW H)) (before : List MemPlace)
    (hval : ∀ (j : Nat) t v, Try.f7.params[j]? = some t → args[j]? = some v → Value.okWide Try.prog W .any base t v)
    (hW : DataW.Whole enc Try.prog Try.f7.params.toList Rows.uniqRepeatsSpec.vars false W args.toList ds gs before) (hk : Rows.uptoSmall H (ds ++ gs) = true) :
    Calls Try.prog 7 args W fun e W' => ∃ v, e = .returned v ∧ Rows.uniqRepeatsSpec.post enc Try.prog Try.f7 false true false false W args v W' := by
  have hW' := hW
  have hlt := fun p hp => hW.lt p hp
  obtain ⟨p, q, hA0, hV, rfl, hfz, hnd⟩ := hW
  have hA : DataW.TrodAll enc Try.prog W 0 (fun _ => true) true Try.f7.params.toList args.toList ds p := hA0
  rw [Try.params7] at hA hval
  obtain ⟨v0, vs0, d0, ds0, p0, q0, hargs, e0, f0, h0, r0⟩ := trodAll_cons hA
  obtain ⟨z1, z2, z3⟩ := trodAll_nil r0
  subst z1 z2 z3
  subst e0 f0
  obtain rfl : args = #[v0] := by cases args; simp_all
  obtain ⟨rfl, rfl⟩ := trodVars_none hV
  clear hA0 hA hargs
  simp only [List.append_nil] at hW' hk hlt
  have hbulk := bulk_of hk
  simp only [Rows.uptoBulkAll] at hbulk
  have hx0 := h0
  obtain ⟨fu0, hf0⟩ := hx0
  obtain ⟨Al0, cl0, l, hcs0, hc10, hc20, hR0, hu0, hb0⟩ := open_u16s hf0
  obtain ⟨Bl0, nl0, ml0, rfl⟩ := okWide_slice Try.underlying60 (hval 0 60 _ rfl rfl)
  obtain ⟨rfl, rfl, rfl⟩ : Bl0 = Al0 ∧ nl0 = l.length ∧ ml0 = cl0 := by simpa [Value.cells] using hcs0
  replace hb0 : l.length + 1 ≤ Rows.uptoBulk d0 := hb0
  refine (uniqRepeats_ok l Bl0 ml0 W (by omega) hu0 hR0).mono fun e W' ⟨he, hbe⟩ => ?_
  subst he
  refine ⟨_, rfl, post_of_below (pa := p0 ++ ([] : List MemPlace)) (pv := []) hW' (fun _ _ _ => trodAll_cons_mk (shut_bool Try.underlying4 _) trodAll_mk0) (fun sp hsp => ?_) (fun _ _ => rfl) (by simp) hbe (ok_one (by kernel_rfl) rfl (okWide_bool_mk Try.underlying4 _))⟩
  rw [Try.params7]
  exact trodAll_cons_mk (trod_kept (by kernel_rfl) (of_decide_eq_true (by kernel_rfl)) h0 hbe (fun x hx => hlt x (by simp [hx])) (fun x hx => hsp x (by simp [hx]))) (trodAll_mk0)
set_option maxRecDepth 100000 in
theorem lifted (os : Os) (started : os.Started) (H : Type) (enc : TypeId × Value → H) (F : Stop.Interp) :
    ReturnsInHanded {} Try.checked os 7 .any ((Rows.OpenSpec.upto Rows.uniqRepeatsSpec).pre6 enc Try.prog Try.f7 Rows.uniqRepeatsUptoRow.domain false) (((Rows.OpenSpec.upto Rows.uniqRepeatsSpec).at F).post enc Try.prog Try.f7 false true false false) := by
  refine returnsInHanded_of_cond (C := Try.checked) (s := Rows.OpenSpec.upto Rows.uniqRepeatsSpec) (k := Rows.uptoSmall) rfl own started (by kernel_rfl) Try.func7
    (OpenSpec.witness (enc := enc) (C := Try.checked) (s := Rows.OpenSpec.upto Rows.uniqRepeatsSpec) (k := Rows.uptoSmall) rfl false ⟨#[], #[.slice none 0 0], []⟩ 8 (by kernel_rfl) (by kernel_rfl) (by kernel_rfl)
      (x := ([.nil], [], [])) (by kernel_rfl) rfl (by kernel_rfl)) ?_
  intro W base args ds gs before hval hW _ hk _
  exact contract H enc W base args ds gs before hval hW hk
theorem proved : Rows.UniqRepeatsUptoSaid :=
  OpenClaim.holds_of_cond 7 Try.f7 rfl rfl rfl rfl rfl rfl rfl ⟨rfl, rfl, rfl, rfl, rfl⟩ rfl rfl rfl rfl rfl (by kernel_rfl) Try.func7 (by kernel_rfl)
    (of_decide_eq_true (by kernel_rfl)) (by unfold Func.isWrapper; first | (rw [if_pos (by decide +kernel)]; kernel_rfl) | (rw [if_neg (by decide +kernel)]; exact ⟨rfl, rfl⟩))
    (fun os started H enc _ F => lifted os started H enc F)
end Go.Proofs.Ytgkodbejnbfakaa.lUniqRepeats
