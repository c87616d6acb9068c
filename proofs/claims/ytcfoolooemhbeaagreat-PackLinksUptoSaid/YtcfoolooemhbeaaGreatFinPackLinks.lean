/-
  The law PackLinks returns true for every input whose bulk is at most 1048576 (the statement PackLinksUptoSaid), and each argument reads behind the call as it read before.
  Condition: the statement's own (the arguments hold together at most 1048576 values and letters).
-/
import Derived.Test.YtcfoolooemhbeaaGreatShell
import Derived.Test.YtcfoolooemhbeaaGreatLaw11l
import Derived.Test.YtcfoolooemhbeaaGreatOpenC
namespace Go.Proofs.YtcfoolooemhbeaaGreat.lPackLinks
open Go.RowKit Go.ChangeShapes Go.WideShapes Go.ChangeAt
open Go.ChangeMaps (open_string shut_string)
set_option maxRecDepth 100000 in
theorem contract (H : Type) (enc : TypeId × Value → H) (W : World) (base : Nat) (args : Array Value) (ds gs : List (DataW H)) (before : List MemPlace)
    (hval : ∀ (j : Nat) t v, Tryz.f4.params[j]? = some t → args[j]? = some v → Value.okWide Tryz.prog W .any base t v)
    (hW : DataW.Whole enc Tryz.prog Tryz.f4.params.toList Rows.packLinksSpec.vars false W args.toList ds gs before) (hk : Rows.uptoSmall H (ds ++ gs) = true) :
    Calls Tryz.prog 4 args W fun e W' => ∃ v, e = .returned v ∧ Rows.packLinksSpec.post enc Tryz.prog Tryz.f4 false true false false W args v W' := by
  have hW' := hW
  have hlt := fun p hp => hW.lt p hp
  obtain ⟨p, q, hA0, hV, rfl, hfz, hnd⟩ := hW
  have hA : DataW.TrodAll enc Tryz.prog W 0 (fun _ => true) true Tryz.f4.params.toList args.toList ds p := hA0
  rw [Tryz.params4] at hA hval
  obtain ⟨v0, vs0, d0, ds0, p0, q0, hargs, e0, f0, h0, r0⟩ := trodAll_cons hA
  obtain ⟨z1, z2, z3⟩ := trodAll_nil r0
  subst z1 z2 z3
  subst e0 f0
  obtain rfl : args = #[v0] := by cases args; simp_all
  obtain ⟨rfl, rfl⟩ := trodVars_none hV
  clear hA0 hA hargs
  simp only [List.append_nil] at hW' hk hlt
  have hbulk := bulk_of hk
  simp only [Rows.uptoBulkAll] at hbulk
  have hx0 := h0
  obtain ⟨fu0, hf0⟩ := hx0
  obtain ⟨Al0, cl0, l, rs0, hcs0, hc10, hc20, hC0, hR0, hb0⟩ := open_chns hf0
  obtain ⟨Bl0, nl0, ml0, rfl⟩ := okWide_slice Tryz.underlying27 (hval 0 27 _ rfl rfl)
  obtain ⟨rfl, rfl, rfl⟩ : Bl0 = Al0 ∧ nl0 = l.length ∧ ml0 = cl0 := by simpa [Value.cells] using hcs0
  replace hb0 : sumDests l + l.length + 1 ≤ Rows.uptoBulk d0 := hb0
  refine (packLinks_ok l rs0 Bl0 ml0 W hC0 hR0 hc10 hc20 (lC_small (by omega))).mono fun e W' ⟨he, hbe⟩ => ?_
  subst he
  refine ⟨_, rfl, post_of_below (pa := p0 ++ ([] : List MemPlace)) (pv := []) hW' (fun _ _ _ => trodAll_cons_mk (shut_bool Tryz.underlying4 _) trodAll_mk0) (fun sp hsp => ?_) (fun _ _ => rfl) (by simp) hbe (ok_one (by kernel_rfl) rfl (okWide_bool_mk Tryz.underlying4 _))⟩
  rw [Tryz.params4]
  exact trodAll_cons_mk (trod_kept (by kernel_rfl) (of_decide_eq_true (by kernel_rfl)) h0 hbe (fun x hx => hlt x (by simp [hx])) (fun x hx => hsp x (by simp [hx]))) (trodAll_mk0)
set_option maxRecDepth 100000 in
theorem lifted (os : Os) (started : os.Started) (H : Type) (enc : TypeId × Value → H) (F : Stop.Interp) :
    ReturnsInHanded {} Tryz.checked os 4 .any ((Rows.OpenSpec.upto Rows.packLinksSpec).pre6 enc Tryz.prog Tryz.f4 Rows.packLinksUptoRow.domain false) (((Rows.OpenSpec.upto Rows.packLinksSpec).at F).post enc Tryz.prog Tryz.f4 false true false false) := by
  refine returnsInHanded_of_cond (C := Tryz.checked) (s := Rows.OpenSpec.upto Rows.packLinksSpec) (k := Rows.uptoSmall) rfl own started (by kernel_rfl) Tryz.func4
    (OpenSpec.witness (enc := enc) (C := Tryz.checked) (s := Rows.OpenSpec.upto Rows.packLinksSpec) (k := Rows.uptoSmall) rfl false ⟨#[], #[.slice none 0 0], []⟩ 8 (by kernel_rfl) (by kernel_rfl) (by kernel_rfl)
      (x := ([.nil], [], [])) (by kernel_rfl) rfl (by kernel_rfl)) ?_
  intro W base args ds gs before hval hW _ hk _
  exact contract H enc W base args ds gs before hval hW hk
theorem and_t {a b : Bool} (ha : a = true) (hb : b = true) : (a && b) = true := by rw [ha, hb]; rfl
theorem named_f : Tryz.prog.funcNamed Rows.packLinksUptoRow.func = some 4 := by kernel_rfl
set_option maxRecDepth 100000 in
set_option maxHeartbeats 16000000 in
theorem closed : joinedFacts Tryz.prog 4 Tryz.f4 (Rows.OpenSpec.upto Rows.packLinksSpec).bare Rows.packLinksUptoRow = true := by
  unfold joinedFacts
  repeat' (with_reducible apply and_t)
  all_goals (as_aux_lemma => kernel_rfl)
theorem proved : Rows.PackLinksUptoSaid :=
  OpenClaim.holds_of_cond 4 Tryz.f4 rfl rfl rfl rfl rfl rfl rfl ⟨rfl, rfl, rfl, rfl, rfl⟩ rfl rfl rfl rfl rfl named_f Tryz.func4 closed
    (of_decide_eq_true (by kernel_rfl)) (by unfold Func.isWrapper; first | (rw [if_pos (by decide +kernel)]; kernel_rfl) | (rw [if_neg (by decide +kernel)]; exact ⟨rfl, rfl⟩))
    (fun os started H enc _ F => lifted os started H enc F)
end Go.Proofs.YtcfoolooemhbeaaGreat.lPackLinks
