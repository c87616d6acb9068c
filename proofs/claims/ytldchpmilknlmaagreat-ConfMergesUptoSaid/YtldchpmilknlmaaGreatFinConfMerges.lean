/-
  The law ConfMerges returns true for every input whose bulk is at most 1048576 (the statement ConfMergesUptoSaid), and each argument reads behind the call as it read before.
  Condition: the statement's own (the arguments hold together at most 1048576 values and letters).
-/
import Derived.Test.YtldchpmilknlmaaGreatShell
import Derived.Test.YtldchpmilknlmaaGreatLaw05Merge
namespace Go.Proofs.YtldchpmilknlmaaGreat.lConfMerges
open Go.RowKit Go.ChangeShapes Go.WideShapes Go.ChangeAt
open Go.ChangeMaps (open_string shut_string)
set_option maxRecDepth 100000 in
theorem contract (H : Type) (enc : TypeId × Value → H) (W : World) (base : Nat) (args : Array Value) (ds gs : List (DataW H)) (before : List MemPlace)
    (hval : ∀ (j : Nat) t v, Tryz.f5.params[j]? = some t → args[j]? = some v → Value.okWide Tryz.prog W .any base t v)
    (hW : DataW.Whole enc Tryz.prog Tryz.f5.params.toList Rows.confMergesSpec.vars false W args.toList ds gs before) (hk : Rows.uptoSmall H (ds ++ gs) = true) :
    Calls Tryz.prog 5 args W fun e W' => ∃ v, e = .returned v ∧ Rows.confMergesSpec.post enc Tryz.prog Tryz.f5 false true false false W args v W' := by
  have hW' := hW
  have hlt := fun p hp => hW.lt p hp
  obtain ⟨p, q, hA0, hV, rfl, hfz, hnd⟩ := hW
  have hA : DataW.TrodAll enc Tryz.prog W 0 (fun _ => true) true Tryz.f5.params.toList args.toList ds p := hA0
  rw [Tryz.params5] at hA hval
  obtain ⟨v0, vs0, d0, ds0, p0, q0, hargs, e0, f0, h0, r0⟩ := trodAll_cons hA
  obtain ⟨v1, vs1, d1, ds1, p1, q1, ha1, e1, f1, h1, r1⟩ := trodAll_cons r0
  obtain ⟨v2, vs2, d2, ds2, p2, q2, ha2, e2, f2, h2, r2⟩ := trodAll_cons r1
  obtain ⟨z1, z2, z3⟩ := trodAll_nil r2
  subst z1 z2 z3
  subst ha2
  subst ha1
  subst e2 f2
  subst e1 f1
  subst e0 f0
  obtain rfl : args = #[v0, v1, v2] := by cases args; simp_all
  obtain ⟨rfl, rfl⟩ := trodVars_none hV
  clear hA0 hA hargs
  simp only [List.append_nil] at hW' hk hlt
  have hbulk := bulk_of hk
  simp only [Rows.uptoBulkAll] at hbulk
  have hx0 := h0
  obtain ⟨fr, rfl, rfl, rfl, w0⟩ := open_int Tryz.underlying22 (hval 0 22 _ rfl rfl) hx0
  have hx1 := h1
  obtain ⟨fu1, hf1⟩ := hx1
  obtain ⟨cs1, rfl, hsz1⟩ := okWide_struct Tryz.underlying29 (hval 1 29 _ rfl rfl)
  obtain ⟨a, A11, A21, A31, A41, A51, c11, c21, c31, c41, c51, hcs1, hR1, hok1, hb1, hb11, hb21⟩ := open_cfg hf1
  replace hb1 : Cfg.total a ≤ Rows.uptoBulk d1 := hb1
  replace hb11 : ∀ p ∈ Cfg.parts a, p.name.size ≤ Rows.uptoBulk d1 := hb11
  replace hb21 : ∀ p ∈ Cfg.ports a, p.name.size ≤ Rows.uptoBulk d1 := hb21
  have hs1 : Cfg.small a := ⟨by unfold BIG; omega, fun p hp => by have := hb11 p hp; unfold BIG; omega, fun p hp => by have := hb21 p hp; unfold BIG; omega⟩
  obtain rfl : cs1 = #[.int .u64 a.frame, .slice A11 a.parts.length c11, .slice A21 a.wins.length c21, .slice A31 a.regs.length c31, .slice A41 a.ports.length c41, .slice A51 a.chans.length c51] := by
    cases cs1; simpa [Value.cells] using hcs1
  have hx2 := h2
  obtain ⟨fu2, hf2⟩ := hx2
  obtain ⟨cs2, rfl, hsz2⟩ := okWide_struct Tryz.underlying29 (hval 2 29 _ rfl rfl)
  obtain ⟨b, A12, A22, A32, A42, A52, c12, c22, c32, c42, c52, hcs2, hR2, hok2, hb2, hb12, hb22⟩ := open_cfg hf2
  replace hb2 : Cfg.total b ≤ Rows.uptoBulk d2 := hb2
  replace hb12 : ∀ p ∈ Cfg.parts b, p.name.size ≤ Rows.uptoBulk d2 := hb12
  replace hb22 : ∀ p ∈ Cfg.ports b, p.name.size ≤ Rows.uptoBulk d2 := hb22
  have hs2 : Cfg.small b := ⟨by unfold BIG; omega, fun p hp => by have := hb12 p hp; unfold BIG; omega, fun p hp => by have := hb22 p hp; unfold BIG; omega⟩
  obtain rfl : cs2 = #[.int .u64 b.frame, .slice A12 b.parts.length c12, .slice A22 b.wins.length c22, .slice A32 b.regs.length c32, .slice A42 b.ports.length c42, .slice A52 b.chans.length c52] := by
    cases cs2; simpa [Value.cells] using hcs2
  refine (confMerges_ok fr w0 a A11 A21 A31 A41 A51 c11 c21 c31 c41 c51 b A12 A22 A32 A42 A52 c12 c22 c32 c42 c52 W hR1 hs1 hok1 hR2 hs2 hok2).mono fun e W' ⟨he, hbe⟩ => ?_
  subst he
  refine ⟨_, rfl, post_of_below (pa := ([] : List MemPlace) ++ (p1 ++ (p2 ++ ([] : List MemPlace)))) (pv := []) hW' (fun _ _ _ => trodAll_cons_mk (shut_bool Tryz.underlying4 _) trodAll_mk0) (fun sp hsp => ?_) (fun _ _ => rfl) (by simp) hbe (ok_one (by kernel_rfl) rfl (okWide_bool_mk Tryz.underlying4 _))⟩
  rw [Tryz.params5]
  exact trodAll_cons_mk (trod_kept (by kernel_rfl) (of_decide_eq_true (by kernel_rfl)) h0 hbe (fun x hx => absurd hx (by simp)) (fun x hx => absurd hx (by simp))) (trodAll_cons_mk (trod_kept (by kernel_rfl) (of_decide_eq_true (by kernel_rfl)) h1 hbe (fun x hx => hlt x (by simp [hx])) (fun x hx => hsp x (by simp [hx]))) (trodAll_cons_mk (trod_kept (by kernel_rfl) (of_decide_eq_true (by kernel_rfl)) h2 hbe (fun x hx => hlt x (by simp [hx])) (fun x hx => hsp x (by simp [hx]))) (trodAll_mk0)))
set_option maxRecDepth 100000 in
theorem lifted (os : Os) (started : os.Started) (H : Type) (enc : TypeId × Value → H) (F : Stop.Interp) :
    ReturnsInHanded {} Tryz.checked os 5 .any ((Rows.OpenSpec.upto Rows.confMergesSpec).pre6 enc Tryz.prog Tryz.f5 Rows.confMergesUptoRow.domain false) (((Rows.OpenSpec.upto Rows.confMergesSpec).at F).post enc Tryz.prog Tryz.f5 false true false false) := by
  refine returnsInHanded_of_cond (C := Tryz.checked) (s := Rows.OpenSpec.upto Rows.confMergesSpec) (k := Rows.uptoSmall) rfl own started (by kernel_rfl) Tryz.func5
    (OpenSpec.witness (enc := enc) (C := Tryz.checked) (s := Rows.OpenSpec.upto Rows.confMergesSpec) (k := Rows.uptoSmall) rfl false ⟨#[], #[.int .u64 0, .agg #[.int .u64 0, .slice none 0 0, .slice none 0 0, .slice none 0 0, .slice none 0 0, .slice none 0 0], .agg #[.int .u64 0, .slice none 0 0, .slice none 0 0, .slice none 0 0, .slice none 0 0, .slice none 0 0]], []⟩ 8 (by kernel_rfl) (by kernel_rfl) (by kernel_rfl)
      (x := ([.lit (.int .u64 0), .agg [.lit (.int .u64 0), .nil, .nil, .nil, .nil, .nil], .agg [.lit (.int .u64 0), .nil, .nil, .nil, .nil, .nil]], [], [])) (by kernel_rfl) rfl (by kernel_rfl)) ?_
  intro W base args ds gs before hval hW _ hk _
  exact contract H enc W base args ds gs before hval hW hk
theorem proved : Rows.ConfMergesUptoSaid :=
  OpenClaim.holds_of_cond 5 Tryz.f5 rfl rfl rfl rfl rfl rfl rfl ⟨rfl, rfl, rfl, rfl, rfl⟩ rfl rfl rfl rfl rfl (by kernel_rfl) Tryz.func5 (by kernel_rfl)
    (of_decide_eq_true (by kernel_rfl)) (by unfold Func.isWrapper; first | (rw [if_pos (by decide +kernel)]; kernel_rfl) | (rw [if_neg (by decide +kernel)]; exact ⟨rfl, rfl⟩))
    (fun os started H enc _ F => lifted os started H enc F)
end Go.Proofs.YtldchpmilknlmaaGreat.lConfMerges
