/-
  The law PackLayouts returns true for every input whose bulk is at most 1048576 (the statement PackLayoutsUptoSaid), and each argument reads behind the call as it read before.
  Condition: the statement's own (the arguments hold together at most 1048576 values and letters).
-/
import Derived.Test.YteelncofiodflaaGreatShell
import Derived.Test.YteelncofiodflaaGreatLaw11y
namespace Go.Proofs.YteelncofiodflaaGreat.lPackLayouts
open Go.RowKit Go.ChangeShapes Go.WideShapes Go.ChangeAt
open Go.ChangeMaps (open_string shut_string)
set_option maxRecDepth 100000 in
theorem contract (H:Type) (enc:TypeId × Value→H) (W:World) (base:Nat) (args:Array Value) (ds gs:List (DataW H)) (before:List MemPlace)
  (hval: ∀(j:Nat) t v,Tryz.f3.params[j]? =some t→args[j]? =some v→Value.okWide Tryz.prog W .any base t v)
  (hW:DataW.Whole enc Tryz.prog Tryz.f3.params.toList Rows.packLayoutsSpec.vars false W args.toList ds gs before) (hk:Rows.uptoSmall H (ds++gs)=true):
  Calls Tryz.prog 3 args W fun e W'=> ∃v,e= .returned v∧Rows.packLayoutsSpec.post enc Tryz.prog Tryz.f3 false true false false W args v W':=by
 have hW':=hW
 have hlt:=fun p hp=>hW.lt p hp
 obtain ⟨p,q,hA0,hV,rfl,hfz,hnd⟩:=hW
 have hA:DataW.TrodAll enc Tryz.prog W 0 (fun _=>true) true Tryz.f3.params.toList args.toList ds p:=hA0
 rw [Tryz.params3] at hA hval
 obtain ⟨v0,vs0,d0,ds0,p0,q0,hargs,e0,f0,h0,r0⟩:=trodAll_cons hA
 obtain ⟨z1,z2,z3⟩:=trodAll_nil r0
 subst z1 z2 z3
 subst e0 f0
 obtain rfl:args= #[v0]:=by cases args;simp_all
 obtain ⟨rfl,rfl⟩:=trodVars_none hV
 clear hA0 hA hargs
 simp only [List.append_nil] at hW' hk hlt
 have hbulk:=bulk_of hk
 simp only [Rows.uptoBulkAll] at hbulk
 have hx0:=h0
 obtain ⟨fu0,hf0⟩:=hx0
 obtain ⟨cs0,rfl,hsz0⟩:=okWide_struct Tryz.underlying29 (hval 0 29 _ rfl rfl)
 obtain ⟨c,A10,A20,A30,A40,A50,c10,c20,c30,c40,c50,hcs0,hR0,hok0,hb0,hb10,hb20⟩:=open_cfg hf0
 replace hb0:Cfg.total c≤Rows.uptoBulk d0:=hb0
 replace hb10: ∀p ∈ Cfg.parts c,p.name.size≤Rows.uptoBulk d0:=hb10
 replace hb20: ∀p ∈ Cfg.ports c,p.name.size≤Rows.uptoBulk d0:=hb20
 have hs0:Cfg.small c:=⟨by unfold BIG;omega,fun p hp=>by have:=hb10 p hp;unfold BIG;omega,fun p hp=>by have:=hb20 p hp;unfold BIG;omega⟩
 obtain rfl:cs0= #[.int .u64 c.frame, .slice A10 c.parts.length c10, .slice A20 c.wins.length c20, .slice A30 c.regs.length c30, .slice A40 c.ports.length c40, .slice A50 c.chans.length c50]:=by
  cases cs0;simpa [Value.cells] using hcs0
 refine (packLayouts_ok c A10 A20 A30 A40 A50 c10 c20 c30 c40 c50 W hR0 hs0 hok0).mono fun e W' ⟨he,hbe⟩=> ?_
 subst he
 refine ⟨_,rfl,post_of_below (pa:=p0++([]:List MemPlace)) (pv:= []) hW' (fun _ _ _=>trodAll_cons_mk (shut_bool Tryz.underlying4 _) trodAll_mk0) (fun sp hsp=> ?_) (fun _ _=>rfl) (by simp) hbe (ok_one (by kernel_rfl) rfl (okWide_bool_mk Tryz.underlying4 _))⟩
 rw [Tryz.params3]
 exact trodAll_cons_mk (trod_kept (by kernel_rfl) (of_decide_eq_true (by kernel_rfl)) h0 hbe (fun x hx=>hlt x (by simp [hx])) (fun x hx=>hsp x (by simp [hx]))) (trodAll_mk0)
set_option maxRecDepth 100000 in
theorem lifted (os:Os) (started:os.Started) (H:Type) (enc:TypeId × Value→H) (F:Stop.Interp):
  ReturnsInHanded {} Tryz.checked os 3 .any ((Rows.OpenSpec.upto Rows.packLayoutsSpec).pre6 enc Tryz.prog Tryz.f3 Rows.packLayoutsUptoRow.domain false) (((Rows.OpenSpec.upto Rows.packLayoutsSpec).at F).post enc Tryz.prog Tryz.f3 false true false false):=by
 refine returnsInHanded_of_cond (C:=Tryz.checked) (s:=Rows.OpenSpec.upto Rows.packLayoutsSpec) (k:=Rows.uptoSmall) rfl own started (by kernel_rfl) Tryz.func3
  (OpenSpec.witness (enc:=enc) (C:=Tryz.checked) (s:=Rows.OpenSpec.upto Rows.packLayoutsSpec) (k:=Rows.uptoSmall) rfl false ⟨#[],#[.agg #[.int .u64 0, .slice none 0 0, .slice none 0 0, .slice none 0 0, .slice none 0 0, .slice none 0 0]],[]⟩ 8 (by kernel_rfl) (by kernel_rfl) (by kernel_rfl)
   (x:=([.agg [.lit (.int .u64 0), .nil, .nil, .nil, .nil, .nil]],[],[])) (by kernel_rfl) rfl (by kernel_rfl)) ?_
 intro W base args ds gs before hval hW _ hk _
 exact contract H enc W base args ds gs before hval hW hk
theorem and_t {a b:Bool} (ha:a=true) (hb:b=true):(a&&b)=true:=by rw [ha,hb];rfl
theorem named_f:Tryz.prog.funcNamed Rows.packLayoutsUptoRow.func=some 3:=by kernel_rfl
set_option maxRecDepth 100000 in
set_option maxHeartbeats 16000000 in
theorem closed:joinedFacts Tryz.prog 3 Tryz.f3 (Rows.OpenSpec.upto Rows.packLayoutsSpec).bare Rows.packLayoutsUptoRow=true:=by
 unfold joinedFacts
 repeat' (with_reducible apply and_t)
 all_goals (as_aux_lemma=>kernel_rfl)
theorem proved:Rows.PackLayoutsUptoSaid:=
 OpenClaim.holds_of_cond 3 Tryz.f3 rfl rfl rfl rfl rfl rfl rfl ⟨rfl,rfl,rfl,rfl,rfl⟩ rfl rfl rfl rfl rfl named_f Tryz.func3 closed
  (of_decide_eq_true (by kernel_rfl)) (by unfold Func.isWrapper;first |(rw [if_pos (by decide+kernel)];kernel_rfl) |(rw [if_neg (by decide+kernel)];exact ⟨rfl,rfl⟩))
  (fun os started H enc _ F=>lifted os started H enc F)
end Go.Proofs.YteelncofiodflaaGreat.lPackLayouts
