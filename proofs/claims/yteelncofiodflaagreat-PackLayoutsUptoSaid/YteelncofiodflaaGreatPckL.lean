/-
  Layout of package pack, walked.
-/
import Derived.Deep.WholeRow
import Derived.Test.YteelncofiodflaaGreatBoxC
import Derived.Test.YteelncofiodflaaGreatConA
import Derived.Test.YteelncofiodflaaGreatTabF
import Derived.Test.YteelncofiodflaaGreatInvX
namespace Go.Proofs.YteelncofiodflaaGreat
open Go.RowKit
@[reducible] def tabZ:Array Value:= #[.int .u64 0, .int .i64 0, .int .i64 0, .int .i64 0, .int .i64 0, .int .i64 0, .int .i64 0, .int .i64 0, .int .i64 0, .int .i64 0, .int .i64 0, .int .i64 0, .int .i64 0, .int .i64 0, .int .i64 0, .int .i64 0]
theorem setRow_blk {U:World} {g:Nat} {t:TypeId} {cs:Array Value} (h:Blk U g t cs) (T:Array Value):Blk (U.setRow g T) g t T:=setRow_heap U g _ _ _ _ h
set_option maxRecDepth 100000 in
set_option maxHeartbeats 8000000 in
theorem pckLayout_gen (c:Cfg) (A1 A2 A3 A4 A5:Option Addr) (c1 c2 c3 c4 c5:Nat) (w:World) (hR:CfgR w w.heap.size c A1 A2 A3 A4 A5 c1 c2 c3 c4 c5) (ht:c.total≤4194304) (T:Array Value) (b:Bool) (hs:T.size=16) (h1:T.all (·.oneCell')=true)
  (hF: ∀U,Calls Tryz.prog 10 #[.int .u64 c.frame, .agg (cntCl (cntOf c))] U fun e w'=>e= .returned (.tuple #[.agg T, .bool b])∧Below U.heap.size U w'):Calls Tryz.prog 6 #[cfgV c.frame A1 A2 A3 A4 A5 c.parts.length c.wins.length c.regs.length c.ports.length c.chans.length c1 c2 c3 c4 c5] w fun e w'=>e= .returned (.tuple #[.agg T, .bool b])∧Below w.heap.size w w':=by
 obtain ⟨W0,hW,st⟩:=St.start_any hR 29
 have HW:=Lib.hid hW
 have e0:W0.heap.size=w.heap.size+1:=by rw [←hW];simp
 have hres:=Blk.new W0 34 tabZ
 have hb1:=below_one W0 (.cells tabZ 34)
 obtain ⟨W1,hW1⟩: ∃W1,W0.alloc (.cells tabZ 34)=W1:=⟨_,rfl⟩
 rw [hW1] at hres hb1
 rw [e0] at hres
 have HW1:=Lib.hid hW1
 have HRES:=Lib.hid hres
 have ST1:=Lib.hid (st.up hb1)
 have HF:=Lib.hid hF
 have HS:=Lib.hid hs
 have HO:=Lib.hid h1
 have HTI:=Lib.hid (show (Tryz.prog.info? 34).map (·.size)=some T.size by rw [hs];kernel_rfl)
 clear hR hW st hres hb1 hW1 e0 hs h1 hF
 go_enter Tryz.func6,Tryz.ntmps6
 go_upto_region 1 with (fail)
 rw [HW.out,HW1.out]
 refine wp_region_M 4 7 3 8 7 _ _ rfl (.inr rfl) (.inl rfl) (by decide) rfl rfl rfl rfl (by decide) (by kernel_rfl) (by kernel_rfl) (by kernel_rfl) (by kernel_rfl) (Nat.le_of_ble_eq_true (by kernel_rfl))
  [.pointer (some ⟨w.heap.size,0,none⟩), .int .u64 c.frame,cfgV c.frame A1 A2 A3 A4 A5 c.parts.length c.wins.length c.regs.length c.ports.length c.chans.length c1 c2 c3 c4 c5, .agg (cntCl (cntOf c)), .tuple #[.agg T, .bool b], .agg T, .bool b,undef, .bool b]
  (fun _=>false) (fun _ _ _=>True)
  (fun U=>St w (U) c A1 A2 A3 A4 A5 c1 c2 c3 c4 c5∧ ∃cs,Blk U (w.heap.size+1) 34 cs∧cs.size=T.size) (fun U=>Blk U (w.heap.size+1) 34 T) (fun _ _=>True)
  ⟨ST1.out.up (Below.refl _ _).drew,_,HRES.out.below (Below.refl _ _).drew HRES.out.lt,by rw [HS.out];rfl⟩
  (fun U V ⟨h,cs,hk,hz⟩ hb=>⟨h.up hb,cs,hk.below hb hk.lt,hz⟩) (fun U V hk hb=>hk.below hb hk.lt) (fun _ v U V _ hv hb=>trivial) (fun _ v U V _ _ hv _=>trivial) ?hop ?hstore ?hend
 case hop=>
  intro i o ho hne U hE ρ r0 rf r1 r2
  obtain ⟨hst,_⟩:=hE
  obtain ⟨x0,x1,x2,x3,x4,x5,hz⟩:=hst.cells
  match i,ho with
  |0,ho=>
   cases ho
   have q1:=r1 1 (by decide) (by decide)
   refine RunsTo.val _ (V:=U) ?_ ⟨Below.refl _ _,SC.ofV rfl⟩
   simp only [execOp]
   go_simp
  |1,ho=>
   cases ho
   have q4:ρ (.tmp (4+0))=_:=(r2 {on:=0,ground:= .data} (by simp) rfl (by decide)).val rfl
   refine RunsTo.val _ (V:=U) ?_ ⟨Below.refl _ _,SC.ofV rfl⟩
   simp only [execOp]
   go_simp
  |2,ho=>
   cases ho
   have q1:=r1 1 (by decide) (by decide)
   refine RunsTo.val _ (V:=U) ?_ ⟨Below.refl _ _,SC.ofV rfl⟩
   simp only [execOp]
   go_simp
  |3,ho=>
   cases ho
   have q6:ρ (.tmp (4+2))=_:=(r2 {on:=2,ground:= .data} (by simp) rfl (by decide)).val rfl
   refine RunsTo.call (V:=U) 11 #[cfgV c.frame A1 A2 A3 A4 A5 c.parts.length c.wins.length c.regs.length c.ports.length c.chans.length c1 c2 c3 c4 c5] ?_ ?_
   ·simp only [execOp]
    go_simp
   ·refine (countsW_ok c _ _ _ _ _ _ _ _ _ _ _ hst.R ht).mono ?_
    rintro e V ⟨rfl,hb⟩
    exact ⟨_,rfl,hb,SC.ofV rfl⟩
  |4,ho=>
   cases ho
   have q5:ρ (.tmp (4+1))=_:=(r2 {on:=1,ground:= .data} (by simp) rfl (by decide)).val rfl
   have q7:ρ (.tmp (4+3))=_:=(r2 {on:=3,ground:= .data} (by simp) rfl (by decide)).val rfl
   refine RunsTo.call (V:=U) 10 #[.int .u64 c.frame, .agg (cntCl (cntOf c))] ?_ ?_
   ·simp only [execOp]
    go_simp
   ·refine (HF.out U).mono ?_
    rintro e V ⟨rfl,hb⟩
    exact ⟨_,rfl,hb,SC.ofV rfl⟩
  |5,ho=>
   cases ho
   have q8:ρ (.tmp (4+4))=_:=(r2 {on:=4,ground:= .data} (by simp) rfl (by decide)).val rfl
   refine RunsTo.val _ (V:=U) ?_ ⟨Below.refl _ _,SC.ofV rfl⟩
   simp only [execOp]
   go_simp
  |6,ho=>
   cases ho
   have q8:ρ (.tmp (4+4))=_:=(r2 {on:=4,ground:= .data} (by simp) rfl (by decide)).val rfl
   refine RunsTo.val _ (V:=U) ?_ ⟨Below.refl _ _,SC.ofV rfl⟩
   simp only [execOp]
   go_simp
  |7,ho=>exact absurd rfl hne
  |8,ho=>
   cases ho
   have q10:ρ (.tmp (4+6))=_:=(r2 {on:=6,ground:= .data} (by simp) rfl (by decide)).val rfl
   refine RunsTo.val _ (V:=U) ?_ ⟨Below.refl _ _,SC.ofV rfl⟩
   simp only [execOp]
   go_simp
  |k+9,ho=>exact absurd ho (by simp)
 case hstore=>
  rintro os ho U ⟨hst,cs,hk,hz⟩ ρ r0 r1 r2
  cases ho
  have q2:=r1 2 (by decide) (by decide)
  have q9:ρ (.tmp (4+5))=_:=(r2 {on:=5,ground:= .data} (by simp) rfl (by decide)).val rfl
  have q2:ρ (.tmp 2)= .pointer (some ⟨w.heap.size+1,0,none⟩):=q2
  have q9:ρ (.tmp 9)= .agg T:=q9
  refine ⟨U.setRow (w.heap.size+1) T, ?_,⟨hst.keep (below_setRow (Below.refl _ _) (Nat.le_refl _) _),T,setRow_blk hk T,rfl⟩,trivial,setRow_blk hk T⟩
  simp only [List.getElem_toArray,List.getElem_cons_succ,List.getElem_cons_zero,execOp,q2,q9,Instr.storeAt,Instr.sureAddr,Sem.run_bind,Sem.run_pure,Result.andThen_ok,run_storeVar_row U (w.heap.size+1) _ 34 cs T hk HTI.out hz HO.out]
 case hend=>
  rintro u U ⟨hst,_⟩ hk hS
  have e8:=(hS 8 (by decide) (by decide)).val rfl
  clear hS
  simp only [mkM,mkL,mkAt,List.take_succ_cons,List.take_zero,List.drop_succ_cons,List.drop_nil,List.range,List.range.loop,List.map_cons,List.map_nil,List.cons_append,List.nil_append,List.append_nil,List.setIfInBounds_toArray,List.set_cons_succ,List.set_cons_zero,e8,if_true]
  have hrow:=run_loadVar_row (P:=Tryz.prog) U (w.heap.size+1) _ 34 _ _ _ hk Tryz.underlying34 rfl HTI.out
  have HZ:=Lib.hid hst.bel
  go_wp2
  refine bodyPost_ret (v:= .tuple #[.agg T, .bool b]) (by simp [results,Tryz.results6,asAddr,hrow]) rfl ⟨rfl,HZ.out⟩
theorem pckLayout_ok (c:Cfg) (A1 A2 A3 A4 A5:Option Addr) (c1 c2 c3 c4 c5:Nat) (w:World) (hR:CfgR w w.heap.size c A1 A2 A3 A4 A5 c1 c2 c3 c4 c5) (ht:c.total≤4194304) (hf:wU64 c.frame) (hl: ∀s,1≤s→s≤6→cntOf c s≤limN s):Calls Tryz.prog 6 #[cfgV c.frame A1 A2 A3 A4 A5 c.parts.length c.wins.length c.regs.length c.ports.length c.chans.length c1 c2 c3 c4 c5] w fun e w'=>e= .returned (.tuple #[.agg (tabCl c.frame (cntOf c)), .bool true])∧Below w.heap.size w w':=by
 have hn: ∀s,cntOf c s≤1048576:=fun s=>by
  match s with
  |0=>exact Nat.zero_le _
  |1=>exact Nat.le_trans (hl 1 (by decide) (by decide)) (by decide)
  |2=>exact Nat.le_trans (hl 2 (by decide) (by decide)) (by decide)
  |3=>exact Nat.le_trans (hl 3 (by decide) (by decide)) (by decide)
  |4=>exact Nat.le_trans (hl 4 (by decide) (by decide)) (by decide)
  |5=>exact Nat.le_trans (hl 5 (by decide) (by decide)) (by decide)
  |6=>exact Nat.le_trans (hl 6 (by decide) (by decide)) (by decide)
  |_+7=>exact Nat.zero_le _
 exact pckLayout_gen c _ _ _ _ _ _ _ _ _ _ _ hR ht (tabCl c.frame (cntOf c)) true rfl (by simp [tabCl,Value.oneCell']) (fun U=>tabFor_ok c.frame (cntOf c) hf hn hl U)
end Go.Proofs.YteelncofiodflaaGreat
