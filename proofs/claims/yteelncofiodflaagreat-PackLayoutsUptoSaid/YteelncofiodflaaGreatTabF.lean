/-
  For of package table, walked: the layout of an image whose sections are within limits.
-/
import Derived.RangeFuncFrom
import Derived.RegionIn
import Derived.Stop.RegionWithIn
import Derived.Lib.SmallJoins
import Derived.Sort.CutIn
import Derived.Test.YteelncofiodflaaGreatTabZ
import Derived.Test.YteelncofiodflaaGreatInvK
namespace Go.Proofs.YteelncofiodflaaGreat
open Go.RowKit Go.Maps Go.Shelf
attribute [local go_sem] semAt_in
section
variable {F:Fence} {n:Nat} {P:Program}
theorem wpListIn_load_row {ops:Array Oper} {rest:List Oper} {o:Oper} {a:Act} {w:World} {Q:Exit→Act→World→Prop} (hgd:o.guard=none) (ty:TypeId) (x:Operand) (ho:o.op= .load ty x)
  (g:Nat) (hx:a.eval x= .pointer (some ⟨g,0,none⟩)) (t:TypeId) (cs:Array Value) (fr:Nat × Nat) (d:TypeDesc) (hg:w.heap[g]? =some (.cells cs t fr))
  (hu:P.underlying ty=some d) (hd:(match d with | .struct _ | .array _ _=>true |_=>false)=true) (hi:(P.info? ty).map (·.size)=some cs.size)
  (h:wpListIn F n P ops Q rest (a.put o.dst (.agg cs)) w):wpListIn F n P ops Q (o::rest) a w:=by
 refine wpListIn_plain hgd fun K hK=> ?_
 unfold Oper.wpIn
 refine ⟨by simp [Oper.about,ho], ?_⟩
 rw [Oper.semAt_plain F _ _ (by rw [ho];intro c hc';cases hc')]
 simp only [execOp,ho,hx,Instr.loadAt,Instr.sureAddr,Sem.run_bind,Sem.run_pure,Result.andThen_ok,run_loadVar_row w g t ty cs fr d hg hu hd hi]
 exact hK _ _ h
theorem wpListIn_store_row {ops:Array Oper} {rest:List Oper} {o:Oper} {a:Act} {w:World} {Q:Exit→Act→World→Prop} (hgd:o.guard=none) (ty:TypeId) (x y:Operand) (ho:o.op= .store ty x y)
  (g:Nat) (cells:Array Value) (hx:a.eval x= .pointer (some ⟨g,0,none⟩)) (hy:a.eval y= .agg cells)
  (t:TypeId) (old:Array Value) (hg:w.heap[g]? =some (.cells old t (0,0))) (hi:(P.info? ty).map (·.size)=some cells.size)
  (hold:old.size=cells.size) (h1:cells.all (·.oneCell')=true)
  (h:wpListIn F n P ops Q rest (a.put o.dst undef) (w.setRow g cells)):wpListIn F n P ops Q (o::rest) a w:=by
 refine wpListIn_plain hgd fun K hK=> ?_
 unfold Oper.wpIn
 refine ⟨by simp [Oper.about,ho], ?_⟩
 rw [Oper.semAt_plain F _ _ (by rw [ho];intro c hc';cases hc')]
 simp only [execOp,ho,hx,hy,Instr.storeAt,Instr.sureAddr,Sem.run_bind,Sem.run_pure,Result.andThen_ok,run_storeVar_row w g t ty old cells hg hi hold h1]
 exact hK _ _ h
end
theorem below_kept {B C:Nat} {W0 W W':World} {row:Option Nat} (h:Below B W0 W) (hC:B≤C) (hs:B≤W.heap.size) (hg:W.grownBy W' row) (hr: ∀r,row=some r→C≤r):Below B W0 W':=
 ⟨hg.os.trans h.os,hg.tape.trans h.tape,hg.output.trans h.output,Nat.le_trans h.size hg.size,fun k hk=>(hg.block k (by omega) (fun e=>by have:=hr k e.symm;omega)).trans (h.block k hk)⟩
structure Off34 (q:Nat) (V U:World):Prop where
 bel:Below q V U
 off: ∀k,k <V.heap.size→k≠q+3→k≠q+4→U.heap[k]? =V.heap[k]?
theorem Off34.of_below {q:Nat} {V U:World} (h:Below V.heap.size V U) (hq:q≤V.heap.size):Off34 q V U:=⟨h.mono hq,fun k hk _ _=>h.block k hk⟩
theorem Off34.trans {q:Nat} {A B C:World} (h:Off34 q A B) (k:Off34 q B C):Off34 q A C:=⟨h.bel.trans k.bel,fun j hj h3 h4=>(k.off j (Nat.lt_of_lt_of_le hj h.bel.size) h3 h4).trans (h.off j hj h3 h4)⟩
theorem Off34.set3 {q i:Nat} {A B:World} (h:Off34 q A B) (u:Value):Off34 q A (B.setCell ⟨q+3,i,none⟩ u):=⟨h.bel.setCell (p:=⟨q+3,i,none⟩) (show q≤q+3 by omega) u,fun j hj h3 h4=>(Below.heap_setCell B ⟨q+3,i,none⟩ u j h3).trans (h.off j hj h3 h4)⟩
theorem Off34.set4 {q i:Nat} {A B:World} (h:Off34 q A B) (u:Value):Off34 q A (B.setCell ⟨q+4,i,none⟩ u):=⟨h.bel.setCell (p:=⟨q+4,i,none⟩) (show q≤q+4 by omega) u,fun j hj h3 h4=>(Below.heap_setCell B ⟨q+4,i,none⟩ u j h4).trans (h.off j hj h3 h4)⟩
theorem Off34.blk {q g:Nat} {t:TypeId} {cs:Array Value} {A B:World} (h:Off34 q A B) (hb:Blk A g t cs) (h3:g≠q+3) (h4:g≠q+4):Blk B g t cs:=(h.off g hb.lt h3 h4).trans hb
theorem Off34.others {q:Nat} {t3 t4:TypeId} {c3 c4:Array Value} {A B:World} (h:Off34 q A B) (h3:Blk A (q+3) t3 c3) (h4:Blk A (q+4) t4 c4):KeepsOthers A B:=
 ⟨h.bel.size,fun k o hk hc=>(h.off k (Array.getElem?_eq_some_iff.1 hk).1 (fun e=>by subst e;unfold Blk at h3;rw [hk] at h3;cases h3;cases hc) (fun e=>by subst e;unfold Blk at h4;rw [hk] at h4;cases h4;cases hc)).trans hk⟩
theorem tabA_one (f:Int) (t:Nat) (o c:Nat→Nat):(tabA f t o c).all (·.oneCell')=true:=by
 refine Array.all_eq_true_iff_forall_mem.2 fun v hv=> ?_
 simp only [tabA,List.mem_toArray,List.mem_cons,List.mem_append,List.mem_map] at hv
 rcases hv with rfl |rfl |⟨i,_,rfl⟩ |⟨i,_,rfl⟩<;>rfl
def limN:Nat→Nat
 |1=>64
 |2=>1024
 |3=>1024
 |4=>1024
 |5=>512
 |6=>1024
 |_=>0
theorem idxl_1 (w:World):(Instr.index 32 (.agg #[.int .i64 0, .int .i64 64, .int .i64 1024, .int .i64 1024, .int .i64 1024, .int .i64 512, .int .i64 1024]) (.int .i64 1)).run Tryz.prog w= .ok (.int .i64 64) w:=by kernel_rfl
theorem idxl_2 (w:World):(Instr.index 32 (.agg #[.int .i64 0, .int .i64 64, .int .i64 1024, .int .i64 1024, .int .i64 1024, .int .i64 512, .int .i64 1024]) (.int .i64 2)).run Tryz.prog w= .ok (.int .i64 1024) w:=by kernel_rfl
theorem idxl_3 (w:World):(Instr.index 32 (.agg #[.int .i64 0, .int .i64 64, .int .i64 1024, .int .i64 1024, .int .i64 1024, .int .i64 512, .int .i64 1024]) (.int .i64 3)).run Tryz.prog w= .ok (.int .i64 1024) w:=by kernel_rfl
theorem idxl_4 (w:World):(Instr.index 32 (.agg #[.int .i64 0, .int .i64 64, .int .i64 1024, .int .i64 1024, .int .i64 1024, .int .i64 512, .int .i64 1024]) (.int .i64 4)).run Tryz.prog w= .ok (.int .i64 1024) w:=by kernel_rfl
theorem idxl_5 (w:World):(Instr.index 32 (.agg #[.int .i64 0, .int .i64 64, .int .i64 1024, .int .i64 1024, .int .i64 1024, .int .i64 512, .int .i64 1024]) (.int .i64 5)).run Tryz.prog w= .ok (.int .i64 512) w:=by kernel_rfl
theorem idxl_6 (w:World):(Instr.index 32 (.agg #[.int .i64 0, .int .i64 64, .int .i64 1024, .int .i64 1024, .int .i64 1024, .int .i64 512, .int .i64 1024]) (.int .i64 6)).run Tryz.prog w= .ok (.int .i64 1024) w:=by kernel_rfl
attribute [local go_sem] idxl_1 idxl_2 idxl_3 idxl_4 idxl_5 idxl_6
@[reducible] def cntCl (n:Nat→Nat):Array Value:= #[.int .i64 0, .int .i64 (n 1:Nat), .int .i64 (n 2:Nat), .int .i64 (n 3:Nat), .int .i64 (n 4:Nat), .int .i64 (n 5:Nat), .int .i64 (n 6:Nat)]
set_option maxRecDepth 100000 in
set_option maxHeartbeats 4000000 in
theorem tabFor_ok (f:Int) (n:Nat→Nat) (hf:wU64 f) (hn: ∀s,n s≤1048576) (hl: ∀s,1≤s→s≤6→n s≤limN s) (W:World):
  Calls Tryz.prog 10 #[.int .u64 f, .agg (cntCl n)] W fun e w'=>e= .returned (.tuple #[.agg (tabCl f n), .bool true])∧Below W.heap.size W w':=by
 have hfb:=Go.bounds_u64 hf
 have HLM:=Lib.hid hl
 have HI:=Lib.hid (show (Tryz.prog.info? 34).map (·.size)=some 16 from by kernel_rfl)
 obtain ⟨q,hq⟩: ∃q,W.heap.size=q:=⟨_,rfl⟩
 obtain ⟨w1,hw1⟩: ∃w1,W.alloc (.cells (cntCl n) 32)=w1:=⟨_,rfl⟩
 obtain ⟨w2,hw2⟩: ∃w2,w1.alloc (.cells #[.int .u64 0, .int .i64 0, .int .i64 0, .int .i64 0, .int .i64 0, .int .i64 0, .int .i64 0, .int .i64 0, .int .i64 0, .int .i64 0, .int .i64 0, .int .i64 0, .int .i64 0, .int .i64 0, .int .i64 0, .int .i64 0] 34)=w2:=⟨_,rfl⟩
 obtain ⟨w3,hw3⟩: ∃w3,w2.alloc (.cells #[.bool false] 4)=w3:=⟨_,rfl⟩
 obtain ⟨w4,hw4⟩: ∃w4,w3.alloc (.cells (tabA f 0 (fun _=>0) (fun _=>0)) 34)=w4:=⟨_,rfl⟩
 obtain ⟨w5,hw5⟩: ∃w5,w4.alloc (.cells #[.int .i64 80] 3)=w5:=⟨_,rfl⟩
 have s1:w1.heap.size=q+1:=by rw [←hw1, ←hq];simp
 have s2:w2.heap.size=q+2:=by rw [←hw2];simp [s1]
 have s3:w3.heap.size=q+3:=by rw [←hw3];simp [s2]
 have s4:w4.heap.size=q+4:=by rw [←hw4];simp [s3]
 have s5:w5.heap.size=q+5:=by rw [←hw5];simp [s4]
 have b1:Below q W w1:=by rw [←hw1, ←hq];exact (Below.refl _ W).alloc (Nat.le_refl _) _
 have b5:Below q W w5:=by
  rw [←hw5];refine Below.alloc ?_ (by omega) _
  rw [←hw4];refine Below.alloc ?_ (by omega) _
  rw [←hw3];refine Below.alloc ?_ (by omega) _
  rw [←hw2];exact b1.alloc (by omega) _
 have k1:Blk w1 q 32 (cntCl n):=by rw [←hw1, ←hq];exact Blk.new W _ _
 have k2:Blk w2 (q+1) 34 #[.int .u64 0, .int .i64 0, .int .i64 0, .int .i64 0, .int .i64 0, .int .i64 0, .int .i64 0, .int .i64 0, .int .i64 0, .int .i64 0, .int .i64 0, .int .i64 0, .int .i64 0, .int .i64 0, .int .i64 0, .int .i64 0]:=by rw [←hw2, ←s1];exact Blk.new w1 _ _
 have k3:Blk w3 (q+2) 4 #[.bool false]:=by rw [←hw3, ←s2];exact Blk.new w2 _ _
 have k4:Blk w4 (q+3) 34 (tabA f 0 (fun _=>0) (fun _=>0)):=by rw [←hw4, ←s3];exact Blk.new w3 _ _
 have m5:Blk w5 (q+4) 3 #[.int .i64 80]:=by rw [←hw5, ←s4];exact Blk.new w4 _ _
 have m4:Blk w5 (q+3) 34 (tabA f 0 (fun _=>0) (fun _=>0)):=by rw [←hw5];exact k4.alloc _
 have m3:Blk w5 (q+2) 4 #[.bool false]:=by rw [←hw5];refine Blk.alloc ?_ _;rw [←hw4];exact k3.alloc _
 have m2:Blk w5 (q+1) 34 #[.int .u64 0, .int .i64 0, .int .i64 0, .int .i64 0, .int .i64 0, .int .i64 0, .int .i64 0, .int .i64 0, .int .i64 0, .int .i64 0, .int .i64 0, .int .i64 0, .int .i64 0, .int .i64 0, .int .i64 0, .int .i64 0]:=by rw [←hw5];refine Blk.alloc ?_ _;rw [←hw4];refine Blk.alloc ?_ _;rw [←hw3];exact k2.alloc _
 have m1:Blk w5 q 32 (cntCl n):=by rw [←hw5];refine Blk.alloc ?_ _;rw [←hw4];refine Blk.alloc ?_ _;rw [←hw3];refine Blk.alloc ?_ _;rw [←hw2];exact k1.alloc _
 have HQ:=Lib.hid hq
 have HW1:=Lib.hid hw1
 have HW2:=Lib.hid hw2
 have HW3:=Lib.hid hw3
 have HW4:=Lib.hid hw4
 have HW5:=Lib.hid hw5
 have S3:=Lib.hid s3
 have S4:=Lib.hid s4
 have S5:=Lib.hid s5
 have B5:=Lib.hid b5
 have M1:=Lib.hid m1
 have M2:=Lib.hid m2
 have M3:=Lib.hid m3
 have M4:=Lib.hid m4
 have M5:=Lib.hid m5
 clear hw1 hw2 hw3 hw4 hw5 k1 k2 k3 k4 m1 m2 m3 m4 m5 b1 b5 s1 s2 s3 s4 s5 hl hf
 refine (callsIn_wide (n:=5)).1 ?_
 refine callsIn_of_wp_marks Tryz.func10 rfl trivial ?_ rfl
 simp only [Tryz.ntmps10,List.size_toArray,List.length_cons,List.length_nil,Nat.reduceAdd,Nat.reduceSub,Array.replicate_succ,Array.replicate_zero,List.push_toArray,List.append_toArray,List.nil_append,List.cons_append]
 gi_upto_region 1 with (fail)
 rw [HW1.out,HW2.out,HW3.out]
 have s3:=S3.out
 gi_upto_region 2 with (fail)
 have hz:w3.alloc (.cells #[.int .u64 f, .int .i64 0, .int .i64 0, .int .i64 0, .int .i64 0, .int .i64 0, .int .i64 0, .int .i64 0, .int .i64 0, .int .i64 0, .int .i64 0, .int .i64 0, .int .i64 0, .int .i64 0, .int .i64 0, .int .i64 0] 34)=w4:=HW4.out
 rw [hz]
 have s4:=S4.out
 clear hz s3
 gi_upto_region 3 with (fail)
 rw [HW5.out]
 clear s4 hq
 have z5:=S5.out
 gi_wp2_with fail
 refine ⟨trivial,(callsIn_wide.2 (tabSections_ok _)).mono ?_⟩
 rintro e v8 ⟨rfl,rfl⟩
 gi_wp2_with fail
 have hsz:w3.heap.size=q+3:=S3.out
 have hvz:v8.heap.size=q+5:=z5
 refine wpIn_rangeFunc_ownF rfl (by omega) (gf:=95) (lb:= #[]) rfl trivial (enters_of Tryz.func95 (by kernel_rfl) rfl) (sections_stops Fence.wide _ trivial rfl (by omega) v8) walksK_t walksK_b (Below.refl _ _) (fun _=>rfl)
  (fun pre V=>pre.length≤6∧q+5≤V.heap.size∧Blk V q 32 (cntCl n)∧Blk V (q+1) 34 #[.int .u64 0, .int .i64 0, .int .i64 0, .int .i64 0, .int .i64 0, .int .i64 0, .int .i64 0, .int .i64 0, .int .i64 0, .int .i64 0, .int .i64 0, .int .i64 0, .int .i64 0, .int .i64 0, .int .i64 0, .int .i64 0]∧Blk V (q+2) 4 #[.bool false]∧Blk V (q+3) 34 (tabA f 0 (ftab n pre).o (ftab n pre).c)∧Blk V (q+4) 3 #[.int .i64 ((ftab n pre).at_:Nat)]∧Below q W V)
  (fun _ _ _=>False)
  (fun s A B row hs hg hr=>⟨hs.1,Nat.le_trans hs.2.1 hg.size,hs.2.2.1.kept hg (fun r e=>(hr r e).2),hs.2.2.2.1.kept hg (fun r e=>(hr r e).2),hs.2.2.2.2.1.kept hg (fun r e=>(hr r e).2),hs.2.2.2.2.2.1.kept hg (fun r e=>(hr r e).2),hs.2.2.2.2.2.2.1.kept hg (fun r e=>(hr r e).2),below_kept hs.2.2.2.2.2.2.2 (C:=v8.heap.size) (by omega) (by have:=hs.2.1;omega) hg (fun r e=>(hr r e).1)⟩)
  (fun c s A B row hs hg hr=>hs)
  ⟨Nat.zero_le _,by omega,M1.out,M2.out,M3.out,M4.out,M5.out,B5.out⟩
  (fun x=> {tmps:= #[.int .u64 f, .agg (cntCl n),undef, .pointer (some ⟨q,0,none⟩), .pointer (some ⟨q+1,0,none⟩), .pointer (some ⟨q+1+1,0,none⟩), .pointer (some ⟨q+3,0,none⟩), .pointer (some ⟨q+4,0,none⟩), .int .i64 ((x.1:Int)+1), .int .u64 f, .agg #[.int .u64 f, .int .i64 0, .int .i64 0, .int .i64 0, .int .i64 0, .int .i64 0, .int .i64 0, .int .i64 0, .int .i64 0, .int .i64 0, .int .i64 0, .int .i64 0, .int .i64 0, .int .i64 0, .int .i64 0, .int .i64 0], .func (.func 95) #[] #[], .int .i64 ((x.1:Int)+1), .int .i64 (32+8*(x.1:Int)),undef,undef,undef,undef,undef,undef,undef,undef,undef,undef,undef,undef,undef,undef,undef,undef,undef,undef,undef,undef,undef,undef,undef,undef,undef,undef,undef,undef,undef,undef,undef,undef],defers:= []}) ?_ ?_ ?_ ?_
 ·intro l x V K hK
  simp only [secE,List.zip_toArray,List.zip_cons_cons,List.zip_nil_left,List.size_toArray,List.length_cons,List.length_nil,Nat.reduceAdd]
  gi_wp2_with ((rw [Oper.semAt_eq _ _ _ (fun c h=>by cases h)];go_simp;try go_bits))
  exact hK
 ·intro lp pre x V hI hlen
  obtain ⟨hp,hv,h0,h1,h2,h3,h4,hb⟩:=hI
  obtain ⟨at0,hat⟩: ∃a,(ftab n pre).at_=a:=⟨_,rfl⟩
  have hal:at0≤352321706:=by rw [←hat];exact Nat.le_trans (fat_le hn pre) (by have:pre.length≤6:=hp;omega)
  have HAT:=Lib.hid hat
  rw [hat] at h4
  have H0:=Lib.hid h0
  have H1:=Lib.hid h1
  have H2:=Lib.hid h2
  have H3:=Lib.hid h3
  have H4:=Lib.hid h4
  have HB:=Lib.hid hb
  obtain ⟨x,hx⟩:=x
  clear h0 h1 h2 h3 h4 hb hat z5 hvz hsz
  generalize ho3:(ftab n pre).o=o3 at*
  generalize hc3:(ftab n pre).c=c3 at*
  have HO3:=Lib.hid ho3
  have HC3:=Lib.hid hc3
  clear ho3 hc3
  obtain rfl |rfl |rfl |rfl |rfl |rfl:x=0∨x=1∨x=2∨x=3∨x=4∨x=5:=by omega
  ·have p0:=H0.out.cell 1
   have p4:=H4.out.cell 0
   have z0:=H0.out.lt
   have z4:=H4.out.lt
   have z3:=H3.out.lt
   have hle:q≤V.heap.size:=by omega
   simp at p0 p4
   have g1: ¬((n 1:Nat):Int) <0:=by omega
   have g2: ¬64 <((n 1:Nat):Int):=by have:=HLM.out 1 (by decide) (by decide);simp [limN] at this;omega
   have p0d:V.drew.cell? ⟨q,1,none⟩=some (.int .i64 (n 1:Int)):=p0
   have z0d:q <V.drew.heap.size:=z0
   have HV:=Lib.hid (show ∀U,Below V.drew.heap.size V.drew U→U.cell? ⟨q,1,none⟩=some (.int .i64 (n 1:Int))∧q <U.heap.size from fun U hU=>⟨((Blk.below (show Blk V.drew q 32 (cntCl n) from H0.out) hU z0d).cell 1).trans rfl,Nat.lt_of_lt_of_le z0d hU.size⟩)
   gi_wp2
   gi_cut [26] from 14 (fun b wx=>b= .bool false∧Below V.heap.size V wx)
   case first=>
    rename_i q1 k2 a4 q0 k1 a3 k0 a2 j kk a1 a0
    clear a4 a3 a2
    gi_region_with (refine ⟨trivial,((callsIn_wide.2 (tabLimits_ok _)).inRound lp).mono ?_⟩;rintro e v9 ⟨rfl,h6⟩;have pv:=(HV.out _ h6).1;have zv:=(HV.out _ h6).2)
    all_goals
     gi_wp2_with fail
     gi_meet
     case rel=>exact ⟨by simp [g1,g2],(below_drewB V).trans h6⟩
   case rest=>
    obtain ⟨rfl,hb6⟩:=hcut
    have J0:=Lib.hid (H0.out.below hb6 z0)
    have J3:=Lib.hid (H3.out.below hb6 z3)
    have J4:=Lib.hid (H4.out.below hb6 z4)
    have hO6:=Lib.hid (Off34.of_below hb6 hle)
    have hwz:=hb6.size
    clear p0 p4 p0d z0d HV g1 g2 hb6
    have p0d:wc.drew.cell? ⟨q,1,none⟩=some (.int .i64 (n 1:Int)):=(J0.out.cell 1).trans rfl
    have p4d:wc.drew.cell? ⟨q+4,0,none⟩=some (.int .i64 (at0:Int)):=(J4.out.cell 0).trans rfl
    have e3d:wc.drew.cell? ⟨q+3,3,none⟩=some (.int .i64 ((o3 1:Nat):Int)):=(J3.out.cell 3).trans (tabA_off f 0 o3 c3 (i:=1) (by decide))
    have e9d:wc.drew.cell? ⟨q+3,10,none⟩=some (.int .i64 ((c3 1:Nat):Int)):=(J3.out.cell 10).trans (tabA_cnt f 0 o3 c3 (i:=1) (by decide))
    have f3d:wc.drew.frozen? ⟨q+3,3,none⟩=false:=J3.out.frozen 3
    have f9d:wc.drew.frozen? ⟨q+3,10,none⟩=false:=J3.out.frozen 10
    have z0d:q <wc.drew.heap.size:=J0.out.lt
    have z3d:q+3 <wc.drew.heap.size:=J3.out.lt
    have z4d:q+4 <wc.drew.heap.size:=J4.out.lt
    have p0e:wc.cell? ⟨q,1,none⟩=some (.int .i64 (n 1:Int)):=(J0.out.cell 1).trans rfl
    have p4e:wc.cell? ⟨q+4,0,none⟩=some (.int .i64 (at0:Int)):=(J4.out.cell 0).trans rfl
    have e3e:wc.cell? ⟨q+3,3,none⟩=some (.int .i64 ((o3 1:Nat):Int)):=(J3.out.cell 3).trans (tabA_off f 0 o3 c3 (i:=1) (by decide))
    have e9e:wc.cell? ⟨q+3,10,none⟩=some (.int .i64 ((c3 1:Nat):Int)):=(J3.out.cell 10).trans (tabA_cnt f 0 o3 c3 (i:=1) (by decide))
    have f3e:wc.frozen? ⟨q+3,3,none⟩=false:=J3.out.frozen 3
    have f9e:wc.frozen? ⟨q+3,10,none⟩=false:=J3.out.frozen 10
    have z0e:q <wc.heap.size:=J0.out.lt
    have z3e:q+3 <wc.heap.size:=J3.out.lt
    have z4e:q+4 <wc.heap.size:=J4.out.lt
    obtain ⟨D1,hD1⟩: ∃D1,wc.drew.setCell ⟨q+3,3,none⟩ (.int .i64 (at0:Int))=D1:=⟨_,rfl⟩
    obtain ⟨U,hU⟩: ∃U,D1.setCell ⟨q+3,10,none⟩ (.int .i64 ((n 1:Nat):Int))=U:=⟨_,rfl⟩
    have hd:=(Off34.of_below (below_drewB wc) (by omega:q≤wc.heap.size))
    have M3d:Blk D1 (q+3) 34 (tabA f 0 (updN o3 1 at0) c3):=by
     rw [←hD1]
     have h:=(show Blk wc.drew (q+3) 34 (tabA f 0 o3 c3) from J3.out).set_ 3 (.int .i64 (at0:Int))
     rw [tabA_setO f 0 o3 c3 (i:=1) (by decide)] at h
     exact h
    have N3:=Lib.hid (show Blk U (q+3) 34 (tabA f 0 (updN o3 1 at0) (updN c3 1 (n 1))) by
     rw [←hU]
     have h:=M3d.set_ 10 (.int .i64 ((n 1:Nat):Int))
     rw [tabA_setC f 0 _ c3 (i:=1) (by decide)] at h
     exact h)
    have hO1:Off34 q wc D1:=by rw [←hD1];exact hd.set3 (i:=3) _
    have N7:=Lib.hid (show Off34 q V U by rw [←hU];exact hO6.out.trans (hO1.set3 (i:=10) _))
    have r1:=Lib.hid (hO1.blk J0.out (by omega) (by omega))
    have r2:=Lib.hid (show Blk D1 (q+4) 3 #[.int .i64 (at0:Int)] by rw [←hD1];exact (show Blk wc.drew (q+4) 3 #[.int .i64 (at0:Int)] from J4.out).far (p:=⟨q+3,3,none⟩) (show q+4≠q+3 by omega) _)
    have r3:=Lib.hid (show Blk U q 32 (cntCl n) by rw [←hU];exact r1.out.far (p:=⟨q+3,10,none⟩) (show q≠q+3 by omega) _)
    have r4:=Lib.hid (show Blk U (q+4) 3 #[.int .i64 (at0:Int)] by rw [←hU];exact r2.out.far (p:=⟨q+3,10,none⟩) (show q+4≠q+3 by omega) _)
    have r4k:=r4
    obtain ⟨Wd,hWd⟩: ∃Wd:Array Bool→World,Wd=fun l=>if l[11]? =some true then U else if l[8]? =some true then D1 else wc.drew:=⟨_,rfl⟩
    have w1: ∀l,(Wd l).cell? ⟨q,1,none⟩=some (.int .i64 ((n 1:Nat):Int)):=fun l=>by
     rw [hWd];dsimp only;split
     ·exact (r3.out.cell 1).trans rfl
     ·split
      ·exact (r1.out.cell 1).trans rfl
      ·exact (J0.out.cell 1).trans rfl
    have w2: ∀l,(Wd l).cell? ⟨q+4,0,none⟩=some (.int .i64 (at0:Int)):=fun l=>by
     rw [hWd];dsimp only;split
     ·exact (r4.out.cell 0).trans rfl
     ·split
      ·exact (r2.out.cell 0).trans rfl
      ·exact (J4.out.cell 0).trans rfl
    have w3: ∀(l:Array Bool) i,i≠8→i≠11→Wd (l.setIfInBounds i true)=Wd l:=fun l i h8 h11=>by
     rw [hWd];dsimp only;rw [Array.getElem?_setIfInBounds_ne h8,Array.getElem?_setIfInBounds_ne h11]
    have w4: ∀(l:Array Bool),l.size=12→l[8]? =some false→l[11]? ≠some true→Wd l=wc.drew∧Wd (l.setIfInBounds 8 true)=D1:=fun l hl h8 h11=>by
     rw [hWd];dsimp only;rw [if_neg h11,h8,Array.getElem?_setIfInBounds_ne (by decide),if_neg h11,Array.getElem?_setIfInBounds_self_of_lt (by omega)];exact ⟨rfl,rfl⟩
    have w5: ∀(l:Array Bool),l.size=12→l[8]? =some true→l[11]? =some false→Wd l=D1∧Wd (l.setIfInBounds 11 true)=U:=fun l hl h8 h11=>by
     rw [hWd];dsimp only;rw [h11,h8,Array.getElem?_setIfInBounds_self_of_lt (by omega)];exact ⟨rfl,rfl⟩
    have w6: ∀(l:Array Bool),l[11]? =some true→Wd l=U:=fun l h11=>by
     rw [hWd];dsimp only;rw [if_pos h11]
    have w0:Wd (Array.replicate 12 false)=wc.drew:=by rw [hWd];rfl
    have s1:wc.drew.cell? ⟨q+3,3,none⟩=some (.int .i64 ((o3 1:Nat):Int)):=(J3.out.cell 3).trans (tabA_off f 0 o3 c3 (i:=1) (by decide))
    have s2:D1.cell? ⟨q+3,10,none⟩=some (.int .i64 ((c3 1:Nat):Int)):=(M3d.cell 10).trans (tabA_cnt f 0 _ c3 (i:=1) (by decide))
    have s3:wc.drew.frozen? ⟨q+3,3,none⟩=false:=J3.out.frozen 3
    have s4:D1.frozen? ⟨q+3,10,none⟩=false:=M3d.frozen 10
    clear hd M3d hO1 hWd r3 r4 r1 r2
    clear p0d p4d e3d e9d f3d f9d z0d z3d z4d p0e p4e e3e e9e f3e f9e z0e z3e z4e
    gi_wp2
    refine wpIn_region_known rfl (by kernel_rfl) (by kernel_rfl) (fun u=> {tmps:= #[.int .u64 f, .agg (cntCl n),undef, .pointer (some ⟨q,0,none⟩), .pointer (some ⟨q+1,0,none⟩), .pointer (some ⟨q+1+1,0,none⟩), .pointer (some ⟨q+3,0,none⟩), .pointer (some ⟨q+4,0,none⟩), .int .i64 1, .int .u64 f, .agg #[.int .u64 f, .int .i64 0, .int .i64 0, .int .i64 0, .int .i64 0, .int .i64 0, .int .i64 0, .int .i64 0, .int .i64 0, .int .i64 0, .int .i64 0, .int .i64 0, .int .i64 0, .int .i64 0, .int .i64 0, .int .i64 0], .func (.func 95) #[] #[], .int .i64 1, .int .i64 32,u14,u15,u16,u17,u18,u19,u20,u21,u22,u23,u24,u25, .bool false,u27,u 0,u 1,u 2,u 3,u 4,u 5,u 6,u 7,u 9,u 10,u38,u39,u40,u41,u42,u43,u44,u45],defers:= []})
     (fun j=>match j with |0=>u28 |1=>u29 |2=>u30 |3=>u31 |4=>u32 |5=>u33 |6=>u34 |7=>u35 |9=>u36 |10=>u37 |_=>undef) rfl ?_
     (fun j=>match j with |0=> .int .i64 1 |1=> .int .i64 1 |2=> .int .i64 (at0:Int) |3=> .int .i64 1 |4=> .pointer (some ⟨q,1,none⟩) |5=> .int .i64 ((n 1:Nat):Int) |6=> .pointer (some ⟨q+3,2,none⟩) |7=> .pointer (some ⟨q+3,3,none⟩) |8=>undef |9=> .pointer (some ⟨q+3,9,none⟩) |10=> .pointer (some ⟨q+3,10,none⟩) |11=>undef |_=>undef) Wd w0 ?_ ?_
    ·intro i o ho u v
     have hi:i <12:=(Array.getElem?_eq_some_iff.1 ho).1
     obtain rfl |rfl |rfl |rfl |rfl |rfl |rfl |rfl |rfl |rfl |rfl |rfl:=(by omega:i=0∨i=1∨i=2∨i=3∨i=4∨i=5∨i=6∨i=7∨i=8∨i=9∨i=10∨i=11)
     all_goals
      cases ho
      rfl
    ·intro i o ho l u hl hf hcl hdp
     have hi:i <12:=(Array.getElem?_eq_some_iff.1 ho).1
     obtain rfl |rfl |rfl |rfl |rfl |rfl |rfl |rfl |rfl |rfl |rfl |rfl:=(by omega:i=0∨i=1∨i=2∨i=3∨i=4∨i=5∨i=6∨i=7∨i=8∨i=9∨i=10∨i=11)
     ·cases ho
      rw [w3 l _ (by decide) (by decide)]
      refine ⟨.value _, ?_, .inl rfl⟩
      simp [go_sem]
     ·cases ho
      rw [w3 l _ (by decide) (by decide)]
      refine ⟨.value _, ?_, .inl rfl⟩
      simp [go_sem]
     ·cases ho
      rw [w3 l _ (by decide) (by decide)]
      refine ⟨.value _, ?_, .inl rfl⟩
      simp [go_sem,w2 l]
     ·cases ho
      rw [w3 l _ (by decide) (by decide)]
      refine ⟨.value _, ?_, .inl rfl⟩
      simp [go_sem]
     ·cases ho
      have d3:u 3= .int .i64 1:=(hdp ⟨3, .data⟩ (by simp) rfl).2
      rw [w3 l _ (by decide) (by decide)]
      refine ⟨.value _, ?_, .inl rfl⟩
      simp [go_sem,d3]
     ·cases ho
      have d4:u 4= .pointer (some ⟨q,1,none⟩):=(hdp ⟨4, .data⟩ (by simp) rfl).2
      rw [w3 l _ (by decide) (by decide)]
      refine ⟨.value _, ?_, .inl rfl⟩
      simp [go_sem,d4,w1 l]
     ·cases ho
      rw [w3 l _ (by decide) (by decide)]
      refine ⟨.value _, ?_, .inl rfl⟩
      simp [go_sem]
     ·cases ho
      have d6:u 6= .pointer (some ⟨q+3,2,none⟩):=(hdp ⟨6, .data⟩ (by simp) rfl).2
      have d0:u 0= .int .i64 1:=(hdp ⟨0, .data⟩ (by simp) rfl).2
      rw [w3 l _ (by decide) (by decide)]
      refine ⟨.value _, ?_, .inl rfl⟩
      simp [go_sem,d6,d0]
     ·cases ho
      have d7:u 7= .pointer (some ⟨q+3,3,none⟩):=(hdp ⟨7, .data⟩ (by simp) rfl).2
      have d2:u 2= .int .i64 (at0:Int):=(hdp ⟨2, .data⟩ (by simp) rfl).2
      obtain ⟨y1,y2⟩:=w4 l hl hf (fun h11=>by have:=hcl 11 _ rfl h11 ⟨8, .chain⟩ (by simp) rfl;rw [hf] at this;cases this)
      rw [y1,y2, ←hD1]
      refine ⟨.skip, ?_, .inr ⟨rfl,rfl⟩⟩
      simp [go_sem,d7,d2,s1,s3]
     ·cases ho
      rw [w3 l _ (by decide) (by decide)]
      refine ⟨.value _, ?_, .inl rfl⟩
      simp [go_sem]
     ·cases ho
      have d9:u 9= .pointer (some ⟨q+3,9,none⟩):=(hdp ⟨9, .data⟩ (by simp) rfl).2
      have d1:u 1= .int .i64 1:=(hdp ⟨1, .data⟩ (by simp) rfl).2
      rw [w3 l _ (by decide) (by decide)]
      refine ⟨.value _, ?_, .inl rfl⟩
      simp [go_sem,d9,d1]
     ·cases ho
      have d10:u 10= .pointer (some ⟨q+3,10,none⟩):=(hdp ⟨10, .data⟩ (by simp) rfl).2
      have d5:u 5= .int .i64 ((n 1:Nat):Int):=(hdp ⟨5, .data⟩ (by simp) rfl).2
      obtain ⟨y1,y2⟩:=w5 l hl (hdp ⟨8, .chain⟩ (by simp) rfl).1 hf
      rw [y1,y2, ←hU]
      refine ⟨.skip, ?_, .inr ⟨rfl,rfl⟩⟩
      simp [go_sem,d10,d5,s2,s4]
    ·intro u l hu hl hal
     rw [w6 l (hal 11 (by decide))]
     clear hu
     clear s1 s2 s3 s4 w0 w1 w2 w3 w4 w5 w6 hD1 hU
     have hns:=hn 1
     have hsz6:secSz 1≤56:=by decide
     have hmul:=Nat.mul_le_mul hns hsz6
     gi_wp2_with (refine wpListIn_load_row rfl 34 (.tmp 6) rfl (q+3) rfl _ _ _ _ N3.out Tryz.underlying34 rfl HI.out ?_)
     have hto:(tabA f 0 (updN o3 1 at0) (updN c3 1 (n 1)))[2+1]? =some (.int .i64 ((at0:Nat):Int)):=(tabA_off f 0 (updN o3 1 at0) _ (i:=1) (by decide)).trans (by simp [updN])
     have htc:(tabA f 0 (updN o3 1 at0) (updN c3 1 (n 1)))[9+1]? =some (.int .i64 ((n 1:Nat):Int)):=(tabA_cnt f 0 _ (updN c3 1 (n 1)) (i:=1) (by decide)).trans (by simp [updN])
     have hpr:ftab n (pre++ [⟨0,hx⟩])=⟨updN o3 1 at0,updN c3 1 (n 1),alnN (at0+n 1*secSz 1)⟩:=by rw [ftab_next];unfold fstep;rw [HO3.out,HC3.out,HAT.out]
     have HPR:=Lib.hid hpr
     have hbd:at0+n 1*secSz 1≤4611686018427387000:=by omega
     have X4:=Lib.hid (show Blk U (q+4) 3 #[.int .i64 (at0:Int)] from r4k.out)
     have Z3:=N3.out.lt
     have Z4:=X4.out.lt
     have hUq:q≤U.heap.size:=by omega
     clear hpr
     refine ⟨trivial,((callsIn_wide.2 (tabEnd_ok _ 1 (by decide) (by decide) _ rfl at0 (n 1) hto htc hbd _)).inRound lp).mono ?_⟩
     rintro e v10 ⟨rfl,hE⟩
     have HE:=Lib.hid hE
     have A0:=Lib.hid (X4.out.below hE Z4)
     have a0:=(A0.out.cell 0)
     have f0:=A0.out.frozen 0
     have l0:=A0.out.lt
     simp at a0
     clear hE
     generalize hm0:at0+n 1*secSz 1=m0 at*
     have hal2:=(alnN_le m0).2
     gi_wp2_with fail
     refine ⟨trivial,((callsIn_wide.2 (tabAlign_ok m0 hbd _)).inRound lp).mono ?_⟩
     rintro e v11 ⟨rfl,rfl⟩
     gi_wp2
     have hT:=(N7.out.trans (Off34.of_below HE.out hUq)).set4 (i:=0) (.int .i64 ((alnN m0:Nat):Int))
     have hsz:=hT.bel.size
     have hko:=hT.others H3.out H4.out
     refine ⟨hko,hko.walks,by rw [List.length_append];simp;omega,by omega,hT.blk H0.out (by omega) (by omega),hT.blk H1.out (by omega) (by omega),hT.blk H2.out (by omega) (by omega), ?_, ?_,HB.out.trans hT.bel⟩
     ·rw [HPR.out]
      exact (N3.out.below HE.out Z3).far (p:=⟨q+4,0,none⟩) (show q+3≠q+4 by omega) _
     ·rw [HPR.out]
      exact A0.out.set_ 0 (.int .i64 ((alnN m0:Nat):Int))
  ·have p0:=H0.out.cell 2
   have p4:=H4.out.cell 0
   have z0:=H0.out.lt
   have z4:=H4.out.lt
   have z3:=H3.out.lt
   have hle:q≤V.heap.size:=by omega
   simp at p0 p4
   have g1: ¬((n 2:Nat):Int) <0:=by omega
   have g2: ¬1024 <((n 2:Nat):Int):=by have:=HLM.out 2 (by decide) (by decide);simp [limN] at this;omega
   have p0d:V.drew.cell? ⟨q,2,none⟩=some (.int .i64 (n 2:Int)):=p0
   have z0d:q <V.drew.heap.size:=z0
   have HV:=Lib.hid (show ∀U,Below V.drew.heap.size V.drew U→U.cell? ⟨q,2,none⟩=some (.int .i64 (n 2:Int))∧q <U.heap.size from fun U hU=>⟨((Blk.below (show Blk V.drew q 32 (cntCl n) from H0.out) hU z0d).cell 2).trans rfl,Nat.lt_of_lt_of_le z0d hU.size⟩)
   gi_wp2
   gi_cut [26] from 14 (fun b wx=>b= .bool false∧Below V.heap.size V wx)
   case first=>
    rename_i q1 k2 a4 q0 k1 a3 k0 a2 j kk a1 a0
    clear a4 a3 a2
    gi_region_with (refine ⟨trivial,((callsIn_wide.2 (tabLimits_ok _)).inRound lp).mono ?_⟩;rintro e v9 ⟨rfl,h6⟩;have pv:=(HV.out _ h6).1;have zv:=(HV.out _ h6).2)
    all_goals
     gi_wp2_with fail
     gi_meet
     case rel=>exact ⟨by simp [g1,g2],(below_drewB V).trans h6⟩
   case rest=>
    obtain ⟨rfl,hb6⟩:=hcut
    have J0:=Lib.hid (H0.out.below hb6 z0)
    have J3:=Lib.hid (H3.out.below hb6 z3)
    have J4:=Lib.hid (H4.out.below hb6 z4)
    have hO6:=Lib.hid (Off34.of_below hb6 hle)
    have hwz:=hb6.size
    clear p0 p4 p0d z0d HV g1 g2 hb6
    have p0d:wc.drew.cell? ⟨q,2,none⟩=some (.int .i64 (n 2:Int)):=(J0.out.cell 2).trans rfl
    have p4d:wc.drew.cell? ⟨q+4,0,none⟩=some (.int .i64 (at0:Int)):=(J4.out.cell 0).trans rfl
    have e3d:wc.drew.cell? ⟨q+3,4,none⟩=some (.int .i64 ((o3 2:Nat):Int)):=(J3.out.cell 4).trans (tabA_off f 0 o3 c3 (i:=2) (by decide))
    have e9d:wc.drew.cell? ⟨q+3,11,none⟩=some (.int .i64 ((c3 2:Nat):Int)):=(J3.out.cell 11).trans (tabA_cnt f 0 o3 c3 (i:=2) (by decide))
    have f3d:wc.drew.frozen? ⟨q+3,4,none⟩=false:=J3.out.frozen 4
    have f9d:wc.drew.frozen? ⟨q+3,11,none⟩=false:=J3.out.frozen 11
    have z0d:q <wc.drew.heap.size:=J0.out.lt
    have z3d:q+3 <wc.drew.heap.size:=J3.out.lt
    have z4d:q+4 <wc.drew.heap.size:=J4.out.lt
    have p0e:wc.cell? ⟨q,2,none⟩=some (.int .i64 (n 2:Int)):=(J0.out.cell 2).trans rfl
    have p4e:wc.cell? ⟨q+4,0,none⟩=some (.int .i64 (at0:Int)):=(J4.out.cell 0).trans rfl
    have e3e:wc.cell? ⟨q+3,4,none⟩=some (.int .i64 ((o3 2:Nat):Int)):=(J3.out.cell 4).trans (tabA_off f 0 o3 c3 (i:=2) (by decide))
    have e9e:wc.cell? ⟨q+3,11,none⟩=some (.int .i64 ((c3 2:Nat):Int)):=(J3.out.cell 11).trans (tabA_cnt f 0 o3 c3 (i:=2) (by decide))
    have f3e:wc.frozen? ⟨q+3,4,none⟩=false:=J3.out.frozen 4
    have f9e:wc.frozen? ⟨q+3,11,none⟩=false:=J3.out.frozen 11
    have z0e:q <wc.heap.size:=J0.out.lt
    have z3e:q+3 <wc.heap.size:=J3.out.lt
    have z4e:q+4 <wc.heap.size:=J4.out.lt
    obtain ⟨D1,hD1⟩: ∃D1,wc.drew.setCell ⟨q+3,4,none⟩ (.int .i64 (at0:Int))=D1:=⟨_,rfl⟩
    obtain ⟨U,hU⟩: ∃U,D1.setCell ⟨q+3,11,none⟩ (.int .i64 ((n 2:Nat):Int))=U:=⟨_,rfl⟩
    have hd:=(Off34.of_below (below_drewB wc) (by omega:q≤wc.heap.size))
    have M3d:Blk D1 (q+3) 34 (tabA f 0 (updN o3 2 at0) c3):=by
     rw [←hD1]
     have h:=(show Blk wc.drew (q+3) 34 (tabA f 0 o3 c3) from J3.out).set_ 4 (.int .i64 (at0:Int))
     rw [tabA_setO f 0 o3 c3 (i:=2) (by decide)] at h
     exact h
    have N3:=Lib.hid (show Blk U (q+3) 34 (tabA f 0 (updN o3 2 at0) (updN c3 2 (n 2))) by
     rw [←hU]
     have h:=M3d.set_ 11 (.int .i64 ((n 2:Nat):Int))
     rw [tabA_setC f 0 _ c3 (i:=2) (by decide)] at h
     exact h)
    have hO1:Off34 q wc D1:=by rw [←hD1];exact hd.set3 (i:=4) _
    have N7:=Lib.hid (show Off34 q V U by rw [←hU];exact hO6.out.trans (hO1.set3 (i:=11) _))
    have r1:=Lib.hid (hO1.blk J0.out (by omega) (by omega))
    have r2:=Lib.hid (show Blk D1 (q+4) 3 #[.int .i64 (at0:Int)] by rw [←hD1];exact (show Blk wc.drew (q+4) 3 #[.int .i64 (at0:Int)] from J4.out).far (p:=⟨q+3,4,none⟩) (show q+4≠q+3 by omega) _)
    have r3:=Lib.hid (show Blk U q 32 (cntCl n) by rw [←hU];exact r1.out.far (p:=⟨q+3,11,none⟩) (show q≠q+3 by omega) _)
    have r4:=Lib.hid (show Blk U (q+4) 3 #[.int .i64 (at0:Int)] by rw [←hU];exact r2.out.far (p:=⟨q+3,11,none⟩) (show q+4≠q+3 by omega) _)
    have r4k:=r4
    obtain ⟨Wd,hWd⟩: ∃Wd:Array Bool→World,Wd=fun l=>if l[11]? =some true then U else if l[8]? =some true then D1 else wc.drew:=⟨_,rfl⟩
    have w1: ∀l,(Wd l).cell? ⟨q,2,none⟩=some (.int .i64 ((n 2:Nat):Int)):=fun l=>by
     rw [hWd];dsimp only;split
     ·exact (r3.out.cell 2).trans rfl
     ·split
      ·exact (r1.out.cell 2).trans rfl
      ·exact (J0.out.cell 2).trans rfl
    have w2: ∀l,(Wd l).cell? ⟨q+4,0,none⟩=some (.int .i64 (at0:Int)):=fun l=>by
     rw [hWd];dsimp only;split
     ·exact (r4.out.cell 0).trans rfl
     ·split
      ·exact (r2.out.cell 0).trans rfl
      ·exact (J4.out.cell 0).trans rfl
    have w3: ∀(l:Array Bool) i,i≠8→i≠11→Wd (l.setIfInBounds i true)=Wd l:=fun l i h8 h11=>by
     rw [hWd];dsimp only;rw [Array.getElem?_setIfInBounds_ne h8,Array.getElem?_setIfInBounds_ne h11]
    have w4: ∀(l:Array Bool),l.size=12→l[8]? =some false→l[11]? ≠some true→Wd l=wc.drew∧Wd (l.setIfInBounds 8 true)=D1:=fun l hl h8 h11=>by
     rw [hWd];dsimp only;rw [if_neg h11,h8,Array.getElem?_setIfInBounds_ne (by decide),if_neg h11,Array.getElem?_setIfInBounds_self_of_lt (by omega)];exact ⟨rfl,rfl⟩
    have w5: ∀(l:Array Bool),l.size=12→l[8]? =some true→l[11]? =some false→Wd l=D1∧Wd (l.setIfInBounds 11 true)=U:=fun l hl h8 h11=>by
     rw [hWd];dsimp only;rw [h11,h8,Array.getElem?_setIfInBounds_self_of_lt (by omega)];exact ⟨rfl,rfl⟩
    have w6: ∀(l:Array Bool),l[11]? =some true→Wd l=U:=fun l h11=>by
     rw [hWd];dsimp only;rw [if_pos h11]
    have w0:Wd (Array.replicate 12 false)=wc.drew:=by rw [hWd];rfl
    have s1:wc.drew.cell? ⟨q+3,4,none⟩=some (.int .i64 ((o3 2:Nat):Int)):=(J3.out.cell 4).trans (tabA_off f 0 o3 c3 (i:=2) (by decide))
    have s2:D1.cell? ⟨q+3,11,none⟩=some (.int .i64 ((c3 2:Nat):Int)):=(M3d.cell 11).trans (tabA_cnt f 0 _ c3 (i:=2) (by decide))
    have s3:wc.drew.frozen? ⟨q+3,4,none⟩=false:=J3.out.frozen 4
    have s4:D1.frozen? ⟨q+3,11,none⟩=false:=M3d.frozen 11
    clear hd M3d hO1 hWd r3 r4 r1 r2
    clear p0d p4d e3d e9d f3d f9d z0d z3d z4d p0e p4e e3e e9e f3e f9e z0e z3e z4e
    gi_wp2
    refine wpIn_region_known rfl (by kernel_rfl) (by kernel_rfl) (fun u=> {tmps:= #[.int .u64 f, .agg (cntCl n),undef, .pointer (some ⟨q,0,none⟩), .pointer (some ⟨q+1,0,none⟩), .pointer (some ⟨q+1+1,0,none⟩), .pointer (some ⟨q+3,0,none⟩), .pointer (some ⟨q+4,0,none⟩), .int .i64 2, .int .u64 f, .agg #[.int .u64 f, .int .i64 0, .int .i64 0, .int .i64 0, .int .i64 0, .int .i64 0, .int .i64 0, .int .i64 0, .int .i64 0, .int .i64 0, .int .i64 0, .int .i64 0, .int .i64 0, .int .i64 0, .int .i64 0, .int .i64 0], .func (.func 95) #[] #[], .int .i64 2, .int .i64 40,u14,u15,u16,u17,u18,u19,u20,u21,u22,u23,u24,u25, .bool false,u27,u 0,u 1,u 2,u 3,u 4,u 5,u 6,u 7,u 9,u 10,u38,u39,u40,u41,u42,u43,u44,u45],defers:= []})
     (fun j=>match j with |0=>u28 |1=>u29 |2=>u30 |3=>u31 |4=>u32 |5=>u33 |6=>u34 |7=>u35 |9=>u36 |10=>u37 |_=>undef) rfl ?_
     (fun j=>match j with |0=> .int .i64 2 |1=> .int .i64 2 |2=> .int .i64 (at0:Int) |3=> .int .i64 2 |4=> .pointer (some ⟨q,2,none⟩) |5=> .int .i64 ((n 2:Nat):Int) |6=> .pointer (some ⟨q+3,2,none⟩) |7=> .pointer (some ⟨q+3,4,none⟩) |8=>undef |9=> .pointer (some ⟨q+3,9,none⟩) |10=> .pointer (some ⟨q+3,11,none⟩) |11=>undef |_=>undef) Wd w0 ?_ ?_
    ·intro i o ho u v
     have hi:i <12:=(Array.getElem?_eq_some_iff.1 ho).1
     obtain rfl |rfl |rfl |rfl |rfl |rfl |rfl |rfl |rfl |rfl |rfl |rfl:=(by omega:i=0∨i=1∨i=2∨i=3∨i=4∨i=5∨i=6∨i=7∨i=8∨i=9∨i=10∨i=11)
     all_goals
      cases ho
      rfl
    ·intro i o ho l u hl hf hcl hdp
     have hi:i <12:=(Array.getElem?_eq_some_iff.1 ho).1
     obtain rfl |rfl |rfl |rfl |rfl |rfl |rfl |rfl |rfl |rfl |rfl |rfl:=(by omega:i=0∨i=1∨i=2∨i=3∨i=4∨i=5∨i=6∨i=7∨i=8∨i=9∨i=10∨i=11)
     ·cases ho
      rw [w3 l _ (by decide) (by decide)]
      refine ⟨.value _, ?_, .inl rfl⟩
      simp [go_sem]
     ·cases ho
      rw [w3 l _ (by decide) (by decide)]
      refine ⟨.value _, ?_, .inl rfl⟩
      simp [go_sem]
     ·cases ho
      rw [w3 l _ (by decide) (by decide)]
      refine ⟨.value _, ?_, .inl rfl⟩
      simp [go_sem,w2 l]
     ·cases ho
      rw [w3 l _ (by decide) (by decide)]
      refine ⟨.value _, ?_, .inl rfl⟩
      simp [go_sem]
     ·cases ho
      have d3:u 3= .int .i64 2:=(hdp ⟨3, .data⟩ (by simp) rfl).2
      rw [w3 l _ (by decide) (by decide)]
      refine ⟨.value _, ?_, .inl rfl⟩
      simp [go_sem,d3]
     ·cases ho
      have d4:u 4= .pointer (some ⟨q,2,none⟩):=(hdp ⟨4, .data⟩ (by simp) rfl).2
      rw [w3 l _ (by decide) (by decide)]
      refine ⟨.value _, ?_, .inl rfl⟩
      simp [go_sem,d4,w1 l]
     ·cases ho
      rw [w3 l _ (by decide) (by decide)]
      refine ⟨.value _, ?_, .inl rfl⟩
      simp [go_sem]
     ·cases ho
      have d6:u 6= .pointer (some ⟨q+3,2,none⟩):=(hdp ⟨6, .data⟩ (by simp) rfl).2
      have d0:u 0= .int .i64 2:=(hdp ⟨0, .data⟩ (by simp) rfl).2
      rw [w3 l _ (by decide) (by decide)]
      refine ⟨.value _, ?_, .inl rfl⟩
      simp [go_sem,d6,d0]
     ·cases ho
      have d7:u 7= .pointer (some ⟨q+3,4,none⟩):=(hdp ⟨7, .data⟩ (by simp) rfl).2
      have d2:u 2= .int .i64 (at0:Int):=(hdp ⟨2, .data⟩ (by simp) rfl).2
      obtain ⟨y1,y2⟩:=w4 l hl hf (fun h11=>by have:=hcl 11 _ rfl h11 ⟨8, .chain⟩ (by simp) rfl;rw [hf] at this;cases this)
      rw [y1,y2, ←hD1]
      refine ⟨.skip, ?_, .inr ⟨rfl,rfl⟩⟩
      simp [go_sem,d7,d2,s1,s3]
     ·cases ho
      rw [w3 l _ (by decide) (by decide)]
      refine ⟨.value _, ?_, .inl rfl⟩
      simp [go_sem]
     ·cases ho
      have d9:u 9= .pointer (some ⟨q+3,9,none⟩):=(hdp ⟨9, .data⟩ (by simp) rfl).2
      have d1:u 1= .int .i64 2:=(hdp ⟨1, .data⟩ (by simp) rfl).2
      rw [w3 l _ (by decide) (by decide)]
      refine ⟨.value _, ?_, .inl rfl⟩
      simp [go_sem,d9,d1]
     ·cases ho
      have d10:u 10= .pointer (some ⟨q+3,11,none⟩):=(hdp ⟨10, .data⟩ (by simp) rfl).2
      have d5:u 5= .int .i64 ((n 2:Nat):Int):=(hdp ⟨5, .data⟩ (by simp) rfl).2
      obtain ⟨y1,y2⟩:=w5 l hl (hdp ⟨8, .chain⟩ (by simp) rfl).1 hf
      rw [y1,y2, ←hU]
      refine ⟨.skip, ?_, .inr ⟨rfl,rfl⟩⟩
      simp [go_sem,d10,d5,s2,s4]
    ·intro u l hu hl hal
     rw [w6 l (hal 11 (by decide))]
     clear hu
     clear s1 s2 s3 s4 w0 w1 w2 w3 w4 w5 w6 hD1 hU
     have hns:=hn 2
     have hsz6:secSz 2≤56:=by decide
     have hmul:=Nat.mul_le_mul hns hsz6
     gi_wp2_with (refine wpListIn_load_row rfl 34 (.tmp 6) rfl (q+3) rfl _ _ _ _ N3.out Tryz.underlying34 rfl HI.out ?_)
     have hto:(tabA f 0 (updN o3 2 at0) (updN c3 2 (n 2)))[2+2]? =some (.int .i64 ((at0:Nat):Int)):=(tabA_off f 0 (updN o3 2 at0) _ (i:=2) (by decide)).trans (by simp [updN])
     have htc:(tabA f 0 (updN o3 2 at0) (updN c3 2 (n 2)))[9+2]? =some (.int .i64 ((n 2:Nat):Int)):=(tabA_cnt f 0 _ (updN c3 2 (n 2)) (i:=2) (by decide)).trans (by simp [updN])
     have hpr:ftab n (pre++ [⟨1,hx⟩])=⟨updN o3 2 at0,updN c3 2 (n 2),alnN (at0+n 2*secSz 2)⟩:=by rw [ftab_next];unfold fstep;rw [HO3.out,HC3.out,HAT.out]
     have HPR:=Lib.hid hpr
     have hbd:at0+n 2*secSz 2≤4611686018427387000:=by omega
     have X4:=Lib.hid (show Blk U (q+4) 3 #[.int .i64 (at0:Int)] from r4k.out)
     have Z3:=N3.out.lt
     have Z4:=X4.out.lt
     have hUq:q≤U.heap.size:=by omega
     clear hpr
     refine ⟨trivial,((callsIn_wide.2 (tabEnd_ok _ 2 (by decide) (by decide) _ rfl at0 (n 2) hto htc hbd _)).inRound lp).mono ?_⟩
     rintro e v10 ⟨rfl,hE⟩
     have HE:=Lib.hid hE
     have A0:=Lib.hid (X4.out.below hE Z4)
     have a0:=(A0.out.cell 0)
     have f0:=A0.out.frozen 0
     have l0:=A0.out.lt
     simp at a0
     clear hE
     generalize hm0:at0+n 2*secSz 2=m0 at*
     have hal2:=(alnN_le m0).2
     gi_wp2_with fail
     refine ⟨trivial,((callsIn_wide.2 (tabAlign_ok m0 hbd _)).inRound lp).mono ?_⟩
     rintro e v11 ⟨rfl,rfl⟩
     gi_wp2
     have hT:=(N7.out.trans (Off34.of_below HE.out hUq)).set4 (i:=0) (.int .i64 ((alnN m0:Nat):Int))
     have hsz:=hT.bel.size
     have hko:=hT.others H3.out H4.out
     refine ⟨hko,hko.walks,by rw [List.length_append];simp;omega,by omega,hT.blk H0.out (by omega) (by omega),hT.blk H1.out (by omega) (by omega),hT.blk H2.out (by omega) (by omega), ?_, ?_,HB.out.trans hT.bel⟩
     ·rw [HPR.out]
      exact (N3.out.below HE.out Z3).far (p:=⟨q+4,0,none⟩) (show q+3≠q+4 by omega) _
     ·rw [HPR.out]
      exact A0.out.set_ 0 (.int .i64 ((alnN m0:Nat):Int))
  ·have p0:=H0.out.cell 3
   have p4:=H4.out.cell 0
   have z0:=H0.out.lt
   have z4:=H4.out.lt
   have z3:=H3.out.lt
   have hle:q≤V.heap.size:=by omega
   simp at p0 p4
   have g1: ¬((n 3:Nat):Int) <0:=by omega
   have g2: ¬1024 <((n 3:Nat):Int):=by have:=HLM.out 3 (by decide) (by decide);simp [limN] at this;omega
   have p0d:V.drew.cell? ⟨q,3,none⟩=some (.int .i64 (n 3:Int)):=p0
   have z0d:q <V.drew.heap.size:=z0
   have HV:=Lib.hid (show ∀U,Below V.drew.heap.size V.drew U→U.cell? ⟨q,3,none⟩=some (.int .i64 (n 3:Int))∧q <U.heap.size from fun U hU=>⟨((Blk.below (show Blk V.drew q 32 (cntCl n) from H0.out) hU z0d).cell 3).trans rfl,Nat.lt_of_lt_of_le z0d hU.size⟩)
   gi_wp2
   gi_cut [26] from 14 (fun b wx=>b= .bool false∧Below V.heap.size V wx)
   case first=>
    rename_i q1 k2 a4 q0 k1 a3 k0 a2 j kk a1 a0
    clear a4 a3 a2
    gi_region_with (refine ⟨trivial,((callsIn_wide.2 (tabLimits_ok _)).inRound lp).mono ?_⟩;rintro e v9 ⟨rfl,h6⟩;have pv:=(HV.out _ h6).1;have zv:=(HV.out _ h6).2)
    all_goals
     gi_wp2_with fail
     gi_meet
     case rel=>exact ⟨by simp [g1,g2],(below_drewB V).trans h6⟩
   case rest=>
    obtain ⟨rfl,hb6⟩:=hcut
    have J0:=Lib.hid (H0.out.below hb6 z0)
    have J3:=Lib.hid (H3.out.below hb6 z3)
    have J4:=Lib.hid (H4.out.below hb6 z4)
    have hO6:=Lib.hid (Off34.of_below hb6 hle)
    have hwz:=hb6.size
    clear p0 p4 p0d z0d HV g1 g2 hb6
    have p0d:wc.drew.cell? ⟨q,3,none⟩=some (.int .i64 (n 3:Int)):=(J0.out.cell 3).trans rfl
    have p4d:wc.drew.cell? ⟨q+4,0,none⟩=some (.int .i64 (at0:Int)):=(J4.out.cell 0).trans rfl
    have e3d:wc.drew.cell? ⟨q+3,5,none⟩=some (.int .i64 ((o3 3:Nat):Int)):=(J3.out.cell 5).trans (tabA_off f 0 o3 c3 (i:=3) (by decide))
    have e9d:wc.drew.cell? ⟨q+3,12,none⟩=some (.int .i64 ((c3 3:Nat):Int)):=(J3.out.cell 12).trans (tabA_cnt f 0 o3 c3 (i:=3) (by decide))
    have f3d:wc.drew.frozen? ⟨q+3,5,none⟩=false:=J3.out.frozen 5
    have f9d:wc.drew.frozen? ⟨q+3,12,none⟩=false:=J3.out.frozen 12
    have z0d:q <wc.drew.heap.size:=J0.out.lt
    have z3d:q+3 <wc.drew.heap.size:=J3.out.lt
    have z4d:q+4 <wc.drew.heap.size:=J4.out.lt
    have p0e:wc.cell? ⟨q,3,none⟩=some (.int .i64 (n 3:Int)):=(J0.out.cell 3).trans rfl
    have p4e:wc.cell? ⟨q+4,0,none⟩=some (.int .i64 (at0:Int)):=(J4.out.cell 0).trans rfl
    have e3e:wc.cell? ⟨q+3,5,none⟩=some (.int .i64 ((o3 3:Nat):Int)):=(J3.out.cell 5).trans (tabA_off f 0 o3 c3 (i:=3) (by decide))
    have e9e:wc.cell? ⟨q+3,12,none⟩=some (.int .i64 ((c3 3:Nat):Int)):=(J3.out.cell 12).trans (tabA_cnt f 0 o3 c3 (i:=3) (by decide))
    have f3e:wc.frozen? ⟨q+3,5,none⟩=false:=J3.out.frozen 5
    have f9e:wc.frozen? ⟨q+3,12,none⟩=false:=J3.out.frozen 12
    have z0e:q <wc.heap.size:=J0.out.lt
    have z3e:q+3 <wc.heap.size:=J3.out.lt
    have z4e:q+4 <wc.heap.size:=J4.out.lt
    obtain ⟨D1,hD1⟩: ∃D1,wc.drew.setCell ⟨q+3,5,none⟩ (.int .i64 (at0:Int))=D1:=⟨_,rfl⟩
    obtain ⟨U,hU⟩: ∃U,D1.setCell ⟨q+3,12,none⟩ (.int .i64 ((n 3:Nat):Int))=U:=⟨_,rfl⟩
    have hd:=(Off34.of_below (below_drewB wc) (by omega:q≤wc.heap.size))
    have M3d:Blk D1 (q+3) 34 (tabA f 0 (updN o3 3 at0) c3):=by
     rw [←hD1]
     have h:=(show Blk wc.drew (q+3) 34 (tabA f 0 o3 c3) from J3.out).set_ 5 (.int .i64 (at0:Int))
     rw [tabA_setO f 0 o3 c3 (i:=3) (by decide)] at h
     exact h
    have N3:=Lib.hid (show Blk U (q+3) 34 (tabA f 0 (updN o3 3 at0) (updN c3 3 (n 3))) by
     rw [←hU]
     have h:=M3d.set_ 12 (.int .i64 ((n 3:Nat):Int))
     rw [tabA_setC f 0 _ c3 (i:=3) (by decide)] at h
     exact h)
    have hO1:Off34 q wc D1:=by rw [←hD1];exact hd.set3 (i:=5) _
    have N7:=Lib.hid (show Off34 q V U by rw [←hU];exact hO6.out.trans (hO1.set3 (i:=12) _))
    have r1:=Lib.hid (hO1.blk J0.out (by omega) (by omega))
    have r2:=Lib.hid (show Blk D1 (q+4) 3 #[.int .i64 (at0:Int)] by rw [←hD1];exact (show Blk wc.drew (q+4) 3 #[.int .i64 (at0:Int)] from J4.out).far (p:=⟨q+3,5,none⟩) (show q+4≠q+3 by omega) _)
    have r3:=Lib.hid (show Blk U q 32 (cntCl n) by rw [←hU];exact r1.out.far (p:=⟨q+3,12,none⟩) (show q≠q+3 by omega) _)
    have r4:=Lib.hid (show Blk U (q+4) 3 #[.int .i64 (at0:Int)] by rw [←hU];exact r2.out.far (p:=⟨q+3,12,none⟩) (show q+4≠q+3 by omega) _)
    have r4k:=r4
    obtain ⟨Wd,hWd⟩: ∃Wd:Array Bool→World,Wd=fun l=>if l[11]? =some true then U else if l[8]? =some true then D1 else wc.drew:=⟨_,rfl⟩
    have w1: ∀l,(Wd l).cell? ⟨q,3,none⟩=some (.int .i64 ((n 3:Nat):Int)):=fun l=>by
     rw [hWd];dsimp only;split
     ·exact (r3.out.cell 3).trans rfl
     ·split
      ·exact (r1.out.cell 3).trans rfl
      ·exact (J0.out.cell 3).trans rfl
    have w2: ∀l,(Wd l).cell? ⟨q+4,0,none⟩=some (.int .i64 (at0:Int)):=fun l=>by
     rw [hWd];dsimp only;split
     ·exact (r4.out.cell 0).trans rfl
     ·split
      ·exact (r2.out.cell 0).trans rfl
      ·exact (J4.out.cell 0).trans rfl
    have w3: ∀(l:Array Bool) i,i≠8→i≠11→Wd (l.setIfInBounds i true)=Wd l:=fun l i h8 h11=>by
     rw [hWd];dsimp only;rw [Array.getElem?_setIfInBounds_ne h8,Array.getElem?_setIfInBounds_ne h11]
    have w4: ∀(l:Array Bool),l.size=12→l[8]? =some false→l[11]? ≠some true→Wd l=wc.drew∧Wd (l.setIfInBounds 8 true)=D1:=fun l hl h8 h11=>by
     rw [hWd];dsimp only;rw [if_neg h11,h8,Array.getElem?_setIfInBounds_ne (by decide),if_neg h11,Array.getElem?_setIfInBounds_self_of_lt (by omega)];exact ⟨rfl,rfl⟩
    have w5: ∀(l:Array Bool),l.size=12→l[8]? =some true→l[11]? =some false→Wd l=D1∧Wd (l.setIfInBounds 11 true)=U:=fun l hl h8 h11=>by
     rw [hWd];dsimp only;rw [h11,h8,Array.getElem?_setIfInBounds_self_of_lt (by omega)];exact ⟨rfl,rfl⟩
    have w6: ∀(l:Array Bool),l[11]? =some true→Wd l=U:=fun l h11=>by
     rw [hWd];dsimp only;rw [if_pos h11]
    have w0:Wd (Array.replicate 12 false)=wc.drew:=by rw [hWd];rfl
    have s1:wc.drew.cell? ⟨q+3,5,none⟩=some (.int .i64 ((o3 3:Nat):Int)):=(J3.out.cell 5).trans (tabA_off f 0 o3 c3 (i:=3) (by decide))
    have s2:D1.cell? ⟨q+3,12,none⟩=some (.int .i64 ((c3 3:Nat):Int)):=(M3d.cell 12).trans (tabA_cnt f 0 _ c3 (i:=3) (by decide))
    have s3:wc.drew.frozen? ⟨q+3,5,none⟩=false:=J3.out.frozen 5
    have s4:D1.frozen? ⟨q+3,12,none⟩=false:=M3d.frozen 12
    clear hd M3d hO1 hWd r3 r4 r1 r2
    clear p0d p4d e3d e9d f3d f9d z0d z3d z4d p0e p4e e3e e9e f3e f9e z0e z3e z4e
    gi_wp2
    refine wpIn_region_known rfl (by kernel_rfl) (by kernel_rfl) (fun u=> {tmps:= #[.int .u64 f, .agg (cntCl n),undef, .pointer (some ⟨q,0,none⟩), .pointer (some ⟨q+1,0,none⟩), .pointer (some ⟨q+1+1,0,none⟩), .pointer (some ⟨q+3,0,none⟩), .pointer (some ⟨q+4,0,none⟩), .int .i64 3, .int .u64 f, .agg #[.int .u64 f, .int .i64 0, .int .i64 0, .int .i64 0, .int .i64 0, .int .i64 0, .int .i64 0, .int .i64 0, .int .i64 0, .int .i64 0, .int .i64 0, .int .i64 0, .int .i64 0, .int .i64 0, .int .i64 0, .int .i64 0], .func (.func 95) #[] #[], .int .i64 3, .int .i64 48,u14,u15,u16,u17,u18,u19,u20,u21,u22,u23,u24,u25, .bool false,u27,u 0,u 1,u 2,u 3,u 4,u 5,u 6,u 7,u 9,u 10,u38,u39,u40,u41,u42,u43,u44,u45],defers:= []})
     (fun j=>match j with |0=>u28 |1=>u29 |2=>u30 |3=>u31 |4=>u32 |5=>u33 |6=>u34 |7=>u35 |9=>u36 |10=>u37 |_=>undef) rfl ?_
     (fun j=>match j with |0=> .int .i64 3 |1=> .int .i64 3 |2=> .int .i64 (at0:Int) |3=> .int .i64 3 |4=> .pointer (some ⟨q,3,none⟩) |5=> .int .i64 ((n 3:Nat):Int) |6=> .pointer (some ⟨q+3,2,none⟩) |7=> .pointer (some ⟨q+3,5,none⟩) |8=>undef |9=> .pointer (some ⟨q+3,9,none⟩) |10=> .pointer (some ⟨q+3,12,none⟩) |11=>undef |_=>undef) Wd w0 ?_ ?_
    ·intro i o ho u v
     have hi:i <12:=(Array.getElem?_eq_some_iff.1 ho).1
     obtain rfl |rfl |rfl |rfl |rfl |rfl |rfl |rfl |rfl |rfl |rfl |rfl:=(by omega:i=0∨i=1∨i=2∨i=3∨i=4∨i=5∨i=6∨i=7∨i=8∨i=9∨i=10∨i=11)
     all_goals
      cases ho
      rfl
    ·intro i o ho l u hl hf hcl hdp
     have hi:i <12:=(Array.getElem?_eq_some_iff.1 ho).1
     obtain rfl |rfl |rfl |rfl |rfl |rfl |rfl |rfl |rfl |rfl |rfl |rfl:=(by omega:i=0∨i=1∨i=2∨i=3∨i=4∨i=5∨i=6∨i=7∨i=8∨i=9∨i=10∨i=11)
     ·cases ho
      rw [w3 l _ (by decide) (by decide)]
      refine ⟨.value _, ?_, .inl rfl⟩
      simp [go_sem]
     ·cases ho
      rw [w3 l _ (by decide) (by decide)]
      refine ⟨.value _, ?_, .inl rfl⟩
      simp [go_sem]
     ·cases ho
      rw [w3 l _ (by decide) (by decide)]
      refine ⟨.value _, ?_, .inl rfl⟩
      simp [go_sem,w2 l]
     ·cases ho
      rw [w3 l _ (by decide) (by decide)]
      refine ⟨.value _, ?_, .inl rfl⟩
      simp [go_sem]
     ·cases ho
      have d3:u 3= .int .i64 3:=(hdp ⟨3, .data⟩ (by simp) rfl).2
      rw [w3 l _ (by decide) (by decide)]
      refine ⟨.value _, ?_, .inl rfl⟩
      simp [go_sem,d3]
     ·cases ho
      have d4:u 4= .pointer (some ⟨q,3,none⟩):=(hdp ⟨4, .data⟩ (by simp) rfl).2
      rw [w3 l _ (by decide) (by decide)]
      refine ⟨.value _, ?_, .inl rfl⟩
      simp [go_sem,d4,w1 l]
     ·cases ho
      rw [w3 l _ (by decide) (by decide)]
      refine ⟨.value _, ?_, .inl rfl⟩
      simp [go_sem]
     ·cases ho
      have d6:u 6= .pointer (some ⟨q+3,2,none⟩):=(hdp ⟨6, .data⟩ (by simp) rfl).2
      have d0:u 0= .int .i64 3:=(hdp ⟨0, .data⟩ (by simp) rfl).2
      rw [w3 l _ (by decide) (by decide)]
      refine ⟨.value _, ?_, .inl rfl⟩
      simp [go_sem,d6,d0]
     ·cases ho
      have d7:u 7= .pointer (some ⟨q+3,5,none⟩):=(hdp ⟨7, .data⟩ (by simp) rfl).2
      have d2:u 2= .int .i64 (at0:Int):=(hdp ⟨2, .data⟩ (by simp) rfl).2
      obtain ⟨y1,y2⟩:=w4 l hl hf (fun h11=>by have:=hcl 11 _ rfl h11 ⟨8, .chain⟩ (by simp) rfl;rw [hf] at this;cases this)
      rw [y1,y2, ←hD1]
      refine ⟨.skip, ?_, .inr ⟨rfl,rfl⟩⟩
      simp [go_sem,d7,d2,s1,s3]
     ·cases ho
      rw [w3 l _ (by decide) (by decide)]
      refine ⟨.value _, ?_, .inl rfl⟩
      simp [go_sem]
     ·cases ho
      have d9:u 9= .pointer (some ⟨q+3,9,none⟩):=(hdp ⟨9, .data⟩ (by simp) rfl).2
      have d1:u 1= .int .i64 3:=(hdp ⟨1, .data⟩ (by simp) rfl).2
      rw [w3 l _ (by decide) (by decide)]
      refine ⟨.value _, ?_, .inl rfl⟩
      simp [go_sem,d9,d1]
     ·cases ho
      have d10:u 10= .pointer (some ⟨q+3,12,none⟩):=(hdp ⟨10, .data⟩ (by simp) rfl).2
      have d5:u 5= .int .i64 ((n 3:Nat):Int):=(hdp ⟨5, .data⟩ (by simp) rfl).2
      obtain ⟨y1,y2⟩:=w5 l hl (hdp ⟨8, .chain⟩ (by simp) rfl).1 hf
      rw [y1,y2, ←hU]
      refine ⟨.skip, ?_, .inr ⟨rfl,rfl⟩⟩
      simp [go_sem,d10,d5,s2,s4]
    ·intro u l hu hl hal
     rw [w6 l (hal 11 (by decide))]
     clear hu
     clear s1 s2 s3 s4 w0 w1 w2 w3 w4 w5 w6 hD1 hU
     have hns:=hn 3
     have hsz6:secSz 3≤56:=by decide
     have hmul:=Nat.mul_le_mul hns hsz6
     gi_wp2_with (refine wpListIn_load_row rfl 34 (.tmp 6) rfl (q+3) rfl _ _ _ _ N3.out Tryz.underlying34 rfl HI.out ?_)
     have hto:(tabA f 0 (updN o3 3 at0) (updN c3 3 (n 3)))[2+3]? =some (.int .i64 ((at0:Nat):Int)):=(tabA_off f 0 (updN o3 3 at0) _ (i:=3) (by decide)).trans (by simp [updN])
     have htc:(tabA f 0 (updN o3 3 at0) (updN c3 3 (n 3)))[9+3]? =some (.int .i64 ((n 3:Nat):Int)):=(tabA_cnt f 0 _ (updN c3 3 (n 3)) (i:=3) (by decide)).trans (by simp [updN])
     have hpr:ftab n (pre++ [⟨2,hx⟩])=⟨updN o3 3 at0,updN c3 3 (n 3),alnN (at0+n 3*secSz 3)⟩:=by rw [ftab_next];unfold fstep;rw [HO3.out,HC3.out,HAT.out]
     have HPR:=Lib.hid hpr
     have hbd:at0+n 3*secSz 3≤4611686018427387000:=by omega
     have X4:=Lib.hid (show Blk U (q+4) 3 #[.int .i64 (at0:Int)] from r4k.out)
     have Z3:=N3.out.lt
     have Z4:=X4.out.lt
     have hUq:q≤U.heap.size:=by omega
     clear hpr
     refine ⟨trivial,((callsIn_wide.2 (tabEnd_ok _ 3 (by decide) (by decide) _ rfl at0 (n 3) hto htc hbd _)).inRound lp).mono ?_⟩
     rintro e v10 ⟨rfl,hE⟩
     have HE:=Lib.hid hE
     have A0:=Lib.hid (X4.out.below hE Z4)
     have a0:=(A0.out.cell 0)
     have f0:=A0.out.frozen 0
     have l0:=A0.out.lt
     simp at a0
     clear hE
     generalize hm0:at0+n 3*secSz 3=m0 at*
     have hal2:=(alnN_le m0).2
     gi_wp2_with fail
     refine ⟨trivial,((callsIn_wide.2 (tabAlign_ok m0 hbd _)).inRound lp).mono ?_⟩
     rintro e v11 ⟨rfl,rfl⟩
     gi_wp2
     have hT:=(N7.out.trans (Off34.of_below HE.out hUq)).set4 (i:=0) (.int .i64 ((alnN m0:Nat):Int))
     have hsz:=hT.bel.size
     have hko:=hT.others H3.out H4.out
     refine ⟨hko,hko.walks,by rw [List.length_append];simp;omega,by omega,hT.blk H0.out (by omega) (by omega),hT.blk H1.out (by omega) (by omega),hT.blk H2.out (by omega) (by omega), ?_, ?_,HB.out.trans hT.bel⟩
     ·rw [HPR.out]
      exact (N3.out.below HE.out Z3).far (p:=⟨q+4,0,none⟩) (show q+3≠q+4 by omega) _
     ·rw [HPR.out]
      exact A0.out.set_ 0 (.int .i64 ((alnN m0:Nat):Int))
  ·have p0:=H0.out.cell 4
   have p4:=H4.out.cell 0
   have z0:=H0.out.lt
   have z4:=H4.out.lt
   have z3:=H3.out.lt
   have hle:q≤V.heap.size:=by omega
   simp at p0 p4
   have g1: ¬((n 4:Nat):Int) <0:=by omega
   have g2: ¬1024 <((n 4:Nat):Int):=by have:=HLM.out 4 (by decide) (by decide);simp [limN] at this;omega
   have p0d:V.drew.cell? ⟨q,4,none⟩=some (.int .i64 (n 4:Int)):=p0
   have z0d:q <V.drew.heap.size:=z0
   have HV:=Lib.hid (show ∀U,Below V.drew.heap.size V.drew U→U.cell? ⟨q,4,none⟩=some (.int .i64 (n 4:Int))∧q <U.heap.size from fun U hU=>⟨((Blk.below (show Blk V.drew q 32 (cntCl n) from H0.out) hU z0d).cell 4).trans rfl,Nat.lt_of_lt_of_le z0d hU.size⟩)
   gi_wp2
   gi_cut [26] from 14 (fun b wx=>b= .bool false∧Below V.heap.size V wx)
   case first=>
    rename_i q1 k2 a4 q0 k1 a3 k0 a2 j kk a1 a0
    clear a4 a3 a2
    gi_region_with (refine ⟨trivial,((callsIn_wide.2 (tabLimits_ok _)).inRound lp).mono ?_⟩;rintro e v9 ⟨rfl,h6⟩;have pv:=(HV.out _ h6).1;have zv:=(HV.out _ h6).2)
    all_goals
     gi_wp2_with fail
     gi_meet
     case rel=>exact ⟨by simp [g1,g2],(below_drewB V).trans h6⟩
   case rest=>
    obtain ⟨rfl,hb6⟩:=hcut
    have J0:=Lib.hid (H0.out.below hb6 z0)
    have J3:=Lib.hid (H3.out.below hb6 z3)
    have J4:=Lib.hid (H4.out.below hb6 z4)
    have hO6:=Lib.hid (Off34.of_below hb6 hle)
    have hwz:=hb6.size
    clear p0 p4 p0d z0d HV g1 g2 hb6
    have p0d:wc.drew.cell? ⟨q,4,none⟩=some (.int .i64 (n 4:Int)):=(J0.out.cell 4).trans rfl
    have p4d:wc.drew.cell? ⟨q+4,0,none⟩=some (.int .i64 (at0:Int)):=(J4.out.cell 0).trans rfl
    have e3d:wc.drew.cell? ⟨q+3,6,none⟩=some (.int .i64 ((o3 4:Nat):Int)):=(J3.out.cell 6).trans (tabA_off f 0 o3 c3 (i:=4) (by decide))
    have e9d:wc.drew.cell? ⟨q+3,13,none⟩=some (.int .i64 ((c3 4:Nat):Int)):=(J3.out.cell 13).trans (tabA_cnt f 0 o3 c3 (i:=4) (by decide))
    have f3d:wc.drew.frozen? ⟨q+3,6,none⟩=false:=J3.out.frozen 6
    have f9d:wc.drew.frozen? ⟨q+3,13,none⟩=false:=J3.out.frozen 13
    have z0d:q <wc.drew.heap.size:=J0.out.lt
    have z3d:q+3 <wc.drew.heap.size:=J3.out.lt
    have z4d:q+4 <wc.drew.heap.size:=J4.out.lt
    have p0e:wc.cell? ⟨q,4,none⟩=some (.int .i64 (n 4:Int)):=(J0.out.cell 4).trans rfl
    have p4e:wc.cell? ⟨q+4,0,none⟩=some (.int .i64 (at0:Int)):=(J4.out.cell 0).trans rfl
    have e3e:wc.cell? ⟨q+3,6,none⟩=some (.int .i64 ((o3 4:Nat):Int)):=(J3.out.cell 6).trans (tabA_off f 0 o3 c3 (i:=4) (by decide))
    have e9e:wc.cell? ⟨q+3,13,none⟩=some (.int .i64 ((c3 4:Nat):Int)):=(J3.out.cell 13).trans (tabA_cnt f 0 o3 c3 (i:=4) (by decide))
    have f3e:wc.frozen? ⟨q+3,6,none⟩=false:=J3.out.frozen 6
    have f9e:wc.frozen? ⟨q+3,13,none⟩=false:=J3.out.frozen 13
    have z0e:q <wc.heap.size:=J0.out.lt
    have z3e:q+3 <wc.heap.size:=J3.out.lt
    have z4e:q+4 <wc.heap.size:=J4.out.lt
    obtain ⟨D1,hD1⟩: ∃D1,wc.drew.setCell ⟨q+3,6,none⟩ (.int .i64 (at0:Int))=D1:=⟨_,rfl⟩
    obtain ⟨U,hU⟩: ∃U,D1.setCell ⟨q+3,13,none⟩ (.int .i64 ((n 4:Nat):Int))=U:=⟨_,rfl⟩
    have hd:=(Off34.of_below (below_drewB wc) (by omega:q≤wc.heap.size))
    have M3d:Blk D1 (q+3) 34 (tabA f 0 (updN o3 4 at0) c3):=by
     rw [←hD1]
     have h:=(show Blk wc.drew (q+3) 34 (tabA f 0 o3 c3) from J3.out).set_ 6 (.int .i64 (at0:Int))
     rw [tabA_setO f 0 o3 c3 (i:=4) (by decide)] at h
     exact h
    have N3:=Lib.hid (show Blk U (q+3) 34 (tabA f 0 (updN o3 4 at0) (updN c3 4 (n 4))) by
     rw [←hU]
     have h:=M3d.set_ 13 (.int .i64 ((n 4:Nat):Int))
     rw [tabA_setC f 0 _ c3 (i:=4) (by decide)] at h
     exact h)
    have hO1:Off34 q wc D1:=by rw [←hD1];exact hd.set3 (i:=6) _
    have N7:=Lib.hid (show Off34 q V U by rw [←hU];exact hO6.out.trans (hO1.set3 (i:=13) _))
    have r1:=Lib.hid (hO1.blk J0.out (by omega) (by omega))
    have r2:=Lib.hid (show Blk D1 (q+4) 3 #[.int .i64 (at0:Int)] by rw [←hD1];exact (show Blk wc.drew (q+4) 3 #[.int .i64 (at0:Int)] from J4.out).far (p:=⟨q+3,6,none⟩) (show q+4≠q+3 by omega) _)
    have r3:=Lib.hid (show Blk U q 32 (cntCl n) by rw [←hU];exact r1.out.far (p:=⟨q+3,13,none⟩) (show q≠q+3 by omega) _)
    have r4:=Lib.hid (show Blk U (q+4) 3 #[.int .i64 (at0:Int)] by rw [←hU];exact r2.out.far (p:=⟨q+3,13,none⟩) (show q+4≠q+3 by omega) _)
    have r4k:=r4
    obtain ⟨Wd,hWd⟩: ∃Wd:Array Bool→World,Wd=fun l=>if l[11]? =some true then U else if l[8]? =some true then D1 else wc.drew:=⟨_,rfl⟩
    have w1: ∀l,(Wd l).cell? ⟨q,4,none⟩=some (.int .i64 ((n 4:Nat):Int)):=fun l=>by
     rw [hWd];dsimp only;split
     ·exact (r3.out.cell 4).trans rfl
     ·split
      ·exact (r1.out.cell 4).trans rfl
      ·exact (J0.out.cell 4).trans rfl
    have w2: ∀l,(Wd l).cell? ⟨q+4,0,none⟩=some (.int .i64 (at0:Int)):=fun l=>by
     rw [hWd];dsimp only;split
     ·exact (r4.out.cell 0).trans rfl
     ·split
      ·exact (r2.out.cell 0).trans rfl
      ·exact (J4.out.cell 0).trans rfl
    have w3: ∀(l:Array Bool) i,i≠8→i≠11→Wd (l.setIfInBounds i true)=Wd l:=fun l i h8 h11=>by
     rw [hWd];dsimp only;rw [Array.getElem?_setIfInBounds_ne h8,Array.getElem?_setIfInBounds_ne h11]
    have w4: ∀(l:Array Bool),l.size=12→l[8]? =some false→l[11]? ≠some true→Wd l=wc.drew∧Wd (l.setIfInBounds 8 true)=D1:=fun l hl h8 h11=>by
     rw [hWd];dsimp only;rw [if_neg h11,h8,Array.getElem?_setIfInBounds_ne (by decide),if_neg h11,Array.getElem?_setIfInBounds_self_of_lt (by omega)];exact ⟨rfl,rfl⟩
    have w5: ∀(l:Array Bool),l.size=12→l[8]? =some true→l[11]? =some false→Wd l=D1∧Wd (l.setIfInBounds 11 true)=U:=fun l hl h8 h11=>by
     rw [hWd];dsimp only;rw [h11,h8,Array.getElem?_setIfInBounds_self_of_lt (by omega)];exact ⟨rfl,rfl⟩
    have w6: ∀(l:Array Bool),l[11]? =some true→Wd l=U:=fun l h11=>by
     rw [hWd];dsimp only;rw [if_pos h11]
    have w0:Wd (Array.replicate 12 false)=wc.drew:=by rw [hWd];rfl
    have s1:wc.drew.cell? ⟨q+3,6,none⟩=some (.int .i64 ((o3 4:Nat):Int)):=(J3.out.cell 6).trans (tabA_off f 0 o3 c3 (i:=4) (by decide))
    have s2:D1.cell? ⟨q+3,13,none⟩=some (.int .i64 ((c3 4:Nat):Int)):=(M3d.cell 13).trans (tabA_cnt f 0 _ c3 (i:=4) (by decide))
    have s3:wc.drew.frozen? ⟨q+3,6,none⟩=false:=J3.out.frozen 6
    have s4:D1.frozen? ⟨q+3,13,none⟩=false:=M3d.frozen 13
    clear hd M3d hO1 hWd r3 r4 r1 r2
    clear p0d p4d e3d e9d f3d f9d z0d z3d z4d p0e p4e e3e e9e f3e f9e z0e z3e z4e
    gi_wp2
    refine wpIn_region_known rfl (by kernel_rfl) (by kernel_rfl) (fun u=> {tmps:= #[.int .u64 f, .agg (cntCl n),undef, .pointer (some ⟨q,0,none⟩), .pointer (some ⟨q+1,0,none⟩), .pointer (some ⟨q+1+1,0,none⟩), .pointer (some ⟨q+3,0,none⟩), .pointer (some ⟨q+4,0,none⟩), .int .i64 4, .int .u64 f, .agg #[.int .u64 f, .int .i64 0, .int .i64 0, .int .i64 0, .int .i64 0, .int .i64 0, .int .i64 0, .int .i64 0, .int .i64 0, .int .i64 0, .int .i64 0, .int .i64 0, .int .i64 0, .int .i64 0, .int .i64 0, .int .i64 0], .func (.func 95) #[] #[], .int .i64 4, .int .i64 56,u14,u15,u16,u17,u18,u19,u20,u21,u22,u23,u24,u25, .bool false,u27,u 0,u 1,u 2,u 3,u 4,u 5,u 6,u 7,u 9,u 10,u38,u39,u40,u41,u42,u43,u44,u45],defers:= []})
     (fun j=>match j with |0=>u28 |1=>u29 |2=>u30 |3=>u31 |4=>u32 |5=>u33 |6=>u34 |7=>u35 |9=>u36 |10=>u37 |_=>undef) rfl ?_
     (fun j=>match j with |0=> .int .i64 4 |1=> .int .i64 4 |2=> .int .i64 (at0:Int) |3=> .int .i64 4 |4=> .pointer (some ⟨q,4,none⟩) |5=> .int .i64 ((n 4:Nat):Int) |6=> .pointer (some ⟨q+3,2,none⟩) |7=> .pointer (some ⟨q+3,6,none⟩) |8=>undef |9=> .pointer (some ⟨q+3,9,none⟩) |10=> .pointer (some ⟨q+3,13,none⟩) |11=>undef |_=>undef) Wd w0 ?_ ?_
    ·intro i o ho u v
     have hi:i <12:=(Array.getElem?_eq_some_iff.1 ho).1
     obtain rfl |rfl |rfl |rfl |rfl |rfl |rfl |rfl |rfl |rfl |rfl |rfl:=(by omega:i=0∨i=1∨i=2∨i=3∨i=4∨i=5∨i=6∨i=7∨i=8∨i=9∨i=10∨i=11)
     all_goals
      cases ho
      rfl
    ·intro i o ho l u hl hf hcl hdp
     have hi:i <12:=(Array.getElem?_eq_some_iff.1 ho).1
     obtain rfl |rfl |rfl |rfl |rfl |rfl |rfl |rfl |rfl |rfl |rfl |rfl:=(by omega:i=0∨i=1∨i=2∨i=3∨i=4∨i=5∨i=6∨i=7∨i=8∨i=9∨i=10∨i=11)
     ·cases ho
      rw [w3 l _ (by decide) (by decide)]
      refine ⟨.value _, ?_, .inl rfl⟩
      simp [go_sem]
     ·cases ho
      rw [w3 l _ (by decide) (by decide)]
      refine ⟨.value _, ?_, .inl rfl⟩
      simp [go_sem]
     ·cases ho
      rw [w3 l _ (by decide) (by decide)]
      refine ⟨.value _, ?_, .inl rfl⟩
      simp [go_sem,w2 l]
     ·cases ho
      rw [w3 l _ (by decide) (by decide)]
      refine ⟨.value _, ?_, .inl rfl⟩
      simp [go_sem]
     ·cases ho
      have d3:u 3= .int .i64 4:=(hdp ⟨3, .data⟩ (by simp) rfl).2
      rw [w3 l _ (by decide) (by decide)]
      refine ⟨.value _, ?_, .inl rfl⟩
      simp [go_sem,d3]
     ·cases ho
      have d4:u 4= .pointer (some ⟨q,4,none⟩):=(hdp ⟨4, .data⟩ (by simp) rfl).2
      rw [w3 l _ (by decide) (by decide)]
      refine ⟨.value _, ?_, .inl rfl⟩
      simp [go_sem,d4,w1 l]
     ·cases ho
      rw [w3 l _ (by decide) (by decide)]
      refine ⟨.value _, ?_, .inl rfl⟩
      simp [go_sem]
     ·cases ho
      have d6:u 6= .pointer (some ⟨q+3,2,none⟩):=(hdp ⟨6, .data⟩ (by simp) rfl).2
      have d0:u 0= .int .i64 4:=(hdp ⟨0, .data⟩ (by simp) rfl).2
      rw [w3 l _ (by decide) (by decide)]
      refine ⟨.value _, ?_, .inl rfl⟩
      simp [go_sem,d6,d0]
     ·cases ho
      have d7:u 7= .pointer (some ⟨q+3,6,none⟩):=(hdp ⟨7, .data⟩ (by simp) rfl).2
      have d2:u 2= .int .i64 (at0:Int):=(hdp ⟨2, .data⟩ (by simp) rfl).2
      obtain ⟨y1,y2⟩:=w4 l hl hf (fun h11=>by have:=hcl 11 _ rfl h11 ⟨8, .chain⟩ (by simp) rfl;rw [hf] at this;cases this)
      rw [y1,y2, ←hD1]
      refine ⟨.skip, ?_, .inr ⟨rfl,rfl⟩⟩
      simp [go_sem,d7,d2,s1,s3]
     ·cases ho
      rw [w3 l _ (by decide) (by decide)]
      refine ⟨.value _, ?_, .inl rfl⟩
      simp [go_sem]
     ·cases ho
      have d9:u 9= .pointer (some ⟨q+3,9,none⟩):=(hdp ⟨9, .data⟩ (by simp) rfl).2
      have d1:u 1= .int .i64 4:=(hdp ⟨1, .data⟩ (by simp) rfl).2
      rw [w3 l _ (by decide) (by decide)]
      refine ⟨.value _, ?_, .inl rfl⟩
      simp [go_sem,d9,d1]
     ·cases ho
      have d10:u 10= .pointer (some ⟨q+3,13,none⟩):=(hdp ⟨10, .data⟩ (by simp) rfl).2
      have d5:u 5= .int .i64 ((n 4:Nat):Int):=(hdp ⟨5, .data⟩ (by simp) rfl).2
      obtain ⟨y1,y2⟩:=w5 l hl (hdp ⟨8, .chain⟩ (by simp) rfl).1 hf
      rw [y1,y2, ←hU]
      refine ⟨.skip, ?_, .inr ⟨rfl,rfl⟩⟩
      simp [go_sem,d10,d5,s2,s4]
    ·intro u l hu hl hal
     rw [w6 l (hal 11 (by decide))]
     clear hu
     clear s1 s2 s3 s4 w0 w1 w2 w3 w4 w5 w6 hD1 hU
     have hns:=hn 4
     have hsz6:secSz 4≤56:=by decide
     have hmul:=Nat.mul_le_mul hns hsz6
     gi_wp2_with (refine wpListIn_load_row rfl 34 (.tmp 6) rfl (q+3) rfl _ _ _ _ N3.out Tryz.underlying34 rfl HI.out ?_)
     have hto:(tabA f 0 (updN o3 4 at0) (updN c3 4 (n 4)))[2+4]? =some (.int .i64 ((at0:Nat):Int)):=(tabA_off f 0 (updN o3 4 at0) _ (i:=4) (by decide)).trans (by simp [updN])
     have htc:(tabA f 0 (updN o3 4 at0) (updN c3 4 (n 4)))[9+4]? =some (.int .i64 ((n 4:Nat):Int)):=(tabA_cnt f 0 _ (updN c3 4 (n 4)) (i:=4) (by decide)).trans (by simp [updN])
     have hpr:ftab n (pre++ [⟨3,hx⟩])=⟨updN o3 4 at0,updN c3 4 (n 4),alnN (at0+n 4*secSz 4)⟩:=by rw [ftab_next];unfold fstep;rw [HO3.out,HC3.out,HAT.out]
     have HPR:=Lib.hid hpr
     have hbd:at0+n 4*secSz 4≤4611686018427387000:=by omega
     have X4:=Lib.hid (show Blk U (q+4) 3 #[.int .i64 (at0:Int)] from r4k.out)
     have Z3:=N3.out.lt
     have Z4:=X4.out.lt
     have hUq:q≤U.heap.size:=by omega
     clear hpr
     refine ⟨trivial,((callsIn_wide.2 (tabEnd_ok _ 4 (by decide) (by decide) _ rfl at0 (n 4) hto htc hbd _)).inRound lp).mono ?_⟩
     rintro e v10 ⟨rfl,hE⟩
     have HE:=Lib.hid hE
     have A0:=Lib.hid (X4.out.below hE Z4)
     have a0:=(A0.out.cell 0)
     have f0:=A0.out.frozen 0
     have l0:=A0.out.lt
     simp at a0
     clear hE
     generalize hm0:at0+n 4*secSz 4=m0 at*
     have hal2:=(alnN_le m0).2
     gi_wp2_with fail
     refine ⟨trivial,((callsIn_wide.2 (tabAlign_ok m0 hbd _)).inRound lp).mono ?_⟩
     rintro e v11 ⟨rfl,rfl⟩
     gi_wp2
     have hT:=(N7.out.trans (Off34.of_below HE.out hUq)).set4 (i:=0) (.int .i64 ((alnN m0:Nat):Int))
     have hsz:=hT.bel.size
     have hko:=hT.others H3.out H4.out
     refine ⟨hko,hko.walks,by rw [List.length_append];simp;omega,by omega,hT.blk H0.out (by omega) (by omega),hT.blk H1.out (by omega) (by omega),hT.blk H2.out (by omega) (by omega), ?_, ?_,HB.out.trans hT.bel⟩
     ·rw [HPR.out]
      exact (N3.out.below HE.out Z3).far (p:=⟨q+4,0,none⟩) (show q+3≠q+4 by omega) _
     ·rw [HPR.out]
      exact A0.out.set_ 0 (.int .i64 ((alnN m0:Nat):Int))
  ·have p0:=H0.out.cell 5
   have p4:=H4.out.cell 0
   have z0:=H0.out.lt
   have z4:=H4.out.lt
   have z3:=H3.out.lt
   have hle:q≤V.heap.size:=by omega
   simp at p0 p4
   have g1: ¬((n 5:Nat):Int) <0:=by omega
   have g2: ¬512 <((n 5:Nat):Int):=by have:=HLM.out 5 (by decide) (by decide);simp [limN] at this;omega
   have p0d:V.drew.cell? ⟨q,5,none⟩=some (.int .i64 (n 5:Int)):=p0
   have z0d:q <V.drew.heap.size:=z0
   have HV:=Lib.hid (show ∀U,Below V.drew.heap.size V.drew U→U.cell? ⟨q,5,none⟩=some (.int .i64 (n 5:Int))∧q <U.heap.size from fun U hU=>⟨((Blk.below (show Blk V.drew q 32 (cntCl n) from H0.out) hU z0d).cell 5).trans rfl,Nat.lt_of_lt_of_le z0d hU.size⟩)
   gi_wp2
   gi_cut [26] from 14 (fun b wx=>b= .bool false∧Below V.heap.size V wx)
   case first=>
    rename_i q1 k2 a4 q0 k1 a3 k0 a2 j kk a1 a0
    clear a4 a3 a2
    gi_region_with (refine ⟨trivial,((callsIn_wide.2 (tabLimits_ok _)).inRound lp).mono ?_⟩;rintro e v9 ⟨rfl,h6⟩;have pv:=(HV.out _ h6).1;have zv:=(HV.out _ h6).2)
    all_goals
     gi_wp2_with fail
     gi_meet
     case rel=>exact ⟨by simp [g1,g2],(below_drewB V).trans h6⟩
   case rest=>
    obtain ⟨rfl,hb6⟩:=hcut
    have J0:=Lib.hid (H0.out.below hb6 z0)
    have J3:=Lib.hid (H3.out.below hb6 z3)
    have J4:=Lib.hid (H4.out.below hb6 z4)
    have hO6:=Lib.hid (Off34.of_below hb6 hle)
    have hwz:=hb6.size
    clear p0 p4 p0d z0d HV g1 g2 hb6
    have p0d:wc.drew.cell? ⟨q,5,none⟩=some (.int .i64 (n 5:Int)):=(J0.out.cell 5).trans rfl
    have p4d:wc.drew.cell? ⟨q+4,0,none⟩=some (.int .i64 (at0:Int)):=(J4.out.cell 0).trans rfl
    have e3d:wc.drew.cell? ⟨q+3,7,none⟩=some (.int .i64 ((o3 5:Nat):Int)):=(J3.out.cell 7).trans (tabA_off f 0 o3 c3 (i:=5) (by decide))
    have e9d:wc.drew.cell? ⟨q+3,14,none⟩=some (.int .i64 ((c3 5:Nat):Int)):=(J3.out.cell 14).trans (tabA_cnt f 0 o3 c3 (i:=5) (by decide))
    have f3d:wc.drew.frozen? ⟨q+3,7,none⟩=false:=J3.out.frozen 7
    have f9d:wc.drew.frozen? ⟨q+3,14,none⟩=false:=J3.out.frozen 14
    have z0d:q <wc.drew.heap.size:=J0.out.lt
    have z3d:q+3 <wc.drew.heap.size:=J3.out.lt
    have z4d:q+4 <wc.drew.heap.size:=J4.out.lt
    have p0e:wc.cell? ⟨q,5,none⟩=some (.int .i64 (n 5:Int)):=(J0.out.cell 5).trans rfl
    have p4e:wc.cell? ⟨q+4,0,none⟩=some (.int .i64 (at0:Int)):=(J4.out.cell 0).trans rfl
    have e3e:wc.cell? ⟨q+3,7,none⟩=some (.int .i64 ((o3 5:Nat):Int)):=(J3.out.cell 7).trans (tabA_off f 0 o3 c3 (i:=5) (by decide))
    have e9e:wc.cell? ⟨q+3,14,none⟩=some (.int .i64 ((c3 5:Nat):Int)):=(J3.out.cell 14).trans (tabA_cnt f 0 o3 c3 (i:=5) (by decide))
    have f3e:wc.frozen? ⟨q+3,7,none⟩=false:=J3.out.frozen 7
    have f9e:wc.frozen? ⟨q+3,14,none⟩=false:=J3.out.frozen 14
    have z0e:q <wc.heap.size:=J0.out.lt
    have z3e:q+3 <wc.heap.size:=J3.out.lt
    have z4e:q+4 <wc.heap.size:=J4.out.lt
    obtain ⟨D1,hD1⟩: ∃D1,wc.drew.setCell ⟨q+3,7,none⟩ (.int .i64 (at0:Int))=D1:=⟨_,rfl⟩
    obtain ⟨U,hU⟩: ∃U,D1.setCell ⟨q+3,14,none⟩ (.int .i64 ((n 5:Nat):Int))=U:=⟨_,rfl⟩
    have hd:=(Off34.of_below (below_drewB wc) (by omega:q≤wc.heap.size))
    have M3d:Blk D1 (q+3) 34 (tabA f 0 (updN o3 5 at0) c3):=by
     rw [←hD1]
     have h:=(show Blk wc.drew (q+3) 34 (tabA f 0 o3 c3) from J3.out).set_ 7 (.int .i64 (at0:Int))
     rw [tabA_setO f 0 o3 c3 (i:=5) (by decide)] at h
     exact h
    have N3:=Lib.hid (show Blk U (q+3) 34 (tabA f 0 (updN o3 5 at0) (updN c3 5 (n 5))) by
     rw [←hU]
     have h:=M3d.set_ 14 (.int .i64 ((n 5:Nat):Int))
     rw [tabA_setC f 0 _ c3 (i:=5) (by decide)] at h
     exact h)
    have hO1:Off34 q wc D1:=by rw [←hD1];exact hd.set3 (i:=7) _
    have N7:=Lib.hid (show Off34 q V U by rw [←hU];exact hO6.out.trans (hO1.set3 (i:=14) _))
    have r1:=Lib.hid (hO1.blk J0.out (by omega) (by omega))
    have r2:=Lib.hid (show Blk D1 (q+4) 3 #[.int .i64 (at0:Int)] by rw [←hD1];exact (show Blk wc.drew (q+4) 3 #[.int .i64 (at0:Int)] from J4.out).far (p:=⟨q+3,7,none⟩) (show q+4≠q+3 by omega) _)
    have r3:=Lib.hid (show Blk U q 32 (cntCl n) by rw [←hU];exact r1.out.far (p:=⟨q+3,14,none⟩) (show q≠q+3 by omega) _)
    have r4:=Lib.hid (show Blk U (q+4) 3 #[.int .i64 (at0:Int)] by rw [←hU];exact r2.out.far (p:=⟨q+3,14,none⟩) (show q+4≠q+3 by omega) _)
    have r4k:=r4
    obtain ⟨Wd,hWd⟩: ∃Wd:Array Bool→World,Wd=fun l=>if l[11]? =some true then U else if l[8]? =some true then D1 else wc.drew:=⟨_,rfl⟩
    have w1: ∀l,(Wd l).cell? ⟨q,5,none⟩=some (.int .i64 ((n 5:Nat):Int)):=fun l=>by
     rw [hWd];dsimp only;split
     ·exact (r3.out.cell 5).trans rfl
     ·split
      ·exact (r1.out.cell 5).trans rfl
      ·exact (J0.out.cell 5).trans rfl
    have w2: ∀l,(Wd l).cell? ⟨q+4,0,none⟩=some (.int .i64 (at0:Int)):=fun l=>by
     rw [hWd];dsimp only;split
     ·exact (r4.out.cell 0).trans rfl
     ·split
      ·exact (r2.out.cell 0).trans rfl
      ·exact (J4.out.cell 0).trans rfl
    have w3: ∀(l:Array Bool) i,i≠8→i≠11→Wd (l.setIfInBounds i true)=Wd l:=fun l i h8 h11=>by
     rw [hWd];dsimp only;rw [Array.getElem?_setIfInBounds_ne h8,Array.getElem?_setIfInBounds_ne h11]
    have w4: ∀(l:Array Bool),l.size=12→l[8]? =some false→l[11]? ≠some true→Wd l=wc.drew∧Wd (l.setIfInBounds 8 true)=D1:=fun l hl h8 h11=>by
     rw [hWd];dsimp only;rw [if_neg h11,h8,Array.getElem?_setIfInBounds_ne (by decide),if_neg h11,Array.getElem?_setIfInBounds_self_of_lt (by omega)];exact ⟨rfl,rfl⟩
    have w5: ∀(l:Array Bool),l.size=12→l[8]? =some true→l[11]? =some false→Wd l=D1∧Wd (l.setIfInBounds 11 true)=U:=fun l hl h8 h11=>by
     rw [hWd];dsimp only;rw [h11,h8,Array.getElem?_setIfInBounds_self_of_lt (by omega)];exact ⟨rfl,rfl⟩
    have w6: ∀(l:Array Bool),l[11]? =some true→Wd l=U:=fun l h11=>by
     rw [hWd];dsimp only;rw [if_pos h11]
    have w0:Wd (Array.replicate 12 false)=wc.drew:=by rw [hWd];rfl
    have s1:wc.drew.cell? ⟨q+3,7,none⟩=some (.int .i64 ((o3 5:Nat):Int)):=(J3.out.cell 7).trans (tabA_off f 0 o3 c3 (i:=5) (by decide))
    have s2:D1.cell? ⟨q+3,14,none⟩=some (.int .i64 ((c3 5:Nat):Int)):=(M3d.cell 14).trans (tabA_cnt f 0 _ c3 (i:=5) (by decide))
    have s3:wc.drew.frozen? ⟨q+3,7,none⟩=false:=J3.out.frozen 7
    have s4:D1.frozen? ⟨q+3,14,none⟩=false:=M3d.frozen 14
    clear hd M3d hO1 hWd r3 r4 r1 r2
    clear p0d p4d e3d e9d f3d f9d z0d z3d z4d p0e p4e e3e e9e f3e f9e z0e z3e z4e
    gi_wp2
    refine wpIn_region_known rfl (by kernel_rfl) (by kernel_rfl) (fun u=> {tmps:= #[.int .u64 f, .agg (cntCl n),undef, .pointer (some ⟨q,0,none⟩), .pointer (some ⟨q+1,0,none⟩), .pointer (some ⟨q+1+1,0,none⟩), .pointer (some ⟨q+3,0,none⟩), .pointer (some ⟨q+4,0,none⟩), .int .i64 5, .int .u64 f, .agg #[.int .u64 f, .int .i64 0, .int .i64 0, .int .i64 0, .int .i64 0, .int .i64 0, .int .i64 0, .int .i64 0, .int .i64 0, .int .i64 0, .int .i64 0, .int .i64 0, .int .i64 0, .int .i64 0, .int .i64 0, .int .i64 0], .func (.func 95) #[] #[], .int .i64 5, .int .i64 64,u14,u15,u16,u17,u18,u19,u20,u21,u22,u23,u24,u25, .bool false,u27,u 0,u 1,u 2,u 3,u 4,u 5,u 6,u 7,u 9,u 10,u38,u39,u40,u41,u42,u43,u44,u45],defers:= []})
     (fun j=>match j with |0=>u28 |1=>u29 |2=>u30 |3=>u31 |4=>u32 |5=>u33 |6=>u34 |7=>u35 |9=>u36 |10=>u37 |_=>undef) rfl ?_
     (fun j=>match j with |0=> .int .i64 5 |1=> .int .i64 5 |2=> .int .i64 (at0:Int) |3=> .int .i64 5 |4=> .pointer (some ⟨q,5,none⟩) |5=> .int .i64 ((n 5:Nat):Int) |6=> .pointer (some ⟨q+3,2,none⟩) |7=> .pointer (some ⟨q+3,7,none⟩) |8=>undef |9=> .pointer (some ⟨q+3,9,none⟩) |10=> .pointer (some ⟨q+3,14,none⟩) |11=>undef |_=>undef) Wd w0 ?_ ?_
    ·intro i o ho u v
     have hi:i <12:=(Array.getElem?_eq_some_iff.1 ho).1
     obtain rfl |rfl |rfl |rfl |rfl |rfl |rfl |rfl |rfl |rfl |rfl |rfl:=(by omega:i=0∨i=1∨i=2∨i=3∨i=4∨i=5∨i=6∨i=7∨i=8∨i=9∨i=10∨i=11)
     all_goals
      cases ho
      rfl
    ·intro i o ho l u hl hf hcl hdp
     have hi:i <12:=(Array.getElem?_eq_some_iff.1 ho).1
     obtain rfl |rfl |rfl |rfl |rfl |rfl |rfl |rfl |rfl |rfl |rfl |rfl:=(by omega:i=0∨i=1∨i=2∨i=3∨i=4∨i=5∨i=6∨i=7∨i=8∨i=9∨i=10∨i=11)
     ·cases ho
      rw [w3 l _ (by decide) (by decide)]
      refine ⟨.value _, ?_, .inl rfl⟩
      simp [go_sem]
     ·cases ho
      rw [w3 l _ (by decide) (by decide)]
      refine ⟨.value _, ?_, .inl rfl⟩
      simp [go_sem]
     ·cases ho
      rw [w3 l _ (by decide) (by decide)]
      refine ⟨.value _, ?_, .inl rfl⟩
      simp [go_sem,w2 l]
     ·cases ho
      rw [w3 l _ (by decide) (by decide)]
      refine ⟨.value _, ?_, .inl rfl⟩
      simp [go_sem]
     ·cases ho
      have d3:u 3= .int .i64 5:=(hdp ⟨3, .data⟩ (by simp) rfl).2
      rw [w3 l _ (by decide) (by decide)]
      refine ⟨.value _, ?_, .inl rfl⟩
      simp [go_sem,d3]
     ·cases ho
      have d4:u 4= .pointer (some ⟨q,5,none⟩):=(hdp ⟨4, .data⟩ (by simp) rfl).2
      rw [w3 l _ (by decide) (by decide)]
      refine ⟨.value _, ?_, .inl rfl⟩
      simp [go_sem,d4,w1 l]
     ·cases ho
      rw [w3 l _ (by decide) (by decide)]
      refine ⟨.value _, ?_, .inl rfl⟩
      simp [go_sem]
     ·cases ho
      have d6:u 6= .pointer (some ⟨q+3,2,none⟩):=(hdp ⟨6, .data⟩ (by simp) rfl).2
      have d0:u 0= .int .i64 5:=(hdp ⟨0, .data⟩ (by simp) rfl).2
      rw [w3 l _ (by decide) (by decide)]
      refine ⟨.value _, ?_, .inl rfl⟩
      simp [go_sem,d6,d0]
     ·cases ho
      have d7:u 7= .pointer (some ⟨q+3,7,none⟩):=(hdp ⟨7, .data⟩ (by simp) rfl).2
      have d2:u 2= .int .i64 (at0:Int):=(hdp ⟨2, .data⟩ (by simp) rfl).2
      obtain ⟨y1,y2⟩:=w4 l hl hf (fun h11=>by have:=hcl 11 _ rfl h11 ⟨8, .chain⟩ (by simp) rfl;rw [hf] at this;cases this)
      rw [y1,y2, ←hD1]
      refine ⟨.skip, ?_, .inr ⟨rfl,rfl⟩⟩
      simp [go_sem,d7,d2,s1,s3]
     ·cases ho
      rw [w3 l _ (by decide) (by decide)]
      refine ⟨.value _, ?_, .inl rfl⟩
      simp [go_sem]
     ·cases ho
      have d9:u 9= .pointer (some ⟨q+3,9,none⟩):=(hdp ⟨9, .data⟩ (by simp) rfl).2
      have d1:u 1= .int .i64 5:=(hdp ⟨1, .data⟩ (by simp) rfl).2
      rw [w3 l _ (by decide) (by decide)]
      refine ⟨.value _, ?_, .inl rfl⟩
      simp [go_sem,d9,d1]
     ·cases ho
      have d10:u 10= .pointer (some ⟨q+3,14,none⟩):=(hdp ⟨10, .data⟩ (by simp) rfl).2
      have d5:u 5= .int .i64 ((n 5:Nat):Int):=(hdp ⟨5, .data⟩ (by simp) rfl).2
      obtain ⟨y1,y2⟩:=w5 l hl (hdp ⟨8, .chain⟩ (by simp) rfl).1 hf
      rw [y1,y2, ←hU]
      refine ⟨.skip, ?_, .inr ⟨rfl,rfl⟩⟩
      simp [go_sem,d10,d5,s2,s4]
    ·intro u l hu hl hal
     rw [w6 l (hal 11 (by decide))]
     clear hu
     clear s1 s2 s3 s4 w0 w1 w2 w3 w4 w5 w6 hD1 hU
     have hns:=hn 5
     have hsz6:secSz 5≤56:=by decide
     have hmul:=Nat.mul_le_mul hns hsz6
     gi_wp2_with (refine wpListIn_load_row rfl 34 (.tmp 6) rfl (q+3) rfl _ _ _ _ N3.out Tryz.underlying34 rfl HI.out ?_)
     have hto:(tabA f 0 (updN o3 5 at0) (updN c3 5 (n 5)))[2+5]? =some (.int .i64 ((at0:Nat):Int)):=(tabA_off f 0 (updN o3 5 at0) _ (i:=5) (by decide)).trans (by simp [updN])
     have htc:(tabA f 0 (updN o3 5 at0) (updN c3 5 (n 5)))[9+5]? =some (.int .i64 ((n 5:Nat):Int)):=(tabA_cnt f 0 _ (updN c3 5 (n 5)) (i:=5) (by decide)).trans (by simp [updN])
     have hpr:ftab n (pre++ [⟨4,hx⟩])=⟨updN o3 5 at0,updN c3 5 (n 5),alnN (at0+n 5*secSz 5)⟩:=by rw [ftab_next];unfold fstep;rw [HO3.out,HC3.out,HAT.out]
     have HPR:=Lib.hid hpr
     have hbd:at0+n 5*secSz 5≤4611686018427387000:=by omega
     have X4:=Lib.hid (show Blk U (q+4) 3 #[.int .i64 (at0:Int)] from r4k.out)
     have Z3:=N3.out.lt
     have Z4:=X4.out.lt
     have hUq:q≤U.heap.size:=by omega
     clear hpr
     refine ⟨trivial,((callsIn_wide.2 (tabEnd_ok _ 5 (by decide) (by decide) _ rfl at0 (n 5) hto htc hbd _)).inRound lp).mono ?_⟩
     rintro e v10 ⟨rfl,hE⟩
     have HE:=Lib.hid hE
     have A0:=Lib.hid (X4.out.below hE Z4)
     have a0:=(A0.out.cell 0)
     have f0:=A0.out.frozen 0
     have l0:=A0.out.lt
     simp at a0
     clear hE
     generalize hm0:at0+n 5*secSz 5=m0 at*
     have hal2:=(alnN_le m0).2
     gi_wp2_with fail
     refine ⟨trivial,((callsIn_wide.2 (tabAlign_ok m0 hbd _)).inRound lp).mono ?_⟩
     rintro e v11 ⟨rfl,rfl⟩
     gi_wp2
     have hT:=(N7.out.trans (Off34.of_below HE.out hUq)).set4 (i:=0) (.int .i64 ((alnN m0:Nat):Int))
     have hsz:=hT.bel.size
     have hko:=hT.others H3.out H4.out
     refine ⟨hko,hko.walks,by rw [List.length_append];simp;omega,by omega,hT.blk H0.out (by omega) (by omega),hT.blk H1.out (by omega) (by omega),hT.blk H2.out (by omega) (by omega), ?_, ?_,HB.out.trans hT.bel⟩
     ·rw [HPR.out]
      exact (N3.out.below HE.out Z3).far (p:=⟨q+4,0,none⟩) (show q+3≠q+4 by omega) _
     ·rw [HPR.out]
      exact A0.out.set_ 0 (.int .i64 ((alnN m0:Nat):Int))
  ·have p0:=H0.out.cell 6
   have p4:=H4.out.cell 0
   have z0:=H0.out.lt
   have z4:=H4.out.lt
   have z3:=H3.out.lt
   have hle:q≤V.heap.size:=by omega
   simp at p0 p4
   have g1: ¬((n 6:Nat):Int) <0:=by omega
   have g2: ¬1024 <((n 6:Nat):Int):=by have:=HLM.out 6 (by decide) (by decide);simp [limN] at this;omega
   have p0d:V.drew.cell? ⟨q,6,none⟩=some (.int .i64 (n 6:Int)):=p0
   have z0d:q <V.drew.heap.size:=z0
   have HV:=Lib.hid (show ∀U,Below V.drew.heap.size V.drew U→U.cell? ⟨q,6,none⟩=some (.int .i64 (n 6:Int))∧q <U.heap.size from fun U hU=>⟨((Blk.below (show Blk V.drew q 32 (cntCl n) from H0.out) hU z0d).cell 6).trans rfl,Nat.lt_of_lt_of_le z0d hU.size⟩)
   gi_wp2
   gi_cut [26] from 14 (fun b wx=>b= .bool false∧Below V.heap.size V wx)
   case first=>
    rename_i q1 k2 a4 q0 k1 a3 k0 a2 j kk a1 a0
    clear a4 a3 a2
    gi_region_with (refine ⟨trivial,((callsIn_wide.2 (tabLimits_ok _)).inRound lp).mono ?_⟩;rintro e v9 ⟨rfl,h6⟩;have pv:=(HV.out _ h6).1;have zv:=(HV.out _ h6).2)
    all_goals
     gi_wp2_with fail
     gi_meet
     case rel=>exact ⟨by simp [g1,g2],(below_drewB V).trans h6⟩
   case rest=>
    obtain ⟨rfl,hb6⟩:=hcut
    have J0:=Lib.hid (H0.out.below hb6 z0)
    have J3:=Lib.hid (H3.out.below hb6 z3)
    have J4:=Lib.hid (H4.out.below hb6 z4)
    have hO6:=Lib.hid (Off34.of_below hb6 hle)
    have hwz:=hb6.size
    clear p0 p4 p0d z0d HV g1 g2 hb6
    have p0d:wc.drew.cell? ⟨q,6,none⟩=some (.int .i64 (n 6:Int)):=(J0.out.cell 6).trans rfl
    have p4d:wc.drew.cell? ⟨q+4,0,none⟩=some (.int .i64 (at0:Int)):=(J4.out.cell 0).trans rfl
    have e3d:wc.drew.cell? ⟨q+3,8,none⟩=some (.int .i64 ((o3 6:Nat):Int)):=(J3.out.cell 8).trans (tabA_off f 0 o3 c3 (i:=6) (by decide))
    have e9d:wc.drew.cell? ⟨q+3,15,none⟩=some (.int .i64 ((c3 6:Nat):Int)):=(J3.out.cell 15).trans (tabA_cnt f 0 o3 c3 (i:=6) (by decide))
    have f3d:wc.drew.frozen? ⟨q+3,8,none⟩=false:=J3.out.frozen 8
    have f9d:wc.drew.frozen? ⟨q+3,15,none⟩=false:=J3.out.frozen 15
    have z0d:q <wc.drew.heap.size:=J0.out.lt
    have z3d:q+3 <wc.drew.heap.size:=J3.out.lt
    have z4d:q+4 <wc.drew.heap.size:=J4.out.lt
    have p0e:wc.cell? ⟨q,6,none⟩=some (.int .i64 (n 6:Int)):=(J0.out.cell 6).trans rfl
    have p4e:wc.cell? ⟨q+4,0,none⟩=some (.int .i64 (at0:Int)):=(J4.out.cell 0).trans rfl
    have e3e:wc.cell? ⟨q+3,8,none⟩=some (.int .i64 ((o3 6:Nat):Int)):=(J3.out.cell 8).trans (tabA_off f 0 o3 c3 (i:=6) (by decide))
    have e9e:wc.cell? ⟨q+3,15,none⟩=some (.int .i64 ((c3 6:Nat):Int)):=(J3.out.cell 15).trans (tabA_cnt f 0 o3 c3 (i:=6) (by decide))
    have f3e:wc.frozen? ⟨q+3,8,none⟩=false:=J3.out.frozen 8
    have f9e:wc.frozen? ⟨q+3,15,none⟩=false:=J3.out.frozen 15
    have z0e:q <wc.heap.size:=J0.out.lt
    have z3e:q+3 <wc.heap.size:=J3.out.lt
    have z4e:q+4 <wc.heap.size:=J4.out.lt
    obtain ⟨D1,hD1⟩: ∃D1,wc.drew.setCell ⟨q+3,8,none⟩ (.int .i64 (at0:Int))=D1:=⟨_,rfl⟩
    obtain ⟨U,hU⟩: ∃U,D1.setCell ⟨q+3,15,none⟩ (.int .i64 ((n 6:Nat):Int))=U:=⟨_,rfl⟩
    have hd:=(Off34.of_below (below_drewB wc) (by omega:q≤wc.heap.size))
    have M3d:Blk D1 (q+3) 34 (tabA f 0 (updN o3 6 at0) c3):=by
     rw [←hD1]
     have h:=(show Blk wc.drew (q+3) 34 (tabA f 0 o3 c3) from J3.out).set_ 8 (.int .i64 (at0:Int))
     rw [tabA_setO f 0 o3 c3 (i:=6) (by decide)] at h
     exact h
    have N3:=Lib.hid (show Blk U (q+3) 34 (tabA f 0 (updN o3 6 at0) (updN c3 6 (n 6))) by
     rw [←hU]
     have h:=M3d.set_ 15 (.int .i64 ((n 6:Nat):Int))
     rw [tabA_setC f 0 _ c3 (i:=6) (by decide)] at h
     exact h)
    have hO1:Off34 q wc D1:=by rw [←hD1];exact hd.set3 (i:=8) _
    have N7:=Lib.hid (show Off34 q V U by rw [←hU];exact hO6.out.trans (hO1.set3 (i:=15) _))
    have r1:=Lib.hid (hO1.blk J0.out (by omega) (by omega))
    have r2:=Lib.hid (show Blk D1 (q+4) 3 #[.int .i64 (at0:Int)] by rw [←hD1];exact (show Blk wc.drew (q+4) 3 #[.int .i64 (at0:Int)] from J4.out).far (p:=⟨q+3,8,none⟩) (show q+4≠q+3 by omega) _)
    have r3:=Lib.hid (show Blk U q 32 (cntCl n) by rw [←hU];exact r1.out.far (p:=⟨q+3,15,none⟩) (show q≠q+3 by omega) _)
    have r4:=Lib.hid (show Blk U (q+4) 3 #[.int .i64 (at0:Int)] by rw [←hU];exact r2.out.far (p:=⟨q+3,15,none⟩) (show q+4≠q+3 by omega) _)
    have r4k:=r4
    obtain ⟨Wd,hWd⟩: ∃Wd:Array Bool→World,Wd=fun l=>if l[11]? =some true then U else if l[8]? =some true then D1 else wc.drew:=⟨_,rfl⟩
    have w1: ∀l,(Wd l).cell? ⟨q,6,none⟩=some (.int .i64 ((n 6:Nat):Int)):=fun l=>by
     rw [hWd];dsimp only;split
     ·exact (r3.out.cell 6).trans rfl
     ·split
      ·exact (r1.out.cell 6).trans rfl
      ·exact (J0.out.cell 6).trans rfl
    have w2: ∀l,(Wd l).cell? ⟨q+4,0,none⟩=some (.int .i64 (at0:Int)):=fun l=>by
     rw [hWd];dsimp only;split
     ·exact (r4.out.cell 0).trans rfl
     ·split
      ·exact (r2.out.cell 0).trans rfl
      ·exact (J4.out.cell 0).trans rfl
    have w3: ∀(l:Array Bool) i,i≠8→i≠11→Wd (l.setIfInBounds i true)=Wd l:=fun l i h8 h11=>by
     rw [hWd];dsimp only;rw [Array.getElem?_setIfInBounds_ne h8,Array.getElem?_setIfInBounds_ne h11]
    have w4: ∀(l:Array Bool),l.size=12→l[8]? =some false→l[11]? ≠some true→Wd l=wc.drew∧Wd (l.setIfInBounds 8 true)=D1:=fun l hl h8 h11=>by
     rw [hWd];dsimp only;rw [if_neg h11,h8,Array.getElem?_setIfInBounds_ne (by decide),if_neg h11,Array.getElem?_setIfInBounds_self_of_lt (by omega)];exact ⟨rfl,rfl⟩
    have w5: ∀(l:Array Bool),l.size=12→l[8]? =some true→l[11]? =some false→Wd l=D1∧Wd (l.setIfInBounds 11 true)=U:=fun l hl h8 h11=>by
     rw [hWd];dsimp only;rw [h11,h8,Array.getElem?_setIfInBounds_self_of_lt (by omega)];exact ⟨rfl,rfl⟩
    have w6: ∀(l:Array Bool),l[11]? =some true→Wd l=U:=fun l h11=>by
     rw [hWd];dsimp only;rw [if_pos h11]
    have w0:Wd (Array.replicate 12 false)=wc.drew:=by rw [hWd];rfl
    have s1:wc.drew.cell? ⟨q+3,8,none⟩=some (.int .i64 ((o3 6:Nat):Int)):=(J3.out.cell 8).trans (tabA_off f 0 o3 c3 (i:=6) (by decide))
    have s2:D1.cell? ⟨q+3,15,none⟩=some (.int .i64 ((c3 6:Nat):Int)):=(M3d.cell 15).trans (tabA_cnt f 0 _ c3 (i:=6) (by decide))
    have s3:wc.drew.frozen? ⟨q+3,8,none⟩=false:=J3.out.frozen 8
    have s4:D1.frozen? ⟨q+3,15,none⟩=false:=M3d.frozen 15
    clear hd M3d hO1 hWd r3 r4 r1 r2
    clear p0d p4d e3d e9d f3d f9d z0d z3d z4d p0e p4e e3e e9e f3e f9e z0e z3e z4e
    gi_wp2
    refine wpIn_region_known rfl (by kernel_rfl) (by kernel_rfl) (fun u=> {tmps:= #[.int .u64 f, .agg (cntCl n),undef, .pointer (some ⟨q,0,none⟩), .pointer (some ⟨q+1,0,none⟩), .pointer (some ⟨q+1+1,0,none⟩), .pointer (some ⟨q+3,0,none⟩), .pointer (some ⟨q+4,0,none⟩), .int .i64 6, .int .u64 f, .agg #[.int .u64 f, .int .i64 0, .int .i64 0, .int .i64 0, .int .i64 0, .int .i64 0, .int .i64 0, .int .i64 0, .int .i64 0, .int .i64 0, .int .i64 0, .int .i64 0, .int .i64 0, .int .i64 0, .int .i64 0, .int .i64 0], .func (.func 95) #[] #[], .int .i64 6, .int .i64 72,u14,u15,u16,u17,u18,u19,u20,u21,u22,u23,u24,u25, .bool false,u27,u 0,u 1,u 2,u 3,u 4,u 5,u 6,u 7,u 9,u 10,u38,u39,u40,u41,u42,u43,u44,u45],defers:= []})
     (fun j=>match j with |0=>u28 |1=>u29 |2=>u30 |3=>u31 |4=>u32 |5=>u33 |6=>u34 |7=>u35 |9=>u36 |10=>u37 |_=>undef) rfl ?_
     (fun j=>match j with |0=> .int .i64 6 |1=> .int .i64 6 |2=> .int .i64 (at0:Int) |3=> .int .i64 6 |4=> .pointer (some ⟨q,6,none⟩) |5=> .int .i64 ((n 6:Nat):Int) |6=> .pointer (some ⟨q+3,2,none⟩) |7=> .pointer (some ⟨q+3,8,none⟩) |8=>undef |9=> .pointer (some ⟨q+3,9,none⟩) |10=> .pointer (some ⟨q+3,15,none⟩) |11=>undef |_=>undef) Wd w0 ?_ ?_
    ·intro i o ho u v
     have hi:i <12:=(Array.getElem?_eq_some_iff.1 ho).1
     obtain rfl |rfl |rfl |rfl |rfl |rfl |rfl |rfl |rfl |rfl |rfl |rfl:=(by omega:i=0∨i=1∨i=2∨i=3∨i=4∨i=5∨i=6∨i=7∨i=8∨i=9∨i=10∨i=11)
     all_goals
      cases ho
      rfl
    ·intro i o ho l u hl hf hcl hdp
     have hi:i <12:=(Array.getElem?_eq_some_iff.1 ho).1
     obtain rfl |rfl |rfl |rfl |rfl |rfl |rfl |rfl |rfl |rfl |rfl |rfl:=(by omega:i=0∨i=1∨i=2∨i=3∨i=4∨i=5∨i=6∨i=7∨i=8∨i=9∨i=10∨i=11)
     ·cases ho
      rw [w3 l _ (by decide) (by decide)]
      refine ⟨.value _, ?_, .inl rfl⟩
      simp [go_sem]
     ·cases ho
      rw [w3 l _ (by decide) (by decide)]
      refine ⟨.value _, ?_, .inl rfl⟩
      simp [go_sem]
     ·cases ho
      rw [w3 l _ (by decide) (by decide)]
      refine ⟨.value _, ?_, .inl rfl⟩
      simp [go_sem,w2 l]
     ·cases ho
      rw [w3 l _ (by decide) (by decide)]
      refine ⟨.value _, ?_, .inl rfl⟩
      simp [go_sem]
     ·cases ho
      have d3:u 3= .int .i64 6:=(hdp ⟨3, .data⟩ (by simp) rfl).2
      rw [w3 l _ (by decide) (by decide)]
      refine ⟨.value _, ?_, .inl rfl⟩
      simp [go_sem,d3]
     ·cases ho
      have d4:u 4= .pointer (some ⟨q,6,none⟩):=(hdp ⟨4, .data⟩ (by simp) rfl).2
      rw [w3 l _ (by decide) (by decide)]
      refine ⟨.value _, ?_, .inl rfl⟩
      simp [go_sem,d4,w1 l]
     ·cases ho
      rw [w3 l _ (by decide) (by decide)]
      refine ⟨.value _, ?_, .inl rfl⟩
      simp [go_sem]
     ·cases ho
      have d6:u 6= .pointer (some ⟨q+3,2,none⟩):=(hdp ⟨6, .data⟩ (by simp) rfl).2
      have d0:u 0= .int .i64 6:=(hdp ⟨0, .data⟩ (by simp) rfl).2
      rw [w3 l _ (by decide) (by decide)]
      refine ⟨.value _, ?_, .inl rfl⟩
      simp [go_sem,d6,d0]
     ·cases ho
      have d7:u 7= .pointer (some ⟨q+3,8,none⟩):=(hdp ⟨7, .data⟩ (by simp) rfl).2
      have d2:u 2= .int .i64 (at0:Int):=(hdp ⟨2, .data⟩ (by simp) rfl).2
      obtain ⟨y1,y2⟩:=w4 l hl hf (fun h11=>by have:=hcl 11 _ rfl h11 ⟨8, .chain⟩ (by simp) rfl;rw [hf] at this;cases this)
      rw [y1,y2, ←hD1]
      refine ⟨.skip, ?_, .inr ⟨rfl,rfl⟩⟩
      simp [go_sem,d7,d2,s1,s3]
     ·cases ho
      rw [w3 l _ (by decide) (by decide)]
      refine ⟨.value _, ?_, .inl rfl⟩
      simp [go_sem]
     ·cases ho
      have d9:u 9= .pointer (some ⟨q+3,9,none⟩):=(hdp ⟨9, .data⟩ (by simp) rfl).2
      have d1:u 1= .int .i64 6:=(hdp ⟨1, .data⟩ (by simp) rfl).2
      rw [w3 l _ (by decide) (by decide)]
      refine ⟨.value _, ?_, .inl rfl⟩
      simp [go_sem,d9,d1]
     ·cases ho
      have d10:u 10= .pointer (some ⟨q+3,15,none⟩):=(hdp ⟨10, .data⟩ (by simp) rfl).2
      have d5:u 5= .int .i64 ((n 6:Nat):Int):=(hdp ⟨5, .data⟩ (by simp) rfl).2
      obtain ⟨y1,y2⟩:=w5 l hl (hdp ⟨8, .chain⟩ (by simp) rfl).1 hf
      rw [y1,y2, ←hU]
      refine ⟨.skip, ?_, .inr ⟨rfl,rfl⟩⟩
      simp [go_sem,d10,d5,s2,s4]
    ·intro u l hu hl hal
     rw [w6 l (hal 11 (by decide))]
     clear hu
     clear s1 s2 s3 s4 w0 w1 w2 w3 w4 w5 w6 hD1 hU
     have hns:=hn 6
     have hsz6:secSz 6≤56:=by decide
     have hmul:=Nat.mul_le_mul hns hsz6
     gi_wp2_with (refine wpListIn_load_row rfl 34 (.tmp 6) rfl (q+3) rfl _ _ _ _ N3.out Tryz.underlying34 rfl HI.out ?_)
     have hto:(tabA f 0 (updN o3 6 at0) (updN c3 6 (n 6)))[2+6]? =some (.int .i64 ((at0:Nat):Int)):=(tabA_off f 0 (updN o3 6 at0) _ (i:=6) (by decide)).trans (by simp [updN])
     have htc:(tabA f 0 (updN o3 6 at0) (updN c3 6 (n 6)))[9+6]? =some (.int .i64 ((n 6:Nat):Int)):=(tabA_cnt f 0 _ (updN c3 6 (n 6)) (i:=6) (by decide)).trans (by simp [updN])
     have hpr:ftab n (pre++ [⟨5,hx⟩])=⟨updN o3 6 at0,updN c3 6 (n 6),alnN (at0+n 6*secSz 6)⟩:=by rw [ftab_next];unfold fstep;rw [HO3.out,HC3.out,HAT.out]
     have HPR:=Lib.hid hpr
     have hbd:at0+n 6*secSz 6≤4611686018427387000:=by omega
     have X4:=Lib.hid (show Blk U (q+4) 3 #[.int .i64 (at0:Int)] from r4k.out)
     have Z3:=N3.out.lt
     have Z4:=X4.out.lt
     have hUq:q≤U.heap.size:=by omega
     clear hpr
     refine ⟨trivial,((callsIn_wide.2 (tabEnd_ok _ 6 (by decide) (by decide) _ rfl at0 (n 6) hto htc hbd _)).inRound lp).mono ?_⟩
     rintro e v10 ⟨rfl,hE⟩
     have HE:=Lib.hid hE
     have A0:=Lib.hid (X4.out.below hE Z4)
     have a0:=(A0.out.cell 0)
     have f0:=A0.out.frozen 0
     have l0:=A0.out.lt
     simp at a0
     clear hE
     generalize hm0:at0+n 6*secSz 6=m0 at*
     have hal2:=(alnN_le m0).2
     gi_wp2_with fail
     refine ⟨trivial,((callsIn_wide.2 (tabAlign_ok m0 hbd _)).inRound lp).mono ?_⟩
     rintro e v11 ⟨rfl,rfl⟩
     gi_wp2
     have hT:=(N7.out.trans (Off34.of_below HE.out hUq)).set4 (i:=0) (.int .i64 ((alnN m0:Nat):Int))
     have hsz:=hT.bel.size
     have hko:=hT.others H3.out H4.out
     refine ⟨hko,hko.walks,by rw [List.length_append];simp;omega,by omega,hT.blk H0.out (by omega) (by omega),hT.blk H1.out (by omega) (by omega),hT.blk H2.out (by omega) (by omega), ?_, ?_,HB.out.trans hT.bel⟩
     ·rw [HPR.out]
      exact (N3.out.below HE.out Z3).far (p:=⟨q+4,0,none⟩) (show q+3≠q+4 by omega) _
     ·rw [HPR.out]
      exact A0.out.set_ 0 (.int .i64 ((alnN m0:Nat):Int))
 ·rintro D xs V hD rfl ⟨hp,hv,h0,h1,h2,h3,h4,hb⟩ hK
  obtain ⟨tt,htt⟩: ∃tt,offT n 6+4=tt:=⟨_,rfl⟩
  have hw6:=(ftab_whole f n).2
  have hcl:tabA f tt (ftab n secs).o (ftab n secs).c=tabCl f n:=by rw [←htt];exact (ftab_whole f n).1
  rw [hw6] at h4
  obtain ⟨T,hT⟩: ∃T,tabCl f n=T:=⟨_,rfl⟩
  have hTi:(Tryz.prog.info? 34).map (·.size)=some T.size:=by rw [←hT];exact HI.out
  have hTo:16=T.size:=by rw [←hT];rfl
  have hT1:T.all (·.oneCell')=true:=by rw [←hT, ←hcl];exact tabA_one _ _ _ _
  rw [hT] at hcl
  have HTI:=Lib.hid hTi
  have HTO:=Lib.hid hTo
  have HT1:=Lib.hid hT1
  have HT:=Lib.hid hT
  clear hTi hTo hT1 hT
  have hol:=offT_le hn 6
  generalize offT n 6=o6 at*
  have m1:IntKind.i64.wrap ((o6:Int)+4)=(tt:Int):=by rw [IntKind.wrap_i64];omega
  have c4:=h4.cell 0
  have z4:=h4.lt
  have z3:=h3.lt
  have e3:V.cell? ⟨q+3,1,none⟩=some (.int .i64 0):=(h3.cell 1).trans rfl
  have f3:=h3.frozen 1
  simp at c4
  obtain ⟨V2,hV2⟩: ∃V2,V.setCell ⟨q+3,1,none⟩ (.int .i64 (tt:Int))=V2:=⟨_,rfl⟩
  have k3:Blk V2 (q+3) 34 T:=by
   rw [←hV2, ←hcl, ←tabA_setT f 0 (ftab n secs).o (ftab n secs).c tt]
   exact h3.set_ 1 _
  have k1:Blk V2 (q+1) 34 #[.int .u64 0, .int .i64 0, .int .i64 0, .int .i64 0, .int .i64 0, .int .i64 0, .int .i64 0, .int .i64 0, .int .i64 0, .int .i64 0, .int .i64 0, .int .i64 0, .int .i64 0, .int .i64 0, .int .i64 0, .int .i64 0]:=by rw [←hV2];exact h1.far (p:=⟨q+3,1,none⟩) (show q+1≠q+3 by omega) _
  have k2:Blk V2 (q+2) 4 #[.bool false]:=by rw [←hV2];exact h2.far (p:=⟨q+3,1,none⟩) (show q+2≠q+3 by omega) _
  have kb:Below q W V2:=by rw [←hV2];exact hb.setCell (p:=⟨q+3,1,none⟩) (show q≤q+3 by omega) _
  have kD:V2.heap[D]? =some (.deferred (some [])):=by rw [←hV2];exact (Below.heap_setCell V ⟨q+3,1,none⟩ _ D (show D≠q+3 by omega)).trans hK
  obtain ⟨V3,hV3⟩: ∃V3,V2.setRow (q+1) T=V3:=⟨_,rfl⟩
  have g1:Blk V3 (q+1) 34 T:=by rw [←hV3];exact setRow_heap V2 (q+1) _ _ _ _ k1
  have gn: ∀k,k≠q+1→V3.heap[k]? =V2.heap[k]? :=fun k hk=>by rw [←hV3];simp [World.setRow,Array.getElem?_modify,show ¬q+1=k by omega]
  have g2:Blk V3 (q+2) 4 #[.bool false]:=(gn _ (by omega)).trans k2
  have gD:=(gn D (by omega)).trans kD
  have gb:Below q W V3:=by rw [←hV3];exact below_setRow kb (by omega) _
  obtain ⟨V4,hV4⟩: ∃V4,V3.setCell ⟨q+2,0,none⟩ (.bool true)=V4:=⟨_,rfl⟩
  have j1:Blk V4 (q+1) 34 T:=by rw [←hV4];exact g1.far (p:=⟨q+2,0,none⟩) (show q+1≠q+2 by omega) _
  have j2:Blk V4 (q+2) 4 #[.bool true]:=by rw [←hV4];exact g2.set_ 0 _
  have jD:V4.heap[D]? =some (.deferred (some [])):=by rw [←hV4];exact (Below.heap_setCell V3 ⟨q+2,0,none⟩ _ D (show D≠q+2 by omega)).trans gD
  have jb:Below q W V4:=by rw [←hV4];exact gb.setCell (p:=⟨q+2,0,none⟩) (show q≤q+2 by omega) _
  have hg:=grownBy_putObj' V4 D (.deferred none)
  have hr: ∀r,some D=some r→ ∃o:Obj,V4.heap[r]? =some o∧o.isCells=false:=fun r e=>by cases e;exact ⟨_,jD,rfl⟩
  have J1:=Lib.hid (j1.kept hg hr)
  have J2:=Lib.hid (j2.kept hg hr)
  have JB:=Lib.hid (below_kept jb (C:=v8.heap.size) (by omega) (by have:=j1.lt;omega) hg (fun r e=>by cases e;exact hD))
  have JD:=Lib.hid jD
  have HV2:=Lib.hid hV2
  have HV3:=Lib.hid hV3
  have HV4:=Lib.hid hV4
  have K3:=Lib.hid k3
  have K1:=Lib.hid k1
  have q2:=g2.cell 0
  have q3:=g2.frozen 0
  have q4:=g2.lt
  simp at q2
  clear h0 h1 h2 h3 h4 hb hK hV2 hV3 hV4 k1 k2 k3 kb kD g1 g2 gn gD gb j1 j2 jD jb hg hr hcl hw6
  gi_upto_region 10 with (fail)
  rw [HV2.out]
  clear c4 z4 z3 e3 f3
  gi_wp2_with (first
   |(refine wpListIn_load_row rfl 34 (.tmp 6) rfl (q+3) rfl _ _ _ _ K3.out Tryz.underlying34 rfl HTI.out ?_)
   |(refine wpListIn_store_row rfl 34 (.tmp 4) (.tmp 45) rfl (q+1) T rfl rfl _ _ K1.out HTI.out HTO.out HT1.out ?_;rw [HV3.out]))
  have hv4:V3.setCell ⟨q+1+1,0,none⟩ (.bool true)=V4:=HV4.out
  rw [hv4]
  refine ⟨by simp, .inl ⟨_,_,rfl,run_takeDeferred JD.out, ?_⟩⟩
  have hrow:=run_loadVar_row (P:=Tryz.prog) _ (q+1) _ 34 _ _ _ J1.out Tryz.underlying34 rfl HTI.out
  have b0:=(J2.out.cell 0)
  have b1:=J2.out.lt
  simp at b0
  refine ⟨.tuple #[.agg T, .bool true], ?_,by rw [HT.out],by rw [HQ.out];exact JB.out⟩
  have hbl:(loadVar 4 ⟨q+1+1,0,none⟩).run Tryz.prog (V4.putObj D (.deferred none))= .ok (.bool true) (V4.putObj D (.deferred none)):=by simp [go_sem,b0]
  simp [results,Tryz.results10,asAddr,Sem.run_bind,hrow,hbl]
 ·intro D c pre V _ _ h _
  exact False.elim h
end Go.Proofs.YteelncofiodflaaGreat
