/-
  For of the reference's table, walked where there are more partitions than an image holds.
-/
import Derived.BigQuiet
import Derived.Deep.WholeRow
import Derived.Test.YteelncofiodflaaGreatRefF
namespace Go.Proofs.YteelncofiodflaaGreat
open Go.RowKit
attribute [local go_sem] ext_cell
set_option maxRecDepth 100000 in
set_option maxHeartbeats 4000000 in
theorem rForBad_ok (f:Int) (n:Nat→Nat) (hn:n 1≤1048576) (hl:64 <n 1) (W:World):
  Calls Tryz.prog 7 #[.int .u64 f, .agg (cntCl n)] W fun e w'=>e= .returned (.tuple #[.agg tabZ, .bool false])∧Below W.heap.size W w':=by
 have HI:=Lib.hid (show (Tryz.prog.info? 37).map (·.size)=some 16 from by kernel_rfl)
 obtain ⟨q,hq⟩: ∃q,W.heap.size=q:=⟨_,rfl⟩
 obtain ⟨w1,hw1⟩: ∃w1,W.alloc (.cells (cntCl n) 32)=w1:=⟨_,rfl⟩
 obtain ⟨w2,hw2⟩: ∃w2,w1.alloc (.cells tabZ 37)=w2:=⟨_,rfl⟩
 obtain ⟨w3,hw3⟩: ∃w3,w2.alloc (.cells (tabA f 0 (fun _=>0) (fun _=>0)) 37)=w3:=⟨_,rfl⟩
 have s1:w1.heap.size=q+1:=by rw [←hw1, ←hq];simp
 have s2:w2.heap.size=q+2:=by rw [←hw2];simp [s1]
 have s3:w3.heap.size=q+3:=by rw [←hw3];simp [s2]
 have b1:Below q W w1:=by rw [←hw1, ←hq];exact (Below.refl _ W).alloc (Nat.le_refl _) _
 have b3:Below q W w3:=by
  rw [←hw3];refine Below.alloc ?_ (by omega) _
  rw [←hw2];exact b1.alloc (by omega) _
 have k1:Blk w1 q 32 (cntCl n):=by rw [←hw1, ←hq];exact Blk.new W _ _
 have k2:Blk w2 (q+1) 37 tabZ:=by rw [←hw2, ←s1];exact Blk.new w1 _ _
 have m3:Blk w3 (q+2) 37 (tabA f 0 (fun _=>0) (fun _=>0)):=by rw [←hw3, ←s2];exact Blk.new w2 _ _
 have m2:Blk w3 (q+1) 37 tabZ:=by rw [←hw3];exact k2.alloc _
 have m1:Blk w3 q 32 (cntCl n):=by rw [←hw3];refine Blk.alloc ?_ _;rw [←hw2];exact k1.alloc _
 have HQ:=Lib.hid hq
 have HW1:=Lib.hid hw1
 have HW2:=Lib.hid hw2
 have HW3:=Lib.hid hw3
 have S2:=Lib.hid s2
 have B3:=Lib.hid b3
 have M1:=Lib.hid m1
 have M2:=Lib.hid m2
 have M3:=Lib.hid m3
 clear hw1 hw2 hw3 k1 k2 m1 m2 m3 b1 b3 s1 s2 s3
 go_enter Tryz.func7,Tryz.ntmps7
 go_upto_region 1 with (fail)
 rw [HW1.out,HW2.out]
 have s2:=S2.out
 go_upto_region 2 with (fail)
 have hz:w2.alloc (.cells #[.int .u64 f, .int .i64 0, .int .i64 0, .int .i64 0, .int .i64 0, .int .i64 0, .int .i64 0, .int .i64 0, .int .i64 0, .int .i64 0, .int .i64 0, .int .i64 0, .int .i64 0, .int .i64 0, .int .i64 0, .int .i64 0] 37)=w3:=HW3.out
 rw [hz]
 clear hz s2
 go_wp2
 go_loopw [7,8] (fun a s wr=>a= .int .i64 80∧s= .int .i64 1∧wr=w3) (fun _ _ _=>0)
 case atStart=>exact ⟨rfl,rfl,rfl⟩
 case round=>
  obtain ⟨rfl,rfl,rfl⟩:=hrel
  have e1:=(M1.out.cell 1).trans (cntCl_at n 1 (by decide) (by decide))
  have g1:=M1.out.lt
  have HLI:=Lib.hid (fun U=>rLimit05_ok 1 (by decide) (by decide) 1 rfl U)
  generalize hnn:n 1=nj at*
  clear hnn
  have n0: ¬((nj:Nat):Int) <0:=by omega
  have n1:decide (((nj:Nat):Int) <0)=false:=decide_eq_false n0
  have n2:(64:Int) <(nj:Int):=by omega
  go_upto_region 6 with (fail)
  refine wp_region_ext (by kernel_rfl) (by kernel_rfl) ?_
  repeat (go_big_quiet_step ((go_at_call 12;exact Calls.quiet_ext ((HLI.out _).mono (fun e w' h=>⟨h.1,by rw [h.2];exact Below.refl _ _⟩)))))
  refine wpQuiet_nil ?_
  intro xq
  have hbx:=ext_below wr xq
  have M2:=Lib.hid (M2.out.below hbx M2.out.lt)
  have HB:=Lib.hid (B3.out.trans (hbx.mono (Nat.le_of_lt g1)))
  clear hbx e1 g1
  generalize ext wr xq=V at*
  go_upto_region 7 with (fail)
  have r0:=M2.out.cell 0
  have r1:=M2.out.cell 1
  have r2:=M2.out.cell 2
  have r3:=M2.out.cell 3
  have r4:=M2.out.cell 4
  have r5:=M2.out.cell 5
  have r6:=M2.out.cell 6
  have r7:=M2.out.cell 7
  have r8:=M2.out.cell 8
  have r9:=M2.out.cell 9
  have r10:=M2.out.cell 10
  have r11:=M2.out.cell 11
  have r12:=M2.out.cell 12
  have r13:=M2.out.cell 13
  have r14:=M2.out.cell 14
  have r15:=M2.out.cell 15
  simp at r0 r1 r2 r3 r4 r5 r6 r7 r8 r9 r10 r11 r12 r13 r14 r15
  have rf:=M2.out.frozen
  have rz:=M2.out.lt
  have N1:=(((((((((((((((M2.out.set_ 0 (.int .u64 0)).set_ 1 (.int .i64 0)).set_ 2 (.int .i64 0)).set_ 3 (.int .i64 0)).set_ 4 (.int .i64 0)).set_ 5 (.int .i64 0)).set_ 6 (.int .i64 0)).set_ 7 (.int .i64 0)).set_ 8 (.int .i64 0)).set_ 9 (.int .i64 0)).set_ 10 (.int .i64 0)).set_ 11 (.int .i64 0)).set_ 12 (.int .i64 0)).set_ 13 (.int .i64 0)).set_ 14 (.int .i64 0)).set_ 15 (.int .i64 0)
  have NB:=(((((((((((((((HB.out.setCell (p:=⟨q+1,0,none⟩) (show q≤q+1 by omega) (.int .u64 0)).setCell (p:=⟨q+1,1,none⟩) (show q≤q+1 by omega) (.int .i64 0)).setCell (p:=⟨q+1,2,none⟩) (show q≤q+1 by omega) (.int .i64 0)).setCell (p:=⟨q+1,3,none⟩) (show q≤q+1 by omega) (.int .i64 0)).setCell (p:=⟨q+1,4,none⟩) (show q≤q+1 by omega) (.int .i64 0)).setCell (p:=⟨q+1,5,none⟩) (show q≤q+1 by omega) (.int .i64 0)).setCell (p:=⟨q+1,6,none⟩) (show q≤q+1 by omega) (.int .i64 0)).setCell (p:=⟨q+1,7,none⟩) (show q≤q+1 by omega) (.int .i64 0)).setCell (p:=⟨q+1,8,none⟩) (show q≤q+1 by omega) (.int .i64 0)).setCell (p:=⟨q+1,9,none⟩) (show q≤q+1 by omega) (.int .i64 0)).setCell (p:=⟨q+1,10,none⟩) (show q≤q+1 by omega) (.int .i64 0)).setCell (p:=⟨q+1,11,none⟩) (show q≤q+1 by omega) (.int .i64 0)).setCell (p:=⟨q+1,12,none⟩) (show q≤q+1 by omega) (.int .i64 0)).setCell (p:=⟨q+1,13,none⟩) (show q≤q+1 by omega) (.int .i64 0)).setCell (p:=⟨q+1,14,none⟩) (show q≤q+1 by omega) (.int .i64 0)).setCell (p:=⟨q+1,15,none⟩) (show q≤q+1 by omega) (.int .i64 0)
  have HN1:=Lib.hid N1
  have HNB:=Lib.hid NB
  clear N1 NB
  go_wp2
  have hrow:=run_loadVar_row (P:=Tryz.prog) _ (q+1) _ 37 tabZ _ _ HN1.out Tryz.underlying37 rfl HI.out
  refine bodyPost_ret (v:= .tuple #[.agg tabZ, .bool false]) (by simp [results,Tryz.results7,asAddr,hrow]) rfl ⟨rfl,HNB.out⟩
end Go.Proofs.YteelncofiodflaaGreat
