/-
  The records of the reference of layer 9 as bytes, walked.
-/
import Derived.BigQuiet
import Derived.Test.YtcfoolooemhbeaaGreatRefB
import Derived.Test.YtcfoolooemhbeaaGreatRefH
import Derived.Test.YtcfoolooemhbeaaGreatInvX
import Derived.Test.YtcfoolooemhbeaaGreatKeyZ
namespace Go.Proofs.YtcfoolooemhbeaaGreat
open Go.RowKit
set_option maxRecDepth 100000 in
set_option maxHeartbeats 8000000 in
theorem rWinB_ok (x:Win) (w:World) (hx:x.ok):Calls Tryz.prog 122 #[.agg #[.int .u64 x.start, .int .u64 x.len, .int .u16 x.part]] w fun e w'=> ∃v,e= .returned v∧w'.ownsRow w.heap.size 5 1 v 24 (bytV (winB x))∧Below w.heap.size w w':=by
 have u0:=Go.bounds_u64 hx.start
 have u1:=Go.bounds_u64 hx.len
 have u2:=Go.bounds_u16 hx.part
 have e2:=wrap_u16 hx.part
 clear hx
 obtain ⟨w0,hw0⟩: ∃w0,w.alloc (.cells #[.int .u64 x.start, .int .u64 x.len, .int .u16 x.part] 78)=w0:=⟨_,rfl⟩
 have HBK:=Lib.hid (show Blk w0 w.heap.size 78 #[.int .u64 x.start, .int .u64 x.len, .int .u16 x.part] by rw [←hw0];exact Blk.new w _ _)
 have HBL:=Lib.hid (show Below w.heap.size w w0 by rw [←hw0];exact below_one _ _)
 have HW:=Lib.hid hw0
 clear hw0
 go_enter Tryz.func122,Tryz.ntmps122
 go_upto_region 1 with (fail)
 rw [HW.out]
 clear HW
 refine wp_region_H 3 11 2 _ rfl rfl rfl (by decide) (by kernel_rfl) (by kernel_rfl) (by kernel_rfl) (Nat.le_of_ble_eq_true (by kernel_rfl))
  [.pointer (some ⟨w.heap.size,0,none⟩), .int .u64 x.start,undef, .pointer (some ⟨w.heap.size,1,none⟩), .int .u64 x.len,undef, .pointer (some ⟨w.heap.size,2,none⟩), .int .u16 x.part, .int .u64 x.part,undef,undef,undef]
  (fun i=>i==2||i==5||i==9||i==10||i==11) (by kernel_rfl) (fun i v U=>(i=2→U.ownsRow w.heap.size 5 1 v (0+8) (bytV ([]++leB x.start.toNat 8)))∧(i=5→U.ownsRow w.heap.size 5 1 v (0+8+8) (bytV ([]++leB x.start.toNat 8++leB x.len.toNat 8)))∧(i=9→U.ownsRow w.heap.size 5 1 v (0+8+8+2) (bytV ([]++leB x.start.toNat 8++leB x.len.toNat 8++leB x.part.toNat 2)))∧(i=10→U.ownsRow w.heap.size 5 1 v (0+8+8+2+6) (bytV ([]++leB x.start.toNat 8++leB x.len.toNat 8++leB x.part.toNat 2++zsB 6)))∧(i=11→U.ownsRow w.heap.size 5 1 v (0+8+8+2+6) (bytV ([]++leB x.start.toNat 8++leB x.len.toNat 8++leB x.part.toNat 2++zsB 6)))) (fun U=>Blk U w.heap.size 78 #[.int .u64 x.start, .int .u64 x.len, .int .u16 x.part]∧Below w.heap.size w U)
  (⟨HBK.out.below (Below.refl _ _).drew HBK.out.lt,HBL.out.drew⟩) (fun U V ⟨h1,h2⟩ hb=>⟨h1.below hb h1.lt,Below.then_ h2 hb⟩) (fun _ v U V _ hv hb=>⟨(fun e=>own_below (hv.1 e) hb),(fun e=>own_below (hv.2.1 e) hb),(fun e=>own_below (hv.2.2.1 e) hb),(fun e=>own_below (hv.2.2.2.1 e) hb),(fun e=>own_below (hv.2.2.2.2 e) hb)⟩) ?hun ?hop ?hend
 case hun=>
  intro i o ho
  match i,ho with
  |0,ho=>cases ho;intro h;cases h
  |1,ho=>cases ho;intro h;cases h
  |2,ho=>cases ho;intro h;cases h
  |3,ho=>cases ho;intro h;cases h
  |4,ho=>cases ho;intro h;cases h
  |5,ho=>cases ho;intro h;cases h
  |6,ho=>cases ho;intro h;cases h
  |7,ho=>cases ho;intro h;cases h
  |8,ho=>cases ho;intro h;cases h
  |9,ho=>cases ho;intro h;cases h
  |10,ho=>cases ho;intro h;cases h
  |11,ho=>cases ho;intro h;cases h
  |k+12,ho=>exact absurd ho (by simp)
 case hop=>
  intro i o ho hw U hE ρ r0 rf r1 r2
  obtain ⟨hbk,hbl⟩:=hE
  have y0:=hbk.cell 0
  have y1:=hbk.cell 1
  have y2:=hbk.cell 2
  have yz:=hbk.lt
  simp at y0 y1 y2
  match i,ho with
  |0,ho=>
   cases ho
   have q1:=r1 1 (by decide) (by decide)
   refine RunsTo.val _ (V:=U) ?_ ⟨Below.refl _ _,SC.ofV rfl⟩
   simp only [execOp]
   go_simp
  |1,ho=>
   cases ho
   have q3:ρ (.tmp (3+0))=_:=(r2 {on:=0,ground:= .data} (by simp) rfl).val rfl
   refine RunsTo.val _ (V:=U) ?_ ⟨Below.refl _ _,SC.ofV rfl⟩
   simp only [execOp]
   go_simp
  |2,ho=>
   cases ho
   have q4:ρ (.tmp (3+1))=_:=(r2 {on:=1,ground:= .data} (by simp) rfl).val rfl
   refine RunsTo.call (V:=U) 177 #[.slice none 0 0, .int .u64 (x.start), .int .i64 8] ?_ ?_
   ·simp only [execOp]
    go_simp
   ·refine (rNum09_ok ([]) (0) _ _ (x.start.toNat) (x.start) (by omega) 8 8 rfl U (by omega) (by decide) (by decide) Rd.nil).mono ?_
    rintro e V ⟨v,rfl,hv,hb⟩
    exact ⟨_,rfl,hb,SC.ofP rfl ⟨(fun _=>own_lessB hv hbl.size),(fun e=>by cases e),(fun e=>by cases e),(fun e=>by cases e),(fun e=>by cases e)⟩⟩
  |3,ho=>
   cases ho
   have q1:=r1 1 (by decide) (by decide)
   refine RunsTo.val _ (V:=U) ?_ ⟨Below.refl _ _,SC.ofV rfl⟩
   simp only [execOp]
   go_simp
  |4,ho=>
   cases ho
   have q6:ρ (.tmp (3+3))=_:=(r2 {on:=3,ground:= .data} (by simp) rfl).val rfl
   refine RunsTo.val _ (V:=U) ?_ ⟨Below.refl _ _,SC.ofV rfl⟩
   simp only [execOp]
   go_simp
  |5,ho=>
   cases ho
   have q5:=((r2 {on:=2,ground:= .data} (by simp) rfl).got rfl).1 rfl
   obtain ⟨Dr,dr,hq,_,_,hrd⟩:=own_form q5
   have q5:ρ (.tmp (3+2))=_:=hq
   have q7:ρ (.tmp (3+4))=_:=(r2 {on:=4,ground:= .data} (by simp) rfl).val rfl
   refine RunsTo.call (V:=U) 177 #[.slice Dr (0+8) dr, .int .u64 (x.len), .int .i64 8] ?_ ?_
   ·simp only [execOp]
    go_simp
   ·refine (rNum09_ok ([]++leB x.start.toNat 8) (0+8) _ _ (x.len.toNat) (x.len) (by omega) 8 8 rfl U (by omega) (by decide) (by decide) hrd).mono ?_
    rintro e V ⟨v,rfl,hv,hb⟩
    exact ⟨_,rfl,hb,SC.ofP rfl ⟨(fun e=>by cases e),(fun _=>own_lessB hv hbl.size),(fun e=>by cases e),(fun e=>by cases e),(fun e=>by cases e)⟩⟩
  |6,ho=>
   cases ho
   have q1:=r1 1 (by decide) (by decide)
   refine RunsTo.val _ (V:=U) ?_ ⟨Below.refl _ _,SC.ofV rfl⟩
   simp only [execOp]
   go_simp
  |7,ho=>
   cases ho
   have q9:ρ (.tmp (3+6))=_:=(r2 {on:=6,ground:= .data} (by simp) rfl).val rfl
   refine RunsTo.val _ (V:=U) ?_ ⟨Below.refl _ _,SC.ofV rfl⟩
   simp only [execOp]
   go_simp
  |8,ho=>
   cases ho
   have q10:ρ (.tmp (3+7))=_:=(r2 {on:=7,ground:= .data} (by simp) rfl).val rfl
   refine RunsTo.val _ (V:=U) ?_ ⟨Below.refl _ _,SC.ofV rfl⟩
   simp only [execOp]
   go_simp
  |9,ho=>
   cases ho
   have q8:=((r2 {on:=5,ground:= .data} (by simp) rfl).got rfl).2.1 rfl
   obtain ⟨Dr,dr,hq,_,_,hrd⟩:=own_form q8
   have q8:ρ (.tmp (3+5))=_:=hq
   have q11:ρ (.tmp (3+8))=_:=(r2 {on:=8,ground:= .data} (by simp) rfl).val rfl
   refine RunsTo.call (V:=U) 177 #[.slice Dr (0+8+8) dr, .int .u64 (x.part), .int .i64 2] ?_ ?_
   ·simp only [execOp]
    go_simp
   ·refine (rNum09_ok ([]++leB x.start.toNat 8++leB x.len.toNat 8) (0+8+8) _ _ (x.part.toNat) (x.part) (by omega) 2 2 rfl U (by omega) (by decide) (by decide) hrd).mono ?_
    rintro e V ⟨v,rfl,hv,hb⟩
    exact ⟨_,rfl,hb,SC.ofP rfl ⟨(fun e=>by cases e),(fun e=>by cases e),(fun _=>own_lessB hv hbl.size),(fun e=>by cases e),(fun e=>by cases e)⟩⟩
  |10,ho=>
   cases ho
   have q12:=((r2 {on:=9,ground:= .data} (by simp) rfl).got rfl).2.2.1 rfl
   obtain ⟨Dr,dr,hq,_,_,hrd⟩:=own_form q12
   have q12:ρ (.tmp (3+9))=_:=hq
   refine RunsTo.call (V:=U) 176 #[.slice Dr (0+8+8+2) dr, .int .i64 6] ?_ ?_
   ·simp only [execOp]
    go_simp
   ·refine (rPad09_ok ([]++leB x.start.toNat 8++leB x.len.toNat 8++leB x.part.toNat 2) (0+8+8+2) _ _ 6 6 rfl U (by decide) (by decide) hrd).mono ?_
    rintro e V ⟨v,rfl,hv,hb⟩
    exact ⟨_,rfl,hb,SC.ofP rfl ⟨(fun e=>by cases e),(fun e=>by cases e),(fun e=>by cases e),(fun _=>own_lessB hv hbl.size),(fun e=>by cases e)⟩⟩
  |11,ho=>
   cases ho
   have q13:=(r2 {on:=10,ground:= .data} (by simp) rfl).got rfl
   refine RunsTo.val (ρ (.tmp (3+10))) (V:=U) ?_ ⟨Below.refl _ _,SC.ofP rfl ⟨(fun e=>by cases e),(fun e=>by cases e),(fun e=>by cases e),(fun e=>by cases e),(fun _=>q13.2.2.2.1 rfl)⟩⟩
   simp only [execOp]
   go_simp
  |k+12,ho=>exact absurd ho (by simp)
 case hend=>
  intro u U hE hS
  have hx:=((hS 11 (by decide)).got rfl).2.2.2.2 rfl
  obtain ⟨Da,da,hq,_,_,_⟩:=own_form hx
  rw [hq] at hx
  have HOa:=Lib.hid hx
  have HBK:=Lib.hid hE.1
  have HBL:=Lib.hid hE.2
  clear hS hE hx
  simp only [mkL,mkAt,List.take_succ_cons,List.take_zero,List.drop_succ_cons,List.drop_nil,List.range,List.range.loop,List.map_cons,List.map_nil,List.cons_append,List.nil_append,List.append_nil,List.setIfInBounds_toArray,List.set_cons_succ,List.set_cons_zero,hq]
  clear hq
  go_wp2
  go_ret
  exact ⟨_,rfl,HOa.out,HBL.out⟩
set_option maxRecDepth 100000 in
set_option maxHeartbeats 8000000 in
theorem rRegB_ok (x:Reg) (w:World) (hx:x.ok):Calls Tryz.prog 123 #[.agg #[.int .u64 x.base, .int .u64 x.size, .int .u16 x.part, .int .u8 x.rights, .bool x.shared]] w fun e w'=> ∃v,e= .returned v∧w'.ownsRow w.heap.size 5 1 v 24 (bytV (regB x))∧Below w.heap.size w w':=by
 have u0:=Go.bounds_u64 hx.base
 have u1:=Go.bounds_u64 hx.size
 have u2:=Go.bounds_u16 hx.part
 have u3:=Go.bounds_u8 hx.rights
 have e2:=wrap_u16 hx.part
 have e3:=wrap_u8 hx.rights
 have hbn:bitN x.shared <18446744073709551616:=by cases x.shared<;>decide
 clear hx
 obtain ⟨w0,hw0⟩: ∃w0,w.alloc (.cells #[.int .u64 x.base, .int .u64 x.size, .int .u16 x.part, .int .u8 x.rights, .bool x.shared] 81)=w0:=⟨_,rfl⟩
 have HBK:=Lib.hid (show Blk w0 w.heap.size 81 #[.int .u64 x.base, .int .u64 x.size, .int .u16 x.part, .int .u8 x.rights, .bool x.shared] by rw [←hw0];exact Blk.new w _ _)
 have HBL:=Lib.hid (show Below w.heap.size w w0 by rw [←hw0];exact below_one _ _)
 have HW:=Lib.hid hw0
 clear hw0
 go_enter Tryz.func123,Tryz.ntmps123
 go_upto_region 1 with (fail)
 rw [HW.out]
 clear HW
 refine wp_region_H 4 10 3 _ rfl rfl rfl (by decide) (by kernel_rfl) (by kernel_rfl) (by kernel_rfl) (Nat.le_of_ble_eq_true (by kernel_rfl))
  [.pointer (some ⟨w.heap.size,0,none⟩), .int .u64 x.base,undef, .pointer (some ⟨w.heap.size,1,none⟩), .int .u64 x.size,undef, .pointer (some ⟨w.heap.size,2,none⟩), .int .u16 x.part, .int .u64 x.part,undef,undef]
  (fun i=>i==2||i==5||i==9||i==10) (by kernel_rfl) (fun i v U=>(i=2→U.ownsRow w.heap.size 5 1 v (0+8) (bytV ([]++leB x.base.toNat 8)))∧(i=5→U.ownsRow w.heap.size 5 1 v (0+8+8) (bytV ([]++leB x.base.toNat 8++leB x.size.toNat 8)))∧(i=9→U.ownsRow w.heap.size 5 1 v (0+8+8+2) (bytV ([]++leB x.base.toNat 8++leB x.size.toNat 8++leB x.part.toNat 2)))∧(i=10→U.ownsRow w.heap.size 5 1 v (0+8+8+2) (bytV ([]++leB x.base.toNat 8++leB x.size.toNat 8++leB x.part.toNat 2)))) (fun U=>Blk U w.heap.size 81 #[.int .u64 x.base, .int .u64 x.size, .int .u16 x.part, .int .u8 x.rights, .bool x.shared]∧Below w.heap.size w U)
  (⟨HBK.out.below (Below.refl _ _).drew HBK.out.lt,HBL.out.drew⟩) (fun U V ⟨h1,h2⟩ hb=>⟨h1.below hb h1.lt,Below.then_ h2 hb⟩) (fun _ v U V _ hv hb=>⟨(fun e=>own_below (hv.1 e) hb),(fun e=>own_below (hv.2.1 e) hb),(fun e=>own_below (hv.2.2.1 e) hb),(fun e=>own_below (hv.2.2.2 e) hb)⟩) ?hun ?hop ?hend
 case hun=>
  intro i o ho
  match i,ho with
  |0,ho=>cases ho;intro h;cases h
  |1,ho=>cases ho;intro h;cases h
  |2,ho=>cases ho;intro h;cases h
  |3,ho=>cases ho;intro h;cases h
  |4,ho=>cases ho;intro h;cases h
  |5,ho=>cases ho;intro h;cases h
  |6,ho=>cases ho;intro h;cases h
  |7,ho=>cases ho;intro h;cases h
  |8,ho=>cases ho;intro h;cases h
  |9,ho=>cases ho;intro h;cases h
  |10,ho=>cases ho;intro h;cases h
  |k+11,ho=>exact absurd ho (by simp)
 case hop=>
  intro i o ho hw U hE ρ r0 rf r1 r2
  obtain ⟨hbk,hbl⟩:=hE
  have y0:=hbk.cell 0
  have y1:=hbk.cell 1
  have y2:=hbk.cell 2
  have y3:=hbk.cell 3
  have y4:=hbk.cell 4
  have yz:=hbk.lt
  simp at y0 y1 y2 y3 y4
  match i,ho with
  |0,ho=>
   cases ho
   have q1:=r1 1 (by decide) (by decide)
   refine RunsTo.val _ (V:=U) ?_ ⟨Below.refl _ _,SC.ofV rfl⟩
   simp only [execOp]
   go_simp
  |1,ho=>
   cases ho
   have q4:ρ (.tmp (4+0))=_:=(r2 {on:=0,ground:= .data} (by simp) rfl).val rfl
   refine RunsTo.val _ (V:=U) ?_ ⟨Below.refl _ _,SC.ofV rfl⟩
   simp only [execOp]
   go_simp
  |2,ho=>
   cases ho
   have q5:ρ (.tmp (4+1))=_:=(r2 {on:=1,ground:= .data} (by simp) rfl).val rfl
   refine RunsTo.call (V:=U) 177 #[.slice none 0 0, .int .u64 (x.base), .int .i64 8] ?_ ?_
   ·simp only [execOp]
    go_simp
   ·refine (rNum09_ok ([]) (0) _ _ (x.base.toNat) (x.base) (by omega) 8 8 rfl U (by omega) (by decide) (by decide) Rd.nil).mono ?_
    rintro e V ⟨v,rfl,hv,hb⟩
    exact ⟨_,rfl,hb,SC.ofP rfl ⟨(fun _=>own_lessB hv hbl.size),(fun e=>by cases e),(fun e=>by cases e),(fun e=>by cases e)⟩⟩
  |3,ho=>
   cases ho
   have q1:=r1 1 (by decide) (by decide)
   refine RunsTo.val _ (V:=U) ?_ ⟨Below.refl _ _,SC.ofV rfl⟩
   simp only [execOp]
   go_simp
  |4,ho=>
   cases ho
   have q7:ρ (.tmp (4+3))=_:=(r2 {on:=3,ground:= .data} (by simp) rfl).val rfl
   refine RunsTo.val _ (V:=U) ?_ ⟨Below.refl _ _,SC.ofV rfl⟩
   simp only [execOp]
   go_simp
  |5,ho=>
   cases ho
   have q6:=((r2 {on:=2,ground:= .data} (by simp) rfl).got rfl).1 rfl
   obtain ⟨Dr,dr,hq,_,_,hrd⟩:=own_form q6
   have q6:ρ (.tmp (4+2))=_:=hq
   have q8:ρ (.tmp (4+4))=_:=(r2 {on:=4,ground:= .data} (by simp) rfl).val rfl
   refine RunsTo.call (V:=U) 177 #[.slice Dr (0+8) dr, .int .u64 (x.size), .int .i64 8] ?_ ?_
   ·simp only [execOp]
    go_simp
   ·refine (rNum09_ok ([]++leB x.base.toNat 8) (0+8) _ _ (x.size.toNat) (x.size) (by omega) 8 8 rfl U (by omega) (by decide) (by decide) hrd).mono ?_
    rintro e V ⟨v,rfl,hv,hb⟩
    exact ⟨_,rfl,hb,SC.ofP rfl ⟨(fun e=>by cases e),(fun _=>own_lessB hv hbl.size),(fun e=>by cases e),(fun e=>by cases e)⟩⟩
  |6,ho=>
   cases ho
   have q1:=r1 1 (by decide) (by decide)
   refine RunsTo.val _ (V:=U) ?_ ⟨Below.refl _ _,SC.ofV rfl⟩
   simp only [execOp]
   go_simp
  |7,ho=>
   cases ho
   have q10:ρ (.tmp (4+6))=_:=(r2 {on:=6,ground:= .data} (by simp) rfl).val rfl
   refine RunsTo.val _ (V:=U) ?_ ⟨Below.refl _ _,SC.ofV rfl⟩
   simp only [execOp]
   go_simp
  |8,ho=>
   cases ho
   have q11:ρ (.tmp (4+7))=_:=(r2 {on:=7,ground:= .data} (by simp) rfl).val rfl
   refine RunsTo.val _ (V:=U) ?_ ⟨Below.refl _ _,SC.ofV rfl⟩
   simp only [execOp]
   go_simp
  |9,ho=>
   cases ho
   have q9:=((r2 {on:=5,ground:= .data} (by simp) rfl).got rfl).2.1 rfl
   obtain ⟨Dr,dr,hq,_,_,hrd⟩:=own_form q9
   have q9:ρ (.tmp (4+5))=_:=hq
   have q12:ρ (.tmp (4+8))=_:=(r2 {on:=8,ground:= .data} (by simp) rfl).val rfl
   refine RunsTo.call (V:=U) 177 #[.slice Dr (0+8+8) dr, .int .u64 (x.part), .int .i64 2] ?_ ?_
   ·simp only [execOp]
    go_simp
   ·refine (rNum09_ok ([]++leB x.base.toNat 8++leB x.size.toNat 8) (0+8+8) _ _ (x.part.toNat) (x.part) (by omega) 2 2 rfl U (by omega) (by decide) (by decide) hrd).mono ?_
    rintro e V ⟨v,rfl,hv,hb⟩
    exact ⟨_,rfl,hb,SC.ofP rfl ⟨(fun e=>by cases e),(fun e=>by cases e),(fun _=>own_lessB hv hbl.size),(fun e=>by cases e)⟩⟩
  |10,ho=>
   cases ho
   have q13:=(r2 {on:=9,ground:= .data} (by simp) rfl).got rfl
   refine RunsTo.val (ρ (.tmp (4+9))) (V:=U) ?_ ⟨Below.refl _ _,SC.ofP rfl ⟨(fun e=>by cases e),(fun e=>by cases e),(fun e=>by cases e),(fun _=>q13.2.2.1 rfl)⟩⟩
   simp only [execOp]
   go_simp
  |k+11,ho=>exact absurd ho (by simp)
 case hend=>
  intro u U hE hS
  have hx:=((hS 10 (by decide)).got rfl).2.2.2 rfl
  obtain ⟨Da,da,hq,_,_,_⟩:=own_form hx
  rw [hq] at hx
  have HOa:=Lib.hid hx
  have HBK:=Lib.hid hE.1
  have HBL:=Lib.hid hE.2
  clear hS hE hx
  simp only [mkL,mkAt,List.take_succ_cons,List.take_zero,List.drop_succ_cons,List.drop_zero,List.range,List.range.loop,List.map_cons,List.map_nil,List.cons_append,List.nil_append,List.setIfInBounds_toArray,List.set_cons_succ,List.set_cons_zero,hq]
  clear hq
  go_upto_region 2 with (fail)
  refine wp_region_H 14 10 2 _ rfl rfl rfl (by decide) (by kernel_rfl) (by kernel_rfl) (by kernel_rfl) (Nat.le_of_ble_eq_true (by kernel_rfl))
   [.slice Da (0+8+8+2) da, .pointer (some ⟨w.heap.size,3,none⟩), .int .u8 x.rights, .int .u64 x.rights,undef, .pointer (some ⟨w.heap.size,4,none⟩), .bool x.shared, .int .u64 (bitN x.shared:Nat),undef,undef,undef]
   (fun i=>i==4||i==8||i==9||i==10) (by kernel_rfl) (fun i v U=>(i=4→U.ownsRow w.heap.size 5 1 v (0+8+8+2+1) (bytV ([]++leB x.base.toNat 8++leB x.size.toNat 8++leB x.part.toNat 2++leB x.rights.toNat 1)))∧(i=8→U.ownsRow w.heap.size 5 1 v (0+8+8+2+1+1) (bytV ([]++leB x.base.toNat 8++leB x.size.toNat 8++leB x.part.toNat 2++leB x.rights.toNat 1++leB (bitN x.shared) 1)))∧(i=9→U.ownsRow w.heap.size 5 1 v (0+8+8+2+1+1+4) (bytV ([]++leB x.base.toNat 8++leB x.size.toNat 8++leB x.part.toNat 2++leB x.rights.toNat 1++leB (bitN x.shared) 1++zsB 4)))∧(i=10→U.ownsRow w.heap.size 5 1 v (0+8+8+2+1+1+4) (bytV ([]++leB x.base.toNat 8++leB x.size.toNat 8++leB x.part.toNat 2++leB x.rights.toNat 1++leB (bitN x.shared) 1++zsB 4)))) (fun U=>Blk U w.heap.size 81 #[.int .u64 x.base, .int .u64 x.size, .int .u16 x.part, .int .u8 x.rights, .bool x.shared]∧Below w.heap.size w U∧U.ownsRow w.heap.size 5 1 (.slice Da (0+8+8+2) da) (0+8+8+2) (bytV ([]++leB x.base.toNat 8++leB x.size.toNat 8++leB x.part.toNat 2)))
   (⟨HBK.out.below (Below.refl _ _).drew HBK.out.lt,HBL.out.drew,own_below HOa.out (Below.refl _ _).drew⟩) (fun U V ⟨h1,h2,h3⟩ hb=>⟨h1.below hb h1.lt,Below.then_ h2 hb,own_below h3 hb⟩) (fun _ v U V _ hv hb=>⟨(fun e=>own_below (hv.1 e) hb),(fun e=>own_below (hv.2.1 e) hb),(fun e=>own_below (hv.2.2.1 e) hb),(fun e=>own_below (hv.2.2.2 e) hb)⟩) ?hun ?hop ?hend
  case hun=>
   intro i o ho
   match i,ho with
   |0,ho=>cases ho;intro h;cases h
   |1,ho=>cases ho;intro h;cases h
   |2,ho=>cases ho;intro h;cases h
   |3,ho=>cases ho;intro h;cases h
   |4,ho=>cases ho;intro h;cases h
   |5,ho=>cases ho;intro h;cases h
   |6,ho=>cases ho;intro h;cases h
   |7,ho=>cases ho;intro h;cases h
   |8,ho=>cases ho;intro h;cases h
   |9,ho=>cases ho;intro h;cases h
   |10,ho=>cases ho;intro h;cases h
   |k+11,ho=>exact absurd ho (by simp)
  case hop=>
   intro i o ho hw U hE ρ r0 rf r1 r2
   obtain ⟨hbk,hbl,hin⟩:=hE
   have y0:=hbk.cell 0
   have y1:=hbk.cell 1
   have y2:=hbk.cell 2
   have y3:=hbk.cell 3
   have y4:=hbk.cell 4
   have yz:=hbk.lt
   simp at y0 y1 y2 y3 y4
   match i,ho with
   |0,ho=>
    cases ho
    have q3:=r1 3 (by decide) (by decide)
    refine RunsTo.val _ (V:=U) ?_ ⟨Below.refl _ _,SC.ofV rfl⟩
    simp only [execOp]
    go_simp
   |1,ho=>
    cases ho
    have q1:=r1 1 (by decide) (by decide)
    refine RunsTo.val _ (V:=U) ?_ ⟨Below.refl _ _,SC.ofV rfl⟩
    simp only [execOp]
    go_simp
   |2,ho=>
    cases ho
    have q15:ρ (.tmp (14+1))=_:=(r2 {on:=1,ground:= .data} (by simp) rfl).val rfl
    refine RunsTo.val _ (V:=U) ?_ ⟨Below.refl _ _,SC.ofV rfl⟩
    simp only [execOp]
    go_simp
   |3,ho=>
    cases ho
    have q16:ρ (.tmp (14+2))=_:=(r2 {on:=2,ground:= .data} (by simp) rfl).val rfl
    refine RunsTo.val _ (V:=U) ?_ ⟨Below.refl _ _,SC.ofV rfl⟩
    simp only [execOp]
    go_simp
   |4,ho=>
    cases ho
    have q14:ρ (.tmp (14+0))=_:=(r2 {on:=0,ground:= .data} (by simp) rfl).val rfl
    have q17:ρ (.tmp (14+3))=_:=(r2 {on:=3,ground:= .data} (by simp) rfl).val rfl
    refine RunsTo.call (V:=U) 177 #[.slice Da (0+8+8+2) da, .int .u64 (x.rights), .int .i64 1] ?_ ?_
    ·simp only [execOp]
     go_simp
    ·refine (rNum09_ok ([]++leB x.base.toNat 8++leB x.size.toNat 8++leB x.part.toNat 2) (0+8+8+2) _ _ (x.rights.toNat) (x.rights) (by omega) 1 1 rfl U (by omega) (by decide) (by decide) (own_slice hin).2).mono ?_
     rintro e V ⟨v,rfl,hv,hb⟩
     exact ⟨_,rfl,hb,SC.ofP rfl ⟨(fun _=>own_lessB hv hbl.size),(fun e=>by cases e),(fun e=>by cases e),(fun e=>by cases e)⟩⟩
   |5,ho=>
    cases ho
    have q1:=r1 1 (by decide) (by decide)
    refine RunsTo.val _ (V:=U) ?_ ⟨Below.refl _ _,SC.ofV rfl⟩
    simp only [execOp]
    go_simp
   |6,ho=>
    cases ho
    have q19:ρ (.tmp (14+5))=_:=(r2 {on:=5,ground:= .data} (by simp) rfl).val rfl
    refine RunsTo.val _ (V:=U) ?_ ⟨Below.refl _ _,SC.ofV rfl⟩
    simp only [execOp]
    go_simp
   |7,ho=>
    cases ho
    have q20:ρ (.tmp (14+6))=_:=(r2 {on:=6,ground:= .data} (by simp) rfl).val rfl
    refine RunsTo.call (V:=U) 179 #[.bool x.shared] ?_ ?_
    ·simp only [execOp]
     go_simp
    ·refine (rBit09_ok x.shared U).mono ?_
     rintro e V ⟨rfl,rfl⟩
     exact ⟨_,rfl,Below.refl _ _,SC.ofV rfl⟩
   |8,ho=>
    cases ho
    have q18:=((r2 {on:=4,ground:= .data} (by simp) rfl).got rfl).1 rfl
    obtain ⟨Dr,dr,hq,_,_,hrd⟩:=own_form q18
    have q18:ρ (.tmp (14+4))=_:=hq
    have q21:ρ (.tmp (14+7))=_:=(r2 {on:=7,ground:= .data} (by simp) rfl).val rfl
    refine RunsTo.call (V:=U) 177 #[.slice Dr (0+8+8+2+1) dr, .int .u64 ((bitN x.shared:Nat)), .int .i64 1] ?_ ?_
    ·simp only [execOp]
     go_simp
    ·refine (rNum09_ok ([]++leB x.base.toNat 8++leB x.size.toNat 8++leB x.part.toNat 2++leB x.rights.toNat 1) (0+8+8+2+1) _ _ (bitN x.shared) ((bitN x.shared:Nat)) rfl 1 1 rfl U (by omega) (by decide) (by decide) hrd).mono ?_
     rintro e V ⟨v,rfl,hv,hb⟩
     exact ⟨_,rfl,hb,SC.ofP rfl ⟨(fun e=>by cases e),(fun _=>own_lessB hv hbl.size),(fun e=>by cases e),(fun e=>by cases e)⟩⟩
   |9,ho=>
    cases ho
    have q22:=((r2 {on:=8,ground:= .data} (by simp) rfl).got rfl).2.1 rfl
    obtain ⟨Dr,dr,hq,_,_,hrd⟩:=own_form q22
    have q22:ρ (.tmp (14+8))=_:=hq
    refine RunsTo.call (V:=U) 176 #[.slice Dr (0+8+8+2+1+1) dr, .int .i64 4] ?_ ?_
    ·simp only [execOp]
     go_simp
    ·refine (rPad09_ok ([]++leB x.base.toNat 8++leB x.size.toNat 8++leB x.part.toNat 2++leB x.rights.toNat 1++leB (bitN x.shared) 1) (0+8+8+2+1+1) _ _ 4 4 rfl U (by decide) (by decide) hrd).mono ?_
     rintro e V ⟨v,rfl,hv,hb⟩
     exact ⟨_,rfl,hb,SC.ofP rfl ⟨(fun e=>by cases e),(fun e=>by cases e),(fun _=>own_lessB hv hbl.size),(fun e=>by cases e)⟩⟩
   |10,ho=>
    cases ho
    have q23:=(r2 {on:=9,ground:= .data} (by simp) rfl).got rfl
    refine RunsTo.val (ρ (.tmp (14+9))) (V:=U) ?_ ⟨Below.refl _ _,SC.ofP rfl ⟨(fun e=>by cases e),(fun e=>by cases e),(fun e=>by cases e),(fun _=>q23.2.2.1 rfl)⟩⟩
    simp only [execOp]
    go_simp
   |k+11,ho=>exact absurd ho (by simp)
  case hend=>
   intro u U hE hS
   have hx:=((hS 10 (by decide)).got rfl).2.2.2 rfl
   obtain ⟨Db,db,hq,_,_,_⟩:=own_form hx
   rw [hq] at hx
   have HOb:=Lib.hid hx
   have HBK:=Lib.hid hE.1
   have HBL:=Lib.hid hE.2.1
   clear hS hE hx
   simp only [mkL,mkAt,List.take_succ_cons,List.take_zero,List.drop_succ_cons,List.drop_nil,List.range,List.range.loop,List.map_cons,List.map_nil,List.cons_append,List.nil_append,List.append_nil,List.setIfInBounds_toArray,List.set_cons_succ,List.set_cons_zero,hq]
   clear hq
   go_wp2
   go_ret
   exact ⟨_,rfl,HOb.out,HBL.out⟩
set_option maxRecDepth 100000 in
set_option maxHeartbeats 8000000 in
theorem rHdB_ok (x:Int × Int × Int) (w:World) (hx:hdOk x):Calls Tryz.prog 125 #[.agg #[.int .u16 x.1, .int .u16 x.2.1, .int .u16 x.2.2]] w fun e w'=> ∃v,e= .returned v∧w'.ownsRow w.heap.size 5 1 v 8 (bytV (hdB3 x))∧Below w.heap.size w w':=by
 have u0:=Go.bounds_u16 hx.1
 have u1:=Go.bounds_u16 hx.2.1
 have u2:=Go.bounds_u16 hx.2.2
 have e0:=wrap_u16 hx.1
 have e1:=wrap_u16 hx.2.1
 have e2:=wrap_u16 hx.2.2
 clear hx
 obtain ⟨w0,hw0⟩: ∃w0,w.alloc (.cells #[.int .u16 x.1, .int .u16 x.2.1, .int .u16 x.2.2] 51)=w0:=⟨_,rfl⟩
 have HBK:=Lib.hid (show Blk w0 w.heap.size 51 #[.int .u16 x.1, .int .u16 x.2.1, .int .u16 x.2.2] by rw [←hw0];exact Blk.new w _ _)
 have HBL:=Lib.hid (show Below w.heap.size w w0 by rw [←hw0];exact below_one _ _)
 have HW:=Lib.hid hw0
 clear hw0
 go_enter Tryz.func125,Tryz.ntmps125
 go_upto_region 1 with (fail)
 rw [HW.out]
 clear HW
 refine wp_region_H 3 13 2 _ rfl rfl rfl (by decide) (by kernel_rfl) (by kernel_rfl) (by kernel_rfl) (Nat.le_of_ble_eq_true (by kernel_rfl))
  [.pointer (some ⟨w.heap.size,0,none⟩), .int .u16 x.1, .int .u64 x.1,undef, .pointer (some ⟨w.heap.size,1,none⟩), .int .u16 x.2.1, .int .u64 x.2.1,undef, .pointer (some ⟨w.heap.size,2,none⟩), .int .u16 x.2.2, .int .u64 x.2.2,undef,undef,undef]
  (fun i=>i==3||i==7||i==11||i==12||i==13) (by kernel_rfl) (fun i v U=>(i=3→U.ownsRow w.heap.size 5 1 v (0+2) (bytV ([]++leB x.1.toNat 2)))∧(i=7→U.ownsRow w.heap.size 5 1 v (0+2+2) (bytV ([]++leB x.1.toNat 2++leB x.2.1.toNat 2)))∧(i=11→U.ownsRow w.heap.size 5 1 v (0+2+2+2) (bytV ([]++leB x.1.toNat 2++leB x.2.1.toNat 2++leB x.2.2.toNat 2)))∧(i=12→U.ownsRow w.heap.size 5 1 v (0+2+2+2+2) (bytV ([]++leB x.1.toNat 2++leB x.2.1.toNat 2++leB x.2.2.toNat 2++zsB 2)))∧(i=13→U.ownsRow w.heap.size 5 1 v (0+2+2+2+2) (bytV ([]++leB x.1.toNat 2++leB x.2.1.toNat 2++leB x.2.2.toNat 2++zsB 2)))) (fun U=>Blk U w.heap.size 51 #[.int .u16 x.1, .int .u16 x.2.1, .int .u16 x.2.2]∧Below w.heap.size w U)
  (⟨HBK.out.below (Below.refl _ _).drew HBK.out.lt,HBL.out.drew⟩) (fun U V ⟨h1,h2⟩ hb=>⟨h1.below hb h1.lt,Below.then_ h2 hb⟩) (fun _ v U V _ hv hb=>⟨(fun e=>own_below (hv.1 e) hb),(fun e=>own_below (hv.2.1 e) hb),(fun e=>own_below (hv.2.2.1 e) hb),(fun e=>own_below (hv.2.2.2.1 e) hb),(fun e=>own_below (hv.2.2.2.2 e) hb)⟩) ?hun ?hop ?hend
 case hun=>
  intro i o ho
  match i,ho with
  |0,ho=>cases ho;intro h;cases h
  |1,ho=>cases ho;intro h;cases h
  |2,ho=>cases ho;intro h;cases h
  |3,ho=>cases ho;intro h;cases h
  |4,ho=>cases ho;intro h;cases h
  |5,ho=>cases ho;intro h;cases h
  |6,ho=>cases ho;intro h;cases h
  |7,ho=>cases ho;intro h;cases h
  |8,ho=>cases ho;intro h;cases h
  |9,ho=>cases ho;intro h;cases h
  |10,ho=>cases ho;intro h;cases h
  |11,ho=>cases ho;intro h;cases h
  |12,ho=>cases ho;intro h;cases h
  |13,ho=>cases ho;intro h;cases h
  |k+14,ho=>exact absurd ho (by simp)
 case hop=>
  intro i o ho hw U hE ρ r0 rf r1 r2
  obtain ⟨hbk,hbl⟩:=hE
  have y0:=hbk.cell 0
  have y1:=hbk.cell 1
  have y2:=hbk.cell 2
  have yz:=hbk.lt
  simp at y0 y1 y2
  match i,ho with
  |0,ho=>
   cases ho
   have q1:=r1 1 (by decide) (by decide)
   refine RunsTo.val _ (V:=U) ?_ ⟨Below.refl _ _,SC.ofV rfl⟩
   simp only [execOp]
   go_simp
  |1,ho=>
   cases ho
   have q3:ρ (.tmp (3+0))=_:=(r2 {on:=0,ground:= .data} (by simp) rfl).val rfl
   refine RunsTo.val _ (V:=U) ?_ ⟨Below.refl _ _,SC.ofV rfl⟩
   simp only [execOp]
   go_simp
  |2,ho=>
   cases ho
   have q4:ρ (.tmp (3+1))=_:=(r2 {on:=1,ground:= .data} (by simp) rfl).val rfl
   refine RunsTo.val _ (V:=U) ?_ ⟨Below.refl _ _,SC.ofV rfl⟩
   simp only [execOp]
   go_simp
  |3,ho=>
   cases ho
   have q5:ρ (.tmp (3+2))=_:=(r2 {on:=2,ground:= .data} (by simp) rfl).val rfl
   refine RunsTo.call (V:=U) 177 #[.slice none 0 0, .int .u64 (x.1), .int .i64 2] ?_ ?_
   ·simp only [execOp]
    go_simp
   ·refine (rNum09_ok ([]) (0) _ _ (x.1.toNat) (x.1) (by omega) 2 2 rfl U (by omega) (by decide) (by decide) Rd.nil).mono ?_
    rintro e V ⟨v,rfl,hv,hb⟩
    exact ⟨_,rfl,hb,SC.ofP rfl ⟨(fun _=>own_lessB hv hbl.size),(fun e=>by cases e),(fun e=>by cases e),(fun e=>by cases e),(fun e=>by cases e)⟩⟩
  |4,ho=>
   cases ho
   have q1:=r1 1 (by decide) (by decide)
   refine RunsTo.val _ (V:=U) ?_ ⟨Below.refl _ _,SC.ofV rfl⟩
   simp only [execOp]
   go_simp
  |5,ho=>
   cases ho
   have q7:ρ (.tmp (3+4))=_:=(r2 {on:=4,ground:= .data} (by simp) rfl).val rfl
   refine RunsTo.val _ (V:=U) ?_ ⟨Below.refl _ _,SC.ofV rfl⟩
   simp only [execOp]
   go_simp
  |6,ho=>
   cases ho
   have q8:ρ (.tmp (3+5))=_:=(r2 {on:=5,ground:= .data} (by simp) rfl).val rfl
   refine RunsTo.val _ (V:=U) ?_ ⟨Below.refl _ _,SC.ofV rfl⟩
   simp only [execOp]
   go_simp
  |7,ho=>
   cases ho
   have q6:=((r2 {on:=3,ground:= .data} (by simp) rfl).got rfl).1 rfl
   obtain ⟨Dr,dr,hq,_,_,hrd⟩:=own_form q6
   have q6:ρ (.tmp (3+3))=_:=hq
   have q9:ρ (.tmp (3+6))=_:=(r2 {on:=6,ground:= .data} (by simp) rfl).val rfl
   refine RunsTo.call (V:=U) 177 #[.slice Dr (0+2) dr, .int .u64 (x.2.1), .int .i64 2] ?_ ?_
   ·simp only [execOp]
    go_simp
   ·refine (rNum09_ok ([]++leB x.1.toNat 2) (0+2) _ _ (x.2.1.toNat) (x.2.1) (by omega) 2 2 rfl U (by omega) (by decide) (by decide) hrd).mono ?_
    rintro e V ⟨v,rfl,hv,hb⟩
    exact ⟨_,rfl,hb,SC.ofP rfl ⟨(fun e=>by cases e),(fun _=>own_lessB hv hbl.size),(fun e=>by cases e),(fun e=>by cases e),(fun e=>by cases e)⟩⟩
  |8,ho=>
   cases ho
   have q1:=r1 1 (by decide) (by decide)
   refine RunsTo.val _ (V:=U) ?_ ⟨Below.refl _ _,SC.ofV rfl⟩
   simp only [execOp]
   go_simp
  |9,ho=>
   cases ho
   have q11:ρ (.tmp (3+8))=_:=(r2 {on:=8,ground:= .data} (by simp) rfl).val rfl
   refine RunsTo.val _ (V:=U) ?_ ⟨Below.refl _ _,SC.ofV rfl⟩
   simp only [execOp]
   go_simp
  |10,ho=>
   cases ho
   have q12:ρ (.tmp (3+9))=_:=(r2 {on:=9,ground:= .data} (by simp) rfl).val rfl
   refine RunsTo.val _ (V:=U) ?_ ⟨Below.refl _ _,SC.ofV rfl⟩
   simp only [execOp]
   go_simp
  |11,ho=>
   cases ho
   have q10:=((r2 {on:=7,ground:= .data} (by simp) rfl).got rfl).2.1 rfl
   obtain ⟨Dr,dr,hq,_,_,hrd⟩:=own_form q10
   have q10:ρ (.tmp (3+7))=_:=hq
   have q13:ρ (.tmp (3+10))=_:=(r2 {on:=10,ground:= .data} (by simp) rfl).val rfl
   refine RunsTo.call (V:=U) 177 #[.slice Dr (0+2+2) dr, .int .u64 (x.2.2), .int .i64 2] ?_ ?_
   ·simp only [execOp]
    go_simp
   ·refine (rNum09_ok ([]++leB x.1.toNat 2++leB x.2.1.toNat 2) (0+2+2) _ _ (x.2.2.toNat) (x.2.2) (by omega) 2 2 rfl U (by omega) (by decide) (by decide) hrd).mono ?_
    rintro e V ⟨v,rfl,hv,hb⟩
    exact ⟨_,rfl,hb,SC.ofP rfl ⟨(fun e=>by cases e),(fun e=>by cases e),(fun _=>own_lessB hv hbl.size),(fun e=>by cases e),(fun e=>by cases e)⟩⟩
  |12,ho=>
   cases ho
   have q14:=((r2 {on:=11,ground:= .data} (by simp) rfl).got rfl).2.2.1 rfl
   obtain ⟨Dr,dr,hq,_,_,hrd⟩:=own_form q14
   have q14:ρ (.tmp (3+11))=_:=hq
   refine RunsTo.call (V:=U) 176 #[.slice Dr (0+2+2+2) dr, .int .i64 2] ?_ ?_
   ·simp only [execOp]
    go_simp
   ·refine (rPad09_ok ([]++leB x.1.toNat 2++leB x.2.1.toNat 2++leB x.2.2.toNat 2) (0+2+2+2) _ _ 2 2 rfl U (by decide) (by decide) hrd).mono ?_
    rintro e V ⟨v,rfl,hv,hb⟩
    exact ⟨_,rfl,hb,SC.ofP rfl ⟨(fun e=>by cases e),(fun e=>by cases e),(fun e=>by cases e),(fun _=>own_lessB hv hbl.size),(fun e=>by cases e)⟩⟩
  |13,ho=>
   cases ho
   have q15:=(r2 {on:=12,ground:= .data} (by simp) rfl).got rfl
   refine RunsTo.val (ρ (.tmp (3+12))) (V:=U) ?_ ⟨Below.refl _ _,SC.ofP rfl ⟨(fun e=>by cases e),(fun e=>by cases e),(fun e=>by cases e),(fun e=>by cases e),(fun _=>q15.2.2.2.1 rfl)⟩⟩
   simp only [execOp]
   go_simp
  |k+14,ho=>exact absurd ho (by simp)
 case hend=>
  intro u U hE hS
  have hx:=((hS 13 (by decide)).got rfl).2.2.2.2 rfl
  obtain ⟨Da,da,hq,_,_,_⟩:=own_form hx
  rw [hq] at hx
  have HOa:=Lib.hid hx
  have HBK:=Lib.hid hE.1
  have HBL:=Lib.hid hE.2
  clear hS hE hx
  simp only [mkL,mkAt,List.take_succ_cons,List.take_zero,List.drop_succ_cons,List.drop_nil,List.range,List.range.loop,List.map_cons,List.map_nil,List.cons_append,List.nil_append,List.append_nil,List.setIfInBounds_toArray,List.set_cons_succ,List.set_cons_zero,hq]
  clear hq
  go_wp2
  go_ret
  exact ⟨_,rfl,HOa.out,HBL.out⟩
set_option maxRecDepth 100000 in
set_option maxHeartbeats 8000000 in
theorem rLkB_ok (x:Int × Int) (w:World) (hx:lkOk x):Calls Tryz.prog 126 #[.agg #[.int .u16 x.1, .int .u16 x.2]] w fun e w'=> ∃v,e= .returned v∧w'.ownsRow w.heap.size 5 1 v 8 (bytV (lkB x))∧Below w.heap.size w w':=by
 have u0:=Go.bounds_u16 hx.1
 have u1:=Go.bounds_u16 hx.2
 have e0:=wrap_u16 hx.1
 have e1:=wrap_u16 hx.2
 clear hx
 obtain ⟨w0,hw0⟩: ∃w0,w.alloc (.cells #[.int .u16 x.1, .int .u16 x.2] 54)=w0:=⟨_,rfl⟩
 have HBK:=Lib.hid (show Blk w0 w.heap.size 54 #[.int .u16 x.1, .int .u16 x.2] by rw [←hw0];exact Blk.new w _ _)
 have HBL:=Lib.hid (show Below w.heap.size w w0 by rw [←hw0];exact below_one _ _)
 have HW:=Lib.hid hw0
 clear hw0
 go_enter Tryz.func126,Tryz.ntmps126
 go_upto_region 1 with (fail)
 rw [HW.out]
 clear HW
 refine wp_region_H 3 9 2 _ rfl rfl rfl (by decide) (by kernel_rfl) (by kernel_rfl) (by kernel_rfl) (Nat.le_of_ble_eq_true (by kernel_rfl))
  [.pointer (some ⟨w.heap.size,0,none⟩), .int .u16 x.1, .int .u64 x.1,undef, .pointer (some ⟨w.heap.size,1,none⟩), .int .u16 x.2, .int .u64 x.2,undef,undef,undef]
  (fun i=>i==3||i==7||i==8||i==9) (by kernel_rfl) (fun i v U=>(i=3→U.ownsRow w.heap.size 5 1 v (0+2) (bytV ([]++leB x.1.toNat 2)))∧(i=7→U.ownsRow w.heap.size 5 1 v (0+2+2) (bytV ([]++leB x.1.toNat 2++leB x.2.toNat 2)))∧(i=8→U.ownsRow w.heap.size 5 1 v (0+2+2+4) (bytV ([]++leB x.1.toNat 2++leB x.2.toNat 2++zsB 4)))∧(i=9→U.ownsRow w.heap.size 5 1 v (0+2+2+4) (bytV ([]++leB x.1.toNat 2++leB x.2.toNat 2++zsB 4)))) (fun U=>Blk U w.heap.size 54 #[.int .u16 x.1, .int .u16 x.2]∧Below w.heap.size w U)
  (⟨HBK.out.below (Below.refl _ _).drew HBK.out.lt,HBL.out.drew⟩) (fun U V ⟨h1,h2⟩ hb=>⟨h1.below hb h1.lt,Below.then_ h2 hb⟩) (fun _ v U V _ hv hb=>⟨(fun e=>own_below (hv.1 e) hb),(fun e=>own_below (hv.2.1 e) hb),(fun e=>own_below (hv.2.2.1 e) hb),(fun e=>own_below (hv.2.2.2 e) hb)⟩) ?hun ?hop ?hend
 case hun=>
  intro i o ho
  match i,ho with
  |0,ho=>cases ho;intro h;cases h
  |1,ho=>cases ho;intro h;cases h
  |2,ho=>cases ho;intro h;cases h
  |3,ho=>cases ho;intro h;cases h
  |4,ho=>cases ho;intro h;cases h
  |5,ho=>cases ho;intro h;cases h
  |6,ho=>cases ho;intro h;cases h
  |7,ho=>cases ho;intro h;cases h
  |8,ho=>cases ho;intro h;cases h
  |9,ho=>cases ho;intro h;cases h
  |k+10,ho=>exact absurd ho (by simp)
 case hop=>
  intro i o ho hw U hE ρ r0 rf r1 r2
  obtain ⟨hbk,hbl⟩:=hE
  have y0:=hbk.cell 0
  have y1:=hbk.cell 1
  have yz:=hbk.lt
  simp at y0 y1
  match i,ho with
  |0,ho=>
   cases ho
   have q1:=r1 1 (by decide) (by decide)
   refine RunsTo.val _ (V:=U) ?_ ⟨Below.refl _ _,SC.ofV rfl⟩
   simp only [execOp]
   go_simp
  |1,ho=>
   cases ho
   have q3:ρ (.tmp (3+0))=_:=(r2 {on:=0,ground:= .data} (by simp) rfl).val rfl
   refine RunsTo.val _ (V:=U) ?_ ⟨Below.refl _ _,SC.ofV rfl⟩
   simp only [execOp]
   go_simp
  |2,ho=>
   cases ho
   have q4:ρ (.tmp (3+1))=_:=(r2 {on:=1,ground:= .data} (by simp) rfl).val rfl
   refine RunsTo.val _ (V:=U) ?_ ⟨Below.refl _ _,SC.ofV rfl⟩
   simp only [execOp]
   go_simp
  |3,ho=>
   cases ho
   have q5:ρ (.tmp (3+2))=_:=(r2 {on:=2,ground:= .data} (by simp) rfl).val rfl
   refine RunsTo.call (V:=U) 177 #[.slice none 0 0, .int .u64 (x.1), .int .i64 2] ?_ ?_
   ·simp only [execOp]
    go_simp
   ·refine (rNum09_ok ([]) (0) _ _ (x.1.toNat) (x.1) (by omega) 2 2 rfl U (by omega) (by decide) (by decide) Rd.nil).mono ?_
    rintro e V ⟨v,rfl,hv,hb⟩
    exact ⟨_,rfl,hb,SC.ofP rfl ⟨(fun _=>own_lessB hv hbl.size),(fun e=>by cases e),(fun e=>by cases e),(fun e=>by cases e)⟩⟩
  |4,ho=>
   cases ho
   have q1:=r1 1 (by decide) (by decide)
   refine RunsTo.val _ (V:=U) ?_ ⟨Below.refl _ _,SC.ofV rfl⟩
   simp only [execOp]
   go_simp
  |5,ho=>
   cases ho
   have q7:ρ (.tmp (3+4))=_:=(r2 {on:=4,ground:= .data} (by simp) rfl).val rfl
   refine RunsTo.val _ (V:=U) ?_ ⟨Below.refl _ _,SC.ofV rfl⟩
   simp only [execOp]
   go_simp
  |6,ho=>
   cases ho
   have q8:ρ (.tmp (3+5))=_:=(r2 {on:=5,ground:= .data} (by simp) rfl).val rfl
   refine RunsTo.val _ (V:=U) ?_ ⟨Below.refl _ _,SC.ofV rfl⟩
   simp only [execOp]
   go_simp
  |7,ho=>
   cases ho
   have q6:=((r2 {on:=3,ground:= .data} (by simp) rfl).got rfl).1 rfl
   obtain ⟨Dr,dr,hq,_,_,hrd⟩:=own_form q6
   have q6:ρ (.tmp (3+3))=_:=hq
   have q9:ρ (.tmp (3+6))=_:=(r2 {on:=6,ground:= .data} (by simp) rfl).val rfl
   refine RunsTo.call (V:=U) 177 #[.slice Dr (0+2) dr, .int .u64 (x.2), .int .i64 2] ?_ ?_
   ·simp only [execOp]
    go_simp
   ·refine (rNum09_ok ([]++leB x.1.toNat 2) (0+2) _ _ (x.2.toNat) (x.2) (by omega) 2 2 rfl U (by omega) (by decide) (by decide) hrd).mono ?_
    rintro e V ⟨v,rfl,hv,hb⟩
    exact ⟨_,rfl,hb,SC.ofP rfl ⟨(fun e=>by cases e),(fun _=>own_lessB hv hbl.size),(fun e=>by cases e),(fun e=>by cases e)⟩⟩
  |8,ho=>
   cases ho
   have q10:=((r2 {on:=7,ground:= .data} (by simp) rfl).got rfl).2.1 rfl
   obtain ⟨Dr,dr,hq,_,_,hrd⟩:=own_form q10
   have q10:ρ (.tmp (3+7))=_:=hq
   refine RunsTo.call (V:=U) 176 #[.slice Dr (0+2+2) dr, .int .i64 4] ?_ ?_
   ·simp only [execOp]
    go_simp
   ·refine (rPad09_ok ([]++leB x.1.toNat 2++leB x.2.toNat 2) (0+2+2) _ _ 4 4 rfl U (by decide) (by decide) hrd).mono ?_
    rintro e V ⟨v,rfl,hv,hb⟩
    exact ⟨_,rfl,hb,SC.ofP rfl ⟨(fun e=>by cases e),(fun e=>by cases e),(fun _=>own_lessB hv hbl.size),(fun e=>by cases e)⟩⟩
  |9,ho=>
   cases ho
   have q11:=(r2 {on:=8,ground:= .data} (by simp) rfl).got rfl
   refine RunsTo.val (ρ (.tmp (3+8))) (V:=U) ?_ ⟨Below.refl _ _,SC.ofP rfl ⟨(fun e=>by cases e),(fun e=>by cases e),(fun e=>by cases e),(fun _=>q11.2.2.1 rfl)⟩⟩
   simp only [execOp]
   go_simp
  |k+10,ho=>exact absurd ho (by simp)
 case hend=>
  intro u U hE hS
  have hx:=((hS 9 (by decide)).got rfl).2.2.2 rfl
  obtain ⟨Da,da,hq,_,_,_⟩:=own_form hx
  rw [hq] at hx
  have HOa:=Lib.hid hx
  have HBK:=Lib.hid hE.1
  have HBL:=Lib.hid hE.2
  clear hS hE hx
  simp only [mkL,mkAt,List.take_succ_cons,List.take_zero,List.drop_succ_cons,List.drop_nil,List.range,List.range.loop,List.map_cons,List.map_nil,List.cons_append,List.nil_append,List.append_nil,List.setIfInBounds_toArray,List.set_cons_succ,List.set_cons_zero,hq]
  clear hq
  go_wp2
  go_ret
  exact ⟨_,rfl,HOa.out,HBL.out⟩
set_option maxRecDepth 100000 in
set_option maxHeartbeats 8000000 in
theorem rParB_ok (x:Par) (w:World) (hx:x.ok) (hnm:nameOk x.name=true):Calls Tryz.prog 120 #[.agg #[.int .u16 x.id, .string x.name, .int .u64 x.period, .int .u64 x.duration]] w fun e w'=> ∃v,e= .returned v∧w'.ownsRow w.heap.size 5 1 v 56 (bytV (parB x))∧Below w.heap.size w w':=by
 have u0:=Go.bounds_u16 hx.id
 have u1:=Go.bounds_u64 hx.period
 have u2:=Go.bounds_u64 hx.duration
 have e0:=wrap_u16 hx.id
 obtain ⟨hpd,hn30⟩:=padB_yes hnm
 have hsz:IntKind.u64.wrap (x.name.size:Int)=(x.name.size:Int):=by rw [IntKind.wrap_u64];omega
 have HPD:=Lib.hid hpd
 clear hx hpd hnm
 obtain ⟨w0,hw0⟩: ∃w0,w.alloc (.cells #[.int .u16 x.id, .string x.name, .int .u64 x.period, .int .u64 x.duration] 75)=w0:=⟨_,rfl⟩
 have HBK:=Lib.hid (show Blk w0 w.heap.size 75 #[.int .u16 x.id, .string x.name, .int .u64 x.period, .int .u64 x.duration] by rw [←hw0];exact Blk.new w _ _)
 have HBL:=Lib.hid (show Below w.heap.size w w0 by rw [←hw0];exact below_one _ _)
 have HW:=Lib.hid hw0
 clear hw0
 go_enter Tryz.func120,Tryz.ntmps120
 go_upto_region 1 with (fail)
 rw [HW.out]
 clear HW
 refine wp_region_H 4 10 3 _ rfl rfl rfl (by decide) (by kernel_rfl) (by kernel_rfl) (by kernel_rfl) (Nat.le_of_ble_eq_true (by kernel_rfl))
  [.pointer (some ⟨w.heap.size,0,none⟩), .int .u16 x.id, .int .u64 x.id,undef, .pointer (some ⟨w.heap.size,1,none⟩), .string x.name, .int .i64 x.name.size, .int .u64 x.name.size,undef,undef,undef]
  (fun i=>i==3||i==8||i==9||i==10) (by kernel_rfl) (fun i v U=>(i=3→U.ownsRow w.heap.size 5 1 v (0+2) (bytV ([]++leB x.id.toNat 2)))∧(i=8→U.ownsRow w.heap.size 5 1 v (0+2+1) (bytV ([]++leB x.id.toNat 2++leB x.name.size 1)))∧(i=9→U.ownsRow w.heap.size 5 1 v (0+2+1+1) (bytV ([]++leB x.id.toNat 2++leB x.name.size 1++zsB 1)))∧(i=10→U.ownsRow w.heap.size 5 1 v (0+2+1+1) (bytV ([]++leB x.id.toNat 2++leB x.name.size 1++zsB 1)))) (fun U=>Blk U w.heap.size 75 #[.int .u16 x.id, .string x.name, .int .u64 x.period, .int .u64 x.duration]∧Below w.heap.size w U)
  (⟨HBK.out.below (Below.refl _ _).drew HBK.out.lt,HBL.out.drew⟩) (fun U V ⟨h1,h2⟩ hb=>⟨h1.below hb h1.lt,Below.then_ h2 hb⟩) (fun _ v U V _ hv hb=>⟨(fun e=>own_below (hv.1 e) hb),(fun e=>own_below (hv.2.1 e) hb),(fun e=>own_below (hv.2.2.1 e) hb),(fun e=>own_below (hv.2.2.2 e) hb)⟩) ?hun ?hop ?hend
 case hun=>
  intro i o ho
  match i,ho with
  |0,ho=>cases ho;intro h;cases h
  |1,ho=>cases ho;intro h;cases h
  |2,ho=>cases ho;intro h;cases h
  |3,ho=>cases ho;intro h;cases h
  |4,ho=>cases ho;intro h;cases h
  |5,ho=>cases ho;intro h;cases h
  |6,ho=>cases ho;intro h;cases h
  |7,ho=>cases ho;intro h;cases h
  |8,ho=>cases ho;intro h;cases h
  |9,ho=>cases ho;intro h;cases h
  |10,ho=>cases ho;intro h;cases h
  |k+11,ho=>exact absurd ho (by simp)
 case hop=>
  intro i o ho hw U hE ρ r0 rf r1 r2
  obtain ⟨hbk,hbl⟩:=hE
  have y0:=hbk.cell 0
  have y1:=hbk.cell 1
  have y2:=hbk.cell 2
  have y3:=hbk.cell 3
  have yz:=hbk.lt
  simp at y0 y1 y2 y3
  match i,ho with
  |0,ho=>
   cases ho
   have q1:=r1 1 (by decide) (by decide)
   refine RunsTo.val _ (V:=U) ?_ ⟨Below.refl _ _,SC.ofV rfl⟩
   simp only [execOp]
   go_simp
  |1,ho=>
   cases ho
   have q4:ρ (.tmp (4+0))=_:=(r2 {on:=0,ground:= .data} (by simp) rfl).val rfl
   refine RunsTo.val _ (V:=U) ?_ ⟨Below.refl _ _,SC.ofV rfl⟩
   simp only [execOp]
   go_simp
  |2,ho=>
   cases ho
   have q5:ρ (.tmp (4+1))=_:=(r2 {on:=1,ground:= .data} (by simp) rfl).val rfl
   refine RunsTo.val _ (V:=U) ?_ ⟨Below.refl _ _,SC.ofV rfl⟩
   simp only [execOp]
   go_simp
  |3,ho=>
   cases ho
   have q6:ρ (.tmp (4+2))=_:=(r2 {on:=2,ground:= .data} (by simp) rfl).val rfl
   refine RunsTo.call (V:=U) 177 #[.slice none 0 0, .int .u64 (x.id), .int .i64 2] ?_ ?_
   ·simp only [execOp]
    go_simp
   ·refine (rNum09_ok ([]) (0) _ _ (x.id.toNat) (x.id) (by omega) 2 2 rfl U (by omega) (by decide) (by decide) Rd.nil).mono ?_
    rintro e V ⟨v,rfl,hv,hb⟩
    exact ⟨_,rfl,hb,SC.ofP rfl ⟨(fun _=>own_lessB hv hbl.size),(fun e=>by cases e),(fun e=>by cases e),(fun e=>by cases e)⟩⟩
  |4,ho=>
   cases ho
   have q1:=r1 1 (by decide) (by decide)
   refine RunsTo.val _ (V:=U) ?_ ⟨Below.refl _ _,SC.ofV rfl⟩
   simp only [execOp]
   go_simp
  |5,ho=>
   cases ho
   have q8:ρ (.tmp (4+4))=_:=(r2 {on:=4,ground:= .data} (by simp) rfl).val rfl
   refine RunsTo.val _ (V:=U) ?_ ⟨Below.refl _ _,SC.ofV rfl⟩
   simp only [execOp]
   go_simp
  |6,ho=>
   cases ho
   have q9:ρ (.tmp (4+5))=_:=(r2 {on:=5,ground:= .data} (by simp) rfl).val rfl
   refine RunsTo.val _ (V:=U) ?_ ⟨Below.refl _ _,SC.ofV rfl⟩
   simp only [execOp]
   go_simp
  |7,ho=>
   cases ho
   have q10:ρ (.tmp (4+6))=_:=(r2 {on:=6,ground:= .data} (by simp) rfl).val rfl
   refine RunsTo.val _ (V:=U) ?_ ⟨Below.refl _ _,SC.ofV rfl⟩
   simp only [execOp]
   go_simp
  |8,ho=>
   cases ho
   have q7:=((r2 {on:=3,ground:= .data} (by simp) rfl).got rfl).1 rfl
   obtain ⟨Dr,dr,hq,_,_,hrd⟩:=own_form q7
   have q7:ρ (.tmp (4+3))=_:=hq
   have q11:ρ (.tmp (4+7))=_:=(r2 {on:=7,ground:= .data} (by simp) rfl).val rfl
   refine RunsTo.call (V:=U) 177 #[.slice Dr (0+2) dr, .int .u64 (x.name.size), .int .i64 1] ?_ ?_
   ·simp only [execOp]
    go_simp
   ·refine (rNum09_ok ([]++leB x.id.toNat 2) (0+2) _ _ (x.name.size) (x.name.size) rfl 1 1 rfl U (by omega) (by decide) (by decide) hrd).mono ?_
    rintro e V ⟨v,rfl,hv,hb⟩
    exact ⟨_,rfl,hb,SC.ofP rfl ⟨(fun e=>by cases e),(fun _=>own_lessB hv hbl.size),(fun e=>by cases e),(fun e=>by cases e)⟩⟩
  |9,ho=>
   cases ho
   have q12:=((r2 {on:=8,ground:= .data} (by simp) rfl).got rfl).2.1 rfl
   obtain ⟨Dr,dr,hq,_,_,hrd⟩:=own_form q12
   have q12:ρ (.tmp (4+8))=_:=hq
   refine RunsTo.call (V:=U) 176 #[.slice Dr (0+2+1) dr, .int .i64 1] ?_ ?_
   ·simp only [execOp]
    go_simp
   ·refine (rPad09_ok ([]++leB x.id.toNat 2++leB x.name.size 1) (0+2+1) _ _ 1 1 rfl U (by decide) (by decide) hrd).mono ?_
    rintro e V ⟨v,rfl,hv,hb⟩
    exact ⟨_,rfl,hb,SC.ofP rfl ⟨(fun e=>by cases e),(fun e=>by cases e),(fun _=>own_lessB hv hbl.size),(fun e=>by cases e)⟩⟩
  |10,ho=>
   cases ho
   have q13:=(r2 {on:=9,ground:= .data} (by simp) rfl).got rfl
   refine RunsTo.val (ρ (.tmp (4+9))) (V:=U) ?_ ⟨Below.refl _ _,SC.ofP rfl ⟨(fun e=>by cases e),(fun e=>by cases e),(fun e=>by cases e),(fun _=>q13.2.2.1 rfl)⟩⟩
   simp only [execOp]
   go_simp
  |k+11,ho=>exact absurd ho (by simp)
 case hend=>
  intro u U hE hS
  have hx:=((hS 10 (by decide)).got rfl).2.2.2 rfl
  obtain ⟨Da,da,hq,_,_,_⟩:=own_form hx
  rw [hq] at hx
  have HOa:=Lib.hid hx
  have HBK:=Lib.hid hE.1
  have HBL:=Lib.hid hE.2
  clear hS hE hx
  simp only [mkL,mkAt,List.take_succ_cons,List.take_zero,List.drop_succ_cons,List.drop_zero,List.range,List.range.loop,List.map_cons,List.map_nil,List.cons_append,List.nil_append,List.setIfInBounds_toArray,List.set_cons_succ,List.set_cons_zero,hq]
  clear hq
  have y1:=HBK.out.cell 1
  have yz:=HBK.out.lt
  simp at y1
  go_wp2_with fail
  refine (rText09_ok ([]++leB x.id.toNat 2++leB x.name.size 1++zsB 1) (0+2+1+1) _ _ x.name _ hn30 (by decide) (own_slice HOa.out).2).mono ?_
  rintro e w5 ⟨v5,rfl,hv5,hb5⟩
  obtain ⟨D5,d5,rfl,_,_,hr5⟩:=own_form hv5
  have HBK5:=Lib.hid (HBK.out.below hb5 HBK.out.lt)
  have HBL5:=Lib.hid (Below.then_ HBL.out hb5)
  have HR5:=Lib.hid hr5
  clear hb5 hv5 hr5 y1 yz HBK HBL
  go_wp2_with fail
  refine (rPad09_ok ([]++leB x.id.toNat 2++leB x.name.size 1++zsB 1++strB x.name++zsB (30 -x.name.size)) (0+2+1+1+30) _ _ 6 6 rfl w5 (by decide) (by decide) HR5.out).mono ?_
  rintro e w6 ⟨v6,rfl,hv6,hb6⟩
  have HOc:=Lib.hid (own_lessB hv6 HBL5.out.size)
  obtain ⟨Dc,dc,rfl,_,_,_⟩:=own_form hv6
  have HBK:=Lib.hid (HBK5.out.below hb6 HBK5.out.lt)
  have HBL:=Lib.hid (Below.then_ HBL5.out hb6)
  clear hb6 hv6 HBK5 HBL5 HR5
  go_upto_region 3 with (fail)
  refine wp_region_H 19 7 2 _ rfl rfl rfl (by decide) (by kernel_rfl) (by kernel_rfl) (by kernel_rfl) (Nat.le_of_ble_eq_true (by kernel_rfl))
   [.slice Dc (0+2+1+1+30+6) dc, .pointer (some ⟨w.heap.size,2,none⟩), .int .u64 x.period,undef, .pointer (some ⟨w.heap.size,3,none⟩), .int .u64 x.duration,undef,undef]
   (fun i=>i==3||i==6||i==7) (by kernel_rfl) (fun i v U=>(i=3→U.ownsRow w.heap.size 5 1 v (0+2+1+1+30+6+8) (bytV ([]++leB x.id.toNat 2++leB x.name.size 1++zsB 1++strB x.name++zsB (30 -x.name.size)++zsB 6++leB x.period.toNat 8)))∧(i=6→U.ownsRow w.heap.size 5 1 v (0+2+1+1+30+6+8+8) (bytV ([]++leB x.id.toNat 2++leB x.name.size 1++zsB 1++strB x.name++zsB (30 -x.name.size)++zsB 6++leB x.period.toNat 8++leB x.duration.toNat 8)))∧(i=7→U.ownsRow w.heap.size 5 1 v (0+2+1+1+30+6+8+8) (bytV ([]++leB x.id.toNat 2++leB x.name.size 1++zsB 1++strB x.name++zsB (30 -x.name.size)++zsB 6++leB x.period.toNat 8++leB x.duration.toNat 8)))) (fun U=>Blk U w.heap.size 75 #[.int .u16 x.id, .string x.name, .int .u64 x.period, .int .u64 x.duration]∧Below w.heap.size w U∧U.ownsRow w.heap.size 5 1 (.slice Dc (0+2+1+1+30+6) dc) (0+2+1+1+30+6) (bytV ([]++leB x.id.toNat 2++leB x.name.size 1++zsB 1++strB x.name++zsB (30 -x.name.size)++zsB 6)))
   (⟨HBK.out.below (Below.refl _ _).drew HBK.out.lt,HBL.out.drew,own_below HOc.out (Below.refl _ _).drew⟩) (fun U V ⟨h1,h2,h3⟩ hb=>⟨h1.below hb h1.lt,Below.then_ h2 hb,own_below h3 hb⟩) (fun _ v U V _ hv hb=>⟨(fun e=>own_below (hv.1 e) hb),(fun e=>own_below (hv.2.1 e) hb),(fun e=>own_below (hv.2.2 e) hb)⟩) ?hun ?hop ?hend
  case hun=>
   intro i o ho
   match i,ho with
   |0,ho=>cases ho;intro h;cases h
   |1,ho=>cases ho;intro h;cases h
   |2,ho=>cases ho;intro h;cases h
   |3,ho=>cases ho;intro h;cases h
   |4,ho=>cases ho;intro h;cases h
   |5,ho=>cases ho;intro h;cases h
   |6,ho=>cases ho;intro h;cases h
   |7,ho=>cases ho;intro h;cases h
   |k+8,ho=>exact absurd ho (by simp)
  case hop=>
   intro i o ho hw U hE ρ r0 rf r1 r2
   obtain ⟨hbk,hbl,hin⟩:=hE
   have y0:=hbk.cell 0
   have y1:=hbk.cell 1
   have y2:=hbk.cell 2
   have y3:=hbk.cell 3
   have yz:=hbk.lt
   simp at y0 y1 y2 y3
   match i,ho with
   |0,ho=>
    cases ho
    have q3:=r1 3 (by decide) (by decide)
    refine RunsTo.val _ (V:=U) ?_ ⟨Below.refl _ _,SC.ofV rfl⟩
    simp only [execOp]
    go_simp
   |1,ho=>
    cases ho
    have q1:=r1 1 (by decide) (by decide)
    refine RunsTo.val _ (V:=U) ?_ ⟨Below.refl _ _,SC.ofV rfl⟩
    simp only [execOp]
    go_simp
   |2,ho=>
    cases ho
    have q20:ρ (.tmp (19+1))=_:=(r2 {on:=1,ground:= .data} (by simp) rfl).val rfl
    refine RunsTo.val _ (V:=U) ?_ ⟨Below.refl _ _,SC.ofV rfl⟩
    simp only [execOp]
    go_simp
   |3,ho=>
    cases ho
    have q19:ρ (.tmp (19+0))=_:=(r2 {on:=0,ground:= .data} (by simp) rfl).val rfl
    have q21:ρ (.tmp (19+2))=_:=(r2 {on:=2,ground:= .data} (by simp) rfl).val rfl
    refine RunsTo.call (V:=U) 177 #[.slice Dc (0+2+1+1+30+6) dc, .int .u64 (x.period), .int .i64 8] ?_ ?_
    ·simp only [execOp]
     go_simp
    ·refine (rNum09_ok ([]++leB x.id.toNat 2++leB x.name.size 1++zsB 1++strB x.name++zsB (30 -x.name.size)++zsB 6) (0+2+1+1+30+6) _ _ (x.period.toNat) (x.period) (by omega) 8 8 rfl U (by omega) (by decide) (by decide) (own_slice hin).2).mono ?_
     rintro e V ⟨v,rfl,hv,hb⟩
     exact ⟨_,rfl,hb,SC.ofP rfl ⟨(fun _=>own_lessB hv hbl.size),(fun e=>by cases e),(fun e=>by cases e)⟩⟩
   |4,ho=>
    cases ho
    have q1:=r1 1 (by decide) (by decide)
    refine RunsTo.val _ (V:=U) ?_ ⟨Below.refl _ _,SC.ofV rfl⟩
    simp only [execOp]
    go_simp
   |5,ho=>
    cases ho
    have q23:ρ (.tmp (19+4))=_:=(r2 {on:=4,ground:= .data} (by simp) rfl).val rfl
    refine RunsTo.val _ (V:=U) ?_ ⟨Below.refl _ _,SC.ofV rfl⟩
    simp only [execOp]
    go_simp
   |6,ho=>
    cases ho
    have q22:=((r2 {on:=3,ground:= .data} (by simp) rfl).got rfl).1 rfl
    obtain ⟨Dr,dr,hq,_,_,hrd⟩:=own_form q22
    have q22:ρ (.tmp (19+3))=_:=hq
    have q24:ρ (.tmp (19+5))=_:=(r2 {on:=5,ground:= .data} (by simp) rfl).val rfl
    refine RunsTo.call (V:=U) 177 #[.slice Dr (0+2+1+1+30+6+8) dr, .int .u64 (x.duration), .int .i64 8] ?_ ?_
    ·simp only [execOp]
     go_simp
    ·refine (rNum09_ok ([]++leB x.id.toNat 2++leB x.name.size 1++zsB 1++strB x.name++zsB (30 -x.name.size)++zsB 6++leB x.period.toNat 8) (0+2+1+1+30+6+8) _ _ (x.duration.toNat) (x.duration) (by omega) 8 8 rfl U (by omega) (by decide) (by decide) hrd).mono ?_
     rintro e V ⟨v,rfl,hv,hb⟩
     exact ⟨_,rfl,hb,SC.ofP rfl ⟨(fun e=>by cases e),(fun _=>own_lessB hv hbl.size),(fun e=>by cases e)⟩⟩
   |7,ho=>
    cases ho
    have q25:=(r2 {on:=6,ground:= .data} (by simp) rfl).got rfl
    refine RunsTo.val (ρ (.tmp (19+6))) (V:=U) ?_ ⟨Below.refl _ _,SC.ofP rfl ⟨(fun e=>by cases e),(fun e=>by cases e),(fun _=>q25.2.1 rfl)⟩⟩
    simp only [execOp]
    go_simp
   |k+8,ho=>exact absurd ho (by simp)
  case hend=>
   intro u U hE hS
   have hx:=((hS 7 (by decide)).got rfl).2.2 rfl
   obtain ⟨Db,db,hq,_,_,_⟩:=own_form hx
   rw [hq] at hx
   have HOb:=Lib.hid hx
   have HBK:=Lib.hid hE.1
   have HBL:=Lib.hid hE.2.1
   clear hS hE hx
   simp only [mkL,mkAt,List.take_succ_cons,List.take_zero,List.drop_succ_cons,List.drop_nil,List.range,List.range.loop,List.map_cons,List.map_nil,List.cons_append,List.nil_append,List.append_nil,List.setIfInBounds_toArray,List.set_cons_succ,List.set_cons_zero,hq]
   clear hq
   go_wp2
   go_ret
   refine ⟨_,rfl, ?_,HBL.out⟩
   have h:=HOb.out
   unfold parB
   rw [HPD.out]
   simp only [List.append_assoc,List.nil_append] at h ⊢
   exact h
set_option maxRecDepth 100000 in
set_option maxHeartbeats 8000000 in
theorem rPrtB_ok (x:Prt) (w:World) (hx:x.ok) (hnm:nameOk x.name=true):Calls Tryz.prog 124 #[.agg #[.int .u16 x.id, .int .u16 x.part, .string x.name, .bool x.output, .bool x.queuing, .int .u32 x.size]] w fun e w'=> ∃v,e= .returned v∧w'.ownsRow w.heap.size 5 1 v 48 (bytV (prtB x))∧Below w.heap.size w w':=by
 have u0:=Go.bounds_u16 hx.id
 have u1:=Go.bounds_u16 hx.part
 have u2:=Go.bounds_u32 hx.size
 have e0:=wrap_u16 hx.id
 have e1:=wrap_u16 hx.part
 have e2:=wrap_u32 hx.size
 obtain ⟨hpd,hn30⟩:=padB_yes hnm
 have hsz:IntKind.u64.wrap (x.name.size:Int)=(x.name.size:Int):=by rw [IntKind.wrap_u64];omega
 have hq1:bitN x.queuing≤1:=by cases x.queuing<;>decide
 have hq2:bitN x.output≤1:=by cases x.output<;>decide
 have hm2:IntKind.u64.wrap (2*((bitN x.queuing:Nat):Int))=2*((bitN x.queuing:Nat):Int):=by rw [IntKind.wrap_u64];omega
 have ha2:IntKind.u64.wrap (((bitN x.output:Nat):Int)+2*((bitN x.queuing:Nat):Int))=((bitN x.output:Nat):Int)+2*((bitN x.queuing:Nat):Int):=by rw [IntKind.wrap_u64];omega
 have hlt2:bitN x.output+2*bitN x.queuing <18446744073709551616:=by omega
 have HPD:=Lib.hid hpd
 clear hx hpd hnm
 obtain ⟨w0,hw0⟩: ∃w0,w.alloc (.cells #[.int .u16 x.id, .int .u16 x.part, .string x.name, .bool x.output, .bool x.queuing, .int .u32 x.size] 85)=w0:=⟨_,rfl⟩
 have HBK:=Lib.hid (show Blk w0 w.heap.size 85 #[.int .u16 x.id, .int .u16 x.part, .string x.name, .bool x.output, .bool x.queuing, .int .u32 x.size] by rw [←hw0];exact Blk.new w _ _)
 have HBL:=Lib.hid (show Below w.heap.size w w0 by rw [←hw0];exact below_one _ _)
 have HW:=Lib.hid hw0
 clear hw0
 go_enter Tryz.func124,Tryz.ntmps124
 go_upto_region 1 with (fail)
 rw [HW.out]
 clear HW
 refine wp_region_H 4 13 3 _ rfl rfl rfl (by decide) (by kernel_rfl) (by kernel_rfl) (by kernel_rfl) (Nat.le_of_ble_eq_true (by kernel_rfl))
  [.pointer (some ⟨w.heap.size,0,none⟩), .int .u16 x.id, .int .u64 x.id,undef, .pointer (some ⟨w.heap.size,1,none⟩), .int .u16 x.part, .int .u64 x.part,undef, .pointer (some ⟨w.heap.size,2,none⟩), .string x.name, .int .i64 x.name.size, .int .u64 x.name.size,undef,undef]
  (fun i=>i==3||i==7||i==12||i==13) (by kernel_rfl) (fun i v U=>(i=3→U.ownsRow w.heap.size 5 1 v (0+2) (bytV ([]++leB x.id.toNat 2)))∧(i=7→U.ownsRow w.heap.size 5 1 v (0+2+2) (bytV ([]++leB x.id.toNat 2++leB x.part.toNat 2)))∧(i=12→U.ownsRow w.heap.size 5 1 v (0+2+2+1) (bytV ([]++leB x.id.toNat 2++leB x.part.toNat 2++leB x.name.size 1)))∧(i=13→U.ownsRow w.heap.size 5 1 v (0+2+2+1) (bytV ([]++leB x.id.toNat 2++leB x.part.toNat 2++leB x.name.size 1)))) (fun U=>Blk U w.heap.size 85 #[.int .u16 x.id, .int .u16 x.part, .string x.name, .bool x.output, .bool x.queuing, .int .u32 x.size]∧Below w.heap.size w U)
  (⟨HBK.out.below (Below.refl _ _).drew HBK.out.lt,HBL.out.drew⟩) (fun U V ⟨h1,h2⟩ hb=>⟨h1.below hb h1.lt,Below.then_ h2 hb⟩) (fun _ v U V _ hv hb=>⟨(fun e=>own_below (hv.1 e) hb),(fun e=>own_below (hv.2.1 e) hb),(fun e=>own_below (hv.2.2.1 e) hb),(fun e=>own_below (hv.2.2.2 e) hb)⟩) ?hun ?hop ?hend
 case hun=>
  intro i o ho
  match i,ho with
  |0,ho=>cases ho;intro h;cases h
  |1,ho=>cases ho;intro h;cases h
  |2,ho=>cases ho;intro h;cases h
  |3,ho=>cases ho;intro h;cases h
  |4,ho=>cases ho;intro h;cases h
  |5,ho=>cases ho;intro h;cases h
  |6,ho=>cases ho;intro h;cases h
  |7,ho=>cases ho;intro h;cases h
  |8,ho=>cases ho;intro h;cases h
  |9,ho=>cases ho;intro h;cases h
  |10,ho=>cases ho;intro h;cases h
  |11,ho=>cases ho;intro h;cases h
  |12,ho=>cases ho;intro h;cases h
  |13,ho=>cases ho;intro h;cases h
  |k+14,ho=>exact absurd ho (by simp)
 case hop=>
  intro i o ho hw U hE ρ r0 rf r1 r2
  obtain ⟨hbk,hbl⟩:=hE
  have y0:=hbk.cell 0
  have y1:=hbk.cell 1
  have y2:=hbk.cell 2
  have y3:=hbk.cell 3
  have y4:=hbk.cell 4
  have y5:=hbk.cell 5
  have yz:=hbk.lt
  simp at y0 y1 y2 y3 y4 y5
  match i,ho with
  |0,ho=>
   cases ho
   have q1:=r1 1 (by decide) (by decide)
   refine RunsTo.val _ (V:=U) ?_ ⟨Below.refl _ _,SC.ofV rfl⟩
   simp only [execOp]
   go_simp
  |1,ho=>
   cases ho
   have q4:ρ (.tmp (4+0))=_:=(r2 {on:=0,ground:= .data} (by simp) rfl).val rfl
   refine RunsTo.val _ (V:=U) ?_ ⟨Below.refl _ _,SC.ofV rfl⟩
   simp only [execOp]
   go_simp
  |2,ho=>
   cases ho
   have q5:ρ (.tmp (4+1))=_:=(r2 {on:=1,ground:= .data} (by simp) rfl).val rfl
   refine RunsTo.val _ (V:=U) ?_ ⟨Below.refl _ _,SC.ofV rfl⟩
   simp only [execOp]
   go_simp
  |3,ho=>
   cases ho
   have q6:ρ (.tmp (4+2))=_:=(r2 {on:=2,ground:= .data} (by simp) rfl).val rfl
   refine RunsTo.call (V:=U) 177 #[.slice none 0 0, .int .u64 (x.id), .int .i64 2] ?_ ?_
   ·simp only [execOp]
    go_simp
   ·refine (rNum09_ok ([]) (0) _ _ (x.id.toNat) (x.id) (by omega) 2 2 rfl U (by omega) (by decide) (by decide) Rd.nil).mono ?_
    rintro e V ⟨v,rfl,hv,hb⟩
    exact ⟨_,rfl,hb,SC.ofP rfl ⟨(fun _=>own_lessB hv hbl.size),(fun e=>by cases e),(fun e=>by cases e),(fun e=>by cases e)⟩⟩
  |4,ho=>
   cases ho
   have q1:=r1 1 (by decide) (by decide)
   refine RunsTo.val _ (V:=U) ?_ ⟨Below.refl _ _,SC.ofV rfl⟩
   simp only [execOp]
   go_simp
  |5,ho=>
   cases ho
   have q8:ρ (.tmp (4+4))=_:=(r2 {on:=4,ground:= .data} (by simp) rfl).val rfl
   refine RunsTo.val _ (V:=U) ?_ ⟨Below.refl _ _,SC.ofV rfl⟩
   simp only [execOp]
   go_simp
  |6,ho=>
   cases ho
   have q9:ρ (.tmp (4+5))=_:=(r2 {on:=5,ground:= .data} (by simp) rfl).val rfl
   refine RunsTo.val _ (V:=U) ?_ ⟨Below.refl _ _,SC.ofV rfl⟩
   simp only [execOp]
   go_simp
  |7,ho=>
   cases ho
   have q7:=((r2 {on:=3,ground:= .data} (by simp) rfl).got rfl).1 rfl
   obtain ⟨Dr,dr,hq,_,_,hrd⟩:=own_form q7
   have q7:ρ (.tmp (4+3))=_:=hq
   have q10:ρ (.tmp (4+6))=_:=(r2 {on:=6,ground:= .data} (by simp) rfl).val rfl
   refine RunsTo.call (V:=U) 177 #[.slice Dr (0+2) dr, .int .u64 (x.part), .int .i64 2] ?_ ?_
   ·simp only [execOp]
    go_simp
   ·refine (rNum09_ok ([]++leB x.id.toNat 2) (0+2) _ _ (x.part.toNat) (x.part) (by omega) 2 2 rfl U (by omega) (by decide) (by decide) hrd).mono ?_
    rintro e V ⟨v,rfl,hv,hb⟩
    exact ⟨_,rfl,hb,SC.ofP rfl ⟨(fun e=>by cases e),(fun _=>own_lessB hv hbl.size),(fun e=>by cases e),(fun e=>by cases e)⟩⟩
  |8,ho=>
   cases ho
   have q1:=r1 1 (by decide) (by decide)
   refine RunsTo.val _ (V:=U) ?_ ⟨Below.refl _ _,SC.ofV rfl⟩
   simp only [execOp]
   go_simp
  |9,ho=>
   cases ho
   have q12:ρ (.tmp (4+8))=_:=(r2 {on:=8,ground:= .data} (by simp) rfl).val rfl
   refine RunsTo.val _ (V:=U) ?_ ⟨Below.refl _ _,SC.ofV rfl⟩
   simp only [execOp]
   go_simp
  |10,ho=>
   cases ho
   have q13:ρ (.tmp (4+9))=_:=(r2 {on:=9,ground:= .data} (by simp) rfl).val rfl
   refine RunsTo.val _ (V:=U) ?_ ⟨Below.refl _ _,SC.ofV rfl⟩
   simp only [execOp]
   go_simp
  |11,ho=>
   cases ho
   have q14:ρ (.tmp (4+10))=_:=(r2 {on:=10,ground:= .data} (by simp) rfl).val rfl
   refine RunsTo.val _ (V:=U) ?_ ⟨Below.refl _ _,SC.ofV rfl⟩
   simp only [execOp]
   go_simp
  |12,ho=>
   cases ho
   have q11:=((r2 {on:=7,ground:= .data} (by simp) rfl).got rfl).2.1 rfl
   obtain ⟨Dr,dr,hq,_,_,hrd⟩:=own_form q11
   have q11:ρ (.tmp (4+7))=_:=hq
   have q15:ρ (.tmp (4+11))=_:=(r2 {on:=11,ground:= .data} (by simp) rfl).val rfl
   refine RunsTo.call (V:=U) 177 #[.slice Dr (0+2+2) dr, .int .u64 (x.name.size), .int .i64 1] ?_ ?_
   ·simp only [execOp]
    go_simp
   ·refine (rNum09_ok ([]++leB x.id.toNat 2++leB x.part.toNat 2) (0+2+2) _ _ (x.name.size) (x.name.size) rfl 1 1 rfl U (by omega) (by decide) (by decide) hrd).mono ?_
    rintro e V ⟨v,rfl,hv,hb⟩
    exact ⟨_,rfl,hb,SC.ofP rfl ⟨(fun e=>by cases e),(fun e=>by cases e),(fun _=>own_lessB hv hbl.size),(fun e=>by cases e)⟩⟩
  |13,ho=>
   cases ho
   have q16:=(r2 {on:=12,ground:= .data} (by simp) rfl).got rfl
   refine RunsTo.val (ρ (.tmp (4+12))) (V:=U) ?_ ⟨Below.refl _ _,SC.ofP rfl ⟨(fun e=>by cases e),(fun e=>by cases e),(fun e=>by cases e),(fun _=>q16.2.2.1 rfl)⟩⟩
   simp only [execOp]
   go_simp
  |k+14,ho=>exact absurd ho (by simp)
 case hend=>
  intro u U hE hS
  have hx:=((hS 13 (by decide)).got rfl).2.2.2 rfl
  obtain ⟨Da,da,hq,_,_,_⟩:=own_form hx
  rw [hq] at hx
  have HOa:=Lib.hid hx
  have HBK:=Lib.hid hE.1
  have HBL:=Lib.hid hE.2
  clear hS hE hx
  simp only [mkL,mkAt,List.take_succ_cons,List.take_zero,List.drop_succ_cons,List.drop_zero,List.range,List.range.loop,List.map_cons,List.map_nil,List.cons_append,List.nil_append,List.setIfInBounds_toArray,List.set_cons_succ,List.set_cons_zero,hq]
  clear hq
  go_upto_region 2 with (fail)
  refine wp_region_HR 17 11 3 0 _ rfl rfl rfl (by decide) (by kernel_rfl) (by kernel_rfl) (by kernel_rfl) (Nat.le_of_ble_eq_true (by kernel_rfl)) (by decide) ⟨{on:=0,ground:= .phase},by simp,rfl,rfl⟩
   [.slice Da (0+2+2+1) da, .pointer (some ⟨w.heap.size,3,none⟩), .bool x.output, .int .u64 (bitN x.output:Nat), .pointer (some ⟨w.heap.size,4,none⟩), .bool x.queuing, .int .u64 (bitN x.queuing:Nat), .int .u64 (2*((bitN x.queuing:Nat):Int)), .int .u64 (((bitN x.output:Nat):Int)+2*((bitN x.queuing:Nat):Int)),undef,undef,undef]
   (fun i=>i==9||i==10||i==11) (by kernel_rfl) (fun i v U=>(i=9→U.ownsRow w.heap.size 5 1 v (0+2+2+1+1) (bytV ([]++leB x.id.toNat 2++leB x.part.toNat 2++leB x.name.size 1++leB (bitN x.output+2*bitN x.queuing) 1)))∧(i=10→U.ownsRow w.heap.size 5 1 v (0+2+2+1+1+2) (bytV ([]++leB x.id.toNat 2++leB x.part.toNat 2++leB x.name.size 1++leB (bitN x.output+2*bitN x.queuing) 1++zsB 2)))∧(i=11→U.ownsRow w.heap.size 5 1 v (0+2+2+1+1+2) (bytV ([]++leB x.id.toNat 2++leB x.part.toNat 2++leB x.name.size 1++leB (bitN x.output+2*bitN x.queuing) 1++zsB 2)))) (fun U=>Blk U w.heap.size 85 #[.int .u16 x.id, .int .u16 x.part, .string x.name, .bool x.output, .bool x.queuing, .int .u32 x.size]∧Below w.heap.size w U∧U.ownsRow w.heap.size 5 1 (.slice Da (0+2+2+1) da) (0+2+2+1) (bytV ([]++leB x.id.toNat 2++leB x.part.toNat 2++leB x.name.size 1)))
   (⟨HBK.out.below (Below.refl _ _).drew HBK.out.lt,HBL.out.drew,own_below HOa.out (Below.refl _ _).drew⟩) (fun U V ⟨h1,h2,h3⟩ hb=>⟨h1.below hb h1.lt,Below.then_ h2 hb,own_below h3 hb⟩) (fun _ v U V _ hv hb=>⟨(fun e=>own_below (hv.1 e) hb),(fun e=>own_below (hv.2.1 e) hb),(fun e=>own_below (hv.2.2 e) hb)⟩) ?hop ?hend
  case hop=>
   intro i o ho U hE ρ r0 rf r1 rk r2
   obtain ⟨hbk,hbl,hin⟩:=hE
   have y0:=hbk.cell 0
   have y1:=hbk.cell 1
   have y2:=hbk.cell 2
   have y3:=hbk.cell 3
   have y4:=hbk.cell 4
   have y5:=hbk.cell 5
   have yz:=hbk.lt
   simp at y0 y1 y2 y3 y4 y5
   match i,ho with
   |0,ho=>
    cases ho
    have q3:=rk rfl
    refine RunsTo.val _ (V:=U) ?_ ⟨Below.refl _ _,SC.ofV rfl⟩
    simp only [execOp]
    go_simp
   |1,ho=>
    cases ho
    have q1:=r1 1 (by decide) (by decide)
    refine RunsTo.val _ (V:=U) ?_ ⟨Below.refl _ _,SC.ofV rfl⟩
    simp only [execOp]
    go_simp
   |2,ho=>
    cases ho
    have q18:ρ (.tmp (17+1))=_:=(r2 {on:=1,ground:= .data} (by simp) rfl).val rfl
    refine RunsTo.val _ (V:=U) ?_ ⟨Below.refl _ _,SC.ofV rfl⟩
    simp only [execOp]
    go_simp
   |3,ho=>
    cases ho
    have q19:ρ (.tmp (17+2))=_:=(r2 {on:=2,ground:= .data} (by simp) rfl).val rfl
    refine RunsTo.call (V:=U) 179 #[.bool x.output] ?_ ?_
    ·simp only [execOp]
     go_simp
    ·refine (rBit09_ok x.output U).mono ?_
     rintro e V ⟨rfl,rfl⟩
     exact ⟨_,rfl,Below.refl _ _,SC.ofV rfl⟩
   |4,ho=>
    cases ho
    have q1:=r1 1 (by decide) (by decide)
    refine RunsTo.val _ (V:=U) ?_ ⟨Below.refl _ _,SC.ofV rfl⟩
    simp only [execOp]
    go_simp
   |5,ho=>
    cases ho
    have q21:ρ (.tmp (17+4))=_:=(r2 {on:=4,ground:= .data} (by simp) rfl).val rfl
    refine RunsTo.val _ (V:=U) ?_ ⟨Below.refl _ _,SC.ofV rfl⟩
    simp only [execOp]
    go_simp
   |6,ho=>
    cases ho
    have q22:ρ (.tmp (17+5))=_:=(r2 {on:=5,ground:= .data} (by simp) rfl).val rfl
    refine RunsTo.call (V:=U) 179 #[.bool x.queuing] ?_ ?_
    ·simp only [execOp]
     go_simp
    ·refine (rBit09_ok x.queuing U).mono ?_
     rintro e V ⟨rfl,rfl⟩
     exact ⟨_,rfl,Below.refl _ _,SC.ofV rfl⟩
   |7,ho=>
    cases ho
    have q23:ρ (.tmp (17+6))=_:=(r2 {on:=6,ground:= .data} (by simp) rfl).val rfl
    refine RunsTo.val _ (V:=U) ?_ ⟨Below.refl _ _,SC.ofV rfl⟩
    simp only [execOp]
    go_simp
   |8,ho=>
    cases ho
    have q20:ρ (.tmp (17+3))=_:=(r2 {on:=3,ground:= .data} (by simp) rfl).val rfl
    have q24:ρ (.tmp (17+7))=_:=(r2 {on:=7,ground:= .data} (by simp) rfl).val rfl
    refine RunsTo.val _ (V:=U) ?_ ⟨Below.refl _ _,SC.ofV rfl⟩
    simp only [execOp]
    go_simp
   |9,ho=>
    cases ho
    have q17:ρ (.tmp (17+0))=_:=(r2 {on:=0,ground:= .data} (by simp) rfl).val rfl
    have q25:ρ (.tmp (17+8))=_:=(r2 {on:=8,ground:= .data} (by simp) rfl).val rfl
    refine RunsTo.call (V:=U) 177 #[.slice Da (0+2+2+1) da, .int .u64 (((bitN x.output:Nat):Int)+2*((bitN x.queuing:Nat):Int)), .int .i64 1] ?_ ?_
    ·simp only [execOp]
     go_simp
    ·refine (rNum09_ok ([]++leB x.id.toNat 2++leB x.part.toNat 2++leB x.name.size 1) (0+2+2+1) _ _ (bitN x.output+2*bitN x.queuing) (((bitN x.output:Nat):Int)+2*((bitN x.queuing:Nat):Int)) (by omega) 1 1 rfl U (by omega) (by decide) (by decide) (own_slice hin).2).mono ?_
     rintro e V ⟨v,rfl,hv,hb⟩
     exact ⟨_,rfl,hb,SC.ofP rfl ⟨(fun _=>own_lessB hv hbl.size),(fun e=>by cases e),(fun e=>by cases e)⟩⟩
   |10,ho=>
    cases ho
    have q26:=((r2 {on:=9,ground:= .data} (by simp) rfl).got rfl).1 rfl
    obtain ⟨Dr,dr,hq,_,_,hrd⟩:=own_form q26
    have q26:ρ (.tmp (17+9))=_:=hq
    refine RunsTo.call (V:=U) 176 #[.slice Dr (0+2+2+1+1) dr, .int .i64 2] ?_ ?_
    ·simp only [execOp]
     go_simp
    ·refine (rPad09_ok ([]++leB x.id.toNat 2++leB x.part.toNat 2++leB x.name.size 1++leB (bitN x.output+2*bitN x.queuing) 1) (0+2+2+1+1) _ _ 2 2 rfl U (by decide) (by decide) hrd).mono ?_
     rintro e V ⟨v,rfl,hv,hb⟩
     exact ⟨_,rfl,hb,SC.ofP rfl ⟨(fun e=>by cases e),(fun _=>own_lessB hv hbl.size),(fun e=>by cases e)⟩⟩
   |11,ho=>
    cases ho
    have q27:=(r2 {on:=10,ground:= .data} (by simp) rfl).got rfl
    refine RunsTo.val (ρ (.tmp (17+10))) (V:=U) ?_ ⟨Below.refl _ _,SC.ofP rfl ⟨(fun e=>by cases e),(fun e=>by cases e),(fun _=>q27.2.1 rfl)⟩⟩
    simp only [execOp]
    go_simp
   |k+12,ho=>exact absurd ho (by simp)
  case hend=>
   intro u U hE hS
   have hx:=((hS 11 (by decide)).got rfl).2.2 rfl
   obtain ⟨Db,db,hq,_,_,_⟩:=own_form hx
   rw [hq] at hx
   have HOb:=Lib.hid hx
   have HBK:=Lib.hid hE.1
   have HBL:=Lib.hid hE.2.1
   clear hS hE hx
   simp only [mkL,mkAt,List.take_succ_cons,List.take_zero,List.drop_succ_cons,List.drop_zero,List.range,List.range.loop,List.map_cons,List.map_nil,List.cons_append,List.nil_append,List.setIfInBounds_toArray,List.set_cons_succ,List.set_cons_zero,hq]
   clear hq
   go_upto_region 3 with (fail)
   refine wp_region_H 28 9 2 _ rfl rfl rfl (by decide) (by kernel_rfl) (by kernel_rfl) (by kernel_rfl) (Nat.le_of_ble_eq_true (by kernel_rfl))
    [.slice Db (0+2+2+1+1+2) db, .pointer (some ⟨w.heap.size,5,none⟩), .int .u32 x.size, .int .u64 x.size,undef, .pointer (some ⟨w.heap.size,2,none⟩), .string x.name,undef,undef,undef]
    (fun i=>i==4||i==7||i==8||i==9) (by kernel_rfl) (fun i v U=>(i=4→U.ownsRow w.heap.size 5 1 v (0+2+2+1+1+2+4) (bytV ([]++leB x.id.toNat 2++leB x.part.toNat 2++leB x.name.size 1++leB (bitN x.output+2*bitN x.queuing) 1++zsB 2++leB x.size.toNat 4)))∧(i=7→U.ownsRow w.heap.size 5 1 v (0+2+2+1+1+2+4+30) (bytV ([]++leB x.id.toNat 2++leB x.part.toNat 2++leB x.name.size 1++leB (bitN x.output+2*bitN x.queuing) 1++zsB 2++leB x.size.toNat 4++strB x.name++zsB (30 -x.name.size))))∧(i=8→U.ownsRow w.heap.size 5 1 v (0+2+2+1+1+2+4+30+6) (bytV ([]++leB x.id.toNat 2++leB x.part.toNat 2++leB x.name.size 1++leB (bitN x.output+2*bitN x.queuing) 1++zsB 2++leB x.size.toNat 4++strB x.name++zsB (30 -x.name.size)++zsB 6)))∧(i=9→U.ownsRow w.heap.size 5 1 v (0+2+2+1+1+2+4+30+6) (bytV ([]++leB x.id.toNat 2++leB x.part.toNat 2++leB x.name.size 1++leB (bitN x.output+2*bitN x.queuing) 1++zsB 2++leB x.size.toNat 4++strB x.name++zsB (30 -x.name.size)++zsB 6)))) (fun U=>Blk U w.heap.size 85 #[.int .u16 x.id, .int .u16 x.part, .string x.name, .bool x.output, .bool x.queuing, .int .u32 x.size]∧Below w.heap.size w U∧U.ownsRow w.heap.size 5 1 (.slice Db (0+2+2+1+1+2) db) (0+2+2+1+1+2) (bytV ([]++leB x.id.toNat 2++leB x.part.toNat 2++leB x.name.size 1++leB (bitN x.output+2*bitN x.queuing) 1++zsB 2)))
    (⟨HBK.out.below (Below.refl _ _).drew HBK.out.lt,HBL.out.drew,own_below HOb.out (Below.refl _ _).drew⟩) (fun U V ⟨h1,h2,h3⟩ hb=>⟨h1.below hb h1.lt,Below.then_ h2 hb,own_below h3 hb⟩) (fun _ v U V _ hv hb=>⟨(fun e=>own_below (hv.1 e) hb),(fun e=>own_below (hv.2.1 e) hb),(fun e=>own_below (hv.2.2.1 e) hb),(fun e=>own_below (hv.2.2.2 e) hb)⟩) ?hun ?hop ?hend
   case hun=>
    intro i o ho
    match i,ho with
    |0,ho=>cases ho;intro h;cases h
    |1,ho=>cases ho;intro h;cases h
    |2,ho=>cases ho;intro h;cases h
    |3,ho=>cases ho;intro h;cases h
    |4,ho=>cases ho;intro h;cases h
    |5,ho=>cases ho;intro h;cases h
    |6,ho=>cases ho;intro h;cases h
    |7,ho=>cases ho;intro h;cases h
    |8,ho=>cases ho;intro h;cases h
    |9,ho=>cases ho;intro h;cases h
    |k+10,ho=>exact absurd ho (by simp)
   case hop=>
    intro i o ho hw U hE ρ r0 rf r1 r2
    obtain ⟨hbk,hbl,hin⟩:=hE
    have y0:=hbk.cell 0
    have y1:=hbk.cell 1
    have y2:=hbk.cell 2
    have y3:=hbk.cell 3
    have y4:=hbk.cell 4
    have y5:=hbk.cell 5
    have yz:=hbk.lt
    simp at y0 y1 y2 y3 y4 y5
    match i,ho with
    |0,ho=>
     cases ho
     have q3:=r1 3 (by decide) (by decide)
     refine RunsTo.val _ (V:=U) ?_ ⟨Below.refl _ _,SC.ofV rfl⟩
     simp only [execOp]
     go_simp
    |1,ho=>
     cases ho
     have q1:=r1 1 (by decide) (by decide)
     refine RunsTo.val _ (V:=U) ?_ ⟨Below.refl _ _,SC.ofV rfl⟩
     simp only [execOp]
     go_simp
    |2,ho=>
     cases ho
     have q29:ρ (.tmp (28+1))=_:=(r2 {on:=1,ground:= .data} (by simp) rfl).val rfl
     refine RunsTo.val _ (V:=U) ?_ ⟨Below.refl _ _,SC.ofV rfl⟩
     simp only [execOp]
     go_simp
    |3,ho=>
     cases ho
     have q30:ρ (.tmp (28+2))=_:=(r2 {on:=2,ground:= .data} (by simp) rfl).val rfl
     refine RunsTo.val _ (V:=U) ?_ ⟨Below.refl _ _,SC.ofV rfl⟩
     simp only [execOp]
     go_simp
    |4,ho=>
     cases ho
     have q28:ρ (.tmp (28+0))=_:=(r2 {on:=0,ground:= .data} (by simp) rfl).val rfl
     have q31:ρ (.tmp (28+3))=_:=(r2 {on:=3,ground:= .data} (by simp) rfl).val rfl
     refine RunsTo.call (V:=U) 177 #[.slice Db (0+2+2+1+1+2) db, .int .u64 (x.size), .int .i64 4] ?_ ?_
     ·simp only [execOp]
      go_simp
     ·refine (rNum09_ok ([]++leB x.id.toNat 2++leB x.part.toNat 2++leB x.name.size 1++leB (bitN x.output+2*bitN x.queuing) 1++zsB 2) (0+2+2+1+1+2) _ _ (x.size.toNat) (x.size) (by omega) 4 4 rfl U (by omega) (by decide) (by decide) (own_slice hin).2).mono ?_
      rintro e V ⟨v,rfl,hv,hb⟩
      exact ⟨_,rfl,hb,SC.ofP rfl ⟨(fun _=>own_lessB hv hbl.size),(fun e=>by cases e),(fun e=>by cases e),(fun e=>by cases e)⟩⟩
    |5,ho=>
     cases ho
     have q1:=r1 1 (by decide) (by decide)
     refine RunsTo.val _ (V:=U) ?_ ⟨Below.refl _ _,SC.ofV rfl⟩
     simp only [execOp]
     go_simp
    |6,ho=>
     cases ho
     have q33:ρ (.tmp (28+5))=_:=(r2 {on:=5,ground:= .data} (by simp) rfl).val rfl
     refine RunsTo.val _ (V:=U) ?_ ⟨Below.refl _ _,SC.ofV rfl⟩
     simp only [execOp]
     go_simp
    |7,ho=>
     cases ho
     have q32:=((r2 {on:=4,ground:= .data} (by simp) rfl).got rfl).1 rfl
     obtain ⟨Dr,dr,hq,_,_,hrd⟩:=own_form q32
     have q32:ρ (.tmp (28+4))=_:=hq
     have q34:ρ (.tmp (28+6))=_:=(r2 {on:=6,ground:= .data} (by simp) rfl).val rfl
     refine RunsTo.call (V:=U) 178 #[.slice Dr (0+2+2+1+1+2+4) dr, .string x.name] ?_ ?_
     ·simp only [execOp]
      go_simp
     ·refine (rText09_ok ([]++leB x.id.toNat 2++leB x.part.toNat 2++leB x.name.size 1++leB (bitN x.output+2*bitN x.queuing) 1++zsB 2++leB x.size.toNat 4) (0+2+2+1+1+2+4) _ _ x.name U hn30 (by decide) hrd).mono ?_
      rintro e V ⟨v,rfl,hv,hb⟩
      exact ⟨_,rfl,hb,SC.ofP rfl ⟨(fun e=>by cases e),(fun _=>own_lessB hv hbl.size),(fun e=>by cases e),(fun e=>by cases e)⟩⟩
    |8,ho=>
     cases ho
     have q35:=((r2 {on:=7,ground:= .data} (by simp) rfl).got rfl).2.1 rfl
     obtain ⟨Dr,dr,hq,_,_,hrd⟩:=own_form q35
     have q35:ρ (.tmp (28+7))=_:=hq
     refine RunsTo.call (V:=U) 176 #[.slice Dr (0+2+2+1+1+2+4+30) dr, .int .i64 6] ?_ ?_
     ·simp only [execOp]
      go_simp
     ·refine (rPad09_ok ([]++leB x.id.toNat 2++leB x.part.toNat 2++leB x.name.size 1++leB (bitN x.output+2*bitN x.queuing) 1++zsB 2++leB x.size.toNat 4++strB x.name++zsB (30 -x.name.size)) (0+2+2+1+1+2+4+30) _ _ 6 6 rfl U (by decide) (by decide) hrd).mono ?_
      rintro e V ⟨v,rfl,hv,hb⟩
      exact ⟨_,rfl,hb,SC.ofP rfl ⟨(fun e=>by cases e),(fun e=>by cases e),(fun _=>own_lessB hv hbl.size),(fun e=>by cases e)⟩⟩
    |9,ho=>
     cases ho
     have q36:=(r2 {on:=8,ground:= .data} (by simp) rfl).got rfl
     refine RunsTo.val (ρ (.tmp (28+8))) (V:=U) ?_ ⟨Below.refl _ _,SC.ofP rfl ⟨(fun e=>by cases e),(fun e=>by cases e),(fun e=>by cases e),(fun _=>q36.2.2.1 rfl)⟩⟩
     simp only [execOp]
     go_simp
    |k+10,ho=>exact absurd ho (by simp)
   case hend=>
    intro u U hE hS
    have hx:=((hS 9 (by decide)).got rfl).2.2.2 rfl
    obtain ⟨Dc,dc,hq,_,_,_⟩:=own_form hx
    rw [hq] at hx
    have HOc:=Lib.hid hx
    have HBK:=Lib.hid hE.1
    have HBL:=Lib.hid hE.2.1
    clear hS hE hx
    simp only [mkL,mkAt,List.take_succ_cons,List.take_zero,List.drop_succ_cons,List.drop_nil,List.range,List.range.loop,List.map_cons,List.map_nil,List.cons_append,List.nil_append,List.append_nil,List.setIfInBounds_toArray,List.set_cons_succ,List.set_cons_zero,hq]
    clear hq
    go_wp2
    go_ret
    refine ⟨_,rfl, ?_,HBL.out⟩
    have h:=HOc.out
    unfold prtB
    rw [HPD.out]
    simp only [List.append_assoc,List.nil_append] at h ⊢
    exact h
end Go.Proofs.YtcfoolooemhbeaaGreat
