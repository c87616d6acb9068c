/-
  Sealed of package crc, walked. Condition: at most 4194000 bytes.
-/
import Derived.BigQuiet
import Derived.Test.YtcfoolooemhbeaaGreatCrcA
import Derived.Test.YtcfoolooemhbeaaGreatSliceP
import Derived.Test.YtcfoolooemhbeaaGreatInvZ
namespace Go.Proofs.YtcfoolooemhbeaaGreat
open Go.RowKit
theorem u8s_elem:Tryz.prog.underlying 32=some (.slice (Tryz.prog.elem 32)):=by kernel_rfl
theorem info_u8e:(Tryz.prog.info? (Tryz.prog.elem 32)).map (fun i=>(i.zero,i.size,i.bytes))=some (some (.int .u8 0),1,1):=by kernel_rfl
theorem u8s_size (w:World):(sizeOf (Tryz.prog.elem 32)).run Tryz.prog w= .ok 1 w:=by
 obtain ⟨i0,hi,hz0,hz1,hz2⟩:=info_parts info_u8e
 exact run_sizeOf hi hz1 w
theorem bytV_take (l:List Nat) (m:Nat):(bytV l).take (m*1)=bytV (l.take m):=by unfold bytV;rw [Nat.mul_one,List.map_take]
theorem bytV_drop (l:List Nat) (m:Nat):(bytV l).drop (m*1)=bytV (l.drop m):=by unfold bytV;rw [Nat.mul_one,List.map_drop]
theorem bytesOk.take {l:List Nat} (h:bytesOk l) (m:Nat):bytesOk (l.take m):=fun c hc=>h c (List.mem_of_mem_take hc)
theorem bytesOk.drop {l:List Nat} (h:bytesOk l) (m:Nat):bytesOk (l.drop m):=fun c hc=>h c (List.mem_of_mem_drop hc)
set_option maxRecDepth 100000 in
set_option maxHeartbeats 4000000 in
theorem crcSealed_ok (l:List Nat) (m:Nat) (hm:m=l.length) (A:Option Addr) (c:Nat) (w:World) (hb:bytesOk l) (hl:m≤4194000) (hc:m≤c) (hR:Rd w w.heap.size 1 A m (bytV l)) (v:Bool) (hv:Hid (sealedN l=v)):
  Calls Tryz.prog 23 #[.slice A m c] w fun e w'=>e= .returned (.bool v)∧Below w.heap.size w w':=by
 by_cases h4:4≤m
 rotate_left
 ·have HV:=Lib.hid (show v=false by
   rw [←hv.out];unfold sealedN
   rw [decide_eq_false (show ¬4≤l.length by omega)];rfl)
  have e1:IntKind.i64.wrap ((m:Int) -4)=(m:Int) -4:=by rw [IntKind.wrap_i64];omega
  have e2: ¬(0:Int)≤(m:Int) -4:=by omega
  have e4:(m:Int) <4:=by omega
  skip
  have e3:decide (0≤(m:Int) -4)=false:=decide_eq_false e2
  skip
  clear hR hm hb
  go_enter Tryz.func23,Tryz.ntmps23
  go_upto_region 2 with (fail)
  refine wp_region_H 7 14 2 _ rfl rfl rfl (by decide) (by kernel_rfl) (by kernel_rfl) (by kernel_rfl) (Nat.le_of_ble_eq_true (by kernel_rfl))
   [.int .i64 ((m:Int) -4), .bool false, .bool false,undef,undef,undef,undef,undef,undef,undef,undef,undef,undef, .bool false, .bool false]
   (fun _=>false) (by kernel_rfl) (fun _ _ _=>True) (fun U=>Below w.heap.size w U)
   ((Below.refl _ _).drew) (fun U V hU hb=>Below.then_ hU hb) (fun _ v U V _ hv hb=>trivial) ?hun ?hop ?hend
  case hun=>
   intro i o ho
   match i,ho with
   |0,ho=>cases ho;intro h;first |exact ⟨rfl,rfl⟩ |cases h
   |1,ho=>cases ho;intro h;first |exact ⟨rfl,rfl⟩ |cases h
   |2,ho=>cases ho;intro h;first |exact ⟨rfl,rfl⟩ |cases h
   |3,ho=>cases ho;intro h;first |exact ⟨rfl,rfl⟩ |cases h
   |4,ho=>cases ho;intro h;first |exact ⟨rfl,rfl⟩ |cases h
   |5,ho=>cases ho;intro h;first |exact ⟨rfl,rfl⟩ |cases h
   |6,ho=>cases ho;intro h;first |exact ⟨rfl,rfl⟩ |cases h
   |7,ho=>cases ho;intro h;first |exact ⟨rfl,rfl⟩ |cases h
   |8,ho=>cases ho;intro h;first |exact ⟨rfl,rfl⟩ |cases h
   |9,ho=>cases ho;intro h;first |exact ⟨rfl,rfl⟩ |cases h
   |10,ho=>cases ho;intro h;first |exact ⟨rfl,rfl⟩ |cases h
   |11,ho=>cases ho;intro h;first |exact ⟨rfl,rfl⟩ |cases h
   |12,ho=>cases ho;intro h;first |exact ⟨rfl,rfl⟩ |cases h
   |13,ho=>cases ho;intro h;first |exact ⟨rfl,rfl⟩ |cases h
   |14,ho=>cases ho;intro h;first |exact ⟨rfl,rfl⟩ |cases h
   |k+15,ho=>exact absurd ho (by simp)
  case hop=>
   intro i o ho hw U hE ρ r0 rf r1 r2
   match i,ho with
   |0,ho=>
    cases ho
    have q3:=r1 3 (by decide) (by decide)
    refine RunsTo.val _ (V:=U) ?_ ⟨Below.refl _ _,SC.ofV rfl⟩
    simp only [execOp]
    go_simp
   |1,ho=>
    cases ho
    have q7:ρ (.tmp 7)=_:=(r2 {on:=0,ground:= .data} (by simp) rfl).val rfl
    refine RunsTo.val _ (V:=U) ?_ ⟨Below.refl _ _,SC.ofV rfl⟩
    simp only [execOp]
    go_simp
   |2,ho=>
    cases ho
    have q8:ρ (.tmp 8)=_:=(r2 {on:=1,ground:= .data} (by simp) rfl).val rfl
    refine RunsTo.val _ (V:=U) ?_ ⟨Below.refl _ _,SC.ofV rfl⟩
    simp only [execOp]
    go_simp
   |3,ho=>
    cases ho;cases hw
   |4,ho=>
    cases ho;cases hw
   |5,ho=>
    cases ho;cases hw
   |6,ho=>
    cases ho;cases hw
   |7,ho=>
    cases ho;cases hw
   |8,ho=>
    cases ho;cases hw
   |9,ho=>
    cases ho;cases hw
   |10,ho=>
    cases ho;cases hw
   |11,ho=>
    cases ho;cases hw
   |12,ho=>
    cases ho;cases hw
   |13,ho=>
    cases ho
    have q9:ρ (.tmp 9)=_:=(r2 {on:=2,ground:= .data} (by simp) rfl).val rfl
    have q19:ρ (.tmp 19)=_:=(r2 {on:=12,ground:= .data} (by simp) rfl).val rfl
    refine RunsTo.val _ (V:=U) ?_ ⟨Below.refl _ _,SC.ofV rfl⟩
    simp only [execOp]
    go_simp
   |14,ho=>
    cases ho
    have q20:ρ (.tmp 20)=_:=(r2 {on:=13,ground:= .data} (by simp) rfl).val rfl
    refine RunsTo.val _ (V:=U) ?_ ⟨Below.refl _ _,SC.ofV rfl⟩
    simp only [execOp]
    go_simp
   |k+15,ho=>exact absurd ho (by simp)
  case hend=>
   intro u U hE hS
   have e:=(hS 14 (by decide)).val rfl
   clear hS
   simp only [mkL,mkAt,List.take_succ_cons,List.take_zero,List.drop_succ_cons,List.drop_nil,List.range,List.range.loop,List.map_cons,List.map_nil,List.cons_append,List.nil_append,List.append_nil,List.setIfInBounds_toArray,List.set_cons_succ,List.set_cons_zero,e]
   have HBU:=Lib.hid hE
   clear hE e
   go_wp2
   go_ret
   exact ⟨by rw [HV.out];rfl,HBU.out⟩
 ·obtain ⟨n,hn⟩: ∃n,m=n+4:=⟨m -4,by omega⟩
  obtain ⟨A1,k1,hr1,hd1,_,_⟩:=slice_pre u8s_elem u8s_size hR hc n (by omega)
  obtain ⟨A2,k2,hr2,hd2,_,_⟩:=slice_suf u8s_elem u8s_size hR hc n (by omega)
  rw [bytV_take] at hd1
  rw [bytV_drop] at hd2
  have hlt:(l.take n).length=n:=by rw [List.length_take];omega
  have hld:(l.drop n).length=4:=by rw [List.length_drop];omega
  have hm4:m -n=4:=by omega
  rw [hm4] at hr2 hd2
  have e1:IntKind.i64.wrap ((m:Int) -4)=(n:Int):=by rw [IntKind.wrap_i64];omega
  have e2:(0:Int)≤(n:Int):=by omega
  have e3:decide ((0:Int)≤(n:Int))=true:=decide_eq_true e2
  have HV:=Lib.hid (show decide (leN (sumN (l.take n))=l.drop n)=v by
   rw [←hv.out];unfold sealedN
   rw [decide_eq_true (show 4≤l.length by omega),Bool.true_and,show l.length -4=n by omega])
  have hbt:=hb.take n
  have HSL:=Lib.hid (sumN_lt hbt)
  have HBT:=Lib.hid hbt
  have HD1:=Lib.hid hd1
  have HD2:=Lib.hid hd2
  have HLT:=Lib.hid hlt
  have HLD:=Lib.hid hld
  have hnl:n≤4194000:=by omega
  clear hd1 hd2 hlt hld hR hb hbt hm hv hm4 hl h4 hn
  generalize hs:sumN (l.take n)=s at*
  have HSS:=Lib.hid hs
  clear hs
  generalize l.take n=l1 at*
  generalize l.drop n=l2 at*
  go_enter Tryz.func23,Tryz.ntmps23
  go_upto_region 2 with (fail)
  refine wp_region_H 7 14 2 _ rfl rfl rfl (by decide) (by kernel_rfl) (by kernel_rfl) (by kernel_rfl) (Nat.le_of_ble_eq_true (by kernel_rfl))
   [.int .i64 n, .bool true, .bool true, .slice A m c, .int .i64 n, .slice A1 n k1,undef, .int .u32 (s:Nat),undef, .slice A m c, .int .i64 n, .slice A2 4 k2, .bool v, .bool v, .bool v]
   (fun i=>i==6||i==8) (by kernel_rfl) (fun i v U=>(i=6→ ∃q,v= .slice (some ⟨q,0,none⟩) 1 1∧U.cell? ⟨q,0,none⟩=some (.slice A1 n k1)∧q <U.heap.size)∧(i=8→ ∃D d,v= .slice D 4 d∧Rd U U.heap.size 1 D 4 (bytV (leN s)))) (fun U=>Below w.heap.size w U)
   ((Below.refl _ _).drew) (fun U V hU hb=>Below.then_ hU hb) (fun _ v U V _ hv hb=>⟨fun e=>by obtain ⟨q,h1,h2,h3⟩:=hv.1 e;exact ⟨q,h1,(hb.cell (p:=⟨q,0,none⟩) h3).trans h2,Nat.lt_of_lt_of_le h3 hb.size⟩,fun e=>by obtain ⟨D,d,h1,h2⟩:=hv.2 e;exact ⟨D,d,h1,h2.up hb⟩⟩) ?hun ?hop ?hend
  case hun=>
   intro i o ho
   match i,ho with
   |0,ho=>cases ho;intro h;first |exact ⟨rfl,rfl⟩ |cases h
   |1,ho=>cases ho;intro h;first |exact ⟨rfl,rfl⟩ |cases h
   |2,ho=>cases ho;intro h;first |exact ⟨rfl,rfl⟩ |cases h
   |3,ho=>cases ho;intro h;first |exact ⟨rfl,rfl⟩ |cases h
   |4,ho=>cases ho;intro h;first |exact ⟨rfl,rfl⟩ |cases h
   |5,ho=>cases ho;intro h;first |exact ⟨rfl,rfl⟩ |cases h
   |6,ho=>cases ho;intro h;first |exact ⟨rfl,rfl⟩ |cases h
   |7,ho=>cases ho;intro h;first |exact ⟨rfl,rfl⟩ |cases h
   |8,ho=>cases ho;intro h;first |exact ⟨rfl,rfl⟩ |cases h
   |9,ho=>cases ho;intro h;first |exact ⟨rfl,rfl⟩ |cases h
   |10,ho=>cases ho;intro h;first |exact ⟨rfl,rfl⟩ |cases h
   |11,ho=>cases ho;intro h;first |exact ⟨rfl,rfl⟩ |cases h
   |12,ho=>cases ho;intro h;first |exact ⟨rfl,rfl⟩ |cases h
   |13,ho=>cases ho;intro h;first |exact ⟨rfl,rfl⟩ |cases h
   |14,ho=>cases ho;intro h;first |exact ⟨rfl,rfl⟩ |cases h
   |k+15,ho=>exact absurd ho (by simp)
  case hop=>
   intro i o ho hw U hE ρ r0 rf r1 r2
   match i,ho with
   |0,ho=>
    cases ho
    have q3:=r1 3 (by decide) (by decide)
    refine RunsTo.val _ (V:=U) ?_ ⟨Below.refl _ _,SC.ofV rfl⟩
    simp only [execOp]
    go_simp
   |1,ho=>
    cases ho
    have q7:ρ (.tmp 7)=_:=(r2 {on:=0,ground:= .data} (by simp) rfl).val rfl
    refine RunsTo.val _ (V:=U) ?_ ⟨Below.refl _ _,SC.ofV rfl⟩
    simp only [execOp]
    go_simp
   |2,ho=>
    cases ho
    have q8:ρ (.tmp 8)=_:=(r2 {on:=1,ground:= .data} (by simp) rfl).val rfl
    refine RunsTo.val _ (V:=U) ?_ ⟨Below.refl _ _,SC.ofV rfl⟩
    simp only [execOp]
    go_simp
   |3,ho=>
    cases ho
    have q0:=r1 0 (by decide) (by decide)
    refine RunsTo.val _ (V:=U) ?_ ⟨Below.refl _ _,SC.ofV rfl⟩
    simp only [execOp]
    go_simp
   |4,ho=>
    cases ho
    have q3:=r1 3 (by decide) (by decide)
    refine RunsTo.val _ (V:=U) ?_ ⟨Below.refl _ _,SC.ofV rfl⟩
    simp only [execOp]
    go_simp
   |5,ho=>
    cases ho
    have q10:ρ (.tmp 10)=_:=(r2 {on:=3,ground:= .data} (by simp) rfl).val rfl
    have q11:ρ (.tmp 11)=_:=(r2 {on:=4,ground:= .data} (by simp) rfl).val rfl
    refine RunsTo.val _ (V:=U) ?_ ⟨Below.refl _ _,SC.ofV rfl⟩
    simp only [execOp]
    go_simp
   |6,ho=>
    cases ho
    have q12:ρ (.tmp 12)=_:=(r2 {on:=5,ground:= .data} (by simp) rfl).val rfl
    refine RunsTo.val (.slice (some ⟨U.heap.size,0,none⟩) 1 1) (V:=U.alloc (.cells #[.slice A1 n k1] 32)) ?_ ⟨below_one _ _,SC.ofP rfl ⟨fun _=>⟨_,rfl,by simp,by simp⟩,fun e=>by cases e⟩⟩
    simp only [execOp]
    go_simp
   |7,ho=>
    cases ho
    have q13:=(r2 {on:=6,ground:= .data} (by simp) rfl).got rfl
    obtain ⟨q,h13,hq,hqz⟩:=q13.1 rfl
    have h13:ρ (.tmp 13)=_:=h13
    refine RunsTo.call (V:=U) 75 #[.slice (some ⟨q,0,none⟩) 1 1] ?_ ?_
    ·clear hr1 hr2
     simp only [execOp]
     go_simp
    ·have hn2:=HLT.out
     refine (crcSum_ok q l1 A1 k1 U (by rw [hn2];exact hq) hqz HBT.out (by rw [hn2];omega) (by rw [hn2];exact HD1.out.up hE)).mono ?_
     rintro e V ⟨rfl,hb⟩
     exact ⟨_,rfl,hb,by rw [HSS.out];exact SC.ofV rfl⟩
   |8,ho=>
    cases ho
    have q14:ρ (.tmp 14)=_:=(r2 {on:=7,ground:= .data} (by simp) rfl).val rfl
    refine RunsTo.call (V:=U) 74 #[.int .u32 (s:Nat)] ?_ ?_
    ·clear hr1 hr2
     simp only [execOp]
     go_simp
    ·refine (crcLittle_ok s HSL.out U).mono ?_
     rintro e V ⟨v3,rfl,ho,hb⟩
     obtain ⟨D,d,rfl,_,_,hrd⟩:=own_form ho
     exact ⟨_,rfl,hb,SC.ofP rfl ⟨(fun e=>by cases e),fun _=>⟨D,d,rfl,hrd⟩⟩⟩
   |9,ho=>
    cases ho
    have q0:=r1 0 (by decide) (by decide)
    refine RunsTo.val _ (V:=U) ?_ ⟨Below.refl _ _,SC.ofV rfl⟩
    simp only [execOp]
    go_simp
   |10,ho=>
    cases ho
    have q3:=r1 3 (by decide) (by decide)
    refine RunsTo.val _ (V:=U) ?_ ⟨Below.refl _ _,SC.ofV rfl⟩
    simp only [execOp]
    go_simp
   |11,ho=>
    cases ho
    have q16:ρ (.tmp 16)=_:=(r2 {on:=9,ground:= .data} (by simp) rfl).val rfl
    have q17:ρ (.tmp 17)=_:=(r2 {on:=10,ground:= .data} (by simp) rfl).val rfl
    refine RunsTo.val _ (V:=U) ?_ ⟨Below.refl _ _,SC.ofV rfl⟩
    simp only [execOp]
    go_simp
   |12,ho=>
    cases ho
    have q15:=(r2 {on:=8,ground:= .data} (by simp) rfl).got rfl
    have q18:ρ (.tmp 18)=_:=(r2 {on:=11,ground:= .data} (by simp) rfl).val rfl
    obtain ⟨D,d,h15,hq⟩:=q15.2 rfl
    have h15:ρ (.tmp 15)=_:=h15
    refine RunsTo.call (V:=U) 13 #[.slice D 4 d, .slice A2 4 k2] ?_ ?_
    ·clear hr1 hr2
     simp only [execOp]
     go_simp
    ·refine (eqByt_ok (leN s) l2 4 4 rfl HLD.out.symm D A2 d k2 U v HV (by omega) hq (HD2.out.up hE)).mono ?_
     rintro e V ⟨rfl,hb⟩
     exact ⟨_,rfl,hb,SC.ofV rfl⟩
   |13,ho=>
    cases ho
    have q9:ρ (.tmp 9)=_:=(r2 {on:=2,ground:= .data} (by simp) rfl).val rfl
    have q19:ρ (.tmp 19)=_:=(r2 {on:=12,ground:= .data} (by simp) rfl).val rfl
    refine RunsTo.val _ (V:=U) ?_ ⟨Below.refl _ _,SC.ofV rfl⟩
    simp only [execOp]
    go_simp
   |14,ho=>
    cases ho
    have q20:ρ (.tmp 20)=_:=(r2 {on:=13,ground:= .data} (by simp) rfl).val rfl
    refine RunsTo.val _ (V:=U) ?_ ⟨Below.refl _ _,SC.ofV rfl⟩
    simp only [execOp]
    go_simp
   |k+15,ho=>exact absurd ho (by simp)
  case hend=>
   intro u U hE hS
   have e:=(hS 14 (by decide)).val rfl
   clear hS
   simp only [mkL,mkAt,List.take_succ_cons,List.take_zero,List.drop_succ_cons,List.drop_nil,List.range,List.range.loop,List.map_cons,List.map_nil,List.cons_append,List.nil_append,List.append_nil,List.setIfInBounds_toArray,List.set_cons_succ,List.set_cons_zero,e]
   have HBU:=Lib.hid hE
   clear hE e hr1 hr2
   go_wp2
   go_ret
   exact ⟨rfl,HBU.out⟩
end Go.Proofs.YtcfoolooemhbeaaGreat
