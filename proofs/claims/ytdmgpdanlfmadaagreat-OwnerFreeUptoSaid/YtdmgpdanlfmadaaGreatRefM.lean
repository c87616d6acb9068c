/-
  Mul of two numbers and Align of the reference of layer 1, walked.
-/
import Derived.BigQuiet
import Derived.Test.YtdmgpdanlfmadaaGreatRefS
import Derived.Test.YtdmgpdanlfmadaaGreatOwnA
namespace Go.Proofs.YtdmgpdanlfmadaaGreat
open Go.RowKit
attribute [local go_sem] ext_cell
def mul2 (q b:Int):Int × Bool:=if q=0∨b=0 then (0,true) else if q*b≤topA then (q*b,true) else (0,false)
theorem two_at {w:World} {B:Nat} {A:Option Addr} {x y:Value} (h:Rd w B 1 A 2 [x,y]): ∃b o,A=some ⟨b,o,none⟩∧b <B∧w.cell? ⟨b,o,none⟩=some x∧w.cell? ⟨b,o+1,none⟩=some y:=by
 obtain ⟨b,o,e,hb,hc⟩:=h.2 (by omega)
 exact ⟨b,o,e,hb,by simpa using hc 0 x rfl,by simpa using hc 1 y rfl⟩
theorem rd_pair (w:World) (x y:Int):Rd (w.alloc (.cells #[.int .u64 x, .int .u64 y] 22)) (w.alloc (.cells #[.int .u64 x, .int .u64 y] 22)).heap.size 1 (some ⟨w.heap.size,0,none⟩) 2 [.int .u64 x, .int .u64 y]:=by
 refine ⟨rfl,fun _=>⟨_,_,rfl,by simp,fun j u hu=> ?_⟩⟩
 have:=World.news_of_block (heap_alloc_new w (.cells #[.int .u64 x, .int .u64 y] 22)) j u (by simpa using hu)
 rwa [addr_add] at this
set_option maxRecDepth 100000 in
set_option maxHeartbeats 8000000 in
theorem rMul2_ok (q b:Int) (A:Option Addr) (w:World) (q0:0≤q) (q1:q≤18446744073709551615) (b0:0≤b) (b1:b≤18446744073709551615) (hR:Rd w w.heap.size 1 A 2 [.int .u64 q, .int .u64 b]) (v:Int) (ok:Bool) (hv:Hid (mul2 q b=(v,ok))):
  Calls Tryz.prog 77 #[.slice A 2 2] w fun e w'=>e= .returned (.tuple #[.int .u64 v, .bool ok])∧Below w.heap.size w w':=by
 have HR:=Lib.hid hR
 clear hR
 go_enter Tryz.func77,Tryz.ntmps77
 go_wp2
 go_loopw [4] (fun i wr=>((i= .int .i64 0)∨(i= .int .i64 1∧ ¬q=0)∨(i= .int .i64 2∧ ¬q=0∧ ¬b=0))∧Hid (Below w.heap.size w wr)) (fun i _=>2 -(intOf i).toNat)
 case atStart=>exact ⟨.inl rfl,Lib.hid (Below.refl _ _)⟩
 case round=>
  obtain ⟨hi,HB⟩:=hrel
  obtain ⟨bb,oo,rfl,hbb,g0,g1⟩:=two_at (HR.out.up HB.out)
  rcases hi with rfl |⟨rfl,h1⟩ |⟨rfl,h1,h2⟩
  ·by_cases hq:q=0
   ·have HV:=Lib.hid (show v=0∧ok=true from by
     have:=hv.out
     unfold mul2 at this
     rw [if_pos (.inl hq)] at this
     injection this with h3 h4
     exact ⟨h3.symm,h4.symm⟩)
    go_wp2
    go_ret2
    exact ⟨by rw [HV.out.1,HV.out.2];rfl,HB.out⟩
   ·go_wp2
    go_roundw
    case rel=>exact ⟨.inr (.inl ⟨by go_num,hq⟩),HB⟩
    case measure=>simp [intOf]
  ·by_cases hq:b=0
   ·have HV:=Lib.hid (show v=0∧ok=true from by
     have:=hv.out
     unfold mul2 at this
     rw [if_pos (.inr hq)] at this
     injection this with h3 h4
     exact ⟨h3.symm,h4.symm⟩)
    go_wp2
    go_ret2
    exact ⟨by rw [HV.out.1,HV.out.2];rfl,HB.out⟩
   ·go_wp2
    go_roundw
    case rel=>exact ⟨.inr (.inr ⟨by go_num,h1,hq⟩),HB⟩
    case measure=>simp [intOf]
  ·clear g0 g1 hbb
   have hq0:0 <q:=by omega
   have hb0:0 <b:=by omega
   have HV:=Lib.hid (show mul2 q b=if q*b≤18446744073709551615 then (q*b,true) else (0,false) from by
    unfold mul2
    rw [if_neg (by omega)]
    rfl)
   obtain ⟨d,hd⟩: ∃d,(18446744073709551615:Int)/q=d:=⟨_,rfl⟩
   obtain ⟨d2,hd2⟩: ∃d,(18446744073709551615:Int)/b=d:=⟨_,rfl⟩
   have ht:(18446744073709551615:Int).tdiv q=d:=by rw [←hd];exact Int.tdiv_eq_ediv_of_nonneg (by omega)
   have ht2:(18446744073709551615:Int).tdiv b=d2:=by rw [←hd2];exact Int.tdiv_eq_ediv_of_nonneg (by omega)
   have hd1:1≤d:=by rw [←hd];exact (Int.le_ediv_iff_mul_le hq0).2 (by omega)
   have hdt:d≤18446744073709551615:=by rw [←hd];exact Int.ediv_le_self _ (by omega)
   have hdt2:d2≤18446744073709551615:=by rw [←hd2];exact Int.ediv_le_self _ (by omega)
   have hd20:0≤d2:=by rw [←hd2];exact Int.ediv_nonneg (by omega) (by omega)
   have HIF:=Lib.hid (show q≤d2↔q*b≤18446744073709551615 from by rw [←hd2];exact Int.le_ediv_iff_mul_le hb0)
   have hw1:IntKind.u64.wrap d=d:=by rw [IntKind.wrap_u64];omega
   have hw2:IntKind.u64.wrap d2=d2:=by rw [IntKind.wrap_u64];omega
   have hw3:IntKind.u64.wrap q=q:=by rw [IntKind.wrap_u64];omega
   have HRr:=Lib.hid (HR.out.up HB.out)
   clear hd hd2
   go_wp2
   go_loopw [5,6] (fun p i w2=>((i= .int .i64 0∧p= .int .u64 1)∨(i= .int .i64 1∧p= .int .u64 q)∨(i= .int .i64 2∧p= .int .u64 (q*b)∧q*b≤18446744073709551615))∧Hid (Below w.heap.size w w2)) (fun _ i _=>2 -(intOf i).toNat)
   case atStart=>exact ⟨.inl ⟨rfl,rfl⟩,HB⟩
   case round=>
    obtain ⟨hi,HB2⟩:=hrel
    obtain ⟨b2,o2,e2,hb2,g0,g1⟩:=two_at (HR.out.up HB2.out)
    obtain ⟨rfl,rfl⟩:bb=b2∧oo=o2:=by simpa using e2
    clear e2
    rcases hi with ⟨rfl,rfl⟩ |⟨rfl,rfl⟩ |⟨rfl,rfl,h3⟩
    ·go_wp2
     refine wp_region_ext (by kernel_rfl) (by kernel_rfl) ?_
     repeat (go_big_quiet_step ((go_at_call 76;exact Calls.quiet_ext (rTop_ok _))))
     refine wpQuiet_nil ?_
     intro xq
     have HB3:=Lib.hid (Below.then_ HB2.out (ext_below _ xq))
     clear g0 g1 hb2
     generalize ext wr xq=W4 at*
     obtain ⟨b3,o3,e3,hb3,g0,g1⟩:=two_at (HR.out.up HB3.out)
     obtain ⟨rfl,rfl⟩:bb=b3∧oo=o3:=by simpa using e3
     clear e3
     have hlt: ¬d <1:=by omega
     go_wp2
     go_roundw
     case rel=>exact ⟨.inr (.inl ⟨by go_num,rfl⟩),HB3⟩
     case measure=>simp [intOf]
    ·by_cases hqd:q≤d2
     ·have h3:=HIF.out.1 hqd
      have h4:0≤q*b:=Int.mul_nonneg q0 b0
      have hw4:IntKind.u64.wrap (q*b)=q*b:=by rw [IntKind.wrap_u64];omega
      have hlt: ¬d2 <q:=by omega
      have H3:=Lib.hid h3
      clear hqd h3 h4
      go_wp2
      refine wp_region_ext (by kernel_rfl) (by kernel_rfl) ?_
      repeat (go_big_quiet_step ((go_at_call 76;exact Calls.quiet_ext (rTop_ok _))))
      refine wpQuiet_nil ?_
      intro xq
      have HB3:=Lib.hid (Below.then_ HB2.out (ext_below _ xq))
      clear g0 g1 hb2
      generalize ext wr xq=W4 at*
      obtain ⟨b3,o3,e3,hb3,g0,g1⟩:=two_at (HR.out.up HB3.out)
      obtain ⟨rfl,rfl⟩:bb=b3∧oo=o3:=by simpa using e3
      clear e3
      go_wp2
      go_roundw
      case rel=>exact ⟨.inr (.inr ⟨by go_num,rfl,H3.out⟩),HB3⟩
      case measure=>simp [intOf]
     ·have hlt:d2 <q:=by omega
      have HV3:=Lib.hid (show v=0∧ok=false from by
       have:=hv.out
       rw [HV.out,if_neg (fun h=>hqd (HIF.out.2 h))] at this
       injection this with h3 h4
       exact ⟨h3.symm,h4.symm⟩)
      clear hqd
      go_wp2
      refine wp_region_ext (by kernel_rfl) (by kernel_rfl) ?_
      repeat (go_big_quiet_step ((go_at_call 76;exact Calls.quiet_ext (rTop_ok _))))
      refine wpQuiet_nil ?_
      intro xq
      have HB3:=Lib.hid (Below.then_ HB2.out (ext_below _ xq))
      clear g0 g1 hb2
      generalize ext wr xq=W4 at*
      go_wp2
      go_ret2
      exact ⟨by rw [HV3.out.1,HV3.out.2];rfl,HB3.out⟩
    ·have HV2:=Lib.hid (show v=q*b∧ok=true from by
      have:=hv.out
      rw [HV.out,if_pos h3] at this
      injection this with h3 h4
      exact ⟨h3.symm,h4.symm⟩)
     go_wp2
     go_ret2
     exact ⟨by rw [HV2.out.1,HV2.out.2];rfl,HB2.out⟩
theorem align_zero {x b:Int} (hx1:x≤topA) (hb:0 <b) (hm:x%b=0):mul2 (x/b) b=alignV x b:=by
 have h1:x/b*b=x:=by have:=Int.ediv_mul_add_emod x b;omega
 unfold mul2 alignV
 rw [if_neg (show ¬b=0 by omega),if_pos hm]
 by_cases h:x/b=0
 ·rw [if_pos (.inl h)]
  rw [h] at h1
  have:x=0:=by omega
  rw [this]
 ·rw [if_neg (by omega),h1,if_pos hx1]
theorem align_some {x b:Int} (hx:0≤x) (hb:0 <b) (hm: ¬x%b=0):mul2 (x/b+1) b=alignV x b:=by
 have h1:x/b*b+x%b=x:=Int.ediv_mul_add_emod x b
 have h2:(x/b+1)*b=x+(b -x%b):=by rw [Int.add_mul];omega
 have h3:0≤x/b:=Int.ediv_nonneg hx (by omega)
 unfold mul2 alignV
 rw [if_neg (show ¬b=0 by omega),if_neg hm,if_neg (by omega),h2]
set_option maxRecDepth 100000 in
set_option maxHeartbeats 4000000 in
theorem rAlign_ok (x b:Int) (w:World) (hx:0≤x) (hx2:x≤18446744073709551615) (hb:0≤b) (hb2:b≤18446744073709551615) (v:Int) (ok:Bool) (hv:Hid (alignV x b=(v,ok))):
  Calls Tryz.prog 33 #[.int .u64 x, .int .u64 b] w fun e w'=>e= .returned (.tuple #[.int .u64 v, .bool ok])∧Below w.heap.size w w':=by
 by_cases h0:b=0
 ·subst h0
  have HV:=Lib.hid (show v=0∧ok=false from by
   have:=hv.out
   unfold alignV at this
   rw [if_pos rfl] at this
   injection this with h3 h4
   exact ⟨h3.symm,h4.symm⟩)
  go_enter Tryz.func33,Tryz.ntmps33
  go_wp2
  go_ret2
  exact ⟨by rw [HV.out.1,HV.out.2];rfl,Below.refl _ _⟩
 ·have hbp:0 <b:=by omega
  have hm0:=Int.emod_nonneg x h0
  have hm1:=Int.emod_lt_of_pos x hbp
  have ht:x.tmod b=x%b:=Int.tmod_eq_emod_of_nonneg hx
  have hd:x.tdiv b=x/b:=Int.tdiv_eq_ediv_of_nonneg hx
  have hq0:0≤x/b:=Int.ediv_nonneg hx hb
  have hq1:x/b≤x:=Int.ediv_le_self _ hx
  have HZ:=Lib.hid (fun hm=>align_zero (x:=x) (b:=b) (show x≤topA by unfold topA;omega) hbp hm)
  have HS:=Lib.hid (fun hm=>align_some (x:=x) (b:=b) hx hbp hm)
  have HQT:=Lib.hid (show ¬x%b=0→x/b+1≤18446744073709551615 from fun hm=>by
   have hb3:2≤b:=by
    rcases Int.lt_or_le b 2 with h |h
    ·have:b=1:=by omega
     subst this
     omega
    ·exact h
   have:=Int.ediv_lt_of_lt_mul (a:=x) (b:=18446744073709551615) hbp (by omega)
   omega)
  obtain ⟨m,hm⟩: ∃m,x%b=m:=⟨_,rfl⟩
  obtain ⟨q,hq⟩: ∃q,x/b=q:=⟨_,rfl⟩
  rw [hm] at hm0 hm1 ht HZ HS HQT
  rw [hq] at hd hq0 hq1 HZ HS HQT
  have hw:IntKind.u64.wrap m=m:=by rw [IntKind.wrap_u64];omega
  have hw1:IntKind.u64.wrap q=q:=by rw [IntKind.wrap_u64];omega
  have hq2:q≤18446744073709551615:=by omega
  clear hm hq
  by_cases h1:m=0
  ·have HM:=Lib.hid ((HZ.out h1).trans hv.out)
   subst h1
   have hbl:=below_one w (.cells #[.int .u64 q, .int .u64 b] 22)
   have hrd:=rd_pair w q b
   go_enter Tryz.func33,Tryz.ntmps33
   go_wp2_with fail
   refine (rMul2_ok q b _ _ hq0 hq2 hb hb2 hrd v ok HM).mono ?_
   rintro e w2 ⟨rfl,hb9⟩
   have HB:=Lib.hid (Below.then_ hbl hb9)
   clear hb9 hbl hrd
   go_wp2
   go_ret2
   exact ⟨rfl,HB.out⟩
  ·have HM:=Lib.hid ((HS.out h1).trans hv.out)
   have hq3:=HQT.out h1
   have hmp:0 <m:=by omega
   have hne: ¬q=18446744073709551615:=by omega
   have hw2:IntKind.u64.wrap (q+1)=q+1:=by rw [IntKind.wrap_u64];omega
   have hq4:0≤q+1:=by omega
   go_enter Tryz.func33,Tryz.ntmps33
   go_wp2_with fail
   refine (rTop_ok _).mono ?_
   rintro e w2 ⟨rfl,hb2⟩
   have hbl:=Below.then_ hb2 (below_one w2 (.cells #[.int .u64 (q+1), .int .u64 b] 22))
   have hrd:=rd_pair w2 (q+1) b
   clear hb2
   go_wp2_with fail
   refine (rMul2_ok (q+1) b _ _ hq4 hq3 hb (by omega) hrd v ok HM).mono ?_
   rintro e w3 ⟨rfl,hb9⟩
   have HB:=Lib.hid (Below.then_ hbl hb9)
   clear hb9 hbl hrd
   go_wp2
   go_ret2
   exact ⟨rfl,HB.out⟩
end Go.Proofs.YtdmgpdanlfmadaaGreat
