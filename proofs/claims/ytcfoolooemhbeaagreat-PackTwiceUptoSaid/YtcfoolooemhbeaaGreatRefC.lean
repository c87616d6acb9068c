/-
  The reference of layer 2, walked: the checksum bit by bit, Seal and Sealed. Condition: at most 4194000 bytes.
-/
import Derived.BigQuiet
import Derived.Laws.BytesArg
import Derived.Test.YtcfoolooemhbeaaGreatCrcZ
namespace Go.Proofs.YtcfoolooemhbeaaGreat
open Go.RowKit
theorem rStep02_ok (r:Nat) (hr:r <4294967296) (W:World):Calls Tryz.prog 186 #[.int .u32 (r:Int)] W fun e w'=>e= .returned (.int .u32 ((stepN r:Nat):Int))∧w'=W:=by
 have hx:=u32_xor_nat (r/2) 3988292384 (by omega) (by decide)
 have e2:(((r/2:Nat)):Int)=(r:Int)/2:=by simp
 rw [e2] at hx
 rcases (show r%2=1∨r%2=0 by omega) with h |h
 ·have hm:(r:Int)%2=1:=by omega
  have HE:=Lib.hid (show r/2^^^3988292384=stepN r by unfold stepN;rw [if_pos h])
  clear h
  generalize r/2^^^3988292384=q at*
  go_enter Tryz.func186,Tryz.ntmps186
  go_wp2
  go_ret
  exact ⟨by rw [←HE.out];first |rfl |(rw [←hx];rfl),rfl⟩
 ·have hm:(r:Int)%2=0:=by omega
  have HE:=Lib.hid (show ((r/2:Nat):Int)=((stepN r:Nat):Int) by unfold stepN;rw [if_neg (by omega)])
  rw [e2] at HE
  clear h hx
  go_enter Tryz.func186,Tryz.ntmps186
  go_wp2
  go_ret
  exact ⟨by rw [←HE.out];rfl,rfl⟩
set_option maxRecDepth 100000 in
set_option maxHeartbeats 2000000 in
theorem rSum02_ok (l:List Nat) (n:Nat) (hn:n=l.length) (A:Option Addr) (c:Nat) (W:World) (hb:bytesOk l) (hl:n≤16777216) (hR:Rd W W.heap.size 1 A n (bytV l)):
  Calls Tryz.prog 140 #[.slice A n c] W fun e w'=>e= .returned (.int .u32 ((sumN l:Nat):Int))∧w'=W:=by
 have HB:=Lib.hid hb
 have HR:=Lib.hid hR
 have HN:=Lib.hid hn
 clear hb hR hn
 have HX:=Lib.hid (show bits .xor .u32 IntKind.u32.max ((feedN 4294967295 l:Nat):Int)=((sumN l:Nat):Int) by
  have h1:=u32_xor_nat 4294967295 (feedN 4294967295 l) (by decide) (feedN_lt l (by decide) HB.out)
  rw [Nat.xor_comm] at h1
  exact h1)
 go_enter Tryz.func140,Tryz.ntmps140
 go_wp2
 go_loopw [3,4] (fun q i wr=> ∃k:Nat,k≤n∧q= .int .u32 ((feedN 4294967295 (l.take k):Nat):Int)∧i= .int .i64 k∧wr=W) (fun _ i _=>n -(intOf i).toNat)
 case atStart=>exact ⟨0,Nat.zero_le _,rfl,rfl,rfl⟩
 case round=>
  obtain ⟨k,hk,rfl,rfl,rfl⟩:=hrel
  by_cases hlt:k <n
  ·obtain ⟨x,hx⟩:=get_lt (l:=l) (k:=k) (by rw [←HN.out];exact hlt)
   have hxb:x <256:=HB.out x (List.mem_of_getElem? hx)
   have hq:=feedN_lt (l.take k) (r:=4294967295) (by decide) (fun c hc=>HB.out c (List.mem_of_mem_take hc))
   have HE:=Lib.hid (show stepsN 8 (feedN 4294967295 (l.take k)^^^x)=feedN 4294967295 (l.take (k+1)) by rw [take_next hx,feedN_app];rfl)
   obtain ⟨b,o,rfl,hbb,hc⟩:=HR.out.2 (by omega)
   have g0:=hc k _ (bytV_at hx)
   have k0:(0:Int)≤(k:Int):=by omega
   have k1:(k:Int) <(n:Int):=by omega
   have hxx:=u32_xor_nat (feedN 4294967295 (l.take k)) x hq (by omega)
   have hlq:feedN 4294967295 (l.take k)^^^x <4294967296:=Nat.xor_lt_two_pow (n:=32) hq (by omega)
   have hwx:IntKind.u32.wrap (x:Int)=(x:Int):=by rw [IntKind.wrap_u32];omega
   have hwx2:(x:Int)%4294967296=(x:Int):=by omega
   clear hc hx
   generalize feedN 4294967295 (l.take k)=q at*
   generalize q^^^x=y at*
   generalize wr=wo at*
   go_wp2
   go_loopw [3,5] (fun q i wr=> ∃j:Nat,j≤8∧q= .int .u32 ((stepsN j y:Nat):Int)∧i= .int .i64 j∧wr=wo) (fun _ i _=>8 -(intOf i).toNat)
   case atStart=>exact ⟨0,Nat.zero_le _,rfl,rfl,rfl⟩
   case round=>
    obtain ⟨j,hj,rfl,rfl,rfl⟩:=hrel
    by_cases hjt:j <8
    ·have HS:=Lib.hid (rStep02_ok (stepsN j y) (stepsN_lt j hlq) wr)
     have HNX:=Lib.hid (stepsN_next j y)
     have j1:(j:Int) <8:=by omega
     generalize stepsN j y=z at*
     go_wp2_with fail
     refine HS.out.mono ?_
     rintro e w2 ⟨rfl,rfl⟩
     rw [←HNX.out]
     go_wp2
     go_roundw
     case rel=>exact ⟨j+1,by omega,by first |rfl |trivial |simp,by go_num,by first |rfl |trivial⟩
     case measure=>simp [intOf];omega
    ·obtain rfl:j=8:=by omega
     rw [HE.out]
     go_wp2
     go_roundw
     case rel=>exact ⟨k+1,by omega,by first |rfl |trivial |simp,by go_num,by first |rfl |trivial⟩
     case measure=>simp [intOf];omega
  ·obtain rfl:k=n:=by omega
   have HE:=Lib.hid (show l.take k=l by rw [HN.out];exact List.take_length)
   rw [HE.out]
   have hx:=HX.out
   generalize feedN 4294967295 l=q at*
   go_wp2
   go_ret
   exact ⟨rfl,rfl⟩
theorem own_zero8 (w:World):(w.alloc (.cells #[] 5)).ownsRow w.heap.size 5 1 (.slice (some ⟨w.heap.size,0,none⟩) 0 0) 0 (bytV []):=
 ⟨rfl, .inr ⟨w.heap.size,0,_,rfl,Nat.le_refl _,heap_alloc_new w _,Nat.le_refl _,by unfold maxLen;omega,rfl,rfl⟩⟩
set_option maxRecDepth 100000 in
set_option maxHeartbeats 2000000 in
theorem rSeal02_ok (l:List Nat) (n:Nat) (hn:n=l.length) (A:Option Addr) (c:Nat) (W:World) (hb:bytesOk l) (hl:n≤4194000) (hR:Rd W W.heap.size 1 A n (bytV l)):
  Calls Tryz.prog 76 #[.slice A n c] W fun e w'=> ∃v,e= .returned v∧w'.ownsRow W.heap.size 5 1 v (n+4) (bytV (sealN l))∧Below W.heap.size W w':=by
 obtain ⟨i0,hi,hz0,hz1,hz2⟩:=info_parts info_u8B
 have HS:=Lib.hid (rSum02_ok l n hn A c W hb (by omega) hR)
 have hs:=sumN_lt hb
 have HSN:=Lib.hid (show sealN l=l++leN (sumN l) from rfl)
 generalize sumN l=s at*
 have HE:=Lib.hid (show #[Value.int .u8 ((s:Int)%256), .int .u8 ((s:Int)/256%256), .int .u8 ((s:Int)/65536%256), .int .u8 ((s:Int)/16777216%256)]=(bytV (leN s)).toArray by simp [bytV,leN])
 have HRL:=Lib.hid (fun (U:World)=>show Rd (U.alloc (.cells #[Value.int .u8 ((s:Int)%256), .int .u8 ((s:Int)/256%256), .int .u8 ((s:Int)/65536%256), .int .u8 ((s:Int)/16777216%256)] 5)) (U.alloc (.cells #[Value.int .u8 ((s:Int)%256), .int .u8 ((s:Int)/256%256), .int .u8 ((s:Int)/65536%256), .int .u8 ((s:Int)/16777216%256)] 5)).heap.size 1 (some ⟨U.heap.size,0,none⟩) 4 (bytV (leN s)) by
  have:=rd_lit U #[Value.int .u8 ((s:Int)%256), .int .u8 ((s:Int)/256%256), .int .u8 ((s:Int)/65536%256), .int .u8 ((s:Int)/16777216%256)] 5 4 1 rfl
  rw [HE.out] at this ⊢
  exact this)
 obtain ⟨w1,hw1⟩: ∃w1,W.alloc (.cells #[] 5)=w1:=⟨_,rfl⟩
 have HO:=Lib.hid (show w1.ownsRow W.heap.size 5 1 (.slice (some ⟨W.heap.size,0,none⟩) 0 0) 0 (bytV []) by rw [←hw1];exact own_zero8 W)
 have HB:=Lib.hid (show Below W.heap.size W w1 by rw [←hw1];exact below_one _ _)
 have hz:W.heap.size≤w1.heap.size:=HB.out.size
 have HR:=Lib.hid (hR.below HB.out)
 have HW:=Lib.hid hw1
 clear hw1 hR hb hn hs
 go_enter Tryz.func76,Tryz.ntmps76
 go_wp2_with fail
 refine HS.out.mono ?_
 rintro e w2 ⟨rfl,rfl⟩
 go_wp2_with (rw [HW.out];at_builtin;go_loud (refine wpList_append_rd _ rfl (.tmp 6) (.tmp 7) _ rfl w2.heap.size 5 i0 (.int .u8 0) 1 1 Tryz.underlying32 hi hz0 hz1 hz2 rfl (by decide) _ 0 (bytV []) (by rfl) HO.out w2.heap.size A n c (bytV l) (by rfl) HR.out (bytV_one l) (by unfold maxLen;omega) (by omega) (by omega) ?_);intro v3 w3 ho3 hg3;go_wp2_with (at_builtin;go_loud (refine wpList_append_rd _ rfl (.tmp 8) (.tmp 20) _ rfl w2.heap.size 5 i0 (.int .u8 0) 1 1 Tryz.underlying32 hi hz0 hz1 hz2 rfl (by decide) _ (0+n) (bytV []++bytV l) (by rfl) (own_below ho3 (below_one w3 _)) _ (some ⟨w3.heap.size,0,none⟩) 4 4 (bytV (leN s)) (by rfl) (HRL.out w3) (bytV_one _) (by unfold maxLen;omega) (by omega) (by have:=hg3.size;simp;omega) ?_);intro v4 w4 ho4 hg4))
 have hbz:Below w2.heap.size w2 w4:=by
  have h1:=below_own HB.out hg3 HO.out hz
  have h2:=Below.then_ h1 (below_one w3 (.cells #[Value.int .u8 ((s:Int)%256), .int .u8 ((s:Int)/256%256), .int .u8 ((s:Int)/65536%256), .int .u8 ((s:Int)/16777216%256)] 5))
  exact below_own h2 hg4 (own_below ho3 (below_one w3 _)) (by have:=hg3.size;simp;omega)
 have HZ:=Lib.hid hbz
 have HO4:=Lib.hid ho4
 clear ho3 ho4 hg3 hg4 hbz
 go_wp2
 go_ret
 refine ⟨_,rfl, ?_,HZ.out⟩
 rw [HSN.out,bytV_app]
 have h:=HO4.out
 simpa [bytV] using h
def bytS (l:List Nat):ByteArray:=strOfNums (l.map fun c:Nat=>(c:Int))
theorem bytS_inj {l m:List Nat} (hl:bytesOk l) (hm:bytesOk m) (h:bytS l=bytS m):l=m:=by
 have h1:(bytS l).data.toList=(bytS m).data.toList:=by rw [h]
 unfold bytS at h1
 rw [strOfNums_data,strOfNums_data,List.map_map,List.map_map] at h1
 have e: ∀l:List Nat,bytesOk l→(l.map ((fun n:Int=>UInt8.ofNat n.toNat) ∘ fun c:Nat=>(c:Int))).map UInt8.toNat=l:=by
  intro l hl
  rw [List.map_map]
  conv=>rhs;rw [←List.map_id l]
  refine List.map_congr_left fun c hc=> ?_
  have:=hl c hc
  show (UInt8.ofNat ((c:Int).toNat)).toNat=c
  simp
  omega
 rw [←e l hl, ←e m hm,h1]
theorem conv_bytes (l:List Nat) (w:World) (B n c:Nat) (A:Option Addr) (h:Rd w B 1 A n (bytV l)) (hn:n=l.length) (h0:0 <n):(convert 32 9 (.slice A n c)).run Tryz.prog w= .ok (.string (bytS l)) w:=by
 obtain ⟨b,o,rfl,_,hc⟩:=h.2 h0
 refine run_convert_bytes_arg (P:=Tryz.prog) w 32 5 Tryz.underlying32 Tryz.underlying5 b o n c (l.map fun c:Nat=>(c:Int)) (by rw [List.length_map,hn]) (fun i hi=> ?_) 9 Tryz.underlying9
 have hl:i <l.length:=by omega
 have e:=hc i _ (bytV_at (List.getElem?_eq_getElem hl))
 rw [e]
 simp [List.getD,hl]
set_option maxRecDepth 100000 in
set_option maxHeartbeats 4000000 in
theorem rSealed02_ok (l:List Nat) (m:Nat) (hm:m=l.length) (A:Option Addr) (c:Nat) (w:World) (hb:bytesOk l) (hl:m≤4194000) (hc:m≤c) (hR:Rd w w.heap.size 1 A m (bytV l)) (v:Bool) (hv:Hid (sealedN l=v)):
  Calls Tryz.prog 24 #[.slice A m c] w fun e w'=>e= .returned (.bool v)∧Below w.heap.size w w':=by
 by_cases h4:4≤m
 rotate_left
 ·have HV:=Lib.hid (show v=false by
   rw [←hv.out];unfold sealedN
   rw [decide_eq_false (show ¬4≤l.length by omega)];rfl)
  have e1:IntKind.i64.wrap ((m:Int) -4)=(m:Int) -4:=by rw [IntKind.wrap_i64];omega
  have e2: ¬(0:Int)≤(m:Int) -4:=by omega
  have e4:(m:Int) <4:=by omega
  have e3:decide (0≤(m:Int) -4)=false:=decide_eq_false e2
  clear hR hm hb
  go_enter Tryz.func24,Tryz.ntmps24
  go_upto_region 2 with (fail)
  refine wp_region_H 7 12 2 _ rfl rfl rfl (by decide) (by kernel_rfl) (by kernel_rfl) (by kernel_rfl) (Nat.le_of_ble_eq_true (by kernel_rfl))
   [.int .i64 ((m:Int) -4), .bool false, .bool false,undef,undef,undef,undef,undef,undef,undef,undef, .bool false, .bool false]
   (fun _=>false) (by kernel_rfl) (fun _ _ _=>True) (fun U=>Below w.heap.size w U)
   ((Below.refl _ _).drew) (fun U V hU hb=>Below.then_ hU hb) (fun _ v U V _ hv hb=>trivial) ?hun ?hop ?hend
  case hun=>
   intro i o ho
   match i,ho with
   |0,ho=>cases ho;intro h;first |exact ⟨rfl,rfl⟩ |cases h
   |1,ho=>cases ho;intro h;first |exact ⟨rfl,rfl⟩ |cases h
   |2,ho=>cases ho;intro h;first |exact ⟨rfl,rfl⟩ |cases h
   |3,ho=>cases ho;intro h;first |exact ⟨rfl,rfl⟩ |cases h
   |4,ho=>cases ho;intro h;first |exact ⟨rfl,rfl⟩ |cases h
   |5,ho=>cases ho;intro h;first |exact ⟨rfl,rfl⟩ |cases h
   |6,ho=>cases ho;intro h;first |exact ⟨rfl,rfl⟩ |cases h
   |7,ho=>cases ho;intro h;first |exact ⟨rfl,rfl⟩ |cases h
   |8,ho=>cases ho;intro h;first |exact ⟨rfl,rfl⟩ |cases h
   |9,ho=>cases ho;intro h;first |exact ⟨rfl,rfl⟩ |cases h
   |10,ho=>cases ho;intro h;first |exact ⟨rfl,rfl⟩ |cases h
   |11,ho=>cases ho;intro h;first |exact ⟨rfl,rfl⟩ |cases h
   |12,ho=>cases ho;intro h;first |exact ⟨rfl,rfl⟩ |cases h
   |k+13,ho=>exact absurd ho (by simp)
  case hop=>
   intro i o ho hw U hE ρ r0 rf r1 r2
   match i,ho with
   |0,ho=>
    cases ho
    have q3:=r1 3 (by decide) (by decide)
    refine RunsTo.val _ (V:=U) ?_ ⟨Below.refl _ _,SC.ofV rfl⟩
    simp only [execOp]
    go_simp
   |1,ho=>
    cases ho
    have q7:ρ (.tmp 7)=_:=(r2 {on:=0,ground:= .data} (by simp) rfl).val rfl
    refine RunsTo.val _ (V:=U) ?_ ⟨Below.refl _ _,SC.ofV rfl⟩
    simp only [execOp]
    go_simp
   |2,ho=>
    cases ho
    have q8:ρ (.tmp 8)=_:=(r2 {on:=1,ground:= .data} (by simp) rfl).val rfl
    refine RunsTo.val _ (V:=U) ?_ ⟨Below.refl _ _,SC.ofV rfl⟩
    simp only [execOp]
    go_simp
   |3,ho=>
    cases ho;cases hw
   |4,ho=>
    cases ho;cases hw
   |5,ho=>
    cases ho;cases hw
   |6,ho=>
    cases ho;cases hw
   |7,ho=>
    cases ho;cases hw
   |8,ho=>
    cases ho;cases hw
   |9,ho=>
    cases ho;cases hw
   |10,ho=>
    cases ho;cases hw
   |11,ho=>
    cases ho
    have q9:ρ (.tmp 9)=_:=(r2 {on:=2,ground:= .data} (by simp) rfl).val rfl
    have q17:ρ (.tmp 17)=_:=(r2 {on:=10,ground:= .data} (by simp) rfl).val rfl
    refine RunsTo.val _ (V:=U) ?_ ⟨Below.refl _ _,SC.ofV rfl⟩
    simp only [execOp]
    go_simp
   |12,ho=>
    cases ho
    have q18:ρ (.tmp 18)=_:=(r2 {on:=11,ground:= .data} (by simp) rfl).val rfl
    refine RunsTo.val _ (V:=U) ?_ ⟨Below.refl _ _,SC.ofV rfl⟩
    simp only [execOp]
    go_simp
   |k+13,ho=>exact absurd ho (by simp)
  case hend=>
   intro u U hE hS
   have e:=(hS 12 (by decide)).val rfl
   clear hS
   simp only [mkL,mkAt,List.take_succ_cons,List.take_zero,List.drop_succ_cons,List.drop_nil,List.range,List.range.loop,List.map_cons,List.map_nil,List.cons_append,List.nil_append,List.append_nil,List.setIfInBounds_toArray,List.set_cons_succ,List.set_cons_zero,e]
   have HBU:=Lib.hid hE
   clear hE e
   go_wp2
   go_ret
   exact ⟨by rw [HV.out];rfl,HBU.out⟩
 ·obtain ⟨n,hn⟩: ∃n,m=n+4:=⟨m -4,by omega⟩
  obtain ⟨A1,k1,hr1,hd1,_,_⟩:=slice_pre u8s_elem u8s_size hR hc n (by omega)
  rw [bytV_take] at hd1
  have hlt:(l.take n).length=n:=by rw [List.length_take];omega
  have e1:IntKind.i64.wrap ((m:Int) -4)=(n:Int):=by rw [IntKind.wrap_i64];omega
  have e2:(0:Int)≤(n:Int):=by omega
  have e3:decide ((0:Int)≤(n:Int))=true:=decide_eq_true e2
  have hbt:=hb.take n
  have hbs:bytesOk (sealN (l.take n)):=bytesOk.app hbt (leN_byte _)
  have HV:=Lib.hid (show decide (bytS (sealN (l.take n))=bytS l)=v by
   rw [←hv.out];unfold sealedN
   rw [decide_eq_true (show 4≤l.length by omega),Bool.true_and,show l.length -4=n by omega]
   have e:(bytS (sealN (l.take n))=bytS l)↔leN (sumN (l.take n))=l.drop n:=by
    constructor
    ·intro h
     have h2:=bytS_inj hbs hb h
     unfold sealN at h2
     have h3:l.take n++leN (sumN (l.take n))=l.take n++l.drop n:=by rw [h2,List.take_append_drop]
     exact List.append_cancel_left h3
    ·intro h
     unfold sealN
     rw [h,List.take_append_drop]
   simp only [e])
  have HBT:=Lib.hid hbt
  have HD1:=Lib.hid hd1
  have HR:=Lib.hid hR
  have HLT:=Lib.hid hlt
  have HM:=Lib.hid hm
  have hnl:n≤4194000:=by omega
  have HM0:=Lib.hid (show 0 <m by omega)
  have HLS:=Lib.hid (show (sealN (l.take n)).length=n+4 by unfold sealN;rw [List.length_append,hlt,leN_len])
  clear hd1 hlt hR hb hbt hm hv hbs h4 hn
  generalize hs1:sealN (l.take n)=s1 at*
  have HS1:=Lib.hid hs1
  clear hs1
  generalize l.take n=l1 at*
  obtain ⟨sa,hsa⟩: ∃s,bytS s1=s:=⟨_,rfl⟩
  obtain ⟨sb,hsb⟩: ∃s,bytS l=s:=⟨_,rfl⟩
  rw [hsa,hsb] at HV
  have HSA:=Lib.hid hsa
  have HSB:=Lib.hid hsb
  clear hsa hsb
  go_enter Tryz.func24,Tryz.ntmps24
  go_upto_region 2 with (fail)
  refine wp_region_H 7 12 2 _ rfl rfl rfl (by decide) (by kernel_rfl) (by kernel_rfl) (by kernel_rfl) (Nat.le_of_ble_eq_true (by kernel_rfl))
   [.int .i64 n, .bool true, .bool true, .slice A m c, .int .i64 n, .slice A1 n k1,undef, .string sa, .slice A m c, .string sb, .bool v, .bool v, .bool v]
   (fun i=>i==6) (by kernel_rfl) (fun _ v U=>U.ownsRow w.heap.size 5 1 v (n+4) (bytV s1)) (fun U=>Below w.heap.size w U)
   ((Below.refl _ _).drew) (fun U V hU hb=>Below.then_ hU hb) (fun _ v U V _ hv hb=>own_below hv hb) ?hun ?hop ?hend
  case hun=>
   intro i o ho
   match i,ho with
   |0,ho=>cases ho;intro h;first |exact ⟨rfl,rfl⟩ |cases h
   |1,ho=>cases ho;intro h;first |exact ⟨rfl,rfl⟩ |cases h
   |2,ho=>cases ho;intro h;first |exact ⟨rfl,rfl⟩ |cases h
   |3,ho=>cases ho;intro h;first |exact ⟨rfl,rfl⟩ |cases h
   |4,ho=>cases ho;intro h;first |exact ⟨rfl,rfl⟩ |cases h
   |5,ho=>cases ho;intro h;first |exact ⟨rfl,rfl⟩ |cases h
   |6,ho=>cases ho;intro h;first |exact ⟨rfl,rfl⟩ |cases h
   |7,ho=>cases ho;intro h;first |exact ⟨rfl,rfl⟩ |cases h
   |8,ho=>cases ho;intro h;first |exact ⟨rfl,rfl⟩ |cases h
   |9,ho=>cases ho;intro h;first |exact ⟨rfl,rfl⟩ |cases h
   |10,ho=>cases ho;intro h;first |exact ⟨rfl,rfl⟩ |cases h
   |11,ho=>cases ho;intro h;first |exact ⟨rfl,rfl⟩ |cases h
   |12,ho=>cases ho;intro h;first |exact ⟨rfl,rfl⟩ |cases h
   |k+13,ho=>exact absurd ho (by simp)
  case hop=>
   intro i o ho hw U hE ρ r0 rf r1 r2
   match i,ho with
   |0,ho=>
    cases ho
    have q3:=r1 3 (by decide) (by decide)
    refine RunsTo.val _ (V:=U) ?_ ⟨Below.refl _ _,SC.ofV rfl⟩
    simp only [execOp]
    go_simp
   |1,ho=>
    cases ho
    have q7:ρ (.tmp 7)=_:=(r2 {on:=0,ground:= .data} (by simp) rfl).val rfl
    refine RunsTo.val _ (V:=U) ?_ ⟨Below.refl _ _,SC.ofV rfl⟩
    simp only [execOp]
    go_simp
   |2,ho=>
    cases ho
    have q8:ρ (.tmp 8)=_:=(r2 {on:=1,ground:= .data} (by simp) rfl).val rfl
    refine RunsTo.val _ (V:=U) ?_ ⟨Below.refl _ _,SC.ofV rfl⟩
    simp only [execOp]
    go_simp
   |3,ho=>
    cases ho
    have q0:=r1 0 (by decide) (by decide)
    refine RunsTo.val _ (V:=U) ?_ ⟨Below.refl _ _,SC.ofV rfl⟩
    simp only [execOp]
    go_simp
   |4,ho=>
    cases ho
    have q3:=r1 3 (by decide) (by decide)
    refine RunsTo.val _ (V:=U) ?_ ⟨Below.refl _ _,SC.ofV rfl⟩
    simp only [execOp]
    go_simp
   |5,ho=>
    cases ho
    have q10:ρ (.tmp 10)=_:=(r2 {on:=3,ground:= .data} (by simp) rfl).val rfl
    have q11:ρ (.tmp 11)=_:=(r2 {on:=4,ground:= .data} (by simp) rfl).val rfl
    refine RunsTo.val _ (V:=U) ?_ ⟨Below.refl _ _,SC.ofV rfl⟩
    simp only [execOp]
    go_simp
   |6,ho=>
    cases ho
    have q12:ρ (.tmp 12)=_:=(r2 {on:=5,ground:= .data} (by simp) rfl).val rfl
    refine RunsTo.call (V:=U) 76 #[.slice A1 n k1] ?_ ?_
    ·clear hr1
     simp only [execOp]
     go_simp
    ·refine (rSeal02_ok l1 n HLT.out.symm A1 k1 U HBT.out (by omega) (HD1.out.up hE)).mono ?_
     rintro e V ⟨v3,rfl,ho,hb⟩
     rw [HS1.out] at ho
     exact ⟨_,rfl,hb,SC.ofP rfl (own_lessB ho hE.size)⟩
   |7,ho=>
    cases ho
    have q13:=(r2 {on:=6,ground:= .data} (by simp) rfl).got rfl
    obtain ⟨D,dd,hq,_,_,hrd⟩:=own_form q13
    have q13:ρ (.tmp 13)=_:=hq
    have hcv:=conv_bytes s1 U _ (n+4) dd D hrd HLS.out.symm (by omega)
    rw [HSA.out] at hcv
    refine RunsTo.val _ (V:=U) ?_ ⟨Below.refl _ _,SC.ofV rfl⟩
    clear hr1
    simp only [execOp]
    go_simp
   |8,ho=>
    cases ho
    have q0:=r1 0 (by decide) (by decide)
    refine RunsTo.val _ (V:=U) ?_ ⟨Below.refl _ _,SC.ofV rfl⟩
    simp only [execOp]
    go_simp
   |9,ho=>
    cases ho
    have q15:ρ (.tmp 15)=_:=(r2 {on:=8,ground:= .data} (by simp) rfl).val rfl
    have hcv:=conv_bytes l U _ m c A (HR.out.up hE) HM.out HM0.out
    rw [HSB.out] at hcv
    refine RunsTo.val _ (V:=U) ?_ ⟨Below.refl _ _,SC.ofV rfl⟩
    clear hr1
    simp only [execOp]
    go_simp
   |10,ho=>
    cases ho
    have q14:ρ (.tmp 14)=_:=(r2 {on:=7,ground:= .data} (by simp) rfl).val rfl
    have q16:ρ (.tmp 16)=_:=(r2 {on:=9,ground:= .data} (by simp) rfl).val rfl
    refine RunsTo.val (.bool (decide (sa=sb))) (V:=U) ?_ ⟨Below.refl _ _,by rw [HV.out];exact SC.ofV rfl⟩
    clear hr1
    simp only [execOp]
    go_simp
    rw [←beq_toListBytes]
    rw [Bool.eq_iff_iff,decide_eq_true_iff]
    refine ⟨fun e=>beqb_true e,fun e=> ?_⟩
    rw [e,beq_toListBytes]
    exact beq_self_eq_true _
   |11,ho=>
    cases ho
    have q9:ρ (.tmp 9)=_:=(r2 {on:=2,ground:= .data} (by simp) rfl).val rfl
    have q17:ρ (.tmp 17)=_:=(r2 {on:=10,ground:= .data} (by simp) rfl).val rfl
    refine RunsTo.val _ (V:=U) ?_ ⟨Below.refl _ _,SC.ofV rfl⟩
    simp only [execOp]
    go_simp
   |12,ho=>
    cases ho
    have q18:ρ (.tmp 18)=_:=(r2 {on:=11,ground:= .data} (by simp) rfl).val rfl
    refine RunsTo.val _ (V:=U) ?_ ⟨Below.refl _ _,SC.ofV rfl⟩
    simp only [execOp]
    go_simp
   |k+13,ho=>exact absurd ho (by simp)
  case hend=>
   intro u U hE hS
   have e:=(hS 12 (by decide)).val rfl
   clear hS
   simp only [mkL,mkAt,List.take_succ_cons,List.take_zero,List.drop_succ_cons,List.drop_nil,List.range,List.range.loop,List.map_cons,List.map_nil,List.cons_append,List.nil_append,List.append_nil,List.setIfInBounds_toArray,List.set_cons_succ,List.set_cons_zero,e]
   have HBU:=Lib.hid hE
   clear hE e hr1
   go_wp2
   go_ret
   exact ⟨rfl,HBU.out⟩
end Go.Proofs.YtcfoolooemhbeaaGreat
