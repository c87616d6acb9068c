/-
  The references of layers 3 and 9 that write bytes, walked: Append, num, pad, bit, text. Condition: at most 4194304 bytes.
-/
import Derived.BigQuiet
import Derived.Lib.AppendStr
import Derived.Test.YtcfoolooemhbeaaGreatRefC
namespace Go.Proofs.YtcfoolooemhbeaaGreat
open Go.RowKit
section
variable {P:Program} (w:World)
theorem run_append_none (t tn ty e:TypeId) (i:TypeInfo) (kq kn:IntKind) (ht:P.underlying t=some (.slice e)) (htn:P.underlying tn=some (.int kn)) (hi:P.info? e=some i) (hb1:i.bytes=1)
  (A:Option Addr) (n cap:Nat) (hn:n≤cap):
  (Builtin.append_ #[t,tn] ty #[.slice A n cap, .int kq 0]).run P w= .ok (.slice A n cap) w:=by
 have hw:IntKind.i64.wrap (0:Int)=0:=by rw [IntKind.wrap_i64];omega
 cases A<;>simp [Builtin.append_,run_underlying ht,run_underlying htn,sizeOf,typeInfo,hi,hb1,asInt,asIntOf,hw,hn,storeCells]
theorem run_append_zerosB (base:Nat) (t tn ty e:TypeId) (i:TypeInfo) (z:Value) (kq kn:IntKind) (ht:P.underlying t=some (.slice e)) (htn:P.underlying tn=some (.int kn)) (hi:P.info? e=some i) (hz:i.zero=some z) (hs1:i.size=1) (hb1:i.bytes=1) (hzc:z.cells= #[z]) (hz1:z.oneCell'=true)
  (v:Value) (n:Nat) (xs:List Value) (hown:w.ownsRow base e 1 v n xs) (k:Nat) (h63:n+k≤16777216) (hbase:base≤w.heap.size):
  ∃v' w',(Builtin.append_ #[t,tn] ty #[v, .int kq k]).run P w= .ok v' w'∧w'.ownsRow base e 1 v' (n+k) (xs++List.replicate k z)∧w.grownBy w' v.ownBlock:=by
 rcases Nat.eq_zero_or_pos k with rfl |hk
 ·obtain ⟨A,c,rfl,hc,_⟩:=own_form hown
  refine ⟨_,w,run_append_none w t tn ty e i kq kn ht htn hi hb1 A n c hc, ?_,⟨rfl,rfl,rfl,Nat.le_refl _,fun _ _ _=>rfl⟩⟩
  simpa using hown
 ·exact run_append_own_zeros w base t tn ty e i z kq kn ht htn hi hz hs1 hb1 hzc hz1 v n xs hown k hk h63 hbase
theorem wpList_append_zerosB {ops:Array Oper} {rest:List Oper} {o:Oper} {a:Act} {Q:Exit→Act→World→Prop} (hgd:o.guard=none) (s x:Operand) (t tn:TypeId)
  (ho:o.op= .call {callee:= .builtin .append,args:= #[s,x],argTypes:= #[t,tn]})
  (base:Nat) (e:TypeId) (i:TypeInfo) (z:Value) (kq kn:IntKind) (ht:P.underlying t=some (.slice e)) (htn:P.underlying tn=some (.int kn)) (hi:P.info? e=some i) (hz:i.zero=some z) (hs1:i.size=1) (hb1:i.bytes=1) (hzc:z.cells= #[z]) (hz1:z.oneCell'=true)
  (v:Value) (n:Nat) (xs:List Value) (hs:a.eval s=v) (hown:w.ownsRow base e 1 v n xs) (k:Nat) (hx:a.eval x= .int kq k) (h63:n+k≤16777216) (hbase:base≤w.heap.size)
  (h: ∀v' w',w'.ownsRow base e 1 v' (n+k) (xs++List.replicate k z)→w.grownBy w' v.ownBlock→wpList P ops Q rest (a.put o.dst v') w'):wpList P ops Q (o::rest) a w:=by
 refine wpList_plain hgd fun K hK=> ?_
 obtain ⟨v',w',hr,h2,h3⟩:=run_append_zerosB (P:=P) w base t tn o.type e i z kq kn ht htn hi hz hs1 hb1 hzc hz1 v n xs hown k h63 hbase
 unfold Oper.wp execOp
 simp only [ho,resolve,invoke,builtin,Sem.run_bind,Sem.run_pure,Result.andThen_ok,List.map_toArray,List.map_cons,List.map_nil,hs,hx,hr]
 exact hK _ _ (h v' w' h2 h3)
end
theorem bytV_zs (k:Nat):bytV (zsB k)=List.replicate k (.int .u8 0):=by unfold bytV zsB;rw [List.map_replicate];rfl
theorem strV (s:ByteArray):Lib.strCells s=bytV (strB s):=by
 unfold Lib.strCells bytV strB
 rw [List.map_map]
 rfl
theorem one_byte (w:World) (c:Int):Rd (w.alloc (.cells #[.int .u8 c] 5)) (w.alloc (.cells #[.int .u8 c] 5)).heap.size 1 (some ⟨w.heap.size,0,none⟩) 1 [.int .u8 c]:=rd_lit w #[.int .u8 c] 5 1 1 rfl
set_option maxRecDepth 100000 in
set_option maxHeartbeats 2000000 in
theorem rApp03_ok (l:List Nat) (n:Nat) (A:Option Addr) (c:Nat) (x:Nat) (xi:Int) (hxi:xi=(x:Int)) (k:Nat) (ki:Int) (hki:ki=(k:Int)) (W:World) (hx:x <18446744073709551616) (hk:k≤8) (hl:n≤4194304) (hR:Rd W W.heap.size 1 A n (bytV l)):
  Calls Tryz.prog 175 #[.slice A n c, .int .u64 xi, .int .i64 ki] W fun e w'=> ∃v,e= .returned v∧w'.ownsRow W.heap.size 5 1 v (n+k) (bytV (l++leB x k))∧Below W.heap.size W w':=by
 subst hxi hki
 obtain ⟨i0,hi,hz0,hz1,hz2⟩:=info_parts info_u8B
 obtain ⟨w1,hw1⟩: ∃w1,W.alloc (.cells #[] 5)=w1:=⟨_,rfl⟩
 have HO:=Lib.hid (show w1.ownsRow W.heap.size 5 1 (.slice (some ⟨W.heap.size,0,none⟩) 0 0) 0 (bytV []) by rw [←hw1];exact own_zero8 W)
 have HB:=Lib.hid (show Below W.heap.size W w1 by rw [←hw1];exact below_one _ _)
 have hz:W.heap.size≤w1.heap.size:=HB.out.size
 have HR:=Lib.hid (hR.up HB.out)
 have HW:=Lib.hid hw1
 clear hw1 hR
 go_enter Tryz.func175,Tryz.ntmps175
 go_upto_region 2 with (rw [HW.out];at_builtin;go_loud (refine wpList_append_rd _ rfl (.tmp 9) (.tmp 10) _ rfl W.heap.size 5 i0 (.int .u8 0) 1 1 Tryz.underlying32 hi hz0 hz1 hz2 rfl (by decide) _ 0 (bytV []) (by rfl) HO.out w1.heap.size A n c (bytV l) (by rfl) HR.out (bytV_one l) (by unfold maxLen;omega) (by omega) hz ?_);intro v2 w2 ho2 hg2)
 have HO2:=Lib.hid (show w2.ownsRow W.heap.size 5 1 v2 n (bytV l) by rw [Nat.zero_add] at ho2;exact ho2)
 have HB2:=Lib.hid (below_own HB.out hg2 HO.out hz)
 clear ho2 hg2 HO HR HW hz HB
 go_wp2
 go_loopw [1,7,8] (fun q v i wr=> ∃j:Nat,j≤k∧i= .int .i64 j∧q= .int .u64 ((x/256^j:Nat):Int)∧Hid (wr.ownsRow W.heap.size 5 1 v (n+j) (bytV (l++(leB x k).take j)))∧Hid (Below W.heap.size W wr)) (fun _ _ i _=>k -(intOf i).toNat)
 case atStart=>exact ⟨0,Nat.zero_le _,rfl,by simp,Lib.hid (by simpa using HO2.out),HB2⟩
 case round=>
  obtain ⟨j,hj,rfl,rfl,HO,HB⟩:=hrel
  by_cases hlt:j <k
  ·have HNX:=Lib.hid (show l++(leB x k).take (j+1)=(l++(leB x k).take j)++ [x/256^j%256] by
    rw [leB_take hlt,show 2^(8*j)=256^j by rw [show (256:Nat)=2^8 by rfl, ←Nat.pow_mul],List.append_assoc])
   have HQ:=Lib.hid (show x/256^(j+1)=x/256^j/256 by rw [Nat.pow_succ,Nat.div_div_eq_div_mul])
   generalize l++(leB x k).take j=m at*
   have hqx:x/256^j <18446744073709551616:=Nat.lt_of_le_of_lt (Nat.div_le_self _ _) hx
   generalize x/256^j=q at*
   have HQX:=Lib.hid hqx
   clear hqx
   have hWs:W.heap.size≤wr.heap.size:=HB.out.size
   have hju:(j:Int) <(k:Int):=by omega
   have HO3:=Lib.hid (own_below HO.out (below_one wr (.cells #[.int .u8 ((q:Int)%256)] 5)))
   go_upto_region 6 with (at_builtin;go_loud (refine wpList_append_rd _ rfl (.tmp 17) (.tmp 20) _ rfl W.heap.size 5 i0 (.int .u8 0) 1 1 Tryz.underlying32 hi hz0 hz1 hz2 rfl (by decide) _ (n+j) (bytV m) (by rfl) HO3.out _ (some ⟨wr.heap.size,0,none⟩) 1 1 [.int .u8 ((q:Int)%256)] (by rfl) (one_byte wr _) (by intro u hu;simp at hu;subst hu;rfl) (by unfold maxLen;omega) (by omega) (by simp;omega) ?_);intro v4 w4 ho4 hg4)
   have HB4:=Lib.hid (below_own (Below.then_ HB.out (below_one wr (.cells #[.int .u8 ((q:Int)%256)] 5))) hg4 HO3.out (by simp;omega))
   have HO4:=Lib.hid (show w4.ownsRow W.heap.size 5 1 v4 (n+(j+1)) (bytV (m++ [q%256])) by
    rw [bytV_app, ←Nat.add_assoc]
    have e:bytV [q%256]= [Value.int .u8 ((q:Int)%256)]:=by simp [bytV]
    rw [e]
    exact ho4)
   clear ho4 hg4 HO HO3 HB
   go_wp2
   go_roundw
   case rel=>exact ⟨j+1,by omega,by go_num,by rw [HQ.out,IntKind.wrap_u64];have:=HQX.out;congr 1;omega,Lib.hid (by rw [HNX.out];exact HO4.out),HB4⟩
   case measure=>simp [intOf];omega
  ·obtain rfl:j=k:=by omega
   have HE:=Lib.hid (show (leB x j).take j=leB x j from List.take_of_length_le (by rw [leB_len];exact Nat.le_refl _))
   go_wp2
   go_ret
   exact ⟨_,rfl,by have:=HO.out;rw [HE.out] at this;exact this,HB.out⟩
theorem rNum09_ok (l:List Nat) (n:Nat) (A:Option Addr) (c:Nat) (x:Nat) (xi:Int) (hxi:xi=(x:Int)) (k:Nat) (ki:Int) (hki:ki=(k:Int)) (W:World) (hx:x <18446744073709551616) (hk:k≤8) (hl:n≤4194304) (hR:Rd W W.heap.size 1 A n (bytV l)):
  Calls Tryz.prog 177 #[.slice A n c, .int .u64 xi, .int .i64 ki] W fun e w'=> ∃v,e= .returned v∧w'.ownsRow W.heap.size 5 1 v (n+k) (bytV (l++leB x k))∧Below W.heap.size W w':=by
 have HA:=Lib.hid (rApp03_ok l n A c x xi hxi k ki hki W hx hk hl hR)
 clear hxi hki hR
 go_enter Tryz.func177,Tryz.ntmps177
 go_wp2_with fail
 refine HA.out.mono ?_
 rintro e w1 ⟨v,rfl,ho,hb⟩
 have HO:=Lib.hid ho
 have HB:=Lib.hid hb
 clear ho hb
 go_wp2
 go_ret
 exact ⟨_,rfl,HO.out,HB.out⟩
set_option maxRecDepth 100000 in
set_option maxHeartbeats 1000000 in
theorem rPad09_ok (l:List Nat) (n:Nat) (A:Option Addr) (c:Nat) (k:Nat) (ki:Int) (hki:ki=(k:Int)) (W:World) (hk:k≤4194304) (hl:n≤4194304) (hR:Rd W W.heap.size 1 A n (bytV l)):
  Calls Tryz.prog 176 #[.slice A n c, .int .i64 ki] W fun e w'=> ∃v,e= .returned v∧w'.ownsRow W.heap.size 5 1 v (n+k) (bytV (l++zsB k))∧Below W.heap.size W w':=by
 subst hki
 obtain ⟨i0,hi,hz0,hz1,hz2⟩:=info_parts info_u8B
 obtain ⟨w1,hw1⟩: ∃w1,W.alloc (.cells #[] 5)=w1:=⟨_,rfl⟩
 have HO:=Lib.hid (show w1.ownsRow W.heap.size 5 1 (.slice (some ⟨W.heap.size,0,none⟩) 0 0) 0 (bytV []) by rw [←hw1];exact own_zero8 W)
 have HB:=Lib.hid (show Below W.heap.size W w1 by rw [←hw1];exact below_one _ _)
 have hz:W.heap.size≤w1.heap.size:=HB.out.size
 have HR:=Lib.hid (hR.up HB.out)
 have HW:=Lib.hid hw1
 clear hw1 hR
 go_enter Tryz.func176,Tryz.ntmps176
 go_wp2_with (rw [HW.out];at_builtin;go_loud (refine wpList_append_rd _ rfl (.tmp 5) (.tmp 6) _ rfl W.heap.size 5 i0 (.int .u8 0) 1 1 Tryz.underlying32 hi hz0 hz1 hz2 rfl (by decide) _ 0 (bytV []) (by rfl) HO.out w1.heap.size A n c (bytV l) (by rfl) HR.out (bytV_one l) (by unfold maxLen;omega) (by omega) hz ?_);intro v2 w2 ho2 hg2;go_wp2_with (at_builtin;go_loud (refine wpList_append_zerosB _ rfl (.tmp 7) (.tmp 8) _ _ rfl W.heap.size 5 i0 (.int .u8 0) .i64 .i64 Tryz.underlying32 Tryz.underlying3 hi hz0 hz1 hz2 rfl rfl _ (0+n) (bytV []++bytV l) (by rfl) ho2 k (by rfl) (by omega) (by have:=hg2.size;omega) ?_);intro v3 w3 ho3 hg3))
 have h2:=below_own HB.out hg2 HO.out hz
 have HZ:=Lib.hid (below_own h2 hg3 ho2 (by have:=hg2.size;omega))
 have HO3:=Lib.hid ho3
 clear ho2 hg2 ho3 hg3 h2
 go_wp2
 go_ret
 refine ⟨_,rfl, ?_,HZ.out⟩
 have h:=HO3.out
 rw [Nat.zero_add] at h
 rw [bytV_app,bytV_zs]
 exact h
theorem rBit09_ok (b:Bool) (W:World):Calls Tryz.prog 179 #[.bool b] W fun e w'=>e= .returned (.int .u64 (bitN b:Nat))∧w'=W:=by
 cases b
 all_goals
  go_enter Tryz.func179,Tryz.ntmps179
  go_wp2
  go_ret
  exact ⟨rfl,rfl⟩
set_option maxRecDepth 100000 in
set_option maxHeartbeats 1000000 in
theorem rText09_ok (l:List Nat) (n:Nat) (A:Option Addr) (c:Nat) (s:ByteArray) (W:World) (hs:s.size≤30) (hl:n≤4194000) (hR:Rd W W.heap.size 1 A n (bytV l)):
  Calls Tryz.prog 178 #[.slice A n c, .string s] W fun e w'=> ∃v,e= .returned v∧w'.ownsRow W.heap.size 5 1 v (n+30) (bytV (l++strB s++zsB (30 -s.size)))∧Below W.heap.size W w':=by
 obtain ⟨i0,hi,hz0,hz1,hz2⟩:=info_parts info_u8B
 obtain ⟨w1,hw1⟩: ∃w1,W.alloc (.cells #[] 5)=w1:=⟨_,rfl⟩
 have HO:=Lib.hid (show w1.ownsRow W.heap.size 5 1 (.slice (some ⟨W.heap.size,0,none⟩) 0 0) 0 (bytV []) by rw [←hw1];exact own_zero8 W)
 have HB:=Lib.hid (show Below W.heap.size W w1 by rw [←hw1];exact below_one _ _)
 have hz:W.heap.size≤w1.heap.size:=HB.out.size
 have HR:=Lib.hid (hR.up HB.out)
 have HW:=Lib.hid hw1
 have e30:IntKind.i64.wrap (30 -(s.size:Int))=((30 -s.size:Nat):Int):=by rw [IntKind.wrap_i64];omega
 obtain ⟨k,hk⟩: ∃k,30 -s.size=k:=⟨_,rfl⟩
 have hks:s.size+k=30:=by omega
 have HK:=Lib.hid hk
 rw [hk] at e30
 clear hw1 hR hk
 go_enter Tryz.func178,Tryz.ntmps178
 go_wp2_with (rw [HW.out];at_builtin;go_loud (refine wpList_append_rd _ rfl (.tmp 5) (.tmp 6) _ rfl W.heap.size 5 i0 (.int .u8 0) 1 1 Tryz.underlying32 hi hz0 hz1 hz2 rfl (by decide) _ 0 (bytV []) (by rfl) HO.out w1.heap.size A n c (bytV l) (by rfl) HR.out (bytV_one l) (by unfold maxLen;omega) (by omega) hz ?_);intro v2 w2 ho2 hg2;go_wp2_with (at_builtin;go_loud (refine Lib.wpList_append_own_string _ rfl (.tmp 7) (.tmp 8) _ _ rfl W.heap.size 5 i0 Tryz.underlying32 Tryz.underlying9 hi hz0 hz1 hz2 _ (0+n) (bytV []++bytV l) (by rfl) ho2 s (by rfl) (by unfold maxLen;omega) (by omega) (by have:=hg2.size;omega) ?_);intro v3 w3 ho3 hg3 _;obtain ⟨D3,e3,rfl,_,_,hr3⟩:=own_form ho3))
 have h2:=below_own HB.out hg2 HO.out hz
 have HB3:=Lib.hid (below_own h2 hg3 ho2 (by have:=hg2.size;omega))
 have hzz:W.heap.size≤w3.heap.size:=HB3.out.size
 have HR3:=Lib.hid (show Rd w3 w3.heap.size 1 D3 (n+s.size) (bytV (l++strB s)) by rw [Nat.zero_add] at hr3;rw [bytV_app, ←strV];exact hr3)
 clear ho2 hg2 ho3 hg3 h2 hr3
 go_wp2_with fail
 refine (rPad09_ok (l++strB s) (n+s.size) D3 e3 k k rfl w3 (by omega) (by omega) HR3.out).mono ?_
 rintro e w4 ⟨v,rfl,ho,hb⟩
 have HO4:=Lib.hid (own_lessB ho hzz)
 have HZ:=Lib.hid (Below.then_ HB3.out hb)
 clear ho hb
 go_wp2
 go_ret
 refine ⟨_,rfl, ?_,HZ.out⟩
 have h:=HO4.out
 rw [HK.out]
 rw [show n+s.size+k=n+30 by omega] at h
 exact h
end Go.Proofs.YtcfoolooemhbeaaGreat
