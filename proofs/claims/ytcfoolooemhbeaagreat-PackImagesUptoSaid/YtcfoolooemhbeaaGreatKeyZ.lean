/-
  less of the reference of layer 5, walked: one list of numbers comes before another one.
-/
import Derived.BigQuiet
import Derived.Test.YtcfoolooemhbeaaGreatNrmP
import Derived.Test.YtcfoolooemhbeaaGreatCore
import Derived.Deep.RegionHeld3
import Derived.OpenShut
import Derived.Deep.AppendLies
import Derived.Test.YtcfoolooemhbeaaGreatEqZ
namespace Go.Proofs.YtcfoolooemhbeaaGreat
open Go.RowKit
attribute [local go_sem] ext_cell
def lessL (l m:List Int):Bool:=decide (cmpL l m <0)
theorem less_lt {l m:List Int} {k:Nat} {x y:Int} (hs:cmpL l m=cmpL (l.drop k) (m.drop k)) (hx:l[k]? =some x) (hy:m[k]? =some y) (h:x <y):lessL l m=true:=by
 unfold lessL
 rw [hs,drop_cons hx,drop_cons hy,cmpL_cons,ci_lt h]
 rfl
theorem less_gt {l m:List Int} {k:Nat} {x y:Int} (hs:cmpL l m=cmpL (l.drop k) (m.drop k)) (hx:l[k]? =some x) (hy:m[k]? =some y) (h:y <x):lessL l m=false:=by
 unfold lessL
 rw [hs,drop_cons hx,drop_cons hy,cmpL_cons,ci_gt h]
 rfl
theorem less_next {l m:List Int} {k:Nat} {x:Int} (hs:cmpL l m=cmpL (l.drop k) (m.drop k)) (hx:l[k]? =some x) (hy:m[k]? =some x):cmpL l m=cmpL (l.drop (k+1)) (m.drop (k+1)):=by
 rw [hs,drop_cons hx,drop_cons hy,cmpL_cons,ci_eq,if_pos rfl]
theorem less_end {l m:List Int} {k:Nat} (hs:cmpL l m=cmpL (l.drop k) (m.drop k)) (hk:k≤l.length) (hj:k≤m.length) (h:k=l.length∨k=m.length):lessL l m=decide (l.length <m.length):=by
 unfold lessL
 rw [hs]
 by_cases h1:k=l.length
 ·rw [List.drop_of_length_le (l:=l) (by omega)]
  by_cases h2:k=m.length
  ·rw [List.drop_of_length_le (l:=m) (by omega)]
   rw [decide_eq_false (show ¬l.length <m.length by omega)]
   rfl
  ·obtain ⟨y,hy⟩:=get_lt (l:=m) (k:=k) (by omega)
   rw [drop_cons hy,decide_eq_true (show l.length <m.length by omega)]
   rfl
 ·have h2:k=m.length:=by omega
  rw [List.drop_of_length_le (l:=m) (by omega)]
  obtain ⟨y,hy⟩:=get_lt (l:=l) (k:=k) (by omega)
  rw [drop_cons hy,decide_eq_false (show ¬l.length <m.length by omega)]
  rfl
set_option maxRecDepth 100000 in
set_option maxHeartbeats 4000000 in
theorem rLess_ok (l m:List Int) (A B:Option Addr) (a b:Nat) (w:World) (hl:l.length≤8388608) (_hm:m.length≤8388608) (hA:Rd w w.heap.size 1 A l.length (l.map (Value.int .u64))) (hB:Rd w w.heap.size 1 B m.length (m.map (Value.int .u64))):
  Calls Tryz.prog 180 #[.slice A l.length a, .slice B m.length b] w fun e w'=>e= .returned (.bool (lessL l m))∧Below w.heap.size w w':=by
 have HA:=Lib.hid hA
 have HB:=Lib.hid hB
 clear hA hB
 go_enter Tryz.func180,Tryz.ntmps180
 go_wp2
 go_loopw [5] (fun i wr=> ∃k:Nat,k≤l.length∧k≤m.length∧i= .int .i64 k∧Hid (cmpL l m=cmpL (l.drop k) (m.drop k))∧Hid (Below w.heap.size w wr)) (fun i _=>l.length -(intOf i).toNat)
 case atStart=>exact ⟨0,Nat.zero_le _,Nat.zero_le _,rfl,Lib.hid rfl,Lib.hid (Below.refl _ _)⟩
 case round=>
  obtain ⟨k,hk,hj,rfl,HC,HW⟩:=hrel
  have k0:(0:Int)≤(k:Int):=by omega
  have hb0:=HW.out
  have HAx:=Lib.hid (HA.out.up hb0)
  have HBx:=Lib.hid (HB.out.up hb0)
  by_cases h1:k <l.length
  ·have k1:(k:Int) <(l.length:Int):=by omega
   by_cases h2:k <m.length
   ·have k2:(k:Int) <(m.length:Int):=by omega
    obtain ⟨x,hx⟩:=get_lt h1
    obtain ⟨y,hy⟩:=get_lt h2
    obtain ⟨b1,o1,rfl,hb1,g1⟩:=int_at HAx.out hx
    obtain ⟨b2,o2,rfl,hb2,g2⟩:=int_at HBx.out hy
    have HX:=Lib.hid hx
    have HY:=Lib.hid hy
    clear hx hy
    rcases (show x <y∨x=y∨y <x by omega) with h |h |h
    ·have hne: ¬x=y:=by omega
     have HV:=Lib.hid (less_lt HC.out HX.out HY.out h)
     go_wp2_with fail
     refine wp_region_ext (by kernel_rfl) (by kernel_rfl) ?_
     repeat (go_big_quiet_step (fail))
     refine wpQuiet_nil ?_
     intro xa
     have HW2:=Lib.hid (Below.then_ HW.out (ext_below _ xa))
     have g1':=(ext_cell wr xa b1 _ hb1).trans g1
     have g2':=(ext_cell wr xa b2 _ hb2).trans g2
     have hb1':b1 <(ext wr xa).heap.size:=Nat.lt_of_lt_of_le hb1 (ext_below _ xa).size
     have hb2':b2 <(ext wr xa).heap.size:=Nat.lt_of_lt_of_le hb2 (ext_below _ xa).size
     clear g1 g2 hb1 hb2
     generalize ext wr xa=W2 at*
     go_wp2_with fail
     refine wp_region_ext (by kernel_rfl) (by kernel_rfl) ?_
     repeat (go_big_quiet_step (fail))
     refine wpQuiet_nil ?_
     intro xb
     have HW3:=Lib.hid (Below.then_ HW2.out (ext_below _ xb))
     go_wp2
     go_ret
     exact ⟨ret_bool (by rw [HV.out]),HW3.out⟩
    ·have HN:=Lib.hid (less_next HC.out HX.out (by rw [←h] at HY;exact HY.out))
     subst h
     go_wp2_with fail
     refine wp_region_ext (by kernel_rfl) (by kernel_rfl) ?_
     repeat (go_big_quiet_step (fail))
     refine wpQuiet_nil ?_
     intro xa
     have HW2:=Lib.hid (Below.then_ HW.out (ext_below _ xa))
     go_wp2
     go_roundw
     case rel=>exact ⟨k+1,by omega,by omega,by go_num,HN,HW2⟩
     case measure=>simp [intOf];omega
    ·have hne: ¬x=y:=by omega
     have hnl: ¬x <y:=by omega
     have HV:=Lib.hid (less_gt HC.out HX.out HY.out h)
     go_wp2_with fail
     refine wp_region_ext (by kernel_rfl) (by kernel_rfl) ?_
     repeat (go_big_quiet_step (fail))
     refine wpQuiet_nil ?_
     intro xa
     have HW2:=Lib.hid (Below.then_ HW.out (ext_below _ xa))
     have g1':=(ext_cell wr xa b1 _ hb1).trans g1
     have g2':=(ext_cell wr xa b2 _ hb2).trans g2
     have hb1':b1 <(ext wr xa).heap.size:=Nat.lt_of_lt_of_le hb1 (ext_below _ xa).size
     have hb2':b2 <(ext wr xa).heap.size:=Nat.lt_of_lt_of_le hb2 (ext_below _ xa).size
     clear g1 g2 hb1 hb2
     generalize ext wr xa=W2 at*
     go_wp2_with fail
     refine wp_region_ext (by kernel_rfl) (by kernel_rfl) ?_
     repeat (go_big_quiet_step (fail))
     refine wpQuiet_nil ?_
     intro xb
     have HW3:=Lib.hid (Below.then_ HW2.out (ext_below _ xb))
     go_wp2
     go_ret
     exact ⟨ret_bool (by rw [HV.out];exact decide_eq_false (by omega)),HW3.out⟩
   ·have k2: ¬(k:Int) <(m.length:Int):=by omega
    have HV:=Lib.hid (less_end HC.out hk hj (.inr (by omega)))
    go_wp2
    go_ret
    exact ⟨ret_bool (by rw [HV.out]),HW.out⟩
  ·have k1: ¬(k:Int) <(l.length:Int):=by omega
   have HV:=Lib.hid (less_end HC.out hk hj (.inl (by omega)))
   go_wp2
   go_ret
   exact ⟨ret_bool (by rw [HV.out]),HW.out⟩
end Go.Proofs.YtcfoolooemhbeaaGreat
namespace Go.Proofs.YtcfoolooemhbeaaGreat
open Go.RowKit
attribute [local go_sem] ext_cell
theorem info_u64:(Tryz.prog.info? 22).map (fun i=>(i.zero,i.size,i.bytes))=some (some (.int .u64 0),1,8):=by kernel_rfl
def OwnK (w:World) (base:Nat) (v:Value) (l:List Int):Prop:=w.ownsRow base 22 1 v l.length (l.map (Value.int .u64))
theorem one_new64 (w:World) (a:Int) (t:TypeId):Rd (w.alloc (.cells #[.int .u64 a] t)) (w.alloc (.cells #[.int .u64 a] t)).heap.size 1 (some ⟨w.heap.size,0,none⟩) 1 [.int .u64 a]:=by
 refine ⟨rfl,fun _=>⟨_,_,rfl,by simp,fun j u hu=> ?_⟩⟩
 have:=World.news_of_block (heap_alloc_new w (.cells #[.int .u64 a] t)) j u (by simpa using hu)
 rwa [addr_add] at this
theorem bit_ok (b:Bool) (w:World):Calls Tryz.prog 183 #[.bool b] w fun e w'=>e= .returned (.int .u64 (bitI b))∧w'=w:=by
 cases b
 all_goals
  go_enter Tryz.func183,Tryz.ntmps183
  go_wp2
  go_ret
  exact ⟨rfl,rfl⟩
def upB (b:UInt8):Int:=(b.toNat:Int)+1
theorem textL_eq (s:List UInt8):textL s=s.map upB++ [0]:=rfl
theorem byte_at {s:ByteArray} {k:Nat} (h:k <s.size):s.data.toList[k]? =some s[k]:=by
 rw [Array.getElem?_toList]
 exact Array.getElem?_eq_getElem h
theorem up_next {s:List UInt8} {k:Nat} {b:UInt8} (h:s[k]? =some b):(s.take (k+1)).map upB=(s.take k).map upB++ [(b.toNat:Int)+1]:=by
 rw [take_next h,List.map_append];rfl
set_option maxRecDepth 100000 in
set_option maxHeartbeats 4000000 in
theorem text_ok (s:ByteArray) (hs:s.size≤4194304) (w:World):Calls Tryz.prog 182 #[.string s] w fun e w'=> ∃v,e= .returned v∧OwnK w' w.heap.size v (textL s.data.toList)∧Below w.heap.size w w':=by
 obtain ⟨i0,hi,hz0,hz1,hz2⟩:=info_parts info_u64
 go_enter Tryz.func182,Tryz.ntmps182
 go_wp2
 go_loopw [3,4] (fun o i wr=> ∃k:Nat,k≤s.size∧i= .int .i64 k∧Hid (wr.ownsRow w.heap.size 22 1 o k (((s.data.toList.take k).map upB).map (Value.int .u64)))∧Hid (Below w.heap.size w wr)) (fun _ i _=>s.size -(intOf i).toNat)
 case atStart=>exact ⟨0,Nat.zero_le _,rfl,Lib.hid (World.ownsRow_nil _ _ _ _),Lib.hid (Below.refl _ _)⟩
 case round=>
  obtain ⟨k,hk,rfl,HO,HB⟩:=hrel
  have hsz:=HB.out.size
  obtain ⟨oA,oc,rfl,_⟩:=own_form HO.out
  by_cases hlt:k <s.size
  ·have k0:(0:Int)≤(k:Int):=by omega
   have k1:(k:Int) <(s.size:Int):=by omega
   have q0:(0:Int)≤(s[k].toNat:Int):=by omega
   have q1:(s[k].toNat:Int) <256:=by have:=UInt8.toNat_lt s[k];omega
   have HN:=Lib.hid (up_next (byte_at hlt))
   have HO2:=Lib.hid (own_below HO.out (below_one wr (.cells #[.int .u64 ((s[k].toNat:Int)+1)] 22)))
   go_wp2_with (at_builtin;go_loud (refine wpList_append_rd _ rfl (.tmp 11) (.tmp 17) _ rfl w.heap.size 22 i0 (.int .u64 0) 1 8 Tryz.underlying114 hi hz0 hz1 hz2 rfl (by decide) _ _ _ rfl HO2.out (wr.alloc (.cells #[.int .u64 ((s[k].toNat:Int)+1)] 22)).heap.size (some ⟨wr.heap.size,0,none⟩) 1 1 _ rfl (one_new64 wr _ 22) (by intro u hu;simp at hu;subst hu;rfl) (by unfold maxLen;omega) (by omega) (by simp;omega) ?_);intro v' w3 hown hg)
   have HB3:=Lib.hid (below_own (HB.out.alloc hsz _) hg HO2.out (by simp;omega))
   have HO3:=Lib.hid (show w3.ownsRow w.heap.size 22 1 v' (k+1) (((s.data.toList.take (k+1)).map upB).map (Value.int .u64)) by rw [HN.out,List.map_append];exact hown)
   clear hown hg
   go_roundw
   case rel=>exact ⟨k+1,by omega,by go_num,HO3,HB3⟩
   case measure=>simp [intOf];omega
  ·obtain rfl:k=s.size:=by omega
   have HO2:=Lib.hid (own_below HO.out (below_one wr (.cells #[.int .u64 0] 22)))
   go_wp2_with (at_builtin;go_loud (refine wpList_append_rd _ rfl (.tmp 19) (.tmp 20) _ rfl w.heap.size 22 i0 (.int .u64 0) 1 8 Tryz.underlying114 hi hz0 hz1 hz2 rfl (by decide) _ _ _ rfl HO2.out (wr.alloc (.cells #[.int .u64 0] 22)).heap.size (some ⟨wr.heap.size,0,none⟩) 1 1 _ rfl (one_new64 wr _ 22) (by intro u hu;simp at hu;subst hu;rfl) (by unfold maxLen;omega) (by omega) (by simp;omega) ?_);intro v' w3 hown hg)
   have HB3:=Lib.hid (below_own (HB.out.alloc hsz _) hg HO2.out (by simp;omega))
   have HO3:=Lib.hid (show OwnK w3 w.heap.size v' (textL s.data.toList) by
    unfold OwnK
    rw [textL_eq]
    have hl:s.data.toList.length=s.size:=by simp
    have h2:=hown
    rw [List.take_of_length_le (by omega)] at h2
    have e:(s.data.toList.map upB++ [0]).length=s.size+1:=by simp
    rw [e,List.map_append]
    exact h2)
   clear hown hg
   go_ret
   exact ⟨_,rfl,HO3.out,HB3.out⟩
end Go.Proofs.YtcfoolooemhbeaaGreat
namespace Go.Proofs.YtcfoolooemhbeaaGreat
open Go.RowKit
attribute [local go_sem] ext_cell
theorem own_lit (w:World) (base:Nat) (l:List Int) (hb:base≤w.heap.size) (hl:l.length≤maxLen) (n:Nat) (hn:n=l.length) (cs:Array Value) (hc:cs=(l.map (Value.int .u64)).toArray):
  (w.alloc (.cells cs 22)).ownsRow base 22 1 (.slice (some ⟨w.heap.size,0,none⟩) n n) l.length (l.map (Value.int .u64)):=by
 subst hn hc
 exact ⟨by simp, .inr ⟨w.heap.size,l.length,(l.map (Value.int .u64)).toArray,rfl,hb,heap_alloc_new w _,Nat.le_refl _,hl,by simp,by rw [Nat.mul_one];rw [List.take_of_length_le (by simp)]⟩⟩
theorem own_lessC {w:World} {b b':Nat} {e:TypeId} {size n:Nat} {v:Value} {xs:List Value} (h:w.ownsRow b e size v n xs) (hb:b'≤b):w.ownsRow b' e size v n xs:=by
 refine ⟨h.1, ?_⟩
 rcases h.2 with h2 |⟨g,cap,cur,rfl,hg,r⟩
 ·exact .inl h2
 ·exact .inr ⟨g,cap,cur,rfl,by omega,r⟩
theorem own_drew {w:World} {base:Nat} {e:TypeId} {size n:Nat} {v:Value} {xs:List Value} (h:w.ownsRow base e size v n xs):w.drew.ownsRow base e size v n xs:=h
theorem below_drewK {B:Nat} {a w:World} (h:Below B a w):Below B a w.drew:=⟨h.os,h.tape,h.output,h.size,h.block⟩
theorem wrap_u16 {n:Int} (h:wU16 n):IntKind.u64.wrap n=n:=by have:=Go.bounds_u16 h;rw [IntKind.wrap_u64];omega
theorem wrap_u8 {n:Int} (h:wU8 n):IntKind.u64.wrap n=n:=by have:=Go.bounds_u8 h;rw [IntKind.wrap_u64];omega
theorem wrap_u32 {n:Int} (h:wU32 n):IntKind.u64.wrap n=n:=by have:=Go.bounds_u32 h;rw [IntKind.wrap_u64];omega
set_option maxRecDepth 100000 in
set_option maxHeartbeats 2000000 in
theorem rWin_ok (x:Win) (hok:x.ok) (w:World):Calls Tryz.prog 133 #[.agg #[.int .u64 x.start, .int .u64 x.len, .int .u16 x.part]] w fun e w'=> ∃v,e= .returned v∧OwnK w' w.heap.size v (keyWin x)∧Below w.heap.size w w':=by
 have h1:=Go.bounds_u16 hok.part
 have hb:=below_one w (.cells #[.int .u64 x.start, .int .u64 x.len, .int .u16 x.part] 78)
 have c0:(w.alloc (.cells #[.int .u64 x.start, .int .u64 x.len, .int .u16 x.part] 78)).cell? ⟨w.heap.size,0,none⟩=some (.int .u64 x.start):=by simp
 have c1:(w.alloc (.cells #[.int .u64 x.start, .int .u64 x.len, .int .u16 x.part] 78)).cell? ⟨w.heap.size,1,none⟩=some (.int .u64 x.len):=by simp
 have c2:(w.alloc (.cells #[.int .u64 x.start, .int .u64 x.len, .int .u16 x.part] 78)).cell? ⟨w.heap.size,2,none⟩=some (.int .u16 x.part):=by simp
 have hlt:w.heap.size <(w.alloc (.cells #[.int .u64 x.start, .int .u64 x.len, .int .u16 x.part] 78)).heap.size:=by simp
 have HB:=Lib.hid hb
 clear hb
 go_enter Tryz.func133,Tryz.ntmps133
 go_upto_region 1 with (fail)
 generalize World.alloc w _=V at c0 c1 c2 hlt HB ⊢
 go_wp2
 have HO:=Lib.hid (own_lit V w.heap.size (keyWin x) (Nat.le_of_lt hlt) (by simp [keyWin,maxLen]) 3 rfl _ rfl)
 go_ret
 exact ⟨_,rfl,HO.out,Below.then_ HB.out (below_one _ _)⟩
set_option maxRecDepth 100000 in
set_option maxHeartbeats 2000000 in
theorem rReg_ok (x:Reg) (hok:x.ok) (w:World):Calls Tryz.prog 134 #[.agg #[.int .u64 x.base, .int .u64 x.size, .int .u16 x.part, .int .u8 x.rights, .bool x.shared]] w fun e w'=> ∃v,e= .returned v∧OwnK w' w.heap.size v (keyReg x)∧Below w.heap.size w w':=by
 have h1:=wrap_u16 hok.part
 have h2:=wrap_u8 hok.rights
 have hb:=below_one w (.cells #[.int .u64 x.base, .int .u64 x.size, .int .u16 x.part, .int .u8 x.rights, .bool x.shared] 81)
 have c0:(w.alloc (.cells #[.int .u64 x.base, .int .u64 x.size, .int .u16 x.part, .int .u8 x.rights, .bool x.shared] 81)).cell? ⟨w.heap.size,0,none⟩=some (.int .u64 x.base):=by simp
 have c1:(w.alloc (.cells #[.int .u64 x.base, .int .u64 x.size, .int .u16 x.part, .int .u8 x.rights, .bool x.shared] 81)).cell? ⟨w.heap.size,1,none⟩=some (.int .u64 x.size):=by simp
 have c2:(w.alloc (.cells #[.int .u64 x.base, .int .u64 x.size, .int .u16 x.part, .int .u8 x.rights, .bool x.shared] 81)).cell? ⟨w.heap.size,2,none⟩=some (.int .u16 x.part):=by simp
 have c3:(w.alloc (.cells #[.int .u64 x.base, .int .u64 x.size, .int .u16 x.part, .int .u8 x.rights, .bool x.shared] 81)).cell? ⟨w.heap.size,3,none⟩=some (.int .u8 x.rights):=by simp
 have c4:(w.alloc (.cells #[.int .u64 x.base, .int .u64 x.size, .int .u16 x.part, .int .u8 x.rights, .bool x.shared] 81)).cell? ⟨w.heap.size,4,none⟩=some (.bool x.shared):=by simp
 have hlt:w.heap.size <(w.alloc (.cells #[.int .u64 x.base, .int .u64 x.size, .int .u16 x.part, .int .u8 x.rights, .bool x.shared] 81)).heap.size:=by simp
 have HB:=Lib.hid hb
 clear hb
 go_enter Tryz.func134,Tryz.ntmps134
 go_upto_region 1 with (fail)
 generalize World.alloc w _=V at c0 c1 c2 c3 c4 hlt HB ⊢
 have KEEP: ∀U,Below V.heap.size V U→(fun w'=>w'.cell? ⟨w.heap.size,0,none⟩=some (.int .u64 x.base)∧w'.cell? ⟨w.heap.size,1,none⟩=some (.int .u64 x.size)∧w'.cell? ⟨w.heap.size,2,none⟩=some (.int .u16 x.part)∧w'.cell? ⟨w.heap.size,3,none⟩=some (.int .u8 x.rights)∧w'.cell? ⟨w.heap.size,4,none⟩=some (.bool x.shared)) U:=fun U hU=>by
  have q: ∀b o,b <V.heap.size→U.cell? ⟨b,o,none⟩=V.cell? ⟨b,o,none⟩:=fun b o h=>hU.cell (p:=⟨b,o,none⟩) h
  exact ⟨(q _ _ hlt).trans c0,(q _ _ hlt).trans c1,(q _ _ hlt).trans c2,(q _ _ hlt).trans c3,(q _ _ hlt).trans c4⟩
 have HKP:=Lib.hid KEEP
 clear KEEP
 go_region_held3 (fun w'=>w'.cell? ⟨w.heap.size,0,none⟩=some (.int .u64 x.base)∧w'.cell? ⟨w.heap.size,1,none⟩=some (.int .u64 x.size)∧w'.cell? ⟨w.heap.size,2,none⟩=some (.int .u16 x.part)∧w'.cell? ⟨w.heap.size,3,none⟩=some (.int .u8 x.rights)∧w'.cell? ⟨w.heap.size,4,none⟩=some (.bool x.shared))
  (first |(refine HKP.out _ ?_;(repeat (first |with_reducible exact HBW.out |with_reducible exact Below.refl _ _ |with_reducible refine Below.drew ?_ |(with_reducible refine Below.alloc ?_ (by first |(simp;done) |(have hq:=HBW.out.size;simp at hq ⊢;omega)) _) |(with_reducible refine Below.setCell ?_ (by first |(simp;done) |(have hq:=HBW.out.size;simp at hq ⊢;omega)) _)));done) |go_keep)
  (first
  |(go_at_call 183;refine (bit_ok _ _).mono ?_;rintro e w' ⟨rfl,rfl⟩))
 go_wp2
 go_ret
 exact ⟨_,rfl,own_drew (own_lit V w.heap.size (keyReg x) (Nat.le_of_lt hlt) (by simp [keyReg,maxLen]) 5 rfl _ rfl),below_drewK (Below.then_ HB.out (below_one _ _))⟩
end Go.Proofs.YtcfoolooemhbeaaGreat
namespace Go.Proofs.YtcfoolooemhbeaaGreat
open Go.RowKit
attribute [local go_sem] ext_cell
def chnTo (x:Chn) (k:Nat):List Int:=x.id::x.source::x.dests.take k
theorem chnTo_next {x:Chn} {k:Nat} {d:Int} (h:x.dests[k]? =some d):chnTo x (k+1)=chnTo x k++ [d]:=by
 unfold chnTo;rw [take_next h];rfl
theorem chnTo_len {x:Chn} {k:Nat} (h:k≤x.dests.length):(chnTo x k).length=k+2:=by
 unfold chnTo;simp [List.length_take,Nat.min_eq_left h]
set_option maxRecDepth 100000 in
set_option maxHeartbeats 4000000 in
theorem rChn_ok (x:Chn) (hok:x.ok) (D:Option Addr) (d:Nat) (w:World) (hD:Rd w w.heap.size 1 D x.dests.length (x.dests.map (Value.int .u16))) (hl:x.dests.length≤1048576):
  Calls Tryz.prog 136 #[.agg #[.int .u16 x.id, .int .u16 x.source, .slice D x.dests.length d]] w fun e w'=> ∃v,e= .returned v∧OwnK w' w.heap.size v (keyChn x)∧Below w.heap.size w w':=by
 obtain ⟨i0,hi,hz0,hz1,hz2⟩:=info_parts info_u64
 have h1:=wrap_u16 hok.id
 have h2:=wrap_u16 hok.source
 obtain ⟨V,hV,cb,hb⟩:=ChBox.new w x D d 89
 have HW:=Lib.hid hV
 have CB:=Lib.hid cb
 have HB:=Lib.hid hb
 have HD:=Lib.hid (hD.up hb)
 have HOK:=Lib.hid hok
 obtain ⟨y0,y1,y2,hlt⟩:=cb
 clear hV hb hD hok
 go_enter Tryz.func136,Tryz.ntmps136
 go_upto_region 1 with (fail)
 rw [HW.out]
 go_upto_region 2 with (fail)
 have ho:=own_lit V V.heap.size (chnTo x 0) (Nat.le_refl _) (by rw [chnTo_len (Nat.zero_le _)];unfold maxLen;omega) 2 (chnTo_len (Nat.zero_le _)).symm _ rfl
 have hbV:=below_one V (.cells ((chnTo x 0).map (Value.int .u64)).toArray 22)
 simp only [chnTo,List.take_zero,List.map_cons,List.map_nil] at ho hbV
 generalize World.alloc V _=V2 at ho hbV ⊢
 have HO:=Lib.hid ho
 have HB2:=Lib.hid hbV
 clear ho hbV
 generalize some (Addr.mk V.heap.size 0 none)=p2 at HO ⊢
 have CB2:=Lib.hid (CB.out.up HB2.out)
 go_wp2
 go_loopw [3,4] (fun o i wr=> ∃k:Nat,k≤x.dests.length∧i= .int .i64 k∧Hid (wr.ownsRow V.heap.size 22 1 o (k+2) ((chnTo x k).map (Value.int .u64)))∧Hid (Below V.heap.size V wr)) (fun _ i _=>x.dests.length -(intOf i).toNat)
 case atStart=>exact ⟨0,Nat.zero_le _,rfl,HO,HB2⟩
 case round=>
  obtain ⟨k,hk,rfl,HOk,HBk⟩:=hrel
  obtain ⟨z0,z1,z2,hlz⟩:=CB.out.up HBk.out
  have HDk:=Lib.hid (HD.out.up HBk.out)
  have hsz:=HBk.out.size
  obtain ⟨oA,oc,rfl,_⟩:=own_form HOk.out
  by_cases hlt2:k <x.dests.length
  ·obtain ⟨dd,hdd⟩:=get_lt hlt2
   have h3:=wrap_u16 (HOK.out.dests dd (List.mem_of_getElem? hdd))
   obtain ⟨bd,od,rfl,hbd,gd⟩:=int_at HDk.out hdd
   have HN:=Lib.hid (chnTo_next hdd)
   have k0:(0:Int)≤(k:Int):=by omega
   have k1:(k:Int) <(x.dests.length:Int):=by omega
   have HO2:=Lib.hid (own_below HOk.out (below_one wr (.cells #[.int .u64 dd] 22)))
   clear hdd
   go_wp2_with (at_builtin;go_loud (refine wpList_append_rd _ rfl (.tmp 19) (.tmp 26) _ rfl V.heap.size 22 i0 (.int .u64 0) 1 8 Tryz.underlying114 hi hz0 hz1 hz2 rfl (by decide) _ _ _ rfl HO2.out (wr.alloc (.cells #[.int .u64 dd] 22)).heap.size (some ⟨wr.heap.size,0,none⟩) 1 1 _ rfl (one_new64 wr _ 22) (by intro u hu;simp at hu;subst hu;rfl) (by unfold maxLen;omega) (by omega) (by simp;omega) ?_);intro v' w3 hown hg)
   have HB3:=Lib.hid (below_own (HBk.out.alloc hsz _) hg HO2.out (by simp;omega))
   have HO3:=Lib.hid (show w3.ownsRow V.heap.size 22 1 v' (k+1+2) ((chnTo x (k+1)).map (Value.int .u64)) by rw [HN.out,List.map_append];exact hown)
   clear hown hg
   go_roundw
   case rel=>exact ⟨k+1,by omega,by go_num,HO3,HB3⟩
   case measure=>simp [intOf];omega
  ·obtain rfl:k=x.dests.length:=by omega
   go_wp2
   have HO3:=Lib.hid (show OwnK wr w.heap.size (.slice oA (x.dests.length+2) oc) (keyChn x) by
    have h:=own_lessC HOk.out (Nat.le_of_lt hlt)
    unfold chnTo at h
    rw [List.take_of_length_le (Nat.le_refl _)] at h
    exact h)
   go_ret
   exact ⟨_,rfl,HO3.out,Below.then_ HB.out HBk.out⟩
end Go.Proofs.YtcfoolooemhbeaaGreat
namespace Go.Proofs.YtcfoolooemhbeaaGreat
open Go.RowKit
attribute [local go_sem] ext_cell
theorem drew_heapK (w:World):w.drew.heap=w.heap:=rfl
attribute [local simp] drew_heapK
theorem own_alloc {w:World} {base:Nat} {e:TypeId} {size n:Nat} {v:Value} {xs:List Value} (h:w.ownsRow base e size v n xs) (o:Obj):(w.alloc o).ownsRow base e size v n xs:=h.alloc o
theorem own_lit2 (w:World) (base:Nat) (l:List Int) (b n:Nat) (hb:base≤w.heap.size) (hbk:w.heap.size=b) (hl:l.length≤maxLen) (hn:n=l.length) (cs:Array Value) (hc:cs=(l.map (Value.int .u64)).toArray):
  (w.alloc (.cells cs 22)).ownsRow base 22 1 (.slice (some ⟨b,0,none⟩) n n) l.length (l.map (Value.int .u64)):=by
 subst hbk
 exact own_lit w base l hb hl n hn cs hc
theorem appH (base:Nat) (V:World) {w:World} {o:Oper} {a:Act} {K:Act→World→Prop} {Q:Exit→Act→World→Prop} {ys:Nat→Option Bool} (i:TypeInfo) (hi:Tryz.prog.info? 22=some i) (hz0:i.zero=some (.int .u64 0)) (hz1:i.size=1) (hz2:i.bytes=8)
  (hwt:Region.wanted o ys=true) (s x:Operand) (ho:o.op= .call {callee:= .builtin .append,args:= #[s,x],argTypes:= #[114,114]})
  (xs:List Int) (hown:w.ownsRow V.heap.size 22 1 (a.eval s) xs.length (xs.map (Value.int .u64)))
  (news:List Int) (hr:w.ownsRow base 22 1 (a.eval x) news.length (news.map (Value.int .u64)))
  (hlen:xs.length+news.length≤8388608) (hB:Below V.heap.size V w)
  (h: ∀v' w',w'.ownsRow V.heap.size 22 1 v' (xs++news).length ((xs++news).map (Value.int .u64))→w.grownBy w' (a.eval s).ownBlock→Below V.heap.size V w'→K (a.put o.dst v') w'):
  if Region.wanted o ys=true then Oper.wp Tryz.prog o a w K Q else K (a.put o.dst undef) w:=by
 obtain ⟨A,c,hx,_,_,hrd⟩:=own_form hr
 rw [if_pos hwt]
 obtain ⟨v',w',hrun,h2,h3⟩:=run_append_rd (P:=Tryz.prog) w V.heap.size 114 o.type 22 i (.int .u64 0) 1 8 Tryz.underlying114 hi hz0 hz1 hz2 rfl (by decide) (a.eval s) xs.length _ hown w.heap.size A news.length c _ hrd (by intro u hu;obtain ⟨z,_,rfl⟩:=List.mem_map.1 hu;rfl) (by unfold maxLen;omega) (by omega) hB.size
 unfold Oper.wp execOp
 simp only [ho,resolve,invoke,builtin,Sem.run_bind,Sem.run_pure,Result.andThen_ok,List.map_toArray,List.map_cons,List.map_nil,hx,hrun]
 exact h _ _ (by rw [List.length_append,List.map_append];exact h2) h3 (below_own hB h3 hown hB.size)
set_option maxRecDepth 100000 in
set_option maxHeartbeats 8000000 in
theorem rPar_ok (x:Par) (hok:x.ok) (hsz:x.name.size≤4194304) (w:World):Calls Tryz.prog 132 #[.agg #[.int .u16 x.id, .string x.name, .int .u64 x.period, .int .u64 x.duration]] w fun e w'=> ∃v,e= .returned v∧OwnK w' w.heap.size v (keyPar x)∧Below w.heap.size w w':=by
 obtain ⟨i0,hi,hz0,hz1,hz2⟩:=info_parts info_u64
 have k0:=wrap_u16 hok.id
 have hb:=below_one w (.cells #[.int .u16 x.id, .string x.name, .int .u64 x.period, .int .u64 x.duration] 75)
 have c0:(w.alloc (.cells #[.int .u16 x.id, .string x.name, .int .u64 x.period, .int .u64 x.duration] 75)).cell? ⟨w.heap.size,0,none⟩=some (.int .u16 x.id):=by simp
 have c1:(w.alloc (.cells #[.int .u16 x.id, .string x.name, .int .u64 x.period, .int .u64 x.duration] 75)).cell? ⟨w.heap.size,1,none⟩=some (.string x.name):=by simp
 have c2:(w.alloc (.cells #[.int .u16 x.id, .string x.name, .int .u64 x.period, .int .u64 x.duration] 75)).cell? ⟨w.heap.size,2,none⟩=some (.int .u64 x.period):=by simp
 have c3:(w.alloc (.cells #[.int .u16 x.id, .string x.name, .int .u64 x.period, .int .u64 x.duration] 75)).cell? ⟨w.heap.size,3,none⟩=some (.int .u64 x.duration):=by simp
 have hlt:w.heap.size <(w.alloc (.cells #[.int .u16 x.id, .string x.name, .int .u64 x.period, .int .u64 x.duration] 75)).heap.size:=by simp
 have HB:=Lib.hid hb
 have HLN:=Lib.hid (show (textL x.name.data.toList).length=x.name.size+1 by unfold textL;simp)
 clear hb
 go_enter Tryz.func132,Tryz.ntmps132
 go_upto_region 1 with (fail)
 generalize World.alloc w _=V at c0 c1 c2 c3 hlt HB ⊢
 have HBW:=Lib.hid (Below.refl V.heap.size V)
 have KEEP: ∀U,Below V.heap.size V U→(fun w'=>w'.cell? ⟨w.heap.size,0,none⟩=some (.int .u16 x.id)∧w'.cell? ⟨w.heap.size,1,none⟩=some (.string x.name)∧w'.cell? ⟨w.heap.size,2,none⟩=some (.int .u64 x.period)∧w'.cell? ⟨w.heap.size,3,none⟩=some (.int .u64 x.duration)) U:=fun U hU=>by
  have q: ∀b o,b <V.heap.size→U.cell? ⟨b,o,none⟩=V.cell? ⟨b,o,none⟩:=fun b o h=>hU.cell (p:=⟨b,o,none⟩) h
  exact ⟨(q _ _ hlt).trans c0,(q _ _ hlt).trans c1,(q _ _ hlt).trans c2,(q _ _ hlt).trans c3⟩
 have HKP:=Lib.hid KEEP
 clear KEEP
 go_region_held3 (fun w'=>w'.cell? ⟨w.heap.size,0,none⟩=some (.int .u16 x.id)∧w'.cell? ⟨w.heap.size,1,none⟩=some (.string x.name)∧w'.cell? ⟨w.heap.size,2,none⟩=some (.int .u64 x.period)∧w'.cell? ⟨w.heap.size,3,none⟩=some (.int .u64 x.duration))
  (first |(refine HKP.out _ ?_;(repeat (first |with_reducible exact HBW.out |with_reducible exact Below.refl _ _ |with_reducible refine Below.drew ?_ |(with_reducible refine Below.alloc ?_ (by first |(simp;done) |(have hq:=HBW.out.size;simp at hq ⊢;omega)) _) |(with_reducible refine Below.setCell ?_ (by first |(simp;done) |(have hq:=HBW.out.size;simp at hq ⊢;omega)) _)));done) |go_keep)
  (first
  |(go_at_call 182;refine (text_ok x.name hsz _).mono ?_;rintro e w1 ⟨v1,rfl,hv1,hb1⟩;unfold OwnK at hv1;obtain ⟨A1,c1',rfl,_⟩:=own_form hv1;(have hv2:w1.ownsRow V.heap.size 22 1 (.slice A1 (textL x.name.data.toList).length c1') (textL x.name.data.toList).length ((textL x.name.data.toList).map (Value.int .u64)):=by (refine own_lessC hv1 ?_;first |(simp;done) |(simp;omega)));have hy1:=hb1.size;have HBW:=Lib.hid (show Below V.heap.size V w1 from Below.then_ (show Below V.heap.size V _ from (by (repeat (first |with_reducible exact HBW.out |with_reducible exact Below.refl _ _ |with_reducible refine Below.drew ?_ |(with_reducible refine Below.alloc ?_ (by first |(simp;done) |(have hq:=HBW.out.size;simp at hq ⊢;omega)) _) |(with_reducible refine Below.setCell ?_ (by first |(simp;done) |(have hq:=HBW.out.size;simp at hq ⊢;omega)) _))))) hb1))
  |(refine appH V.heap.size V i0 hi hz0 hz1 hz2 (by rfl) (.tmp 6) (.tmp 9) (by rfl) [x.id] ?_ (textL x.name.data.toList) ?_ ?_ ?_ ?_;(focus ((repeat (first |(with_reducible refine own_drew ?_) |(exact hv2) |(exact hq1) |(with_reducible refine own_below ?_ hb1) |(refine World.ownsRow.kept ?_ hg1 (Or.inr ?_);rotate_left;(intro e;have e2:=Option.some.inj e;first |(exfalso;dsimp only at e2;omega) |(exfalso;have hy:=hy1;simp at hy e2;omega))) |(refine own_lit2 _ _ _ _ _ ?_ ?_ ?_ ?_ _ ?_;(focus ((first |(simp;done) |(have hq:=HBW.out.size;simp at hq ⊢;omega) |(have hy:=hy1;simp at hy ⊢;omega));done));(focus (simp;done));(focus (simp [maxLen];done));(focus (exact rfl));(focus (exact rfl))) |(with_reducible refine own_alloc ?_ _)));done));(focus ((repeat (first |(with_reducible refine own_drew ?_) |(exact hv2) |(exact hq1) |(with_reducible refine own_below ?_ hb1) |(refine World.ownsRow.kept ?_ hg1 (Or.inr ?_);rotate_left;(intro e;have e2:=Option.some.inj e;first |(exfalso;dsimp only at e2;omega) |(exfalso;have hy:=hy1;simp at hy e2;omega))) |(refine own_lit2 _ _ _ _ _ ?_ ?_ ?_ ?_ _ ?_;(focus ((first |(simp;done) |(have hq:=HBW.out.size;simp at hq ⊢;omega) |(have hy:=hy1;simp at hy ⊢;omega));done));(focus (simp;done));(focus (simp [maxLen];done));(focus (exact rfl));(focus (exact rfl))) |(with_reducible refine own_alloc ?_ _)));done));(focus (have hln:=HLN.out;simp;omega));(focus ((repeat (first |with_reducible exact HBW.out |with_reducible exact Below.refl _ _ |with_reducible refine Below.drew ?_ |(with_reducible refine Below.alloc ?_ (by first |(simp;done) |(have hq:=HBW.out.size;simp at hq ⊢;omega)) _) |(with_reducible refine Below.setCell ?_ (by first |(simp;done) |(have hq:=HBW.out.size;simp at hq ⊢;omega)) _)));done));intro v2 w2 hq1 hg1 hbb;have HBW:=Lib.hid hbb)
  |(refine appH V.heap.size V i0 hi hz0 hz1 hz2 (by rfl) (.tmp 10) (.tmp 15) (by rfl) ([x.id]++textL x.name.data.toList) ?_ [x.period,x.duration] ?_ ?_ ?_ ?_;(focus ((repeat (first |(with_reducible refine own_drew ?_) |(exact hv2) |(exact hq1) |(with_reducible refine own_below ?_ hb1) |(refine World.ownsRow.kept ?_ hg1 (Or.inr ?_);rotate_left;(intro e;have e2:=Option.some.inj e;first |(exfalso;dsimp only at e2;omega) |(exfalso;have hy:=hy1;simp at hy e2;omega))) |(refine own_lit2 _ _ _ _ _ ?_ ?_ ?_ ?_ _ ?_;(focus ((first |(simp;done) |(have hq:=HBW.out.size;simp at hq ⊢;omega) |(have hy:=hy1;simp at hy ⊢;omega));done));(focus (simp;done));(focus (simp [maxLen];done));(focus (exact rfl));(focus (exact rfl))) |(with_reducible refine own_alloc ?_ _)));done));(focus ((repeat (first |(with_reducible refine own_drew ?_) |(exact hv2) |(exact hq1) |(with_reducible refine own_below ?_ hb1) |(refine World.ownsRow.kept ?_ hg1 (Or.inr ?_);rotate_left;(intro e;have e2:=Option.some.inj e;first |(exfalso;dsimp only at e2;omega) |(exfalso;have hy:=hy1;simp at hy e2;omega))) |(refine own_lit2 _ _ _ _ _ ?_ ?_ ?_ ?_ _ ?_;(focus ((first |(simp;done) |(have hq:=HBW.out.size;simp at hq ⊢;omega) |(have hy:=hy1;simp at hy ⊢;omega));done));(focus (simp;done));(focus (simp [maxLen];done));(focus (exact rfl));(focus (exact rfl))) |(with_reducible refine own_alloc ?_ _)));done));(focus (have hln:=HLN.out;simp;omega));(focus ((repeat (first |with_reducible exact HBW.out |with_reducible exact Below.refl _ _ |with_reducible refine Below.drew ?_ |(with_reducible refine Below.alloc ?_ (by first |(simp;done) |(have hq:=HBW.out.size;simp at hq ⊢;omega)) _) |(with_reducible refine Below.setCell ?_ (by first |(simp;done) |(have hq:=HBW.out.size;simp at hq ⊢;omega)) _)));done));intro v3 w3 hq2 hg2 hbb;have HBW:=Lib.hid hbb)
  |fail)
 all_goals
  go_wp2
  go_ret
  exact ⟨_,rfl,own_lessC hq2 (Nat.le_of_lt hlt),Below.then_ HB.out HBW.out⟩
set_option maxRecDepth 100000 in
set_option maxHeartbeats 8000000 in
theorem rPrt_ok (x:Prt) (hok:x.ok) (hsz:x.name.size≤4194304) (w:World):Calls Tryz.prog 135 #[.agg #[.int .u16 x.id, .int .u16 x.part, .string x.name, .bool x.output, .bool x.queuing, .int .u32 x.size]] w fun e w'=> ∃v,e= .returned v∧OwnK w' w.heap.size v (keyPrt x)∧Below w.heap.size w w':=by
 obtain ⟨i0,hi,hz0,hz1,hz2⟩:=info_parts info_u64
 have k0:=wrap_u16 hok.id
 have k1:=wrap_u16 hok.part
 have k2:=wrap_u32 hok.size
 have hb:=below_one w (.cells #[.int .u16 x.id, .int .u16 x.part, .string x.name, .bool x.output, .bool x.queuing, .int .u32 x.size] 85)
 have c0:(w.alloc (.cells #[.int .u16 x.id, .int .u16 x.part, .string x.name, .bool x.output, .bool x.queuing, .int .u32 x.size] 85)).cell? ⟨w.heap.size,0,none⟩=some (.int .u16 x.id):=by simp
 have c1:(w.alloc (.cells #[.int .u16 x.id, .int .u16 x.part, .string x.name, .bool x.output, .bool x.queuing, .int .u32 x.size] 85)).cell? ⟨w.heap.size,1,none⟩=some (.int .u16 x.part):=by simp
 have c2:(w.alloc (.cells #[.int .u16 x.id, .int .u16 x.part, .string x.name, .bool x.output, .bool x.queuing, .int .u32 x.size] 85)).cell? ⟨w.heap.size,2,none⟩=some (.string x.name):=by simp
 have c3:(w.alloc (.cells #[.int .u16 x.id, .int .u16 x.part, .string x.name, .bool x.output, .bool x.queuing, .int .u32 x.size] 85)).cell? ⟨w.heap.size,3,none⟩=some (.bool x.output):=by simp
 have c4:(w.alloc (.cells #[.int .u16 x.id, .int .u16 x.part, .string x.name, .bool x.output, .bool x.queuing, .int .u32 x.size] 85)).cell? ⟨w.heap.size,4,none⟩=some (.bool x.queuing):=by simp
 have c5:(w.alloc (.cells #[.int .u16 x.id, .int .u16 x.part, .string x.name, .bool x.output, .bool x.queuing, .int .u32 x.size] 85)).cell? ⟨w.heap.size,5,none⟩=some (.int .u32 x.size):=by simp
 have hlt:w.heap.size <(w.alloc (.cells #[.int .u16 x.id, .int .u16 x.part, .string x.name, .bool x.output, .bool x.queuing, .int .u32 x.size] 85)).heap.size:=by simp
 have HB:=Lib.hid hb
 have HLN:=Lib.hid (show (textL x.name.data.toList).length=x.name.size+1 by unfold textL;simp)
 clear hb
 go_enter Tryz.func135,Tryz.ntmps135
 go_upto_region 1 with (fail)
 generalize World.alloc w _=V at c0 c1 c2 c3 c4 c5 hlt HB ⊢
 have HBW:=Lib.hid (Below.refl V.heap.size V)
 have KEEP: ∀U,Below V.heap.size V U→(fun w'=>w'.cell? ⟨w.heap.size,0,none⟩=some (.int .u16 x.id)∧w'.cell? ⟨w.heap.size,1,none⟩=some (.int .u16 x.part)∧w'.cell? ⟨w.heap.size,2,none⟩=some (.string x.name)∧w'.cell? ⟨w.heap.size,3,none⟩=some (.bool x.output)∧w'.cell? ⟨w.heap.size,4,none⟩=some (.bool x.queuing)∧w'.cell? ⟨w.heap.size,5,none⟩=some (.int .u32 x.size)) U:=fun U hU=>by
  have q: ∀b o,b <V.heap.size→U.cell? ⟨b,o,none⟩=V.cell? ⟨b,o,none⟩:=fun b o h=>hU.cell (p:=⟨b,o,none⟩) h
  exact ⟨(q _ _ hlt).trans c0,(q _ _ hlt).trans c1,(q _ _ hlt).trans c2,(q _ _ hlt).trans c3,(q _ _ hlt).trans c4,(q _ _ hlt).trans c5⟩
 have HKP:=Lib.hid KEEP
 clear KEEP
 go_region_held3 (fun w'=>w'.cell? ⟨w.heap.size,0,none⟩=some (.int .u16 x.id)∧w'.cell? ⟨w.heap.size,1,none⟩=some (.int .u16 x.part)∧w'.cell? ⟨w.heap.size,2,none⟩=some (.string x.name)∧w'.cell? ⟨w.heap.size,3,none⟩=some (.bool x.output)∧w'.cell? ⟨w.heap.size,4,none⟩=some (.bool x.queuing)∧w'.cell? ⟨w.heap.size,5,none⟩=some (.int .u32 x.size))
  (first |(refine HKP.out _ ?_;(repeat (first |with_reducible exact HBW.out |with_reducible exact Below.refl _ _ |with_reducible refine Below.drew ?_ |(with_reducible refine Below.alloc ?_ (by first |(simp;done) |(have hq:=HBW.out.size;simp at hq ⊢;omega)) _) |(with_reducible refine Below.setCell ?_ (by first |(simp;done) |(have hq:=HBW.out.size;simp at hq ⊢;omega)) _)));done) |go_keep)
  (first
  |(go_at_call 182;refine (text_ok x.name hsz _).mono ?_;rintro e w1 ⟨v1,rfl,hv1,hb1⟩;unfold OwnK at hv1;obtain ⟨A1,c1',rfl,_⟩:=own_form hv1;(have hv2:w1.ownsRow V.heap.size 22 1 (.slice A1 (textL x.name.data.toList).length c1') (textL x.name.data.toList).length ((textL x.name.data.toList).map (Value.int .u64)):=by (refine own_lessC hv1 ?_;first |(simp;done) |(simp;omega)));have hy1:=hb1.size;have HBW:=Lib.hid (show Below V.heap.size V w1 from Below.then_ (show Below V.heap.size V _ from (by (repeat (first |with_reducible exact HBW.out |with_reducible exact Below.refl _ _ |with_reducible refine Below.drew ?_ |(with_reducible refine Below.alloc ?_ (by first |(simp;done) |(have hq:=HBW.out.size;simp at hq ⊢;omega)) _) |(with_reducible refine Below.setCell ?_ (by first |(simp;done) |(have hq:=HBW.out.size;simp at hq ⊢;omega)) _))))) hb1))
  |(go_at_call 183;refine (bit_ok _ _).mono ?_;rintro e w' ⟨rfl,rfl⟩)
  |(refine appH V.heap.size V i0 hi hz0 hz1 hz2 (by rfl) (.tmp 9) (.tmp 12) (by rfl) [x.id,x.part] ?_ (textL x.name.data.toList) ?_ ?_ ?_ ?_;(focus ((repeat (first |(with_reducible refine own_drew ?_) |(exact hv2) |(exact hq1) |(with_reducible refine own_below ?_ hb1) |(refine World.ownsRow.kept ?_ hg1 (Or.inr ?_);rotate_left;(intro e;have e2:=Option.some.inj e;first |(exfalso;dsimp only at e2;omega) |(exfalso;have hy:=hy1;simp at hy e2;omega))) |(refine own_lit2 _ _ _ _ _ ?_ ?_ ?_ ?_ _ ?_;(focus ((first |(simp;done) |(have hq:=HBW.out.size;simp at hq ⊢;omega) |(have hy:=hy1;simp at hy ⊢;omega));done));(focus (simp;done));(focus (simp [maxLen];done));(focus (exact rfl));(focus (exact rfl))) |(with_reducible refine own_alloc ?_ _)));done));(focus ((repeat (first |(with_reducible refine own_drew ?_) |(exact hv2) |(exact hq1) |(with_reducible refine own_below ?_ hb1) |(refine World.ownsRow.kept ?_ hg1 (Or.inr ?_);rotate_left;(intro e;have e2:=Option.some.inj e;first |(exfalso;dsimp only at e2;omega) |(exfalso;have hy:=hy1;simp at hy e2;omega))) |(refine own_lit2 _ _ _ _ _ ?_ ?_ ?_ ?_ _ ?_;(focus ((first |(simp;done) |(have hq:=HBW.out.size;simp at hq ⊢;omega) |(have hy:=hy1;simp at hy ⊢;omega));done));(focus (simp;done));(focus (simp [maxLen];done));(focus (exact rfl));(focus (exact rfl))) |(with_reducible refine own_alloc ?_ _)));done));(focus (have hln:=HLN.out;simp;omega));(focus ((repeat (first |with_reducible exact HBW.out |with_reducible exact Below.refl _ _ |with_reducible refine Below.drew ?_ |(with_reducible refine Below.alloc ?_ (by first |(simp;done) |(have hq:=HBW.out.size;simp at hq ⊢;omega)) _) |(with_reducible refine Below.setCell ?_ (by first |(simp;done) |(have hq:=HBW.out.size;simp at hq ⊢;omega)) _)));done));intro v2 w2 hq1 hg1 hbb;have HBW:=Lib.hid hbb)
  |(refine appH V.heap.size V i0 hi hz0 hz1 hz2 (by rfl) (.tmp 13) (.tmp 23) (by rfl) ([x.id,x.part]++textL x.name.data.toList) ?_ [bitI x.output,bitI x.queuing,x.size] ?_ ?_ ?_ ?_;(focus ((repeat (first |(with_reducible refine own_drew ?_) |(exact hv2) |(exact hq1) |(with_reducible refine own_below ?_ hb1) |(refine World.ownsRow.kept ?_ hg1 (Or.inr ?_);rotate_left;(intro e;have e2:=Option.some.inj e;first |(exfalso;dsimp only at e2;omega) |(exfalso;have hy:=hy1;simp at hy e2;omega))) |(refine own_lit2 _ _ _ _ _ ?_ ?_ ?_ ?_ _ ?_;(focus ((first |(simp;done) |(have hq:=HBW.out.size;simp at hq ⊢;omega) |(have hy:=hy1;simp at hy ⊢;omega));done));(focus (simp;done));(focus (simp [maxLen];done));(focus (exact rfl));(focus (exact rfl))) |(with_reducible refine own_alloc ?_ _)));done));(focus ((repeat (first |(with_reducible refine own_drew ?_) |(exact hv2) |(exact hq1) |(with_reducible refine own_below ?_ hb1) |(refine World.ownsRow.kept ?_ hg1 (Or.inr ?_);rotate_left;(intro e;have e2:=Option.some.inj e;first |(exfalso;dsimp only at e2;omega) |(exfalso;have hy:=hy1;simp at hy e2;omega))) |(refine own_lit2 _ _ _ _ _ ?_ ?_ ?_ ?_ _ ?_;(focus ((first |(simp;done) |(have hq:=HBW.out.size;simp at hq ⊢;omega) |(have hy:=hy1;simp at hy ⊢;omega));done));(focus (simp;done));(focus (simp [maxLen];done));(focus (exact rfl));(focus (exact rfl))) |(with_reducible refine own_alloc ?_ _)));done));(focus (have hln:=HLN.out;simp;omega));(focus ((repeat (first |with_reducible exact HBW.out |with_reducible exact Below.refl _ _ |with_reducible refine Below.drew ?_ |(with_reducible refine Below.alloc ?_ (by first |(simp;done) |(have hq:=HBW.out.size;simp at hq ⊢;omega)) _) |(with_reducible refine Below.setCell ?_ (by first |(simp;done) |(have hq:=HBW.out.size;simp at hq ⊢;omega)) _)));done));intro v3 w3 hq2 hg2 hbb;have HBW:=Lib.hid hbb)
  |fail)
 all_goals
  go_wp2
  go_ret
  exact ⟨_,rfl,own_lessC hq2 (Nat.le_of_lt hlt),Below.then_ HB.out HBW.out⟩
end Go.Proofs.YtcfoolooemhbeaaGreat
namespace Go.Proofs.YtcfoolooemhbeaaGreat
open Go.RowKit
attribute [local go_sem] ext_cell
theorem info_keys:(Tryz.prog.info? 114).map (fun i=>(i.zero,i.size,i.bytes))=some (some (.slice none 0 0),1,24):=by kernel_rfl
def RowsK (w:World) (base:Nat):List (List Int)→List Value→Prop
 | [],cs=>cs= []
 |k::l,cs=> ∃c r,cs=c::r∧OwnK w base c k∧RowsK w base l r
theorem RowsK.len {w:World} {base:Nat}: ∀ {l:List (List Int)} {cs:List Value},RowsK w base l cs→cs.length=l.length
 | [],_,h=>by subst h;rfl
 |_::_,_,⟨_,_,e,_,h⟩=>by subst e;simp [RowsK.len h]
theorem RowsK.snoc {w:World} {base:Nat} {k:List Int} {c:Value} (hc:OwnK w base c k): ∀ {l:List (List Int)} {cs:List Value},RowsK w base l cs→RowsK w base (l++ [k]) (cs++ [c])
 | [],_,h=>by subst h;exact ⟨c,[],rfl,hc,rfl⟩
 |_::_,_,⟨a,r,e,h1,h2⟩=>by subst e;exact ⟨a,r++ [c],rfl,h1,RowsK.snoc hc h2⟩
theorem RowsK.imp {w w':World} {base base':Nat} (hi: ∀v k,OwnK w base v k→OwnK w' base' v k): ∀ {l:List (List Int)} {cs:List Value},RowsK w base l cs→RowsK w' base' l cs
 | [],_,h=>h
 |_::_,_,⟨a,r,e,h1,h2⟩=>⟨a,r,e,hi _ _ h1,RowsK.imp hi h2⟩
theorem RowsK.off {w w':World} {base:Nat} {l:List (List Int)} {cs:List Value} (h:RowsK w base l cs) (ho:Off 114 w w'):RowsK w' base l cs:=
 h.imp fun _ _ hk=>own_off hk ho (by decide)
theorem RowsK.below {w w':World} {base:Nat} {l:List (List Int)} {cs:List Value} (h:RowsK w base l cs) (hb:Below w.heap.size w w'):RowsK w' base l cs:=
 h.imp fun _ _ hk=>own_below hk hb
theorem RowsK.less {w:World} {base base':Nat} {l:List (List Int)} {cs:List Value} (h:RowsK w base l cs) (hb:base'≤base):RowsK w base' l cs:=
 h.imp fun _ _ hk=>own_lessC hk hb
theorem RowsK.at_ {w:World} {base:Nat}: ∀ {l:List (List Int)} {cs:List Value},RowsK w base l cs→ ∀ {i:Nat} {k:List Int},l[i]? =some k→ ∃c,cs[i]? =some c∧OwnK w base c k
 | [],_,_,i,k,h=>by simp at h
 |_::_,_,⟨a,r,e,h1,h2⟩,0,k,h=>by subst e;simp at h;subst h;exact ⟨a,rfl,h1⟩
 |_::_,_,⟨a,r,e,h1,h2⟩,i+1,k,h=>by subst e;simpa using RowsK.at_ h2 (i:=i) (k:=k) (by simpa using h)
def KeysO (w:World) (base:Nat) (v:Value) (l:List (List Int)):Prop:= ∃cs,RowsK w base l cs∧w.ownsRow base 114 1 v l.length cs
theorem KeysO.nil (w:World) (base:Nat):KeysO w base (.slice none 0 0) []:=⟨[],rfl,World.ownsRow_nil _ _ _ _⟩
theorem KeysO.below {w w':World} {base:Nat} {v:Value} {l:List (List Int)} (h:KeysO w base v l) (hb:Below w.heap.size w w'):KeysO w' base v l:=by
 obtain ⟨cs,h1,h2⟩:=h
 exact ⟨cs,h1.below hb,own_below h2 hb⟩
theorem KeysO.less {w:World} {base base':Nat} {v:Value} {l:List (List Int)} (h:KeysO w base v l) (hb:base'≤base):KeysO w base' v l:=by
 obtain ⟨cs,h1,h2⟩:=h
 exact ⟨cs,h1.less hb,own_lessC h2 hb⟩
theorem KeysO.form {w:World} {base:Nat} {v:Value} {l:List (List Int)} (h:KeysO w base v l): ∃A c,v= .slice A l.length c:=by
 obtain ⟨cs,h1,h2⟩:=h
 obtain ⟨A,c,e,_⟩:=own_form h2
 exact ⟨A,c,e⟩
theorem OwnK.one {w:World} {base:Nat} {v:Value} {k:List Int} (h:OwnK w base v k):v.oneCell'=true:=by
 obtain ⟨A,c,rfl,_⟩:=own_form h
 rfl
theorem OwnK.form {w:World} {base:Nat} {v:Value} {k:List Int} (h:OwnK w base v k): ∃A n c,v= .slice A n c:=by
 obtain ⟨A,c,rfl,_⟩:=own_form h
 exact ⟨_,_,_,rfl⟩
theorem one_newV (w:World) (v:Value) (t:TypeId):Rd (w.alloc (.cells #[v] t)) (w.alloc (.cells #[v] t)).heap.size 1 (some ⟨w.heap.size,0,none⟩) 1 [v]:=by
 refine ⟨rfl,fun _=>⟨_,_,rfl,by simp,fun j u hu=> ?_⟩⟩
 have:=World.news_of_block (heap_alloc_new w (.cells #[v] t)) j u (by simpa using hu)
 rwa [addr_add] at this
set_option maxRecDepth 100000 in
set_option maxHeartbeats 4000000 in
theorem rKeys1_ok (c:Cfg) (A1 A2 A3 A4 A5:Option Addr) (c1 c2 c3 c4 c5:Nat) (w:World) (hR:CfgR w w.heap.size c A1 A2 A3 A4 A5 c1 c2 c3 c4 c5) (hok:c.ok) (hs:c.small):Calls Tryz.prog 58 #[cfgV c.frame A1 A2 A3 A4 A5 c.parts.length c.wins.length c.regs.length c.ports.length c.chans.length c1 c2 c3 c4 c5, .int .i64 1] w fun e w'=> ∃v,e= .returned v∧KeysO w' w.heap.size v (c.parts.map keyPar)∧Below w.heap.size w w':=by
 obtain ⟨i0,hi,hz0,hz1,hz2⟩:=info_parts info_keys
 obtain ⟨W0,hW,st⟩:=St.start_any hR 29
 have HW:=Lib.hid hW
 have ST0:=Lib.hid st
 have HOK:=Lib.hid hok.parts
 have HS:=Lib.hid hs
 have hlen:c.parts.length≤1048576:=hs.bd.p
 clear hR hW st hok hs
 go_enter Tryz.func58,Tryz.ntmps58
 go_upto_region 1 with (fail)
 rw [HW.out]
 go_wp2
 go_loopw [5,6] (fun o i wr=> ∃k:Nat,k≤c.parts.length∧i= .int .i64 k∧Hid (KeysO wr (w.heap.size+1) o ((c.parts.take k).map keyPar))∧Hid (St w (wr) c A1 A2 A3 A4 A5 c1 c2 c3 c4 c5)) (fun _ i _=>c.parts.length -(intOf i).toNat)
 case atStart=>exact ⟨0,Nat.zero_le _,rfl,Lib.hid (KeysO.nil _ _),ST0⟩
 case round=>
  obtain ⟨k,hk,rfl,HK,STk⟩:=hrel
  obtain ⟨q0,q1,q2,q3,q4,q5,hz⟩:=STk.out.cells
  have hszk:=STk.out.bel.size
  obtain ⟨oA,oc,rfl⟩:=HK.out.form
  by_cases hlt:k <c.parts.length
  ·obtain ⟨x,hx⟩:=get_lt hlt
   have HX:=Lib.hid hx
   have HXO:=Lib.hid (HOK.out x (List.mem_of_getElem? hx))
   have hsn:x.name.size≤4194304:=by
    have:=HS.out.pnames x (List.mem_of_getElem? hx)
    unfold BIG at this
    omega
   have HSN:=Lib.hid hsn
   clear hsn
   obtain ⟨b,o,rfl,hb,g0,g1,g2,g3⟩:=par_at STk.out.R.parts hx
   clear hx
   have n0:(0:Int)≤(k:Int):=by omega
   have n1:(k:Int) <(c.parts.length:Int):=by omega
   go_wp2_with fail
   refine (rPar_ok x HXO.out HSN.out _).mono ?_
   rintro e w2 ⟨v2,rfl,hv2,hb2⟩
   obtain ⟨A2,n2,m2,rfl⟩:=OwnK.form hv2
   have HV2:=Lib.hid (show OwnK w2 (w.heap.size+1) (.slice A2 n2 m2) (keyPar x) from own_lessC hv2 hz)
   have HK2:=Lib.hid (HK.out.below hb2)
   have ST2:=Lib.hid (STk.out.up hb2)
   clear hv2 hb2 q0 q1 q2 q3 q4 q5
   have hsz2:=ST2.out.bel.size
   have hzz:=ST2.out.z
   obtain ⟨cs2,hcs2,hown2⟩:=HK2.out
   have HO2:=Lib.hid (own_below hown2 (below_one w2 (.cells #[.slice A2 n2 m2] 114)))
   have HCS:=Lib.hid hcs2
   have hv1:(Value.slice A2 n2 m2).oneCell'=true:=OwnK.one HV2.out
   have HL:=Lib.hid (show ((c.parts.take k).map keyPar).length=k by simp;omega)
   clear hcs2 hown2
   rw [HL.out] at HO2
   go_wp2_with (at_builtin;go_loud (refine wpList_append_rd _ rfl (.tmp 21) (.tmp 28) _ rfl (w.heap.size+1) 114 i0 (.slice none 0 0) 1 24 Tryz.underlying111 hi hz0 hz1 hz2 rfl (by decide) (.slice oA k oc) k cs2 (by rfl) HO2.out (w2.alloc (.cells #[.slice A2 n2 m2] 114)).heap.size (some ⟨w2.heap.size,0,none⟩) 1 1 _ (by rfl) (one_newV w2 (.slice A2 n2 m2) 114) (by intro u hu;simp at hu;subst hu;exact hv1) (by unfold maxLen;omega) (by omega) (by simp;omega) ?_);intro v' w3 hown hg)
   have hba:=below_one w2 (.cells #[.slice A2 n2 m2] 114)
   have ST3:=Lib.hid ((ST2.out.up hba).keep (below_own (Below.refl (w.heap.size+1) _) hg HO2.out (by have:=(ST2.out.up hba).z;omega)))
   have hoff:=Off.of_own HO2.out hg
   have HK3:=Lib.hid (show KeysO w3 (w.heap.size+1) v' ((c.parts.take (k+1)).map keyPar) by
    rw [take_next HX.out,List.map_append]
    refine ⟨cs2++ [.slice A2 n2 m2], ?_, ?_⟩
    ·exact RowsK.snoc (own_off (own_below HV2.out hba) hoff (by decide)) ((HCS.out.below hba).off hoff)
    ·rw [List.length_append,HL.out];exact hown)
   clear hown hg hoff hba hv1
   go_roundw
   case rel=>exact ⟨k+1,by omega,by go_num,HK3,ST3⟩
   case measure=>simp [intOf];omega
  ·obtain rfl:k=c.parts.length:=by omega
   go_wp2
   have HK3:=Lib.hid (show KeysO wr w.heap.size (.slice oA ((c.parts.take c.parts.length).map keyPar).length oc) (c.parts.map keyPar) by
    have h:=HK.out.less (Nat.le_succ w.heap.size)
    rw [List.take_of_length_le (Nat.le_refl _)] at h ⊢
    exact h)
   go_ret
   exact ⟨_,rfl,HK3.out,STk.out.bel⟩
set_option maxRecDepth 100000 in
set_option maxHeartbeats 4000000 in
theorem rKeys2_ok (c:Cfg) (A1 A2 A3 A4 A5:Option Addr) (c1 c2 c3 c4 c5:Nat) (w:World) (hR:CfgR w w.heap.size c A1 A2 A3 A4 A5 c1 c2 c3 c4 c5) (hok:c.ok) (hs:c.small):Calls Tryz.prog 58 #[cfgV c.frame A1 A2 A3 A4 A5 c.parts.length c.wins.length c.regs.length c.ports.length c.chans.length c1 c2 c3 c4 c5, .int .i64 2] w fun e w'=> ∃v,e= .returned v∧KeysO w' w.heap.size v (c.wins.map keyWin)∧Below w.heap.size w w':=by
 obtain ⟨i0,hi,hz0,hz1,hz2⟩:=info_parts info_keys
 obtain ⟨W0,hW,st⟩:=St.start_any hR 29
 have HW:=Lib.hid hW
 have ST0:=Lib.hid st
 have HOK:=Lib.hid hok.wins
 have HS:=Lib.hid hs
 have hlen:c.wins.length≤1048576:=hs.bd.w
 clear hR hW st hok hs
 go_enter Tryz.func58,Tryz.ntmps58
 go_upto_region 1 with (fail)
 rw [HW.out]
 go_wp2
 go_loopw [5,7] (fun o i wr=> ∃k:Nat,k≤c.wins.length∧i= .int .i64 k∧Hid (KeysO wr (w.heap.size+1) o ((c.wins.take k).map keyWin))∧Hid (St w (wr) c A1 A2 A3 A4 A5 c1 c2 c3 c4 c5)) (fun _ i _=>c.wins.length -(intOf i).toNat)
 case atStart=>exact ⟨0,Nat.zero_le _,rfl,Lib.hid (KeysO.nil _ _),ST0⟩
 case round=>
  obtain ⟨k,hk,rfl,HK,STk⟩:=hrel
  obtain ⟨q0,q1,q2,q3,q4,q5,hz⟩:=STk.out.cells
  have hszk:=STk.out.bel.size
  obtain ⟨oA,oc,rfl⟩:=HK.out.form
  by_cases hlt:k <c.wins.length
  ·obtain ⟨x,hx⟩:=get_lt hlt
   have HX:=Lib.hid hx
   have HXO:=Lib.hid (HOK.out x (List.mem_of_getElem? hx))
   obtain ⟨b,o,rfl,hb,g0,g1,g2⟩:=win_at STk.out.R.wins hx
   clear hx
   have n0:(0:Int)≤(k:Int):=by omega
   have n1:(k:Int) <(c.wins.length:Int):=by omega
   go_wp2_with fail
   refine (rWin_ok x HXO.out _).mono ?_
   rintro e w2 ⟨v2,rfl,hv2,hb2⟩
   obtain ⟨A2,n2,m2,rfl⟩:=OwnK.form hv2
   have HV2:=Lib.hid (show OwnK w2 (w.heap.size+1) (.slice A2 n2 m2) (keyWin x) from own_lessC hv2 hz)
   have HK2:=Lib.hid (HK.out.below hb2)
   have ST2:=Lib.hid (STk.out.up hb2)
   clear hv2 hb2 q0 q1 q2 q3 q4 q5
   have hsz2:=ST2.out.bel.size
   have hzz:=ST2.out.z
   obtain ⟨cs2,hcs2,hown2⟩:=HK2.out
   have HO2:=Lib.hid (own_below hown2 (below_one w2 (.cells #[.slice A2 n2 m2] 114)))
   have HCS:=Lib.hid hcs2
   have hv1:(Value.slice A2 n2 m2).oneCell'=true:=OwnK.one HV2.out
   have HL:=Lib.hid (show ((c.wins.take k).map keyWin).length=k by simp;omega)
   clear hcs2 hown2
   rw [HL.out] at HO2
   go_wp2_with (at_builtin;go_loud (refine wpList_append_rd _ rfl (.tmp 39) (.tmp 46) _ rfl (w.heap.size+1) 114 i0 (.slice none 0 0) 1 24 Tryz.underlying111 hi hz0 hz1 hz2 rfl (by decide) (.slice oA k oc) k cs2 (by rfl) HO2.out (w2.alloc (.cells #[.slice A2 n2 m2] 114)).heap.size (some ⟨w2.heap.size,0,none⟩) 1 1 _ (by rfl) (one_newV w2 (.slice A2 n2 m2) 114) (by intro u hu;simp at hu;subst hu;exact hv1) (by unfold maxLen;omega) (by omega) (by simp;omega) ?_);intro v' w3 hown hg)
   have hba:=below_one w2 (.cells #[.slice A2 n2 m2] 114)
   have ST3:=Lib.hid ((ST2.out.up hba).keep (below_own (Below.refl (w.heap.size+1) _) hg HO2.out (by have:=(ST2.out.up hba).z;omega)))
   have hoff:=Off.of_own HO2.out hg
   have HK3:=Lib.hid (show KeysO w3 (w.heap.size+1) v' ((c.wins.take (k+1)).map keyWin) by
    rw [take_next HX.out,List.map_append]
    refine ⟨cs2++ [.slice A2 n2 m2], ?_, ?_⟩
    ·exact RowsK.snoc (own_off (own_below HV2.out hba) hoff (by decide)) ((HCS.out.below hba).off hoff)
    ·rw [List.length_append,HL.out];exact hown)
   clear hown hg hoff hba hv1
   go_roundw
   case rel=>exact ⟨k+1,by omega,by go_num,HK3,ST3⟩
   case measure=>simp [intOf];omega
  ·obtain rfl:k=c.wins.length:=by omega
   go_wp2
   have HK3:=Lib.hid (show KeysO wr w.heap.size (.slice oA ((c.wins.take c.wins.length).map keyWin).length oc) (c.wins.map keyWin) by
    have h:=HK.out.less (Nat.le_succ w.heap.size)
    rw [List.take_of_length_le (Nat.le_refl _)] at h ⊢
    exact h)
   go_ret
   exact ⟨_,rfl,HK3.out,STk.out.bel⟩
set_option maxRecDepth 100000 in
set_option maxHeartbeats 4000000 in
theorem rKeys3_ok (c:Cfg) (A1 A2 A3 A4 A5:Option Addr) (c1 c2 c3 c4 c5:Nat) (w:World) (hR:CfgR w w.heap.size c A1 A2 A3 A4 A5 c1 c2 c3 c4 c5) (hok:c.ok) (hs:c.small):Calls Tryz.prog 58 #[cfgV c.frame A1 A2 A3 A4 A5 c.parts.length c.wins.length c.regs.length c.ports.length c.chans.length c1 c2 c3 c4 c5, .int .i64 3] w fun e w'=> ∃v,e= .returned v∧KeysO w' w.heap.size v (c.regs.map keyReg)∧Below w.heap.size w w':=by
 obtain ⟨i0,hi,hz0,hz1,hz2⟩:=info_parts info_keys
 obtain ⟨W0,hW,st⟩:=St.start_any hR 29
 have HW:=Lib.hid hW
 have ST0:=Lib.hid st
 have HOK:=Lib.hid hok.regs
 have HS:=Lib.hid hs
 have hlen:c.regs.length≤1048576:=hs.bd.r
 clear hR hW st hok hs
 go_enter Tryz.func58,Tryz.ntmps58
 go_upto_region 1 with (fail)
 rw [HW.out]
 go_wp2
 go_loopw [5,8] (fun o i wr=> ∃k:Nat,k≤c.regs.length∧i= .int .i64 k∧Hid (KeysO wr (w.heap.size+1) o ((c.regs.take k).map keyReg))∧Hid (St w (wr) c A1 A2 A3 A4 A5 c1 c2 c3 c4 c5)) (fun _ i _=>c.regs.length -(intOf i).toNat)
 case atStart=>exact ⟨0,Nat.zero_le _,rfl,Lib.hid (KeysO.nil _ _),ST0⟩
 case round=>
  obtain ⟨k,hk,rfl,HK,STk⟩:=hrel
  obtain ⟨q0,q1,q2,q3,q4,q5,hz⟩:=STk.out.cells
  have hszk:=STk.out.bel.size
  obtain ⟨oA,oc,rfl⟩:=HK.out.form
  by_cases hlt:k <c.regs.length
  ·obtain ⟨x,hx⟩:=get_lt hlt
   have HX:=Lib.hid hx
   have HXO:=Lib.hid (HOK.out x (List.mem_of_getElem? hx))
   obtain ⟨b,o,rfl,hb,g0,g1,g2,g3,g4⟩:=reg_at STk.out.R.regs hx
   clear hx
   have n0:(0:Int)≤(k:Int):=by omega
   have n1:(k:Int) <(c.regs.length:Int):=by omega
   go_wp2_with fail
   refine (rReg_ok x HXO.out _).mono ?_
   rintro e w2 ⟨v2,rfl,hv2,hb2⟩
   obtain ⟨A2,n2,m2,rfl⟩:=OwnK.form hv2
   have HV2:=Lib.hid (show OwnK w2 (w.heap.size+1) (.slice A2 n2 m2) (keyReg x) from own_lessC hv2 hz)
   have HK2:=Lib.hid (HK.out.below hb2)
   have ST2:=Lib.hid (STk.out.up hb2)
   clear hv2 hb2 q0 q1 q2 q3 q4 q5
   have hsz2:=ST2.out.bel.size
   have hzz:=ST2.out.z
   obtain ⟨cs2,hcs2,hown2⟩:=HK2.out
   have HO2:=Lib.hid (own_below hown2 (below_one w2 (.cells #[.slice A2 n2 m2] 114)))
   have HCS:=Lib.hid hcs2
   have hv1:(Value.slice A2 n2 m2).oneCell'=true:=OwnK.one HV2.out
   have HL:=Lib.hid (show ((c.regs.take k).map keyReg).length=k by simp;omega)
   clear hcs2 hown2
   rw [HL.out] at HO2
   go_wp2_with (at_builtin;go_loud (refine wpList_append_rd _ rfl (.tmp 57) (.tmp 64) _ rfl (w.heap.size+1) 114 i0 (.slice none 0 0) 1 24 Tryz.underlying111 hi hz0 hz1 hz2 rfl (by decide) (.slice oA k oc) k cs2 (by rfl) HO2.out (w2.alloc (.cells #[.slice A2 n2 m2] 114)).heap.size (some ⟨w2.heap.size,0,none⟩) 1 1 _ (by rfl) (one_newV w2 (.slice A2 n2 m2) 114) (by intro u hu;simp at hu;subst hu;exact hv1) (by unfold maxLen;omega) (by omega) (by simp;omega) ?_);intro v' w3 hown hg)
   have hba:=below_one w2 (.cells #[.slice A2 n2 m2] 114)
   have ST3:=Lib.hid ((ST2.out.up hba).keep (below_own (Below.refl (w.heap.size+1) _) hg HO2.out (by have:=(ST2.out.up hba).z;omega)))
   have hoff:=Off.of_own HO2.out hg
   have HK3:=Lib.hid (show KeysO w3 (w.heap.size+1) v' ((c.regs.take (k+1)).map keyReg) by
    rw [take_next HX.out,List.map_append]
    refine ⟨cs2++ [.slice A2 n2 m2], ?_, ?_⟩
    ·exact RowsK.snoc (own_off (own_below HV2.out hba) hoff (by decide)) ((HCS.out.below hba).off hoff)
    ·rw [List.length_append,HL.out];exact hown)
   clear hown hg hoff hba hv1
   go_roundw
   case rel=>exact ⟨k+1,by omega,by go_num,HK3,ST3⟩
   case measure=>simp [intOf];omega
  ·obtain rfl:k=c.regs.length:=by omega
   go_wp2
   have HK3:=Lib.hid (show KeysO wr w.heap.size (.slice oA ((c.regs.take c.regs.length).map keyReg).length oc) (c.regs.map keyReg) by
    have h:=HK.out.less (Nat.le_succ w.heap.size)
    rw [List.take_of_length_le (Nat.le_refl _)] at h ⊢
    exact h)
   go_ret
   exact ⟨_,rfl,HK3.out,STk.out.bel⟩
set_option maxRecDepth 100000 in
set_option maxHeartbeats 4000000 in
theorem rKeys4_ok (c:Cfg) (A1 A2 A3 A4 A5:Option Addr) (c1 c2 c3 c4 c5:Nat) (w:World) (hR:CfgR w w.heap.size c A1 A2 A3 A4 A5 c1 c2 c3 c4 c5) (hok:c.ok) (hs:c.small):Calls Tryz.prog 58 #[cfgV c.frame A1 A2 A3 A4 A5 c.parts.length c.wins.length c.regs.length c.ports.length c.chans.length c1 c2 c3 c4 c5, .int .i64 4] w fun e w'=> ∃v,e= .returned v∧KeysO w' w.heap.size v (c.ports.map keyPrt)∧Below w.heap.size w w':=by
 obtain ⟨i0,hi,hz0,hz1,hz2⟩:=info_parts info_keys
 obtain ⟨W0,hW,st⟩:=St.start_any hR 29
 have HW:=Lib.hid hW
 have ST0:=Lib.hid st
 have HOK:=Lib.hid hok.ports
 have HS:=Lib.hid hs
 have hlen:c.ports.length≤1048576:=hs.bd.t
 clear hR hW st hok hs
 go_enter Tryz.func58,Tryz.ntmps58
 go_upto_region 1 with (fail)
 rw [HW.out]
 go_wp2
 go_loopw [5,9] (fun o i wr=> ∃k:Nat,k≤c.ports.length∧i= .int .i64 k∧Hid (KeysO wr (w.heap.size+1) o ((c.ports.take k).map keyPrt))∧Hid (St w (wr) c A1 A2 A3 A4 A5 c1 c2 c3 c4 c5)) (fun _ i _=>c.ports.length -(intOf i).toNat)
 case atStart=>exact ⟨0,Nat.zero_le _,rfl,Lib.hid (KeysO.nil _ _),ST0⟩
 case round=>
  obtain ⟨k,hk,rfl,HK,STk⟩:=hrel
  obtain ⟨q0,q1,q2,q3,q4,q5,hz⟩:=STk.out.cells
  have hszk:=STk.out.bel.size
  obtain ⟨oA,oc,rfl⟩:=HK.out.form
  by_cases hlt:k <c.ports.length
  ·obtain ⟨x,hx⟩:=get_lt hlt
   have HX:=Lib.hid hx
   have HXO:=Lib.hid (HOK.out x (List.mem_of_getElem? hx))
   have hsn:x.name.size≤4194304:=by
    have:=HS.out.tnames x (List.mem_of_getElem? hx)
    unfold BIG at this
    omega
   have HSN:=Lib.hid hsn
   clear hsn
   obtain ⟨b,o,rfl,hb,g0,g1,g2,g3,g4,g5⟩:=prt_at STk.out.R.ports hx
   clear hx
   have n0:(0:Int)≤(k:Int):=by omega
   have n1:(k:Int) <(c.ports.length:Int):=by omega
   go_wp2_with fail
   refine (rPrt_ok x HXO.out HSN.out _).mono ?_
   rintro e w2 ⟨v2,rfl,hv2,hb2⟩
   obtain ⟨A2,n2,m2,rfl⟩:=OwnK.form hv2
   have HV2:=Lib.hid (show OwnK w2 (w.heap.size+1) (.slice A2 n2 m2) (keyPrt x) from own_lessC hv2 hz)
   have HK2:=Lib.hid (HK.out.below hb2)
   have ST2:=Lib.hid (STk.out.up hb2)
   clear hv2 hb2 q0 q1 q2 q3 q4 q5
   have hsz2:=ST2.out.bel.size
   have hzz:=ST2.out.z
   obtain ⟨cs2,hcs2,hown2⟩:=HK2.out
   have HO2:=Lib.hid (own_below hown2 (below_one w2 (.cells #[.slice A2 n2 m2] 114)))
   have HCS:=Lib.hid hcs2
   have hv1:(Value.slice A2 n2 m2).oneCell'=true:=OwnK.one HV2.out
   have HL:=Lib.hid (show ((c.ports.take k).map keyPrt).length=k by simp;omega)
   clear hcs2 hown2
   rw [HL.out] at HO2
   go_wp2_with (at_builtin;go_loud (refine wpList_append_rd _ rfl (.tmp 75) (.tmp 82) _ rfl (w.heap.size+1) 114 i0 (.slice none 0 0) 1 24 Tryz.underlying111 hi hz0 hz1 hz2 rfl (by decide) (.slice oA k oc) k cs2 (by rfl) HO2.out (w2.alloc (.cells #[.slice A2 n2 m2] 114)).heap.size (some ⟨w2.heap.size,0,none⟩) 1 1 _ (by rfl) (one_newV w2 (.slice A2 n2 m2) 114) (by intro u hu;simp at hu;subst hu;exact hv1) (by unfold maxLen;omega) (by omega) (by simp;omega) ?_);intro v' w3 hown hg)
   have hba:=below_one w2 (.cells #[.slice A2 n2 m2] 114)
   have ST3:=Lib.hid ((ST2.out.up hba).keep (below_own (Below.refl (w.heap.size+1) _) hg HO2.out (by have:=(ST2.out.up hba).z;omega)))
   have hoff:=Off.of_own HO2.out hg
   have HK3:=Lib.hid (show KeysO w3 (w.heap.size+1) v' ((c.ports.take (k+1)).map keyPrt) by
    rw [take_next HX.out,List.map_append]
    refine ⟨cs2++ [.slice A2 n2 m2], ?_, ?_⟩
    ·exact RowsK.snoc (own_off (own_below HV2.out hba) hoff (by decide)) ((HCS.out.below hba).off hoff)
    ·rw [List.length_append,HL.out];exact hown)
   clear hown hg hoff hba hv1
   go_roundw
   case rel=>exact ⟨k+1,by omega,by go_num,HK3,ST3⟩
   case measure=>simp [intOf];omega
  ·obtain rfl:k=c.ports.length:=by omega
   go_wp2
   have HK3:=Lib.hid (show KeysO wr w.heap.size (.slice oA ((c.ports.take c.ports.length).map keyPrt).length oc) (c.ports.map keyPrt) by
    have h:=HK.out.less (Nat.le_succ w.heap.size)
    rw [List.take_of_length_le (Nat.le_refl _)] at h ⊢
    exact h)
   go_ret
   exact ⟨_,rfl,HK3.out,STk.out.bel⟩
set_option maxRecDepth 100000 in
set_option maxHeartbeats 4000000 in
theorem rKeys5_ok (c:Cfg) (A1 A2 A3 A4 A5:Option Addr) (c1 c2 c3 c4 c5:Nat) (w:World) (hR:CfgR w w.heap.size c A1 A2 A3 A4 A5 c1 c2 c3 c4 c5) (hok:c.ok) (hs:c.small):Calls Tryz.prog 58 #[cfgV c.frame A1 A2 A3 A4 A5 c.parts.length c.wins.length c.regs.length c.ports.length c.chans.length c1 c2 c3 c4 c5, .int .i64 5] w fun e w'=> ∃v,e= .returned v∧KeysO w' w.heap.size v (c.chans.map keyChn)∧Below w.heap.size w w':=by
 obtain ⟨i0,hi,hz0,hz1,hz2⟩:=info_parts info_keys
 obtain ⟨W0,hW,st⟩:=St.start_any hR 29
 have HW:=Lib.hid hW
 have ST0:=Lib.hid st
 have HOK:=Lib.hid hok.chans
 have HS:=Lib.hid hs
 have hlen:c.chans.length≤1048576:=hs.bd.x
 clear hR hW st hok hs
 go_enter Tryz.func58,Tryz.ntmps58
 go_upto_region 1 with (fail)
 rw [HW.out]
 go_wp2
 go_loopw [5,10] (fun o i wr=> ∃k:Nat,k≤c.chans.length∧i= .int .i64 k∧Hid (KeysO wr (w.heap.size+1) o ((c.chans.take k).map keyChn))∧Hid (St w (wr) c A1 A2 A3 A4 A5 c1 c2 c3 c4 c5)) (fun _ i _=>c.chans.length -(intOf i).toNat)
 case atStart=>exact ⟨0,Nat.zero_le _,rfl,Lib.hid (KeysO.nil _ _),ST0⟩
 case round=>
  obtain ⟨k,hk,rfl,HK,STk⟩:=hrel
  obtain ⟨q0,q1,q2,q3,q4,q5,hz⟩:=STk.out.cells
  have hszk:=STk.out.bel.size
  obtain ⟨oA,oc,rfl⟩:=HK.out.form
  by_cases hlt:k <c.chans.length
  ·obtain ⟨x,hx⟩:=get_lt hlt
   have HX:=Lib.hid hx
   have HXO:=Lib.hid (HOK.out x (List.mem_of_getElem? hx))
   have HSN:=Lib.hid (HS.out.bd.d x (List.mem_of_getElem? hx))
   obtain ⟨cs,hcs,hrd⟩:=STk.out.R.chans
   obtain ⟨b,o,rfl,hb,g0,g1,D,d,g2,_,_,hD⟩:=chn_at hcs hrd hx
   have HD:=Lib.hid hD
   clear hcs hrd hx hD
   have n0:(0:Int)≤(k:Int):=by omega
   have n1:(k:Int) <(c.chans.length:Int):=by omega
   go_wp2_with fail
   refine (rChn_ok x HXO.out D d _ HD.out HSN.out).mono ?_
   rintro e w2 ⟨v2,rfl,hv2,hb2⟩
   obtain ⟨A2,n2,m2,rfl⟩:=OwnK.form hv2
   have HV2:=Lib.hid (show OwnK w2 (w.heap.size+1) (.slice A2 n2 m2) (keyChn x) from own_lessC hv2 hz)
   have HK2:=Lib.hid (HK.out.below hb2)
   have ST2:=Lib.hid (STk.out.up hb2)
   clear hv2 hb2 q0 q1 q2 q3 q4 q5
   have hsz2:=ST2.out.bel.size
   have hzz:=ST2.out.z
   obtain ⟨cs2,hcs2,hown2⟩:=HK2.out
   have HO2:=Lib.hid (own_below hown2 (below_one w2 (.cells #[.slice A2 n2 m2] 114)))
   have HCS:=Lib.hid hcs2
   have hv1:(Value.slice A2 n2 m2).oneCell'=true:=OwnK.one HV2.out
   have HL:=Lib.hid (show ((c.chans.take k).map keyChn).length=k by simp;omega)
   clear hcs2 hown2
   rw [HL.out] at HO2
   go_wp2_with (at_builtin;go_loud (refine wpList_append_rd _ rfl (.tmp 93) (.tmp 100) _ rfl (w.heap.size+1) 114 i0 (.slice none 0 0) 1 24 Tryz.underlying111 hi hz0 hz1 hz2 rfl (by decide) (.slice oA k oc) k cs2 (by rfl) HO2.out (w2.alloc (.cells #[.slice A2 n2 m2] 114)).heap.size (some ⟨w2.heap.size,0,none⟩) 1 1 _ (by rfl) (one_newV w2 (.slice A2 n2 m2) 114) (by intro u hu;simp at hu;subst hu;exact hv1) (by unfold maxLen;omega) (by omega) (by simp;omega) ?_);intro v' w3 hown hg)
   have hba:=below_one w2 (.cells #[.slice A2 n2 m2] 114)
   have ST3:=Lib.hid ((ST2.out.up hba).keep (below_own (Below.refl (w.heap.size+1) _) hg HO2.out (by have:=(ST2.out.up hba).z;omega)))
   have hoff:=Off.of_own HO2.out hg
   have HK3:=Lib.hid (show KeysO w3 (w.heap.size+1) v' ((c.chans.take (k+1)).map keyChn) by
    rw [take_next HX.out,List.map_append]
    refine ⟨cs2++ [.slice A2 n2 m2], ?_, ?_⟩
    ·exact RowsK.snoc (own_off (own_below HV2.out hba) hoff (by decide)) ((HCS.out.below hba).off hoff)
    ·rw [List.length_append,HL.out];exact hown)
   clear hown hg hoff hba hv1
   go_roundw
   case rel=>exact ⟨k+1,by omega,by go_num,HK3,ST3⟩
   case measure=>simp [intOf];omega
  ·obtain rfl:k=c.chans.length:=by omega
   go_wp2
   have HK3:=Lib.hid (show KeysO wr w.heap.size (.slice oA ((c.chans.take c.chans.length).map keyChn).length oc) (c.chans.map keyChn) by
    have h:=HK.out.less (Nat.le_succ w.heap.size)
    rw [List.take_of_length_le (Nat.le_refl _)] at h ⊢
    exact h)
   go_ret
   exact ⟨_,rfl,HK3.out,STk.out.bel⟩
end Go.Proofs.YtcfoolooemhbeaaGreat
namespace Go.Proofs.YtcfoolooemhbeaaGreat
open Go.RowKit
theorem run_sizeOf {P:Program} {e:TypeId} {i:TypeInfo} {sz:Nat} (hi:P.info? e=some i) (hs:i.size=sz) (W:World):(sizeOf e).run P W= .ok sz W:=by
 simp [sizeOf,typeInfo,hi,hs]
theorem slice_pre {P:Program} {t:TypeId} {sz:Nat} (ht:P.underlying t=some (.slice (P.elem t))) (hz: ∀W,(sizeOf (P.elem t)).run P W= .ok sz W) {w:World} {B:Nat} {A:Option Addr} {n c:Nat} {xs:List Value} (h:Rd w B sz A n xs) (hc:n≤c) (m:Nat) (hm:m≤n):
  ∃A1 c1,(∀W,(Instr.slice t (.slice A n c) none (some (.int .i64 m)) none).run P W= .ok (.slice A1 m c1) W)∧Rd w B sz A1 m (xs.take (m*sz))∧m≤c1∧c1≤c:=by
 refine ⟨if c=0 then A else A.map (·.add (0*sz)),c,fun W=> ?_,⟨?_,fun h0=> ?_⟩,by omega,Nat.le_refl _⟩
 ·rw [run_slice_h (P:=P) W t A n c ht .i64 m (by omega) (by omega),hz]
  simp [Result.andThen,sliced]
 ·rw [List.length_take,h.1]
  exact Nat.min_eq_left (Nat.mul_le_mul_right _ hm)
 ·obtain ⟨b,o,rfl,hb,hcell⟩:=h.2 (by omega)
  refine ⟨b,o, ?_,hb,fun j u hu=>hcell j u ?_⟩
  ·rw [if_neg (by omega)]
   simp [addr_add]
  ·rw [List.getElem?_take] at hu
   split at hu
   ·exact hu
   ·cases hu
theorem slice_suf {P:Program} {t:TypeId} {sz:Nat} (ht:P.underlying t=some (.slice (P.elem t))) (hz: ∀W,(sizeOf (P.elem t)).run P W= .ok sz W) {w:World} {B:Nat} {A:Option Addr} {n c:Nat} {xs:List Value} (h:Rd w B sz A n xs) (hc:n≤c) (m:Nat) (hm:m≤n):
  ∃A1 c1,(∀W,(Instr.slice t (.slice A n c) (some (.int .i64 m)) none none).run P W= .ok (.slice A1 (n -m) c1) W)∧Rd w B sz A1 (n -m) (xs.drop (m*sz))∧n -m≤c1∧c1≤c:=by
 refine ⟨if c=m then A else A.map (·.add (m*sz)),c -m,fun W=> ?_,⟨?_,fun h0=> ?_⟩,by omega,by omega⟩
 ·rw [run_slice_l (P:=P) W t A n c ht .i64 m (by omega) (by omega),hz]
  simp [Result.andThen,sliced]
 ·rw [List.length_drop,h.1,Nat.sub_mul]
 ·obtain ⟨b,o,rfl,hb,hcell⟩:=h.2 (by omega)
  refine ⟨b,o+m*sz, ?_,hb,fun j u hu=> ?_⟩
  ·rw [if_neg (by omega)]
   simp [addr_add]
  ·rw [List.getElem?_drop] at hu
   have:=hcell _ u hu
   rwa [←Nat.add_assoc] at this
theorem ins_pw {α:Type} {R:α→α→Prop} (tr: ∀a b c,R a b→R b c→R a c) {o:List α} (h:o.Pairwise R) (x:α) (m:Nat) (h1: ∀y ∈ o.drop m,R x y) (h2:m=0∨ ∃y,o[m -1]? =some y∧R y x):(o.take m++x::o.drop m).Pairwise R:=by
 have hs:o.take m++o.drop m=o:=List.take_append_drop m o
 rw [←hs] at h
 obtain ⟨p1,p2,p3⟩:=List.pairwise_append.1 h
 refine List.pairwise_append.2 ⟨p1,List.pairwise_cons.2 ⟨h1,p2⟩,fun a ha b hb=> ?_⟩
 have hax:R a x:=by
  rcases h2 with rfl |⟨y,hy,hyx⟩
  ·simp at ha
  ·rcases Nat.eq_zero_or_pos m with rfl |hm
   ·simp at ha
   ·obtain ⟨i,hi⟩:=List.getElem?_of_mem ha
    rw [List.getElem?_take] at hi
    split at hi
    ·rename_i him
     rcases Nat.lt_or_ge i (m -1) with hlt |hge
     ·have hp:=List.pairwise_iff_getElem.1 (hs▸h)
      obtain ⟨hi1,rfl⟩:=List.getElem?_eq_some_iff.1 hi
      obtain ⟨hy1,rfl⟩:=List.getElem?_eq_some_iff.1 hy
      exact tr _ _ _ (hp i (m -1) hi1 hy1 hlt) hyx
     ·have:i=m -1:=by omega
      subst this
      rw [hy] at hi
      injection hi with hi
      subst hi
      exact hyx
    ·cases hi
 rcases List.mem_cons.1 hb with rfl |hb
 ·exact hax
 ·exact tr _ _ _ hax (h1 b hb)
theorem ins_perm {α:Type} (o:List α) (x:α) (m:Nat):(o.take m++x::o.drop m).Perm (x::o):=by
 have:=List.perm_middle (a:=x) (l₁:=o.take m) (l₂:=o.drop m)
 rwa [List.take_append_drop] at this
theorem own_litV (w:World) (base:Nat) (E:TypeId) (l:List Value) (b n:Nat) (hb:base≤w.heap.size) (hbk:w.heap.size=b) (hl:l.length≤maxLen) (hn:n=l.length) (cs:Array Value) (hc:cs=l.toArray):
  (w.alloc (.cells cs E)).ownsRow base E 1 (.slice (some ⟨b,0,none⟩) n n) l.length l:=by
 subst hbk hn hc
 exact ⟨by simp, .inr ⟨w.heap.size,l.length,l.toArray,rfl,hb,heap_alloc_new w _,Nat.le_refl _,hl,by simp,by rw [Nat.mul_one];rw [List.take_of_length_le (by simp)]⟩⟩
theorem step_appR {P:Program} (V:World) {w:World} {o:Oper} {a:Act} {K:Act→World→Prop} {Q:Exit→Act→World→Prop} {ys:Nat→Option Bool} (T E:TypeId) (i:TypeInfo) (z:Value) (bytes:Nat) (hT:P.underlying T=some (.slice E)) (hi:P.info? E=some i) (hz0:i.zero=some z) (hz1:i.size=1) (hz2:i.bytes=bytes) (hzs:z.cells.size=1)
  (hwt:Region.wanted o ys=true) (s x:Operand) (ho:o.op= .call {callee:= .builtin .append,args:= #[s,x],argTypes:= #[T,T]})
  (xs:List Value) (hown:w.ownsRow V.heap.size E 1 (a.eval s) xs.length xs)
  (B:Nat) (A:Option Addr) (m c:Nat) (news:List Value) (hx:a.eval x= .slice A m c) (hr:Rd w B 1 A m news) (h1: ∀u ∈ news,u.oneCell'=true)
  (hlen:(xs.length+m)*bytes≤140737488355328) (hlen2:xs.length+m≤maxLen) (hB:Below V.heap.size V w)
  (h: ∀v' w',w'.ownsRow V.heap.size E 1 v' (xs++news).length (xs++news)→w.grownBy w' (a.eval s).ownBlock→Below V.heap.size V w'→K (a.put o.dst v') w'):
  if Region.wanted o ys=true then Oper.wp P o a w K Q else K (a.put o.dst undef) w:=by
 rw [if_pos hwt]
 obtain ⟨v',w',hrun,h2,h3⟩:=run_append_rd (P:=P) w V.heap.size T o.type E i z 1 bytes hT hi hz0 hz1 hz2 hzs (by decide) (a.eval s) xs.length _ hown B A m c _ hr h1 hlen2 hlen hB.size
 unfold Oper.wp execOp
 simp only [ho,resolve,invoke,builtin,Sem.run_bind,Sem.run_pure,Result.andThen_ok,List.map_toArray,List.map_cons,List.map_nil,hx,hrun]
 have hm:news.length=m:=by simpa using hr.1
 exact h _ _ (by rw [List.length_append,hm];exact h2) h3 (below_own hB h3 hown hB.size)
theorem step_appO {P:Program} (V:World) {w:World} {o:Oper} {a:Act} {K:Act→World→Prop} {Q:Exit→Act→World→Prop} {ys:Nat→Option Bool} (T E:TypeId) (i:TypeInfo) (z:Value) (bytes:Nat) (hT:P.underlying T=some (.slice E)) (hi:P.info? E=some i) (hz0:i.zero=some z) (hz1:i.size=1) (hz2:i.bytes=bytes) (hzs:z.cells.size=1)
  (hwt:Region.wanted o ys=true) (s x:Operand) (ho:o.op= .call {callee:= .builtin .append,args:= #[s,x],argTypes:= #[T,T]})
  (xs:List Value) (hown:w.ownsRow V.heap.size E 1 (a.eval s) xs.length xs)
  (news:List Value) (hr:w.ownsRow V.heap.size E 1 (a.eval x) news.length news) (h1: ∀u ∈ news,u.oneCell'=true)
  (hlen:(xs.length+news.length)*bytes≤140737488355328) (hlen2:xs.length+news.length≤maxLen) (hB:Below V.heap.size V w)
  (h: ∀v' w',w'.ownsRow V.heap.size E 1 v' (xs++news).length (xs++news)→w.grownBy w' (a.eval s).ownBlock→Below V.heap.size V w'→K (a.put o.dst v') w'):
  if Region.wanted o ys=true then Oper.wp P o a w K Q else K (a.put o.dst undef) w:=by
 obtain ⟨A,c,hx,_,_,hrd⟩:=own_form hr
 exact step_appR V T E i z bytes hT hi hz0 hz1 hz2 hzs hwt s x ho xs hown w.heap.size A news.length c news hx hrd h1 hlen hlen2 hB h
end Go.Proofs.YtcfoolooemhbeaaGreat
namespace Go.Proofs.YtcfoolooemhbeaaGreat
open Go.RowKit
attribute [local go_sem] ext_cell
attribute [local simp] drew_heapK
theorem info_int64:(Tryz.prog.info? 3).map (fun i=>(i.zero,i.size,i.bytes))=some (some (.int .i64 0),1,8):=by kernel_rfl
def RowsI (w:World) (B:Nat):List (List Int)→List Value→Prop
 | [],cs=>cs= []
 |k::l,cs=> ∃D d r,cs= .slice D k.length d::r∧Rd w B 1 D k.length (k.map (Value.int .u64))∧RowsI w B l r
theorem RowsI.below {w w':World} {B:Nat} (hb:Below B w w'): ∀ {l:List (List Int)} {cs:List Value},RowsI w B l cs→RowsI w' B l cs
 | [],_,h=>h
 |_::_,_,⟨D,d,r,e,h1,h2⟩=>⟨D,d,r,e,h1.below hb,RowsI.below hb h2⟩
theorem RowsI.more {w:World} {B B':Nat} (hb:B≤B'): ∀ {l:List (List Int)} {cs:List Value},RowsI w B l cs→RowsI w B' l cs
 | [],_,h=>h
 |_::_,_,⟨D,d,r,e,h1,h2⟩=>⟨D,d,r,e,h1.more hb,RowsI.more hb h2⟩
theorem RowsI.of_own {w:World} {base:Nat}: ∀ {l:List (List Int)} {cs:List Value},RowsK w base l cs→RowsI w w.heap.size l cs
 | [],_,h=>h
 |_::_,_,⟨c,r,e,h1,h2⟩=>by
  obtain ⟨A,d,rfl,_,_,hr⟩:=own_form h1
  exact ⟨A,d,r,e,hr,RowsI.of_own h2⟩
theorem RowsI.at_ {w:World} {B:Nat}: ∀ {l:List (List Int)} {cs:List Value},RowsI w B l cs→ ∀ {i:Nat} {k:List Int},l[i]? =some k→ ∃D d,cs[i]? =some (.slice D k.length d)∧Rd w B 1 D k.length (k.map (Value.int .u64))
 | [],_,_,i,k,h=>by simp at h
 |_::_,_,⟨D,d,r,e,h1,h2⟩,0,k,h=>by subst e;simp at h;subst h;exact ⟨D,d,rfl,h1⟩
 |_::_,_,⟨D,d,r,e,h1,h2⟩,i+1,k,h=>by subst e;simpa using RowsI.at_ h2 (i:=i) (k:=k) (by simpa using h)
def KeysI (w:World) (B:Nat) (l:List (List Int)) (A:Option Addr):Prop:= ∃cs,RowsI w B l cs∧Rd w B 1 A l.length cs
theorem KeysI.below {w w':World} {B:Nat} {l:List (List Int)} {A:Option Addr} (h:KeysI w B l A) (hb:Below B w w'):KeysI w' B l A:=by
 obtain ⟨cs,h1,h2⟩:=h
 exact ⟨cs,h1.below hb,h2.below hb⟩
theorem KeysI.up {w w':World} {l:List (List Int)} {A:Option Addr} (h:KeysI w w.heap.size l A) (hb:Below w.heap.size w w'):KeysI w' w'.heap.size l A:=by
 obtain ⟨cs,h1,h2⟩:=h.below hb
 exact ⟨cs,h1.more hb.size,h2.more hb.size⟩
theorem KeysI.of_own {w:World} {base:Nat} {l:List (List Int)} {A:Option Addr} {n c:Nat} (h:KeysO w base (.slice A n c) l):n=l.length∧KeysI w w.heap.size l A:=by
 obtain ⟨cs,h1,h2⟩:=h
 obtain ⟨A',c',e,_,_,hr⟩:=own_form h2
 injection e with e1 e2 e3
 subst e1 e2
 exact ⟨rfl,cs,RowsI.of_own h1,hr⟩
theorem KeysI.addr {w:World} {B:Nat} {l:List (List Int)} {A:Option Addr} (h:KeysI w B l A) (hl:0 <l.length): ∃b o,A=some ⟨b,o,none⟩∧b <B:=by
 obtain ⟨cs,h1,h2⟩:=h
 obtain ⟨b,o,e,hb,_⟩:=h2.2 hl
 exact ⟨b,o,e,hb⟩
theorem KeysI.cell {w:World} {B:Nat} {l:List (List Int)} {b o:Nat} (h:KeysI w B l (some ⟨b,o,none⟩)) {i:Nat} {k:List Int} (hk:l[i]? =some k): ∃D d,w.cell? ⟨b,o+i,none⟩=some (.slice D k.length d)∧Rd w B 1 D k.length (k.map (Value.int .u64)):=by
 obtain ⟨cs,h1,h2⟩:=h
 obtain ⟨D,d,hc,hr⟩:=h1.at_ hk
 obtain ⟨b',o',e,_,hcell⟩:=h2.2 (by have:=(List.getElem?_eq_some_iff.1 hk).1;omega)
 injection e with e
 injection e with e1 e2
 subst e1 e2
 exact ⟨D,d,hcell _ _ hc,hr⟩
def iV (n:Nat):Value:= .int .i64 n
theorem iV_one (o:List Nat): ∀u ∈ o.map iV,u.oneCell'=true:=by
 intro u hu
 obtain ⟨z,_,rfl⟩:=List.mem_map.1 hu
 rfl
theorem nat_at {w:World} {B:Nat} {b o:Nat} {l:List Nat} (h:Rd w B 1 (some ⟨b,o,none⟩) l.length (l.map iV)) {k x:Nat} (hk:l[k]? =some x):w.cell? ⟨b,o+k,none⟩=some (.int .i64 x):=by
 have hlt:k <l.length:=(List.getElem?_eq_some_iff.1 hk).1
 obtain ⟨b',o',e,_,hc⟩:=h.2 (by omega)
 injection e with e
 injection e with e1 e2
 subst e1 e2
 exact hc k _ (by simp [hk,iV])
theorem intF_at {w:World} {B:Nat} {b o:Nat} {q:IntKind} {l:List Int} (h:Rd w B 1 (some ⟨b,o,none⟩) l.length (l.map (Value.int q))) {k:Nat} {x:Int} (hk:l[k]? =some x):w.cell? ⟨b,o+k,none⟩=some (.int q x):=by
 obtain ⟨b',o',e,_,hc⟩:=int_at h hk
 injection e with e
 injection e with e1 e2
 subst e1 e2
 exact hc
theorem i16_one (o:List Int): ∀u ∈ o.map (Value.int .u16),u.oneCell'=true:=by
 intro u hu
 obtain ⟨z,_,rfl⟩:=List.mem_map.1 hu
 rfl
theorem less_t {l m:List Int} (h:lessL l m=true) (A B:Option Addr) (a b:Nat) (w:World) (hl:l.length≤8388608) (hm:m.length≤8388608) (hA:Rd w w.heap.size 1 A l.length (l.map (Value.int .u64))) (hB:Rd w w.heap.size 1 B m.length (m.map (Value.int .u64))):
  Calls Tryz.prog 180 #[.slice A l.length a, .slice B m.length b] w fun e w'=>e= .returned (.bool true)∧Below w.heap.size w w':=by
 have:=rLess_ok l m A B a b w hl hm hA hB
 rwa [h] at this
theorem less_f {l m:List Int} (h:lessL l m=false) (A B:Option Addr) (a b:Nat) (w:World) (hl:l.length≤8388608) (hm:m.length≤8388608) (hA:Rd w w.heap.size 1 A l.length (l.map (Value.int .u64))) (hB:Rd w w.heap.size 1 B m.length (m.map (Value.int .u64))):
  Calls Tryz.prog 180 #[.slice A l.length a, .slice B m.length b] w fun e w'=>e= .returned (.bool false)∧Below w.heap.size w w':=by
 have:=rLess_ok l m A B a b w hl hm hA hB
 rwa [h] at this
def keyAt (l:List (List Int)) (i:Nat):List Int:=l.getD i []
theorem keyAt_eq {l:List (List Int)} {i:Nat} {k:List Int} (h:l[i]? =some k):keyAt l i=k:=by
 unfold keyAt;rw [List.getD_eq_getElem?_getD,h];rfl
def leAt (l:List (List Int)) (a b:Nat):Prop:=cmpL (keyAt l a) (keyAt l b)≤0
theorem leAt_trans (l:List (List Int)) (a b c:Nat) (h1:leAt l a b) (h2:leAt l b c):leAt l a c:=cmpL_trans h1 h2
structure OrdTo (l:List (List Int)) (k:Nat) (o:List Nat):Prop where
 perm:o.Perm (List.range k)
 asc:o.Pairwise (leAt l)
theorem OrdTo.lt {l:List (List Int)} {k:Nat} {o:List Nat} (h:OrdTo l k o) {i:Nat} (hi:i ∈ o):i <k:=by
 simpa using (h.perm.mem_iff.1 hi)
theorem OrdTo.len {l:List (List Int)} {k:Nat} {o:List Nat} (h:OrdTo l k o):o.length=k:=by
 simpa using h.perm.length_eq
theorem OrdTo.zero (l:List (List Int)):OrdTo l 0 []:=⟨.refl _, .nil⟩
theorem OrdTo.next {l:List (List Int)} {k:Nat} {o:List Nat} (h:OrdTo l k o) (m:Nat) (h1: ∀y ∈ o.drop m,leAt l k y) (h2:m=0∨ ∃y,o[m -1]? =some y∧leAt l y k):OrdTo l (k+1) (o.take m++k::o.drop m):=by
 refine ⟨(ins_perm o k m).trans ?_,ins_pw (leAt_trans l) h.asc k m h1 h2⟩
 rw [List.range_succ]
 exact (h.perm.cons k).trans (List.perm_append_comm (l₁:= [k]) (l₂:=List.range k))
theorem less_le {l:List (List Int)} {a b:Nat} (h:lessL (keyAt l a) (keyAt l b)=true):leAt l a b:=by
 unfold lessL at h;unfold leAt
 have:=of_decide_eq_true h
 omega
theorem not_less_le {l:List (List Int)} {a b:Nat} (h:lessL (keyAt l a) (keyAt l b)=false):leAt l b a:=by
 unfold lessL at h;unfold leAt
 have h1:=of_decide_eq_false h
 have:=cmpL_neg (keyAt l a) (keyAt l b)
 omega
structure DstTo (l:List Int) (k:Nat) (o:List Int):Prop where
 perm:o.Perm (l.take k)
 asc:o.Pairwise (· ≤ ·)
theorem DstTo.len {l:List Int} {k:Nat} {o:List Int} (h:DstTo l k o) (hk:k≤l.length):o.length=k:=by
 rw [h.perm.length_eq,List.length_take];omega
theorem DstTo.zero (l:List Int):DstTo l 0 []:=⟨by simp, .nil⟩
theorem DstTo.next {l:List Int} {k:Nat} {x:Int} {o:List Int} (h:DstTo l k o) (hx:l[k]? =some x) (m:Nat) (h1: ∀y ∈ o.drop m,x≤y) (h2:m=0∨ ∃y,o[m -1]? =some y∧y≤x):DstTo l (k+1) (o.take m++x::o.drop m):=by
 refine ⟨(ins_perm o x m).trans ?_,ins_pw (R:=fun a b:Int=>a≤b) (fun _ _ _ h1 h2=>Int.le_trans h1 h2) h.asc x m h1 h2⟩
 rw [take_next hx]
 exact (h.perm.cons x).trans (List.perm_append_comm (l₁:= [x]) (l₂:=l.take k))
theorem DstTo.all {l o:List Int} (h:DstTo l l.length o):o=l.mergeSort (fun a b=>decide (a≤b)):=by
 have hp:o.Perm l:=by have:=h.perm;rwa [List.take_length] at this
 have h1:=List.pairwise_mergeSort (le:=fun a b:Int=>decide (a≤b)) (fun a b c h1 h2=>by simp at*;omega) (fun a b=>by simp;omega) l
 exact List.Perm.eq_of_pairwise (fun a b _ _ h1 h2=>Int.le_antisymm h1 h2) h.asc (h1.imp fun h=>by simpa using h) (hp.trans (List.mergeSort_perm _ _).symm)
theorem map_insV {α:Type} (f:α→Value) (o:List α) (x:α) (m:Nat):(o.take m++x::o.drop m).map f=((([]:List Value)++(o.map f).take (m*1))++ [f x])++(o.map f).drop (m*1):=by
 simp
set_option maxRecDepth 100000 in
set_option maxHeartbeats 8000000 in
theorem rOrder_ok (l:List (List Int)) (A:Option Addr) (c:Nat) (w:World) (hl:l.length≤1048576) (hk: ∀k ∈ l,k.length≤8388608) (hR:KeysI w w.heap.size l A):
  Calls Tryz.prog 128 #[.slice A l.length c] w fun e w'=> ∃v o,e= .returned v∧OrdTo l l.length o∧w'.ownsRow w.heap.size 3 1 v o.length (o.map iV)∧Below w.heap.size w w':=by
 obtain ⟨i0,hi,hz0,hz1,hz2⟩:=info_parts info_int64
 have HR:=Lib.hid hR
 have HLK:=Lib.hid hk
 clear hR hk
 go_enter Tryz.func128,Tryz.ntmps128
 go_wp2
 go_loopw [3,4] (fun v i wr=> ∃(k:Nat) (o:List Nat),k≤l.length∧i= .int .i64 k∧Hid (OrdTo l k o)∧Hid (wr.ownsRow w.heap.size 3 1 v o.length (o.map iV))∧Hid (Below w.heap.size w wr)) (fun _ i _=>l.length -(intOf i).toNat)
 case atStart=>exact ⟨0,[],Nat.zero_le _,rfl,Lib.hid (OrdTo.zero l),Lib.hid (World.ownsRow_nil _ _ _ _),Lib.hid (Below.refl _ _)⟩
 case round=>
  obtain ⟨k,o,hk,rfl,HT,HO,HB⟩:=hrel
  have hol:=HT.out.len
  have HOL:=Lib.hid hol
  have hob:o.length≤1048576:=by omega
  obtain ⟨oA,oc,rfl,hoc,hoc2,hrd⟩:=own_form HO.out
  have HRD:=Lib.hid hrd
  clear hrd
  by_cases hlt:k <l.length
  ·obtain ⟨x,hx⟩:=get_lt hlt
   have HX:=Lib.hid hx
   have HXL:=Lib.hid (HLK.out x (List.mem_of_getElem? hx))
   have HKI:=Lib.hid (HR.out.up HB.out)
   obtain ⟨b,oo,rfl,hb⟩:=HKI.out.addr (by omega)
   have n0:(0:Int)≤(k:Int):=by omega
   have n1:(k:Int) <(l.length:Int):=by omega
   have HBK:=Lib.hid hb
   clear hx hol hlt hb
   obtain ⟨wo,rfl⟩: ∃wo:World,wo=wr:=⟨_,rfl⟩
   go_wp2
   go_loopw [5] (fun i w2=> ∃m:Nat,m≤o.length∧i= .int .i64 m∧Hid (∀y ∈ o.drop m,leAt l k y)∧Hid (Below wo.heap.size wo w2)) (fun i _=>(intOf i).toNat)
   case atStart=>exact ⟨o.length,Nat.le_refl _,rfl,Lib.hid (by simp),Lib.hid (Below.refl _ _)⟩
   case round=>
    obtain ⟨m,hm,rfl,HL,HB2⟩:=hrel
    have HKI2:=Lib.hid (HKI.out.up HB2.out)
    obtain ⟨D1,d1,g1,r1⟩:=HKI2.out.cell HX.out
    have hbk:b <wr.heap.size:=Nat.lt_of_lt_of_le HBK.out HB2.out.size
    have R1:=Lib.hid r1
    have HRD2:=Lib.hid (HRD.out.up HB2.out)
    have m0:(0:Int)≤(m:Int):=by omega
    clear r1
    rcases Nat.eq_zero_or_pos m with hz |hm0
    ·have HLE:=Lib.hid (show m=0∨ ∃y,o[m -1]? =some y∧leAt l y k from .inl hz)
     have hd:decide ((0:Int) <(m:Int))=false:=by subst hz;rfl
     have hd2:decide (0 <m)=false:=by subst hz;rfl
     clear hz
     go_wp2_with fail
     refine wp_region_ext (by kernel_rfl) (by kernel_rfl) ?_
     repeat (go_big_quiet_step (fail))
     refine wpQuiet_nil ?_
     intro xa
     clear hd hd2
     have HB3:=Lib.hid (Below.then_ HB2.out (ext_below _ xa))
     clear g1 hbk
     generalize ext wr xa=W3 at*
     have HRD3:=Lib.hid (HRD.out.up HB3.out)
     obtain ⟨A1,c1,hs1,hp1,_,_⟩:=slice_pre (P:=Tryz.prog) (t:=126) (sz:=1) Tryz.underlying126 (run_sizeOf hi hz1) HRD3.out hoc m (by omega)
     obtain ⟨A2,c2,hs2,hp2,_,_⟩:=slice_suf (P:=Tryz.prog) (t:=126) (sz:=1) Tryz.underlying126 (run_sizeOf hi hz1) HRD3.out hoc m (by omega)
     have HP:=Lib.hid hp1
     have HQ:=Lib.hid hp2
     have HO1:=Lib.hid (show ∀u ∈ (o.map iV).take (m*1),u.oneCell'=true from fun u hu=>iV_one o u (List.mem_of_mem_take hu))
     have HO2:=Lib.hid (show ∀u ∈ (o.map iV).drop (m*1),u.oneCell'=true from fun u hu=>iV_one o u (List.mem_of_mem_drop hu))
     have HBW:=Lib.hid (Below.refl W3.heap.size W3)
     clear hp1 hp2
     go_upto_region 8 with (fail)
     go_region_held3 (fun _=>True)
     (exact trivial)
     (first
     |(refine step_appR W3 126 3 i0 (.int .i64 0) 8 Tryz.underlying126 hi hz0 hz1 hz2 rfl (by rfl) (.tmp 33) (.tmp 36) (by rfl) [] ?_ W3.heap.size A1 m c1 ((o.map iV).take (m*1)) (by rfl) ?_ ?_ ?_ ?_ ?_ ?_;(focus ((repeat (first |(with_reducible refine own_drew ?_) |(exact hq1) |(refine World.ownsRow.kept ?_ hg1 (Or.inr ?_);rotate_left;(intro e;have e2:=Option.some.inj e;first |(exfalso;dsimp only at e2;omega) |(exfalso;have hy:=HBW.out.size;simp at hy e2;omega))) |(refine own_litV _ _ _ [] _ _ ?_ ?_ ?_ ?_ _ ?_;(focus (first |(simp;done) |(have hq:=HBW.out.size;simp at hq ⊢;omega) |omega;done));(focus (simp;done));(focus (simp [maxLen];done));(focus (exact rfl));(focus (exact rfl))) |(with_reducible refine World.ownsRow.alloc ?_ _)));done));(focus (exact HP.out.below (by (repeat (first |with_reducible exact HBW.out |with_reducible exact Below.refl _ _ |with_reducible refine Below.drew ?_ |(with_reducible refine Below.alloc ?_ (by first |(simp;done) |(have hq:=HBW.out.size;simp at hq ⊢;omega)) _) |(with_reducible refine Below.setCell ?_ (by first |(simp;done) |(have hq:=HBW.out.size;simp at hq ⊢;omega)) _))))));(focus (exact HO1.out));(focus (simp;omega));(focus (simp [maxLen];omega));(focus ((repeat (first |with_reducible exact HBW.out |with_reducible exact Below.refl _ _ |with_reducible refine Below.drew ?_ |(with_reducible refine Below.alloc ?_ (by first |(simp;done) |(have hq:=HBW.out.size;simp at hq ⊢;omega)) _) |(with_reducible refine Below.setCell ?_ (by first |(simp;done) |(have hq:=HBW.out.size;simp at hq ⊢;omega)) _)));done));intro v1 w1 hq1 hg1 hbb;have HBW:=Lib.hid hbb)
     |(refine step_appO W3 126 3 i0 (.int .i64 0) 8 Tryz.underlying126 hi hz0 hz1 hz2 rfl (by rfl) (.tmp 37) (.tmp 39) (by rfl) ([]++(o.map iV).take (m*1)) ?_ [iV k] ?_ ?_ ?_ ?_ ?_ ?_;(focus ((repeat (first |(with_reducible refine own_drew ?_) |(exact hq1) |(refine World.ownsRow.kept ?_ hg1 (Or.inr ?_);rotate_left;(intro e;have e2:=Option.some.inj e;first |(exfalso;dsimp only at e2;omega) |(exfalso;have hy:=HBW.out.size;simp at hy e2;omega))) |(refine own_litV _ _ _ [iV k] _ _ ?_ ?_ ?_ ?_ _ ?_;(focus (first |(simp;done) |(have hq:=HBW.out.size;simp at hq ⊢;omega) |omega;done));(focus (simp;done));(focus (simp [maxLen];done));(focus (exact rfl));(focus (exact rfl))) |(with_reducible refine World.ownsRow.alloc ?_ _)));done));(focus ((repeat (first |(with_reducible refine own_drew ?_) |(exact hq1) |(refine World.ownsRow.kept ?_ hg1 (Or.inr ?_);rotate_left;(intro e;have e2:=Option.some.inj e;first |(exfalso;dsimp only at e2;omega) |(exfalso;have hy:=HBW.out.size;simp at hy e2;omega))) |(refine own_litV _ _ _ [iV k] _ _ ?_ ?_ ?_ ?_ _ ?_;(focus (first |(simp;done) |(have hq:=HBW.out.size;simp at hq ⊢;omega) |omega;done));(focus (simp;done));(focus (simp [maxLen];done));(focus (exact rfl));(focus (exact rfl))) |(with_reducible refine World.ownsRow.alloc ?_ _)));done));(focus (intro u hu;simp at hu;subst hu;rfl));(focus (simp;omega));(focus (simp [maxLen];omega));(focus ((repeat (first |with_reducible exact HBW.out |with_reducible exact Below.refl _ _ |with_reducible refine Below.drew ?_ |(with_reducible refine Below.alloc ?_ (by first |(simp;done) |(have hq:=HBW.out.size;simp at hq ⊢;omega)) _) |(with_reducible refine Below.setCell ?_ (by first |(simp;done) |(have hq:=HBW.out.size;simp at hq ⊢;omega)) _)));done));intro v2 w2 hq2 hg2 hbb;have HBW:=Lib.hid hbb)
     |(refine step_appR W3 126 3 i0 (.int .i64 0) 8 Tryz.underlying126 hi hz0 hz1 hz2 rfl (by rfl) (.tmp 40) (.tmp 43) (by rfl) (([]++(o.map iV).take (m*1))++ [iV k]) ?_ W3.heap.size A2 (o.length -m) c2 ((o.map iV).drop (m*1)) (by rfl) ?_ ?_ ?_ ?_ ?_ ?_;(focus (exact hq2));(focus (exact HQ.out.below (by (repeat (first |with_reducible exact HBW.out |with_reducible exact Below.refl _ _ |with_reducible refine Below.drew ?_ |(with_reducible refine Below.alloc ?_ (by first |(simp;done) |(have hq:=HBW.out.size;simp at hq ⊢;omega)) _) |(with_reducible refine Below.setCell ?_ (by first |(simp;done) |(have hq:=HBW.out.size;simp at hq ⊢;omega)) _))))));(focus (exact HO2.out));(focus (simp;omega));(focus (simp [maxLen];omega));(focus ((repeat (first |with_reducible exact HBW.out |with_reducible exact Below.refl _ _ |with_reducible refine Below.drew ?_ |(with_reducible refine Below.alloc ?_ (by first |(simp;done) |(have hq:=HBW.out.size;simp at hq ⊢;omega)) _) |(with_reducible refine Below.setCell ?_ (by first |(simp;done) |(have hq:=HBW.out.size;simp at hq ⊢;omega)) _)));done));intro v3 w3 hq3 hg3 hbb;have HBW:=Lib.hid hbb)
     |fail)
     all_goals
      have HB4:=Lib.hid (Below.then_ HB.out (Below.then_ HB3.out HBW.out))
      have HO4:=Lib.hid (own_lessC hq3 (Nat.le_trans HB.out.size HB3.out.size))
      have HT4:=Lib.hid (HT.out.next m HL.out HLE.out)
      rw [←map_insV iV o k m] at HO4
      rw [List.length_map] at HO4
      clear hq3 hq2 hq1 hg1 hg2 hg3
      go_wp2
      go_roundw
      case rel=>exact ⟨k+1,_,by omega,by go_num,HT4,HO4,HB4⟩
      case measure=>simp [intOf];omega
    ·obtain ⟨n,hn⟩: ∃n,m=n+1:=⟨m -1,by omega⟩
     have HN:=Lib.hid hn
     have e1:IntKind.i64.wrap ((m:Int) -1)=(n:Int):=by rw [IntKind.wrap_i64];omega
     have q0:(0:Int)≤(n:Int):=by omega
     have q1:(n:Int) <(o.length:Int):=by omega
     have q2:(0:Int) <(m:Int):=by omega
     obtain ⟨y,hy⟩:=get_lt (l:=o) (k:=n) (by omega)
     have hyk:=HT.out.lt (List.mem_of_getElem? hy)
     obtain ⟨z,hz⟩:=get_lt (l:=l) (k:=y) (by omega)
     obtain ⟨D2,d2,g2,r2⟩:=HKI2.out.cell hz
     have R2:=Lib.hid r2
     have HZL:=Lib.hid (HLK.out z (List.mem_of_getElem? hz))
     obtain ⟨b3,o3,rfl,hb3,_⟩:=HRD2.out.2 (by omega)
     have g3:=nat_at HRD2.out hy
     have y0:(0:Int)≤(y:Int):=by omega
     have y1:(y:Int) <(l.length:Int):=by omega
     have HY:=Lib.hid hy
     have HKX:=Lib.hid (keyAt_eq HX.out)
     have HKZ:=Lib.hid (keyAt_eq hz)
     clear hn hy hyk hz r2
     cases hle:lessL x z
     ·have HLE:=Lib.hid (show m=0∨ ∃y,o[m -1]? =some y∧leAt l y k from .inr ⟨y,by rw [HN.out];exact HY.out,not_less_le (by rw [HKX.out,HKZ.out];exact hle)⟩)
      have HF:=Lib.hid hle
      clear hle
      go_wp2_with fail
      refine wp_region_ext (by kernel_rfl) (by kernel_rfl) ?_
      repeat (go_big_quiet_step ((go_at_call 180;exact Calls.quiet_ext (less_f HF.out _ _ _ _ _ HXL.out HZL.out (R1.out.up (ext_below _ _)) (R2.out.up (ext_below _ _))))))
      refine wpQuiet_nil ?_
      intro xa
      clear e1 q0 q1 q2 g2 g3 y0 y1 hb3
      have HB3:=Lib.hid (Below.then_ HB2.out (ext_below _ xa))
      clear g1 hbk
      generalize ext wr xa=W3 at*
      have HRD3:=Lib.hid (HRD.out.up HB3.out)
      obtain ⟨A1,c1,hs1,hp1,_,_⟩:=slice_pre (P:=Tryz.prog) (t:=126) (sz:=1) Tryz.underlying126 (run_sizeOf hi hz1) HRD3.out hoc m (by omega)
      obtain ⟨A2,c2,hs2,hp2,_,_⟩:=slice_suf (P:=Tryz.prog) (t:=126) (sz:=1) Tryz.underlying126 (run_sizeOf hi hz1) HRD3.out hoc m (by omega)
      have HP:=Lib.hid hp1
      have HQ:=Lib.hid hp2
      have HO1:=Lib.hid (show ∀u ∈ (o.map iV).take (m*1),u.oneCell'=true from fun u hu=>iV_one o u (List.mem_of_mem_take hu))
      have HO2:=Lib.hid (show ∀u ∈ (o.map iV).drop (m*1),u.oneCell'=true from fun u hu=>iV_one o u (List.mem_of_mem_drop hu))
      have HBW:=Lib.hid (Below.refl W3.heap.size W3)
      clear hp1 hp2
      go_upto_region 8 with (fail)
      go_region_held3 (fun _=>True)
      (exact trivial)
      (first
      |(refine step_appR W3 126 3 i0 (.int .i64 0) 8 Tryz.underlying126 hi hz0 hz1 hz2 rfl (by rfl) (.tmp 33) (.tmp 36) (by rfl) [] ?_ W3.heap.size A1 m c1 ((o.map iV).take (m*1)) (by rfl) ?_ ?_ ?_ ?_ ?_ ?_;(focus ((repeat (first |(with_reducible refine own_drew ?_) |(exact hq1) |(refine World.ownsRow.kept ?_ hg1 (Or.inr ?_);rotate_left;(intro e;have e2:=Option.some.inj e;first |(exfalso;dsimp only at e2;omega) |(exfalso;have hy:=HBW.out.size;simp at hy e2;omega))) |(refine own_litV _ _ _ [] _ _ ?_ ?_ ?_ ?_ _ ?_;(focus (first |(simp;done) |(have hq:=HBW.out.size;simp at hq ⊢;omega) |omega;done));(focus (simp;done));(focus (simp [maxLen];done));(focus (exact rfl));(focus (exact rfl))) |(with_reducible refine World.ownsRow.alloc ?_ _)));done));(focus (exact HP.out.below (by (repeat (first |with_reducible exact HBW.out |with_reducible exact Below.refl _ _ |with_reducible refine Below.drew ?_ |(with_reducible refine Below.alloc ?_ (by first |(simp;done) |(have hq:=HBW.out.size;simp at hq ⊢;omega)) _) |(with_reducible refine Below.setCell ?_ (by first |(simp;done) |(have hq:=HBW.out.size;simp at hq ⊢;omega)) _))))));(focus (exact HO1.out));(focus (simp;omega));(focus (simp [maxLen];omega));(focus ((repeat (first |with_reducible exact HBW.out |with_reducible exact Below.refl _ _ |with_reducible refine Below.drew ?_ |(with_reducible refine Below.alloc ?_ (by first |(simp;done) |(have hq:=HBW.out.size;simp at hq ⊢;omega)) _) |(with_reducible refine Below.setCell ?_ (by first |(simp;done) |(have hq:=HBW.out.size;simp at hq ⊢;omega)) _)));done));intro v1 w1 hq1 hg1 hbb;have HBW:=Lib.hid hbb)
      |(refine step_appO W3 126 3 i0 (.int .i64 0) 8 Tryz.underlying126 hi hz0 hz1 hz2 rfl (by rfl) (.tmp 37) (.tmp 39) (by rfl) ([]++(o.map iV).take (m*1)) ?_ [iV k] ?_ ?_ ?_ ?_ ?_ ?_;(focus ((repeat (first |(with_reducible refine own_drew ?_) |(exact hq1) |(refine World.ownsRow.kept ?_ hg1 (Or.inr ?_);rotate_left;(intro e;have e2:=Option.some.inj e;first |(exfalso;dsimp only at e2;omega) |(exfalso;have hy:=HBW.out.size;simp at hy e2;omega))) |(refine own_litV _ _ _ [iV k] _ _ ?_ ?_ ?_ ?_ _ ?_;(focus (first |(simp;done) |(have hq:=HBW.out.size;simp at hq ⊢;omega) |omega;done));(focus (simp;done));(focus (simp [maxLen];done));(focus (exact rfl));(focus (exact rfl))) |(with_reducible refine World.ownsRow.alloc ?_ _)));done));(focus ((repeat (first |(with_reducible refine own_drew ?_) |(exact hq1) |(refine World.ownsRow.kept ?_ hg1 (Or.inr ?_);rotate_left;(intro e;have e2:=Option.some.inj e;first |(exfalso;dsimp only at e2;omega) |(exfalso;have hy:=HBW.out.size;simp at hy e2;omega))) |(refine own_litV _ _ _ [iV k] _ _ ?_ ?_ ?_ ?_ _ ?_;(focus (first |(simp;done) |(have hq:=HBW.out.size;simp at hq ⊢;omega) |omega;done));(focus (simp;done));(focus (simp [maxLen];done));(focus (exact rfl));(focus (exact rfl))) |(with_reducible refine World.ownsRow.alloc ?_ _)));done));(focus (intro u hu;simp at hu;subst hu;rfl));(focus (simp;omega));(focus (simp [maxLen];omega));(focus ((repeat (first |with_reducible exact HBW.out |with_reducible exact Below.refl _ _ |with_reducible refine Below.drew ?_ |(with_reducible refine Below.alloc ?_ (by first |(simp;done) |(have hq:=HBW.out.size;simp at hq ⊢;omega)) _) |(with_reducible refine Below.setCell ?_ (by first |(simp;done) |(have hq:=HBW.out.size;simp at hq ⊢;omega)) _)));done));intro v2 w2 hq2 hg2 hbb;have HBW:=Lib.hid hbb)
      |(refine step_appR W3 126 3 i0 (.int .i64 0) 8 Tryz.underlying126 hi hz0 hz1 hz2 rfl (by rfl) (.tmp 40) (.tmp 43) (by rfl) (([]++(o.map iV).take (m*1))++ [iV k]) ?_ W3.heap.size A2 (o.length -m) c2 ((o.map iV).drop (m*1)) (by rfl) ?_ ?_ ?_ ?_ ?_ ?_;(focus (exact hq2));(focus (exact HQ.out.below (by (repeat (first |with_reducible exact HBW.out |with_reducible exact Below.refl _ _ |with_reducible refine Below.drew ?_ |(with_reducible refine Below.alloc ?_ (by first |(simp;done) |(have hq:=HBW.out.size;simp at hq ⊢;omega)) _) |(with_reducible refine Below.setCell ?_ (by first |(simp;done) |(have hq:=HBW.out.size;simp at hq ⊢;omega)) _))))));(focus (exact HO2.out));(focus (simp;omega));(focus (simp [maxLen];omega));(focus ((repeat (first |with_reducible exact HBW.out |with_reducible exact Below.refl _ _ |with_reducible refine Below.drew ?_ |(with_reducible refine Below.alloc ?_ (by first |(simp;done) |(have hq:=HBW.out.size;simp at hq ⊢;omega)) _) |(with_reducible refine Below.setCell ?_ (by first |(simp;done) |(have hq:=HBW.out.size;simp at hq ⊢;omega)) _)));done));intro v3 w3 hq3 hg3 hbb;have HBW:=Lib.hid hbb)
      |fail)
      all_goals
       have HB4:=Lib.hid (Below.then_ HB.out (Below.then_ HB3.out HBW.out))
       have HO4:=Lib.hid (own_lessC hq3 (Nat.le_trans HB.out.size HB3.out.size))
       have HT4:=Lib.hid (HT.out.next m HL.out HLE.out)
       rw [←map_insV iV o k m] at HO4
       rw [List.length_map] at HO4
       clear hq3 hq2 hq1 hg1 hg2 hg3
       go_wp2
       go_roundw
       case rel=>exact ⟨k+1,_,by omega,by go_num,HT4,HO4,HB4⟩
       case measure=>simp [intOf];omega
     ·have HLE:=Lib.hid (show ∀y ∈ o.drop n,leAt l k y from fun u hu=>by
       rw [drop_cons HY.out] at hu
       rcases List.mem_cons.1 hu with rfl |hu
       ·exact less_le (by rw [HKX.out,HKZ.out];exact hle)
       ·exact HL.out u (by rw [HN.out];exact hu))
      have HF:=Lib.hid hle
      clear hle
      go_wp2_with fail
      refine wp_region_ext (by kernel_rfl) (by kernel_rfl) ?_
      repeat (go_big_quiet_step ((go_at_call 180;exact Calls.quiet_ext (less_t HF.out _ _ _ _ _ HXL.out HZL.out (R1.out.up (ext_below _ _)) (R2.out.up (ext_below _ _))))))
      refine wpQuiet_nil ?_
      intro xa
      have HB3:=Lib.hid (Below.then_ HB2.out (ext_below _ xa))
      clear g1 g2 g3
      go_wp2
      go_roundw
      case rel=>exact ⟨n,by omega,by first |rfl |(congr 1;omega),HLE,HB3⟩
      case measure=>have:=HN.out;simp [intOf];omega
  ·obtain rfl:k=l.length:=by omega
   go_wp2
   go_ret
   exact ⟨_,o,rfl,HT.out,HO.out,HB.out⟩
set_option maxRecDepth 100000 in
set_option maxHeartbeats 8000000 in
theorem rDest05_ok (l:List Int) (A:Option Addr) (c:Nat) (w:World) (hl:l.length≤1048576) (hR:Rd w w.heap.size 1 A l.length (l.map (Value.int .u16))):
  Calls Tryz.prog 127 #[.slice A l.length c] w fun e w'=> ∃v,e= .returned v∧w'.ownsRow w.heap.size 49 1 v l.length ((l.mergeSort (fun a b=>decide (a≤b))).map (Value.int .u16))∧Below w.heap.size w w':=by
 obtain ⟨i0,hi,hz0,hz1,hz2⟩:=info_parts info_u16
 have HR:=Lib.hid hR
 clear hR
 go_enter Tryz.func127,Tryz.ntmps127
 go_wp2
 go_loopw [3,4] (fun v i wr=> ∃(k:Nat) (o:List Int),k≤l.length∧i= .int .i64 k∧Hid (DstTo l k o)∧Hid (wr.ownsRow w.heap.size 49 1 v o.length (o.map (Value.int .u16)))∧Hid (Below w.heap.size w wr)) (fun _ i _=>l.length -(intOf i).toNat)
 case atStart=>exact ⟨0,[],Nat.zero_le _,rfl,Lib.hid (DstTo.zero l),Lib.hid (World.ownsRow_nil _ _ _ _),Lib.hid (Below.refl _ _)⟩
 case round=>
  obtain ⟨k,o,hk,rfl,HT,HO,HB⟩:=hrel
  have hol:=HT.out.len hk
  have HOL:=Lib.hid hol
  have hob:o.length≤1048576:=by omega
  obtain ⟨oA,oc,rfl,hoc,hoc2,hrd⟩:=own_form HO.out
  have HRD:=Lib.hid hrd
  clear hrd
  by_cases hlt:k <l.length
  ·obtain ⟨x,hx⟩:=get_lt hlt
   have HX:=Lib.hid hx
   have HLI:=Lib.hid (HR.out.up HB.out)
   obtain ⟨b,oo,rfl,hb,_⟩:=HLI.out.2 (by omega)
   have n0:(0:Int)≤(k:Int):=by omega
   have n1:(k:Int) <(l.length:Int):=by omega
   have HBK:=Lib.hid hb
   clear hx hol hlt hb
   obtain ⟨wo,rfl⟩: ∃wo:World,wo=wr:=⟨_,rfl⟩
   go_wp2
   go_loopw [5] (fun i w2=> ∃m:Nat,m≤o.length∧i= .int .i64 m∧Hid (∀y ∈ o.drop m,x≤y)∧Hid (Below wo.heap.size wo w2)) (fun i _=>(intOf i).toNat)
   case atStart=>exact ⟨o.length,Nat.le_refl _,rfl,Lib.hid (by simp),Lib.hid (Below.refl _ _)⟩
   case round=>
    obtain ⟨m,hm,rfl,HL,HB2⟩:=hrel
    have HLI2:=Lib.hid (HLI.out.up HB2.out)
    have g1:=intF_at HLI2.out HX.out
    have hbk:b <wr.heap.size:=Nat.lt_of_lt_of_le HBK.out HB2.out.size
    have HRD2:=Lib.hid (HRD.out.up HB2.out)
    have m0:(0:Int)≤(m:Int):=by omega
    rcases Nat.eq_zero_or_pos m with hz |hm0
    ·have HLE:=Lib.hid (show m=0∨ ∃y,o[m -1]? =some y∧y≤x from .inl hz)
     have hd:decide ((0:Int) <(m:Int))=false:=by subst hz;rfl
     have hd2:decide (0 <m)=false:=by subst hz;rfl
     clear hz
     go_wp2_with fail
     refine wp_region_ext (by kernel_rfl) (by kernel_rfl) ?_
     repeat (go_big_quiet_step (fail))
     refine wpQuiet_nil ?_
     intro xa
     clear hd hd2
     have HB3:=Lib.hid (Below.then_ HB2.out (ext_below _ xa))
     clear hbk
     clear g1
     generalize ext wr xa=W3 at*
     have g1:=intF_at (HLI.out.up HB3.out) HX.out
     have HKP:=Lib.hid (show ∀U,Below W3.heap.size W3 U→U.cell? ⟨b,oo+k,none⟩=some (.int .u16 x) from fun U hU=>intF_at ((HLI.out.up HB3.out).up hU) HX.out)
     have HRD3:=Lib.hid (HRD.out.up HB3.out)
     obtain ⟨A1,c1,hs1,hp1,_,_⟩:=slice_pre (P:=Tryz.prog) (t:=87) (sz:=1) Tryz.underlying87 (run_sizeOf hi hz1) HRD3.out hoc m (by omega)
     obtain ⟨A2,c2,hs2,hp2,_,_⟩:=slice_suf (P:=Tryz.prog) (t:=87) (sz:=1) Tryz.underlying87 (run_sizeOf hi hz1) HRD3.out hoc m (by omega)
     have HP:=Lib.hid hp1
     have HQ:=Lib.hid hp2
     have HO1:=Lib.hid (show ∀u ∈ (o.map (Value.int .u16)).take (m*1),u.oneCell'=true from fun u hu=>i16_one o u (List.mem_of_mem_take hu))
     have HO2:=Lib.hid (show ∀u ∈ (o.map (Value.int .u16)).drop (m*1),u.oneCell'=true from fun u hu=>i16_one o u (List.mem_of_mem_drop hu))
     have HBW:=Lib.hid (Below.refl W3.heap.size W3)
     clear hp1 hp2
     go_upto_region 8 with (fail)
     go_region_held3 (fun w'=>w'.cell? ⟨b,oo+k,none⟩=some (.int .u16 x))
     (first |(refine HKP.out _ ?_;(repeat (first |with_reducible exact HBW.out |with_reducible exact Below.refl _ _ |with_reducible refine Below.drew ?_ |(with_reducible refine Below.alloc ?_ (by first |(simp;done) |(have hq:=HBW.out.size;simp at hq ⊢;omega)) _) |(with_reducible refine Below.setCell ?_ (by first |(simp;done) |(have hq:=HBW.out.size;simp at hq ⊢;omega)) _)));done) |go_keep)
     (first
     |(refine step_appR W3 87 49 i0 (.int .u16 0) 2 Tryz.underlying87 hi hz0 hz1 hz2 rfl (by rfl) (.tmp 30) (.tmp 33) (by rfl) [] ?_ W3.heap.size A1 m c1 ((o.map (Value.int .u16)).take (m*1)) (by rfl) ?_ ?_ ?_ ?_ ?_ ?_;(focus ((repeat (first |(with_reducible refine own_drew ?_) |(exact hq1) |(refine World.ownsRow.kept ?_ hg1 (Or.inr ?_);rotate_left;(intro e;have e2:=Option.some.inj e;first |(exfalso;dsimp only at e2;omega) |(exfalso;have hy:=HBW.out.size;simp at hy e2;omega))) |(refine own_litV _ _ _ [] _ _ ?_ ?_ ?_ ?_ _ ?_;(focus (first |(simp;done) |(have hq:=HBW.out.size;simp at hq ⊢;omega) |omega;done));(focus (simp;done));(focus (simp [maxLen];done));(focus (exact rfl));(focus (exact rfl))) |(with_reducible refine World.ownsRow.alloc ?_ _)));done));(focus (exact HP.out.below (by (repeat (first |with_reducible exact HBW.out |with_reducible exact Below.refl _ _ |with_reducible refine Below.drew ?_ |(with_reducible refine Below.alloc ?_ (by first |(simp;done) |(have hq:=HBW.out.size;simp at hq ⊢;omega)) _) |(with_reducible refine Below.setCell ?_ (by first |(simp;done) |(have hq:=HBW.out.size;simp at hq ⊢;omega)) _))))));(focus (exact HO1.out));(focus (simp;omega));(focus (simp [maxLen];omega));(focus ((repeat (first |with_reducible exact HBW.out |with_reducible exact Below.refl _ _ |with_reducible refine Below.drew ?_ |(with_reducible refine Below.alloc ?_ (by first |(simp;done) |(have hq:=HBW.out.size;simp at hq ⊢;omega)) _) |(with_reducible refine Below.setCell ?_ (by first |(simp;done) |(have hq:=HBW.out.size;simp at hq ⊢;omega)) _)));done));intro v1 w1 hq1 hg1 hbb;have HBW:=Lib.hid hbb)
     |(refine step_appO W3 87 49 i0 (.int .u16 0) 2 Tryz.underlying87 hi hz0 hz1 hz2 rfl (by rfl) (.tmp 34) (.tmp 39) (by rfl) ([]++(o.map (Value.int .u16)).take (m*1)) ?_ [.int .u16 x] ?_ ?_ ?_ ?_ ?_ ?_;(focus ((repeat (first |(with_reducible refine own_drew ?_) |(exact hq1) |(refine World.ownsRow.kept ?_ hg1 (Or.inr ?_);rotate_left;(intro e;have e2:=Option.some.inj e;first |(exfalso;dsimp only at e2;omega) |(exfalso;have hy:=HBW.out.size;simp at hy e2;omega))) |(refine own_litV _ _ _ [.int .u16 x] _ _ ?_ ?_ ?_ ?_ _ ?_;(focus (first |(simp;done) |(have hq:=HBW.out.size;simp at hq ⊢;omega) |omega;done));(focus (simp;done));(focus (simp [maxLen];done));(focus (exact rfl));(focus (exact rfl))) |(with_reducible refine World.ownsRow.alloc ?_ _)));done));(focus ((repeat (first |(with_reducible refine own_drew ?_) |(exact hq1) |(refine World.ownsRow.kept ?_ hg1 (Or.inr ?_);rotate_left;(intro e;have e2:=Option.some.inj e;first |(exfalso;dsimp only at e2;omega) |(exfalso;have hy:=HBW.out.size;simp at hy e2;omega))) |(refine own_litV _ _ _ [.int .u16 x] _ _ ?_ ?_ ?_ ?_ _ ?_;(focus (first |(simp;done) |(have hq:=HBW.out.size;simp at hq ⊢;omega) |omega;done));(focus (simp;done));(focus (simp [maxLen];done));(focus (exact rfl));(focus (exact rfl))) |(with_reducible refine World.ownsRow.alloc ?_ _)));done));(focus (intro u hu;simp at hu;subst hu;rfl));(focus (simp;omega));(focus (simp [maxLen];omega));(focus ((repeat (first |with_reducible exact HBW.out |with_reducible exact Below.refl _ _ |with_reducible refine Below.drew ?_ |(with_reducible refine Below.alloc ?_ (by first |(simp;done) |(have hq:=HBW.out.size;simp at hq ⊢;omega)) _) |(with_reducible refine Below.setCell ?_ (by first |(simp;done) |(have hq:=HBW.out.size;simp at hq ⊢;omega)) _)));done));intro v2 w2 hq2 hg2 hbb;have HBW:=Lib.hid hbb)
     |(refine step_appR W3 87 49 i0 (.int .u16 0) 2 Tryz.underlying87 hi hz0 hz1 hz2 rfl (by rfl) (.tmp 40) (.tmp 43) (by rfl) (([]++(o.map (Value.int .u16)).take (m*1))++ [.int .u16 x]) ?_ W3.heap.size A2 (o.length -m) c2 ((o.map (Value.int .u16)).drop (m*1)) (by rfl) ?_ ?_ ?_ ?_ ?_ ?_;(focus (exact hq2));(focus (exact HQ.out.below (by (repeat (first |with_reducible exact HBW.out |with_reducible exact Below.refl _ _ |with_reducible refine Below.drew ?_ |(with_reducible refine Below.alloc ?_ (by first |(simp;done) |(have hq:=HBW.out.size;simp at hq ⊢;omega)) _) |(with_reducible refine Below.setCell ?_ (by first |(simp;done) |(have hq:=HBW.out.size;simp at hq ⊢;omega)) _))))));(focus (exact HO2.out));(focus (simp;omega));(focus (simp [maxLen];omega));(focus ((repeat (first |with_reducible exact HBW.out |with_reducible exact Below.refl _ _ |with_reducible refine Below.drew ?_ |(with_reducible refine Below.alloc ?_ (by first |(simp;done) |(have hq:=HBW.out.size;simp at hq ⊢;omega)) _) |(with_reducible refine Below.setCell ?_ (by first |(simp;done) |(have hq:=HBW.out.size;simp at hq ⊢;omega)) _)));done));intro v3 w3 hq3 hg3 hbb;have HBW:=Lib.hid hbb)
     |fail)
     all_goals
      have HB4:=Lib.hid (Below.then_ HB.out (Below.then_ HB3.out HBW.out))
      have HO4:=Lib.hid (own_lessC hq3 (Nat.le_trans HB.out.size HB3.out.size))
      have HT4:=Lib.hid (HT.out.next HX.out m HL.out HLE.out)
      rw [←map_insV (Value.int .u16) o x m] at HO4
      rw [List.length_map] at HO4
      clear hq3 hq2 hq1 hg1 hg2 hg3
      go_wp2
      go_roundw
      case rel=>exact ⟨k+1,_,by omega,by go_num,HT4,HO4,HB4⟩
      case measure=>simp [intOf];omega
    ·obtain ⟨n,hn⟩: ∃n,m=n+1:=⟨m -1,by omega⟩
     have HN:=Lib.hid hn
     have e1:IntKind.i64.wrap ((m:Int) -1)=(n:Int):=by rw [IntKind.wrap_i64];omega
     have q0:(0:Int)≤(n:Int):=by omega
     have q1:(n:Int) <(o.length:Int):=by omega
     have q2:(0:Int) <(m:Int):=by omega
     obtain ⟨y,hy⟩:=get_lt (l:=o) (k:=n) (by omega)
     obtain ⟨b3,o3,rfl,hb3,_⟩:=HRD2.out.2 (by omega)
     have g3:=intF_at HRD2.out hy
     have HY:=Lib.hid hy
     clear hn hy
     by_cases hle:y≤x
     ·have HLE:=Lib.hid (show m=0∨ ∃y,o[m -1]? =some y∧y≤x from .inr ⟨y,by rw [HN.out];exact HY.out,hle⟩)
      have hd:decide (x <y)=false:=decide_eq_false (by omega)
      have HLF:=Lib.hid hle
      clear hle
      go_wp2_with fail
      refine wp_region_ext (by kernel_rfl) (by kernel_rfl) ?_
      repeat (go_big_quiet_step (fail))
      refine wpQuiet_nil ?_
      intro xa
      clear e1 q0 q1 q2 g3 hb3 hd
      have HB3:=Lib.hid (Below.then_ HB2.out (ext_below _ xa))
      clear hbk
      clear g1
      generalize ext wr xa=W3 at*
      have g1:=intF_at (HLI.out.up HB3.out) HX.out
      have HKP:=Lib.hid (show ∀U,Below W3.heap.size W3 U→U.cell? ⟨b,oo+k,none⟩=some (.int .u16 x) from fun U hU=>intF_at ((HLI.out.up HB3.out).up hU) HX.out)
      have HRD3:=Lib.hid (HRD.out.up HB3.out)
      obtain ⟨A1,c1,hs1,hp1,_,_⟩:=slice_pre (P:=Tryz.prog) (t:=87) (sz:=1) Tryz.underlying87 (run_sizeOf hi hz1) HRD3.out hoc m (by omega)
      obtain ⟨A2,c2,hs2,hp2,_,_⟩:=slice_suf (P:=Tryz.prog) (t:=87) (sz:=1) Tryz.underlying87 (run_sizeOf hi hz1) HRD3.out hoc m (by omega)
      have HP:=Lib.hid hp1
      have HQ:=Lib.hid hp2
      have HO1:=Lib.hid (show ∀u ∈ (o.map (Value.int .u16)).take (m*1),u.oneCell'=true from fun u hu=>i16_one o u (List.mem_of_mem_take hu))
      have HO2:=Lib.hid (show ∀u ∈ (o.map (Value.int .u16)).drop (m*1),u.oneCell'=true from fun u hu=>i16_one o u (List.mem_of_mem_drop hu))
      have HBW:=Lib.hid (Below.refl W3.heap.size W3)
      clear hp1 hp2
      go_upto_region 8 with (fail)
      go_region_held3 (fun w'=>w'.cell? ⟨b,oo+k,none⟩=some (.int .u16 x))
      (first |(refine HKP.out _ ?_;(repeat (first |with_reducible exact HBW.out |with_reducible exact Below.refl _ _ |with_reducible refine Below.drew ?_ |(with_reducible refine Below.alloc ?_ (by first |(simp;done) |(have hq:=HBW.out.size;simp at hq ⊢;omega)) _) |(with_reducible refine Below.setCell ?_ (by first |(simp;done) |(have hq:=HBW.out.size;simp at hq ⊢;omega)) _)));done) |go_keep)
      (first
      |(refine step_appR W3 87 49 i0 (.int .u16 0) 2 Tryz.underlying87 hi hz0 hz1 hz2 rfl (by rfl) (.tmp 30) (.tmp 33) (by rfl) [] ?_ W3.heap.size A1 m c1 ((o.map (Value.int .u16)).take (m*1)) (by rfl) ?_ ?_ ?_ ?_ ?_ ?_;(focus ((repeat (first |(with_reducible refine own_drew ?_) |(exact hq1) |(refine World.ownsRow.kept ?_ hg1 (Or.inr ?_);rotate_left;(intro e;have e2:=Option.some.inj e;first |(exfalso;dsimp only at e2;omega) |(exfalso;have hy:=HBW.out.size;simp at hy e2;omega))) |(refine own_litV _ _ _ [] _ _ ?_ ?_ ?_ ?_ _ ?_;(focus (first |(simp;done) |(have hq:=HBW.out.size;simp at hq ⊢;omega) |omega;done));(focus (simp;done));(focus (simp [maxLen];done));(focus (exact rfl));(focus (exact rfl))) |(with_reducible refine World.ownsRow.alloc ?_ _)));done));(focus (exact HP.out.below (by (repeat (first |with_reducible exact HBW.out |with_reducible exact Below.refl _ _ |with_reducible refine Below.drew ?_ |(with_reducible refine Below.alloc ?_ (by first |(simp;done) |(have hq:=HBW.out.size;simp at hq ⊢;omega)) _) |(with_reducible refine Below.setCell ?_ (by first |(simp;done) |(have hq:=HBW.out.size;simp at hq ⊢;omega)) _))))));(focus (exact HO1.out));(focus (simp;omega));(focus (simp [maxLen];omega));(focus ((repeat (first |with_reducible exact HBW.out |with_reducible exact Below.refl _ _ |with_reducible refine Below.drew ?_ |(with_reducible refine Below.alloc ?_ (by first |(simp;done) |(have hq:=HBW.out.size;simp at hq ⊢;omega)) _) |(with_reducible refine Below.setCell ?_ (by first |(simp;done) |(have hq:=HBW.out.size;simp at hq ⊢;omega)) _)));done));intro v1 w1 hq1 hg1 hbb;have HBW:=Lib.hid hbb)
      |(refine step_appO W3 87 49 i0 (.int .u16 0) 2 Tryz.underlying87 hi hz0 hz1 hz2 rfl (by rfl) (.tmp 34) (.tmp 39) (by rfl) ([]++(o.map (Value.int .u16)).take (m*1)) ?_ [.int .u16 x] ?_ ?_ ?_ ?_ ?_ ?_;(focus ((repeat (first |(with_reducible refine own_drew ?_) |(exact hq1) |(refine World.ownsRow.kept ?_ hg1 (Or.inr ?_);rotate_left;(intro e;have e2:=Option.some.inj e;first |(exfalso;dsimp only at e2;omega) |(exfalso;have hy:=HBW.out.size;simp at hy e2;omega))) |(refine own_litV _ _ _ [.int .u16 x] _ _ ?_ ?_ ?_ ?_ _ ?_;(focus (first |(simp;done) |(have hq:=HBW.out.size;simp at hq ⊢;omega) |omega;done));(focus (simp;done));(focus (simp [maxLen];done));(focus (exact rfl));(focus (exact rfl))) |(with_reducible refine World.ownsRow.alloc ?_ _)));done));(focus ((repeat (first |(with_reducible refine own_drew ?_) |(exact hq1) |(refine World.ownsRow.kept ?_ hg1 (Or.inr ?_);rotate_left;(intro e;have e2:=Option.some.inj e;first |(exfalso;dsimp only at e2;omega) |(exfalso;have hy:=HBW.out.size;simp at hy e2;omega))) |(refine own_litV _ _ _ [.int .u16 x] _ _ ?_ ?_ ?_ ?_ _ ?_;(focus (first |(simp;done) |(have hq:=HBW.out.size;simp at hq ⊢;omega) |omega;done));(focus (simp;done));(focus (simp [maxLen];done));(focus (exact rfl));(focus (exact rfl))) |(with_reducible refine World.ownsRow.alloc ?_ _)));done));(focus (intro u hu;simp at hu;subst hu;rfl));(focus (simp;omega));(focus (simp [maxLen];omega));(focus ((repeat (first |with_reducible exact HBW.out |with_reducible exact Below.refl _ _ |with_reducible refine Below.drew ?_ |(with_reducible refine Below.alloc ?_ (by first |(simp;done) |(have hq:=HBW.out.size;simp at hq ⊢;omega)) _) |(with_reducible refine Below.setCell ?_ (by first |(simp;done) |(have hq:=HBW.out.size;simp at hq ⊢;omega)) _)));done));intro v2 w2 hq2 hg2 hbb;have HBW:=Lib.hid hbb)
      |(refine step_appR W3 87 49 i0 (.int .u16 0) 2 Tryz.underlying87 hi hz0 hz1 hz2 rfl (by rfl) (.tmp 40) (.tmp 43) (by rfl) (([]++(o.map (Value.int .u16)).take (m*1))++ [.int .u16 x]) ?_ W3.heap.size A2 (o.length -m) c2 ((o.map (Value.int .u16)).drop (m*1)) (by rfl) ?_ ?_ ?_ ?_ ?_ ?_;(focus (exact hq2));(focus (exact HQ.out.below (by (repeat (first |with_reducible exact HBW.out |with_reducible exact Below.refl _ _ |with_reducible refine Below.drew ?_ |(with_reducible refine Below.alloc ?_ (by first |(simp;done) |(have hq:=HBW.out.size;simp at hq ⊢;omega)) _) |(with_reducible refine Below.setCell ?_ (by first |(simp;done) |(have hq:=HBW.out.size;simp at hq ⊢;omega)) _))))));(focus (exact HO2.out));(focus (simp;omega));(focus (simp [maxLen];omega));(focus ((repeat (first |with_reducible exact HBW.out |with_reducible exact Below.refl _ _ |with_reducible refine Below.drew ?_ |(with_reducible refine Below.alloc ?_ (by first |(simp;done) |(have hq:=HBW.out.size;simp at hq ⊢;omega)) _) |(with_reducible refine Below.setCell ?_ (by first |(simp;done) |(have hq:=HBW.out.size;simp at hq ⊢;omega)) _)));done));intro v3 w3 hq3 hg3 hbb;have HBW:=Lib.hid hbb)
      |fail)
      all_goals
       have HB4:=Lib.hid (Below.then_ HB.out (Below.then_ HB3.out HBW.out))
       have HO4:=Lib.hid (own_lessC hq3 (Nat.le_trans HB.out.size HB3.out.size))
       have HT4:=Lib.hid (HT.out.next HX.out m HL.out HLE.out)
       rw [←map_insV (Value.int .u16) o x m] at HO4
       rw [List.length_map] at HO4
       clear hq3 hq2 hq1 hg1 hg2 hg3
       go_wp2
       go_roundw
       case rel=>exact ⟨k+1,_,by omega,by go_num,HT4,HO4,HB4⟩
       case measure=>simp [intOf];omega
     ·have HLE:=Lib.hid (show ∀y ∈ o.drop n,x≤y from fun u hu=>by
       rw [drop_cons HY.out] at hu
       rcases List.mem_cons.1 hu with rfl |hu
       ·omega
       ·exact HL.out u (by rw [HN.out];exact hu))
      have hd:decide (x <y)=true:=decide_eq_true (by omega)
      have HLF:=Lib.hid hle
      clear hle
      go_wp2_with fail
      refine wp_region_ext (by kernel_rfl) (by kernel_rfl) ?_
      repeat (go_big_quiet_step (fail))
      refine wpQuiet_nil ?_
      intro xa
      have HB3:=Lib.hid (Below.then_ HB2.out (ext_below _ xa))
      clear g1 g3 hd
      go_wp2
      go_roundw
      case rel=>exact ⟨n,by omega,by first |rfl |(congr 1;omega),HLE,HB3⟩
      case measure=>have:=HN.out;simp [intOf];omega
  ·obtain rfl:k=l.length:=by omega
   have HE:=Lib.hid (show wr.ownsRow w.heap.size 49 1 (.slice oA o.length oc) l.length ((l.mergeSort (fun a b=>decide (a≤b))).map (Value.int .u16)) by
    rw [←HT.out.all, ←HOL.out]
    exact HO.out)
   go_wp2
   go_ret
   exact ⟨_,rfl,HE.out,HB.out⟩
end Go.Proofs.YtcfoolooemhbeaaGreat
namespace Go.Proofs.YtcfoolooemhbeaaGreat
open Go.RowKit
attribute [local go_sem] ext_cell
def keysOf (c:Cfg):Nat→List (List Int)
 |1=>c.parts.map keyPar
 |2=>c.wins.map keyWin
 |3=>c.regs.map keyReg
 |4=>c.ports.map keyPrt
 |5=>c.chans.map keyChn
 |_=> []
theorem textL_len (s:List UInt8):(textL s).length=s.length+1:=by unfold textL;simp
theorem keys_len {c:Cfg} (hs:c.small) (s:Nat):(keysOf c s).length≤1048576∧ ∀k ∈ keysOf c s,k.length≤8388608:=by
 have hb:=hs.bd
 have nil:([]:List (List Int)).length≤1048576∧ ∀k ∈ ([]:List (List Int)),k.length≤8388608:=⟨by simp,by simp⟩
 match s with
 |0=>exact nil
 |1=>exact ⟨by simpa [keysOf] using hb.p,fun k hk=>by
   obtain ⟨x,hx,rfl⟩:=List.mem_map.1 hk
   have:=hs.pnames x hx
   unfold BIG at this
   simp [keyPar,textL_len];omega⟩
 |2=>exact ⟨by simpa [keysOf] using hb.w,fun k hk=>by
   obtain ⟨x,hx,rfl⟩:=List.mem_map.1 hk
   simp [keyWin]⟩
 |3=>exact ⟨by simpa [keysOf] using hb.r,fun k hk=>by
   obtain ⟨x,hx,rfl⟩:=List.mem_map.1 hk
   simp [keyReg]⟩
 |4=>exact ⟨by simpa [keysOf] using hb.t,fun k hk=>by
   obtain ⟨x,hx,rfl⟩:=List.mem_map.1 hk
   have:=hs.tnames x hx
   unfold BIG at this
   simp [keyPrt,textL_len];omega⟩
 |5=>exact ⟨by simpa [keysOf] using hb.x,fun k hk=>by
   obtain ⟨x,hx,rfl⟩:=List.mem_map.1 hk
   have:=hb.d x hx
   simp [keyChn];omega⟩
 |_+6=>exact nil
theorem rKeys_ok (c:Cfg) (A1 A2 A3 A4 A5:Option Addr) (c1 c2 c3 c4 c5:Nat) (w:World) (hR:CfgR w w.heap.size c A1 A2 A3 A4 A5 c1 c2 c3 c4 c5) (hok:c.ok) (hs:c.small) (s:Nat) (h1:1≤s) (h5:s <6):Calls Tryz.prog 58 #[cfgV c.frame A1 A2 A3 A4 A5 c.parts.length c.wins.length c.regs.length c.ports.length c.chans.length c1 c2 c3 c4 c5, .int .i64 s] w fun e w'=> ∃A n d,e= .returned (.slice A n d)∧n=(keysOf c s).length∧KeysI w' w'.heap.size (keysOf c s) A∧Below w.heap.size w w':=by
 have fin: ∀ {P:Value→List (List Int)→Prop} {l:List (List Int)},(Calls Tryz.prog 58 #[cfgV c.frame A1 A2 A3 A4 A5 c.parts.length c.wins.length c.regs.length c.ports.length c.chans.length c1 c2 c3 c4 c5, .int .i64 s] w fun e w'=> ∃v,e= .returned v∧KeysO w' w.heap.size v l∧Below w.heap.size w w')→l=keysOf c s→Calls Tryz.prog 58 #[cfgV c.frame A1 A2 A3 A4 A5 c.parts.length c.wins.length c.regs.length c.ports.length c.chans.length c1 c2 c3 c4 c5, .int .i64 s] w fun e w'=> ∃A n d,e= .returned (.slice A n d)∧n=(keysOf c s).length∧KeysI w' w'.heap.size (keysOf c s) A∧Below w.heap.size w w':=by
  intro P l h he
  subst he
  refine h.mono fun e w' ⟨v,he,hk,hb⟩=> ?_
  obtain ⟨A,d,rfl⟩:=hk.form
  exact ⟨A,_,d,he,rfl,(KeysI.of_own hk).2,hb⟩
 rcases (show s=1∨s=2∨s=3∨s=4∨s=5 by omega) with rfl |rfl |rfl |rfl |rfl
 ·exact fin (P:=fun _ _=>True) (rKeys1_ok c A1 A2 A3 A4 A5 c1 c2 c3 c4 c5 w hR hok hs) rfl
 ·exact fin (P:=fun _ _=>True) (rKeys2_ok c A1 A2 A3 A4 A5 c1 c2 c3 c4 c5 w hR hok hs) rfl
 ·exact fin (P:=fun _ _=>True) (rKeys3_ok c A1 A2 A3 A4 A5 c1 c2 c3 c4 c5 w hR hok hs) rfl
 ·exact fin (P:=fun _ _=>True) (rKeys4_ok c A1 A2 A3 A4 A5 c1 c2 c3 c4 c5 w hR hok hs) rfl
 ·exact fin (P:=fun _ _=>True) (rKeys5_ok c A1 A2 A3 A4 A5 c1 c2 c3 c4 c5 w hR hok hs) rfl
end Go.Proofs.YtcfoolooemhbeaaGreat
