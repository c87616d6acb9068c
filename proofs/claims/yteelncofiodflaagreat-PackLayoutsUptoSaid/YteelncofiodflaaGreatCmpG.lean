/-
  The comparisons that package conf is made of: cmp.Compare at the kinds of fields, cmp.Or, strings.Compare, slices.Compare at uint16, flag: what each returns; none turns the world.
-/
import Derived.Lib.Bytealg
import Derived.Lib.Small
import Derived.Test.YteelncofiodflaaGreatCore
import Derived.Sort.Grow
namespace Go.Proofs.YteelncofiodflaaGreat
open Go.RowKit
theorem ci_lt {x y:Int} (h:x <y):Lib.compareInt x y= -1:=by unfold Lib.compareInt;rw [if_pos h]
theorem ci_gt {x y:Int} (h:y <x):Lib.compareInt x y=1:=by unfold Lib.compareInt;rw [if_neg (by omega),if_pos h]
theorem ci_eq (x:Int):Lib.compareInt x x=0:=by unfold Lib.compareInt;rw [if_neg (by omega),if_neg (by omega)]
theorem isNaNU16_ok (x:Int) (w:World):Calls Tryz.prog 150 #[.int .u16 x] w fun e w'=>e= .returned (.bool false)∧w'=w:=by
 go_enter Tryz.func150,Tryz.ntmps150
 go_wp2
 go_ret
 exact ⟨by simp,rfl⟩
theorem cmpU16_ok (x y:Int) (w:World):Calls Tryz.prog 106 #[.int .u16 x, .int .u16 y] w fun e w'=>e= .returned (.int .i64 (Lib.compareInt x y))∧w'=w:=by
 have h3:x <y∨y <x∨x=y:=by omega
 rcases h3 with h |h |h
 ·rw [ci_lt h]
  go_enter Tryz.func106,Tryz.ntmps106
  go_wp2_with (go_at_call 150;refine (isNaNU16_ok _ _).mono ?_;rintro e w' ⟨rfl,rfl⟩)
  go_ret
  exact ⟨rfl,rfl⟩
 ·have h2: ¬x <y:=by omega
  rw [ci_gt h]
  go_enter Tryz.func106,Tryz.ntmps106
  go_wp2_with (go_at_call 150;refine (isNaNU16_ok _ _).mono ?_;rintro e w' ⟨rfl,rfl⟩)
  go_ret
  exact ⟨rfl,rfl⟩
 ·subst h
  rw [ci_eq]
  go_enter Tryz.func106,Tryz.ntmps106
  go_wp2_with (go_at_call 150;refine (isNaNU16_ok _ _).mono ?_;rintro e w' ⟨rfl,rfl⟩)
  go_ret
  exact ⟨rfl,rfl⟩
theorem isNaNU64_ok (x:Int) (w:World):Calls Tryz.prog 152 #[.int .u64 x] w fun e w'=>e= .returned (.bool false)∧w'=w:=by
 go_enter Tryz.func152,Tryz.ntmps152
 go_wp2
 go_ret
 exact ⟨by simp,rfl⟩
theorem cmpU64_ok (x y:Int) (w:World):Calls Tryz.prog 108 #[.int .u64 x, .int .u64 y] w fun e w'=>e= .returned (.int .i64 (Lib.compareInt x y))∧w'=w:=by
 have h3:x <y∨y <x∨x=y:=by omega
 rcases h3 with h |h |h
 ·rw [ci_lt h]
  go_enter Tryz.func108,Tryz.ntmps108
  go_wp2_with (go_at_call 152;refine (isNaNU64_ok _ _).mono ?_;rintro e w' ⟨rfl,rfl⟩)
  go_ret
  exact ⟨rfl,rfl⟩
 ·have h2: ¬x <y:=by omega
  rw [ci_gt h]
  go_enter Tryz.func108,Tryz.ntmps108
  go_wp2_with (go_at_call 152;refine (isNaNU64_ok _ _).mono ?_;rintro e w' ⟨rfl,rfl⟩)
  go_ret
  exact ⟨rfl,rfl⟩
 ·subst h
  rw [ci_eq]
  go_enter Tryz.func108,Tryz.ntmps108
  go_wp2_with (go_at_call 152;refine (isNaNU64_ok _ _).mono ?_;rintro e w' ⟨rfl,rfl⟩)
  go_ret
  exact ⟨rfl,rfl⟩
theorem isNaNU8_ok (x:Int) (w:World):Calls Tryz.prog 159 #[.int .u8 x] w fun e w'=>e= .returned (.bool false)∧w'=w:=by
 go_enter Tryz.func159,Tryz.ntmps159
 go_wp2
 go_ret
 exact ⟨by simp,rfl⟩
theorem cmpU8_ok (x y:Int) (w:World):Calls Tryz.prog 115 #[.int .u8 x, .int .u8 y] w fun e w'=>e= .returned (.int .i64 (Lib.compareInt x y))∧w'=w:=by
 have h3:x <y∨y <x∨x=y:=by omega
 rcases h3 with h |h |h
 ·rw [ci_lt h]
  go_enter Tryz.func115,Tryz.ntmps115
  go_wp2_with (go_at_call 159;refine (isNaNU8_ok _ _).mono ?_;rintro e w' ⟨rfl,rfl⟩)
  go_ret
  exact ⟨rfl,rfl⟩
 ·have h2: ¬x <y:=by omega
  rw [ci_gt h]
  go_enter Tryz.func115,Tryz.ntmps115
  go_wp2_with (go_at_call 159;refine (isNaNU8_ok _ _).mono ?_;rintro e w' ⟨rfl,rfl⟩)
  go_ret
  exact ⟨rfl,rfl⟩
 ·subst h
  rw [ci_eq]
  go_enter Tryz.func115,Tryz.ntmps115
  go_wp2_with (go_at_call 159;refine (isNaNU8_ok _ _).mono ?_;rintro e w' ⟨rfl,rfl⟩)
  go_ret
  exact ⟨rfl,rfl⟩
theorem isNaNU32_ok (x:Int) (w:World):Calls Tryz.prog 163 #[.int .u32 x] w fun e w'=>e= .returned (.bool false)∧w'=w:=by
 go_enter Tryz.func163,Tryz.ntmps163
 go_wp2
 go_ret
 exact ⟨by simp,rfl⟩
theorem cmpU32_ok (x y:Int) (w:World):Calls Tryz.prog 120 #[.int .u32 x, .int .u32 y] w fun e w'=>e= .returned (.int .i64 (Lib.compareInt x y))∧w'=w:=by
 have h3:x <y∨y <x∨x=y:=by omega
 rcases h3 with h |h |h
 ·rw [ci_lt h]
  go_enter Tryz.func120,Tryz.ntmps120
  go_wp2_with (go_at_call 163;refine (isNaNU32_ok _ _).mono ?_;rintro e w' ⟨rfl,rfl⟩)
  go_ret
  exact ⟨rfl,rfl⟩
 ·have h2: ¬x <y:=by omega
  rw [ci_gt h]
  go_enter Tryz.func120,Tryz.ntmps120
  go_wp2_with (go_at_call 163;refine (isNaNU32_ok _ _).mono ?_;rintro e w' ⟨rfl,rfl⟩)
  go_ret
  exact ⟨rfl,rfl⟩
 ·subst h
  rw [ci_eq]
  go_enter Tryz.func120,Tryz.ntmps120
  go_wp2_with (go_at_call 163;refine (isNaNU32_ok _ _).mono ?_;rintro e w' ⟨rfl,rfl⟩)
  go_ret
  exact ⟨rfl,rfl⟩
def orL:List Int→Int
 | []=>0
 |x::r=>if x=0 then orL r else x
theorem orL_skip: ∀ {l:List Int} {k:Nat},(∀j x,j <k→l[j]? =some x→x=0)→orL l=orL (l.drop k)
 |l,0,_=>by simp
 | [],k+1,_=>by simp
 |x::r,k+1,h=>by
  have h0:=h 0 x (by omega) rfl
  rw [orL,if_pos h0,List.drop_succ_cons]
  exact orL_skip fun j y hj hy=>h (j+1) y (by omega) (by simpa using hy)
theorem orL_all {l:List Int} (h: ∀j x,j <l.length→l[j]? =some x→x=0):orL l=0:=by
 rw [orL_skip h,List.drop_length];rfl
theorem orL_at {l:List Int} {k:Nat} {x:Int} (h: ∀j x,j <k→l[j]? =some x→x=0) (hx:l[k]? =some x) (hne:x≠0):orL l=x:=by
 rw [orL_skip h,drop_cons hx,orL,if_neg hne]
set_option maxRecDepth 100000 in
set_option maxHeartbeats 1000000 in
theorem cmpOrL_ok (l:List Int) (A:Option Addr) (cp:Nat) (w:World) (hl:l.length≤1048576) (hR:Rd w w.heap.size 1 A l.length (l.map (Value.int .i64))):Calls Tryz.prog 105 #[.slice A l.length cp] w fun e w'=>e= .returned (.int .i64 (orL l))∧w'=w:=by
 have HR:=Lib.hid hR
 clear hR
 go_enter Tryz.func105,Tryz.ntmps105
 go_wp2
 go_loopw [8] (fun i wr=> ∃k:Nat,k≤l.length∧i= .int .i64 k∧(∀j x,j <k→l[j]? =some x→x=0)∧wr=w) (fun i _=>l.length -(intOf i).toNat)
 case atStart=>exact ⟨0,Nat.zero_le _,rfl,fun j x hj=>by omega,by first |rfl |trivial⟩
 case round=>
  obtain ⟨k,hk,rfl,hz,rfl⟩:=hrel
  by_cases hlt:k <l.length
  ·obtain ⟨x,hx⟩:=get_lt hlt
   obtain ⟨b,o,rfl,hb,g0⟩:=int_at HR.out hx
   have k0:(0:Int)≤(k:Int):=by omega
   have k1:(k:Int) <(l.length:Int):=by omega
   have HX:=Lib.hid hx
   have HZ:=Lib.hid hz
   clear hx hz
   by_cases h0:x=0
   ·subst h0
    go_wp2
    go_roundw
    case rel=>exact ⟨k+1,by omega,by go_num,fun j y hj hy=>by rcases Nat.lt_succ_iff_lt_or_eq.1 hj with h |rfl;exact HZ.out j y h hy;rw [HX.out] at hy;injection hy with hy;exact hy.symm,by first |rfl |trivial⟩
    case measure=>simp [intOf];omega
   ·have hv:=orL_at HZ.out HX.out h0
    have h02:(x==0)=false:=by rw [beq_eq_false_iff_ne];exact h0
    have HV:=Lib.hid hv
    clear hv
    go_wp2
    go_ret
    exact ⟨by rw [HV.out];rfl,rfl⟩
  ·obtain rfl:k=l.length:=by omega
   have HV:=Lib.hid (orL_all hz)
   clear hz
   go_wp2
   go_ret
   exact ⟨by rw [HV.out];rfl,rfl⟩
set_option maxRecDepth 100000 in
set_option maxHeartbeats 1000000 in
theorem cmpBytes_ok (a b:ByteArray) (w:World):Calls Tryz.prog 151 #[.string a, .string b] w fun e w'=>e= .returned (.int .i64 (Lib.compareBytes a.data.toList b.data.toList))∧w'=w:=by
 go_enter Tryz.func151,Tryz.ntmps151
 go_wp2
 rw [run_callFunc_extern Tryz.func177 (by kernel_rfl) (by kernel_rfl) (by kernel_rfl) (e:=Extern.BytealgCompare.compare) (by kernel_rfl),Lib.run_compareString]
 simp only [Result.andThen]
 rw [Oper.upon_value]
 go_wp2
 go_ret
 exact ⟨rfl,rfl⟩
set_option maxRecDepth 100000 in
set_option maxHeartbeats 1000000 in
theorem cmpStr_ok (a b:ByteArray) (w:World):Calls Tryz.prog 107 #[.string a, .string b] w fun e w'=>e= .returned (.int .i64 (Lib.compareBytes a.data.toList b.data.toList))∧w'=w:=by
 go_enter Tryz.func107,Tryz.ntmps107
 go_wp2_with (go_at_call 151;refine (cmpBytes_ok _ _ _).mono ?_;rintro e w' ⟨rfl,rfl⟩)
 go_ret
 exact ⟨rfl,rfl⟩
def flagI (a b:Bool):Int:=if a=b then 0 else if b then -1 else 1
theorem flag_ok (a b:Bool) (w:World):Calls Tryz.prog 116 #[.bool a, .bool b] w fun e w'=>e= .returned (.int .i64 (flagI a b))∧w'=w:=by
 cases a<;>cases b
 all_goals
  go_enter Tryz.func116,Tryz.ntmps116
  go_wp2
  go_ret
  exact ⟨rfl,rfl⟩
def cmpL:List Int→List Int→Int
 | [],[]=>0
 | [],_::_=> -1
 |_::_,[]=>1
 |x::r,y::s=>if Lib.compareInt x y=0 then cmpL r s else Lib.compareInt x y
theorem cmpL_skip: ∀ {l m:List Int} {k:Nat},k≤l.length→k≤m.length→l.take k=m.take k→cmpL l m=cmpL (l.drop k) (m.drop k)
 |_,_,0,_,_,_=>by simp
 | [],_,k+1,h,_,_=>by simp at h
 |_::_,[],k+1,_,h,_=>by simp at h
 |x::r,y::s,k+1,h1,h2,h3=>by
  rw [List.take_succ_cons,List.take_succ_cons] at h3
  injection h3 with h3 h4
  subst h3
  rw [cmpL,ci_eq,if_pos rfl,List.drop_succ_cons,List.drop_succ_cons]
  exact cmpL_skip (by simpa using h1) (by simpa using h2) h4
set_option maxRecDepth 100000 in
set_option maxHeartbeats 2000000 in
theorem slCmp_ok (l m:List Int) (A B:Option Addr) (a b:Nat) (w:World) (hl:l.length≤4194304) (_hm:m.length≤4194304) (hA:Rd w w.heap.size 1 A l.length (l.map (Value.int .u16))) (hB:Rd w w.heap.size 1 B m.length (m.map (Value.int .u16))):
  Calls Tryz.prog 124 #[.slice A l.length a, .slice B m.length b] w fun e w'=>e= .returned (.int .i64 (cmpL l m))∧w'=w:=by
 have HA:=Lib.hid hA
 have HB:=Lib.hid hB
 clear hA hB
 go_enter Tryz.func124,Tryz.ntmps124
 go_wp2
 go_loopw [11] (fun i wr=> ∃k:Nat,k≤l.length∧k≤m.length∧i= .int .i64 k∧Hid (l.take k=m.take k)∧wr=w) (fun i _=>l.length -(intOf i).toNat)
 case atStart=>exact ⟨0,Nat.zero_le _,Nat.zero_le _,rfl,Lib.hid rfl,by first |rfl |trivial⟩
 case round=>
  obtain ⟨k,hk,hk2,rfl,HT,rfl⟩:=hrel
  by_cases hlt:k <l.length
  ·obtain ⟨x,hx⟩:=get_lt hlt
   obtain ⟨b1,o1,rfl,h1,g1⟩:=int_at HA.out hx
   have k0:(0:Int)≤(k:Int):=by omega
   have k1:(k:Int) <(l.length:Int):=by omega
   by_cases hltm:k <m.length
   ·obtain ⟨y,hy⟩:=get_lt hltm
    obtain ⟨b2,o2,rfl,h2,g2⟩:=int_at HB.out hy
    have m1:(k:Int) <(m.length:Int):=by omega
    have hs:=cmpL_skip hk hk2 HT.out
    rw [drop_cons hx,drop_cons hy] at hs
    have HX:=Lib.hid hx
    have HY:=Lib.hid hy
    have HS:=Lib.hid hs
    clear hx hy hs
    obtain ⟨v,hv⟩: ∃v,Lib.compareInt x y=v:=⟨_,rfl⟩
    have hcmp: ∀w,Calls Tryz.prog 106 #[.int .u16 x, .int .u16 y] w fun e w'=>e= .returned (.int .i64 v)∧w'=w:=fun w=>by rw [←hv];exact cmpU16_ok x y w
    have HV:=Lib.hid hv
    clear hv
    by_cases hv0:v=0
    ·subst hv0
     have HXY:=Lib.hid (show x=y by
      have:=HV.out
      rcases (show x <y∨y <x∨x=y by omega) with h |h |h
      ·rw [ci_lt h] at this;cases this
      ·rw [ci_gt h] at this;cases this
      ·exact h)
     go_wp2_with (go_at_call 106;refine (hcmp _).mono ?_;rintro e w' ⟨rfl,rfl⟩)
     go_roundw
     case rel=>exact ⟨k+1,by omega,by omega,by go_num,Lib.hid (by rw [take_next HX.out,take_next HY.out,HT.out,HXY.out]),by first |rfl |trivial⟩
     case measure=>simp [intOf];omega
    ·have hv2:(v==0)=false:=by rw [beq_eq_false_iff_ne];exact hv0
     have HV2:=Lib.hid (show cmpL l m=v by rw [HS.out];unfold cmpL;rw [HV.out];exact if_neg hv0)
     go_wp2_with (go_at_call 106;refine (hcmp _).mono ?_;rintro e w' ⟨rfl,rfl⟩)
     go_ret
     exact ⟨by rw [HV2.out];rfl,rfl⟩
   ·obtain rfl:k=m.length:=by omega
    have hs:=cmpL_skip hk hk2 HT.out
    rw [drop_cons hx,List.drop_length] at hs
    have HS:=Lib.hid hs
    clear hs hx
    go_wp2
    go_ret
    exact ⟨by rw [HS.out];rfl,rfl⟩
  ·obtain rfl:k=l.length:=by omega
   have hs:=cmpL_skip hk hk2 HT.out
   rw [List.drop_length] at hs
   by_cases hltm:l.length <m.length
   ·obtain ⟨y,hy⟩:=get_lt hltm
    rw [drop_cons hy] at hs
    have HS:=Lib.hid hs
    clear hs hy
    have m1:(l.length:Int) <(m.length:Int):=by omega
    go_wp2
    go_ret
    exact ⟨by rw [HS.out];rfl,rfl⟩
   ·rw [List.drop_eq_nil_of_le (show m.length≤l.length by omega)] at hs
    have HS:=Lib.hid hs
    clear hs
    have m1: ¬(l.length:Int) <(m.length:Int):=by omega
    go_wp2
    go_ret
    exact ⟨by rw [HS.out];rfl,rfl⟩
end Go.Proofs.YteelncofiodflaaGreat
namespace Go.Proofs.YteelncofiodflaaGreat
open Go.RowKit Go.Sort
def Grown (W V:World):Prop:= ∃q os,V=grow (W.drewN q) os
theorem Grown.refl (W:World):Grown W W:=⟨0,#[],by simp [grow,World.drewN]⟩
theorem Grown.trans {A B C:World} (h:Grown A B) (k:Grown B C):Grown A C:=by
 obtain ⟨q,os,rfl⟩:=h
 obtain ⟨p,us,rfl⟩:=k
 exact ⟨q+p,os++us,by simp [grow,World.drewN,Array.append_assoc,Nat.add_assoc]⟩
theorem Grown.alloc {A B:World} (h:Grown A B) (o:Obj):Grown A (B.alloc o):=h.trans ⟨0,#[o],by rw [alloc_eq_grow];simp [grow,World.drewN]⟩
theorem Grown.drew {A B:World} (h:Grown A B):Grown A B.drew:=h.trans ⟨1,#[],by rw [grow_empty];rfl⟩
theorem Grown.drewN {A B:World} (h:Grown A B) (n:Nat):Grown A (B.drewN n):=h.trans ⟨n,#[],by rw [grow_empty]⟩
theorem Grown.below {A B:World} (h:Grown A B):Below A.heap.size A B:=by
 obtain ⟨q,os,rfl⟩:=h
 refine ⟨rfl,rfl,rfl,by simp [grow,World.drewN],fun k hk=> ?_⟩
 simp only [grow,World.drewN]
 exact Array.getElem?_append_left hk
theorem orNew (l:List Int) (vs:Array Value) (n:Nat) (hvs:vs=(l.map (Value.int .i64)).toArray) (hn:n=l.length) (hl:l.length≤1048576) (W0 V:World) (bl:Nat) (hV:V=(W0.alloc (.cells vs 3)).drew) (hbl:bl=W0.heap.size):
  Calls Tryz.prog 105 #[.slice (some ⟨bl,0,none⟩) n n] V fun e w'=>e= .returned (.int .i64 (orL l))∧w'=V:=by
 subst hn hbl hV hvs
 refine cmpOrL_ok l _ _ _ hl ⟨by simp,fun _=>⟨_,_,rfl,by show W0.heap.size <(W0.alloc _).heap.size;simp,fun j u hu=> ?_⟩⟩
 have:=World.news_of_block (heap_alloc_new W0 (.cells (l.map (Value.int .i64)).toArray 3)) j u (by simpa using hu)
 rw [addr_add] at this
 exact this
end Go.Proofs.YteelncofiodflaaGreat
