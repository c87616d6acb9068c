/-
  The library's sort at uint16, walked: insertion sort, heap sort. No condition but on the size.
-/
import Derived.Test.YteelncofiodflaaGreatLaySortK
import Derived.Test.YteelncofiodflaaGreatSrtA
import Derived.Sort.EveryDepth
import Derived.Shelf.SortM.Walk7aIn
import Derived.Ground.SlgmProg
import Derived.Deep.RegionHeld
import Derived.Deep.CutBlock
import Derived.Deep.DeepCutAuto
import Derived.Sort.LotC
import Derived.Deep.Cut
namespace Go.Proofs.YteelncofiodflaaGreat
open Go.RowKit Go.Sort Go.Shelf
theorem bitsLen_ok (x:Int) (w:World) (h0:0≤x) (h1:x≤18446744073709551615):Calls Tryz.prog 101 #[.int .u64 x] w fun e w'=>e= .returned (.int .i64 (Lib.bitLen x.toNat))∧w'=w:=
 calls_of_every_depth fun D=>AnySM.bits_LenIn Tryz.layLen D x w h0 h1
theorem npow_ok (l:Nat) (w:World) (hl:l≤4194304):Calls Tryz.prog 171 #[.int .i64 l] w fun e w'=>e= .returned (.int .u64 ((1 <<<bitsLen l:Nat):Int))∧w'=w:=
 calls_of_every_depth fun D=>AnySM.nextPowerOfTwoIn Tryz.layNpow D l (by omega) w
theorem next_ok (g X:Nat) (hX:X <18446744073709551616) (w:World) (hc:w.cell? ⟨g,0,none⟩=some (.int .u64 X)) (hf:w.frozen? ⟨g,0,none⟩=false):
  Calls Tryz.prog 172 #[.pointer (some ⟨g,0,none⟩)] w fun e w'=>e= .returned (.int .u64 (xorNextN X:Nat))∧w'=(w.setCell ⟨g,0,none⟩ (.int .u64 (xorNextN X:Nat))).drewN 3:=
 calls_of_every_depth fun D=>AnySM.xorshift_NextIn Tryz.layNext D g 0 X hX w hc hf
structure Rnd (W0 W:World) (e:TypeId) (blk off n:Nat) (d:Array Int) (g:Nat):Prop where
 arr:Arr W0 W e blk off n d
 far:W0.heap.size≤g
 cnt: ∃s:Nat,W.cell? ⟨g,0,none⟩=some (.int .u64 s)∧s <18446744073709551616
 free:W.frozen? ⟨g,0,none⟩=false
theorem Rnd.swap {W0 W:World} {e:TypeId} {blk off n g:Nat} {d:Array Int} (h:Rnd W0 W e blk off n d g) {i j:Nat} (hi:i <n) (hj:j <n):
  Rnd W0 (((W.setCell ⟨blk,off+i,none⟩ (.int .u16 d[j]!)).setCell ⟨blk,off+j,none⟩ (.int .u16 d[i]!)).drew) e blk off n (swp d i j) g:=by
 have hl:=h.arr.lt
 have hf:=h.far
 obtain ⟨s,c1,c2⟩:=h.cnt
 refine ⟨(h.arr.swap 0 hi hj).same rfl rfl rfl rfl,h.far,⟨s, ?_,c2⟩, ?_⟩
 ·show (((W.setCell ⟨blk,off+i,none⟩ (.int .u16 d[j]!)).setCell ⟨blk,off+j,none⟩ (.int .u16 d[i]!))).cell? ⟨g,0,none⟩=_
  rw [World.cell?_setCell_far _ _ _ _ (by show blk≠g;omega),World.cell?_setCell_far _ _ _ _ (by show blk≠g;omega)]
  exact c1
 ·have:=h.free
  simpa using this
theorem Rnd.next {W0 W:World} {e:TypeId} {blk off n g Y:Nat} {d:Array Int} (h:Rnd W0 W e blk off n d g) (hY:Y <18446744073709551616):Rnd W0 ((W.setCell ⟨g,0,none⟩ (.int .u64 Y)).drewN 3) e blk off n d g:=by
 obtain ⟨s,c1,c2⟩:=h.cnt
 refine ⟨(h.arr.away h.far _).drewN 3,h.far,⟨Y,inc_cell c1 _,hY⟩, ?_⟩
 have:=h.free
 simpa using this
theorem perm_swp {d0 d:Array Int} {a b i j:Nat} (h:PermIn a b d0 d) (hb:b≤d.size) (h1:a≤i) (h2:i <b) (h3:a≤j) (h4:j <b):PermIn a b d0 (swp d i j):=permIn_trans _ _ _ _ _ h (swp_permIn _ _ _ _ _ h1 h2 h3 h4 hb)
theorem pow_bits (l:Nat) (h:0 <l):0 <1 <<<bitsLen l∧1 <<<bitsLen l≤2*l:=by
 rw [Nat.one_shiftLeft]
 exact ⟨Nat.pos_of_ne_zero (by simp),two_pow_bitsLen_le h⟩
set_option maxRecDepth 100000 in
set_option maxHeartbeats 8000000 in
theorem break_ok (W0 w:World) (e:TypeId) (blk off n cap a b:Nat) (d:Array Int) (hA:Arr W0 w e blk off n d) (hab:a+8≤b) (hb:b≤n) (hn:n≤4194304):
  Calls Tryz.prog 138 #[.slice (some ⟨blk,off,none⟩) n cap, .int .i64 a, .int .i64 b] w fun r w'=> ∃d',r= .returned (.tuple #[])∧PermIn a b d d'∧Arr W0 w' e blk off n d':=by
 obtain ⟨l,hl⟩: ∃l,b=a+l:=⟨b -a,by omega⟩
 have hsub:(b:Int) -(a:Int)=(l:Int):=by omega
 have hl8:(8:Int)≤(l:Int):=by omega
 have hl4:l≤4194304:=by omega
 obtain ⟨q,hq⟩: ∃q,q=l/4:=⟨_,rfl⟩
 have hdiv:(l:Int).tdiv 4=(q:Int):=by rw [Int.tdiv_eq_ediv_of_nonneg (by omega)];omega
 have hq1:a+q*2+1 <b:=by omega
 have hq2:0 <q:=by omega
 obtain ⟨hm0,hm1⟩:=pow_bits l (by omega)
 have HL:=Lib.hid hl
 have H0:=Lib.hid hA
 clear hA hl hq
 go_enter Tryz.func138,Tryz.ntmps138
 go_upto_region 3 with (fail)
 have hr0:Rnd W0 (w.alloc (.cells #[.int .u64 l] 253)) e blk off n d w.heap.size:=⟨H0.out.alloc _,H0.out.size,⟨l,by simp,by omega⟩,by simp⟩
 generalize World.alloc w _=W1 at hr0 ⊢
 generalize w.heap.size=g at hr0 ⊢
 have HR0:=Lib.hid hr0
 clear hr0 H0
 obtain ⟨m,hm⟩: ∃m,m=1 <<<bitsLen l:=⟨_,rfl⟩
 have hnp:=npow_ok l W1 hl4
 rw [←hm] at hnp hm0 hm1
 have hm2:m≤8388608:=by omega
 clear hm
 go_wp2_with (go_at_call 171;refine hnp.mono ?_;rintro r w2 ⟨rfl,rfl⟩)
 clear hnp
 go_loopw [9] (fun s wr=> ∃(x:Nat) (dk:Array Int),s= .int .i64 x∧a+q*2≤x+1∧x≤a+q*2+2∧Hid (Rnd W0 wr e blk off n dk g)∧Hid (PermIn a b d dk)) (fun s _=>a+q*2+2 -(Go.Proofs.intOf s).toNat)
 case atStart=>exact ⟨a+q*2 -1,d,by congr 1;omega,by omega,by omega,HR0,Lib.hid (permIn_refl _ _ _)⟩
 case round=>
  obtain ⟨x,dk,rfl,hx1,hx2,hR,hPm⟩:=hrel
  by_cases hx:x≤a+q*2+1
  ·have hxi:(x:Int)≤(a:Int)+(q:Int)*2+1:=by omega
   obtain ⟨X,hc,hX⟩:=hR.out.cnt
   have hfr:=hR.out.free
   go_wp2_with fail
   refine (next_ok g X hX _ hc hfr).mono ?_
   rintro r w2 ⟨rfl,rfl⟩
   have hr3:=hR.out.next (Y:=xorNextN X) (xorNextN_lt X hX)
   have hYl:=xorNextN_lt X hX
   generalize xorNextN X=Y at hr3 hYl ⊢
   generalize World.drewN _ 3=w3 at hr3 ⊢
   obtain ⟨o,hO⟩: ∃o,Y&&&(m -1)=o:=⟨_,rfl⟩
   have hom:o <m:=by have:Y&&&(m -1)≤m -1:=Nat.and_le_right;omega
   have eAnd:bits .and .u64 (Y:Int) ((m:Int) -1)=(o:Int):=by
    rw [show ((m:Int) -1)=((m -1:Nat):Int) by omega,bits_and_u64_nat _ _ hYl (by omega),hO]
   obtain ⟨G,hG,hcw,hfw⟩:=hr3.arr.fam
   have HG:=Lib.hid hG
   have hz:=hr3.arr.dsize
   have hxn:x <n:=by omega
   clear hG hO hc hfr
   by_cases ho:l≤o
   ·have hoi:(l:Int)≤(o:Int):=by omega
    obtain ⟨o2,ho2⟩: ∃o2:Nat,(o:Int) -(l:Int)=(o2:Int):=⟨o -l,by omega⟩
    have hol:o2 <l:=by omega
    have hon:a+o2 <n:=by have:=HL.out;omega
    have hsc:=hr3.arr.swapcell HG.out hxn hon
    have hsw:Rnd W0 (((w3.setCell ⟨blk,off+x,none⟩ (.int .u16 (G (a+o2)))).setCell ⟨blk,off+(a+o2),none⟩ (.int .u16 (G x))).drew) e blk off n (swp dk x (a+o2)) g:=by
     simp only [HG.out]
     exact hr3.swap hxn hon
    have HSW:=Lib.hid hsw
    have HPM:=Lib.hid (perm_swp hPm.out (by rw [hz];exact hb) (i:=x) (j:=a+o2) (by omega) (by have:=HL.out;omega) (by omega) (by have:=HL.out;omega))
    clear hsw hr3
    go_upto_region 10 with (fail)
    go_region
    all_goals
     go_wp2
     go_roundw
     case rel=>exact ⟨x+1,swp dk x (a+o2),by go_num,by omega,by omega,HSW,HPM⟩
     case measure=>simp [Go.Proofs.intOf];omega
   ·have hoi:decide ((l:Int)≤(o:Int))=false:=decide_eq_false (by omega)
    have hon:a+o <n:=by have:=HL.out;omega
    have hsc:=hr3.arr.swapcell HG.out hxn hon
    have hsw:Rnd W0 (((w3.setCell ⟨blk,off+x,none⟩ (.int .u16 (G (a+o)))).setCell ⟨blk,off+(a+o),none⟩ (.int .u16 (G x))).drew) e blk off n (swp dk x (a+o)) g:=by
     simp only [HG.out]
     exact hr3.swap hxn hon
    have HSW:=Lib.hid hsw
    have HPM:=Lib.hid (perm_swp hPm.out (by rw [hz];exact hb) (i:=x) (j:=a+o) (by omega) (by have:=HL.out;omega) (by omega) (by have:=HL.out;omega))
    clear hsw hr3
    go_upto_region 10 with (fail)
    go_region
    all_goals
     go_wp2
     go_roundw
     case rel=>exact ⟨x+1,swp dk x (a+o),by go_num,by omega,by omega,HSW,HPM⟩
     case measure=>simp [Go.Proofs.intOf];omega
  ·have hxi:decide ((x:Int)≤(a:Int)+(q:Int)*2+1)=false:=decide_eq_false (by omega)
   go_wp2
   go_end0
   exact ⟨dk,rfl,hPm.out,hR.out.arr⟩
end Go.Proofs.YteelncofiodflaaGreat
