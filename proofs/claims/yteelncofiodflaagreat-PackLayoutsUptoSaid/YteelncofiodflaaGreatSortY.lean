/-
  The library's sort at uint16, walked: insertion sort, heap sort. No condition but on the size.
-/
import Derived.Test.YteelncofiodflaaGreatSortK
import Derived.Sort.AssemblyPlain
import Derived.Sort.LotD3
import Derived.Deep.CutBlock
import Derived.Deep.DeepCutAuto
import Derived.Sort.LotC
import Derived.Deep.Cut
namespace Go.Proofs.YteelncofiodflaaGreat
open Go.RowKit Go.Sort
theorem swo_int:SWO ltInt:=⟨fun x=>by simp [ltInt],fun x y z h1 h2=>by simp [ltInt] at*;omega,fun x y z h1 h2=>by simp [ltInt] at*;omega⟩
def Todo (d:Array Int) (a b:Nat) (dk:Array Int) (a1 b1:Nat):Prop:= ∀R,PermIn a1 b1 dk R→SortedIn ltInt a1 b1 R→PermIn a b d R∧SortedIn ltInt a b R
def Done (d:Array Int) (a b:Nat) (d':Array Int):Prop:=PermIn a b d d'∧SortedIn ltInt a b d'
theorem Todo.perm {d dk d1:Array Int} {a b a1 b1:Nat} (h:Todo d a b dk a1 b1) (hp:PermIn a1 b1 dk d1):Todo d a b d1 a1 b1:=fun R h1 h2=>h R (permIn_trans _ _ _ _ _ hp h1) h2
set_option maxRecDepth 100000 in
set_option maxHeartbeats 16000000 in
theorem pdq_ok (e:TypeId) (blk off n cap:Nat) (hn:n≤4194304): ∀(N:Nat) (W0 w:World) (a b:Nat) (lim:Int) (d:Array Int),b -a≤N→Arr W0 w e blk off n d→a≤b→b≤n→Sort.Below ltInt a b d→0≤lim→lim≤1000→
  Calls Tryz.prog 100 #[.slice (some ⟨blk,off,none⟩) n cap, .int .i64 a, .int .i64 b, .int .i64 lim] w fun r w'=> ∃d',r= .returned (.tuple #[])∧Done d a b d'∧Arr W0 w' e blk off n d':=by
 intro N
 induction N using Nat.strongRecOn with
 |_ N IH=>
 intro W0 w a b lim d hN hA hab hb hB hl0 hl1
 have HIH:=Lib.hid IH
 have H0:=Lib.hid hA
 have HB:=Lib.hid hB
 clear IH hA hB
 go_enter Tryz.func100,Tryz.ntmps100
 go_wp2
 go_loopw [1,2,3,8,9] (fun v1 v2 v3 v8 v9 wr=> ∃(a1 b1:Nat) (l1:Int) (wb wp:Bool) (dk:Array Int),v1= .int .i64 a1∧v2= .int .i64 b1∧v3= .int .i64 l1∧v8= .bool wb∧v9= .bool wp∧a1≤b1∧b1≤n∧b1 -a1≤N∧0≤l1∧l1≤1000∧Hid (Arr W0 wr e blk off n dk)∧Hid (Sort.Below ltInt a1 b1 dk)∧Hid (Todo d a b dk a1 b1)) (fun v1 v2 _ _ _ _=>(Go.Proofs.intOf v2 -Go.Proofs.intOf v1).toNat)
 case atStart=>exact ⟨a,b,lim,true,true,d,rfl,rfl,rfl,rfl,rfl,hab,hb,hN,hl0,hl1,H0,HB,Lib.hid fun R h1 h2=>⟨h1,h2⟩⟩
 case round=>
  obtain ⟨a1,b1,l1,wb,wp,dk,rfl,rfl,rfl,rfl,rfl,hab1,hbn1,hN1,hl10,hl11,hK,hBel,hT⟩:=hrel
  have hz:=hK.out.dsize
  obtain ⟨l,hl⟩: ∃l,b1=a1+l:=⟨b1 -a1,by omega⟩
  have hsub:(b1:Int) -(a1:Int)=(l:Int):=by omega
  have HL:=Lib.hid hl
  by_cases h12:l≤12
  ·have h12i:(l:Int)≤12:=by omega
   clear hl
   go_wp2_with (go_at_call 136;refine (ins_ok W0 _ e blk off n cap a1 b1 dk hK.out hab1 hbn1 hn).mono ?_;rintro r w1 ⟨rfl,hS⟩)
   go_returns
   obtain ⟨q1,q2⟩:=insertionSort_holds swo_int dk a1 b1 hab1 (by omega)
   exact ⟨_,rfl,hT.out _ q1 q2,hS⟩
  ·have h12i:decide ((l:Int)≤12)=false:=decide_eq_false (by omega)
   have hab8:a1+8≤b1:=by omega
   have habl:a1 <b1:=by omega
   clear hl
   by_cases hlz:l1=0
   ·subst hlz
    go_wp2_with (go_at_call 137;refine (heap_ok W0 _ e blk off n cap a1 b1 dk hK.out hab1 hbn1 hn).mono ?_;rintro r w1 ⟨rfl,hS⟩)
    go_returns
    obtain ⟨q1,q2⟩:=heapSort_holds swo_int dk a1 b1 hab1 (by omega)
    exact ⟨_,rfl,hT.out _ q1 q2,hS⟩
   ·have hlzb:(l1==0)=false:=beq_eq_false_iff_ne.2 hlz
    go_upto_if 35 with fail
    go_cut [3] (fun v3 wc=> ∃(l2:Int) (d1:Array Int),v3= .int .i64 l2∧0≤l2∧l2≤1000∧Hid (Arr W0 wc e blk off n d1)∧Hid (PermIn a1 b1 dk d1))
    case first=>
     cases wb with
     |true=>
      go_wp2
      go_meet
      case rel=>exact ⟨l1,dk,rfl,hl10,hl11,hK,Lib.hid (permIn_refl _ _ _)⟩
     |false=>
      go_wp2_with (go_at_call 138;refine (break_ok W0 _ e blk off n cap a1 b1 dk hK.out hab8 hbn1 hn).mono ?_;rintro r w1 ⟨d1,rfl,hp,hS⟩)
      go_meet
      case rel=>exact ⟨l1 -1,d1,rfl,by omega,by omega,Lib.hid hS,Lib.hid hp⟩
    case rest=>
     obtain ⟨l2,d1,rfl,hl20,hl21,hA1,hP1⟩:=hcut
     go_wp2_with fail
     refine (choose_ok W0 _ e blk off n cap a1 b1 d1 hA1.out hab8 hbn1 hn).mono ?_
     rintro r w2 ⟨p,h,rfl,hp1,hp2,hh,hA2⟩
     have HA2:=Lib.hid hA2
     clear hA2
     go_upto_if 50 with fail
     go_cut [11,12] (fun v11 v12 wc=> ∃(p:Nat) (h:Int) (d2:Array Int),v11= .int .i64 p∧v12= .int .i64 h∧a1≤p∧p <b1∧(h=0∨h=1)∧Hid (Arr W0 wc e blk off n d2)∧Hid (PermIn a1 b1 dk d2))
     case first=>
      rcases hh with rfl |rfl |rfl
      ·go_wp2
       go_meet
       case rel=>exact ⟨p,0,d1,rfl,rfl,hp1,hp2,Or.inl rfl,HA2,hP1⟩
      ·go_wp2
       go_meet
       case rel=>exact ⟨p,1,d1,rfl,rfl,hp1,hp2,Or.inr rfl,HA2,hP1⟩
      ·go_wp2_with (go_at_call 140;refine (revr_ok W0 _ e blk off n cap a1 b1 d1 HA2.out habl hbn1 hn).mono ?_;rintro r w3 ⟨rfl,hS⟩)
       go_meet
       case rel=>exact ⟨(b1 -1) -(p -a1),1,_,by congr 1;omega,rfl,by omega,by omega,Or.inr rfl,Lib.hid hS,Lib.hid (permIn_trans _ _ _ _ _ hP1.out (reverseRange_holds _ _ _ hab1 (by rw [hA1.out.dsize];exact hbn1)))⟩
     case rest=>
      obtain ⟨p,h,d2,rfl,rfl,hp1,hp2,hh,hA2,hP2⟩:=hcut
      clear HA2 hA1 hP1
      go_upto_region 15 with fail
      go_cut [68] (fun v68 wc=> ∃bb:Bool,v68= .bool bb∧Hid (Arr W0 wc e blk off n d2))
      case first=>
       rcases hh with rfl |rfl<;>cases wb<;>cases wp
       all_goals
        go_wp2
        go_meet
        case rel=>exact ⟨_,rfl,Lib.hid (hA2.out.same rfl rfl rfl rfl)⟩
      case rest=>
       obtain ⟨bb,rfl,hA3⟩:=hcut
       clear hA2
       go_upto_if 68 with fail
       go_cut [] (fun wc=> ∃d3:Array Int,Hid (Arr W0 wc e blk off n d3)∧Hid (PermIn a1 b1 dk d3))
       case first=>
        cases bb with
        |false=>
         go_wp2
         go_meet
         case rel=>exact ⟨d2,hA3,hP2⟩
        |true=>
         go_wp2_with fail
         refine (pins_ok W0 _ e blk off n cap a1 b1 d2 hA3.out habl hbn1 hn).mono ?_
         rintro r w3 ⟨ok,d3,rfl,hpe,hS⟩
         obtain ⟨q1,q2⟩:=partialInsertionSort_holds swo_int d2 a1 b1 habl (by rw [hA3.out.dsize];exact hbn1) (hBel.out.perm (by rw [hz];exact hbn1) hP2.out)
         rw [hpe] at q1 q2
         have HQ:=Lib.hid (permIn_trans _ _ _ _ _ hP2.out q1)
         have HQ2:=Lib.hid q2
         have HS:=Lib.hid hS
         clear q1 q2 hS hpe
         cases ok with
         |true=>
          go_wp2
          go_returns
          exact ⟨d3,rfl,hT.out _ HQ.out (HQ2.out (by first |rfl |trivial)),HS.out⟩
         |false=>
          go_wp2
          go_meet
          case rel=>exact ⟨d3,HS,HQ⟩
       case rest=>
        obtain ⟨d3,hA4,hP3⟩:=hcut
        have hz3:=hA4.out.dsize
        have hB3:=hBel.out.perm (by rw [hz];exact hbn1) hP3.out
        have HB3:=Lib.hid hB3
        obtain ⟨G,hG,hcw,hfw⟩:=hA4.out.fam
        have HG:=Lib.hid hG
        have hpn:p <n:=by omega
        clear hG hB3 hA3
        go_upto_region 17 with fail
        go_cut [87] (fun v wc=> ∃cb:Bool,v= .bool cb∧Hid (cb=true→0 <a1∧ltInt d3[a1 -1]! d3[p]! =false)∧Hid (Arr W0 wc e blk off n d3))
        case first=>
         by_cases ha0:0 <a1
         ·have ha0i:(0:Int) <(a1:Int):=by omega
          have ha1n:a1 -1 <n:=by omega
          go_quiet (first |(go_at_call 142;refine Calls.quiet_of_same (less_ok _ _ _)))
          go_wp2
          go_meet
          case rel=>exact ⟨_,rfl,Lib.hid (fun hcb=>⟨ha0,by rw [←HG.out, ←HG.out];simpa using hcb⟩),Lib.hid (hA4.out.drewN _)⟩
         ·have ha0i:decide ((0:Int) <(a1:Int))=false:=decide_eq_false (by omega)
          go_quiet (first |(go_at_call 142;refine Calls.quiet_of_same (less_ok _ _ _)))
          go_wp2
          go_meet
          case rel=>exact ⟨false,rfl,Lib.hid (fun hcb=>by cases hcb),Lib.hid (hA4.out.drewN _)⟩
        case rest=>
         obtain ⟨cb,rfl,hcb,hA5⟩:=hcut
         clear hcw hfw hA4 HG
         cases cb with
         |true=>
          obtain ⟨ha0,hnl⟩:=hcb.out rfl
          go_wp2_with fail
          refine (parteq_ok W0 _ e blk off n cap a1 b1 p d3 hA5.out hp1 hp2 hbn1 hn).mono ?_
          rintro r w4 ⟨mid,d4,rfl,hpe,hS⟩
          obtain ⟨e1,e2,e3,e4,e5⟩:=round_eq swo_int (partitionEqual_holds ltInt) ha0 hp1 hp2 (by rw [hz3];exact hbn1) HB3.out hnl hpe
          have HBn:=Lib.hid e4
          have HRn:=Lib.hid (show Todo d a b d4 mid b1 from fun R h1 h2=>by obtain ⟨q1,q2⟩:=e5 R h1 h2;exact (hT.out.perm hP3.out) R q1 q2)
          have HS:=Lib.hid hS
          clear e4 e5 hS hpe hnl
          go_wp2
          go_roundw
          case rel=>exact ⟨mid,b1,l2,wb,wp,d4,rfl,rfl,rfl,rfl,rfl,e2,hbn1,by omega,hl20,hl21,HS,HBn,HRn⟩
          case measure=>simp [Go.Proofs.intOf];omega
         |false=>
          go_wp2_with fail
          refine (part_ok W0 _ e blk off n cap a1 b1 p d3 hA5.out hp1 hp2 hbn1 hn).mono ?_
          rintro r w5 ⟨mid,ap,d4,rfl,hpe,hS⟩
          obtain ⟨e1,e2,e3,e4,e5,e6,e7⟩:=round_part swo_int (partition_holds ltInt) hp1 hp2 (by rw [hz3];exact hbn1) HB3.out hpe
          have hA6:=Lib.hid hS
          clear hS hpe hcb
          by_cases hlr:mid -a1 <b1 -mid
          ·have hlri:(mid:Int) -(a1:Int) <(b1:Int) -(mid:Int):=by omega
           go_wp2_with fail
           all_goals
            refine (HIH.out (mid -a1) (by omega) W0 _ a1 mid l2 d4 (Nat.le_refl _) hA6.out (by omega) (by omega) e4 hl20 hl21).mono ?_
            rintro r w6 ⟨L,rfl,hD,hS⟩
            obtain ⟨hBn,hR⟩:=e6 L hD.1 hD.2
            have HBn:=Lib.hid hBn
            have HRn:=Lib.hid (show Todo d a b L (mid+1) b1 from fun R h1 h2=>by obtain ⟨q1,q2⟩:=hR R h1 h2;exact (hT.out.perm hP3.out) R q1 q2)
            have HS:=Lib.hid hS
            clear hBn hR hS hD
            go_wp2
            go_roundw
            case rel=>exact ⟨(mid+1),b1,l2,_,ap,L,by first |rfl |go_num,by first |rfl |go_num,rfl,rfl,rfl,by omega,by omega,by omega,hl20,hl21,HS,HBn,HRn⟩
            case measure=>simp [Go.Proofs.intOf];omega
          ·have hlri:decide ((mid:Int) -(a1:Int) <(b1:Int) -(mid:Int))=false:=decide_eq_false (by omega)
           go_wp2_with fail
           all_goals
            refine (HIH.out (b1 -(mid+1)) (by omega) W0 _ (mid+1) b1 l2 d4 (Nat.le_refl _) hA6.out (by omega) (by omega) e5 hl20 hl21).mono ?_
            rintro r w6 ⟨L,rfl,hD,hS⟩
            obtain ⟨hBn,hR⟩:=e7 L hD.1 hD.2
            have HBn:=Lib.hid hBn
            have HRn:=Lib.hid (show Todo d a b L a1 mid from fun R h1 h2=>by obtain ⟨q1,q2⟩:=hR R h1 h2;exact (hT.out.perm hP3.out) R q1 q2)
            have HS:=Lib.hid hS
            clear hBn hR hS hD
            go_wp2
            go_roundw
            case rel=>exact ⟨a1,mid,l2,_,ap,L,by first |rfl |go_num,by first |rfl |go_num,rfl,rfl,rfl,by omega,by omega,by omega,hl20,hl21,HS,HBn,HRn⟩
            case measure=>simp [Go.Proofs.intOf];omega
end Go.Proofs.YteelncofiodflaaGreat
namespace Go.Proofs.YteelncofiodflaaGreat
open Go.RowKit Go.Sort
theorem bitLen_small (n:Nat) (hn:n≤4194304):Lib.bitLen n≤1000:=by
 rw [bitLen_eq n (by omega)]
 exact Nat.le_trans ((bitsLen_le_iff n 23).2 (by omega)) (by omega)
set_option maxHeartbeats 1000000 in
theorem sortA_ok (e:TypeId) (blk off n cap:Nat) (hn:n≤4194304) (W0 w:World) (d:Array Int) (hA:Arr W0 w e blk off n d):
  Calls Tryz.prog 61 #[.slice (some ⟨blk,off,none⟩) n cap] w fun r w'=> ∃d',r= .returned (.tuple #[])∧Done d 0 n d'∧Arr W0 w' e blk off n d':=by
 have H0:=Lib.hid hA
 have hL:=bitLen_small n hn
 obtain ⟨L,hLL⟩: ∃L,L=Lib.bitLen n:=⟨_,rfl⟩
 have hb:=bitsLen_ok (n:Int) w (by omega) (by omega)
 rw [Int.toNat_natCast, ←hLL] at hb
 rw [←hLL] at hL
 clear hA hLL
 go_enter Tryz.func61,Tryz.ntmps61
 go_wp2_with fail
 refine hb.mono ?_
 rintro r w1 ⟨rfl,rfl⟩
 clear hb
 go_wp2_with fail
 refine (pdq_ok e blk off n cap hn n W0 w1 0 n L d (by omega) H0.out (by omega) (Nat.le_refl _) (Or.inl rfl) (by omega) (by omega)).mono ?_
 rintro r w2 ⟨d',rfl,hD,hS⟩
 have HD:=Lib.hid hD
 have HS:=Lib.hid hS
 clear hD hS
 go_wp2
 try go_end0
 exact ⟨d',rfl,HD.out,HS.out⟩
end Go.Proofs.YteelncofiodflaaGreat
namespace Go.Proofs.YteelncofiodflaaGreat
open Go.RowKit Go.Sort
def sortInts (l:List Int):List Int:=l.mergeSort fun x y=>decide (x≤y)
theorem done_sort (l:List Int) (d':Array Int) (h:Done l.toArray 0 l.length d'):d'.toList=sortInts l:=by
 have:=sorted_unique_holds (lt:=ltInt) swo_int (fun x y h1 h2=>by simp [ltInt] at*;omega) l.toArray d' (by simpa using h.1) (by simpa using h.2)
 rw [this,sortInts]
 congr 1
 funext x y
 have hxy:(y <x)↔ ¬(x≤y):=by omega
 by_cases hc:x≤y<;>simp [ltInt,hxy,hc]
theorem sort_nil (c:Nat) (w:World):Calls Tryz.prog 61 #[.slice none 0 c] w fun r w'=>r= .returned (.tuple #[])∧w'=w:=by
 have hb:=bitsLen_ok 0 w (by omega) (by omega)
 have hins:Calls Tryz.prog 136 #[.slice none 0 c, .int .i64 0, .int .i64 0] w fun r w'=>r= .returned (.tuple #[])∧w'=w:=by
  go_enter Tryz.func136,Tryz.ntmps136
  go_wp2
  go_loopw [6] (fun v wr=>v= .int .i64 1∧wr=w) (fun _ _=>0)
  case atStart=>exact ⟨rfl,rfl⟩
  case round=>
   obtain ⟨rfl,rfl⟩:=hrel
   go_wp2
   go_end0
   exact ⟨rfl,rfl⟩
 have hpdq:Calls Tryz.prog 100 #[.slice none 0 c, .int .i64 0, .int .i64 0, .int .i64 0] w fun r w'=>r= .returned (.tuple #[])∧w'=w:=by
  go_enter Tryz.func100,Tryz.ntmps100
  go_wp2
  go_loopw [1,2,3] (fun v1 v2 v3 wr=>v1= .int .i64 0∧v2= .int .i64 0∧v3= .int .i64 0∧wr=w) (fun _ _ _ _=>0)
  case atStart=>exact ⟨rfl,rfl,rfl,rfl⟩
  case round=>
   obtain ⟨rfl,rfl,rfl,rfl⟩:=hrel
   go_wp2_with (go_at_call 136;refine hins.mono ?_;rintro r w1 ⟨rfl,rfl⟩)
   go_returns
   exact ⟨rfl,rfl⟩
 rw [show Lib.bitLen (0:Int).toNat=0 by decide] at hb
 go_enter Tryz.func61,Tryz.ntmps61
 go_wp2_with fail
 refine hb.mono ?_
 rintro r w1 ⟨rfl,rfl⟩
 go_wp2_with fail
 refine hpdq.mono ?_
 rintro r w2 ⟨rfl,rfl⟩
 go_wp2
 try go_end0
 exact ⟨rfl,rfl⟩
end Go.Proofs.YteelncofiodflaaGreat
