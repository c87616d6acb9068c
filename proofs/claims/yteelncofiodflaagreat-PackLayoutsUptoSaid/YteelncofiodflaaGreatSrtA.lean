/-
  The library's sort at uint16, walked: insertion sort, heap sort. No condition but on the size.
-/
import Derived.Test.YteelncofiodflaaGreatSortX
import Derived.Deep.CutBlock
import Derived.Deep.DeepCutAuto
import Derived.Sort.LotC
import Derived.Deep.Cut
namespace Go.Proofs.YteelncofiodflaaGreat
open Go.RowKit Go.Sort
theorem Arr.swapcell {W0 W:World} {e:TypeId} {blk off n:Nat} {d:Array Int} (h:Arr W0 W e blk off n d) {G:Nat→Int} (hG: ∀t,G t=d[t]!) {i j:Nat} (hi:i <n) (hj:j <n):(W.setCell ⟨blk,off+i,none⟩ (.int .u16 (G j))).cell? ⟨blk,off+j,none⟩=some (.int .u16 (G j)):=by
 rw [(h.set hi (G j)).cell hj]
 have hz:=h.dsize
 by_cases hij:j=i
 ·subst hij
  rw [getElem!_set_same d j _ (by omega)]
 ·rw [getElem!_set_other d i j _ hij, ←hG]
theorem up_go (p:Int→Bool) (d:Array Int) (j i:Nat) (h:i≤j) (hp:p d[i]! =true):scanUp p d j i=scanUp p d j (i+1):=by
 rw [scanUp,if_pos (by simp [h,hp])]
theorem up_stop (p:Int→Bool) (d:Array Int) (j i:Nat) (h: ¬i≤j∨p d[i]! =false):scanUp p d j i=i:=by
 rw [scanUp,if_neg (by rcases h with h |h<;>simp [h])]
theorem down_go (p:Int→Bool) (d:Array Int) (i j:Nat) (hj:0 <j) (h:i≤j) (hp:p d[j]! =true):scanDown p d i j=scanDown p d i (j -1):=by
 obtain ⟨k,rfl⟩: ∃k,j=k+1:=⟨j -1,by omega⟩
 rw [scanDown,if_pos (by simp [h,hp])]
 rfl
theorem down_stop (p:Int→Bool) (d:Array Int) (i j:Nat) (h: ¬i≤j∨p d[j]! =false):scanDown p d i j=j:=by
 cases j with
 |zero=>rw [scanDown]
 |succ k=>rw [scanDown,if_neg (by rcases h with h |h<;>simp [h])]
theorem part_first {d d0:Array Int} {a b pivot i2 j2:Nat} (h0:swp d a pivot=d0) (h1:scanUp (fun x=>ltInt x d0[a]!) d0 (b -1) (a+1)=i2) (h2:scanDown (fun x=> !ltInt x d0[a]!) d0 i2 (b -1)=j2) (h:i2 >j2):Sort.partition ltInt d a b pivot=(j2,true,swp d0 j2 a):=by
 unfold Sort.partition
 simp only [h0,h1,h2]
 rw [if_pos h]
theorem part_second {d d0 dk:Array Int} {a b pivot i2 j2 j3:Nat} (h0:swp d a pivot=d0) (h1:scanUp (fun x=>ltInt x d0[a]!) d0 (b -1) (a+1)=i2) (h2:scanDown (fun x=> !ltInt x d0[a]!) d0 i2 (b -1)=j2) (h:i2≤j2)
  (h3:partLoop ltInt a (i2+1) (j2 -1) (swp d0 i2 j2)=(j3,dk)):Sort.partition ltInt d a b pivot=(j3,false,swp dk j3 a):=by
 unfold Sort.partition
 simp only [h0,h1,h2]
 rw [if_neg (by omega),h3]
set_option maxRecDepth 100000 in
set_option maxHeartbeats 8000000 in
theorem part_ok (W0 w:World) (e:TypeId) (blk off n cap a b pivot:Nat) (d:Array Int) (hA:Arr W0 w e blk off n d) (hp1:a≤pivot) (hp2:pivot <b) (hb:b≤n) (hn:n≤4194304):
  Calls Tryz.prog 144 #[.slice (some ⟨blk,off,none⟩) n cap, .int .i64 a, .int .i64 b, .int .i64 pivot] w fun r w'=> ∃(mid:Nat) (ap:Bool) (d':Array Int),r= .returned (.tuple #[.int .i64 mid, .bool ap])∧Sort.partition ltInt d a b pivot=(mid,ap,d')∧Arr W0 w' e blk off n d':=by
 obtain ⟨b1,hb1⟩: ∃b1,b=b1+1:=⟨b -1,by omega⟩
 have hsub:(b:Int) -1=(b1:Int):=by omega
 have hab1:a≤b1:=by omega
 have hbn1:b1 <n:=by omega
 have HB1:=Lib.hid hb1
 have han:a <n:=by omega
 have hpn:pivot <n:=by omega
 obtain ⟨G,hG,hcw,hfw⟩:=hA.fam
 have HG:=Lib.hid hG
 clear hG
 have hsc:=hA.swapcell HG.out han hpn
 have hsw:Arr W0 (((w.setCell ⟨blk,off+a,none⟩ (.int .u16 (G pivot))).setCell ⟨blk,off+pivot,none⟩ (.int .u16 (G a))).drew) e blk off n (swp d a pivot):=by
  simp only [HG.out]
  exact (hA.swap 0 han hpn).same rfl rfl rfl rfl
 have HSW:=Lib.hid hsw
 clear hsw hA hb1
 go_enter Tryz.func144,Tryz.ntmps144
 go_upto_region 1 with (fail)
 go_region
 all_goals
  have hd0:=HSW.out
  generalize hdd:swp d a pivot=d0 at hd0
  have HDD:=Lib.hid hdd
  clear hdd
  generalize World.drew _=w0 at hd0 ⊢
  obtain ⟨G0,hG0,hc0,hf0⟩:=hd0.fam
  have HG0:=Lib.hid hG0
  clear hG0
  go_upto_block 0 with fail
  go_cut [10] (fun s wc=> ∃i:Nat,s= .int .i64 i∧a <i∧i≤b1+1∧Hid (Arr W0 wc e blk off n d0)∧Hid (scanUp (fun x=>ltInt x d0[a]!) d0 b1 (a+1)=i)∧Hid (i≤b1→ltInt d0[i]! d0[a]! =false))
  case first=>
   go_wp2
   go_loopw [10] (fun s wr=> ∃i:Nat,s= .int .i64 i∧a <i∧i≤b1+1∧Hid (Arr W0 wr e blk off n d0)∧Hid (scanUp (fun x=>ltInt x d0[a]!) d0 b1 i=scanUp (fun x=>ltInt x d0[a]!) d0 b1 (a+1))) (fun s _=>b1+1 -(Go.Proofs.intOf s).toNat)
   case atStart=>exact ⟨(a+1),by go_num,by omega,by omega,Lib.hid hd0,Lib.hid rfl⟩
   case round=>
    obtain ⟨i,rfl,hi1,hi2,hr,HO⟩:=hrel
    obtain ⟨hcr,hfr⟩:=hr.out.famG HG0.out
    by_cases hij:i≤b1
    ·have hiji:(i:Int)≤(b1:Int):=by omega
     have hin:i <n:=by omega
     go_wp2
     go_quiet (first |(go_at_call 142;refine Calls.quiet_of_same (less_ok _ _ _)))
     go_wp2
     ·have hl:ltInt (G0 i) (G0 a)=true:=by assumption
      go_roundw
      case rel=>exact ⟨i+1,by go_num,by omega,by omega,Lib.hid (hr.out.drewN _),Lib.hid (by rw [←HO.out,up_go _ _ _ _ hij (by rw [←HG0.out, ←HG0.out];exact hl)])⟩
      case measure=>simp [Go.Proofs.intOf];omega
     ·have hl:ltInt (G0 i) (G0 a)=false:=by assumption
      go_meet
      case rel=>exact ⟨i,rfl,hi1,hi2,Lib.hid (hr.out.drewN _),Lib.hid (by rw [←HO.out,up_stop _ _ _ _ (Or.inr (by rw [←HG0.out, ←HG0.out];exact hl))]),Lib.hid (fun _=>by rw [←HG0.out, ←HG0.out];exact hl)⟩
    ·have hiji:decide ((i:Int)≤(b1:Int))=false:=decide_eq_false (by omega)
     go_wp2
     go_quiet (first |(go_at_call 142;refine Calls.quiet_of_same (less_ok _ _ _)))
     go_wp2
     go_meet
     case rel=>exact ⟨i,rfl,hi1,hi2,Lib.hid (hr.out.drewN _),Lib.hid (by rw [←HO.out,up_stop _ _ _ _ (Or.inl hij)]),Lib.hid (fun h=>absurd h hij)⟩
  case rest=>
   obtain ⟨i2,rfl,hi1,hi2,hA1,HU,HUS⟩:=hcut
   go_upto_block 2 with fail
   go_cut [11] (fun s wc=> ∃j:Nat,s= .int .i64 j∧i2≤j+1∧j≤b1∧Hid (Arr W0 wc e blk off n d0)∧Hid (scanDown (fun x=> !ltInt x d0[a]!) d0 i2 b1=j)∧Hid (i2≤j→ltInt d0[j]! d0[a]! =true))
   case first=>
    go_wp2
    go_loopw [11] (fun s wr=> ∃j:Nat,s= .int .i64 j∧i2≤j+1∧j≤b1∧Hid (Arr W0 wr e blk off n d0)∧Hid (scanDown (fun x=> !ltInt x d0[a]!) d0 i2 j=scanDown (fun x=> !ltInt x d0[a]!) d0 i2 b1)) (fun s _=>(Go.Proofs.intOf s).toNat)
    case atStart=>exact ⟨b1,rfl,by omega,Nat.le_refl _,hA1,Lib.hid rfl⟩
    case round=>
     obtain ⟨j,rfl,hj1,hj2,hr,HO⟩:=hrel
     obtain ⟨hcr,hfr⟩:=hr.out.famG HG0.out
     by_cases hij:i2≤j
     ·have hiji:(i2:Int)≤(j:Int):=by omega
      have hjn:j <n:=by omega
      go_wp2
      go_quiet (first |(go_at_call 142;refine Calls.quiet_of_same (less_ok _ _ _)))
      go_wp2
      ·have hl0:(!ltInt (G0 j) (G0 a))=true:=by assumption
       go_roundw
       case rel=>exact ⟨j -1,by congr 1;omega,by omega,by omega,Lib.hid (hr.out.drewN _),Lib.hid (by rw [←HO.out,down_go _ _ _ _ (by omega) hij (by rw [←HG0.out, ←HG0.out];exact hl0)])⟩
       case measure=>simp [Go.Proofs.intOf];omega
      ·have hl0:(!ltInt (G0 j) (G0 a))=false:=by assumption
       go_meet
       case rel=>exact ⟨j,rfl,hj1,hj2,Lib.hid (hr.out.drewN _),Lib.hid (by rw [←HO.out,down_stop _ _ _ _ (Or.inr (by rw [←HG0.out, ←HG0.out];exact hl0))]),Lib.hid (fun _=>by rw [←HG0.out, ←HG0.out];simpa using hl0)⟩
     ·have hiji:decide ((i2:Int)≤(j:Int))=false:=decide_eq_false (by omega)
      go_wp2
      go_quiet (first |(go_at_call 142;refine Calls.quiet_of_same (less_ok _ _ _)))
      go_wp2
      go_meet
      case rel=>exact ⟨j,rfl,hj1,hj2,Lib.hid (hr.out.drewN _),Lib.hid (by rw [←HO.out,down_stop _ _ _ _ (Or.inl hij)]),Lib.hid (fun h=>absurd h hij)⟩
   case rest=>
    obtain ⟨j2,rfl,hj1,hj2,hA2,HD,HDS⟩:=hcut
    obtain ⟨hc2,hf2⟩:=hA2.out.famG HG0.out
    clear hc0 hf0 hcw hfw
    have hjn:j2 <n:=by omega
    by_cases hgt:i2≤j2
    ·have hin:i2 <n:=by omega
     have hne:i2≠j2:=fun e=>by
      have h1:=HUS.out (by omega)
      have h2:=HDS.out hgt
      rw [←e,h1] at h2
      cases h2
     have hsc2:=hA2.out.swapcell HG0.out hin hjn
     have hsw2:Arr W0 (((wc.setCell ⟨blk,off+i2,none⟩ (.int .u16 (G0 j2))).setCell ⟨blk,off+j2,none⟩ (.int .u16 (G0 i2))).drew) e blk off n (swp d0 i2 j2):=by
      simp only [HG0.out]
      exact (hA2.out.swap 0 hin hjn).same rfl rfl rfl rfl
     have hgti:decide ((j2:Int) <(i2:Int))=false:=decide_eq_false (by omega)
     have HSW2:=Lib.hid hsw2
     clear hsw2
     go_upto_region 10 with (fail)
     go_region
     all_goals
      have hd1:=HSW2.out
      generalize hdd1:swp d0 i2 j2=d1 at hd1
      have HDD1:=Lib.hid hdd1
      have HH1:=Lib.hid hd1
      have hj2i:(j2:Int) -1=((j2 -1:Nat):Int):=by omega
      clear hdd1 hsc2 hc2 hf2
      generalize World.drew _=w3 at hd1 HH1 ⊢
      clear hd1
      go_wp2
      try rw [hj2i]
      go_loopw [10,11] (fun vi vj wr=> ∃(i1 j1:Nat) (dk:Array Int),vi= .int .i64 i1∧vj= .int .i64 j1∧a <i1∧i1≤j1+1∧j1≤b1∧Hid (Arr W0 wr e blk off n dk)∧Hid (partLoop ltInt a i1 j1 dk=partLoop ltInt a (i2+1) (j2 -1) d1)) (fun vi vj _=>(Go.Proofs.intOf vj+1 -Go.Proofs.intOf vi).toNat)
      case atStart=>exact ⟨i2+1,j2 -1,d1,by go_num,by congr 1,by omega,by omega,by omega,HH1,Lib.hid rfl⟩
      case round=>
       obtain ⟨i1,j1,dk,rfl,rfl,hq1,hq2,hq3,hK,HPL⟩:=hrel
       obtain ⟨Gk,hGk,hck,hfk⟩:=hK.out.fam
       have HGk:=Lib.hid hGk
       clear hGk
       go_upto_block 6 with fail
       go_cut [10] (fun s wc=> ∃i:Nat,s= .int .i64 i∧a <i∧i≤j1+1∧Hid (Arr W0 wc e blk off n dk)∧Hid (scanUp (fun x=>ltInt x dk[a]!) dk j1 i1=i)∧Hid (i≤j1→ltInt dk[i]! dk[a]! =false))
       case first=>
        go_wp2
        go_loopw [10] (fun s wr=> ∃i:Nat,s= .int .i64 i∧a <i∧i≤j1+1∧Hid (Arr W0 wr e blk off n dk)∧Hid (scanUp (fun x=>ltInt x dk[a]!) dk j1 i=scanUp (fun x=>ltInt x dk[a]!) dk j1 i1)) (fun s _=>j1+1 -(Go.Proofs.intOf s).toNat)
        case atStart=>exact ⟨i1,by go_num,by omega,by omega,Lib.hid hK.out,Lib.hid rfl⟩
        case round=>
         obtain ⟨i,rfl,hi1,hi2,hr,HO⟩:=hrel
         obtain ⟨hcr,hfr⟩:=hr.out.famG HGk.out
         by_cases hij:i≤j1
         ·have hiji:(i:Int)≤(j1:Int):=by omega
          have hin:i <n:=by omega
          go_wp2
          go_quiet (first |(go_at_call 142;refine Calls.quiet_of_same (less_ok _ _ _)))
          go_wp2
          ·have hl:ltInt (Gk i) (Gk a)=true:=by assumption
           go_roundw
           case rel=>exact ⟨i+1,by go_num,by omega,by omega,Lib.hid (hr.out.drewN _),Lib.hid (by rw [←HO.out,up_go _ _ _ _ hij (by rw [←HGk.out, ←HGk.out];exact hl)])⟩
           case measure=>simp [Go.Proofs.intOf];omega
          ·have hl:ltInt (Gk i) (Gk a)=false:=by assumption
           go_meet
           case rel=>exact ⟨i,rfl,hi1,hi2,Lib.hid (hr.out.drewN _),Lib.hid (by rw [←HO.out,up_stop _ _ _ _ (Or.inr (by rw [←HGk.out, ←HGk.out];exact hl))]),Lib.hid (fun _=>by rw [←HGk.out, ←HGk.out];exact hl)⟩
         ·have hiji:decide ((i:Int)≤(j1:Int))=false:=decide_eq_false (by omega)
          go_wp2
          go_quiet (first |(go_at_call 142;refine Calls.quiet_of_same (less_ok _ _ _)))
          go_wp2
          go_meet
          case rel=>exact ⟨i,rfl,hi1,hi2,Lib.hid (hr.out.drewN _),Lib.hid (by rw [←HO.out,up_stop _ _ _ _ (Or.inl hij)]),Lib.hid (fun h=>absurd h hij)⟩
       case rest=>
        obtain ⟨i3,rfl,hr1,hr2,hB1,HV,HVS⟩:=hcut
        go_upto_block 8 with fail
        go_cut [11] (fun s wc=> ∃j:Nat,s= .int .i64 j∧i3≤j+1∧j≤j1∧Hid (Arr W0 wc e blk off n dk)∧Hid (scanDown (fun x=> !ltInt x dk[a]!) dk i3 j1=j)∧Hid (i3≤j→ltInt dk[j]! dk[a]! =true))
        case first=>
         go_wp2
         go_loopw [11] (fun s wr=> ∃j:Nat,s= .int .i64 j∧i3≤j+1∧j≤j1∧Hid (Arr W0 wr e blk off n dk)∧Hid (scanDown (fun x=> !ltInt x dk[a]!) dk i3 j=scanDown (fun x=> !ltInt x dk[a]!) dk i3 j1)) (fun s _=>(Go.Proofs.intOf s).toNat)
         case atStart=>exact ⟨j1,rfl,by omega,Nat.le_refl _,hB1,Lib.hid rfl⟩
         case round=>
          obtain ⟨j,rfl,hj1,hj2,hr,HO⟩:=hrel
          obtain ⟨hcr,hfr⟩:=hr.out.famG HGk.out
          by_cases hij:i3≤j
          ·have hiji:(i3:Int)≤(j:Int):=by omega
           have hjn:j <n:=by omega
           go_wp2
           go_quiet (first |(go_at_call 142;refine Calls.quiet_of_same (less_ok _ _ _)))
           go_wp2
           ·have hl0:(!ltInt (Gk j) (Gk a))=true:=by assumption
            go_roundw
            case rel=>exact ⟨j -1,by congr 1;omega,by omega,by omega,Lib.hid (hr.out.drewN _),Lib.hid (by rw [←HO.out,down_go _ _ _ _ (by omega) hij (by rw [←HGk.out, ←HGk.out];exact hl0)])⟩
            case measure=>simp [Go.Proofs.intOf];omega
           ·have hl0:(!ltInt (Gk j) (Gk a))=false:=by assumption
            go_meet
            case rel=>exact ⟨j,rfl,hj1,hj2,Lib.hid (hr.out.drewN _),Lib.hid (by rw [←HO.out,down_stop _ _ _ _ (Or.inr (by rw [←HGk.out, ←HGk.out];exact hl0))]),Lib.hid (fun _=>by rw [←HGk.out, ←HGk.out];simpa using hl0)⟩
          ·have hiji:decide ((i3:Int)≤(j:Int))=false:=decide_eq_false (by omega)
           go_wp2
           go_quiet (first |(go_at_call 142;refine Calls.quiet_of_same (less_ok _ _ _)))
           go_wp2
           go_meet
           case rel=>exact ⟨j,rfl,hj1,hj2,Lib.hid (hr.out.drewN _),Lib.hid (by rw [←HO.out,down_stop _ _ _ _ (Or.inl hij)]),Lib.hid (fun h=>absurd h hij)⟩
        case rest=>
         obtain ⟨j3,rfl,hs1,hs2,hB2,HE,HES⟩:=hcut
         obtain ⟨hc3,hf3⟩:=hB2.out.famG HGk.out
         clear hck hfk
         have hj3n:j3 <n:=by omega
         by_cases hgt3:i3≤j3
         ·have hi3n:i3 <n:=by omega
          have hne3:i3≠j3:=fun e=>by
           have h1:=HVS.out (by omega)
           have h2:=HES.out hgt3
           rw [←e,h1] at h2
           cases h2
          have hsc3:=hB2.out.swapcell HGk.out hi3n hj3n
          have hsw3:Arr W0 (((wc.setCell ⟨blk,off+i3,none⟩ (.int .u16 (Gk j3))).setCell ⟨blk,off+j3,none⟩ (.int .u16 (Gk i3))).drew) e blk off n (swp dk i3 j3):=by
           simp only [HGk.out]
           exact (hB2.out.swap 0 hi3n hj3n).same rfl rfl rfl rfl
          have hgti3:decide ((j3:Int) <(i3:Int))=false:=decide_eq_false (by omega)
          have HSW3:=Lib.hid hsw3
          clear hsw3
          go_upto_region 18 with (fail)
          go_region
          all_goals
           go_wp2
           go_roundw
           case rel=>
            refine ⟨i3+1,j3 -1,swp dk i3 j3,by go_num,by congr 1;omega,by omega,by omega,by omega,HSW3,Lib.hid ?_⟩
            rw [←HPL.out,partLoop_eq ltInt a i1 j1 dk,HV.out,HE.out,if_neg (by omega)]
           case measure=>
            have hge:i1≤i3:=by rw [←HV.out];exact scanUp_ge _ _ _ _
            simp only [Go.Proofs.intOf]
            omega
         ·have hgti3:(j3:Int) <(i3:Int):=by omega
          have hsc3:=hB2.out.swapcell HGk.out hj3n han
          have hsw3:Arr W0 (((wc.setCell ⟨blk,off+j3,none⟩ (.int .u16 (Gk a))).setCell ⟨blk,off+a,none⟩ (.int .u16 (Gk j3))).drew) e blk off n (swp dk j3 a):=by
           simp only [HGk.out]
           exact (hB2.out.swap 0 hj3n han).same rfl rfl rfl rfl
          have HSW3:=Lib.hid hsw3
          clear hsw3
          go_upto_region 21 with (fail)
          go_region
          all_goals
           go_wp2
           go_returns
           refine ⟨j3,false,swp dk j3 a,rfl,part_second (i2:=i2) (j2:=j2) HDD.out (by rw [HB1.out];exact HU.out) (by rw [HB1.out];exact HD.out) hgt ?_,HSW3.out⟩
           rw [HDD1.out, ←HPL.out,partLoop_eq ltInt a i1 j1 dk,HV.out,HE.out,if_pos (by omega)]
    ·have hgti:(j2:Int) <(i2:Int):=by omega
     have hsc2:=hA2.out.swapcell HG0.out hjn han
     have hsw2:Arr W0 (((wc.setCell ⟨blk,off+j2,none⟩ (.int .u16 (G0 a))).setCell ⟨blk,off+a,none⟩ (.int .u16 (G0 j2))).drew) e blk off n (swp d0 j2 a):=by
      simp only [HG0.out]
      exact (hA2.out.swap 0 hjn han).same rfl rfl rfl rfl
     have HSW2:=Lib.hid hsw2
     clear hsw2
     go_upto_region 8 with (fail)
     go_region
     all_goals
      go_wp2
      go_returns
      exact ⟨j2,true,swp d0 j2 a,rfl,part_first (i2:=i2) (j2:=j2) HDD.out (by rw [HB1.out];exact HU.out) (by rw [HB1.out];exact HD.out) (by omega),HSW2.out⟩
end Go.Proofs.YteelncofiodflaaGreat
namespace Go.Proofs.YteelncofiodflaaGreat
open Go.RowKit Go.Sort
set_option maxRecDepth 100000 in
set_option maxHeartbeats 8000000 in
theorem parteq_ok (W0 w:World) (e:TypeId) (blk off n cap a b pivot:Nat) (d:Array Int) (hA:Arr W0 w e blk off n d) (hp1:a≤pivot) (hp2:pivot <b) (hb:b≤n) (hn:n≤4194304):
  Calls Tryz.prog 143 #[.slice (some ⟨blk,off,none⟩) n cap, .int .i64 a, .int .i64 b, .int .i64 pivot] w fun r w'=> ∃(mid:Nat) (d':Array Int),r= .returned (.int .i64 mid)∧Sort.partitionEqual ltInt d a b pivot=(mid,d')∧Arr W0 w' e blk off n d':=by
 obtain ⟨b1,hb1⟩: ∃b1,b=b1+1:=⟨b -1,by omega⟩
 have hsub:(b:Int) -1=(b1:Int):=by omega
 have hab1:a≤b1:=by omega
 have hbn1:b1 <n:=by omega
 have HB1:=Lib.hid hb1
 have han:a <n:=by omega
 have hpn:pivot <n:=by omega
 obtain ⟨G,hG,hcw,hfw⟩:=hA.fam
 have HG:=Lib.hid hG
 clear hG
 have hsc:=hA.swapcell HG.out han hpn
 have hsw:Arr W0 (((w.setCell ⟨blk,off+a,none⟩ (.int .u16 (G pivot))).setCell ⟨blk,off+pivot,none⟩ (.int .u16 (G a))).drew) e blk off n (swp d a pivot):=by
  simp only [HG.out]
  exact (hA.swap 0 han hpn).same rfl rfl rfl rfl
 have HSW:=Lib.hid hsw
 clear hsw hA hb1
 go_enter Tryz.func143,Tryz.ntmps143
 go_upto_region 1 with (fail)
 go_region
 all_goals
  have hd0:=HSW.out
  generalize hdd:swp d a pivot=d0 at hd0
  have HDD:=Lib.hid hdd
  clear hdd
  have HH0:=Lib.hid hd0
  generalize World.drew _=w0 at hd0 HH0 ⊢
  clear hd0 hcw hfw
  go_wp2
  go_loopw [9,10] (fun vi vj wr=> ∃(i1 j1:Nat) (dk:Array Int),vi= .int .i64 i1∧vj= .int .i64 j1∧a <i1∧i1≤j1+1∧j1≤b1∧Hid (Arr W0 wr e blk off n dk)∧Hid (partEqLoop ltInt a i1 j1 dk=partEqLoop ltInt a (a+1) b1 d0)) (fun vi vj _=>(Go.Proofs.intOf vj+1 -Go.Proofs.intOf vi).toNat)
  case atStart=>exact ⟨a+1,b1,d0,by go_num,rfl,by omega,by omega,by omega,HH0,Lib.hid rfl⟩
  case round=>
   obtain ⟨i1,j1,dk,rfl,rfl,hq1,hq2,hq3,hK,HPL⟩:=hrel
   obtain ⟨Gk,hGk,hck,hfk⟩:=hK.out.fam
   have HGk:=Lib.hid hGk
   clear hGk
   go_upto_block 2 with fail
   go_cut [9] (fun s wc=> ∃i:Nat,s= .int .i64 i∧a <i∧i≤j1+1∧Hid (Arr W0 wc e blk off n dk)∧Hid (scanUp (fun x=> !ltInt dk[a]! x) dk j1 i1=i)∧Hid (i≤j1→(!ltInt dk[a]! dk[i]!)=false))
   case first=>
    go_wp2
    go_loopw [9] (fun s wr=> ∃i:Nat,s= .int .i64 i∧a <i∧i≤j1+1∧Hid (Arr W0 wr e blk off n dk)∧Hid (scanUp (fun x=> !ltInt dk[a]! x) dk j1 i=scanUp (fun x=> !ltInt dk[a]! x) dk j1 i1)) (fun s _=>j1+1 -(Go.Proofs.intOf s).toNat)
    case atStart=>exact ⟨i1,by go_num,by omega,by omega,Lib.hid hK.out,Lib.hid rfl⟩
    case round=>
     obtain ⟨i,rfl,hi1,hi2,hr,HO⟩:=hrel
     obtain ⟨hcr,hfr⟩:=hr.out.famG HGk.out
     by_cases hij:i≤j1
     ·have hiji:(i:Int)≤(j1:Int):=by omega
      have hin:i <n:=by omega
      go_wp2
      go_quiet (first |(go_at_call 142;refine Calls.quiet_of_same (less_ok _ _ _)))
      go_wp2
      ·have hl:(!ltInt (Gk a) (Gk i))=true:=by assumption
       go_roundw
       case rel=>exact ⟨i+1,by go_num,by omega,by omega,Lib.hid (hr.out.drewN _),Lib.hid (by rw [←HO.out,up_go _ _ _ _ hij (by rw [←HGk.out, ←HGk.out];exact hl)])⟩
       case measure=>simp [Go.Proofs.intOf];omega
      ·have hl:(!ltInt (Gk a) (Gk i))=false:=by assumption
       go_meet
       case rel=>exact ⟨i,rfl,hi1,hi2,Lib.hid (hr.out.drewN _),Lib.hid (by rw [←HO.out,up_stop _ _ _ _ (Or.inr (by rw [←HGk.out, ←HGk.out];exact hl))]),Lib.hid (fun _=>by rw [←HGk.out, ←HGk.out];exact hl)⟩
     ·have hiji:decide ((i:Int)≤(j1:Int))=false:=decide_eq_false (by omega)
      go_wp2
      go_quiet (first |(go_at_call 142;refine Calls.quiet_of_same (less_ok _ _ _)))
      go_wp2
      go_meet
      case rel=>exact ⟨i,rfl,hi1,hi2,Lib.hid (hr.out.drewN _),Lib.hid (by rw [←HO.out,up_stop _ _ _ _ (Or.inl hij)]),Lib.hid (fun h=>absurd h hij)⟩
   case rest=>
    obtain ⟨i3,rfl,hr1,hr2,hB1,HV,HVS⟩:=hcut
    go_upto_block 4 with fail
    go_cut [10] (fun s wc=> ∃j:Nat,s= .int .i64 j∧i3≤j+1∧j≤j1∧Hid (Arr W0 wc e blk off n dk)∧Hid (scanDown (fun x=>ltInt dk[a]! x) dk i3 j1=j)∧Hid (i3≤j→(!ltInt dk[a]! dk[j]!)=true))
    case first=>
     go_wp2
     go_loopw [10] (fun s wr=> ∃j:Nat,s= .int .i64 j∧i3≤j+1∧j≤j1∧Hid (Arr W0 wr e blk off n dk)∧Hid (scanDown (fun x=>ltInt dk[a]! x) dk i3 j=scanDown (fun x=>ltInt dk[a]! x) dk i3 j1)) (fun s _=>(Go.Proofs.intOf s).toNat)
     case atStart=>exact ⟨j1,rfl,by omega,Nat.le_refl _,hB1,Lib.hid rfl⟩
     case round=>
      obtain ⟨j,rfl,hj1,hj2,hr,HO⟩:=hrel
      obtain ⟨hcr,hfr⟩:=hr.out.famG HGk.out
      by_cases hij:i3≤j
      ·have hiji:(i3:Int)≤(j:Int):=by omega
       have hjn:j <n:=by omega
       go_wp2
       go_quiet (first |(go_at_call 142;refine Calls.quiet_of_same (less_ok _ _ _)))
       go_wp2
       ·have hl0:ltInt (Gk a) (Gk j)=true:=by assumption
        go_roundw
        case rel=>exact ⟨j -1,by congr 1;omega,by omega,by omega,Lib.hid (hr.out.drewN _),Lib.hid (by rw [←HO.out,down_go _ _ _ _ (by omega) hij (by rw [←HGk.out, ←HGk.out];exact hl0)])⟩
        case measure=>simp [Go.Proofs.intOf];omega
       ·have hl0:ltInt (Gk a) (Gk j)=false:=by assumption
        go_meet
        case rel=>exact ⟨j,rfl,hj1,hj2,Lib.hid (hr.out.drewN _),Lib.hid (by rw [←HO.out,down_stop _ _ _ _ (Or.inr (by rw [←HGk.out, ←HGk.out];exact hl0))]),Lib.hid (fun _=>by rw [←HGk.out, ←HGk.out];simpa using hl0)⟩
      ·have hiji:decide ((i3:Int)≤(j:Int))=false:=decide_eq_false (by omega)
       go_wp2
       go_quiet (first |(go_at_call 142;refine Calls.quiet_of_same (less_ok _ _ _)))
       go_wp2
       go_meet
       case rel=>exact ⟨j,rfl,hj1,hj2,Lib.hid (hr.out.drewN _),Lib.hid (by rw [←HO.out,down_stop _ _ _ _ (Or.inl hij)]),Lib.hid (fun h=>absurd h hij)⟩
    case rest=>
     obtain ⟨j3,rfl,hs1,hs2,hB2,HE,HES⟩:=hcut
     obtain ⟨hc3,hf3⟩:=hB2.out.famG HGk.out
     clear hck hfk
     have hj3n:j3 <n:=by omega
     by_cases hgt3:i3≤j3
     ·have hi3n:i3 <n:=by omega
      have hne3:i3≠j3:=fun e=>by
       have h1:=HVS.out (by omega)
       have h2:=HES.out hgt3
       rw [←e,h1] at h2
       cases h2
      have hsc3:=hB2.out.swapcell HGk.out hi3n hj3n
      have hsw3:Arr W0 (((wc.setCell ⟨blk,off+i3,none⟩ (.int .u16 (Gk j3))).setCell ⟨blk,off+j3,none⟩ (.int .u16 (Gk i3))).drew) e blk off n (swp dk i3 j3):=by
       simp only [HGk.out]
       exact (hB2.out.swap 0 hi3n hj3n).same rfl rfl rfl rfl
      have hgti3:decide ((j3:Int) <(i3:Int))=false:=decide_eq_false (by omega)
      have HSW3:=Lib.hid hsw3
      clear hsw3
      go_upto_region 8 with (fail)
      go_region
      all_goals
       go_wp2
       go_roundw
       case rel=>
        refine ⟨i3+1,j3 -1,swp dk i3 j3,by go_num,by congr 1;omega,by omega,by omega,by omega,HSW3,Lib.hid ?_⟩
        rw [←HPL.out,partEqLoop_eq ltInt a i1 j1 dk,HV.out,HE.out,if_neg (by omega)]
       case measure=>
        have hge:i1≤i3:=by rw [←HV.out];exact scanUp_ge _ _ _ _
        simp only [Go.Proofs.intOf]
        omega
     ·have hgti3:(j3:Int) <(i3:Int):=by omega
      go_wp2
      go_returns
      refine ⟨i3,dk,rfl, ?_,hB2.out⟩
      rw [Sort.partitionEqual,HDD.out,HB1.out]
      show partEqLoop ltInt a (a+1) b1 d0=_
      rw [←HPL.out,partEqLoop_eq ltInt a i1 j1 dk,HV.out,HE.out,if_pos (by omega)]
end Go.Proofs.YteelncofiodflaaGreat
namespace Go.Proofs.YteelncofiodflaaGreat
open Go.RowKit Go.Sort
theorem ss_go (d:Array Int) (b i:Nat) (h:i <b) (hl:ltInt d[i]! d[i -1]! =false):scanSorted ltInt d b i=scanSorted ltInt d b (i+1):=by
 rw [scanSorted,if_pos (by simp [h,hl])]
theorem ss_stop (d:Array Int) (b i:Nat) (h: ¬i <b∨ltInt d[i]! d[i -1]! =true):scanSorted ltInt d b i=i:=by
 rw [scanSorted,if_neg (by rcases h with h |h<;>simp [h])]
theorem sd_go (j:Nat) (d:Array Int) (hj:0 <j) (hl:ltInt d[j]! d[j -1]! =true):shiftDown ltInt j d=shiftDown ltInt (j -1) (swp d j (j -1)):=by
 obtain ⟨k,rfl⟩: ∃k,j=k+1:=⟨j -1,by omega⟩
 simp only [Nat.add_sub_cancel] at hl ⊢
 rw [shiftDown,if_neg (by simp [hl])]
theorem sd_stop (j:Nat) (d:Array Int) (h:j=0∨ltInt d[j]! d[j -1]! =false):shiftDown ltInt j d=d:=by
 cases j with
 |zero=>rw [shiftDown]
 |succ k=>
  rcases h with h |h
  ·omega
  ·simp only [Nat.add_sub_cancel] at h
   rw [shiftDown,if_pos (by simp [h])]
theorem su_go {b:Nat} (j:Nat) (d:Array Int) (hj:j <b) (hl:ltInt d[j]! d[j -1]! =true):shiftUp ltInt b j d=shiftUp ltInt b (j+1) (swp d j (j -1)):=by
 rw [shiftUp,if_pos hj,if_neg (by simp [hl])]
theorem su_stop {b:Nat} (j:Nat) (d:Array Int) (h: ¬j <b∨ltInt d[j]! d[j -1]! =false):shiftUp ltInt b j d=d:=by
 rw [shiftUp]
 by_cases hj:j <b
 ·rw [if_pos hj,if_pos (by rcases h with h |h<;>first |omega |simp [h])]
 ·rw [if_neg hj]
theorem pi_true (a b s i:Nat) (d:Array Int) (h:scanSorted ltInt d b i=b):partialIns ltInt a b (s+1) i d=(d,true):=by
 rw [partialIns]
 simp only [h,if_true]
theorem pi_short {i2:Nat} (a b s i:Nat) (d:Array Int) (h:scanSorted ltInt d b i=i2) (h2:i2≠b) (h3:b -a <50):partialIns ltInt a b (s+1) i d=(d,false):=by
 rw [partialIns]
 simp only [h,if_neg h2,if_pos h3]
theorem pi_next {i2:Nat} (a b s i:Nat) (d:Array Int) (h:scanSorted ltInt d b i=i2) (h2:i2≠b) (h3: ¬b -a <50):
  partialIns ltInt a b (s+1) i d=partialIns ltInt a b s i2 (if b -i2≥2 then shiftUp ltInt b (i2+1) (if i2 -a≥2 then shiftDown ltInt (i2 -1) (swp d i2 (i2 -1)) else swp d i2 (i2 -1)) else (if i2 -a≥2 then shiftDown ltInt (i2 -1) (swp d i2 (i2 -1)) else swp d i2 (i2 -1))):=by
 rw [partialIns]
 simp only [h,if_neg h2,if_neg h3]
set_option maxRecDepth 100000 in
set_option maxHeartbeats 8000000 in
theorem pins_ok (W0 w:World) (e:TypeId) (blk off n cap a b:Nat) (d:Array Int) (hA:Arr W0 w e blk off n d) (hab:a <b) (hb:b≤n) (hn:n≤4194304):
  Calls Tryz.prog 141 #[.slice (some ⟨blk,off,none⟩) n cap, .int .i64 a, .int .i64 b] w fun r w'=> ∃(ok:Bool) (d':Array Int),r= .returned (.bool ok)∧Sort.partialInsertionSort ltInt d a b=(d',ok)∧Arr W0 w' e blk off n d':=by
 have H0:=Lib.hid hA
 clear hA
 go_enter Tryz.func141,Tryz.ntmps141
 go_wp2
 go_loopw [6,7,8] (fun v6 vi vj wr=> ∃(s i:Nat) (jz:Int) (dk:Array Int),v6= .bool false∧vi= .int .i64 i∧vj= .int .i64 jz∧Hid (jz=5 -(s:Int))∧s≤5∧a <i∧i≤b∧Hid (Arr W0 wr e blk off n dk)∧Hid (partialIns ltInt a b s i dk=partialIns ltInt a b 5 (a+1) d)) (fun _ _ vj _=>(5 -Go.Proofs.intOf vj).toNat)
 case atStart=>exact ⟨5,a+1,0,d,rfl,by go_num,rfl,Lib.hid (by omega),by omega,by omega,by omega,H0,Lib.hid rfl⟩
 case round=>
  obtain ⟨s,i,jz,dk,rfl,rfl,rfl,hjz,hs5,hi1,hi2,hK,HP⟩:=hrel
  rcases s with _ |s
  ·have hjz5:jz=5:=by have:=hjz.out;omega
   subst hjz5
   go_wp2
   go_returns
   exact ⟨false,dk,rfl,by rw [Sort.partialInsertionSort, ←HP.out];rfl,hK.out⟩
  ·have hjz5:jz <5:=by have:=hjz.out;omega
   have hjz0:0≤jz:=by have:=hjz.out;omega
   obtain ⟨Gk,hGk,hck,hfk⟩:=hK.out.fam
   have HGk:=Lib.hid hGk
   clear hGk
   go_upto_block 2 with fail
   go_cut [7] (fun s wc=> ∃i2:Nat,s= .int .i64 i2∧a <i2∧i2≤b∧Hid (Arr W0 wc e blk off n dk)∧Hid (scanSorted ltInt dk b i=i2))
   case first=>
    go_wp2
    go_loopw [7] (fun s wr=> ∃i2:Nat,s= .int .i64 i2∧a <i2∧i2≤b∧Hid (Arr W0 wr e blk off n dk)∧Hid (scanSorted ltInt dk b i2=scanSorted ltInt dk b i)) (fun s _=>b -(Go.Proofs.intOf s).toNat)
    case atStart=>exact ⟨i,rfl,hi1,hi2,hK,Lib.hid rfl⟩
    case round=>
     obtain ⟨i2,rfl,hr1,hr2,hr,HO⟩:=hrel
     obtain ⟨hcr,hfr⟩:=hr.out.famG HGk.out
     by_cases hij:i2 <b
     ·have hiji:(i2:Int) <(b:Int):=by omega
      have hin:i2 <n:=by omega
      have hin1:i2 -1 <n:=by omega
      go_wp2
      go_quiet (first |(go_at_call 142;refine Calls.quiet_of_same (less_ok _ _ _)))
      go_wp2
      ·have hl0:(!ltInt (Gk i2) (Gk (i2 -1)))=true:=by assumption
       go_roundw
       case rel=>exact ⟨i2+1,by go_num,by omega,by omega,Lib.hid (hr.out.drewN _),Lib.hid (by rw [←HO.out,ss_go _ _ _ hij (by rw [←HGk.out, ←HGk.out];simpa using hl0)])⟩
       case measure=>simp [Go.Proofs.intOf];omega
      ·have hl0:(!ltInt (Gk i2) (Gk (i2 -1)))=false:=by assumption
       go_meet
       case rel=>exact ⟨i2,rfl,hr1,hr2,Lib.hid (hr.out.drewN _),Lib.hid (by rw [←HO.out,ss_stop _ _ _ (Or.inr (by rw [←HGk.out, ←HGk.out];simpa using hl0))])⟩
     ·have hiji:decide ((i2:Int) <(b:Int))=false:=decide_eq_false (by omega)
      go_wp2
      go_quiet (first |(go_at_call 142;refine Calls.quiet_of_same (less_ok _ _ _)))
      go_wp2
      go_meet
      case rel=>exact ⟨i2,rfl,hr1,hr2,Lib.hid (hr.out.drewN _),Lib.hid (by rw [←HO.out,ss_stop _ _ _ (Or.inl hij)])⟩
   case rest=>
    obtain ⟨i2,rfl,hr1,hr2,hB,HS⟩:=hcut
    clear hck hfk
    by_cases hib:i2=b
    ·subst hib
     go_wp2
     go_returns
     exact ⟨true,dk,rfl,by rw [Sort.partialInsertionSort, ←HP.out,pi_true _ _ _ _ _ HS.out],hB.out⟩
    ·have hibi:((i2:Int)==(b:Int))=false:=beq_eq_false_iff_ne.2 (by omega)
     obtain ⟨lba,hlba⟩: ∃lba:Nat,b=a+lba:=⟨b -a,by omega⟩
     have hbai:(b:Int) -(a:Int)=(lba:Int):=by omega
     have HLB:=Lib.hid hlba
     clear hlba
     by_cases h50:lba <50
     ·have h50i:(lba:Int) <50:=by omega
      go_wp2
      go_returns
      exact ⟨false,dk,rfl,by rw [Sort.partialInsertionSort, ←HP.out,pi_short _ _ _ _ _ HS.out hib (by have:=HLB.out;omega)],hB.out⟩
     ·have h50i:decide ((lba:Int) <50)=false:=decide_eq_false (by omega)
      obtain ⟨hcb,hfb⟩:=hB.out.famG HGk.out
      have hin:i2 <n:=by omega
      have hin1:i2 -1 <n:=by omega
      have hsc:=hB.out.swapcell HGk.out hin hin1
      have hsw:Arr W0 (((wc.setCell ⟨blk,off+i2,none⟩ (.int .u16 (Gk (i2 -1)))).setCell ⟨blk,off+(i2 -1),none⟩ (.int .u16 (Gk i2))).drew) e blk off n (swp dk i2 (i2 -1)):=by
       simp only [HGk.out]
       exact (hB.out.swap 0 hin hin1).same rfl rfl rfl rfl
      have HSW:=Lib.hid hsw
      clear hsw
      go_upto_region 11 with fail
      go_region
      all_goals
       go_upto_if 61 with fail
       have hd1:=HSW.out
       generalize hdd:swp dk i2 (i2 -1)=d1 at hd1
       have HDD:=Lib.hid hdd
       have HH1:=Lib.hid hd1
       clear hdd hsc hcb hfb
       generalize World.drew _=w1 at hd1 HH1 ⊢
       clear hd1
       go_cut [] (fun wc=>Hid (Arr W0 wc e blk off n (if i2 -a≥2 then shiftDown ltInt (i2 -1) d1 else d1)))
       case first=>
        by_cases hx:i2 -a≥2
        ·have hxi:(2:Int)≤(i2:Int) -(a:Int):=by omega
         go_wp2
         go_loopw [9] (fun s wr=> ∃(j:Nat) (dj:Array Int),s= .int .i64 j∧j≤i2 -1∧j≤n∧Hid (Arr W0 wr e blk off n dj)∧Hid (shiftDown ltInt j dj=shiftDown ltInt (i2 -1) d1)) (fun s _=>(Go.Proofs.intOf s).toNat)
         case atStart=>exact ⟨i2 -1,d1,by go_num,by omega,by omega,HH1,Lib.hid rfl⟩
         case round=>
          obtain ⟨j,dj,rfl,hjb,hjn0,hJ,HJ⟩:=hrel
          obtain ⟨Gj,hGj,hcj,hfj⟩:=hJ.out.fam
          have HGj:=Lib.hid hGj
          clear hGj
          by_cases hj:1≤j
          ·have hji:(1:Int)≤(j:Int):=by omega
           have hj0:0 <j:=by omega
           have hjn:j <n:=by omega
           have hj1n:j -1 <n:=by omega
           go_wp2
           go_quiet (first |(go_at_call 142;refine Calls.quiet_of_same (less_ok _ _ _)))
           have hq:=hJ.out.drewN nq
           generalize World.drewN wr nq=wq at hq ⊢
           obtain ⟨hcq,hfq⟩:=hq.famG HGj.out
           go_wp2
           ·have hl0:(!ltInt (Gj j) (Gj (j -1)))=true:=by assumption
            go_meet
            case rel=>rw [if_pos hx];exact Lib.hid (by rw [←HJ.out,sd_stop _ _ (Or.inr (by rw [←HGj.out, ←HGj.out];simpa using hl0))];exact hq)
           ·have hl0:(!ltInt (Gj j) (Gj (j -1)))=false:=by assumption
            go_region
            all_goals
             go_wp2
             go_roundw
             case rel=>
              refine ⟨j -1,swp dj j (j -1),by first |rfl |go_num |(congr 1;omega),by omega,by omega,Lib.hid ?_,Lib.hid ?_⟩
              ·simp only [HGj.out]
               exact (hq.swap 0 hjn hj1n).same rfl rfl rfl rfl
              ·rw [←HJ.out,sd_go _ _ hj0 (by rw [←HGj.out, ←HGj.out];simpa using hl0)]
             case measure=>simp [Go.Proofs.intOf];omega
          ·have hji:decide ((1:Int)≤(j:Int))=false:=decide_eq_false (by omega)
           go_wp2
           go_meet
           case rel=>rw [if_pos hx];exact Lib.hid (by rw [←HJ.out,sd_stop _ _ (Or.inl (by omega))];exact hJ.out)
        ·have hxi:decide ((2:Int)≤(i2:Int) -(a:Int))=false:=decide_eq_false (by omega)
         go_wp2
         go_meet
         case rel=>rw [if_neg hx];exact HH1
       case rest=>
        generalize hdd2:(if i2 -a≥2 then shiftDown ltInt (i2 -1) d1 else d1)=d2 at hcut
        have HDD2:=Lib.hid hdd2
        clear hdd2 HSW
        go_upto_if 98 with fail
        have HC:=hcut
        by_cases hx:b -i2≥2
        ·have hxi:(2:Int)≤(b:Int) -(i2:Int):=by omega
         go_wp2
         go_loopw [10] (fun s wr=> ∃(j:Nat) (dj:Array Int),s= .int .i64 j∧i2+1≤j∧j≤n∧Hid (Arr W0 wr e blk off n dj)∧Hid (shiftUp ltInt b j dj=shiftUp ltInt b (i2+1) d2)) (fun s _=>b -(Go.Proofs.intOf s).toNat)
         case atStart=>exact ⟨i2+1,d2,by go_num,by omega,by omega,HC,Lib.hid rfl⟩
         case round=>
          obtain ⟨j,dj,rfl,hjb,hjn0,hJ,HJ⟩:=hrel
          obtain ⟨Gj,hGj,hcj,hfj⟩:=hJ.out.fam
          have HGj:=Lib.hid hGj
          clear hGj
          by_cases hj:j <b
          ·have hji:(j:Int) <(b:Int):=by omega
           have hj0:0 <j:=by omega
           have hjn:j <n:=by omega
           have hj1n:j -1 <n:=by omega
           go_wp2
           go_quiet (first |(go_at_call 142;refine Calls.quiet_of_same (less_ok _ _ _)))
           have hq:=hJ.out.drewN nq
           generalize World.drewN wr nq=wq at hq ⊢
           obtain ⟨hcq,hfq⟩:=hq.famG HGj.out
           go_wp2
           ·have hl0:(!ltInt (Gj j) (Gj (j -1)))=true:=by assumption
            go_roundw
            case rel=>exact ⟨s,i2,jz+1,dj,rfl,rfl,rfl,Lib.hid (by have:=hjz.out;omega),by omega,hr1,hr2,Lib.hid hq,Lib.hid (by rw [←HP.out,pi_next _ _ _ _ _ HS.out hib (by have:=HLB.out;omega),HDD.out,HDD2.out,if_pos hx, ←HJ.out,su_stop _ _ (Or.inr (by rw [←HGj.out, ←HGj.out];simpa using hl0))])⟩
            case measure=>simp [Go.Proofs.intOf];omega
           ·have hl0:(!ltInt (Gj j) (Gj (j -1)))=false:=by assumption
            go_region
            all_goals
             go_wp2
             go_roundw
             case rel=>
              refine ⟨j+1,swp dj j (j -1),by first |rfl |go_num |(congr 1;omega),by omega,by omega,Lib.hid ?_,Lib.hid ?_⟩
              ·simp only [HGj.out]
               exact (hq.swap 0 hjn hj1n).same rfl rfl rfl rfl
              ·rw [←HJ.out,su_go _ _ hj (by rw [←HGj.out, ←HGj.out];simpa using hl0)]
             case measure=>simp [Go.Proofs.intOf];omega
          ·have hji:decide ((j:Int) <(b:Int))=false:=decide_eq_false (by omega)
           go_wp2
           go_roundw
           case rel=>exact ⟨s,i2,jz+1,dj,rfl,rfl,rfl,Lib.hid (by have:=hjz.out;omega),by omega,hr1,hr2,Lib.hid (hJ.out),Lib.hid (by rw [←HP.out,pi_next _ _ _ _ _ HS.out hib (by have:=HLB.out;omega),HDD.out,HDD2.out,if_pos hx, ←HJ.out,su_stop _ _ (Or.inl (by omega))])⟩
           case measure=>simp [Go.Proofs.intOf];omega
        ·have hxi:decide ((2:Int)≤(b:Int) -(i2:Int))=false:=decide_eq_false (by omega)
         go_wp2
         go_roundw
         case rel=>exact ⟨s,i2,jz+1,_,rfl,rfl,rfl,Lib.hid (by have:=hjz.out;omega),by omega,hr1,hr2,HC,Lib.hid (by rw [←HP.out,pi_next _ _ _ _ _ HS.out hib (by have:=HLB.out;omega),HDD.out,HDD2.out,if_neg hx])⟩
         case measure=>simp [Go.Proofs.intOf];omega
end Go.Proofs.YteelncofiodflaaGreat
