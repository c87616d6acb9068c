/-
  An array of numbers in one block while it is sorted: its contents as a plain array, all else as it was. The first part speaks of no program; then what cmp.Less answers. No condition.
-/
import Derived.Test.YteelncofiodflaaGreatCore
import Derived.Sort.WalkA
import Derived.Sort.AssemblyPlain
import Derived.BigRegion
import Derived.Handy
import Derived.Deep.Cut
namespace Go.Proofs.YteelncofiodflaaGreat
open Go.RowKit Go.Sort
structure Arr (W0 W:World) (e:TypeId) (blk off n:Nat) (d:Array Int):Prop where
 os:W.os=W0.os
 tape:W.tape=W0.tape
 output:W.output=W0.output
 size:W0.heap.size≤W.heap.size
 other: ∀k,k <W0.heap.size→k≠blk→W.heap[k]? =W0.heap[k]?
 row: ∃cur0 cur,W0.heap[blk]? =some (.cells cur0 e (0,0))∧W.heap[blk]? =some (.cells cur e (0,0))∧cur.size=cur0.size∧off+n≤cur.size∧(∀j,j <off∨off+n≤j→cur[j]? =cur0[j]?)∧ ∀t,t <n→cur[off+t]? =some (.int .u16 d[t]!)
 dsize:d.size=n
section
variable {W0 W W':World} {e:TypeId} {blk off n:Nat} {d:Array Int}
theorem Arr.cell (h:Arr W0 W e blk off n d) {t:Nat} (ht:t <n):W.cell? ⟨blk,off+t,none⟩=some (.int .u16 d[t]!):=by
 obtain ⟨cur0,cur,_,h2,_,_,_,h6⟩:=h.row
 rw [cell_of_row W blk (off+t) cur e (0,0) h2]
 exact h6 t ht
theorem Arr.frozen (h:Arr W0 W e blk off n d) (t:Nat):W.frozen? ⟨blk,t,none⟩=false:=by
 obtain ⟨cur0,cur,_,h2,_⟩:=h.row
 simp [World.frozen?,h2]
theorem Arr.lt (h:Arr W0 W e blk off n d):blk <W0.heap.size:=by
 obtain ⟨cur0,cur,h1,_⟩:=h.row
 exact (Array.getElem?_eq_some_iff.1 h1).1
theorem Arr.same (h:Arr W0 W e blk off n d) (h1:W'.os=W.os) (h2:W'.tape=W.tape) (h3:W'.output=W.output) (h4:W'.heap=W.heap):Arr W0 W' e blk off n d:=by
 obtain ⟨a,b,c,s,o,r,z⟩:=h
 exact ⟨h1.trans a,h2.trans b,h3.trans c,by rw [h4];exact s,by rw [h4];exact o,by rw [h4];exact r,z⟩
theorem Arr.drewN (h:Arr W0 W e blk off n d) (q:Nat):Arr W0 (W.drewN q) e blk off n d:=h.same rfl rfl rfl rfl
theorem Arr.below (h:Arr W0 W e blk off n d) (hb:Below W.heap.size W W'):Arr W0 W' e blk off n d:=by
 obtain ⟨a,b,c,s,o,⟨cur0,cur,r1,r2,r⟩,z⟩:=h
 have hl:blk <W.heap.size:=(Array.getElem?_eq_some_iff.1 r2).1
 exact ⟨hb.os.trans a,hb.tape.trans b,hb.output.trans c,Nat.le_trans s hb.size,fun k hk hne=>(hb.block k (by omega)).trans (o k hk hne),⟨cur0,cur,r1,(hb.block blk hl).trans r2,r⟩,z⟩
theorem Arr.alloc (h:Arr W0 W e blk off n d) (o:Obj):Arr W0 (W.alloc o) e blk off n d:=h.below ((Below.refl _ _).alloc (Nat.le_refl _) o)
theorem Arr.set (h:Arr W0 W e blk off n d) {i:Nat} (hi:i <n) (x:Int):Arr W0 (W.setCell ⟨blk,off+i,none⟩ (.int .u16 x)) e blk off n (d.setIfInBounds i x):=by
 obtain ⟨a,b,c,s,o,⟨cur0,cur,r1,r2,r3,r4,r5,r6⟩,z⟩:=h
 refine ⟨a,b,c,by simpa [World.setCell] using s,fun k hk hne=>(Below.heap_setCell _ _ _ k hne).trans (o k hk hne),⟨cur0,cur.setIfInBounds (off+i) (.int .u16 x),r1, ?_,by simpa using r3,by simpa using r4,fun j hj=> ?_,fun t ht=> ?_⟩,by simpa using z⟩
 ·simp [World.setCell,Array.getElem?_modify,r2]
 ·rw [Array.getElem?_setIfInBounds,if_neg (by omega)]
  exact r5 j hj
 ·by_cases hti:t=i
  ·subst hti
   rw [Array.getElem?_setIfInBounds,if_pos rfl,if_pos (by omega),getElem!_set_same d t x (by omega)]
  ·rw [Array.getElem?_setIfInBounds,if_neg (by omega),getElem!_set_other d i t x hti]
   exact r6 t ht
theorem Arr.swap (h:Arr W0 W e blk off n d) (q:Nat) {i j:Nat} (hi:i <n) (hj:j <n):
  Arr W0 (((W.drewN q).setCell ⟨blk,off+i,none⟩ (.int .u16 d[j]!)).setCell ⟨blk,off+j,none⟩ (.int .u16 d[i]!)) e blk off n (swp d i j):=
 ((h.drewN q).set hi _).set hj _
theorem Arr.self {cs:Array Value} {xs:List Int} (h:Blk W blk e cs) (hx:off+xs.length≤cs.size) (hc: ∀t x,xs[t]? =some x→cs[off+t]? =some (.int .u16 x)):Arr W W e blk off xs.length xs.toArray:=by
 refine ⟨rfl,rfl,rfl,Nat.le_refl _,fun _ _ _=>rfl,⟨cs,cs,h,h,rfl,hx,fun _ _=>rfl,fun t ht=> ?_⟩,by simp⟩
 rw [hc t xs[t] (List.getElem?_eq_getElem ht)]
 simp [ht]
theorem Arr.fam (h:Arr W0 W e blk off n d): ∃G:Nat→Int,(∀t,G t=d[t]!)∧(∀t,t <n→W.cell? ⟨blk,off+t,none⟩=some (.int .u16 (G t)))∧ ∀t,t <n→W.frozen? ⟨blk,off+t,none⟩=false:=
 ⟨fun t=>d[t]!,fun _=>rfl,fun _ ht=>h.cell ht,fun t _=>h.frozen (off+t)⟩
theorem Arr.famG (h:Arr W0 W e blk off n d) {G:Nat→Int} (hG: ∀t,G t=d[t]!):(∀t,t <n→W.cell? ⟨blk,off+t,none⟩=some (.int .u16 (G t)))∧ ∀t,t <n→W.frozen? ⟨blk,off+t,none⟩=false:=
 ⟨fun t ht=>by rw [hG];exact h.cell ht,fun t _=>h.frozen (off+t)⟩
end
theorem less_ok (a b:Int) (w:World):Calls Tryz.prog 142 #[.int .u16 a, .int .u16 b] w fun e w'=>e= .returned (.bool (ltInt a b))∧w'=w:=by
 have hn: ∀(x:Int) (w:World),Calls Tryz.prog 150 #[.int .u16 x] w fun e w'=>e= .returned (.bool false)∧w'=w:=fun x w=>by
  go_enter Tryz.func150,Tryz.ntmps150
  go_wp2
  go_ret
  simp
 go_enter Tryz.func142,Tryz.ntmps142
 go_wp2_with (go_at_call 150;refine (hn _ _).mono ?_;rintro e w1 ⟨rfl,rfl⟩)
 go_ret
 simp [ltInt]
end Go.Proofs.YteelncofiodflaaGreat
namespace Go.Proofs.YteelncofiodflaaGreat
open Go.RowKit Go.Sort
set_option maxRecDepth 100000 in
set_option maxHeartbeats 4000000 in
theorem ins_ok (W0 w:World) (e:TypeId) (blk off n cap a b:Nat) (d:Array Int) (hA:Arr W0 w e blk off n d) (hab:a≤b) (hb:b≤n) (hn:n≤4194304):
  Calls Tryz.prog 136 #[.slice (some ⟨blk,off,none⟩) n cap, .int .i64 a, .int .i64 b] w fun r w'=>r= .returned (.tuple #[])∧Arr W0 w' e blk off n (Sort.insertionSort ltInt d a b):=by
 have H0:=Lib.hid hA
 clear hA
 go_enter Tryz.func136,Tryz.ntmps136
 go_wp2
 go_loopw [6] (fun vi wr=> ∃(i:Nat) (dk:Array Int),vi= .int .i64 i∧a <i∧i≤b+1∧Hid (Arr W0 wr e blk off n dk)∧Hid (insOuter ltInt a b i dk=insOuter ltInt a b (a+1) d)) (fun vi _=>b+1 -(Go.Proofs.intOf vi).toNat)
 case atStart=>exact ⟨a+1,d,by go_num,by omega,by omega,H0,Lib.hid rfl⟩
 case round=>
  obtain ⟨i,dk,rfl,hai,hib,hA,HO⟩:=hrel
  by_cases hlt:i <b
  ·go_wp2
   go_loopw [7] (fun vj wr2=> ∃(j:Nat) (dj:Array Int),vj= .int .i64 j∧a≤j∧j≤i∧Hid (Arr W0 wr2 e blk off n dj)∧Hid (insInner ltInt a j dj=insInner ltInt a i dk)) (fun vj _=>(Go.Proofs.intOf vj).toNat)
   case atStart=>exact ⟨i,dk,rfl,by omega,Nat.le_refl _,hA,Lib.hid rfl⟩
   case round=>
    obtain ⟨j,dj,rfl,haj,hji,hJ,HI⟩:=hrel
    have hz:=hJ.out.dsize
    obtain ⟨G,hG,hcw,hfw⟩:=hJ.out.fam
    have HG:=Lib.hid hG
    clear hG
    have out:(j≤a∨ltInt dj[j]! dj[j -1]! =false)→ ∀q, ∃(i':Nat) (dk':Array Int),Value.int .i64 ((i:Int)+1)= .int .i64 (i':Nat)∧a <i'∧i'≤b+1∧Hid (Arr W0 (wr.drewN q) e blk off n dk')∧Hid (insOuter ltInt a b i' dk'=insOuter ltInt a b (a+1) d):=fun hs q=>
     ⟨i+1,dj,by go_num,by omega,by omega,Lib.hid (hJ.out.drewN q),Lib.hid (by rw [←HO.out,insOuter_go _ _ _ _ _ hlt, ←HI.out,insInner_stop _ _ _ _ hs])⟩
    have OUT:=Lib.hid out
    clear out
    by_cases hja:a <j
    ·have hj1:j -1 <n:=by omega
     have hjn:j <n:=by omega
     go_wp2
     go_quiet (first |(go_at_call 142;refine Calls.quiet_of_same (less_ok _ _ _)))
     go_wp2
     ·have hl:ltInt (G j) (G (j -1))=true:=by assumption
      go_region
      all_goals go_wp2
      go_roundw
      case rel=>
       refine ⟨j -1,swp dj j (j -1),by congr 1;omega,by omega,by omega,Lib.hid ?_,Lib.hid ?_⟩
       ·rw [HG.out,HG.out]
        exact hJ.out.swap _ hjn hj1
       ·rw [←HI.out,insInner_go ltInt a j dj hja (by rw [←HG.out, ←HG.out];exact hl)]
      case measure=>simp [Go.Proofs.intOf];omega
     ·have hl:ltInt (G j) (G (j -1))=false:=by assumption
      go_roundw
      case rel=>exact OUT.out (Or.inr (by rw [←HG.out, ←HG.out];exact hl)) _
      case measure=>simp [Go.Proofs.intOf];omega
    ·go_wp2
     go_quiet (first |(go_at_call 142;refine Calls.quiet_of_same (less_ok _ _ _)))
     go_wp2
     go_roundw
     case rel=>exact OUT.out (Or.inl (by omega)) _
     case measure=>simp [Go.Proofs.intOf];omega
  ·go_wp2
   go_end0
   exact ⟨rfl,by have:=hA.out;rw [Sort.insertionSort, ←HO.out,insOuter_stop _ _ _ _ _ hlt];exact this⟩
theorem sift_end (lt:Int→Int→Bool) (hi first r:Nat) (d:Array Int) (h: ¬2*r+1 <hi):siftDown lt hi first r d=d:=by rw [siftDown,dif_pos (by omega)]
theorem sift_right (lt:Int→Int→Bool) (hi first r:Nat) (d:Array Int) (h:2*r+1+1 <hi) (hl:lt d[first+2*r+1]! d[first+2*r+2]! =true):
  siftDown lt hi first r d=if (!lt d[first+r]! d[first+2*r+2]!)=true then d else siftDown lt hi first (2*r+2) (swp d (first+r) (first+2*r+2)):=by
 rw [siftDown,dif_neg (by omega),if_pos (by rw [Bool.and_eq_true];exact ⟨decide_eq_true h,hl⟩),dif_pos h]
 rfl
theorem sift_left (lt:Int→Int→Bool) (hi first r:Nat) (d:Array Int) (h:2*r+1 <hi) (hl: ¬2*r+1+1 <hi∨lt d[first+2*r+1]! d[first+2*r+2]! =false):
  siftDown lt hi first r d=if (!lt d[first+r]! d[first+2*r+1]!)=true then d else siftDown lt hi first (2*r+1) (swp d (first+r) (first+2*r+1)):=by
 rw [siftDown,dif_neg (by omega),if_neg (by
  intro hx
  rw [Bool.and_eq_true] at hx
  rcases hl with hl |hl
  ·exact hl (of_decide_eq_true hx.1)
  ·have:=hx.2
   rw [show first+(2*r+1)+1=first+2*r+2 from rfl,show first+(2*r+1)=first+2*r+1 from rfl,hl] at this
   cases this)]
 rfl
set_option maxRecDepth 100000 in
set_option maxHeartbeats 4000000 in
theorem sift_ok (W0 w:World) (e:TypeId) (blk off n cap lo hi first:Nat) (d:Array Int) (hA:Arr W0 w e blk off n d) (hlo:lo≤4194304) (hb:first+hi≤n) (hn:n≤4194304):
  Calls Tryz.prog 170 #[.slice (some ⟨blk,off,none⟩) n cap, .int .i64 lo, .int .i64 hi, .int .i64 first] w fun q w'=>q= .returned (.tuple #[])∧Arr W0 w' e blk off n (Sort.siftDown ltInt hi first lo d):=by
 have H0:=Lib.hid hA
 clear hA
 go_enter Tryz.func170,Tryz.ntmps170
 go_wp2
 go_loopw [8] (fun vi wr=> ∃(r:Nat) (dk:Array Int),vi= .int .i64 r∧r≤4194304∧Hid (Arr W0 wr e blk off n dk)∧Hid (siftDown ltInt hi first r dk=siftDown ltInt hi first lo d)) (fun vi _=>hi -(Go.Proofs.intOf vi).toNat)
 case atStart=>exact ⟨lo,d,rfl,hlo,H0,Lib.hid rfl⟩
 case round=>
  obtain ⟨r,dk,rfl,hr,hK,HO⟩:=hrel
  have hz:=hK.out.dsize
  by_cases hc:2*r+1 <hi
  ·obtain ⟨G,hG,hcw,hfw⟩:=hK.out.fam
   have HG:=Lib.hid hG
   clear hG
   by_cases hc2:2*r+1+1 <hi
   ·have hc2i:2*(r:Int)+1+1 <(hi:Int):=by omega
    go_wp2
    go_quiet (first |(go_at_call 142;refine Calls.quiet_of_same (less_ok _ _ _)))
    have hq:=hK.out.drewN nq
    generalize World.drewN wr nq=wq at hq ⊢
    obtain ⟨hcq,hfq⟩:=hq.famG HG.out
    go_wp2
    ·have hl:ltInt (G (first+2*r+1)) (G (first+2*r+2))=true:=by assumption
     go_quiet (first |(go_at_call 142;refine Calls.quiet_of_same (less_ok _ _ _)))
     go_wp2
     ·have hs0:(!ltInt (G (first+r)) (G (first+2*r+2)))=true:=by assumption
      have hs:ltInt (G (first+r)) (G (first+2*r+2))=false:=by simpa using hs0
      go_returns
      exact ⟨rfl,by rw [←HO.out,sift_right _ _ _ _ _ hc2 (by rw [←HG.out, ←HG.out];exact hl),if_pos (by rw [←HG.out, ←HG.out];simp [hs])];exact hq.drewN _⟩
     ·have hs0:(!ltInt (G (first+r)) (G (first+2*r+2)))=false:=by assumption
      have hs:ltInt (G (first+r)) (G (first+2*r+2))=true:=by simpa using hs0
      go_region
      all_goals go_wp2
      go_roundw
      case rel=>
       refine ⟨2*r+2,swp dk (first+r) (first+2*r+2),by go_num,by omega,Lib.hid ?_,Lib.hid ?_⟩
       ·rw [HG.out,HG.out]
        exact hq.swap _ (by omega) (by omega)
       ·rw [←HO.out,sift_right _ _ _ _ _ hc2 (by rw [←HG.out, ←HG.out];exact hl),if_neg (by rw [←HG.out, ←HG.out];simp [hs])]
      case measure=>simp [Go.Proofs.intOf];omega
    ·have hl:ltInt (G (first+2*r+1)) (G (first+2*r+2))=false:=by assumption
     go_quiet (first |(go_at_call 142;refine Calls.quiet_of_same (less_ok _ _ _)))
     go_wp2
     ·have hs0:(!ltInt (G (first+r)) (G (first+2*r+1)))=true:=by assumption
      have hs:ltInt (G (first+r)) (G (first+2*r+1))=false:=by simpa using hs0
      go_returns
      exact ⟨rfl,by rw [←HO.out,sift_left _ _ _ _ _ hc (Or.inr (by rw [←HG.out, ←HG.out];exact hl)),if_pos (by rw [←HG.out, ←HG.out];simp [hs])];exact hq.drewN _⟩
     ·have hs0:(!ltInt (G (first+r)) (G (first+2*r+1)))=false:=by assumption
      have hs:ltInt (G (first+r)) (G (first+2*r+1))=true:=by simpa using hs0
      go_region
      all_goals go_wp2
      go_roundw
      case rel=>
       refine ⟨2*r+1,swp dk (first+r) (first+2*r+1),by go_num,by omega,Lib.hid ?_,Lib.hid ?_⟩
       ·rw [HG.out,HG.out]
        exact hq.swap _ (by omega) (by omega)
       ·rw [←HO.out,sift_left _ _ _ _ _ hc (Or.inr (by rw [←HG.out, ←HG.out];exact hl)),if_neg (by rw [←HG.out, ←HG.out];simp [hs])]
      case measure=>simp [Go.Proofs.intOf];omega
   ·have hc2i:decide (2*(r:Int)+1+1 <(hi:Int))=false:=decide_eq_false (by omega)
    go_wp2
    go_quiet (first |(go_at_call 142;refine Calls.quiet_of_same (less_ok _ _ _)))
    have hq:=hK.out.drewN nq
    generalize World.drewN wr nq=wq at hq ⊢
    obtain ⟨hcq,hfq⟩:=hq.famG HG.out
    go_wp2
    go_quiet (first |(go_at_call 142;refine Calls.quiet_of_same (less_ok _ _ _)))
    go_wp2
    ·have hs0:(!ltInt (G (first+r)) (G (first+2*r+1)))=true:=by assumption
     have hs:ltInt (G (first+r)) (G (first+2*r+1))=false:=by simpa using hs0
     go_returns
     exact ⟨rfl,by rw [←HO.out,sift_left _ _ _ _ _ hc (Or.inl hc2),if_pos (by rw [←HG.out, ←HG.out];simp [hs])];exact hq.drewN _⟩
    ·have hs0:(!ltInt (G (first+r)) (G (first+2*r+1)))=false:=by assumption
     have hs:ltInt (G (first+r)) (G (first+2*r+1))=true:=by simpa using hs0
     go_region
     all_goals go_wp2
     go_roundw
     case rel=>
      refine ⟨2*r+1,swp dk (first+r) (first+2*r+1),by go_num,by omega,Lib.hid ?_,Lib.hid ?_⟩
      ·rw [HG.out,HG.out]
       exact hq.swap _ (by omega) (by omega)
      ·rw [←HO.out,sift_left _ _ _ _ _ hc (Or.inl hc2),if_neg (by rw [←HG.out, ←HG.out];simp [hs])]
     case measure=>simp [Go.Proofs.intOf];omega
  ·go_wp2
   go_returns
   exact ⟨rfl,by rw [←HO.out,sift_end _ _ _ _ _ hc];exact hK.out⟩
end Go.Proofs.YteelncofiodflaaGreat
namespace Go.Proofs.YteelncofiodflaaGreat
open Go.RowKit Go.Sort
theorem tdiv_half (h:Nat):((h:Int) -1).tdiv 2=(((h -1)/2+1:Nat):Int) -1:=by
 rcases h with _ |h
 ·rfl
 ·rw [show (((h+1:Nat):Int) -1)=(h:Int) by omega,Int.tdiv_eq_ediv_of_nonneg (by omega)]
  omega
set_option maxRecDepth 100000 in
set_option maxHeartbeats 4000000 in
theorem heap_ok (W0 w:World) (e:TypeId) (blk off n cap a b:Nat) (d:Array Int) (hA:Arr W0 w e blk off n d) (hab:a≤b) (hb:b≤n) (hn:n≤4194304):
  Calls Tryz.prog 137 #[.slice (some ⟨blk,off,none⟩) n cap, .int .i64 a, .int .i64 b] w fun q w'=>q= .returned (.tuple #[])∧Arr W0 w' e blk off n (Sort.heapSort ltInt d a b):=by
 have H0:=Lib.hid hA
 obtain ⟨h,hbh⟩: ∃h,b=a+h:=⟨b -a,by omega⟩
 have hsub:(b:Int) -(a:Int)=(h:Int):=by omega
 have hbn:a+h≤n:=by omega
 have HBH:=Lib.hid hbh
 clear hbh
 clear hA
 go_enter Tryz.func137,Tryz.ntmps137
 go_wp2
 generalize hv:((h:Int) -1).tdiv 2=v
 have HVV:=Lib.hid (show v=(((h -1)/2+1:Nat):Int) -1 by rw [←hv,tdiv_half])
 clear hv
 go_loopw [9] (fun vi wr=> ∃(k:Nat) (dk:Array Int),vi= .int .i64 ((k:Int) -1)∧k≤h+1∧Hid (Arr W0 wr e blk off n dk)∧Hid (heapBuild ltInt h a k dk=heapBuild ltInt h a ((h -1)/2+1) d)) (fun vi _=>(Go.Proofs.intOf vi+1).toNat)
 case atStart=>exact ⟨(h -1)/2+1,d,by rw [HVV.out],by omega,H0,Lib.hid rfl⟩
 case round=>
  obtain ⟨k,dk,rfl,hk,hK,HO⟩:=hrel
  rcases k with _ |k
  ·have hO:=HO.out
   rw [heapBuild] at hO
   have HO2:=Lib.hid hO
   clear hO HO
   rw [show (((0:Nat):Int) -1)= -1 from rfl]
   go_wp2
   go_loopw [10] (fun vi wr=> ∃(k:Nat) (dk:Array Int),vi= .int .i64 ((k:Int) -1)∧k≤h∧Hid (Arr W0 wr e blk off n dk)∧Hid (heapPop ltInt a k dk=Sort.heapSort ltInt d a b)) (fun vi _=>(Go.Proofs.intOf vi+1).toNat)
   case atStart=>exact ⟨h,dk,rfl,Nat.le_refl _,hK,Lib.hid (by rw [Sort.heapSort,show b -a=h by have:=HBH.out;omega, ←HO2.out])⟩
   case round=>
    obtain ⟨m,dm,rfl,hm,hM,HP⟩:=hrel
    have hz:=hM.out.dsize
    rcases m with _ |m
    ·go_wp2
     go_end0
     exact ⟨rfl,by have hp:=HP.out;rw [heapPop] at hp;rw [←hp];exact hM.out⟩
    ·rw [show (((m+1:Nat):Int) -1)=(m:Int) by omega]
     obtain ⟨G,hG,hcw,hfw⟩:=hM.out.fam
     have HG:=Lib.hid hG
     clear hG
     have ham:a+m <n:=by omega
     have han:a <n:=by omega
     by_cases hm0:m=0
     ·subst hm0
      have hsw:Arr W0 (((wr.setCell ⟨blk,off+a,none⟩ (.int .u16 (G a))).setCell ⟨blk,off+a,none⟩ (.int .u16 (G a))).drew) e blk off n (swp dm a (a+0)):=by
       simp only [HG.out]
       exact (hM.out.swap 0 han ham).same rfl rfl rfl rfl
      have HSW:=Lib.hid hsw
      clear hsw
      go_upto_region 10 with (fail)
      go_region
      all_goals
       go_wp2_with (go_at_call 170;refine (sift_ok W0 _ e blk off n cap 0 0 a _ HSW.out (by omega) (by omega) hn).mono ?_;rintro q w1 ⟨rfl,hS⟩)
       go_roundw
       case rel=>exact ⟨0,_,by go_num,by omega,Lib.hid hS,Lib.hid (by rw [←HP.out];rfl)⟩
       case measure=>simp [Go.Proofs.intOf]
     ·have hsw:Arr W0 (((wr.setCell ⟨blk,off+a,none⟩ (.int .u16 (G (a+m)))).setCell ⟨blk,off+(a+m),none⟩ (.int .u16 (G a))).drew) e blk off n (swp dm a (a+m)):=by
       simp only [HG.out]
       exact (hM.out.swap 0 han ham).same rfl rfl rfl rfl
      have HSW:=Lib.hid hsw
      clear hsw
      go_upto_region 10 with (fail)
      go_region
      all_goals
       go_wp2_with (go_at_call 170;refine (sift_ok W0 _ e blk off n cap 0 m a _ HSW.out (by omega) (by omega) hn).mono ?_;rintro q w1 ⟨rfl,hS⟩)
       go_roundw
       case rel=>exact ⟨m,_,by go_num,by omega,Lib.hid hS,Lib.hid (by rw [←HP.out];rfl)⟩
       case measure=>simp [Go.Proofs.intOf]
  ·rw [show (((k+1:Nat):Int) -1)=(k:Int) by omega]
   go_wp2_with (go_at_call 170;refine (sift_ok W0 _ e blk off n cap k h a dk hK.out (by omega) (by omega) hn).mono ?_;rintro q w1 ⟨rfl,hS⟩)
   go_roundw
   case rel=>exact ⟨k,_,by go_num,by omega,Lib.hid hS,Lib.hid (by rw [←HO.out,heapBuild])⟩
   case measure=>simp [Go.Proofs.intOf]
end Go.Proofs.YteelncofiodflaaGreat
namespace Go.Proofs.YteelncofiodflaaGreat
open Go.RowKit Go.Sort
theorem rev_go (i j:Nat) (d:Array Int) (h:i <j):reverseLoop i j d=reverseLoop (i+1) (j -1) (swp d i j):=by rw [reverseLoop,if_pos h]
theorem rev_stop (i j:Nat) (d:Array Int) (h: ¬i <j):reverseLoop i j d=d:=by rw [reverseLoop,if_neg h]
set_option maxRecDepth 100000 in
set_option maxHeartbeats 4000000 in
theorem revr_ok (W0 w:World) (e:TypeId) (blk off n cap a b:Nat) (d:Array Int) (hA:Arr W0 w e blk off n d) (hab:a <b) (hb:b≤n) (hn:n≤4194304):
  Calls Tryz.prog 140 #[.slice (some ⟨blk,off,none⟩) n cap, .int .i64 a, .int .i64 b] w fun r w'=>r= .returned (.tuple #[])∧Arr W0 w' e blk off n (Sort.reverseRange d a b):=by
 have H0:=Lib.hid hA
 clear hA
 have hb1:((b:Int) -1)=((b -1:Nat):Int):=by omega
 go_enter Tryz.func140,Tryz.ntmps140
 go_wp2
 try rw [hb1]
 generalize hB:((b -1:Nat):Int)=B1
 have HB1:=Lib.hid hB
 clear hB hb1
 go_loopg [6,7] b (fun kk s2 s3 wr=> ∃(i j:Nat) (jz:Int) (dk:Array Int),s2= .int .i64 i∧s3= .int .i64 jz∧((i:Int) <jz→jz=j∧j <n)∧(¬(i:Int) <jz→ ¬i <j)∧j -i≤kk∧i≤4194304∧ -1≤jz∧jz≤4194304∧Hid (Arr W0 wr e blk off n dk)∧Hid (reverseLoop i j dk=reverseLoop a (b -1) d))
 case atStart=>exact ⟨a,b -1,B1,d,rfl,rfl,fun h=>⟨HB1.out.symm,by omega⟩,fun h=>by have:=HB1.out;omega,by omega,by omega,by have:=HB1.out;omega,by have:=HB1.out;omega,H0,Lib.hid rfl⟩
 case round=>
  obtain ⟨i,j,jz,dk,rfl,rfl,h1,h2,hkk,hi,hj0,hj1,hK,HO⟩:=hrel
  have hz:=hK.out.dsize
  by_cases hlt:(i:Int) <jz
  ·obtain ⟨rfl,hjn⟩:=h1 hlt
   have hij:i <j:=by omega
   have hin:i <n:=by omega
   obtain ⟨G,hG,hcw,hfw⟩:=hK.out.fam
   have HG:=Lib.hid hG
   clear hG
   have hne:i≠j:=by omega
   clear h1 h2
   go_upto_region 3 with (fail)
   go_region
   all_goals
    go_wp2
    go_roundg (j -1 -(i+1))
    case measure=>omega
    case rel=>
     refine ⟨i+1,j -1,(j:Int) -1,swp dk i j,by go_num,rfl,fun h=>⟨by omega,by omega⟩,fun h=>by omega,by omega,by omega,by omega,by omega,Lib.hid ?_,Lib.hid ?_⟩
     ·simp only [HG.out]
      exact (hK.out.swap 0 hin hjn).same rfl rfl rfl rfl
     ·rw [←HO.out,rev_go i j dk hij]
  ·have hnj:=h2 hlt
   go_wp2
   go_end0
   exact ⟨rfl,by rw [Sort.reverseRange, ←HO.out,rev_stop _ _ _ hnj];exact hK.out⟩
structure Piv (W0 W:World) (e:TypeId) (blk off n:Nat) (d:Array Int) (g:Nat) (K:Int):Prop where
 arr:Arr W0 W e blk off n d
 far:W0.heap.size≤g
 cnt: ∃s:Int,W.cell? ⟨g,0,none⟩=some (.int .i64 s)∧0≤s∧s≤K
 free:W.frozen? ⟨g,0,none⟩=false
theorem Piv.more {W0 W:World} {e:TypeId} {blk off n g:Nat} {d:Array Int} {K K':Int} (h:Piv W0 W e blk off n d g K) (hK:K≤K'):Piv W0 W e blk off n d g K':=by
 obtain ⟨a,b,⟨s,c1,c2,c3⟩,f⟩:=h
 exact ⟨a,b,⟨s,c1,c2,by omega⟩,f⟩
theorem Piv.drewN {W0 W:World} {e:TypeId} {blk off n g:Nat} {d:Array Int} {K:Int} (h:Piv W0 W e blk off n d g K) (q:Nat):Piv W0 (W.drewN q) e blk off n d g K:=⟨h.arr.drewN q,h.far,h.cnt,h.free⟩
theorem Arr.away {W0 W:World} {e:TypeId} {blk off n g o:Nat} {d:Array Int} (h:Arr W0 W e blk off n d) (hg:W0.heap.size≤g) (v:Value):Arr W0 (W.setCell ⟨g,o,none⟩ v) e blk off n d:=by
 have hl:=h.lt
 obtain ⟨a,b,c,s,ot,⟨cur0,cur,r1,r2,r⟩,z⟩:=h
 exact ⟨a,b,c,by simpa [World.setCell] using s,fun k hk hne=>(Below.heap_setCell _ _ _ k (by show k≠g;omega)).trans (ot k hk hne),⟨cur0,cur,r1,(Below.heap_setCell _ _ _ blk (by show blk≠g;omega)).trans r2,r⟩,z⟩
theorem inc_cell {W:World} {g:Nat} {v:Value} (hc:W.cell? ⟨g,0,none⟩=some v) (u:Value):(W.setCell ⟨g,0,none⟩ u).cell? ⟨g,0,none⟩=some u:=by
 obtain ⟨c,e,fr,h1,h2⟩:=cells_of_cell? hc
 have h3:(W.setCell ⟨g,0,none⟩ u).heap[g]? =some (.cells (c.setIfInBounds 0 u) e fr):=by simp [World.setCell,Array.getElem?_modify,h1]
 have hl:=(Array.getElem?_eq_some_iff.1 h2).1
 rw [cell_of_row _ g 0 _ e fr h3,Array.getElem?_setIfInBounds,if_pos rfl,if_pos hl]
theorem Piv.inc {W0 W:World} {e:TypeId} {blk off n g:Nat} {d:Array Int} {K s:Int} (h:Piv W0 W e blk off n d g K) (hc:W.cell? ⟨g,0,none⟩=some (.int .i64 s)):Piv W0 (W.setCell ⟨g,0,none⟩ (.int .i64 (s+1))) e blk off n d g (K+1):=by
 obtain ⟨s',c1,c2,c3⟩:=h.cnt
 rw [hc] at c1
 injection c1 with c1
 injection c1 with _ c1
 subst c1
 have hf:=h.free
 refine ⟨h.arr.away h.far _,h.far,⟨s+1, ?_,by omega,by omega⟩, ?_⟩
 ·exact inc_cell hc _
 ·simpa using hf
set_option maxRecDepth 100000 in
set_option maxHeartbeats 2000000 in
theorem order2_ok (W0 w:World) (e:TypeId) (blk off n cap g a b:Nat) (K:Int) (d:Array Int) (hA:Piv W0 w e blk off n d g K) (ha:a <n) (hb:b <n) (_hn:n≤4194304) (hK:K≤1000):
  Calls Tryz.prog 186 #[.slice (some ⟨blk,off,none⟩) n cap, .int .i64 a, .int .i64 b, .pointer (some ⟨g,0,none⟩)] w fun r w'=> ∃x y:Nat,r= .returned (.tuple #[.int .i64 x, .int .i64 y])∧((x=a∧y=b)∨(x=b∧y=a))∧Piv W0 w' e blk off n d g (K+1):=by
 obtain ⟨G,hG,hcw,hfw⟩:=hA.arr.fam
 have HG:=Lib.hid hG
 clear hG
 have H0:=Lib.hid hA
 clear hA
 go_enter Tryz.func186,Tryz.ntmps186
 go_wp2
 go_quiet (first |(go_at_call 142;refine Calls.quiet_of_same (less_ok _ _ _)))
 have hq:=H0.out.drewN nq
 generalize World.drewN w nq=wq at hq ⊢
 obtain ⟨s,hc,hs0,hs1⟩:=hq.cnt
 have hfr:=hq.free
 go_wp2
 ·go_returns
  exact ⟨b,a,rfl,Or.inr ⟨rfl,rfl⟩,hq.inc hc⟩
 ·go_returns
  exact ⟨a,b,rfl,Or.inl ⟨rfl,rfl⟩,hq.more (by omega)⟩
set_option maxRecDepth 100000 in
set_option maxHeartbeats 2000000 in
theorem median_ok (W0 w:World) (e:TypeId) (blk off n cap g a b c:Nat) (K:Int) (d:Array Int) (hA:Piv W0 w e blk off n d g K) (ha:a <n) (hb:b <n) (hc:c <n) (hn:n≤4194304) (hK:K≤900):
  Calls Tryz.prog 174 #[.slice (some ⟨blk,off,none⟩) n cap, .int .i64 a, .int .i64 b, .int .i64 c, .pointer (some ⟨g,0,none⟩)] w fun r w'=> ∃x:Nat,r= .returned (.int .i64 x)∧(x=a∨x=b∨x=c)∧Piv W0 w' e blk off n d g (K+3):=by
 have H0:=Lib.hid hA
 clear hA
 go_enter Tryz.func174,Tryz.ntmps174
 go_wp2_with fail
 refine (order2_ok W0 w e blk off n cap g a b K d H0.out ha hb hn (by omega)).mono ?_
 rintro r w1 ⟨x1,y1,rfl,h1,hP1⟩
 have HP1:=Lib.hid hP1
 clear hP1
 have b1:x1 <n:=by omega
 have b2:y1 <n:=by omega
 go_wp2_with fail
 refine (order2_ok W0 w1 e blk off n cap g y1 c (K+1) d HP1.out b2 hc hn (by omega)).mono ?_
 rintro r w2 ⟨x2,y2,rfl,h2,hP2⟩
 have HP2:=Lib.hid hP2
 clear hP2
 have b3:x2 <n:=by omega
 go_wp2_with fail
 refine (order2_ok W0 w2 e blk off n cap g x1 x2 (K+1+1) d HP2.out b1 b3 hn (by omega)).mono ?_
 rintro r w3 ⟨x3,y3,rfl,h3,hP3⟩
 have HP3:=Lib.hid hP3
 clear hP3
 go_wp2
 go_returns
 exact ⟨y3,rfl,by omega,HP3.out.more (by omega)⟩
set_option maxRecDepth 100000 in
set_option maxHeartbeats 2000000 in
theorem medianAdj_ok (W0 w:World) (e:TypeId) (blk off n cap g a:Nat) (K:Int) (d:Array Int) (hA:Piv W0 w e blk off n d g K) (ha0:0 <a) (ha:a+1 <n) (hn:n≤4194304) (hK:K≤900):
  Calls Tryz.prog 173 #[.slice (some ⟨blk,off,none⟩) n cap, .int .i64 a, .pointer (some ⟨g,0,none⟩)] w fun r w'=> ∃x:Nat,r= .returned (.int .i64 x)∧a≤x+1∧x≤a+1∧Piv W0 w' e blk off n d g (K+3):=by
 have H0:=Lib.hid hA
 clear hA
 obtain ⟨m,rfl⟩: ∃m,a=m+1:=⟨a -1,by omega⟩
 go_enter Tryz.func173,Tryz.ntmps173
 go_wp2_with fail
 refine (median_ok W0 w e blk off n cap g m (m+1) (m+1+1) K d H0.out (by omega) (by omega) (by omega) hn hK).mono ?_
 rintro r w1 ⟨x,rfl,hx,hP⟩
 have HP:=Lib.hid hP
 clear hP
 go_wp2
 go_returns
 exact ⟨x,rfl,by omega,by omega,HP.out⟩
end Go.Proofs.YteelncofiodflaaGreat
namespace Go.Proofs.YteelncofiodflaaGreat
open Go.RowKit Go.Sort
set_option maxRecDepth 100000 in
set_option maxHeartbeats 4000000 in
theorem choose_ok (W0 w:World) (e:TypeId) (blk off n cap a b:Nat) (d:Array Int) (hA:Arr W0 w e blk off n d) (hab:a+8≤b) (hb:b≤n) (hn:n≤4194304):
  Calls Tryz.prog 139 #[.slice (some ⟨blk,off,none⟩) n cap, .int .i64 a, .int .i64 b] w fun r w'=> ∃(p:Nat) (h:Int),r= .returned (.tuple #[.int .i64 p, .int .i64 h])∧a≤p∧p <b∧(h=0∨h=1∨h=2)∧Arr W0 w' e blk off n d:=by
 obtain ⟨l,hl⟩: ∃l,b=a+l:=⟨b -a,by omega⟩
 have hsub:(b:Int) -(a:Int)=(l:Int):=by omega
 obtain ⟨q,hq⟩: ∃q,q=l/4:=⟨_,rfl⟩
 have hdiv:(l:Int).tdiv 4=(q:Int):=by rw [Int.tdiv_eq_ediv_of_nonneg (by omega)];omega
 have hl8:8≤l:=by omega
 have hl8i:(8:Int)≤(l:Int):=by omega
 have hq1:a+q*3+1 <b:=by omega
 have hq2:50≤l→12≤q:=by omega
 have h0:Piv W0 (w.alloc (.cells #[.int .i64 0] 3)) e blk off n d w.heap.size 0:=⟨hA.alloc _,hA.size,⟨0,by simp,by omega,by omega⟩,by simp⟩
 have H0:=Lib.hid h0
 have HL:=Lib.hid hl
 clear hA h0 hl hq
 go_enter Tryz.func139,Tryz.ntmps139
 by_cases h50:50≤l
 ·have h50i:(50:Int)≤(l:Int):=by omega
  have hq3:=hq2 h50
  have hq4:a+q*3+1 <n:=by have:=HL.out;omega
  go_wp2_with fail
  refine (medianAdj_ok W0 _ e blk off n cap w.heap.size (a+q) 0 d H0.out (by omega) (by omega) hn (by omega)).mono ?_
  rintro r w1 ⟨i1,rfl,i1a,i1b,hP⟩
  have HP:=Lib.hid hP
  clear hP
  go_wp2_with fail
  refine (medianAdj_ok W0 w1 e blk off n cap w.heap.size (a+q*2) (0+3) d HP.out (by omega) (by omega) hn (by omega)).mono ?_
  rintro r w2 ⟨i2,rfl,i2a,i2b,hP⟩
  have HP:=Lib.hid hP
  clear hP
  go_wp2_with fail
  refine (medianAdj_ok W0 w2 e blk off n cap w.heap.size (a+q*3) (0+3+3) d HP.out (by omega) (by omega) hn (by omega)).mono ?_
  rintro r w3 ⟨i3,rfl,i3a,i3b,hP⟩
  have HP:=Lib.hid hP
  clear hP
  go_wp2_with fail
  refine (median_ok W0 w3 e blk off n cap w.heap.size i1 i2 i3 (0+3+3+3) d HP.out (by omega) (by omega) (by omega) hn (by omega)).mono ?_
  rintro r w4 ⟨x,rfl,hx,hP⟩
  have HP:=Lib.hid hP
  have hxa:a≤x∧x <b:=by have:=HL.out;omega
  clear hP hx
  obtain ⟨s,hc,hs0,hs1⟩:=HP.out.cnt
  have hfr:=HP.out.free
  by_cases z0:s=0
  ·subst z0
   go_wp2
   go_returns
   exact ⟨x,1,rfl,by omega,by omega,by omega,HP.out.arr⟩
  ·have z0b:(s==0)=false:=beq_eq_false_iff_ne.2 z0
   by_cases z1:s=12
   ·subst z1
    go_wp2
    go_returns
    exact ⟨x,2,rfl,by omega,by omega,by omega,HP.out.arr⟩
   ·have z1b:(s==12)=false:=beq_eq_false_iff_ne.2 z1
    go_wp2
    go_returns
    exact ⟨x,0,rfl,by omega,by omega,by omega,HP.out.arr⟩
 ·have h50i:decide ((50:Int)≤(l:Int))=false:=decide_eq_false (by omega)
  go_wp2_with fail
  refine (median_ok W0 _ e blk off n cap w.heap.size (a+q) (a+q*2) (a+q*3) 0 d H0.out (by omega) (by omega) (by omega) hn (by omega)).mono ?_
  rintro r w4 ⟨x,rfl,hx,hP⟩
  have HP:=Lib.hid hP
  have hxa:a≤x∧x <b:=by omega
  clear hP hx
  obtain ⟨s,hc,hs0,hs1⟩:=HP.out.cnt
  have hfr:=HP.out.free
  by_cases z0:s=0
  ·subst z0
   go_wp2
   go_returns
   exact ⟨x,1,rfl,by omega,by omega,by omega,HP.out.arr⟩
  ·have z0b:(s==0)=false:=beq_eq_false_iff_ne.2 z0
   by_cases z1:s=12
   ·subst z1
    go_wp2
    go_returns
    exact ⟨x,2,rfl,by omega,by omega,by omega,HP.out.arr⟩
   ·have z1b:(s==12)=false:=beq_eq_false_iff_ne.2 z1
    go_wp2
    go_returns
    exact ⟨x,0,rfl,by omega,by omega,by omega,HP.out.arr⟩
end Go.Proofs.YteelncofiodflaaGreat
