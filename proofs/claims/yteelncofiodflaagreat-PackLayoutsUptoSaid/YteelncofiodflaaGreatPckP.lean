/-
  The bytes of an image as plain functions of a configuration. It speaks of no program.
-/
import Derived.Test.YteelncofiodflaaGreatCrcP
import Derived.Test.YteelncofiodflaaGreatConA
import Derived.Test.YteelncofiodflaaGreatNrmP
namespace Go.Proofs.YteelncofiodflaaGreat
open Go.RowKit
def leB (x:Nat):Nat→List Nat
 |0=> []
 |n+1=>x%256::leB (x/256) n
theorem leB_len: ∀(n x:Nat),(leB x n).length=n
 |0,_=>rfl
 |n+1,x=>by show (leB (x/256) n).length+1=n+1;rw [leB_len n]
theorem leB_byte: ∀(n x:Nat), ∀c ∈ leB x n,c <256
 |0,_,c,h=>by cases h
 |n+1,x,c,h=>by
  rcases List.mem_cons.1 h with rfl |h
  ·omega
  ·exact leB_byte n _ c h
theorem leB_at: ∀(n x k:Nat),k <n→(leB x n)[k]? =some (x/2^(8*k)%256)
 |0,_,_,h=>absurd h (by omega)
 |n+1,x,0,_=>by simp [leB]
 |n+1,x,k+1,h=>by
  show (leB (x/256) n)[k]? =_
  rw [leB_at n (x/256) k (by omega),show 8*(k+1)=8+8*k by omega,Nat.pow_add,Nat.div_div_eq_div_mul]
theorem leB_take {n x k:Nat} (h:k <n):(leB x n).take (k+1)=(leB x n).take k++ [x/2^(8*k)%256]:=by
 have:=leB_at n x k h
 rw [List.take_add_one,this];rfl
def zsB (n:Nat):List Nat:=List.replicate n 0
theorem zsB_len (n:Nat):(zsB n).length=n:=List.length_replicate
theorem zsB_byte (n:Nat): ∀c ∈ zsB n,c <256:=fun c h=>by have:=List.eq_of_mem_replicate h;omega
def strB (s:ByteArray):List Nat:=s.data.toList.map UInt8.toNat
theorem strB_len (s:ByteArray):(strB s).length=s.size:=by unfold strB;rw [List.length_map];rfl
theorem strB_byte (s:ByteArray): ∀c ∈ strB s,c <256:=fun c h=>by
 obtain ⟨u,_,rfl⟩:=List.mem_map.1 h
 exact u.toNat_lt
def padB (s:ByteArray):List Nat:=if nameOk s then strB s++zsB (30 -s.size) else zsB 30
def bitN (b:Bool):Nat:=if b then 1 else 0
def parB (p:Par):List Nat:=leB p.id.toNat 2++leB p.name.size 1++zsB 1++padB p.name++zsB 6++leB p.period.toNat 8++leB p.duration.toNat 8
def winB (x:Win):List Nat:=leB x.start.toNat 8++leB x.len.toNat 8++leB x.part.toNat 2++zsB 6
def regB (r:Reg):List Nat:=leB r.base.toNat 8++leB r.size.toNat 8++leB r.part.toNat 2++leB r.rights.toNat 1++leB (bitN r.shared) 1++zsB 4
def prtB (p:Prt):List Nat:=leB p.id.toNat 2++leB p.part.toNat 2++leB p.name.size 1++leB (bitN p.output+2*bitN p.queuing) 1++zsB 2++leB p.size.toNat 4++padB p.name++zsB 6
def hdB (x:Chn):List Nat:=leB x.id.toNat 2++leB x.source.toNat 2++leB (x.dests.length%65536) 2++zsB 2
def lkB (x:Int × Int):List Nat:=leB x.1.toNat 2++leB x.2.toNat 2++zsB 4
def lksOf (l:List Chn):List (Int × Int):=l.flatMap fun x=>x.dests.map fun d=>(x.id,d)
def secSz:Nat→Nat
 |1=>56
 |2=>24
 |3=>24
 |4=>48
 |5=>8
 |6=>8
 |_=>0
def alnN (n:Nat):Nat:=(n+15)/16*16
def offT (n:Nat→Nat):Nat→Nat
 |0=>80
 |k+1=>alnN (offT n k+n (k+1)*secSz (k+1))
def hdrB (frame:Int) (n:Nat→Nat):List Nat:=
 [70,78,83,84]++leB 1 2++leB 80 2++leB (offT n 6+4) 4++leB 0 4++leB frame.toNat 8++leB 0 8++(leB (offT n 0) 4++leB (n 1) 4++leB (offT n 1) 4++leB (n 2) 4++leB (offT n 2) 4++leB (n 3) 4++leB (offT n 3) 4++leB (n 4) 4++leB (offT n 4) 4++leB (n 5) 4++leB (offT n 5) 4++leB (n 6) 4)
def algB (l:List Nat):List Nat:=l++zsB ((16 -l.length%16)%16)
theorem algB_len (l:List Nat):(algB l).length=alnN l.length:=by
 unfold algB alnN
 rw [List.length_append,zsB_len]
 omega
def secB (c:Cfg):Nat→List Nat
 |1=>c.parts.flatMap parB
 |2=>c.wins.flatMap winB
 |3=>c.regs.flatMap regB
 |4=>c.ports.flatMap prtB
 |5=>c.chans.flatMap hdB
 |6=>(lksOf c.chans).flatMap lkB
 |_=> []
def bodyB (c:Cfg):Nat→List Nat
 |0=>hdrB c.frame (cntOf c)
 |k+1=>algB (bodyB c k++secB c (k+1))
def imgB (c:Cfg):List Nat:=sealN (bodyB c 6)
theorem hdrB_len (f:Int) (n:Nat→Nat):(hdrB f n).length=80:=by simp [hdrB,leB_len]
theorem padB_len (s:ByteArray):(padB s).length=30:=by
 unfold padB
 split
 ·rename_i h
  rw [List.length_append,strB_len,zsB_len]
  have:s.size≤30:=by
   unfold nameOk at h
   simp only [Bool.and_eq_true,decide_eq_true_eq] at h
   omega
  omega
 ·exact zsB_len _
theorem flat_lenN {α:Type} (f:α→List Nat) (sz:Nat) (hf: ∀x,(f x).length=sz): ∀l:List α,(l.flatMap f).length=l.length*sz
 | []=>by simp
 |x::r=>by rw [List.flatMap_cons,List.length_append,hf,flat_lenN f sz hf r,List.length_cons,Nat.succ_mul];omega
theorem parB_len (p:Par):(parB p).length=56:=by simp [parB,leB_len,zsB_len,padB_len]
theorem winB_len (p:Win):(winB p).length=24:=by simp [winB,leB_len,zsB_len]
theorem regB_len (p:Reg):(regB p).length=24:=by simp [regB,leB_len,zsB_len]
theorem prtB_len (p:Prt):(prtB p).length=48:=by simp [prtB,leB_len,zsB_len,padB_len]
theorem hdB_len (p:Chn):(hdB p).length=8:=by simp [hdB,leB_len,zsB_len]
theorem lkB_len (p:Int × Int):(lkB p).length=8:=by simp [lkB,leB_len,zsB_len]
theorem lksOf_len: ∀l:List Chn,(lksOf l).length=sumDests l
 | []=>rfl
 |x::r=>by
  have:=lksOf_len r
  unfold lksOf sumDests at*
  rw [List.flatMap_cons,List.length_append,List.length_map,this,List.map_cons,List.sum_cons]
theorem secB_len (c:Cfg): ∀k,(secB c k).length=cntOf c k*secSz k
 |0=>rfl
 |1=>flat_lenN _ _ parB_len _
 |2=>flat_lenN _ _ winB_len _
 |3=>flat_lenN _ _ regB_len _
 |4=>flat_lenN _ _ prtB_len _
 |5=>flat_lenN _ _ hdB_len _
 |6=>by show ((lksOf c.chans).flatMap lkB).length=sumDests c.chans*8;rw [flat_lenN _ _ lkB_len,lksOf_len]
 |_+7=>by simp [secB,secSz]
theorem bodyB_len (c:Cfg): ∀k,(bodyB c k).length=offT (cntOf c) k
 |0=>hdrB_len _ _
 |k+1=>by
  show (algB (bodyB c k++secB c (k+1))).length=alnN (offT (cntOf c) k+cntOf c (k+1)*secSz (k+1))
  rw [algB_len,List.length_append,bodyB_len c k,secB_len]
theorem leN_len (s:Nat):(leN s).length=4:=rfl
theorem imgB_len (c:Cfg):(imgB c).length=offT (cntOf c) 6+4:=by
 unfold imgB sealN
 rw [List.length_append,bodyB_len,leN_len]
theorem alnN_le (n:Nat):n≤alnN n∧alnN n≤n+15:=by unfold alnN;omega
def bytesOk (l:List Nat):Prop:= ∀c ∈ l,c <256
theorem bytesOk.app {l m:List Nat} (h:bytesOk l) (k:bytesOk m):bytesOk (l++m):=fun c hc=>by
 rcases List.mem_append.1 hc with hc |hc
 ·exact h c hc
 ·exact k c hc
theorem bytesOk.flat {α:Type} {f:α→List Nat} (h: ∀x,bytesOk (f x)) (l:List α):bytesOk (l.flatMap f):=fun c hc=>by
 obtain ⟨x,_,hx⟩:=List.mem_flatMap.1 hc
 exact h x c hx
theorem padB_byte (s:ByteArray):bytesOk (padB s):=by
 unfold padB
 split
 ·exact bytesOk.app (strB_byte s) (zsB_byte _)
 ·exact zsB_byte _
theorem hdrB_byte (f:Int) (n:Nat→Nat):bytesOk (hdrB f n):=by
 have h0:bytesOk [70,78,83,84]:=by intro c hc;simp at hc;omega
 unfold hdrB
 repeat (first |exact h0 |exact leB_byte _ _ |refine bytesOk.app ?_ ?_)
theorem secB_byte (c:Cfg) (k:Nat):bytesOk (secB c k):=by
 unfold secB
 split
 ·refine bytesOk.flat (fun p=> ?_) _;unfold parB;repeat (first |exact leB_byte _ _ |exact zsB_byte _ |exact padB_byte _ |refine bytesOk.app ?_ ?_)
 ·refine bytesOk.flat (fun p=> ?_) _;unfold winB;repeat (first |exact leB_byte _ _ |exact zsB_byte _ |refine bytesOk.app ?_ ?_)
 ·refine bytesOk.flat (fun p=> ?_) _;unfold regB;repeat (first |exact leB_byte _ _ |exact zsB_byte _ |refine bytesOk.app ?_ ?_)
 ·refine bytesOk.flat (fun p=> ?_) _;unfold prtB;repeat (first |exact leB_byte _ _ |exact zsB_byte _ |exact padB_byte _ |refine bytesOk.app ?_ ?_)
 ·refine bytesOk.flat (fun p=> ?_) _;unfold hdB;repeat (first |exact leB_byte _ _ |exact zsB_byte _ |refine bytesOk.app ?_ ?_)
 ·refine bytesOk.flat (fun p=> ?_) _;unfold lkB;repeat (first |exact leB_byte _ _ |exact zsB_byte _ |refine bytesOk.app ?_ ?_)
 ·intro c hc;cases hc
theorem bodyB_byte (c:Cfg): ∀k,bytesOk (bodyB c k)
 |0=>hdrB_byte _ _
 |k+1=>bytesOk.app (bytesOk.app (bodyB_byte c k) (secB_byte c _)) (zsB_byte _)
def hitB {α:Type} (key:α→List Int) (l:List α):Nat→Bool
 |0=>false
 |j+1=>match l[j+1]?,l[j]? with
  |some x,some y=>decide (key x=key y)
  |_,_=>false
theorem hit_at {α:Type} {key:α→List Int} {l:List α} {j:Nat} {x y:α} (hx:l[j+1]? =some x) (hy:l[j]? =some y):hitB key l (j+1)=decide (key x=key y):=by
 show (match l[j+1]?,l[j]? with
  |some x,some y=>decide (key x=key y)
  |_,_=>false)=_
 rw [hx,hy]
def adjI {α:Type} (key:α→List Int) (l:List α):Int:=match (List.range l.length).find? (hitB key l) with |some i=>(i:Int) |none=> -1
theorem adj_hit {α:Type} {key:α→List Int} {l:List α} {k:Nat} (hk:k <l.length) (h:hitB key l k=true) (hn: ∀j,j <k→hitB key l j=false):adjI key l=(k:Int):=by
 have:(List.range l.length).find? (hitB key l)=some k:=by
  rw [List.find?_range_eq_some]
  exact ⟨h,List.mem_range.2 hk,fun j hj=>by rw [hn j hj];rfl⟩
 unfold adjI
 rw [this]
theorem adj_none {α:Type} {key:α→List Int} {l:List α} (hn: ∀j,j <l.length→hitB key l j=false):adjI key l= -1:=by
 have:(List.range l.length).find? (hitB key l)=none:=by
  rw [List.find?_eq_none]
  intro j hj
  rw [hn j (List.mem_range.1 hj)]
  simp
 unfold adjI
 rw [this]
theorem adj_cases {α:Type} (key:α→List Int) (l:List α):(adjI key l= -1∧ ∀j,j <l.length→hitB key l j=false)∨ ∃k,1≤k∧k <l.length∧adjI key l=(k:Int)∧hitB key l k=true:=by
 rcases h:(List.range l.length).find? (hitB key l) with _ |k
 ·left
  refine ⟨by unfold adjI;rw [h],fun j hj=> ?_⟩
  have:=List.find?_eq_none.1 h j (List.mem_range.2 hj)
  simpa using this
 ·right
  have hh:=List.find?_some h
  refine ⟨k, ?_,List.mem_range.1 (List.mem_of_find?_eq_some h),by unfold adjI;rw [h],hh⟩
  rcases k with _ |k
  ·cases hh
  ·omega
def lnkTwc:List Chn→Nat→Int
 | [],_=> -1
 |x::r,k=>if 0≤adjI (fun d=> [d]) x.dests then (k:Int)+adjI (fun d=> [d]) x.dests else lnkTwc r (k+x.dests.length)
def firstTwc (n:Cfg):Flt:=
 if 0 <adjI keyPar n.parts then ⟨18,1,adjI keyPar n.parts⟩
 else if 0 <adjI keyWin n.wins then ⟨18,2,adjI keyWin n.wins⟩
 else if 0 <adjI keyReg n.regs then ⟨18,3,adjI keyReg n.regs⟩
 else if 0 <adjI keyPrt n.ports then ⟨18,4,adjI keyPrt n.ports⟩
 else if 0 <adjI keyChn n.chans then ⟨18,5,adjI keyChn n.chans⟩
 else if 0≤lnkTwc n.chans 0 then ⟨18,6,lnkTwc n.chans 0⟩ else noFlt
def twcF (c:Cfg):Flt:=firstTwc c.norm
def limF (c:Cfg):Flt:=⟨(chkBad c).1,(chkBad c).2.1,(chkBad c).2.2⟩
def packF (c:Cfg):Flt:=if (limF c).code=0 then twcF c else limF c
def packB (c:Cfg):List Nat:=if (packF c).code=0 then imgB c.norm else []
theorem lim_zero (c:Cfg):(limF c).code=0→limF c=noFlt:=by
 unfold limF chkBad
 split
 ·intro h
  exact absurd h (show ¬(7:Int)=0 by decide)
 ·unfold nameBads
  intro h
  split at h
  ·exact absurd h (show ¬(6:Int)=0 by decide)
  ·rename_i h1
   split at h
   ·exact absurd h (show ¬(6:Int)=0 by decide)
   ·rename_i h2
    split at h
    ·exact absurd h (show ¬(15:Int)=0 by decide)
    ·rename_i h3
     rw [if_neg h1,if_neg h2,if_neg h3]
     rfl
theorem twc_zero (n:Cfg):(firstTwc n).code=0→firstTwc n=noFlt:=by
 unfold firstTwc
 by_cases h0:0 <adjI keyPar n.parts
 ·rw [if_pos h0];intro h;exact absurd h (show ¬(18:Int)=0 by decide)
 rw [if_neg h0]
 by_cases h1:0 <adjI keyWin n.wins
 ·rw [if_pos h1];intro h;exact absurd h (show ¬(18:Int)=0 by decide)
 rw [if_neg h1]
 by_cases h2:0 <adjI keyReg n.regs
 ·rw [if_pos h2];intro h;exact absurd h (show ¬(18:Int)=0 by decide)
 rw [if_neg h2]
 by_cases h3:0 <adjI keyPrt n.ports
 ·rw [if_pos h3];intro h;exact absurd h (show ¬(18:Int)=0 by decide)
 rw [if_neg h3]
 by_cases h4:0 <adjI keyChn n.chans
 ·rw [if_pos h4];intro h;exact absurd h (show ¬(18:Int)=0 by decide)
 rw [if_neg h4]
 by_cases h5:0≤lnkTwc n.chans 0
 ·rw [if_pos h5];intro h;exact absurd h (show ¬(18:Int)=0 by decide)
 rw [if_neg h5]
 exact fun _=>rfl
theorem packF_zero (c:Cfg) (h:(packF c).code=0):packF c=noFlt∧limF c=noFlt∧twcF c=noFlt:=by
 unfold packF at*
 split at h
 ·rename_i h1
  rw [if_pos h1]
  exact ⟨twc_zero _ h,lim_zero c h1,twc_zero _ h⟩
 ·rename_i h1
  exact absurd h h1
end Go.Proofs.YteelncofiodflaaGreat
