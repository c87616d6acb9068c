/-
  The sections of an image's table, as the iterator of package table yields them, walked.
-/
import Derived.RangeFuncMany
import Derived.RangeFuncOne
import Derived.RangeFuncLeaves
import Derived.RangeFuncCalls
import Derived.Test.YteelncofiodflaaGreatSeqJ
import Derived.Test.YteelncofiodflaaGreatPckS
import Derived.BigQuiet
import Derived.Laws.BitsAllLaws
import Derived.Test.YteelncofiodflaaGreatPckP
import Derived.Test.YteelncofiodflaaGreatCore
import Derived.RangeFuncFrom
import Derived.RegionIn
import Derived.Stop.RegionWithIn
import Derived.Lib.SmallJoins
import Derived.Sort.CutIn
namespace Go.Proofs.YteelncofiodflaaGreat
open Go.RowKit Go.Maps Go.Shelf
def secs:List (Fin 6):= [0,1,2,3,4,5]
def secL (k:Nat):List (Fin 6):=secs.take k
theorem secs_at: ∀k:Fin 6,secs[k.1]? =some k:=by decide
theorem secL_next (k:Nat) (hk:k <6):secL k++ [⟨k,hk⟩]=secL (k+1):=by
 unfold secL
 rw [take_next (secs_at ⟨k,hk⟩)]
theorem secL_len {k:Nat} (hk:k≤6):(secL k).length=k:=by
 unfold secL
 rw [List.length_take]
 show min k 6=k
 omega
theorem secL_six:secL 6=secs:=rfl
@[reducible] def secE (x:Fin 6):Array Value:= #[.int .i64 ((x.1:Int)+1), .int .i64 (32+8*(x.1:Int))]
set_option maxRecDepth 100000 in
set_option maxHeartbeats 2000000 in
theorem sections_stops (F:Fence) (n:Nat) (h10:F.fn 95) (hro:F.round=none) (hn:1≤n) (w:World):
  SeqStopsA F n Tryz.prog 95 #[] secE (fun xs=>xs=secs) (fun _=>True) 6 w:=fun l J Jx W hW hJ hJx hY h0=>by
 refine callsIn_of_wp Tryz.func95 rfl h10 ?_ hro
 simp only [Tryz.ntmps95,List.size_toArray,List.length_cons,List.length_nil,Nat.reduceAdd,Nat.reduceSub,Array.replicate_succ,Array.replicate_zero,List.push_toArray,List.append_toArray,List.nil_append,List.cons_append]
 gi_wp2
 gi_loopw [2] (fun i wr=> ∃k:Nat,k≤6∧i= .int .i64 ((k:Int)+1)∧J (secL k) wr) (fun i _=>7 -(intOf i).toNat)
 case atStart=>exact ⟨0,Nat.zero_le _,rfl,by simpa [secL] using h0⟩
 case round=>
  obtain ⟨k,hk,rfl,hJs⟩:=hrel
  by_cases hlt:k <6
  ·have hle:(k:Int)+1≤6:=by omega
   have e1:IntKind.i64.wrap ((k:Int)+1 -1)=(k:Int):=by rw [IntKind.wrap_i64];omega
   have e2:IntKind.i64.wrap (8*(k:Int))=8*(k:Int):=by rw [IntKind.wrap_i64];omega
   have e3:IntKind.i64.wrap (32+8*(k:Int))=32+8*(k:Int):=by rw [IntKind.wrap_i64];omega
   have e4:IntKind.i64.wrap ((k:Int)+1+1)=((k+1:Nat):Int)+1:=by rw [IntKind.wrap_i64];omega
   obtain ⟨fn,tmps,assign,body,hy,hRd⟩:=hY (secL k) ⟨k,hlt⟩ _ hJs (by rw [secL_len hk];exact hlt)
   have HS:=Lib.hid (secL_next k hlt)
   gi_wp2
   refine hRd.mono ?_
   rintro e W3 (⟨rfl,hJ3,_⟩ |⟨rfl,hJ3⟩)
   ·rw [HS.out] at hJ3
    gi_wp2
    go_roundw
    case rel=>exact ⟨k+1,by omega,by first |rfl |go_num |simp,hJ3⟩
    case measure=>simp [intOf];omega
   ·rw [HS.out] at hJ3
    gi_wp2
    (try simp only [Exit.inBlock,Exit.then])
    refine bodyPost_ret (v:= .tuple #[]) (results_none rfl _ _ _) rfl ?_
    exact ⟨⟨_,rfl⟩, .inr ⟨secL (k+1),trivial,hJ3⟩⟩
  ·obtain rfl:k=6:=by omega
   gi_wp2
   go_end0
   exact ⟨⟨_,rfl⟩, .inl ⟨secL 6,secL_six,hJs⟩⟩
end Go.Proofs.YteelncofiodflaaGreat
namespace Go.Proofs.YteelncofiodflaaGreat
open Go.RowKit
attribute [local go_sem] ext_cell
theorem mask16 (a:Nat) (ha:a <18446744073709551616):a&&&18446744073709551600=a/16*16:=by
 apply Nat.eq_of_testBit_eq
 intro i
 rw [Nat.testBit_and,show a/16*16=a/2^4*2^4 by omega,Nat.testBit_mul_two_pow,Nat.testBit_div_two_pow,show (18446744073709551600:Nat)=(2^60 -1)*2^4 by decide,Nat.testBit_mul_two_pow,Nat.testBit_two_pow_sub_one]
 by_cases h4:4≤i
 ·have e:i -4+4=i:=by omega
  by_cases h64:i <64
  ·simp [h4,e,show i -4 <60 by omega]
  ·have:a.testBit i=false:=Nat.testBit_lt_two_pow (Nat.lt_of_lt_of_le ha (show 18446744073709551616≤2^i from Nat.pow_le_pow_right (n:=2) (by decide) (show 64≤i by omega)))
   simp [e,this]
 ·simp [h4]
theorem andNot15 (a:Nat) (ha:a <4611686018427387904):bits .andNot .i64 (a:Int) 15=((a/16*16:Nat):Int):=by
 have h1:(BitVec.ofInt 64 (a:Int)).toNat=a:=by simp;omega
 have h2:(BitVec.ofInt 64 (a:Int)&&& ~~~(BitVec.ofInt 64 15)).toNat=a/16*16:=by
  rw [BitVec.toNat_and,h1,show (~~~(BitVec.ofInt 64 15)).toNat=18446744073709551600 by decide,mask16 a (by omega)]
 show IntKind.i64.wrap (((BitVec.ofInt 64 (a:Int)&&& ~~~(BitVec.ofInt 64 15)).toNat:Nat):Int)=_
 rw [h2,IntKind.wrap_i64]
 omega
theorem tabAlign_ok (n:Nat) (hn:n≤4611686018427387000) (w:World):Calls Tryz.prog 37 #[.int .i64 n] w fun e w'=>e= .returned (.int .i64 (alnN n:Nat))∧w'=w:=by
 have e1:IntKind.i64.wrap ((n:Int)+16)=(n:Int)+16:=by rw [IntKind.wrap_i64];omega
 have e2:IntKind.i64.wrap ((n:Int)+16 -1)=((n+15:Nat):Int):=by rw [IntKind.wrap_i64];omega
 have e3:=andNot15 (n+15) (by omega)
 have HA:=Lib.hid (show alnN n=(n+15)/16*16 from rfl)
 generalize (n+15)/16*16=q at*
 generalize n+15=m at*
 go_enter Tryz.func37,Tryz.ntmps37
 go_wp2
 go_ret
 exact ⟨by rw [HA.out];rfl,rfl⟩
theorem recSize_ok (s:Nat) (h1:1≤s) (h6:s≤6) (si:Int) (hs:si=(s:Int)) (w:World):Calls Tryz.prog 96 #[.int .i64 si] w fun e w'=>e= .returned (.int .i64 (secSz s:Nat))∧w'=w:=by
 subst hs
 obtain rfl |rfl |rfl |rfl |rfl |rfl:s=1∨s=2∨s=3∨s=4∨s=5∨s=6:=by omega
 all_goals
  go_enter Tryz.func96,Tryz.ntmps96
  go_wp2
  go_ret
  exact ⟨rfl,rfl⟩
theorem tabLimits_ok (w:World):Calls Tryz.prog 36 #[] w fun e w'=>e= .returned (.agg #[.int .i64 0, .int .i64 64, .int .i64 1024, .int .i64 1024, .int .i64 1024, .int .i64 512, .int .i64 1024])∧Below w.heap.size w w':=by
 have hb:=Blk.new w 32 #[.int .i64 0, .int .i64 0, .int .i64 0, .int .i64 0, .int .i64 0, .int .i64 0, .int .i64 0]
 have hl:=below_one w (.cells #[.int .i64 0, .int .i64 0, .int .i64 0, .int .i64 0, .int .i64 0, .int .i64 0, .int .i64 0] 32)
 have HL:=Lib.hid hl
 obtain ⟨g,hg⟩: ∃g,w.heap.size=g:=⟨_,rfl⟩
 rw [hg] at hb
 have HG:=Lib.hid hg
 clear hg
 go_enter Tryz.func36,Tryz.ntmps36
 go_upto_region 1 with (fail)
 rw [HG.out]
 generalize World.alloc w _=w1 at hb hl HL ⊢
 have HB:=Lib.hid hb
 have c0:=hb.cell 0
 have c1:=hb.cell 1
 have c2:=hb.cell 2
 have c3:=hb.cell 3
 have c4:=hb.cell 4
 have c5:=hb.cell 5
 have c6:=hb.cell 6
 have f0:=hb.frozen
 have lz:=hb.lt
 simp at c0 c1 c2 c3 c4 c5 c6
 clear hb hl
 go_wp2
 refine bodyPost_ret (v:= .agg #[.int .i64 0, .int .i64 64, .int .i64 1024, .int .i64 1024, .int .i64 1024, .int .i64 512, .int .i64 1024]) (by simp [results,Tryz.results36,go_sem,c0,c1,c2,c3,c4,c5,c6]) rfl ⟨rfl, ?_⟩
 have h:=HL.out
 rw [HG.out] at h ⊢
 exact ((((((h.setCell (Nat.le_refl g) _).setCell (Nat.le_refl g) _).setCell (Nat.le_refl g) _).setCell (Nat.le_refl g) _).setCell (Nat.le_refl g) _).setCell (Nat.le_refl g) _).setCell (Nat.le_refl g) _
set_option maxRecDepth 100000 in
set_option maxHeartbeats 2000000 in
theorem tabEnd_ok (T:Array Value) (s:Nat) (h1:1≤s) (h6:s≤6) (si:Int) (hs:si=(s:Int)) (o c:Nat) (ho:T[2+s]? =some (.int .i64 (o:Int))) (hc:T[9+s]? =some (.int .i64 (c:Int))) (hb:o+c*secSz s≤4611686018427387000) (w:World):
  Calls Tryz.prog 38 #[.agg T, .int .i64 si] w fun e w'=>e= .returned (.int .i64 ((o+c*secSz s:Nat):Int))∧Below w.heap.size w w':=by
 have hsz:secSz s≤56:=by unfold secSz;split<;>omega
 subst hs
 have hk:=Blk.new w 34 T
 have hl:=below_one w (.cells T 34)
 have hz:w.heap.size <(w.alloc (.cells T 34)).heap.size:=by simp
 obtain ⟨g,hg⟩: ∃g,w.heap.size=g:=⟨_,rfl⟩
 obtain ⟨w1,hw1⟩: ∃w1,w.alloc (.cells T 34)=w1:=⟨_,rfl⟩
 rw [hw1] at hk hl hz
 rw [hg] at hk hz
 have HG:=Lib.hid hg
 have HL:=Lib.hid hl
 have HW:=Lib.hid hw1
 have c0:=(hk.cell (2+s)).trans ho
 have c1:=(hk.cell (9+s)).trans hc
 have s0:(0:Int)≤(s:Int):=by omega
 have s7:(s:Int) <7:=by omega
 have sw:w1.heap.size=w1.heap.size:=rfl
 have m1:IntKind.i64.wrap ((c:Int)*((secSz s:Nat):Int))=((c*secSz s:Nat):Int):=by rw [←Int.natCast_mul,IntKind.wrap_i64];omega
 have m2:IntKind.i64.wrap ((o:Int)+((c*secSz s:Nat):Int))=((o+c*secSz s:Nat):Int):=by rw [IntKind.wrap_i64];omega
 have HS:=Lib.hid (fun (U:World)=>recSize_ok s h1 h6 (s:Int) rfl U)
 clear hw1 hk hl hg ho hc sw
 generalize secSz s=z at*
 generalize hcz:c*z=cz at*
 generalize hoz:o+cz=oz at*
 clear hcz hoz hb
 go_enter Tryz.func38,Tryz.ntmps38
 go_upto_region 1 with (fail)
 rw [HW.out,HG.out]
 refine wp_region_ext (by kernel_rfl) (by kernel_rfl) ?_
 repeat (go_big_quiet_step ((go_at_call 96;exact Calls.quiet_ext ((HS.out _).mono (fun e w' h=>⟨h.1,by rw [h.2];exact Below.refl _ _⟩)))))
 refine wpQuiet_nil ?_
 intro xq
 have HZ:=Lib.hid (Below.then_ HL.out (ext_below w1 xq))
 clear c0 c1
 go_wp2
 go_ret
 exact ⟨rfl,HZ.out⟩
end Go.Proofs.YteelncofiodflaaGreat
namespace Go.Proofs.YteelncofiodflaaGreat
open Go.RowKit Go.Maps Go.Shelf
theorem semAt_in (l:Nat) (ρ:Operand→Value) (o:Oper) (h: ∀c,o.op≠ .defer c):Oper.semAt (some l) ρ o=execOp ρ o:=Oper.semAt_eq _ _ _ h
attribute [local go_sem] semAt_in
theorem Blk.kept {W W':World} {q:Nat} {t:TypeId} {cs:Array Value} {row:Option Nat} (h:Blk W q t cs) (hg:W.grownBy W' row) (hr: ∀r,row=some r→ ∃o:Obj,W.heap[r]? =some o∧o.isCells=false):Blk W' q t cs:=by
 refine (hg.block q h.lt (fun e=> ?_)).trans h
 obtain ⟨o,ho,hc⟩:=hr q e.symm
 unfold Blk at h
 rw [h] at ho
 cases ho
 cases hc
theorem BufS.kept {W W':World} {g:Nat} {l:List Nat} {row:Option Nat} (h:BufS W g l) (hg:W.grownBy W' row) (hr: ∀r,row=some r→ ∃o:Obj,W.heap[r]? =some o∧o.isCells=false):BufS W' g l:=by
 obtain ⟨v,h1,h2⟩:=h.ex
 refine ⟨v,h1.kept hg hr,h2.kept hg ?_⟩
 rcases h2.2 with ⟨rfl,_⟩ |⟨q,cap,cur,rfl,_,hh,_⟩
 ·exact .inl rfl
 ·right
  intro e
  obtain ⟨o,ho,hc⟩:=hr q (by rw [←e];rfl)
  rw [hh] at ho
  cases ho
  cases hc
theorem BKeep.kept {W0 W W':World} {g B:Nat} {row:Option Nat} (h:BKeep g W0 W) (hB:W0.heap.size≤B) (hgB:g≤B) (hgW:g≤W.heap.size) (hg:W.grownBy W' row) (hr: ∀r,row=some r→B≤r):BKeep g W0 W':=by
 refine ⟨⟨hg.os.trans h.bel.os,hg.tape.trans h.bel.tape,hg.output.trans h.bel.output,Nat.le_trans h.bel.size hg.size,fun k hk=> ?_⟩,fun k hk n1 n2=> ?_⟩
 ·exact (hg.block k (by omega) (fun e=>by have:=hr k e.symm;omega)).trans (h.bel.block k hk)
 ·have hkW:k <W.heap.size:=Nat.lt_of_lt_of_le hk h.bel.size
  exact (hg.block k hkW (fun e=>by have:=hr k e.symm;omega)).trans (h.off k hk n1 n2)
theorem BKeep.others {g:Nat} {W V:World} (h:BKeep g W V):KeepsOthers W V:=
 ⟨h.bel.size,fun k o hk hc=>(h.off k (Array.getElem?_eq_some_iff.1 hk).1 (fun cs fr e=>by rw [hk] at e;cases e;cases hc) (fun cs fr e=>by rw [hk] at e;cases e;cases hc)).trans hk⟩
def entB (n:Nat→Nat) (l:List (Fin 6)):List Nat:=l.flatMap fun x=>leB (offT n x.1) 4++leB (n (x.1+1)) 4
def hd0 (f:Int) (n:Nat→Nat):List Nat:= [70,78,83,84]++leB 1 2++leB 80 2++leB (offT n 6+4) 4++leB 0 4++leB f.toNat 8++leB 0 8
theorem hdrB_ent (f:Int) (n:Nat→Nat):hdrB f n=hd0 f n++entB n secs:=by
 have:entB n secs=leB (offT n 0) 4++leB (n 1) 4++(leB (offT n 1) 4++leB (n 2) 4++(leB (offT n 2) 4++leB (n 3) 4++(leB (offT n 3) 4++leB (n 4) 4++(leB (offT n 4) 4++leB (n 5) 4++(leB (offT n 5) 4++leB (n 6) 4++ []))))):=rfl
 rw [this]
 unfold hdrB hd0
 simp only [List.append_assoc,List.append_nil]
@[reducible] def tabCl (f:Int) (n:Nat→Nat):Array Value:= #[.int .u64 f, .int .i64 ((offT n 6+4:Nat):Int), .int .i64 0, .int .i64 (offT n 0:Nat), .int .i64 (offT n 1:Nat), .int .i64 (offT n 2:Nat), .int .i64 (offT n 3:Nat), .int .i64 (offT n 4:Nat), .int .i64 (offT n 5:Nat), .int .i64 0, .int .i64 (n 1:Nat), .int .i64 (n 2:Nat), .int .i64 (n 3:Nat), .int .i64 (n 4:Nat), .int .i64 (n 5:Nat), .int .i64 (n 6:Nat)]
theorem offT_le {n:Nat→Nat} (hn: ∀s,n s≤1048576): ∀k,offT n k≤80+k*58720271
 |0=>Nat.le_refl _
 |k+1=>by
  have h1:=offT_le hn k
  have h2:=(alnN_le (offT n k+n (k+1)*secSz (k+1))).2
  have h3:secSz (k+1)≤56:=by
   unfold secSz
   split<;>omega
  have h4:=Nat.mul_le_mul (hn (k+1)) h3
  show alnN (offT n k+n (k+1)*secSz (k+1))≤_
  omega
theorem tab_c1 {w:World} {q:Nat} {t:TypeId} {f:Int} {n:Nat→Nat} {tt:Nat} (h:Blk w q t (tabCl f n)) (ht:offT n 6+4=tt):w.cell? ⟨q,1,none⟩=some (.int .i64 (tt:Int)):=by
 rw [h.cell]
 show some (Value.int .i64 ((offT n 6+4:Nat):Int))=_
 rw [ht]
theorem tabSections_ok (w:World):Calls Tryz.prog 35 #[] w fun e w'=>e= .returned (.func (.func 95) #[] #[])∧w'=w:=by
 go_enter Tryz.func35,Tryz.ntmps35
 go_wp2
 go_ret
 exact ⟨rfl,rfl⟩
set_option maxRecDepth 100000 in
set_option maxHeartbeats 4000000 in
theorem tabPut_ok (g:Nat) (l:List Nat) (f:Int) (n:Nat→Nat) (hf:wU64 f) (hn: ∀s,n s≤1048576) (W:World) (h:BufS W g l) (hl:l.length+200≤16777216):
  Calls Tryz.prog 20 #[.pointer (some ⟨g,0,none⟩), .agg (tabCl f n)] W fun e w'=>e= .returned (.tuple #[])∧BufS w' g (l++hdrB f n)∧BKeep g W w':=by
 have hfb:=Go.bounds_u64 hf
 obtain ⟨tt,htt⟩: ∃tt,offT n 6+4=tt:=⟨_,rfl⟩
 have htl:tt <4294967296:=by rw [←htt];have:=offT_le hn 6;omega
 have HTT:=Lib.hid htt
 obtain ⟨w1,hw1⟩: ∃w1,W.alloc (.cells #[.pointer (some ⟨g,0,none⟩)] 64)=w1:=⟨_,rfl⟩
 obtain ⟨w2,hw2⟩: ∃w2,w1.alloc (.cells (tabCl f n) 34)=w2:=⟨_,rfl⟩
 have e1:w1.heap.size=W.heap.size+1:=by rw [←hw1];simp
 have e2:w2.heap.size=W.heap.size+1+1:=by rw [←hw2];simp [e1]
 have HX:=Lib.hid (show BKeep g W w2 by rw [←hw2];exact (show BKeep g W w1 by rw [←hw1];exact (BKeep.refl g W).alloc (Nat.le_of_lt h.lt) _).alloc (by rw [e1];have:=h.lt;omega) _)
 have HS:=Lib.hid (show BufS w2 g l by rw [←hw2];exact (show BufS w1 g l by rw [←hw1];exact h.alloc _).alloc _)
 have HP:=Lib.hid (show Blk w2 W.heap.size 64 #[.pointer (some ⟨g,0,none⟩)] by rw [←hw2];exact Blk.alloc (by rw [←hw1];exact Blk.new W _ _) _)
 have HB:=Lib.hid (show Blk w2 (W.heap.size+1) 34 (tabCl f n) by rw [←hw2, ←e1];exact Blk.new w1 _ _)
 obtain ⟨w3,hw3⟩: ∃w3,w2.alloc (.cells #[.int .u8 70, .int .u8 78, .int .u8 83, .int .u8 84] 5 (4,5))=w3:=⟨_,rfl⟩
 have HX3:=Lib.hid (show BKeep g W w3 by rw [←hw3];exact HX.out.alloc (by rw [e2];have:=h.lt;omega) _)
 have HS3:=Lib.hid (show BufS w3 g l by rw [←hw3];exact HS.out.alloc _)
 have HP3:=Lib.hid (show Blk w3 W.heap.size 64 #[.pointer (some ⟨g,0,none⟩)] by rw [←hw3];exact HP.out.alloc _)
 have HB3:=Lib.hid (show Blk w3 (W.heap.size+1) 34 (tabCl f n) by rw [←hw3];exact HB.out.alloc _)
 have HR3:=Lib.hid (show Rd w3 w3.heap.size 1 (some ⟨w2.heap.size,0,none⟩) 4 (bytV [70,78,83,84]) by
  refine ⟨rfl,fun _=>⟨w2.heap.size,0,rfl,by rw [←hw3];simp,fun j u hu=> ?_⟩⟩
  rw [←hw3,Nat.zero_add,cell_of_row _ _ j _ _ _ (heap_alloc_new w2 _)]
  have:(bytV [70,78,83,84])= #[Value.int .u8 70, .int .u8 78, .int .u8 83, .int .u8 84].toList:=rfl
  rw [this] at hu
  simpa using hu)
 have hcv:=Go.Joins.run_convert_bytes_const_at (P:=Tryz.prog) w2 41 5 #[.int .u8 70, .int .u8 78, .int .u8 83, .int .u8 84] 4 4 w2.heap.size rfl Tryz.underlying41 Tryz.underlying5
 simp only [List.size_toArray,List.length_cons,List.length_nil,Nat.reduceAdd] at hcv
 rw [hw3] at hcv
 have HC:=Lib.hid hcv
 have HW1:=Lib.hid hw1
 have HW2:=Lib.hid hw2
 have HE2:=Lib.hid e2
 have hlt:=h.lt
 have hdr:hd0 f n= [70,78,83,84]++leB 1 2++leB 80 2++leB tt 4++leB 0 4++leB f.toNat 8++leB 0 8:=by unfold hd0;rw [htt]
 have HDR:=Lib.hid hdr
 have HP2:=HP
 clear hw1 hw2 hw3 h hf hcv htt hdr HX HS HP HB e1 e2
 refine (callsIn_wide (n:=5)).1 ?_
 refine callsIn_of_wp_marks Tryz.func20 rfl trivial ?_ rfl
 simp only [Tryz.ntmps20,List.size_toArray,List.length_cons,List.length_nil,Nat.reduceAdd,Nat.reduceSub,Array.replicate_succ,Array.replicate_zero,List.push_toArray,List.append_toArray,List.nil_append,List.cons_append]
 gi_upto_region 1 with (fail)
 rw [HW1.out,HW2.out]
 have hcv:=HC.out
 have htm:(tt:Int)%4294967296=(tt:Int):=by omega
 have HS:=HS3
 have HX:=HX3
 have HP:=HP3
 have HB:=HB3
 generalize W.heap.size=qb at*
 have p0:=HP2.out.cell 0
 have pz:=HP2.out.lt
 simp at p0
 gi_wp2_with fail
 refine ⟨trivial,(callsIn_wide.2 (bAdd_ok g l [70,78,83,84] _ 4 4 w3 HS3.out rfl HR3.out (by simp only [List.length_cons,List.length_nil];omega))).mono ?_⟩
 rintro e v1 ⟨rfl,h5,h6⟩
 have HS:=Lib.hid h5
 have HP:=Lib.hid (h6.blk HP.out (by decide) (by decide))
 have HB:=Lib.hid (h6.blk HB.out (by decide) (by decide))
 have HX:=Lib.hid (HX.out.trans h6)
 clear h5 h6 p0 pz hcv
 have p0:=HP.out.cell 0
 have pz:=HP.out.lt
 have t0:=HB.out.cell 0
 have t1:=tab_c1 HB.out HTT.out
 simp at p0 t0
 gi_wp2_with fail
 refine ⟨trivial,(callsIn_wide.2 (b16_ok g 1 _ _ HS.out (by omega) (by omega) (by simp only [List.length_append,List.length_cons,List.length_nil];omega))).mono ?_⟩
 rintro e v2 ⟨rfl,h5,h6⟩
 have HS:=Lib.hid h5
 have HP:=Lib.hid (h6.blk HP.out (by decide) (by decide))
 have HB:=Lib.hid (h6.blk HB.out (by decide) (by decide))
 have HX:=Lib.hid (HX.out.trans h6)
 clear h5 h6 p0 pz t0 t1
 have p0:=HP.out.cell 0
 have pz:=HP.out.lt
 have t0:=HB.out.cell 0
 have t1:=tab_c1 HB.out HTT.out
 simp at p0 t0
 gi_wp2_with fail
 refine ⟨trivial,(callsIn_wide.2 (b16_ok g 80 _ _ HS.out (by omega) (by omega) (by simp only [List.length_append,List.length_cons,List.length_nil,leB_len];omega))).mono ?_⟩
 rintro e v3 ⟨rfl,h5,h6⟩
 have HS:=Lib.hid h5
 have HP:=Lib.hid (h6.blk HP.out (by decide) (by decide))
 have HB:=Lib.hid (h6.blk HB.out (by decide) (by decide))
 have HX:=Lib.hid (HX.out.trans h6)
 clear h5 h6 p0 pz t0 t1
 have p0:=HP.out.cell 0
 have pz:=HP.out.lt
 have t0:=HB.out.cell 0
 have t1:=tab_c1 HB.out HTT.out
 simp at p0 t0
 gi_wp2_with fail
 refine ⟨trivial,(callsIn_wide.2 (b32_ok g (tt:Int) _ _ HS.out (by omega) (by omega) (by simp only [List.length_append,List.length_cons,List.length_nil,leB_len];omega))).mono ?_⟩
 rintro e v4 ⟨rfl,h5,h6⟩
 have HS:=Lib.hid h5
 have HP:=Lib.hid (h6.blk HP.out (by decide) (by decide))
 have HB:=Lib.hid (h6.blk HB.out (by decide) (by decide))
 have HX:=Lib.hid (HX.out.trans h6)
 clear h5 h6 p0 pz t0 t1
 have p0:=HP.out.cell 0
 have pz:=HP.out.lt
 have t0:=HB.out.cell 0
 have t1:=tab_c1 HB.out HTT.out
 simp at p0 t0
 gi_wp2_with fail
 refine ⟨trivial,(callsIn_wide.2 (b32_ok g 0 _ _ HS.out (by omega) (by omega) (by simp only [List.length_append,List.length_cons,List.length_nil,leB_len];omega))).mono ?_⟩
 rintro e v5 ⟨rfl,h5,h6⟩
 have HS:=Lib.hid h5
 have HP:=Lib.hid (h6.blk HP.out (by decide) (by decide))
 have HB:=Lib.hid (h6.blk HB.out (by decide) (by decide))
 have HX:=Lib.hid (HX.out.trans h6)
 clear h5 h6 p0 pz t0 t1
 have p0:=HP.out.cell 0
 have pz:=HP.out.lt
 have t0:=HB.out.cell 0
 have t1:=tab_c1 HB.out HTT.out
 simp at p0 t0
 gi_wp2_with fail
 refine ⟨trivial,(callsIn_wide.2 (b64_ok g f _ _ HS.out (by omega) (by omega) (by simp only [List.length_append,List.length_cons,List.length_nil,leB_len];omega))).mono ?_⟩
 rintro e v6 ⟨rfl,h5,h6⟩
 have HS:=Lib.hid h5
 have HP:=Lib.hid (h6.blk HP.out (by decide) (by decide))
 have HB:=Lib.hid (h6.blk HB.out (by decide) (by decide))
 have HX:=Lib.hid (HX.out.trans h6)
 clear h5 h6 p0 pz t0 t1
 have p0:=HP.out.cell 0
 have pz:=HP.out.lt
 have t0:=HB.out.cell 0
 have t1:=tab_c1 HB.out HTT.out
 simp at p0 t0
 gi_wp2_with fail
 refine ⟨trivial,(callsIn_wide.2 (b64_ok g 0 _ _ HS.out (by omega) (by omega) (by simp only [List.length_append,List.length_cons,List.length_nil,leB_len];omega))).mono ?_⟩
 rintro e v7 ⟨rfl,h5,h6⟩
 have HS:=Lib.hid h5
 have HP:=Lib.hid (h6.blk HP.out (by decide) (by decide))
 have HB:=Lib.hid (h6.blk HB.out (by decide) (by decide))
 have HX:=Lib.hid (HX.out.trans h6)
 clear h5 h6 p0 pz t0 t1
 have p0:=HP.out.cell 0
 have pz:=HP.out.lt
 have t0:=HB.out.cell 0
 have t1:=tab_c1 HB.out HTT.out
 simp at p0 t0
 gi_wp2_with fail
 refine ⟨trivial,(callsIn_wide.2 (tabSections_ok _)).mono ?_⟩
 rintro e v8 ⟨rfl,rfl⟩
 gi_wp2_with fail
 have HL0:=Lib.hid (show ∀q:List (Fin 6),q.length≤6→(l++ [70,78,83,84]++leB (Int.toNat 1) 2++leB (Int.toNat 80) 2++leB (tt:Int).toNat 4++leB (Int.toNat 0) 4++leB f.toNat 8++leB (Int.toNat 0) 8++entB n q).length+16≤16777216 from fun q hq=>by
  simp only [List.length_append,List.length_cons,List.length_nil,leB_len]
  have:=flat_lenN (fun x:Fin 6=>leB (offT n x.1) 4++leB (n (x.1+1)) 4) 8 (fun _=>by simp [leB_len]) q
  unfold entB
  rw [this]
  omega)
 generalize hL0:l++ [70,78,83,84]++leB (Int.toNat 1) 2++leB (Int.toNat 80) 2++leB (tt:Int).toNat 4++leB (Int.toNat 0) 4++leB f.toNat 8++leB (Int.toNat 0) 8=L0 at HS HL0
 have HLE:=Lib.hid hL0
 clear hL0 p0 pz t0 t1
 have hvz:=HX.out.bel.size
 have hvg:=HS.out.lt
 refine wpIn_rangeFunc_ownF rfl (by omega) (gf:=95) (lb:= #[]) rfl trivial (enters_of Tryz.func95 (by kernel_rfl) rfl) (sections_stops Fence.wide _ trivial rfl (by omega) v8) walksK_t walksK_b (Below.refl _ _) (fun _=>rfl)
  (fun pre V=>pre.length≤6∧BufS V g (L0++entB n pre)∧Blk V qb 64 #[.pointer (some ⟨g,0,none⟩)]∧Blk V (qb+1) 34 (tabCl f n)∧BKeep g W V)
  (fun _ _ _=>False)
  (fun s A B row hs hg hr=>⟨hs.1,hs.2.1.kept hg (fun r e=>(hr r e).2),hs.2.2.1.kept hg (fun r e=>(hr r e).2),hs.2.2.2.1.kept hg (fun r e=>(hr r e).2),hs.2.2.2.2.kept hvz (by omega) (Nat.le_of_lt hs.2.1.lt) hg (fun r e=>(hr r e).1)⟩)
  (fun c s A B row hs hg hr=>hs)
  ⟨Nat.zero_le _,by simpa [entB] using HS.out,HP.out,HB.out,HX.out⟩
  (fun x=> {tmps:= #[.pointer (some ⟨g,0,none⟩), .agg (tabCl f n), .pointer (some ⟨qb,0,none⟩), .pointer (some ⟨qb+1,0,none⟩), .int .i64 ((x.1:Int)+1), .pointer (some ⟨g,0,none⟩), .slice (some ⟨w2.heap.size,0,none⟩) 4 4, .slice (some ⟨w2.heap.size,0,none⟩) 4 4, .tuple #[], .pointer (some ⟨g,0,none⟩), .tuple #[], .pointer (some ⟨g,0,none⟩), .tuple #[], .pointer (some ⟨g,0,none⟩), .pointer (some ⟨qb+1,1,none⟩), .int .i64 (tt:Int), .int .u32 (tt:Int), .tuple #[], .pointer (some ⟨g,0,none⟩), .tuple #[], .pointer (some ⟨g,0,none⟩), .pointer (some ⟨qb+1,0,none⟩), .int .u64 f, .tuple #[], .pointer (some ⟨g,0,none⟩), .tuple #[], .func (.func 95) #[] #[], .int .i64 ((x.1:Int)+1), .int .i64 (32+8*(x.1:Int)),undef,undef,undef,undef,undef,undef,undef,undef,undef,undef,undef,undef,undef,undef],defers:= []}) ?_ ?_ ?_ ?_
 ·intro l x V K hK
  simp only [secE,List.zip_toArray,List.zip_cons_cons,List.zip_nil_left,List.size_toArray,List.length_cons,List.length_nil,Nat.reduceAdd]
  gi_wp2_with ((rw [Oper.semAt_eq _ _ _ (fun c h=>by cases h)];go_simp;try go_bits))
  exact hK
 ·intro lp pre x V hI hlen
  obtain ⟨hp,hS,hP,hB,hX⟩:=hI
  have HS:=Lib.hid hS
  have HP:=Lib.hid hP
  have HB:=Lib.hid hB
  have HX:=Lib.hid hX
  obtain ⟨x,hx⟩:=x
  clear hS hP hB hX
  obtain rfl |rfl |rfl |rfl |rfl |rfl:x=0∨x=1∨x=2∨x=3∨x=4∨x=5:=by omega
  ·have p0:=HP.out.cell 0
   have pz:=HP.out.lt
   have t0:=HB.out.cell 3
   have t1:=HB.out.cell 10
   simp at p0 t0 t1
   have m0:IntKind.u32.wrap ((offT n 0:Nat):Int)=((offT n 0:Nat):Int):=by rw [IntKind.wrap_u32];have:=offT_le hn 0;omega
   have m1:IntKind.u32.wrap ((n 1:Nat):Int)=((n 1:Nat):Int):=by rw [IntKind.wrap_u32];have:=hn 1;omega
   have b0:((offT n 0:Nat):Int) <4294967296:=by have:=offT_le hn 0;omega
   have b1:((n 1:Nat):Int) <4294967296:=by have:=hn 1;omega
   have HLK:=Lib.hid (HL0.out pre hp)
   obtain ⟨o,ho⟩: ∃o,offT n 0=o:=⟨_,rfl⟩
   have HO:=Lib.hid ho
   rw [ho] at t0 m0 b0
   clear ho
   have p0d:V.drew.cell? ⟨qb,0,none⟩=some (.pointer (some ⟨g,0,none⟩)):=p0
   have t0d:V.drew.cell? ⟨qb+1,3,none⟩=some (.int .i64 (o:Int)):=t0
   have pzd:qb <V.drew.heap.size:=pz
   gi_wp2
   have hle:g≤V.heap.size:=Nat.le_of_lt HS.out.lt
   have HD:=Lib.hid (HS.out.up (below_drewB V))
   gi_cut [] from 29 (fun wx=>BufS wx g (L0++entB n pre++leB o 4)∧BKeep g V wx)
   case first=>
    gi_region_with (refine ⟨trivial,((callsIn_wide.2 (b32_ok g (o:Int) _ _ HD.out (by omega) b0 (by have:=HLK.out;omega))).inRound lp).mono ?_⟩;rintro e v9 ⟨rfl,h5,h6⟩)
    all_goals
     gi_wp2_with fail
     gi_meet
     case rel=>exact ⟨by rw [Int.toNat_natCast] at h5;exact h5,(BKeep.of_below (below_drewB V) hle).trans h6⟩
   case rest=>
    obtain ⟨hS1,hX1⟩:=hcut
    have HS1:=Lib.hid hS1
    have HP1:=Lib.hid (hX1.blk HP.out (by decide) (by decide))
    have HB1:=Lib.hid (hX1.blk HB.out (by decide) (by decide))
    have HX1:=Lib.hid hX1
    clear hS1 hX1 p0 pz t0 t1 p0d t0d pzd hle
    have p0:=HP1.out.cell 0
    have t1:=HB1.out.cell 10
    simp at p0 t1
    have p0d:wc.drew.cell? ⟨qb,0,none⟩=some (.pointer (some ⟨g,0,none⟩)):=p0
    have t1d:wc.drew.cell? ⟨qb+1,10,none⟩=some (.int .i64 (n 1:Int)):=t1
    have pzd:qb <wc.drew.heap.size:=HP1.out.lt
    have hle:g≤wc.heap.size:=Nat.le_of_lt HS1.out.lt
    have HD1:=Lib.hid (HS1.out.up (below_drewB wc))
    gi_wp2
    gi_region_with (refine ⟨trivial,((callsIn_wide.2 (b32_ok g (n 1:Int) _ _ HD1.out (by omega) b1 (by have:=HLK.out;rw [List.length_append,leB_len];omega))).inRound lp).mono ?_⟩;rintro e v9 ⟨rfl,h5,h6⟩)
    all_goals
     have h7:=HX1.out.trans ((BKeep.of_below (below_drewB wc) hle).trans h6)
     refine ⟨h7.others,h7.others.walks,by rw [List.length_append];simp;omega, ?_,h7.blk HP.out (by decide) (by decide),h7.blk HB.out (by decide) (by decide),HX.out.trans h7⟩
     rw [Int.toNat_natCast] at h5
     have e9:entB n (pre++ [⟨0,hx⟩])=entB n pre++(leB (offT n 0) 4++leB (n 1) 4):=by unfold entB;rw [List.flatMap_append];rfl
     rw [e9,HO.out, ←List.append_assoc, ←List.append_assoc]
     exact h5
  ·have p0:=HP.out.cell 0
   have pz:=HP.out.lt
   have t0:=HB.out.cell 4
   have t1:=HB.out.cell 11
   simp at p0 t0 t1
   have m0:IntKind.u32.wrap ((offT n 1:Nat):Int)=((offT n 1:Nat):Int):=by rw [IntKind.wrap_u32];have:=offT_le hn 1;omega
   have m1:IntKind.u32.wrap ((n 2:Nat):Int)=((n 2:Nat):Int):=by rw [IntKind.wrap_u32];have:=hn 2;omega
   have b0:((offT n 1:Nat):Int) <4294967296:=by have:=offT_le hn 1;omega
   have b1:((n 2:Nat):Int) <4294967296:=by have:=hn 2;omega
   have HLK:=Lib.hid (HL0.out pre hp)
   obtain ⟨o,ho⟩: ∃o,offT n 1=o:=⟨_,rfl⟩
   have HO:=Lib.hid ho
   rw [ho] at t0 m0 b0
   clear ho
   have p0d:V.drew.cell? ⟨qb,0,none⟩=some (.pointer (some ⟨g,0,none⟩)):=p0
   have t0d:V.drew.cell? ⟨qb+1,4,none⟩=some (.int .i64 (o:Int)):=t0
   have pzd:qb <V.drew.heap.size:=pz
   gi_wp2
   have hle:g≤V.heap.size:=Nat.le_of_lt HS.out.lt
   have HD:=Lib.hid (HS.out.up (below_drewB V))
   gi_cut [] from 29 (fun wx=>BufS wx g (L0++entB n pre++leB o 4)∧BKeep g V wx)
   case first=>
    gi_region_with (refine ⟨trivial,((callsIn_wide.2 (b32_ok g (o:Int) _ _ HD.out (by omega) b0 (by have:=HLK.out;omega))).inRound lp).mono ?_⟩;rintro e v9 ⟨rfl,h5,h6⟩)
    all_goals
     gi_wp2_with fail
     gi_meet
     case rel=>exact ⟨by rw [Int.toNat_natCast] at h5;exact h5,(BKeep.of_below (below_drewB V) hle).trans h6⟩
   case rest=>
    obtain ⟨hS1,hX1⟩:=hcut
    have HS1:=Lib.hid hS1
    have HP1:=Lib.hid (hX1.blk HP.out (by decide) (by decide))
    have HB1:=Lib.hid (hX1.blk HB.out (by decide) (by decide))
    have HX1:=Lib.hid hX1
    clear hS1 hX1 p0 pz t0 t1 p0d t0d pzd hle
    have p0:=HP1.out.cell 0
    have t1:=HB1.out.cell 11
    simp at p0 t1
    have p0d:wc.drew.cell? ⟨qb,0,none⟩=some (.pointer (some ⟨g,0,none⟩)):=p0
    have t1d:wc.drew.cell? ⟨qb+1,11,none⟩=some (.int .i64 (n 2:Int)):=t1
    have pzd:qb <wc.drew.heap.size:=HP1.out.lt
    have hle:g≤wc.heap.size:=Nat.le_of_lt HS1.out.lt
    have HD1:=Lib.hid (HS1.out.up (below_drewB wc))
    gi_wp2
    gi_region_with (refine ⟨trivial,((callsIn_wide.2 (b32_ok g (n 2:Int) _ _ HD1.out (by omega) b1 (by have:=HLK.out;rw [List.length_append,leB_len];omega))).inRound lp).mono ?_⟩;rintro e v9 ⟨rfl,h5,h6⟩)
    all_goals
     have h7:=HX1.out.trans ((BKeep.of_below (below_drewB wc) hle).trans h6)
     refine ⟨h7.others,h7.others.walks,by rw [List.length_append];simp;omega, ?_,h7.blk HP.out (by decide) (by decide),h7.blk HB.out (by decide) (by decide),HX.out.trans h7⟩
     rw [Int.toNat_natCast] at h5
     have e9:entB n (pre++ [⟨1,hx⟩])=entB n pre++(leB (offT n 1) 4++leB (n 2) 4):=by unfold entB;rw [List.flatMap_append];rfl
     rw [e9,HO.out, ←List.append_assoc, ←List.append_assoc]
     exact h5
  ·have p0:=HP.out.cell 0
   have pz:=HP.out.lt
   have t0:=HB.out.cell 5
   have t1:=HB.out.cell 12
   simp at p0 t0 t1
   have m0:IntKind.u32.wrap ((offT n 2:Nat):Int)=((offT n 2:Nat):Int):=by rw [IntKind.wrap_u32];have:=offT_le hn 2;omega
   have m1:IntKind.u32.wrap ((n 3:Nat):Int)=((n 3:Nat):Int):=by rw [IntKind.wrap_u32];have:=hn 3;omega
   have b0:((offT n 2:Nat):Int) <4294967296:=by have:=offT_le hn 2;omega
   have b1:((n 3:Nat):Int) <4294967296:=by have:=hn 3;omega
   have HLK:=Lib.hid (HL0.out pre hp)
   obtain ⟨o,ho⟩: ∃o,offT n 2=o:=⟨_,rfl⟩
   have HO:=Lib.hid ho
   rw [ho] at t0 m0 b0
   clear ho
   have p0d:V.drew.cell? ⟨qb,0,none⟩=some (.pointer (some ⟨g,0,none⟩)):=p0
   have t0d:V.drew.cell? ⟨qb+1,5,none⟩=some (.int .i64 (o:Int)):=t0
   have pzd:qb <V.drew.heap.size:=pz
   gi_wp2
   have hle:g≤V.heap.size:=Nat.le_of_lt HS.out.lt
   have HD:=Lib.hid (HS.out.up (below_drewB V))
   gi_cut [] from 29 (fun wx=>BufS wx g (L0++entB n pre++leB o 4)∧BKeep g V wx)
   case first=>
    gi_region_with (refine ⟨trivial,((callsIn_wide.2 (b32_ok g (o:Int) _ _ HD.out (by omega) b0 (by have:=HLK.out;omega))).inRound lp).mono ?_⟩;rintro e v9 ⟨rfl,h5,h6⟩)
    all_goals
     gi_wp2_with fail
     gi_meet
     case rel=>exact ⟨by rw [Int.toNat_natCast] at h5;exact h5,(BKeep.of_below (below_drewB V) hle).trans h6⟩
   case rest=>
    obtain ⟨hS1,hX1⟩:=hcut
    have HS1:=Lib.hid hS1
    have HP1:=Lib.hid (hX1.blk HP.out (by decide) (by decide))
    have HB1:=Lib.hid (hX1.blk HB.out (by decide) (by decide))
    have HX1:=Lib.hid hX1
    clear hS1 hX1 p0 pz t0 t1 p0d t0d pzd hle
    have p0:=HP1.out.cell 0
    have t1:=HB1.out.cell 12
    simp at p0 t1
    have p0d:wc.drew.cell? ⟨qb,0,none⟩=some (.pointer (some ⟨g,0,none⟩)):=p0
    have t1d:wc.drew.cell? ⟨qb+1,12,none⟩=some (.int .i64 (n 3:Int)):=t1
    have pzd:qb <wc.drew.heap.size:=HP1.out.lt
    have hle:g≤wc.heap.size:=Nat.le_of_lt HS1.out.lt
    have HD1:=Lib.hid (HS1.out.up (below_drewB wc))
    gi_wp2
    gi_region_with (refine ⟨trivial,((callsIn_wide.2 (b32_ok g (n 3:Int) _ _ HD1.out (by omega) b1 (by have:=HLK.out;rw [List.length_append,leB_len];omega))).inRound lp).mono ?_⟩;rintro e v9 ⟨rfl,h5,h6⟩)
    all_goals
     have h7:=HX1.out.trans ((BKeep.of_below (below_drewB wc) hle).trans h6)
     refine ⟨h7.others,h7.others.walks,by rw [List.length_append];simp;omega, ?_,h7.blk HP.out (by decide) (by decide),h7.blk HB.out (by decide) (by decide),HX.out.trans h7⟩
     rw [Int.toNat_natCast] at h5
     have e9:entB n (pre++ [⟨2,hx⟩])=entB n pre++(leB (offT n 2) 4++leB (n 3) 4):=by unfold entB;rw [List.flatMap_append];rfl
     rw [e9,HO.out, ←List.append_assoc, ←List.append_assoc]
     exact h5
  ·have p0:=HP.out.cell 0
   have pz:=HP.out.lt
   have t0:=HB.out.cell 6
   have t1:=HB.out.cell 13
   simp at p0 t0 t1
   have m0:IntKind.u32.wrap ((offT n 3:Nat):Int)=((offT n 3:Nat):Int):=by rw [IntKind.wrap_u32];have:=offT_le hn 3;omega
   have m1:IntKind.u32.wrap ((n 4:Nat):Int)=((n 4:Nat):Int):=by rw [IntKind.wrap_u32];have:=hn 4;omega
   have b0:((offT n 3:Nat):Int) <4294967296:=by have:=offT_le hn 3;omega
   have b1:((n 4:Nat):Int) <4294967296:=by have:=hn 4;omega
   have HLK:=Lib.hid (HL0.out pre hp)
   obtain ⟨o,ho⟩: ∃o,offT n 3=o:=⟨_,rfl⟩
   have HO:=Lib.hid ho
   rw [ho] at t0 m0 b0
   clear ho
   have p0d:V.drew.cell? ⟨qb,0,none⟩=some (.pointer (some ⟨g,0,none⟩)):=p0
   have t0d:V.drew.cell? ⟨qb+1,6,none⟩=some (.int .i64 (o:Int)):=t0
   have pzd:qb <V.drew.heap.size:=pz
   gi_wp2
   have hle:g≤V.heap.size:=Nat.le_of_lt HS.out.lt
   have HD:=Lib.hid (HS.out.up (below_drewB V))
   gi_cut [] from 29 (fun wx=>BufS wx g (L0++entB n pre++leB o 4)∧BKeep g V wx)
   case first=>
    gi_region_with (refine ⟨trivial,((callsIn_wide.2 (b32_ok g (o:Int) _ _ HD.out (by omega) b0 (by have:=HLK.out;omega))).inRound lp).mono ?_⟩;rintro e v9 ⟨rfl,h5,h6⟩)
    all_goals
     gi_wp2_with fail
     gi_meet
     case rel=>exact ⟨by rw [Int.toNat_natCast] at h5;exact h5,(BKeep.of_below (below_drewB V) hle).trans h6⟩
   case rest=>
    obtain ⟨hS1,hX1⟩:=hcut
    have HS1:=Lib.hid hS1
    have HP1:=Lib.hid (hX1.blk HP.out (by decide) (by decide))
    have HB1:=Lib.hid (hX1.blk HB.out (by decide) (by decide))
    have HX1:=Lib.hid hX1
    clear hS1 hX1 p0 pz t0 t1 p0d t0d pzd hle
    have p0:=HP1.out.cell 0
    have t1:=HB1.out.cell 13
    simp at p0 t1
    have p0d:wc.drew.cell? ⟨qb,0,none⟩=some (.pointer (some ⟨g,0,none⟩)):=p0
    have t1d:wc.drew.cell? ⟨qb+1,13,none⟩=some (.int .i64 (n 4:Int)):=t1
    have pzd:qb <wc.drew.heap.size:=HP1.out.lt
    have hle:g≤wc.heap.size:=Nat.le_of_lt HS1.out.lt
    have HD1:=Lib.hid (HS1.out.up (below_drewB wc))
    gi_wp2
    gi_region_with (refine ⟨trivial,((callsIn_wide.2 (b32_ok g (n 4:Int) _ _ HD1.out (by omega) b1 (by have:=HLK.out;rw [List.length_append,leB_len];omega))).inRound lp).mono ?_⟩;rintro e v9 ⟨rfl,h5,h6⟩)
    all_goals
     have h7:=HX1.out.trans ((BKeep.of_below (below_drewB wc) hle).trans h6)
     refine ⟨h7.others,h7.others.walks,by rw [List.length_append];simp;omega, ?_,h7.blk HP.out (by decide) (by decide),h7.blk HB.out (by decide) (by decide),HX.out.trans h7⟩
     rw [Int.toNat_natCast] at h5
     have e9:entB n (pre++ [⟨3,hx⟩])=entB n pre++(leB (offT n 3) 4++leB (n 4) 4):=by unfold entB;rw [List.flatMap_append];rfl
     rw [e9,HO.out, ←List.append_assoc, ←List.append_assoc]
     exact h5
  ·have p0:=HP.out.cell 0
   have pz:=HP.out.lt
   have t0:=HB.out.cell 7
   have t1:=HB.out.cell 14
   simp at p0 t0 t1
   have m0:IntKind.u32.wrap ((offT n 4:Nat):Int)=((offT n 4:Nat):Int):=by rw [IntKind.wrap_u32];have:=offT_le hn 4;omega
   have m1:IntKind.u32.wrap ((n 5:Nat):Int)=((n 5:Nat):Int):=by rw [IntKind.wrap_u32];have:=hn 5;omega
   have b0:((offT n 4:Nat):Int) <4294967296:=by have:=offT_le hn 4;omega
   have b1:((n 5:Nat):Int) <4294967296:=by have:=hn 5;omega
   have HLK:=Lib.hid (HL0.out pre hp)
   obtain ⟨o,ho⟩: ∃o,offT n 4=o:=⟨_,rfl⟩
   have HO:=Lib.hid ho
   rw [ho] at t0 m0 b0
   clear ho
   have p0d:V.drew.cell? ⟨qb,0,none⟩=some (.pointer (some ⟨g,0,none⟩)):=p0
   have t0d:V.drew.cell? ⟨qb+1,7,none⟩=some (.int .i64 (o:Int)):=t0
   have pzd:qb <V.drew.heap.size:=pz
   gi_wp2
   have hle:g≤V.heap.size:=Nat.le_of_lt HS.out.lt
   have HD:=Lib.hid (HS.out.up (below_drewB V))
   gi_cut [] from 29 (fun wx=>BufS wx g (L0++entB n pre++leB o 4)∧BKeep g V wx)
   case first=>
    gi_region_with (refine ⟨trivial,((callsIn_wide.2 (b32_ok g (o:Int) _ _ HD.out (by omega) b0 (by have:=HLK.out;omega))).inRound lp).mono ?_⟩;rintro e v9 ⟨rfl,h5,h6⟩)
    all_goals
     gi_wp2_with fail
     gi_meet
     case rel=>exact ⟨by rw [Int.toNat_natCast] at h5;exact h5,(BKeep.of_below (below_drewB V) hle).trans h6⟩
   case rest=>
    obtain ⟨hS1,hX1⟩:=hcut
    have HS1:=Lib.hid hS1
    have HP1:=Lib.hid (hX1.blk HP.out (by decide) (by decide))
    have HB1:=Lib.hid (hX1.blk HB.out (by decide) (by decide))
    have HX1:=Lib.hid hX1
    clear hS1 hX1 p0 pz t0 t1 p0d t0d pzd hle
    have p0:=HP1.out.cell 0
    have t1:=HB1.out.cell 14
    simp at p0 t1
    have p0d:wc.drew.cell? ⟨qb,0,none⟩=some (.pointer (some ⟨g,0,none⟩)):=p0
    have t1d:wc.drew.cell? ⟨qb+1,14,none⟩=some (.int .i64 (n 5:Int)):=t1
    have pzd:qb <wc.drew.heap.size:=HP1.out.lt
    have hle:g≤wc.heap.size:=Nat.le_of_lt HS1.out.lt
    have HD1:=Lib.hid (HS1.out.up (below_drewB wc))
    gi_wp2
    gi_region_with (refine ⟨trivial,((callsIn_wide.2 (b32_ok g (n 5:Int) _ _ HD1.out (by omega) b1 (by have:=HLK.out;rw [List.length_append,leB_len];omega))).inRound lp).mono ?_⟩;rintro e v9 ⟨rfl,h5,h6⟩)
    all_goals
     have h7:=HX1.out.trans ((BKeep.of_below (below_drewB wc) hle).trans h6)
     refine ⟨h7.others,h7.others.walks,by rw [List.length_append];simp;omega, ?_,h7.blk HP.out (by decide) (by decide),h7.blk HB.out (by decide) (by decide),HX.out.trans h7⟩
     rw [Int.toNat_natCast] at h5
     have e9:entB n (pre++ [⟨4,hx⟩])=entB n pre++(leB (offT n 4) 4++leB (n 5) 4):=by unfold entB;rw [List.flatMap_append];rfl
     rw [e9,HO.out, ←List.append_assoc, ←List.append_assoc]
     exact h5
  ·have p0:=HP.out.cell 0
   have pz:=HP.out.lt
   have t0:=HB.out.cell 8
   have t1:=HB.out.cell 15
   simp at p0 t0 t1
   have m0:IntKind.u32.wrap ((offT n 5:Nat):Int)=((offT n 5:Nat):Int):=by rw [IntKind.wrap_u32];have:=offT_le hn 5;omega
   have m1:IntKind.u32.wrap ((n 6:Nat):Int)=((n 6:Nat):Int):=by rw [IntKind.wrap_u32];have:=hn 6;omega
   have b0:((offT n 5:Nat):Int) <4294967296:=by have:=offT_le hn 5;omega
   have b1:((n 6:Nat):Int) <4294967296:=by have:=hn 6;omega
   have HLK:=Lib.hid (HL0.out pre hp)
   obtain ⟨o,ho⟩: ∃o,offT n 5=o:=⟨_,rfl⟩
   have HO:=Lib.hid ho
   rw [ho] at t0 m0 b0
   clear ho
   have p0d:V.drew.cell? ⟨qb,0,none⟩=some (.pointer (some ⟨g,0,none⟩)):=p0
   have t0d:V.drew.cell? ⟨qb+1,8,none⟩=some (.int .i64 (o:Int)):=t0
   have pzd:qb <V.drew.heap.size:=pz
   gi_wp2
   have hle:g≤V.heap.size:=Nat.le_of_lt HS.out.lt
   have HD:=Lib.hid (HS.out.up (below_drewB V))
   gi_cut [] from 29 (fun wx=>BufS wx g (L0++entB n pre++leB o 4)∧BKeep g V wx)
   case first=>
    gi_region_with (refine ⟨trivial,((callsIn_wide.2 (b32_ok g (o:Int) _ _ HD.out (by omega) b0 (by have:=HLK.out;omega))).inRound lp).mono ?_⟩;rintro e v9 ⟨rfl,h5,h6⟩)
    all_goals
     gi_wp2_with fail
     gi_meet
     case rel=>exact ⟨by rw [Int.toNat_natCast] at h5;exact h5,(BKeep.of_below (below_drewB V) hle).trans h6⟩
   case rest=>
    obtain ⟨hS1,hX1⟩:=hcut
    have HS1:=Lib.hid hS1
    have HP1:=Lib.hid (hX1.blk HP.out (by decide) (by decide))
    have HB1:=Lib.hid (hX1.blk HB.out (by decide) (by decide))
    have HX1:=Lib.hid hX1
    clear hS1 hX1 p0 pz t0 t1 p0d t0d pzd hle
    have p0:=HP1.out.cell 0
    have t1:=HB1.out.cell 15
    simp at p0 t1
    have p0d:wc.drew.cell? ⟨qb,0,none⟩=some (.pointer (some ⟨g,0,none⟩)):=p0
    have t1d:wc.drew.cell? ⟨qb+1,15,none⟩=some (.int .i64 (n 6:Int)):=t1
    have pzd:qb <wc.drew.heap.size:=HP1.out.lt
    have hle:g≤wc.heap.size:=Nat.le_of_lt HS1.out.lt
    have HD1:=Lib.hid (HS1.out.up (below_drewB wc))
    gi_wp2
    gi_region_with (refine ⟨trivial,((callsIn_wide.2 (b32_ok g (n 6:Int) _ _ HD1.out (by omega) b1 (by have:=HLK.out;rw [List.length_append,leB_len];omega))).inRound lp).mono ?_⟩;rintro e v9 ⟨rfl,h5,h6⟩)
    all_goals
     have h7:=HX1.out.trans ((BKeep.of_below (below_drewB wc) hle).trans h6)
     refine ⟨h7.others,h7.others.walks,by rw [List.length_append];simp;omega, ?_,h7.blk HP.out (by decide) (by decide),h7.blk HB.out (by decide) (by decide),HX.out.trans h7⟩
     rw [Int.toNat_natCast] at h5
     have e9:entB n (pre++ [⟨5,hx⟩])=entB n pre++(leB (offT n 5) 4++leB (n 6) 4):=by unfold entB;rw [List.flatMap_append];rfl
     rw [e9,HO.out, ←List.append_assoc, ←List.append_assoc]
     exact h5
 ·rintro D xs V hD rfl ⟨hp,hS,hP,hB,hX⟩ hK
  have hg:=grownBy_putObj' V D (.deferred none)
  have hr: ∀r,some D=some r→ ∃o:Obj,V.heap[r]? =some o∧o.isCells=false:=fun r e=>by cases e;exact ⟨_,hK,rfl⟩
  have HS2:=Lib.hid (hS.kept hg hr)
  have HX2:=Lib.hid (hX.kept hvz (by omega) (Nat.le_of_lt hS.lt) hg (fun r e=>by cases e;exact hD))
  have HK2:=Lib.hid hK
  clear hS hP hB hX hK hg hr
  gi_wp2
  refine ⟨by simp, .inl ⟨_,_,rfl,run_takeDeferred HK2.out, ?_⟩⟩
  refine ⟨.tuple #[],results_none rfl _ _ _,rfl, ?_,HX2.out⟩
  rw [hdrB_ent,HDR.out]
  have h9:=HS2.out
  rw [←HLE.out] at h9
  simp only [Int.toNat_natCast,List.append_assoc] at h9 ⊢
  exact h9
 ·intro D c pre V _ _ h _
  exact False.elim h
end Go.Proofs.YteelncofiodflaaGreat
namespace Go.Proofs.YteelncofiodflaaGreat
open Go.RowKit
def tabA (f:Int) (t:Nat) (o c:Nat→Nat):Array Value:=(Value.int .u64 f::Value.int .i64 (t:Int)::((List.range 7).map (fun i=>Value.int .i64 ((o i:Nat):Int))++(List.range 7).map (fun i=>Value.int .i64 ((c i:Nat):Int)))).toArray
def updN (o:Nat→Nat) (i v:Nat):Nat→Nat:=fun j=>if j=i then v else o j
theorem tabA_off (f:Int) (t:Nat) (o c:Nat→Nat) {i:Nat} (hi:i <7):(tabA f t o c)[2+i]? =some (.int .i64 ((o i:Nat):Int)):=by
 obtain rfl |rfl |rfl |rfl |rfl |rfl |rfl:i=0∨i=1∨i=2∨i=3∨i=4∨i=5∨i=6:=by omega
 all_goals rfl
theorem tabA_cnt (f:Int) (t:Nat) (o c:Nat→Nat) {i:Nat} (hi:i <7):(tabA f t o c)[9+i]? =some (.int .i64 ((c i:Nat):Int)):=by
 obtain rfl |rfl |rfl |rfl |rfl |rfl |rfl:i=0∨i=1∨i=2∨i=3∨i=4∨i=5∨i=6:=by omega
 all_goals rfl
theorem tabA_setO (f:Int) (t:Nat) (o c:Nat→Nat) {i v:Nat} (hi:i <7):(tabA f t o c).setIfInBounds (2+i) (.int .i64 (v:Int))=tabA f t (updN o i v) c:=by
 obtain rfl |rfl |rfl |rfl |rfl |rfl |rfl:i=0∨i=1∨i=2∨i=3∨i=4∨i=5∨i=6:=by omega
 all_goals rfl
theorem tabA_setC (f:Int) (t:Nat) (o c:Nat→Nat) {i v:Nat} (hi:i <7):(tabA f t o c).setIfInBounds (9+i) (.int .i64 (v:Int))=tabA f t o (updN c i v):=by
 obtain rfl |rfl |rfl |rfl |rfl |rfl |rfl:i=0∨i=1∨i=2∨i=3∨i=4∨i=5∨i=6:=by omega
 all_goals rfl
theorem tabA_setT (f:Int) (t:Nat) (o c:Nat→Nat) (v:Nat):(tabA f t o c).setIfInBounds 1 (.int .i64 (v:Int))=tabA f v o c:=rfl
structure FTab where
 o:Nat→Nat
 c:Nat→Nat
 at_:Nat
def ftab0:FTab:=⟨fun _=>0,fun _=>0,80⟩
def fstep (n:Nat→Nat) (s:FTab) (x:Fin 6):FTab:=⟨updN s.o (x.1+1) s.at_,updN s.c (x.1+1) (n (x.1+1)),alnN (s.at_+n (x.1+1)*secSz (x.1+1))⟩
def ftab (n:Nat→Nat) (pre:List (Fin 6)):FTab:=pre.foldl (fstep n) ftab0
theorem ftab_next (n:Nat→Nat) (pre:List (Fin 6)) (x:Fin 6):ftab n (pre++ [x])=fstep n (ftab n pre) x:=by unfold ftab;rw [List.foldl_append];rfl
theorem fat_le {n:Nat→Nat} (hn: ∀s,n s≤1048576) (pre:List (Fin 6)):(ftab n pre).at_≤80+pre.length*58720271:=by
 have: ∀(l:List (Fin 6)) (s:FTab) (b:Nat),s.at_≤b→(l.foldl (fstep n) s).at_≤b+l.length*58720271:=by
  intro l
  induction l with
  |nil=>intro s b h;simpa using h
  |cons x r ih=>
   intro s b h
   have h2:=(alnN_le (s.at_+n (x.1+1)*secSz (x.1+1))).2
   have h3:secSz (x.1+1)≤56:=by
    unfold secSz
    split<;>omega
   have h4:=Nat.mul_le_mul (hn (x.1+1)) h3
   have h5:(fstep n s x).at_≤b+58720271:=by
    show alnN (s.at_+n (x.1+1)*secSz (x.1+1))≤_
    omega
   have:=ih (fstep n s x) (b+58720271) h5
   rw [List.foldl_cons,List.length_cons]
   omega
 exact this pre ftab0 80 (Nat.le_refl _)
theorem ftab_whole (f:Int) (n:Nat→Nat):tabA f (offT n 6+4) (ftab n secs).o (ftab n secs).c=tabCl f n∧(ftab n secs).at_=offT n 6:=⟨rfl,rfl⟩
end Go.Proofs.YteelncofiodflaaGreat
