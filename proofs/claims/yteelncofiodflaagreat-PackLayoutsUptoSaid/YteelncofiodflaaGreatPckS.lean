/-
  The sections of an image as package pack writes them, walked: heads and links, and put at each kind of record. Condition: at most 16777216 bytes.
-/
import Derived.BigQuiet
import Derived.Test.YteelncofiodflaaGreatRecW
namespace Go.Proofs.YteelncofiodflaaGreat
open Go.RowKit
def hd3 (a b c:Int):Nat→List Nat
 |0=> []
 |1=>leB a.toNat 2
 |2=>leB a.toNat 2++leB b.toNat 2
 |_=>leB a.toNat 2++leB b.toNat 2++leB c.toNat 2
def hdC (t:Int × Int × Int):List Value:= [.int .u16 t.1, .int .u16 t.2.1, .int .u16 t.2.2]
def lkC (t:Int × Int):List Value:= [.int .u16 t.1, .int .u16 t.2]
def hdB3 (t:Int × Int × Int):List Nat:=leB t.1.toNat 2++leB t.2.1.toNat 2++leB t.2.2.toNat 2++zsB 2
def hdOk (t:Int × Int × Int):Prop:=wU16 t.1∧wU16 t.2.1∧wU16 t.2.2
def lkOk (t:Int × Int):Prop:=wU16 t.1∧wU16 t.2
set_option maxRecDepth 100000 in
set_option maxHeartbeats 2000000 in
theorem putHead_ok (g:Nat) (l:List Nat) (t:Int × Int × Int) (ht:hdOk t) (W:World) (h:BufS W g l) (hl:l.length+64≤16777216):
  Calls Tryz.prog 30 #[.pointer (some ⟨g,0,none⟩), .agg #[.int .u16 t.1, .int .u16 t.2.1, .int .u16 t.2.2]] W fun e w'=>e= .returned (.tuple #[])∧BufS w' g (l++hdB3 t)∧BKeep g W w':=by
 obtain ⟨a,b,c⟩:=t
 obtain ⟨ha,hb,hc⟩:=ht
 have ba:=Go.bounds_u16 ha
 have bb:=Go.bounds_u16 hb
 have bc:=Go.bounds_u16 hc
 simp only at ba bb bc
 obtain ⟨w0,hw0⟩: ∃w0,W.alloc (.cells #[.int .u16 a, .int .u16 b, .int .u16 c] 81)=w0:=⟨_,rfl⟩
 obtain ⟨w1,hw1⟩: ∃w1,w0.alloc (.cells #[.int .u16 a, .int .u16 b, .int .u16 c] 47)=w1:=⟨_,rfl⟩
 have hb0:Blk w0 W.heap.size 81 #[.int .u16 a, .int .u16 b, .int .u16 c]:=by rw [←hw0];exact Blk.new W _ _
 have e0:w0.heap.size=W.heap.size+1:=by rw [←hw0];simp
 have HX:=Lib.hid (show BKeep g W w1 by rw [←hw1];exact (show BKeep g W w0 by rw [←hw0];exact (BKeep.refl g W).alloc (Nat.le_of_lt h.lt) _).alloc (by have:=h.lt;omega) _)
 have HS:=Lib.hid (show BufS w1 g l by rw [←hw1];exact (show BufS w0 g l by rw [←hw0];exact h.alloc _).alloc _)
 have HB:=Lib.hid (show Blk w1 (W.heap.size+1) 47 #[.int .u16 a, .int .u16 b, .int .u16 c] by rw [←hw1, ←e0];exact Blk.new w0 _ _)
 have q0:=hb0.cell 0
 have q1:=hb0.cell 1
 have q2:=hb0.cell 2
 have qz:=hb0.lt
 simp at q0 q1 q2
 have HW:=Lib.hid hw0
 have HW1:=Lib.hid hw1
 have HE:=Lib.hid e0
 clear hw0 hw1 hb0 e0 h ha hb hc
 go_enter Tryz.func30,Tryz.ntmps30
 go_upto_region 1 with (fail)
 rw [HW.out]
 go_wp2_with fail
 rw [HW1.out,HE.out]
 clear q0 q1 q2 qz
 generalize hqb:W.heap.size+1=qb at*
 go_loopw [5,14] (fun _ i wr=> ∃k:Nat,k≤3∧i= .int .i64 k∧Hid (BufS wr g (l++hd3 a b c k))∧Hid (BKeep g w1 wr)) (fun _ i _=>3 -(intOf i).toNat)
 case atStart=>exact ⟨0,Nat.zero_le _,rfl,Lib.hid (by simpa [hd3] using HS.out),Lib.hid (BKeep.refl _ _)⟩
 case round=>
  obtain ⟨k,hk,rfl,HS,HK⟩:=hrel
  have HB2:=Lib.hid (HK.out.blk HB.out (by decide) (by decide))
  have q0:=HB2.out.cell 0
  have q1:=HB2.out.cell 1
  have q2:=HB2.out.cell 2
  have qz:=HB2.out.lt
  simp at q0 q1 q2
  obtain rfl |rfl |rfl |rfl:k=0∨k=1∨k=2∨k=3:=by omega
  ·go_wp2_with fail
   refine (b16_ok g a _ _ HS.out (by omega) (by omega) (by simp only [hd3,List.length_append,List.length_nil];omega)).mono ?_
   rintro e w2 ⟨rfl,h5,h6⟩
   have H5:=Lib.hid h5
   have H6:=Lib.hid (HK.out.trans h6)
   clear h5 h6 q0 q1 q2 qz
   go_wp2
   go_roundw
   case rel=>exact ⟨1,by omega,by go_num,Lib.hid (by simpa [hd3] using H5.out),H6⟩
   case measure=>simp [intOf]
  ·go_wp2_with fail
   refine (b16_ok g b _ _ HS.out (by omega) (by omega) (by simp only [hd3,List.length_append,leB_len];omega)).mono ?_
   rintro e w2 ⟨rfl,h5,h6⟩
   have H5:=Lib.hid h5
   have H6:=Lib.hid (HK.out.trans h6)
   clear h5 h6 q0 q1 q2 qz
   go_wp2
   go_roundw
   case rel=>exact ⟨2,by omega,by go_num,Lib.hid (by simpa [hd3] using H5.out),H6⟩
   case measure=>simp [intOf]
  ·go_wp2_with fail
   refine (b16_ok g c _ _ HS.out (by omega) (by omega) (by simp only [hd3,List.length_append,leB_len];omega)).mono ?_
   rintro e w2 ⟨rfl,h5,h6⟩
   have H5:=Lib.hid h5
   have H6:=Lib.hid (HK.out.trans h6)
   clear h5 h6 q0 q1 q2 qz
   go_wp2
   go_roundw
   case rel=>exact ⟨3,by omega,by go_num,Lib.hid (by simpa [hd3] using H5.out),H6⟩
   case measure=>simp [intOf]
  ·clear q0 q1 q2 qz
   go_wp2_with fail
   refine (bZeros_ok g 2 2 rfl _ _ HS.out (by omega) (by simp only [hd3,List.length_append,leB_len];omega)).mono ?_
   rintro e w2 ⟨rfl,h5,h6⟩
   have H5:=Lib.hid h5
   have H6:=Lib.hid (HX.out.trans (HK.out.trans h6))
   clear h5 h6
   go_wp2
   go_end0
   refine ⟨rfl, ?_,H6.out⟩
   have h7:=H5.out
   unfold hdB3
   simpa [hd3,List.append_assoc] using h7
set_option maxRecDepth 100000 in
set_option maxHeartbeats 2000000 in
theorem putLink_ok (g:Nat) (l:List Nat) (t:Int × Int) (ht:lkOk t) (W:World) (h:BufS W g l) (hl:l.length+64≤16777216):
  Calls Tryz.prog 32 #[.pointer (some ⟨g,0,none⟩), .agg #[.int .u16 t.1, .int .u16 t.2]] W fun e w'=>e= .returned (.tuple #[])∧BufS w' g (l++lkB t)∧BKeep g W w':=by
 have b_a:=Go.bounds_u16 ht.1
 have b_b:=Go.bounds_u16 ht.2
 obtain ⟨w0,hw0⟩: ∃w0,W.alloc (.cells #[.int .u16 t.1, .int .u16 t.2] 85)=w0:=⟨_,rfl⟩
 have hX0:BKeep g W w0:=by rw [←hw0];exact (BKeep.refl g W).alloc (Nat.le_of_lt h.lt) _
 have HX:=Lib.hid hX0
 have HS:=Lib.hid (show BufS w0 g l by rw [←hw0];exact h.alloc _)
 have hB0:Blk w0 W.heap.size 85 #[.int .u16 t.1, .int .u16 t.2]:=by rw [←hw0];exact Blk.new W _ _
 have HB:=Lib.hid hB0
 have HW:=Lib.hid hw0
 have q0:=HB.out.cell 0
 have q1:=HB.out.cell 1
 have qz:=HB.out.lt
 simp at q0 q1
 clear hw0 hX0 hB0 h
 go_enter Tryz.func32,Tryz.ntmps32
 go_upto_region 1 with (fail)
 rw [HW.out]
 generalize W.heap.size=qb at*
 go_wp2_with fail
 refine (b16_ok g t.1 _ _ HS.out (by omega) (by omega) (by omega)).mono ?_
 rintro e w1 ⟨rfl,h5,h6⟩
 have HS:=Lib.hid h5
 have HB:=Lib.hid (h6.blk HB.out (by decide) (by decide))
 have HX:=Lib.hid (HX.out.trans h6)
 clear h5 h6 q0 q1 qz
 have q0:=HB.out.cell 0
 have q1:=HB.out.cell 1
 have qz:=HB.out.lt
 simp at q0 q1
 go_wp2_with fail
 refine (b16_ok g t.2 _ _ HS.out (by omega) (by omega) (by simp only [List.length_append,leB_len];omega)).mono ?_
 rintro e w2 ⟨rfl,h5,h6⟩
 have HS:=Lib.hid h5
 have HB:=Lib.hid (h6.blk HB.out (by decide) (by decide))
 have HX:=Lib.hid (HX.out.trans h6)
 clear h5 h6 q0 q1 qz
 have q0:=HB.out.cell 0
 have q1:=HB.out.cell 1
 have qz:=HB.out.lt
 simp at q0 q1
 go_wp2_with fail
 refine (bZeros_ok g 4 4 rfl _ _ HS.out (by omega) (by simp only [List.length_append,leB_len];omega)).mono ?_
 rintro e w3 ⟨rfl,h5,h6⟩
 have HS:=Lib.hid h5
 have HB:=Lib.hid (h6.blk HB.out (by decide) (by decide))
 have HX:=Lib.hid (HX.out.trans h6)
 clear h5 h6 q0 q1 qz
 have q0:=HB.out.cell 0
 have q1:=HB.out.cell 1
 have qz:=HB.out.lt
 simp at q0 q1
 clear q0 q1 qz
 go_wp2
 go_end0
 refine ⟨rfl, ?_,HX.out⟩
 have h7:=HS.out
 unfold lkB
 simp only [←List.append_assoc]
 exact h7
theorem hdB3_len (t:Int × Int × Int):(hdB3 t).length=8:=by simp [hdB3,leB_len,zsB_len]
set_option maxRecDepth 100000 in
set_option maxHeartbeats 4000000 in
theorem pPutPar_ok (g:Nat) (l0:List Nat) (l:List (Par)) (hx: ∀x ∈ l,Par.ok x) (A:Option Addr) (c:Nat) (W:World) (h:BufS W g l0) (hr:Rd W g 4 A l.length (l.flatMap Par.cells)) (hl:l0.length+l.length*56+100≤16777216):
  Calls Tryz.prog 21 #[.pointer (some ⟨g,0,none⟩), .slice A l.length c, .func (.func 22) #[] #[]] W fun e w'=>e= .returned (.tuple #[])∧BufS w' g (algB (l0++l.flatMap parB))∧BKeep g W w':=by
 have hent: ∀a w,(callFunc 22 a).run Tryz.prog w= .ok (.enter 22 a) w:=enters_of Tryz.func22 (by kernel_rfl) rfl
 have hen2: ∀a w,(callFunc 87 a).run Tryz.prog w= .ok (.enter 87 a) w:=enters_of Tryz.func87 (by kernel_rfl) rfl
 have HS:=Lib.hid h
 have HR:=Lib.hid hr
 have HX:=Lib.hid hx
 have hbd:l.length≤16777216:=by omega
 have HL:=Lib.hid hl
 clear h hr hx hl
 go_enter Tryz.func21,Tryz.ntmps21
 go_wp2
 go_loopw [7,11] (fun _ i wr=> ∃k:Nat,k≤l.length∧i= .int .i64 k∧Hid (BufS wr g (l0++(l.take k).flatMap parB))∧Hid (BKeep g W wr)) (fun _ i _=>l.length -(intOf i).toNat)
 case atStart=>exact ⟨0,Nat.zero_le _,rfl,Lib.hid (by simpa using HS.out),Lib.hid (BKeep.refl _ _)⟩
 case round=>
  obtain ⟨k,hk,rfl,HB,HK⟩:=hrel
  have HLK:=Lib.hid (show (l0++(l.take k).flatMap parB).length+64≤16777216 by
   have h1:=HL.out
   rw [List.length_append,flat_lenN parB 56 parB_len,List.length_take,Nat.min_eq_left hk]
   omega)
  by_cases hlt:k <l.length
  ·obtain ⟨x,hxk⟩:=get_lt hlt
   have HXK:=Lib.hid (HX.out x (List.mem_of_getElem? hxk))
   have HT:=Lib.hid (show (l0++(l.take k).flatMap parB)++parB x=l0++(l.take (k+1)).flatMap parB by rw [take_next hxk,List.flatMap_append,List.append_assoc];simp)
   have k0:(0:Int)≤(k:Int):=by omega
   have k1:(k:Int) <(l.length:Int):=by omega
   obtain ⟨b,o,rfl,hb,hc⟩:=Rd.get (f:=Par.cells) (sz:=4) (fun _=>rfl) (HR.out.below HK.out.bel) hxk
   have hbz:b <wr.heap.size:=Nat.lt_trans hb HB.out.lt
   have g0:=hc 0 _ rfl
   have g1:=hc 1 _ rfl
   have g2:=hc 2 _ rfl
   have g3:=hc 3 _ rfl
   rw [Nat.add_zero] at g0
   clear hc hxk hb
   go_wp2_with fail
   refine (putPar_ok g _ x HXK.out _ (HB.out.alloc _) HLK.out).mono ?_
   rintro e w2 ⟨rfl,h5,h6⟩
   rw [HT.out] at h5
   have HB2:=Lib.hid h5
   have HK2:=Lib.hid (HK.out.trans ((BKeep.of_below (below_one wr _) (Nat.le_of_lt HB.out.lt)).trans h6))
   clear h5 h6 g0 g1 g2 g3 hbz
   go_wp2
   go_roundw
   case rel=>exact ⟨k+1,by omega,by go_num,HB2,HK2⟩
   case measure=>simp [intOf];omega
  ·obtain rfl:k=l.length:=by omega
   have HE:=Lib.hid (show l.take l.length=l from List.take_length)
   go_wp2_with fail
   refine (bAlign_ok g _ wr HB.out (by have:=HLK.out;omega)).mono ?_
   rintro e w2 ⟨rfl,h5,h6⟩
   rw [HE.out] at h5
   have H5:=Lib.hid h5
   have H6:=Lib.hid (HK.out.trans h6)
   clear h5 h6
   go_wp2
   go_end0
   exact ⟨rfl,H5.out,H6.out⟩
set_option maxRecDepth 100000 in
set_option maxHeartbeats 4000000 in
theorem pPutWin_ok (g:Nat) (l0:List Nat) (l:List (Win)) (hx: ∀x ∈ l,Win.ok x) (A:Option Addr) (c:Nat) (W:World) (h:BufS W g l0) (hr:Rd W g 3 A l.length (l.flatMap Win.cells)) (hl:l0.length+l.length*24+100≤16777216):
  Calls Tryz.prog 23 #[.pointer (some ⟨g,0,none⟩), .slice A l.length c, .func (.func 24) #[] #[]] W fun e w'=>e= .returned (.tuple #[])∧BufS w' g (algB (l0++l.flatMap winB))∧BKeep g W w':=by
 have hent: ∀a w,(callFunc 24 a).run Tryz.prog w= .ok (.enter 24 a) w:=enters_of Tryz.func24 (by kernel_rfl) rfl
 have hen2: ∀a w,(callFunc 87 a).run Tryz.prog w= .ok (.enter 87 a) w:=enters_of Tryz.func87 (by kernel_rfl) rfl
 have HS:=Lib.hid h
 have HR:=Lib.hid hr
 have HX:=Lib.hid hx
 have hbd:l.length≤16777216:=by omega
 have HL:=Lib.hid hl
 clear h hr hx hl
 go_enter Tryz.func23,Tryz.ntmps23
 go_wp2
 go_loopw [7,11] (fun _ i wr=> ∃k:Nat,k≤l.length∧i= .int .i64 k∧Hid (BufS wr g (l0++(l.take k).flatMap winB))∧Hid (BKeep g W wr)) (fun _ i _=>l.length -(intOf i).toNat)
 case atStart=>exact ⟨0,Nat.zero_le _,rfl,Lib.hid (by simpa using HS.out),Lib.hid (BKeep.refl _ _)⟩
 case round=>
  obtain ⟨k,hk,rfl,HB,HK⟩:=hrel
  have HLK:=Lib.hid (show (l0++(l.take k).flatMap winB).length+64≤16777216 by
   have h1:=HL.out
   rw [List.length_append,flat_lenN winB 24 winB_len,List.length_take,Nat.min_eq_left hk]
   omega)
  by_cases hlt:k <l.length
  ·obtain ⟨x,hxk⟩:=get_lt hlt
   have HXK:=Lib.hid (HX.out x (List.mem_of_getElem? hxk))
   have HT:=Lib.hid (show (l0++(l.take k).flatMap winB)++winB x=l0++(l.take (k+1)).flatMap winB by rw [take_next hxk,List.flatMap_append,List.append_assoc];simp)
   have k0:(0:Int)≤(k:Int):=by omega
   have k1:(k:Int) <(l.length:Int):=by omega
   obtain ⟨b,o,rfl,hb,hc⟩:=Rd.get (f:=Win.cells) (sz:=3) (fun _=>rfl) (HR.out.below HK.out.bel) hxk
   have hbz:b <wr.heap.size:=Nat.lt_trans hb HB.out.lt
   have g0:=hc 0 _ rfl
   have g1:=hc 1 _ rfl
   have g2:=hc 2 _ rfl
   rw [Nat.add_zero] at g0
   clear hc hxk hb
   go_wp2_with fail
   refine (putWin_ok g _ x HXK.out _ (HB.out.alloc _) HLK.out).mono ?_
   rintro e w2 ⟨rfl,h5,h6⟩
   rw [HT.out] at h5
   have HB2:=Lib.hid h5
   have HK2:=Lib.hid (HK.out.trans ((BKeep.of_below (below_one wr _) (Nat.le_of_lt HB.out.lt)).trans h6))
   clear h5 h6 g0 g1 g2 hbz
   go_wp2
   go_roundw
   case rel=>exact ⟨k+1,by omega,by go_num,HB2,HK2⟩
   case measure=>simp [intOf];omega
  ·obtain rfl:k=l.length:=by omega
   have HE:=Lib.hid (show l.take l.length=l from List.take_length)
   go_wp2_with fail
   refine (bAlign_ok g _ wr HB.out (by have:=HLK.out;omega)).mono ?_
   rintro e w2 ⟨rfl,h5,h6⟩
   rw [HE.out] at h5
   have H5:=Lib.hid h5
   have H6:=Lib.hid (HK.out.trans h6)
   clear h5 h6
   go_wp2
   go_end0
   exact ⟨rfl,H5.out,H6.out⟩
set_option maxRecDepth 100000 in
set_option maxHeartbeats 4000000 in
theorem pPutReg_ok (g:Nat) (l0:List Nat) (l:List (Reg)) (hx: ∀x ∈ l,Reg.ok x) (A:Option Addr) (c:Nat) (W:World) (h:BufS W g l0) (hr:Rd W g 5 A l.length (l.flatMap Reg.cells)) (hl:l0.length+l.length*24+100≤16777216):
  Calls Tryz.prog 25 #[.pointer (some ⟨g,0,none⟩), .slice A l.length c, .func (.func 26) #[] #[]] W fun e w'=>e= .returned (.tuple #[])∧BufS w' g (algB (l0++l.flatMap regB))∧BKeep g W w':=by
 have hent: ∀a w,(callFunc 26 a).run Tryz.prog w= .ok (.enter 26 a) w:=enters_of Tryz.func26 (by kernel_rfl) rfl
 have hen2: ∀a w,(callFunc 87 a).run Tryz.prog w= .ok (.enter 87 a) w:=enters_of Tryz.func87 (by kernel_rfl) rfl
 have HS:=Lib.hid h
 have HR:=Lib.hid hr
 have HX:=Lib.hid hx
 have hbd:l.length≤16777216:=by omega
 have HL:=Lib.hid hl
 clear h hr hx hl
 go_enter Tryz.func25,Tryz.ntmps25
 go_wp2
 go_loopw [7,11] (fun _ i wr=> ∃k:Nat,k≤l.length∧i= .int .i64 k∧Hid (BufS wr g (l0++(l.take k).flatMap regB))∧Hid (BKeep g W wr)) (fun _ i _=>l.length -(intOf i).toNat)
 case atStart=>exact ⟨0,Nat.zero_le _,rfl,Lib.hid (by simpa using HS.out),Lib.hid (BKeep.refl _ _)⟩
 case round=>
  obtain ⟨k,hk,rfl,HB,HK⟩:=hrel
  have HLK:=Lib.hid (show (l0++(l.take k).flatMap regB).length+64≤16777216 by
   have h1:=HL.out
   rw [List.length_append,flat_lenN regB 24 regB_len,List.length_take,Nat.min_eq_left hk]
   omega)
  by_cases hlt:k <l.length
  ·obtain ⟨x,hxk⟩:=get_lt hlt
   have HXK:=Lib.hid (HX.out x (List.mem_of_getElem? hxk))
   have HT:=Lib.hid (show (l0++(l.take k).flatMap regB)++regB x=l0++(l.take (k+1)).flatMap regB by rw [take_next hxk,List.flatMap_append,List.append_assoc];simp)
   have k0:(0:Int)≤(k:Int):=by omega
   have k1:(k:Int) <(l.length:Int):=by omega
   obtain ⟨b,o,rfl,hb,hc⟩:=Rd.get (f:=Reg.cells) (sz:=5) (fun _=>rfl) (HR.out.below HK.out.bel) hxk
   have hbz:b <wr.heap.size:=Nat.lt_trans hb HB.out.lt
   have g0:=hc 0 _ rfl
   have g1:=hc 1 _ rfl
   have g2:=hc 2 _ rfl
   have g3:=hc 3 _ rfl
   have g4:=hc 4 _ rfl
   rw [Nat.add_zero] at g0
   clear hc hxk hb
   go_wp2_with fail
   refine (putReg_ok g _ x HXK.out _ (HB.out.alloc _) HLK.out).mono ?_
   rintro e w2 ⟨rfl,h5,h6⟩
   rw [HT.out] at h5
   have HB2:=Lib.hid h5
   have HK2:=Lib.hid (HK.out.trans ((BKeep.of_below (below_one wr _) (Nat.le_of_lt HB.out.lt)).trans h6))
   clear h5 h6 g0 g1 g2 g3 g4 hbz
   go_wp2
   go_roundw
   case rel=>exact ⟨k+1,by omega,by go_num,HB2,HK2⟩
   case measure=>simp [intOf];omega
  ·obtain rfl:k=l.length:=by omega
   have HE:=Lib.hid (show l.take l.length=l from List.take_length)
   go_wp2_with fail
   refine (bAlign_ok g _ wr HB.out (by have:=HLK.out;omega)).mono ?_
   rintro e w2 ⟨rfl,h5,h6⟩
   rw [HE.out] at h5
   have H5:=Lib.hid h5
   have H6:=Lib.hid (HK.out.trans h6)
   clear h5 h6
   go_wp2
   go_end0
   exact ⟨rfl,H5.out,H6.out⟩
set_option maxRecDepth 100000 in
set_option maxHeartbeats 4000000 in
theorem pPutPrt_ok (g:Nat) (l0:List Nat) (l:List (Prt)) (hx: ∀x ∈ l,Prt.ok x) (A:Option Addr) (c:Nat) (W:World) (h:BufS W g l0) (hr:Rd W g 6 A l.length (l.flatMap Prt.cells)) (hl:l0.length+l.length*48+100≤16777216):
  Calls Tryz.prog 27 #[.pointer (some ⟨g,0,none⟩), .slice A l.length c, .func (.func 28) #[] #[]] W fun e w'=>e= .returned (.tuple #[])∧BufS w' g (algB (l0++l.flatMap prtB))∧BKeep g W w':=by
 have hent: ∀a w,(callFunc 28 a).run Tryz.prog w= .ok (.enter 28 a) w:=enters_of Tryz.func28 (by kernel_rfl) rfl
 have hen2: ∀a w,(callFunc 87 a).run Tryz.prog w= .ok (.enter 87 a) w:=enters_of Tryz.func87 (by kernel_rfl) rfl
 have HS:=Lib.hid h
 have HR:=Lib.hid hr
 have HX:=Lib.hid hx
 have hbd:l.length≤16777216:=by omega
 have HL:=Lib.hid hl
 clear h hr hx hl
 go_enter Tryz.func27,Tryz.ntmps27
 go_wp2
 go_loopw [7,11] (fun _ i wr=> ∃k:Nat,k≤l.length∧i= .int .i64 k∧Hid (BufS wr g (l0++(l.take k).flatMap prtB))∧Hid (BKeep g W wr)) (fun _ i _=>l.length -(intOf i).toNat)
 case atStart=>exact ⟨0,Nat.zero_le _,rfl,Lib.hid (by simpa using HS.out),Lib.hid (BKeep.refl _ _)⟩
 case round=>
  obtain ⟨k,hk,rfl,HB,HK⟩:=hrel
  have HLK:=Lib.hid (show (l0++(l.take k).flatMap prtB).length+64≤16777216 by
   have h1:=HL.out
   rw [List.length_append,flat_lenN prtB 48 prtB_len,List.length_take,Nat.min_eq_left hk]
   omega)
  by_cases hlt:k <l.length
  ·obtain ⟨x,hxk⟩:=get_lt hlt
   have HXK:=Lib.hid (HX.out x (List.mem_of_getElem? hxk))
   have HT:=Lib.hid (show (l0++(l.take k).flatMap prtB)++prtB x=l0++(l.take (k+1)).flatMap prtB by rw [take_next hxk,List.flatMap_append,List.append_assoc];simp)
   have k0:(0:Int)≤(k:Int):=by omega
   have k1:(k:Int) <(l.length:Int):=by omega
   obtain ⟨b,o,rfl,hb,hc⟩:=Rd.get (f:=Prt.cells) (sz:=6) (fun _=>rfl) (HR.out.below HK.out.bel) hxk
   have hbz:b <wr.heap.size:=Nat.lt_trans hb HB.out.lt
   have g0:=hc 0 _ rfl
   have g1:=hc 1 _ rfl
   have g2:=hc 2 _ rfl
   have g3:=hc 3 _ rfl
   have g4:=hc 4 _ rfl
   have g5:=hc 5 _ rfl
   rw [Nat.add_zero] at g0
   clear hc hxk hb
   go_wp2_with fail
   refine (putPrt_ok g _ x HXK.out _ (HB.out.alloc _) HLK.out).mono ?_
   rintro e w2 ⟨rfl,h5,h6⟩
   rw [HT.out] at h5
   have HB2:=Lib.hid h5
   have HK2:=Lib.hid (HK.out.trans ((BKeep.of_below (below_one wr _) (Nat.le_of_lt HB.out.lt)).trans h6))
   clear h5 h6 g0 g1 g2 g3 g4 g5 hbz
   go_wp2
   go_roundw
   case rel=>exact ⟨k+1,by omega,by go_num,HB2,HK2⟩
   case measure=>simp [intOf];omega
  ·obtain rfl:k=l.length:=by omega
   have HE:=Lib.hid (show l.take l.length=l from List.take_length)
   go_wp2_with fail
   refine (bAlign_ok g _ wr HB.out (by have:=HLK.out;omega)).mono ?_
   rintro e w2 ⟨rfl,h5,h6⟩
   rw [HE.out] at h5
   have H5:=Lib.hid h5
   have H6:=Lib.hid (HK.out.trans h6)
   clear h5 h6
   go_wp2
   go_end0
   exact ⟨rfl,H5.out,H6.out⟩
set_option maxRecDepth 100000 in
set_option maxHeartbeats 4000000 in
theorem pPutHd_ok (g:Nat) (l0:List Nat) (l:List (Int × Int × Int)) (hx: ∀x ∈ l,hdOk x) (A:Option Addr) (c:Nat) (W:World) (h:BufS W g l0) (hr:Rd W g 3 A l.length (l.flatMap hdC)) (hl:l0.length+l.length*8+100≤16777216):
  Calls Tryz.prog 29 #[.pointer (some ⟨g,0,none⟩), .slice A l.length c, .func (.func 30) #[] #[]] W fun e w'=>e= .returned (.tuple #[])∧BufS w' g (algB (l0++l.flatMap hdB3))∧BKeep g W w':=by
 have hent: ∀a w,(callFunc 30 a).run Tryz.prog w= .ok (.enter 30 a) w:=enters_of Tryz.func30 (by kernel_rfl) rfl
 have hen2: ∀a w,(callFunc 87 a).run Tryz.prog w= .ok (.enter 87 a) w:=enters_of Tryz.func87 (by kernel_rfl) rfl
 have HS:=Lib.hid h
 have HR:=Lib.hid hr
 have HX:=Lib.hid hx
 have hbd:l.length≤16777216:=by omega
 have HL:=Lib.hid hl
 clear h hr hx hl
 go_enter Tryz.func29,Tryz.ntmps29
 go_wp2
 go_loopw [7,11] (fun _ i wr=> ∃k:Nat,k≤l.length∧i= .int .i64 k∧Hid (BufS wr g (l0++(l.take k).flatMap hdB3))∧Hid (BKeep g W wr)) (fun _ i _=>l.length -(intOf i).toNat)
 case atStart=>exact ⟨0,Nat.zero_le _,rfl,Lib.hid (by simpa using HS.out),Lib.hid (BKeep.refl _ _)⟩
 case round=>
  obtain ⟨k,hk,rfl,HB,HK⟩:=hrel
  have HLK:=Lib.hid (show (l0++(l.take k).flatMap hdB3).length+64≤16777216 by
   have h1:=HL.out
   rw [List.length_append,flat_lenN hdB3 8 hdB3_len,List.length_take,Nat.min_eq_left hk]
   omega)
  by_cases hlt:k <l.length
  ·obtain ⟨x,hxk⟩:=get_lt hlt
   have HXK:=Lib.hid (HX.out x (List.mem_of_getElem? hxk))
   have HT:=Lib.hid (show (l0++(l.take k).flatMap hdB3)++hdB3 x=l0++(l.take (k+1)).flatMap hdB3 by rw [take_next hxk,List.flatMap_append,List.append_assoc];simp)
   have k0:(0:Int)≤(k:Int):=by omega
   have k1:(k:Int) <(l.length:Int):=by omega
   obtain ⟨b,o,rfl,hb,hc⟩:=Rd.get (f:=hdC) (sz:=3) (fun _=>rfl) (HR.out.below HK.out.bel) hxk
   have hbz:b <wr.heap.size:=Nat.lt_trans hb HB.out.lt
   have g0:=hc 0 _ rfl
   have g1:=hc 1 _ rfl
   have g2:=hc 2 _ rfl
   rw [Nat.add_zero] at g0
   clear hc hxk hb
   go_wp2_with fail
   refine (putHead_ok g _ x HXK.out _ (HB.out.alloc _) HLK.out).mono ?_
   rintro e w2 ⟨rfl,h5,h6⟩
   rw [HT.out] at h5
   have HB2:=Lib.hid h5
   have HK2:=Lib.hid (HK.out.trans ((BKeep.of_below (below_one wr _) (Nat.le_of_lt HB.out.lt)).trans h6))
   clear h5 h6 g0 g1 g2 hbz
   go_wp2
   go_roundw
   case rel=>exact ⟨k+1,by omega,by go_num,HB2,HK2⟩
   case measure=>simp [intOf];omega
  ·obtain rfl:k=l.length:=by omega
   have HE:=Lib.hid (show l.take l.length=l from List.take_length)
   go_wp2_with fail
   refine (bAlign_ok g _ wr HB.out (by have:=HLK.out;omega)).mono ?_
   rintro e w2 ⟨rfl,h5,h6⟩
   rw [HE.out] at h5
   have H5:=Lib.hid h5
   have H6:=Lib.hid (HK.out.trans h6)
   clear h5 h6
   go_wp2
   go_end0
   exact ⟨rfl,H5.out,H6.out⟩
set_option maxRecDepth 100000 in
set_option maxHeartbeats 4000000 in
theorem pPutLk_ok (g:Nat) (l0:List Nat) (l:List (Int × Int)) (hx: ∀x ∈ l,lkOk x) (A:Option Addr) (c:Nat) (W:World) (h:BufS W g l0) (hr:Rd W g 2 A l.length (l.flatMap lkC)) (hl:l0.length+l.length*8+100≤16777216):
  Calls Tryz.prog 31 #[.pointer (some ⟨g,0,none⟩), .slice A l.length c, .func (.func 32) #[] #[]] W fun e w'=>e= .returned (.tuple #[])∧BufS w' g (algB (l0++l.flatMap lkB))∧BKeep g W w':=by
 have hent: ∀a w,(callFunc 32 a).run Tryz.prog w= .ok (.enter 32 a) w:=enters_of Tryz.func32 (by kernel_rfl) rfl
 have hen2: ∀a w,(callFunc 87 a).run Tryz.prog w= .ok (.enter 87 a) w:=enters_of Tryz.func87 (by kernel_rfl) rfl
 have HS:=Lib.hid h
 have HR:=Lib.hid hr
 have HX:=Lib.hid hx
 have hbd:l.length≤16777216:=by omega
 have HL:=Lib.hid hl
 clear h hr hx hl
 go_enter Tryz.func31,Tryz.ntmps31
 go_wp2
 go_loopw [7,11] (fun _ i wr=> ∃k:Nat,k≤l.length∧i= .int .i64 k∧Hid (BufS wr g (l0++(l.take k).flatMap lkB))∧Hid (BKeep g W wr)) (fun _ i _=>l.length -(intOf i).toNat)
 case atStart=>exact ⟨0,Nat.zero_le _,rfl,Lib.hid (by simpa using HS.out),Lib.hid (BKeep.refl _ _)⟩
 case round=>
  obtain ⟨k,hk,rfl,HB,HK⟩:=hrel
  have HLK:=Lib.hid (show (l0++(l.take k).flatMap lkB).length+64≤16777216 by
   have h1:=HL.out
   rw [List.length_append,flat_lenN lkB 8 lkB_len,List.length_take,Nat.min_eq_left hk]
   omega)
  by_cases hlt:k <l.length
  ·obtain ⟨x,hxk⟩:=get_lt hlt
   have HXK:=Lib.hid (HX.out x (List.mem_of_getElem? hxk))
   have HT:=Lib.hid (show (l0++(l.take k).flatMap lkB)++lkB x=l0++(l.take (k+1)).flatMap lkB by rw [take_next hxk,List.flatMap_append,List.append_assoc];simp)
   have k0:(0:Int)≤(k:Int):=by omega
   have k1:(k:Int) <(l.length:Int):=by omega
   obtain ⟨b,o,rfl,hb,hc⟩:=Rd.get (f:=lkC) (sz:=2) (fun _=>rfl) (HR.out.below HK.out.bel) hxk
   have hbz:b <wr.heap.size:=Nat.lt_trans hb HB.out.lt
   have g0:=hc 0 _ rfl
   have g1:=hc 1 _ rfl
   rw [Nat.add_zero] at g0
   clear hc hxk hb
   go_wp2_with fail
   refine (putLink_ok g _ x HXK.out _ (HB.out.alloc _) HLK.out).mono ?_
   rintro e w2 ⟨rfl,h5,h6⟩
   rw [HT.out] at h5
   have HB2:=Lib.hid h5
   have HK2:=Lib.hid (HK.out.trans ((BKeep.of_below (below_one wr _) (Nat.le_of_lt HB.out.lt)).trans h6))
   clear h5 h6 g0 g1 hbz
   go_wp2
   go_roundw
   case rel=>exact ⟨k+1,by omega,by go_num,HB2,HK2⟩
   case measure=>simp [intOf];omega
  ·obtain rfl:k=l.length:=by omega
   have HE:=Lib.hid (show l.take l.length=l from List.take_length)
   go_wp2_with fail
   refine (bAlign_ok g _ wr HB.out (by have:=HLK.out;omega)).mono ?_
   rintro e w2 ⟨rfl,h5,h6⟩
   rw [HE.out] at h5
   have H5:=Lib.hid h5
   have H6:=Lib.hid (HK.out.trans h6)
   clear h5 h6
   go_wp2
   go_end0
   exact ⟨rfl,H5.out,H6.out⟩
end Go.Proofs.YteelncofiodflaaGreat
