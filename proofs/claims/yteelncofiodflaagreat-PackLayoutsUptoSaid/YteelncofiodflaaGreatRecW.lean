/-
  The records of an image as package rec writes them, walked. Condition: at most 16777216 bytes.
-/
import Derived.BigQuiet
import Derived.Deep.RegionHeld3
import Derived.Deep.WholeRow
import Derived.Test.YteelncofiodflaaGreatBufZ
namespace Go.Proofs.YteelncofiodflaaGreat
open Go.RowKit
set_option maxRecDepth 100000 in
set_option maxHeartbeats 1000000 in
theorem recText_ok (g:Nat) (l:List Nat) (s:ByteArray) (W:World) (h:BufS W g l) (hl:l.length+30≤16777216):
  Calls Tryz.prog 90 #[.pointer (some ⟨g,0,none⟩), .string s] W fun e w'=>e= .returned (.tuple #[])∧BufS w' g (l++padB s)∧BKeep g W w':=by
 have HS:=Lib.hid h
 have HI:=Lib.hid (show (Tryz.prog.info? 208).map (·.size)=some (bytV (padB s)).toArray.size by rw [bytV_sz,padB_len];exact info_pad)
 have HO:=Lib.hid (show (#[.int .u8 0, .int .u8 0, .int .u8 0, .int .u8 0, .int .u8 0, .int .u8 0, .int .u8 0, .int .u8 0, .int .u8 0, .int .u8 0, .int .u8 0, .int .u8 0, .int .u8 0, .int .u8 0, .int .u8 0, .int .u8 0, .int .u8 0, .int .u8 0, .int .u8 0, .int .u8 0, .int .u8 0, .int .u8 0, .int .u8 0, .int .u8 0, .int .u8 0, .int .u8 0, .int .u8 0, .int .u8 0, .int .u8 0, .int .u8 0]:Array Value).size=(bytV (padB s)).toArray.size by rw [bytV_sz,padB_len];rfl)
 clear h
 go_enter Tryz.func90,Tryz.ntmps90
 go_wp2_with fail
 refine (namePad_ok s W).mono ?_
 rintro e w1 ⟨rfl,hb1⟩
 have HS1:=Lib.hid (HS.out.up hb1)
 have HK1:=Lib.hid (BKeep.of_below (g:=g) hb1 (Nat.le_of_lt HS.out.lt))
 clear hb1
 obtain ⟨w2,hw2⟩: ∃w2,w1.alloc (.cells (bytV (padB s)).toArray 208)=w2:=⟨_,rfl⟩
 have HS2:=Lib.hid (show BufS w2 g l by rw [←hw2];exact HS1.out.alloc _)
 have HK2:=Lib.hid (show BKeep g W w2 by rw [←hw2];exact HK1.out.alloc (Nat.le_of_lt HS1.out.lt) _)
 have HR:=Lib.hid (show Rd w2 w2.heap.size 1 (some ⟨w1.heap.size,0,none⟩) 30 (bytV (padB s)) by rw [←hw2];exact rd_lit w1 (bytV (padB s)).toArray _ 30 1 (by rw [bytV_sz,padB_len]))
 have HL2:=Lib.hid (show w1.heap.size <w2.heap.size by rw [←hw2];simp)
 have HZ:=Lib.hid (Blk.new w1 208 #[.int .u8 0, .int .u8 0, .int .u8 0, .int .u8 0, .int .u8 0, .int .u8 0, .int .u8 0, .int .u8 0, .int .u8 0, .int .u8 0, .int .u8 0, .int .u8 0, .int .u8 0, .int .u8 0, .int .u8 0, .int .u8 0, .int .u8 0, .int .u8 0, .int .u8 0, .int .u8 0, .int .u8 0, .int .u8 0, .int .u8 0, .int .u8 0, .int .u8 0, .int .u8 0, .int .u8 0, .int .u8 0, .int .u8 0, .int .u8 0])
 have HW2:=Lib.hid (show (w1.alloc (.cells #[.int .u8 0, .int .u8 0, .int .u8 0, .int .u8 0, .int .u8 0, .int .u8 0, .int .u8 0, .int .u8 0, .int .u8 0, .int .u8 0, .int .u8 0, .int .u8 0, .int .u8 0, .int .u8 0, .int .u8 0, .int .u8 0, .int .u8 0, .int .u8 0, .int .u8 0, .int .u8 0, .int .u8 0, .int .u8 0, .int .u8 0, .int .u8 0, .int .u8 0, .int .u8 0, .int .u8 0, .int .u8 0, .int .u8 0, .int .u8 0] 208)).setRow w1.heap.size (bytV (padB s)).toArray=w2 by rw [World.setRow_alloc_new,hw2])
 clear hw2
 go_wp2_with (first
  |(refine wpList_store_row rfl 208 (.tmp 4) (.tmp 6) rfl w1.heap.size (bytV (padB s)).toArray rfl rfl _ _ HZ.out HI.out HO.out (bytV_all _) ?_;rw [HW2.out];have hl2:=HL2.out)
  |fail)
 refine (bAdd_ok g l (padB s) _ 30 30 w2 HS2.out (by rw [padB_len]) HR.out (by rw [padB_len];exact hl)).mono ?_
 rintro e w3 ⟨rfl,h5,h6⟩
 have H5:=Lib.hid h5
 have H6:=Lib.hid (HK2.out.trans h6)
 clear h5 h6
 go_wp2
 go_end0
 exact ⟨rfl,H5.out,H6.out⟩
theorem recFlag_ok (b:Bool) (v r:Int) (hr:Hid ((if b then v else 0)=r)) (w:World):Calls Tryz.prog 91 #[.bool b, .int .u8 v] w fun e w'=>e= .returned (.int .u8 r)∧w'=w:=by
 cases b
 ·obtain rfl:(0:Int)=r:=hr.out
  clear hr
  go_enter Tryz.func91,Tryz.ntmps91
  go_wp2
  go_ret
  exact ⟨rfl,rfl⟩
 ·obtain rfl:v=r:=hr.out
  clear hr
  go_enter Tryz.func91,Tryz.ntmps91
  go_wp2
  go_ret
  exact ⟨rfl,rfl⟩
theorem below_drewB (w:World):Below w.heap.size w w.drew:=(Below.refl _ _).drew
theorem leB_mod (n:Nat):leB ((n:Int)%256).toNat 1=leB n 1:=by
 have:((n:Int)%256).toNat=n%256:=by omega
 rw [this]
 show [n%256%256]= [n%256]
 rw [Nat.mod_mod]
theorem leB_bit (b:Bool):leB (if b then (1:Int) else 0).toNat 1=leB (bitN b) 1:=by cases b<;>rfl
set_option maxRecDepth 100000 in
set_option maxHeartbeats 2000000 in
theorem putPar_ok (g:Nat) (l:List Nat) (x:Par) (hx:Par.ok x) (W:World) (h:BufS W g l) (hl:l.length+64≤16777216):
  Calls Tryz.prog 22 #[.pointer (some ⟨g,0,none⟩), .agg #[.int .u16 x.id, .string x.name, .int .u64 x.period, .int .u64 x.duration]] W fun e w'=>e= .returned (.tuple #[])∧BufS w' g (l++parB x)∧BKeep g W w':=by
 have b_id:=Go.bounds_u16 hx.id
 have b_pe:=Go.bounds_u64 hx.period
 have b_du:=Go.bounds_u64 hx.duration
 obtain ⟨w0,hw0⟩: ∃w0,W.alloc (.cells #[.int .u16 x.id, .string x.name, .int .u64 x.period, .int .u64 x.duration] 49)=w0:=⟨_,rfl⟩
 have hX0:BKeep g W w0:=by rw [←hw0];exact (BKeep.refl g W).alloc (Nat.le_of_lt h.lt) _
 have HX:=Lib.hid hX0
 have HS:=Lib.hid (show BufS w0 g l by rw [←hw0];exact h.alloc _)
 have hB0:Blk w0 W.heap.size 49 #[.int .u16 x.id, .string x.name, .int .u64 x.period, .int .u64 x.duration]:=by rw [←hw0];exact Blk.new W _ _
 have HB:=Lib.hid hB0
 have HW:=Lib.hid hw0
 have q0:=HB.out.cell 0
 have q1:=HB.out.cell 1
 have q2:=HB.out.cell 2
 have q3:=HB.out.cell 3
 have qz:=HB.out.lt
 simp at q0 q1 q2 q3
 clear hw0 hX0 hB0 h
 go_enter Tryz.func22,Tryz.ntmps22
 go_upto_region 1 with (fail)
 rw [HW.out]
 generalize W.heap.size=qb at*
 go_wp2_with fail
 refine (b16_ok g x.id _ _ HS.out (by omega) (by omega) (by omega)).mono ?_
 rintro e w1 ⟨rfl,h5,h6⟩
 have HS:=Lib.hid h5
 have HB:=Lib.hid (h6.blk HB.out (by decide) (by decide))
 have HX:=Lib.hid (HX.out.trans h6)
 clear h5 h6 q0 q1 q2 q3 qz
 have q0:=HB.out.cell 0
 have q1:=HB.out.cell 1
 have q2:=HB.out.cell 2
 have q3:=HB.out.cell 3
 have qz:=HB.out.lt
 simp at q0 q1 q2 q3
 go_wp2_with fail
 refine (b8_ok g (x.name.size%256) _ _ HS.out (by omega) (by omega) (by simp only [List.length_append,leB_len];omega)).mono ?_
 rintro e w2 ⟨rfl,h5,h6⟩
 rw [leB_mod] at h5
 have HS:=Lib.hid h5
 have HB:=Lib.hid (h6.blk HB.out (by decide) (by decide))
 have HX:=Lib.hid (HX.out.trans h6)
 clear h5 h6 q0 q1 q2 q3 qz
 have q0:=HB.out.cell 0
 have q1:=HB.out.cell 1
 have q2:=HB.out.cell 2
 have q3:=HB.out.cell 3
 have qz:=HB.out.lt
 simp at q0 q1 q2 q3
 go_wp2_with fail
 refine (bZeros_ok g 1 1 rfl _ _ HS.out (by omega) (by simp only [List.length_append,leB_len];omega)).mono ?_
 rintro e w3 ⟨rfl,h5,h6⟩
 have HS:=Lib.hid h5
 have HB:=Lib.hid (h6.blk HB.out (by decide) (by decide))
 have HX:=Lib.hid (HX.out.trans h6)
 clear h5 h6 q0 q1 q2 q3 qz
 have q0:=HB.out.cell 0
 have q1:=HB.out.cell 1
 have q2:=HB.out.cell 2
 have q3:=HB.out.cell 3
 have qz:=HB.out.lt
 simp at q0 q1 q2 q3
 go_wp2_with fail
 refine (recText_ok g _ x.name _ HS.out (by simp only [List.length_append,leB_len,zsB_len];omega)).mono ?_
 rintro e w4 ⟨rfl,h5,h6⟩
 have HS:=Lib.hid h5
 have HB:=Lib.hid (h6.blk HB.out (by decide) (by decide))
 have HX:=Lib.hid (HX.out.trans h6)
 clear h5 h6 q0 q1 q2 q3 qz
 have q0:=HB.out.cell 0
 have q1:=HB.out.cell 1
 have q2:=HB.out.cell 2
 have q3:=HB.out.cell 3
 have qz:=HB.out.lt
 simp at q0 q1 q2 q3
 go_wp2_with fail
 refine (bZeros_ok g 6 6 rfl _ _ HS.out (by omega) (by simp only [List.length_append,leB_len,zsB_len,padB_len];omega)).mono ?_
 rintro e w5 ⟨rfl,h5,h6⟩
 have HS:=Lib.hid h5
 have HB:=Lib.hid (h6.blk HB.out (by decide) (by decide))
 have HX:=Lib.hid (HX.out.trans h6)
 clear h5 h6 q0 q1 q2 q3 qz
 have q0:=HB.out.cell 0
 have q1:=HB.out.cell 1
 have q2:=HB.out.cell 2
 have q3:=HB.out.cell 3
 have qz:=HB.out.lt
 simp at q0 q1 q2 q3
 go_wp2_with fail
 refine (b64_ok g x.period _ _ HS.out (by omega) (by omega) (by simp only [List.length_append,leB_len,zsB_len,padB_len];omega)).mono ?_
 rintro e w6 ⟨rfl,h5,h6⟩
 have HS:=Lib.hid h5
 have HB:=Lib.hid (h6.blk HB.out (by decide) (by decide))
 have HX:=Lib.hid (HX.out.trans h6)
 clear h5 h6 q0 q1 q2 q3 qz
 have q0:=HB.out.cell 0
 have q1:=HB.out.cell 1
 have q2:=HB.out.cell 2
 have q3:=HB.out.cell 3
 have qz:=HB.out.lt
 simp at q0 q1 q2 q3
 go_wp2_with fail
 refine (b64_ok g x.duration _ _ HS.out (by omega) (by omega) (by simp only [List.length_append,leB_len,zsB_len,padB_len];omega)).mono ?_
 rintro e w7 ⟨rfl,h5,h6⟩
 have HS:=Lib.hid h5
 have HB:=Lib.hid (h6.blk HB.out (by decide) (by decide))
 have HX:=Lib.hid (HX.out.trans h6)
 clear h5 h6 q0 q1 q2 q3 qz
 have q0:=HB.out.cell 0
 have q1:=HB.out.cell 1
 have q2:=HB.out.cell 2
 have q3:=HB.out.cell 3
 have qz:=HB.out.lt
 simp at q0 q1 q2 q3
 clear q0 q1 q2 q3 qz
 go_wp2
 go_end0
 refine ⟨rfl, ?_,HX.out⟩
 have h7:=HS.out
 unfold parB
 simp only [←List.append_assoc]
 exact h7
set_option maxRecDepth 100000 in
set_option maxHeartbeats 2000000 in
theorem putWin_ok (g:Nat) (l:List Nat) (x:Win) (hx:Win.ok x) (W:World) (h:BufS W g l) (hl:l.length+64≤16777216):
  Calls Tryz.prog 24 #[.pointer (some ⟨g,0,none⟩), .agg #[.int .u64 x.start, .int .u64 x.len, .int .u16 x.part]] W fun e w'=>e= .returned (.tuple #[])∧BufS w' g (l++winB x)∧BKeep g W w':=by
 have b_st:=Go.bounds_u64 hx.start
 have b_le:=Go.bounds_u64 hx.len
 have b_pa:=Go.bounds_u16 hx.part
 obtain ⟨w0,hw0⟩: ∃w0,W.alloc (.cells #[.int .u64 x.start, .int .u64 x.len, .int .u16 x.part] 71)=w0:=⟨_,rfl⟩
 have hX0:BKeep g W w0:=by rw [←hw0];exact (BKeep.refl g W).alloc (Nat.le_of_lt h.lt) _
 have HX:=Lib.hid hX0
 have HS:=Lib.hid (show BufS w0 g l by rw [←hw0];exact h.alloc _)
 have hB0:Blk w0 W.heap.size 71 #[.int .u64 x.start, .int .u64 x.len, .int .u16 x.part]:=by rw [←hw0];exact Blk.new W _ _
 have HB:=Lib.hid hB0
 have HW:=Lib.hid hw0
 have q0:=HB.out.cell 0
 have q1:=HB.out.cell 1
 have q2:=HB.out.cell 2
 have qz:=HB.out.lt
 simp at q0 q1 q2
 clear hw0 hX0 hB0 h
 go_enter Tryz.func24,Tryz.ntmps24
 go_upto_region 1 with (fail)
 rw [HW.out]
 generalize W.heap.size=qb at*
 go_wp2_with fail
 refine (b64_ok g x.start _ _ HS.out (by omega) (by omega) (by omega)).mono ?_
 rintro e w1 ⟨rfl,h5,h6⟩
 have HS:=Lib.hid h5
 have HB:=Lib.hid (h6.blk HB.out (by decide) (by decide))
 have HX:=Lib.hid (HX.out.trans h6)
 clear h5 h6 q0 q1 q2 qz
 have q0:=HB.out.cell 0
 have q1:=HB.out.cell 1
 have q2:=HB.out.cell 2
 have qz:=HB.out.lt
 simp at q0 q1 q2
 go_wp2_with fail
 refine (b64_ok g x.len _ _ HS.out (by omega) (by omega) (by simp only [List.length_append,leB_len];omega)).mono ?_
 rintro e w2 ⟨rfl,h5,h6⟩
 have HS:=Lib.hid h5
 have HB:=Lib.hid (h6.blk HB.out (by decide) (by decide))
 have HX:=Lib.hid (HX.out.trans h6)
 clear h5 h6 q0 q1 q2 qz
 have q0:=HB.out.cell 0
 have q1:=HB.out.cell 1
 have q2:=HB.out.cell 2
 have qz:=HB.out.lt
 simp at q0 q1 q2
 go_wp2_with fail
 refine (b16_ok g x.part _ _ HS.out (by omega) (by omega) (by simp only [List.length_append,leB_len];omega)).mono ?_
 rintro e w3 ⟨rfl,h5,h6⟩
 have HS:=Lib.hid h5
 have HB:=Lib.hid (h6.blk HB.out (by decide) (by decide))
 have HX:=Lib.hid (HX.out.trans h6)
 clear h5 h6 q0 q1 q2 qz
 have q0:=HB.out.cell 0
 have q1:=HB.out.cell 1
 have q2:=HB.out.cell 2
 have qz:=HB.out.lt
 simp at q0 q1 q2
 go_wp2_with fail
 refine (bZeros_ok g 6 6 rfl _ _ HS.out (by omega) (by simp only [List.length_append,leB_len];omega)).mono ?_
 rintro e w4 ⟨rfl,h5,h6⟩
 have HS:=Lib.hid h5
 have HB:=Lib.hid (h6.blk HB.out (by decide) (by decide))
 have HX:=Lib.hid (HX.out.trans h6)
 clear h5 h6 q0 q1 q2 qz
 have q0:=HB.out.cell 0
 have q1:=HB.out.cell 1
 have q2:=HB.out.cell 2
 have qz:=HB.out.lt
 simp at q0 q1 q2
 clear q0 q1 q2 qz
 go_wp2
 go_end0
 refine ⟨rfl, ?_,HX.out⟩
 have h7:=HS.out
 unfold winB
 simp only [←List.append_assoc]
 exact h7
set_option maxRecDepth 100000 in
set_option maxHeartbeats 2000000 in
theorem putReg_ok (g:Nat) (l:List Nat) (x:Reg) (hx:Reg.ok x) (W:World) (h:BufS W g l) (hl:l.length+64≤16777216):
  Calls Tryz.prog 26 #[.pointer (some ⟨g,0,none⟩), .agg #[.int .u64 x.base, .int .u64 x.size, .int .u16 x.part, .int .u8 x.rights, .bool x.shared]] W fun e w'=>e= .returned (.tuple #[])∧BufS w' g (l++regB x)∧BKeep g W w':=by
 have b_ba:=Go.bounds_u64 hx.base
 have b_si:=Go.bounds_u64 hx.size
 have b_pa:=Go.bounds_u16 hx.part
 have b_ri:=Go.bounds_u8 hx.rights
 obtain ⟨w0,hw0⟩: ∃w0,W.alloc (.cells #[.int .u64 x.base, .int .u64 x.size, .int .u16 x.part, .int .u8 x.rights, .bool x.shared] 75)=w0:=⟨_,rfl⟩
 have hX0:BKeep g W w0:=by rw [←hw0];exact (BKeep.refl g W).alloc (Nat.le_of_lt h.lt) _
 have HX:=Lib.hid hX0
 have HS:=Lib.hid (show BufS w0 g l by rw [←hw0];exact h.alloc _)
 have hB0:Blk w0 W.heap.size 75 #[.int .u64 x.base, .int .u64 x.size, .int .u16 x.part, .int .u8 x.rights, .bool x.shared]:=by rw [←hw0];exact Blk.new W _ _
 have HB:=Lib.hid hB0
 have HW:=Lib.hid hw0
 have q0:=HB.out.cell 0
 have q1:=HB.out.cell 1
 have q2:=HB.out.cell 2
 have q3:=HB.out.cell 3
 have q4:=HB.out.cell 4
 have qz:=HB.out.lt
 simp at q0 q1 q2 q3 q4
 clear hw0 hX0 hB0 h
 go_enter Tryz.func26,Tryz.ntmps26
 go_upto_region 1 with (fail)
 rw [HW.out]
 generalize W.heap.size=qb at*
 go_wp2_with fail
 refine (b64_ok g x.base _ _ HS.out (by omega) (by omega) (by omega)).mono ?_
 rintro e w1 ⟨rfl,h5,h6⟩
 have HS:=Lib.hid h5
 have HB:=Lib.hid (h6.blk HB.out (by decide) (by decide))
 have HX:=Lib.hid (HX.out.trans h6)
 clear h5 h6 q0 q1 q2 q3 q4 qz
 have q0:=HB.out.cell 0
 have q1:=HB.out.cell 1
 have q2:=HB.out.cell 2
 have q3:=HB.out.cell 3
 have q4:=HB.out.cell 4
 have qz:=HB.out.lt
 simp at q0 q1 q2 q3 q4
 go_wp2_with fail
 refine (b64_ok g x.size _ _ HS.out (by omega) (by omega) (by simp only [List.length_append,leB_len];omega)).mono ?_
 rintro e w2 ⟨rfl,h5,h6⟩
 have HS:=Lib.hid h5
 have HB:=Lib.hid (h6.blk HB.out (by decide) (by decide))
 have HX:=Lib.hid (HX.out.trans h6)
 clear h5 h6 q0 q1 q2 q3 q4 qz
 have q0:=HB.out.cell 0
 have q1:=HB.out.cell 1
 have q2:=HB.out.cell 2
 have q3:=HB.out.cell 3
 have q4:=HB.out.cell 4
 have qz:=HB.out.lt
 simp at q0 q1 q2 q3 q4
 go_wp2_with fail
 refine (b16_ok g x.part _ _ HS.out (by omega) (by omega) (by simp only [List.length_append,leB_len];omega)).mono ?_
 rintro e w3 ⟨rfl,h5,h6⟩
 have HS:=Lib.hid h5
 have HB:=Lib.hid (h6.blk HB.out (by decide) (by decide))
 have HX:=Lib.hid (HX.out.trans h6)
 clear h5 h6 q0 q1 q2 q3 q4 qz
 have q0:=HB.out.cell 0
 have q1:=HB.out.cell 1
 have q2:=HB.out.cell 2
 have q3:=HB.out.cell 3
 have q4:=HB.out.cell 4
 have qz:=HB.out.lt
 simp at q0 q1 q2 q3 q4
 go_wp2_with fail
 refine (b8_ok g x.rights _ _ HS.out (by omega) (by omega) (by simp only [List.length_append,leB_len];omega)).mono ?_
 rintro e w4 ⟨rfl,h5,h6⟩
 have HS:=Lib.hid h5
 have HB:=Lib.hid (h6.blk HB.out (by decide) (by decide))
 have HX:=Lib.hid (HX.out.trans h6)
 clear h5 h6 q0 q1 q2 q3 q4 qz
 have q0:=HB.out.cell 0
 have q1:=HB.out.cell 1
 have q2:=HB.out.cell 2
 have q3:=HB.out.cell 3
 have q4:=HB.out.cell 4
 have qz:=HB.out.lt
 simp at q0 q1 q2 q3 q4
 obtain ⟨fr,hfr⟩: ∃fr:Int,(if x.shared then (1:Int) else 0)=fr:=⟨_,rfl⟩
 have HFR:=Lib.hid hfr
 have hf0:0≤fr∧fr <256:=by rw [←hfr];cases x.shared<;>decide
 clear hfr
 go_wp2_with fail
 refine (recFlag_ok x.shared 1 fr HFR _).mono ?_
 rintro e wf ⟨rfl,rfl⟩
 go_wp2_with fail
 refine (b8_ok g fr _ _ HS.out hf0.1 hf0.2 (by simp only [List.length_append,leB_len];omega)).mono ?_
 rintro e w5 ⟨rfl,h5,h6⟩
 rw [←HFR.out,leB_bit] at h5
 have HS:=Lib.hid h5
 have HB:=Lib.hid (h6.blk HB.out (by decide) (by decide))
 have HX:=Lib.hid (HX.out.trans h6)
 clear h5 h6 q0 q1 q2 q3 q4 qz
 have q0:=HB.out.cell 0
 have q1:=HB.out.cell 1
 have q2:=HB.out.cell 2
 have q3:=HB.out.cell 3
 have q4:=HB.out.cell 4
 have qz:=HB.out.lt
 simp at q0 q1 q2 q3 q4
 go_wp2_with fail
 refine (bZeros_ok g 4 4 rfl _ _ HS.out (by omega) (by simp only [List.length_append,leB_len];omega)).mono ?_
 rintro e w6 ⟨rfl,h5,h6⟩
 have HS:=Lib.hid h5
 have HB:=Lib.hid (h6.blk HB.out (by decide) (by decide))
 have HX:=Lib.hid (HX.out.trans h6)
 clear h5 h6 q0 q1 q2 q3 q4 qz
 have q0:=HB.out.cell 0
 have q1:=HB.out.cell 1
 have q2:=HB.out.cell 2
 have q3:=HB.out.cell 3
 have q4:=HB.out.cell 4
 have qz:=HB.out.lt
 simp at q0 q1 q2 q3 q4
 clear q0 q1 q2 q3 q4 qz
 go_wp2
 go_end0
 refine ⟨rfl, ?_,HX.out⟩
 have h7:=HS.out
 unfold regB
 simp only [←List.append_assoc]
 exact h7
set_option maxRecDepth 100000 in
set_option maxHeartbeats 2000000 in
theorem putPrt_ok (g:Nat) (l:List Nat) (x:Prt) (hx:Prt.ok x) (W:World) (h:BufS W g l) (hl:l.length+64≤16777216):
  Calls Tryz.prog 28 #[.pointer (some ⟨g,0,none⟩), .agg #[.int .u16 x.id, .int .u16 x.part, .string x.name, .bool x.output, .bool x.queuing, .int .u32 x.size]] W fun e w'=>e= .returned (.tuple #[])∧BufS w' g (l++prtB x)∧BKeep g W w':=by
 have b_id:=Go.bounds_u16 hx.id
 have b_pa:=Go.bounds_u16 hx.part
 have b_si:=Go.bounds_u32 hx.size
 obtain ⟨w0,hw0⟩: ∃w0,W.alloc (.cells #[.int .u16 x.id, .int .u16 x.part, .string x.name, .bool x.output, .bool x.queuing, .int .u32 x.size] 52)=w0:=⟨_,rfl⟩
 have hX0:BKeep g W w0:=by rw [←hw0];exact (BKeep.refl g W).alloc (Nat.le_of_lt h.lt) _
 have HX:=Lib.hid hX0
 have HS:=Lib.hid (show BufS w0 g l by rw [←hw0];exact h.alloc _)
 have hB0:Blk w0 W.heap.size 52 #[.int .u16 x.id, .int .u16 x.part, .string x.name, .bool x.output, .bool x.queuing, .int .u32 x.size]:=by rw [←hw0];exact Blk.new W _ _
 have HB:=Lib.hid hB0
 have HW:=Lib.hid hw0
 have q0:=HB.out.cell 0
 have q1:=HB.out.cell 1
 have q2:=HB.out.cell 2
 have q3:=HB.out.cell 3
 have q4:=HB.out.cell 4
 have q5:=HB.out.cell 5
 have qz:=HB.out.lt
 simp at q0 q1 q2 q3 q4 q5
 clear hw0 hX0 hB0 h
 go_enter Tryz.func28,Tryz.ntmps28
 go_upto_region 1 with (fail)
 rw [HW.out]
 generalize W.heap.size=qb at*
 go_wp2_with fail
 refine (b16_ok g x.id _ _ HS.out (by omega) (by omega) (by omega)).mono ?_
 rintro e w1 ⟨rfl,h5,h6⟩
 have HS:=Lib.hid h5
 have HB:=Lib.hid (h6.blk HB.out (by decide) (by decide))
 have HX:=Lib.hid (HX.out.trans h6)
 clear h5 h6 q0 q1 q2 q3 q4 q5 qz
 have q0:=HB.out.cell 0
 have q1:=HB.out.cell 1
 have q2:=HB.out.cell 2
 have q3:=HB.out.cell 3
 have q4:=HB.out.cell 4
 have q5:=HB.out.cell 5
 have qz:=HB.out.lt
 simp at q0 q1 q2 q3 q4 q5
 go_wp2_with fail
 refine (b16_ok g x.part _ _ HS.out (by omega) (by omega) (by simp only [List.length_append,leB_len];omega)).mono ?_
 rintro e w2 ⟨rfl,h5,h6⟩
 have HS:=Lib.hid h5
 have HB:=Lib.hid (h6.blk HB.out (by decide) (by decide))
 have HX:=Lib.hid (HX.out.trans h6)
 clear h5 h6 q0 q1 q2 q3 q4 q5 qz
 have q0:=HB.out.cell 0
 have q1:=HB.out.cell 1
 have q2:=HB.out.cell 2
 have q3:=HB.out.cell 3
 have q4:=HB.out.cell 4
 have q5:=HB.out.cell 5
 have qz:=HB.out.lt
 simp at q0 q1 q2 q3 q4 q5
 go_wp2_with fail
 refine (b8_ok g (x.name.size%256) _ _ HS.out (by omega) (by omega) (by simp only [List.length_append,leB_len];omega)).mono ?_
 rintro e w3 ⟨rfl,h5,h6⟩
 rw [leB_mod] at h5
 have HS:=Lib.hid h5
 have HB:=Lib.hid (h6.blk HB.out (by decide) (by decide))
 have HX:=Lib.hid (HX.out.trans h6)
 clear h5 h6 q0 q1 q2 q3 q4 q5 qz
 have q0:=HB.out.cell 0
 have q1:=HB.out.cell 1
 have q2:=HB.out.cell 2
 have q3:=HB.out.cell 3
 have q4:=HB.out.cell 4
 have q5:=HB.out.cell 5
 have qz:=HB.out.lt
 simp at q0 q1 q2 q3 q4 q5
 obtain ⟨f1,hf1⟩: ∃f1:Int,(if x.output then (1:Int) else 0)=f1:=⟨_,rfl⟩
 obtain ⟨f2,hf2⟩: ∃f2:Int,(if x.queuing then (2:Int) else 0)=f2:=⟨_,rfl⟩
 obtain ⟨fr,hor,hfr⟩: ∃fr:Int,bits .or .u8 f1 f2=fr∧fr=((bitN x.output+2*bitN x.queuing:Nat):Int):=⟨_,rfl,by rw [←hf1, ←hf2];cases x.output<;>cases x.queuing<;>rfl⟩
 have HF1:=Lib.hid hf1
 have HF2:=Lib.hid hf2
 have HFR:=Lib.hid hfr
 have hf0:0≤fr∧fr <256:=by rw [hfr];cases x.output<;>cases x.queuing<;>decide
 clear hf1 hf2 hfr
 go_upto_region 4 with (fail)
 generalize hwc:w3=wc at*
 have HKP:=Lib.hid (show ∀U,BKeep g wc U→(fun w'=>w'.cell? ⟨qb,3,none⟩=some (.bool x.output)∧w'.cell? ⟨qb,4,none⟩=some (.bool x.queuing)∧qb <w'.heap.size) U from fun U hU=>by
  have hb:=hU.blk HB.out (by decide) (by decide)
  have y3:=hb.cell 3
  have y4:=hb.cell 4
  simp at y3 y4
  exact ⟨y3,y4,hb.lt⟩)
 have hle:g≤wc.heap.size:=Nat.le_of_lt HS.out.lt
 have hd7:=BKeep.of_below (below_drewB wc) hle
 have HSD:=Lib.hid (HS.out.up (below_drewB wc))
 go_region_held3 (fun w'=>w'.cell? ⟨qb,3,none⟩=some (.bool x.output)∧w'.cell? ⟨qb,4,none⟩=some (.bool x.queuing)∧qb <w'.heap.size)
  (first |(exact HKP.out _ h7) |(exact HKP.out _ hd7) |(exact HKP.out _ (BKeep.refl g wc)) |go_keep)
  (first
  |(go_at_call_of 91 x.output;refine (recFlag_ok x.output 1 f1 HF1 _).mono ?_;rintro e w9 ⟨rfl,rfl⟩)
  |(go_at_call_of 91 x.queuing;refine (recFlag_ok x.queuing 2 f2 HF2 _).mono ?_;rintro e w9 ⟨rfl,rfl⟩)
  |(go_at_call 88;refine (b8_ok g fr _ _ HSD.out hf0.1 hf0.2 (by simp only [List.length_append,leB_len];omega)).mono ?_;rintro e w9 ⟨rfl,h5,h6⟩;have h7:=hd7.trans h6)
  |fail)
 rw [HFR.out,Int.toNat_natCast] at h5
 have HS:=Lib.hid h5
 have HB:=Lib.hid (h7.blk HB.out (by decide) (by decide))
 have HX:=Lib.hid (HX.out.trans h7)
 clear h5 h6 h7 hd7 HKP HSD hwc hor hf0 HFR HF1 HF2 q0 q1 q2 q3 q4 q5 qz
 have q0:=HB.out.cell 0
 have q1:=HB.out.cell 1
 have q2:=HB.out.cell 2
 have q3:=HB.out.cell 3
 have q4:=HB.out.cell 4
 have q5:=HB.out.cell 5
 have qz:=HB.out.lt
 simp at q0 q1 q2 q3 q4 q5
 go_wp2_with fail
 refine (bZeros_ok g 2 2 rfl _ _ HS.out (by omega) (by simp only [List.length_append,leB_len];omega)).mono ?_
 rintro e w5 ⟨rfl,h5,h6⟩
 have HS:=Lib.hid h5
 have HB:=Lib.hid (h6.blk HB.out (by decide) (by decide))
 have HX:=Lib.hid (HX.out.trans h6)
 clear h5 h6 q0 q1 q2 q3 q4 q5 qz
 have q0:=HB.out.cell 0
 have q1:=HB.out.cell 1
 have q2:=HB.out.cell 2
 have q3:=HB.out.cell 3
 have q4:=HB.out.cell 4
 have q5:=HB.out.cell 5
 have qz:=HB.out.lt
 simp at q0 q1 q2 q3 q4 q5
 go_wp2_with fail
 refine (b32_ok g x.size _ _ HS.out (by omega) (by omega) (by simp only [List.length_append,leB_len,zsB_len];omega)).mono ?_
 rintro e w6 ⟨rfl,h5,h6⟩
 have HS:=Lib.hid h5
 have HB:=Lib.hid (h6.blk HB.out (by decide) (by decide))
 have HX:=Lib.hid (HX.out.trans h6)
 clear h5 h6 q0 q1 q2 q3 q4 q5 qz
 have q0:=HB.out.cell 0
 have q1:=HB.out.cell 1
 have q2:=HB.out.cell 2
 have q3:=HB.out.cell 3
 have q4:=HB.out.cell 4
 have q5:=HB.out.cell 5
 have qz:=HB.out.lt
 simp at q0 q1 q2 q3 q4 q5
 go_wp2_with fail
 refine (recText_ok g _ x.name _ HS.out (by simp only [List.length_append,leB_len,zsB_len];omega)).mono ?_
 rintro e w7 ⟨rfl,h5,h6⟩
 have HS:=Lib.hid h5
 have HB:=Lib.hid (h6.blk HB.out (by decide) (by decide))
 have HX:=Lib.hid (HX.out.trans h6)
 clear h5 h6 q0 q1 q2 q3 q4 q5 qz
 have q0:=HB.out.cell 0
 have q1:=HB.out.cell 1
 have q2:=HB.out.cell 2
 have q3:=HB.out.cell 3
 have q4:=HB.out.cell 4
 have q5:=HB.out.cell 5
 have qz:=HB.out.lt
 simp at q0 q1 q2 q3 q4 q5
 go_wp2_with fail
 refine (bZeros_ok g 6 6 rfl _ _ HS.out (by omega) (by simp only [List.length_append,leB_len,zsB_len,padB_len];omega)).mono ?_
 rintro e w8 ⟨rfl,h5,h6⟩
 have HS:=Lib.hid h5
 have HB:=Lib.hid (h6.blk HB.out (by decide) (by decide))
 have HX:=Lib.hid (HX.out.trans h6)
 clear h5 h6 q0 q1 q2 q3 q4 q5 qz
 have q0:=HB.out.cell 0
 have q1:=HB.out.cell 1
 have q2:=HB.out.cell 2
 have q3:=HB.out.cell 3
 have q4:=HB.out.cell 4
 have q5:=HB.out.cell 5
 have qz:=HB.out.lt
 simp at q0 q1 q2 q3 q4 q5
 clear q0 q1 q2 q3 q4 q5 qz
 go_wp2
 go_end0
 refine ⟨rfl, ?_,HX.out⟩
 have h7:=HS.out
 unfold prtB
 simp only [←List.append_assoc]
 exact h7
end Go.Proofs.YteelncofiodflaaGreat
