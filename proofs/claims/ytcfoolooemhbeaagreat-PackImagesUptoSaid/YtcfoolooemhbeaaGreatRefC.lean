/-
  The reference of layer 2, walked: the checksum bit by bit, Seal and Sealed. Condition: at most 4194000 bytes.
-/
import Derived.BigQuiet
import Derived.Laws.BytesArg
import Derived.Test.YtcfoolooemhbeaaGreatCrcZ
namespace Go.Proofs.YtcfoolooemhbeaaGreat
open Go.RowKit
theorem rStep02_ok (r:Nat) (hr:r <4294967296) (W:World):Calls Tryz.prog 186 #[.int .u32 (r:Int)] W fun e w'=>e= .returned (.int .u32 ((stepN r:Nat):Int))∧w'=W:=by
 have hx:=u32_xor_nat (r/2) 3988292384 (by omega) (by decide)
 have e2:(((r/2:Nat)):Int)=(r:Int)/2:=by simp
 rw [e2] at hx
 rcases (show r%2=1∨r%2=0 by omega) with h |h
 ·have hm:(r:Int)%2=1:=by omega
  have HE:=Lib.hid (show r/2^^^3988292384=stepN r by unfold stepN;rw [if_pos h])
  clear h
  generalize r/2^^^3988292384=q at*
  go_enter Tryz.func186,Tryz.ntmps186
  go_wp2
  go_ret
  exact ⟨by rw [←HE.out];first |rfl |(rw [←hx];rfl),rfl⟩
 ·have hm:(r:Int)%2=0:=by omega
  have HE:=Lib.hid (show ((r/2:Nat):Int)=((stepN r:Nat):Int) by unfold stepN;rw [if_neg (by omega)])
  rw [e2] at HE
  clear h hx
  go_enter Tryz.func186,Tryz.ntmps186
  go_wp2
  go_ret
  exact ⟨by rw [←HE.out];rfl,rfl⟩
set_option maxRecDepth 100000 in
set_option maxHeartbeats 2000000 in
theorem rSum02_ok (l:List Nat) (n:Nat) (hn:n=l.length) (A:Option Addr) (c:Nat) (W:World) (hb:bytesOk l) (hl:n≤16777216) (hR:Rd W W.heap.size 1 A n (bytV l)):
  Calls Tryz.prog 140 #[.slice A n c] W fun e w'=>e= .returned (.int .u32 ((sumN l:Nat):Int))∧w'=W:=by
 have HB:=Lib.hid hb
 have HR:=Lib.hid hR
 have HN:=Lib.hid hn
 clear hb hR hn
 have HX:=Lib.hid (show bits .xor .u32 IntKind.u32.max ((feedN 4294967295 l:Nat):Int)=((sumN l:Nat):Int) by
  have h1:=u32_xor_nat 4294967295 (feedN 4294967295 l) (by decide) (feedN_lt l (by decide) HB.out)
  rw [Nat.xor_comm] at h1
  exact h1)
 go_enter Tryz.func140,Tryz.ntmps140
 go_wp2
 go_loopw [3,4] (fun q i wr=> ∃k:Nat,k≤n∧q= .int .u32 ((feedN 4294967295 (l.take k):Nat):Int)∧i= .int .i64 k∧wr=W) (fun _ i _=>n -(intOf i).toNat)
 case atStart=>exact ⟨0,Nat.zero_le _,rfl,rfl,rfl⟩
 case round=>
  obtain ⟨k,hk,rfl,rfl,rfl⟩:=hrel
  by_cases hlt:k <n
  ·obtain ⟨x,hx⟩:=get_lt (l:=l) (k:=k) (by rw [←HN.out];exact hlt)
   have hxb:x <256:=HB.out x (List.mem_of_getElem? hx)
   have hq:=feedN_lt (l.take k) (r:=4294967295) (by decide) (fun c hc=>HB.out c (List.mem_of_mem_take hc))
   have HE:=Lib.hid (show stepsN 8 (feedN 4294967295 (l.take k)^^^x)=feedN 4294967295 (l.take (k+1)) by rw [take_next hx,feedN_app];rfl)
   obtain ⟨b,o,rfl,hbb,hc⟩:=HR.out.2 (by omega)
   have g0:=hc k _ (bytV_at hx)
   have k0:(0:Int)≤(k:Int):=by omega
   have k1:(k:Int) <(n:Int):=by omega
   have hxx:=u32_xor_nat (feedN 4294967295 (l.take k)) x hq (by omega)
   have hlq:feedN 4294967295 (l.take k)^^^x <4294967296:=Nat.xor_lt_two_pow (n:=32) hq (by omega)
   have hwx:IntKind.u32.wrap (x:Int)=(x:Int):=by rw [IntKind.wrap_u32];omega
   have hwx2:(x:Int)%4294967296=(x:Int):=by omega
   clear hc hx
   generalize feedN 4294967295 (l.take k)=q at*
   generalize q^^^x=y at*
   generalize wr=wo at*
   go_wp2
   go_loopw [3,5] (fun q i wr=> ∃j:Nat,j≤8∧q= .int .u32 ((stepsN j y:Nat):Int)∧i= .int .i64 j∧wr=wo) (fun _ i _=>8 -(intOf i).toNat)
   case atStart=>exact ⟨0,Nat.zero_le _,rfl,rfl,rfl⟩
   case round=>
    obtain ⟨j,hj,rfl,rfl,rfl⟩:=hrel
    by_cases hjt:j <8
    ·have HS:=Lib.hid (rStep02_ok (stepsN j y) (stepsN_lt j hlq) wr)
     have HNX:=Lib.hid (stepsN_next j y)
     have j1:(j:Int) <8:=by omega
     generalize stepsN j y=z at*
     go_wp2_with fail
     refine HS.out.mono ?_
     rintro e w2 ⟨rfl,rfl⟩
     rw [←HNX.out]
     go_wp2
     go_roundw
     case rel=>exact ⟨j+1,by omega,by first |rfl |trivial |simp,by go_num,by first |rfl |trivial⟩
     case measure=>simp [intOf];omega
    ·obtain rfl:j=8:=by omega
     rw [HE.out]
     go_wp2
     go_roundw
     case rel=>exact ⟨k+1,by omega,by first |rfl |trivial |simp,by go_num,by first |rfl |trivial⟩
     case measure=>simp [intOf];omega
  ·obtain rfl:k=n:=by omega
   have HE:=Lib.hid (show l.take k=l by rw [HN.out];exact List.take_length)
   rw [HE.out]
   have hx:=HX.out
   generalize feedN 4294967295 l=q at*
   go_wp2
   go_ret
   exact ⟨rfl,rfl⟩
theorem own_zero8 (w:World):(w.alloc (.cells #[] 5)).ownsRow w.heap.size 5 1 (.slice (some ⟨w.heap.size,0,none⟩) 0 0) 0 (bytV []):=
 ⟨rfl, .inr ⟨w.heap.size,0,_,rfl,Nat.le_refl _,heap_alloc_new w _,Nat.le_refl _,by unfold maxLen;omega,rfl,rfl⟩⟩
set_option maxRecDepth 100000 in
set_option maxHeartbeats 2000000 in
theorem rSeal02_ok (l:List Nat) (n:Nat) (hn:n=l.length) (A:Option Addr) (c:Nat) (W:World) (hb:bytesOk l) (hl:n≤4194000) (hR:Rd W W.heap.size 1 A n (bytV l)):
  Calls Tryz.prog 76 #[.slice A n c] W fun e w'=> ∃v,e= .returned v∧w'.ownsRow W.heap.size 5 1 v (n+4) (bytV (sealN l))∧Below W.heap.size W w':=by
 obtain ⟨i0,hi,hz0,hz1,hz2⟩:=info_parts info_u8B
 have HS:=Lib.hid (rSum02_ok l n hn A c W hb (by omega) hR)
 have hs:=sumN_lt hb
 have HSN:=Lib.hid (show sealN l=l++leN (sumN l) from rfl)
 generalize sumN l=s at*
 have HE:=Lib.hid (show #[Value.int .u8 ((s:Int)%256), .int .u8 ((s:Int)/256%256), .int .u8 ((s:Int)/65536%256), .int .u8 ((s:Int)/16777216%256)]=(bytV (leN s)).toArray by simp [bytV,leN])
 have HRL:=Lib.hid (fun (U:World)=>show Rd (U.alloc (.cells #[Value.int .u8 ((s:Int)%256), .int .u8 ((s:Int)/256%256), .int .u8 ((s:Int)/65536%256), .int .u8 ((s:Int)/16777216%256)] 5)) (U.alloc (.cells #[Value.int .u8 ((s:Int)%256), .int .u8 ((s:Int)/256%256), .int .u8 ((s:Int)/65536%256), .int .u8 ((s:Int)/16777216%256)] 5)).heap.size 1 (some ⟨U.heap.size,0,none⟩) 4 (bytV (leN s)) by
  have:=rd_lit U #[Value.int .u8 ((s:Int)%256), .int .u8 ((s:Int)/256%256), .int .u8 ((s:Int)/65536%256), .int .u8 ((s:Int)/16777216%256)] 5 4 1 rfl
  rw [HE.out] at this ⊢
  exact this)
 obtain ⟨w1,hw1⟩: ∃w1,W.alloc (.cells #[] 5)=w1:=⟨_,rfl⟩
 have HO:=Lib.hid (show w1.ownsRow W.heap.size 5 1 (.slice (some ⟨W.heap.size,0,none⟩) 0 0) 0 (bytV []) by rw [←hw1];exact own_zero8 W)
 have HB:=Lib.hid (show Below W.heap.size W w1 by rw [←hw1];exact below_one _ _)
 have hz:W.heap.size≤w1.heap.size:=HB.out.size
 have HR:=Lib.hid (hR.below HB.out)
 have HW:=Lib.hid hw1
 clear hw1 hR hb hn hs
 go_enter Tryz.func76,Tryz.ntmps76
 go_wp2_with fail
 refine HS.out.mono ?_
 rintro e w2 ⟨rfl,rfl⟩
 go_wp2_with (rw [HW.out];at_builtin;go_loud (refine wpList_append_rd _ rfl (.tmp 6) (.tmp 7) _ rfl w2.heap.size 5 i0 (.int .u8 0) 1 1 Tryz.underlying32 hi hz0 hz1 hz2 rfl (by decide) _ 0 (bytV []) (by rfl) HO.out w2.heap.size A n c (bytV l) (by rfl) HR.out (bytV_one l) (by unfold maxLen;omega) (by omega) (by omega) ?_);intro v3 w3 ho3 hg3;go_wp2_with (at_builtin;go_loud (refine wpList_append_rd _ rfl (.tmp 8) (.tmp 20) _ rfl w2.heap.size 5 i0 (.int .u8 0) 1 1 Tryz.underlying32 hi hz0 hz1 hz2 rfl (by decide) _ (0+n) (bytV []++bytV l) (by rfl) (own_below ho3 (below_one w3 _)) _ (some ⟨w3.heap.size,0,none⟩) 4 4 (bytV (leN s)) (by rfl) (HRL.out w3) (bytV_one _) (by unfold maxLen;omega) (by omega) (by have:=hg3.size;simp;omega) ?_);intro v4 w4 ho4 hg4))
 have hbz:Below w2.heap.size w2 w4:=by
  have h1:=below_own HB.out hg3 HO.out hz
  have h2:=Below.then_ h1 (below_one w3 (.cells #[Value.int .u8 ((s:Int)%256), .int .u8 ((s:Int)/256%256), .int .u8 ((s:Int)/65536%256), .int .u8 ((s:Int)/16777216%256)] 5))
  exact below_own h2 hg4 (own_below ho3 (below_one w3 _)) (by have:=hg3.size;simp;omega)
 have HZ:=Lib.hid hbz
 have HO4:=Lib.hid ho4
 clear ho3 ho4 hg3 hg4 hbz
 go_wp2
 go_ret
 refine ⟨_,rfl, ?_,HZ.out⟩
 rw [HSN.out,bytV_app]
 have h:=HO4.out
 simpa [bytV] using h
def bytS (l:List Nat):ByteArray:=strOfNums (l.map fun c:Nat=>(c:Int))
theorem conv_bytes (l:List Nat) (w:World) (B n c:Nat) (A:Option Addr) (h:Rd w B 1 A n (bytV l)) (hn:n=l.length) (h0:0 <n):(convert 32 9 (.slice A n c)).run Tryz.prog w= .ok (.string (bytS l)) w:=by
 obtain ⟨b,o,rfl,_,hc⟩:=h.2 h0
 refine run_convert_bytes_arg (P:=Tryz.prog) w 32 5 Tryz.underlying32 Tryz.underlying5 b o n c (l.map fun c:Nat=>(c:Int)) (by rw [List.length_map,hn]) (fun i hi=> ?_) 9 Tryz.underlying9
 have hl:i <l.length:=by omega
 have e:=hc i _ (bytV_at (List.getElem?_eq_getElem hl))
 rw [e]
 simp [List.getD,hl]
end Go.Proofs.YtcfoolooemhbeaaGreat
