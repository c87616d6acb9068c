/-
  The reference's align of an image, walked: zero bytes onto a row of the caller's own until 16 divides its length.
-/
import Derived.BigQuiet
import Derived.Test.YtcfoolooemhbeaaGreatRefB
namespace Go.Proofs.YtcfoolooemhbeaaGreat
open Go.RowKit
set_option maxRecDepth 100000 in
set_option maxHeartbeats 2000000 in
theorem rAlign11_ok (B:Nat) (l:List Nat) (n:Nat) (hn:n=l.length) (v:Value) (W:World) (hB:B≤W.heap.size) (ho:W.ownsRow B 5 1 v n (bytV l)) (hl:n≤4194000):
  Calls Tryz.prog 121 #[v] W fun e w'=> ∃v',e= .returned v'∧w'.ownsRow B 5 1 v' (alnN n) (bytV (algB l))∧Below B W w':=by
 obtain ⟨i0,hi,hz0,hz1,hz2⟩:=info_parts info_u8B
 have HO:=Lib.hid ho
 have HB:=Lib.hid (Below.refl B W)
 have ha:=alnN_le n
 have HA:=Lib.hid (show alnN n=(n+15)/16*16 from rfl)
 have ha1:n≤alnN n:=by rw [HA.out];omega
 have HL:=Lib.hid (show algB l=l++zsB (alnN n -n) by unfold algB;rw [←hn,show (16 -n%16)%16=alnN n -n by rw [HA.out];omega])
 obtain ⟨vA,vc,rfl,_⟩:=own_form ho
 clear ho hn
 generalize alnN n=a at*
 go_enter Tryz.func121,Tryz.ntmps121
 go_wp2
 go_loopw [0] (fun v wr=> ∃m:Nat,n≤m∧m≤a∧Hid (wr.ownsRow B 5 1 v m (bytV (l++zsB (m -n))))∧Hid (Below B W wr)) (fun v _=>a -(match v with | .slice _ m _=>m |_=>0))
 case atStart=>exact ⟨n,Nat.le_refl _,ha1,Lib.hid (by rw [Nat.sub_self];simpa [zsB] using HO.out),HB⟩
 case round=>
  obtain ⟨m,h1,h2,HO,HB⟩:=hrel
  obtain ⟨mA,mc,rfl,hmc,_⟩:=own_form HO.out
  have hsz:B≤wr.heap.size:=Nat.le_trans hB HB.out.size
  have hr:(m:Int).tmod 16=((m%16:Nat):Int):=rfl
  by_cases h0:m%16=0
  ·have hm:m=a:=by have:=HA.out;omega
   subst hm
   go_wp2
   go_ret
   exact ⟨_,rfl,by rw [HL.out];exact HO.out,HB.out⟩
  ·have hp:0 <m%16:=by omega
   have hm:m <a:=by have:=HA.out;omega
   have hnx:l++zsB (m+1 -n)=(l++zsB (m -n))++ [0]:=by
    rw [List.append_assoc]
    congr 1
    rw [show m+1 -n=(m -n)+1 by omega]
    unfold zsB
    rw [List.replicate_succ']
   have HNX:=Lib.hid hnx
   have HA2:=Lib.hid (show m <a∧n≤m from ⟨hm,h1⟩)
   clear hnx
   generalize l++zsB (m -n)=L at*
   have HO3:=Lib.hid (own_below HO.out (below_one wr (.cells #[.int .u8 0] 5)))
   go_upto_region 2 with (fail)
   go_wp2_with (at_builtin;go_loud (refine wpList_append_rd _ rfl (.tmp 7) (.tmp 8) _ rfl B 5 i0 (.int .u8 0) 1 1 Tryz.underlying32 hi hz0 hz1 hz2 rfl (by decide) _ m (bytV L) (by rfl) HO3.out _ (some ⟨wr.heap.size,0,none⟩) 1 1 [.int .u8 0] (by rfl) (one_byte wr _) (by intro u hu;simp at hu;subst hu;rfl) (by unfold maxLen;omega) (by omega) (by simp;omega) ?_);intro v4 w4 ho4 hg4)
   have HB4:=Lib.hid (below_own (HB.out.trans ((below_one wr (.cells #[.int .u8 0] 5)).mono hsz)) hg4 HO3.out (by simp;omega))
   have HO4:=Lib.hid (show w4.ownsRow B 5 1 v4 (m+1) (bytV (L++ [0])) by rw [bytV_app];exact ho4)
   clear ho4 hg4 HO HO3 HB
   obtain ⟨a4,d4,rfl,_⟩:=own_form HO4.out
   go_wp2
   go_roundw
   case rel=>exact ⟨m+1,by have:=HA2.out;omega,by have:=HA2.out;omega,Lib.hid (by rw [HNX.out];exact HO4.out),HB4⟩
   case measure=>simp;have:=HA2.out;omega
end Go.Proofs.YtcfoolooemhbeaaGreat
