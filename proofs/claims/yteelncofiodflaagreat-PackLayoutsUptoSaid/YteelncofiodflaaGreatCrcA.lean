/-
  slices.Grow of the nil slice and slices.Concat of two rows, walked, at bytes: a new row in memory of the call's own.
-/
import Derived.BigQuiet
import Derived.Lib.AppendZeros
import Derived.Test.YteelncofiodflaaGreatBufZ
import Derived.Laws.BitsLemmas
import Derived.Laws.BitsAllLaws
import Derived.Deep.WholeRow
import Derived.Great.Walk
import Derived.Deep.RegionHeld3
namespace Go.Proofs.YteelncofiodflaaGreat
open Go.RowKit
theorem run_grow_nil {P:Program} (w:World) (t tn ty e:TypeId) (i:TypeInfo) (z:Value) (sz bytes:Nat) (ht:P.underlying t=some (.slice e)) (htn:P.underlying tn=some (.int .i64)) (hi:P.info? e=some i) (hz:i.zero=some z) (hs:i.size=sz) (hby:i.bytes=bytes) (hzs:z.cells.size=sz) (hs0:0 <sz)
  (n:Nat) (h0:0 <n) (h63:n≤16777216) (h48:bytes≤1024):
  ∃C W1,(Builtin.append_ #[t,tn] ty #[.slice none 0 0, .int .i64 n]).run P w= .ok (.slice (some ⟨w.heap.size,0,none⟩) n C) W1∧0 <C∧W1.ownsRow w.heap.size e sz (.slice (some ⟨w.heap.size,0,none⟩) 0 C) 0 []∧Below w.heap.size w W1:=by
 subst hs hby
 have h:=Lib.run_append_nil_zeros (P:=P) w t tn ty e i z .i64 .i64 ht htn hi hz n h0 hs0 (by omega) (by
  have:=Nat.mul_le_mul h63 h48
  omega)
 refine ⟨_,_,h,Nat.lt_of_lt_of_le h0 (grownCap_ge w n 0 e),⟨by simp, .inr ⟨w.heap.size,_,_,rfl,Nat.le_refl _,heap_alloc_new w.drew _,Nat.zero_le _,grownCap_le_maxLen w n 0 e (by unfold maxLen;omega), ?_,by simp⟩⟩,((Below.refl _ _).drew).alloc (Nat.le_refl _) _⟩
 have hge:=grownCap_ge w n 0 e
 rw [Array.size_append,size_zeroCells,size_zeroCells,hzs, ←Nat.add_mul]
 congr 1
 omega
theorem slice_zero {P:Program} {t:TypeId} {sz:Nat} (ht:P.underlying t=some (.slice (P.elem t))) (hz: ∀W,(sizeOf (P.elem t)).run P W= .ok sz W) (g n C:Nat) (h0:0 <C) (W:World):(Instr.slice t (.slice (some ⟨g,0,none⟩) n C) none (some (.int .i64 0)) none).run P W= .ok (.slice (some ⟨g,0,none⟩) 0 C) W:=by
 have h:=run_slice_h (P:=P) W t (some ⟨g,0,none⟩) n C ht .i64 0 (by omega) (by omega)
 rw [h,hz]
 simp [Result.andThen,sliced,addr_add]
theorem run_sizeOfC {P:Program} {e:TypeId} {i:TypeInfo} {sz:Nat} (hi:P.info? e=some i) (hs:i.size=sz) (W:World):(sizeOf e).run P W= .ok sz W:=by
 simp [sizeOf,typeInfo,hi,hs]
theorem int_und:Tryz.prog.underlying 3=some (.int .i64):=by kernel_rfl
set_option maxRecDepth 100000 in
set_option maxHeartbeats 2000000 in
theorem growByt_ok (n:Nat) (hn:n≤16777216) (w:World):Calls Tryz.prog 130 #[.slice none 0 0, .int .i64 n] w fun e w'=> ∃v,e= .returned v∧w'.ownsRow w.heap.size 5 1 v 0 []∧Below w.heap.size w w':=by
 obtain ⟨i0,hi,hz0,hz1,hz2⟩:=info_parts info_u8B
 by_cases h0:n=0
 ·subst h0
  go_enter Tryz.func130,Tryz.ntmps130
  go_wp2
  go_ret
  exact ⟨_,rfl,World.ownsRow_nil _ _ _ _,Below.refl _ _⟩
 ·have hp:(0:Int) <(n:Int):=by omega
  obtain ⟨C,W1,hr,hC,hown,hb⟩:=run_grow_nil (P:=Tryz.prog) w 41 3 41 5 i0 (.int .u8 0) 1 1 Tryz.underlying41 int_und hi hz0 hz1 hz2 rfl (by decide) n (by omega) hn (by decide)
  have HR:=Lib.hid hr
  have HO:=Lib.hid hown
  have HB:=Lib.hid hb
  have hsl:=slice_zero (P:=Tryz.prog) (t:=41) (sz:=1) Tryz.underlying41 (run_sizeOfC hi hz1) w.heap.size n C hC
  clear hr hown hb h0
  go_enter Tryz.func130,Tryz.ntmps130
  go_wp2_with (at_builtin;go_loud (refine Lib.wpList_append_run _ rfl (.tmp 20) (.tmp 21) _ _ rfl (.slice none 0 0) (.int .i64 n) rfl rfl _ _ HR.out ?_))
  go_ret
  exact ⟨_,rfl,HO.out,HB.out⟩
set_option maxRecDepth 100000 in
set_option maxHeartbeats 4000000 in
theorem concatByt_ok (A B:Option Addr) (n m a b g:Nat) (xs ys:List Value) (w:World) (c0:w.cell? ⟨g,0,none⟩=some (.slice A n a)) (c1:w.cell? ⟨g,1,none⟩=some (.slice B m b)) (hg:g <w.heap.size) (hA:Rd w w.heap.size 1 A n xs) (hB:Rd w w.heap.size 1 B m ys) (h1: ∀u ∈ xs,u.oneCell'=true) (h2: ∀u ∈ ys,u.oneCell'=true) (hn:n≤4194304) (hm:m≤4194304):
  Calls Tryz.prog 92 #[.slice (some ⟨g,0,none⟩) 2 2] w fun e w'=> ∃v,e= .returned v∧w'.ownsRow w.heap.size 5 1 v (n+m) (xs++ys)∧Below w.heap.size w w':=by
 obtain ⟨i0,hi,hz0,hz1,hz2⟩:=info_parts info_u8B
 have HA:=Lib.hid hA
 have HB:=Lib.hid hB
 have H1:=Lib.hid h1
 have H2:=Lib.hid h2
 have C0:=Lib.hid c0
 have C1:=Lib.hid c1
 have HG:=Lib.hid hg
 clear hA hB h1 h2
 go_enter Tryz.func92,Tryz.ntmps92
 go_wp2
 go_loop [3,11] (fun s i=>(s= .int .i64 (0:Nat)∧i= .int .i64 (0:Nat))∨(s= .int .i64 n∧i= .int .i64 (1:Nat))∨(s= .int .i64 (n+m:Nat)∧i= .int .i64 (2:Nat))) (fun _ i=>2 -(intOf i).toNat)
 case atStart=>exact .inl ⟨rfl,rfl⟩
 case round=>
  rcases hrel with ⟨rfl,rfl⟩ |⟨rfl,rfl⟩ |⟨rfl,rfl⟩
  ·go_wp2
   go_round
   case rel=>exact .inr (.inl ⟨by simp,by simp⟩)
   case measure=>simp [intOf]
  ·go_wp2
   go_round
   case rel=>exact .inr (.inr ⟨by simp,by simp⟩)
   case measure=>simp [intOf]
  ·clear c0 c1 hg
   go_wp2_with fail
   refine (growByt_ok (n+m) (by omega) w).mono ?_
   rintro e w1 ⟨v,rfl,ho,hb⟩
   have HO:=Lib.hid ho
   have HBl:=Lib.hid hb
   obtain ⟨vA,vc,rfl,_⟩:=own_form ho
   clear ho hb
   go_wp2
   go_loopw [6,27] (fun s i wr=>(i= .int .i64 (0:Nat)∧Hid (wr.ownsRow w.heap.size 5 1 s 0 [])∧Hid (Below w.heap.size w wr))∨(i= .int .i64 (1:Nat)∧Hid (wr.ownsRow w.heap.size 5 1 s n xs)∧Hid (Below w.heap.size w wr))∨(i= .int .i64 (2:Nat)∧Hid (wr.ownsRow w.heap.size 5 1 s (n+m) (xs++ys))∧Hid (Below w.heap.size w wr))) (fun _ i _=>2 -(intOf i).toNat)
   case atStart=>exact .inl ⟨rfl,HO,HBl⟩
   case round=>
    clear HO HBl
    rcases hrel with ⟨rfl,HO,HBl⟩ |⟨rfl,HO,HBl⟩ |⟨rfl,HO,HBl⟩
    ·have g0:=(HBl.out.cell (p:=⟨g,0,none⟩) HG.out).trans C0.out
     have HAr:=Lib.hid (HA.out.below HBl.out)
     obtain ⟨vA,vc,rfl,_⟩:=own_form HO.out
     have hszr:=HBl.out.size
     go_wp2_with (at_builtin;go_loud (refine wpList_append_rd _ rfl (.tmp 31) (.tmp 32) _ rfl w.heap.size 5 i0 (.int .u8 0) 1 1 Tryz.underlying41 hi hz0 hz1 hz2 rfl (by decide) _ 0 [] rfl HO.out w.heap.size A n a xs rfl HAr.out H1.out (by unfold maxLen;omega) (by omega) hszr ?_);intro v' w3 hown hgr)
     have HB3:=Lib.hid (below_own HBl.out hgr HO.out hszr)
     have HO3:=Lib.hid (show w3.ownsRow w.heap.size 5 1 v' n xs by simpa using hown)
     clear hown hgr
     go_roundw
     case rel=>exact .inr (.inl ⟨by simp,HO3,HB3⟩)
     case measure=>simp [intOf]
    ·have g1:=(HBl.out.cell (p:=⟨g,1,none⟩) HG.out).trans C1.out
     have HAr:=Lib.hid (HB.out.below HBl.out)
     obtain ⟨vA,vc,rfl,_⟩:=own_form HO.out
     have hszr:=HBl.out.size
     go_wp2_with (at_builtin;go_loud (refine wpList_append_rd _ rfl (.tmp 31) (.tmp 32) _ rfl w.heap.size 5 i0 (.int .u8 0) 1 1 Tryz.underlying41 hi hz0 hz1 hz2 rfl (by decide) _ n xs rfl HO.out w.heap.size B m b ys rfl HAr.out H2.out (by unfold maxLen;omega) (by omega) hszr ?_);intro v' w3 hown hgr)
     have HB3:=Lib.hid (below_own HBl.out hgr HO.out hszr)
     have HO3:=Lib.hid hown
     clear hown hgr
     go_roundw
     case rel=>exact .inr (.inr ⟨by simp,HO3,HB3⟩)
     case measure=>simp [intOf]
    ·obtain ⟨vA,vc,rfl,_⟩:=own_form HO.out
     go_wp2
     go_ret
     exact ⟨_,rfl,HO.out,HBl.out⟩
end Go.Proofs.YteelncofiodflaaGreat
namespace Go.Proofs.YteelncofiodflaaGreat
open Go.RowKit
theorem shift_val (r:Nat) (hr:r <4294967296):bits .xor .u32 ((r:Int)/2) (bits .and .u32 3988292384 (-bits .and .u32 (r:Int) 1%4294967296))=((stepN r:Nat):Int):=by
 have e1:bits .and .u32 (r:Int) 1=((r%2:Nat):Int):=by
  have:=u32_and_nat r 1 hr (by decide)
  rwa [Nat.and_one_is_mod] at this
 rw [e1]
 have hm:r%2=0∨r%2=1:=by omega
 rcases hm with hm |hm
 ·have e2:bits .and .u32 3988292384 0=((0:Nat):Int):=by
   have:=u32_and_nat 3988292384 0 (by decide) (by decide)
   rwa [Nat.and_zero] at this
  rw [hm]
  show bits .xor .u32 ((r:Int)/2) (bits .and .u32 3988292384 0)=_
  rw [e2,show ((r:Int)/2)=((r/2:Nat):Int) by simp,u32_xor_nat _ _ (by omega) (by decide),Nat.xor_zero]
  unfold stepN
  rw [if_neg (by omega)]
 ·have e2:bits .and .u32 3988292384 4294967295=((3988292384:Nat):Int):=by
   have:=u32_and_nat 3988292384 4294967295 (by decide) (by decide)
   rwa [show (3988292384&&&4294967295:Nat)=3988292384 by decide] at this
  rw [hm]
  show bits .xor .u32 ((r:Int)/2) (bits .and .u32 3988292384 4294967295)=_
  rw [e2,show ((r:Int)/2)=((r/2:Nat):Int) by simp,u32_xor_nat _ _ (by omega) (by decide)]
  unfold stepN
  rw [if_pos hm]
theorem regShift_ok (r:Nat) (hr:r <4294967296) (W:World):Calls Tryz.prog 168 #[.int .u32 (r:Int)] W fun e w'=>e= .returned (.int .u32 ((stepN r:Nat):Int))∧w'=W:=by
 have HV:=Lib.hid (shift_val r hr)
 go_enter Tryz.func168,Tryz.ntmps168
 go_wp2
 rw [HV.out]
 go_ret
 exact ⟨rfl,rfl⟩
theorem stepsN_next (j r:Nat):stepsN (j+1) r=stepN (stepsN j r):=by rw [stepsN_add j 1];rfl
theorem regTimes_ok (r k:Nat) (ki:Int) (hki:ki=(k:Int)) (hk:k≤64) (hr:r <4294967296) (W:World):Calls Tryz.prog 167 #[.int .u32 (r:Int), .int .i64 ki, .func (.func 168) #[] #[]] W fun e w'=>e= .returned (.int .u32 ((stepsN k r:Nat):Int))∧w'=W:=by
 have hent: ∀a w,(callFunc 168 a).run Tryz.prog w= .ok (.enter 168 a) w:=enters_of Tryz.func168 (by kernel_rfl) rfl
 subst hki
 go_enter Tryz.func167,Tryz.ntmps167
 go_wp2
 go_loopw [0,8] (fun q i wr=> ∃j:Nat,j≤k∧q= .int .u32 ((stepsN j r:Nat):Int)∧i= .int .i64 j∧wr=W) (fun _ i _=>k -(intOf i).toNat)
 case atStart=>exact ⟨0,Nat.zero_le _,rfl,rfl,rfl⟩
 case round=>
  obtain ⟨j,hj,rfl,rfl,rfl⟩:=hrel
  by_cases hlt:j <k
  ·have HS:=Lib.hid (regShift_ok (stepsN j r) (stepsN_lt j hr) wr)
   have HN:=Lib.hid (stepsN_next j r)
   generalize stepsN j r=q at*
   go_wp2_with fail
   refine HS.out.mono ?_
   rintro e w2 ⟨rfl,rfl⟩
   rw [←HN.out]
   go_wp2
   go_roundw
   case rel=>exact ⟨j+1,by omega,by first |rfl |trivial |simp,by go_num,by first |rfl |trivial⟩
   case measure=>simp [intOf];omega
  ·obtain rfl:j=k:=by omega
   go_wp2
   go_ret
   exact ⟨rfl,rfl⟩
def tabC (k:Nat):Array Value:=((List.range 256).map fun i=>Value.int .u32 (((if i <k then stepsN 8 i else 0:Nat)):Int)).toArray
theorem tabC_size (k:Nat):(tabC k).size=256:=by simp [tabC]
theorem tabC_at {k i:Nat} (hi:i <256):(tabC k)[i]? =some (.int .u32 (((if i <k then stepsN 8 i else 0:Nat)):Int)):=by
 simp [tabC,hi]
theorem tabC_set {k:Nat} (hk:k <256):(tabC k).setIfInBounds k (.int .u32 ((stepsN 8 k:Nat):Int))=tabC (k+1):=by
 apply Array.ext_getElem?
 intro i
 by_cases hi:i <256
 ·rw [tabC_at hi,Array.getElem?_setIfInBounds]
  by_cases hik:k=i
  ·subst hik
   rw [if_pos rfl,if_pos (by rw [tabC_size];exact hk),if_pos (Nat.lt_succ_self k)]
  ·rw [if_neg hik,tabC_at hi]
   by_cases h1:i <k
   ·rw [if_pos h1,if_pos (by omega)]
   ·rw [if_neg h1,if_neg (by omega)]
 ·rw [Array.getElem?_eq_none (by rw [Array.size_setIfInBounds,tabC_size];omega),Array.getElem?_eq_none (by rw [tabC_size];omega)]
theorem tabC_one (k:Nat):(tabC k).all (·.oneCell')=true:=by
 rw [Array.all_eq_true_iff_forall_mem]
 intro u hu
 simp [tabC] at hu
 obtain ⟨i,_,rfl⟩:=hu
 rfl
end Go.Proofs.YteelncofiodflaaGreat
namespace Go.Proofs.YteelncofiodflaaGreat
open Go.RowKit
theorem infoTab_sz:(Tryz.prog.info? 213).map (·.size)=some 256:=by kernel_rfl
theorem zero_tab:Tryz.zeroCells213=tabC 0:=by kernel_rfl
set_option maxRecDepth 100000 in
set_option maxHeartbeats 4000000 in
theorem crcTable_ok (W:World):Calls Tryz.prog 131 #[] W fun e w'=>e= .returned (.agg (tabC 256))∧Below W.heap.size W w':=by
 obtain ⟨g,hg⟩: ∃g,W.heap.size=g:=⟨_,rfl⟩
 obtain ⟨W0,hW0⟩: ∃W0,W.alloc (.cells Tryz.zeroCells213 213)=W0:=⟨_,rfl⟩
 obtain ⟨W1,hW1⟩: ∃W1,W0.alloc (.cells Tryz.zeroCells213 213)=W1:=⟨_,rfl⟩
 have e0:W0.heap.size=g+1:=by rw [←hW0, ←hg];simp
 have HB0:=Lib.hid (show Blk W1 g 213 (tabC 0) by rw [←hW1, ←zero_tab];exact Blk.alloc (by rw [←hW0, ←hg];exact Blk.new W _ _) _)
 have HB1:=Lib.hid (show Blk W1 (g+1) 213 (tabC 0) by rw [←hW1, ←e0, ←zero_tab];exact Blk.new W0 _ _)
 have HBL:=Lib.hid (show Below g W W1 by rw [←hg, ←hW1, ←hW0];exact Below.then_ (below_one _ _) (below_one _ _))
 have HG:=Lib.hid hg
 have HE:=Lib.hid e0
 have HW0:=Lib.hid hW0
 have HW1:=Lib.hid hW1
 have HI:=Lib.hid (show (Tryz.prog.info? 213).map (·.size)=some (tabC 256).size by rw [tabC_size];exact infoTab_sz)
 have HO:=Lib.hid (show (tabC 0).size=(tabC 256).size by rw [tabC_size,tabC_size])
 clear hg e0 hW0 hW1
 go_enter Tryz.func131,Tryz.ntmps131
 go_upto_region 2 with (fail)
 rw [HW0.out,HW1.out,HG.out]
 go_wp2
 go_loopw [2,3] (fun _ i wr=> ∃k:Nat,k≤256∧i= .int .i64 k∧Hid (Blk wr g 213 (tabC 0))∧Hid (Blk wr (g+1) 213 (tabC k))∧Hid (Below g W wr)) (fun _ i _=>256 -(intOf i).toNat)
 case atStart=>exact ⟨0,Nat.zero_le _,rfl,HB0,HB1,HBL⟩
 case round=>
  obtain ⟨k,hk,rfl,B0,B1,BL⟩:=hrel
  by_cases hlt:k <256
  ·have hmod:((k:Int)%4294967296)=(k:Int):=by omega
   have k0:(0:Int)≤(k:Int):=by omega
   have k1:(k:Int) <256:=by omega
   have c1:=(B1.out.cell k).trans (tabC_at hlt)
   have f1:=B1.out.frozen k
   have l1:=B1.out.lt
   have HT:=Lib.hid (regTimes_ok k 8 8 rfl (by omega) (by omega) wr)
   have HB2:=Lib.hid (fun u=>B0.out.far (p:=⟨g+1,k,none⟩) (show g≠g+1 by omega) u)
   have HB3:=Lib.hid (B1.out.set_ k (.int .u32 ((stepsN 8 k:Nat):Int)))
   rw [tabC_set hlt] at HB3
   have HBL2:=Lib.hid (fun u=>BL.out.setCell (p:=⟨g+1,k,none⟩) (Nat.le_succ g) u)
   generalize stepsN 8 k=q at*
   go_wp2_with fail
   refine HT.out.mono ?_
   rintro e w2 ⟨rfl,rfl⟩
   go_wp2
   go_roundw
   case rel=>exact ⟨k+1,by omega,by go_num,Lib.hid (HB2.out _),HB3,Lib.hid (HBL2.out _)⟩
   case measure=>simp [intOf];omega
  ·obtain rfl:k=256:=by omega
   obtain ⟨w4,hw4⟩: ∃w4,wr.setRow g (tabC 256)=w4:=⟨_,rfl⟩
   have B6:=Lib.hid (show Blk w4 g 213 (tabC 256) by rw [←hw4];exact setRow_heap wr g _ _ _ _ B0.out)
   have HB4:=Lib.hid (show Below g W w4 by rw [←hw4];exact below_setRow BL.out (Nat.le_refl g) _)
   have HW4:=Lib.hid hw4
   clear hw4
   go_wp2_with (first
    |(refine wpList_load_row rfl 213 (.tmp 1) rfl (g+1) rfl _ _ _ _ B1.out Tryz.underlying213 rfl HI.out ?_)
    |(refine wpList_store_row rfl 213 (.tmp 0) (.tmp 12) rfl g (tabC 256) rfl rfl _ _ B0.out HI.out HO.out (tabC_one _) ?_;rw [HW4.out]))
   refine bodyPost_ret (v:= .agg (tabC 256)) (results_cell_row (p:=0) (ty:=213) rfl _ _ g _ _ _ _ rfl B6.out Tryz.underlying213 rfl HI.out) rfl ⟨rfl, ?_⟩
   rw [HG.out];exact HB4.out
set_option maxRecDepth 100000 in
set_option maxHeartbeats 2000000 in
theorem crcNext_ok (m r c:Nat) (hr:r <4294967296) (hc:c <256) (W:World) (h:Blk W m 216 (tabC 256)):Calls Tryz.prog 132 #[.pointer (some ⟨m,0,none⟩), .int .u32 (r:Int), .int .u8 (c:Int)] W fun e w'=>e= .returned (.int .u32 ((stepsN 8 (r^^^c):Nat):Int))∧w'=W:=by
 obtain ⟨ix,hix⟩: ∃ix,(r%256)^^^c=ix:=⟨_,rfl⟩
 have hlt:ix <256:=by rw [←hix];exact Nat.xor_lt_two_pow (n:=8) (by omega) hc
 have e1:bits .xor .u8 ((r:Int)%256) (c:Int)=(ix:Int):=by
  have:=u8_xor_nat (r%256) c (by omega) hc
  rw [hix] at this
  rw [←this]
  congr 1
 obtain ⟨t,ht⟩: ∃t,stepsN 8 ix=t:=⟨_,rfl⟩
 have htl:t <4294967296:=by rw [←ht];exact stepsN_lt 8 (by omega)
 have e2:bits .xor .u32 ((r:Int)/256) (t:Int)=((stepsN 8 (r^^^c):Nat):Int):=by
  have:=u32_xor_nat (r/256) t (by omega) htl
  rw [byte_tab,hix,ht, ←this]
  congr 1
 have c1:=(h.cell ix).trans (tabC_at hlt)
 rw [if_pos hlt,ht] at c1
 have l1:=h.lt
 have k0:(0:Int)≤(ix:Int):=by omega
 have k1:(ix:Int) <256:=by omega
 clear hix ht htl h
 generalize stepsN 8 (r^^^c)=q at*
 go_enter Tryz.func132,Tryz.ntmps132
 go_wp2
 go_ret
 exact ⟨rfl,rfl⟩
theorem fold_get: ∀(l:List Value) (n:Nat) (z:Array Value),n+l.length≤z.size→((l.zipIdx n).foldl (fun cs x=>cs.setIfInBounds x.snd x.fst) z).size=z.size∧ ∀i,((l.zipIdx n).foldl (fun cs x=>cs.setIfInBounds x.snd x.fst) z)[i]? =if n≤i∧i <n+l.length then l[i -n]? else z[i]?
 | [],n,z,_=>⟨rfl,fun i=>by rw [if_neg (fun h9=>by have h8:=h9.2;rw [List.length_nil] at h8;omega)];rfl⟩
 |v::r,n,z,h=>by
  rw [List.length_cons] at h
  rw [List.zipIdx_cons,List.foldl_cons]
  obtain ⟨h1,h2⟩:=fold_get r (n+1) (z.setIfInBounds n v) (by rw [Array.size_setIfInBounds];omega)
  refine ⟨by rw [h1,Array.size_setIfInBounds],fun i=> ?_⟩
  rw [h2,List.length_cons]
  by_cases hi:i=n
  ·subst hi
   rw [if_neg (by omega),if_pos (by omega),Nat.sub_self,Array.getElem?_setIfInBounds,if_pos rfl,if_pos (by omega)]
   rfl
  ·by_cases h3:n+1≤i∧i <n+1+r.length
   ·rw [if_pos h3,if_pos (by omega),show i -n=(i -(n+1))+1 by omega,List.getElem?_cons_succ]
   ·rw [if_neg h3,if_neg (by omega),Array.getElem?_setIfInBounds,if_neg (fun e=>hi e.symm)]
theorem fold_whole (z a:Array Value) (h:z.size=a.size):Array.foldl (fun cs x=>cs.setIfInBounds x.snd x.fst) z a.zipIdx 0 a.size=a:=by
 have h1:Array.foldl (fun (cs:Array Value) (x:Value × Nat)=>cs.setIfInBounds x.snd x.fst) z a.zipIdx 0 a.size=(a.toList.zipIdx 0).foldl (fun cs x=>cs.setIfInBounds x.snd x.fst) z:=by
  conv=>lhs;rw [show a.size=a.zipIdx.size by simp]
  rw [←Array.foldl_toList,Array.toList_zipIdx]
 rw [h1]
 obtain ⟨h2,h3⟩:=fold_get a.toList 0 z (by rw [Array.length_toList];omega)
 apply Array.ext_getElem?
 intro i
 rw [h3 i]
 by_cases hi:i <a.size
 ·rw [if_pos (by rw [Array.length_toList];omega),Nat.sub_zero,Array.getElem?_toList]
 ·rw [if_neg (by rw [Array.length_toList];omega),Array.getElem?_eq_none (by omega),Array.getElem?_eq_none (by omega)]
theorem zero_mach:Tryz.zeroCells216.size=256:=by kernel_rfl
theorem fold_tab:Array.foldl (fun cs x=>cs.setIfInBounds x.snd x.fst) Tryz.zeroCells216 (tabC 256).zipIdx 0 (tabC 256).size=tabC 256:=fold_whole _ _ (by rw [zero_mach,tabC_size])
@[reducible] def nextV (m:Nat):Value:= .func (.func 132) #[.pointer (some ⟨m,0,none⟩)] #[]
set_option maxRecDepth 100000 in
set_option maxHeartbeats 2000000 in
theorem crcFeed_ok (m r:Nat) (ri:Int) (hri:ri=(r:Int)) (l:List Nat) (A:Option Addr) (c:Nat) (W:World) (h:Blk W m 216 (tabC 256)) (hb:bytesOk l) (hr:r <4294967296) (hl:l.length≤16777216) (hR:Rd W W.heap.size 1 A l.length (bytV l)):
  Calls Tryz.prog 133 #[.int .u32 ri,nextV m, .slice A l.length c] W fun e w'=>e= .returned (.int .u32 ((feedN r l:Nat):Int))∧w'=W:=by
 have hent: ∀a w,(callFunc 132 a).run Tryz.prog w= .ok (.enter 132 a) w:=enters_of Tryz.func132 (by kernel_rfl) rfl
 subst hri
 have HM:=Lib.hid h
 have HB:=Lib.hid hb
 have HR:=Lib.hid hR
 have HRR:=Lib.hid hr
 clear h hb hR hr
 go_enter Tryz.func133,Tryz.ntmps133
 go_wp2
 go_loopw [0,8,11] (fun q _ i wr=> ∃k:Nat,k≤l.length∧q= .int .u32 ((feedN r (l.take k):Nat):Int)∧i= .int .i64 k∧wr=W) (fun _ _ i _=>l.length -(intOf i).toNat)
 case atStart=>exact ⟨0,Nat.zero_le _,rfl,rfl,rfl⟩
 case round=>
  obtain ⟨k,hk,rfl,rfl,rfl⟩:=hrel
  by_cases hlt:k <l.length
  ·obtain ⟨x,hx⟩:=get_lt hlt
   have hxb:x <256:=HB.out x (List.mem_of_getElem? hx)
   have HN:=Lib.hid (crcNext_ok m (feedN r (l.take k)) x (feedN_lt _ HRR.out (fun c hc=>HB.out c (List.mem_of_mem_take hc))) hxb wr HM.out)
   have HE:=Lib.hid (show stepsN 8 (feedN r (l.take k)^^^x)=feedN r (l.take (k+1)) by rw [take_next hx,feedN_app];rfl)
   obtain ⟨b,o,rfl,hbb,hc⟩:=HR.out.2 (by omega)
   have g0:=hc k _ (bytV_at hx)
   have k0:(0:Int)≤(k:Int):=by omega
   have k1:(k:Int) <(l.length:Int):=by omega
   clear hc hx
   generalize feedN r (l.take k)=q at*
   go_wp2_with fail
   refine HN.out.mono ?_
   rintro e w2 ⟨rfl,rfl⟩
   rw [HE.out]
   go_wp2
   go_roundw
   case rel=>exact ⟨k+1,by omega,by first |rfl |trivial |simp,by go_num,by first |rfl |trivial⟩
   case measure=>simp [intOf];omega
  ·obtain rfl:k=l.length:=by omega
   have HE:=Lib.hid (show l.take l.length=l from List.take_length)
   rw [HE.out]
   go_wp2
   go_ret
   exact ⟨rfl,rfl⟩
set_option maxRecDepth 100000 in
set_option maxHeartbeats 2000000 in
theorem crcSum_ok (q:Nat) (l:List Nat) (A:Option Addr) (c:Nat) (W:World) (hq:W.cell? ⟨q,0,none⟩=some (.slice A l.length c)) (hqz:q <W.heap.size) (hb:bytesOk l) (hl:l.length≤16777216) (hR:Rd W W.heap.size 1 A l.length (bytV l)):
  Calls Tryz.prog 94 #[.slice (some ⟨q,0,none⟩) 1 1] W fun e w'=>e= .returned (.int .u32 ((sumN l:Nat):Int))∧Below W.heap.size W w':=by
 have hsz:(tabC 256).size=256:=tabC_size 256
 have hf:=fold_tab
 rw [hsz] at hf
 have HQ:=Lib.hid hq
 have HZ:=Lib.hid hqz
 have HB:=Lib.hid hb
 have HR:=Lib.hid hR
 clear hq hqz hb hR
 go_enter Tryz.func94,Tryz.ntmps94
 go_wp2_with fail
 refine (crcTable_ok W).mono ?_
 rintro e w1 ⟨rfl,hb1⟩
 have HB1:=Lib.hid hb1
 obtain ⟨w2,hw2⟩: ∃w2,w1.alloc (.cells (tabC 256) 216)=w2:=⟨_,rfl⟩
 have HM:=Lib.hid (show Blk w2 w1.heap.size 216 (tabC 256) by rw [←hw2];exact Blk.new w1 _ _)
 have HB2:=Lib.hid (show Below W.heap.size W w2 by rw [←hw2];exact Below.then_ hb1 (below_one _ _))
 have HW2:=Lib.hid hw2
 clear hw2 hb1
 go_upto_region 2 with (fail)
 rw [HW2.out]
 have HX:=Lib.hid (show bits .xor .u32 IntKind.u32.max ((feedN 4294967295 l:Nat):Int)=((sumN l:Nat):Int) by
  have h1:=u32_xor_nat 4294967295 (feedN 4294967295 l) (by decide) (feedN_lt l (by decide) HB.out)
  rw [Nat.xor_comm] at h1
  exact h1)
 have HF:=Lib.hid (crcFeed_ok w1.heap.size 4294967295 4294967295 rfl l A c w2 HM.out HB.out (by decide) hl (HR.out.up HB2.out))
 generalize feedN 4294967295 l=f at*
 go_wp2
 go_loopw [5,7,15] (fun r _ i wr=>((r= .int .u32 4294967295∧i= .int .i64 (0:Nat))∨(r= .int .u32 (f:Int)∧i= .int .i64 (1:Nat)))∧wr=w2) (fun _ _ i _=>1 -(intOf i).toNat)
 case atStart=>exact ⟨.inl ⟨rfl,rfl⟩,rfl⟩
 case round=>
  obtain ⟨⟨rfl,rfl⟩ |⟨rfl,rfl⟩,rfl⟩:=hrel
  ·have c0:=(HB2.out.cell (p:=⟨q,0,none⟩) HZ.out).trans HQ.out
   have cz:=Nat.lt_of_lt_of_le HZ.out HB2.out.size
   go_wp2_with fail
   refine HF.out.mono ?_
   rintro e w3 ⟨rfl,rfl⟩
   go_wp2
   go_roundw
   case rel=>exact ⟨.inr ⟨rfl,by simp⟩,trivial⟩
   case measure=>simp [intOf]
  ·have hx:=HX.out
   go_wp2
   go_ret
   exact ⟨rfl,HB2.out⟩
theorem crcLittle_ok (s:Nat) (hs:s <4294967296) (W:World):Calls Tryz.prog 93 #[.int .u32 (s:Int)] W fun e w'=> ∃v,e= .returned v∧w'.ownsRow W.heap.size 5 1 v 4 (bytV (leN s))∧Below W.heap.size W w':=by
 have HE:=Lib.hid (show #[Value.int .u8 ((s:Int)%256), .int .u8 ((s:Int)/256%256), .int .u8 ((s:Int)/65536%256), .int .u8 ((s:Int)/16777216)]=(bytV (leN s)).toArray by simp [bytV,leN];omega)
 have HL:=Lib.hid (below_one W (.cells #[Value.int .u8 ((s:Int)%256), .int .u8 ((s:Int)/256%256), .int .u8 ((s:Int)/65536%256), .int .u8 ((s:Int)/16777216)] 5))
 have HO:=Lib.hid (show (W.alloc (.cells #[Value.int .u8 ((s:Int)%256), .int .u8 ((s:Int)/256%256), .int .u8 ((s:Int)/65536%256), .int .u8 ((s:Int)/16777216)] 5)).ownsRow W.heap.size 5 1 (.slice (some ⟨W.heap.size,0,none⟩) 4 4) 4 (bytV (leN s)) from by
  rw [HE.out]
  exact ⟨by simp [bytV,leN], .inr ⟨W.heap.size,4,_,rfl,Nat.le_refl _,heap_alloc_new W _,Nat.le_refl _,by unfold maxLen;omega,by simp [bytV,leN],by rw [List.take_of_length_le (by simp [bytV,leN])]⟩⟩)
 go_enter Tryz.func93,Tryz.ntmps93
 go_wp2
 go_ret
 exact ⟨_,rfl,HO.out,HL.out⟩
end Go.Proofs.YteelncofiodflaaGreat
namespace Go.Proofs.YteelncofiodflaaGreat
open Go.RowKit
theorem own_lessB {w:World} {base b2:Nat} {e:TypeId} {size n:Nat} {v:Value} {xs:List Value} (h:w.ownsRow base e size v n xs) (hb:b2≤base):w.ownsRow b2 e size v n xs:=by
 refine ⟨h.1, ?_⟩
 rcases h.2 with h2 |⟨g,cap,cur,e1,hg,r⟩
 ·exact .inl h2
 ·exact .inr ⟨g,cap,cur,e1,Nat.le_trans hb hg,r⟩
set_option maxRecDepth 100000 in
set_option maxHeartbeats 2000000 in
theorem crcSeal_ok (l:List Nat) (n:Nat) (hn:n=l.length) (A:Option Addr) (c:Nat) (W:World) (hb:bytesOk l) (hl:n≤4194000) (hR:Rd W W.heap.size 1 A n (bytV l)):
  Calls Tryz.prog 33 #[.slice A n c] W fun e w'=> ∃v,e= .returned v∧w'.ownsRow W.heap.size 5 1 v (sealN l).length (bytV (sealN l))∧Below W.heap.size W w':=by
 subst hn
 obtain ⟨w1,hw1⟩: ∃w1,W.alloc (.cells #[.slice A l.length c] 41)=w1:=⟨_,rfl⟩
 have hk1:=Blk.new W 41 #[.slice A l.length c]
 rw [hw1] at hk1
 have c1:=hk1.cell 0
 simp at c1
 have hB1:Below W.heap.size W w1:=by rw [←hw1];exact below_one _ _
 have HS:=Lib.hid (crcSum_ok W.heap.size l A c w1 c1 hk1.lt hb (by omega) (hR.up hB1))
 have HB1:=Lib.hid hB1
 have HW1:=Lib.hid hw1
 have HSL:=Lib.hid (sumN_lt hb)
 have HR:=Lib.hid hR
 have HSN:=Lib.hid (show sealN l=l++leN (sumN l) from rfl)
 clear hw1 hk1 c1 hB1 hR hb
 generalize sumN l=s at*
 go_enter Tryz.func33,Tryz.ntmps33
 go_wp2_with fail
 rw [HW1.out]
 refine HS.out.mono ?_
 rintro e w2 ⟨rfl,hb2⟩
 have HB2:=Lib.hid (Below.then_ HB1.out hb2)
 clear hb2
 go_wp2_with fail
 refine (crcLittle_ok s HSL.out w2).mono ?_
 rintro e w3 ⟨v3,rfl,ho3,hb3⟩
 obtain ⟨D,d,rfl,_,_,hrd⟩:=own_form ho3
 have HB3:=Lib.hid (Below.then_ HB2.out hb3)
 obtain ⟨w4,hw4⟩: ∃w4,w3.alloc (.cells #[.slice A l.length c, .slice D 4 d] 41)=w4:=⟨_,rfl⟩
 have hk4:=Blk.new w3 41 #[.slice A l.length c, .slice D 4 d]
 rw [hw4] at hk4
 have c0:=hk4.cell 0
 have c1:=hk4.cell 1
 simp at c0 c1
 have hB4:Below w3.heap.size w3 w4:=by rw [←hw4];exact below_one _ _
 have HC:=Lib.hid (concatByt_ok A D l.length 4 c d w3.heap.size (bytV l) (bytV (leN s)) w4 c0 c1 hk4.lt (HR.out.up (Below.then_ HB3.out hB4)) (hrd.up hB4) (bytV_one _) (bytV_one _) (by omega) (by omega))
 have HB4:=Lib.hid (Below.then_ HB3.out hB4)
 have HW4:=Lib.hid hw4
 clear hw4 hk4 c0 c1 hB4 hb3 ho3 hrd
 go_wp2_with fail
 rw [HW4.out]
 refine HC.out.mono ?_
 rintro e w5 ⟨v5,rfl,ho5,hb5⟩
 obtain ⟨E5,e5,rfl,_,_,_⟩:=own_form ho5
 have HO5:=Lib.hid ho5
 have HB5:=Lib.hid (Below.then_ HB4.out hb5)
 clear ho5 hb5
 go_wp2
 go_ret
 refine ⟨_,rfl, ?_,HB5.out⟩
 rw [HSN.out,List.length_append,leN_len,bytV_app]
 exact own_lessB HO5.out HB4.out.size
end Go.Proofs.YteelncofiodflaaGreat
