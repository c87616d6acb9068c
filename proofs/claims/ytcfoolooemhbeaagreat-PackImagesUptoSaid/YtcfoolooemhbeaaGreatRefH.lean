/-
  Heads and Links of the reference of layer 11, walked. Condition: at most 4194304 of them.
-/
import Derived.BigQuiet
import Derived.Test.YtcfoolooemhbeaaGreatLnkW
import Derived.Test.YtcfoolooemhbeaaGreatInvX
namespace Go.Proofs.YtcfoolooemhbeaaGreat
open Go.RowKit
theorem infoHead9:(Tryz.prog.info? 51).map (fun i=>(i.zero,i.size,i.bytes))=some (some (.agg #[.int .u16 0, .int .u16 0, .int .u16 0]),3,6):=by kernel_rfl
theorem infoLink9:(Tryz.prog.info? 54).map (fun i=>(i.zero,i.size,i.bytes))=some (some (.agg #[.int .u16 0, .int .u16 0]),2,4):=by kernel_rfl
set_option maxRecDepth 100000 in
set_option maxHeartbeats 4000000 in
theorem rHeads_ok (l:List Chn) (cs:List Value) (A:Option Addr) (c:Nat) (W:World) (hC:ChnsC W W.heap.size l cs) (hr:Rd W W.heap.size 3 A l.length cs) (hl:l.length≤4194304) (hd: ∀x ∈ l,x.dests.length≤4194304):
  Calls Tryz.prog 15 #[.slice A l.length c] W fun e w'=> ∃v,e= .returned v∧w'.ownsRow W.heap.size 51 3 v l.length ((l.map hdT).flatMap hdC)∧Below W.heap.size W w':=by
 obtain ⟨i0,hi,hz0,hz1,hz2⟩:=info_parts infoHead9
 have HC:=Lib.hid hC
 have HR:=Lib.hid hr
 have HD:=Lib.hid hd
 clear hC hr hd
 go_enter Tryz.func15,Tryz.ntmps15
 go_wp2
 go_loopw [3,4] (fun v i wr=> ∃k:Nat,k≤l.length∧i= .int .i64 k∧Hid (wr.ownsRow W.heap.size 51 3 v ((l.take k).map hdT).length (((l.take k).map hdT).flatMap hdC))∧Hid (Below W.heap.size W wr)) (fun _ i _=>l.length -(intOf i).toNat)
 case atStart=>exact ⟨0,Nat.zero_le _,rfl,Lib.hid (World.ownsRow_nil _ _ _ _),Lib.hid (Below.refl _ _)⟩
 case round=>
  obtain ⟨k,hk,rfl,HO,HB⟩:=hrel
  obtain ⟨vA,vc,rfl,_⟩:=own_form HO.out
  by_cases hlt:k <l.length
  ·obtain ⟨x,hx⟩:=get_lt hlt
   obtain ⟨b,o,rfl,hb,_,_,Dx,dx,_,_,_,_⟩:=chn_at0 HC.out HR.out hx
   have KEEP: ∀U,Below W.heap.size wr U→U.cell? ⟨b,o+k*3,none⟩=some (.int .u16 x.id)∧U.cell? ⟨b,o+k*3+1,none⟩=some (.int .u16 x.source)∧U.cell? ⟨b,o+k*3+2,none⟩=some (.slice Dx x.dests.length dx)∧b <U.heap.size:=fun U hU=>by
    have hWU:=HB.out.trans hU
    have c0:=fun j=>hWU.cell (p:=⟨b,j,none⟩) hb
    exact ⟨(c0 _).trans (by assumption),(c0 _).trans (by assumption),(c0 _).trans (by assumption),Nat.lt_of_lt_of_le hb hWU.size⟩
   have HKP:=Lib.hid KEEP
   have k0:(0:Int)≤(k:Int):=by omega
   have k1:(k:Int) <(l.length:Int):=by omega
   have hn:=HD.out x (List.mem_of_getElem? hx)
   have HN:=Lib.hid (show (l.take (k+1)).map hdT=(l.take k).map hdT++ [hdT x] by rw [take_next hx,List.map_append];rfl)
   have hlen:((l.take k).map hdT).length≤4194304:=by rw [List.length_map,List.length_take];omega
   generalize (l.take k).map hdT=rows at*
   have hWs:W.heap.size≤wr.heap.size:=HB.out.size
   obtain ⟨m0,hm0⟩: ∃m0:Int,IntKind.u16.wrap (x.dests.length:Int)=m0:=⟨_,rfl⟩
   have HM:=Lib.hid hm0
   have HKX:=Lib.hid (KEEP wr (Below.refl _ _))
   obtain ⟨_,_,_,hbw⟩:=HKX.out
   clear KEEP hx
   go_upto_region 5 with (fail)
   refine wp_region_L 11 21 19 20 0 3 45 rfl (by decide) (by decide) (by decide) (by decide) (by decide) (by decide) (by decide) (by kernel_rfl) (by kernel_rfl) (by kernel_rfl) (by kernel_rfl) (Nat.le_of_ble_eq_true (by kernel_rfl))
    (fun o ho=>by cases ho;exact ⟨rfl,⟨{on:=19,ground:= .data},by simp,rfl,rfl⟩,⟨{on:=0,ground:= .data},by simp,rfl,rfl⟩⟩) (fun o ho=>by cases ho;exact ⟨rfl,rfl,⟨{on:=20,ground:= .data},by simp,rfl,rfl⟩⟩)
    W.heap.size 51 i0 (.agg #[.int .u16 0, .int .u16 0, .int .u16 0]) 3 6 Tryz.underlying45 hi hz0 hz1 hz2 rfl (by decide) _ rows.length (rows.flatMap hdC) [.int .u16 x.id, .int .u16 x.source, .int .u16 m0] HO.out (hWs) rfl (by intro u hu;simp at hu;rcases hu with rfl |rfl |rfl<;>rfl) (by unfold maxLen;omega) (by omega)
    [.slice vA rows.length vc, .slice (some ⟨b,o,none⟩) l.length c, .int .i64 k, .pointer (some ⟨b,o+k*3,none⟩), .pointer (some ⟨b,o+k*3,none⟩), .int .u16 x.id, .slice (some ⟨b,o,none⟩) l.length c, .int .i64 k, .pointer (some ⟨b,o+k*3,none⟩), .pointer (some ⟨b,o+k*3+1,none⟩), .int .u16 x.source, .slice (some ⟨b,o,none⟩) l.length c, .int .i64 k, .pointer (some ⟨b,o+k*3,none⟩), .pointer (some ⟨b,o+k*3+2,none⟩), .slice Dx x.dests.length dx, .int .i64 x.dests.length, .int .u16 m0, .agg #[.int .u16 x.id, .int .u16 x.source, .int .u16 m0],undef,undef] rfl ?hpure (fun o ho=>by cases ho;exact ⟨{on:=0,ground:= .phase},by simp,rfl,rfl⟩) ?hlit ?hend
   case hpure=>
    intro i o ho hin h1 h2 U hE hzU ρ r0 r1 rk r2
    obtain ⟨g0,g1,g2,gz⟩:=HKP.out U hE
    match i,ho with
    |0,ho=>
     cases ho
     have q3:=rk rfl
     simp only [execOp,List.getD_cons_zero]
     go_simp
    |1,ho=>
     cases ho
     have q0:=r1 0 (by decide) (by decide)
     simp only [execOp,List.getD_cons_succ,List.getD_cons_zero]
     go_simp
    |2,ho=>
     cases ho
     have q4:=r1 4 (by decide) (by decide)
     simp only [execOp,List.getD_cons_succ,List.getD_cons_zero]
     go_simp
    |3,ho=>
     cases ho
     have q12:ρ (.tmp 12)= .slice (some ⟨b,o,none⟩) l.length c:=r2 {on:=1,ground:= .data} (by simp) rfl (by decide) (by decide)
     have q13:ρ (.tmp 13)= .int .i64 k:=r2 {on:=2,ground:= .data} (by simp) rfl (by decide) (by decide)
     simp only [execOp,List.getD_cons_succ,List.getD_cons_zero]
     go_simp
    |4,ho=>
     cases ho
     have q14:ρ (.tmp 14)= .pointer (some ⟨b,o+k*3,none⟩):=r2 {on:=3,ground:= .data} (by simp) rfl (by decide) (by decide)
     simp only [execOp,List.getD_cons_succ,List.getD_cons_zero]
     go_simp
    |5,ho=>
     cases ho
     have q15:ρ (.tmp 15)= .pointer (some ⟨b,o+k*3,none⟩):=r2 {on:=4,ground:= .data} (by simp) rfl (by decide) (by decide)
     simp only [execOp,List.getD_cons_succ,List.getD_cons_zero]
     go_simp
    |6,ho=>
     cases ho
     have q0:=r1 0 (by decide) (by decide)
     simp only [execOp,List.getD_cons_succ,List.getD_cons_zero]
     go_simp
    |7,ho=>
     cases ho
     have q4:=r1 4 (by decide) (by decide)
     simp only [execOp,List.getD_cons_succ,List.getD_cons_zero]
     go_simp
    |8,ho=>
     cases ho
     have q17:ρ (.tmp 17)= .slice (some ⟨b,o,none⟩) l.length c:=r2 {on:=6,ground:= .data} (by simp) rfl (by decide) (by decide)
     have q18:ρ (.tmp 18)= .int .i64 k:=r2 {on:=7,ground:= .data} (by simp) rfl (by decide) (by decide)
     simp only [execOp,List.getD_cons_succ,List.getD_cons_zero]
     go_simp
    |9,ho=>
     cases ho
     have q19:ρ (.tmp 19)= .pointer (some ⟨b,o+k*3,none⟩):=r2 {on:=8,ground:= .data} (by simp) rfl (by decide) (by decide)
     simp only [execOp,List.getD_cons_succ,List.getD_cons_zero]
     go_simp
    |10,ho=>
     cases ho
     have q20:ρ (.tmp 20)= .pointer (some ⟨b,o+k*3+1,none⟩):=r2 {on:=9,ground:= .data} (by simp) rfl (by decide) (by decide)
     simp only [execOp,List.getD_cons_succ,List.getD_cons_zero]
     go_simp
    |11,ho=>
     cases ho
     have q0:=r1 0 (by decide) (by decide)
     simp only [execOp,List.getD_cons_succ,List.getD_cons_zero]
     go_simp
    |12,ho=>
     cases ho
     have q4:=r1 4 (by decide) (by decide)
     simp only [execOp,List.getD_cons_succ,List.getD_cons_zero]
     go_simp
    |13,ho=>
     cases ho
     have q22:ρ (.tmp 22)= .slice (some ⟨b,o,none⟩) l.length c:=r2 {on:=11,ground:= .data} (by simp) rfl (by decide) (by decide)
     have q23:ρ (.tmp 23)= .int .i64 k:=r2 {on:=12,ground:= .data} (by simp) rfl (by decide) (by decide)
     simp only [execOp,List.getD_cons_succ,List.getD_cons_zero]
     go_simp
    |14,ho=>
     cases ho
     have q24:ρ (.tmp 24)= .pointer (some ⟨b,o+k*3,none⟩):=r2 {on:=13,ground:= .data} (by simp) rfl (by decide) (by decide)
     simp only [execOp,List.getD_cons_succ,List.getD_cons_zero]
     go_simp
    |15,ho=>
     cases ho
     have q25:ρ (.tmp 25)= .pointer (some ⟨b,o+k*3+2,none⟩):=r2 {on:=14,ground:= .data} (by simp) rfl (by decide) (by decide)
     simp only [execOp,List.getD_cons_succ,List.getD_cons_zero]
     go_simp
    |16,ho=>
     cases ho
     have q26:ρ (.tmp 26)= .slice Dx x.dests.length dx:=r2 {on:=15,ground:= .data} (by simp) rfl (by decide) (by decide)
     simp only [execOp,List.getD_cons_succ,List.getD_cons_zero]
     go_simp
    |17,ho=>
     cases ho
     have q27:ρ (.tmp 27)= .int .i64 x.dests.length:=r2 {on:=16,ground:= .data} (by simp) rfl (by decide) (by decide)
     simp only [execOp,List.getD_cons_succ,List.getD_cons_zero]
     go_simp
    |18,ho=>
     cases ho
     have q16:ρ (.tmp 16)= .int .u16 x.id:=r2 {on:=5,ground:= .data} (by simp) rfl (by decide) (by decide)
     have q21:ρ (.tmp 21)= .int .u16 x.source:=r2 {on:=10,ground:= .data} (by simp) rfl (by decide) (by decide)
     have q28:ρ (.tmp 28)= .int .u16 m0:=r2 {on:=17,ground:= .data} (by simp) rfl (by decide) (by decide)
     simp only [execOp,List.getD_cons_succ,List.getD_cons_zero]
     go_simp
    |19,_=>exact absurd rfl h1
    |20,_=>exact absurd rfl h2
    |k+21,ho=>exact absurd hin (Nat.not_lt.2 (Nat.le_add_left 21 k))
   case hlit=>
    intro o ho U ρ r0 r2
    cases ho
    have q29:ρ (.tmp 29)= .agg #[.int .u16 x.id, .int .u16 x.source, .int .u16 m0]:=r2 {on:=18,ground:= .data} (by simp) rfl (by decide)
    simp only [execOp]
    go_simp
   case hend=>
    intro u U howU hbU
    simp only [mkL,mkAt,List.take_succ_cons,List.take_zero,List.drop_succ_cons,List.drop_zero,List.range,List.range.loop,List.map_cons,List.map_nil,List.cons_append,List.nil_append,List.setIfInBounds_toArray,List.set_cons_succ,List.set_cons_zero]
    have HO2:=Lib.hid (show U.ownsRow W.heap.size 51 3 (u 21) (rows++ [hdT x]).length ((rows++ [hdT x]).flatMap hdC) by
     rw [List.length_append,List.flatMap_append]
     have e9: [hdT x].flatMap hdC= [Value.int .u16 x.id, .int .u16 x.source, .int .u16 m0]:=by rw [←HM.out];rfl
     rw [e9]
     exact howU)
    have HB2:=Lib.hid (HB.out.trans hbU)
    clear howU hbU hm0
    go_wp2
    go_roundw
    case rel=>exact ⟨k+1,by omega,by go_num,Lib.hid (by rw [HN.out];exact HO2.out),HB2⟩
    case measure=>simp [intOf];omega
  ·obtain rfl:k=l.length:=by omega
   have HF:=Lib.hid (show l.take l.length=l from List.take_length)
   go_wp2
   go_ret
   refine ⟨_,rfl, ?_,HB.out⟩
   have h:=HO.out
   rw [HF.out] at h
   rw [List.length_map] at h
   rw [HF.out,List.length_map]
   exact h
set_option maxRecDepth 100000 in
set_option maxHeartbeats 4000000 in
theorem rLinks_ok (l:List Chn) (cs:List Value) (A:Option Addr) (c:Nat) (W:World) (hC:ChnsC W W.heap.size l cs) (hr:Rd W W.heap.size 3 A l.length cs) (hl:l.length≤4194304) (hs:sumDests l≤4194304) (hd: ∀x ∈ l,x.dests.length≤4194304):
  Calls Tryz.prog 16 #[.slice A l.length c] W fun e w'=> ∃v,e= .returned v∧w'.ownsRow W.heap.size 54 2 v (lksOf l).length ((lksOf l).flatMap lkC)∧Below W.heap.size W w':=by
 obtain ⟨i0,hi,hz0,hz1,hz2⟩:=info_parts infoLink9
 have HC:=Lib.hid hC
 have HR:=Lib.hid hr
 have HS:=Lib.hid hs
 have HD:=Lib.hid hd
 clear hC hr hd hs
 go_enter Tryz.func16,Tryz.ntmps16
 go_wp2
 go_loopw [3,4] (fun v i wr=> ∃k:Nat,k≤l.length∧i= .int .i64 k∧Hid (wr.ownsRow W.heap.size 54 2 v (lksOf (l.take k)).length ((lksOf (l.take k)).flatMap lkC))∧Hid (Below W.heap.size W wr)) (fun _ i _=>l.length -(intOf i).toNat)
 case atStart=>exact ⟨0,Nat.zero_le _,rfl,Lib.hid (World.ownsRow_nil _ _ _ _),Lib.hid (Below.refl _ _)⟩
 case round=>
  obtain ⟨k,hk,rfl,HO,HB⟩:=hrel
  by_cases hlt:k <l.length
  ·obtain ⟨x,hx⟩:=get_lt hlt
   obtain ⟨b,o,rfl,hb,_,_,Dx,dx,_,_,_,hdr⟩:=chn_at0 HC.out HR.out hx
   have KEEP: ∀U,Below W.heap.size W U→U.cell? ⟨b,o+k*3,none⟩=some (.int .u16 x.id)∧U.cell? ⟨b,o+k*3+1,none⟩=some (.int .u16 x.source)∧U.cell? ⟨b,o+k*3+2,none⟩=some (.slice Dx x.dests.length dx)∧b <U.heap.size:=fun U hWU=>by
    have c0:=fun j=>hWU.cell (p:=⟨b,j,none⟩) hb
    exact ⟨(c0 _).trans (by assumption),(c0 _).trans (by assumption),(c0 _).trans (by assumption),Nat.lt_of_lt_of_le hb hWU.size⟩
   have HKP:=Lib.hid KEEP
   have HDR:=Lib.hid hdr
   have HX:=Lib.hid hx
   have k0:(0:Int)≤(k:Int):=by omega
   have k1:(k:Int) <(l.length:Int):=by omega
   have hn:=HD.out x (List.mem_of_getElem? hx)
   have HLE:=Lib.hid (fun j (hj:j≤x.dests.length)=>lksTo_len HX.out hj)
   have HL0:=Lib.hid (show wr.ownsRow W.heap.size 54 2 u3 (lksTo l k x 0).length ((lksTo l k x 0).flatMap lkC) by
    have:lksTo l k x 0=lksOf (l.take k):=by unfold lksTo;simp
    rw [this];exact HO.out)
   have HE:=Lib.hid (lksTo_end HX.out)
   clear KEEP hx hdr HO
   generalize wr=wo at*
   go_wp2
   go_loopw [3,5] (fun v i wi=> ∃j:Nat,j≤x.dests.length∧i= .int .i64 j∧Hid (wi.ownsRow W.heap.size 54 2 v (lksTo l k x j).length ((lksTo l k x j).flatMap lkC))∧Hid (Below W.heap.size W wi)) (fun _ i _=>x.dests.length -(intOf i).toNat)
   case atStart=>exact ⟨0,Nat.zero_le _,rfl,HL0,HB⟩
   case round=>
    obtain ⟨j,hj,rfl,HL,HB2⟩:=hrel
    obtain ⟨vA,vc,rfl,_⟩:=own_form HL.out
    obtain ⟨g0,g1,g2,gz⟩:=HKP.out _ HB2.out
    by_cases hlj:j <x.dests.length
    ·obtain ⟨dd,hdd⟩:=get_lt hlj
     obtain ⟨bd,od,rfl,hbd,gd⟩:=int_at HDR.out hdd
     have HHS:=HS.out
     have hle:(lksTo l k x j).length≤4194304:=Nat.le_trans (HLE.out j (Nat.le_of_lt hlj)) HHS
     have HNX:=Lib.hid (lksTo_next (l:=l) (k:=k) hdd)
     generalize lksTo l k x j=links at*
     have j0:(0:Int)≤(j:Int):=by omega
     have j1:(j:Int) <(x.dests.length:Int):=by omega
     have hWs:W.heap.size≤wr.heap.size:=HB2.out.size
     have HGD:=Lib.hid (fun (U:World) (hU:Below W.heap.size W U)=>(hU.cell (p:=⟨bd,od+j,none⟩) hbd).trans gd)
     have HBD:=Lib.hid hbd
     clear hdd gd hbd
     go_upto_region 8 with (fail)
     clear g0 g1 g2 gz
     refine wp_region_L 22 17 15 16 0 3 47 rfl (by decide) (by decide) (by decide) (by decide) (by decide) (by decide) (by decide) (by kernel_rfl) (by kernel_rfl) (by kernel_rfl) (by kernel_rfl) (Nat.le_of_ble_eq_true (by kernel_rfl))
      (fun o ho=>by cases ho;exact ⟨rfl,⟨{on:=15,ground:= .data},by simp,rfl,rfl⟩,⟨{on:=0,ground:= .data},by simp,rfl,rfl⟩⟩) (fun o ho=>by cases ho;exact ⟨rfl,rfl,⟨{on:=16,ground:= .data},by simp,rfl,rfl⟩⟩)
      W.heap.size 54 i0 (.agg #[.int .u16 0, .int .u16 0]) 2 4 Tryz.underlying47 hi hz0 hz1 hz2 rfl (by decide) _ links.length (links.flatMap lkC) [.int .u16 x.id, .int .u16 dd] HL.out (hWs) rfl (by intro u hu;simp at hu;rcases hu with rfl |rfl<;>rfl) (by unfold maxLen;omega) (by omega)
      [.slice vA links.length vc, .slice (some ⟨b,o,none⟩) l.length c, .int .i64 k, .pointer (some ⟨b,o+k*3,none⟩), .pointer (some ⟨b,o+k*3,none⟩), .int .u16 x.id, .slice (some ⟨b,o,none⟩) l.length c, .int .i64 k, .pointer (some ⟨b,o+k*3,none⟩), .pointer (some ⟨b,o+k*3+2,none⟩), .slice (some ⟨bd,od,none⟩) x.dests.length dx, .int .i64 j, .pointer (some ⟨bd,od+j,none⟩), .int .u16 dd, .agg #[.int .u16 x.id, .int .u16 dd],undef,undef] rfl ?hpure (fun o ho=>by cases ho;exact ⟨{on:=0,ground:= .phase},by simp,rfl,rfl⟩) ?hlit ?hend
     case hpure=>
      intro i o ho hin h1 h2 U hE hzU ρ r0 r1 rk r2
      have hWU:=HB2.out.trans hE
      obtain ⟨g0,g1,g2,gz⟩:=HKP.out U hWU
      have gd:=HGD.out U hWU
      have gdz:=Nat.lt_of_lt_of_le HBD.out hWU.size
      match i,ho with
      |0,ho=>
       cases ho
       have q3:=rk rfl
       simp only [execOp,List.getD_cons_zero]
       go_simp
      |1,ho=>
       cases ho
       have q0:=r1 0 (by decide) (by decide)
       simp only [execOp,List.getD_cons_succ,List.getD_cons_zero]
       go_simp
      |2,ho=>
       cases ho
       have q4:=r1 4 (by decide) (by decide)
       simp only [execOp,List.getD_cons_succ,List.getD_cons_zero]
       go_simp
      |3,ho=>
       cases ho
       have q23:ρ (.tmp 23)= .slice (some ⟨b,o,none⟩) l.length c:=r2 {on:=1,ground:= .data} (by simp) rfl (by decide) (by decide)
       have q24:ρ (.tmp 24)= .int .i64 k:=r2 {on:=2,ground:= .data} (by simp) rfl (by decide) (by decide)
       simp only [execOp,List.getD_cons_succ,List.getD_cons_zero]
       go_simp
      |4,ho=>
       cases ho
       have q25:ρ (.tmp 25)= .pointer (some ⟨b,o+k*3,none⟩):=r2 {on:=3,ground:= .data} (by simp) rfl (by decide) (by decide)
       simp only [execOp,List.getD_cons_succ,List.getD_cons_zero]
       go_simp
      |5,ho=>
       cases ho
       have q26:ρ (.tmp 26)= .pointer (some ⟨b,o+k*3,none⟩):=r2 {on:=4,ground:= .data} (by simp) rfl (by decide) (by decide)
       simp only [execOp,List.getD_cons_succ,List.getD_cons_zero]
       go_simp
      |6,ho=>
       cases ho
       have q0:=r1 0 (by decide) (by decide)
       simp only [execOp,List.getD_cons_succ,List.getD_cons_zero]
       go_simp
      |7,ho=>
       cases ho
       have q4:=r1 4 (by decide) (by decide)
       simp only [execOp,List.getD_cons_succ,List.getD_cons_zero]
       go_simp
      |8,ho=>
       cases ho
       have q28:ρ (.tmp 28)= .slice (some ⟨b,o,none⟩) l.length c:=r2 {on:=6,ground:= .data} (by simp) rfl (by decide) (by decide)
       have q29:ρ (.tmp 29)= .int .i64 k:=r2 {on:=7,ground:= .data} (by simp) rfl (by decide) (by decide)
       simp only [execOp,List.getD_cons_succ,List.getD_cons_zero]
       go_simp
      |9,ho=>
       cases ho
       have q30:ρ (.tmp 30)= .pointer (some ⟨b,o+k*3,none⟩):=r2 {on:=8,ground:= .data} (by simp) rfl (by decide) (by decide)
       simp only [execOp,List.getD_cons_succ,List.getD_cons_zero]
       go_simp
      |10,ho=>
       cases ho
       have q31:ρ (.tmp 31)= .pointer (some ⟨b,o+k*3+2,none⟩):=r2 {on:=9,ground:= .data} (by simp) rfl (by decide) (by decide)
       simp only [execOp,List.getD_cons_succ,List.getD_cons_zero]
       go_simp
      |11,ho=>
       cases ho
       have q5:=r1 5 (by decide) (by decide)
       simp only [execOp,List.getD_cons_succ,List.getD_cons_zero]
       go_simp
      |12,ho=>
       cases ho
       have q32:ρ (.tmp 32)= .slice (some ⟨bd,od,none⟩) x.dests.length dx:=r2 {on:=10,ground:= .data} (by simp) rfl (by decide) (by decide)
       have q33:ρ (.tmp 33)= .int .i64 j:=r2 {on:=11,ground:= .data} (by simp) rfl (by decide) (by decide)
       simp only [execOp,List.getD_cons_succ,List.getD_cons_zero]
       go_simp
      |13,ho=>
       cases ho
       have q34:ρ (.tmp 34)= .pointer (some ⟨bd,od+j,none⟩):=r2 {on:=12,ground:= .data} (by simp) rfl (by decide) (by decide)
       simp only [execOp,List.getD_cons_succ,List.getD_cons_zero]
       go_simp
      |14,ho=>
       cases ho
       have q27:ρ (.tmp 27)= .int .u16 x.id:=r2 {on:=5,ground:= .data} (by simp) rfl (by decide) (by decide)
       have q35:ρ (.tmp 35)= .int .u16 dd:=r2 {on:=13,ground:= .data} (by simp) rfl (by decide) (by decide)
       simp only [execOp,List.getD_cons_succ,List.getD_cons_zero]
       go_simp
      |15,_=>exact absurd rfl h1
      |16,_=>exact absurd rfl h2
      |k+17,ho=>exact absurd hin (Nat.not_lt.2 (Nat.le_add_left 17 k))
     case hlit=>
      intro o ho U ρ r0 r2
      cases ho
      have q36:ρ (.tmp 36)= .agg #[.int .u16 x.id, .int .u16 dd]:=r2 {on:=14,ground:= .data} (by simp) rfl (by decide)
      simp only [execOp]
      go_simp
     case hend=>
      intro u U howU hbU
      simp only [mkL,mkAt,List.take_succ_cons,List.take_zero,List.drop_succ_cons,List.drop_zero,List.range,List.range.loop,List.map_cons,List.map_nil,List.cons_append,List.nil_append,List.setIfInBounds_toArray,List.set_cons_succ,List.set_cons_zero]
      have HL9:=Lib.hid (show U.ownsRow W.heap.size 54 2 (u 17) (links++ [(x.id,dd)]).length ((links++ [(x.id,dd)]).flatMap lkC) by rw [List.length_append,List.flatMap_append];exact howU)
      have HB9:=Lib.hid (HB2.out.trans hbU)
      clear howU hbU
      go_wp2
      go_roundw
      case rel=>exact ⟨j+1,by omega,by go_num,Lib.hid (by rw [HNX.out];exact HL9.out),HB9⟩
      case measure=>simp [intOf];omega
    ·obtain rfl:j=x.dests.length:=by omega
     go_wp2
     go_roundw
     case rel=>exact ⟨k+1,by omega,by go_num,Lib.hid (by rw [←HE.out];exact HL.out),HB2⟩
     case measure=>simp [intOf];omega
  ·obtain rfl:k=l.length:=by omega
   have HF:=Lib.hid (show l.take l.length=l from List.take_length)
   go_wp2
   go_ret
   exact ⟨_,rfl,by have:=HO.out;rwa [HF.out] at this,HB.out⟩
end Go.Proofs.YtcfoolooemhbeaaGreat
