/-
  What conf.Normal keeps in memory while it runs. It speaks of no program's text.
-/
import Derived.Test.YteelncofiodflaaGreatSortG
import Derived.Test.YteelncofiodflaaGreatMrgZ
import Derived.Deep.DeepCutAuto
import Derived.BigQuiet
import Derived.Deep.RegionWith
import Derived.Test.YteelncofiodflaaGreatSrt5
namespace Go.Proofs.YteelncofiodflaaGreat
open Go.RowKit
structure NrmSt (w W:World) (g:Nat) (F:Int) (v1 v2 v3 v4 v5:Value) (P:List Par) (N:List Win) (R:List Reg) (T:List Prt) (L:List CE):Prop where
 gz:w.heap.size+1 <g
 bel:Below w.heap.size w W
 res:Blk W (w.heap.size+1) 29 #[.int .u64 0, .slice none 0 0, .slice none 0 0, .slice none 0 0, .slice none 0 0, .slice none 0 0]
 out:Blk W g 29 #[.int .u64 F,v1,v2,v3,v4,v5]
 o1:W.ownsRow w.heap.size 49 4 v1 P.length (P.flatMap Par.cells)
 o2:W.ownsRow w.heap.size 71 3 v2 N.length (N.flatMap Win.cells)
 o3:W.ownsRow w.heap.size 75 5 v3 R.length (R.flatMap Reg.cells)
 o4:W.ownsRow w.heap.size 52 6 v4 T.length (T.flatMap Prt.cells)
 o5:W.ownsRow w.heap.size 57 3 v5 L.length (L.flatMap CE.cells)
 ch:ChnsO W w.heap.size L
section
variable {w W V:World} {g:Nat} {F:Int} {v1 v2 v3 v4 v5 v':Value} {P P':List Par} {N N':List Win} {R R':List Reg} {T T':List Prt} {L L':List CE}
theorem NrmSt.up (h:NrmSt w W g F v1 v2 v3 v4 v5 P N R T L) (hb:Below W.heap.size W V):NrmSt w V g F v1 v2 v3 v4 v5 P N R T L:=
 ⟨h.gz,h.bel.trans (hb.mono h.bel.size),h.res.below hb h.res.lt,h.out.below hb h.out.lt,own_below h.o1 hb,own_below h.o2 hb,own_below h.o3 hb,own_below h.o4 hb,own_below h.o5 hb,h.ch.below hb⟩
theorem NrmSt.cells (h:NrmSt w W g F v1 v2 v3 v4 v5 P N R T L):W.cell? ⟨g,0,none⟩=some (.int .u64 F)∧W.cell? ⟨g,1,none⟩=some v1∧W.cell? ⟨g,2,none⟩=some v2∧W.cell? ⟨g,3,none⟩=some v3∧W.cell? ⟨g,4,none⟩=some v4∧W.cell? ⟨g,5,none⟩=some v5∧g <W.heap.size:=by
 refine ⟨?_, ?_, ?_, ?_, ?_, ?_,h.out.lt⟩
 ·have:=h.out.cell 0;simpa using this
 ·have:=h.out.cell 1;simpa using this
 ·have:=h.out.cell 2;simpa using this
 ·have:=h.out.cell 3;simpa using this
 ·have:=h.out.cell 4;simpa using this
 ·have:=h.out.cell 5;simpa using this
theorem NrmSt.put1 (h:NrmSt w W g F v1 v2 v3 v4 v5 P N R T L) (ho:W.ownsRow w.heap.size 49 4 v' P'.length (P'.flatMap Par.cells)):NrmSt w (W.setCell ⟨g,1,none⟩ v') g F v' v2 v3 v4 v5 P' N R T L:=by
 have hgz:=h.gz
 have far: ∀ {e:TypeId} {size n:Nat} {v:Value} {ys:List Value},W.ownsRow w.heap.size e size v n ys→29≠e→(W.setCell ⟨g,1,none⟩ v').ownsRow w.heap.size e size v n ys:=fun ho hne=>own_far ho (p:=⟨g,1,none⟩) h.out hne _
 exact ⟨h.gz,h.bel.setCell (by show w.heap.size≤g;omega) _,h.res.far (by show w.heap.size+1≠g;omega) _,by have:=h.out.set_ 1 v';simpa using this,
  far ho (by decide),far h.o2 (by decide),far h.o3 (by decide),far h.o4 (by decide),far h.o5 (by decide),h.ch.far (p:=⟨g,1,none⟩) h.out (by decide) _⟩
theorem NrmSt.put2 (h:NrmSt w W g F v1 v2 v3 v4 v5 P N R T L) (ho:W.ownsRow w.heap.size 71 3 v' N'.length (N'.flatMap Win.cells)):NrmSt w (W.setCell ⟨g,2,none⟩ v') g F v1 v' v3 v4 v5 P N' R T L:=by
 have hgz:=h.gz
 have far: ∀ {e:TypeId} {size n:Nat} {v:Value} {ys:List Value},W.ownsRow w.heap.size e size v n ys→29≠e→(W.setCell ⟨g,2,none⟩ v').ownsRow w.heap.size e size v n ys:=fun ho hne=>own_far ho (p:=⟨g,2,none⟩) h.out hne _
 exact ⟨h.gz,h.bel.setCell (by show w.heap.size≤g;omega) _,h.res.far (by show w.heap.size+1≠g;omega) _,by have:=h.out.set_ 2 v';simpa using this,
  far h.o1 (by decide),far ho (by decide),far h.o3 (by decide),far h.o4 (by decide),far h.o5 (by decide),h.ch.far (p:=⟨g,2,none⟩) h.out (by decide) _⟩
theorem NrmSt.put3 (h:NrmSt w W g F v1 v2 v3 v4 v5 P N R T L) (ho:W.ownsRow w.heap.size 75 5 v' R'.length (R'.flatMap Reg.cells)):NrmSt w (W.setCell ⟨g,3,none⟩ v') g F v1 v2 v' v4 v5 P N R' T L:=by
 have hgz:=h.gz
 have far: ∀ {e:TypeId} {size n:Nat} {v:Value} {ys:List Value},W.ownsRow w.heap.size e size v n ys→29≠e→(W.setCell ⟨g,3,none⟩ v').ownsRow w.heap.size e size v n ys:=fun ho hne=>own_far ho (p:=⟨g,3,none⟩) h.out hne _
 exact ⟨h.gz,h.bel.setCell (by show w.heap.size≤g;omega) _,h.res.far (by show w.heap.size+1≠g;omega) _,by have:=h.out.set_ 3 v';simpa using this,
  far h.o1 (by decide),far h.o2 (by decide),far ho (by decide),far h.o4 (by decide),far h.o5 (by decide),h.ch.far (p:=⟨g,3,none⟩) h.out (by decide) _⟩
theorem NrmSt.put4 (h:NrmSt w W g F v1 v2 v3 v4 v5 P N R T L) (ho:W.ownsRow w.heap.size 52 6 v' T'.length (T'.flatMap Prt.cells)):NrmSt w (W.setCell ⟨g,4,none⟩ v') g F v1 v2 v3 v' v5 P N R T' L:=by
 have hgz:=h.gz
 have far: ∀ {e:TypeId} {size n:Nat} {v:Value} {ys:List Value},W.ownsRow w.heap.size e size v n ys→29≠e→(W.setCell ⟨g,4,none⟩ v').ownsRow w.heap.size e size v n ys:=fun ho hne=>own_far ho (p:=⟨g,4,none⟩) h.out hne _
 exact ⟨h.gz,h.bel.setCell (by show w.heap.size≤g;omega) _,h.res.far (by show w.heap.size+1≠g;omega) _,by have:=h.out.set_ 4 v';simpa using this,
  far h.o1 (by decide),far h.o2 (by decide),far h.o3 (by decide),far ho (by decide),far h.o5 (by decide),h.ch.far (p:=⟨g,4,none⟩) h.out (by decide) _⟩
theorem NrmSt.put5 (h:NrmSt w W g F v1 v2 v3 v4 v5 P N R T L) (ho:W.ownsRow w.heap.size 57 3 v' L'.length (L'.flatMap CE.cells)) (hp:L'.Perm L):NrmSt w (W.setCell ⟨g,5,none⟩ v') g F v1 v2 v3 v4 v' P N R T L':=by
 have hgz:=h.gz
 have far: ∀ {e:TypeId} {size n:Nat} {v:Value} {ys:List Value},W.ownsRow w.heap.size e size v n ys→29≠e→(W.setCell ⟨g,5,none⟩ v').ownsRow w.heap.size e size v n ys:=fun ho hne=>own_far ho (p:=⟨g,5,none⟩) h.out hne _
 exact ⟨h.gz,h.bel.setCell (by show w.heap.size≤g;omega) _,h.res.far (by show w.heap.size+1≠g;omega) _,by have:=h.out.set_ 5 v';simpa using this,
  far h.o1 (by decide),far h.o2 (by decide),far h.o3 (by decide),far h.o4 (by decide),far ho (by decide),(h.ch.perm hp).far (p:=⟨g,5,none⟩) h.out (by decide) _⟩
theorem NrmSt.dests {k:Nat} {e:CE} (h:NrmSt w W g F v1 v2 v3 v4 v5 P N R T (srtTo L k)) (he:L[k]? =some e) (ho:V.ownsRow w.heap.size 47 1 e.v e.x.dests.length ((sortInts e.x.dests).map (Value.int .u16))) (hg:W.grownBy V e.v.ownBlock):NrmSt w V g F v1 v2 v3 v4 v5 P N R T (srtTo L (k+1)):=by
 have hat:=srtTo_at he
 have hown:=h.ch.own e (List.mem_of_getElem? hat)
 have hoff:=Off.of_own hown hg
 have hz:=h.bel.size
 refine ⟨h.gz,h.bel.grown hg hz (fun k e=>(hown.lt k e).1),h.res.off hoff (by decide),h.out.off hoff (by decide),own_off h.o1 hoff (by decide),own_off h.o2 hoff (by decide),own_off h.o3 hoff (by decide),own_off h.o4 hoff (by decide), ?_, ?_⟩
 ·have:=own_off h.o5 hoff (by decide)
  rw [srtTo_len,srtTo_cells] at this ⊢
  exact this
 ·rw [srtTo_next he]
  refine h.ch.turn hat (srt_v e) ?_ hg
  rw [srt_v,srt_len]
  exact ho
theorem NrmSt.start {c:Cfg} {A1 A2 A3 A4 A5:Option Addr} {c1 c2 c3 c4 c5:Nat} (hB:Below w.heap.size w W) (hgz:w.heap.size+1 <W.heap.size) (hres:Blk W (w.heap.size+1) 29 #[.int .u64 0, .slice none 0 0, .slice none 0 0, .slice none 0 0, .slice none 0 0, .slice none 0 0]) (h:OwnC W w.heap.size c A1 A2 A3 A4 A5 c1 c2 c3 c4 c5):
  ∃(V:World) (L:List CE),W.alloc (.cells #[.int .u64 c.frame, .slice A1 c.parts.length c1, .slice A2 c.wins.length c2, .slice A3 c.regs.length c3, .slice A4 c.ports.length c4, .slice A5 c.chans.length c5] 29)=V∧L.map (·.x)=c.chans∧
   NrmSt w V W.heap.size c.frame (.slice A1 c.parts.length c1) (.slice A2 c.wins.length c2) (.slice A3 c.regs.length c3) (.slice A4 c.ports.length c4) (.slice A5 c.chans.length c5) c.parts c.wins c.regs c.ports (srtTo L 0):=by
 obtain ⟨L,o5,ch,lx⟩:=h.o5
 have hlen:L.length=c.chans.length:=by rw [←lx];simp
 have hb:=(Below.refl W.heap.size W).alloc (Nat.le_refl _) (.cells #[.int .u64 c.frame, .slice A1 c.parts.length c1, .slice A2 c.wins.length c2, .slice A3 c.regs.length c3, .slice A4 c.ports.length c4, .slice A5 c.chans.length c5] 29)
 have e0:srtTo L 0=L:=by simp [srtTo]
 refine ⟨_,L,rfl,lx,hgz,hB.trans (hb.mono hB.size),hres.below hb hres.lt,Blk.new _ _ _,own_below h.o1 hb,own_below h.o2 hb,own_below h.o3 hb,own_below h.o4 hb, ?_, ?_⟩
 ·rw [e0,hlen];exact own_below o5 hb
 ·rw [e0];exact ch.below hb
theorem nrm_rd (h:NrmSt w W g F v1 v2 v3 v4 v5 P N R T L): ∀e ∈ L,Rd W W.heap.size 1 e.A e.x.dests.length (e.x.dests.map (Value.int .u16)):=fun e he=>(own_slice (h.ch.own e he)).2
end
theorem norm_eq {c:Cfg} {L L':List CE} (hl:L.map (·.x)=c.chans) (hm:L'.map (·.x)=normK keyChn ((L.map CE.srt).map (·.x))):(⟨c.frame,normK keyPar c.parts,normK keyWin c.wins,normK keyReg c.regs,normK keyPrt c.ports,L'.map (·.x)⟩:Cfg)=c.norm:=by
 unfold Cfg.norm
 rw [hm,List.map_map, ←hl,List.map_map]
 rfl
theorem normK_len {α:Type} (key:α→List Int) (l:List α):(normK key l).length=l.length:=(normK_perm key l).length_eq
end Go.Proofs.YteelncofiodflaaGreat
namespace Go.Proofs.YteelncofiodflaaGreat
open Go.RowKit
set_option maxRecDepth 100000 in
set_option maxHeartbeats 16000000 in
theorem normal_ok (c:Cfg) (A1 A2 A3 A4 A5:Option Addr) (c1 c2 c3 c4 c5:Nat) (w:World) (hR:CfgR w w.heap.size c A1 A2 A3 A4 A5 c1 c2 c3 c4 c5) (ht:c.total≤4194304):Calls Tryz.prog 17 #[cfgV c.frame A1 A2 A3 A4 A5 c.parts.length c.wins.length c.regs.length c.ports.length c.chans.length c1 c2 c3 c4 c5] w fun e w'=> ∃(B1 B2 B3 B4 B5:Option Addr) (b1 b2 b3 b4 b5:Nat),
  e= .returned (cfgV c.frame B1 B2 B3 B4 B5 c.parts.length c.wins.length c.regs.length c.ports.length c.chans.length b1 b2 b3 b4 b5)∧OwnC w' w.heap.size c.norm B1 B2 B3 B4 B5 b1 b2 b3 b4 b5∧Below w.heap.size w w':=by
 obtain ⟨W0,hW,st⟩:=St.start_any hR 29
 have HW:=Lib.hid hW
 have e0:W0.heap.size=w.heap.size+1:=by rw [←hW];simp
 have hres:=Blk.new W0 29 #[.int .u64 0, .slice none 0 0, .slice none 0 0, .slice none 0 0, .slice none 0 0, .slice none 0 0]
 have hb1:=below_one W0 (.cells #[.int .u64 0, .slice none 0 0, .slice none 0 0, .slice none 0 0, .slice none 0 0, .slice none 0 0] 29)
 obtain ⟨W1,hW1⟩: ∃W1,W0.alloc (.cells #[.int .u64 0, .slice none 0 0, .slice none 0 0, .slice none 0 0, .slice none 0 0, .slice none 0 0] 29)=W1:=⟨_,rfl⟩
 rw [hW1] at hres hb1
 rw [e0] at hres
 have HW1:=Lib.hid hW1
 have ST1:=Lib.hid (st.up hb1)
 have HRES:=Lib.hid hres
 have hdl: ∀x ∈ c.chans,x.dests.length≤4194304:=fun x hx=>by
  have h1:x.dests.length≤sumDests c.chans:=by
   obtain ⟨k,hk⟩:=List.getElem?_of_mem hx
   have h2:=sumDests_next hk
   have h3:sumDests c.chans=sumDests (c.chans.take (k+1))+sumDests (c.chans.drop (k+1)):=by
    unfold sumDests
    rw [←List.sum_append, ←List.map_append,List.take_append_drop]
   omega
  unfold Cfg.total at ht
  omega
 have HDL:=Lib.hid hdl
 have bp:c.parts.length≤4194304:=by unfold Cfg.total at ht;omega
 have bw:c.wins.length≤4194304:=by unfold Cfg.total at ht;omega
 have br:c.regs.length≤4194304:=by unfold Cfg.total at ht;omega
 have bt:c.ports.length≤4194304:=by unfold Cfg.total at ht;omega
 have bx:c.chans.length≤4194304:=by unfold Cfg.total at ht;omega
 obtain ⟨x0,x1,x2,x3,x4,x5,hz⟩:=(st.up hb1).cells
 have HHT:=Lib.hid ht
 clear hR hW hW1 st hres hb1 hdl ht e0
 go_enter Tryz.func17,Tryz.ntmps17
 go_upto_region 1 with (fail)
 rw [HW.out,HW1.out]
 go_wp2_with fail
 refine (cloneC_ok c _ _ _ _ _ _ _ _ _ _ _ ST1.out.R HHT.out).mono ?_
 rintro e w2 ⟨B1,B2,B3,B4,B5,b1,b2,b3,b4,b5,rfl,hown,hb2⟩
 have hz2:w.heap.size+1 <w2.heap.size:=by have:=HRES.out.lt;have:=hb2.size;omega
 obtain ⟨V2,L,hV2,hlx,hns⟩:=NrmSt.start (w:=w) (ST1.out.bel.trans (hb2.mono ST1.out.bel.size)) hz2 (HRES.out.below hb2 HRES.out.lt) (hown.base ST1.out.bel.size)
 have HV2:=Lib.hid hV2
 have NS:=Lib.hid hns
 have HLX:=Lib.hid hlx
 have hll:L.length=c.chans.length:=by rw [←hlx];simp
 have HLL:=Lib.hid hll
 have HEL:=Lib.hid (show ∀e ∈ L,e.x.dests.length≤4194304 from fun e he=>HDL.out e.x (by rw [←hlx];exact List.mem_map.2 ⟨e,he,rfl⟩))
 clear hown hb2 hV2 hns hlx hz2 x0 x1 x2 x3 x4 x5 hz
 go_upto_region 2 with (fail)
 rw [HV2.out]
 generalize w2.heap.size=g at*
 obtain ⟨q0,q1,q2,q3,q4,q5,hgl⟩:=NS.out.cells
 go_wp2
 clear q0 q1 q2 q3 q4 q5 hgl
 go_loopw [11] (fun i wr=> ∃k:Nat,k≤c.chans.length∧i= .int .i64 k∧Hid (NrmSt w wr g c.frame (.slice B1 c.parts.length b1) (.slice B2 c.wins.length b2) (.slice B3 c.regs.length b3) (.slice B4 c.ports.length b4) (.slice B5 c.chans.length b5) c.parts c.wins c.regs c.ports (srtTo L k))) (fun i _=>c.chans.length -(intOf i).toNat)
 case atStart=>exact ⟨0,Nat.zero_le _,rfl,NS⟩
 case round=>
  obtain ⟨k,hk,rfl,NK⟩:=hrel
  by_cases hlt:k <c.chans.length
  ·obtain ⟨x,hx⟩:=get_lt (l:=L) (k:=k) (by omega)
   have hat:=srtTo_at hx
   have hlen:(srtTo L k).length=c.chans.length:=by rw [srtTo_len];exact hll
   have ho5:=NK.out.o5
   rw [hlen] at ho5
   have hrd:=(own_slice ho5).2
   rw [←hlen] at hrd
   obtain ⟨b,o,rfl,hb,g0,g1,g2⟩:=ce_at hrd hat
   have HX:=Lib.hid hx
   have hxd:=HEL.out x (List.mem_of_getElem? hx)
   have n0:(0:Int)≤(k:Int):=by omega
   have n1:(k:Int) <(c.chans.length:Int):=by omega
   have hown:=NK.out.ch.own x (List.mem_of_getElem? hat)
   have hba:=below_one wr (.cells #[.int .u16 x.x.id, .int .u16 x.x.source, .slice x.A x.x.dests.length x.c] 57)
   have HO:=Lib.hid (own_below hown hba)
   have NA:=Lib.hid (NK.out.up hba)
   clear hx hat ho5 hrd hown hba hlen
   go_wp2_with fail
   refine (sort_ownG HO.out hxd).mono ?_
   rintro e w3 ⟨rfl,ho3,hg3⟩
   have N3:=Lib.hid (NA.out.dests HX.out ho3 hg3)
   clear ho3 hg3 g0 g1 g2 hb
   go_wp2
   go_roundw
   case rel=>exact ⟨k+1,by omega,by go_num,N3⟩
   case measure=>simp [intOf];omega
  ·obtain rfl:k=c.chans.length:=by omega
   have e1:srtTo L c.chans.length=L.map CE.srt:=by rw [←hll,srtTo_all]
   rw [e1] at NK
   clear NS
   have HEL2:=Lib.hid (show ∀e ∈ L.map CE.srt,e.x.dests.length≤4194304 from fun e he=>by obtain ⟨a,ha,rfl⟩:=List.mem_map.1 he;rw [srt_len];exact HEL.out a ha)
   have hml:(L.map CE.srt).length=c.chans.length:=by rw [List.length_map];exact hll
   have HMX:=Lib.hid hml
   clear e1 hml
   obtain ⟨M,hM⟩: ∃M,L.map CE.srt=M:=⟨_,rfl⟩
   rw [hM] at NK HEL2 HMX
   have HM:=Lib.hid hM
   clear hM
   go_upto_region 7 with (fail)
   go_cut [] (fun wx1=> ∃(C1:Option Addr) (d1:Nat),Hid (NrmSt w wx1 g c.frame (.slice C1 c.parts.length d1) (.slice B2 c.wins.length b2) (.slice B3 c.regs.length b3) (.slice B4 c.ports.length b4) (.slice B5 c.chans.length b5) (normK keyPar c.parts) c.wins c.regs c.ports M))
   case first=>
    obtain ⟨q0,q1,q2,q3,q4,q5,hgl⟩:=NK.out.cells
    have ho:=NK.out.o1
    skip
    have hrd:=(own_slice ho).2
    skip
    have HRD:=Lib.hid hrd
    skip
    have hgl0:=hgl
    clear ho hrd q0 q2 q3 q4 q5
    go_region_with (first
     |(go_at_call 63;refine (byPar_ok _).mono ?_;rintro e w5 ⟨rfl,hby,hb5⟩;have HB5:=Lib.hid (Below.then_ (show Below wr.heap.size wr _ from (by repeat (first |with_reducible exact Below.refl _ _ |with_reducible refine Below.drew ?_ |(with_reducible refine Below.alloc ?_ (by simp) _) |(with_reducible refine Below.setCell ?_ (by simp) _)))) hb5);have BY:=Lib.hid hby;have q6:=(HB5.out.cell (p:=⟨g,1,none⟩) hgl).trans q1;clear hby hb5)
     |(go_at_call 62;refine (confPar_ok _ _ c.parts _ _ w5 (by exact bp) (HRD.out.up HB5.out) BY.out.h1 BY.out.h2 BY.out.l (by have:=BY.out.l;omega)).mono ?_;rintro e w6 ⟨v,rfl,ho,hb6⟩;have HB6:=Lib.hid (Below.then_ HB5.out hb6);have N6:=NK.out.up HB6.out;obtain ⟨C1,d1,rfl,_⟩:=own_form ho;have HN:=Lib.hid (NrmSt.put1 (P':=normK keyPar c.parts) N6 (by rw [normK_len];exact own_lessM ho (Nat.le_trans NK.out.bel.size HB5.out.size)));have q7:=(HB6.out.cell (p:=⟨g,1,none⟩) hgl).trans q1;have f7:=N6.out.frozen 1;have hgl7:=N6.out.lt;clear N6 ho hb6))
    all_goals
     go_wp2_with fail
     go_meet
     case rel=>exact ⟨_,_,HN⟩
   case rest=>
   obtain ⟨C1,d1,NK2⟩:=hcut
   skip
   go_upto_region 8 with (fail)
   go_cut [] (fun wx2=> ∃(C2:Option Addr) (d2:Nat),Hid (NrmSt w wx2 g c.frame (.slice C1 c.parts.length d1) (.slice C2 c.wins.length d2) (.slice B3 c.regs.length b3) (.slice B4 c.ports.length b4) (.slice B5 c.chans.length b5) (normK keyPar c.parts) (normK keyWin c.wins) c.regs c.ports M))
   case first=>
    obtain ⟨q0,q1,q2,q3,q4,q5,hgl⟩:=NK2.out.cells
    have ho:=NK2.out.o2
    skip
    have hrd:=(own_slice ho).2
    skip
    have HRD:=Lib.hid hrd
    skip
    have hgl0:=hgl
    clear ho hrd q0 q1 q3 q4 q5
    go_region_with (first
     |(go_at_call 67;refine (byWin_ok _).mono ?_;rintro e w5 ⟨rfl,hby,hb5⟩;have HB5:=Lib.hid (Below.then_ (show Below wc.heap.size wc _ from (by repeat (first |with_reducible exact Below.refl _ _ |with_reducible refine Below.drew ?_ |(with_reducible refine Below.alloc ?_ (by simp) _) |(with_reducible refine Below.setCell ?_ (by simp) _)))) hb5);have BY:=Lib.hid hby;have q6:=(HB5.out.cell (p:=⟨g,2,none⟩) hgl).trans q2;clear hby hb5)
     |(go_at_call 66;refine (confWin_ok _ _ c.wins _ _ w5 (by exact bw) (HRD.out.up HB5.out) BY.out.h1 BY.out.h2 BY.out.l (by have:=BY.out.l;omega)).mono ?_;rintro e w6 ⟨v,rfl,ho,hb6⟩;have HB6:=Lib.hid (Below.then_ HB5.out hb6);have N6:=NK2.out.up HB6.out;obtain ⟨C2,d2,rfl,_⟩:=own_form ho;have HN:=Lib.hid (NrmSt.put2 (N':=normK keyWin c.wins) N6 (by rw [normK_len];exact own_lessM ho (Nat.le_trans NK2.out.bel.size HB5.out.size)));have q7:=(HB6.out.cell (p:=⟨g,2,none⟩) hgl).trans q2;have f7:=N6.out.frozen 2;have hgl7:=N6.out.lt;clear N6 ho hb6))
    all_goals
     go_wp2_with fail
     go_meet
     case rel=>exact ⟨_,_,HN⟩
   case rest=>
   obtain ⟨C2,d2,NK3⟩:=hcut
   skip
   go_upto_region 9 with (fail)
   go_cut [] (fun wx3=> ∃(C3:Option Addr) (d3:Nat),Hid (NrmSt w wx3 g c.frame (.slice C1 c.parts.length d1) (.slice C2 c.wins.length d2) (.slice C3 c.regs.length d3) (.slice B4 c.ports.length b4) (.slice B5 c.chans.length b5) (normK keyPar c.parts) (normK keyWin c.wins) (normK keyReg c.regs) c.ports M))
   case first=>
    obtain ⟨q0,q1,q2,q3,q4,q5,hgl⟩:=NK3.out.cells
    have ho:=NK3.out.o3
    skip
    have hrd:=(own_slice ho).2
    skip
    have HRD:=Lib.hid hrd
    skip
    have hgl0:=hgl
    clear ho hrd q0 q1 q2 q4 q5
    go_region_with (first
     |(go_at_call 71;refine (byReg_ok _).mono ?_;rintro e w5 ⟨rfl,hby,hb5⟩;have HB5:=Lib.hid (Below.then_ (show Below wc.heap.size wc _ from (by repeat (first |with_reducible exact Below.refl _ _ |with_reducible refine Below.drew ?_ |(with_reducible refine Below.alloc ?_ (by simp) _) |(with_reducible refine Below.setCell ?_ (by simp) _)))) hb5);have BY:=Lib.hid hby;have q6:=(HB5.out.cell (p:=⟨g,3,none⟩) hgl).trans q3;clear hby hb5)
     |(go_at_call 70;refine (confReg_ok _ _ c.regs _ _ w5 (by exact br) (HRD.out.up HB5.out) BY.out.h1 BY.out.h2 BY.out.l (by have:=BY.out.l;omega)).mono ?_;rintro e w6 ⟨v,rfl,ho,hb6⟩;have HB6:=Lib.hid (Below.then_ HB5.out hb6);have N6:=NK3.out.up HB6.out;obtain ⟨C3,d3,rfl,_⟩:=own_form ho;have HN:=Lib.hid (NrmSt.put3 (R':=normK keyReg c.regs) N6 (by rw [normK_len];exact own_lessM ho (Nat.le_trans NK3.out.bel.size HB5.out.size)));have q7:=(HB6.out.cell (p:=⟨g,3,none⟩) hgl).trans q3;have f7:=N6.out.frozen 3;have hgl7:=N6.out.lt;clear N6 ho hb6))
    all_goals
     go_wp2_with fail
     go_meet
     case rel=>exact ⟨_,_,HN⟩
   case rest=>
   obtain ⟨C3,d3,NK4⟩:=hcut
   skip
   go_upto_region 10 with (fail)
   go_cut [] (fun wx4=> ∃(C4:Option Addr) (d4:Nat),Hid (NrmSt w wx4 g c.frame (.slice C1 c.parts.length d1) (.slice C2 c.wins.length d2) (.slice C3 c.regs.length d3) (.slice C4 c.ports.length d4) (.slice B5 c.chans.length b5) (normK keyPar c.parts) (normK keyWin c.wins) (normK keyReg c.regs) (normK keyPrt c.ports) M))
   case first=>
    obtain ⟨q0,q1,q2,q3,q4,q5,hgl⟩:=NK4.out.cells
    have ho:=NK4.out.o4
    skip
    have hrd:=(own_slice ho).2
    skip
    have HRD:=Lib.hid hrd
    skip
    have hgl0:=hgl
    clear ho hrd q0 q1 q2 q3 q5
    go_region_with (first
     |(go_at_call 75;refine (byPrt_ok _).mono ?_;rintro e w5 ⟨rfl,hby,hb5⟩;have HB5:=Lib.hid (Below.then_ (show Below wc.heap.size wc _ from (by repeat (first |with_reducible exact Below.refl _ _ |with_reducible refine Below.drew ?_ |(with_reducible refine Below.alloc ?_ (by simp) _) |(with_reducible refine Below.setCell ?_ (by simp) _)))) hb5);have BY:=Lib.hid hby;have q6:=(HB5.out.cell (p:=⟨g,4,none⟩) hgl).trans q4;clear hby hb5)
     |(go_at_call 74;refine (confPrt_ok _ _ c.ports _ _ w5 (by exact bt) (HRD.out.up HB5.out) BY.out.h1 BY.out.h2 BY.out.l (by have:=BY.out.l;omega)).mono ?_;rintro e w6 ⟨v,rfl,ho,hb6⟩;have HB6:=Lib.hid (Below.then_ HB5.out hb6);have N6:=NK4.out.up HB6.out;obtain ⟨C4,d4,rfl,_⟩:=own_form ho;have HN:=Lib.hid (NrmSt.put4 (T':=normK keyPrt c.ports) N6 (by rw [normK_len];exact own_lessM ho (Nat.le_trans NK4.out.bel.size HB5.out.size)));have q7:=(HB6.out.cell (p:=⟨g,4,none⟩) hgl).trans q4;have f7:=N6.out.frozen 4;have hgl7:=N6.out.lt;clear N6 ho hb6))
    all_goals
     go_wp2_with fail
     go_meet
     case rel=>exact ⟨_,_,HN⟩
   case rest=>
   obtain ⟨C4,d4,NK5⟩:=hcut
   skip
   go_upto_region 11 with (fail)
   go_cut [] (fun wx5=> ∃(C5:Option Addr) (d5:Nat) (M2:List CE),M2.map (·.x)=normK keyChn (M.map (·.x))∧Hid (NrmSt w wx5 g c.frame (.slice C1 c.parts.length d1) (.slice C2 c.wins.length d2) (.slice C3 c.regs.length d3) (.slice C4 c.ports.length d4) (.slice C5 c.chans.length d5) (normK keyPar c.parts) (normK keyWin c.wins) (normK keyReg c.regs) (normK keyPrt c.ports) M2))
   case first=>
    obtain ⟨q0,q1,q2,q3,q4,q5,hgl⟩:=NK5.out.cells
    have ho:=NK5.out.o5
    rw [HMX.out] at ho
    have hrd:=(own_slice ho).2
    skip
    have HRD:=Lib.hid hrd
    have HDS:=Lib.hid (nrm_rd NK5.out)
    have hgl0:=hgl
    clear ho hrd q0 q1 q2 q3 q4
    go_region_with (first
     |(go_at_call 79;refine (byChn_ok _).mono ?_;rintro e w5 ⟨rfl,hby,hb5⟩;have HB5:=Lib.hid (Below.then_ (show Below wc.heap.size wc _ from (by repeat (first |with_reducible exact Below.refl _ _ |with_reducible refine Below.drew ?_ |(with_reducible refine Below.alloc ?_ (by simp) _) |(with_reducible refine Below.setCell ?_ (by simp) _)))) hb5);have BY:=Lib.hid hby;have q6:=(HB5.out.cell (p:=⟨g,5,none⟩) hgl).trans q5;clear hby hb5)
     |(go_at_call 78;refine (confChn_okn _ _ M _ _ w5 _ HMX.out (by exact bx) (HRD.out.up HB5.out) (fun e he=>⟨(HDS.out e he).up HB5.out,HEL2.out e he⟩) BY.out.h1 BY.out.h2 BY.out.l (by have:=BY.out.l;omega)).mono ?_;rintro e w6 ⟨v,M2,rfl,hp,hm,ho,hb6⟩;have HB6:=Lib.hid (Below.then_ HB5.out hb6);have N6:=NK5.out.up HB6.out;obtain ⟨C5,d5,rfl,_⟩:=own_form ho;have HN:=Lib.hid (NrmSt.put5 (L':=M2) N6 (by rw [hp.length_eq,HMX.out];exact own_lessM ho (Nat.le_trans NK5.out.bel.size HB5.out.size)) hp);have q7:=(HB6.out.cell (p:=⟨g,5,none⟩) hgl).trans q5;have f7:=N6.out.frozen 5;have hgl7:=N6.out.lt;clear N6 ho hb6))
    all_goals
     go_wp2_with fail
     go_meet
     case rel=>exact ⟨_,_,_,hm,HN⟩
   case rest=>
   obtain ⟨C5,d5,M2,hm2,NK6⟩:=hcut
   skip
   obtain ⟨q0,q1,q2,q3,q4,q5,hgl⟩:=NK6.out.cells
   have r0:=NK6.out.res.cell 0
   have r1:=NK6.out.res.cell 1
   have r2:=NK6.out.res.cell 2
   have r3:=NK6.out.res.cell 3
   have r4:=NK6.out.res.cell 4
   have r5:=NK6.out.res.cell 5
   simp at r0 r1 r2 r3 r4 r5
   have hfr:=NK6.out.res.frozen
   have hrl:=NK6.out.res.lt
   go_wp2
   refine bodyPost_ret (v:=cfgV c.frame C1 C2 C3 C4 C5 c.parts.length c.wins.length c.regs.length c.ports.length c.chans.length d1 d2 d3 d4 d5) (by simp [results,Tryz.results17,go_sem,r0,r1,r2,r3,r4,r5]) rfl ?_
   refine ⟨_,_,_,_,_,_,_,_,_,_,rfl, ?_, ?_⟩
   ·have hn:=norm_eq HLX.out (L':=M2) (by rw [HM.out];exact hm2)
    rw [←hn]
    have hl2:M2.length=c.chans.length:=by have h3:=congrArg List.length hm2;rw [normK_len,List.length_map,List.length_map,HMX.out] at h3;exact h3
    have o5:=NK6.out.o5
    rw [hl2] at o5
    have o1:=NK6.out.o1
    have o2:=NK6.out.o2
    have o3:=NK6.out.o3
    have o4:=NK6.out.o4
    rw [normK_len] at o1 o2 o3 o4
    have hoc:OwnC wc w.heap.size ⟨c.frame,normK keyPar c.parts,normK keyWin c.wins,normK keyReg c.regs,normK keyPrt c.ports,M2.map (·.x)⟩ C1 C2 C3 C4 C5 d1 d2 d3 d4 d5:=
     ⟨by simpa only [normK_len] using o1,by simpa only [normK_len] using o2,by simpa only [normK_len] using o3,by simpa only [normK_len] using o4,M2,by simpa only [List.length_map,hl2] using o5,NK6.out.ch,rfl⟩
    exact hoc.but NK6.out.res (by decide) (by decide) (by decide) (by decide) (by decide) (by decide) fun j hj=>(Below.heap_setCell _ _ _ j hj).trans ((Below.heap_setCell _ _ _ j hj).trans ((Below.heap_setCell _ _ _ j hj).trans ((Below.heap_setCell _ _ _ j hj).trans ((Below.heap_setCell _ _ _ j hj).trans (Below.heap_setCell _ _ _ j hj)))))
   ·exact (((((NK6.out.bel.setCell (Nat.le_succ _) _).setCell (Nat.le_succ _) _).setCell (Nat.le_succ _) _).setCell (Nat.le_succ _) _).setCell (Nat.le_succ _) _).setCell (Nat.le_succ _) _
end Go.Proofs.YteelncofiodflaaGreat
