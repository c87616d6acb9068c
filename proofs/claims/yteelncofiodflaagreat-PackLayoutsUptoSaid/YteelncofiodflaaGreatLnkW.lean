/-
  Links of package pack, walked: the heads and the links of channels. Condition: at most 4194304 of them.
-/
import Derived.BigQuiet
import Derived.Deep.AppendLies
import Derived.Test.YteelncofiodflaaGreatPckS
namespace Go.Proofs.YteelncofiodflaaGreat
open Go.RowKit Go.Shelf
theorem infoHead:(Tryz.prog.info? 81).map (fun i=>(i.zero,i.size,i.bytes))=some (some (.agg #[.int .u16 0, .int .u16 0, .int .u16 0]),3,6):=by kernel_rfl
theorem infoLink:(Tryz.prog.info? 85).map (fun i=>(i.zero,i.size,i.bytes))=some (some (.agg #[.int .u16 0, .int .u16 0]),2,4):=by kernel_rfl
def hdT (x:Chn):Int × Int × Int:=(x.id,x.source,IntKind.u16.wrap (x.dests.length:Int))
theorem own_ge {W:World} {B n z:Nat} {t:TypeId} {v:Value} {xs:List Value} (h:W.ownsRow B t z v n xs): ∀g,v.ownBlock=some g→B≤g:=by
 intro g e
 rcases h.2 with ⟨rfl,_⟩ |⟨g',cap,cur,rfl,hb,hh,_⟩
 ·cases e
 ·cases e
  exact hb
def lksTo (l:List Chn) (k:Nat) (x:Chn) (j:Nat):List (Int × Int):=lksOf (l.take k)++(x.dests.take j).map fun d=>(x.id,d)
theorem lksTo_len {l:List Chn} {k j:Nat} {x:Chn} (hx:l[k]? =some x) (hj:j≤x.dests.length):(lksTo l k x j).length≤sumDests l:=by
 have h1:=sumDests_take l (k+1)
 have h2:=sumDests_next hx
 unfold lksTo
 rw [List.length_append,lksOf_len,List.length_map,List.length_take]
 omega
theorem lksTo_next {l:List Chn} {k j:Nat} {x:Chn} {d:Int} (hd:x.dests[j]? =some d):lksTo l k x (j+1)=lksTo l k x j++ [(x.id,d)]:=by
 unfold lksTo
 rw [take_next hd,List.map_append,List.append_assoc]
 rfl
theorem lksTo_end {l:List Chn} {k:Nat} {x:Chn} (hx:l[k]? =some x):lksTo l k x x.dests.length=lksOf (l.take (k+1)):=by
 unfold lksTo lksOf
 rw [take_next hx,List.flatMap_append,List.take_length]
 simp
set_option maxRecDepth 100000 in
set_option maxHeartbeats 4000000 in
theorem pLinks_ok (l:List Chn) (cs:List Value) (A:Option Addr) (c:Nat) (W:World) (hC:ChnsC W W.heap.size l cs) (hr:Rd W W.heap.size 3 A l.length cs) (hl:l.length≤4194304) (hs:sumDests l≤4194304) (hd: ∀x ∈ l,x.dests.length≤4194304):
  Calls Tryz.prog 18 #[.slice A l.length c] W fun e w'=> ∃v1 v2,e= .returned (.tuple #[v1,v2])∧w'.ownsRow W.heap.size 81 3 v1 l.length ((l.map hdT).flatMap hdC)∧w'.ownsRow W.heap.size 85 2 v2 (lksOf l).length ((lksOf l).flatMap lkC)∧Below W.heap.size W w':=by
 obtain ⟨i1,hi1,ha0,ha1,ha2⟩:=info_parts infoHead
 obtain ⟨i2,hi2,hb0,hb1,hb2⟩:=info_parts infoLink
 have HC:=Lib.hid hC
 have HR:=Lib.hid hr
 have HS:=Lib.hid hs
 have HD:=Lib.hid hd
 clear hC hr hs hd
 go_enter Tryz.func18,Tryz.ntmps18
 go_wp2
 go_loopw [4,5,12] (fun v1 v2 i wr=> ∃k:Nat,k≤l.length∧i= .int .i64 k∧Hid (wr.ownsRow W.heap.size 81 3 v1 ((l.take k).map hdT).length (((l.take k).map hdT).flatMap hdC))∧Hid (wr.ownsRow W.heap.size 85 2 v2 (lksOf (l.take k)).length ((lksOf (l.take k)).flatMap lkC))∧Hid (Below W.heap.size W wr)) (fun _ _ i _=>l.length -(intOf i).toNat)
 case atStart=>exact ⟨0,Nat.zero_le _,rfl,Lib.hid (World.ownsRow_nil _ _ _ _),Lib.hid (World.ownsRow_nil _ _ _ _),Lib.hid (Below.refl _ _)⟩
 case round=>
  obtain ⟨k,hk,rfl,HO,HL,HB⟩:=hrel
  by_cases hlt:k <l.length
  ·obtain ⟨x,hx⟩:=get_lt hlt
   obtain ⟨b,o,rfl,hb,g0,g1,D,d,g2,hd1,hd2,hdr⟩:=chn_at0 HC.out (HR.out.up HB.out) hx
   have HDR:=Lib.hid hdr
   have HX:=Lib.hid hx
   have k0:(0:Int)≤(k:Int):=by omega
   have k1:(k:Int) <(l.length:Int):=by omega
   have hn:=HD.out x (List.mem_of_getElem? hx)
   have HN:=Lib.hid (show (l.take (k+1)).map hdT=(l.take k).map hdT++ [hdT x] by rw [take_next hx,List.map_append];rfl)
   have hlen:((l.take k).map hdT).length≤4194304:=by rw [List.length_map,List.length_take];omega
   generalize (l.take k).map hdT=rows at*
   have hWs:W.heap.size≤wr.heap.size:=HB.out.size
   clear hdr hx
   have hal:=below_one wr (.cells #[.int .u16 x.id, .int .u16 x.source, .slice D x.dests.length d] 57)
   have bk:=Blk.new wr 57 #[.int .u16 x.id, .int .u16 x.source, .slice D x.dests.length d]
   have HO1:=Lib.hid (own_below HO.out hal)
   have HL1:=Lib.hid (own_below HL.out hal)
   have HB2:=Lib.hid (Below.then_ HB.out hal)
   clear hal
   go_upto_region 6 with (fail)
   generalize World.alloc wr _=W3 at bk HO1 HL1 HB2 ⊢
   have q0:=bk.cell 0
   have q1:=bk.cell 1
   have q2:=bk.cell 2
   have qz:=bk.lt
   simp at q0 q1 q2
   generalize hgx:wr.heap.size=gx at*
   clear g0 g1 g2 hb k0 k1
   have HBK:=Lib.hid bk
   obtain ⟨m0,hm0⟩: ∃m0:Int,IntKind.u16.wrap (x.dests.length:Int)=m0:=⟨_,rfl⟩
   have HM:=Lib.hid hm0
   clear bk
   have HO2:=Lib.hid (own_below HO1.out (below_one W3 (.cells #[.int .u16 x.id, .int .u16 x.source, .int .u16 m0] 81)))
   have hW3:W.heap.size≤W3.heap.size:=HB2.out.size
   go_upto_region 7 with (at_builtin;go_loud (refine wpList_append_lies _ rfl (.tmp 16) (.tmp 26) _ rfl W.heap.size 81 i1 (.agg #[.int .u16 0, .int .u16 0, .int .u16 0]) 3 6 Tryz.underlying60 hi1 ha0 ha1 ha2 rfl (by decide) _ _ _ rfl HO2.out ⟨W3.heap.size,0,none⟩ 1 1 [.int .u16 x.id, .int .u16 x.source, .int .u16 m0] rfl rfl (World.news_of_block (heap_alloc_new W3 _)) (by intro u hu;simp at hu;rcases hu with rfl |rfl |rfl<;>rfl) (by omega) (by unfold maxLen;omega) (by omega) (by simp;omega) _ rfl ?_);intro g2 cap w7 hown hg hat hlt7)
   have hgr:Below W.heap.size W w7:=(Below.then_ HB2.out (below_one W3 _)).grown hg (by simp;omega) (fun k e=>own_ge HO2.out k e)
   have hof:=Off.of_own HO2.out hg
   have HB7:=Lib.hid hgr
   have HO7:=Lib.hid hown
   have HL7:=Lib.hid (own_off (own_below HL1.out (below_one W3 _)) hof (by decide))
   have HK7:=Lib.hid (Blk.off (HBK.out.below (below_one W3 _) qz) hof (by decide))
   clear hgr hof hown hg hat q0 q1 q2 qz hgx
   have q0:=HK7.out.cell 0
   have q2:=HK7.out.cell 2
   have qz:=HK7.out.lt
   simp at q0 q2
   clear HO HO1 HL HL1 HB HB2 HBK HO2 hW3 hlt7
   have hW7:W.heap.size≤w7.heap.size:=HB7.out.size
   generalize hrs:rows++ [hdT x]=rows2 at HN
   have HO8:=Lib.hid (show w7.ownsRow W.heap.size 81 3 (.slice (some ⟨g2,0,none⟩) (rows.length+1) cap) rows2.length (rows2.flatMap hdC) by
    have h:=HO7.out
    rw [←hrs,List.length_append,List.flatMap_append]
    have e9: [hdT x].flatMap hdC= [Value.int .u16 x.id, .int .u16 x.source, .int .u16 m0]:=by rw [←HM.out];rfl
    rw [e9]
    exact h)
   clear hrs HO7 hm0
   have HLE:=Lib.hid (fun j (hj:j≤x.dests.length)=>lksTo_len HX.out hj)
   have HL8:=Lib.hid (show w7.ownsRow W.heap.size 85 2 u5 (lksTo l k x 0).length ((lksTo l k x 0).flatMap lkC) by
    have:lksTo l k x 0=lksOf (l.take k):=by unfold lksTo;simp
    rw [this];exact HL7.out)
   clear HL7
   generalize hvh:Value.slice (some ⟨g2,0,none⟩) (rows.length+1) cap=vh at*
   clear hvh
   have HN8:=Lib.hid hn
   generalize wr=wo at*
   go_wp2
   clear q0 q2 qz
   go_loopw [5,31] (fun v i wi=> ∃j:Nat,j≤x.dests.length∧i= .int .i64 j∧Hid (wi.ownsRow W.heap.size 81 3 vh rows2.length (rows2.flatMap hdC))∧Hid (wi.ownsRow W.heap.size 85 2 v (lksTo l k x j).length ((lksTo l k x j).flatMap lkC))∧Hid (Blk wi gx 57 #[.int .u16 x.id, .int .u16 x.source, .slice D x.dests.length d])∧Hid (Below W.heap.size W wi)) (fun _ i _=>x.dests.length -(intOf i).toNat)
   case atStart=>exact ⟨0,Nat.zero_le _,rfl,HO8,HL8,HK7,HB7⟩
   case round=>
    obtain ⟨j,hj,rfl,HO,HL,HK,HB⟩:=hrel
    by_cases hlj:j <x.dests.length
    ·obtain ⟨dd,hdd⟩:=get_lt hlj
     have hdr2:=HDR.out.up HB.out
     obtain ⟨bd,od,rfl,hbd,gd⟩:=int_at hdr2 hdd
     have q0:=HK.out.cell 0
     have qz:=HK.out.lt
     simp at q0
     have hHS:=HS.out
     have hle:(lksTo l k x j).length≤4194304:=Nat.le_trans (HLE.out j (Nat.le_of_lt hlj)) hHS
     have HNX:=Lib.hid (lksTo_next (l:=l) (k:=k) hdd)
     generalize lksTo l k x j=links at*
     have j0:(0:Int)≤(j:Int):=by omega
     have j1:(j:Int) <(x.dests.length:Int):=by omega
     have hWr:W.heap.size≤wr.heap.size:=HB.out.size
     have HL2:=Lib.hid (own_below HL.out (below_one wr (.cells #[.int .u16 x.id, .int .u16 dd] 85)))
     clear hdr2 hdd hbd
     go_wp2_with (at_builtin;go_loud (refine wpList_append_lies _ rfl (.tmp 35) (.tmp 40) _ rfl W.heap.size 85 i2 (.agg #[.int .u16 0, .int .u16 0]) 2 4 Tryz.underlying61 hi2 hb0 hb1 hb2 rfl (by decide) _ _ _ rfl HL2.out ⟨wr.heap.size,0,none⟩ 1 1 [.int .u16 x.id, .int .u16 dd] rfl rfl (World.news_of_block (heap_alloc_new wr _)) (by intro u hu;simp at hu;rcases hu with rfl |rfl<;>rfl) (by omega) (by unfold maxLen;omega) (by omega) (by simp;omega) _ rfl ?_);intro g3 cap3 w8 hown hg hat hlt8)
     have hof:=Off.of_own HL2.out hg
     have HB8:=Lib.hid ((Below.then_ HB.out (below_one wr _)).grown hg (by simp;omega) (fun k e=>own_ge HL2.out k e))
     have HL9:=Lib.hid hown
     have HO9:=Lib.hid (own_off (own_below HO.out (below_one wr _)) hof (by decide))
     have HK9:=Lib.hid (Blk.off (HK.out.below (below_one wr _) qz) hof (by decide))
     clear hof hown hg hat q0 qz
     go_wp2
     go_roundw
     case rel=>exact ⟨j+1,by omega,by go_num,HO9,Lib.hid (by have:=HL9.out;rw [HNX.out];simpa [lkC] using this),HK9,HB8⟩
     case measure=>simp [intOf];omega
    ·obtain rfl:j=x.dests.length:=by omega
     have HE:=Lib.hid (lksTo_end HX.out)
     have q0:=HK.out.cell 0
     go_wp2
     go_roundw
     case rel=>exact ⟨k+1,by omega,by go_num,Lib.hid (by rw [HN.out];exact HO.out),Lib.hid (by rw [←HE.out];exact HL.out),HB⟩
     case measure=>simp [intOf];omega
  ·obtain rfl:k=l.length:=by omega
   have HF:=Lib.hid (show l.take l.length=l from List.take_length)
   go_wp2
   go_ret2
   refine ⟨_,_,rfl,by have:=HO.out;rw [HF.out] at this;simpa using this,by have:=HL.out;rwa [HF.out] at this,HB.out⟩
end Go.Proofs.YteelncofiodflaaGreat
