/-
  The function cut of New of package owner, walked: the open regions, in order of their places, become the last segment. No condition but on sizes.
-/
import Derived.BigQuiet
import Derived.BigRegion
import Derived.Deep.RegionLaw
import Derived.Test.YtdmgpdanlfmadaaGreatOwnD
import Derived.Sort.AssemblyPlain
import Derived.Test.YtdmgpdanlfmadaaGreatSkZ
import Derived.Test.YtdmgpdanlfmadaaGreatLayO
namespace Go.Proofs.YtdmgpdanlfmadaaGreat
open Go.RowKit Go.Shelf Go.Sort
attribute [local go_sem] ext_cell
structure OpB where
 o:Opn
 lt:o.k <4194304
instance:Inhabited OpB:=⟨⟨⟨⟨0,0,0,0,false⟩,0⟩,by decide⟩⟩
def OpB.cells (o:OpB):List Value:=o.o.cells
def oCmp (x y:OpB):Int:=(x.o.k:Int) -(y.o.k:Int)
theorem oCmp_lt (x y:OpB):ltOf oCmp x y=decide (x.o.k <y.o.k):=by
 unfold ltOf oCmp
 exact decide_eq_decide.2 (by omega)
theorem oSWO:SWO (ltOf oCmp) where
 irrefl x:=by rw [oCmp_lt];simp
 trans x y z h1 h2:=by rw [oCmp_lt] at*;simp at*;omega
 ntrans x y z h1 h2:=by rw [oCmp_lt] at*;simp at*;omega
theorem liftB: ∀(l:List Opn),(∀o ∈ l,o.k <4194304)→ ∃L:List OpB,L.map (·.o)=l
 | [],_=>⟨[],rfl⟩
 |x::r,h=>by
  obtain ⟨L,hL⟩:=liftB r (fun o ho=>h o (by simp [ho]))
  exact ⟨⟨x,h x (by simp)⟩::L,by rw [List.map_cons,hL]⟩
theorem flatB (L:List OpB):(L.map (·.o)).flatMap Opn.cells=L.flatMap OpB.cells:=by rw [List.flatMap_map];rfl
theorem oClo_ok (x y:OpB) (W:World):Calls Tryz.prog 23 #[.agg #[.int .u64 x.o.r.base, .int .u64 x.o.r.size, .int .u16 x.o.r.part, .int .u8 x.o.r.rights, .bool x.o.r.shared, .int .i64 x.o.k], .agg #[.int .u64 y.o.r.base, .int .u64 y.o.r.size, .int .u16 y.o.r.part, .int .u8 y.o.r.rights, .bool y.o.r.shared, .int .i64 y.o.k]] W fun e w'=>e= .returned (.int .i64 (oCmp x y))∧ ∃q os',w'=grow (W.drewN q) os':=by
 have hx:=x.lt
 have hy:=y.lt
 have E:=Lib.hid (show IntKind.i64.wrap ((x.o.k:Int) -(y.o.k:Int))=oCmp x y by rw [IntKind.wrap_i64];unfold oCmp;omega)
 obtain ⟨c,hc⟩: ∃c,oCmp x y=c:=⟨_,rfl⟩
 rw [hc] at E ⊢
 clear hc
 go_enter Tryz.func23,Tryz.ntmps23
 go_wp2
 go_ret
 exact ⟨ret_int (by first |exact E.out |(have:=E.out;rw [IntKind.wrap_i64] at this;omega)),0,_,by rw [alloc_eq_grow,alloc_eq_grow,grow_grow];rfl⟩
theorem lenO_ok (n:Nat) (hn:n <4611686018427387904) (w:World):Calls Tryz.prog 48 #[.int .u64 n] w fun e w'=>e= .returned (.int .i64 (Lib.bitLen n:Nat))∧w'=w:=by
 have h:=Any.bits_Len (SlLaysF0.n15.bits (P:=Tryz.prog) {Tryz.layOpn with}) (n:Int) w (by omega) (by omega)
 rw [Int.toNat_natCast] at h
 exact h
set_option maxRecDepth 100000 in
set_option maxHeartbeats 2000000 in
theorem sortO_ok {l:List Opn} {A:Option Addr} {c base:Nat} {w:World} (hbase:base≤w.heap.size) (hL:l.length≤1099511627776) (hk: ∀o ∈ l,o.k <4194304) (h:w.ownsRow base 66 6 (.slice A l.length c) l.length (l.flatMap Opn.cells)):
  Calls Tryz.prog 22 #[.slice A l.length c, .func (.func 23) #[] #[]] w fun e w'=>e= .returned (.tuple #[])∧ ∃M:List Opn,M.Perm l∧M.Pairwise (fun a b=>a.k≤b.k)∧w'.ownsRow base 66 6 (.slice A M.length c) M.length (M.flatMap Opn.cells)∧Below base w w':=by
 obtain ⟨L,rfl⟩:=liftB l hk
 rw [List.length_map] at*
 rw [flatB] at h
 clear hk
 rcases h.2 with ⟨h2,h3⟩ |⟨g,cap,cur,e1,hb,hh,_⟩
 ·obtain rfl:L= []:=List.eq_nil_of_length_eq_zero h3
  have hl:=lenO_ok 0 (by omega) w
  have hp:=fun lim=>AnyF.pdqsortCmpFunc_none Tryz.layOpn A c lim (.func (.func 23) #[] #[]) w
  have HL:=Lib.hid hl
  have HP:=Lib.hid (show ∀lim:Int,Calls Tryz.prog 47 #[.slice A 0 c, .int .i64 0, .int .i64 0, .int .i64 lim, .func (.func 23) #[] #[]] w _ from hp)
  have H:=Lib.hid h
  clear hl hp h h2
  go_enter Tryz.func22,Tryz.ntmps22
  go_wp2_with fail
  refine HL.out.mono ?_
  rintro e w' ⟨rfl,rfl⟩
  go_wp2_with fail
  refine (HP.out _).mono ?_
  rintro e w' ⟨rfl,rfl⟩
  go_wp2
  go_end0
  exact ⟨rfl,[],List.Perm.refl _,by simp,H.out,Below.refl _ _⟩
 ·injection e1 with e1 _ e2
  subst e1;subst e2
  have hlt:g <w.heap.size:=(Array.getElem?_eq_some_iff.1 hh).1
  have eg: ∀args w,(callFunc 23 args).run Tryz.prog w= .ok (.enter 23 args) w:=enters_of Tryz.func23 (by kernel_rfl) rfl
  have h1c: ∀x:OpB, ∀v ∈ x.cells,v.oneCell'=true:=fun x v hv=>by simp [OpB.cells,Opn.cells] at hv;rcases hv with rfl |rfl |rfl |rfl |rfl |rfl<;>rfl
  have hH:=holdsK_own (enc:=OpB.cells) (k:=6) (fun _=>rfl) rfl h
  have hlim:Lib.bitLen L.length <4611686018427387904:=Nat.lt_of_le_of_lt (Lib.bitLen_le L.length 62 (by omega) (by omega)) (by omega)
  have hp:=AnyQ.pdqsortCmpFunc_all Tryz.layOpn 6 (fun w=>by kernel_rfl) (fun w=>by kernel_rfl) OpB.cells oCmp 23 #[] oSWO g 0 c L.toArray w eg (fun _ _ _ _ x y=>oClo_ok x y _) ⟨fun _=>rfl,h1c,hH,hlt⟩ (L.length+1) 0 L.length (Lib.bitLen L.length) L.toArray w (by omega) rfl (SWK.start hH) (Nat.zero_le _) (by simp) (by simp;omega) hlim (Or.inl rfl)
  have HP:=Lib.hid (show Calls Tryz.prog 47 #[.slice (some ⟨g,0,none⟩) L.length c, .int .i64 0, .int .i64 L.length, .int .i64 (Lib.bitLen L.length:Nat), .func (.func 23) #[] #[]] w _ from hp)
  have HL:=Lib.hid (lenO_ok L.length (by omega) w)
  have H:=Lib.hid h
  have wr:IntKind.u64.wrap (L.length:Int)=L.length:=by rw [IntKind.wrap_u64];omega
  clear hp h hh hH
  go_enter Tryz.func22,Tryz.ntmps22
  go_wp2_with fail
  refine HL.out.mono ?_
  rintro e w' ⟨rfl,rfl⟩
  go_wp2_with fail
  refine HP.out.mono ?_
  rintro e w' ⟨rfl,n,os,rfl⟩
  have hps:=pdq_sorts (ltOf oCmp) oSWO L.toArray 0 L.length (Lib.bitLen L.length) true true (Nat.zero_le _) (by simp) (Or.inl rfl)
  generalize pdq (ltOf oCmp) L.toArray 0 L.length (Lib.bitLen L.length) true true=d' at hps ⊢
  obtain ⟨hp,hs⟩:=hps
  have HPS:=Lib.hid (And.intro hp hs)
  clear hp hs
  go_wp2
  go_end0
  obtain ⟨hp,hs⟩:=HPS.out
  have hpl:=permIn_listC (d:=L.toArray) (by simpa using hp)
  have hsz:d'.size=L.length:=hp.1
  have hpw:d'.toList.Pairwise (fun a b=>a.o.k≤b.o.k):=by
   rw [List.pairwise_iff_getElem]
   intro i j hi hj hij
   have hi':i <d'.size:=by simpa using hi
   have hj':j <d'.size:=by simpa using hj
   have:=hs i j (Nat.zero_le _) hij (by omega)
   rw [oCmp_lt,decide_eq_false_iff_not,getElem!_pos d' j hj',getElem!_pos d' i hi'] at this
   simp only [Array.getElem_toList]
   omega
  refine ⟨rfl,d'.toList.map (·.o),by simpa using hpl.map (·.o),List.pairwise_map.2 hpw, ?_,belowK_sorted (Below.refl _ _) hbase hb⟩
  have:=ownK_sorted (enc:=OpB.cells) (k:=6) (m:=n) (os:=os) (fun _=>rfl) H.out hsz
  rw [List.length_map,flatB,show d'.toList.length=L.length by simpa using hsz]
  exact this
theorem sortO_at {l:List Opn} {A:Option Addr} {c base n:Nat} {w:World} (hn:l.length=n) (hbase:base≤w.heap.size) (hL:n≤1099511627776) (hk: ∀o ∈ l,o.k <4194304) (h:w.ownsRow base 66 6 (.slice A l.length c) l.length (l.flatMap Opn.cells)):
  Calls Tryz.prog 22 #[.slice A n c, .func (.func 23) #[] #[]] w fun e w'=>e= .returned (.tuple #[])∧ ∃M:List Opn,M.Perm l∧M.Pairwise (fun a b=>a.k≤b.k)∧w'.ownsRow base 66 6 (.slice A M.length c) M.length (M.flatMap Opn.cells)∧Below base w w':=by
 subst hn
 exact sortO_ok hbase hL hk h
theorem cloneO_ok {W:World} {q B:Nat} {v:Value} {l:List Opn} (h:OQ W q B v l):
  Calls Tryz.prog 21 #[v] W fun e w'=> ∃A c,e= .returned (.slice A l.length c)∧w'.ownsRow W.heap.size 66 6 (.slice A l.length c) l.length (l.flatMap Opn.cells)∧Below W.heap.size W w':=by
 obtain ⟨i0,hi,hz0,hz1,hz2⟩:=info_parts infoOpn
 have qT: ∀(w:World) (a:Option Addr) (n c n' c':Nat),(binOp .eql 63 (.slice a n c) (.slice none n' c')).run Tryz.prog w= .ok (.bool a.isNone) w:=fun w a n c n' c'=>Lib.run_eql_slice_nil w _ _ a n c n' c' Tryz.underlying63
 obtain ⟨A,c,rfl,hP⟩:=h.form
 have hl:=h.len
 have hA:A=none→l= []:=fun e=>by
  subst e
  exact List.eq_nil_of_length_eq_zero (rd_none hP)
 clear h
 rcases A with _ |ad
 ·have hn:=hA rfl
  subst hn
  go_enter Tryz.func21,Tryz.ntmps21
  go_wp2
  go_ret
  exact ⟨none,0,rfl,by simpa using World.ownsRow_nil _ _ _ _,Below.refl _ _⟩
 ·have HO:=Lib.hid (World.ownsRow_made (e:=66) (size:=6) W #[] 0 (Nat.le_refl _) (Nat.zero_le _) rfl)
  have HR:=Lib.hid ((hP.alloc (Nat.le_refl _) (.cells #[] 66)))
  clear hP hA
  go_enter Tryz.func21,Tryz.ntmps21
  go_wp2_with (at_builtin;refine wpList_append_rd _ rfl (.tmp 5) (.tmp 6) _ rfl W.heap.size 66 i0 (.agg #[.int .u64 0, .int .u64 0, .int .u16 0, .int .u8 0, .bool false, .int .i64 0]) 6 32 Tryz.underlying63 hi hz0 hz1 hz2 rfl (by decide) _ 0 [] rfl HO.out W.heap.size (some ad) l.length c _ rfl HR.out (oneOpn l) (by unfold maxLen;omega) (by omega) (by simp) ?_;intro v' w1 hown hg)
  go_ret
  have hw:w1.ownsRow W.heap.size 66 6 v' l.length (l.flatMap Opn.cells):=by simpa using hown
  obtain ⟨A2,c2,rfl,_⟩:=own_form hw
  exact ⟨A2,c2,rfl,hw,below_own ((Below.refl W.heap.size W).alloc (Nat.le_refl _) _) hg HO.out (by simp)⟩
theorem infoSegm:(Tryz.prog.info? 59).map (fun i=>(i.zero,i.size,i.bytes))=some (some (.agg #[.int .u64 0, .slice none 0 0]),2,32):=by kernel_rfl
section
variable {W V:World} {mb mc qn B0 B:Nat} {sv sv' v v':Value} {L L0:List SE} {e:SE} {now now':List Opn}
theorem NSt.form (h:NSt W mb mc qn B0 B sv v (L0++ [e]) now): ∃g c,sv= .slice (some ⟨g,0,none⟩) (L0.length+1) c∧W.cell? ⟨g,L0.length*2,none⟩=some (.int .u64 e.s.lo)∧W.cell? ⟨g,L0.length*2+1,none⟩=some (.slice e.A e.s.rs.length e.c)∧g <W.heap.size∧ ∀i,W.frozen? ⟨g,i,none⟩=false:=by
 have hrow:=h.row
 rw [List.length_append,List.length_singleton] at hrow
 rcases hrow.2 with ⟨_,h2⟩ |⟨g,cap,cur,rfl,hb,hh,r⟩
 ·omega
 ·have hbk:Blk W g 59 cur:=hh
  have hr:=(own_slice hrow).2
  rw [show L0.length+1=(L0++ [e]).length by simp] at hr
  obtain ⟨b,o,e1,_,c0,c1⟩:=se_at (k:=L0.length) (x:=e) hr (by simp)
  obtain ⟨rfl,rfl⟩:g=b∧0=o:=by simpa using e1
  exact ⟨g,cap,rfl,by simpa using c0,by simpa using c1,hbk.lt,hbk.frozen⟩
theorem asc_lt {l M:List Opn} (hp:M.Perm l) (hs:M.Pairwise (fun a b=>a.k≤b.k)) (hn:(l.map (·.k)).Nodup):M.Pairwise (fun a b=>a.k <b.k):=by
 have h1:(M.map (·.k)).Nodup:=(hp.map _).nodup_iff.2 hn
 have h2:M.Pairwise (fun a b=>a.k≠b.k):=List.pairwise_map.1 h1
 exact (hs.and h2).imp fun ⟨a,b⟩=>by omega
theorem NSt.bk7 (h:NSt W mb mc qn B0 B sv v L now) (hg:W.grownBy V sv.ownBlock):V.cell? ⟨mb,0,none⟩=some sv∧V.frozen? ⟨mb,0,none⟩=false∧V.cell? ⟨mc,0,none⟩=some (.pointer (some ⟨mb,0,none⟩)):=by
 have hoff:=Off.of_own h.row hg
 have hmp:=h.mp.off hoff (by decide)
 have hmc:=h.mcell.off hoff (by decide)
 refine ⟨?_,hmp.frozen 0, ?_⟩
 ·have:=hmp.cell 0;simpa using this
 ·have:=hmc.cell 0;simpa using this
end
end Go.Proofs.YtdmgpdanlfmadaaGreat
namespace Go.Proofs.YtdmgpdanlfmadaaGreat
open Go.RowKit Go.Shelf Go.Sort
attribute [local go_sem] ext_cell
def CutPost (W W':World) (mb mc qn B0 B:Nat) (v:Value) (L0:List SE) (e:SE) (now:List Opn) (a:Int):Prop:=
 ∃sv' e',NSt W' mb mc qn B0 B sv' v (if e.s.lo=a then L0++ [e'] else L0++ [e]++ [e']) now∧e'.s.lo=a∧e'.s.rs.Pairwise (fun x y=>x.k <y.k)∧(∀o,o ∈ e'.s.rs↔o ∈ now)∧Stp B0 W W'
set_option maxRecDepth 100000 in
set_option maxHeartbeats 8000000 in
theorem cut_ok {W:World} {mb mc qn B0 B:Nat} {sv v:Value} {L0:List SE} {e:SE} {now:List Opn} (h:NSt W mb mc qn B0 B sv v (L0++ [e]) now) (hL:L0.length≤4194304) (hk: ∀o ∈ now,o.k <4194304) (hn:(now.map (·.k)).Nodup) (a:Int):
  Calls Tryz.prog 20 #[.int .u64 a, .pointer (some ⟨qn,0,none⟩), .pointer (some ⟨mc,0,none⟩)] W fun r W'=>r= .returned (.tuple #[])∧CutPost W W' mb mc qn B0 B v L0 e now a:=by
 obtain ⟨ii,hi,hz0,hz1,hz2⟩:=info_parts infoSegm
 obtain ⟨m0,m1,m2,mz0,mz1,mz2⟩:=h.cells
 have hlen:=h.q.len
 have hlb:=h.lb
 have HN:=Lib.hid h
 have HK:=Lib.hid hk
 have HND:=Lib.hid hn
 obtain ⟨n,hnl⟩: ∃n,now.length=n:=⟨_,rfl⟩
 have HNL:=Lib.hid hnl
 rw [hnl] at hlen
 clear h hk hn
 go_enter Tryz.func20,Tryz.ntmps20
 go_wp2_with fail
 refine (cloneO_ok HN.out.q).mono ?_
 rintro r w1 ⟨A1,c1,rfl,ho1,hb1⟩
 rw [hnl]
 have HO1:=Lib.hid ho1
 have HB1:=Lib.hid hb1
 clear ho1 hb1 m0 m1 m2
 go_wp2_with fail
 refine (sortO_at HNL.out HB1.out.size (by omega) HK.out HO1.out).mono ?_
 rintro r w2 ⟨rfl,M,hM,has,ho2,hb2⟩
 have HML:=Lib.hid (show M.length=n by rw [hM.length_eq];exact hnl)
 have HN2:=Lib.hid (HN.out.up (HB1.out.trans hb2))
 have HST2:=Lib.hid (Stp.of_below (B0:=B0) (HB1.out.trans hb2) (by omega))
 have HAS:=Lib.hid (asc_lt hM has HND.out)
 have HM:=Lib.hid hM
 have hws:W.heap.size≤w2.heap.size:=Nat.le_trans HB1.out.size hb2.size
 have hal:=below_one w2 (.cells #[.int .u64 a, .slice A1 n c1] 59)
 have bk:=Blk.new w2 59 #[.int .u64 a, .slice A1 n c1]
 have HN3:=Lib.hid (HN2.out.up hal)
 have HST3:=Lib.hid (HST2.out.trans (Stp.of_below (B0:=B0) hal (by omega)))
 have HSEP:=Lib.hid (show ∀g,(Value.slice A1 M.length c1).ownBlock=some g→v.ownBlock≠some g from fun g hg e=>by
  have h1:=(own_lt0 ho2 hg).1
  have h2:=(own_lt0 HN.out.q.own e).2
  omega)
 have HO3:=Lib.hid (own_lessM (own_below ho2 hal) (show B≤W.heap.size from hlb.2.2.2.2))
 clear hM has ho2 hb2 hnl
 go_upto_region 3 with (fail)
 generalize World.alloc w2 _=W3 at hal bk HN3 HST3 HO3 ⊢
 have HBK:=Lib.hid bk
 generalize hgx:w2.heap.size=gx at*
 have b0:=bk.cell 0
 have b1:=bk.cell 1
 have bl:=bk.lt
 simp at b0 b1
 obtain ⟨m0,m1,m2,mz0,mz1,mz2⟩:=HN3.out.cells
 obtain ⟨g,c,rfl,s0,s1,sl,sf⟩:=HN3.out.form
 have HAL:=Lib.hid hal
 clear hal bk
 have e1:IntKind.i64.wrap (((L0.length+1:Nat):Int) -1)=(L0.length:Int):=by rw [IntKind.wrap_i64];omega
 have n0:(0:Int)≤(L0.length:Int):=by omega
 have n1:(L0.length:Int) <((L0.length+1:Nat):Int):=by omega
 refine wp_region_ext (by kernel_rfl) (by kernel_rfl) ?_
 repeat (go_big_quiet_step (fail))
 refine wpQuiet_nil ?_
 intro xq
 have hbx:=ext_below W3 xq
 have HN4:=Lib.hid (HN3.out.up hbx)
 have HST4:=Lib.hid (HST3.out.trans (Stp.of_below (B0:=B0) hbx (by have:=HN3.out.lb;omega)))
 have HBK4:=Lib.hid (HBK.out.below hbx HBK.out.lt)
 have HO4:=Lib.hid (own_below HO3.out hbx)
 clear b0 b1 bl m0 m1 m2 mz0 mz1 mz2 s0 s1 sl sf hbx
 generalize ext W3 xq=W4 at*
 have b0:=HBK4.out.cell 0
 have b1:=HBK4.out.cell 1
 have bl:=HBK4.out.lt
 simp at b0 b1
 obtain ⟨m0,m1,m2,mz0,mz1,mz2⟩:=HN4.out.cells
 obtain ⟨g',c',hgc,s0,s1,sl,sf⟩:=HN4.out.form
 obtain ⟨rfl,rfl⟩:g=g'∧c=c':=by
  injection hgc with h1 _ h3
  injection h1 with h1
  injection h1 with h1 _
  exact ⟨h1,h3⟩
 clear hgc e1 n0 n1
 by_cases ha:e.s.lo=a
 ·subst ha
  have HP:=Lib.hid (HN4.out.put (e':=⟨⟨e.s.lo,M⟩,A1,c1⟩) HO4.out HSEP.out)
  go_wp2
  go_end0
  refine ⟨rfl, ?_⟩
  rw [←HML.out]
  exact ⟨_,⟨⟨e.s.lo,M⟩,A1,c1⟩,by rw [if_pos rfl];exact HP.out.1,rfl,HAS.out,fun o=>HM.out.mem_iff,HST4.out.trans HP.out.2⟩
 ·have ha2:(e.s.lo==a)=false:=by simpa using ha
  have HA:=Lib.hid ha
  have hlL:(L0++ [e]).length=L0.length+1:=by simp
  have HL:=Lib.hid hlL
  clear ha hlL
  go_wp2
  go_region_law ((refine step_append_lies _ (by rfl) (.tmp 38) (.tmp 40) _ (by rfl) B0 59 ii (.agg #[.int .u64 0, .slice none 0 0]) 2 32 Tryz.underlying60 hi hz0 hz1 hz2 rfl (by decide) _ (L0++ [e]).length _ (by rfl) ((HN4.out.up (show Below W4.heap.size W4 _ from (by repeat (first |with_reducible exact Below.refl _ _ |with_reducible refine Below.drew ?_ |(with_reducible refine Below.alloc ?_ (by simp) _) |(with_reducible refine Below.setCell ?_ (by simp) _))))).row) ⟨W4.heap.size,0,none⟩ 1 1 [.int .u64 a, .slice A1 n c1] (by rfl) (by rfl) (World.news_of_block (heap_alloc_new W4 _)) (by intro u hu;simp at hu;rcases hu with rfl |rfl<;>rfl) (by have:=HL.out;omega) (by have:=HL.out;unfold maxLen;omega) (by have:=HL.out;omega) (by have:=HN4.out.lb;simp;omega) _ rfl ?_;intro g2 cap w7 hown hgrow hat hlt7;have hb7:=(HN4.out.up (show Below W4.heap.size W4 _ from (by repeat (first |with_reducible exact Below.refl _ _ |with_reducible refine Below.drew ?_ |(with_reducible refine Below.alloc ?_ (by simp) _) |(with_reducible refine Below.setCell ?_ (by simp) _))))).bk7 hgrow;have HP:=Lib.hid ((HN4.out.up (show Below W4.heap.size W4 _ from (by repeat (first |with_reducible exact Below.refl _ _ |with_reducible refine Below.drew ?_ |(with_reducible refine Below.alloc ?_ (by simp) _) |(with_reducible refine Below.setCell ?_ (by simp) _))))).app (e':=⟨⟨a,M⟩,A1,c1⟩) (own_below HO4.out (show Below W4.heap.size W4 _ from (by repeat (first |with_reducible exact Below.refl _ _ |with_reducible refine Below.drew ?_ |(with_reducible refine Below.alloc ?_ (by simp) _) |(with_reducible refine Below.setCell ?_ (by simp) _))))) HSEP.out (by rw [←HML.out] at hown;exact hown) hgrow);have c7:=hb7.1;have f7:=hb7.2.1;have d7:=hb7.2.2;clear hown hgrow hat hb7))
  all_goals (go_end0;have hp:=HP.out;rw [HL.out] at hp;exact ⟨rfl,_,⟨⟨a,M⟩,A1,c1⟩,by rw [if_neg HA.out];exact hp.1,rfl,HAS.out,fun o=>HM.out.mem_iff,HST4.out.trans ((Stp.of_below (B0:=B0) (show Below W4.heap.size W4 _ from (by repeat (first |with_reducible exact Below.refl _ _ |with_reducible refine Below.drew ?_ |(with_reducible refine Below.alloc ?_ (by simp) _) |(with_reducible refine Below.setCell ?_ (by simp) _)))) (by have:=HN4.out.lb;omega)).trans hp.2)⟩)
end Go.Proofs.YtdmgpdanlfmadaaGreat
namespace Go.Proofs.YtdmgpdanlfmadaaGreat
open Go.RowKit
theorem Stp.refl (W:World) (B0:Nat) (hB:B0≤W.heap.size):Stp B0 W W:= .of_below (Below.refl _ _) hB
structure SwM (w0 W:World) (mb mc qn B0 B:Nat) (l:List Reg) (i:Nat) (T:Int) (g now:List Opn):Prop where
 st: ∃sv v L0 e,NSt W mb mc qn B0 B sv v (L0++ [e]) now∧e.s.lo=T∧SwInv l i (L0.map (·.s)) T e.s.rs g
 heap:HeapFrom lastO now now.length 0
 ok: ∀o ∈ now,okO o∧o.k <1048577
 nd:(now.map (·.k)).Nodup
 stp:Stp B0 w0 W
section
variable {w0 W W':World} {mb mc qn B0 B:Nat} {l:List Reg} {i:Nat} {T:Int} {g now:List Opn} {v:Value} {L0:List SE} {e:SE}
theorem okO_top {o:Opn} (h:okO o):lastO o≤topA:=by
 unfold okO okSp at h
 unfold lastO lastR topA
 omega
theorem SwM.next (hinv:SwInv l i (L0.map (·.s)) T e.s.rs g) (heT:e.s.lo=T) {y:Opn} (hp:g.Perm (y::now)) (hmin: ∀o ∈ g,lastR y.r≤lastR o.r) (hL:lastR y.r <topA) (hcut:CutPost W W' mb mc qn B0 B v L0 e now (lastR y.r+1))
  (hh:HeapFrom lastO now now.length 0) (hok: ∀o ∈ now,okO o∧o.k <1048577) (nd:(now.map (·.k)).Nodup) (hs:Stp B0 w0 W):SwM w0 W' mb mc qn B0 B l i (lastR y.r+1) now now∧Stp B0 W W':=by
 obtain ⟨sv',e',hn,h1,h2,h3,h4⟩:=hcut
 refine ⟨?_,h4⟩
 by_cases ht:e.s.lo=lastR y.r+1
 ·rw [if_pos ht] at hn
  refine ⟨⟨sv',v,L0,e',hn,h1, ?_⟩,hh,hok,nd,hs.trans h4⟩
  have:=hinv.pop_same hp (by rw [←heT];exact ht) h2 h3
  rwa [show T=lastR y.r+1 by rw [←heT];exact ht] at this
 ·rw [if_neg ht] at hn
  refine ⟨⟨sv',v,L0++ [e],e',hn,h1, ?_⟩,hh,hok,nd,hs.trans h4⟩
  have:=hinv.pop_next hp (by rw [←heT];exact ht) hmin hL h2 h3
  have e1:(L0++ [e]).map (·.s)=L0.map (·.s)++ [⟨T,e.s.rs⟩]:=by subst heT;simp
  rw [e1]
  exact this
theorem SwM.begin_ (hinv:SwInv l i (L0.map (·.s)) T e.s.rs g) (heT:e.s.lo=T) {r:Reg} (hr:l[i]? =some r) (hs:r.base≤lastR r) (hT:T≤r.base) (htop:r.base≤topA) (hno: ∀o ∈ g,r.base≤lastR o.r) (hp:now.Perm (⟨r,i⟩::g)) (hcut:CutPost W W' mb mc qn B0 B v L0 e now r.base)
  (hh:HeapFrom lastO now now.length 0) (hok: ∀o ∈ now,okO o∧o.k <1048577) (nd:(now.map (·.k)).Nodup) (hst:Stp B0 w0 W):SwM w0 W' mb mc qn B0 B l (i+1) r.base now now∧Stp B0 W W':=by
 obtain ⟨sv',e',hn,h1,h2,h3,h4⟩:=hcut
 refine ⟨?_,h4⟩
 by_cases ht:e.s.lo=r.base
 ·rw [if_pos ht] at hn
  refine ⟨⟨sv',v,L0,e',hn,h1, ?_⟩,hh,hok,nd,hst.trans h4⟩
  have:=hinv.push_same hr (by rw [←heT];exact ht) hs hp h2 h3
  rwa [show T=r.base by rw [←heT];exact ht] at this
 ·rw [if_neg ht] at hn
  refine ⟨⟨sv',v,L0++ [e],e',hn,h1, ?_⟩,hh,hok,nd,hst.trans h4⟩
  have hT9:T≠r.base:=by rw [←heT];exact ht
  have:=hinv.push_next hr (by omega) hs htop hno hp h2 h3
  have e1:(L0++ [e]).map (·.s)=L0.map (·.s)++ [⟨T,e.s.rs⟩]:=by subst heT;simp
  rw [e1]
  exact this
theorem SwM.done (h:SwM w0 W mb mc qn B0 B l l.length T g []) (hg:g= []∨ ∀o ∈ g,topA≤lastO o): ∃sv v L,NSt W mb mc qn B0 B sv v L []∧SegsOk l (L.map (·.s)):=by
 obtain ⟨sv,v,L0,e,hn,heT,hinv⟩:=h.st
 refine ⟨sv,v,L0++ [e],hn, ?_⟩
 have:=hinv.done (fun o ho=>by
  rcases hg with rfl |hg
  ·cases ho
  ·exact hg o ho)
 have e1:(L0++ [e]).map (·.s)=L0.map (·.s)++ [⟨T,e.s.rs⟩]:=by subst heT;simp
 rw [e1]
 exact this
end
def lenAt (W:World) (q:Nat):Nat:=match W.cell? ⟨q,0,none⟩ with
 |some (.slice _ n _)=>n
 |_=>0
theorem OQ.lenAt {W:World} {q B:Nat} {v:Value} {l:List Opn} (h:OQ W q B v l):Go.Proofs.YtdmgpdanlfmadaaGreat.lenAt W q=l.length:=by
 obtain ⟨A,c,rfl,_⟩:=h.form
 unfold Go.Proofs.YtdmgpdanlfmadaaGreat.lenAt
 rw [h.cells.1]
@[reducible] def cutV (qn mc:Nat):Value:= .func (.func 20) #[] #[.pointer (some ⟨qn,0,none⟩), .pointer (some ⟨mc,0,none⟩)]
end Go.Proofs.YtdmgpdanlfmadaaGreat
namespace Go.Proofs.YtdmgpdanlfmadaaGreat
open Go.RowKit Go.Shelf
attribute [local go_sem] ext_cell
theorem last_wrap {y:Opn} (h:lastO y <topA) (h0:okO y):IntKind.u64.wrap (lastO y+1)=lastO y+1:=by
 unfold okO okSp at h0
 unfold lastO lastR topA at*
 rw [IntKind.wrap_u64];omega
set_option maxRecDepth 100000 in
set_option maxHeartbeats 8000000 in
theorem finB_ok {w0 W:World} {mb mc qn cc B0 B:Nat} {l:List Reg} {i:Nat} {T b:Int} {now:List Opn} (h:SwM w0 W mb mc qn B0 B l i T now now) (hc:Blk W cc 70 #[cutV qn mc]) (hi:i≤1048576) (hT:T≤b) (hb:b≤topA):
  Calls Tryz.prog 24 #[.int .u64 b, .bool false, .pointer (some ⟨qn,0,none⟩), .pointer (some ⟨cc,0,none⟩)] W fun e W'=>e= .returned (.tuple #[])∧ ∃T' now',SwM w0 W' mb mc qn B0 B l i T' now' now'∧T'≤b∧(∀o ∈ now',b≤lastO o)∧Stp B0 W W':=by
 have hent: ∀a w,(callFunc 20 a).run Tryz.prog w= .ok (.enter 20 a) w:=enters_of Tryz.func20 (by kernel_rfl) rfl
 have H:=Lib.hid h
 have HC:=Lib.hid hc
 have HS:=Lib.hid (Stp.refl W B0 (by obtain ⟨sv,v,L0,e,hn,_⟩:=h.st;have:=hn.lb;omega))
 clear h hc
 go_enter Tryz.func24,Tryz.ntmps24
 go_wp2
 go_loopw [6] (fun _ wr=> ∃(T1:Int) (q:List Opn),Hid (SwM w0 wr mb mc qn B0 B l i T1 q q)∧T1≤b∧Hid (Blk wr cc 70 #[cutV qn mc])∧Hid (Stp B0 W wr)) (fun _ wr=>lenAt wr qn)
 case atStart=>exact ⟨T,now,H,hT,HC,HS⟩
 case round=>
  obtain ⟨T1,q,H1,hT1,HC1,HS1⟩:=hrel
  obtain ⟨sv,v,L0,e,hn,heT,hinv⟩:=H1.out.st
  obtain ⟨m0,m1,m2,mz0,mz1,mz2⟩:=hn.cells
  have c0:=HC1.out.cell 0
  have cl:=HC1.out.lt
  simp at c0
  obtain ⟨A,c,rfl,hr⟩:=hn.q.form
  have hql:=hn.q.len
  have HN:=Lib.hid hn
  have HET:=Lib.hid heT
  have HINV:=Lib.hid hinv
  rcases Nat.eq_zero_or_pos q.length with hz |hz
  ·obtain rfl:q= []:=List.eq_nil_of_length_eq_zero hz
   rw [List.length_nil] at m2
   clear hn heT hinv hr hz
   go_wp2
   go_end0
   exact ⟨rfl,T1,[],H1.out,hT1,by simp,HS1.out⟩
  ·obtain ⟨x,hx⟩:=get_lt hz
   obtain ⟨bb,oo,rfl,hbb,p0,p1,p2,p3,p4,p5⟩:=opn_at hr hx
   have hmin:=heap_min H1.out.heap
   have HX:=Lib.hid hx
   have HOX:=Lib.hid (H1.out.ok x (List.mem_of_getElem? hx)).1
   have HMIN:=Lib.hid (show ∀o ∈ q,lastO x≤lastO o from fun o ho=>by
    obtain ⟨j,hj⟩:=List.mem_iff_getElem?.1 ho
    have:=hmin j (List.getElem?_eq_some_iff.1 hj).1
    rwa [kv_at hx,kv_at hj] at this)
   obtain ⟨n,hnq⟩: ∃n,q.length=n:=⟨_,rfl⟩
   have HNQ:=Lib.hid hnq
   rw [hnq] at m2 hz hql
   have z1:(0:Int) <(n:Int):=by omega
   obtain ⟨lx,hlx⟩: ∃z,lastO x=z:=⟨_,rfl⟩
   have HLX:=Lib.hid hlx
   simp only [Nat.zero_mul,Nat.add_zero] at p0 p1 p2 p3 p4 p5
   clear hn heT hinv hr hx hmin hnq hlx
   by_cases hlt:lx <b
   ·go_wp2_with fail
    refine (oLast_ok x _ HOX.out).mono ?_
    rintro r w1 ⟨rfl,hb1⟩
    rw [HLX.out]
    have HN1:=Lib.hid (HN.out.up hb1)
    have hB0:=HN.out.lb
    have HS2:=Lib.hid (HS1.out.trans (Stp.of_below (B0:=B0) hb1 (by omega)))
    have HT2:=Lib.hid (H1.out.stp.trans (Stp.of_below (B0:=B0) hb1 (by omega)))
    have HC2:=Lib.hid (HC1.out.below hb1 cl)
    clear m0 m1 m2 p0 p1 p2 p3 p4 p5 c0 cl mz0 mz1 mz2 hb1 hbb
    go_wp2_with fail
    refine (oPop_ok HN1.out.q (fun o ho=>(H1.out.ok o ho).1) H1.out.heap (by rw [HNQ.out];exact hz)).mono ?_
    rintro r w2 ⟨y,q2,v2,rfl,hq2,hs2,hpm,hhp,hmn⟩
    have HN2:=Lib.hid (HN1.out.heap hq2 hs2)
    have hst:=HN1.out.heapS hs2
    have HS3:=Lib.hid (HS2.out.trans hst)
    have HT3:=Lib.hid (HT2.out.trans hst)
    have HC3:=Lib.hid (hst.blk HC2.out (by decide) (by decide) (by decide) (by decide))
    have HPM:=Lib.hid hpm
    have HHP:=Lib.hid hhp
    have HMN:=Lib.hid hmn
    have HOY:=Lib.hid (H1.out.ok y (hpm.mem_iff.1 (by simp))).1
    clear hq2 hs2 hpm hhp hmn hst
    have hty:=assertOpn y.val
    go_wp2_with fail
    refine (oLast_ok y _ HOY.out).mono ?_
    rintro r w3 ⟨rfl,hb3⟩
    have HN3:=Lib.hid (HN2.out.up hb3)
    have hB2:=HN2.out.lb
    have HS4:=Lib.hid (HS3.out.trans (Stp.of_below (B0:=B0) hb3 (by omega)))
    have HT4:=Lib.hid (HT3.out.trans (Stp.of_below (B0:=B0) hb3 (by omega)))
    have HC4:=Lib.hid (HC3.out.below hb3 HC3.out.lt)
    have hyx:lastO y≤lx:=by
     rw [←HLX.out]
     exact HMN.out x (List.mem_of_getElem? HX.out)
    have hyt:lastO y <18446744073709551615:=by
     have h9:b≤18446744073709551615:=hb
     omega
    have HW:=Lib.hid (last_wrap (y:=y) hyt HOY.out)
    have c0:=HC4.out.cell 0
    have cl:=HC4.out.lt
    simp at c0
    obtain ⟨ly,hly⟩: ∃z,lastO y=z:=⟨_,rfl⟩
    have HLY:=Lib.hid hly
    rw [hly] at hyt hyx HW ⊢
    have hw:=HW.out
    clear hb3 hly hty
    go_wp2_with fail
    have hLb:L0.length≤4194304:=by have:=HINV.out.cnt;rw [List.length_map] at this;omega
    refine (cut_ok HN3.out hLb (fun o ho=>by have:=(H1.out.ok o (HPM.out.mem_iff.1 (by simp [ho]))).2;omega) ?_ (ly+1)).mono ?_
    ·have:=(HPM.out.map (·.k)).nodup_iff.2 H1.out.nd
     exact (List.nodup_cons.1 this).2
    rintro r w4 ⟨rfl,hcut⟩
    have hnx:=SwM.next (w0:=w0) (y:=y) HINV.out HET.out HPM.out.symm (fun o ho=>HMN.out o ho) (show lastR y.r <topA by have h8:lastR y.r=ly:=HLY.out;rw [h8];exact hyt) (by have h8:lastR y.r=ly:=HLY.out;rw [h8];exact hcut) HHP.out (fun o ho=>H1.out.ok o (HPM.out.mem_iff.1 (by simp [ho]))) (List.nodup_cons.1 ((HPM.out.map (·.k)).nodup_iff.2 H1.out.nd)).2 HT4.out
    have HX4:=Lib.hid hnx.1
    have HS5:=Lib.hid (HS4.out.trans hnx.2)
    have HC5:=Lib.hid (hnx.2.blk HC4.out (by decide) (by decide) (by decide) (by decide))
    have HLE:=Lib.hid (show lenAt w4 qn=q2.length∧lenAt wr qn=q2.length+1 from by
     obtain ⟨sv4,v4,L4,e4,hn4,_⟩:=hnx.1.st
     refine ⟨hn4.q.lenAt, ?_⟩
     rw [HN.out.q.lenAt, ←HPM.out.length_eq]
     rfl)
    clear hcut hnx c0 cl
    go_wp2
    go_roundw
    case rel=>exact ⟨lastR y.r+1,q2,HX4,by have h8:lastR y.r=ly:=HLY.out;omega,HC5,HS5⟩
    case measure=>have:=HLE.out;omega
   ·go_wp2_with fail
    refine (oLast_ok x _ HOX.out).mono ?_
    rintro r w1 ⟨rfl,hb1⟩
    rw [HLX.out]
    have HE:=Lib.hid (show SwM w0 w1 mb mc qn B0 B l i T1 q q∧Stp B0 W w1 from by
     have hB0:=HN.out.lb
     have hs:=Stp.of_below (B0:=B0) hb1 (by omega)
     exact ⟨⟨⟨_,_,L0,e,HN.out.up hb1,HET.out,HINV.out⟩,H1.out.heap,H1.out.ok,H1.out.nd,H1.out.stp.trans hs⟩,HS1.out.trans hs⟩)
    clear hb1
    go_wp2
    go_end0
    exact ⟨rfl,T1,q,HE.out.1,hT1,fun o ho=>by have:=HMIN.out o ho;have:=HLX.out;omega,HE.out.2⟩
end Go.Proofs.YtdmgpdanlfmadaaGreat
namespace Go.Proofs.YtdmgpdanlfmadaaGreat
open Go.RowKit Go.Shelf
attribute [local go_sem] ext_cell
set_option maxRecDepth 100000 in
set_option maxHeartbeats 8000000 in
theorem finA_ok {w0 W:World} {mb mc qn cc B0 B:Nat} {l:List Reg} {T:Int} {now:List Opn} (h:SwM w0 W mb mc qn B0 B l l.length T now now) (hc:Blk W cc 70 #[cutV qn mc]) (hi:l.length≤1048576):
  Calls Tryz.prog 24 #[.int .u64 0, .bool true, .pointer (some ⟨qn,0,none⟩), .pointer (some ⟨cc,0,none⟩)] W fun e W'=>e= .returned (.tuple #[])∧ ∃T' g',SwM w0 W' mb mc qn B0 B l l.length T' g' []∧(g'= []∨ ∀o ∈ g',topA≤lastO o)∧Stp B0 W W':=by
 have hent: ∀a w,(callFunc 20 a).run Tryz.prog w= .ok (.enter 20 a) w:=enters_of Tryz.func20 (by kernel_rfl) rfl
 have H:=Lib.hid h
 have HC:=Lib.hid hc
 have HS:=Lib.hid (Stp.refl W B0 (by obtain ⟨sv,v,L0,e,hn,_⟩:=h.st;have:=hn.lb;omega))
 clear h hc
 go_enter Tryz.func24,Tryz.ntmps24
 go_wp2
 go_loopw [6] (fun _ wr=> ∃(T1:Int) (g1 q:List Opn),Hid (SwM w0 wr mb mc qn B0 B l l.length T1 g1 q)∧Hid (g1=q∨((∀o ∈ g1,topA≤lastO o)∧ ∀o ∈ q,o ∈ g1))∧Hid (Blk wr cc 70 #[cutV qn mc])∧Hid (Stp B0 W wr)) (fun _ wr=>lenAt wr qn)
 case atStart=>exact ⟨T,now,now,H,Lib.hid (.inl rfl),HC,HS⟩
 case round=>
  obtain ⟨T1,g1,q,H1,HG1,HC1,HS1⟩:=hrel
  obtain ⟨sv,v,L0,e,hn,heT,hinv⟩:=H1.out.st
  obtain ⟨m0,m1,m2,mz0,mz1,mz2⟩:=hn.cells
  have c0:=HC1.out.cell 0
  have cl:=HC1.out.lt
  simp at c0
  obtain ⟨A,c,rfl,hr⟩:=hn.q.form
  have hql:=hn.q.len
  have HN:=Lib.hid hn
  have HET:=Lib.hid heT
  have HINV:=Lib.hid hinv
  rcases Nat.eq_zero_or_pos q.length with hz |hz
  ·obtain rfl:q= []:=List.eq_nil_of_length_eq_zero hz
   rw [List.length_nil] at m2
   clear hn heT hinv hr hz
   go_wp2
   go_end0
   exact ⟨rfl,T1,g1,H1.out,HG1.out.imp id (·.1),HS1.out⟩
  ·obtain ⟨n,hnq⟩: ∃n,q.length=n:=⟨_,rfl⟩
   have HNQ:=Lib.hid hnq
   rw [hnq] at m2 hz hql
   have z1:(0:Int) <(n:Int):=by omega
   clear hn heT hinv hr hnq
   go_wp2_with fail
   refine (oPop_ok HN.out.q (fun o ho=>(H1.out.ok o ho).1) H1.out.heap (by rw [HNQ.out];exact hz)).mono ?_
   rintro r w2 ⟨y,q2,v2,rfl,hq2,hs2,hpm,hhp,hmn⟩
   have HN2:=Lib.hid (HN.out.heap hq2 hs2)
   have hst:=HN.out.heapS hs2
   have HS3:=Lib.hid (HS1.out.trans hst)
   have HT3:=Lib.hid (H1.out.stp.trans hst)
   have HC3:=Lib.hid (hst.blk HC1.out (by decide) (by decide) (by decide) (by decide))
   have HPM:=Lib.hid hpm
   have HHP:=Lib.hid hhp
   have HMN:=Lib.hid hmn
   have HOY:=Lib.hid (H1.out.ok y (hpm.mem_iff.1 (by simp))).1
   clear hq2 hs2 hpm hhp hmn hst m0 m1 m2 c0 cl mz0 mz1 mz2
   have hty:=assertOpn y.val
   go_wp2_with fail
   refine (oLast_ok y _ HOY.out).mono ?_
   rintro r w3 ⟨rfl,hb3⟩
   have HN3:=Lib.hid (HN2.out.up hb3)
   have hB2:=HN2.out.lb
   have HS4:=Lib.hid (HS3.out.trans (Stp.of_below (B0:=B0) hb3 (by omega)))
   have HT4:=Lib.hid (HT3.out.trans (Stp.of_below (B0:=B0) hb3 (by omega)))
   have HC4:=Lib.hid (HC3.out.below hb3 HC3.out.lt)
   have c0:=HC4.out.cell 0
   have cl:=HC4.out.lt
   simp at c0
   have HOK2:=Lib.hid (show ∀o ∈ q2,okO o∧o.k <1048577 from fun o ho=>H1.out.ok o (HPM.out.mem_iff.1 (by simp [ho])))
   have HND2:=Lib.hid (List.nodup_cons.1 ((HPM.out.map (·.k)).nodup_iff.2 H1.out.nd)).2
   have htop:=okO_top HOY.out
   clear hb3 hty
   by_cases hyt:lastO y <18446744073709551615
   ·have HGQ:=Lib.hid (show g1.Perm (y::q2) from by
     rcases HG1.out with h9 |⟨h9,h10⟩
     ·rw [h9];exact HPM.out.symm
     ·have h11:=h9 y (h10 y (HPM.out.mem_iff.1 (by simp)))
      unfold topA at h11
      omega)
    have HW:=Lib.hid (last_wrap (y:=y) hyt HOY.out)
    obtain ⟨ly,hly⟩: ∃z,lastO y=z:=⟨_,rfl⟩
    have HLY:=Lib.hid hly
    rw [hly] at hyt HW htop ⊢
    have hw:=HW.out
    clear hly
    go_wp2_with fail
    have hLb:L0.length≤4194304:=by have:=HINV.out.cnt;rw [List.length_map] at this;omega
    refine (cut_ok HN3.out hLb (fun o ho=>by have:=(HOK2.out o ho).2;omega) HND2.out (ly+1)).mono ?_
    rintro r w4 ⟨rfl,hcut⟩
    have hnx:=SwM.next (w0:=w0) (y:=y) HINV.out HET.out HGQ.out (fun o ho=>by
     have h7:=HGQ.out.mem_iff.1 ho
     exact HMN.out o (HPM.out.mem_iff.1 h7)) (show lastR y.r <topA by have h8:lastR y.r=ly:=HLY.out;rw [h8];exact hyt) (by have h8:lastR y.r=ly:=HLY.out;rw [h8];exact hcut) HHP.out HOK2.out HND2.out HT4.out
    have HX4:=Lib.hid hnx.1
    have HS5:=Lib.hid (HS4.out.trans hnx.2)
    have HC5:=Lib.hid (hnx.2.blk HC4.out (by decide) (by decide) (by decide) (by decide))
    have HLE:=Lib.hid (show lenAt w4 qn=q2.length∧lenAt wr qn=q2.length+1 from by
     obtain ⟨sv4,v4,L4,e4,hn4,_⟩:=hnx.1.st
     refine ⟨hn4.q.lenAt, ?_⟩
     rw [HN.out.q.lenAt, ←HPM.out.length_eq]
     rfl)
    clear hcut hnx c0 cl
    go_wp2
    go_roundw
    case rel=>exact ⟨lastR y.r+1,q2,q2,HX4,Lib.hid (.inl rfl),HC5,HS5⟩
    case measure=>have:=HLE.out;omega
   ·have HDG:=Lib.hid (show (∀o ∈ g1,topA≤lastO o)∧ ∀o ∈ q2,o ∈ g1 from by
     rcases HG1.out with h9 |⟨h9,h10⟩
     ·subst h9
      refine ⟨fun o ho=> ?_,fun o ho=>HPM.out.mem_iff.1 (by simp [ho])⟩
      have:=HMN.out o ho
      unfold topA
      omega
     ·exact ⟨h9,fun o ho=>h10 o (HPM.out.mem_iff.1 (by simp [ho]))⟩)
    have HLE:=Lib.hid (show lenAt w3 qn=q2.length∧lenAt wr qn=q2.length+1 from by
     refine ⟨HN3.out.q.lenAt, ?_⟩
     rw [HN.out.q.lenAt, ←HPM.out.length_eq]
     rfl)
    have HX4:=Lib.hid (show SwM w0 w3 mb mc qn B0 B l l.length T1 g1 q2 from ⟨⟨_,_,L0,e,HN3.out,HET.out,HINV.out⟩,HHP.out,HOK2.out,HND2.out,HT4.out⟩)
    clear c0 cl
    go_wp2
    go_roundw
    case rel=>exact ⟨T1,g1,q2,HX4,Lib.hid (.inr HDG.out),HC4,HS4⟩
    case measure=>have:=HLE.out;omega
end Go.Proofs.YtdmgpdanlfmadaaGreat
