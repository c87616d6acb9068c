/-
  The example of the chapter of layer 22 holds: 'alive' returns true; what right configurations are.
-/
import Derived.Test.YtdmgpdanlfmadaaGreatOwnI
import Derived.Test.YtdmgpdanlfmadaaGreatRigM
namespace Go.Proofs.YtdmgpdanlfmadaaGreat
open Go.RowKit Go.Lib
theorem few_valO (c:Cfg) (A1 A2 A3 A4 A5:Option Addr) (c1 c2 c3 c4 c5:Nat) (w:World) (hR:CfgR w w.heap.size c A1 A2 A3 A4 A5 c1 c2 c3 c4 c5) (hs:c.small) (v:Bool) (hv:Hid (few c=v)):Calls Tryz.prog 18 #[cfgV c.frame A1 A2 A3 A4 A5 c.parts.length c.wins.length c.regs.length c.ports.length c.chans.length c1 c2 c3 c4 c5] w fun e w'=>e= .returned (.bool v)∧Below w.heap.size w w':=by
 have:=few_ok c A1 A2 A3 A4 A5 c1 c2 c3 c4 c5 w hR hs
 rwa [hv.out] at this
def goodO (c:Cfg):Bool:=few c&&rightM c
theorem goodO_right {c:Cfg} (h:goodO c=true):rightM c=true:=by unfold goodO at h;simp only [Bool.and_eq_true] at h;exact h.2
set_option maxRecDepth 100000 in
set_option maxHeartbeats 4000000 in
theorem goodO_ok (c:Cfg) (A1 A2 A3 A4 A5:Option Addr) (c1 c2 c3 c4 c5:Nat) (w:World) (hR:CfgR w w.heap.size c A1 A2 A3 A4 A5 c1 c2 c3 c4 c5) (hs:c.small) (hok:c.ok) (v:Bool) (hv:Hid (goodO c=v)):Calls Tryz.prog 5 #[cfgV c.frame A1 A2 A3 A4 A5 c.parts.length c.wins.length c.regs.length c.ports.length c.chans.length c1 c2 c3 c4 c5] w fun e w'=>e= .returned (.bool v)∧Below w.heap.size w w':=by
 obtain ⟨W0,hW,st⟩:=St.start_any hR 29
 have HW:=Lib.hid hW
 have ST0:=Lib.hid st
 obtain ⟨x0,x1,x2,x3,x4,x5,hz⟩:=st.cells
 have HOK:=Lib.hid hok
 have hvo:=hv.out
 clear hR hW st hok hv
 rcases bool_cases (few c) with h1 |h1
 ·rcases bool_cases (rightM c) with h2 |h2
  all_goals
   have H1:=Lib.hid h1
   have H2:=Lib.hid h2
   have HV:=Lib.hid (show v=(few c&&rightM c) from hvo.symm)
   clear h1 h2 hvo
   go_enter Tryz.func5,Tryz.ntmps5
   go_upto_region 1 with (fail)
   rw [HW.out]
   go_wp2_with fail
   refine (few_valO c _ _ _ _ _ _ _ _ _ _ _ ST0.out.R hs true H1).mono ?_
   rintro e w1 ⟨rfl,hb1⟩
   have ST1:=Lib.hid (ST0.out.up hb1)
   clear hb1 x0 x1 x2 x3 x4 x5 hz
   obtain ⟨x0,x1,x2,x3,x4,x5,hz⟩:=ST1.out.cells
   go_wp2_with fail
   refine (rMemRight_ok c _ _ _ _ _ _ _ _ _ _ _ ST1.out.R hs HOK.out _ H2).mono ?_
   rintro e w2 ⟨rfl,hb2⟩
   have HZ:=Lib.hid (ST1.out.up hb2).bel
   clear hb2 x0 x1 x2 x3 x4 x5 hz
   go_wp2
   go_ret
   exact ⟨ret_bool (by simp only [HV.out,H1.out,H2.out,Bool.true_and]),HZ.out⟩
 ·have H1:=Lib.hid h1
  have HV:=Lib.hid (show v=false from by rw [←hvo];unfold goodO;rw [h1,Bool.false_and])
  clear h1 hvo
  go_enter Tryz.func5,Tryz.ntmps5
  go_upto_region 1 with (fail)
  rw [HW.out]
  go_wp2_with fail
  refine (few_valO c _ _ _ _ _ _ _ _ _ _ _ ST0.out.R hs false H1).mono ?_
  rintro e w1 ⟨rfl,hb1⟩
  have HZ:=Lib.hid (ST0.out.up hb1).bel
  clear hb1 x0 x1 x2 x3 x4 x5 hz
  go_wp2
  go_ret
  exact ⟨ret_bool HV.out.symm,HZ.out⟩
theorem Rd.blockO {w:World} {g sz n:Nat} {t:TypeId} {cs:Array Value} (h:w.heap[g]? =some (.cells cs t (0,0))) (hn:cs.size=n*sz):Rd w w.heap.size sz (some ⟨g,0,none⟩) n cs.toList:=
 ⟨by simpa using hn,fun _=>⟨g,0,rfl,(Array.getElem?_eq_some_iff.1 h).1,fun j u hu=>by
  have:=World.news_of_block h j u hu
  rwa [addr_add] at this⟩⟩
def aC:Cfg:=⟨0,[⟨1,⟨#[97]⟩,0,0⟩,⟨2,⟨#[98]⟩,0,0⟩],[],[⟨16,8,2,0,false⟩,⟨0,8,1,0,false⟩],[],[]⟩
theorem aC_ok:aC.ok:=by
 refine ⟨by unfold wU64;decide, ?_,by simp [aC], ?_,by simp [aC],by simp [aC]⟩
 ·intro p hp
  simp [aC] at hp
  rcases hp with rfl |rfl<;>exact ⟨by unfold wU16;decide,by show 1≤_;unfold maxLen;omega,by unfold wU64;decide,by unfold wU64;decide⟩
 ·intro p hp
  simp [aC] at hp
  rcases hp with rfl |rfl<;>exact ⟨by unfold wU64;decide,by unfold wU64;decide,by unfold wU16;decide,by unfold wU8;decide⟩
theorem aC_small:aC.small:=by
 refine ⟨by show 4≤BIG;unfold BIG;omega, ?_, ?_⟩
 ·intro p hp
  simp [aC] at hp
  rcases hp with rfl |rfl<;>(show 1≤BIG;unfold BIG;omega)
 ·intro p hp
  simp [aC] at hp
def aP:Obj:= .cells #[.int .u16 1, .string ⟨#[97]⟩, .int .u64 0, .int .u64 0, .int .u16 2, .string ⟨#[98]⟩, .int .u64 0, .int .u64 0] 39
def aG:Obj:= .cells #[.int .u64 16, .int .u64 8, .int .u16 2, .int .u8 0, .bool false, .int .u64 0, .int .u64 8, .int .u16 1, .int .u8 0, .bool false] 41
def aW (w:World):World:=(w.alloc aP).alloc aG
theorem aW_size (w:World):(aW w).heap.size=w.heap.size+1+1:=by simp [aW]
theorem block_atO {w:World} {cs:Array Value} {t:TypeId} {sz n g:Nat} (hg:w.heap.size=g) (hn:cs.size=n*sz):Rd (w.alloc (.cells cs t)) (w.alloc (.cells cs t)).heap.size sz (some ⟨g,0,none⟩) n cs.toList:=by
 subst hg;exact Rd.blockO (heap_alloc_new w _) hn
theorem aR (w:World):CfgR (aW w) (aW w).heap.size aC (some ⟨w.heap.size,0,none⟩) none (some ⟨w.heap.size+1,0,none⟩) none none 2 0 2 0 0:=by
 have h1:=(block_atO (w:=w) (cs:= #[.int .u16 1, .string ⟨#[97]⟩, .int .u64 0, .int .u64 0, .int .u16 2, .string ⟨#[98]⟩, .int .u64 0, .int .u64 0]) (t:=39) (sz:=4) (n:=2) rfl rfl).up (below_one _ aG)
 have h2:=block_atO (w:=w.alloc aP) (g:=w.heap.size+1) (cs:= #[.int .u64 16, .int .u64 8, .int .u16 2, .int .u8 0, .bool false, .int .u64 0, .int .u64 8, .int .u16 1, .int .u8 0, .bool false]) (t:=41) (sz:=5) (n:=2) (by simp) rfl
 exact ⟨h1,Rd.nil,h2,Rd.nil,⟨_,rfl,Rd.nil⟩,⟨Nat.le_refl _,by unfold maxLen;omega⟩,⟨Nat.le_refl _,by unfold maxLen;omega⟩,⟨Nat.le_refl _,by unfold maxLen;omega⟩,⟨Nat.le_refl _,by unfold maxLen;omega⟩,⟨Nat.le_refl _,by unfold maxLen;omega⟩⟩
theorem aB (w:World):Below w.heap.size w (aW w):=Below.then_ (below_one w aP) (below_one _ aG)
theorem aStart (w:World): ∃W4 W0:World,W4.heap.size=w.heap.size+1+1∧
  (aW w).alloc (.cells #[.int .u64 0, .slice (some ⟨w.heap.size,0,none⟩) 2 2, .slice none 0 0, .slice (some ⟨w.heap.size+1,0,none⟩) 2 2, .slice none 0 0, .slice none 0 0] 29)=W0∧
  St W4 W0 aC (some ⟨w.heap.size,0,none⟩) none (some ⟨w.heap.size+1,0,none⟩) none none 2 0 2 0 0∧Below w.heap.size w W4:=
 ⟨aW w,_,aW_size w,rfl,St.start (aR w) _,aB w⟩
def aL:List Reg:= [⟨0,8,1,0,false⟩,⟨16,8,2,0,false⟩]
theorem a_norm:normK keyReg aC.regs=aL:=by
 refine (normK_unique keyReg (fun _ _=>keyReg_inj) (List.Perm.swap _ _ []) ?_).symm
 unfold Asc
 refine List.pairwise_cons.2 ⟨fun y hy=> ?_,by simp⟩
 rw [List.mem_singleton] at hy
 subst hy
 decide
theorem a_right:rightM aC=true:=by kernel_rfl
theorem a_segs:(segsL aL).length=4:=by kernel_rfl
theorem a_seg9:refSeg (segsL aL) 9=(8,15):=by kernel_rfl
theorem a_at17:onlyR (aL.filter fun r=>covR r 17)=(⟨16,8,2,0,false⟩,true):=by kernel_rfl
theorem a_free:freeV (mapL aL) 8 16=(32,true):=by kernel_rfl
set_option maxRecDepth 100000 in
set_option maxHeartbeats 4000000 in
theorem alive_ok (w:World):Calls Tryz.prog 6 #[] w fun e w'=>e= .returned (.bool true)∧Below w.heap.size w w':=by
 obtain ⟨W4,W0,h4,hW,st,hb4⟩:=aStart w
 unfold aW aP aG at hW
 have ST0:=Lib.hid st
 have HW:=Lib.hid hW
 have H4:=Lib.hid h4
 have HB4:=Lib.hid hb4
 clear hW st h4 hb4
 go_enter Tryz.func6,Tryz.ntmps6
 go_upto_region 2 with (fail)
 rw [HW.out, ←H4.out]
 obtain ⟨x0,x1,x2,x3,x4,x5,hz⟩:=ST0.out.cells
 go_wp2_with fail
 refine (cNew_ok aC _ _ _ _ _ _ _ _ _ _ _ ST0.out.R aC_small aC_ok true (Lib.hid a_right)).mono ?_
 rintro e w1 ⟨hb1,⟨h,_⟩ |⟨_,mb,rfl,hm⟩⟩
 ·cases h
 rw [a_norm] at hm
 have HM1:=Lib.hid hm
 have HB1:=Lib.hid (Below.then_ (Below.then_ HB4.out (ST0.out.bel)) hb1)
 clear hb1 hm x0 x1 x2 x3 x4 x5 hz
 go_wp2_with fail
 refine (cOwner_ok HM1.out 17 (by omega) (by omega) _ _ (Lib.hid a_at17)).mono ?_
 rintro e w2 ⟨rfl,hb2⟩
 have hal:=below_one w2 (.cells #[.int .u64 16, .int .u64 8, .int .u16 2, .int .u8 0, .bool false] 41)
 have bk:=Blk.new w2 41 #[.int .u64 16, .int .u64 8, .int .u16 2, .int .u8 0, .bool false]
 have HM2:=Lib.hid ((HM1.out.up hb2).up hal)
 have HB2:=Lib.hid (Below.then_ (Below.then_ HB1.out hb2) hal)
 clear hb2 hal
 go_upto_region 4 with (fail)
 generalize World.alloc w2 _=W3 at bk HM2 HB2 ⊢
 generalize hgx:w2.heap.size=gx at*
 have HBK:=Lib.hid bk
 clear bk
 go_wp2_with fail
 refine (cSegment_ok HM2.out 9 (by omega) (by omega) _ _ (Lib.hid a_seg9)).mono ?_
 rintro e w5 ⟨rfl,hb5⟩
 have HM5:=Lib.hid (HM2.out.up hb5)
 have HB5:=Lib.hid (Below.then_ HB2.out hb5)
 have HK5:=Lib.hid (HBK.out.below hb5 HBK.out.lt)
 clear hb5
 go_wp2_with fail
 refine (cFree_ok HM5.out 8 16 (by omega) (by omega) (by omega) (by omega) _ _ (Lib.hid a_free)).mono ?_
 rintro e w6 ⟨rfl,hb6⟩
 have HM6:=Lib.hid (HM5.out.up hb6)
 have HB6:=Lib.hid (Below.then_ HB5.out hb6)
 have HK6:=Lib.hid (HK5.out.below hb6 HK5.out.lt)
 clear hb6
 go_wp2_with fail
 refine (cLen_ok HM6.out 4 (Lib.hid a_segs)).mono ?_
 rintro e w7 ⟨rfl,hb7⟩
 have HB7:=Lib.hid (Below.then_ HB6.out hb7)
 have HK7:=HK6.out.below hb7 HK6.out.lt
 have q2:=HK7.cell 2
 have qz:=HK7.lt
 simp at q2
 clear hb7 HK7
 go_wp2
 go_ret
 exact ⟨rfl,HB7.out⟩
end Go.Proofs.YtdmgpdanlfmadaaGreat
