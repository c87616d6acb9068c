/-
  The law PackImages, walked.
-/
import Derived.BigQuiet
import Derived.Test.YtcfoolooemhbeaaGreatRefJ
import Derived.Test.YtcfoolooemhbeaaGreatRfTw
import Derived.Test.YtcfoolooemhbeaaGreatConA
import Derived.Test.YtcfoolooemhbeaaGreatAlive11
namespace Go.Proofs.YtcfoolooemhbeaaGreat
open Go.RowKit
theorem idxFrom_no {α:Type} (p:α→Bool): ∀(l:List α) (i:Nat), ¬(0:Int)≤idxFrom p i l→ ∀x ∈ l,p x=false
 | [],_,_,x,hx=>absurd hx (List.not_mem_nil)
 |y::r,i,h,x,hx=>by
  unfold idxFrom at h
  by_cases hy:p y=true
  ·rw [if_pos hy] at h;exact absurd (Int.natCast_nonneg i) h
  ·rw [if_neg hy] at h
   rcases List.mem_cons.1 hx with rfl |hx
   ·simpa using hy
   ·exact idxFrom_no p r (i+1) h x hx
theorem lim_names {c:Cfg} (h:(limF c).code=0):(∀p ∈ c.parts,nameOk p.name=true)∧(∀p ∈ c.ports,nameOk p.name=true):=by
 have h2:(chkBad c).1=0:=h
 have hn:limBad c=none:=by
  rcases hb:limBad c with _ |k
  ·rfl
  ·exfalso
   unfold chkBad at h2
   rw [hb] at h2
   exact absurd h2 (show ¬(7:Int)=0 by decide)
 have h3:(nameBads c).1=0:=by
  have:chkBad c=nameBads c:=by unfold chkBad;rw [hn]
  rw [←this];exact h2
 unfold nameBads at h3
 by_cases h4:0≤idx badPar c.parts
 ·rw [if_pos h4] at h3;exact absurd h3 (show ¬(6:Int)=0 by decide)
 rw [if_neg h4] at h3
 by_cases h5:0≤idx badPrt c.ports
 ·rw [if_pos h5] at h3;exact absurd h3 (show ¬(6:Int)=0 by decide)
 refine ⟨fun p hp=> ?_,fun p hp=> ?_⟩
 ·have:=idxFrom_no badPar c.parts 0 h4 p hp
  unfold badPar at this
  simpa using this
 ·have:=idxFrom_no badPrt c.ports 0 h5 p hp
  unfold badPrt at this
  simpa using this
theorem norm_names {c:Cfg} (h:(∀p ∈ c.parts,nameOk p.name=true)∧(∀p ∈ c.ports,nameOk p.name=true)):(∀p ∈ c.norm.parts,nameOk p.name=true)∧(∀p ∈ c.norm.ports,nameOk p.name=true):=
 ⟨fun p hp=>h.1 p ((normK_perm keyPar c.parts).mem_iff.1 hp),fun p hp=>h.2 p ((normK_perm keyPrt c.ports).mem_iff.1 hp)⟩
set_option maxRecDepth 100000 in
set_option maxHeartbeats 4000000 in
theorem rPack11_ok (c:Cfg) (A1 A2 A3 A4 A5:Option Addr) (c1 c2 c3 c4 c5:Nat) (w:World) (hR:CfgR w w.heap.size c A1 A2 A3 A4 A5 c1 c2 c3 c4 c5) (hok:c.ok) (hs:c.small) (F:Flt) (hF:Hid (packF c=F)):
  Calls Tryz.prog 12 #[cfgV c.frame A1 A2 A3 A4 A5 c.parts.length c.wins.length c.regs.length c.ports.length c.chans.length c1 c2 c3 c4 c5] w fun e w'=> ∃v,e= .returned (.tuple #[v, .int .i64 F.code, .int .i64 F.part, .int .i64 F.at_])∧w'.ownsRow w.heap.size 5 1 v (packB c).length (bytV (packB c))∧Below w.heap.size w w':=by
 obtain ⟨W0,hW,st⟩:=St.start_any hR 29
 have HW:=Lib.hid hW
 have ST0:=Lib.hid st
 have HOK:=Lib.hid hok
 have HSM:=Lib.hid hs
 obtain ⟨x0,x1,x2,x3,x4,x5,hz⟩:=st.cells
 obtain ⟨ec,sc,ic,hch⟩: ∃ec sc ic,chkBad c=(ec,sc,ic):=⟨_,_,_,rfl⟩
 have HCH:=Lib.hid hch
 have hlf:limF c=⟨ec,sc,ic⟩:=by unfold limF;rw [hch]
 have HLF:=Lib.hid hlf
 clear hR hW st hok hs hch hlf
 by_cases h0:ec=0
 rotate_left
 ·have hlc: ¬(limF c).code=0:=by rw [HLF.out];exact h0
  have hpf:packF c=⟨ec,sc,ic⟩:=by unfold packF;rw [if_neg hlc,HLF.out]
  have HPB:=Lib.hid (show packB c= [] by unfold packB;rw [if_neg (by rw [hpf];exact h0)])
  have hFe:F=⟨ec,sc,ic⟩:=by rw [←hF.out];exact hpf
  subst hFe
  have hbe:(ec==0)=false:=beq_eq_false_iff_ne.2 h0
  clear hlc hpf
  go_enter Tryz.func12,Tryz.ntmps12
  go_upto_region 1 with (fail)
  rw [HW.out]
  go_wp2_with fail
  refine (rConfCheck_ok c _ _ _ _ _ _ _ _ _ _ _ ST0.out.R HSM.out ec sc ic HCH).mono ?_
  rintro e w1 ⟨rfl,hb1⟩
  have HB1:=Lib.hid (ST0.out.up hb1).bel
  clear hb1 x0 x1 x2 x3 x4 x5 hz
  go_wp2
  refine bodyPost_ret (v:= .tuple #[.slice none 0 0, .int .i64 ec, .int .i64 sc, .int .i64 ic]) (by simp [results,Tryz.results12]) rfl ⟨_,rfl, ?_,HB1.out⟩
  rw [HPB.out]
  exact World.ownsRow_nil _ _ _ _
 ·subst h0
  obtain ⟨tc,ts,ti,htw⟩: ∃tc ts ti,twcF c=⟨tc,ts,ti⟩:=⟨_,_,_,rfl⟩
  have HTW:=Lib.hid htw
  have hpf:packF c=⟨tc,ts,ti⟩:=by unfold packF;rw [if_pos (by rw [HLF.out]),htw]
  have hFe:F=⟨tc,ts,ti⟩:=by rw [←hF.out];exact hpf
  subst hFe
  have HPF:=Lib.hid hpf
  clear htw hpf
  by_cases h1:tc=0
  rotate_left
  ·have HPB:=Lib.hid (show packB c= [] by unfold packB;rw [if_neg (by rw [HPF.out];exact h1)])
   have hbe:(tc==0)=false:=beq_eq_false_iff_ne.2 h1
   go_enter Tryz.func12,Tryz.ntmps12
   go_upto_region 1 with (fail)
   rw [HW.out]
   go_wp2_with fail
   refine (rConfCheck_ok c _ _ _ _ _ _ _ _ _ _ _ ST0.out.R HSM.out 0 sc ic HCH).mono ?_
   rintro e w1 ⟨rfl,hb1⟩
   have ST1:=Lib.hid (ST0.out.up hb1)
   clear hb1 x0 x1 x2 x3 x4 x5 hz
   obtain ⟨x0,x1,x2,x3,x4,x5,hz⟩:=ST1.out.cells
   go_wp2_with fail
   refine (rTwice11_ok c _ _ _ _ _ _ _ _ _ _ _ ST1.out.R HOK.out HSM.out tc ts ti HTW).mono ?_
   rintro e w2 ⟨rfl,hb2⟩
   have HB2:=Lib.hid (ST1.out.up hb2).bel
   clear hb2 x0 x1 x2 x3 x4 x5 hz
   go_wp2
   refine bodyPost_ret (v:= .tuple #[.slice none 0 0, .int .i64 tc, .int .i64 ts, .int .i64 ti]) (by simp [results,Tryz.results12]) rfl ⟨_,rfl, ?_,HB2.out⟩
   rw [HPB.out]
   exact World.ownsRow_nil _ _ _ _
  ·subst h1
   have hz0:=packF_zero c (by rw [HPF.out])
   have hts:(⟨0,ts,ti⟩:Flt)=noFlt:=by rw [←HPF.out];exact hz0.1
   have HTS:=Lib.hid hts
   have hlim:(limF c).code=0:=by rw [HLF.out]
   have HPB:=Lib.hid (show packB c=imgB c.norm by unfold packB;rw [if_pos (by rw [HPF.out])])
   obtain ⟨d,hd⟩: ∃d,c.norm=d:=⟨_,rfl⟩
   have HD:=Lib.hid hd
   have HDO:=Lib.hid (show d.ok by rw [←hd];exact norm_okP HOK.out)
   have HDS:=Lib.hid (show d.small by rw [←hd];exact Cfg.norm_small HSM.out)
   have HDL:=Lib.hid (show ∀s,1≤s→s≤6→cntOf d s≤limN s from fun s a b=>by rw [←hd,norm_cnt];exact lim_cnt hlim s a b)
   have HDN:=Lib.hid (show (∀p ∈ d.parts,nameOk p.name=true)∧(∀p ∈ d.ports,nameOk p.name=true) by rw [←hd];exact norm_names (lim_names hlim))
   rw [hd] at HPB
   clear hz0 hts hlim hd
   go_enter Tryz.func12,Tryz.ntmps12
   go_upto_region 1 with (fail)
   rw [HW.out]
   go_wp2_with fail
   refine (rConfCheck_ok c _ _ _ _ _ _ _ _ _ _ _ ST0.out.R HSM.out 0 sc ic HCH).mono ?_
   rintro e w1 ⟨rfl,hb1⟩
   have ST1:=Lib.hid (ST0.out.up hb1)
   clear hb1 x0 x1 x2 x3 x4 x5 hz
   obtain ⟨x0,x1,x2,x3,x4,x5,hz⟩:=ST1.out.cells
   go_wp2_with fail
   refine (rTwice11_ok c _ _ _ _ _ _ _ _ _ _ _ ST1.out.R HOK.out HSM.out 0 ts ti HTW).mono ?_
   rintro e w2 ⟨rfl,hb2⟩
   have ST2:=Lib.hid (ST1.out.up hb2)
   clear hb2 x0 x1 x2 x3 x4 x5 hz
   obtain ⟨x0,x1,x2,x3,x4,x5,hz⟩:=ST2.out.cells
   go_wp2_with fail
   refine (rNormalD_ok c d HD _ _ _ _ _ _ _ _ _ _ _ ST2.out.R HOK.out HSM.out).mono ?_
   rintro e w3 ⟨B1,B2,B3,B4,B5,b1,b2,b3,b4,b5,rfl,hR3,hb3⟩
   have HB3:=Lib.hid (ST2.out.up hb3).bel
   have HR3:=Lib.hid hR3
   clear hb3 hR3 x0 x1 x2 x3 x4 x5 hz
   go_wp2_with fail
   refine (rImage_ok d B1 B2 B3 B4 B5 b1 b2 b3 b4 b5 w3 HR3.out HDO.out HDS.out HDL.out HDN.out).mono ?_
   rintro e w4 ⟨v,rfl,ho,hb4⟩
   have HB4:=Lib.hid (Below.then_ HB3.out hb4)
   have HO4:=Lib.hid (own_lessB ho HB3.out.size)
   clear ho hb4
   go_wp2
   refine bodyPost_ret (v:= .tuple #[v, .int .i64 0, .int .i64 0, .int .i64 0]) (by simp [results,Tryz.results12]) rfl ⟨v, ?_,by rw [HPB.out];exact HO4.out,HB4.out⟩
   have h:(⟨0,ts,ti⟩:Flt)=⟨0,0,0⟩:=HTS.out
   injection h with _ h1 h2
   rw [h1,h2]
end Go.Proofs.YtcfoolooemhbeaaGreat
namespace Go.Proofs.YtcfoolooemhbeaaGreat
open Go.RowKit Go.Lib
set_option maxRecDepth 100000 in
set_option maxHeartbeats 16000000 in
theorem packImages_ok (c:Cfg) (A1 A2 A3 A4 A5:Option Addr) (c1 c2 c3 c4 c5:Nat) (w:World) (hR:CfgR w w.heap.size c A1 A2 A3 A4 A5 c1 c2 c3 c4 c5) (hs:c.small) (hok:c.ok):Calls Tryz.prog 3 #[cfgV c.frame A1 A2 A3 A4 A5 c.parts.length c.wins.length c.regs.length c.ports.length c.chans.length c1 c2 c3 c4 c5] w fun e w'=>e= .returned (.bool true)∧Below w.heap.size w w':=by
 obtain ⟨W0,hW,st⟩:=St.start_any hR 29
 have HW:=Lib.hid hW
 have ST0:=Lib.hid st
 have HOK:=Lib.hid hok
 have HSM:=Lib.hid hs
 have HTT:=Lib.hid hs.tot
 obtain ⟨x0,x1,x2,x3,x4,x5,hz⟩:=st.cells
 clear hR hW st hok
 rcases bool_cases (few c) with h1 |h1
 rotate_left
 ·have H1:=Lib.hid h1
  clear h1
  go_enter Tryz.func3,Tryz.ntmps3
  go_upto_region 1 with (fail)
  rw [HW.out]
  go_wp2_with fail
  refine (few_valB c _ _ _ _ _ _ _ _ _ _ _ ST0.out.R hs false H1).mono ?_
  rintro e w1 ⟨rfl,hb1⟩
  have HB1:=Lib.hid (ST0.out.up hb1).bel
  clear hb1 x0 x1 x2 x3 x4 x5 hz
  go_wp2_with fail
  refine (alive11_ok _).mono ?_
  rintro e w2 ⟨rfl,hb2⟩
  have HZ:=Lib.hid (Below.then_ HB1.out hb2)
  clear hb2
  go_wp2
  go_ret
  exact ⟨rfl,HZ.out⟩
 ·have H1:=Lib.hid h1
  clear h1
  obtain ⟨F,hF⟩: ∃F,packF c=F:=⟨_,rfl⟩
  have HF:=Lib.hid hF
  have hlen:(packB c).length≤400100:=by
   by_cases hc:(packF c).code=0
   ·rw [show packB c=imgB c.norm from if_pos hc,imgB_len]
    have h1:=offT_lim (n:=cntOf c.norm) (fun s a b=>by rw [norm_cnt];exact lim_cnt (by rw [(packF_zero c hc).2.1];rfl) s a b) 6 (Nat.le_refl _)
    omega
   ·rw [show packB c= [] from if_neg hc];exact Nat.zero_le _
  have HLN:=Lib.hid hlen
  clear hF hlen
  go_enter Tryz.func3,Tryz.ntmps3
  go_upto_region 1 with (fail)
  rw [HW.out]
  go_wp2_with fail
  refine (few_valB c _ _ _ _ _ _ _ _ _ _ _ ST0.out.R hs true H1).mono ?_
  rintro e w1 ⟨rfl,hb1⟩
  have ST1:=Lib.hid (ST0.out.up hb1)
  clear hb1 x0 x1 x2 x3 x4 x5 hz
  obtain ⟨x0,x1,x2,x3,x4,x5,hz⟩:=ST1.out.cells
  go_wp2_with fail
  refine (pckPack_ok c _ _ _ _ _ _ _ _ _ _ _ ST1.out.R HOK.out HTT.out F HF).mono ?_
  rintro e w2 ⟨v,rfl,ho,hb2⟩
  have ST2:=Lib.hid (ST1.out.up hb2)
  obtain ⟨L,hL⟩: ∃L,packB c=L:=⟨_,rfl⟩
  rw [hL] at ho HLN
  have HLB:=Lib.hid hL
  clear hL
  obtain ⟨D,d,rfl,hc1,hc2,hrd⟩:=own_form ho
  obtain ⟨a,b,q⟩:=F
  obtain ⟨W3,hW3,hb3,hk⟩: ∃W,w2.alloc (.cells #[.int .i64 a, .int .i64 b, .int .i64 q] 35)=W∧Below w2.heap.size w2 W∧Blk W w2.heap.size 35 #[.int .i64 a, .int .i64 b, .int .i64 q]:=⟨_,rfl,below_one _ _,Blk.new _ _ _⟩
  have ST3:=Lib.hid (ST2.out.up hb3)
  have HRD:=Lib.hid (hrd.up hb3)
  have HW3:=Lib.hid hW3
  have HK:=Lib.hid hk
  clear hW3 hb3 hk ho hb2 hrd x0 x1 x2 x3 x4 x5 hz
  go_upto_region 4 with (fail)
  rw [HW3.out]
  clear HW3
  generalize w2.heap.size=g at*
  obtain ⟨x0,x1,x2,x3,x4,x5,hz⟩:=ST3.out.cells
  go_wp2_with fail
  refine (rPack11_ok c _ _ _ _ _ _ _ _ _ _ _ ST3.out.R HOK.out HSM.out ⟨a,b,q⟩ HF).mono ?_
  rintro e w4 ⟨v4,rfl,ho4,hb4⟩
  rw [HLB.out] at ho4
  obtain ⟨D4,d4,rfl,_,_,hr4⟩:=own_form ho4
  have HR4:=Lib.hid hr4
  have HRD4:=Lib.hid (HRD.out.up hb4)
  have HK4:=Lib.hid (HK.out.below hb4 HK.out.lt)
  have ST4:=Lib.hid (ST3.out.up hb4)
  clear ho4 hr4 hb4 x0 x1 x2 x3 x4 x5 hz
  have hln:=HLN.out
  obtain ⟨n,hn⟩: ∃n,L.length=n:=⟨_,rfl⟩
  have HN:=Lib.hid hn
  rw [hn] at hc1 HR4 HRD4 hln ⊢
  clear hn
  go_wp2_with fail
  refine (alive11_ok _).mono ?_
  rintro e w5 ⟨rfl,hb5⟩
  have HR5:=Lib.hid (HR4.out.up hb5)
  have HRD5:=Lib.hid (HRD4.out.up hb5)
  have HK5:=Lib.hid (HK4.out.below hb5 HK4.out.lt)
  have HB5:=Lib.hid (ST4.out.up hb5).bel
  clear hb5
  go_wp2_with fail
  refine (eqByt_ok L L n n HN.out.symm HN.out.symm D D4 d d4 w5 true (Lib.hid (decide_eq_true rfl)) (by omega) HRD5.out HR5.out).mono ?_
  rintro e w6 ⟨rfl,hb6⟩
  have HK6:=Lib.hid (HK5.out.below hb6 HK5.out.lt)
  have HZ:=Lib.hid (HB5.out.trans (hb6.mono HB5.out.size))
  clear hb6
  have q0:=HK6.out.cell 0
  have q1:=HK6.out.cell 1
  have q2:=HK6.out.cell 2
  have qz:=HK6.out.lt
  simp at q0 q1 q2
  go_wp2
  go_ret
  exact ⟨rfl,HZ.out⟩
end Go.Proofs.YtcfoolooemhbeaaGreat
