/-
  Right of the reference of layer 17, walked. No condition but on sizes.
-/
import Derived.Test.YtdmgpdanlfmadaaGreatMemA
import Derived.Test.YtdmgpdanlfmadaaGreatMemQ
namespace Go.Proofs.YtdmgpdanlfmadaaGreat
open Go.RowKit
theorem rMemCheck_val (c:Cfg) (A1 A2 A3 A4 A5:Option Addr) (c1 c2 c3 c4 c5:Nat) (w:World) (hR:CfgR w w.heap.size c A1 A2 A3 A4 A5 c1 c2 c3 c4 c5) (hs:c.small) (hok:c.ok) (ec i:Int) (h:Hid (memBad c=(ec,i))):Calls Tryz.prog 46 #[cfgV c.frame A1 A2 A3 A4 A5 c.parts.length c.wins.length c.regs.length c.ports.length c.chans.length c1 c2 c3 c4 c5] w fun e w'=>e= .returned (.tuple #[.int .i64 ec, .int .i64 i])∧Below w.heap.size w w':=by
 have:=rMemCheck_ok c A1 A2 A3 A4 A5 c1 c2 c3 c4 c5 w hR hs hok
 rwa [h.out] at this
set_option maxRecDepth 100000 in
set_option maxHeartbeats 2000000 in
theorem rMemRight_ok (c:Cfg) (A1 A2 A3 A4 A5:Option Addr) (c1 c2 c3 c4 c5:Nat) (w:World) (hR:CfgR w w.heap.size c A1 A2 A3 A4 A5 c1 c2 c3 c4 c5) (hs:c.small) (hok:c.ok) (v:Bool) (hv:Hid (rightM c=v)):Calls Tryz.prog 19 #[cfgV c.frame A1 A2 A3 A4 A5 c.parts.length c.wins.length c.regs.length c.ports.length c.chans.length c1 c2 c3 c4 c5] w fun e w'=>e= .returned (.bool v)∧Below w.heap.size w w':=by
 obtain ⟨W0,hW,st⟩:=St.start_any hR 29
 have HW:=Lib.hid hW
 have ST0:=Lib.hid st
 obtain ⟨x0,x1,x2,x3,x4,x5,hz⟩:=st.cells
 obtain ⟨e,i,hm⟩: ∃e i,memBad c=(e,i):=⟨_,_,rfl⟩
 have HM:=Lib.hid hm
 have hvv:v=decide (e=0):=by rw [←hv.out];unfold rightM;rw [hm]
 subst hvv
 clear hR hW st hm hv
 by_cases he:e=0
 ·subst he
  go_enter Tryz.func19,Tryz.ntmps19
  go_upto_region 1 with (fail)
  rw [HW.out]
  go_wp2_with fail
  refine (rMemCheck_val c _ _ _ _ _ _ _ _ _ _ _ ST0.out.R hs hok 0 i HM).mono ?_
  rintro e w1 ⟨rfl,hb1⟩
  have HZ:=Lib.hid (ST0.out.up hb1).bel
  clear hb1 x0 x1 x2 x3 x4 x5 hz
  go_wp2
  go_ret
  exact ⟨rfl,HZ.out⟩
 ·have hne2:(e==0)=false:=by rw [beq_eq_false_iff_ne];exact he
  go_enter Tryz.func19,Tryz.ntmps19
  go_upto_region 1 with (fail)
  rw [HW.out]
  go_wp2_with fail
  refine (rMemCheck_val c _ _ _ _ _ _ _ _ _ _ _ ST0.out.R hs hok e i HM).mono ?_
  rintro e' w1 ⟨rfl,hb1⟩
  have HZ:=Lib.hid (ST0.out.up hb1).bel
  clear hb1 x0 x1 x2 x3 x4 x5 hz
  go_wp2
  go_ret
  exact ⟨by simp [he],HZ.out⟩
end Go.Proofs.YtdmgpdanlfmadaaGreat
