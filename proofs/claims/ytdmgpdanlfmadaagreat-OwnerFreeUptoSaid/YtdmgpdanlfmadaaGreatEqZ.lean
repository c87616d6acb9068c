/-
  slices.Equal at the records of a configuration, slices.EqualFunc at channels, walked: whether two rows hold the same records.
-/
import Derived.BigQuiet
import Derived.Test.YtdmgpdanlfmadaaGreatNrmP
import Derived.Test.YtdmgpdanlfmadaaGreatCore
namespace Go.Proofs.YtdmgpdanlfmadaaGreat
open Go.RowKit
noncomputable def eqC {α:Type} (a b:α):Bool:= @decide (a=b) (Classical.propDecidable _)
theorem eqC_yes {α:Type} {a b:α} (h:a=b):eqC a b=true:=by unfold eqC;exact @decide_eq_true _ (Classical.propDecidable _) h
theorem eqC_no {α:Type} {a b:α} (h: ¬a=b):eqC a b=false:=by unfold eqC;exact @decide_eq_false _ (Classical.propDecidable _) h
theorem eqC_iff {α:Type} {a b:α}:eqC a b=true↔a=b:=by
 constructor
 ·intro h
  rcases Classical.em (a=b) with h1 |h1
  ·exact h1
  ·rw [eqC_no h1] at h;cases h
 ·exact eqC_yes
theorem names_ne {a b:ByteArray} (h: ¬a=b): ¬a.toList=b.toList:=fun e=>h (beqb_true (by rw [beq_toListBytes,e];exact beq_self_eq_true _))
theorem at_ne {α:Type} {l m:List α} {k:Nat} {x y:α} (hx:l[k]? =some x) (hy:m[k]? =some y) (h: ¬x=y): ¬l=m:=fun e=>by
 rw [e,hy] at hx;injection hx with hx;exact h hx.symm
set_option maxRecDepth 100000 in
set_option maxHeartbeats 4000000 in
theorem eqReg_ok (l m:List Reg) (A B:Option Addr) (a b:Nat) (w:World) (hl:l.length≤4194304) (_hm:m.length≤4194304) (hA:Rd w w.heap.size 5 A l.length (l.flatMap Reg.cells)) (hB:Rd w w.heap.size 5 B m.length (m.flatMap Reg.cells)):
  Calls Tryz.prog 14 #[.slice A l.length a, .slice B m.length b] w fun e w'=>e= .returned (.bool (eqC l m))∧Below w.heap.size w w':=by
 have HA:=Lib.hid hA
 by_cases hlen:l.length=m.length
 ·rw [←hlen] at hB ⊢
  have HB:=Lib.hid hB
  have HLEN:=Lib.hid hlen
  clear hA hB hlen
  go_enter Tryz.func14,Tryz.ntmps14
  go_wp2
  go_loopw [13] (fun i wr=> ∃k:Nat,k≤l.length∧i= .int .i64 k∧Hid (l.take k=m.take k)∧Hid (Below w.heap.size w wr)) (fun i _=>l.length -(intOf i).toNat)
  case atStart=>exact ⟨0,Nat.zero_le _,rfl,Lib.hid rfl,Lib.hid (Below.refl _ _)⟩
  case round=>
   obtain ⟨k,hk,rfl,HT,HW⟩:=hrel
   by_cases hlt:k <l.length
   ·obtain ⟨x,hx⟩:=get_lt hlt
    obtain ⟨y,hy⟩:=get_lt (l:=m) (k:=k) (by have:=HLEN.out;omega)
    obtain ⟨b1,o1,rfl,h1,g0,g1,g2,g3,g4⟩:=reg_at (HA.out.below HW.out) hx
    obtain ⟨b2,o2,rfl,h2,k0,k1,k2,k3,k4⟩:=reg_at (by have:=HB.out.below HW.out;rw [HLEN.out] at this;exact this) hy
    have k0':(0:Int)≤(k:Int):=by omega
    have k1':(k:Int) <(l.length:Int):=by omega
    have HX:=Lib.hid hx
    have HY:=Lib.hid hy
    clear hx hy
    rcases Decidable.em (x.base=y.base) with q0 |q0
    rotate_left
    ·have HV:=Lib.hid (show eqC l m=false from eqC_no (at_ne HX.out HY.out (fun e=>q0 (by rw [e]))))
     skip
     go_wp2
     go_quiet (fail)
     go_wp2
     go_ret
     exact ⟨by rw [HV.out];rfl,below_drewN HW.out _⟩
    rw [←q0] at k0
    rcases Decidable.em (x.size=y.size) with q1 |q1
    rotate_left
    ·have HV:=Lib.hid (show eqC l m=false from eqC_no (at_ne HX.out HY.out (fun e=>q1 (by rw [e]))))
     skip
     go_wp2
     go_quiet (fail)
     go_wp2
     go_ret
     exact ⟨by rw [HV.out];rfl,below_drewN HW.out _⟩
    rw [←q1] at k1
    rcases Decidable.em (x.part=y.part) with q2 |q2
    rotate_left
    ·have HV:=Lib.hid (show eqC l m=false from eqC_no (at_ne HX.out HY.out (fun e=>q2 (by rw [e]))))
     skip
     go_wp2
     go_quiet (fail)
     go_wp2
     go_ret
     exact ⟨by rw [HV.out];rfl,below_drewN HW.out _⟩
    rw [←q2] at k2
    rcases Decidable.em (x.rights=y.rights) with q3 |q3
    rotate_left
    ·have HV:=Lib.hid (show eqC l m=false from eqC_no (at_ne HX.out HY.out (fun e=>q3 (by rw [e]))))
     skip
     go_wp2
     go_quiet (fail)
     go_wp2
     go_ret
     exact ⟨by rw [HV.out];rfl,below_drewN HW.out _⟩
    rw [←q3] at k3
    rcases Decidable.em (x.shared=y.shared) with q4 |q4
    rotate_left
    ·have HV:=Lib.hid (show eqC l m=false from eqC_no (at_ne HX.out HY.out (fun e=>q4 (by rw [e]))))
     skip
     go_wp2
     go_quiet (fail)
     go_wp2
     go_ret
     exact ⟨by rw [HV.out];rfl,below_drewN HW.out _⟩
    rw [←q4] at k4
    have HE:=Lib.hid (show x=y by cases x;cases y;simp_all)
    clear q0 q1 q2 q3 q4
    go_wp2
    go_quiet (fail)
    go_wp2
    go_roundw
    case rel=>exact ⟨k+1,by omega,by go_num,Lib.hid (by rw [take_next HX.out,take_next HY.out,HT.out,HE.out]),Lib.hid (below_drewN HW.out _)⟩
    case measure=>simp [intOf];omega
   ·obtain rfl:k=l.length:=by omega
    have HV:=Lib.hid (show eqC l m=true from eqC_yes (by have:=HT.out;rw [List.take_length,HLEN.out,List.take_length] at this;exact this))
    go_wp2
    go_ret
    exact ⟨by rw [HV.out];rfl,HW.out⟩
 ·have HV:=Lib.hid (show eqC l m=false from eqC_no fun e=>hlen (by rw [e]))
  have hne:((l.length:Int)==(m.length:Int))=false:=by rw [beq_eq_false_iff_ne];omega
  have hne2: ¬(l.length:Int)=(m.length:Int):=by omega
  clear hA hB hlen
  go_enter Tryz.func14,Tryz.ntmps14
  go_wp2
  go_ret
  exact ⟨by rw [HV.out];rfl,Below.refl _ _⟩
end Go.Proofs.YtdmgpdanlfmadaaGreat
namespace Go.Proofs.YtdmgpdanlfmadaaGreat
open Go.RowKit
theorem cfg_ne {a b:Cfg} {v:Bool} (hv:eqC a b=v) (h: ¬a=b):v=false:=by rw [←hv];exact eqC_no h
theorem eqReg_val (l m:List Reg) (A B:Option Addr) (a b:Nat) (w:World) (v:Bool) (hv:Hid (eqC l m=v)) (hl:l.length≤4194304) (hm:m.length≤4194304) (hA:Rd w w.heap.size 5 A l.length (l.flatMap Reg.cells)) (hB:Rd w w.heap.size 5 B m.length (m.flatMap Reg.cells)):
  Calls Tryz.prog 14 #[.slice A l.length a, .slice B m.length b] w fun e w'=>e= .returned (.bool v)∧Below w.heap.size w w':=by
 have:=eqReg_ok l m A B a b w hl hm hA hB
 rwa [hv.out] at this
theorem dests_le {c:Cfg} {N:Nat} (ht:c.total≤N): ∀x ∈ c.chans,x.dests.length≤N:=fun x hx=>by
 obtain ⟨k,hk⟩:=List.getElem?_of_mem hx
 have h2:=sumDests_next hk
 have h3:sumDests c.chans=sumDests (c.chans.take (k+1))+sumDests (c.chans.drop (k+1)):=by
  unfold sumDests
  rw [←List.sum_append, ←List.map_append,List.take_append_drop]
 unfold Cfg.total at ht
 omega
end Go.Proofs.YtdmgpdanlfmadaaGreat
