/-
  slices.Equal at numbers of sixteen bits, walked: whether two rows hold the same numbers.
-/
import Derived.BigQuiet
import Derived.Test.YteelncofiodflaaGreatEqZ
namespace Go.Proofs.YteelncofiodflaaGreat
open Go.RowKit
set_option maxRecDepth 100000 in
set_option maxHeartbeats 4000000 in
theorem eqN_ok (l m:List Int) (A B:Option Addr) (a b:Nat) (w:World) (hl:l.length≤4194304) (hA:Rd w w.heap.size 1 A l.length (l.map (Value.int .u16))) (hB:Rd w w.heap.size 1 B m.length (m.map (Value.int .u16))):
  Calls Tryz.prog 48 #[.slice A l.length a, .slice B m.length b] w fun e w'=>e= .returned (.bool (eqC l m))∧Below w.heap.size w w':=by
 have HA:=Lib.hid hA
 by_cases hlen:l.length=m.length
 ·rw [←hlen] at hB ⊢
  have HB:=Lib.hid hB
  have HLEN:=Lib.hid hlen
  clear hA hB hlen
  go_enter Tryz.func48,Tryz.ntmps48
  go_wp2
  go_loopw [13] (fun i wr=> ∃k:Nat,k≤l.length∧i= .int .i64 k∧Hid (l.take k=m.take k)∧Hid (Below w.heap.size w wr)) (fun i _=>l.length -(intOf i).toNat)
  case atStart=>exact ⟨0,Nat.zero_le _,rfl,Lib.hid rfl,Lib.hid (Below.refl _ _)⟩
  case round=>
   obtain ⟨k,hk,rfl,HT,HW⟩:=hrel
   by_cases hlt:k <l.length
   ·obtain ⟨x,hx⟩:=get_lt hlt
    obtain ⟨y,hy⟩:=get_lt (l:=m) (k:=k) (by have:=HLEN.out;omega)
    obtain ⟨b1,o1,rfl,h1,g0⟩:=int_at (HA.out.below HW.out) hx
    obtain ⟨b2,o2,rfl,h2,k0⟩:=int_at (by have:=HB.out.below HW.out;rw [HLEN.out] at this;exact this) hy
    have k0':(0:Int)≤(k:Int):=by omega
    have k1':(k:Int) <(l.length:Int):=by omega
    have HX:=Lib.hid hx
    have HY:=Lib.hid hy
    clear hx hy
    rcases Decidable.em (x=y) with q0 |q0
    rotate_left
    ·have HV:=Lib.hid (show eqC l m=false from eqC_no (at_ne HX.out HY.out q0))
     have qb:(x==y)=false:=beq_eq_false_iff_ne.2 q0
     go_wp2
     go_quiet (fail)
     go_wp2
     go_ret
     exact ⟨by rw [HV.out];rfl,below_drewN HW.out _⟩
    have HE:=Lib.hid q0
    rw [←q0] at k0
    clear q0
    go_wp2
    go_quiet (fail)
    go_wp2
    go_roundw
    case rel=>exact ⟨k+1,by omega,by go_num,Lib.hid (by rw [take_next HX.out,take_next HY.out,HT.out,HE.out]),Lib.hid (below_drewN HW.out _)⟩
    case measure=>simp [intOf];omega
   ·obtain rfl:k=l.length:=by omega
    have HV:=Lib.hid (show eqC l m=true from eqC_yes (by have:=HT.out;rw [List.take_length,HLEN.out,List.take_length] at this;exact this))
    go_wp2
    go_ret
    exact ⟨by rw [HV.out];rfl,HW.out⟩
 ·have HV:=Lib.hid (show eqC l m=false from eqC_no fun e=>hlen (by rw [e]))
  have hne:((l.length:Int)==(m.length:Int))=false:=by rw [beq_eq_false_iff_ne];omega
  have hne2: ¬(l.length:Int)=(m.length:Int):=by omega
  clear hA hB hlen
  go_enter Tryz.func48,Tryz.ntmps48
  go_wp2
  go_ret
  exact ⟨by rw [HV.out];rfl,Below.refl _ _⟩
end Go.Proofs.YteelncofiodflaaGreat
