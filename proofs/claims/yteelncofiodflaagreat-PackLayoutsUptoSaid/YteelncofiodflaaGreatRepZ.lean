/-
  Functions same and repeated of package pack at the records of a configuration, walked.
-/
import Derived.BigQuiet
import Derived.Test.YteelncofiodflaaGreatPckP
import Derived.Test.YteelncofiodflaaGreatEqZ
import Derived.Test.YteelncofiodflaaGreatEqN
namespace Go.Proofs.YteelncofiodflaaGreat
open Go.RowKit
attribute [local go_sem] ext_cell
set_option maxRecDepth 100000 in
set_option maxHeartbeats 2000000 in
theorem samePar_ok (x y:Par) (w:World):Calls Tryz.prog 50 #[.agg #[.int .u16 x.id, .string x.name, .int .u64 x.period, .int .u64 x.duration], .agg #[.int .u16 y.id, .string y.name, .int .u64 y.period, .int .u64 y.duration]] w fun e w'=>e= .returned (.bool (eqC x y))∧Below w.heap.size w w':=by
 obtain ⟨w0,hw0⟩: ∃w0,w.alloc (.cells #[.int .u16 x.id, .string x.name, .int .u64 x.period, .int .u64 x.duration] 49)=w0:=⟨_,rfl⟩
 obtain ⟨w1,hw1⟩: ∃w1,w0.alloc (.cells #[.int .u16 y.id, .string y.name, .int .u64 y.period, .int .u64 y.duration] 49)=w1:=⟨_,rfl⟩
 have e0:w0.heap.size=w.heap.size+1:=by rw [←hw0];simp
 have b0:Blk w1 w.heap.size 49 #[.int .u16 x.id, .string x.name, .int .u64 x.period, .int .u64 x.duration]:=by rw [←hw1];refine Blk.alloc ?_ _;rw [←hw0];exact Blk.new w _ _
 have b1:Blk w1 (w.heap.size+1) 49 #[.int .u16 y.id, .string y.name, .int .u64 y.period, .int .u64 y.duration]:=by rw [←hw1, ←e0];exact Blk.new w0 _ _
 have HB:=Lib.hid (show Below w.heap.size w w1 by rw [←hw1];refine Below.alloc ?_ (by omega) _;rw [←hw0];exact (Below.refl _ w).alloc (Nat.le_refl _) _)
 have HW0:=Lib.hid hw0
 have HW1:=Lib.hid hw1
 clear hw0 hw1 e0
 go_enter Tryz.func50,Tryz.ntmps50
 go_upto_region 1 with (fail)
 rw [HW0.out,HW1.out]
 have c0:=b0.cell 0
 have d0:=b1.cell 0
 have c1:=b0.cell 1
 have d1:=b1.cell 1
 have c2:=b0.cell 2
 have d2:=b1.cell 2
 have c3:=b0.cell 3
 have d3:=b1.cell 3
 have z0:=b0.lt
 have z1:=b1.lt
 simp at c0 d0 c1 d1 c2 d2 c3 d3
 clear b0 b1
 rcases Decidable.em (x.id=y.id) with q0 |q0
 rotate_left
 ·have HV:=Lib.hid (show eqC x y=false from eqC_no (fun e=>q0 (by rw [e])))
  skip
  go_wp2
  go_ret
  exact ⟨by rw [HV.out];rfl,HB.out⟩
 rw [←q0] at d0
 rcases Decidable.em (x.name=y.name) with q1 |q1
 rotate_left
 ·have HV:=Lib.hid (show eqC x y=false from eqC_no (fun e=>q1 (by rw [e])))
  have qb: ¬x.name.toList=y.name.toList:=names_ne q1
  go_wp2
  go_ret
  exact ⟨by rw [HV.out];rfl,HB.out⟩
 rw [←q1] at d1
 rcases Decidable.em (x.period=y.period) with q2 |q2
 rotate_left
 ·have HV:=Lib.hid (show eqC x y=false from eqC_no (fun e=>q2 (by rw [e])))
  skip
  go_wp2
  go_ret
  exact ⟨by rw [HV.out];rfl,HB.out⟩
 rw [←q2] at d2
 rcases Decidable.em (x.duration=y.duration) with q3 |q3
 rotate_left
 ·have HV:=Lib.hid (show eqC x y=false from eqC_no (fun e=>q3 (by rw [e])))
  skip
  go_wp2
  go_ret
  exact ⟨by rw [HV.out];rfl,HB.out⟩
 rw [←q3] at d3
 have HE:=Lib.hid (show eqC x y=true from eqC_yes (by cases x;cases y;simp_all))
 clear q0 q1 q2 q3
 go_wp2
 go_ret
 exact ⟨by rw [HE.out];rfl,HB.out⟩
theorem hitCPar {l:List Par} {j:Nat} {x y:Par} (hx:l[j+1]? =some x) (hy:l[j]? =some y):hitB keyPar l (j+1)=eqC x y:=by
 rw [hit_at hx hy]
 by_cases h:x=y
 ·rw [eqC_yes h,h];simp
 ·rw [eqC_no h]
  exact decide_eq_false (fun e=>h (keyPar_inj e))
set_option maxRecDepth 100000 in
set_option maxHeartbeats 4000000 in
theorem repPar_ok (l:List Par) (A:Option Addr) (c:Nat) (w:World) (hl:l.length≤4194304) (hA:Rd w w.heap.size 4 A l.length (l.flatMap Par.cells)):
  Calls Tryz.prog 49 #[.slice A l.length c, .func (.func 50) #[] #[]] w fun e w'=>e= .returned (.int .i64 (adjI keyPar l))∧Below w.heap.size w w':=by
 have HA:=Lib.hid hA
 clear hA
 go_enter Tryz.func49,Tryz.ntmps49
 go_wp2
 go_loopw [8] (fun i wr=> ∃k:Nat,k≤l.length∧i= .int .i64 k∧Hid (∀j,j <k→hitB keyPar l j=false)∧Hid (Below w.heap.size w wr)) (fun i _=>l.length -(intOf i).toNat)
 case atStart=>exact ⟨0,Nat.zero_le _,rfl,Lib.hid (fun j hj=>absurd hj (Nat.not_lt_zero j)),Lib.hid (Below.refl _ _)⟩
 case round=>
  obtain ⟨k,hk,rfl,HT,HW⟩:=hrel
  by_cases hlt:k <l.length
  ·rcases k with _ |k
   ·have hlz:(0:Int) <(l.length:Int):=by omega
    go_wp2
    go_quiet (fail)
    go_wp2
    go_roundw
    case rel=>exact ⟨1,by omega,by go_num,Lib.hid (fun j hj=>by have e:j=0:=(by omega);subst e;rfl),Lib.hid (below_drewN HW.out _)⟩
    case measure=>simp [intOf];omega
   ·obtain ⟨x,hx⟩:=get_lt hlt
    obtain ⟨y,hy⟩:=get_lt (l:=l) (k:=k) (by omega)
    obtain ⟨b1,o1,rfl,h1,g0,g1,g2,g3⟩:=par_at (HA.out.below HW.out) hx
    obtain ⟨b2,o2,e2,h2,k0,k1,k2,k3⟩:=par_at (HA.out.below HW.out) hy
    cases e2
    have hz:b1 <wr.heap.size:=Nat.lt_of_lt_of_le h1 HW.out.size
    have HH:=Lib.hid (hitCPar hx hy)
    obtain ⟨m,hm⟩: ∃m,k+1=m:=⟨_,rfl⟩
    have e1:IntKind.i64.wrap ((m:Int) -1)=(k:Int):=by rw [IntKind.wrap_i64];omega
    have hm0:(0:Int) <(m:Int):=by omega
    have hm3:0 <m:=by omega
    have hg:decide ((0:Int) <(m:Int))=true:=decide_eq_true hm0
    have hm1:(0:Int)≤(m:Int):=by omega
    have hm2:(m:Int) <(l.length:Int):=by omega
    have hk1:(0:Int)≤(k:Int):=by omega
    have hk2:(k:Int) <(l.length:Int):=by omega
    rw [hm] at HH HT hk hlt g0 g1 g2 g3 ⊢
    clear hx hy hm
    go_wp2
    refine wp_region_ext (by kernel_rfl) (by kernel_rfl) ?_
    repeat (go_big_quiet_step ((go_at_call 50;exact Calls.quiet_ext (samePar_ok x y _))))
    refine wpQuiet_nil ?_
    intro xq
    have HW2:=Lib.hid (Below.then_ HW.out (ext_below wr xq))
    generalize eqC x y=bv at*
    cases bv
    ·go_wp2
     go_roundw
     case rel=>exact ⟨m+1,by omega,by go_num,Lib.hid (fun j hj=>by rcases Nat.lt_succ_iff_lt_or_eq.1 hj with h |rfl;exact HT.out j h;exact HH.out),HW2⟩
     case measure=>simp [intOf];omega
    ·have HV:=Lib.hid (adj_hit hlt HH.out HT.out)
     go_wp2
     go_ret
     exact ⟨by rw [HV.out];rfl,HW2.out⟩
  ·obtain rfl:k=l.length:=by omega
   have HV:=Lib.hid (adj_none HT.out)
   go_wp2
   go_ret
   exact ⟨by rw [HV.out];rfl,HW.out⟩
set_option maxRecDepth 100000 in
set_option maxHeartbeats 2000000 in
theorem sameWin_ok (x y:Win) (w:World):Calls Tryz.prog 52 #[.agg #[.int .u64 x.start, .int .u64 x.len, .int .u16 x.part], .agg #[.int .u64 y.start, .int .u64 y.len, .int .u16 y.part]] w fun e w'=>e= .returned (.bool (eqC x y))∧Below w.heap.size w w':=by
 obtain ⟨w0,hw0⟩: ∃w0,w.alloc (.cells #[.int .u64 x.start, .int .u64 x.len, .int .u16 x.part] 71)=w0:=⟨_,rfl⟩
 obtain ⟨w1,hw1⟩: ∃w1,w0.alloc (.cells #[.int .u64 y.start, .int .u64 y.len, .int .u16 y.part] 71)=w1:=⟨_,rfl⟩
 have e0:w0.heap.size=w.heap.size+1:=by rw [←hw0];simp
 have b0:Blk w1 w.heap.size 71 #[.int .u64 x.start, .int .u64 x.len, .int .u16 x.part]:=by rw [←hw1];refine Blk.alloc ?_ _;rw [←hw0];exact Blk.new w _ _
 have b1:Blk w1 (w.heap.size+1) 71 #[.int .u64 y.start, .int .u64 y.len, .int .u16 y.part]:=by rw [←hw1, ←e0];exact Blk.new w0 _ _
 have HB:=Lib.hid (show Below w.heap.size w w1 by rw [←hw1];refine Below.alloc ?_ (by omega) _;rw [←hw0];exact (Below.refl _ w).alloc (Nat.le_refl _) _)
 have HW0:=Lib.hid hw0
 have HW1:=Lib.hid hw1
 clear hw0 hw1 e0
 go_enter Tryz.func52,Tryz.ntmps52
 go_upto_region 1 with (fail)
 rw [HW0.out,HW1.out]
 have c0:=b0.cell 0
 have d0:=b1.cell 0
 have c1:=b0.cell 1
 have d1:=b1.cell 1
 have c2:=b0.cell 2
 have d2:=b1.cell 2
 have z0:=b0.lt
 have z1:=b1.lt
 simp at c0 d0 c1 d1 c2 d2
 clear b0 b1
 rcases Decidable.em (x.start=y.start) with q0 |q0
 rotate_left
 ·have HV:=Lib.hid (show eqC x y=false from eqC_no (fun e=>q0 (by rw [e])))
  skip
  go_wp2
  go_ret
  exact ⟨by rw [HV.out];rfl,HB.out⟩
 rw [←q0] at d0
 rcases Decidable.em (x.len=y.len) with q1 |q1
 rotate_left
 ·have HV:=Lib.hid (show eqC x y=false from eqC_no (fun e=>q1 (by rw [e])))
  skip
  go_wp2
  go_ret
  exact ⟨by rw [HV.out];rfl,HB.out⟩
 rw [←q1] at d1
 rcases Decidable.em (x.part=y.part) with q2 |q2
 rotate_left
 ·have HV:=Lib.hid (show eqC x y=false from eqC_no (fun e=>q2 (by rw [e])))
  skip
  go_wp2
  go_ret
  exact ⟨by rw [HV.out];rfl,HB.out⟩
 rw [←q2] at d2
 have HE:=Lib.hid (show eqC x y=true from eqC_yes (by cases x;cases y;simp_all))
 clear q0 q1 q2
 go_wp2
 go_ret
 exact ⟨by rw [HE.out];rfl,HB.out⟩
theorem hitCWin {l:List Win} {j:Nat} {x y:Win} (hx:l[j+1]? =some x) (hy:l[j]? =some y):hitB keyWin l (j+1)=eqC x y:=by
 rw [hit_at hx hy]
 by_cases h:x=y
 ·rw [eqC_yes h,h];simp
 ·rw [eqC_no h]
  exact decide_eq_false (fun e=>h (keyWin_inj e))
set_option maxRecDepth 100000 in
set_option maxHeartbeats 4000000 in
theorem repWin_ok (l:List Win) (A:Option Addr) (c:Nat) (w:World) (hl:l.length≤4194304) (hA:Rd w w.heap.size 3 A l.length (l.flatMap Win.cells)):
  Calls Tryz.prog 51 #[.slice A l.length c, .func (.func 52) #[] #[]] w fun e w'=>e= .returned (.int .i64 (adjI keyWin l))∧Below w.heap.size w w':=by
 have HA:=Lib.hid hA
 clear hA
 go_enter Tryz.func51,Tryz.ntmps51
 go_wp2
 go_loopw [8] (fun i wr=> ∃k:Nat,k≤l.length∧i= .int .i64 k∧Hid (∀j,j <k→hitB keyWin l j=false)∧Hid (Below w.heap.size w wr)) (fun i _=>l.length -(intOf i).toNat)
 case atStart=>exact ⟨0,Nat.zero_le _,rfl,Lib.hid (fun j hj=>absurd hj (Nat.not_lt_zero j)),Lib.hid (Below.refl _ _)⟩
 case round=>
  obtain ⟨k,hk,rfl,HT,HW⟩:=hrel
  by_cases hlt:k <l.length
  ·rcases k with _ |k
   ·have hlz:(0:Int) <(l.length:Int):=by omega
    go_wp2
    go_quiet (fail)
    go_wp2
    go_roundw
    case rel=>exact ⟨1,by omega,by go_num,Lib.hid (fun j hj=>by have e:j=0:=(by omega);subst e;rfl),Lib.hid (below_drewN HW.out _)⟩
    case measure=>simp [intOf];omega
   ·obtain ⟨x,hx⟩:=get_lt hlt
    obtain ⟨y,hy⟩:=get_lt (l:=l) (k:=k) (by omega)
    obtain ⟨b1,o1,rfl,h1,g0,g1,g2⟩:=win_at (HA.out.below HW.out) hx
    obtain ⟨b2,o2,e2,h2,k0,k1,k2⟩:=win_at (HA.out.below HW.out) hy
    cases e2
    have hz:b1 <wr.heap.size:=Nat.lt_of_lt_of_le h1 HW.out.size
    have HH:=Lib.hid (hitCWin hx hy)
    obtain ⟨m,hm⟩: ∃m,k+1=m:=⟨_,rfl⟩
    have e1:IntKind.i64.wrap ((m:Int) -1)=(k:Int):=by rw [IntKind.wrap_i64];omega
    have hm0:(0:Int) <(m:Int):=by omega
    have hm3:0 <m:=by omega
    have hg:decide ((0:Int) <(m:Int))=true:=decide_eq_true hm0
    have hm1:(0:Int)≤(m:Int):=by omega
    have hm2:(m:Int) <(l.length:Int):=by omega
    have hk1:(0:Int)≤(k:Int):=by omega
    have hk2:(k:Int) <(l.length:Int):=by omega
    rw [hm] at HH HT hk hlt g0 g1 g2 ⊢
    clear hx hy hm
    go_wp2
    refine wp_region_ext (by kernel_rfl) (by kernel_rfl) ?_
    repeat (go_big_quiet_step ((go_at_call 52;exact Calls.quiet_ext (sameWin_ok x y _))))
    refine wpQuiet_nil ?_
    intro xq
    have HW2:=Lib.hid (Below.then_ HW.out (ext_below wr xq))
    generalize eqC x y=bv at*
    cases bv
    ·go_wp2
     go_roundw
     case rel=>exact ⟨m+1,by omega,by go_num,Lib.hid (fun j hj=>by rcases Nat.lt_succ_iff_lt_or_eq.1 hj with h |rfl;exact HT.out j h;exact HH.out),HW2⟩
     case measure=>simp [intOf];omega
    ·have HV:=Lib.hid (adj_hit hlt HH.out HT.out)
     go_wp2
     go_ret
     exact ⟨by rw [HV.out];rfl,HW2.out⟩
  ·obtain rfl:k=l.length:=by omega
   have HV:=Lib.hid (adj_none HT.out)
   go_wp2
   go_ret
   exact ⟨by rw [HV.out];rfl,HW.out⟩
set_option maxRecDepth 100000 in
set_option maxHeartbeats 2000000 in
theorem sameReg_ok (x y:Reg) (w:World):Calls Tryz.prog 54 #[.agg #[.int .u64 x.base, .int .u64 x.size, .int .u16 x.part, .int .u8 x.rights, .bool x.shared], .agg #[.int .u64 y.base, .int .u64 y.size, .int .u16 y.part, .int .u8 y.rights, .bool y.shared]] w fun e w'=>e= .returned (.bool (eqC x y))∧Below w.heap.size w w':=by
 obtain ⟨w0,hw0⟩: ∃w0,w.alloc (.cells #[.int .u64 x.base, .int .u64 x.size, .int .u16 x.part, .int .u8 x.rights, .bool x.shared] 75)=w0:=⟨_,rfl⟩
 obtain ⟨w1,hw1⟩: ∃w1,w0.alloc (.cells #[.int .u64 y.base, .int .u64 y.size, .int .u16 y.part, .int .u8 y.rights, .bool y.shared] 75)=w1:=⟨_,rfl⟩
 have e0:w0.heap.size=w.heap.size+1:=by rw [←hw0];simp
 have b0:Blk w1 w.heap.size 75 #[.int .u64 x.base, .int .u64 x.size, .int .u16 x.part, .int .u8 x.rights, .bool x.shared]:=by rw [←hw1];refine Blk.alloc ?_ _;rw [←hw0];exact Blk.new w _ _
 have b1:Blk w1 (w.heap.size+1) 75 #[.int .u64 y.base, .int .u64 y.size, .int .u16 y.part, .int .u8 y.rights, .bool y.shared]:=by rw [←hw1, ←e0];exact Blk.new w0 _ _
 have HB:=Lib.hid (show Below w.heap.size w w1 by rw [←hw1];refine Below.alloc ?_ (by omega) _;rw [←hw0];exact (Below.refl _ w).alloc (Nat.le_refl _) _)
 have HW0:=Lib.hid hw0
 have HW1:=Lib.hid hw1
 clear hw0 hw1 e0
 go_enter Tryz.func54,Tryz.ntmps54
 go_upto_region 1 with (fail)
 rw [HW0.out,HW1.out]
 have c0:=b0.cell 0
 have d0:=b1.cell 0
 have c1:=b0.cell 1
 have d1:=b1.cell 1
 have c2:=b0.cell 2
 have d2:=b1.cell 2
 have c3:=b0.cell 3
 have d3:=b1.cell 3
 have c4:=b0.cell 4
 have d4:=b1.cell 4
 have z0:=b0.lt
 have z1:=b1.lt
 simp at c0 d0 c1 d1 c2 d2 c3 d3 c4 d4
 clear b0 b1
 rcases Decidable.em (x.base=y.base) with q0 |q0
 rotate_left
 ·have HV:=Lib.hid (show eqC x y=false from eqC_no (fun e=>q0 (by rw [e])))
  skip
  go_wp2
  go_ret
  exact ⟨by rw [HV.out];rfl,HB.out⟩
 rw [←q0] at d0
 rcases Decidable.em (x.size=y.size) with q1 |q1
 rotate_left
 ·have HV:=Lib.hid (show eqC x y=false from eqC_no (fun e=>q1 (by rw [e])))
  skip
  go_wp2
  go_ret
  exact ⟨by rw [HV.out];rfl,HB.out⟩
 rw [←q1] at d1
 rcases Decidable.em (x.part=y.part) with q2 |q2
 rotate_left
 ·have HV:=Lib.hid (show eqC x y=false from eqC_no (fun e=>q2 (by rw [e])))
  skip
  go_wp2
  go_ret
  exact ⟨by rw [HV.out];rfl,HB.out⟩
 rw [←q2] at d2
 rcases Decidable.em (x.rights=y.rights) with q3 |q3
 rotate_left
 ·have HV:=Lib.hid (show eqC x y=false from eqC_no (fun e=>q3 (by rw [e])))
  skip
  go_wp2
  go_ret
  exact ⟨by rw [HV.out];rfl,HB.out⟩
 rw [←q3] at d3
 rcases Decidable.em (x.shared=y.shared) with q4 |q4
 rotate_left
 ·have HV:=Lib.hid (show eqC x y=false from eqC_no (fun e=>q4 (by rw [e])))
  skip
  go_wp2
  go_ret
  exact ⟨by rw [HV.out];rfl,HB.out⟩
 rw [←q4] at d4
 have HE:=Lib.hid (show eqC x y=true from eqC_yes (by cases x;cases y;simp_all))
 clear q0 q1 q2 q3 q4
 go_wp2
 go_ret
 exact ⟨by rw [HE.out];rfl,HB.out⟩
theorem hitCReg {l:List Reg} {j:Nat} {x y:Reg} (hx:l[j+1]? =some x) (hy:l[j]? =some y):hitB keyReg l (j+1)=eqC x y:=by
 rw [hit_at hx hy]
 by_cases h:x=y
 ·rw [eqC_yes h,h];simp
 ·rw [eqC_no h]
  exact decide_eq_false (fun e=>h (keyReg_inj e))
set_option maxRecDepth 100000 in
set_option maxHeartbeats 4000000 in
theorem repReg_ok (l:List Reg) (A:Option Addr) (c:Nat) (w:World) (hl:l.length≤4194304) (hA:Rd w w.heap.size 5 A l.length (l.flatMap Reg.cells)):
  Calls Tryz.prog 53 #[.slice A l.length c, .func (.func 54) #[] #[]] w fun e w'=>e= .returned (.int .i64 (adjI keyReg l))∧Below w.heap.size w w':=by
 have HA:=Lib.hid hA
 clear hA
 go_enter Tryz.func53,Tryz.ntmps53
 go_wp2
 go_loopw [8] (fun i wr=> ∃k:Nat,k≤l.length∧i= .int .i64 k∧Hid (∀j,j <k→hitB keyReg l j=false)∧Hid (Below w.heap.size w wr)) (fun i _=>l.length -(intOf i).toNat)
 case atStart=>exact ⟨0,Nat.zero_le _,rfl,Lib.hid (fun j hj=>absurd hj (Nat.not_lt_zero j)),Lib.hid (Below.refl _ _)⟩
 case round=>
  obtain ⟨k,hk,rfl,HT,HW⟩:=hrel
  by_cases hlt:k <l.length
  ·rcases k with _ |k
   ·have hlz:(0:Int) <(l.length:Int):=by omega
    go_wp2
    go_quiet (fail)
    go_wp2
    go_roundw
    case rel=>exact ⟨1,by omega,by go_num,Lib.hid (fun j hj=>by have e:j=0:=(by omega);subst e;rfl),Lib.hid (below_drewN HW.out _)⟩
    case measure=>simp [intOf];omega
   ·obtain ⟨x,hx⟩:=get_lt hlt
    obtain ⟨y,hy⟩:=get_lt (l:=l) (k:=k) (by omega)
    obtain ⟨b1,o1,rfl,h1,g0,g1,g2,g3,g4⟩:=reg_at (HA.out.below HW.out) hx
    obtain ⟨b2,o2,e2,h2,k0,k1,k2,k3,k4⟩:=reg_at (HA.out.below HW.out) hy
    cases e2
    have hz:b1 <wr.heap.size:=Nat.lt_of_lt_of_le h1 HW.out.size
    have HH:=Lib.hid (hitCReg hx hy)
    obtain ⟨m,hm⟩: ∃m,k+1=m:=⟨_,rfl⟩
    have e1:IntKind.i64.wrap ((m:Int) -1)=(k:Int):=by rw [IntKind.wrap_i64];omega
    have hm0:(0:Int) <(m:Int):=by omega
    have hm3:0 <m:=by omega
    have hg:decide ((0:Int) <(m:Int))=true:=decide_eq_true hm0
    have hm1:(0:Int)≤(m:Int):=by omega
    have hm2:(m:Int) <(l.length:Int):=by omega
    have hk1:(0:Int)≤(k:Int):=by omega
    have hk2:(k:Int) <(l.length:Int):=by omega
    rw [hm] at HH HT hk hlt g0 g1 g2 g3 g4 ⊢
    clear hx hy hm
    go_wp2
    refine wp_region_ext (by kernel_rfl) (by kernel_rfl) ?_
    repeat (go_big_quiet_step ((go_at_call 54;exact Calls.quiet_ext (sameReg_ok x y _))))
    refine wpQuiet_nil ?_
    intro xq
    have HW2:=Lib.hid (Below.then_ HW.out (ext_below wr xq))
    generalize eqC x y=bv at*
    cases bv
    ·go_wp2
     go_roundw
     case rel=>exact ⟨m+1,by omega,by go_num,Lib.hid (fun j hj=>by rcases Nat.lt_succ_iff_lt_or_eq.1 hj with h |rfl;exact HT.out j h;exact HH.out),HW2⟩
     case measure=>simp [intOf];omega
    ·have HV:=Lib.hid (adj_hit hlt HH.out HT.out)
     go_wp2
     go_ret
     exact ⟨by rw [HV.out];rfl,HW2.out⟩
  ·obtain rfl:k=l.length:=by omega
   have HV:=Lib.hid (adj_none HT.out)
   go_wp2
   go_ret
   exact ⟨by rw [HV.out];rfl,HW.out⟩
set_option maxRecDepth 100000 in
set_option maxHeartbeats 2000000 in
theorem samePrt_ok (x y:Prt) (w:World):Calls Tryz.prog 56 #[.agg #[.int .u16 x.id, .int .u16 x.part, .string x.name, .bool x.output, .bool x.queuing, .int .u32 x.size], .agg #[.int .u16 y.id, .int .u16 y.part, .string y.name, .bool y.output, .bool y.queuing, .int .u32 y.size]] w fun e w'=>e= .returned (.bool (eqC x y))∧Below w.heap.size w w':=by
 obtain ⟨w0,hw0⟩: ∃w0,w.alloc (.cells #[.int .u16 x.id, .int .u16 x.part, .string x.name, .bool x.output, .bool x.queuing, .int .u32 x.size] 52)=w0:=⟨_,rfl⟩
 obtain ⟨w1,hw1⟩: ∃w1,w0.alloc (.cells #[.int .u16 y.id, .int .u16 y.part, .string y.name, .bool y.output, .bool y.queuing, .int .u32 y.size] 52)=w1:=⟨_,rfl⟩
 have e0:w0.heap.size=w.heap.size+1:=by rw [←hw0];simp
 have b0:Blk w1 w.heap.size 52 #[.int .u16 x.id, .int .u16 x.part, .string x.name, .bool x.output, .bool x.queuing, .int .u32 x.size]:=by rw [←hw1];refine Blk.alloc ?_ _;rw [←hw0];exact Blk.new w _ _
 have b1:Blk w1 (w.heap.size+1) 52 #[.int .u16 y.id, .int .u16 y.part, .string y.name, .bool y.output, .bool y.queuing, .int .u32 y.size]:=by rw [←hw1, ←e0];exact Blk.new w0 _ _
 have HB:=Lib.hid (show Below w.heap.size w w1 by rw [←hw1];refine Below.alloc ?_ (by omega) _;rw [←hw0];exact (Below.refl _ w).alloc (Nat.le_refl _) _)
 have HW0:=Lib.hid hw0
 have HW1:=Lib.hid hw1
 clear hw0 hw1 e0
 go_enter Tryz.func56,Tryz.ntmps56
 go_upto_region 1 with (fail)
 rw [HW0.out,HW1.out]
 have c0:=b0.cell 0
 have d0:=b1.cell 0
 have c1:=b0.cell 1
 have d1:=b1.cell 1
 have c2:=b0.cell 2
 have d2:=b1.cell 2
 have c3:=b0.cell 3
 have d3:=b1.cell 3
 have c4:=b0.cell 4
 have d4:=b1.cell 4
 have c5:=b0.cell 5
 have d5:=b1.cell 5
 have z0:=b0.lt
 have z1:=b1.lt
 simp at c0 d0 c1 d1 c2 d2 c3 d3 c4 d4 c5 d5
 clear b0 b1
 rcases Decidable.em (x.id=y.id) with q0 |q0
 rotate_left
 ·have HV:=Lib.hid (show eqC x y=false from eqC_no (fun e=>q0 (by rw [e])))
  skip
  go_wp2
  go_ret
  exact ⟨by rw [HV.out];rfl,HB.out⟩
 rw [←q0] at d0
 rcases Decidable.em (x.part=y.part) with q1 |q1
 rotate_left
 ·have HV:=Lib.hid (show eqC x y=false from eqC_no (fun e=>q1 (by rw [e])))
  skip
  go_wp2
  go_ret
  exact ⟨by rw [HV.out];rfl,HB.out⟩
 rw [←q1] at d1
 rcases Decidable.em (x.name=y.name) with q2 |q2
 rotate_left
 ·have HV:=Lib.hid (show eqC x y=false from eqC_no (fun e=>q2 (by rw [e])))
  have qb: ¬x.name.toList=y.name.toList:=names_ne q2
  go_wp2
  go_ret
  exact ⟨by rw [HV.out];rfl,HB.out⟩
 rw [←q2] at d2
 rcases Decidable.em (x.output=y.output) with q3 |q3
 rotate_left
 ·have HV:=Lib.hid (show eqC x y=false from eqC_no (fun e=>q3 (by rw [e])))
  skip
  go_wp2
  go_ret
  exact ⟨by rw [HV.out];rfl,HB.out⟩
 rw [←q3] at d3
 rcases Decidable.em (x.queuing=y.queuing) with q4 |q4
 rotate_left
 ·have HV:=Lib.hid (show eqC x y=false from eqC_no (fun e=>q4 (by rw [e])))
  skip
  go_wp2
  go_ret
  exact ⟨by rw [HV.out];rfl,HB.out⟩
 rw [←q4] at d4
 rcases Decidable.em (x.size=y.size) with q5 |q5
 rotate_left
 ·have HV:=Lib.hid (show eqC x y=false from eqC_no (fun e=>q5 (by rw [e])))
  skip
  go_wp2
  go_ret
  exact ⟨by rw [HV.out];rfl,HB.out⟩
 rw [←q5] at d5
 have HE:=Lib.hid (show eqC x y=true from eqC_yes (by cases x;cases y;simp_all))
 clear q0 q1 q2 q3 q4 q5
 go_wp2
 go_ret
 exact ⟨by rw [HE.out];rfl,HB.out⟩
theorem hitCPrt {l:List Prt} {j:Nat} {x y:Prt} (hx:l[j+1]? =some x) (hy:l[j]? =some y):hitB keyPrt l (j+1)=eqC x y:=by
 rw [hit_at hx hy]
 by_cases h:x=y
 ·rw [eqC_yes h,h];simp
 ·rw [eqC_no h]
  exact decide_eq_false (fun e=>h (keyPrt_inj e))
set_option maxRecDepth 100000 in
set_option maxHeartbeats 4000000 in
theorem repPrt_ok (l:List Prt) (A:Option Addr) (c:Nat) (w:World) (hl:l.length≤4194304) (hA:Rd w w.heap.size 6 A l.length (l.flatMap Prt.cells)):
  Calls Tryz.prog 55 #[.slice A l.length c, .func (.func 56) #[] #[]] w fun e w'=>e= .returned (.int .i64 (adjI keyPrt l))∧Below w.heap.size w w':=by
 have HA:=Lib.hid hA
 clear hA
 go_enter Tryz.func55,Tryz.ntmps55
 go_wp2
 go_loopw [8] (fun i wr=> ∃k:Nat,k≤l.length∧i= .int .i64 k∧Hid (∀j,j <k→hitB keyPrt l j=false)∧Hid (Below w.heap.size w wr)) (fun i _=>l.length -(intOf i).toNat)
 case atStart=>exact ⟨0,Nat.zero_le _,rfl,Lib.hid (fun j hj=>absurd hj (Nat.not_lt_zero j)),Lib.hid (Below.refl _ _)⟩
 case round=>
  obtain ⟨k,hk,rfl,HT,HW⟩:=hrel
  by_cases hlt:k <l.length
  ·rcases k with _ |k
   ·have hlz:(0:Int) <(l.length:Int):=by omega
    go_wp2
    go_quiet (fail)
    go_wp2
    go_roundw
    case rel=>exact ⟨1,by omega,by go_num,Lib.hid (fun j hj=>by have e:j=0:=(by omega);subst e;rfl),Lib.hid (below_drewN HW.out _)⟩
    case measure=>simp [intOf];omega
   ·obtain ⟨x,hx⟩:=get_lt hlt
    obtain ⟨y,hy⟩:=get_lt (l:=l) (k:=k) (by omega)
    obtain ⟨b1,o1,rfl,h1,g0,g1,g2,g3,g4,g5⟩:=prt_at (HA.out.below HW.out) hx
    obtain ⟨b2,o2,e2,h2,k0,k1,k2,k3,k4,k5⟩:=prt_at (HA.out.below HW.out) hy
    cases e2
    have hz:b1 <wr.heap.size:=Nat.lt_of_lt_of_le h1 HW.out.size
    have HH:=Lib.hid (hitCPrt hx hy)
    obtain ⟨m,hm⟩: ∃m,k+1=m:=⟨_,rfl⟩
    have e1:IntKind.i64.wrap ((m:Int) -1)=(k:Int):=by rw [IntKind.wrap_i64];omega
    have hm0:(0:Int) <(m:Int):=by omega
    have hm3:0 <m:=by omega
    have hg:decide ((0:Int) <(m:Int))=true:=decide_eq_true hm0
    have hm1:(0:Int)≤(m:Int):=by omega
    have hm2:(m:Int) <(l.length:Int):=by omega
    have hk1:(0:Int)≤(k:Int):=by omega
    have hk2:(k:Int) <(l.length:Int):=by omega
    rw [hm] at HH HT hk hlt g0 g1 g2 g3 g4 g5 ⊢
    clear hx hy hm
    go_wp2
    refine wp_region_ext (by kernel_rfl) (by kernel_rfl) ?_
    repeat (go_big_quiet_step ((go_at_call 56;exact Calls.quiet_ext (samePrt_ok x y _))))
    refine wpQuiet_nil ?_
    intro xq
    have HW2:=Lib.hid (Below.then_ HW.out (ext_below wr xq))
    generalize eqC x y=bv at*
    cases bv
    ·go_wp2
     go_roundw
     case rel=>exact ⟨m+1,by omega,by go_num,Lib.hid (fun j hj=>by rcases Nat.lt_succ_iff_lt_or_eq.1 hj with h |rfl;exact HT.out j h;exact HH.out),HW2⟩
     case measure=>simp [intOf];omega
    ·have HV:=Lib.hid (adj_hit hlt HH.out HT.out)
     go_wp2
     go_ret
     exact ⟨by rw [HV.out];rfl,HW2.out⟩
  ·obtain rfl:k=l.length:=by omega
   have HV:=Lib.hid (adj_none HT.out)
   go_wp2
   go_ret
   exact ⟨by rw [HV.out];rfl,HW.out⟩
set_option maxRecDepth 100000 in
set_option maxHeartbeats 2000000 in
theorem samU16_ok (x y:Int) (w:World):Calls Tryz.prog 59 #[.int .u16 x, .int .u16 y] w fun e w'=>e= .returned (.bool (eqC x y))∧Below w.heap.size w w':=by
 rcases Decidable.em (x=y) with q |q
 ·subst q
  have HV:=Lib.hid (show eqC x x=true from eqC_yes rfl)
  go_enter Tryz.func59,Tryz.ntmps59
  go_wp2
  go_ret
  exact ⟨by rw [HV.out];rfl,Below.refl _ _⟩
 ·have HV:=Lib.hid (show eqC x y=false from eqC_no q)
  have qb:(x==y)=false:=beq_eq_false_iff_ne.2 q
  go_enter Tryz.func59,Tryz.ntmps59
  go_wp2
  go_ret
  exact ⟨by rw [HV.out];rfl,Below.refl _ _⟩
theorem hitCN {l:List Int} {j:Nat} {x y:Int} (hx:l[j+1]? =some x) (hy:l[j]? =some y):hitB (fun d=> [d]) l (j+1)=eqC x y:=by
 rw [hit_at hx hy]
 by_cases h:x=y
 ·rw [eqC_yes h,h];simp
 ·rw [eqC_no h]
  exact decide_eq_false (fun e=>h (by injection e))
set_option maxRecDepth 100000 in
set_option maxHeartbeats 4000000 in
theorem repN_ok (l:List Int) (A:Option Addr) (c:Nat) (w:World) (hl:l.length≤4194304) (hA:Rd w w.heap.size 1 A l.length (l.map (Value.int .u16))):
  Calls Tryz.prog 58 #[.slice A l.length c, .func (.func 59) #[] #[]] w fun e w'=>e= .returned (.int .i64 (adjI (fun d=> [d]) l))∧Below w.heap.size w w':=by
 have HA:=Lib.hid hA
 clear hA
 go_enter Tryz.func58,Tryz.ntmps58
 go_wp2
 go_loopw [8] (fun i wr=> ∃k:Nat,k≤l.length∧i= .int .i64 k∧Hid (∀j,j <k→hitB (fun d=> [d]) l j=false)∧Hid (Below w.heap.size w wr)) (fun i _=>l.length -(intOf i).toNat)
 case atStart=>exact ⟨0,Nat.zero_le _,rfl,Lib.hid (fun j hj=>absurd hj (Nat.not_lt_zero j)),Lib.hid (Below.refl _ _)⟩
 case round=>
  obtain ⟨k,hk,rfl,HT,HW⟩:=hrel
  by_cases hlt:k <l.length
  ·rcases k with _ |k
   ·have hlz:(0:Int) <(l.length:Int):=by omega
    go_wp2
    go_quiet (fail)
    go_wp2
    go_roundw
    case rel=>exact ⟨1,by omega,by go_num,Lib.hid (fun j hj=>by have e:j=0:=(by omega);subst e;rfl),Lib.hid (below_drewN HW.out _)⟩
    case measure=>simp [intOf];omega
   ·obtain ⟨x,hx⟩:=get_lt hlt
    obtain ⟨y,hy⟩:=get_lt (l:=l) (k:=k) (by omega)
    obtain ⟨b1,o1,rfl,h1,g0⟩:=int_at (HA.out.below HW.out) hx
    obtain ⟨b2,o2,e2,h2,k0⟩:=int_at (HA.out.below HW.out) hy
    cases e2
    have hz:b1 <wr.heap.size:=Nat.lt_of_lt_of_le h1 HW.out.size
    have HH:=Lib.hid (hitCN hx hy)
    obtain ⟨m,hm⟩: ∃m,k+1=m:=⟨_,rfl⟩
    have e1:IntKind.i64.wrap ((m:Int) -1)=(k:Int):=by rw [IntKind.wrap_i64];omega
    have hm0:(0:Int) <(m:Int):=by omega
    have hm3:0 <m:=by omega
    have hg:decide ((0:Int) <(m:Int))=true:=decide_eq_true hm0
    have hm1:(0:Int)≤(m:Int):=by omega
    have hm2:(m:Int) <(l.length:Int):=by omega
    have hk1:(0:Int)≤(k:Int):=by omega
    have hk2:(k:Int) <(l.length:Int):=by omega
    rw [hm] at HH HT hk hlt g0 ⊢
    clear hx hy hm
    go_wp2
    refine wp_region_ext (by kernel_rfl) (by kernel_rfl) ?_
    repeat (go_big_quiet_step ((go_at_call 59;exact Calls.quiet_ext (samU16_ok x y _))))
    refine wpQuiet_nil ?_
    intro xq
    have HW2:=Lib.hid (Below.then_ HW.out (ext_below wr xq))
    generalize eqC x y=bv at*
    cases bv
    ·go_wp2
     go_roundw
     case rel=>exact ⟨m+1,by omega,by go_num,Lib.hid (fun j hj=>by rcases Nat.lt_succ_iff_lt_or_eq.1 hj with h |rfl;exact HT.out j h;exact HH.out),HW2⟩
     case measure=>simp [intOf];omega
    ·have HV:=Lib.hid (adj_hit hlt HH.out HT.out)
     go_wp2
     go_ret
     exact ⟨by rw [HV.out];rfl,HW2.out⟩
  ·obtain rfl:k=l.length:=by omega
   have HV:=Lib.hid (adj_none HT.out)
   go_wp2
   go_ret
   exact ⟨by rw [HV.out];rfl,HW.out⟩
end Go.Proofs.YteelncofiodflaaGreat
namespace Go.Proofs.YteelncofiodflaaGreat
open Go.RowKit
set_option maxRecDepth 100000 in
set_option maxHeartbeats 4000000 in
theorem twcFn_ok (x y:Chn) (A B:Option Addr) (a b:Nat) (w:World) (hlx:x.dests.length≤4194304) (hA:Rd w w.heap.size 1 A x.dests.length (x.dests.map (Value.int .u16))) (hB:Rd w w.heap.size 1 B y.dests.length (y.dests.map (Value.int .u16))):
  Calls Tryz.prog 47 #[.agg #[.int .u16 x.id, .int .u16 x.source, .slice A x.dests.length a], .agg #[.int .u16 y.id, .int .u16 y.source, .slice B y.dests.length b]] w fun e w'=>e= .returned (.bool (eqC x y))∧Below w.heap.size w w':=by
 obtain ⟨w0,hw0⟩: ∃w0,w.alloc (.cells #[.int .u16 x.id, .int .u16 x.source, .slice A x.dests.length a] 57)=w0:=⟨_,rfl⟩
 obtain ⟨w1,hw1⟩: ∃w1,w0.alloc (.cells #[.int .u16 y.id, .int .u16 y.source, .slice B y.dests.length b] 57)=w1:=⟨_,rfl⟩
 have e0:w0.heap.size=w.heap.size+1:=by rw [←hw0];simp
 have b0:Blk w1 w.heap.size 57 #[.int .u16 x.id, .int .u16 x.source, .slice A x.dests.length a]:=by rw [←hw1];refine Blk.alloc ?_ _;rw [←hw0];exact Blk.new w _ _
 have b1:Blk w1 (w.heap.size+1) 57 #[.int .u16 y.id, .int .u16 y.source, .slice B y.dests.length b]:=by rw [←hw1, ←e0];exact Blk.new w0 _ _
 have hb:Below w.heap.size w w1:=by rw [←hw1];refine Below.alloc ?_ (by omega) _;rw [←hw0];exact (Below.refl _ w).alloc (Nat.le_refl _) _
 have HB:=Lib.hid hb
 have HR1:=Lib.hid (hA.up hb)
 have HR2:=Lib.hid (hB.up hb)
 have HW0:=Lib.hid hw0
 have HW1:=Lib.hid hw1
 clear hw0 hw1 e0 hb hA hB
 go_enter Tryz.func47,Tryz.ntmps47
 go_upto_region 1 with (fail)
 rw [HW0.out,HW1.out]
 have c0:=b0.cell 0
 have c1:=b0.cell 1
 have c2:=b0.cell 2
 have d0:=b1.cell 0
 have d1:=b1.cell 1
 have d2:=b1.cell 2
 have z0:=b0.lt
 have z1:=b1.lt
 simp at c0 c1 c2 d0 d1 d2
 clear b0 b1
 rcases Decidable.em (x.id=y.id) with q0 |q0
 rotate_left
 ·have HV:=Lib.hid (show eqC x y=false from eqC_no (fun e=>q0 (by rw [e])))
  have qb:(x.id==y.id)=false:=beq_eq_false_iff_ne.2 q0
  go_wp2
  go_ret
  exact ⟨by rw [HV.out];rfl,HB.out⟩
 have HE0:=Lib.hid q0
 rw [←q0] at d0
 clear q0
 rcases Decidable.em (x.source=y.source) with q1 |q1
 rotate_left
 ·have HV:=Lib.hid (show eqC x y=false from eqC_no (fun e=>q1 (by rw [e])))
  have qb:(x.source==y.source)=false:=beq_eq_false_iff_ne.2 q1
  go_wp2
  go_ret
  exact ⟨by rw [HV.out];rfl,HB.out⟩
 have HE1:=Lib.hid q1
 rw [←q1] at d1
 clear q1
 have HV:=Lib.hid (show eqC x y=eqC x.dests y.dests by
  by_cases h:x.dests=y.dests
  ·rw [eqC_yes h,eqC_yes (by have h0:=HE0.out;have h1:=HE1.out;cases x;cases y;simp_all)]
  ·rw [eqC_no h,eqC_no (fun e=>h (by rw [e]))])
 go_wp2_with fail
 refine (eqN_ok x.dests y.dests A B a b _ hlx HR1.out HR2.out).mono ?_
 rintro e w2 ⟨rfl,hb2⟩
 have HZ:=Lib.hid (Below.then_ HB.out hb2)
 clear hb2
 generalize eqC x.dests y.dests=bv at*
 go_wp2
 go_ret
 exact ⟨by rw [HV.out];rfl,HZ.out⟩
end Go.Proofs.YteelncofiodflaaGreat
namespace Go.Proofs.YteelncofiodflaaGreat
open Go.RowKit
attribute [local go_sem] ext_cell
theorem hitCChn {l:List Chn} {j:Nat} {x y:Chn} (hx:l[j+1]? =some x) (hy:l[j]? =some y):hitB keyChn l (j+1)=eqC x y:=by
 rw [hit_at hx hy]
 by_cases h:x=y
 ·rw [eqC_yes h,h];simp
 ·rw [eqC_no h]
  exact decide_eq_false (fun e=>h (keyChn_inj e))
set_option maxRecDepth 100000 in
set_option maxHeartbeats 4000000 in
theorem repChn_ok (l:List Chn) (cs:List Value) (A:Option Addr) (c:Nat) (w:World) (hl:l.length≤4194304) (hd: ∀x ∈ l,x.dests.length≤4194304) (hC:ChnsC w w.heap.size l cs) (hA:Rd w w.heap.size 3 A l.length cs):
  Calls Tryz.prog 57 #[.slice A l.length c, .func (.func 47) #[] #[]] w fun e w'=>e= .returned (.int .i64 (adjI keyChn l))∧Below w.heap.size w w':=by
 have HA:=Lib.hid hA
 have HC:=Lib.hid hC
 have HD:=Lib.hid hd
 clear hA hC hd
 go_enter Tryz.func57,Tryz.ntmps57
 go_wp2
 go_loopw [8] (fun i wr=> ∃k:Nat,k≤l.length∧i= .int .i64 k∧Hid (∀j,j <k→hitB keyChn l j=false)∧Hid (Below w.heap.size w wr)) (fun i _=>l.length -(intOf i).toNat)
 case atStart=>exact ⟨0,Nat.zero_le _,rfl,Lib.hid (fun j hj=>absurd hj (Nat.not_lt_zero j)),Lib.hid (Below.refl _ _)⟩
 case round=>
  obtain ⟨k,hk,rfl,HT,HW⟩:=hrel
  by_cases hlt:k <l.length
  ·rcases k with _ |k
   ·have hlz:(0:Int) <(l.length:Int):=by omega
    go_wp2
    go_quiet (fail)
    go_wp2
    go_roundw
    case rel=>exact ⟨1,by omega,by go_num,Lib.hid (fun j hj=>by have e:j=0:=(by omega);subst e;rfl),Lib.hid (below_drewN HW.out _)⟩
    case measure=>simp [intOf];omega
   ·obtain ⟨x,hx⟩:=get_lt hlt
    obtain ⟨y,hy⟩:=get_lt (l:=l) (k:=k) (by omega)
    obtain ⟨b1,o1,rfl,h1,g0,g1,D1,dc1,g2,_,_,hr1⟩:=chn_at0 HC.out (HA.out.up HW.out) hx
    obtain ⟨b2,o2,e2,h2,k0,k1,D2,dc2,k2,_,_,hr2⟩:=chn_at0 HC.out (HA.out.up HW.out) hy
    cases e2
    have HR1:=Lib.hid (hr1.up HW.out)
    have HR2:=Lib.hid (hr2.up HW.out)
    have hlx:=HD.out x (List.mem_of_getElem? hx)
    have hz:b1 <wr.heap.size:=h1
    have HH:=Lib.hid (hitCChn hx hy)
    obtain ⟨m,hm⟩: ∃m,k+1=m:=⟨_,rfl⟩
    have e1:IntKind.i64.wrap ((m:Int) -1)=(k:Int):=by rw [IntKind.wrap_i64];omega
    have hm0:(0:Int) <(m:Int):=by omega
    have hm3:0 <m:=by omega
    have hg:decide ((0:Int) <(m:Int))=true:=decide_eq_true hm0
    have hm1:(0:Int)≤(m:Int):=by omega
    have hm2:(m:Int) <(l.length:Int):=by omega
    have hk1:(0:Int)≤(k:Int):=by omega
    have hk2:(k:Int) <(l.length:Int):=by omega
    rw [hm] at HH HT hk hlt g0 g1 g2 ⊢
    clear hx hy hm hr1 hr2
    have HLX:=Lib.hid hlx
    go_wp2
    refine wp_region_ext (by kernel_rfl) (by kernel_rfl) ?_
    repeat (go_big_quiet_step ((go_at_call 47;exact Calls.quiet_ext (twcFn_ok x y D1 D2 dc1 dc2 _ HLX.out (HR1.out.up (ext_below _ _)) (HR2.out.up (ext_below _ _))))))
    refine wpQuiet_nil ?_
    intro xq
    have HW2:=Lib.hid (Below.then_ HW.out (ext_below wr xq))
    generalize eqC x y=bv at*
    cases bv
    ·go_wp2
     go_roundw
     case rel=>exact ⟨m+1,by omega,by go_num,Lib.hid (fun j hj=>by rcases Nat.lt_succ_iff_lt_or_eq.1 hj with h |rfl;exact HT.out j h;exact HH.out),HW2⟩
     case measure=>simp [intOf];omega
    ·have HV:=Lib.hid (adj_hit hlt HH.out HT.out)
     go_wp2
     go_ret
     exact ⟨by rw [HV.out];rfl,HW2.out⟩
  ·obtain rfl:k=l.length:=by omega
   have HV:=Lib.hid (adj_none HT.out)
   go_wp2
   go_ret
   exact ⟨by rw [HV.out];rfl,HW.out⟩
end Go.Proofs.YteelncofiodflaaGreat
