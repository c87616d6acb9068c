/-
  bounds, same, Segments and Segment of the reference of layer 22, walked. No condition but on sizes, and that the regions are right.
-/
import Derived.BigQuiet
import Derived.Deep.AppendLies
import Derived.Test.YtdmgpdanlfmadaaGreatRefH
import Derived.Test.YtdmgpdanlfmadaaGreatRefO
namespace Go.Proofs.YtdmgpdanlfmadaaGreat
open Go.RowKit
attribute [local go_sem] ext_cell
theorem all_snoc {l:List Reg} {k:Nat} {x:Reg} {p:Reg→Prop} (hx:l[k]? =some x) (h: ∀r ∈ l.take k,p r) (hp:p x): ∀r ∈ l.take (k+1),p r:=by
 intro r hr
 rw [take_next hx] at hr
 rcases List.mem_append.1 hr with hr |hr
 ·exact h r hr
 ·rw [List.mem_singleton] at hr;subst hr;exact hp
set_option maxRecDepth 100000 in
set_option maxHeartbeats 8000000 in
theorem rSame_val (c:Cfg) (A1 A2 A3 A4 A5:Option Addr) (c1 c2 c3 c4 c5:Nat) (w:World) (hR:CfgR w w.heap.size c A1 A2 A3 A4 A5 c1 c2 c3 c4 c5) (hs:c.small) (hl:okR c.regs) (a b:Int) (v:Bool) (hv:Hid (sameB c.regs a b=v)):Calls Tryz.prog 75 #[cfgV c.frame A1 A2 A3 A4 A5 c.parts.length c.wins.length c.regs.length c.ports.length c.chans.length c1 c2 c3 c4 c5, .int .u64 a, .int .u64 b] w fun e w'=>e= .returned (.bool v)∧Below w.heap.size w w':=by
 obtain ⟨W0,hW,st⟩:=St.start_any hR 29
 have HW:=Lib.hid hW
 have ST0:=Lib.hid st
 have HL:=Lib.hid hl
 have hbd:=hs.bd.r
 clear hR hW st hl
 go_enter Tryz.func75,Tryz.ntmps75
 go_upto_region 1 with (fail)
 rw [HW.out]
 go_wp2
 go_loopw [7] (fun i wr=> ∃k:Nat,k≤c.regs.length∧i= .int .i64 k∧Hid (∀r ∈ c.regs.take k,covR r a=covR r b)∧Hid (Below W0.heap.size W0 wr)) (fun i _=>c.regs.length -(intOf i).toNat)
 case atStart=>exact ⟨0,Nat.zero_le _,rfl,Lib.hid (by simp),Lib.hid (Below.refl _ _)⟩
 case round=>
  obtain ⟨k,hk,rfl,HQ,HB⟩:=hrel
  have STr:=Lib.hid (ST0.out.up HB.out)
  obtain ⟨x0,x1,x2,x3,x4,x5,hz⟩:=STr.out.cells
  by_cases hlt:k <c.regs.length
  ·obtain ⟨x,hx⟩:=get_lt hlt
   have HX:=Lib.hid hx
   have HSP:=Lib.hid (okR_sp HL.out (List.mem_of_getElem? hx))
   obtain ⟨bb,oo,rfl,hbb,g0,g1,g2,g3,g4⟩:=reg_at STr.out.R.regs hx
   have k0:(0:Int)≤(k:Int):=by omega
   have k1:(k:Int) <(c.regs.length:Int):=by omega
   obtain ⟨va,hva⟩: ∃v,covR x a=v:=⟨_,rfl⟩
   obtain ⟨vb,hvb⟩: ∃v,covR x b=v:=⟨_,rfl⟩
   have HVA:=Lib.hid hva
   have HVB:=Lib.hid hvb
   clear hx hva hvb
   go_wp2_with fail
   refine (rSpan_ok x wr).mono ?_
   rintro e w1 ⟨rfl,hb1⟩
   have hal:=below_one w1 (.cells #[.int .u64 x.base, .int .u64 x.size] 94)
   have bk:=Blk.new w1 94 #[.int .u64 x.base, .int .u64 x.size]
   have HB1:=Lib.hid (Below.then_ (Below.then_ HB.out hb1) hal)
   clear hb1 hal g0 g1 g2 g3 g4 hbb x0 x1 x2 x3 x4 x5 hz
   go_upto_region 5 with (fail)
   generalize World.alloc w1 _=W3 at bk HB1 ⊢
   generalize hgx:w1.heap.size=gx at*
   have q0:=bk.cell 0
   have q1:=bk.cell 1
   have qz:=bk.lt
   simp at q0 q1
   clear bk
   refine wp_region_ext (by kernel_rfl) (by kernel_rfl) ?_
   repeat (go_big_quiet_step ((first
    |(go_at_call_of 41 a;exact Calls.quiet_ext (rHasC_val x a va _ HSP.out HVA))
    |(go_at_call_of 41 b;exact Calls.quiet_ext (rHasC_val x b vb _ HSP.out HVB)))))
   refine wpQuiet_nil ?_
   intro xq
   have HB3:=Lib.hid (Below.then_ HB1.out (ext_below W3 xq))
   clear q0 q1 qz
   generalize ext W3 xq=W4 at*
   by_cases hab:va=vb
   ·subst hab
    have HQ2:=Lib.hid (all_snoc (p:=fun r=>covR r a=covR r b) HX.out HQ.out (HVA.out.trans HVB.out.symm))
    cases va
    all_goals
     go_wp2
     go_roundw
     case rel=>exact ⟨k+1,by omega,by go_num,HQ2,HB3⟩
     case measure=>simp [intOf];omega
   ·have HF:=Lib.hid (show v=false from by
     rw [←hv.out]
     rcases Bool.eq_false_or_eq_true (sameB c.regs a b) with h |h
     ·have:=same_iff.1 h x (List.mem_of_getElem? HX.out)
      rw [HVA.out,HVB.out] at this
      exact absurd this hab
     ·exact h)
    have HZ:=Lib.hid (Below.then_ ST0.out.bel HB3.out)
    cases va<;>cases vb<;>first |exact absurd rfl hab |skip
    all_goals
     clear hab
     go_wp2
     go_ret
     exact ⟨by rw [HF.out];rfl,HZ.out⟩
  ·obtain rfl:k=c.regs.length:=by omega
   have HF:=Lib.hid (show v=true from by
    rw [←hv.out,same_iff]
    have:=HQ.out
    rwa [List.take_length] at this)
   have HZ:=Lib.hid (Below.then_ ST0.out.bel HB.out)
   go_wp2
   go_ret
   exact ⟨by rw [HF.out];rfl,HZ.out⟩
theorem insU_len (l:List Int) (x:Int):(insU l x).length≤l.length+1:=by
 unfold insU
 split
 ·omega
 ·rw [List.length_append,List.length_cons]
  have:=congrArg List.length (List.takeWhile_append_dropWhile (p:=fun y=>decide (y≤x)) (l:=l))
  rw [List.length_append] at this
  omega
theorem endsU_len (l:List Int) (r:Reg):(endsU l r).length≤l.length+2:=by
 unfold endsU
 split
 ·have h1:=insU_len (insU l r.base) (lastR r+1)
  have h2:=insU_len l r.base
  omega
 ·have h2:=insU_len l r.base
  omega
theorem fold_len: ∀(l:List Reg) (a:List Int),(l.foldl endsU a).length≤a.length+2*l.length
 | [],a=>by simp
 |r::t,a=>by
  rw [List.foldl_cons,List.length_cons]
  have:=fold_len t (endsU a r)
  have:=endsU_len a r
  omega
theorem bnds_next {l:List Reg} {k:Nat} {x:Reg} (hx:l[k]? =some x):bndsL (l.take (k+1))=endsU (bndsL (l.take k)) x:=by
 unfold bndsL
 rw [take_next hx,List.foldl_append]
 rfl
theorem bnds_len (l:List Reg):(bndsL l).length≤2*l.length:=by
 have:=fold_len l []
 unfold bndsL
 simpa using this
@[reducible] def NumO (w:World) (base:Nat) (v:Value) (l:List Int):Prop:=w.ownsRow base 22 1 v l.length (l.map (Value.int .u64))
theorem rInsert_num {w:World} {base:Nat} {v:Value} {l:List Int} (h:NumO w base v l) (hb:base≤w.heap.size) (hl:l.length≤4194304) (hasc:l.Pairwise (· < ·)) (x:Int) (m:List Int) (hm:Hid (insU l x=m)):
  Calls Tryz.prog 139 #[v, .int .u64 x] w fun e w'=> ∃v',e= .returned v'∧NumO w' base v' m∧Below w.heap.size w w':=by
 obtain ⟨A,c,rfl,h1,_,h2⟩:=own_form h
 refine (rInsert_ok l A c x w hl hasc h1 h2).mono fun e w' ⟨v',he,h3,hbl⟩=>⟨v',he, ?_,hbl⟩
 rcases h3 with ⟨rfl,h4⟩ |h4
 ·rw [hm.out] at h4
  subst h4
  exact own_below h hbl
 ·rw [hm.out] at h4
  exact own_lessM h4 hb
set_option maxRecDepth 100000 in
set_option maxHeartbeats 8000000 in
theorem rBounds_ok (c:Cfg) (A1 A2 A3 A4 A5:Option Addr) (c1 c2 c3 c4 c5:Nat) (w:World) (hR:CfgR w w.heap.size c A1 A2 A3 A4 A5 c1 c2 c3 c4 c5) (hs:c.small) (hl:okR c.regs):Calls Tryz.prog 74 #[cfgV c.frame A1 A2 A3 A4 A5 c.parts.length c.wins.length c.regs.length c.ports.length c.chans.length c1 c2 c3 c4 c5] w fun e w'=> ∃v,e= .returned v∧NumO w' w.heap.size v (bndsL c.regs)∧Below w.heap.size w w':=by
 obtain ⟨W0,hW,st⟩:=St.start_any hR 29
 have HW:=Lib.hid hW
 have ST0:=Lib.hid st
 have HL:=Lib.hid hl
 have hbd:=hs.bd.r
 clear hR hW st hl
 go_enter Tryz.func74,Tryz.ntmps74
 go_upto_region 1 with (fail)
 rw [HW.out]
 go_wp2
 go_loopw [3,4] (fun v i wr=> ∃k:Nat,k≤c.regs.length∧i= .int .i64 k∧Hid (NumO wr w.heap.size v (bndsL (c.regs.take k)))∧Hid (Below W0.heap.size W0 wr)) (fun _ i _=>c.regs.length -(intOf i).toNat)
 case atStart=>exact ⟨0,Nat.zero_le _,rfl,Lib.hid (World.ownsRow_nil _ _ _ _),Lib.hid (Below.refl _ _)⟩
 case round=>
  obtain ⟨k,hk,rfl,HN,HB⟩:=hrel
  have STr:=Lib.hid (ST0.out.up HB.out)
  obtain ⟨x0,x1,x2,x3,x4,x5,hz⟩:=STr.out.cells
  by_cases hlt:k <c.regs.length
  ·obtain ⟨x,hx⟩:=get_lt hlt
   have HX:=Lib.hid (bnds_next hx)
   have HSP:=Lib.hid (okR_sp HL.out (List.mem_of_getElem? hx))
   obtain ⟨hr0,hr1,hr2⟩:=HL.out x (List.mem_of_getElem? hx)
   obtain ⟨bb,oo,rfl,hbb,g0,g1,g2,g3,g4⟩:=reg_at STr.out.R.regs hx
   have k0:(0:Int)≤(k:Int):=by omega
   have k1:(k:Int) <(c.regs.length:Int):=by omega
   have hlen:=bnds_len (c.regs.take k)
   rw [List.length_take] at hlen
   have HAS:=Lib.hid (bnds_asc (c.regs.take k))
   obtain ⟨o,ho⟩: ∃o,bndsL (c.regs.take k)=o:=⟨_,rfl⟩
   rw [ho] at HN HX hlen HAS
   obtain ⟨o1,ho1⟩: ∃o1,insU o x.base=o1:=⟨_,rfl⟩
   have HO1:=Lib.hid ho1
   have hlen1:=insU_len o x.base
   have HAS1:=Lib.hid (insU_asc (x:=x.base) HAS.out)
   rw [ho1] at hlen1 HAS1
   obtain ⟨la,hla⟩: ∃v,lastR x=v:=⟨_,rfl⟩
   have HLA:=Lib.hid hla
   rw [hla] at hr1 hr2
   have hr3:la≤18446744073709551615:=hr2
   have HEN:=Lib.hid (show endsU o x=if la <topA then insU o1 (la+1) else o1 by unfold endsU;rw [hla,ho1])
   clear hx ho ho1 hla hr2
   go_wp2_with fail
   refine (rSpan_ok x wr).mono ?_
   rintro e w1 ⟨rfl,hb1⟩
   have hal:=below_one w1 (.cells #[.int .u64 x.base, .int .u64 x.size] 94)
   have bk:=Blk.new w1 94 #[.int .u64 x.base, .int .u64 x.size]
   have HB1:=Lib.hid (Below.then_ (Below.then_ HB.out hb1) hal)
   have HN1:=Lib.hid (own_below (own_below HN.out hb1) hal)
   clear hb1 hal g0 g1 g2 g3 g4 hbb x0 x1 x2 x3 x4 x5 hz
   go_upto_region 6 with (fail)
   generalize World.alloc w1 _=W3 at bk HB1 HN1 ⊢
   generalize hgx:w1.heap.size=gx at*
   have HBK:=Lib.hid bk
   have q0:=bk.cell 0
   have qz:=bk.lt
   simp at q0
   clear bk
   go_wp2_with fail
   refine (rInsert_num HN1.out (by have:=ST0.out.bel.size;have:=HB1.out.size;omega) (by omega) HAS.out x.base o1 HO1).mono ?_
   rintro e w4 ⟨v4,rfl,hn4,hb4⟩
   obtain ⟨A4,c4',rfl,_,_,_⟩:=own_form hn4
   have HN4:=Lib.hid hn4
   have HB4:=Lib.hid (Below.then_ HB1.out hb4)
   have HBK4:=Lib.hid (HBK.out.below hb4 HBK.out.lt)
   clear hn4 hb4 q0 qz
   have q0:=HBK4.out.cell 0
   have q1:=HBK4.out.cell 1
   have qz:=HBK4.out.lt
   simp at q0 q1
   go_wp2_with fail
   refine (rLastC_val x la w4 HSP.out HLA).mono ?_
   rintro e w5 ⟨rfl,hb5⟩
   have HN5:=Lib.hid (own_below HN4.out hb5)
   have HB5:=Lib.hid (Below.then_ HB4.out hb5)
   have HBK5:=Lib.hid (HBK4.out.below hb5 HBK4.out.lt)
   clear hb5 q0 q1 qz
   go_wp2_with fail
   refine (rTop_ok w5).mono ?_
   rintro e w6 ⟨rfl,hb6⟩
   have HN6:=Lib.hid (own_below HN5.out hb6)
   have HB6:=Lib.hid (Below.then_ HB5.out hb6)
   have HBK6:=Lib.hid (HBK5.out.below hb6 HBK5.out.lt)
   clear hb6
   by_cases hlt2:la <18446744073709551615
   ·have HE2:=Lib.hid (show insU o1 (la+1)=endsU o x by rw [HEN.out,if_pos (show la <topA from hlt2)])
    have hwl:IntKind.u64.wrap (la+1)=la+1:=by rw [IntKind.wrap_u64];omega
    have q0:=HBK6.out.cell 0
    have q1:=HBK6.out.cell 1
    have qz:=HBK6.out.lt
    simp at q0 q1
    go_wp2_with fail
    refine (rLastC_val x la w6 HSP.out HLA).mono ?_
    rintro e w7 ⟨rfl,hb7⟩
    have HN7:=Lib.hid (own_below HN6.out hb7)
    have HB7:=Lib.hid (Below.then_ HB6.out hb7)
    clear hb7 q0 q1 qz
    go_wp2_with fail
    refine (rInsert_num HN7.out (by have:=ST0.out.bel.size;have:=HB7.out.size;omega) (by omega) HAS1.out (la+1) _ HE2).mono ?_
    rintro e w8 ⟨v8,rfl,hn8,hb8⟩
    have HN8:=Lib.hid (show NumO w8 w.heap.size v8 (bndsL (c.regs.take (k+1))) by rw [HX.out];exact hn8)
    have HB8:=Lib.hid (Below.then_ HB7.out hb8)
    clear hn8 hb8
    go_wp2
    go_roundw
    case rel=>exact ⟨k+1,by omega,by go_num,HN8,HB8⟩
    case measure=>simp [intOf];omega
   ·have HN8:=Lib.hid (show NumO w6 w.heap.size _ (bndsL (c.regs.take (k+1))) by rw [HX.out,HEN.out,if_neg (show ¬la <topA from hlt2)];exact HN6.out)
    go_wp2
    go_roundw
    case rel=>exact ⟨k+1,by omega,by go_num,HN8,HB6⟩
    case measure=>simp [intOf];omega
  ·obtain rfl:k=c.regs.length:=by omega
   have HF:=Lib.hid (show NumO wr w.heap.size u3 (bndsL c.regs) by have:=HN.out;rwa [List.take_length] at this)
   have HZ:=Lib.hid (Below.then_ ST0.out.bel HB.out)
   obtain ⟨A,cc,rfl,_,_,_⟩:=own_form HN.out
   go_wp2
   go_ret
   exact ⟨_,rfl,HF.out,HZ.out⟩
end Go.Proofs.YtdmgpdanlfmadaaGreat
