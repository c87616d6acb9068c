/-
  New of package owner, walked: nil, or a map whose segments are those of the sweep. No condition but on sizes.
-/
import Derived.Laws.EntriesVeiled
import Derived.Test.YtdmgpdanlfmadaaGreatOwnG
import Derived.Test.YtdmgpdanlfmadaaGreatOwnA
import Derived.Test.YtdmgpdanlfmadaaGreatNrW
namespace Go.Proofs.YtdmgpdanlfmadaaGreat
open Go.RowKit Go.Shelf
theorem rightM_okR {c:Cfg} (hok:c.ok) (h:rightM c=true):okR c.regs:=fun r hr=>by
 have h1:=rightM_sp hok h r hr
 have h2:=h1.1;have h3:=h1.2.1;have h4:=h1.2.2
 unfold lastR topA
 omega
structure MapO (W:World) (lo mb:Nat) (L:List SE):Prop where
 lb:lo≤mb
 mp: ∃sv,Blk W mb 62 #[sv]∧W.ownsRow lo 59 2 sv L.length (L.flatMap SE.cells)
 rs: ∀e ∈ L,W.ownsRow lo 66 6 e.v e.s.rs.length (e.s.rs.flatMap Opn.cells)
theorem NSt.map {W:World} {mb mc qn B0 B:Nat} {sv v:Value} {L:List SE} {now:List Opn} (h:NSt W mb mc qn B0 B sv v L now):MapO W B0 mb L:=
 ⟨h.lb.1,⟨sv,h.mp,h.row⟩,fun e he=>own_lessM (h.segs.own e he) h.lb.2.2.2.1⟩
theorem MapO.base {W:World} {lo lo2 mb:Nat} {L:List SE} (h:MapO W lo mb L) (hl:lo2≤lo):MapO W lo2 mb L:=by
 obtain ⟨sv,h1,h2⟩:=h.mp
 exact ⟨Nat.le_trans hl h.lb,⟨sv,h1,own_lessM h2 hl⟩,fun e he=>own_lessM (h.rs e he) hl⟩
theorem MapO.up {W V:World} {lo mb:Nat} {L:List SE} (h:MapO W lo mb L) (hb:Below W.heap.size W V):MapO V lo mb L:=by
 obtain ⟨sv,h1,h2⟩:=h.mp
 exact ⟨h.lb,⟨sv,h1.below hb h1.lt,own_below h2 hb⟩,fun e he=>own_below (h.rs e he) hb⟩
theorem SwM.up {w0 W V:World} {mb mc qn B0 B:Nat} {l:List Reg} {i:Nat} {T:Int} {g now:List Opn} (h:SwM w0 W mb mc qn B0 B l i T g now) (hb:Below W.heap.size W V):SwM w0 V mb mc qn B0 B l i T g now:=by
 obtain ⟨sv,v,L0,e,hn,h1,h2⟩:=h.st
 exact ⟨⟨sv,v,L0,e,hn.up hb,h1,h2⟩,h.heap,h.ok,h.nd,h.stp.trans (.of_below hb (by have:=hn.lb;omega))⟩
theorem own_lit1 (w:World) (t:TypeId) (l:List Value) (sz:Nat) (hl:l.length=sz):(w.alloc (.cells l.toArray t)).ownsRow w.heap.size t sz (.slice (some ⟨w.heap.size,0,none⟩) 1 1) 1 l:=
 ⟨by omega, .inr ⟨w.heap.size,1,l.toArray,rfl,Nat.le_refl _,heap_alloc_new w _,Nat.le_refl _,by decide,by simp [hl],by rw [Nat.one_mul];exact List.take_of_length_le (by simp [hl])⟩⟩
theorem ownNew_start (w:World): ∃W,((((w.alloc (.cells #[.int .u64 0, .slice none 0 0] 59)).alloc (.cells #[.slice (some ⟨w.heap.size,0,none⟩) 1 1] 62)).alloc (.cells #[.pointer (some ⟨w.heap.size+1,0,none⟩)] 32)).alloc (.cells #[.slice none 0 0] 63))=W∧Below w.heap.size w W∧W.heap.size=w.heap.size+1+1+1+1∧
  (∀l,SwM w W (w.heap.size+1) (w.heap.size+1+1) (w.heap.size+1+1+1) w.heap.size (w.heap.size+1+1+1+1) l 0 0 [] []):=by
 have hb: ∀o1 o2 o3 o4,Below w.heap.size w ((((w.alloc o1).alloc o2).alloc o3).alloc o4):=fun _ _ _ _=>Below.then_ (Below.then_ (Below.then_ (below_one _ _) (below_one _ _)) (below_one _ _)) (below_one _ _)
 refine ⟨_,rfl,hb _ _ _ _,by simp,fun l=>⟨⟨.slice (some ⟨w.heap.size,0,none⟩) 1 1, .slice none 0 0,[],⟨⟨0,[]⟩,none,0⟩,⟨?_, ?_, ?_,⟨?_, ?_⟩,⟨?_,World.ownsRow_nil _ _ _ _,by omega,by simp⟩,by simp only [World.size_alloc];omega⟩,rfl,SwInv.start l⟩,fun j h0 h1=>absurd h1 (by simp),by simp,by simp, .of_below (hb _ _ _ _) (Nat.le_refl _)⟩⟩
 ·have h:=Blk.new (w.alloc (.cells #[.int .u64 0, .slice none 0 0] 59)) 62 #[.slice (some ⟨w.heap.size,0,none⟩) 1 1]
  have h2:=(h.alloc (.cells #[.pointer (some ⟨w.heap.size+1,0,none⟩)] 32)).alloc (.cells #[.slice none 0 0] 63)
  simpa using h2
 ·have h:=Blk.new ((w.alloc (.cells #[.int .u64 0, .slice none 0 0] 59)).alloc (.cells #[.slice (some ⟨w.heap.size,0,none⟩) 1 1] 62)) 32 #[.pointer (some ⟨w.heap.size+1,0,none⟩)]
  have h2:=h.alloc (.cells #[.slice none 0 0] 63)
  simpa using h2
 ·have h:=own_lit1 w 59 [.int .u64 0, .slice none 0 0] 2 rfl
  exact own_below h (Below.then_ (Below.then_ (below_one _ _) (below_one _ _)) (below_one _ _))
 ·intro e he
  rw [List.nil_append,List.mem_singleton] at he
  subst he
  exact World.ownsRow_nil _ _ _ _
 ·intro e he g hg
  rw [List.nil_append,List.mem_singleton] at he
  subst he
  simp [Value.ownBlock] at hg
 ·have h:=Blk.new (((w.alloc (.cells #[.int .u64 0, .slice none 0 0] 59)).alloc (.cells #[.slice (some ⟨w.heap.size,0,none⟩) 1 1] 62)).alloc (.cells #[.pointer (some ⟨w.heap.size+1,0,none⟩)] 32)) 63 #[.slice none 0 0]
  simpa using h
def Cfg.justR (c:Cfg):Cfg:=⟨0,[],[],c.regs,[],[]⟩
theorem justR_R {w:World} {B:Nat} {c:Cfg} {A1 A2 A3 A4 A5:Option Addr} {c1 c2 c3 c4 c5:Nat} (h:CfgR w B c A1 A2 A3 A4 A5 c1 c2 c3 c4 c5):CfgR w B c.justR none none A3 none none 0 0 c3 0 0:=
 ⟨Rd.nil,Rd.nil,h.regs,Rd.nil,⟨[],rfl,Rd.nil⟩,⟨Nat.le_refl _,Nat.zero_le _⟩,⟨Nat.le_refl _,Nat.zero_le _⟩,h.cap3,⟨Nat.le_refl _,Nat.zero_le _⟩,⟨Nat.le_refl _,Nat.zero_le _⟩⟩
theorem keyReg_base {x y:Reg} (h:cmpL (keyReg x) (keyReg y)≤0):x.base≤y.base:=by
 by_cases hlt:x.base≤y.base
 ·exact hlt
 ·exfalso
  unfold keyReg at h
  have h1:Lib.compareInt x.base y.base=1:=by
   unfold Lib.compareInt
   rw [if_neg (by omega),if_pos (by omega)]
  simp [cmpL,h1] at h
theorem normReg_sorted (l:List Reg) {k:Nat} {x y:Reg} (hx:(normK keyReg l)[k]? =some x) (hy:(normK keyReg l)[k+1]? =some y):x.base≤y.base:=by
 have h:=normK_asc (key:=keyReg) l
 unfold Asc at h
 rw [List.pairwise_iff_getElem] at h
 obtain ⟨hx1,rfl⟩:=List.getElem?_eq_some_iff.1 hx
 obtain ⟨hy1,rfl⟩:=List.getElem?_eq_some_iff.1 hy
 exact keyReg_base (h k (k+1) hx1 hy1 (by omega))
theorem memCheck_bad (c:Cfg) (A1 A2 A3 A4 A5:Option Addr) (c1 c2 c3 c4 c5:Nat) (w:World) (hR:CfgR w w.heap.size c A1 A2 A3 A4 A5 c1 c2 c3 c4 c5) (hs:c.small) (hok:c.ok) (v:Bool) (hv:rightM c=v):Calls Tryz.prog 10 #[cfgV c.frame A1 A2 A3 A4 A5 c.parts.length c.wins.length c.regs.length c.ports.length c.chans.length c1 c2 c3 c4 c5] w fun e w'=>Below w.heap.size w w'∧((v=true∧e= .returned (fltV ⟨0,0,0⟩))∨(v=false∧ ∃k p a,k≠0∧e= .returned (fltV ⟨k,p,a⟩))):=by
 refine (memCheck_ok c A1 A2 A3 A4 A5 c1 c2 c3 c4 c5 w hR hs hok).mono fun e w' ⟨he,hb⟩=>⟨hb, ?_⟩
 cases v
 ·refine .inr ⟨rfl, ?_⟩
  unfold rightM at hv
  have h1:=of_decide_eq_false hv
  refine ⟨(memBad c).1,3,(memBad c).2,h1, ?_⟩
  rw [he]
  unfold memFlt
  rw [if_neg h1]
 ·refine .inl ⟨rfl, ?_⟩
  rw [he,memFlt_right.2 hv]
  rfl
theorem normJ_ok (c:Cfg) (l:List Reg) (hl:normK keyReg c.regs=l) (A1 A2 A3 A4 A5:Option Addr) (c1 c2 c3 c4 c5:Nat) (w:World) (hR:CfgR w w.heap.size c A1 A2 A3 A4 A5 c1 c2 c3 c4 c5) (ht:c.regs.length≤1048576):
  Calls Tryz.prog 27 #[.agg #[.int .u64 0, .slice none 0 0, .slice none 0 0, .slice A3 c.regs.length c3, .slice none 0 0, .slice none 0 0]] w fun e w'=> ∃(B1 B2 B3 B4 B5:Option Addr) (b1 b2 b3 b4 b5:Nat),e= .returned (.agg #[.int .u64 0, .slice B1 0 b1, .slice B2 0 b2, .slice B3 l.length b3, .slice B4 0 b4, .slice B5 0 b5])∧w'.ownsRow w.heap.size 41 5 (.slice B3 l.length b3) l.length (l.flatMap Reg.cells)∧Below w.heap.size w w':=by
 refine Calls.mono (show Calls Tryz.prog 27 #[.agg #[.int .u64 0, .slice none 0 0, .slice none 0 0, .slice A3 c.regs.length c3, .slice none 0 0, .slice none 0 0]] w _ from normal_ok c.justR none none A3 none none 0 0 c3 0 0 w (justR_R hR) (by simp [Cfg.total,Cfg.justR,sumDests];omega)) ?_
 rintro e w' ⟨B1,B2,B3,B4,B5,b1,b2,b3,b4,b5,he,ho,hb⟩
 have hn:c.regs.length=l.length:=by rw [←hl,(normK_perm (key:=keyReg) c.regs).length_eq]
 refine ⟨B1,B2,B3,B4,B5,b1,b2,b3,b4,b5, ?_, ?_,hb⟩
 ·rw [he, ←hn];rfl
 ·have h3:=ho.o3
  rw [show c.justR.norm.regs=l from hl] at h3
  exact h3
theorem field_regs (B1 B2 B3 B4 B5:Option Addr) (m1 m2 m3 m4 m5 b1 b2 b3 b4 b5:Nat) (w:World):(Instr.field 29 (.agg #[.int .u64 0, .slice B1 m1 b1, .slice B2 m2 b2, .slice B3 m3 b3, .slice B4 m4 b4, .slice B5 m5 b5]) 3).run Tryz.prog w= .ok (.slice B3 m3 b3) w:=by kernel_rfl
set_option maxRecDepth 100000 in
set_option maxHeartbeats 16000000 in
theorem newO_ok (c:Cfg) (A1 A2 A3 A4 A5:Option Addr) (c1 c2 c3 c4 c5:Nat) (w:World) (hR:CfgR w w.heap.size c A1 A2 A3 A4 A5 c1 c2 c3 c4 c5) (hs:c.small) (hok:c.ok) (v:Bool) (hv:rightM c=v):Calls Tryz.prog 7 #[cfgV c.frame A1 A2 A3 A4 A5 c.parts.length c.wins.length c.regs.length c.ports.length c.chans.length c1 c2 c3 c4 c5] w fun e w'=>Below w.heap.size w w'∧((v=false∧e= .returned (.pointer none))∨(v=true∧ ∃mb L,e= .returned (.pointer (some ⟨mb,0,none⟩))∧MapO w' w.heap.size mb L∧SegsOk (normK keyReg c.regs) (L.map (·.s)))):=by
 obtain ⟨W0,hW,st⟩:=St.start_any hR 29
 have HW:=Lib.hid hW
 have ST:=Lib.hid st
 have HS:=Lib.hid hs
 have HOK:=Lib.hid hok
 have HV:=Lib.hid hv
 have hent1: ∀a w,(callFunc 20 a).run Tryz.prog w= .ok (.enter 20 a) w:=enters_of Tryz.func20 (by kernel_rfl) rfl
 have hent2: ∀a w,(callFunc 24 a).run Tryz.prog w= .ok (.enter 24 a) w:=enters_of Tryz.func24 (by kernel_rfl) rfl
 have hbd:=hs.bd.r
 clear hR hW st hs hok hv
 go_enter Tryz.func7,Tryz.ntmps7
 go_upto_region 1 with (fail)
 rw [HW.out]
 obtain ⟨x0,x1,x2,x3,x4,x5,hz⟩:=ST.out.cells
 go_wp2_with fail
 refine (memCheck_bad c A1 A2 A3 A4 A5 c1 c2 c3 c4 c5 W0 ST.out.R HS.out HOK.out v HV.out).mono ?_
 rintro e w1 ⟨hb1,⟨rfl,rfl⟩ |⟨rfl,k,p,a,hk,rfl⟩⟩
 ·have ST1:=Lib.hid (ST.out.up hb1)
  obtain ⟨W2,hW2,hb2,hsz2,hsw⟩:=ownNew_start w1
  have HW2:=Lib.hid hW2
  have hb3:=below_one W2 (.cells #[cutV (w1.heap.size+1+1+1) (w1.heap.size+1+1)] 70)
  have ST2:=Lib.hid ((ST1.out.up hb2).up hb3)
  have HSW:=Lib.hid ((hsw (normK keyReg c.regs)).up hb3)
  have HCK:=Lib.hid (Blk.new W2 70 #[cutV (w1.heap.size+1+1+1) (w1.heap.size+1+1)])
  have HB2:=Lib.hid (Below.then_ hb2 hb3)
  have HSZ:=Lib.hid hsz2
  clear x0 x1 x2 x3 x4 x5 hz hW2 hb2 hb3 hsz2 hsw
  go_upto_region 5 with (fail)
  rw [HW2.out]
  clear HW2
  have hsz3:=HSZ.out
  have hcl:(W2.alloc (.cells #[.nilFunc] 70)).cell? ⟨w1.heap.size+1+1+1+1,0,none⟩=some .nilFunc:=by rw [←hsz3];simp
  have hfr:(W2.alloc (.cells #[.nilFunc] 70)).frozen? ⟨w1.heap.size+1+1+1+1,0,none⟩=false:=by rw [←hsz3];simp
  go_upto_region 7 with (fail)
  clear hcl hfr hsz3
  generalize World.alloc W2 _=W3 at ST2 HSW HCK HB2 ⊢
  have HNN:=Lib.hid (Below.then_ (Below.then_ ST.out.bel hb1) HB2.out)
  clear hb1
  have HN1:=Lib.hid (show w.heap.size≤w1.heap.size from ST1.out.bel.size)
  generalize w1.heap.size=n at*
  rw [HSZ.out] at HCK
  clear HSZ ST1
  obtain ⟨x0,x1,x2,x3,x4,x5,hz⟩:=ST2.out.cells
  go_wp2_with fail
  obtain ⟨l,hl⟩: ∃l,normK keyReg c.regs=l:=⟨_,rfl⟩
  refine (normJ_ok c l hl A1 A2 A3 A4 A5 c1 c2 c3 c4 c5 W3 ST2.out.R hbd).mono ?_
  rintro e w4 ⟨B1,B2,B3,B4,B5,b1,b2,b3,b4,b5,rfl,ho4,hb4⟩
  have hln:l.length≤1048576:=by rw [←hl,(normK_perm (key:=keyReg) c.regs).length_eq];exact hbd
  have HO4:=Lib.hid ho4
  have HSW4:=Lib.hid (HSW.out.up hb4)
  have HCK4:=Lib.hid (HCK.out.below hb4 HCK.out.lt)
  have HNN4:=Lib.hid (Below.then_ HNN.out hb4)
  have HMEM:=Lib.hid (show ∀(k:Nat) (x:Reg),(normK keyReg c.regs)[k]? =some x→okO ⟨x,k⟩∧x.base≤lastR x∧x.base≤topA from fun k x hx=>by
   have hm:x ∈ c.regs:=(normK_perm (key:=keyReg) c.regs).mem_iff.1 (List.mem_of_getElem? hx)
   have h1:=rightM_sp HOK.out HV.out x hm
   have h2:=h1
   unfold okSp at h2
   exact ⟨h1,by unfold lastR;omega,by unfold topA;omega⟩)
  have HSO:=Lib.hid (fun (k:Nat) (x y:Reg)=>normReg_sorted c.regs (k:=k) (x:=x) (y:=y))
  rw [hl] at HSW HSW4 HMEM HSO
  have HLE:=Lib.hid hl
  clear x0 x1 x2 x3 x4 x5 hz ho4 hb4 hl hbd
  have hfd:=field_regs B1 B2 B3 B4 B5 0 0 l.length 0 0 b1 b2 b3 b4 b5
  go_wp2
  clear hfd
  go_loopw [25] (fun i wr=> ∃(k:Nat) (T:Int) (now:List Opn),k≤l.length∧i= .int .i64 k∧Hid (SwM w1 wr (n+1) (n+1+1) (n+1+1+1) n (n+1+1+1+1) l k T now now)∧Hid (∀r,l[k]? =some r→T≤r.base)∧Hid (Stp n w4 wr)) (fun i _=>l.length -(intOf i).toNat)
  case atStart=>exact ⟨0,0,[],Nat.zero_le _,rfl,HSW4,Lib.hid (fun r hr=>by
   have h1:=(HMEM.out 0 r hr).1
   unfold okO okSp at h1
   exact h1.1),Lib.hid (Stp.refl _ _ (by obtain ⟨_,_,_,_,hn,_⟩:=HSW4.out.st;have:=hn.lb;omega))⟩
  case round=>
   obtain ⟨k,T,now,hk,rfl,HSR,HTT,HSTP⟩:=hrel
   by_cases hlt:k <l.length
   ·obtain ⟨x,hx⟩:=get_lt hlt
    have hro:=HSTP.out.own HO4.out (by decide) (by decide) (by decide) (by decide)
    obtain ⟨b,o,rfl,hb,g0,g1,g2,g3,g4⟩:=reg_at (own_slice hro).2 hx
    have k0:(0:Int)≤(k:Int):=by omega
    have k1:(k:Int) <(l.length:Int):=by omega
    have HX:=Lib.hid hx
    have HMX:=Lib.hid (HMEM.out k x hx)
    have hal:=below_one wr (.cells #[.int .u64 x.base, .int .u64 x.size, .int .u16 x.part, .int .u8 x.rights, .bool x.shared] 41)
    have bk:=Blk.new wr 41 #[.int .u64 x.base, .int .u64 x.size, .int .u16 x.part, .int .u8 x.rights, .bool x.shared]
    have HSR1:=Lib.hid (HSR.out.up hal)
    have HS1:=Lib.hid (HSTP.out.trans (Stp.of_below (B0:=n) hal (by obtain ⟨_,_,_,_,hn,_⟩:=HSR.out.st;have:=hn.lb;omega)))
    clear hx hro hal
    go_upto_region 10 with (fail)
    generalize World.alloc wr _=W5 at bk HSR1 HS1 ⊢
    have HBX:=Lib.hid bk
    generalize hgx:wr.heap.size=gx at*
    have q0:=bk.cell 0
    have qz:=bk.lt
    simp at q0
    clear bk g0 g1 g2 g3 g4 hb
    go_wp2_with fail
    refine (finB_ok HSR1.out (HS1.out.blk HCK4.out (by decide) (by decide) (by decide) (by decide)) (by omega) (HTT.out x HX.out) HMX.out.2.2).mono ?_
    rintro e w6 ⟨rfl,T6,now6,hsw6,hT6,hno6,hst6⟩
    have HS6:=Lib.hid (HS1.out.trans hst6)
    have HBX6:=Lib.hid (hst6.blk HBX.out (by decide) (by decide) (by decide) (by decide))
    have HSW6:=Lib.hid hsw6
    have HT6:=Lib.hid (And.intro hT6 hno6)
    obtain ⟨sv,v,L0,e,hn6,heT,hinv⟩:=hsw6.st
    have HN6:=Lib.hid hn6
    have HET:=Lib.hid heT
    have HINV:=Lib.hid hinv
    have hnl:now6.length <4194303:=by have:=hinv.cnt;omega
    have q0:=HBX6.out.cell 0
    have q1:=HBX6.out.cell 1
    have q2:=HBX6.out.cell 2
    have q3:=HBX6.out.cell 3
    have q4:=HBX6.out.cell 4
    have qz:=HBX6.out.lt
    simp at q0 q1 q2 q3 q4
    clear hsw6 hT6 hno6 hst6 hn6 heT hinv
    go_wp2_with fail
    refine (oHPush_ok HN6.out.q (fun y hy=>(HSW6.out.ok y hy).1) ⟨x,k⟩ HMX.out.1 hnl (by have:=HN6.out.lb;omega) HSW6.out.heap).mono ?_
    rintro r w7 ⟨rfl,v7,now7,hq7,hs7,hp7,hh7⟩
    have HN7:=Lib.hid (HN6.out.heap hq7 hs7)
    have hst7:=HN6.out.heapS hs7
    have HS7:=Lib.hid (HS6.out.trans hst7)
    have HT7:=Lib.hid (HSW6.out.stp.trans hst7)
    have HBX7:=Lib.hid (hst7.blk HBX6.out (by decide) (by decide) (by decide) (by decide))
    have HP7:=Lib.hid (hp7.trans (List.perm_append_singleton _ _))
    have HH7:=Lib.hid hh7
    have HCK7:=Lib.hid (HS7.out.blk HCK4.out (by decide) (by decide) (by decide) (by decide))
    clear hq7 hs7 hst7 hp7 hh7 q0 q1 q2 q3 q4 qz
    have HOK7:=Lib.hid (show ∀y ∈ now7,okO y∧y.k <1048577 from fun y hy=>by
     rcases List.mem_cons.1 (HP7.out.mem_iff.1 hy) with rfl |h9
     ·exact ⟨HMX.out.1,by show k <1048577;omega⟩
     ·exact HSW6.out.ok y h9)
    have HND7:=Lib.hid (show (now7.map (·.k)).Nodup from by
     rw [(HP7.out.map (·.k)).nodup_iff,List.map_cons,List.nodup_cons]
     refine ⟨fun h9=> ?_,HSW6.out.nd⟩
     obtain ⟨y,hy,hyk⟩:=List.mem_map.1 h9
     have h10:=mem_opns.1 (HINV.out.sub y hy).1
     have hyk:y.k=k:=hyk
     rw [hyk,List.getElem?_take,if_neg (by omega)] at h10
     cases h10)
    have q0:=HBX7.out.cell 0
    have qz:=HBX7.out.lt
    have c0:=HCK7.out.cell 0
    have cz:=HCK7.out.lt
    simp at q0 c0
    have hLb:L0.length≤4194304:=by have:=HINV.out.cnt;rw [List.length_map] at this;omega
    go_wp2_with fail
    refine (cut_ok HN7.out hLb (fun y hy=>by have:=(HOK7.out y hy).2;omega) HND7.out x.base).mono ?_
    rintro r w8 ⟨rfl,hcut⟩
    have hbg:=SwM.begin_ (w0:=w1) HINV.out HET.out HX.out HMX.out.2.1 HT6.out.1 HMX.out.2.2 (fun o ho=>HT6.out.2 o ho) HP7.out hcut HH7.out HOK7.out HND7.out HT7.out
    have HSW8:=Lib.hid hbg.1
    have HS8:=Lib.hid (HS7.out.trans hbg.2)
    clear hcut hbg q0 qz c0 cz
    go_wp2
    go_roundw
    case rel=>exact ⟨k+1,x.base,now7,by omega,by go_num,HSW8,Lib.hid (fun r hr=>HSO.out k x r HX.out hr),HS8⟩
    case measure=>simp [intOf];omega
   ·obtain rfl:k=l.length:=by omega
    have HCKr:=Lib.hid (HSTP.out.blk HCK4.out (by decide) (by decide) (by decide) (by decide))
    go_wp2_with fail
    refine (finA_ok HSR.out HCKr.out hln).mono ?_
    rintro e w6 ⟨rfl,T6,g6,hsw6,hg6,hst6⟩
    obtain ⟨sv,v,L,hnst,hsok⟩:=hsw6.done hg6
    obtain ⟨m0,m1,m2,mz0,mz1,mz2⟩:=hnst.cells
    have HM:=Lib.hid hnst.map
    have HSK:=Lib.hid hsok
    have HBE:=Lib.hid (HNN4.out.trans ((HSTP.out.trans hst6).bel.mono (by have:=HN1.out;omega)))
    clear hsw6 hg6 hst6 hnst hsok m0 m2
    go_wp2
    go_ret
    exact ⟨HBE.out,n+1,rfl,L,HM.out.base HN1.out,by rw [HLE.out];exact HSK.out⟩
 ·have HB1:=Lib.hid (Below.then_ ST.out.bel hb1)
  clear x0 x1 x2 x3 x4 x5 hz hb1
  go_wp2
  go_ret
  exact ⟨HB1.out,rfl⟩
end Go.Proofs.YtdmgpdanlfmadaaGreat
