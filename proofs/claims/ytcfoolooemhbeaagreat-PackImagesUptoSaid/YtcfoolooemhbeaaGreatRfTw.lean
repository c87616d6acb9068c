/-
  Twice of the reference of layer 11, walked.
-/
import Derived.BigQuiet
import Derived.Test.YtcfoolooemhbeaaGreatBoxN
import Derived.Test.YtcfoolooemhbeaaGreatTwcW
namespace Go.Proofs.YtcfoolooemhbeaaGreat
open Go.RowKit
attribute [local go_sem] ext_cell
theorem int_rd {w:World} {B n:Nat} {A:Option Addr} {q:IntKind} {l:List Int} (h:Rd w B 1 A n (l.map (Value.int q))) (hn:n=l.length) {k:Nat} {x:Int} (hk:l[k]? =some x): ∃b o,A=some ⟨b,o,none⟩∧b <B∧w.cell? ⟨b,o+k,none⟩=some (.int q x):=by
 have hlt:k <l.length:=(List.getElem?_eq_some_iff.1 hk).1
 obtain ⟨b,o,e,hb,hc⟩:=h.2 (by omega)
 exact ⟨b,o,e,hb,hc k _ (by rw [List.getElem?_map,hk];rfl)⟩
set_option maxRecDepth 100000 in
set_option maxHeartbeats 1000000 in
theorem rEqual11_ok (l m:List Int) (n1 n2:Nat) (h1:n1=l.length) (h2:n2=m.length) (A B:Option Addr) (a b:Nat) (w:World) (v:Bool) (hv:Hid (decide (l=m)=v)) (hl:n1≤16777216) (hA:Rd w w.heap.size 1 A n1 (l.map (Value.int .u64))) (hB:Rd w w.heap.size 1 B n2 (m.map (Value.int .u64))):
  Calls Tryz.prog 59 #[.slice A n1 a, .slice B n2 b] w fun e w'=>e= .returned (.bool v)∧Below w.heap.size w w':=by
 have HA:=Lib.hid hA
 have HB:=Lib.hid hB
 have HL:=Lib.hid h1
 have HM:=Lib.hid h2
 clear hA hB
 by_cases hn:n1=n2
 ·subst hn
  clear h1 h2
  go_enter Tryz.func59,Tryz.ntmps59
  go_wp2
  go_loopw [5] (fun i wr=> ∃k:Nat,k≤n1∧i= .int .i64 k∧Hid (l.take k=m.take k)∧Hid (Below w.heap.size w wr)) (fun i _=>n1 -(intOf i).toNat)
  case atStart=>exact ⟨0,Nat.zero_le _,rfl,Lib.hid rfl,Lib.hid (Below.refl _ _)⟩
  case round=>
   obtain ⟨k,hk,rfl,HT,HW⟩:=hrel
   by_cases hlt:k <n1
   ·obtain ⟨x,hx⟩:=get_lt (l:=l) (k:=k) (by rw [←HL.out];exact hlt)
    obtain ⟨y,hy⟩:=get_lt (l:=m) (k:=k) (by rw [←HM.out];exact hlt)
    obtain ⟨b1,o1,rfl,hh1,g1⟩:=int_rd (HA.out.below HW.out) HL.out hx
    obtain ⟨b2,o2,rfl,hh2,g2⟩:=int_rd (HB.out.below HW.out) HM.out hy
    have k0:(0:Int)≤(k:Int):=by omega
    have k1:(k:Int) <(n1:Int):=by omega
    have hz1:b1 <wr.heap.size:=Nat.lt_of_lt_of_le hh1 HW.out.size
    have hz2:b2 <wr.heap.size:=Nat.lt_of_lt_of_le hh2 HW.out.size
    have HX:=Lib.hid hx
    have HY:=Lib.hid hy
    clear hx hy hh1 hh2
    by_cases hxy:x=y
    ·subst hxy
     have HT2:=Lib.hid (show l.take (k+1)=m.take (k+1) by rw [take_next HX.out,take_next HY.out,HT.out])
     go_wp2
     go_quiet (fail)
     go_wp2
     go_roundw
     case rel=>exact ⟨k+1,by omega,by go_num,HT2,Lib.hid (below_drewN HW.out _)⟩
     case measure=>simp [intOf];omega
    ·have HV2:=Lib.hid (show v=false by
      rw [←hv.out]
      refine decide_eq_false fun e=>hxy ?_
      have:=HX.out
      rw [e,HY.out] at this
      exact (Option.some.inj this).symm)
     go_wp2
     go_quiet (fail)
     go_wp2
     go_ret
     exact ⟨ret_bool HV2.out.symm,below_drewN HW.out _⟩
   ·obtain rfl:k=n1:=by omega
    have HV2:=Lib.hid (show v=true by
     rw [←hv.out]
     refine decide_eq_true ?_
     have e1:l.take k=l:=List.take_of_length_le (by rw [←HL.out];exact Nat.le_refl _)
     have e2:m.take k=m:=List.take_of_length_le (by rw [←HM.out];exact Nat.le_refl _)
     rw [←e1, ←e2,HT.out])
    go_wp2
    go_ret
    exact ⟨ret_bool HV2.out.symm,HW.out⟩
 ·have HV2:=Lib.hid (show v=false by
   rw [←hv.out]
   refine decide_eq_false fun e=>hn ?_
   rw [h1,h2,e])
  have hn2: ¬(n1:Int)=(n2:Int):=by omega
  clear h1 h2
  go_enter Tryz.func59,Tryz.ntmps59
  go_wp2
  go_ret
  exact ⟨ret_bool HV2.out.symm,Below.refl _ _⟩
abbrev kid:List Int→List Int:=fun k=>k
theorem hit_map {α:Type} (key:α→List Int) (l:List α): ∀j,hitB kid (l.map key) j=hitB key l j
 |0=>rfl
 |j+1=>by
  simp only [hitB,List.getElem?_map]
  cases l[j+1]? <;>cases l[j]? <;>rfl
theorem adj_map {α:Type} (key:α→List Int) (l:List α):adjI kid (l.map key)=adjI key l:=by
 unfold adjI
 rw [List.length_map,show hitB kid (l.map key)=hitB key l from funext (hit_map key l)]
theorem keys_first {d:Cfg} {s:Nat} {v:Int} (h1:1≤s) (h5:s≤5) (hp: ∀t,1≤t→t <s→ ¬0 <adjI kid (keysOf d t)) (hv:adjI kid (keysOf d s)=v) (h0:0 <v):firstTwc d=⟨18,(s:Int),v⟩:=by
 have e1:=adj_map keyPar d.parts
 have e2:=adj_map keyWin d.wins
 have e3:=adj_map keyReg d.regs
 have e4:=adj_map keyPrt d.ports
 have e5:=adj_map keyChn d.chans
 subst hv
 rcases (show s=1∨s=2∨s=3∨s=4∨s=5 by omega) with rfl |rfl |rfl |rfl |rfl
 ·have a1:adjI kid (keysOf d 1)=adjI keyPar d.parts:=e1
  rw [a1] at h0 ⊢
  exact firstTwc_1 h0
 ·have p1:=hp 1 (by omega) (by omega)
  have a1:adjI kid (keysOf d 1)=adjI keyPar d.parts:=e1
  have a2:adjI kid (keysOf d 2)=adjI keyWin d.wins:=e2
  rw [a1] at p1
  rw [a2] at h0 ⊢
  exact firstTwc_2 p1 h0
 ·have p1:=hp 1 (by omega) (by omega)
  have p2:=hp 2 (by omega) (by omega)
  have a1:adjI kid (keysOf d 1)=adjI keyPar d.parts:=e1
  have a2:adjI kid (keysOf d 2)=adjI keyWin d.wins:=e2
  have a3:adjI kid (keysOf d 3)=adjI keyReg d.regs:=e3
  rw [a1] at p1
  rw [a2] at p2
  rw [a3] at h0 ⊢
  exact firstTwc_3 p1 p2 h0
 ·have p1:=hp 1 (by omega) (by omega)
  have p2:=hp 2 (by omega) (by omega)
  have p3:=hp 3 (by omega) (by omega)
  have a1:adjI kid (keysOf d 1)=adjI keyPar d.parts:=e1
  have a2:adjI kid (keysOf d 2)=adjI keyWin d.wins:=e2
  have a3:adjI kid (keysOf d 3)=adjI keyReg d.regs:=e3
  have a4:adjI kid (keysOf d 4)=adjI keyPrt d.ports:=e4
  rw [a1] at p1
  rw [a2] at p2
  rw [a3] at p3
  rw [a4] at h0 ⊢
  exact firstTwc_4 p1 p2 p3 h0
 ·have p1:=hp 1 (by omega) (by omega)
  have p2:=hp 2 (by omega) (by omega)
  have p3:=hp 3 (by omega) (by omega)
  have p4:=hp 4 (by omega) (by omega)
  have a1:adjI kid (keysOf d 1)=adjI keyPar d.parts:=e1
  have a2:adjI kid (keysOf d 2)=adjI keyWin d.wins:=e2
  have a3:adjI kid (keysOf d 3)=adjI keyReg d.regs:=e3
  have a4:adjI kid (keysOf d 4)=adjI keyPrt d.ports:=e4
  have a5:adjI kid (keysOf d 5)=adjI keyChn d.chans:=e5
  rw [a1] at p1
  rw [a2] at p2
  rw [a3] at p3
  rw [a4] at p4
  rw [a5] at h0 ⊢
  exact firstTwc_5 p1 p2 p3 p4 h0
theorem keys_none {d:Cfg} (hp: ∀t,1≤t→t <6→ ¬0 <adjI kid (keysOf d t)):firstTwc d=if 0≤lnkTwc d.chans 0 then ⟨18,6,lnkTwc d.chans 0⟩ else noFlt:=by
 have a1:adjI kid (keysOf d 1)=adjI keyPar d.parts:=adj_map keyPar d.parts
 have a2:adjI kid (keysOf d 2)=adjI keyWin d.wins:=adj_map keyWin d.wins
 have a3:adjI kid (keysOf d 3)=adjI keyReg d.regs:=adj_map keyReg d.regs
 have a4:adjI kid (keysOf d 4)=adjI keyPrt d.ports:=adj_map keyPrt d.ports
 have a5:adjI kid (keysOf d 5)=adjI keyChn d.chans:=adj_map keyChn d.chans
 have p1:=hp 1 (by omega) (by omega)
 have p2:=hp 2 (by omega) (by omega)
 have p3:=hp 3 (by omega) (by omega)
 have p4:=hp 4 (by omega) (by omega)
 have p5:=hp 5 (by omega) (by omega)
 rw [a1] at p1
 rw [a2] at p2
 rw [a3] at p3
 rw [a4] at p4
 rw [a5] at p5
 exact firstTwc_6 p1 p2 p3 p4 p5
theorem hitN_at {l:List Int} {j:Nat} {x y:Int} (hx:l[j+1]? =some x) (hy:l[j]? =some y):hitB (fun d=> [d]) l (j+1)=decide (x=y):=by
 rw [hit_at hx hy]
 exact decide_eq_decide.2 ⟨fun h=>by injection h,fun h=>by rw [h]⟩
set_option maxRecDepth 100000 in
set_option maxHeartbeats 16000000 in
theorem rTwice11_ok (c:Cfg) (A1 A2 A3 A4 A5:Option Addr) (c1 c2 c3 c4 c5:Nat) (w:World) (hR:CfgR w w.heap.size c A1 A2 A3 A4 A5 c1 c2 c3 c4 c5) (hok:c.ok) (hs:c.small) (r1 r2 r3:Int) (hv:Hid (twcF c=⟨r1,r2,r3⟩)):Calls Tryz.prog 20 #[cfgV c.frame A1 A2 A3 A4 A5 c.parts.length c.wins.length c.regs.length c.ports.length c.chans.length c1 c2 c3 c4 c5] w fun e w'=>e= .returned (.tuple #[.int .i64 r1, .int .i64 r2, .int .i64 r3])∧Below w.heap.size w w':=by
 obtain ⟨W0,hW,st⟩:=St.start_any hR 29
 have HW:=Lib.hid hW
 have ST0:=Lib.hid st
 obtain ⟨x0,x1,x2,x3,x4,x5,hz⟩:=st.cells
 obtain ⟨d,hd⟩: ∃d,c.norm=d:=⟨_,rfl⟩
 have HD:=Lib.hid hd
 have HOK:=Lib.hid hok
 have HSM:=Lib.hid hs
 have HDO:=Lib.hid (show d.ok by rw [←hd];exact Cfg.norm_ok hok)
 have HDS:=Lib.hid (show d.small by rw [←hd];exact Cfg.norm_small hs)
 have HTW:=Lib.hid (show firstTwc d=⟨r1,r2,r3⟩ by rw [←hd];exact hv.out)
 have hdt:=HDS.out.tot
 have hsd:sumDests d.chans≤4194304:=by unfold Cfg.total at hdt;omega
 have b5:d.chans.length≤4194304:=by unfold Cfg.total at hdt;omega
 have HDT:=Lib.hid hdt
 have HSD:=Lib.hid hsd
 clear hR hW st hok hs hd hdt hsd
 go_enter Tryz.func20,Tryz.ntmps20
 go_upto_region 1 with (fail)
 rw [HW.out]
 go_wp2_with fail
 refine (rNormalD_ok c d HD _ _ _ _ _ _ _ _ _ _ _ ST0.out.R HOK.out HSM.out).mono ?_
 rintro e w2 ⟨B1,B2,B3,B4,B5,d1,d2,d3,d4,d5,rfl,hP,hb2⟩
 obtain ⟨W3,hW3,hbx,hb3⟩:=CBx.new hP 29
 have HW3:=Lib.hid hW3
 have CB:=Lib.hid hbx
 have HBL:=Lib.hid (ST0.out.up (Below.then_ hb2 hb3)).bel
 clear x0 x1 x2 x3 x4 x5 hz hP hb2 hb3 hbx hW3 HW
 go_upto_region 2 with (fail)
 rw [HW3.out]
 clear HW3
 generalize w2.heap.size=g at*
 go_wp2
 go_loopw [6] (fun i wr=> ∃s:Nat,1≤s∧s≤6∧i= .int .i64 s∧Hid (∀t,1≤t→t <s→ ¬0 <adjI kid (keysOf d t))∧Hid (Below W3.heap.size W3 wr)) (fun i _=>6 -(intOf i).toNat)
 case atStart=>exact ⟨1,Nat.le_refl _,by omega,rfl,Lib.hid (fun t h1 h2=>absurd h1 (by omega)),Lib.hid (Below.refl _ _)⟩
 case round=>
  obtain ⟨s,hs1,hs6,rfl,HP,HB⟩:=hrel
  have CR:=Lib.hid (CB.out.up HB.out)
  obtain ⟨x0,x1,x2,x3,x4,x5⟩:=CR.out.cells
  have xz:=CR.out.z
  by_cases hlt:s <6
  ·have hle:(s:Int)≤5:=by omega
   generalize wr=wo at*
   go_wp2_with fail
   refine (rKeys_ok d _ _ _ _ _ _ _ _ _ _ _ CR.out.R HDO.out HDS.out s hs1 hlt).mono ?_
   rintro e w4 ⟨A,n,dd,rfl,hn,hk,hb4⟩
   have hkl:=(keys_len HDS.out s).1
   obtain ⟨L,hL⟩: ∃L,keysOf d s=L:=⟨_,rfl⟩
   have HLL:=Lib.hid hL
   have HLK:=Lib.hid (keys_len HDS.out s).2
   rw [hL] at hn hk hkl HLK
   have HN:=Lib.hid hn
   have HKI:=Lib.hid hk
   have HB4:=Lib.hid (Below.then_ HB.out hb4)
   have hnl:n≤1048576:=by omega
   clear hn hk hb4 hL hkl x0 x1 x2 x3 x4 x5 xz
   go_wp2
   go_loopw [8] (fun i wr=> ∃j:Nat,1≤j∧j≤n+1∧i= .int .i64 j∧Hid (∀t,t <j→hitB kid L t=false)∧Hid (Below w4.heap.size w4 wr)) (fun i _=>n+1 -(intOf i).toNat)
   case atStart=>exact ⟨1,Nat.le_refl _,by omega,rfl,Lib.hid (fun t ht=>by have e:t=0:=(by omega);subst e;rfl),Lib.hid (Below.refl _ _)⟩
   case round=>
    obtain ⟨m,hm1,hmn,rfl,HT,HW⟩:=hrel
    by_cases hlj:m <n
    ·obtain ⟨k,hkm⟩: ∃k,k+1=m:=⟨m -1,by omega⟩
     obtain ⟨x,hx⟩:=get_lt (l:=L) (k:=m) (by rw [←HN.out];exact hlj)
     obtain ⟨y,hy⟩:=get_lt (l:=L) (k:=k) (by rw [←HN.out];omega)
     obtain ⟨b,o,rfl,hbw⟩:=(HKI.out.up HW.out).addr (by rw [←HN.out];omega)
     obtain ⟨X1,y1,g0,hr1⟩:=(HKI.out.up HW.out).cell hx
     obtain ⟨X2,y2,f0,hr2⟩:=(HKI.out.up HW.out).cell hy
     have HR1:=Lib.hid hr1
     have HR2:=Lib.hid hr2
     have HXL:=Lib.hid (HLK.out x (List.mem_of_getElem? hx))
     have HH:=Lib.hid (show hitB kid L m=decide (x=y) by rw [←hkm] at hx ⊢;exact hit_at hx hy)
     have e1:IntKind.i64.wrap ((m:Int) -1)=(k:Int):=by rw [IntKind.wrap_i64];omega
     have m0:(0:Int)≤(m:Int):=by omega
     have m1:(m:Int) <(n:Int):=by omega
     have k0:(0:Int)≤(k:Int):=by omega
     have k1:(k:Int) <(n:Int):=by omega
     obtain ⟨bv,hbv⟩: ∃bv,decide (x=y)=bv:=⟨_,rfl⟩
     have HBV:=Lib.hid hbv
     rw [hbv] at HH
     clear hx hy hkm hr1 hr2 hbv
     go_wp2
     refine wp_region_ext (by kernel_rfl) (by kernel_rfl) ?_
     repeat (go_big_quiet_step ((go_at_call 59;exact Calls.quiet_ext (rEqual11_ok x y x.length y.length rfl rfl X1 X2 y1 y2 _ bv HBV (Nat.le_trans HXL.out (by decide)) (HR1.out.up (ext_below _ _)) (HR2.out.up (ext_below _ _))))))
     refine wpQuiet_nil ?_
     intro xq
     have HW2:=Lib.hid (Below.then_ HW.out (ext_below wr xq))
     cases bv
     ·go_wp2
      go_roundw
      case rel=>exact ⟨m+1,by omega,by omega,by go_num,Lib.hid (fun j hj=>by rcases Nat.lt_succ_iff_lt_or_eq.1 hj with h |rfl;exact HT.out j h;exact HH.out),HW2⟩
      case measure=>simp [intOf];omega
     ·have hadj:adjI kid L=(m:Int):=adj_hit (by rw [←HN.out];exact hlj) HH.out HT.out
      have e9:=HTW.out
      rw [keys_first (v:=(m:Int)) hs1 (by omega) (fun t a b=>by have:=HP.out t a b;omega) (by rw [HLL.out];exact hadj) (by omega)] at e9
      have z1:(18:Int)=r1:=congrArg Flt.code e9
      have z2:(s:Int)=r2:=congrArg Flt.part e9
      have z3:(m:Int)=r3:=congrArg Flt.at_ e9
      subst z1 z2 z3
      have HZ:=Lib.hid (Below.then_ (Below.then_ HBL.out HB4.out) HW2.out)
      clear e9 hadj
      go_wp2
      go_ret3
      exact ⟨rfl,HZ.out⟩
    ·have hadj:adjI kid L= -1:=adj_none (fun j hj=>HT.out j (by rw [←HN.out] at hj;omega))
     have HPN:=Lib.hid (show ∀t,1≤t→t <s+1→ ¬0 <adjI kid (keysOf d t) from fun t h1 h2=>by
      rcases Nat.lt_succ_iff_lt_or_eq.1 h2 with h |rfl
      ·have:=HP.out t h1 h;omega
      ·rw [HLL.out,hadj];decide)
     have hnj: ¬(m:Int) <(n:Int):=by omega
     have HB5:=Lib.hid (Below.then_ HB4.out HW.out)
     clear hadj
     go_wp2
     go_roundw
     case rel=>exact ⟨s+1,by omega,by omega,by go_num,HPN,HB5⟩
     case measure=>simp [intOf];omega
  ·obtain rfl:s=6:=by omega
   have e9:=HTW.out
   rw [keys_none (fun t a b=>by have:=HP.out t a b;omega)] at e9
   have HE9:=Lib.hid e9
   obtain ⟨cs,hcs,hrs⟩:=CB.out.R.chans
   have HCS:=Lib.hid hcs
   have HRS:=Lib.hid hrs
   have HDX:=Lib.hid (dests_le HDT.out)
   have HBX:=HB
   clear e9 hcs hrs x0 x1 x2 x3 x4 x5 xz CR
   generalize wr=wo at*
   go_wp2
   go_loopw [9,10] (fun v i wr=> ∃k:Nat,k≤d.chans.length∧i= .int .i64 k∧v= .int .i64 (sumDests (d.chans.take k):Nat)∧Hid (lnkTwc d.chans 0=lnkTwc (d.chans.drop k) (sumDests (d.chans.take k)))∧Hid (Below W3.heap.size W3 wr)) (fun _ i _=>d.chans.length -(intOf i).toNat)
   case atStart=>exact ⟨0,Nat.zero_le _,rfl,rfl,Lib.hid rfl,HBX⟩
   case round=>
    clear HB HBX
    obtain ⟨k,hk,rfl,rfl,HG,HB⟩:=hrel
    obtain ⟨x0,x1,x2,x3,x4,x5⟩:=(CB.out.up HB.out).cells
    have xz:=(CB.out.up HB.out).z
    by_cases hlt:k <d.chans.length
    ·obtain ⟨x,hx⟩:=get_lt hlt
     obtain ⟨b,o,rfl,hb,_,_,D,dd,_,_,_,hdr⟩:=chn_at0 HCS.out HRS.out hx
     have KEEP: ∀U,Below W3.heap.size W3 U→U.cell? ⟨b,o+k*3,none⟩=some (.int .u16 x.id)∧U.cell? ⟨b,o+k*3+1,none⟩=some (.int .u16 x.source)∧U.cell? ⟨b,o+k*3+2,none⟩=some (.slice D x.dests.length dd)∧b <U.heap.size:=fun U hWU=>by
      have c0:=fun j=>hWU.cell (p:=⟨b,j,none⟩) hb
      exact ⟨(c0 _).trans (by assumption),(c0 _).trans (by assumption),(c0 _).trans (by assumption),Nat.lt_of_lt_of_le hb hWU.size⟩
     have HKP:=Lib.hid KEEP
     have HDR:=Lib.hid hdr
     have k0:(0:Int)≤(k:Int):=by omega
     have k1:(k:Int) <(d.chans.length:Int):=by omega
     have hn:=HDX.out x (List.mem_of_getElem? hx)
     have HX:=Lib.hid (lnk_next hx)
     have HSX:=Lib.hid (sumDests_next hx)
     have hsm:sumDests (d.chans.take (k+1))≤4194304:=Nat.le_trans (sumDests_take _ _) HSD.out
     generalize hsk:sumDests (d.chans.take k)=sk at*
     obtain ⟨sn,hsn⟩: ∃sn,sumDests (d.chans.take (k+1))=sn:=⟨_,rfl⟩
     rw [hsn] at hsm HX HSX
     have hss:sn=sk+x.dests.length:=HSX.out
     have HSN:=Lib.hid hsn
     have HBK:=HB
     clear hsk hsn hx KEEP hdr
     generalize wr=wq at*
     go_wp2
     clear x0 x1 x2 x3 x4 x5 xz
     go_loopw [9,11] (fun v i wi=> ∃j:Nat,j≤x.dests.length∧i= .int .i64 j∧v= .int .i64 ((sk+j:Nat):Int)∧Hid (∀t,t <j→hitB (fun d=> [d]) x.dests t=false)∧Hid (Below W3.heap.size W3 wi)) (fun _ i _=>x.dests.length -(intOf i).toNat)
     case atStart=>exact ⟨0,Nat.zero_le _,rfl,rfl,Lib.hid (fun t ht=>absurd ht (Nat.not_lt_zero t)),HBK⟩
     case round=>
      clear HB HBK
      obtain ⟨j,hj,rfl,rfl,HT,HB⟩:=hrel
      obtain ⟨x0,x1,x2,x3,x4,x5⟩:=(CB.out.up HB.out).cells
      have xz:=(CB.out.up HB.out).z
      obtain ⟨g0,g1,g2,gz⟩:=HKP.out _ HB.out
      by_cases hlj:j <x.dests.length
      ·have j1:(j:Int) <(x.dests.length:Int):=by omega
       have j0:(0:Int)≤(j:Int):=by omega
       have hw1:IntKind.i64.wrap (((sk+j:Nat):Int)+1)=((sk+(j+1):Nat):Int):=by rw [IntKind.wrap_i64];omega
       generalize hv9:((sk+j:Nat):Int)=v9 at*
       rcases Nat.eq_zero_or_pos j with h0 |h0
       ·subst h0
        have j2: ¬(0:Int) <((0:Nat):Int):=by decide
        go_wp2
        go_quiet (fail)
        go_wp2
        go_roundw
        case rel=>exact ⟨1,by omega,by go_num,by congr 1,Lib.hid (fun t ht=>by have e:t=0:=(by omega);subst e;rfl),Lib.hid (below_drewN HB.out _)⟩
        case measure=>simp [intOf];omega
       ·obtain ⟨i,hij⟩: ∃i,i+1=j:=⟨j -1,by omega⟩
        obtain ⟨a,ha⟩:=get_lt hlj
        obtain ⟨a',ha'⟩:=get_lt (l:=x.dests) (k:=i) (by omega)
        obtain ⟨bd,od,rfl,hbd,f0⟩:=int_at (HDR.out.up HB.out) ha
        obtain ⟨bd2,od2,e2,_,f1⟩:=int_at (HDR.out.up HB.out) ha'
        cases e2
        have e1:IntKind.i64.wrap ((j:Int) -1)=(i:Int):=by rw [IntKind.wrap_i64];omega
        have hg:decide ((0:Int) <(j:Int))=true:=decide_eq_true (by omega)
        have jp:(0:Int) <(j:Int):=by omega
        have i0:(0:Int)≤(i:Int):=by omega
        have i1:(i:Int) <(x.dests.length:Int):=by omega
        have HH:=Lib.hid (show hitB (fun d=> [d]) x.dests j=decide (a=a') by rw [←hij] at ha ⊢;exact hitN_at ha ha')
        clear ha ha' hij hbd
        by_cases haa:a=a'
        ·subst haa
         have hadj:adjI (fun d=> [d]) x.dests=(j:Int):=adj_hit hlj (by rw [HH.out];exact decide_eq_true rfl) HT.out
         have e9:=HE9.out
         rw [HG.out,HX.out,hadj,if_pos (by omega),if_pos (by omega)] at e9
         have z1:(18:Int)=r1:=congrArg Flt.code e9
         have z2:(6:Int)=r2:=congrArg Flt.part e9
         have z3:(sk:Int)+(j:Int)=r3:=congrArg Flt.at_ e9
         have hv3:v9=r3:=by rw [←z3, ←hv9];simp
         subst z1 z2
         have HV3:=Lib.hid hv3
         clear e9 hadj z3 hv3 hv9
         go_wp2
         go_quiet (fail)
         have HZ:=Lib.hid (below_drewN (Below.then_ HBL.out HB.out) nq)
         go_wp2
         go_ret3
         exact ⟨by rw [HV3.out];rfl,HZ.out⟩
        ·have hne:(a==a')=false:=beq_eq_false_iff_ne.2 haa
         have HTN:=Lib.hid (show ∀t,t <j+1→hitB (fun d=> [d]) x.dests t=false from fun t ht=>by
          rcases Nat.lt_succ_iff_lt_or_eq.1 ht with h |rfl
          ·exact HT.out t h
          ·rw [HH.out];exact decide_eq_false haa)
         go_wp2
         go_quiet (fail)
         go_wp2
         go_roundw
         case rel=>exact ⟨j+1,by omega,by go_num,by congr 1,HTN,Lib.hid (below_drewN HB.out _)⟩
         case measure=>simp [intOf];omega
      ·obtain rfl:j=x.dests.length:=by omega
       have hadj:adjI (fun d=> [d]) x.dests= -1:=adj_none HT.out
       have HXN:=Lib.hid (show lnkTwc d.chans 0=lnkTwc (d.chans.drop (k+1)) sn by rw [HG.out,HX.out,hadj,if_neg (by decide)])
       clear hadj
       go_wp2
       go_roundw
       case rel=>exact ⟨k+1,by omega,by go_num,by rw [HSN.out,hss],Lib.hid (by rw [HSN.out];exact HXN.out),HB⟩
       case measure=>simp [intOf];omega
    ·obtain rfl:k=d.chans.length:=by omega
     have e9:=HE9.out
     rw [HG.out,lnk_end,if_neg (by omega)] at e9
     have z1:(0:Int)=r1:=congrArg Flt.code e9
     have z2:(0:Int)=r2:=congrArg Flt.part e9
     have z3:(0:Int)=r3:=congrArg Flt.at_ e9
     subst z1 z2 z3
     have HZ:=Lib.hid (Below.then_ HBL.out HB.out)
     clear e9
     go_wp2
     go_ret3
     exact ⟨rfl,HZ.out⟩
end Go.Proofs.YtcfoolooemhbeaaGreat
