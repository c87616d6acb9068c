/-
  What a name is, as a plain law: its runes are plain letters exactly if its bytes are. It speaks of no program.
-/
import Derived.Lib.DecodeN
import Derived.Shelf.GgClosure.StringsIndexFunc
import Derived.Test.YteelncofiodflaaGreatCore
import Derived.Shelf.Strings.FuncGrows
import Derived.Test.YteelncofiodflaaGreatLayNm
import Derived.Deep.DeepCutAuto
import Derived.Deep.CutBlock
import Derived.BigQuiet
import Derived.Deep.RegionWith
import Derived.Deep.RegionHeld3
import Derived.OwnWalk
namespace Go.Proofs.YteelncofiodflaaGreat
open Go.RowKit
def badR (x:Nat):Bool:=decide (x <32)||decide (126 <x)
def nameBad (s:ByteArray):Bool:=decide (0≤Lib.idxFunc badR true s)
def nameOk (s:ByteArray):Bool:= !nameBad s&&(decide (1≤s.size)&&decide (s.size≤30))
end Go.Proofs.YteelncofiodflaaGreat
namespace Go.Proofs.YteelncofiodflaaGreat
open Go.RowKit
def cntOf (c:Cfg):Nat→Nat
 |1=>c.parts.length
 |2=>c.wins.length
 |3=>c.regs.length
 |4=>c.ports.length
 |5=>c.chans.length
 |6=>sumDests c.chans
 |_=>0
def limOf:Nat→Nat
 |1=>64
 |2=>1024
 |3=>1024
 |4=>1024
 |5=>512
 |6=>1024
 |_=>0
def overC (c:Cfg) (k:Nat):Bool:=decide (limOf k <cntOf c k)
def limBad (c:Cfg):Option Nat:= [1,2,3,4,5,6].find? (overC c)
def badPar (p:Par):Bool:= !nameOk p.name
def badPrt (p:Prt):Bool:= !nameOk p.name
def badReg (r:Reg):Bool:=decide (7 <r.rights)
def nameBads (c:Cfg):Int × Int × Int:=
 if 0≤idx badPar c.parts then (6,1,idx badPar c.parts) else if 0≤idx badPrt c.ports then (6,4,idx badPrt c.ports) else if 0≤idx badReg c.regs then (15,3,idx badReg c.regs) else (0,0,0)
def chkBad (c:Cfg):Int × Int × Int:=match limBad c with |some k=>(7,(k:Int),(limOf k:Int)) |none=>nameBads c
theorem limBad_hit {c:Cfg} {k:Nat} (h1:1≤k) (h6:k≤6) (hl: ∀j,1≤j→j <k→overC c j=false) (hk:overC c k=true):chkBad c=(7,(k:Int),(limOf k:Int)):=by
 have:limBad c=some k:=by
  unfold limBad
  rcases (show k=1∨k=2∨k=3∨k=4∨k=5∨k=6 by omega) with rfl |rfl |rfl |rfl |rfl |rfl
  ·simp [List.find?,hk]
  ·simp [List.find?,hk,hl 1 (by omega) (by omega)]
  ·simp [List.find?,hk,hl 1 (by omega) (by omega),hl 2 (by omega) (by omega)]
  ·simp [List.find?,hk,hl 1 (by omega) (by omega),hl 2 (by omega) (by omega),hl 3 (by omega) (by omega)]
  ·simp [List.find?,hk,hl 1 (by omega) (by omega),hl 2 (by omega) (by omega),hl 3 (by omega) (by omega),hl 4 (by omega) (by omega)]
  ·simp [List.find?,hk,hl 1 (by omega) (by omega),hl 2 (by omega) (by omega),hl 3 (by omega) (by omega),hl 4 (by omega) (by omega),hl 5 (by omega) (by omega)]
 unfold chkBad;rw [this]
theorem limBad_none {c:Cfg} (hl: ∀j,1≤j→j <7→overC c j=false):chkBad c=nameBads c:=by
 have:limBad c=none:=by
  unfold limBad
  simp [List.find?,hl 1 (by omega) (by omega),hl 2 (by omega) (by omega),hl 3 (by omega) (by omega),hl 4 (by omega) (by omega),hl 5 (by omega) (by omega),hl 6 (by omega) (by omega)]
 unfold chkBad;rw [this]
end Go.Proofs.YteelncofiodflaaGreat
namespace Go.Proofs.YteelncofiodflaaGreat
open Go.RowKit Go.Shelf
theorem validFn_ok (x:Nat) (w:World):Calls Tryz.prog 98 #[.int .i32 x] w fun e w'=>e= .returned (.bool (badR x))∧w'=w:=by
 by_cases h1:x <32
 ·have hi:(x:Int) <32:=by omega
  have HV:=Lib.hid (show badR x=true by unfold badR;simp [h1])
  go_enter Tryz.func98,Tryz.ntmps98
  go_wp2
  go_ret
  exact ⟨by rw [HV.out];rfl,rfl⟩
 ·have hi: ¬(x:Int) <32:=by omega
  by_cases h2:126 <x
  ·have hj:(126:Int) <(x:Int):=by omega
   have HV:=Lib.hid (show badR x=true by unfold badR;simp [h2])
   go_enter Tryz.func98,Tryz.ntmps98
   go_wp2
   go_ret
   exact ⟨by rw [HV.out];first |rfl |simp [hj],rfl⟩
  ·have hj: ¬(126:Int) <(x:Int):=by omega
   have HV:=Lib.hid (show badR x=false by unfold badR;simp [h1,h2])
   go_enter Tryz.func98,Tryz.ntmps98
   go_wp2
   go_ret
   exact ⟨by rw [HV.out];first |rfl |simp [hj],rfl⟩
theorem contains_ok (s:ByteArray) (w:World):Calls Tryz.prog 97 #[.string s, .func (.func 98) #[] #[]] w fun e w'=>e= .returned (.bool (nameBad s))∧Below w.heap.size w w':=
 Any.strings_ContainsFunc_grows Tryz.layCF 98 #[] (enters_of Tryz.func98 (by kernel_rfl) rfl) badR s w (fun W x _ _=>(validFn_ok x W).mono fun e w' ⟨h1,h2⟩=>⟨h1,by rw [h2];exact Below.refl _ _⟩)
theorem nameValid_ok (s:ByteArray) (w:World):Calls Tryz.prog 42 #[.string s] w fun e w'=>e= .returned (.bool (nameOk s))∧Below w.heap.size w w':=by
 obtain ⟨v,hv⟩: ∃v,nameBad s=v:=⟨_,rfl⟩
 have hc:Calls Tryz.prog 97 #[.string s, .func (.func 98) #[] #[]] w fun e w'=>e= .returned (.bool v)∧Below w.heap.size w w':=by rw [←hv];exact contains_ok s w
 have HC:=Lib.hid hc
 have HN:=Lib.hid (show nameOk s=(!v&&(decide (1≤s.size)&&decide (s.size≤30))) by unfold nameOk;rw [hv])
 clear hv hc
 by_cases h0:s.size=0
 ·have hs:s=⟨#[]⟩:=by
   cases s with
   |mk d=>congr;exact Array.eq_empty_of_size_eq_zero h0
  have HF:=Lib.hid (show nameOk s=false by rw [HN.out,h0];simp)
  subst hs
  go_enter Tryz.func42,Tryz.ntmps42
  go_wp2
  go_ret
  exact ⟨by rw [HF.out];rfl,Below.refl _ _⟩
 ·have hne:s.toList.isEmpty=false:=by
   rw [ByteArray.toList_eq]
   rcases hd:s.data.toList with _ |⟨x,r⟩
   ·have h1:=congrArg List.length hd
    exact absurd (by simpa using h1) h0
   ·rfl
  have hne2: ¬s.toList= []:=fun e=>by rw [e] at hne;cases hne
  by_cases h1:s.size≤30
  ·have hi:((s.size:Nat):Int)≤30:=by omega
   have HF:=Lib.hid (show nameOk s= !v by rw [HN.out,decide_eq_true (show 1≤s.size by omega),decide_eq_true h1];simp)
   go_enter Tryz.func42,Tryz.ntmps42
   go_wp2_with fail
   refine HC.out.mono ?_
   rintro e w1 ⟨rfl,hb⟩
   have HB:=Lib.hid hb
   clear hb
   go_wp2
   go_ret
   exact ⟨by rw [HF.out];rfl,HB.out⟩
  ·have hi: ¬((s.size:Nat):Int)≤30:=by omega
   have HF:=Lib.hid (show nameOk s=false by rw [HN.out,decide_eq_false h1];simp)
   go_enter Tryz.func42,Tryz.ntmps42
   go_wp2
   go_ret
   exact ⟨by rw [HF.out];rfl,Below.refl _ _⟩
end Go.Proofs.YteelncofiodflaaGreat
namespace Go.Proofs.YteelncofiodflaaGreat
open Go.RowKit
structure CntSt (w W:World) (c:Cfg) (A1 A2 A3 A4 A5:Option Addr) (c1 c2 c3 c4 c5:Nat) (s:Nat):Prop where
 st:St w W c A1 A2 A3 A4 A5 c1 c2 c3 c4 c5
 res:Blk W (w.heap.size+1) 32 #[.int .i64 0, .int .i64 0, .int .i64 0, .int .i64 0, .int .i64 0, .int .i64 0, .int .i64 0]
 out:Blk W (w.heap.size+1+1) 32 #[.int .i64 0, .int .i64 c.parts.length, .int .i64 c.wins.length, .int .i64 c.regs.length, .int .i64 c.ports.length, .int .i64 c.chans.length, .int .i64 s]
theorem CntSt.up {w W V:World} {c:Cfg} {A1 A2 A3 A4 A5:Option Addr} {c1 c2 c3 c4 c5 s:Nat} (h:CntSt w W c A1 A2 A3 A4 A5 c1 c2 c3 c4 c5 s) (hb:Below W.heap.size W V):CntSt w V c A1 A2 A3 A4 A5 c1 c2 c3 c4 c5 s:=
 ⟨h.st.up hb,h.res.below hb h.res.lt,h.out.below hb h.out.lt⟩
theorem CntSt.set {w W:World} {c:Cfg} {A1 A2 A3 A4 A5:Option Addr} {c1 c2 c3 c4 c5 s:Nat} (t:Nat) (h:CntSt w W c A1 A2 A3 A4 A5 c1 c2 c3 c4 c5 s):CntSt w (W.setCell ⟨w.heap.size+1+1,6,none⟩ (.int .i64 t)) c A1 A2 A3 A4 A5 c1 c2 c3 c4 c5 t:=by
 refine ⟨h.st.keep ((Below.refl _ _).setCell (p:=⟨w.heap.size+1+1,6,none⟩) (by show w.heap.size+1≤w.heap.size+1+1;omega) _),h.res.far (by show w.heap.size+1≠w.heap.size+1+1;omega) _, ?_⟩
 have:=h.out.set_ 6 (.int .i64 t)
 simpa using this
set_option maxRecDepth 100000 in
set_option maxHeartbeats 4000000 in
theorem countsW_ok (c:Cfg) (A1 A2 A3 A4 A5:Option Addr) (c1 c2 c3 c4 c5:Nat) (w:World) (hR:CfgR w w.heap.size c A1 A2 A3 A4 A5 c1 c2 c3 c4 c5) (ht:c.total≤4194304):
  Calls Tryz.prog 11 #[cfgV c.frame A1 A2 A3 A4 A5 c.parts.length c.wins.length c.regs.length c.ports.length c.chans.length c1 c2 c3 c4 c5] w fun e w'=>e= .returned (.agg #[.int .i64 0, .int .i64 c.parts.length, .int .i64 c.wins.length, .int .i64 c.regs.length, .int .i64 c.ports.length, .int .i64 c.chans.length, .int .i64 (sumDests c.chans)])∧Below w.heap.size w w':=by
 obtain ⟨W0,hW,st⟩:=St.start_any hR 29
 have HW:=Lib.hid hW
 have e0:W0.heap.size=w.heap.size+1:=by rw [←hW];simp
 have hsum: ∀k,sumDests (c.chans.take k)≤4194304:=fun k=>by have:=sumDests_take c.chans k;unfold Cfg.total at ht;omega
 have HSUM:=Lib.hid hsum
 have hx:c.chans.length≤4194304:=by unfold Cfg.total at ht;omega
 have hres:=Blk.new W0 32 #[.int .i64 0, .int .i64 0, .int .i64 0, .int .i64 0, .int .i64 0, .int .i64 0, .int .i64 0]
 have hb1:=below_one W0 (.cells #[.int .i64 0, .int .i64 0, .int .i64 0, .int .i64 0, .int .i64 0, .int .i64 0, .int .i64 0] 32)
 obtain ⟨W1,hW1⟩: ∃W1,W0.alloc (.cells #[.int .i64 0, .int .i64 0, .int .i64 0, .int .i64 0, .int .i64 0, .int .i64 0, .int .i64 0] 32)=W1:=⟨_,rfl⟩
 have e1:W1.heap.size=w.heap.size+1+1:=by rw [←hW1];simp [e0]
 rw [hW1] at hres hb1
 rw [e0] at hres
 have HW1:=Lib.hid hW1
 have hout:=Blk.new W1 32 #[.int .i64 0, .int .i64 c.parts.length, .int .i64 c.wins.length, .int .i64 c.regs.length, .int .i64 c.ports.length, .int .i64 c.chans.length, .int .i64 0]
 have hb2:=below_one W1 (.cells #[.int .i64 0, .int .i64 c.parts.length, .int .i64 c.wins.length, .int .i64 c.regs.length, .int .i64 c.ports.length, .int .i64 c.chans.length, .int .i64 0] 32)
 obtain ⟨W2,hW2⟩: ∃W2,W1.alloc (.cells #[.int .i64 0, .int .i64 c.parts.length, .int .i64 c.wins.length, .int .i64 c.regs.length, .int .i64 c.ports.length, .int .i64 c.chans.length, .int .i64 0] 32)=W2:=⟨_,rfl⟩
 rw [hW2] at hout hb2
 rw [e1] at hout
 have HW2:=Lib.hid hW2
 have CS:=Lib.hid (show CntSt w W2 c A1 A2 A3 A4 A5 c1 c2 c3 c4 c5 (sumDests (c.chans.take 0)) from ⟨(st.up hb1).up hb2,hres.below hb2 hres.lt,by simpa [sumDests] using hout⟩)
 obtain ⟨x0,x1,x2,x3,x4,x5,hz⟩:=(st.up hb1).cells
 clear hR hW st ht hsum hres hb1 hW1 hout hb2 hW2 e0
 go_enter Tryz.func11,Tryz.ntmps11
 go_upto_region 1 with (fail)
 rw [HW.out,HW1.out]
 go_upto_region 2 with (fail)
 rw [HW2.out]
 clear x0 x1 x2 x3 x4 x5 hz e1
 obtain ⟨x0,x1,x2,x3,x4,x5,hz⟩:=CS.out.st.cells
 go_wp2
 clear x0 x1 x2 x3 x4 x5 hz
 go_loopw [25] (fun i wr=> ∃k:Nat,k≤c.chans.length∧i= .int .i64 k∧Hid (CntSt w wr c A1 A2 A3 A4 A5 c1 c2 c3 c4 c5 (sumDests (c.chans.take k)))) (fun i _=>c.chans.length -(intOf i).toNat)
 case atStart=>exact ⟨0,Nat.zero_le _,rfl,CS⟩
 case round=>
  obtain ⟨k,hk,rfl,CK⟩:=hrel
  by_cases hlt:k <c.chans.length
  ·obtain ⟨x,hx⟩:=get_lt hlt
   have h1:=HSUM.out k
   have h2:=HSUM.out (k+1)
   have hn:=sumDests_next hx
   have HN:=Lib.hid hn
   obtain ⟨cs,hC,hr⟩:=CK.out.st.R.chans
   obtain ⟨b,o,rfl,hb,g0,g1,D,d,g2,hd1,hd2,_⟩:=chn_at hC hr hx
   have k0:(0:Int)≤(k:Int):=by omega
   have k1:(k:Int) <(c.chans.length:Int):=by omega
   have q6:=CK.out.out.cell 6
   have qf:=CK.out.out.frozen
   have ql:=CK.out.out.lt
   simp at q6
   have C2:=Lib.hid ((CK.out.set (sumDests (c.chans.take (k+1)))).up (below_one _ (.cells #[.int .u16 x.id, .int .u16 x.source, .slice D x.dests.length d] 57)))
   have he:((sumDests (c.chans.take (k+1)):Nat):Int)=(sumDests (c.chans.take k):Int)+(x.dests.length:Int):=by rw [hn];omega
   have hb3:sumDests (c.chans.take k)+x.dests.length≤4194304:=by omega
   rw [he] at C2
   generalize sumDests (c.chans.take k)=s at q6 C2 hb3 h1 ⊢
   clear hx hC hr hn h2 he CK
   go_wp2
   go_roundw
   case rel=>exact ⟨k+1,by omega,by go_num,C2⟩
   case measure=>simp [intOf];omega
  ·obtain rfl:k=c.chans.length:=by omega
   rw [List.take_length] at CK
   have o0:=CK.out.out.cell 0
   have o1:=CK.out.out.cell 1
   have o2:=CK.out.out.cell 2
   have o3:=CK.out.out.cell 3
   have o4:=CK.out.out.cell 4
   have o5:=CK.out.out.cell 5
   have o6:=CK.out.out.cell 6
   have r0:=CK.out.res.cell 0
   have r1:=CK.out.res.cell 1
   have r2:=CK.out.res.cell 2
   have r3:=CK.out.res.cell 3
   have r4:=CK.out.res.cell 4
   have r5:=CK.out.res.cell 5
   have r6:=CK.out.res.cell 6
   simp at o0 o1 o2 o3 o4 o5 o6 r0 r1 r2 r3 r4 r5 r6
   have hfr:=CK.out.res.frozen
   have hrl:=CK.out.res.lt
   go_wp2
   refine bodyPost_ret (v:= .agg #[.int .i64 0, .int .i64 c.parts.length, .int .i64 c.wins.length, .int .i64 c.regs.length, .int .i64 c.ports.length, .int .i64 c.chans.length, .int .i64 (sumDests c.chans)]) (by simp [results,Tryz.results11,go_sem,r0,r1,r2,r3,r4,r5,r6]) rfl ⟨rfl, ?_⟩
   exact ((((((CK.out.st.bel.setCell (Nat.le_succ _) _).setCell (Nat.le_succ _) _).setCell (Nat.le_succ _) _).setCell (Nat.le_succ _) _).setCell (Nat.le_succ _) _).setCell (Nat.le_succ _) _).setCell (Nat.le_succ _) _
end Go.Proofs.YteelncofiodflaaGreat
namespace Go.Proofs.YteelncofiodflaaGreat
open Go.RowKit
theorem chkFnPar_ok (x:Par) (w:World) (v:Bool) (hv:Hid (badPar x=v)):Calls Tryz.prog 41 #[.agg #[.int .u16 x.id, .string x.name, .int .u64 x.period, .int .u64 x.duration]] w fun e w'=>e= .returned (.bool v)∧Below w.heap.size w w':=by
 obtain ⟨u,hu⟩: ∃u,nameOk x.name=u:=⟨_,rfl⟩
 have hvu:v= !u:=by rw [←hv.out, ←hu];rfl
 have hb:=below_one w (.cells #[.int .u16 x.id, .string x.name, .int .u64 x.period, .int .u64 x.duration] 49)
 have HC:=Lib.hid (show ∀W,Calls Tryz.prog 42 #[.string x.name] W fun e w'=>e= .returned (.bool u)∧Below W.heap.size W w' from fun W=>by rw [←hu];exact nameValid_ok x.name W)
 have HVU:=Lib.hid hvu
 clear hu hv hvu
 go_enter Tryz.func41,Tryz.ntmps41
 go_wp2_with fail
 refine (HC.out _).mono ?_
 rintro e w1 ⟨rfl,hb1⟩
 have HZ:=Lib.hid (Below.then_ hb hb1)
 clear hb hb1
 go_wp2
 go_ret
 exact ⟨by rw [HVU.out];rfl,HZ.out⟩
set_option maxRecDepth 100000 in
set_option maxHeartbeats 2000000 in
theorem idxFPar_ok (l:List Par) (A:Option Addr) (cp:Nat) (w:World) (hl:l.length≤4194304) (hR:Rd w w.heap.size 4 A l.length (l.flatMap Par.cells)) (v:Int) (hv:Hid (idx badPar l=v)):
  Calls Tryz.prog 40 #[.slice A l.length cp, .func (.func 41) #[] #[]] w fun e w'=>e= .returned (.int .i64 v)∧Below w.heap.size w w':=by
 have hent: ∀a w,(callFunc 41 a).run Tryz.prog w= .ok (.enter 41 a) w:=enters_of Tryz.func41 (by kernel_rfl) rfl
 have HR:=Lib.hid hR
 clear hR
 go_enter Tryz.func40,Tryz.ntmps40
 go_wp2
 go_loopw [8] (fun i wr=> ∃k:Nat,k≤l.length∧i= .int .i64 k∧Hid (v=idxFrom badPar k (l.drop k))∧Hid (Below w.heap.size w wr)) (fun i _=>l.length -(intOf i).toNat)
 case atStart=>exact ⟨0,Nat.zero_le _,rfl,Lib.hid (by rw [←hv.out];rfl),Lib.hid (Below.refl _ _)⟩
 case round=>
  obtain ⟨k,hk,rfl,HI,HW⟩:=hrel
  by_cases hlt:k <l.length
  ·obtain ⟨x,hx⟩:=get_lt hlt
   obtain ⟨b,o,rfl,hb,g0,g1,g2,g3⟩:=par_at (HR.out.up HW.out) hx
   have k0:(0:Int)≤(k:Int):=by omega
   have k1:(k:Int) <(l.length:Int):=by omega
   have HX:=Lib.hid hx
   obtain ⟨u,hu⟩: ∃u,badPar x=u:=⟨_,rfl⟩
   have HU:=Lib.hid hu
   clear hx hu
   go_wp2_with fail
   refine (chkFnPar_ok x _ u HU).mono ?_
   rintro e w1 ⟨rfl,hb1⟩
   have HB1:=Lib.hid (Below.then_ HW.out hb1)
   clear hb1 g0 g1 g2 g3
   cases u
   ·go_wp2
    go_roundw
    case rel=>exact ⟨k+1,by omega,by go_num,Lib.hid (idx_miss HI.out HX.out HU.out),HB1⟩
    case measure=>simp [intOf];omega
   ·have HV:=Lib.hid (idx_hit HI.out HX.out HU.out)
    go_wp2
    go_ret
    exact ⟨by rw [HV.out];rfl,HB1.out⟩
  ·obtain rfl:k=l.length:=by omega
   have HV:=Lib.hid (idx_end HI.out)
   go_wp2
   go_ret
   exact ⟨by rw [HV.out];rfl,HW.out⟩
theorem chkFnPrt_ok (x:Prt) (w:World) (v:Bool) (hv:Hid (badPrt x=v)):Calls Tryz.prog 44 #[.agg #[.int .u16 x.id, .int .u16 x.part, .string x.name, .bool x.output, .bool x.queuing, .int .u32 x.size]] w fun e w'=>e= .returned (.bool v)∧Below w.heap.size w w':=by
 obtain ⟨u,hu⟩: ∃u,nameOk x.name=u:=⟨_,rfl⟩
 have hvu:v= !u:=by rw [←hv.out, ←hu];rfl
 have hb:=below_one w (.cells #[.int .u16 x.id, .int .u16 x.part, .string x.name, .bool x.output, .bool x.queuing, .int .u32 x.size] 52)
 have HC:=Lib.hid (show ∀W,Calls Tryz.prog 42 #[.string x.name] W fun e w'=>e= .returned (.bool u)∧Below W.heap.size W w' from fun W=>by rw [←hu];exact nameValid_ok x.name W)
 have HVU:=Lib.hid hvu
 clear hu hv hvu
 go_enter Tryz.func44,Tryz.ntmps44
 go_wp2_with fail
 refine (HC.out _).mono ?_
 rintro e w1 ⟨rfl,hb1⟩
 have HZ:=Lib.hid (Below.then_ hb hb1)
 clear hb hb1
 go_wp2
 go_ret
 exact ⟨by rw [HVU.out];rfl,HZ.out⟩
set_option maxRecDepth 100000 in
set_option maxHeartbeats 2000000 in
theorem idxFPrt_ok (l:List Prt) (A:Option Addr) (cp:Nat) (w:World) (hl:l.length≤4194304) (hR:Rd w w.heap.size 6 A l.length (l.flatMap Prt.cells)) (v:Int) (hv:Hid (idx badPrt l=v)):
  Calls Tryz.prog 43 #[.slice A l.length cp, .func (.func 44) #[] #[]] w fun e w'=>e= .returned (.int .i64 v)∧Below w.heap.size w w':=by
 have hent: ∀a w,(callFunc 44 a).run Tryz.prog w= .ok (.enter 44 a) w:=enters_of Tryz.func44 (by kernel_rfl) rfl
 have HR:=Lib.hid hR
 clear hR
 go_enter Tryz.func43,Tryz.ntmps43
 go_wp2
 go_loopw [8] (fun i wr=> ∃k:Nat,k≤l.length∧i= .int .i64 k∧Hid (v=idxFrom badPrt k (l.drop k))∧Hid (Below w.heap.size w wr)) (fun i _=>l.length -(intOf i).toNat)
 case atStart=>exact ⟨0,Nat.zero_le _,rfl,Lib.hid (by rw [←hv.out];rfl),Lib.hid (Below.refl _ _)⟩
 case round=>
  obtain ⟨k,hk,rfl,HI,HW⟩:=hrel
  by_cases hlt:k <l.length
  ·obtain ⟨x,hx⟩:=get_lt hlt
   obtain ⟨b,o,rfl,hb,g0,g1,g2,g3,g4,g5⟩:=prt_at (HR.out.up HW.out) hx
   have k0:(0:Int)≤(k:Int):=by omega
   have k1:(k:Int) <(l.length:Int):=by omega
   have HX:=Lib.hid hx
   obtain ⟨u,hu⟩: ∃u,badPrt x=u:=⟨_,rfl⟩
   have HU:=Lib.hid hu
   clear hx hu
   go_wp2_with fail
   refine (chkFnPrt_ok x _ u HU).mono ?_
   rintro e w1 ⟨rfl,hb1⟩
   have HB1:=Lib.hid (Below.then_ HW.out hb1)
   clear hb1 g0 g1 g2 g3 g4 g5
   cases u
   ·go_wp2
    go_roundw
    case rel=>exact ⟨k+1,by omega,by go_num,Lib.hid (idx_miss HI.out HX.out HU.out),HB1⟩
    case measure=>simp [intOf];omega
   ·have HV:=Lib.hid (idx_hit HI.out HX.out HU.out)
    go_wp2
    go_ret
    exact ⟨by rw [HV.out];rfl,HB1.out⟩
  ·obtain rfl:k=l.length:=by omega
   have HV:=Lib.hid (idx_end HI.out)
   go_wp2
   go_ret
   exact ⟨by rw [HV.out];rfl,HW.out⟩
theorem chkFnReg_ok (x:Reg) (w:World) (v:Bool) (hv:Hid (badReg x=v)):Calls Tryz.prog 46 #[.agg #[.int .u64 x.base, .int .u64 x.size, .int .u16 x.part, .int .u8 x.rights, .bool x.shared]] w fun e w'=>e= .returned (.bool v)∧Below w.heap.size w w':=by
 have hb:=below_one w (.cells #[.int .u64 x.base, .int .u64 x.size, .int .u16 x.part, .int .u8 x.rights, .bool x.shared] 75)
 by_cases h7:7 <x.rights
 ·have HV:=Lib.hid (show v=true by rw [←hv.out];unfold badReg;exact decide_eq_true h7)
  clear hv
  go_enter Tryz.func46,Tryz.ntmps46
  go_wp2
  go_ret
  exact ⟨by rw [HV.out];first |rfl |simp [h7],hb⟩
 ·have HV:=Lib.hid (show v=false by rw [←hv.out];unfold badReg;exact decide_eq_false h7)
  clear hv
  go_enter Tryz.func46,Tryz.ntmps46
  go_wp2
  go_ret
  exact ⟨by rw [HV.out];first |rfl |simp [h7],hb⟩
set_option maxRecDepth 100000 in
set_option maxHeartbeats 2000000 in
theorem idxFReg_ok (l:List Reg) (A:Option Addr) (cp:Nat) (w:World) (hl:l.length≤4194304) (hR:Rd w w.heap.size 5 A l.length (l.flatMap Reg.cells)) (v:Int) (hv:Hid (idx badReg l=v)):
  Calls Tryz.prog 45 #[.slice A l.length cp, .func (.func 46) #[] #[]] w fun e w'=>e= .returned (.int .i64 v)∧Below w.heap.size w w':=by
 have hent: ∀a w,(callFunc 46 a).run Tryz.prog w= .ok (.enter 46 a) w:=enters_of Tryz.func46 (by kernel_rfl) rfl
 have HR:=Lib.hid hR
 clear hR
 go_enter Tryz.func45,Tryz.ntmps45
 go_wp2
 go_loopw [8] (fun i wr=> ∃k:Nat,k≤l.length∧i= .int .i64 k∧Hid (v=idxFrom badReg k (l.drop k))∧Hid (Below w.heap.size w wr)) (fun i _=>l.length -(intOf i).toNat)
 case atStart=>exact ⟨0,Nat.zero_le _,rfl,Lib.hid (by rw [←hv.out];rfl),Lib.hid (Below.refl _ _)⟩
 case round=>
  obtain ⟨k,hk,rfl,HI,HW⟩:=hrel
  by_cases hlt:k <l.length
  ·obtain ⟨x,hx⟩:=get_lt hlt
   obtain ⟨b,o,rfl,hb,g0,g1,g2,g3,g4⟩:=reg_at (HR.out.up HW.out) hx
   have k0:(0:Int)≤(k:Int):=by omega
   have k1:(k:Int) <(l.length:Int):=by omega
   have HX:=Lib.hid hx
   obtain ⟨u,hu⟩: ∃u,badReg x=u:=⟨_,rfl⟩
   have HU:=Lib.hid hu
   clear hx hu
   go_wp2_with fail
   refine (chkFnReg_ok x _ u HU).mono ?_
   rintro e w1 ⟨rfl,hb1⟩
   have HB1:=Lib.hid (Below.then_ HW.out hb1)
   clear hb1 g0 g1 g2 g3 g4
   cases u
   ·go_wp2
    go_roundw
    case rel=>exact ⟨k+1,by omega,by go_num,Lib.hid (idx_miss HI.out HX.out HU.out),HB1⟩
    case measure=>simp [intOf];omega
   ·have HV:=Lib.hid (idx_hit HI.out HX.out HU.out)
    go_wp2
    go_ret
    exact ⟨by rw [HV.out];rfl,HB1.out⟩
  ·obtain rfl:k=l.length:=by omega
   have HV:=Lib.hid (idx_end HI.out)
   go_wp2
   go_ret
   exact ⟨by rw [HV.out];rfl,HW.out⟩
theorem idx7_0 (a0 a1 a2 a3 a4 a5 a6:Int) (w:World):(Instr.index 32 (.agg #[.int .i64 a0, .int .i64 a1, .int .i64 a2, .int .i64 a3, .int .i64 a4, .int .i64 a5, .int .i64 a6]) (.int .i64 (((0:Nat):Int)))).run Tryz.prog w= .ok (.int .i64 a0) w:=by kernel_rfl
theorem idx7_1 (a0 a1 a2 a3 a4 a5 a6:Int) (w:World):(Instr.index 32 (.agg #[.int .i64 a0, .int .i64 a1, .int .i64 a2, .int .i64 a3, .int .i64 a4, .int .i64 a5, .int .i64 a6]) (.int .i64 (((1:Nat):Int)))).run Tryz.prog w= .ok (.int .i64 a1) w:=by kernel_rfl
theorem idx7_2 (a0 a1 a2 a3 a4 a5 a6:Int) (w:World):(Instr.index 32 (.agg #[.int .i64 a0, .int .i64 a1, .int .i64 a2, .int .i64 a3, .int .i64 a4, .int .i64 a5, .int .i64 a6]) (.int .i64 (((2:Nat):Int)))).run Tryz.prog w= .ok (.int .i64 a2) w:=by kernel_rfl
theorem idx7_3 (a0 a1 a2 a3 a4 a5 a6:Int) (w:World):(Instr.index 32 (.agg #[.int .i64 a0, .int .i64 a1, .int .i64 a2, .int .i64 a3, .int .i64 a4, .int .i64 a5, .int .i64 a6]) (.int .i64 (((3:Nat):Int)))).run Tryz.prog w= .ok (.int .i64 a3) w:=by kernel_rfl
theorem idx7_4 (a0 a1 a2 a3 a4 a5 a6:Int) (w:World):(Instr.index 32 (.agg #[.int .i64 a0, .int .i64 a1, .int .i64 a2, .int .i64 a3, .int .i64 a4, .int .i64 a5, .int .i64 a6]) (.int .i64 (((4:Nat):Int)))).run Tryz.prog w= .ok (.int .i64 a4) w:=by kernel_rfl
theorem idx7_5 (a0 a1 a2 a3 a4 a5 a6:Int) (w:World):(Instr.index 32 (.agg #[.int .i64 a0, .int .i64 a1, .int .i64 a2, .int .i64 a3, .int .i64 a4, .int .i64 a5, .int .i64 a6]) (.int .i64 (((5:Nat):Int)))).run Tryz.prog w= .ok (.int .i64 a5) w:=by kernel_rfl
theorem idx7_6 (a0 a1 a2 a3 a4 a5 a6:Int) (w:World):(Instr.index 32 (.agg #[.int .i64 a0, .int .i64 a1, .int .i64 a2, .int .i64 a3, .int .i64 a4, .int .i64 a5, .int .i64 a6]) (.int .i64 (((6:Nat):Int)))).run Tryz.prog w= .ok (.int .i64 a6) w:=by kernel_rfl
theorem idx7n_0 (a0 a1 a2 a3 a4 a5 a6:Int) (w:World):(Instr.index 32 (.agg #[.int .i64 a0, .int .i64 a1, .int .i64 a2, .int .i64 a3, .int .i64 a4, .int .i64 a5, .int .i64 a6]) (.int .i64 ((((0:Int)))))).run Tryz.prog w= .ok (.int .i64 a0) w:=by kernel_rfl
theorem idx7n_1 (a0 a1 a2 a3 a4 a5 a6:Int) (w:World):(Instr.index 32 (.agg #[.int .i64 a0, .int .i64 a1, .int .i64 a2, .int .i64 a3, .int .i64 a4, .int .i64 a5, .int .i64 a6]) (.int .i64 ((((1:Int)))))).run Tryz.prog w= .ok (.int .i64 a1) w:=by kernel_rfl
theorem idx7n_2 (a0 a1 a2 a3 a4 a5 a6:Int) (w:World):(Instr.index 32 (.agg #[.int .i64 a0, .int .i64 a1, .int .i64 a2, .int .i64 a3, .int .i64 a4, .int .i64 a5, .int .i64 a6]) (.int .i64 ((((2:Int)))))).run Tryz.prog w= .ok (.int .i64 a2) w:=by kernel_rfl
theorem idx7n_3 (a0 a1 a2 a3 a4 a5 a6:Int) (w:World):(Instr.index 32 (.agg #[.int .i64 a0, .int .i64 a1, .int .i64 a2, .int .i64 a3, .int .i64 a4, .int .i64 a5, .int .i64 a6]) (.int .i64 ((((3:Int)))))).run Tryz.prog w= .ok (.int .i64 a3) w:=by kernel_rfl
theorem idx7n_4 (a0 a1 a2 a3 a4 a5 a6:Int) (w:World):(Instr.index 32 (.agg #[.int .i64 a0, .int .i64 a1, .int .i64 a2, .int .i64 a3, .int .i64 a4, .int .i64 a5, .int .i64 a6]) (.int .i64 ((((4:Int)))))).run Tryz.prog w= .ok (.int .i64 a4) w:=by kernel_rfl
theorem idx7n_5 (a0 a1 a2 a3 a4 a5 a6:Int) (w:World):(Instr.index 32 (.agg #[.int .i64 a0, .int .i64 a1, .int .i64 a2, .int .i64 a3, .int .i64 a4, .int .i64 a5, .int .i64 a6]) (.int .i64 ((((5:Int)))))).run Tryz.prog w= .ok (.int .i64 a5) w:=by kernel_rfl
theorem idx7n_6 (a0 a1 a2 a3 a4 a5 a6:Int) (w:World):(Instr.index 32 (.agg #[.int .i64 a0, .int .i64 a1, .int .i64 a2, .int .i64 a3, .int .i64 a4, .int .i64 a5, .int .i64 a6]) (.int .i64 ((((6:Int)))))).run Tryz.prog w= .ok (.int .i64 a6) w:=by kernel_rfl
attribute [local go_sem] idx7_0 idx7n_0 idx7_1 idx7n_1 idx7_2 idx7n_2 idx7_3 idx7n_3 idx7_4 idx7n_4 idx7_5 idx7n_5 idx7_6 idx7n_6
theorem limits_ok (w:World):Calls Tryz.prog 39 #[] w fun e w'=>e= .returned (.agg #[.int .i64 0, .int .i64 64, .int .i64 1024, .int .i64 1024, .int .i64 1024, .int .i64 512, .int .i64 1024])∧Below w.heap.size w w':=by
 go_enter Tryz.func39,Tryz.ntmps39
 go_wp2
 refine bodyPost_ret (v:= .agg #[.int .i64 0, .int .i64 64, .int .i64 1024, .int .i64 1024, .int .i64 1024, .int .i64 512, .int .i64 1024]) (by simp [results,Tryz.results39,go_sem]) rfl ⟨rfl, ?_⟩
 first |exact below_one _ _ |(repeat (first |exact Below.refl _ _ |refine Below.setCell ?_ (by simp) _ |refine Below.alloc ?_ (by simp) _))
set_option maxRecDepth 100000 in
set_option maxHeartbeats 16000000 in
theorem confCheck_ok (c:Cfg) (A1 A2 A3 A4 A5:Option Addr) (c1 c2 c3 c4 c5:Nat) (w:World) (hR:CfgR w w.heap.size c A1 A2 A3 A4 A5 c1 c2 c3 c4 c5) (ht:c.total≤4194304) (ec sc ic:Int) (hv:Hid (chkBad c=(ec,sc,ic))):Calls Tryz.prog 15 #[cfgV c.frame A1 A2 A3 A4 A5 c.parts.length c.wins.length c.regs.length c.ports.length c.chans.length c1 c2 c3 c4 c5] w fun e w'=>e= .returned (.agg #[.int .i64 ec, .int .i64 sc, .int .i64 ic])∧Below w.heap.size w w':=by
 obtain ⟨W0,hW,st⟩:=St.start_any hR 29
 have HW:=Lib.hid hW
 have e0:W0.heap.size=w.heap.size+1:=by rw [←hW];simp
 have hres:=Blk.new W0 44 #[.int .i64 0, .int .i64 0, .int .i64 0]
 have hb1:=below_one W0 (.cells #[.int .i64 0, .int .i64 0, .int .i64 0] 44)
 obtain ⟨W1,hW1⟩: ∃W1,W0.alloc (.cells #[.int .i64 0, .int .i64 0, .int .i64 0] 44)=W1:=⟨_,rfl⟩
 rw [hW1] at hres hb1
 rw [e0] at hres
 have HW1:=Lib.hid hW1
 have HRES:=Lib.hid hres
 have ST1:=Lib.hid (st.up hb1)
 have hsd:sumDests c.chans≤4194304:=by unfold Cfg.total at ht;omega
 have b1:c.parts.length≤4194304:=by unfold Cfg.total at ht;omega
 have b2:c.wins.length≤4194304:=by unfold Cfg.total at ht;omega
 have b3:c.regs.length≤4194304:=by unfold Cfg.total at ht;omega
 have b4:c.ports.length≤4194304:=by unfold Cfg.total at ht;omega
 have b5:c.chans.length≤4194304:=by unfold Cfg.total at ht;omega
 clear hR hW st hres hb1 hW1 e0
 go_enter Tryz.func15,Tryz.ntmps15
 go_upto_region 1 with (fail)
 rw [HW.out,HW1.out]
 go_wp2_with fail
 refine (limits_ok W1).mono ?_
 rintro e w2 ⟨rfl,hb2⟩
 have hlm:=Blk.new w2 32 #[.int .i64 0, .int .i64 64, .int .i64 1024, .int .i64 1024, .int .i64 1024, .int .i64 512, .int .i64 1024]
 have hb3:=below_one w2 (.cells #[.int .i64 0, .int .i64 64, .int .i64 1024, .int .i64 1024, .int .i64 1024, .int .i64 512, .int .i64 1024] 32)
 obtain ⟨W3,hW3⟩: ∃W3,w2.alloc (.cells #[.int .i64 0, .int .i64 64, .int .i64 1024, .int .i64 1024, .int .i64 1024, .int .i64 512, .int .i64 1024] 32)=W3:=⟨_,rfl⟩
 rw [hW3] at hlm hb3
 have HW3:=Lib.hid hW3
 have HLM:=Lib.hid hlm
 have ST3:=Lib.hid ((ST1.out.up hb2).up hb3)
 have HR3:=Lib.hid ((HRES.out.below hb2 HRES.out.lt).below hb3 (by have:=HRES.out.lt;have:=hb2.size;omega))
 clear hlm hb3 hb2 hW3
 go_upto_region 2 with (fail)
 rw [HW3.out]
 obtain ⟨x0,x1,x2,x3,x4,x5,hz⟩:=ST3.out.cells
 go_wp2_with fail
 refine (countsW_ok c _ _ _ _ _ _ _ _ _ _ _ ST3.out.R ht).mono ?_
 rintro e w4 ⟨rfl,hb4⟩
 have ST4:=Lib.hid (ST3.out.up hb4)
 have HLM4:=Lib.hid (HLM.out.below hb4 HLM.out.lt)
 have HR4:=Lib.hid (HR3.out.below hb4 HR3.out.lt)
 clear hb4 x0 x1 x2 x3 x4 x5 hz
 generalize w2.heap.size=gl at HLM4 ⊢
 have l0:=HLM4.out.cell 0
 have l1:=HLM4.out.cell 1
 have l2:=HLM4.out.cell 2
 have l3:=HLM4.out.cell 3
 have l4:=HLM4.out.cell 4
 have l5:=HLM4.out.cell 5
 have l6:=HLM4.out.cell 6
 simp at l0 l1 l2 l3 l4 l5 l6
 have r0:=HR4.out.cell 0
 have r1:=HR4.out.cell 1
 have r2:=HR4.out.cell 2
 simp at r0 r1 r2
 have hfr:=HR4.out.frozen
 have hrl:=HR4.out.lt
 have HLL:=Lib.hid (show W3.heap.size=W3.heap.size from rfl)
 go_wp2
 go_loopw [12] (fun i wr=> ∃k:Nat,k≤7∧i= .int .i64 k∧Hid (∀j,1≤j→j <k→overC c j=false)∧wr=w4) (fun i _=>7 -(intOf i).toNat)
 case atStart=>exact ⟨0,by omega,rfl,Lib.hid (fun j h1 h2=>by omega),by first |rfl |trivial⟩
 case round=>
  obtain ⟨k,hk,rfl,HG,rfl⟩:=hrel
  rcases (show k=0∨k=1∨k=2∨k=3∨k=4∨k=5∨k=6∨k=7 by omega) with rfl |rfl |rfl |rfl |rfl |rfl |rfl |rfl
  ·have hix:=fun w=>idx7_0 0 c.parts.length c.wins.length c.regs.length c.ports.length c.chans.length (sumDests c.chans) w
   go_wp2
   go_roundw
   case rel=>exact ⟨1,by omega,by go_num,Lib.hid (fun j h1 h2=>by omega),by first |rfl |trivial⟩
   case measure=>simp [intOf]
  ·have hix:=fun w=>idx7_1 0 c.parts.length c.wins.length c.regs.length c.ports.length c.chans.length (sumDests c.chans) w
   by_cases ho:64 <c.parts.length
   ·have hi:(64:Int) <((c.parts.length:Nat):Int):=by omega
    have hch:=limBad_hit (c:=c) (k:=1) (by omega) (by omega) HG.out (by unfold overC limOf cntOf;exact decide_eq_true ho)
    rw [hv.out] at hch
    injection hch with e1 e2
    injection e2 with e2 e3
    have e3':ic=64:=by rw [e3];rfl
    have e2':sc=1:=by rw [e2];rfl
    subst e1 e2' e3'
    clear ho hv HG e2 e3
    go_wp2
    refine bodyPost_ret (v:= .agg #[.int .i64 7, .int .i64 1, .int .i64 64]) (by simp [results,Tryz.results15,go_sem,r0,r1,r2]) rfl ⟨rfl, ?_⟩
    exact Below.setCell (Below.setCell (Below.setCell ST4.out.bel (by simp) _) (by simp) _) (by simp) _
   ·have hi: ¬(64:Int) <((c.parts.length:Nat):Int):=by omega
    have HN:=Lib.hid (show ∀i,1≤i→i <2→overC c i=false from fun i h1 h2=>by
     rcases Nat.lt_succ_iff_lt_or_eq.1 h2 with h |rfl
     ·exact HG.out i h1 h
     ·unfold overC limOf cntOf;exact decide_eq_false ho)
    clear ho
    go_wp2
    go_roundw
    case rel=>exact ⟨2,by omega,by go_num,HN,by first |rfl |trivial⟩
    case measure=>simp [intOf]
  ·have hix:=fun w=>idx7_2 0 c.parts.length c.wins.length c.regs.length c.ports.length c.chans.length (sumDests c.chans) w
   by_cases ho:1024 <c.wins.length
   ·have hi:(1024:Int) <((c.wins.length:Nat):Int):=by omega
    have hch:=limBad_hit (c:=c) (k:=2) (by omega) (by omega) HG.out (by unfold overC limOf cntOf;exact decide_eq_true ho)
    rw [hv.out] at hch
    injection hch with e1 e2
    injection e2 with e2 e3
    have e3':ic=1024:=by rw [e3];rfl
    have e2':sc=2:=by rw [e2];rfl
    subst e1 e2' e3'
    clear ho hv HG e2 e3
    go_wp2
    refine bodyPost_ret (v:= .agg #[.int .i64 7, .int .i64 2, .int .i64 1024]) (by simp [results,Tryz.results15,go_sem,r0,r1,r2]) rfl ⟨rfl, ?_⟩
    exact Below.setCell (Below.setCell (Below.setCell ST4.out.bel (by simp) _) (by simp) _) (by simp) _
   ·have hi: ¬(1024:Int) <((c.wins.length:Nat):Int):=by omega
    have HN:=Lib.hid (show ∀i,1≤i→i <3→overC c i=false from fun i h1 h2=>by
     rcases Nat.lt_succ_iff_lt_or_eq.1 h2 with h |rfl
     ·exact HG.out i h1 h
     ·unfold overC limOf cntOf;exact decide_eq_false ho)
    clear ho
    go_wp2
    go_roundw
    case rel=>exact ⟨3,by omega,by go_num,HN,by first |rfl |trivial⟩
    case measure=>simp [intOf]
  ·have hix:=fun w=>idx7_3 0 c.parts.length c.wins.length c.regs.length c.ports.length c.chans.length (sumDests c.chans) w
   by_cases ho:1024 <c.regs.length
   ·have hi:(1024:Int) <((c.regs.length:Nat):Int):=by omega
    have hch:=limBad_hit (c:=c) (k:=3) (by omega) (by omega) HG.out (by unfold overC limOf cntOf;exact decide_eq_true ho)
    rw [hv.out] at hch
    injection hch with e1 e2
    injection e2 with e2 e3
    have e3':ic=1024:=by rw [e3];rfl
    have e2':sc=3:=by rw [e2];rfl
    subst e1 e2' e3'
    clear ho hv HG e2 e3
    go_wp2
    refine bodyPost_ret (v:= .agg #[.int .i64 7, .int .i64 3, .int .i64 1024]) (by simp [results,Tryz.results15,go_sem,r0,r1,r2]) rfl ⟨rfl, ?_⟩
    exact Below.setCell (Below.setCell (Below.setCell ST4.out.bel (by simp) _) (by simp) _) (by simp) _
   ·have hi: ¬(1024:Int) <((c.regs.length:Nat):Int):=by omega
    have HN:=Lib.hid (show ∀i,1≤i→i <4→overC c i=false from fun i h1 h2=>by
     rcases Nat.lt_succ_iff_lt_or_eq.1 h2 with h |rfl
     ·exact HG.out i h1 h
     ·unfold overC limOf cntOf;exact decide_eq_false ho)
    clear ho
    go_wp2
    go_roundw
    case rel=>exact ⟨4,by omega,by go_num,HN,by first |rfl |trivial⟩
    case measure=>simp [intOf]
  ·have hix:=fun w=>idx7_4 0 c.parts.length c.wins.length c.regs.length c.ports.length c.chans.length (sumDests c.chans) w
   by_cases ho:1024 <c.ports.length
   ·have hi:(1024:Int) <((c.ports.length:Nat):Int):=by omega
    have hch:=limBad_hit (c:=c) (k:=4) (by omega) (by omega) HG.out (by unfold overC limOf cntOf;exact decide_eq_true ho)
    rw [hv.out] at hch
    injection hch with e1 e2
    injection e2 with e2 e3
    have e3':ic=1024:=by rw [e3];rfl
    have e2':sc=4:=by rw [e2];rfl
    subst e1 e2' e3'
    clear ho hv HG e2 e3
    go_wp2
    refine bodyPost_ret (v:= .agg #[.int .i64 7, .int .i64 4, .int .i64 1024]) (by simp [results,Tryz.results15,go_sem,r0,r1,r2]) rfl ⟨rfl, ?_⟩
    exact Below.setCell (Below.setCell (Below.setCell ST4.out.bel (by simp) _) (by simp) _) (by simp) _
   ·have hi: ¬(1024:Int) <((c.ports.length:Nat):Int):=by omega
    have HN:=Lib.hid (show ∀i,1≤i→i <5→overC c i=false from fun i h1 h2=>by
     rcases Nat.lt_succ_iff_lt_or_eq.1 h2 with h |rfl
     ·exact HG.out i h1 h
     ·unfold overC limOf cntOf;exact decide_eq_false ho)
    clear ho
    go_wp2
    go_roundw
    case rel=>exact ⟨5,by omega,by go_num,HN,by first |rfl |trivial⟩
    case measure=>simp [intOf]
  ·have hix:=fun w=>idx7_5 0 c.parts.length c.wins.length c.regs.length c.ports.length c.chans.length (sumDests c.chans) w
   by_cases ho:512 <c.chans.length
   ·have hi:(512:Int) <((c.chans.length:Nat):Int):=by omega
    have hch:=limBad_hit (c:=c) (k:=5) (by omega) (by omega) HG.out (by unfold overC limOf cntOf;exact decide_eq_true ho)
    rw [hv.out] at hch
    injection hch with e1 e2
    injection e2 with e2 e3
    have e3':ic=512:=by rw [e3];rfl
    have e2':sc=5:=by rw [e2];rfl
    subst e1 e2' e3'
    clear ho hv HG e2 e3
    go_wp2
    refine bodyPost_ret (v:= .agg #[.int .i64 7, .int .i64 5, .int .i64 512]) (by simp [results,Tryz.results15,go_sem,r0,r1,r2]) rfl ⟨rfl, ?_⟩
    exact Below.setCell (Below.setCell (Below.setCell ST4.out.bel (by simp) _) (by simp) _) (by simp) _
   ·have hi: ¬(512:Int) <((c.chans.length:Nat):Int):=by omega
    have HN:=Lib.hid (show ∀i,1≤i→i <6→overC c i=false from fun i h1 h2=>by
     rcases Nat.lt_succ_iff_lt_or_eq.1 h2 with h |rfl
     ·exact HG.out i h1 h
     ·unfold overC limOf cntOf;exact decide_eq_false ho)
    clear ho
    go_wp2
    go_roundw
    case rel=>exact ⟨6,by omega,by go_num,HN,by first |rfl |trivial⟩
    case measure=>simp [intOf]
  ·have hix:=fun w=>idx7_6 0 c.parts.length c.wins.length c.regs.length c.ports.length c.chans.length (sumDests c.chans) w
   by_cases ho:1024 <sumDests c.chans
   ·have hi:(1024:Int) <((sumDests c.chans:Nat):Int):=by omega
    have hch:=limBad_hit (c:=c) (k:=6) (by omega) (by omega) HG.out (by unfold overC limOf cntOf;exact decide_eq_true ho)
    rw [hv.out] at hch
    injection hch with e1 e2
    injection e2 with e2 e3
    have e3':ic=1024:=by rw [e3];rfl
    have e2':sc=6:=by rw [e2];rfl
    subst e1 e2' e3'
    clear ho hv HG e2 e3
    go_wp2
    refine bodyPost_ret (v:= .agg #[.int .i64 7, .int .i64 6, .int .i64 1024]) (by simp [results,Tryz.results15,go_sem,r0,r1,r2]) rfl ⟨rfl, ?_⟩
    exact Below.setCell (Below.setCell (Below.setCell ST4.out.bel (by simp) _) (by simp) _) (by simp) _
   ·have hi: ¬(1024:Int) <((sumDests c.chans:Nat):Int):=by omega
    have HN:=Lib.hid (show ∀i,1≤i→i <7→overC c i=false from fun i h1 h2=>by
     rcases Nat.lt_succ_iff_lt_or_eq.1 h2 with h |rfl
     ·exact HG.out i h1 h
     ·unfold overC limOf cntOf;exact decide_eq_false ho)
    clear ho
    go_wp2
    go_roundw
    case rel=>exact ⟨7,by omega,by go_num,HN,by first |rfl |trivial⟩
    case measure=>simp [intOf]
  ·have hnb:=limBad_none HG.out
   rw [hv.out] at hnb
   have HNB:=Lib.hid hnb
   obtain ⟨i1,hi1⟩: ∃i,idx badPar c.parts=i:=⟨_,rfl⟩
   obtain ⟨i2,hi2⟩: ∃i,idx badPrt c.ports=i:=⟨_,rfl⟩
   obtain ⟨i3,hi3⟩: ∃i,idx badReg c.regs=i:=⟨_,rfl⟩
   have HI1:=Lib.hid hi1
   have HI2:=Lib.hid hi2
   have HI3:=Lib.hid hi3
   have hnb2:(ec,sc,ic)=if 0≤i1 then (6,1,i1) else if 0≤i2 then (6,4,i2) else if 0≤i3 then ((15:Int),(3:Int),i3) else (0,0,0):=by rw [hnb];unfold nameBads;rw [hi1,hi2,hi3]
   have HN2:=Lib.hid hnb2
   clear hnb hi1 hi2 hi3 hv HG l0 l1 l2 l3 l4 l5 l6 r0 r1 r2 hfr hrl hnb2
   obtain ⟨x0,x1,x2,x3,x4,x5,hz⟩:=ST4.out.cells
   go_wp2_with fail
   refine (idxFPar_ok c.parts _ _ _ b1 ST4.out.R.parts i1 HI1).mono ?_
   rintro e w5 ⟨rfl,hb5⟩
   have ST5:=Lib.hid (ST4.out.up hb5)
   have HR5:=Lib.hid (HR4.out.below hb5 HR4.out.lt)
   clear hb5 x0 x1 x2 x3 x4 x5 hz
   by_cases p1:0≤i1
   ·have hn2:=HN2.out
    rw [if_pos (by omega)] at hn2
    injection hn2 with e1 e2
    injection e2 with e2 e3
    subst e1 e2 e3
    have r0:=HR5.out.cell 0
    have r1:=HR5.out.cell 1
    have r2:=HR5.out.cell 2
    simp at r0 r1 r2
    have hfr:=HR5.out.frozen
    have hrl:=HR5.out.lt
    clear HN2 HNB HI1 HI2 HI3
    go_wp2
    refine bodyPost_ret (v:= .agg #[.int .i64 6, .int .i64 1, .int .i64 _]) (by simp [results,Tryz.results15,go_sem,r0,r1,r2]) rfl ⟨rfl, ?_⟩
    exact Below.setCell (Below.setCell (Below.setCell ST5.out.bel (by simp) _) (by simp) _) (by simp) _
   obtain ⟨x0,x1,x2,x3,x4,x5,hz⟩:=ST5.out.cells
   go_wp2_with fail
   refine (idxFPrt_ok c.ports _ _ _ b4 ST5.out.R.ports i2 HI2).mono ?_
   rintro e w6 ⟨rfl,hb6⟩
   have ST6:=Lib.hid (ST5.out.up hb6)
   have HR6:=Lib.hid (HR5.out.below hb6 HR5.out.lt)
   clear hb6 x0 x1 x2 x3 x4 x5 hz
   by_cases p2:0≤i2
   ·have hn2:=HN2.out
    rw [if_neg (by omega),if_pos (by omega)] at hn2
    injection hn2 with e1 e2
    injection e2 with e2 e3
    subst e1 e2 e3
    have r0:=HR6.out.cell 0
    have r1:=HR6.out.cell 1
    have r2:=HR6.out.cell 2
    simp at r0 r1 r2
    have hfr:=HR6.out.frozen
    have hrl:=HR6.out.lt
    clear HN2 HNB HI1 HI2 HI3
    go_wp2
    refine bodyPost_ret (v:= .agg #[.int .i64 6, .int .i64 4, .int .i64 _]) (by simp [results,Tryz.results15,go_sem,r0,r1,r2]) rfl ⟨rfl, ?_⟩
    exact Below.setCell (Below.setCell (Below.setCell ST6.out.bel (by simp) _) (by simp) _) (by simp) _
   obtain ⟨x0,x1,x2,x3,x4,x5,hz⟩:=ST6.out.cells
   go_wp2_with fail
   refine (idxFReg_ok c.regs _ _ _ b3 ST6.out.R.regs i3 HI3).mono ?_
   rintro e w7 ⟨rfl,hb7⟩
   have ST7:=Lib.hid (ST6.out.up hb7)
   have HR7:=Lib.hid (HR6.out.below hb7 HR6.out.lt)
   clear hb7 x0 x1 x2 x3 x4 x5 hz
   by_cases p3:0≤i3
   ·have hn2:=HN2.out
    rw [if_neg (by omega),if_neg (by omega),if_pos (by omega)] at hn2
    injection hn2 with e1 e2
    injection e2 with e2 e3
    subst e1 e2 e3
    have r0:=HR7.out.cell 0
    have r1:=HR7.out.cell 1
    have r2:=HR7.out.cell 2
    simp at r0 r1 r2
    have hfr:=HR7.out.frozen
    have hrl:=HR7.out.lt
    clear HN2 HNB HI1 HI2 HI3
    go_wp2
    refine bodyPost_ret (v:= .agg #[.int .i64 15, .int .i64 3, .int .i64 _]) (by simp [results,Tryz.results15,go_sem,r0,r1,r2]) rfl ⟨rfl, ?_⟩
    exact Below.setCell (Below.setCell (Below.setCell ST7.out.bel (by simp) _) (by simp) _) (by simp) _
   ·have hn2:=HN2.out
    rw [if_neg (by omega),if_neg (by omega),if_neg (by omega)] at hn2
    injection hn2 with e1 e2
    injection e2 with e2 e3
    subst e1 e2 e3
    have r0:=HR7.out.cell 0
    have r1:=HR7.out.cell 1
    have r2:=HR7.out.cell 2
    simp at r0 r1 r2
    have hfr:=HR7.out.frozen
    have hrl:=HR7.out.lt
    clear HN2 HNB HI1 HI2 HI3
    go_wp2
    refine bodyPost_ret (v:= .agg #[.int .i64 0, .int .i64 0, .int .i64 0]) (by simp [results,Tryz.results15,go_sem,r0,r1,r2]) rfl ⟨rfl, ?_⟩
    exact Below.setCell (Below.setCell (Below.setCell ST7.out.bel (by simp) _) (by simp) _) (by simp) _
end Go.Proofs.YteelncofiodflaaGreat
namespace Go.Proofs.YteelncofiodflaaGreat
open Go.RowKit
attribute [local go_sem] ext_cell
end Go.Proofs.YteelncofiodflaaGreat
