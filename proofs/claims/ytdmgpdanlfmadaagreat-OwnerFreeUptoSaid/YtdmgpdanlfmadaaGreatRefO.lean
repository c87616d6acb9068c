/-
  insert of the reference of layer 22, walked: a number put into an ascending row. No condition but on sizes.
-/
import Derived.BigQuiet
import Derived.Deep.RegionHeld3
import Derived.Test.YtdmgpdanlfmadaaGreatOwnA
import Derived.Test.YtdmgpdanlfmadaaGreatSliceP
namespace Go.Proofs.YtdmgpdanlfmadaaGreat
open Go.RowKit
theorem drew_heapO (w:World):w.drew.heap=w.heap:=rfl
attribute [local simp] drew_heapO
theorem info_u64O:(Tryz.prog.info? 22).map (fun i=>(i.zero,i.size,i.bytes))=some (some (.int .u64 0),1,8):=by kernel_rfl
theorem map_insO {α:Type} (f:α→Value) (o:List α) (x:α) (m:Nat):(o.take m++x::o.drop m).map f=((([]:List Value)++(o.map f).take (m*1))++ [f x])++(o.map f).drop (m*1):=by
 simp
theorem own_drewO {w:World} {base:Nat} {e:TypeId} {size n:Nat} {v:Value} {xs:List Value} (h:w.ownsRow base e size v n xs):w.drew.ownsRow base e size v n xs:=own_below h (below_drew w)
theorem i64_one (o:List Int): ∀u ∈ o.map (Value.int .u64),u.oneCell'=true:=by
 intro u hu
 obtain ⟨z,_,rfl⟩:=List.mem_map.1 hu
 rfl
theorem take_parts {l:List Int} {x:Int}: ∀ {m:Nat},(∀y ∈ l.take m,y≤x)→(∀y ∈ l.drop m,x <y)→l.takeWhile (fun y=>decide (y≤x))=l.take m∧l.dropWhile (fun y=>decide (y≤x))=l.drop m:=by
 induction l with
 |nil=>intro m _ _;simp
 |cons a r ih=>
  intro m h1 h2
  match m with
  |0=>
   have:=h2 a (by simp)
   have hd:decide (a≤x)=false:=decide_eq_false (by omega)
   simp [hd]
  |m+1=>
   have:=h1 a (by simp)
   have hd:decide (a≤x)=true:=decide_eq_true (by omega)
   obtain ⟨e1,e2⟩:=ih (m:=m) (fun y hy=>h1 y (by rw [List.take_succ_cons];exact List.mem_cons_of_mem _ hy)) (fun y hy=>h2 y (by rw [List.drop_succ_cons];exact hy))
   simp [hd,e1,e2]
theorem insU_new {l:List Int} {x:Int} {m:Nat} (hx:x≠0) (hasc:l.Pairwise (· < ·)) (hm:m≤l.length) (h2: ∀y ∈ l.drop m,x <y) (h1:m=0∨ ∃y,l[m -1]? =some y∧y <x):insU l x=l.take m++x::l.drop m:=by
 have hlo: ∀y ∈ l.take m,y <x:=by
  intro y hy
  rcases h1 with rfl |⟨z,hz,hzx⟩
  ·simp at hy
  ·obtain ⟨i,hi⟩:=List.getElem?_of_mem hy
   rw [List.getElem?_take] at hi
   split at hi
   ·rename_i him
    rcases Nat.lt_or_ge i (m -1) with hlt |hge
    ·obtain ⟨hi1,rfl⟩:=List.getElem?_eq_some_iff.1 hi
     obtain ⟨hz1,rfl⟩:=List.getElem?_eq_some_iff.1 hz
     have:=List.pairwise_iff_getElem.1 hasc i (m -1) hi1 hz1 hlt
     omega
    ·have:i=m -1:=by omega
     subst this
     rw [hz] at hi;injection hi with hi;omega
   ·cases hi
 have hno: ¬(x=0∨x ∈ l):=by
  rintro (h |h)
  ·exact hx h
  ·rw [←List.take_append_drop m l] at h
   rcases List.mem_append.1 h with h |h
   ·have:=hlo x h;omega
   ·have:=h2 x h;omega
 obtain ⟨e1,e2⟩:=take_parts (l:=l) (x:=x) (m:=m) (fun y hy=>by have:=hlo y hy;omega) h2
 unfold insU
 rw [if_neg hno,e1,e2]
theorem insU_old {l:List Int} {x:Int} (h:x=0∨x ∈ l):insU l x=l:=by unfold insU;rw [if_pos h]
theorem u64_at {w:World} {B:Nat} {b o:Nat} {l:List Int} (h:Rd w B 1 (some ⟨b,o,none⟩) l.length (l.map (Value.int .u64))) {k:Nat} {x:Int} (hk:l[k]? =some x):w.cell? ⟨b,o+k,none⟩=some (.int .u64 x):=by
 have hlt:k <l.length:=(List.getElem?_eq_some_iff.1 hk).1
 obtain ⟨b',o',e,_,hc⟩:=h.2 (by omega)
 injection e with e
 injection e with e1 e2
 subst e1 e2
 exact hc k _ (by simp [hk])
set_option maxRecDepth 100000 in
set_option maxHeartbeats 8000000 in
theorem rInsert_ok (l:List Int) (A:Option Addr) (c:Nat) (x:Int) (w:World) (hl:l.length≤4194304) (hasc:l.Pairwise (· < ·)) (hc:l.length≤c) (hR:Rd w w.heap.size 1 A l.length (l.map (Value.int .u64))):
  Calls Tryz.prog 139 #[.slice A l.length c, .int .u64 x] w fun e w'=> ∃v',e= .returned v'∧((v'= .slice A l.length c∧insU l x=l)∨w'.ownsRow w.heap.size 22 1 v' (insU l x).length ((insU l x).map (Value.int .u64)))∧Below w.heap.size w w':=by
 obtain ⟨i0,hi,hz0,hz1,hz2⟩:=info_parts info_u64O
 have HR:=Lib.hid hR
 have HA:=Lib.hid hasc
 clear hR hasc
 have hxx:(x==0)=decide (x=0):=by rw [Bool.eq_iff_iff];simp
 have HXX:=Lib.hid hxx
 clear hxx
 go_enter Tryz.func139,Tryz.ntmps139
 go_wp2
 go_loopw [5] (fun i w2=> ∃m:Nat,m≤l.length∧i= .int .i64 m∧Hid (∀y ∈ l.drop m,x <y)∧Hid (Below w.heap.size w w2)) (fun i _=>(intOf i).toNat)
 case atStart=>exact ⟨l.length,Nat.le_refl _,rfl,Lib.hid (by simp),Lib.hid (Below.refl _ _)⟩
 case round=>
  obtain ⟨m,hm,rfl,HL,HB⟩:=hrel
  have HR2:=Lib.hid (HR.out.up HB.out)
  obtain ⟨wz,rfl⟩: ∃wz:World,wz=wr:=⟨_,rfl⟩
  rcases Nat.eq_zero_or_pos m with hz |hm0
  ·have HZ0:=Lib.hid (show m=0∨ ∃y,l[m -1]? =some y∧y <x from .inl hz)
   have hd:decide ((0:Int) <(m:Int))=false:=by subst hz;rfl
   have hd2:decide (0 <m)=false:=by subst hz;rfl
   clear hz
   by_cases hx0:x=0
   ·have HIN:=Lib.hid (insU_old (l:=l) (x:=x) (.inl hx0))
    subst hx0
    go_wp2
    go_ret
    exact ⟨_,rfl, .inl ⟨rfl,HIN.out⟩,HB.out⟩
   ·have hxf:(x==0)=false:=by simpa using hx0
    have HX0:=Lib.hid hx0
    clear hx0
    obtain ⟨A1,c1,hs1,hp1,_,_⟩:=slice_pre (P:=Tryz.prog) (t:=78) (sz:=1) Tryz.underlying78 (run_sizeOf hi hz1) HR2.out hc m (by omega)
    obtain ⟨A2,c2,hs2,hp2,_,_⟩:=slice_suf (P:=Tryz.prog) (t:=78) (sz:=1) Tryz.underlying78 (run_sizeOf hi hz1) HR2.out hc m (by omega)
    have HP:=Lib.hid hp1
    have HQ:=Lib.hid hp2
    have HO1:=Lib.hid (show ∀u ∈ (l.map (Value.int .u64)).take (m*1),u.oneCell'=true from fun u hu=>i64_one l u (List.mem_of_mem_take hu))
    have HO2:=Lib.hid (show ∀u ∈ (l.map (Value.int .u64)).drop (m*1),u.oneCell'=true from fun u hu=>i64_one l u (List.mem_of_mem_drop hu))
    have HBW:=Lib.hid (Below.refl wz.heap.size wz)
    have HIN:=Lib.hid (show insU l x=l.take m++x::l.drop m from insU_new HX0.out HA.out (by omega) HL.out HZ0.out)
    clear hp1 hp2
    go_upto_region 6 with (fail)
    go_region_held3 (fun _=>True)
     (exact trivial)
     (first
     |(refine step_appR wz 78 22 i0 (.int .u64 0) 8 Tryz.underlying78 hi hz0 hz1 hz2 rfl (by rfl) (.tmp 37) (.tmp 40) (by rfl) [] ?_ wz.heap.size A1 m c1 ((l.map (Value.int .u64)).take (m*1)) (by rfl) ?_ ?_ ?_ ?_ ?_ ?_;(focus ((repeat (first |(with_reducible refine own_drewO ?_) |(exact hq1) |(refine World.ownsRow.kept ?_ hg1 (Or.inr ?_);rotate_left;(intro e;have e2:=Option.some.inj e;first |(exfalso;dsimp only at e2;omega) |(exfalso;have hy:=HBW.out.size;simp at hy e2;omega))) |(refine own_litV _ _ _ [] _ _ ?_ ?_ ?_ ?_ _ ?_;(focus (first |(simp;done) |(have hq:=HBW.out.size;simp at hq ⊢;omega) |omega;done));(focus (simp;done));(focus (simp [maxLen];done));(focus (exact rfl));(focus (exact rfl))) |(with_reducible refine World.ownsRow.alloc ?_ _)));done));(focus (exact HP.out.below (by (repeat (first |with_reducible exact HBW.out |with_reducible exact Below.refl _ _ |with_reducible refine Below.drew ?_ |(with_reducible refine Below.alloc ?_ (by first |(simp;done) |(have hq:=HBW.out.size;simp at hq ⊢;omega)) _) |(with_reducible refine Below.setCell ?_ (by first |(simp;done) |(have hq:=HBW.out.size;simp at hq ⊢;omega)) _))))));(focus (exact HO1.out));(focus (simp;omega));(focus (simp [maxLen];omega));(focus ((repeat (first |with_reducible exact HBW.out |with_reducible exact Below.refl _ _ |with_reducible refine Below.drew ?_ |(with_reducible refine Below.alloc ?_ (by first |(simp;done) |(have hq:=HBW.out.size;simp at hq ⊢;omega)) _) |(with_reducible refine Below.setCell ?_ (by first |(simp;done) |(have hq:=HBW.out.size;simp at hq ⊢;omega)) _)));done));intro v1 w1 hq1 hg1 hbb;have HBW:=Lib.hid hbb)
     |(refine step_appO wz 78 22 i0 (.int .u64 0) 8 Tryz.underlying78 hi hz0 hz1 hz2 rfl (by rfl) (.tmp 41) (.tmp 43) (by rfl) ([]++(l.map (Value.int .u64)).take (m*1)) ?_ [.int .u64 x] ?_ ?_ ?_ ?_ ?_ ?_;(focus ((repeat (first |(with_reducible refine own_drewO ?_) |(exact hq1) |(refine World.ownsRow.kept ?_ hg1 (Or.inr ?_);rotate_left;(intro e;have e2:=Option.some.inj e;first |(exfalso;dsimp only at e2;omega) |(exfalso;have hy:=HBW.out.size;simp at hy e2;omega))) |(refine own_litV _ _ _ [.int .u64 x] _ _ ?_ ?_ ?_ ?_ _ ?_;(focus (first |(simp;done) |(have hq:=HBW.out.size;simp at hq ⊢;omega) |omega;done));(focus (simp;done));(focus (simp [maxLen];done));(focus (exact rfl));(focus (exact rfl))) |(with_reducible refine World.ownsRow.alloc ?_ _)));done));(focus ((repeat (first |(with_reducible refine own_drewO ?_) |(exact hq1) |(refine World.ownsRow.kept ?_ hg1 (Or.inr ?_);rotate_left;(intro e;have e2:=Option.some.inj e;first |(exfalso;dsimp only at e2;omega) |(exfalso;have hy:=HBW.out.size;simp at hy e2;omega))) |(refine own_litV _ _ _ [.int .u64 x] _ _ ?_ ?_ ?_ ?_ _ ?_;(focus (first |(simp;done) |(have hq:=HBW.out.size;simp at hq ⊢;omega) |omega;done));(focus (simp;done));(focus (simp [maxLen];done));(focus (exact rfl));(focus (exact rfl))) |(with_reducible refine World.ownsRow.alloc ?_ _)));done));(focus (intro u hu;simp at hu;subst hu;rfl));(focus (simp;omega));(focus (simp [maxLen];omega));(focus ((repeat (first |with_reducible exact HBW.out |with_reducible exact Below.refl _ _ |with_reducible refine Below.drew ?_ |(with_reducible refine Below.alloc ?_ (by first |(simp;done) |(have hq:=HBW.out.size;simp at hq ⊢;omega)) _) |(with_reducible refine Below.setCell ?_ (by first |(simp;done) |(have hq:=HBW.out.size;simp at hq ⊢;omega)) _)));done));intro v2 w2 hq2 hg2 hbb;have HBW:=Lib.hid hbb)
     |(refine step_appR wz 78 22 i0 (.int .u64 0) 8 Tryz.underlying78 hi hz0 hz1 hz2 rfl (by rfl) (.tmp 44) (.tmp 47) (by rfl) (([]++(l.map (Value.int .u64)).take (m*1))++ [.int .u64 x]) ?_ wz.heap.size A2 (l.length -m) c2 ((l.map (Value.int .u64)).drop (m*1)) (by rfl) ?_ ?_ ?_ ?_ ?_ ?_;(focus (exact hq2));(focus (exact HQ.out.below (by (repeat (first |with_reducible exact HBW.out |with_reducible exact Below.refl _ _ |with_reducible refine Below.drew ?_ |(with_reducible refine Below.alloc ?_ (by first |(simp;done) |(have hq:=HBW.out.size;simp at hq ⊢;omega)) _) |(with_reducible refine Below.setCell ?_ (by first |(simp;done) |(have hq:=HBW.out.size;simp at hq ⊢;omega)) _))))));(focus (exact HO2.out));(focus (simp;omega));(focus (simp [maxLen];omega));(focus ((repeat (first |with_reducible exact HBW.out |with_reducible exact Below.refl _ _ |with_reducible refine Below.drew ?_ |(with_reducible refine Below.alloc ?_ (by first |(simp;done) |(have hq:=HBW.out.size;simp at hq ⊢;omega)) _) |(with_reducible refine Below.setCell ?_ (by first |(simp;done) |(have hq:=HBW.out.size;simp at hq ⊢;omega)) _)));done));intro v3 w3 hq3 hg3 hbb;have HBW:=Lib.hid hbb)
     |fail)
    all_goals
     have HB4:=Lib.hid (Below.then_ HB.out HBW.out)
     have HO4:=Lib.hid (own_lessM hq3 HB.out.size)
     rw [←map_insO (Value.int .u64) l x m, ←HIN.out] at HO4
     rw [List.length_map] at HO4
     clear hq3 hq2 hq1 hg1 hg2 hg3
     go_wp2
     go_ret
     exact ⟨_,rfl, .inr HO4.out,HB4.out⟩
  ·obtain ⟨n,hn⟩: ∃n,m=n+1:=⟨m -1,by omega⟩
   have HN:=Lib.hid hn
   have e1:IntKind.i64.wrap ((m:Int) -1)=(n:Int):=by rw [IntKind.wrap_i64];omega
   have q0:(0:Int)≤(n:Int):=by omega
   have q1:(n:Int) <(l.length:Int):=by omega
   have q2:(0:Int) <(m:Int):=by omega
   obtain ⟨y,hy⟩:=get_lt (l:=l) (k:=n) (by omega)
   obtain ⟨b3,o3,rfl,hb3,_⟩:=HR2.out.2 (by omega)
   have g3:=u64_at HR2.out hy
   have HY:=Lib.hid hy
   clear hy hn
   by_cases hle:x <y
   ·have HL2:=Lib.hid (show ∀u ∈ l.drop n,x <u from fun u hu=>by
     rw [drop_cons HY.out] at hu
     rcases List.mem_cons.1 hu with rfl |hu
     ·exact hle
     ·exact HL.out u (by rw [HN.out];exact hu))
    go_wp2
    go_roundw
    case rel=>exact ⟨n,by omega,by first |rfl |(congr 1;omega),HL2,HB⟩
    case measure=>have:=HN.out;simp [intOf];omega
   ·have hle2:y≤x:=by omega
    by_cases hx0:x=0
    ·have HIN:=Lib.hid (insU_old (l:=l) (x:=x) (.inl hx0))
     subst hx0
     go_wp2
     go_ret
     exact ⟨_,rfl, .inl ⟨rfl,HIN.out⟩,HB.out⟩
    ·have hxf:(x==0)=false:=by simpa using hx0
     by_cases hyx:y=x
     ·have HIN:=Lib.hid (insU_old (l:=l) (x:=x) (.inr (by rw [←hyx];exact List.mem_of_getElem? HY.out)))
      subst hyx
      go_wp2
      go_ret
      exact ⟨_,rfl, .inl ⟨rfl,HIN.out⟩,HB.out⟩
     ·have hyf:(y==x)=false:=by simpa using hyx
      have HLOW:=Lib.hid (show m=0∨ ∃y,l[m -1]? =some y∧y <x from .inr ⟨y,by rw [HN.out];exact HY.out,by omega⟩)
      have HX0:=Lib.hid hx0
      clear hx0 hyx
      obtain ⟨A1,c1,hs1,hp1,_,_⟩:=slice_pre (P:=Tryz.prog) (t:=78) (sz:=1) Tryz.underlying78 (run_sizeOf hi hz1) HR2.out hc m (by omega)
      obtain ⟨A2,c2,hs2,hp2,_,_⟩:=slice_suf (P:=Tryz.prog) (t:=78) (sz:=1) Tryz.underlying78 (run_sizeOf hi hz1) HR2.out hc m (by omega)
      have HP:=Lib.hid hp1
      have HQ:=Lib.hid hp2
      have HO1:=Lib.hid (show ∀u ∈ (l.map (Value.int .u64)).take (m*1),u.oneCell'=true from fun u hu=>i64_one l u (List.mem_of_mem_take hu))
      have HO2:=Lib.hid (show ∀u ∈ (l.map (Value.int .u64)).drop (m*1),u.oneCell'=true from fun u hu=>i64_one l u (List.mem_of_mem_drop hu))
      have HBW:=Lib.hid (Below.refl wz.heap.size wz)
      have HIN:=Lib.hid (show insU l x=l.take m++x::l.drop m from insU_new HX0.out HA.out (by omega) HL.out HLOW.out)
      clear hp1 hp2
      go_upto_region 6 with (fail)
      go_region_held3 (fun _=>True)
       (exact trivial)
       (first
       |(refine step_appR wz 78 22 i0 (.int .u64 0) 8 Tryz.underlying78 hi hz0 hz1 hz2 rfl (by rfl) (.tmp 37) (.tmp 40) (by rfl) [] ?_ wz.heap.size A1 m c1 ((l.map (Value.int .u64)).take (m*1)) (by rfl) ?_ ?_ ?_ ?_ ?_ ?_;(focus ((repeat (first |(with_reducible refine own_drewO ?_) |(exact hq1) |(refine World.ownsRow.kept ?_ hg1 (Or.inr ?_);rotate_left;(intro e;have e2:=Option.some.inj e;first |(exfalso;dsimp only at e2;omega) |(exfalso;have hy:=HBW.out.size;simp at hy e2;omega))) |(refine own_litV _ _ _ [] _ _ ?_ ?_ ?_ ?_ _ ?_;(focus (first |(simp;done) |(have hq:=HBW.out.size;simp at hq ⊢;omega) |omega;done));(focus (simp;done));(focus (simp [maxLen];done));(focus (exact rfl));(focus (exact rfl))) |(with_reducible refine World.ownsRow.alloc ?_ _)));done));(focus (exact HP.out.below (by (repeat (first |with_reducible exact HBW.out |with_reducible exact Below.refl _ _ |with_reducible refine Below.drew ?_ |(with_reducible refine Below.alloc ?_ (by first |(simp;done) |(have hq:=HBW.out.size;simp at hq ⊢;omega)) _) |(with_reducible refine Below.setCell ?_ (by first |(simp;done) |(have hq:=HBW.out.size;simp at hq ⊢;omega)) _))))));(focus (exact HO1.out));(focus (simp;omega));(focus (simp [maxLen];omega));(focus ((repeat (first |with_reducible exact HBW.out |with_reducible exact Below.refl _ _ |with_reducible refine Below.drew ?_ |(with_reducible refine Below.alloc ?_ (by first |(simp;done) |(have hq:=HBW.out.size;simp at hq ⊢;omega)) _) |(with_reducible refine Below.setCell ?_ (by first |(simp;done) |(have hq:=HBW.out.size;simp at hq ⊢;omega)) _)));done));intro v1 w1 hq1 hg1 hbb;have HBW:=Lib.hid hbb)
       |(refine step_appO wz 78 22 i0 (.int .u64 0) 8 Tryz.underlying78 hi hz0 hz1 hz2 rfl (by rfl) (.tmp 41) (.tmp 43) (by rfl) ([]++(l.map (Value.int .u64)).take (m*1)) ?_ [.int .u64 x] ?_ ?_ ?_ ?_ ?_ ?_;(focus ((repeat (first |(with_reducible refine own_drewO ?_) |(exact hq1) |(refine World.ownsRow.kept ?_ hg1 (Or.inr ?_);rotate_left;(intro e;have e2:=Option.some.inj e;first |(exfalso;dsimp only at e2;omega) |(exfalso;have hy:=HBW.out.size;simp at hy e2;omega))) |(refine own_litV _ _ _ [.int .u64 x] _ _ ?_ ?_ ?_ ?_ _ ?_;(focus (first |(simp;done) |(have hq:=HBW.out.size;simp at hq ⊢;omega) |omega;done));(focus (simp;done));(focus (simp [maxLen];done));(focus (exact rfl));(focus (exact rfl))) |(with_reducible refine World.ownsRow.alloc ?_ _)));done));(focus ((repeat (first |(with_reducible refine own_drewO ?_) |(exact hq1) |(refine World.ownsRow.kept ?_ hg1 (Or.inr ?_);rotate_left;(intro e;have e2:=Option.some.inj e;first |(exfalso;dsimp only at e2;omega) |(exfalso;have hy:=HBW.out.size;simp at hy e2;omega))) |(refine own_litV _ _ _ [.int .u64 x] _ _ ?_ ?_ ?_ ?_ _ ?_;(focus (first |(simp;done) |(have hq:=HBW.out.size;simp at hq ⊢;omega) |omega;done));(focus (simp;done));(focus (simp [maxLen];done));(focus (exact rfl));(focus (exact rfl))) |(with_reducible refine World.ownsRow.alloc ?_ _)));done));(focus (intro u hu;simp at hu;subst hu;rfl));(focus (simp;omega));(focus (simp [maxLen];omega));(focus ((repeat (first |with_reducible exact HBW.out |with_reducible exact Below.refl _ _ |with_reducible refine Below.drew ?_ |(with_reducible refine Below.alloc ?_ (by first |(simp;done) |(have hq:=HBW.out.size;simp at hq ⊢;omega)) _) |(with_reducible refine Below.setCell ?_ (by first |(simp;done) |(have hq:=HBW.out.size;simp at hq ⊢;omega)) _)));done));intro v2 w2 hq2 hg2 hbb;have HBW:=Lib.hid hbb)
       |(refine step_appR wz 78 22 i0 (.int .u64 0) 8 Tryz.underlying78 hi hz0 hz1 hz2 rfl (by rfl) (.tmp 44) (.tmp 47) (by rfl) (([]++(l.map (Value.int .u64)).take (m*1))++ [.int .u64 x]) ?_ wz.heap.size A2 (l.length -m) c2 ((l.map (Value.int .u64)).drop (m*1)) (by rfl) ?_ ?_ ?_ ?_ ?_ ?_;(focus (exact hq2));(focus (exact HQ.out.below (by (repeat (first |with_reducible exact HBW.out |with_reducible exact Below.refl _ _ |with_reducible refine Below.drew ?_ |(with_reducible refine Below.alloc ?_ (by first |(simp;done) |(have hq:=HBW.out.size;simp at hq ⊢;omega)) _) |(with_reducible refine Below.setCell ?_ (by first |(simp;done) |(have hq:=HBW.out.size;simp at hq ⊢;omega)) _))))));(focus (exact HO2.out));(focus (simp;omega));(focus (simp [maxLen];omega));(focus ((repeat (first |with_reducible exact HBW.out |with_reducible exact Below.refl _ _ |with_reducible refine Below.drew ?_ |(with_reducible refine Below.alloc ?_ (by first |(simp;done) |(have hq:=HBW.out.size;simp at hq ⊢;omega)) _) |(with_reducible refine Below.setCell ?_ (by first |(simp;done) |(have hq:=HBW.out.size;simp at hq ⊢;omega)) _)));done));intro v3 w3 hq3 hg3 hbb;have HBW:=Lib.hid hbb)
       |fail)
      all_goals
       have HB4:=Lib.hid (Below.then_ HB.out HBW.out)
       have HO4:=Lib.hid (own_lessM hq3 HB.out.size)
       rw [←map_insO (Value.int .u64) l x m, ←HIN.out] at HO4
       rw [List.length_map] at HO4
       clear hq3 hq2 hq1 hg1 hg2 hg3
       go_wp2
       go_ret
       exact ⟨_,rfl, .inr HO4.out,HB4.out⟩
end Go.Proofs.YtdmgpdanlfmadaaGreat
