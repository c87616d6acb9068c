/-
  Where a builder of bytes stands: its box, its row of bytes; what a call on it leaves alone. It speaks of no program but for the types of the box and of the bytes.
-/
import Derived.Test.YteelncofiodflaaGreatCore
import Derived.Test.YteelncofiodflaaGreatPckP
import Derived.BigQuiet
import Derived.Laws.ShiftsVarLaws
import Derived.Test.YteelncofiodflaaGreatAppZ
import Derived.Lib.BufferWrite
import Derived.Lib.SlBuf
import Derived.Test.YteelncofiodflaaGreatConA
namespace Go.Proofs.YteelncofiodflaaGreat
open Go.RowKit
def bytV (l:List Nat):List Value:=l.map fun (c:Nat)=> .int .u8 (c:Int)
theorem bytV_len (l:List Nat):(bytV l).length=l.length:=List.length_map _
theorem bytV_app (l m:List Nat):bytV (l++m)=bytV l++bytV m:=List.map_append
theorem bytV_one (l:List Nat): ∀u ∈ bytV l,u.oneCell'=true:=by
 intro u hu
 obtain ⟨c,_,rfl⟩:=List.mem_map.1 hu
 rfl
theorem bytV_at {l:List Nat} {k c:Nat} (h:l[k]? =some c):(bytV l)[k]? =some (.int .u8 (c:Int)):=by unfold bytV;rw [List.getElem?_map,h];rfl
theorem rd_lit (w:World) (cs:Array Value) (t:TypeId) (n sz:Nat) (hn:cs.size=n*sz):Rd (w.alloc (.cells cs t)) (w.alloc (.cells cs t)).heap.size sz (some ⟨w.heap.size,0,none⟩) n cs.toList:=
 ⟨by simpa using hn,fun _=>⟨w.heap.size,0,rfl,by simp,fun j u hu=>by
  have:=(Blk.new w t cs).cell j
  rw [Nat.zero_add,this]
  simpa using hu⟩⟩
structure BufS (W:World) (g:Nat) (l:List Nat):Prop where
 ex: ∃v,Blk W g 156 #[v]∧W.ownsRow (g+1) 5 1 v l.length (bytV l)
structure BKeep (g:Nat) (W V:World):Prop where
 bel:Below g W V
 off: ∀k,k <W.heap.size→(∀cs fr,W.heap[k]? ≠some (.cells cs 5 fr))→(∀cs fr,W.heap[k]? ≠some (.cells cs 156 fr))→V.heap[k]? =W.heap[k]?
theorem BKeep.refl (g:Nat) (W:World):BKeep g W W:=⟨Below.refl _ _,fun _ _ _ _=>rfl⟩
theorem BKeep.trans {g:Nat} {W V U:World} (h:BKeep g W V) (k:BKeep g V U):BKeep g W U:=
 ⟨h.bel.trans k.bel,fun b hb h1 h2=>by
  have e:=h.off b hb h1 h2
  exact (k.off b (Nat.lt_of_lt_of_le hb h.bel.size) (by rw [e];exact h1) (by rw [e];exact h2)).trans e⟩
theorem BKeep.of_below {g:Nat} {W V:World} (hb:Below W.heap.size W V) (hg:g≤W.heap.size):BKeep g W V:=⟨hb.mono hg,fun k hk _ _=>hb.block k hk⟩
theorem BKeep.alloc {g:Nat} {W V:World} (h:BKeep g W V) (hg:g≤V.heap.size) (o:Obj):BKeep g W (V.alloc o):=h.trans (.of_below (below_one V o) hg)
theorem BKeep.mono {g g':Nat} {W V:World} (h:BKeep g W V) (hg:g'≤g):BKeep g' W V:=⟨h.bel.mono hg,h.off⟩
theorem BKeep.blk {g q:Nat} {W V:World} {t:TypeId} {cs:Array Value} (h:BKeep g W V) (hb:Blk W q t cs) (h1:t≠5) (h2:t≠156):Blk V q t cs:=
 (h.off q hb.lt (fun cs' fr e=>by unfold Blk at hb;rw [hb] at e;injection e with e;injection e with _ e;exact h1 e) (fun cs' fr e=>by unfold Blk at hb;rw [hb] at e;injection e with e;injection e with _ e;exact h2 e)).trans hb
section
variable {W V:World} {g:Nat} {l:List Nat}
theorem BufS.lt (h:BufS W g l):g <W.heap.size:=by obtain ⟨v,h1,_⟩:=h.ex;exact h1.lt
theorem BufS.up (h:BufS W g l) (hb:Below W.heap.size W V):BufS V g l:=by
 obtain ⟨v,h1,h2⟩:=h.ex
 exact ⟨v,h1.below hb h1.lt,own_below h2 hb⟩
theorem BufS.alloc (h:BufS W g l) (o:Obj):BufS (W.alloc o) g l:=h.up (below_one W o)
theorem BufS.side {v:Value} {n:Nat} {xs:List Value} (h1:Blk W g 156 #[v]) (h2:W.ownsRow (g+1) 5 1 v n xs) (hg:W.grownBy V v.ownBlock):Blk V g 156 #[v]:=by
 have hne:some g≠v.ownBlock:=by
  intro e
  rcases h2.2 with ⟨rfl,_⟩ |⟨q,cap,cur,rfl,hq,_⟩
  ·simp [Value.ownBlock] at e
  ·simp [Value.ownBlock] at e
   omega
 exact (hg.block g h1.lt hne).trans h1
theorem BufS.put {v v':Value} {m:List Nat} (h1:Blk W g 156 #[v]) (h2:W.ownsRow (g+1) 5 1 v l.length (bytV l)) (ho:V.ownsRow (g+1) 5 1 v' (l.length+m.length) (bytV l++bytV m)) (hg:W.grownBy V v.ownBlock):
  BufS (V.setCell ⟨g,0,none⟩ v') g (l++m)∧BKeep g W (V.setCell ⟨g,0,none⟩ v'):=by
 have hof:=Off.of_own h2 hg
 have hlt:=h1.lt
 have hB:Blk V g 156 #[v]:=BufS.side h1 h2 hg
 refine ⟨⟨v',by have:=hB.set_ 0 v';simpa using this, ?_⟩, ?_, ?_⟩
 ·rw [List.length_append,bytV_app]
  exact own_set ho (p:=⟨g,0,none⟩) (Nat.lt_succ_self g) v'
 ·exact ((below_own (Below.refl (g+1) W) hg h2 (by omega)).mono (Nat.le_succ g)).setCell (p:=⟨g,0,none⟩) (Nat.le_refl g) v'
 ·intro k hk n1 n2
  have hkg:k≠g:=fun e=>n2 _ _ (by rw [e];exact h1)
  exact (Below.heap_setCell V ⟨g,0,none⟩ v' k hkg).trans (hof.block k hk n1)
theorem BufS.form (h:BufS W g l): ∃A c,Blk W g 156 #[.slice A l.length c]∧W.ownsRow (g+1) 5 1 (.slice A l.length c) l.length (bytV l)∧l.length≤c∧c≤maxLen∧Rd W W.heap.size 1 A l.length (bytV l):=by
 obtain ⟨v,h1,h2⟩:=h.ex
 obtain ⟨A,c,rfl,h3,h4,h5⟩:=own_form h2
 exact ⟨A,c,h1,h2,h3,h4,h5⟩
end
end Go.Proofs.YteelncofiodflaaGreat
namespace Go.Proofs.YteelncofiodflaaGreat
open Go.RowKit
theorem info_u8B:(Tryz.prog.info? 5).map (fun i=>(i.zero,i.size,i.bytes))=some (some (.int .u8 0),1,1):=by kernel_rfl
set_option maxRecDepth 100000 in
set_option maxHeartbeats 1000000 in
theorem clone8_ok (l:List Nat) (A:Option Addr) (c:Nat) (w:World) (hl:l.length≤16777216) (hP:Rd w w.heap.size 1 A l.length (bytV l)) (hA:A=none→l= []):
  Calls Tryz.prog 82 #[.slice A l.length c] w fun e w'=> ∃v,e= .returned v∧w'.ownsRow w.heap.size 5 1 v l.length (bytV l)∧Below w.heap.size w w':=by
 obtain ⟨i0,hi,hz0,hz1,hz2⟩:=info_parts info_u8B
 have qT: ∀(w:World) (a:Option Addr) (n c n' c':Nat),(binOp .eql 41 (.slice a n c) (.slice none n' c')).run Tryz.prog w= .ok (.bool a.isNone) w:=fun w a n c n' c'=>Lib.run_eql_slice_nil w _ _ a n c n' c' Tryz.underlying41
 rcases A with _ |ad
 ·have hn:=hA rfl
  subst hn
  go_enter Tryz.func82,Tryz.ntmps82
  go_wp2
  go_ret
  exact ⟨_,rfl,by simpa [bytV] using World.ownsRow_nil _ _ _ _,Below.refl _ _⟩
 ·have HO:=Lib.hid (World.ownsRow_made (e:=5) (size:=1) w #[] 0 (Nat.le_refl _) (Nat.zero_le _) rfl)
  have HR:=Lib.hid ((hP.alloc (Nat.le_refl _) (.cells #[] 5)))
  clear hP hA
  go_enter Tryz.func82,Tryz.ntmps82
  go_wp2_with (at_builtin;refine wpList_append_rd _ rfl (.tmp 5) (.tmp 6) _ rfl w.heap.size 5 i0 (.int .u8 0) 1 1 Tryz.underlying41 hi hz0 hz1 hz2 rfl (by decide) _ 0 [] rfl HO.out w.heap.size (some ad) l.length c _ rfl HR.out (bytV_one l) (by unfold maxLen;omega) (by omega) (by simp) ?_;intro v' w1 hown hg)
  go_ret
  refine ⟨_,rfl,by simpa using hown, ?_⟩
  exact below_own ((Below.refl w.heap.size w).alloc (Nat.le_refl _) _) hg HO.out (by simp)
theorem clone8_nil (w:World):Calls Tryz.prog 82 #[.slice none 0 0] w fun e w'=>e= .returned (.slice none 0 0)∧w'=w:=by
 have qT: ∀(w:World) (a:Option Addr) (n c n' c':Nat),(binOp .eql 41 (.slice a n c) (.slice none n' c')).run Tryz.prog w= .ok (.bool a.isNone) w:=fun w a n c n' c'=>Lib.run_eql_slice_nil w _ _ a n c n' c' Tryz.underlying41
 go_enter Tryz.func82,Tryz.ntmps82
 go_wp2
 go_ret
 exact ⟨rfl,rfl⟩
theorem bNew_ok (W:World):Calls Tryz.prog 19 #[.slice none 0 0] W fun e w'=>e= .returned (.pointer (some ⟨W.heap.size,0,none⟩))∧BufS w' W.heap.size []∧Below W.heap.size W w':=by
 have hb:=Blk.new W 156 #[.slice none 0 0]
 have HB:=Lib.hid (show BufS (W.alloc (.cells #[.slice none 0 0] 156)) W.heap.size [] from ⟨_,hb,World.ownsRow_nil _ _ _ _⟩)
 have HL:=Lib.hid (below_one W (.cells #[.slice none 0 0] 156))
 clear hb
 go_enter Tryz.func19,Tryz.ntmps19
 go_wp2_with fail
 refine (clone8_nil W).mono ?_
 rintro e w1 ⟨rfl,rfl⟩
 go_wp2
 go_ret
 exact ⟨rfl,HB.out,HL.out⟩
set_option maxRecDepth 100000 in
set_option maxHeartbeats 2000000 in
theorem bAdd_ok (g:Nat) (l m:List Nat) (A:Option Addr) (n c:Nat) (W:World) (h:BufS W g l) (hn:n=m.length) (hr:Rd W W.heap.size 1 A n (bytV m)) (hl:l.length+m.length≤16777216):
  Calls Tryz.prog 83 #[.pointer (some ⟨g,0,none⟩), .slice A n c] W fun e w'=>e= .returned (.tuple #[])∧BufS w' g (l++m)∧BKeep g W w':=by
 obtain ⟨i0,hi,hz0,hz1,hz2⟩:=info_parts info_u8B
 subst hn
 have hlt:=h.lt
 obtain ⟨B,d,h1,h2,h3,h4,_⟩:=h.form
 have q0:=h1.cell 0
 simp at q0
 have HB:=Lib.hid h1
 have HO:=Lib.hid h2
 have HR:=Lib.hid hr
 clear h h1 h2 hr
 go_enter Tryz.func83,Tryz.ntmps83
 go_wp2_with (at_builtin;refine wpList_append_rd _ rfl (.tmp 10) (.tmp 11) _ rfl (g+1) 5 i0 (.int .u8 0) 1 1 Tryz.underlying41 hi hz0 hz1 hz2 rfl (by decide) _ l.length (bytV l) rfl HO.out W.heap.size A m.length c _ rfl HR.out (bytV_one m) (by unfold maxLen;omega) (by omega) (by omega) ?_;intro v' w1 hown hg;obtain ⟨D,d1,rfl,_,_,_⟩:=own_form hown;have hb1:=BufS.side HB.out HO.out hg;have c1:=hb1.cell 0;have f1:=hb1.frozen 0;have l1:=hb1.lt;simp at c1)
 go_end0
 have h5:=BufS.put HB.out HO.out hown hg
 exact ⟨rfl,h5.1,h5.2⟩
set_option maxRecDepth 100000 in
set_option maxHeartbeats 4000000 in
theorem bPut8_ok (g x n:Nat) (l:List Nat) (W:World) (h:BufS W g l) (hx:x <2^8) (ni:Int) (hni:ni=(n:Int)) (hn:n≤8) (hl:l.length+8≤16777216):
  Calls Tryz.prog 128 #[.pointer (some ⟨g,0,none⟩), .int .u8 (x:Int), .int .i64 ni, .func (.func 83) #[] #[]] W fun e w'=>e= .returned (.tuple #[])∧BufS w' g (l++leB x n)∧BKeep g W w':=by
 have hent: ∀a w,(callFunc 83 a).run Tryz.prog w= .ok (.enter 83 a) w:=enters_of Tryz.func83 (by kernel_rfl) rfl
 subst hni
 have HS:=Lib.hid h
 have hx2:(2:Nat)^8≤18446744073709551616:=by decide
 have hx64:IntKind.u64.wrap (x:Int)=(x:Int):=by rw [IntKind.wrap_u64];omega
 clear hx2
 clear h
 go_enter Tryz.func128,Tryz.ntmps128
 go_wp2
 go_loopw [8,10] (fun _ i wr=> ∃k:Nat,k≤n∧i= .int .i64 k∧Hid (BufS wr g (l++(leB x n).take k))∧Hid (BKeep g W wr)) (fun _ i _=>n -(intOf i).toNat)
 case atStart=>exact ⟨0,Nat.zero_le _,rfl,Lib.hid (by simpa using HS.out),Lib.hid (BKeep.refl _ _)⟩
 case round=>
  obtain ⟨k,hk,rfl,HB,HK⟩:=hrel
  by_cases hlt:k <n
  ·have hmul:IntKind.i64.wrap (8*(k:Int))=8*(k:Int):=by rw [IntKind.wrap_i64];omega
   have HV:=Lib.hid (show ((x:Int)/2^(8*k)%256)=((x/2^(8*k)%256:Nat):Int) by simp)
   have HT:=Lib.hid (show (l++(leB x n).take k)++ [x/2^(8*k)%256]=l++(leB x n).take (k+1) by rw [leB_take hlt,List.append_assoc])
   have HLN:=Lib.hid (show (l++(leB x n).take k).length+1≤16777216 by
    have:=List.length_take_le k (leB x n)
    rw [List.length_append]
    omega)
   go_wp2_with fail
   rw [HV.out]
   refine (bAdd_ok g (l++(leB x n).take k) [x/2^(8*k)%256] _ 1 1 _ (HB.out.alloc _) rfl (rd_lit wr #[.int .u8 ((x/2^(8*k)%256:Nat):Int)] 5 1 1 rfl) HLN.out).mono ?_
   rintro e w2 ⟨rfl,h5,h6⟩
   rw [HT.out] at h5
   have HB2:=Lib.hid h5
   have HK2:=Lib.hid (HK.out.trans ((BKeep.of_below (below_one wr _) (Nat.le_of_lt HB.out.lt)).trans h6))
   clear h5 h6
   go_wp2
   go_roundw
   case rel=>exact ⟨k+1,by omega,by go_num,HB2,HK2⟩
   case measure=>simp [intOf];omega
  ·obtain rfl:k=n:=by omega
   have HE:=Lib.hid (show (leB x k).take k=leB x k from List.take_of_length_le (by rw [leB_len];exact Nat.le_refl _))
   go_wp2
   go_end0
   exact ⟨rfl,by rw [←HE.out];exact HB.out,HK.out⟩
set_option maxRecDepth 100000 in
set_option maxHeartbeats 4000000 in
theorem bPut16_ok (g x n:Nat) (l:List Nat) (W:World) (h:BufS W g l) (hx:x <2^16) (ni:Int) (hni:ni=(n:Int)) (hn:n≤8) (hl:l.length+8≤16777216):
  Calls Tryz.prog 125 #[.pointer (some ⟨g,0,none⟩), .int .u16 (x:Int), .int .i64 ni, .func (.func 83) #[] #[]] W fun e w'=>e= .returned (.tuple #[])∧BufS w' g (l++leB x n)∧BKeep g W w':=by
 have hent: ∀a w,(callFunc 83 a).run Tryz.prog w= .ok (.enter 83 a) w:=enters_of Tryz.func83 (by kernel_rfl) rfl
 subst hni
 have HS:=Lib.hid h
 have hx2:(2:Nat)^16≤18446744073709551616:=by decide
 have hx64:IntKind.u64.wrap (x:Int)=(x:Int):=by rw [IntKind.wrap_u64];omega
 clear hx2
 clear h
 go_enter Tryz.func125,Tryz.ntmps125
 go_wp2
 go_loopw [8,10] (fun _ i wr=> ∃k:Nat,k≤n∧i= .int .i64 k∧Hid (BufS wr g (l++(leB x n).take k))∧Hid (BKeep g W wr)) (fun _ i _=>n -(intOf i).toNat)
 case atStart=>exact ⟨0,Nat.zero_le _,rfl,Lib.hid (by simpa using HS.out),Lib.hid (BKeep.refl _ _)⟩
 case round=>
  obtain ⟨k,hk,rfl,HB,HK⟩:=hrel
  by_cases hlt:k <n
  ·have hmul:IntKind.i64.wrap (8*(k:Int))=8*(k:Int):=by rw [IntKind.wrap_i64];omega
   have HV:=Lib.hid (show ((x:Int)/2^(8*k)%256)=((x/2^(8*k)%256:Nat):Int) by simp)
   have HT:=Lib.hid (show (l++(leB x n).take k)++ [x/2^(8*k)%256]=l++(leB x n).take (k+1) by rw [leB_take hlt,List.append_assoc])
   have HLN:=Lib.hid (show (l++(leB x n).take k).length+1≤16777216 by
    have:=List.length_take_le k (leB x n)
    rw [List.length_append]
    omega)
   go_wp2_with fail
   rw [HV.out]
   refine (bAdd_ok g (l++(leB x n).take k) [x/2^(8*k)%256] _ 1 1 _ (HB.out.alloc _) rfl (rd_lit wr #[.int .u8 ((x/2^(8*k)%256:Nat):Int)] 5 1 1 rfl) HLN.out).mono ?_
   rintro e w2 ⟨rfl,h5,h6⟩
   rw [HT.out] at h5
   have HB2:=Lib.hid h5
   have HK2:=Lib.hid (HK.out.trans ((BKeep.of_below (below_one wr _) (Nat.le_of_lt HB.out.lt)).trans h6))
   clear h5 h6
   go_wp2
   go_roundw
   case rel=>exact ⟨k+1,by omega,by go_num,HB2,HK2⟩
   case measure=>simp [intOf];omega
  ·obtain rfl:k=n:=by omega
   have HE:=Lib.hid (show (leB x k).take k=leB x k from List.take_of_length_le (by rw [leB_len];exact Nat.le_refl _))
   go_wp2
   go_end0
   exact ⟨rfl,by rw [←HE.out];exact HB.out,HK.out⟩
set_option maxRecDepth 100000 in
set_option maxHeartbeats 4000000 in
theorem bPut32_ok (g x n:Nat) (l:List Nat) (W:World) (h:BufS W g l) (hx:x <2^32) (ni:Int) (hni:ni=(n:Int)) (hn:n≤8) (hl:l.length+8≤16777216):
  Calls Tryz.prog 126 #[.pointer (some ⟨g,0,none⟩), .int .u32 (x:Int), .int .i64 ni, .func (.func 83) #[] #[]] W fun e w'=>e= .returned (.tuple #[])∧BufS w' g (l++leB x n)∧BKeep g W w':=by
 have hent: ∀a w,(callFunc 83 a).run Tryz.prog w= .ok (.enter 83 a) w:=enters_of Tryz.func83 (by kernel_rfl) rfl
 subst hni
 have HS:=Lib.hid h
 have hx2:(2:Nat)^32≤18446744073709551616:=by decide
 have hx64:IntKind.u64.wrap (x:Int)=(x:Int):=by rw [IntKind.wrap_u64];omega
 clear hx2
 clear h
 go_enter Tryz.func126,Tryz.ntmps126
 go_wp2
 go_loopw [8,10] (fun _ i wr=> ∃k:Nat,k≤n∧i= .int .i64 k∧Hid (BufS wr g (l++(leB x n).take k))∧Hid (BKeep g W wr)) (fun _ i _=>n -(intOf i).toNat)
 case atStart=>exact ⟨0,Nat.zero_le _,rfl,Lib.hid (by simpa using HS.out),Lib.hid (BKeep.refl _ _)⟩
 case round=>
  obtain ⟨k,hk,rfl,HB,HK⟩:=hrel
  by_cases hlt:k <n
  ·have hmul:IntKind.i64.wrap (8*(k:Int))=8*(k:Int):=by rw [IntKind.wrap_i64];omega
   have HV:=Lib.hid (show ((x:Int)/2^(8*k)%256)=((x/2^(8*k)%256:Nat):Int) by simp)
   have HT:=Lib.hid (show (l++(leB x n).take k)++ [x/2^(8*k)%256]=l++(leB x n).take (k+1) by rw [leB_take hlt,List.append_assoc])
   have HLN:=Lib.hid (show (l++(leB x n).take k).length+1≤16777216 by
    have:=List.length_take_le k (leB x n)
    rw [List.length_append]
    omega)
   go_wp2_with fail
   rw [HV.out]
   refine (bAdd_ok g (l++(leB x n).take k) [x/2^(8*k)%256] _ 1 1 _ (HB.out.alloc _) rfl (rd_lit wr #[.int .u8 ((x/2^(8*k)%256:Nat):Int)] 5 1 1 rfl) HLN.out).mono ?_
   rintro e w2 ⟨rfl,h5,h6⟩
   rw [HT.out] at h5
   have HB2:=Lib.hid h5
   have HK2:=Lib.hid (HK.out.trans ((BKeep.of_below (below_one wr _) (Nat.le_of_lt HB.out.lt)).trans h6))
   clear h5 h6
   go_wp2
   go_roundw
   case rel=>exact ⟨k+1,by omega,by go_num,HB2,HK2⟩
   case measure=>simp [intOf];omega
  ·obtain rfl:k=n:=by omega
   have HE:=Lib.hid (show (leB x k).take k=leB x k from List.take_of_length_le (by rw [leB_len];exact Nat.le_refl _))
   go_wp2
   go_end0
   exact ⟨rfl,by rw [←HE.out];exact HB.out,HK.out⟩
set_option maxRecDepth 100000 in
set_option maxHeartbeats 4000000 in
theorem bPut64_ok (g x n:Nat) (l:List Nat) (W:World) (h:BufS W g l) (hx:x <2^64) (ni:Int) (hni:ni=(n:Int)) (hn:n≤8) (hl:l.length+8≤16777216):
  Calls Tryz.prog 127 #[.pointer (some ⟨g,0,none⟩), .int .u64 (x:Int), .int .i64 ni, .func (.func 83) #[] #[]] W fun e w'=>e= .returned (.tuple #[])∧BufS w' g (l++leB x n)∧BKeep g W w':=by
 have hent: ∀a w,(callFunc 83 a).run Tryz.prog w= .ok (.enter 83 a) w:=enters_of Tryz.func83 (by kernel_rfl) rfl
 subst hni
 have HS:=Lib.hid h
 have hx2:(2:Nat)^64≤18446744073709551616:=by decide
 have hx64:IntKind.u64.wrap (x:Int)=(x:Int):=by rw [IntKind.wrap_u64];omega
 clear hx2
 clear h
 go_enter Tryz.func127,Tryz.ntmps127
 go_wp2
 go_loopw [8,10] (fun _ i wr=> ∃k:Nat,k≤n∧i= .int .i64 k∧Hid (BufS wr g (l++(leB x n).take k))∧Hid (BKeep g W wr)) (fun _ i _=>n -(intOf i).toNat)
 case atStart=>exact ⟨0,Nat.zero_le _,rfl,Lib.hid (by simpa using HS.out),Lib.hid (BKeep.refl _ _)⟩
 case round=>
  obtain ⟨k,hk,rfl,HB,HK⟩:=hrel
  by_cases hlt:k <n
  ·have hmul:IntKind.i64.wrap (8*(k:Int))=8*(k:Int):=by rw [IntKind.wrap_i64];omega
   have HV:=Lib.hid (show ((x:Int)/2^(8*k)%256)=((x/2^(8*k)%256:Nat):Int) by simp)
   have HT:=Lib.hid (show (l++(leB x n).take k)++ [x/2^(8*k)%256]=l++(leB x n).take (k+1) by rw [leB_take hlt,List.append_assoc])
   have HLN:=Lib.hid (show (l++(leB x n).take k).length+1≤16777216 by
    have:=List.length_take_le k (leB x n)
    rw [List.length_append]
    omega)
   go_wp2_with fail
   rw [HV.out]
   refine (bAdd_ok g (l++(leB x n).take k) [x/2^(8*k)%256] _ 1 1 _ (HB.out.alloc _) rfl (rd_lit wr #[.int .u8 ((x/2^(8*k)%256:Nat):Int)] 5 1 1 rfl) HLN.out).mono ?_
   rintro e w2 ⟨rfl,h5,h6⟩
   rw [HT.out] at h5
   have HB2:=Lib.hid h5
   have HK2:=Lib.hid (HK.out.trans ((BKeep.of_below (below_one wr _) (Nat.le_of_lt HB.out.lt)).trans h6))
   clear h5 h6
   go_wp2
   go_roundw
   case rel=>exact ⟨k+1,by omega,by go_num,HB2,HK2⟩
   case measure=>simp [intOf];omega
  ·obtain rfl:k=n:=by omega
   have HE:=Lib.hid (show (leB x k).take k=leB x k from List.take_of_length_le (by rw [leB_len];exact Nat.le_refl _))
   go_wp2
   go_end0
   exact ⟨rfl,by rw [←HE.out];exact HB.out,HK.out⟩
theorem b8_ok (g:Nat) (x:Int) (l:List Nat) (W:World) (h:BufS W g l) (h0:0≤x) (h1:x <2^8) (hl:l.length+8≤16777216):
  Calls Tryz.prog 88 #[.pointer (some ⟨g,0,none⟩), .int .u8 x] W fun e w'=>e= .returned (.tuple #[])∧BufS w' g (l++leB x.toNat 1)∧BKeep g W w':=by
 obtain ⟨X,rfl⟩:=Int.eq_ofNat_of_zero_le h0
 have HP:=Lib.hid (bPut8_ok g X 1 l W h (by omega) 1 rfl (by omega) hl)
 clear h h0 h1
 go_enter Tryz.func88,Tryz.ntmps88
 go_wp2_with fail
 refine HP.out.mono ?_
 rintro e w2 ⟨rfl,h5,h6⟩
 have H5:=Lib.hid h5
 have H6:=Lib.hid h6
 clear h5 h6
 go_wp2
 go_end0
 exact ⟨rfl,by rw [Int.toNat_natCast];exact H5.out,H6.out⟩
theorem b16_ok (g:Nat) (x:Int) (l:List Nat) (W:World) (h:BufS W g l) (h0:0≤x) (h1:x <2^16) (hl:l.length+8≤16777216):
  Calls Tryz.prog 84 #[.pointer (some ⟨g,0,none⟩), .int .u16 x] W fun e w'=>e= .returned (.tuple #[])∧BufS w' g (l++leB x.toNat 2)∧BKeep g W w':=by
 obtain ⟨X,rfl⟩:=Int.eq_ofNat_of_zero_le h0
 have HP:=Lib.hid (bPut16_ok g X 2 l W h (by omega) 2 rfl (by omega) hl)
 clear h h0 h1
 go_enter Tryz.func84,Tryz.ntmps84
 go_wp2_with fail
 refine HP.out.mono ?_
 rintro e w2 ⟨rfl,h5,h6⟩
 have H5:=Lib.hid h5
 have H6:=Lib.hid h6
 clear h5 h6
 go_wp2
 go_end0
 exact ⟨rfl,by rw [Int.toNat_natCast];exact H5.out,H6.out⟩
theorem b32_ok (g:Nat) (x:Int) (l:List Nat) (W:World) (h:BufS W g l) (h0:0≤x) (h1:x <2^32) (hl:l.length+8≤16777216):
  Calls Tryz.prog 85 #[.pointer (some ⟨g,0,none⟩), .int .u32 x] W fun e w'=>e= .returned (.tuple #[])∧BufS w' g (l++leB x.toNat 4)∧BKeep g W w':=by
 obtain ⟨X,rfl⟩:=Int.eq_ofNat_of_zero_le h0
 have HP:=Lib.hid (bPut32_ok g X 4 l W h (by omega) 4 rfl (by omega) hl)
 clear h h0 h1
 go_enter Tryz.func85,Tryz.ntmps85
 go_wp2_with fail
 refine HP.out.mono ?_
 rintro e w2 ⟨rfl,h5,h6⟩
 have H5:=Lib.hid h5
 have H6:=Lib.hid h6
 clear h5 h6
 go_wp2
 go_end0
 exact ⟨rfl,by rw [Int.toNat_natCast];exact H5.out,H6.out⟩
theorem b64_ok (g:Nat) (x:Int) (l:List Nat) (W:World) (h:BufS W g l) (h0:0≤x) (h1:x <2^64) (hl:l.length+8≤16777216):
  Calls Tryz.prog 86 #[.pointer (some ⟨g,0,none⟩), .int .u64 x] W fun e w'=>e= .returned (.tuple #[])∧BufS w' g (l++leB x.toNat 8)∧BKeep g W w':=by
 obtain ⟨X,rfl⟩:=Int.eq_ofNat_of_zero_le h0
 have HP:=Lib.hid (bPut64_ok g X 8 l W h (by omega) 8 rfl (by omega) hl)
 clear h h0 h1
 go_enter Tryz.func86,Tryz.ntmps86
 go_wp2_with fail
 refine HP.out.mono ?_
 rintro e w2 ⟨rfl,h5,h6⟩
 have H5:=Lib.hid h5
 have H6:=Lib.hid h6
 clear h5 h6
 go_wp2
 go_end0
 exact ⟨rfl,by rw [Int.toNat_natCast];exact H5.out,H6.out⟩
set_option maxRecDepth 100000 in
set_option maxHeartbeats 2000000 in
theorem bZeros_ok (g k:Nat) (ki:Int) (hki:ki=(k:Int)) (l:List Nat) (W:World) (h:BufS W g l) (hk:0 <k) (hl:l.length+k≤16777216):
  Calls Tryz.prog 89 #[.pointer (some ⟨g,0,none⟩), .int .i64 ki] W fun e w'=>e= .returned (.bool true)∧BufS w' g (l++zsB k)∧BKeep g W w':=by
 obtain ⟨i0,hi,hz0,hz1,hz2⟩:=info_parts info_u8B
 subst hki
 have hlt:=h.lt
 obtain ⟨B,d,h1,h2,h3,h4,_⟩:=h.form
 have q0:=h1.cell 0
 simp at q0
 have HB:=Lib.hid h1
 have HO:=Lib.hid h2
 have hw:IntKind.i64.wrap (16777216 -(l.length:Int))=16777216 -(l.length:Int):=by rw [IntKind.wrap_i64];omega
 have hle: ¬(16777216 -(l.length:Int) <(k:Int)):=by omega
 have hk0: ¬((k:Int) <0):=by omega
 clear h h1 h2
 go_enter Tryz.func89,Tryz.ntmps89
 go_wp2_with (at_builtin;refine wpList_append_zeros _ rfl (.tmp 25) (.tmp 26) _ _ rfl (g+1) 5 i0 (.int .u8 0) .i64 .i64 Tryz.underlying41 Tryz.underlying3 hi hz0 hz1 hz2 rfl rfl _ l.length (bytV l) rfl HO.out k rfl hk hl (by omega) ?_;intro v' w1 hown hg;obtain ⟨D,d1,rfl,_,_,_⟩:=own_form hown;have hb1:=BufS.side HB.out HO.out hg;have c1:=hb1.cell 0;have f1:=hb1.frozen 0;have l1:=hb1.lt;simp at c1)
 go_ret
 have hz:List.replicate k (Value.int .u8 0)=bytV (zsB k):=by unfold bytV zsB;rw [List.map_replicate];rfl
 rw [hz] at hown
 have h5:=BufS.put (m:=zsB k) HB.out HO.out (by rw [zsB_len];exact hown) hg
 exact ⟨rfl,h5.1,h5.2⟩
set_option maxRecDepth 100000 in
set_option maxHeartbeats 1000000 in
theorem bAlign_ok (g:Nat) (l:List Nat) (W:World) (h:BufS W g l) (hl:l.length+16≤16777216):
  Calls Tryz.prog 87 #[.pointer (some ⟨g,0,none⟩), .int .i64 16] W fun e w'=>e= .returned (.bool true)∧BufS w' g (algB l)∧BKeep g W w':=by
 obtain ⟨B,d,h1,_,_,_,_⟩:=h.form
 have hlt:=h.lt
 have q0:=h1.cell 0
 simp at q0
 have HS:=Lib.hid h
 obtain ⟨r,hr⟩: ∃r,l.length%16=r:=⟨_,rfl⟩
 have ht:Int.tmod (l.length:Int) 16=(r:Int):=by rw [Int.tmod_eq_emod_of_nonneg (by omega)];omega
 have HR:=Lib.hid hr
 have hr16:r <16:=by omega
 clear h h1 hr
 rcases Nat.eq_zero_or_pos r with h0 |h0
 ·subst h0
  have HE:=Lib.hid (show algB l=l by unfold algB;rw [HR.out];simp [zsB])
  go_enter Tryz.func87,Tryz.ntmps87
  go_wp2
  go_ret
  exact ⟨rfl,by rw [HE.out];exact HS.out,BKeep.refl _ _⟩
 ·have hpos:(0:Int) <(r:Int):=by omega
  have hw:IntKind.i64.wrap (16 -(r:Int))=16 -(r:Int):=by rw [IntKind.wrap_i64];omega
  have HE:=Lib.hid (show algB l=l++zsB (16 -r) by unfold algB;rw [HR.out,Nat.mod_eq_of_lt (by omega)])
  go_enter Tryz.func87,Tryz.ntmps87
  go_wp2_with fail
  refine (bZeros_ok g (16 -r) (16 -(r:Int)) (by omega) l W HS.out (by omega) (by omega)).mono ?_
  rintro e w2 ⟨rfl,h5,h6⟩
  have H5:=Lib.hid h5
  have H6:=Lib.hid h6
  clear h5 h6
  go_wp2
  go_ret
  exact ⟨rfl,by rw [HE.out];exact H5.out,H6.out⟩
theorem bBytes_ok (g:Nat) (l:List Nat) (W:World) (h:BufS W g l) (hl:l.length≤16777216):
  Calls Tryz.prog 34 #[.pointer (some ⟨g,0,none⟩)] W fun e w'=> ∃v,e= .returned v∧w'.ownsRow W.heap.size 5 1 v l.length (bytV l)∧Below W.heap.size W w':=by
 obtain ⟨B,d,h1,h2,_,_,h5⟩:=h.form
 have hlt:=h.lt
 have q0:=h1.cell 0
 simp at q0
 have HA:=Lib.hid (show B=none→l= [] from fun e=>by
  subst e
  rcases h2.2 with ⟨_,h9⟩ |⟨_,_,_,e,_⟩
  ·exact List.eq_nil_of_length_eq_zero h9
  ·cases e)
 have HR:=Lib.hid h5
 clear h h1 h2 h5
 go_enter Tryz.func34,Tryz.ntmps34
 go_wp2_with fail
 refine (clone8_ok l B d W hl HR.out HA.out).mono ?_
 rintro e w2 ⟨v2,rfl,ho,hb⟩
 have HO:=Lib.hid ho
 have HB:=Lib.hid hb
 obtain ⟨D,d2,rfl,_,_,_⟩:=own_form ho
 clear ho hb
 go_wp2
 go_ret
 exact ⟨_,rfl,HO.out,HB.out⟩
end Go.Proofs.YteelncofiodflaaGreat
namespace Go.Proofs.YteelncofiodflaaGreat
open Go.RowKit
theorem bool_cases (b:Bool):b=true∨b=false:=by cases b<;>simp
theorem nameValid_val (s:ByteArray) (w:World) (v:Bool) (hv:Hid (nameOk s=v)):Calls Tryz.prog 42 #[.string s] w fun e w'=>e= .returned (.bool v)∧Below w.heap.size w w':=by
 rw [←hv.out];exact nameValid_ok s w
theorem byteCells_str (s:ByteArray):Lib.byteCells s.data.toList=bytV (strB s):=by
 unfold Lib.byteCells bytV strB
 rw [List.map_map]
 rfl
theorem info_pad:(Tryz.prog.info? 208).map (·.size)=some 30:=by kernel_rfl
theorem info_u8sz:(Tryz.prog.info? 5).map (·.size)=some 1:=by kernel_rfl
theorem below_setRow {B g:Nat} {a W:World} (h:Below B a W) (hg:B≤g) (cs:Array Value):Below B a (W.setRow g cs):=
 ⟨h.os,h.tape,h.output,by rw [size_setRow];exact h.size,fun k hk=>(setRow_other W g k cs (by omega)).trans (h.block k hk)⟩
theorem padB_yes {s:ByteArray} (h:nameOk s=true):padB s=strB s++zsB (30 -s.size)∧s.size≤30:=by
 refine ⟨by unfold padB;rw [if_pos h], ?_⟩
 unfold nameOk at h
 simp only [Bool.and_eq_true,decide_eq_true_eq] at h
 omega
theorem padB_no {s:ByteArray} (h:nameOk s=false):padB s=zsB 30:=by unfold padB;rw [h];rfl
theorem bytV_all (l:List Nat):(bytV l).toArray.all (·.oneCell')=true:=by
 rw [Array.all_eq_true_iff_forall_mem]
 intro u hu
 exact bytV_one l u (by simpa using hu)
theorem bytV_z30:(bytV (zsB 30)).toArray= #[.int .u8 0, .int .u8 0, .int .u8 0, .int .u8 0, .int .u8 0, .int .u8 0, .int .u8 0, .int .u8 0, .int .u8 0, .int .u8 0, .int .u8 0, .int .u8 0, .int .u8 0, .int .u8 0, .int .u8 0, .int .u8 0, .int .u8 0, .int .u8 0, .int .u8 0, .int .u8 0, .int .u8 0, .int .u8 0, .int .u8 0, .int .u8 0, .int .u8 0, .int .u8 0, .int .u8 0, .int .u8 0, .int .u8 0, .int .u8 0]:=rfl
theorem bytV_sz (l:List Nat):(bytV l).toArray.size=l.length:=by simp [bytV_len]
theorem zs_drop (a b:Nat):(zsB a).drop b=zsB (a -b):=by unfold zsB;rw [List.drop_replicate]
set_option maxRecDepth 100000 in
set_option maxHeartbeats 2000000 in
theorem namePad_ok (s:ByteArray) (w:World):Calls Tryz.prog 129 #[.string s] w fun e w'=>e= .returned (.agg (bytV (padB s)).toArray)∧Below w.heap.size w w':=by
 obtain ⟨W1,hW1⟩: ∃W1,(w.alloc (.cells (bytV (zsB 30)).toArray 208)).alloc (.cells (bytV (zsB 30)).toArray 208)=W1:=⟨_,rfl⟩
 have b0:=(Blk.new w 208 (bytV (zsB 30)).toArray).alloc (.cells (bytV (zsB 30)).toArray 208)
 have b1:=Blk.new (w.alloc (.cells (bytV (zsB 30)).toArray 208)) 208 (bytV (zsB 30)).toArray
 have e1:(w.alloc (.cells (bytV (zsB 30)).toArray 208)).heap.size=w.heap.size+1:=by simp
 have hb:Below w.heap.size w W1:=by rw [←hW1];exact Below.then_ (below_one _ _) (below_one _ _)
 rw [hW1] at b0 b1
 rw [e1] at b1
 rw [bytV_z30] at hW1
 have HW:=Lib.hid hW1
 have B0:=Lib.hid b0
 have B1:=Lib.hid b1
 have HB:=Lib.hid hb
 obtain ⟨g,hg⟩: ∃g,w.heap.size=g:=⟨_,rfl⟩
 rw [hg] at B0 B1 HB
 have HG:=Lib.hid hg
 clear hW1 b0 b1 hb e1 hg
 rcases bool_cases (nameOk s) with h1 |h1
 ·have H1:=Lib.hid h1
  have HE:=Lib.hid (padB_yes h1)
  clear h1
  go_enter Tryz.func129,Tryz.ntmps129
  go_upto_region 2 with (fail)
  rw [HW.out,HG.out]
  go_wp2_with fail
  refine (nameValid_val s W1 true H1).mono ?_
  rintro e w2 ⟨rfl,hb2⟩
  have B2:=Lib.hid (B0.out.below hb2 B0.out.lt)
  have B3:=Lib.hid (B1.out.below hb2 B1.out.lt)
  have HB2:=Lib.hid (HB.out.trans (hb2.mono (by rw [←HG.out];exact HB.out.size)))
  clear hb2
  have HCS:=Lib.hid (show (((bytV (zsB 30)).toArray.toList.take 0++Lib.byteCells s.data.toList++(bytV (zsB 30)).toArray.toList.drop (0+s.size)).toArray)=(bytV (padB s)).toArray from by
   rw [HE.out.1,byteCells_str,bytV_app,List.take_zero,List.nil_append,Nat.zero_add]
   congr 2
   show (bytV (zsB 30)).drop s.size=_
   unfold bytV
   rw [←List.map_drop,zs_drop])
  obtain ⟨w3,hw3⟩: ∃w3,w2.setRow (g+1) (bytV (padB s)).toArray=w3:=⟨_,rfl⟩
  have B4:=Lib.hid (show Blk w3 (g+1) 208 (bytV (padB s)).toArray by rw [←hw3];exact setRow_heap w2 (g+1) _ _ _ _ B3.out)
  have B5:=Lib.hid (show Blk w3 g 208 (bytV (zsB 30)).toArray by rw [←hw3];exact (setRow_other w2 (g+1) g _ (by omega)).trans B2.out)
  have HB3:=Lib.hid (show Below g w w3 by rw [←hw3];exact below_setRow HB2.out (Nat.le_succ g) _)
  have HW3:=Lib.hid hw3
  have HI:=Lib.hid (show (Tryz.prog.info? 208).map (·.size)=some (bytV (padB s)).toArray.size by rw [bytV_sz,padB_len];exact info_pad)
  have HO:=Lib.hid (show (bytV (zsB 30)).toArray.size=(bytV (padB s)).toArray.size by rw [bytV_sz,bytV_sz,padB_len,zsB_len])
  have h30:s.size≤30:=HE.out.2
  obtain ⟨w4,hw4⟩: ∃w4,w3.setRow g (bytV (padB s)).toArray=w4:=⟨_,rfl⟩
  have B6:=Lib.hid (show Blk w4 g 208 (bytV (padB s)).toArray by rw [←hw4];exact setRow_heap w3 g _ _ _ _ B5.out)
  have HB4:=Lib.hid (show Below g w w4 by rw [←hw4];exact below_setRow HB3.out (Nat.le_refl g) _)
  have HW4:=Lib.hid hw4
  clear hw3 hw4
  go_wp2_with (first
   |(refine Lib.wpList_copy_run _ rfl (.tmp 6) (.tmp 7) _ _ rfl _ _ rfl rfl (Lib.run_copy_row_string w2 _ _ _ 5 (g+1) 0 30 30 s _ 208 Tryz.underlying41 info_u8sz B3.out h30 (by rw [bytV_sz,zsB_len];omega)) ?_;rw [HCS.out,HW3.out])
   |(refine wpList_load_row rfl 208 (.tmp 3) rfl (g+1) rfl _ _ _ _ B4.out Tryz.underlying208 rfl HI.out ?_)
   |(refine wpList_store_row rfl 208 (.tmp 2) (.tmp 9) rfl g (bytV (padB s)).toArray rfl rfl _ _ B5.out HI.out HO.out (bytV_all _) ?_;rw [HW4.out]))
  refine bodyPost_ret (v:= .agg (bytV (padB s)).toArray) (results_cell_row (p:=2) (ty:=208) rfl _ _ g _ _ _ _ rfl B6.out Tryz.underlying208 rfl HI.out) rfl ⟨rfl, ?_⟩
  rw [HG.out];exact HB4.out
 ·have H1:=Lib.hid h1
  have HE:=Lib.hid (padB_no h1)
  clear h1
  have HI:=Lib.hid (show (Tryz.prog.info? 208).map (·.size)=some (bytV (zsB 30)).toArray.size by rw [bytV_sz,zsB_len];exact info_pad)
  go_enter Tryz.func129,Tryz.ntmps129
  go_upto_region 2 with (fail)
  rw [HW.out,HG.out]
  go_wp2_with fail
  refine (nameValid_val s W1 false H1).mono ?_
  rintro e w2 ⟨rfl,hb2⟩
  have B2:=Lib.hid (B0.out.below hb2 B0.out.lt)
  have B3:=Lib.hid (B1.out.below hb2 B1.out.lt)
  have HB2:=Lib.hid (HB.out.trans (hb2.mono (by rw [←HG.out];exact HB.out.size)))
  clear hb2
  obtain ⟨w4,hw4⟩: ∃w4,w2.setRow g (bytV (zsB 30)).toArray=w4:=⟨_,rfl⟩
  have B6:=Lib.hid (show Blk w4 g 208 (bytV (zsB 30)).toArray by rw [←hw4];exact setRow_heap w2 g _ _ _ _ B2.out)
  have HB4:=Lib.hid (show Below g w w4 by rw [←hw4];exact below_setRow HB2.out (Nat.le_refl g) _)
  have HW4:=Lib.hid hw4
  clear hw4
  go_wp2_with (first
   |(refine wpList_load_row rfl 208 (.tmp 3) rfl (g+1) rfl _ _ _ _ B3.out Tryz.underlying208 rfl HI.out ?_)
   |(refine wpList_store_row rfl 208 (.tmp 2) (.tmp 9) rfl g (bytV (zsB 30)).toArray rfl rfl _ _ B2.out HI.out rfl (bytV_all _) ?_;rw [HW4.out]))
  refine bodyPost_ret (v:= .agg (bytV (zsB 30)).toArray) (results_cell_row (p:=2) (ty:=208) rfl _ _ g _ _ _ _ rfl B6.out Tryz.underlying208 rfl HI.out) rfl ⟨by rw [HE.out], ?_⟩
  rw [HG.out];exact HB4.out
end Go.Proofs.YteelncofiodflaaGreat
