/-
  slices.Sort of numbers in memory of the call's own: only the block that holds them has turned.
-/
import Derived.Test.YteelncofiodflaaGreatSortY
import Derived.Test.YteelncofiodflaaGreatNrmP
import Derived.Test.YteelncofiodflaaGreatCore
namespace Go.Proofs.YteelncofiodflaaGreat
open Go.RowKit Go.Sort
theorem sort_ownG {w:World} {base:Nat} {v:Value} {l:List Int} (h:w.ownsRow base 47 1 v l.length (l.map (Value.int .u16))) (hl:l.length≤4194304):
  Calls Tryz.prog 61 #[v] w fun r w'=>r= .returned (.tuple #[])∧w'.ownsRow base 47 1 v l.length ((sortInts l).map (Value.int .u16))∧w.grownBy w' v.ownBlock:=by
 rcases h.2 with ⟨rfl,hn⟩ |⟨g,cap,cur,rfl,hb,hh,hc1,hc2,hc3,hc4⟩
 ·have hnil:l= []:=List.eq_nil_of_length_eq_zero hn
  subst hnil
  refine (sort_nil 0 w).mono ?_
  rintro r w' ⟨rfl,rfl⟩
  exact ⟨rfl,by simpa [sortInts] using h,World.grownBy.refl _ _⟩
 ·have hcur: ∀t x,l[t]? =some x→cur[0+t]? =some (.int .u16 x):=fun t x hx=>by
   have hlt:=(List.getElem?_eq_some_iff.1 hx).1
   have:(cur.toList.take (l.length*1))[t]? =some (.int .u16 x):=by rw [hc4];simp [hx]
   rw [List.getElem?_take_of_lt (by omega)] at this
   rw [Nat.zero_add]
   simpa using this
  have hA:=Arr.self (off:=0) (xs:=l) (show Blk w g 47 cur from hh) (by omega) hcur
  refine (sortA_ok 47 g 0 l.length cap hl w w _ hA).mono ?_
  rintro r w' ⟨d',rfl,hD,hS⟩
  have hd:=done_sort l d' hD
  obtain ⟨os,tape,output,size,other,⟨cur0,cur',r1,r2,r3,r4,r5,r6⟩,hz⟩:=hS
  rw [hh] at r1
  injection r1 with r1
  injection r1 with r1
  subst r1
  have hlen:(sortInts l).length=l.length:=by rw [←hd];simpa using hz
  refine ⟨rfl,⟨by simp [hlen], .inr ⟨g,cap,cur',rfl,hb,r2,hc1,hc2,by omega, ?_⟩⟩,⟨os,tape,output,size,fun k hk hno=>other k hk fun e=>hno (by rw [e];rfl)⟩⟩
  refine List.ext_getElem? fun t=> ?_
  by_cases ht:t <l.length
  ·have q:=r6 t ht
   rw [Nat.zero_add] at q
   rw [List.getElem?_take_of_lt (by omega),Array.getElem?_toList,q,List.getElem?_map, ←hd,Array.getElem?_toList,getElem!_pos d' t (by omega),Array.getElem?_eq_getElem (by omega)]
   rfl
  ·rw [List.getElem?_eq_none (by rw [List.length_take];omega),List.getElem?_eq_none (by simp [hlen];omega)]
def CE.srt (e:CE):CE:=⟨sortD e.x,e.A,e.c⟩
theorem srt_len (e:CE):e.srt.x.dests.length=e.x.dests.length:=List.length_mergeSort _
theorem srt_v (e:CE):e.srt.v=e.v:=by unfold CE.v;rw [srt_len];rfl
theorem srt_cells (e:CE):e.srt.cells=e.cells:=by unfold CE.cells;rw [srt_v];rfl
def srtTo (L:List CE) (k:Nat):List CE:=(L.take k).map CE.srt++L.drop k
theorem srtTo_cells (L:List CE) (k:Nat):(srtTo L k).flatMap CE.cells=L.flatMap CE.cells:=by
 have h: ∀M:List CE,(M.map CE.srt).flatMap CE.cells=M.flatMap CE.cells:=fun M=>by
  rw [List.flatMap_map]
  congr 1
  funext e;exact srt_cells e
 unfold srtTo
 rw [List.flatMap_append,h, ←List.flatMap_append,List.take_append_drop]
theorem srtTo_len (L:List CE) (k:Nat):(srtTo L k).length=L.length:=by
 unfold srtTo;simp;omega
theorem srtTo_at {L:List CE} {k:Nat} {e:CE} (h:L[k]? =some e):(srtTo L k)[k]? =some e:=by
 have hk:=(List.getElem?_eq_some_iff.1 h).1
 unfold srtTo
 rw [List.getElem?_append_right (by simp;omega)]
 simp [Nat.min_eq_left (Nat.le_of_lt hk),h]
theorem srtTo_next {L:List CE} {k:Nat} {e:CE} (h:L[k]? =some e):srtTo L (k+1)=(srtTo L k).set k e.srt:=by
 have hk:=(List.getElem?_eq_some_iff.1 h).1
 unfold srtTo
 rw [take_next h,List.map_append,drop_cons h,List.set_append_right _ _ (by simp;omega)]
 simp [Nat.min_eq_left (Nat.le_of_lt hk)]
theorem srtTo_all (L:List CE):srtTo L L.length=L.map CE.srt:=by simp [srtTo]
theorem ChnsO.turn {W V:World} {B k:Nat} {L:List CE} {e e':CE} (h:ChnsO W B L) (he:L[k]? =some e) (hv:e'.v=e.v) (ho:V.ownsRow B 47 1 e'.v e'.x.dests.length (e'.x.dests.map (Value.int .u16))) (hg:W.grownBy V e.v.ownBlock):ChnsO V B (L.set k e'):=by
 have hk:=(List.getElem?_eq_some_iff.1 he).1
 have hek:L[k]=e:=(List.getElem?_eq_some_iff.1 he).2
 refine ⟨fun a ha=> ?_, ?_⟩
 ·obtain ⟨j,hj⟩:=List.getElem?_of_mem ha
  by_cases hjk:k=j
  ·subst hjk
   rw [List.getElem?_set_self hk] at hj
   injection hj with hj
   rw [←hj];exact ho
  ·rw [List.getElem?_set_ne hjk] at hj
   have hjl:=(List.getElem?_eq_some_iff.1 hj).1
   have hja:L[j]=a:=(List.getElem?_eq_some_iff.1 hj).2
   refine (h.own a (List.mem_of_getElem? hj)).kept hg ?_
   rcases hb:a.v.ownBlock with _ |g
   ·exact .inl rfl
   ·refine .inr fun e2=> ?_
    have hs:=List.pairwise_iff_getElem.1 h.sep
    rcases Nat.lt_or_gt_of_ne hjk with hlt |hlt
    ·have:=hs k j hk hjl hlt g (by rw [hek];exact e2.symm)
     rw [hja] at this;exact this hb
    ·have:=hs j k hjl hk hlt g (by rw [hja];exact hb)
     rw [hek] at this;exact this e2.symm
 ·rw [List.pairwise_iff_getElem]
  intro i j hi hj hij g h1 h2
  have hs:=List.pairwise_iff_getElem.1 h.sep
  have hi':i <L.length:=by simpa using hi
  have hj':j <L.length:=by simpa using hj
  have val: ∀(i:Nat) (hi:i <(L.set k e').length),((L.set k e')[i]).v=(L[i]'(by simpa using hi)).v:=fun i hi=>by
   rw [List.getElem_set]
   split
   ·rename_i e3;subst e3;rw [hv,hek]
   ·rfl
  rw [val i hi] at h1
  rw [val j hj] at h2
  exact hs i j hi' hj' hij g h1 h2
end Go.Proofs.YteelncofiodflaaGreat
