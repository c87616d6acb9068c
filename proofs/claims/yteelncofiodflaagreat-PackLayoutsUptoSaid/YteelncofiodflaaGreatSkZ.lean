/-
  Sorting by keys: what the library's sort leaves is the one normal form. It speaks of no program's text.
-/
import Derived.Test.YteelncofiodflaaGreatCore
import Derived.Test.YteelncofiodflaaGreatNrmP
import Derived.Test.YteelncofiodflaaGreatLaySF
import Derived.Test.YteelncofiodflaaGreatSeqJ
import Derived.Test.YteelncofiodflaaGreatMrgZ
namespace Go.Proofs.YteelncofiodflaaGreat
open Go.RowKit Go.Shelf Go.Sort
theorem swo_key {α:Type} {key:α→List Int} {cf:α→α→Int} (h: ∀x y,cf x y=cmpL (key x) (key y)):SWO (ltOf cf) where
 irrefl x:=by unfold ltOf;rw [h,cmpL_refl];rfl
 trans x y z h1 h2:=by
  unfold ltOf at*
  rw [decide_eq_true_eq,h] at*
  have a:=cmpL_trans (a:=key x) (b:=key y) (c:=key z) (by omega) (by omega)
  rcases Decidable.em (cmpL (key x) (key z)=0) with e |e
  ·have:=cmpL_zero e
   rw [this] at h1
   have:=cmpL_neg (key y) (key z)
   omega
  ·omega
 ntrans x y z h1 h2:=by
  unfold ltOf at*
  rw [decide_eq_false_iff_not,h] at*
  have b1:=cmpL_neg (key x) (key y)
  have b2:=cmpL_neg (key y) (key z)
  have b3:=cmpL_neg (key x) (key z)
  have a:=cmpL_trans (a:=key z) (b:=key y) (c:=key x) (by omega) (by omega)
  omega
theorem permIn_listC {α:Type} [Inhabited α] {d d':Array α} (h:PermIn 0 d.size d d'):d'.toList.Perm d.toList:=by
 obtain ⟨h1,_,h3⟩:=h
 have e1:d'.extract 0 d.size=d':=by rw [←h1];exact Array.extract_size
 have e2:d.extract 0 d.size=d:=Array.extract_size
 rw [e1,e2] at h3
 exact h3
theorem asc_sorted {α:Type} [Inhabited α] {key:α→List Int} {cf:α→α→Int} (h: ∀x y,cf x y=cmpL (key x) (key y)) {d:Array α} {n:Nat} (hn:d.size=n) (hs:SortedIn (ltOf cf) 0 n d):Asc key d.toList:=by
 unfold Asc
 rw [List.pairwise_iff_getElem]
 intro i j hi hj hij
 have hi':i <d.size:=by simpa using hi
 have hj':j <d.size:=by simpa using hj
 have:=hs i j (Nat.zero_le _) hij (by omega)
 unfold ltOf at this
 rw [decide_eq_false_iff_not,h,getElem!_pos d j hj',getElem!_pos d i hi'] at this
 have b:=cmpL_neg (key d[j]) (key d[i])
 simp only [Array.getElem_toList]
 omega
end Go.Proofs.YteelncofiodflaaGreat
