/-
  conf.IsNormal, walked; the normal form is its own normal form.
-/
import Derived.Deep.RegionHeld3
import Derived.Test.YtcfoolooemhbeaaGreatNrW
import Derived.Test.YtcfoolooemhbeaaGreatEqZ
namespace Go.Proofs.YtcfoolooemhbeaaGreat
open Go.RowKit
attribute [local go_sem] ext_cell
theorem sumDests_perm {l m:List Chn} (h:l.Perm m):sumDests l=sumDests m:=by
 unfold sumDests
 exact (h.map _).sum_nat
theorem sumDests_sort (l:List Chn):sumDests (l.map sortD)=sumDests l:=by
 unfold sumDests
 rw [List.map_map]
 congr 1
 exact List.map_congr_left fun x _=>List.length_mergeSort _
theorem norm_total (c:Cfg):c.norm.total=c.total:=by
 unfold Cfg.total Cfg.norm
 simp only [normK_len,List.length_map]
 rw [sumDests_perm (normK_perm keyChn _),sumDests_sort]
theorem sortD_idem (x:Chn):sortD (sortD x)=sortD x:=by
 unfold sortD
 congr 1
 exact List.mergeSort_of_pairwise (List.pairwise_mergeSort (fun a b c h1 h2=>by simp at*;omega) (fun a b=>by simp;omega) x.dests)
theorem normK_idem {α:Type} (key:α→List Int) (hinj: ∀x y,key x=key y→x=y) (l:List α):normK key (normK key l)=normK key l:=
 (normK_unique key hinj (List.Perm.refl _) (normK_asc key l)).symm
theorem norm_idem (c:Cfg):c.norm.norm=c.norm:=by
 unfold Cfg.norm
 simp only [normK_idem keyPar (fun _ _=>keyPar_inj),normK_idem keyWin (fun _ _=>keyWin_inj),normK_idem keyReg (fun _ _=>keyReg_inj),normK_idem keyPrt (fun _ _=>keyPrt_inj)]
 have h:(normK keyChn (c.chans.map sortD)).map sortD=normK keyChn (c.chans.map sortD):=by
  conv=>rhs;rw [←List.map_id (normK keyChn (c.chans.map sortD))]
  refine List.map_congr_left fun x hx=> ?_
  obtain ⟨y,_,rfl⟩:=List.mem_map.1 ((normK_perm keyChn _).mem_iff.1 hx)
  exact sortD_idem y
 rw [h,normK_idem keyChn (fun _ _=>keyChn_inj)]
theorem norm_len1 (c:Cfg):c.norm.parts.length=c.parts.length:=normK_len _ _
theorem norm_len2 (c:Cfg):c.norm.wins.length=c.wins.length:=normK_len _ _
theorem norm_len3 (c:Cfg):c.norm.regs.length=c.regs.length:=normK_len _ _
theorem norm_len4 (c:Cfg):c.norm.ports.length=c.ports.length:=normK_len _ _
theorem norm_len5 (c:Cfg):c.norm.chans.length=c.chans.length:=by unfold Cfg.norm;rw [normK_len,List.length_map]
end Go.Proofs.YtcfoolooemhbeaaGreat
