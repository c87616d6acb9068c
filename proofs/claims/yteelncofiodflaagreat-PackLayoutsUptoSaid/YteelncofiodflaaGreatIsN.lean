/-
  conf.IsNormal, walked; the normal form is its own normal form.
-/
import Derived.Deep.RegionHeld3
import Derived.Test.YteelncofiodflaaGreatNrW
import Derived.Test.YteelncofiodflaaGreatEqZ
namespace Go.Proofs.YteelncofiodflaaGreat
open Go.RowKit
attribute [local go_sem] ext_cell
theorem sumDests_perm {l m:List Chn} (h:l.Perm m):sumDests l=sumDests m:=by
 unfold sumDests
 exact (h.map _).sum_nat
theorem sumDests_sort (l:List Chn):sumDests (l.map sortD)=sumDests l:=by
 unfold sumDests
 rw [List.map_map]
 congr 1
 exact List.map_congr_left fun x _=>List.length_mergeSort _
theorem norm_total (c:Cfg):c.norm.total=c.total:=by
 unfold Cfg.total Cfg.norm
 simp only [normK_len,List.length_map]
 rw [sumDests_perm (normK_perm keyChn _),sumDests_sort]
theorem norm_len1 (c:Cfg):c.norm.parts.length=c.parts.length:=normK_len _ _
theorem norm_len2 (c:Cfg):c.norm.wins.length=c.wins.length:=normK_len _ _
theorem norm_len3 (c:Cfg):c.norm.regs.length=c.regs.length:=normK_len _ _
theorem norm_len4 (c:Cfg):c.norm.ports.length=c.ports.length:=normK_len _ _
theorem norm_len5 (c:Cfg):c.norm.chans.length=c.chans.length:=by unfold Cfg.norm;rw [normK_len,List.length_map]
end Go.Proofs.YteelncofiodflaaGreat
