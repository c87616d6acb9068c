/-
  The example of the chapter of layer 11 holds: 'alive' returns true.
-/
import Derived.BigQuiet
import Derived.Test.YteelncofiodflaaGreatPackW
import Derived.Test.YteelncofiodflaaGreatRefC
namespace Go.Proofs.YteelncofiodflaaGreat
open Go.RowKit
def eC:Cfg:=⟨0,[],[],[],[],[]⟩
theorem eC_ok:eC.ok:=⟨by unfold wU64;decide,by simp [eC],by simp [eC],by simp [eC],by simp [eC],by simp [eC]⟩
theorem eR (w:World):CfgR w w.heap.size eC none none none none none 0 0 0 0 0:=
 ⟨Rd.nil,Rd.nil,Rd.nil,Rd.nil,⟨_,rfl,Rd.nil⟩,⟨Nat.le_refl _,by unfold maxLen;omega⟩,⟨Nat.le_refl _,by unfold maxLen;omega⟩,⟨Nat.le_refl _,by unfold maxLen;omega⟩,⟨Nat.le_refl _,by unfold maxLen;omega⟩,⟨Nat.le_refl _,by unfold maxLen;omega⟩⟩
theorem e_norm:eC.norm=eC:=by unfold Cfg.norm eC;simp [normK]
theorem e_twc:firstTwc eC=⟨0,0,0⟩:=by kernel_rfl
theorem e_lim:limF eC=⟨0,0,0⟩:=by kernel_rfl
theorem e_pack:packF eC=⟨0,0,0⟩:=by
 unfold packF
 rw [e_lim,if_pos rfl]
 unfold twcF
 rw [e_norm,e_twc]
theorem e_bytes:packB eC=imgB eC:=by
 unfold packB
 rw [e_pack,if_pos rfl,e_norm]
theorem e_len:(packB eC).length=84:=by
 rw [e_bytes,imgB_len]
 rfl
theorem e_head:(packB eC).take 4= [70,78,83,84]:=by
 rw [e_bytes]
 rfl
theorem e_str:bytS [70,78,83,84]=⟨#[70,78,83,84]⟩:=by rfl
set_option maxRecDepth 100000 in
set_option maxHeartbeats 2000000 in
theorem alive11_ok (w:World):Calls Tryz.prog 5 #[] w fun e w'=>e= .returned (.bool true)∧Below w.heap.size w w':=by
 go_enter Tryz.func5,Tryz.ntmps5
 go_wp2_with fail
 refine (pckPack_ok eC none none none none none 0 0 0 0 0 w (eR w) eC_ok (by decide) ⟨0,0,0⟩ (Lib.hid e_pack)).mono ?_
 rintro e w1 ⟨v,rfl,ho,hb1⟩
 have hl:=e_len
 have hh:=e_head
 generalize packB eC=L at*
 rw [hl] at ho
 obtain ⟨D,d,rfl,hc,_,hrd⟩:=own_form ho
 obtain ⟨W2,hW2,hb2,hk⟩: ∃W,w1.alloc (.cells #[.int .i64 0, .int .i64 0, .int .i64 0] 44)=W∧Below w1.heap.size w1 W∧Blk W w1.heap.size 44 #[.int .i64 0, .int .i64 0, .int .i64 0]:=⟨_,rfl,below_one _ _,Blk.new _ _ _⟩
 obtain ⟨A1,k1,hr1,hd1,_,_⟩:=slice_pre u8s_elem u8s_size (hrd.up hb2) hc 4 (by omega)
 rw [show ((4:Nat):Int)=4 from rfl] at hr1
 rw [bytV_take,hh] at hd1
 have hcv:=conv_bytes [70,78,83,84] W2 _ 4 k1 A1 hd1 rfl (by omega)
 rw [e_str] at hcv
 have HCV:=Lib.hid hcv
 have HB2:=Lib.hid (Below.then_ hb1 hb2)
 have HW2:=Lib.hid hW2
 have HK:=Lib.hid hk
 clear hcv hk hW2 hb1 hb2 hrd hd1 ho hl hh hc
 go_upto_region 2 with (fail)
 rw [HW2.out]
 clear HW2
 generalize w1.heap.size=g at*
 have hcv:=HCV.out
 have q0:=HK.out.cell 0
 have q1:=HK.out.cell 1
 have q2:=HK.out.cell 2
 have qz:=HK.out.lt
 simp at q0 q1 q2
 go_wp2
 go_ret
 exact ⟨rfl,HB2.out⟩
end Go.Proofs.YteelncofiodflaaGreat
