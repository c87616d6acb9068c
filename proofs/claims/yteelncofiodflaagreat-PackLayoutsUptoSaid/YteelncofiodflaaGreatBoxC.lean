/-
  A configuration in a box, and contracts of Normal that speak of the normal form by a name.
-/
import Derived.Test.YteelncofiodflaaGreatNrW
import Derived.Test.YteelncofiodflaaGreatCore
import Derived.Test.YteelncofiodflaaGreatMrgZ
import Derived.Test.YteelncofiodflaaGreatIsN
namespace Go.Proofs.YteelncofiodflaaGreat
open Go.RowKit
theorem few_valB (c:Cfg) (A1 A2 A3 A4 A5:Option Addr) (c1 c2 c3 c4 c5:Nat) (w:World) (hR:CfgR w w.heap.size c A1 A2 A3 A4 A5 c1 c2 c3 c4 c5) (hs:c.small) (v:Bool) (hv:Hid (few c=v)):Calls Tryz.prog 4 #[cfgV c.frame A1 A2 A3 A4 A5 c.parts.length c.wins.length c.regs.length c.ports.length c.chans.length c1 c2 c3 c4 c5] w fun e w'=>e= .returned (.bool v)∧Below w.heap.size w w':=by
 have:=few_ok c A1 A2 A3 A4 A5 c1 c2 c3 c4 c5 w hR hs
 rwa [hv.out] at this
structure CBx (W:World) (g:Nat) (c:Cfg) (A1 A2 A3 A4 A5:Option Addr) (c1 c2 c3 c4 c5:Nat):Prop where
 R:CfgR W W.heap.size c A1 A2 A3 A4 A5 c1 c2 c3 c4 c5
 x0:W.cell? ⟨g,0,none⟩=some (.int .u64 c.frame)
 x1:W.cell? ⟨g,1,none⟩=some (.slice A1 c.parts.length c1)
 x2:W.cell? ⟨g,2,none⟩=some (.slice A2 c.wins.length c2)
 x3:W.cell? ⟨g,3,none⟩=some (.slice A3 c.regs.length c3)
 x4:W.cell? ⟨g,4,none⟩=some (.slice A4 c.ports.length c4)
 x5:W.cell? ⟨g,5,none⟩=some (.slice A5 c.chans.length c5)
 z:g <W.heap.size
section
variable {w W V:World} {g:Nat} {c:Cfg} {A1 A2 A3 A4 A5:Option Addr} {c1 c2 c3 c4 c5:Nat}
theorem CBx.up (h:CBx W g c A1 A2 A3 A4 A5 c1 c2 c3 c4 c5) (hb:Below W.heap.size W V):CBx V g c A1 A2 A3 A4 A5 c1 c2 c3 c4 c5:=by
 have q: ∀j,V.cell? ⟨g,j,none⟩=W.cell? ⟨g,j,none⟩:=fun j=>hb.cell (p:=⟨g,j,none⟩) h.z
 exact ⟨h.R.up hb,(q 0).trans h.x0,(q 1).trans h.x1,(q 2).trans h.x2,(q 3).trans h.x3,(q 4).trans h.x4,(q 5).trans h.x5,Nat.lt_of_lt_of_le h.z hb.size⟩
theorem CBx.cells (h:CBx W g c A1 A2 A3 A4 A5 c1 c2 c3 c4 c5):W.cell? ⟨g,0,none⟩=some (.int .u64 c.frame)∧W.cell? ⟨g,1,none⟩=some (.slice A1 c.parts.length c1)∧W.cell? ⟨g,2,none⟩=some (.slice A2 c.wins.length c2)∧
  W.cell? ⟨g,3,none⟩=some (.slice A3 c.regs.length c3)∧W.cell? ⟨g,4,none⟩=some (.slice A4 c.ports.length c4)∧W.cell? ⟨g,5,none⟩=some (.slice A5 c.chans.length c5):=⟨h.x0,h.x1,h.x2,h.x3,h.x4,h.x5⟩
theorem CBx.new (hR:CfgR w w.heap.size c A1 A2 A3 A4 A5 c1 c2 c3 c4 c5) (t:TypeId): ∃W,w.alloc (.cells #[.int .u64 c.frame, .slice A1 c.parts.length c1, .slice A2 c.wins.length c2, .slice A3 c.regs.length c3, .slice A4 c.ports.length c4, .slice A5 c.chans.length c5] t)=W∧CBx W w.heap.size c A1 A2 A3 A4 A5 c1 c2 c3 c4 c5∧Below w.heap.size w W:=
 ⟨_,rfl,⟨hR.up (below_one _ _),by simp,by simp,by simp,by simp,by simp,by simp,by simp⟩,below_one _ _⟩
end
theorem Cfg.small.tot {c:Cfg} (h:c.small):c.total≤4194304:=by have:=h.total;unfold BIG at this;omega
theorem normalD_ok (c d:Cfg) (hd:Hid (c.norm=d)) (A1 A2 A3 A4 A5:Option Addr) (c1 c2 c3 c4 c5:Nat) (w:World) (hR:CfgR w w.heap.size c A1 A2 A3 A4 A5 c1 c2 c3 c4 c5) (ht:c.total≤4194304):Calls Tryz.prog 17 #[cfgV c.frame A1 A2 A3 A4 A5 c.parts.length c.wins.length c.regs.length c.ports.length c.chans.length c1 c2 c3 c4 c5] w fun e w'=> ∃(B1 B2 B3 B4 B5:Option Addr) (b1 b2 b3 b4 b5:Nat),
  e= .returned (cfgV d.frame B1 B2 B3 B4 B5 d.parts.length d.wins.length d.regs.length d.ports.length d.chans.length b1 b2 b3 b4 b5)∧CfgR w' w'.heap.size d B1 B2 B3 B4 B5 b1 b2 b3 b4 b5∧Below w.heap.size w w':=by
 refine (normal_ok c A1 A2 A3 A4 A5 c1 c2 c3 c4 c5 w hR ht).mono fun e w' ⟨B1,B2,B3,B4,B5,b1,b2,b3,b4,b5,he,ho,hb⟩=> ?_
 rw [←norm_len1 c, ←norm_len2 c, ←norm_len3 c, ←norm_len4 c, ←norm_len5 c] at he
 have hr:=ho.toR
 rw [hd.out] at he hr
 have hf:c.frame=d.frame:=by rw [←hd.out];rfl
 rw [hf] at he
 exact ⟨B1,B2,B3,B4,B5,b1,b2,b3,b4,b5,he,hr,hb⟩
end Go.Proofs.YteelncofiodflaaGreat
