/-
  The contract of the reference's Normal, that speaks of the normal form by a name.
-/
import Derived.Test.YtcfoolooemhbeaaGreatBoxC
import Derived.Test.YtcfoolooemhbeaaGreatNormR
namespace Go.Proofs.YtcfoolooemhbeaaGreat
open Go.RowKit
theorem Cfg.norm_ok {c:Cfg} (h:c.ok):c.norm.ok:=by
 have h2:=Cfg.srt_ok h
 exact ⟨h.frame,fun p hp=>h.parts p ((normK_perm keyPar c.parts).mem_iff.1 hp),fun p hp=>h.wins p ((normK_perm keyWin c.wins).mem_iff.1 hp),fun p hp=>h.regs p ((normK_perm keyReg c.regs).mem_iff.1 hp),fun p hp=>h.ports p ((normK_perm keyPrt c.ports).mem_iff.1 hp),fun p hp=>h2.chans p ((normK_perm keyChn _).mem_iff.1 hp)⟩
theorem rNormalD_ok (c d:Cfg) (hd:Hid (c.norm=d)) (A1 A2 A3 A4 A5:Option Addr) (c1 c2 c3 c4 c5:Nat) (w:World) (hR:CfgR w w.heap.size c A1 A2 A3 A4 A5 c1 c2 c3 c4 c5) (hok:c.ok) (hs:c.small):Calls Tryz.prog 52 #[cfgV c.frame A1 A2 A3 A4 A5 c.parts.length c.wins.length c.regs.length c.ports.length c.chans.length c1 c2 c3 c4 c5] w fun e w'=> ∃(B1 B2 B3 B4 B5:Option Addr) (b1 b2 b3 b4 b5:Nat),
  e= .returned (cfgV d.frame B1 B2 B3 B4 B5 d.parts.length d.wins.length d.regs.length d.ports.length d.chans.length b1 b2 b3 b4 b5)∧CfgR w' w'.heap.size d B1 B2 B3 B4 B5 b1 b2 b3 b4 b5∧Below w.heap.size w w':=by
 have h:=rNormal_ok c A1 A2 A3 A4 A5 c1 c2 c3 c4 c5 w hR hok hs
 rw [hd.out] at h
 exact h
end Go.Proofs.YtcfoolooemhbeaaGreat
