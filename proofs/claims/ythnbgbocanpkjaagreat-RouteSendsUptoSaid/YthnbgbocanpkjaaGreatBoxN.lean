/-
  The contract of the reference's Normal, that speaks of the normal form by a name.
-/
import Derived.Test.YthnbgbocanpkjaaGreatBoxC
import Derived.Test.YthnbgbocanpkjaaGreatNormR
namespace Go.Proofs.YthnbgbocanpkjaaGreat
open Go.RowKit
theorem Cfg.norm_ok {c : Cfg} (h : c.ok) : c.norm.ok := by
  have h2 := Cfg.srt_ok h
  exact ⟨h.frame, fun p hp => h.parts p ((normK_perm keyPar c.parts).mem_iff.1 hp), fun p hp => h.wins p ((normK_perm keyWin c.wins).mem_iff.1 hp), fun p hp => h.regs p ((normK_perm keyReg c.regs).mem_iff.1 hp), fun p hp => h.ports p ((normK_perm keyPrt c.ports).mem_iff.1 hp), fun p hp => h2.chans p ((normK_perm keyChn _).mem_iff.1 hp)⟩
end Go.Proofs.YthnbgbocanpkjaaGreat
