/-
  No cell of these rows narrows 'for every input' (looked for: loops, veiled, ifaces, maps, wideKeys, modest, calm, conditions, laid).
  DERIVED. THE GIVEN ROWS OF THIS SEAT. 6 by the template 'for every input the law returns true; each argument reads behind the call as it read before'; 0 by the template 'total and deterministic' (their statements: YtldchpmilknlmaaGreatTotals.lean).
  GIVEN WITH THE SEED: the statements are not yours to turn. If you find one false, say at which input.
  Laid BY PROGRAM, IN A SANDBOX (cutbox-rows.mjs): the forced cells as the released guide's own fill.sh prints them over the translation 66300ea65a2ccdfd… (all of the seat's roots in one cut). By AI agents, Wed Nov 11 2026. No macro, syntax, notation, axiom, sorry.
-/
import Derived.Test.YtldchpmilknlmaaGreatChecked
import GoSem.Claim
import GoSem.ClaimJoined
import GoSem.ClaimMapViews
import Derived.JoinedTies
import Derived.KernelRfl
namespace Go.Proofs.YtldchpmilknlmaaGreat
/- THE CELL 'sum', in the pinned program and in every row, IS THE sha256 OF THE DUMP (.gsa) THAT YtldchpmilknlmaaGreatProg.lean LOADS. Nothing in Lean hashes anything: it is a label: what it is worth is what the hold of that sum in a sandbox is worth. -/
noncomputable def Tryz.pinned : Pinned := { name := "ytldchpmilknlmaagreat", sum := "66300ea65a2ccdfdeba015deccb23b7e77d87ec0d63f5a4b93d1024801ea917e", checked := Tryz.checked }
namespace Rows
def none {H : Type} : Left H := { results := [], args := [] }

/-- 'fenestralaw05.ConfNormal': WHATEVER THE INPUT: true; the input reads as it did. -/
def confNormalSpec : ChangeSpec := { name := "confNormal", fn := fun _ => fun
  | [d] => { results := [.lit (.bool true)], args := [d] }
  | _ => none }
def confNormalRow : OpenClaim := { program := "ytldchpmilknlmaagreat", sum := "66300ea65a2ccdfdeba015deccb23b7e77d87ec0d63f5a4b93d1024801ea917e", func := "fenestra/fenestralaw05.ConfNormal", spec := "confNormal", inPlace := ["internal/bytealg.abigen_runtime_cmpstring"], unfollowed := true, recurses := true, apart := false }
def ConfNormalSaid : Prop := confNormalRow.holds Tryz.pinned (OpenSpec.ofChange confNormalSpec)

/-- ITS FALSE NEIGHBOUR: 'it returns false'. Refute it at one input. -/
def confNormalWrong : ChangeSpec := { name := "confNormal", fn := fun _ => fun
  | [d] => { results := [.lit (.bool false)], args := [d] }
  | _ => none }
def ConfNormalWrongFalsely : Prop := confNormalRow.holds Tryz.pinned (OpenSpec.ofChange confNormalWrong)

/-- 'fenestralaw05.ConfSame': WHATEVER THE INPUT: true; the input reads as it did. -/
def confSameSpec : ChangeSpec := { name := "confSame", fn := fun _ => fun
  | [d1, d2] => { results := [.lit (.bool true)], args := [d1, d2] }
  | _ => none }
def confSameRow : OpenClaim := { program := "ytldchpmilknlmaagreat", sum := "66300ea65a2ccdfdeba015deccb23b7e77d87ec0d63f5a4b93d1024801ea917e", func := "fenestra/fenestralaw05.ConfSame", spec := "confSame", inPlace := ["internal/bytealg.abigen_runtime_cmpstring"], unfollowed := true, recurses := true, apart := false }
def ConfSameSaid : Prop := confSameRow.holds Tryz.pinned (OpenSpec.ofChange confSameSpec)

/-- ITS FALSE NEIGHBOUR: 'it returns false'. Refute it at one input. -/
def confSameWrong : ChangeSpec := { name := "confSame", fn := fun _ => fun
  | [d1, d2] => { results := [.lit (.bool false)], args := [d1, d2] }
  | _ => none }
def ConfSameWrongFalsely : Prop := confSameRow.holds Tryz.pinned (OpenSpec.ofChange confSameWrong)

/-- 'fenestralaw05.ConfMerges': WHATEVER THE INPUT: true; the input reads as it did. -/
def confMergesSpec : ChangeSpec := { name := "confMerges", fn := fun _ => fun
  | [d1, d2, d3] => { results := [.lit (.bool true)], args := [d1, d2, d3] }
  | _ => none }
def confMergesRow : OpenClaim := { program := "ytldchpmilknlmaagreat", sum := "66300ea65a2ccdfdeba015deccb23b7e77d87ec0d63f5a4b93d1024801ea917e", func := "fenestra/fenestralaw05.ConfMerges", spec := "confMerges", inPlace := ["internal/bytealg.abigen_runtime_cmpstring"], unfollowed := true, recurses := true, apart := false }
def ConfMergesSaid : Prop := confMergesRow.holds Tryz.pinned (OpenSpec.ofChange confMergesSpec)

/-- ITS FALSE NEIGHBOUR: 'it returns false'. Refute it at one input. -/
def confMergesWrong : ChangeSpec := { name := "confMerges", fn := fun _ => fun
  | [d1, d2, d3] => { results := [.lit (.bool false)], args := [d1, d2, d3] }
  | _ => none }
def ConfMergesWrongFalsely : Prop := confMergesRow.holds Tryz.pinned (OpenSpec.ofChange confMergesWrong)

/-- 'fenestralaw05.ConfShuffles': WHATEVER THE INPUT: true; the input reads as it did. -/
def confShufflesSpec : ChangeSpec := { name := "confShuffles", fn := fun _ => fun
  | [d1, d2] => { results := [.lit (.bool true)], args := [d1, d2] }
  | _ => none }
def confShufflesRow : OpenClaim := { program := "ytldchpmilknlmaagreat", sum := "66300ea65a2ccdfdeba015deccb23b7e77d87ec0d63f5a4b93d1024801ea917e", func := "fenestra/fenestralaw05.ConfShuffles", spec := "confShuffles", inPlace := ["internal/bytealg.abigen_runtime_cmpstring"], unfollowed := true, recurses := true, apart := false }
def ConfShufflesSaid : Prop := confShufflesRow.holds Tryz.pinned (OpenSpec.ofChange confShufflesSpec)

/-- ITS FALSE NEIGHBOUR: 'it returns false'. Refute it at one input. -/
def confShufflesWrong : ChangeSpec := { name := "confShuffles", fn := fun _ => fun
  | [d1, d2] => { results := [.lit (.bool false)], args := [d1, d2] }
  | _ => none }
def ConfShufflesWrongFalsely : Prop := confShufflesRow.holds Tryz.pinned (OpenSpec.ofChange confShufflesWrong)

/-- 'fenestralaw05.ConfChecks': WHATEVER THE INPUT: true; the input reads as it did. -/
def confChecksSpec : ChangeSpec := { name := "confChecks", fn := fun _ => fun
  | [d] => { results := [.lit (.bool true)], args := [d] }
  | _ => none }
def confChecksRow : OpenClaim := { program := "ytldchpmilknlmaagreat", sum := "66300ea65a2ccdfdeba015deccb23b7e77d87ec0d63f5a4b93d1024801ea917e", func := "fenestra/fenestralaw05.ConfChecks", spec := "confChecks", inPlace := ["internal/bytealg.abigen_runtime_cmpstring"], unfollowed := true, recurses := true, apart := false }
def ConfChecksSaid : Prop := confChecksRow.holds Tryz.pinned (OpenSpec.ofChange confChecksSpec)

/-- ITS FALSE NEIGHBOUR: 'it returns false'. Refute it at one input. -/
def confChecksWrong : ChangeSpec := { name := "confChecks", fn := fun _ => fun
  | [d] => { results := [.lit (.bool false)], args := [d] }
  | _ => none }
def ConfChecksWrongFalsely : Prop := confChecksRow.holds Tryz.pinned (OpenSpec.ofChange confChecksWrong)

/-- 'fenestralaw05.ConfLimits': WHATEVER THE INPUT: true; the input reads as it did. -/
def confLimitsSpec : ChangeSpec := { name := "confLimits", fn := fun _ => fun
  | [d] => { results := [.lit (.bool true)], args := [d] }
  | _ => none }
def confLimitsRow : OpenClaim := { program := "ytldchpmilknlmaagreat", sum := "66300ea65a2ccdfdeba015deccb23b7e77d87ec0d63f5a4b93d1024801ea917e", func := "fenestra/fenestralaw05.ConfLimits", spec := "confLimits", inPlace := ["internal/bytealg.abigen_runtime_cmpstring"], unfollowed := true, recurses := true, apart := false }
def ConfLimitsSaid : Prop := confLimitsRow.holds Tryz.pinned (OpenSpec.ofChange confLimitsSpec)

/-- ITS FALSE NEIGHBOUR: 'it returns false'. Refute it at one input. -/
def confLimitsWrong : ChangeSpec := { name := "confLimits", fn := fun _ => fun
  | [d] => { results := [.lit (.bool false)], args := [d] }
  | _ => none }
def ConfLimitsWrongFalsely : Prop := confLimitsRow.holds Tryz.pinned (OpenSpec.ofChange confLimitsWrong)

/- THE SECOND FORM. 'bulk': how many values and letters a reading holds, each counted each time it is reached (what is shared counts as often as it is met; a slice's spare places count too). A statement '..UptoSaid' is the law's where the arguments, and the package variables that the reading takes, are together of bulk at most 1048576: NARROWER than '..Said'. Prove '..Said' where nothing that the law and all that it calls make is longer than what came in: it says more and counts as full. Else prove '..UptoSaid'. A law counts once. -/
mutual
def uptoBulk {H : Type} : DataW H → Nat
  | .lit (.string bytes) => bytes.length + 1
  | .lit _ => 1
  | .nil => 1
  | .ptr d => uptoBulk d + 1
  | .slice elems spare => uptoBulkAll elems + uptoBulkAll spare + 1
  | .agg parts => uptoBulkAll parts + 1
  | .iface _ d => uptoBulk d + 1
  | .map entries => uptoBulkEntries entries + 1
  | .held _ => 1
def uptoBulkAll {H : Type} : List (DataW H) → Nat
  | [] => 0
  | d :: r => uptoBulk d + uptoBulkAll r
def uptoBulkEntries {H : Type} : List (Lit × DataW H) → Nat
  | [] => 0
  | x :: r => uptoBulkEntry x + uptoBulkEntries r
def uptoBulkEntry {H : Type} : Lit × DataW H → Nat
  | (.string bytes, d) => bytes.length + uptoBulk d + 1
  | (_, d) => uptoBulk d + 1
 end
def uptoSmall : (H : Type) → List (DataW H) → Bool := fun _ ds => decide (uptoBulkAll ds ≤ 1048576)
def OpenSpec.upto (s : _root_.Go.ChangeSpec) : _root_.Go.OpenSpec := { _root_.Go.OpenSpec.ofChange s with cond := some uptoSmall }

/-- 'fenestralaw05.ConfNormal', WHERE WHAT IT READS IS OF BULK AT MOST 1048576: true; the input reads as it did. -/
def confNormalUptoRow : OpenClaim := { program := "ytldchpmilknlmaagreat", sum := "66300ea65a2ccdfdeba015deccb23b7e77d87ec0d63f5a4b93d1024801ea917e", func := "fenestra/fenestralaw05.ConfNormal", spec := "confNormal", inPlace := ["internal/bytealg.abigen_runtime_cmpstring"], unfollowed := true, recurses := true, apart := false, narrowed := true }
def ConfNormalUptoSaid : Prop := confNormalUptoRow.holds Tryz.pinned (OpenSpec.upto confNormalSpec)

/-- 'fenestralaw05.ConfSame', WHERE WHAT IT READS IS OF BULK AT MOST 1048576: true; the input reads as it did. -/
def confSameUptoRow : OpenClaim := { program := "ytldchpmilknlmaagreat", sum := "66300ea65a2ccdfdeba015deccb23b7e77d87ec0d63f5a4b93d1024801ea917e", func := "fenestra/fenestralaw05.ConfSame", spec := "confSame", inPlace := ["internal/bytealg.abigen_runtime_cmpstring"], unfollowed := true, recurses := true, apart := false, narrowed := true }
def ConfSameUptoSaid : Prop := confSameUptoRow.holds Tryz.pinned (OpenSpec.upto confSameSpec)

/-- 'fenestralaw05.ConfMerges', WHERE WHAT IT READS IS OF BULK AT MOST 1048576: true; the input reads as it did. -/
def confMergesUptoRow : OpenClaim := { program := "ytldchpmilknlmaagreat", sum := "66300ea65a2ccdfdeba015deccb23b7e77d87ec0d63f5a4b93d1024801ea917e", func := "fenestra/fenestralaw05.ConfMerges", spec := "confMerges", inPlace := ["internal/bytealg.abigen_runtime_cmpstring"], unfollowed := true, recurses := true, apart := false, narrowed := true }
def ConfMergesUptoSaid : Prop := confMergesUptoRow.holds Tryz.pinned (OpenSpec.upto confMergesSpec)

/-- 'fenestralaw05.ConfShuffles', WHERE WHAT IT READS IS OF BULK AT MOST 1048576: true; the input reads as it did. -/
def confShufflesUptoRow : OpenClaim := { program := "ytldchpmilknlmaagreat", sum := "66300ea65a2ccdfdeba015deccb23b7e77d87ec0d63f5a4b93d1024801ea917e", func := "fenestra/fenestralaw05.ConfShuffles", spec := "confShuffles", inPlace := ["internal/bytealg.abigen_runtime_cmpstring"], unfollowed := true, recurses := true, apart := false, narrowed := true }
def ConfShufflesUptoSaid : Prop := confShufflesUptoRow.holds Tryz.pinned (OpenSpec.upto confShufflesSpec)

/-- 'fenestralaw05.ConfChecks', WHERE WHAT IT READS IS OF BULK AT MOST 1048576: true; the input reads as it did. -/
def confChecksUptoRow : OpenClaim := { program := "ytldchpmilknlmaagreat", sum := "66300ea65a2ccdfdeba015deccb23b7e77d87ec0d63f5a4b93d1024801ea917e", func := "fenestra/fenestralaw05.ConfChecks", spec := "confChecks", inPlace := ["internal/bytealg.abigen_runtime_cmpstring"], unfollowed := true, recurses := true, apart := false, narrowed := true }
def ConfChecksUptoSaid : Prop := confChecksUptoRow.holds Tryz.pinned (OpenSpec.upto confChecksSpec)

/-- 'fenestralaw05.ConfLimits', WHERE WHAT IT READS IS OF BULK AT MOST 1048576: true; the input reads as it did. -/
def confLimitsUptoRow : OpenClaim := { program := "ytldchpmilknlmaagreat", sum := "66300ea65a2ccdfdeba015deccb23b7e77d87ec0d63f5a4b93d1024801ea917e", func := "fenestra/fenestralaw05.ConfLimits", spec := "confLimits", inPlace := ["internal/bytealg.abigen_runtime_cmpstring"], unfollowed := true, recurses := true, apart := false, narrowed := true }
def ConfLimitsUptoSaid : Prop := confLimitsUptoRow.holds Tryz.pinned (OpenSpec.upto confLimitsSpec)

end Rows
end Go.Proofs.YtldchpmilknlmaaGreat
