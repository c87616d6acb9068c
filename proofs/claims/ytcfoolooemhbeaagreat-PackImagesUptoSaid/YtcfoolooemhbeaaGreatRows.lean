/-
  No cell of these rows narrows 'for every input' (looked for: loops, veiled, ifaces, maps, wideKeys, modest, calm, conditions, laid).
  DERIVED. THE GIVEN ROWS OF THIS SEAT. 6 by the template 'for every input the law returns true; each argument reads behind the call as it read before'; 0 by the template 'total and deterministic' (their statements: YtcfoolooemhbeaaGreatTotals.lean).
  GIVEN WITH THE SEED: the statements are not yours to turn. If you find one false, say at which input.
  Laid BY PROGRAM, IN A SANDBOX (cutbox-rows.mjs): the forced cells as the released guide's own fill.sh prints them over the translation 890fa3323b34856c… (all of the seat's roots in one cut). By AI agents, Wed Nov 11 2026. No macro, syntax, notation, axiom, sorry.
-/
import Derived.Test.YtcfoolooemhbeaaGreatChecked
import GoSem.Claim
import GoSem.ClaimJoined
import GoSem.ClaimMapViews
import Derived.JoinedTies
import Derived.KernelRfl
namespace Go.Proofs.YtcfoolooemhbeaaGreat
/- THE CELL 'sum', in the pinned program and in every row, IS THE sha256 OF THE DUMP (.gsa) THAT YtcfoolooemhbeaaGreatProg.lean LOADS. Nothing in Lean hashes anything: it is a label: what it is worth is what the hold of that sum in a sandbox is worth. -/
noncomputable def Tryz.pinned : Pinned := { name := "ytcfoolooemhbeaagreat", sum := "890fa3323b34856c0e69dcca969232054b72e9d60fa58f840adb03448463d14b", checked := Tryz.checked }
namespace Rows
def none {H : Type} : Left H := { results := [], args := [] }

/-- 'fenestralaw11.PackImages': WHATEVER THE INPUT: true; the input reads as it did. -/
def packImagesSpec : ChangeSpec := { name := "packImages", fn := fun _ => fun
  | [d] => { results := [.lit (.bool true)], args := [d] }
  | _ => none }
def packImagesRow : OpenClaim := { program := "ytcfoolooemhbeaagreat", sum := "890fa3323b34856c0e69dcca969232054b72e9d60fa58f840adb03448463d14b", func := "fenestra/fenestralaw11.PackImages", spec := "packImages", inPlace := ["internal/bytealg.abigen_runtime_cmpstring"], unfollowed := true, recurses := true, apart := false }
def PackImagesSaid : Prop := packImagesRow.holds Tryz.pinned (OpenSpec.ofChange packImagesSpec)

/-- ITS FALSE NEIGHBOUR: 'it returns false'. Refute it at one input. -/
def packImagesWrong : ChangeSpec := { name := "packImages", fn := fun _ => fun
  | [d] => { results := [.lit (.bool false)], args := [d] }
  | _ => none }
def PackImagesWrongFalsely : Prop := packImagesRow.holds Tryz.pinned (OpenSpec.ofChange packImagesWrong)

/-- 'fenestralaw11.PackLinks': WHATEVER THE INPUT: true; the input reads as it did. -/
def packLinksSpec : ChangeSpec := { name := "packLinks", fn := fun _ => fun
  | [d] => { results := [.lit (.bool true)], args := [d] }
  | _ => none }
def packLinksRow : OpenClaim := { program := "ytcfoolooemhbeaagreat", sum := "890fa3323b34856c0e69dcca969232054b72e9d60fa58f840adb03448463d14b", func := "fenestra/fenestralaw11.PackLinks", spec := "packLinks", inPlace := ["internal/bytealg.abigen_runtime_cmpstring"], unfollowed := true, recurses := true, apart := false }
def PackLinksSaid : Prop := packLinksRow.holds Tryz.pinned (OpenSpec.ofChange packLinksSpec)

/-- ITS FALSE NEIGHBOUR: 'it returns false'. Refute it at one input. -/
def packLinksWrong : ChangeSpec := { name := "packLinks", fn := fun _ => fun
  | [d] => { results := [.lit (.bool false)], args := [d] }
  | _ => none }
def PackLinksWrongFalsely : Prop := packLinksRow.holds Tryz.pinned (OpenSpec.ofChange packLinksWrong)

/-- 'fenestralaw11.PackLayouts': WHATEVER THE INPUT: true; the input reads as it did. -/
def packLayoutsSpec : ChangeSpec := { name := "packLayouts", fn := fun _ => fun
  | [d] => { results := [.lit (.bool true)], args := [d] }
  | _ => none }
def packLayoutsRow : OpenClaim := { program := "ytcfoolooemhbeaagreat", sum := "890fa3323b34856c0e69dcca969232054b72e9d60fa58f840adb03448463d14b", func := "fenestra/fenestralaw11.PackLayouts", spec := "packLayouts", inPlace := ["internal/bytealg.abigen_runtime_cmpstring"], unfollowed := true, recurses := true, apart := false }
def PackLayoutsSaid : Prop := packLayoutsRow.holds Tryz.pinned (OpenSpec.ofChange packLayoutsSpec)

/-- ITS FALSE NEIGHBOUR: 'it returns false'. Refute it at one input. -/
def packLayoutsWrong : ChangeSpec := { name := "packLayouts", fn := fun _ => fun
  | [d] => { results := [.lit (.bool false)], args := [d] }
  | _ => none }
def PackLayoutsWrongFalsely : Prop := packLayoutsRow.holds Tryz.pinned (OpenSpec.ofChange packLayoutsWrong)

/-- 'fenestralaw11.PackTwice': WHATEVER THE INPUT: true; the input reads as it did. -/
def packTwiceSpec : ChangeSpec := { name := "packTwice", fn := fun _ => fun
  | [d] => { results := [.lit (.bool true)], args := [d] }
  | _ => none }
def packTwiceRow : OpenClaim := { program := "ytcfoolooemhbeaagreat", sum := "890fa3323b34856c0e69dcca969232054b72e9d60fa58f840adb03448463d14b", func := "fenestra/fenestralaw11.PackTwice", spec := "packTwice", inPlace := ["internal/bytealg.abigen_runtime_cmpstring"], unfollowed := true, recurses := true, apart := false }
def PackTwiceSaid : Prop := packTwiceRow.holds Tryz.pinned (OpenSpec.ofChange packTwiceSpec)

/-- ITS FALSE NEIGHBOUR: 'it returns false'. Refute it at one input. -/
def packTwiceWrong : ChangeSpec := { name := "packTwice", fn := fun _ => fun
  | [d] => { results := [.lit (.bool false)], args := [d] }
  | _ => none }
def PackTwiceWrongFalsely : Prop := packTwiceRow.holds Tryz.pinned (OpenSpec.ofChange packTwiceWrong)

/-- 'fenestralaw11.PackSealed': WHATEVER THE INPUT: true; the input reads as it did. -/
def packSealedSpec : ChangeSpec := { name := "packSealed", fn := fun _ => fun
  | [d1, d2] => { results := [.lit (.bool true)], args := [d1, d2] }
  | _ => none }
def packSealedRow : OpenClaim := { program := "ytcfoolooemhbeaagreat", sum := "890fa3323b34856c0e69dcca969232054b72e9d60fa58f840adb03448463d14b", func := "fenestra/fenestralaw11.PackSealed", spec := "packSealed", inPlace := ["internal/bytealg.abigen_runtime_cmpstring"], unfollowed := true, recurses := true, apart := false }
def PackSealedSaid : Prop := packSealedRow.holds Tryz.pinned (OpenSpec.ofChange packSealedSpec)

/-- ITS FALSE NEIGHBOUR: 'it returns false'. Refute it at one input. -/
def packSealedWrong : ChangeSpec := { name := "packSealed", fn := fun _ => fun
  | [d1, d2] => { results := [.lit (.bool false)], args := [d1, d2] }
  | _ => none }
def PackSealedWrongFalsely : Prop := packSealedRow.holds Tryz.pinned (OpenSpec.ofChange packSealedWrong)

/-- 'fenestralaw11.PackOrder': WHATEVER THE INPUT: true; the input reads as it did. -/
def packOrderSpec : ChangeSpec := { name := "packOrder", fn := fun _ => fun
  | [d] => { results := [.lit (.bool true)], args := [d] }
  | _ => none }
def packOrderRow : OpenClaim := { program := "ytcfoolooemhbeaagreat", sum := "890fa3323b34856c0e69dcca969232054b72e9d60fa58f840adb03448463d14b", func := "fenestra/fenestralaw11.PackOrder", spec := "packOrder", inPlace := ["internal/bytealg.abigen_runtime_cmpstring"], unfollowed := true, recurses := true, apart := false }
def PackOrderSaid : Prop := packOrderRow.holds Tryz.pinned (OpenSpec.ofChange packOrderSpec)

/-- ITS FALSE NEIGHBOUR: 'it returns false'. Refute it at one input. -/
def packOrderWrong : ChangeSpec := { name := "packOrder", fn := fun _ => fun
  | [d] => { results := [.lit (.bool false)], args := [d] }
  | _ => none }
def PackOrderWrongFalsely : Prop := packOrderRow.holds Tryz.pinned (OpenSpec.ofChange packOrderWrong)

/- THE SECOND FORM. 'bulk': how many values and letters a reading holds, each counted each time it is reached (what is shared counts as often as it is met; a slice's spare places count too). A statement '..UptoSaid' is the law's where the arguments, and the package variables that the reading takes, are together of bulk at most 1048576: NARROWER than '..Said'. Prove '..Said' where nothing that the law and all that it calls make is longer than what came in: it says more and counts as full. Else prove '..UptoSaid'. A law counts once. -/
mutual
def uptoBulk {H : Type} : DataW H → Nat
  | .lit (.string bytes) => bytes.length + 1
  | .lit _ => 1
  | .nil => 1
  | .ptr d => uptoBulk d + 1
  | .slice elems spare => uptoBulkAll elems + uptoBulkAll spare + 1
  | .agg parts => uptoBulkAll parts + 1
  | .iface _ d => uptoBulk d + 1
  | .map entries => uptoBulkEntries entries + 1
  | .held _ => 1
def uptoBulkAll {H : Type} : List (DataW H) → Nat
  | [] => 0
  | d :: r => uptoBulk d + uptoBulkAll r
def uptoBulkEntries {H : Type} : List (Lit × DataW H) → Nat
  | [] => 0
  | x :: r => uptoBulkEntry x + uptoBulkEntries r
def uptoBulkEntry {H : Type} : Lit × DataW H → Nat
  | (.string bytes, d) => bytes.length + uptoBulk d + 1
  | (_, d) => uptoBulk d + 1
 end
def uptoSmall : (H : Type) → List (DataW H) → Bool := fun _ ds => decide (uptoBulkAll ds ≤ 1048576)
def OpenSpec.upto (s : _root_.Go.ChangeSpec) : _root_.Go.OpenSpec := { _root_.Go.OpenSpec.ofChange s with cond := some uptoSmall }

/-- 'fenestralaw11.PackImages', WHERE WHAT IT READS IS OF BULK AT MOST 1048576: true; the input reads as it did. -/
def packImagesUptoRow : OpenClaim := { program := "ytcfoolooemhbeaagreat", sum := "890fa3323b34856c0e69dcca969232054b72e9d60fa58f840adb03448463d14b", func := "fenestra/fenestralaw11.PackImages", spec := "packImages", inPlace := ["internal/bytealg.abigen_runtime_cmpstring"], unfollowed := true, recurses := true, apart := false, narrowed := true }
def PackImagesUptoSaid : Prop := packImagesUptoRow.holds Tryz.pinned (OpenSpec.upto packImagesSpec)

/-- 'fenestralaw11.PackLinks', WHERE WHAT IT READS IS OF BULK AT MOST 1048576: true; the input reads as it did. -/
def packLinksUptoRow : OpenClaim := { program := "ytcfoolooemhbeaagreat", sum := "890fa3323b34856c0e69dcca969232054b72e9d60fa58f840adb03448463d14b", func := "fenestra/fenestralaw11.PackLinks", spec := "packLinks", inPlace := ["internal/bytealg.abigen_runtime_cmpstring"], unfollowed := true, recurses := true, apart := false, narrowed := true }
def PackLinksUptoSaid : Prop := packLinksUptoRow.holds Tryz.pinned (OpenSpec.upto packLinksSpec)

/-- 'fenestralaw11.PackLayouts', WHERE WHAT IT READS IS OF BULK AT MOST 1048576: true; the input reads as it did. -/
def packLayoutsUptoRow : OpenClaim := { program := "ytcfoolooemhbeaagreat", sum := "890fa3323b34856c0e69dcca969232054b72e9d60fa58f840adb03448463d14b", func := "fenestra/fenestralaw11.PackLayouts", spec := "packLayouts", inPlace := ["internal/bytealg.abigen_runtime_cmpstring"], unfollowed := true, recurses := true, apart := false, narrowed := true }
def PackLayoutsUptoSaid : Prop := packLayoutsUptoRow.holds Tryz.pinned (OpenSpec.upto packLayoutsSpec)

/-- 'fenestralaw11.PackTwice', WHERE WHAT IT READS IS OF BULK AT MOST 1048576: true; the input reads as it did. -/
def packTwiceUptoRow : OpenClaim := { program := "ytcfoolooemhbeaagreat", sum := "890fa3323b34856c0e69dcca969232054b72e9d60fa58f840adb03448463d14b", func := "fenestra/fenestralaw11.PackTwice", spec := "packTwice", inPlace := ["internal/bytealg.abigen_runtime_cmpstring"], unfollowed := true, recurses := true, apart := false, narrowed := true }
def PackTwiceUptoSaid : Prop := packTwiceUptoRow.holds Tryz.pinned (OpenSpec.upto packTwiceSpec)

/-- 'fenestralaw11.PackSealed', WHERE WHAT IT READS IS OF BULK AT MOST 1048576: true; the input reads as it did. -/
def packSealedUptoRow : OpenClaim := { program := "ytcfoolooemhbeaagreat", sum := "890fa3323b34856c0e69dcca969232054b72e9d60fa58f840adb03448463d14b", func := "fenestra/fenestralaw11.PackSealed", spec := "packSealed", inPlace := ["internal/bytealg.abigen_runtime_cmpstring"], unfollowed := true, recurses := true, apart := false, narrowed := true }
def PackSealedUptoSaid : Prop := packSealedUptoRow.holds Tryz.pinned (OpenSpec.upto packSealedSpec)

/-- 'fenestralaw11.PackOrder', WHERE WHAT IT READS IS OF BULK AT MOST 1048576: true; the input reads as it did. -/
def packOrderUptoRow : OpenClaim := { program := "ytcfoolooemhbeaagreat", sum := "890fa3323b34856c0e69dcca969232054b72e9d60fa58f840adb03448463d14b", func := "fenestra/fenestralaw11.PackOrder", spec := "packOrder", inPlace := ["internal/bytealg.abigen_runtime_cmpstring"], unfollowed := true, recurses := true, apart := false, narrowed := true }
def PackOrderUptoSaid : Prop := packOrderUptoRow.holds Tryz.pinned (OpenSpec.upto packOrderSpec)

end Rows
end Go.Proofs.YtcfoolooemhbeaaGreat
