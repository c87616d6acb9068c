/-
  No cell of these rows narrows 'for every input' (looked for: loops, veiled, ifaces, maps, wideKeys, modest, calm, conditions, laid).
  DERIVED. THE GIVEN ROWS OF THIS SEAT. 6 by the template 'for every input the law returns true; each argument reads behind the call as it read before'; 0 by the template 'total and deterministic' (their statements: YtpedlbjbbcbbkaaGreatTotals.lean).
  GIVEN WITH THE SEED: the statements are not yours to turn. If you find one false, say at which input.
  Laid BY PROGRAM, IN A SANDBOX (cutbox-rows.mjs): the forced cells as the released guide's own fill.sh prints them over the translation 72038ebf0d09aa74… (all of the seat's roots in one cut). By AI agents, Wed Nov 11 2026. No macro, syntax, notation, axiom, sorry.
-/
import Derived.Test.YtpedlbjbbcbbkaaGreatChecked
import GoSem.Claim
import GoSem.ClaimJoined
import GoSem.ClaimMapViews
import Derived.JoinedTies
import Derived.KernelRfl
namespace Go.Proofs.YtpedlbjbbcbbkaaGreat
/- THE CELL 'sum', in the pinned program and in every row, IS THE sha256 OF THE DUMP (.gsa) THAT YtpedlbjbbcbbkaaGreatProg.lean LOADS. Nothing in Lean hashes anything: it is a label: what it is worth is what the hold of that sum in a sandbox is worth. -/
noncomputable def Tryz.pinned : Pinned := { name := "ytpedlbjbbcbbkaagreat", sum := "72038ebf0d09aa74f87388809634dd689a4d4c6ad86dccbc34f3d23d6a3d6050", checked := Tryz.checked }
namespace Rows
def none {H : Type} : Left H := { results := [], args := [] }

/-- 'fenestralaw19.ValidChecks': WHATEVER THE INPUT: true; the input reads as it did. -/
def validChecksSpec : ChangeSpec := { name := "validChecks", fn := fun _ => fun
  | [d] => { results := [.lit (.bool true)], args := [d] }
  | _ => none }
def validChecksRow : OpenClaim := { program := "ytpedlbjbbcbbkaagreat", sum := "72038ebf0d09aa74f87388809634dd689a4d4c6ad86dccbc34f3d23d6a3d6050", func := "fenestra/fenestralaw19.ValidChecks", spec := "validChecks", inPlace := ["math/bits.Add64"], unfollowed := true, recurses := true, plainKeys := false, apart := false }
def ValidChecksSaid : Prop := validChecksRow.holds Tryz.pinned (OpenSpec.ofChange validChecksSpec)

/-- ITS FALSE NEIGHBOUR: 'it returns false'. Refute it at one input. -/
def validChecksWrong : ChangeSpec := { name := "validChecks", fn := fun _ => fun
  | [d] => { results := [.lit (.bool false)], args := [d] }
  | _ => none }
def ValidChecksWrongFalsely : Prop := validChecksRow.holds Tryz.pinned (OpenSpec.ofChange validChecksWrong)

/-- 'fenestralaw19.ValidLess': WHATEVER THE INPUT: true; the input reads as it did. -/
def validLessSpec : ChangeSpec := { name := "validLess", fn := fun _ => fun
  | [d] => { results := [.lit (.bool true)], args := [d] }
  | _ => none }
def validLessRow : OpenClaim := { program := "ytpedlbjbbcbbkaagreat", sum := "72038ebf0d09aa74f87388809634dd689a4d4c6ad86dccbc34f3d23d6a3d6050", func := "fenestra/fenestralaw19.ValidLess", spec := "validLess", inPlace := ["math/bits.Add64"], unfollowed := true, recurses := true, plainKeys := false, apart := false }
def ValidLessSaid : Prop := validLessRow.holds Tryz.pinned (OpenSpec.ofChange validLessSpec)

/-- ITS FALSE NEIGHBOUR: 'it returns false'. Refute it at one input. -/
def validLessWrong : ChangeSpec := { name := "validLess", fn := fun _ => fun
  | [d] => { results := [.lit (.bool false)], args := [d] }
  | _ => none }
def ValidLessWrongFalsely : Prop := validLessRow.holds Tryz.pinned (OpenSpec.ofChange validLessWrong)

/-- 'fenestralaw19.ValidOnly': WHATEVER THE INPUT: true; the input reads as it did. -/
def validOnlySpec : ChangeSpec := { name := "validOnly", fn := fun _ => fun
  | [d1, d2] => { results := [.lit (.bool true)], args := [d1, d2] }
  | _ => none }
def validOnlyRow : OpenClaim := { program := "ytpedlbjbbcbbkaagreat", sum := "72038ebf0d09aa74f87388809634dd689a4d4c6ad86dccbc34f3d23d6a3d6050", func := "fenestra/fenestralaw19.ValidOnly", spec := "validOnly", inPlace := ["math/bits.Add64"], unfollowed := true, recurses := true, plainKeys := false, apart := false }
def ValidOnlySaid : Prop := validOnlyRow.holds Tryz.pinned (OpenSpec.ofChange validOnlySpec)

/-- ITS FALSE NEIGHBOUR: 'it returns false'. Refute it at one input. -/
def validOnlyWrong : ChangeSpec := { name := "validOnly", fn := fun _ => fun
  | [d1, d2] => { results := [.lit (.bool false)], args := [d1, d2] }
  | _ => none }
def ValidOnlyWrongFalsely : Prop := validOnlyRow.holds Tryz.pinned (OpenSpec.ofChange validOnlyWrong)

/-- 'fenestralaw19.ValidCollects': WHATEVER THE INPUT: true; the input reads as it did. -/
def validCollectsSpec : ChangeSpec := { name := "validCollects", fn := fun _ => fun
  | [d] => { results := [.lit (.bool true)], args := [d] }
  | _ => none }
def validCollectsRow : OpenClaim := { program := "ytpedlbjbbcbbkaagreat", sum := "72038ebf0d09aa74f87388809634dd689a4d4c6ad86dccbc34f3d23d6a3d6050", func := "fenestra/fenestralaw19.ValidCollects", spec := "validCollects", inPlace := ["math/bits.Add64"], unfollowed := true, recurses := true, plainKeys := false, apart := false }
def ValidCollectsSaid : Prop := validCollectsRow.holds Tryz.pinned (OpenSpec.ofChange validCollectsSpec)

/-- ITS FALSE NEIGHBOUR: 'it returns false'. Refute it at one input. -/
def validCollectsWrong : ChangeSpec := { name := "validCollects", fn := fun _ => fun
  | [d] => { results := [.lit (.bool false)], args := [d] }
  | _ => none }
def ValidCollectsWrongFalsely : Prop := validCollectsRow.holds Tryz.pinned (OpenSpec.ofChange validCollectsWrong)

/-- 'fenestralaw19.ValidMore': WHATEVER THE INPUT: true; the input reads as it did. -/
def validMoreSpec : ChangeSpec := { name := "validMore", fn := fun _ => fun
  | [d] => { results := [.lit (.bool true)], args := [d] }
  | _ => none }
def validMoreRow : OpenClaim := { program := "ytpedlbjbbcbbkaagreat", sum := "72038ebf0d09aa74f87388809634dd689a4d4c6ad86dccbc34f3d23d6a3d6050", func := "fenestra/fenestralaw19.ValidMore", spec := "validMore", inPlace := ["math/bits.Add64"], unfollowed := true, recurses := true, plainKeys := false, apart := false }
def ValidMoreSaid : Prop := validMoreRow.holds Tryz.pinned (OpenSpec.ofChange validMoreSpec)

/-- ITS FALSE NEIGHBOUR: 'it returns false'. Refute it at one input. -/
def validMoreWrong : ChangeSpec := { name := "validMore", fn := fun _ => fun
  | [d] => { results := [.lit (.bool false)], args := [d] }
  | _ => none }
def ValidMoreWrongFalsely : Prop := validMoreRow.holds Tryz.pinned (OpenSpec.ofChange validMoreWrong)

/-- 'fenestralaw19.ValidOrder': WHATEVER THE INPUT: true; the input reads as it did. -/
def validOrderSpec : ChangeSpec := { name := "validOrder", fn := fun _ => fun
  | [d] => { results := [.lit (.bool true)], args := [d] }
  | _ => none }
def validOrderRow : OpenClaim := { program := "ytpedlbjbbcbbkaagreat", sum := "72038ebf0d09aa74f87388809634dd689a4d4c6ad86dccbc34f3d23d6a3d6050", func := "fenestra/fenestralaw19.ValidOrder", spec := "validOrder", inPlace := ["math/bits.Add64", "internal/bytealg.abigen_runtime_cmpstring"], unfollowed := true, recurses := true, plainKeys := false, apart := false }
def ValidOrderSaid : Prop := validOrderRow.holds Tryz.pinned (OpenSpec.ofChange validOrderSpec)

/-- ITS FALSE NEIGHBOUR: 'it returns false'. Refute it at one input. -/
def validOrderWrong : ChangeSpec := { name := "validOrder", fn := fun _ => fun
  | [d] => { results := [.lit (.bool false)], args := [d] }
  | _ => none }
def ValidOrderWrongFalsely : Prop := validOrderRow.holds Tryz.pinned (OpenSpec.ofChange validOrderWrong)

/- THE SECOND FORM. 'bulk': how many values and letters a reading holds, each counted each time it is reached (what is shared counts as often as it is met; a slice's spare places count too). A statement '..UptoSaid' is the law's where the arguments, and the package variables that the reading takes, are together of bulk at most 1048576: NARROWER than '..Said'. Prove '..Said' where nothing that the law and all that it calls make is longer than what came in: it says more and counts as full. Else prove '..UptoSaid'. A law counts once. -/
mutual
def uptoBulk {H : Type} : DataW H → Nat
  | .lit (.string bytes) => bytes.length + 1
  | .lit _ => 1
  | .nil => 1
  | .ptr d => uptoBulk d + 1
  | .slice elems spare => uptoBulkAll elems + uptoBulkAll spare + 1
  | .agg parts => uptoBulkAll parts + 1
  | .iface _ d => uptoBulk d + 1
  | .map entries => uptoBulkEntries entries + 1
  | .held _ => 1
def uptoBulkAll {H : Type} : List (DataW H) → Nat
  | [] => 0
  | d :: r => uptoBulk d + uptoBulkAll r
def uptoBulkEntries {H : Type} : List (Lit × DataW H) → Nat
  | [] => 0
  | x :: r => uptoBulkEntry x + uptoBulkEntries r
def uptoBulkEntry {H : Type} : Lit × DataW H → Nat
  | (.string bytes, d) => bytes.length + uptoBulk d + 1
  | (_, d) => uptoBulk d + 1
 end
def uptoSmall : (H : Type) → List (DataW H) → Bool := fun _ ds => decide (uptoBulkAll ds ≤ 1048576)
def OpenSpec.upto (s : _root_.Go.ChangeSpec) : _root_.Go.OpenSpec := { _root_.Go.OpenSpec.ofChange s with cond := some uptoSmall }

/-- 'fenestralaw19.ValidChecks', WHERE WHAT IT READS IS OF BULK AT MOST 1048576: true; the input reads as it did. -/
def validChecksUptoRow : OpenClaim := { program := "ytpedlbjbbcbbkaagreat", sum := "72038ebf0d09aa74f87388809634dd689a4d4c6ad86dccbc34f3d23d6a3d6050", func := "fenestra/fenestralaw19.ValidChecks", spec := "validChecks", inPlace := ["math/bits.Add64"], unfollowed := true, recurses := true, plainKeys := false, apart := false, narrowed := true }
def ValidChecksUptoSaid : Prop := validChecksUptoRow.holds Tryz.pinned (OpenSpec.upto validChecksSpec)

/-- 'fenestralaw19.ValidLess', WHERE WHAT IT READS IS OF BULK AT MOST 1048576: true; the input reads as it did. -/
def validLessUptoRow : OpenClaim := { program := "ytpedlbjbbcbbkaagreat", sum := "72038ebf0d09aa74f87388809634dd689a4d4c6ad86dccbc34f3d23d6a3d6050", func := "fenestra/fenestralaw19.ValidLess", spec := "validLess", inPlace := ["math/bits.Add64"], unfollowed := true, recurses := true, plainKeys := false, apart := false, narrowed := true }
def ValidLessUptoSaid : Prop := validLessUptoRow.holds Tryz.pinned (OpenSpec.upto validLessSpec)

/-- 'fenestralaw19.ValidOnly', WHERE WHAT IT READS IS OF BULK AT MOST 1048576: true; the input reads as it did. -/
def validOnlyUptoRow : OpenClaim := { program := "ytpedlbjbbcbbkaagreat", sum := "72038ebf0d09aa74f87388809634dd689a4d4c6ad86dccbc34f3d23d6a3d6050", func := "fenestra/fenestralaw19.ValidOnly", spec := "validOnly", inPlace := ["math/bits.Add64"], unfollowed := true, recurses := true, plainKeys := false, apart := false, narrowed := true }
def ValidOnlyUptoSaid : Prop := validOnlyUptoRow.holds Tryz.pinned (OpenSpec.upto validOnlySpec)

/-- 'fenestralaw19.ValidCollects', WHERE WHAT IT READS IS OF BULK AT MOST 1048576: true; the input reads as it did. -/
def validCollectsUptoRow : OpenClaim := { program := "ytpedlbjbbcbbkaagreat", sum := "72038ebf0d09aa74f87388809634dd689a4d4c6ad86dccbc34f3d23d6a3d6050", func := "fenestra/fenestralaw19.ValidCollects", spec := "validCollects", inPlace := ["math/bits.Add64"], unfollowed := true, recurses := true, plainKeys := false, apart := false, narrowed := true }
def ValidCollectsUptoSaid : Prop := validCollectsUptoRow.holds Tryz.pinned (OpenSpec.upto validCollectsSpec)

/-- 'fenestralaw19.ValidMore', WHERE WHAT IT READS IS OF BULK AT MOST 1048576: true; the input reads as it did. -/
def validMoreUptoRow : OpenClaim := { program := "ytpedlbjbbcbbkaagreat", sum := "72038ebf0d09aa74f87388809634dd689a4d4c6ad86dccbc34f3d23d6a3d6050", func := "fenestra/fenestralaw19.ValidMore", spec := "validMore", inPlace := ["math/bits.Add64"], unfollowed := true, recurses := true, plainKeys := false, apart := false, narrowed := true }
def ValidMoreUptoSaid : Prop := validMoreUptoRow.holds Tryz.pinned (OpenSpec.upto validMoreSpec)

/-- 'fenestralaw19.ValidOrder', WHERE WHAT IT READS IS OF BULK AT MOST 1048576: true; the input reads as it did. -/
def validOrderUptoRow : OpenClaim := { program := "ytpedlbjbbcbbkaagreat", sum := "72038ebf0d09aa74f87388809634dd689a4d4c6ad86dccbc34f3d23d6a3d6050", func := "fenestra/fenestralaw19.ValidOrder", spec := "validOrder", inPlace := ["math/bits.Add64", "internal/bytealg.abigen_runtime_cmpstring"], unfollowed := true, recurses := true, plainKeys := false, apart := false, narrowed := true }
def ValidOrderUptoSaid : Prop := validOrderUptoRow.holds Tryz.pinned (OpenSpec.upto validOrderSpec)

end Rows
end Go.Proofs.YtpedlbjbbcbbkaaGreat
