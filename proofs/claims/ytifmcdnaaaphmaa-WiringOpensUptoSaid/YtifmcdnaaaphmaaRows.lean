/-
  No cell of these rows narrows 'for every input' (looked for: loops, veiled, ifaces, maps, wideKeys, modest, calm, conditions, laid).
  DERIVED. THE GIVEN ROWS OF THIS SEAT. 6 by the template 'for every input the law returns true; each argument reads behind the call as it read before'; 0 by the template 'total and deterministic' (their statements: YtifmcdnaaaphmaaTotals.lean).
  GIVEN WITH THE SEED: the statements are not yours to turn. If you find one false, say at which input.
  Laid BY PROGRAM, IN A SANDBOX (cutbox-rows.mjs): the forced cells as the released guide's own fill.sh prints them over the translation eea15b1061fc8296… (all of the seat's roots in one cut). By AI agents, Wed Nov 11 2026. No macro, syntax, notation, axiom, sorry.
-/
import Derived.Test.YtifmcdnaaaphmaaChecked
import GoSem.Claim
import GoSem.ClaimJoined
import GoSem.ClaimMapViews
import Derived.JoinedTies
import Derived.KernelRfl
namespace Go.Proofs.Ytifmcdnaaaphmaa
/- THE CELL 'sum', in the pinned program and in every row, IS THE sha256 OF THE DUMP (.gsa) THAT YtifmcdnaaaphmaaProg.lean LOADS. Nothing in Lean hashes anything: it is a label: what it is worth is what the hold of that sum in a sandbox is worth. -/
noncomputable def Try.pinned : Pinned := { name := "ytifmcdnaaaphmaa", sum := "eea15b1061fc8296c8a186cd9ab70528c780182587f6d47924f1a018600554f3", checked := Try.checked }
namespace Rows
def none {H : Type} : Left H := { results := [], args := [] }

/-- 'fenestralaw18.WiringChecks': WHATEVER THE INPUT: true; the input reads as it did. -/
def wiringChecksSpec : ChangeSpec := { name := "wiringChecks", fn := fun _ => fun
  | [d] => { results := [.lit (.bool true)], args := [d] }
  | _ => none }
def wiringChecksRow : OpenClaim := { program := "ytifmcdnaaaphmaa", sum := "eea15b1061fc8296c8a186cd9ab70528c780182587f6d47924f1a018600554f3", func := "fenestra/fenestralaw18.WiringChecks", spec := "wiringChecks", unfollowed := true, recurses := true, plainKeys := false, apart := false }
def WiringChecksSaid : Prop := wiringChecksRow.holds Try.pinned (OpenSpec.ofChange wiringChecksSpec)

/-- ITS FALSE NEIGHBOUR: 'it returns false'. Refute it at one input. -/
def wiringChecksWrong : ChangeSpec := { name := "wiringChecks", fn := fun _ => fun
  | [d] => { results := [.lit (.bool false)], args := [d] }
  | _ => none }
def WiringChecksWrongFalsely : Prop := wiringChecksRow.holds Try.pinned (OpenSpec.ofChange wiringChecksWrong)

/-- 'fenestralaw18.WiringSources': WHATEVER THE INPUT: true; the input reads as it did. -/
def wiringSourcesSpec : ChangeSpec := { name := "wiringSources", fn := fun _ => fun
  | [d1, d2] => { results := [.lit (.bool true)], args := [d1, d2] }
  | _ => none }
def wiringSourcesRow : OpenClaim := { program := "ytifmcdnaaaphmaa", sum := "eea15b1061fc8296c8a186cd9ab70528c780182587f6d47924f1a018600554f3", func := "fenestra/fenestralaw18.WiringSources", spec := "wiringSources", unfollowed := true, recurses := true, plainKeys := false, apart := false }
def WiringSourcesSaid : Prop := wiringSourcesRow.holds Try.pinned (OpenSpec.ofChange wiringSourcesSpec)

/-- ITS FALSE NEIGHBOUR: 'it returns false'. Refute it at one input. -/
def wiringSourcesWrong : ChangeSpec := { name := "wiringSources", fn := fun _ => fun
  | [d1, d2] => { results := [.lit (.bool false)], args := [d1, d2] }
  | _ => none }
def WiringSourcesWrongFalsely : Prop := wiringSourcesRow.holds Try.pinned (OpenSpec.ofChange wiringSourcesWrong)

/-- 'fenestralaw18.WiringChains': WHATEVER THE INPUT: true; the input reads as it did. -/
def wiringChainsSpec : ChangeSpec := { name := "wiringChains", fn := fun _ => fun
  | [d] => { results := [.lit (.bool true)], args := [d] }
  | _ => none }
def wiringChainsRow : OpenClaim := { program := "ytifmcdnaaaphmaa", sum := "eea15b1061fc8296c8a186cd9ab70528c780182587f6d47924f1a018600554f3", func := "fenestra/fenestralaw18.WiringChains", spec := "wiringChains", unfollowed := true, recurses := true, plainKeys := false, apart := false }
def WiringChainsSaid : Prop := wiringChainsRow.holds Try.pinned (OpenSpec.ofChange wiringChainsSpec)

/-- ITS FALSE NEIGHBOUR: 'it returns false'. Refute it at one input. -/
def wiringChainsWrong : ChangeSpec := { name := "wiringChains", fn := fun _ => fun
  | [d] => { results := [.lit (.bool false)], args := [d] }
  | _ => none }
def WiringChainsWrongFalsely : Prop := wiringChainsRow.holds Try.pinned (OpenSpec.ofChange wiringChainsWrong)

/-- 'fenestralaw18.WiringOrder': WHATEVER THE INPUT: true; the input reads as it did. -/
def wiringOrderSpec : ChangeSpec := { name := "wiringOrder", fn := fun _ => fun
  | [d] => { results := [.lit (.bool true)], args := [d] }
  | _ => none }
def wiringOrderRow : OpenClaim := { program := "ytifmcdnaaaphmaa", sum := "eea15b1061fc8296c8a186cd9ab70528c780182587f6d47924f1a018600554f3", func := "fenestra/fenestralaw18.WiringOrder", spec := "wiringOrder", unfollowed := true, recurses := true, plainKeys := false, apart := false }
def WiringOrderSaid : Prop := wiringOrderRow.holds Try.pinned (OpenSpec.ofChange wiringOrderSpec)

/-- ITS FALSE NEIGHBOUR: 'it returns false'. Refute it at one input. -/
def wiringOrderWrong : ChangeSpec := { name := "wiringOrder", fn := fun _ => fun
  | [d] => { results := [.lit (.bool false)], args := [d] }
  | _ => none }
def WiringOrderWrongFalsely : Prop := wiringOrderRow.holds Try.pinned (OpenSpec.ofChange wiringOrderWrong)

/-- 'fenestralaw18.WiringFlows': WHATEVER THE INPUT: true; the input reads as it did. -/
def wiringFlowsSpec : ChangeSpec := { name := "wiringFlows", fn := fun _ => fun
  | [d1, d2, d3] => { results := [.lit (.bool true)], args := [d1, d2, d3] }
  | _ => none }
def wiringFlowsRow : OpenClaim := { program := "ytifmcdnaaaphmaa", sum := "eea15b1061fc8296c8a186cd9ab70528c780182587f6d47924f1a018600554f3", func := "fenestra/fenestralaw18.WiringFlows", spec := "wiringFlows", unfollowed := true, recurses := true, plainKeys := false, apart := false }
def WiringFlowsSaid : Prop := wiringFlowsRow.holds Try.pinned (OpenSpec.ofChange wiringFlowsSpec)

/-- ITS FALSE NEIGHBOUR: 'it returns false'. Refute it at one input. -/
def wiringFlowsWrong : ChangeSpec := { name := "wiringFlows", fn := fun _ => fun
  | [d1, d2, d3] => { results := [.lit (.bool false)], args := [d1, d2, d3] }
  | _ => none }
def WiringFlowsWrongFalsely : Prop := wiringFlowsRow.holds Try.pinned (OpenSpec.ofChange wiringFlowsWrong)

/-- 'fenestralaw18.WiringOpens': WHATEVER THE INPUT: true; the input reads as it did. -/
def wiringOpensSpec : ChangeSpec := { name := "wiringOpens", fn := fun _ => fun
  | [d] => { results := [.lit (.bool true)], args := [d] }
  | _ => none }
def wiringOpensRow : OpenClaim := { program := "ytifmcdnaaaphmaa", sum := "eea15b1061fc8296c8a186cd9ab70528c780182587f6d47924f1a018600554f3", func := "fenestra/fenestralaw18.WiringOpens", spec := "wiringOpens", unfollowed := true, recurses := true, plainKeys := false, apart := false }
def WiringOpensSaid : Prop := wiringOpensRow.holds Try.pinned (OpenSpec.ofChange wiringOpensSpec)

/-- ITS FALSE NEIGHBOUR: 'it returns false'. Refute it at one input. -/
def wiringOpensWrong : ChangeSpec := { name := "wiringOpens", fn := fun _ => fun
  | [d] => { results := [.lit (.bool false)], args := [d] }
  | _ => none }
def WiringOpensWrongFalsely : Prop := wiringOpensRow.holds Try.pinned (OpenSpec.ofChange wiringOpensWrong)

/- THE SECOND FORM. 'bulk': how many values and letters a reading holds, each counted each time it is reached (what is shared counts as often as it is met; a slice's spare places count too). A statement '..UptoSaid' is the law's where the arguments, and the package variables that the reading takes, are together of bulk at most 1048576: NARROWER than '..Said'. Prove '..Said' where nothing that the law and all that it calls make is longer than what came in: it says more and counts as full. Else prove '..UptoSaid'. A law counts once. -/
mutual
def uptoBulk {H : Type} : DataW H → Nat
  | .lit (.string bytes) => bytes.length + 1
  | .lit _ => 1
  | .nil => 1
  | .ptr d => uptoBulk d + 1
  | .slice elems spare => uptoBulkAll elems + uptoBulkAll spare + 1
  | .agg parts => uptoBulkAll parts + 1
  | .iface _ d => uptoBulk d + 1
  | .map entries => uptoBulkEntries entries + 1
  | .held _ => 1
def uptoBulkAll {H : Type} : List (DataW H) → Nat
  | [] => 0
  | d :: r => uptoBulk d + uptoBulkAll r
def uptoBulkEntries {H : Type} : List (Lit × DataW H) → Nat
  | [] => 0
  | x :: r => uptoBulkEntry x + uptoBulkEntries r
def uptoBulkEntry {H : Type} : Lit × DataW H → Nat
  | (.string bytes, d) => bytes.length + uptoBulk d + 1
  | (_, d) => uptoBulk d + 1
 end
def uptoSmall : (H : Type) → List (DataW H) → Bool := fun _ ds => decide (uptoBulkAll ds ≤ 1048576)
def OpenSpec.upto (s : _root_.Go.ChangeSpec) : _root_.Go.OpenSpec := { _root_.Go.OpenSpec.ofChange s with cond := some uptoSmall }

/-- 'fenestralaw18.WiringChecks', WHERE WHAT IT READS IS OF BULK AT MOST 1048576: true; the input reads as it did. -/
def wiringChecksUptoRow : OpenClaim := { program := "ytifmcdnaaaphmaa", sum := "eea15b1061fc8296c8a186cd9ab70528c780182587f6d47924f1a018600554f3", func := "fenestra/fenestralaw18.WiringChecks", spec := "wiringChecks", unfollowed := true, recurses := true, plainKeys := false, apart := false, narrowed := true }
def WiringChecksUptoSaid : Prop := wiringChecksUptoRow.holds Try.pinned (OpenSpec.upto wiringChecksSpec)

/-- 'fenestralaw18.WiringSources', WHERE WHAT IT READS IS OF BULK AT MOST 1048576: true; the input reads as it did. -/
def wiringSourcesUptoRow : OpenClaim := { program := "ytifmcdnaaaphmaa", sum := "eea15b1061fc8296c8a186cd9ab70528c780182587f6d47924f1a018600554f3", func := "fenestra/fenestralaw18.WiringSources", spec := "wiringSources", unfollowed := true, recurses := true, plainKeys := false, apart := false, narrowed := true }
def WiringSourcesUptoSaid : Prop := wiringSourcesUptoRow.holds Try.pinned (OpenSpec.upto wiringSourcesSpec)

/-- 'fenestralaw18.WiringChains', WHERE WHAT IT READS IS OF BULK AT MOST 1048576: true; the input reads as it did. -/
def wiringChainsUptoRow : OpenClaim := { program := "ytifmcdnaaaphmaa", sum := "eea15b1061fc8296c8a186cd9ab70528c780182587f6d47924f1a018600554f3", func := "fenestra/fenestralaw18.WiringChains", spec := "wiringChains", unfollowed := true, recurses := true, plainKeys := false, apart := false, narrowed := true }
def WiringChainsUptoSaid : Prop := wiringChainsUptoRow.holds Try.pinned (OpenSpec.upto wiringChainsSpec)

/-- 'fenestralaw18.WiringOrder', WHERE WHAT IT READS IS OF BULK AT MOST 1048576: true; the input reads as it did. -/
def wiringOrderUptoRow : OpenClaim := { program := "ytifmcdnaaaphmaa", sum := "eea15b1061fc8296c8a186cd9ab70528c780182587f6d47924f1a018600554f3", func := "fenestra/fenestralaw18.WiringOrder", spec := "wiringOrder", unfollowed := true, recurses := true, plainKeys := false, apart := false, narrowed := true }
def WiringOrderUptoSaid : Prop := wiringOrderUptoRow.holds Try.pinned (OpenSpec.upto wiringOrderSpec)

/-- 'fenestralaw18.WiringFlows', WHERE WHAT IT READS IS OF BULK AT MOST 1048576: true; the input reads as it did. -/
def wiringFlowsUptoRow : OpenClaim := { program := "ytifmcdnaaaphmaa", sum := "eea15b1061fc8296c8a186cd9ab70528c780182587f6d47924f1a018600554f3", func := "fenestra/fenestralaw18.WiringFlows", spec := "wiringFlows", unfollowed := true, recurses := true, plainKeys := false, apart := false, narrowed := true }
def WiringFlowsUptoSaid : Prop := wiringFlowsUptoRow.holds Try.pinned (OpenSpec.upto wiringFlowsSpec)

/-- 'fenestralaw18.WiringOpens', WHERE WHAT IT READS IS OF BULK AT MOST 1048576: true; the input reads as it did. -/
def wiringOpensUptoRow : OpenClaim := { program := "ytifmcdnaaaphmaa", sum := "eea15b1061fc8296c8a186cd9ab70528c780182587f6d47924f1a018600554f3", func := "fenestra/fenestralaw18.WiringOpens", spec := "wiringOpens", unfollowed := true, recurses := true, plainKeys := false, apart := false, narrowed := true }
def WiringOpensUptoSaid : Prop := wiringOpensUptoRow.holds Try.pinned (OpenSpec.upto wiringOpensSpec)

end Rows
end Go.Proofs.Ytifmcdnaaaphmaa
