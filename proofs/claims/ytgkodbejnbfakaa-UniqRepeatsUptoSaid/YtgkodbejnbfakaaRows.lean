/-
  No cell of these rows narrows 'for every input' (looked for: loops, veiled, ifaces, maps, wideKeys, modest, calm, conditions, laid).
  DERIVED. THE GIVEN ROWS OF THIS SEAT. 5 by the template 'for every input the law returns true; each argument reads behind the call as it read before'; 0 by the template 'total and deterministic' (their statements: YtgkodbejnbfakaaTotals.lean).
  GIVEN WITH THE SEED: the statements are not yours to turn. If you find one false, say at which input.
  Laid BY PROGRAM, IN A SANDBOX (cutbox-rows.mjs): the forced cells as the released guide's own fill.sh prints them over the translation 7ba7bd783f808565… (all of the seat's roots in one cut). By AI agents, Wed Nov 11 2026. No macro, syntax, notation, axiom, sorry.
-/
import Derived.Test.YtgkodbejnbfakaaChecked
import GoSem.Claim
import GoSem.ClaimJoined
import GoSem.ClaimMapViews
import Derived.JoinedTies
import Derived.KernelRfl
namespace Go.Proofs.Ytgkodbejnbfakaa
/- THE CELL 'sum', in the pinned program and in every row, IS THE sha256 OF THE DUMP (.gsa) THAT YtgkodbejnbfakaaProg.lean LOADS. Nothing in Lean hashes anything: it is a label: what it is worth is what the hold of that sum in a sandbox is worth. -/
noncomputable def Try.pinned : Pinned := { name := "ytgkodbejnbfakaa", sum := "7ba7bd783f808565124b2c546eecbc213a69897298bc3b3ae3ef283839f51050", checked := Try.checked }
namespace Rows
def none {H : Type} : Left H := { results := [], args := [] }

/-- 'fenestralaw13.UniqFinds': WHATEVER THE INPUT: true; the input reads as it did. -/
def uniqFindsSpec : ChangeSpec := { name := "uniqFinds", fn := fun _ => fun
  | [d1, d2, d3] => { results := [.lit (.bool true)], args := [d1, d2, d3] }
  | _ => none }
def uniqFindsRow : OpenClaim := { program := "ytgkodbejnbfakaa", sum := "7ba7bd783f808565124b2c546eecbc213a69897298bc3b3ae3ef283839f51050", func := "fenestra/fenestralaw13.UniqFinds", spec := "uniqFinds", unfollowed := true, recurses := true, plainKeys := false, apart := false }
def UniqFindsSaid : Prop := uniqFindsRow.holds Try.pinned (OpenSpec.ofChange uniqFindsSpec)

/-- ITS FALSE NEIGHBOUR: 'it returns false'. Refute it at one input. -/
def uniqFindsWrong : ChangeSpec := { name := "uniqFinds", fn := fun _ => fun
  | [d1, d2, d3] => { results := [.lit (.bool false)], args := [d1, d2, d3] }
  | _ => none }
def UniqFindsWrongFalsely : Prop := uniqFindsRow.holds Try.pinned (OpenSpec.ofChange uniqFindsWrong)

/-- 'fenestralaw13.UniqChecks': WHATEVER THE INPUT: true; the input reads as it did. -/
def uniqChecksSpec : ChangeSpec := { name := "uniqChecks", fn := fun _ => fun
  | [d] => { results := [.lit (.bool true)], args := [d] }
  | _ => none }
def uniqChecksRow : OpenClaim := { program := "ytgkodbejnbfakaa", sum := "7ba7bd783f808565124b2c546eecbc213a69897298bc3b3ae3ef283839f51050", func := "fenestra/fenestralaw13.UniqChecks", spec := "uniqChecks", unfollowed := true, recurses := true, plainKeys := false, apart := false }
def UniqChecksSaid : Prop := uniqChecksRow.holds Try.pinned (OpenSpec.ofChange uniqChecksSpec)

/-- ITS FALSE NEIGHBOUR: 'it returns false'. Refute it at one input. -/
def uniqChecksWrong : ChangeSpec := { name := "uniqChecks", fn := fun _ => fun
  | [d] => { results := [.lit (.bool false)], args := [d] }
  | _ => none }
def UniqChecksWrongFalsely : Prop := uniqChecksRow.holds Try.pinned (OpenSpec.ofChange uniqChecksWrong)

/-- 'fenestralaw13.UniqTwice': WHATEVER THE INPUT: true; the input reads as it did. -/
def uniqTwiceSpec : ChangeSpec := { name := "uniqTwice", fn := fun _ => fun
  | [d] => { results := [.lit (.bool true)], args := [d] }
  | _ => none }
def uniqTwiceRow : OpenClaim := { program := "ytgkodbejnbfakaa", sum := "7ba7bd783f808565124b2c546eecbc213a69897298bc3b3ae3ef283839f51050", func := "fenestra/fenestralaw13.UniqTwice", spec := "uniqTwice", unfollowed := true, recurses := true, plainKeys := false, apart := false }
def UniqTwiceSaid : Prop := uniqTwiceRow.holds Try.pinned (OpenSpec.ofChange uniqTwiceSpec)

/-- ITS FALSE NEIGHBOUR: 'it returns false'. Refute it at one input. -/
def uniqTwiceWrong : ChangeSpec := { name := "uniqTwice", fn := fun _ => fun
  | [d] => { results := [.lit (.bool false)], args := [d] }
  | _ => none }
def UniqTwiceWrongFalsely : Prop := uniqTwiceRow.holds Try.pinned (OpenSpec.ofChange uniqTwiceWrong)

/-- 'fenestralaw13.UniqOrder': WHATEVER THE INPUT: true; the input reads as it did. -/
def uniqOrderSpec : ChangeSpec := { name := "uniqOrder", fn := fun _ => fun
  | [d] => { results := [.lit (.bool true)], args := [d] }
  | _ => none }
def uniqOrderRow : OpenClaim := { program := "ytgkodbejnbfakaa", sum := "7ba7bd783f808565124b2c546eecbc213a69897298bc3b3ae3ef283839f51050", func := "fenestra/fenestralaw13.UniqOrder", spec := "uniqOrder", unfollowed := true, recurses := true, plainKeys := false, apart := false }
def UniqOrderSaid : Prop := uniqOrderRow.holds Try.pinned (OpenSpec.ofChange uniqOrderSpec)

/-- ITS FALSE NEIGHBOUR: 'it returns false'. Refute it at one input. -/
def uniqOrderWrong : ChangeSpec := { name := "uniqOrder", fn := fun _ => fun
  | [d] => { results := [.lit (.bool false)], args := [d] }
  | _ => none }
def UniqOrderWrongFalsely : Prop := uniqOrderRow.holds Try.pinned (OpenSpec.ofChange uniqOrderWrong)

/-- 'fenestralaw13.UniqRepeats': WHATEVER THE INPUT: true; the input reads as it did. -/
def uniqRepeatsSpec : ChangeSpec := { name := "uniqRepeats", fn := fun _ => fun
  | [d] => { results := [.lit (.bool true)], args := [d] }
  | _ => none }
def uniqRepeatsRow : OpenClaim := { program := "ytgkodbejnbfakaa", sum := "7ba7bd783f808565124b2c546eecbc213a69897298bc3b3ae3ef283839f51050", func := "fenestra/fenestralaw13.UniqRepeats", spec := "uniqRepeats", unfollowed := true, recurses := true, plainKeys := false, apart := false }
def UniqRepeatsSaid : Prop := uniqRepeatsRow.holds Try.pinned (OpenSpec.ofChange uniqRepeatsSpec)

/-- ITS FALSE NEIGHBOUR: 'it returns false'. Refute it at one input. -/
def uniqRepeatsWrong : ChangeSpec := { name := "uniqRepeats", fn := fun _ => fun
  | [d] => { results := [.lit (.bool false)], args := [d] }
  | _ => none }
def UniqRepeatsWrongFalsely : Prop := uniqRepeatsRow.holds Try.pinned (OpenSpec.ofChange uniqRepeatsWrong)

/- THE SECOND FORM. 'bulk': how many values and letters a reading holds, each counted each time it is reached (what is shared counts as often as it is met; a slice's spare places count too). A statement '..UptoSaid' is the law's where the arguments, and the package variables that the reading takes, are together of bulk at most 1048576: NARROWER than '..Said'. Prove '..Said' where nothing that the law and all that it calls make is longer than what came in: it says more and counts as full. Else prove '..UptoSaid'. A law counts once. -/
mutual
def uptoBulk {H : Type} : DataW H → Nat
  | .lit (.string bytes) => bytes.length + 1
  | .lit _ => 1
  | .nil => 1
  | .ptr d => uptoBulk d + 1
  | .slice elems spare => uptoBulkAll elems + uptoBulkAll spare + 1
  | .agg parts => uptoBulkAll parts + 1
  | .iface _ d => uptoBulk d + 1
  | .map entries => uptoBulkEntries entries + 1
  | .held _ => 1
def uptoBulkAll {H : Type} : List (DataW H) → Nat
  | [] => 0
  | d :: r => uptoBulk d + uptoBulkAll r
def uptoBulkEntries {H : Type} : List (Lit × DataW H) → Nat
  | [] => 0
  | x :: r => uptoBulkEntry x + uptoBulkEntries r
def uptoBulkEntry {H : Type} : Lit × DataW H → Nat
  | (.string bytes, d) => bytes.length + uptoBulk d + 1
  | (_, d) => uptoBulk d + 1
 end
def uptoSmall : (H : Type) → List (DataW H) → Bool := fun _ ds => decide (uptoBulkAll ds ≤ 1048576)
def OpenSpec.upto (s : _root_.Go.ChangeSpec) : _root_.Go.OpenSpec := { _root_.Go.OpenSpec.ofChange s with cond := some uptoSmall }

/-- 'fenestralaw13.UniqFinds', WHERE WHAT IT READS IS OF BULK AT MOST 1048576: true; the input reads as it did. -/
def uniqFindsUptoRow : OpenClaim := { program := "ytgkodbejnbfakaa", sum := "7ba7bd783f808565124b2c546eecbc213a69897298bc3b3ae3ef283839f51050", func := "fenestra/fenestralaw13.UniqFinds", spec := "uniqFinds", unfollowed := true, recurses := true, plainKeys := false, apart := false, narrowed := true }
def UniqFindsUptoSaid : Prop := uniqFindsUptoRow.holds Try.pinned (OpenSpec.upto uniqFindsSpec)

/-- 'fenestralaw13.UniqChecks', WHERE WHAT IT READS IS OF BULK AT MOST 1048576: true; the input reads as it did. -/
def uniqChecksUptoRow : OpenClaim := { program := "ytgkodbejnbfakaa", sum := "7ba7bd783f808565124b2c546eecbc213a69897298bc3b3ae3ef283839f51050", func := "fenestra/fenestralaw13.UniqChecks", spec := "uniqChecks", unfollowed := true, recurses := true, plainKeys := false, apart := false, narrowed := true }
def UniqChecksUptoSaid : Prop := uniqChecksUptoRow.holds Try.pinned (OpenSpec.upto uniqChecksSpec)

/-- 'fenestralaw13.UniqTwice', WHERE WHAT IT READS IS OF BULK AT MOST 1048576: true; the input reads as it did. -/
def uniqTwiceUptoRow : OpenClaim := { program := "ytgkodbejnbfakaa", sum := "7ba7bd783f808565124b2c546eecbc213a69897298bc3b3ae3ef283839f51050", func := "fenestra/fenestralaw13.UniqTwice", spec := "uniqTwice", unfollowed := true, recurses := true, plainKeys := false, apart := false, narrowed := true }
def UniqTwiceUptoSaid : Prop := uniqTwiceUptoRow.holds Try.pinned (OpenSpec.upto uniqTwiceSpec)

/-- 'fenestralaw13.UniqOrder', WHERE WHAT IT READS IS OF BULK AT MOST 1048576: true; the input reads as it did. -/
def uniqOrderUptoRow : OpenClaim := { program := "ytgkodbejnbfakaa", sum := "7ba7bd783f808565124b2c546eecbc213a69897298bc3b3ae3ef283839f51050", func := "fenestra/fenestralaw13.UniqOrder", spec := "uniqOrder", unfollowed := true, recurses := true, plainKeys := false, apart := false, narrowed := true }
def UniqOrderUptoSaid : Prop := uniqOrderUptoRow.holds Try.pinned (OpenSpec.upto uniqOrderSpec)

/-- 'fenestralaw13.UniqRepeats', WHERE WHAT IT READS IS OF BULK AT MOST 1048576: true; the input reads as it did. -/
def uniqRepeatsUptoRow : OpenClaim := { program := "ytgkodbejnbfakaa", sum := "7ba7bd783f808565124b2c546eecbc213a69897298bc3b3ae3ef283839f51050", func := "fenestra/fenestralaw13.UniqRepeats", spec := "uniqRepeats", unfollowed := true, recurses := true, plainKeys := false, apart := false, narrowed := true }
def UniqRepeatsUptoSaid : Prop := uniqRepeatsUptoRow.holds Try.pinned (OpenSpec.upto uniqRepeatsSpec)

end Rows
end Go.Proofs.Ytgkodbejnbfakaa
