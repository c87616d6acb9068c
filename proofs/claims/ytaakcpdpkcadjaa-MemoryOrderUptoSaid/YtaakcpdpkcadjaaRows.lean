/-
  No cell of these rows narrows 'for every input' (looked for: loops, veiled, ifaces, maps, wideKeys, modest, calm, conditions, laid).
  DERIVED. THE GIVEN ROWS OF THIS SEAT. 5 by the template 'for every input the law returns true; each argument reads behind the call as it read before'; 0 by the template 'total and deterministic' (their statements: YtaakcpdpkcadjaaTotals.lean).
  GIVEN WITH THE SEED: the statements are not yours to turn. If you find one false, say at which input.
  Laid BY PROGRAM, IN A SANDBOX (cutbox-rows.mjs): the forced cells as the released guide's own fill.sh prints them over the translation 01e2acaac3c9d490… (all of the seat's roots in one cut). By AI agents, Wed Nov 11 2026. No macro, syntax, notation, axiom, sorry.
-/
import Derived.Test.YtaakcpdpkcadjaaChecked
import GoSem.Claim
import GoSem.ClaimJoined
import GoSem.ClaimMapViews
import Derived.JoinedTies
import Derived.KernelRfl
namespace Go.Proofs.Ytaakcpdpkcadjaa
/- THE CELL 'sum', in the pinned program and in every row, IS THE sha256 OF THE DUMP (.gsa) THAT YtaakcpdpkcadjaaProg.lean LOADS. Nothing in Lean hashes anything: it is a label: what it is worth is what the hold of that sum in a sandbox is worth. -/
noncomputable def Try.pinned : Pinned := { name := "ytaakcpdpkcadjaa", sum := "01e2acaac3c9d4901cbb3d55b3aa5bd9a1ab6626790a53c290be57715604b83f", checked := Try.checked }
namespace Rows
def none {H : Type} : Left H := { results := [], args := [] }

/-- 'fenestralaw17.MemoryChecks': WHATEVER THE INPUT: true; the input reads as it did. -/
def memoryChecksSpec : ChangeSpec := { name := "memoryChecks", fn := fun _ => fun
  | [d] => { results := [.lit (.bool true)], args := [d] }
  | _ => none }
def memoryChecksRow : OpenClaim := { program := "ytaakcpdpkcadjaa", sum := "01e2acaac3c9d4901cbb3d55b3aa5bd9a1ab6626790a53c290be57715604b83f", func := "fenestra/fenestralaw17.MemoryChecks", spec := "memoryChecks", unfollowed := true, recurses := true, plainKeys := false, apart := false }
def MemoryChecksSaid : Prop := memoryChecksRow.holds Try.pinned (OpenSpec.ofChange memoryChecksSpec)

/-- ITS FALSE NEIGHBOUR: 'it returns false'. Refute it at one input. -/
def memoryChecksWrong : ChangeSpec := { name := "memoryChecks", fn := fun _ => fun
  | [d] => { results := [.lit (.bool false)], args := [d] }
  | _ => none }
def MemoryChecksWrongFalsely : Prop := memoryChecksRow.holds Try.pinned (OpenSpec.ofChange memoryChecksWrong)

/-- 'fenestralaw17.MemoryOwners': WHATEVER THE INPUT: true; the input reads as it did. -/
def memoryOwnersSpec : ChangeSpec := { name := "memoryOwners", fn := fun _ => fun
  | [d1, d2] => { results := [.lit (.bool true)], args := [d1, d2] }
  | _ => none }
def memoryOwnersRow : OpenClaim := { program := "ytaakcpdpkcadjaa", sum := "01e2acaac3c9d4901cbb3d55b3aa5bd9a1ab6626790a53c290be57715604b83f", func := "fenestra/fenestralaw17.MemoryOwners", spec := "memoryOwners", unfollowed := true, recurses := true, plainKeys := false, apart := false }
def MemoryOwnersSaid : Prop := memoryOwnersRow.holds Try.pinned (OpenSpec.ofChange memoryOwnersSpec)

/-- ITS FALSE NEIGHBOUR: 'it returns false'. Refute it at one input. -/
def memoryOwnersWrong : ChangeSpec := { name := "memoryOwners", fn := fun _ => fun
  | [d1, d2] => { results := [.lit (.bool false)], args := [d1, d2] }
  | _ => none }
def MemoryOwnersWrongFalsely : Prop := memoryOwnersRow.holds Try.pinned (OpenSpec.ofChange memoryOwnersWrong)

/-- 'fenestralaw17.MemoryAllows': WHATEVER THE INPUT: true; the input reads as it did. -/
def memoryAllowsSpec : ChangeSpec := { name := "memoryAllows", fn := fun _ => fun
  | [d1, d2, d3] => { results := [.lit (.bool true)], args := [d1, d2, d3] }
  | _ => none }
def memoryAllowsRow : OpenClaim := { program := "ytaakcpdpkcadjaa", sum := "01e2acaac3c9d4901cbb3d55b3aa5bd9a1ab6626790a53c290be57715604b83f", func := "fenestra/fenestralaw17.MemoryAllows", spec := "memoryAllows", unfollowed := true, recurses := true, plainKeys := false, apart := false }
def MemoryAllowsSaid : Prop := memoryAllowsRow.holds Try.pinned (OpenSpec.ofChange memoryAllowsSpec)

/-- ITS FALSE NEIGHBOUR: 'it returns false'. Refute it at one input. -/
def memoryAllowsWrong : ChangeSpec := { name := "memoryAllows", fn := fun _ => fun
  | [d1, d2, d3] => { results := [.lit (.bool false)], args := [d1, d2, d3] }
  | _ => none }
def MemoryAllowsWrongFalsely : Prop := memoryAllowsRow.holds Try.pinned (OpenSpec.ofChange memoryAllowsWrong)

/-- 'fenestralaw17.MemoryOwns': WHATEVER THE INPUT: true; the input reads as it did. -/
def memoryOwnsSpec : ChangeSpec := { name := "memoryOwns", fn := fun _ => fun
  | [d1, d2, d3] => { results := [.lit (.bool true)], args := [d1, d2, d3] }
  | _ => none }
def memoryOwnsRow : OpenClaim := { program := "ytaakcpdpkcadjaa", sum := "01e2acaac3c9d4901cbb3d55b3aa5bd9a1ab6626790a53c290be57715604b83f", func := "fenestra/fenestralaw17.MemoryOwns", spec := "memoryOwns", unfollowed := true, recurses := true, plainKeys := false, apart := false }
def MemoryOwnsSaid : Prop := memoryOwnsRow.holds Try.pinned (OpenSpec.ofChange memoryOwnsSpec)

/-- ITS FALSE NEIGHBOUR: 'it returns false'. Refute it at one input. -/
def memoryOwnsWrong : ChangeSpec := { name := "memoryOwns", fn := fun _ => fun
  | [d1, d2, d3] => { results := [.lit (.bool false)], args := [d1, d2, d3] }
  | _ => none }
def MemoryOwnsWrongFalsely : Prop := memoryOwnsRow.holds Try.pinned (OpenSpec.ofChange memoryOwnsWrong)

/-- 'fenestralaw17.MemoryOrder': WHATEVER THE INPUT: true; the input reads as it did. -/
def memoryOrderSpec : ChangeSpec := { name := "memoryOrder", fn := fun _ => fun
  | [d1, d2, d3] => { results := [.lit (.bool true)], args := [d1, d2, d3] }
  | _ => none }
def memoryOrderRow : OpenClaim := { program := "ytaakcpdpkcadjaa", sum := "01e2acaac3c9d4901cbb3d55b3aa5bd9a1ab6626790a53c290be57715604b83f", func := "fenestra/fenestralaw17.MemoryOrder", spec := "memoryOrder", unfollowed := true, recurses := true, plainKeys := false, apart := false }
def MemoryOrderSaid : Prop := memoryOrderRow.holds Try.pinned (OpenSpec.ofChange memoryOrderSpec)

/-- ITS FALSE NEIGHBOUR: 'it returns false'. Refute it at one input. -/
def memoryOrderWrong : ChangeSpec := { name := "memoryOrder", fn := fun _ => fun
  | [d1, d2, d3] => { results := [.lit (.bool false)], args := [d1, d2, d3] }
  | _ => none }
def MemoryOrderWrongFalsely : Prop := memoryOrderRow.holds Try.pinned (OpenSpec.ofChange memoryOrderWrong)

/- THE SECOND FORM. 'bulk': how many values and letters a reading holds, each counted each time it is reached (what is shared counts as often as it is met; a slice's spare places count too). A statement '..UptoSaid' is the law's where the arguments, and the package variables that the reading takes, are together of bulk at most 1048576: NARROWER than '..Said'. Prove '..Said' where nothing that the law and all that it calls make is longer than what came in: it says more and counts as full. Else prove '..UptoSaid'. A law counts once. -/
mutual
def uptoBulk {H : Type} : DataW H → Nat
  | .lit (.string bytes) => bytes.length + 1
  | .lit _ => 1
  | .nil => 1
  | .ptr d => uptoBulk d + 1
  | .slice elems spare => uptoBulkAll elems + uptoBulkAll spare + 1
  | .agg parts => uptoBulkAll parts + 1
  | .iface _ d => uptoBulk d + 1
  | .map entries => uptoBulkEntries entries + 1
  | .held _ => 1
def uptoBulkAll {H : Type} : List (DataW H) → Nat
  | [] => 0
  | d :: r => uptoBulk d + uptoBulkAll r
def uptoBulkEntries {H : Type} : List (Lit × DataW H) → Nat
  | [] => 0
  | x :: r => uptoBulkEntry x + uptoBulkEntries r
def uptoBulkEntry {H : Type} : Lit × DataW H → Nat
  | (.string bytes, d) => bytes.length + uptoBulk d + 1
  | (_, d) => uptoBulk d + 1
 end
def uptoSmall : (H : Type) → List (DataW H) → Bool := fun _ ds => decide (uptoBulkAll ds ≤ 1048576)
def OpenSpec.upto (s : _root_.Go.ChangeSpec) : _root_.Go.OpenSpec := { _root_.Go.OpenSpec.ofChange s with cond := some uptoSmall }

/-- 'fenestralaw17.MemoryChecks', WHERE WHAT IT READS IS OF BULK AT MOST 1048576: true; the input reads as it did. -/
def memoryChecksUptoRow : OpenClaim := { program := "ytaakcpdpkcadjaa", sum := "01e2acaac3c9d4901cbb3d55b3aa5bd9a1ab6626790a53c290be57715604b83f", func := "fenestra/fenestralaw17.MemoryChecks", spec := "memoryChecks", unfollowed := true, recurses := true, plainKeys := false, apart := false, narrowed := true }
def MemoryChecksUptoSaid : Prop := memoryChecksUptoRow.holds Try.pinned (OpenSpec.upto memoryChecksSpec)

/-- 'fenestralaw17.MemoryOwners', WHERE WHAT IT READS IS OF BULK AT MOST 1048576: true; the input reads as it did. -/
def memoryOwnersUptoRow : OpenClaim := { program := "ytaakcpdpkcadjaa", sum := "01e2acaac3c9d4901cbb3d55b3aa5bd9a1ab6626790a53c290be57715604b83f", func := "fenestra/fenestralaw17.MemoryOwners", spec := "memoryOwners", unfollowed := true, recurses := true, plainKeys := false, apart := false, narrowed := true }
def MemoryOwnersUptoSaid : Prop := memoryOwnersUptoRow.holds Try.pinned (OpenSpec.upto memoryOwnersSpec)

/-- 'fenestralaw17.MemoryAllows', WHERE WHAT IT READS IS OF BULK AT MOST 1048576: true; the input reads as it did. -/
def memoryAllowsUptoRow : OpenClaim := { program := "ytaakcpdpkcadjaa", sum := "01e2acaac3c9d4901cbb3d55b3aa5bd9a1ab6626790a53c290be57715604b83f", func := "fenestra/fenestralaw17.MemoryAllows", spec := "memoryAllows", unfollowed := true, recurses := true, plainKeys := false, apart := false, narrowed := true }
def MemoryAllowsUptoSaid : Prop := memoryAllowsUptoRow.holds Try.pinned (OpenSpec.upto memoryAllowsSpec)

/-- 'fenestralaw17.MemoryOwns', WHERE WHAT IT READS IS OF BULK AT MOST 1048576: true; the input reads as it did. -/
def memoryOwnsUptoRow : OpenClaim := { program := "ytaakcpdpkcadjaa", sum := "01e2acaac3c9d4901cbb3d55b3aa5bd9a1ab6626790a53c290be57715604b83f", func := "fenestra/fenestralaw17.MemoryOwns", spec := "memoryOwns", unfollowed := true, recurses := true, plainKeys := false, apart := false, narrowed := true }
def MemoryOwnsUptoSaid : Prop := memoryOwnsUptoRow.holds Try.pinned (OpenSpec.upto memoryOwnsSpec)

/-- 'fenestralaw17.MemoryOrder', WHERE WHAT IT READS IS OF BULK AT MOST 1048576: true; the input reads as it did. -/
def memoryOrderUptoRow : OpenClaim := { program := "ytaakcpdpkcadjaa", sum := "01e2acaac3c9d4901cbb3d55b3aa5bd9a1ab6626790a53c290be57715604b83f", func := "fenestra/fenestralaw17.MemoryOrder", spec := "memoryOrder", unfollowed := true, recurses := true, plainKeys := false, apart := false, narrowed := true }
def MemoryOrderUptoSaid : Prop := memoryOrderUptoRow.holds Try.pinned (OpenSpec.upto memoryOrderSpec)

end Rows
end Go.Proofs.Ytaakcpdpkcadjaa
