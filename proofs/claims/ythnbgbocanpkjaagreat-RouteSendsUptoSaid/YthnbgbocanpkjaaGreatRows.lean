/-
  No cell of these rows narrows 'for every input' (looked for: loops, veiled, ifaces, maps, wideKeys, modest, calm, conditions, laid).
  DERIVED. THE GIVEN ROWS OF THIS SEAT. 6 by the template 'for every input the law returns true; each argument reads behind the call as it read before'; 0 by the template 'total and deterministic' (their statements: YthnbgbocanpkjaaGreatTotals.lean).
  GIVEN WITH THE SEED: the statements are not yours to turn. If you find one false, say at which input.
  Laid BY PROGRAM, IN A SANDBOX (cutbox-rows.mjs): the forced cells as the released guide's own fill.sh prints them over the translation 63910455ccae201b… (all of the seat's roots in one cut). By AI agents, Wed Nov 11 2026. No macro, syntax, notation, axiom, sorry.
-/
import Derived.Test.YthnbgbocanpkjaaGreatChecked
import GoSem.Claim
import GoSem.ClaimJoined
import GoSem.ClaimMapViews
import Derived.JoinedTies
import Derived.KernelRfl
namespace Go.Proofs.YthnbgbocanpkjaaGreat
/- THE CELL 'sum', in the pinned program and in every row, IS THE sha256 OF THE DUMP (.gsa) THAT YthnbgbocanpkjaaGreatProg.lean LOADS. Nothing in Lean hashes anything: it is a label: what it is worth is what the hold of that sum in a sandbox is worth. -/
noncomputable def Tryz.pinned : Pinned := { name := "ythnbgbocanpkjaagreat", sum := "63910455ccae201b2d4f6687a65c3c5e423d0fcda2bba9c1a43e20d7c37d9158", checked := Tryz.checked }
namespace Rows
def none {H : Type} : Left H := { results := [], args := [] }

/-- 'fenestralaw23.RouteMakes': WHATEVER THE INPUT: true; the input reads as it did. -/
def routeMakesSpec : ChangeSpec := { name := "routeMakes", fn := fun _ => fun
  | [d] => { results := [.lit (.bool true)], args := [d] }
  | _ => none }
def routeMakesRow : OpenClaim := { program := "ythnbgbocanpkjaagreat", sum := "63910455ccae201b2d4f6687a65c3c5e423d0fcda2bba9c1a43e20d7c37d9158", func := "fenestra/fenestralaw23.RouteMakes", spec := "routeMakes", inPlace := ["internal/bytealg.abigen_runtime_cmpstring"], unfollowed := true, recurses := true, plainKeys := false, apart := false }
def RouteMakesSaid : Prop := routeMakesRow.holds Tryz.pinned (OpenSpec.ofChange routeMakesSpec)

/-- ITS FALSE NEIGHBOUR: 'it returns false'. Refute it at one input. -/
def routeMakesWrong : ChangeSpec := { name := "routeMakes", fn := fun _ => fun
  | [d] => { results := [.lit (.bool false)], args := [d] }
  | _ => none }
def RouteMakesWrongFalsely : Prop := routeMakesRow.holds Tryz.pinned (OpenSpec.ofChange routeMakesWrong)

/-- 'fenestralaw23.RouteSends': WHATEVER THE INPUT: true; the input reads as it did. -/
def routeSendsSpec : ChangeSpec := { name := "routeSends", fn := fun _ => fun
  | [d1, d2, d3] => { results := [.lit (.bool true)], args := [d1, d2, d3] }
  | _ => none }
def routeSendsRow : OpenClaim := { program := "ythnbgbocanpkjaagreat", sum := "63910455ccae201b2d4f6687a65c3c5e423d0fcda2bba9c1a43e20d7c37d9158", func := "fenestra/fenestralaw23.RouteSends", spec := "routeSends", inPlace := ["internal/bytealg.abigen_runtime_cmpstring"], unfollowed := true, recurses := true, plainKeys := false, apart := false }
def RouteSendsSaid : Prop := routeSendsRow.holds Tryz.pinned (OpenSpec.ofChange routeSendsSpec)

/-- ITS FALSE NEIGHBOUR: 'it returns false'. Refute it at one input. -/
def routeSendsWrong : ChangeSpec := { name := "routeSends", fn := fun _ => fun
  | [d1, d2, d3] => { results := [.lit (.bool false)], args := [d1, d2, d3] }
  | _ => none }
def RouteSendsWrongFalsely : Prop := routeSendsRow.holds Tryz.pinned (OpenSpec.ofChange routeSendsWrong)

/-- 'fenestralaw23.RouteNames': WHATEVER THE INPUT: true; the input reads as it did. -/
def routeNamesSpec : ChangeSpec := { name := "routeNames", fn := fun _ => fun
  | [d1, d2, d3] => { results := [.lit (.bool true)], args := [d1, d2, d3] }
  | _ => none }
def routeNamesRow : OpenClaim := { program := "ythnbgbocanpkjaagreat", sum := "63910455ccae201b2d4f6687a65c3c5e423d0fcda2bba9c1a43e20d7c37d9158", func := "fenestra/fenestralaw23.RouteNames", spec := "routeNames", inPlace := ["internal/bytealg.abigen_runtime_cmpstring"], unfollowed := true, recurses := true, plainKeys := false, apart := false }
def RouteNamesSaid : Prop := routeNamesRow.holds Tryz.pinned (OpenSpec.ofChange routeNamesSpec)

/-- ITS FALSE NEIGHBOUR: 'it returns false'. Refute it at one input. -/
def routeNamesWrong : ChangeSpec := { name := "routeNames", fn := fun _ => fun
  | [d1, d2, d3] => { results := [.lit (.bool false)], args := [d1, d2, d3] }
  | _ => none }
def RouteNamesWrongFalsely : Prop := routeNamesRow.holds Tryz.pinned (OpenSpec.ofChange routeNamesWrong)

/-- 'fenestralaw23.RouteMutual': WHATEVER THE INPUT: true; the input reads as it did. -/
def routeMutualSpec : ChangeSpec := { name := "routeMutual", fn := fun _ => fun
  | [d] => { results := [.lit (.bool true)], args := [d] }
  | _ => none }
def routeMutualRow : OpenClaim := { program := "ythnbgbocanpkjaagreat", sum := "63910455ccae201b2d4f6687a65c3c5e423d0fcda2bba9c1a43e20d7c37d9158", func := "fenestra/fenestralaw23.RouteMutual", spec := "routeMutual", inPlace := ["internal/bytealg.abigen_runtime_cmpstring"], unfollowed := true, recurses := true, plainKeys := false, apart := false }
def RouteMutualSaid : Prop := routeMutualRow.holds Tryz.pinned (OpenSpec.ofChange routeMutualSpec)

/-- ITS FALSE NEIGHBOUR: 'it returns false'. Refute it at one input. -/
def routeMutualWrong : ChangeSpec := { name := "routeMutual", fn := fun _ => fun
  | [d] => { results := [.lit (.bool false)], args := [d] }
  | _ => none }
def RouteMutualWrongFalsely : Prop := routeMutualRow.holds Tryz.pinned (OpenSpec.ofChange routeMutualWrong)

/-- 'fenestralaw23.RouteFinds': WHATEVER THE INPUT: true; the input reads as it did. -/
def routeFindsSpec : ChangeSpec := { name := "routeFinds", fn := fun _ => fun
  | [d1, d2] => { results := [.lit (.bool true)], args := [d1, d2] }
  | _ => none }
def routeFindsRow : OpenClaim := { program := "ythnbgbocanpkjaagreat", sum := "63910455ccae201b2d4f6687a65c3c5e423d0fcda2bba9c1a43e20d7c37d9158", func := "fenestra/fenestralaw23.RouteFinds", spec := "routeFinds", inPlace := ["internal/bytealg.abigen_runtime_cmpstring"], unfollowed := true, recurses := true, plainKeys := false, apart := false }
def RouteFindsSaid : Prop := routeFindsRow.holds Tryz.pinned (OpenSpec.ofChange routeFindsSpec)

/-- ITS FALSE NEIGHBOUR: 'it returns false'. Refute it at one input. -/
def routeFindsWrong : ChangeSpec := { name := "routeFinds", fn := fun _ => fun
  | [d1, d2] => { results := [.lit (.bool false)], args := [d1, d2] }
  | _ => none }
def RouteFindsWrongFalsely : Prop := routeFindsRow.holds Tryz.pinned (OpenSpec.ofChange routeFindsWrong)

/-- 'fenestralaw23.RouteNil': WHATEVER THE INPUT: true; the input reads as it did. -/
def routeNilSpec : ChangeSpec := { name := "routeNil", fn := fun _ => fun
  | [d1, d2] => { results := [.lit (.bool true)], args := [d1, d2] }
  | _ => none }
def routeNilRow : OpenClaim := { program := "ythnbgbocanpkjaagreat", sum := "63910455ccae201b2d4f6687a65c3c5e423d0fcda2bba9c1a43e20d7c37d9158", func := "fenestra/fenestralaw23.RouteNil", spec := "routeNil", inPlace := ["internal/bytealg.abigen_runtime_cmpstring"], unfollowed := true, recurses := true, plainKeys := false, apart := false }
def RouteNilSaid : Prop := routeNilRow.holds Tryz.pinned (OpenSpec.ofChange routeNilSpec)

/-- ITS FALSE NEIGHBOUR: 'it returns false'. Refute it at one input. -/
def routeNilWrong : ChangeSpec := { name := "routeNil", fn := fun _ => fun
  | [d1, d2] => { results := [.lit (.bool false)], args := [d1, d2] }
  | _ => none }
def RouteNilWrongFalsely : Prop := routeNilRow.holds Tryz.pinned (OpenSpec.ofChange routeNilWrong)

/- THE SECOND FORM. 'bulk': how many values and letters a reading holds, each counted each time it is reached (what is shared counts as often as it is met; a slice's spare places count too). A statement '..UptoSaid' is the law's where the arguments, and the package variables that the reading takes, are together of bulk at most 1048576: NARROWER than '..Said'. Prove '..Said' where nothing that the law and all that it calls make is longer than what came in: it says more and counts as full. Else prove '..UptoSaid'. A law counts once. -/
mutual
def uptoBulk {H : Type} : DataW H → Nat
  | .lit (.string bytes) => bytes.length + 1
  | .lit _ => 1
  | .nil => 1
  | .ptr d => uptoBulk d + 1
  | .slice elems spare => uptoBulkAll elems + uptoBulkAll spare + 1
  | .agg parts => uptoBulkAll parts + 1
  | .iface _ d => uptoBulk d + 1
  | .map entries => uptoBulkEntries entries + 1
  | .held _ => 1
def uptoBulkAll {H : Type} : List (DataW H) → Nat
  | [] => 0
  | d :: r => uptoBulk d + uptoBulkAll r
def uptoBulkEntries {H : Type} : List (Lit × DataW H) → Nat
  | [] => 0
  | x :: r => uptoBulkEntry x + uptoBulkEntries r
def uptoBulkEntry {H : Type} : Lit × DataW H → Nat
  | (.string bytes, d) => bytes.length + uptoBulk d + 1
  | (_, d) => uptoBulk d + 1
 end
def uptoSmall : (H : Type) → List (DataW H) → Bool := fun _ ds => decide (uptoBulkAll ds ≤ 1048576)
def OpenSpec.upto (s : _root_.Go.ChangeSpec) : _root_.Go.OpenSpec := { _root_.Go.OpenSpec.ofChange s with cond := some uptoSmall }

/-- 'fenestralaw23.RouteMakes', WHERE WHAT IT READS IS OF BULK AT MOST 1048576: true; the input reads as it did. -/
def routeMakesUptoRow : OpenClaim := { program := "ythnbgbocanpkjaagreat", sum := "63910455ccae201b2d4f6687a65c3c5e423d0fcda2bba9c1a43e20d7c37d9158", func := "fenestra/fenestralaw23.RouteMakes", spec := "routeMakes", inPlace := ["internal/bytealg.abigen_runtime_cmpstring"], unfollowed := true, recurses := true, plainKeys := false, apart := false, narrowed := true }
def RouteMakesUptoSaid : Prop := routeMakesUptoRow.holds Tryz.pinned (OpenSpec.upto routeMakesSpec)

/-- 'fenestralaw23.RouteSends', WHERE WHAT IT READS IS OF BULK AT MOST 1048576: true; the input reads as it did. -/
def routeSendsUptoRow : OpenClaim := { program := "ythnbgbocanpkjaagreat", sum := "63910455ccae201b2d4f6687a65c3c5e423d0fcda2bba9c1a43e20d7c37d9158", func := "fenestra/fenestralaw23.RouteSends", spec := "routeSends", inPlace := ["internal/bytealg.abigen_runtime_cmpstring"], unfollowed := true, recurses := true, plainKeys := false, apart := false, narrowed := true }
def RouteSendsUptoSaid : Prop := routeSendsUptoRow.holds Tryz.pinned (OpenSpec.upto routeSendsSpec)

/-- 'fenestralaw23.RouteNames', WHERE WHAT IT READS IS OF BULK AT MOST 1048576: true; the input reads as it did. -/
def routeNamesUptoRow : OpenClaim := { program := "ythnbgbocanpkjaagreat", sum := "63910455ccae201b2d4f6687a65c3c5e423d0fcda2bba9c1a43e20d7c37d9158", func := "fenestra/fenestralaw23.RouteNames", spec := "routeNames", inPlace := ["internal/bytealg.abigen_runtime_cmpstring"], unfollowed := true, recurses := true, plainKeys := false, apart := false, narrowed := true }
def RouteNamesUptoSaid : Prop := routeNamesUptoRow.holds Tryz.pinned (OpenSpec.upto routeNamesSpec)

/-- 'fenestralaw23.RouteMutual', WHERE WHAT IT READS IS OF BULK AT MOST 1048576: true; the input reads as it did. -/
def routeMutualUptoRow : OpenClaim := { program := "ythnbgbocanpkjaagreat", sum := "63910455ccae201b2d4f6687a65c3c5e423d0fcda2bba9c1a43e20d7c37d9158", func := "fenestra/fenestralaw23.RouteMutual", spec := "routeMutual", inPlace := ["internal/bytealg.abigen_runtime_cmpstring"], unfollowed := true, recurses := true, plainKeys := false, apart := false, narrowed := true }
def RouteMutualUptoSaid : Prop := routeMutualUptoRow.holds Tryz.pinned (OpenSpec.upto routeMutualSpec)

/-- 'fenestralaw23.RouteFinds', WHERE WHAT IT READS IS OF BULK AT MOST 1048576: true; the input reads as it did. -/
def routeFindsUptoRow : OpenClaim := { program := "ythnbgbocanpkjaagreat", sum := "63910455ccae201b2d4f6687a65c3c5e423d0fcda2bba9c1a43e20d7c37d9158", func := "fenestra/fenestralaw23.RouteFinds", spec := "routeFinds", inPlace := ["internal/bytealg.abigen_runtime_cmpstring"], unfollowed := true, recurses := true, plainKeys := false, apart := false, narrowed := true }
def RouteFindsUptoSaid : Prop := routeFindsUptoRow.holds Tryz.pinned (OpenSpec.upto routeFindsSpec)

/-- 'fenestralaw23.RouteNil', WHERE WHAT IT READS IS OF BULK AT MOST 1048576: true; the input reads as it did. -/
def routeNilUptoRow : OpenClaim := { program := "ythnbgbocanpkjaagreat", sum := "63910455ccae201b2d4f6687a65c3c5e423d0fcda2bba9c1a43e20d7c37d9158", func := "fenestra/fenestralaw23.RouteNil", spec := "routeNil", inPlace := ["internal/bytealg.abigen_runtime_cmpstring"], unfollowed := true, recurses := true, plainKeys := false, apart := false, narrowed := true }
def RouteNilUptoSaid : Prop := routeNilUptoRow.holds Tryz.pinned (OpenSpec.upto routeNilSpec)

end Rows
end Go.Proofs.YthnbgbocanpkjaaGreat
