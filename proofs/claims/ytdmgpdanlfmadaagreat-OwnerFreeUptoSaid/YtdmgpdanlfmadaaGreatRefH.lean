/-
  Small functions of the reference: Top, Has, Last.
-/
import Derived.Test.YtdmgpdanlfmadaaGreatOwnA
import Derived.Test.YtdmgpdanlfmadaaGreatMemA
namespace Go.Proofs.YtdmgpdanlfmadaaGreat
open Go.RowKit
attribute [local go_sem] ext_cell
theorem rTop_ok (w:World):Calls Tryz.prog 76 #[] w fun e w'=>e= .returned (.int .u64 18446744073709551615)∧Below w.heap.size w w':=by
 go_enter Tryz.func76,Tryz.ntmps76
 go_wp2
 go_ret
 exact ⟨rfl,Below.refl _ _⟩
theorem okR_sp {l:List Reg} (h:okR l) {r:Reg} (hr:r ∈ l):okSp r.base r.size:=by
 obtain ⟨h1,h2,h3⟩:=h r hr
 unfold lastR topA at*
 exact ⟨h1,by omega,by omega⟩
theorem rHasC_val (x:Reg) (a:Int) (v:Bool) (w:World) (h:okSp x.base x.size) (hv:Hid (covR x a=v)):Calls Tryz.prog 41 #[.agg #[.int .u64 x.base, .int .u64 x.size], .int .u64 a] w fun e w'=>e= .returned (.bool v)∧Below w.heap.size w w':=by
 rw [←hv.out]
 exact rHas_ok (spnOf x) a w h
theorem rLastC_val (x:Reg) (v:Int) (w:World) (h:okSp x.base x.size) (hv:Hid (lastR x=v)):Calls Tryz.prog 97 #[.agg #[.int .u64 x.base, .int .u64 x.size]] w fun e w'=>e= .returned (.int .u64 v)∧Below w.heap.size w w':=by
 rw [←hv.out]
 exact rLast_ok x.base x.size w h
end Go.Proofs.YtdmgpdanlfmadaaGreat
