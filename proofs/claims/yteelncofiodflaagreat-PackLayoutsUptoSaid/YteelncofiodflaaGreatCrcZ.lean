/-
  Sealed of package crc, walked. Condition: at most 4194000 bytes.
-/
import Derived.BigQuiet
import Derived.Test.YteelncofiodflaaGreatCrcA
import Derived.Test.YteelncofiodflaaGreatSliceP
import Derived.Test.YteelncofiodflaaGreatInvZ
namespace Go.Proofs.YteelncofiodflaaGreat
open Go.RowKit
theorem u8s_elem:Tryz.prog.underlying 41=some (.slice (Tryz.prog.elem 41)):=by kernel_rfl
theorem info_u8e:(Tryz.prog.info? (Tryz.prog.elem 41)).map (fun i=>(i.zero,i.size,i.bytes))=some (some (.int .u8 0),1,1):=by kernel_rfl
theorem u8s_size (w:World):(sizeOf (Tryz.prog.elem 41)).run Tryz.prog w= .ok 1 w:=by
 obtain ⟨i0,hi,hz0,hz1,hz2⟩:=info_parts info_u8e
 exact run_sizeOf hi hz1 w
theorem bytV_take (l:List Nat) (m:Nat):(bytV l).take (m*1)=bytV (l.take m):=by unfold bytV;rw [Nat.mul_one,List.map_take]
theorem bytesOk.take {l:List Nat} (h:bytesOk l) (m:Nat):bytesOk (l.take m):=fun c hc=>h c (List.mem_of_mem_take hc)
theorem bytesOk.drop {l:List Nat} (h:bytesOk l) (m:Nat):bytesOk (l.drop m):=fun c hc=>h c (List.mem_of_mem_drop hc)
end Go.Proofs.YteelncofiodflaaGreat
