/-
  Arrays of seven numbers compared, run.
-/
import Derived.Test.YteelncofiodflaaGreatRefL
namespace Go.Proofs.YteelncofiodflaaGreat
open Go.RowKit
theorem infoInt7:(Tryz.prog.info? 3).map (fun i=>(i.zero,i.size,i.bytes))=some (some (.int .i64 0),1,8):=by kernel_rfl
theorem eq7_run (a b c d e f g:Int) (w:World):(Op.equalIn 9999 32 (.agg #[.int .i64 a, .int .i64 b, .int .i64 c, .int .i64 d, .int .i64 e, .int .i64 f, .int .i64 g]) (.agg #[.int .i64 a, .int .i64 b, .int .i64 c, .int .i64 d, .int .i64 e, .int .i64 f, .int .i64 g])).run Tryz.prog w= .ok true w:=by
 have hu:Tryz.prog.underlying 32=some (.array 7 3):=Tryz.underlying32
 have hi:Tryz.prog.underlying 3=some (.int .i64):=Tryz.underlying3
 obtain ⟨i0,h0,_,h1,_⟩:=info_parts infoInt7
 unfold Op.equalIn
 simp only [Sem.run_bind,run_underlying hu,Result.andThen_ok]
 simp [go_sem,List.range',part,isAgg,sizeOf,typeInfo,Sem.run_bind,run_underlying hi,hi,h0,h1]
end Go.Proofs.YteelncofiodflaaGreat
