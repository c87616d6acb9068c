/-
  The walks of uniq.collect, at the six instances that are called.
-/
import Derived.Test.YtldchpmilknlmaaGreatUniq
namespace Go.Proofs.YtldchpmilknlmaaGreat
open Go.RowKit

end Go.Proofs.YtldchpmilknlmaaGreat
