/-
  The reference of layer 2, walked: the checksum bit by bit, Seal and Sealed. Condition: at most 4194000 bytes.
-/
import Derived.BigQuiet
import Derived.Laws.BytesArg
import Derived.Test.YteelncofiodflaaGreatCrcZ
namespace Go.Proofs.YteelncofiodflaaGreat
open Go.RowKit
def bytS (l:List Nat):ByteArray:=strOfNums (l.map fun c:Nat=>(c:Int))
theorem conv_bytes (l:List Nat) (w:World) (B n c:Nat) (A:Option Addr) (h:Rd w B 1 A n (bytV l)) (hn:n=l.length) (h0:0 <n):(convert 41 9 (.slice A n c)).run Tryz.prog w= .ok (.string (bytS l)) w:=by
 obtain ⟨b,o,rfl,_,hc⟩:=h.2 h0
 refine run_convert_bytes_arg (P:=Tryz.prog) w 41 5 Tryz.underlying41 Tryz.underlying5 b o n c (l.map fun c:Nat=>(c:Int)) (by rw [List.length_map,hn]) (fun i hi=> ?_) 9 Tryz.underlying9
 have hl:i <l.length:=by omega
 have e:=hc i _ (bytV_at (List.getElem?_eq_getElem hl))
 rw [e]
 simp [List.getD,hl]
end Go.Proofs.YteelncofiodflaaGreat
