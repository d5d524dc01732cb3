/-
  Own work. Plain laws of the small functions of the laws' file (lists of ints compared, marked, held).
-/
import Derived.Test.YtjpkedhcbnklmaaPl
import Derived.Test.YtjpkedhcbnklmaaD
namespace Go.Pf
open Go Go.Pu
def marks (k:Int) (n:Nat):List Int:=(List.range n).map fun (j:Nat)=>k+(j:Int)
end Go.Pf
