/-
  Own work. Wires: what they reach, and how many a route has; helpers of the laws.
-/
import Derived.Test.YtjpkedhcbnklmaaDvd
import Derived.Test.YtjpkedhcbnklmaaLawPathTo
namespace Go.Pf
open Go Go.Pu
theorem gapp_ok {xs ys:List Int} (h:xs.length+ys.length<=10000000000):gapp 8 xs ys=some (xs++ys):=gapp_some (by omega) (by omega)
def reach (d:Int×(Int×(Int×Int))) (n:Int) (k:Nat):List Int:=(List.range k).map fun (j:Nat)=>stp d (nTile d n) (wDir d n) ((j:Int)+1)
def reaches (d:Int×(Int×(Int×Int))) (n:Int):List Int:=if isWireP d n then reach d n (1+wTrk d n % 2).toNat else []
end Go.Pf
