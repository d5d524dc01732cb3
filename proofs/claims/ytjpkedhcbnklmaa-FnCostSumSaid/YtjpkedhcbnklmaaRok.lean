/-
  Own work. Costs, paths' costs, routes, plainly.
-/
import Derived.Test.YtjpkedhcbnklmaaSrc
import Derived.Test.YtjpkedhcbnklmaaUse
namespace Go.Pf
open Go Go.Pu
set_option linter.unusedVariables false
def costsP (d:Dev) (cs:List Int):Prop:=DOk d/\(cs.length:Int)=nodesN d/\∀c∈cs,1<=c/\c<=100000
instance (d:Dev) (cs:List Int):Decidable (costsP d cs):=by unfold costsP;exact inferInstance
def pAt (xs:List Int) (i:Int):Int:=xs.getD i.toNat 0
def roOk (d:Dev) (src:Int) (snks ns ps:List Int) (k:Nat):Prop:=
  rnOkP d (nsAt ns k)/\nsAt ns k∉ns.take k/\(if k=0 then nsAt ns 0=src/\nsAt ps 0=0/\(nPin d (nsAt ns 0)=5\/nPin d (nsAt ns 0)=6)
    else (0<=nsAt ps k/\nsAt ps k<(k:Int))/\pAt ns (nsAt ps k)∈srcsP d (nsAt ns k)/\(nPin d (nsAt ns k)<5->nsAt ns k∈snks))
instance (d:Dev) (src:Int) (snks ns ps:List Int) (k:Nat):Decidable (roOk d src snks ns ps k):=by unfold roOk;exact inferInstance
theorem nsAt_get {ns:List Int} {k:Nat} (h:k<ns.length):gget 0 ns (k:Int)=some (nsAt ns k):=by rw [gget_nat h,ns_at h]
end Go.Pf
