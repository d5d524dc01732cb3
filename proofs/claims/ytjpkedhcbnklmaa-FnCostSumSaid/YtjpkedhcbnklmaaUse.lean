/-
  Own work. Routes' use of nodes, plainly.
-/
import Derived.Test.YtjpkedhcbnklmaaDve
import Derived.Test.YtjpkedhcbnklmaaHlp
import Derived.Test.YtjpkedhcbnklmaaPla
namespace Go.Pf
open Go Go.Pu
set_option linter.unusedVariables false
abbrev Rt:=List Int×List Int
def RtOk (r:Rt):Prop:=r.1.length<=1048576/\r.2.length<=1048576
def RtB (b:Int) (r:Rt):Prop:=(r.1.length:Int)+(r.2.length:Int)<=b
def RtsOk (rs:List Rt):Prop:=rs.length<=1048576/\∀r∈rs,RtOk r
def RtsB (rs:List Rt):Prop:=rs.length<=1048576/\∀r∈rs,RtB (1048576 - rs.length) r
theorem RtsB.ok {rs:List Rt} (h:RtsB rs):RtsOk rs:=⟨h.1,fun r hr=>by
  have:=h.2 r hr
  unfold RtB at this
  exact ⟨by omega,by omega⟩⟩
def nsAt (ns:List Int) (j:Nat):Int:=ns.getD j 0
def inN (N:Nat) (x:Int):Prop:=0<=x/\x<(N:Int)
instance (N:Nat) (x:Int):Decidable (inN N x):=by unfold inN;exact inferInstance
theorem take_at {ns:List Int} {j:Nat} (h:j<ns.length):ns.take (j+1)=ns.take j++[nsAt ns j]:=by
  rw [take_succ' ns j h]
  unfold nsAt
  rw [List.getD,List.getElem?_eq_getElem h];rfl
theorem ns_at {ns:List Int} {j:Nat} (h:j<ns.length):ns[j]=nsAt ns j:=by unfold nsAt;rw [List.getD,List.getElem?_eq_getElem h];rfl
end Go.Pf
