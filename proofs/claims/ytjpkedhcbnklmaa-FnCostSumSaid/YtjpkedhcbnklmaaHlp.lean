/-
  Own work. The laws' helpers for lists: sizes, copies, comparisons.
-/
import Derived.Test.YtjpkedhcbnklmaaPbA
import Derived.Test.YtjpkedhcbnklmaaPln
import Derived.Test.YtjpkedhcbnklmaaD
namespace Go.Pf
open Go Go.Pu
set_option linter.unusedVariables false
abbrev Dev:=Int×(Int×(Int×Int))
abbrev Pin:=Int×Int
abbrev Conn:=Int×(Pin×List Pin)
def CnOk (c:Conn):Prop:=c.2.2.length<=1048576
def CnsOk (xs:List Conn):Prop:=xs.length<=1048576/\∀x∈xs,CnOk x
end Go.Pf
