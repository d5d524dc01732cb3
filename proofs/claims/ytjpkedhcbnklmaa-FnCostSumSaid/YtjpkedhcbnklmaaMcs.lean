/-
  Own work. The laws' helpers for lists of connections: sizes within the budget, marks.
-/
import Derived.Test.YtjpkedhcbnklmaaUse
import Derived.Test.YtjpkedhcbnklmaaCna
namespace Go.Pf
open Go Go.Pu
set_option linter.unusedVariables false
def CnB (b:Int) (c:Conn):Prop:=(c.2.2.length:Int)<=b
def CnsB (cs:List Conn):Prop:=cs.length<=1048576/\∀c∈cs,CnB (1048576 - cs.length) c
theorem CnsB.ok {cs:List Conn} (h:CnsB cs):CnsOk cs:=⟨h.1,fun c hc=>by
  have:=h.2 c hc
  unfold CnB at this
  unfold CnOk;omega⟩
end Go.Pf
