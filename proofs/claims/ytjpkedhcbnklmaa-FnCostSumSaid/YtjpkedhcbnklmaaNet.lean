/-
  Own work. Networks of look-up tables: the laws' helpers (sizes, copies, comparisons, marks).
-/
import Derived.Test.YtjpkedhcbnklmaaUse
namespace Go.Pf
open Go Go.Pu
set_option linter.unusedVariables false
abbrev Seq:=Int×(Int×List Int)
abbrev Lut:=List Int×Int
abbrev Net:=Int×(List Seq×(List Lut×List Int))
def SeqB (b:Int) (s:Seq):Prop:=(s.2.2.length:Int)<=b
def LutB (b:Int) (l:Lut):Prop:=(l.1.length:Int)<=b
def SeqsB (ss:List Seq):Prop:=ss.length<=1048576/\∀s∈ss,SeqB (1048576 - ss.length) s
def LutsB (ls:List Lut):Prop:=ls.length<=1048576/\∀l∈ls,LutB (1048576 - ls.length) l
def NetB (n:Net):Prop:=SeqsB n.2.1/\LutsB n.2.2.1/\n.2.2.2.length<=1048576
theorem SeqsB.at {ss:List Seq} (h:SeqsB ss) {s:Seq} (hs:s∈ss):s.2.2.length<=1048576:=by
  have:=h.2 s hs
  unfold SeqB at this;omega
theorem LutsB.at {ls:List Lut} (h:LutsB ls) {l:Lut} (hl:l∈ls):l.1.length<=1048576:=by
  have:=h.2 l hl
  unfold LutB at this;omega
end Go.Pf
