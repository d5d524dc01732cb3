/-
  Own work. The device's routing nodes, plainly.
-/
import Derived.Test.YtjpkedhcbnklmaaDvc
namespace Go.Pf
open Go Go.Pu
def stpX (d:Int×(Int×(Int×Int))) (t dir len:Int):Int:=t % d.1+(if dir=0 then len else if dir=2 then -len else 0)
def stpY (d:Int×(Int×(Int×Int))) (t dir len:Int):Int:=t/d.1+(if dir=1 then len else if dir=3 then -len else 0)
def stp (d:Int×(Int×(Int×Int))) (t dir len:Int):Int:=
  if (0<=stpX d t dir len/\stpX d t dir len<=d.1 - 1)/\(0<=stpY d t dir len/\stpY d t dir len<=d.2.1 - 1) then stpY d t dir len*d.1+stpX d t dir len else -1
def nTile (d:Int×(Int×(Int×Int))) (n:Int):Int:=n/per d
def nPin (d:Int×(Int×(Int×Int))) (n:Int):Int:=n % per d
def wDir (d:Int×(Int×(Int×Int))) (n:Int):Int:=(nPin d n - 7)/d.2.2.1
def wTrk (d:Int×(Int×(Int×Int))) (n:Int):Int:=(nPin d n - 7) % d.2.2.1
def rnOkP (d:Int×(Int×(Int×Int))) (n:Int):Prop:=DOk d/\0<=n/\n<nodesN d/\
  (if nPin d n<5 then nPin d n<inP (tkp d (nTile d n)) else if nPin d n<7 then nPin d n - 5<outP (tkp d (nTile d n)) else 0<=stp d (nTile d n) (wDir d n) (1+wTrk d n % 2))
instance (d:Int×(Int×(Int×Int))) (n:Int):Decidable (rnOkP d n):=by unfold rnOkP;exact inferInstance
def isWireP (d:Int×(Int×(Int×Int))) (n:Int):Prop:=rnOkP d n/\7<=nPin d n
instance (d:Int×(Int×(Int×Int))) (n:Int):Decidable (isWireP d n):=by unfold isWireP;exact inferInstance
end Go.Pf
