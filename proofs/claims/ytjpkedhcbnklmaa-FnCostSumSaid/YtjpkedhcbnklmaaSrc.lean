/-
  Own work. The nodes that lead into a node: the program's and the reference's, plainly.
-/
import Derived.Test.YtjpkedhcbnklmaaSrt
import Derived.Test.YtjpkedhcbnklmaaCut
import Derived.Test.YtjpkedhcbnklmaaCna
namespace Go.Pf
open Go Go.Pu
set_option linter.unusedVariables false
def opp (dir:Int):Int:=(dir+2) % 4
def wn (d:Dev) (s dir trk:Int):Int:=if 0<=s/\0<=stp d s dir (1+trk % 2) then s*per d+7+dir*d.2.2.1+trk else -1
def skipP (d:Dev) (p wd wt dir trk:Int):Prop:=(7<=p/\(dir=opp wd\/(trk≠wt/\trk≠(wt+1) % d.2.2.1)))\/(p<7/\1<d.2.2.1/\(trk+p) % 2=1)
instance (d:Dev) (p wd wt dir trk:Int):Decidable (skipP d p wd wt dir trk):=by unfold skipP;exact inferInstance
def pos1 (v:Int):List Int:=if 0<=v then [v] else []
def oneP (d:Dev) (t p dir trk:Int) (j:Nat):List Int:=if 7<=p/\(j:Int)+1<1+trk % 2 then [] else pos1 (wn d (stp d t (opp dir) ((j:Int)+1)) dir trk)
def candP (d:Dev) (t p wd wt:Int) (dir trk:Nat):List Int:=if skipP d p wd wt dir trk then [] else fm (1+(trk:Int) % 2).toNat (oneP d t p dir trk)
def dirP (d:Dev) (t p wd wt:Int) (dir:Nat):List Int:=fm d.2.2.1.toNat (candP d t p wd wt dir)
def rawP (d:Dev) (t p wd wt:Int):List Int:=fm 4 (dirP d t p wd wt)
def outsP (d:Dev) (t:Int):List Int:=if 1<outP (tk d t) then [t*per d+5,t*per d+6] else [t*per d+5]
def s0P (d:Dev) (n:Int):List Int:=if 7<=nPin d n then outsP d (nTile d n) else []
def rawN (d:Dev) (n:Int):List Int:=s0P d n++rawP d (nTile d n) (nPin d n) (wDir d n) (wTrk d n)
def srcsP (d:Dev) (n:Int):List Int:=if rnOkP d n/\¬(nPin d n=5\/nPin d n=6) then insL [] (rawN d n) else []
end Go.Pf
