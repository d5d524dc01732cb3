/-
  Own work: parts Pl, PbA, Pln, Dvc, Dvd, Path, LawPathTo, Dve, Hlp, Pla, Use, Net, Srt, Cut, Cna, Src, Rok, Dsa, Ntb, Lep, Blk, Pko, Mkh, Mcs, Cno, Pck, Pcl, Pcs, Pcx, Pcp, plain lemmas.
-/
import Derived.Test.YtjpkedhcbnklmaaPu3
import Derived.Test.YtjpkedhcbnklmaaD
/-
  Own work. Plain lemmas on loops, lists and wrapped integers (no program in sight).
-/
namespace Go.Pu
open Go
theorem loop_spec {σ ω:Type}{f:σ->Option (σ⊕ω)}(I:σ->Prop)(Q:ω->Prop)(μ:σ->Nat)(h:∀s,I s->(∃s',f s=some (.inl s')/\I s'∧μ s' <μ s)\/(∃o,f s=some (.inr o)/\Q o)):
 ∀s,I s->∃o,loop f s=some o/\Q o:=by
 have key:∀n s,μ s<n->I s->∃o,loop f s=some o/\Q o:=by
  intro n
  induction n with
  | zero=>intro s hs;omega
  | succ n ih=>
   intro s hs hi;rcases h s hi with⟨s',h1,h2,h3⟩ | ⟨o,h1,h2⟩
   ·obtain⟨o,h4,h5⟩:=ih s' (by omega) h2;exact⟨o,by rw[loop_eq,h1];exact h4,h5⟩
   ·exact⟨o,by rw[loop_eq,h1],h2⟩
 exact fun s hi=>key _ s (Nat.lt_succ_self _) hi
theorem wrap_id {z:Int}(h1: -9223372036854775808<=z)(h2:z<=9223372036854775807):wrap .i64 z=z:=by
 unfold wrap IntKind.wrap;simp[IntKind.bits,IntKind.signed];omega
theorem gget_some {α:Type}{d:α}{xs:List α}{i:Int}(h0:0<=i)(h1:i<(xs.length:Int)):gget d xs i=some (xs.getD i.toNat d):=by
 unfold gget;rw[if_pos ⟨h0,h1⟩]
theorem gin_some {n:Nat}{i:Int}(h0:0<=i)(h1:i<(n:Int)):gin n i=some ():=by
 unfold gin;rw[if_pos ⟨h0,h1⟩]
theorem gapp_some {α:Type}{b:Nat}{xs ys:List α}(h:(xs.length+ys.length)*b<=140737488355328)(h2:xs.length+ys.length<=140737488355328):gapp b xs ys=some (xs++ys):=by
 unfold gapp gfit;rw[if_pos (by simp[h,h2])]
end Go.Pu
/-
  Own work. Plain lemmas on loops over lists (no program in sight).
-/
namespace Go.Pf
open Go Go.Pu
theorem gget_nat {α:Type}{d:α}{xs:List α}{k:Nat}(h:k<xs.length):gget d xs (k:Int)=some (xs[k]'h):=by
 rw[gget_some (by omega) (by omega)];simp[List.getD,h]
theorem gin_nat {n k:Nat}(h:k<n):gin n (k:Int)=some ():=gin_some (by omega) (by omega)
theorem gset_nat {α:Type}(xs:List α)(k:Nat)(x:α):gset xs (k:Int) x=xs.set k x:=rfl
theorem dt {p:Prop} [Decidable p] (h:p):decide p=true:=decide_eq_true h
theorem df {p:Prop} [Decidable p] (h:¬p):decide p=false:=decide_eq_false h
theorem gmake_nat {α:Type}{b:Nat}{d:α}{n:Nat}(h:n*b<=140737488355328)(h2:n<=140737488355328):gmake b d (n:Int)=some (List.replicate n d):=by
 unfold gmake gfit;rw[if_pos (by constructor;omega;simp;omega)];simp
theorem wrap_ok {z:Int}(h: -9223372036854775808<=z/\z<=9223372036854775807):wrap .i64 z=z:=wrap_id h.1 h.2
theorem loop_run {σ ω:Type}{f:σ->Option (σ⊕ω)}(S:Nat->σ){o:ω}:∀(m n:Nat),(∀k,m<=k->k<m+n->f (S k)=some (.inl (S (k+1))))->f (S (m+n))=some (.inr o)->loop f (S m)=some o
 | m,0,_,h=>by rw[loop_eq,Nat.add_zero]at*;rw[h]
 | m,n+1,h1,h2=>by
  rw[loop_eq,h1 m (Nat.le_refl _) (by omega)];exact loop_run S (m+1) n (fun k q1 q2=>h1 k (by omega) (by omega)) (by rw[show m+1+n=m+(n+1)from by omega];exact h2)
theorem loop_upto {σ ω:Type}{f:σ->Option (σ⊕ω)}(n:Nat)(S:Nat->σ){o:ω}(h1:∀k,k<n->f (S k)=some (.inl (S (k+1))))(h2:f (S n)=some (.inr o)):loop f (S 0)=some o:=
 loop_run S 0 n (fun k _ h=>h1 k (by omega)) (by rw[Nat.zero_add];exact h2)
theorem loop_all {σ ω:Type}{f:σ->Option (σ⊕ω)}(n:Nat)(S:Nat->σ)(ok:Nat->Bool)(bad good:ω)(h1:∀k,k<n->ok k=true->f (S k)=some (.inl (S (k+1))))(h2:∀k,k<n->ok k=false->f (S k)=some (.inr bad))(h3:f (S n)=some (.inr good)):
 loop f (S 0)=some (if(List.range n).all ok then good else bad):=by
 have key:∀(m j:Nat),j+m=n->loop f (S j)=some (if(List.range' j m).all ok then good else bad):=by
  intro m
  induction m with
  | zero=>
   intro j hj;rw[loop_eq];have:j=n:=by omega
   subst this;rw[h3];simp
  | succ m ih=>
   intro j hj;rw[loop_eq,List.range'_succ,List.all_cons];cases hok:ok j with
   | true=>rw[h1 j (by omega) hok];simp only[Bool.true_and];exact ih (j+1) (by omega)
   | false=>rw[h2 j (by omega) hok];simp
 have:=key n 0 (by omega);rw[this,List.range_eq_range']
theorem all_range_list {α:Type}(xs:List α)(p:α->Bool)(ok:Nat->Bool)(h:∀k (hk:k<xs.length),ok k=p xs[k]):(List.range xs.length).all ok=xs.all p:=by
 rw[Bool.eq_iff_iff,List.all_eq_true,List.all_eq_true]
 constructor
 ·intro h1 x hx;obtain⟨k,hk,rfl⟩:=List.getElem_of_mem hx;rw[<-h k hk];exact h1 k (List.mem_range.2 hk)
 ·intro h1 k hk;have hk:=List.mem_range.1 hk;rw[h k hk];exact h1 _ (List.getElem_mem hk)
theorem take_succ' {α:Type}(xs:List α)(k:Nat)(h:k<xs.length):xs.take (k+1)=xs.take k++[xs[k]]:=(List.take_append_getElem h).symm
end Go.Pf
/-
  Own work. Plain laws of the small functions of the laws' file (lists of ints compared, marked, held).
-/
namespace Go.Pf
open Go Go.Pu
def marks (k:Int)(n:Nat):List Int:=(List.range n).map fun(j:Nat)=>k+(j:Int)
end Go.Pf
/-
  Own work. The device's functions, plainly.
-/
namespace Go.Pf
open Go Go.Pu
theorem inR_spec (x a b:Int):spec_l01In (x,(a,b))=some (decide (a<=x/\x<=b)):=by
 unfold spec_l01In;dsimp only;by_cases h:a<=x
 ·rw[dt h,cond_true];by_cases h2:x<=b
  ·rw[dt h2,dt ⟨h,h2⟩]
  ·rw[df h2,df (fun e=>h2 e.2)]
 ·rw[df h,cond_false,df (fun e=>h e.1)]
theorem inR_impl (x a b:Int):impl_inRange (x,(a,b))=some (decide (a<=x/\x<=b)):=inR_spec x a b
def DOk (d:Int×(Int×(Int×Int))):Prop:=(3<=d.1/\d.1<=6)/\(3<=d.2.1/\d.2.1<=6)/\(1<=d.2.2.1/\d.2.2.1<=4)/\(d.2.2.2= -1\/(1<=d.2.2.2/\d.2.2.2<=d.1 - 2))
instance (d:Int×(Int×(Int×Int))):Decidable (DOk d):=by unfold DOk;exact inferInstance
theorem grem_nn {a b:Int}(ha:0<=a)(hb:0<b):grem a b=some (a % b):=by
 unfold grem;rw[if_neg (by omega),Int.tmod_eq_emod_of_nonneg ha]
theorem gdiv_nn {a b:Int}(ha:0<=a)(ha2:a<=9223372036854775807)(hb:0<b):gdiv .i64 a b=some (a/b):=by
 have h1:0<=a/b:=Int.ediv_nonneg ha (by omega);have h2:a/b<=a:=Int.ediv_le_self _ ha;unfold gdiv;rw[if_neg (by omega),Int.tdiv_eq_ediv_of_nonneg ha,wrap_ok (by omega)]
def tkp (d:Int×(Int×(Int×Int)))(t:Int):Int:=
 if t % d.1=0\/t/d.1=0\/t % d.1=d.1 - 1\/t/d.1=d.2.1 - 1 then 0 else if t % d.1=d.2.2.2 then 2 else 1
def tk (d:Int×(Int×(Int×Int)))(t:Int):Int:=if DOk d/\0<=t/\t<d.1*d.2.1 then tkp d t else -1
def per (d:Int×(Int×(Int×Int))):Int:=7+4*d.2.2.1
def nodesN (d:Int×(Int×(Int×Int))):Int:=d.1*d.2.1*per d
def inP (k:Int):Int:=if k=0 then 1 else if k=1 then 5 else if k=2 then 4 else 0
def outP (k:Int):Int:=if k=0 then 1 else if k=1 then 2 else if k=2 then 1 else 0
end Go.Pf
/-
  Own work. The device's routing nodes, plainly.
-/
namespace Go.Pf
open Go Go.Pu
def stpX (d:Int×(Int×(Int×Int)))(t dir len:Int):Int:=t % d.1+(if dir=0 then len else if dir=2 then -len else 0)
def stpY (d:Int×(Int×(Int×Int)))(t dir len:Int):Int:=t/d.1+(if dir=1 then len else if dir=3 then -len else 0)
def stp (d:Int×(Int×(Int×Int)))(t dir len:Int):Int:=
 if(0<=stpX d t dir len/\stpX d t dir len<=d.1 - 1)/\(0<=stpY d t dir len/\stpY d t dir len<=d.2.1 - 1)then stpY d t dir len*d.1+stpX d t dir len else -1
def nTile (d:Int×(Int×(Int×Int)))(n:Int):Int:=n/per d
def nPin (d:Int×(Int×(Int×Int)))(n:Int):Int:=n % per d
def wDir (d:Int×(Int×(Int×Int)))(n:Int):Int:=(nPin d n - 7)/d.2.2.1
def wTrk (d:Int×(Int×(Int×Int)))(n:Int):Int:=(nPin d n - 7) % d.2.2.1
def rnOkP (d:Int×(Int×(Int×Int)))(n:Int):Prop:=DOk d/\0<=n/\n<nodesN d/\
 (if nPin d n<5 then nPin d n<inP (tkp d (nTile d n))else if nPin d n<7 then nPin d n - 5<outP (tkp d (nTile d n))else 0<=stp d (nTile d n) (wDir d n) (1+wTrk d n % 2))
instance (d:Int×(Int×(Int×Int)))(n:Int):Decidable (rnOkP d n):=by unfold rnOkP;exact inferInstance
def isWireP (d:Int×(Int×(Int×Int)))(n:Int):Prop:=rnOkP d n/\7<=nPin d n
instance (d:Int×(Int×(Int×Int)))(n:Int):Decidable (isWireP d n):=by unfold isWireP;exact inferInstance
end Go.Pf
/-
  Own work. Paths by predecessors: the program's and the reference's, plainly.
-/
namespace Go.Pf
open Go Go.Pu
end Go.Pf
/-
  Own work. The law of paths, plainly: it says true.
-/
namespace Go.Pf
open Go Go.Pu
end Go.Pf
/-
  Own work. Wires: what they reach, and how many a route has; helpers of the laws.
-/
namespace Go.Pf
open Go Go.Pu
theorem gapp_ok {xs ys:List Int}(h:xs.length+ys.length<=10000000000):gapp 8 xs ys=some (xs++ys):=gapp_some (by omega) (by omega)
def reach (d:Int×(Int×(Int×Int)))(n:Int)(k:Nat):List Int:=(List.range k).map fun(j:Nat)=>stp d (nTile d n) (wDir d n) ((j:Int)+1)
def reaches (d:Int×(Int×(Int×Int)))(n:Int):List Int:=if isWireP d n then reach d n (1+wTrk d n % 2).toNat else []
end Go.Pf
/-
  Own work. The laws' helpers for lists: sizes, copies, comparisons.
-/
namespace Go.Pf
open Go Go.Pu
set_option linter.unusedVariables false
abbrev Dev:=Int×(Int×(Int×Int))
abbrev Pin:=Int×Int
abbrev Conn:=Int×(Pin×List Pin)
def CnOk (c:Conn):Prop:=c.2.2.length<=1048576
def CnsOk (xs:List Conn):Prop:=xs.length<=1048576/\∀x∈xs,CnOk x
end Go.Pf
/-
  Own work. Placements, plainly.
-/
namespace Go.Pf
open Go Go.Pu
theorem has_impl (xs:List Int)(x:Int)(h:xs.length<=4611686018427387904):impl_hasInt (xs,x)=some (decide (x∈xs)):=by
 unfold impl_hasInt;dsimp only;have e:=loop_all (f:=fun(v2:Int)=>
  let v3:Bool:=decide (v2<(xs.length:Int))
  bif v3 then(
   (gget 0 xs v2).bind fun v4=>
   let v5:Bool:=decide (v4=x)
   bif v5 then(
    Option.map Sum.inr (
     some true))else
   let v6:Int:=wrap .i64 (v2+1)
   some (.inl v6))else
  Option.map Sum.inr (
   some false)) xs.length (fun k=>(k:Int)) (fun k=>if hk:k<xs.length then decide (xs[k]≠x)else true) true false (fun k hk hok=>by
   rw[dif_pos hk]at hok;have hne:=of_decide_eq_true hok;dsimp only;rw[dt (by omega),cond_true,gget_nat hk];simp only[Option.bind_some];rw[df hne,cond_false,wrap_ok (by omega)];rfl) (fun k hk hok=>by
   rw[dif_pos hk]at hok;have he:=of_decide_eq_false hok;dsimp only;rw[dt (by omega),cond_true,gget_nat hk];simp only[Option.bind_some];rw[dt (by simpa using he),cond_true];rfl) (by
   dsimp only;rw[df (by omega),cond_false];rfl)
 rw[all_range_list xs (fun y=>decide (y≠x)) _ (fun k hk=>by rw[dif_pos hk])]at e;refine Eq.trans e ?_
 congr 1
 by_cases hm:x∈xs
 ·rw[dt hm,if_neg];intro ha;rw[List.all_eq_true]at ha;exact of_decide_eq_true (ha x hm) rfl
 ·rw[df hm,if_pos];rw[List.all_eq_true];intro y hy;exact decide_eq_true (fun e=>hm (e▸hy))
theorem has_spec (xs:List Int)(x:Int)(h:xs.length<=4611686018427387904):spec_l13Has (xs,x)=some (decide (x∈xs)):=has_impl xs x h
theorem gslice_pre {xs:List Int}{k:Nat}(h:k<=xs.length):gslice xs 0 (k:Int)=some (xs.take k):=by
 unfold gslice;rw[if_pos (by omega)];simp
end Go.Pf
/-
  Own work. Routes' use of nodes, plainly.
-/
namespace Go.Pf
open Go Go.Pu
set_option linter.unusedVariables false
abbrev Rt:=List Int×List Int
def RtOk (r:Rt):Prop:=r.1.length<=1048576/\r.2.length<=1048576
def RtB (b:Int)(r:Rt):Prop:=(r.1.length:Int)+(r.2.length:Int)<=b
def RtsOk (rs:List Rt):Prop:=rs.length<=1048576/\∀r∈rs,RtOk r
def RtsB (rs:List Rt):Prop:=rs.length<=1048576/\∀r∈rs,RtB (1048576 - rs.length) r
theorem RtsB.ok {rs:List Rt}(h:RtsB rs):RtsOk rs:=⟨h.1,fun r hr=>by
 have:=h.2 r hr;unfold RtB at this;exact⟨by omega,by omega⟩⟩
def nsAt (ns:List Int)(j:Nat):Int:=ns.getD j 0
def inN (N:Nat)(x:Int):Prop:=0<=x/\x<(N:Int)
instance (N:Nat)(x:Int):Decidable (inN N x):=by unfold inN;exact inferInstance
theorem take_at {ns:List Int}{j:Nat}(h:j<ns.length):ns.take (j+1)=ns.take j++[nsAt ns j]:=by
 rw[take_succ' ns j h];unfold nsAt;rw[List.getD,List.getElem?_eq_getElem h];rfl
theorem ns_at {ns:List Int}{j:Nat}(h:j<ns.length):ns[j]=nsAt ns j:=by unfold nsAt;rw[List.getD,List.getElem?_eq_getElem h];rfl
end Go.Pf
/-
  Own work. Networks of look-up tables: the laws' helpers (sizes, copies, comparisons, marks).
-/
namespace Go.Pf
open Go Go.Pu
set_option linter.unusedVariables false
abbrev Seq:=Int×(Int×List Int)
abbrev Lut:=List Int×Int
abbrev Net:=Int×(List Seq×(List Lut×List Int))
def SeqB (b:Int)(s:Seq):Prop:=(s.2.2.length:Int)<=b
def LutB (b:Int)(l:Lut):Prop:=(l.1.length:Int)<=b
def SeqsB (ss:List Seq):Prop:=ss.length<=1048576/\∀s∈ss,SeqB (1048576 - ss.length) s
def LutsB (ls:List Lut):Prop:=ls.length<=1048576/\∀l∈ls,LutB (1048576 - ls.length) l
def NetB (n:Net):Prop:=SeqsB n.2.1/\LutsB n.2.2.1/\n.2.2.2.length<=1048576
theorem SeqsB.at {ss:List Seq}(h:SeqsB ss){s:Seq}(hs:s∈ss):s.2.2.length<=1048576:=by
 have:=h.2 s hs;unfold SeqB at this;omega
theorem LutsB.at {ls:List Lut}(h:LutsB ls){l:Lut}(hl:l∈ls):l.1.length<=1048576:=by
 have:=h.2 l hl;unfold LutB at this;omega
end Go.Pf
/-
  Own work. Sorting and inserting, plainly: the reference's sort and the program's insertion into an ascending list.
-/
namespace Go.Pf
open Go Go.Pu
set_option linter.unusedVariables false
theorem joinO_inl {α β:Type}(a:α)(k:α->Option β):joinO (some (.inl a)) k=k a:=rfl
def fm (n:Nat)(g:Nat->List Int):List Int:=(List.range n).flatMap g
def Asc (xs:List Int):Prop:=xs.Pairwise (·<·)
theorem asc_ext {xs ys:List Int}(hx:Asc xs)(hy:Asc ys)(h:∀x,x∈xs↔x∈ys):xs=ys:=by
 induction xs generalizing ys with
 | nil=>
  cases ys with
  | nil=>rfl
  | cons b r=>exact absurd ((h b).2 (by simp)) (by simp)
 | cons a xs ih=>
  cases ys with
  | nil=>exact absurd ((h a).1 (by simp)) (by simp)
  | cons b ys=>
   unfold Asc at hx hy;rw[List.pairwise_cons]at hx hy;have e:a=b:=by
    rcases List.mem_cons.1 ((h a).1 (by simp))with e | e
    ·exact e
    rcases List.mem_cons.1 ((h b).2 (by simp))with e' | e'
    ·exact e'.symm
    have:=hy.1 a e;have:=hx.1 b e';omega
   subst e
   congr 1
   refine ih hx.2 hy.2 (fun x=>⟨fun q=> ?_,fun q=> ?_⟩)
   ·rcases List.mem_cons.1 ((h x).1 (List.mem_cons_of_mem _ q))with e | e
    ·have:=hx.1 x q;omega
    ·exact e
   ·rcases List.mem_cons.1 ((h x).2 (List.mem_cons_of_mem _ q))with e | e
    ·have:=hy.1 x q;omega
    ·exact e
def ins:List Int->Int->List Int
 | [],x=>[x]
 | a::r,x=>if a<x then a::ins r x else if a=x then a::r else x::a::r
theorem ins_cons (a:Int)(r:List Int)(x:Int):ins (a::r) x=if a<x then a::ins r x else if a=x then a::r else x::a::r:=rfl
theorem mem_ins {l:List Int}{x y:Int}:y∈ins l x↔y=x\/y∈l:=by
 induction l with
 | nil=>simp[ins]
 | cons a r ih=>
  unfold ins;split
  ·simp only[List.mem_cons,ih]
   constructor
   ·rintro(e | e | e)
    ·exact Or.inr (Or.inl e)
    ·exact Or.inl e
    ·exact Or.inr (Or.inr e)
   ·rintro(e | e | e)
    ·exact Or.inr (Or.inl e)
    ·exact Or.inl e
    ·exact Or.inr (Or.inr e)
  split
  ·rename_i e;subst e;simp
  ·simp
theorem asc_ins {l:List Int}{x:Int}(h:Asc l):Asc (ins l x):=by
 induction l with
 | nil=>simp[ins,Asc]
 | cons a r ih=>
  unfold Asc at*;have h' :=h;rw[List.pairwise_cons]at h;unfold ins;split
  ·rw[List.pairwise_cons];refine⟨fun y hy=> ?_,ih h.2⟩;rcases mem_ins.1 hy with e | e
   ·omega
   ·exact h.1 y e
  split
  ·exact h'
  ·rw[List.pairwise_cons];refine⟨fun y hy=> ?_,h'⟩;rcases List.mem_cons.1 hy with e | e
   ·omega
   ·have:=h.1 y e;omega
theorem ins_len (l:List Int)(x:Int):(ins l x).length<=l.length+1:=by
 induction l with
 | nil=>simp[ins]
 | cons a r ih=>
  unfold ins;split
  ·simp only[List.length_cons];omega
  split
  ·simp only[List.length_cons];omega
  ·simp only[List.length_cons];omega
def insL (l xs:List Int):List Int:=xs.foldl ins l
theorem insL_nil (l:List Int):insL l []=l:=rfl
theorem insL_app (l xs ys:List Int):insL l (xs++ys)=insL (insL l xs) ys:=by unfold insL;rw[List.foldl_append]
theorem insL_one (l:List Int)(x:Int):insL l [x]=ins l x:=rfl
theorem asc_insL {l xs:List Int}(h:Asc l):Asc (insL l xs):=by
 induction xs generalizing l with
 | nil=>exact h
 | cons a r ih=>exact ih (asc_ins h)
theorem mem_insL {l xs:List Int}{y:Int}:y∈insL l xs↔y∈l\/y∈xs:=by
 induction xs generalizing l with
 | nil=>simp[insL]
 | cons a r ih=>
  show y∈insL (ins l a) r↔_;rw[ih,mem_ins,List.mem_cons]
  constructor
  ·rintro((e | e) | e)
   ·exact Or.inr (Or.inl e)
   ·exact Or.inl e
   ·exact Or.inr (Or.inr e)
  ·rintro(e | e | e)
   ·exact Or.inl (Or.inr e)
   ·exact Or.inl (Or.inl e)
   ·exact Or.inr e
theorem insL_len (l xs:List Int):(insL l xs).length<=l.length+xs.length:=by
 induction xs generalizing l with
 | nil=>simp[insL]
 | cons a r ih=>
  have h1:=ih (ins l a);have h2:=ins_len l a;show(insL (ins l a) r).length<=_;simp only[List.length_cons];omega
theorem asc_nil:Asc []:=List.Pairwise.nil
theorem ins_split {l1 l2:List Int}{x:Int}(h:∀y∈l1,y<x):ins (l1++l2) x=l1++ins l2 x:=by
 induction l1 with
 | nil=>rfl
 | cons a r ih=>
  show ins (a::(r++l2)) x=a::(r++ins l2 x);rw[<-ih (fun y hy=>h y (List.mem_cons_of_mem _ hy))];have:=h a (by simp);rw[ins_cons,if_pos this]
theorem gslice_suf {xs:List Int}{k:Nat}(h:k<=xs.length):gslice xs (k:Int) (xs.length:Int)=some (xs.drop k):=by
 unfold gslice;rw[if_pos ⟨by omega,by omega,by omega⟩];simp
theorem insert_impl (l:List Int)(x:Int)(h:l.length<=1000000000):impl_insertInt (l,x)=some (ins l x):=by
 have key:∀m:Nat,m<=l.length->(∀k (hk:k<m) (q:k<l.length),l[k]<x)->(∀q:m<l.length,¬l[m]<x)->impl_insertInt (l,x)=some (ins l x):=by
  intro m hm h1 h2;have hlt:∀y∈l.take m,y<x:=by
   intro y hy;obtain⟨k,hk,rfl⟩:=List.getElem_of_mem hy;rw[List.length_take]at hk;rw[List.getElem_take];exact h1 k (by omega) (by omega)
  have e0:ins l x=l.take m++ins (l.drop m) x:=by
   rw[<-ins_split hlt,List.take_append_drop]
  unfold impl_insertInt;dsimp only;have hloop:Pu.loop (fun(v1:Int)=>
   let v2:Int:=((l).length:Int)
   let v3:Bool:=decide (v1<v2)
   bif v3 then(
    (gin (l).length v1).bind fun _=>
    (gget 0 l v1).bind fun v5=>
    let v6:Bool:=decide (v5<x)
    bif v6 then(
     let v7:Int:=wrap .i64 (v1+1)
     some (.inl v7))else
    Option.map Sum.inr (
     some (.inl v1)))else
   Option.map Sum.inr (
    some (.inl v1))) 0=some ((.inl (m:Int)):Int⊕List Int):=by
   refine loop_upto m (fun k=>(k:Int)) (fun k hk=> ?_) ?_
   ·dsimp only;rw[dt (by omega),cond_true,gin_nat (by omega),gget_nat (show k<l.length by omega)];simp only[Option.bind_some];rw[dt (h1 k hk (by omega)),cond_true,wrap_ok (by omega)];rfl
   ·dsimp only;by_cases q:m<l.length
    ·rw[dt (by omega),cond_true,gin_nat q,gget_nat q];simp only[Option.bind_some];rw[df (h2 q),cond_false];rfl
    ·rw[df (by omega),cond_false];rfl
  dsimp only at hloop;rw[hloop];rw[joinO_inl];by_cases q:m<l.length
  ·rw[dt (show(m:Int)<(l.length:Int)by omega),cond_true,gin_nat q,gget_nat q];simp only[Option.bind_some];have ed:l.drop m=l[m]::l.drop (m+1):=List.drop_eq_getElem_cons q;by_cases e:l[m]=x
   ·rw[dt e,cond_true,e0]
    conv=>lhs;rw[<-List.take_append_drop m l]
    rw[ed];unfold ins;rw[if_neg (h2 q),if_pos e]
   ·rw[df e,cond_false,gslice_pre (by omega)];simp only[Option.bind_some];rw[gapp_ok (by simp;omega)];simp only[Option.bind_some];rw[gapp_ok (by simp;omega),gslice_suf (by omega)];simp only[Option.bind_some];rw[gapp_ok (by simp;omega),e0,ed];unfold ins;rw[if_neg (h2 q),if_neg e];simp
  ·rw[df (show ¬(m:Int)<(l.length:Int)by omega),cond_false,gslice_pre (by omega)];simp only[Option.bind_some];rw[gapp_ok (by simp;omega)];simp only[Option.bind_some];rw[gapp_ok (by simp;omega),gslice_suf (by omega)];simp only[Option.bind_some];rw[gapp_ok (by simp;omega),e0];have:l.drop m=[]:=by rw[List.drop_eq_nil_iff];omega
   rw[this];simp[ins]
 have hw:∀(r:List Int),∃m:Nat,m<=r.length/\(∀k (hk:k<m) (q:k<r.length),r[k]<x)/\(∀q:m<r.length,¬r[m]<x):=by
  intro r
  induction r with
  | nil=>exact⟨0,by simp,fun k hk=>by omega,fun q=>by simp at q⟩
  | cons a r ih=>
   obtain⟨m,h1,h2,h3⟩:=ih;by_cases q:a<x
   ·refine⟨m+1,by simp only[List.length_cons];omega,fun k hk q' => ?_,fun q' => ?_⟩
    ·cases k with
     | zero=>exact q
     | succ k=>simp only[List.getElem_cons_succ];exact h2 k (by omega) (by simp only[List.length_cons]at q';omega)
    ·simp only[List.getElem_cons_succ];exact h3 (by simp only[List.length_cons]at q';omega)
   ·exact⟨0,by omega,fun k hk=>by omega,fun _=>q⟩
 obtain⟨m,h1,h2,h3⟩:=hw l;exact key m h1 h2 h3
theorem sort_spec (xs:List Int)(h:xs.length<=1000000000):∃o,spec_l27Sort xs=some o/\o.Perm xs/\o.Pairwise (·<=·):=by
 unfold spec_l27Sort;rw[gapp_ok (by simp;omega)];simp only[Option.bind_some,List.nil_append];obtain⟨o,h1,h2⟩:=loop_spec (f:=fun(v2:(Int×List Int))=>
  let v3:Int:=((v2.2).length:Int)
  let v4:Bool:=decide (v2.1<v3)
  bif v4 then(
   joinO (
    Pu.loop (fun(v5:(Int×List Int))=>
     let v6:Bool:=decide (0<v5.1)
     bif v6 then(
      (gin (v5.2).length v5.1).bind fun _=>
      (gget 0 v5.2 v5.1).bind fun v8=>
      let v9:Int:=wrap .i64 (v5.1 - 1)
      (gin (v5.2).length v9).bind fun _=>
      (gget 0 v5.2 v9).bind fun v11=>
      let v12:Bool:=decide (v8<v11)
      bif v12 then(
       (gin (v5.2).length v5.1).bind fun _=>
       (gget 0 v5.2 v5.1).bind fun v14=>
       let v15:Int:=wrap .i64 (v5.1 - 1)
       (gin (v5.2).length v15).bind fun _=>
       (gget 0 v5.2 v15).bind fun v17=>
       (gin (v5.2).length v5.1).bind fun _=>
       (gget 0 v5.2 v5.1).bind fun v19=>
       let v20:Int:=v17
       let v21:List Int:=gset v5.2 v5.1 v20
       let v22:Int:=wrap .i64 (v5.1 - 1)
       (gin (v21).length v22).bind fun _=>
       (gget 0 v21 v22).bind fun v24=>
       let v25:Int:=v14
       let v26:List Int:=gset v21 v22 v25
       let v27:Int:=wrap .i64 (v5.1 - 1)
       some (.inl (v27,v26)))else
      Option.map Sum.inr (
       some (.inl v5.2)))else
     Option.map Sum.inr (
      some (.inl v5.2))) v2) (fun(v5:List Int)=>
    let v6:Int:=wrap .i64 (v2.1+1)
    some (.inl (v6,v5))))else
  Option.map Sum.inr (
   some v2.2)) (fun s=>1<=s.1/\s.2.Perm xs/\(s.2.take s.1.toNat).Pairwise (·<=·)) (fun o=>o.Perm xs/\o.Pairwise (·<=·)) (fun s=>(xs.length - s.1).toNat) (fun s hs=>by
   obtain⟨i,acc⟩:=s;obtain⟨i0,hp,hs⟩:=hs;simp only at i0 hp hs;have hlen:=hp.length_eq;dsimp only;by_cases hi:i<(acc.length:Int)
   ·left
    rw[dt hi,cond_true];obtain⟨n,rfl⟩:∃n:Nat,i=(n:Int):=⟨i.toNat,by omega⟩;have hn:n<acc.length:=by omega
    rw[Int.toNat_natCast]at hs;obtain⟨o,g1,g2⟩:=loop_spec (f:=fun(v5:(Int×List Int))=>
     let v6:Bool:=decide (0<v5.1)
     bif v6 then(
      (gin (v5.2).length v5.1).bind fun _=>
      (gget 0 v5.2 v5.1).bind fun v8=>
      let v9:Int:=wrap .i64 (v5.1 - 1)
      (gin (v5.2).length v9).bind fun _=>
      (gget 0 v5.2 v9).bind fun v11=>
      let v12:Bool:=decide (v8<v11)
      bif v12 then(
       (gin (v5.2).length v5.1).bind fun _=>
       (gget 0 v5.2 v5.1).bind fun v14=>
       let v15:Int:=wrap .i64 (v5.1 - 1)
       (gin (v5.2).length v15).bind fun _=>
       (gget 0 v5.2 v15).bind fun v17=>
       (gin (v5.2).length v5.1).bind fun _=>
       (gget 0 v5.2 v5.1).bind fun v19=>
       let v20:Int:=v17
       let v21:List Int:=gset v5.2 v5.1 v20
       let v22:Int:=wrap .i64 (v5.1 - 1)
       (gin (v21).length v22).bind fun _=>
       (gget 0 v21 v22).bind fun v24=>
       let v25:Int:=v14
       let v26:List Int:=gset v21 v22 v25
       let v27:Int:=wrap .i64 (v5.1 - 1)
       some (.inl (v27,v26)))else
      Option.map Sum.inr (
       some ((.inl v5.2):List Int⊕((Int×List Int)⊕List Int))))else
     Option.map Sum.inr (
      some (.inl v5.2))) (fun s=>∃j:Nat,s.1=(j:Int)/\j<=n/\s.2=(acc.take n).take j++acc[n]::((acc.take n).drop j++acc.drop (n+1))/\∀y∈(acc.take n).drop j,acc[n]<y) (fun o=>∃r,o= .inl r/\r.Perm acc/\(r.take (n+1)).Pairwise (·<=·)) (fun s=>s.1.toNat) (fun s hs2=>by
      obtain⟨z,a⟩:=s;obtain⟨j,ej,hj,ea,hy⟩:=hs2;simp only at ej ea;subst ej ea;dsimp only;have ltn:(acc.take n).length=n:=by rw[List.length_take];omega
      generalize hP:acc.take n=P at*;generalize hR:acc.drop (n+1)=R at*;generalize hx:acc[n]=x at*;have hacc:acc=P++x::R:=by
       rw[<-hP,<-hR,<-hx,<-List.drop_eq_getElem_cons hn,List.take_append_drop]
      have ltj:(P.take j).length=j:=by rw[List.length_take];omega
      have done:(∀y∈P.take j,y<=x)->(P.take j++x::(P.drop j++R)).Perm acc/\((P.take j++x::(P.drop j++R)).take (n+1)).Pairwise (·<=·):=by
       intro hle
       constructor
       ·rw[hacc];have e1:(P.take j++x::(P.drop j++R)).Perm (x::(P.take j++(P.drop j++R))):=List.perm_middle;refine e1.trans ?_
        rw[<-List.append_assoc,List.take_append_drop];exact List.perm_middle.symm
       ·have e2:(P.take j++x::(P.drop j++R)).take (n+1)=P.take j++x::P.drop j:=by
         have:P.take j++x::(P.drop j++R)=(P.take j++x::P.drop j)++R:=by simp
         rw[this,List.take_left'];simp only[List.length_append,List.length_cons,ltj,List.length_drop,ltn];omega
        rw[e2,List.pairwise_append];have hs' :(P.take j++P.drop j).Pairwise (·<=·):=by rw[List.take_append_drop];exact hs
        rw[List.pairwise_append]at hs';refine⟨hs'.1,?_,?_⟩
        ·rw[List.pairwise_cons];exact⟨fun y q=>Int.le_of_lt (hy y q),hs'.2.1⟩
        ·intro y q z q2;rcases List.mem_cons.1 q2 with e | e
         ·rw[e];exact hle y q
         ·exact hs'.2.2 y q z e
      by_cases j0:j=0
      ·right
       subst j0;rw[df (by omega),cond_false];have:=done (by simp);exact⟨_,rfl,_,rfl,this.1,this.2⟩
      ·obtain⟨m,rfl⟩:∃m,j=m+1:=⟨j - 1,by omega⟩;have hm:m<P.length:=by omega
       have etk:P.take (m+1)=P.take m++[P[m]]:=take_succ' P m hm;have ltm:(P.take m).length=m:=by rw[List.length_take];omega
       have lall:(P.take (m+1)++x::(P.drop (m+1)++R)).length=acc.length:=by
        rw[hacc];simp only[List.length_append,List.length_cons,List.length_take,List.length_drop,ltn];omega
       have g1:(P.take (m+1)++x::(P.drop (m+1)++R))[m+1]? =some x:=by
        rw[List.getElem?_append_right (by omega),ltj];simp
       have g2:(P.take (m+1)++x::(P.drop (m+1)++R))[m]? =some P[m]:=by
        rw[List.getElem?_append_left (by omega),etk,List.getElem?_append_right (by omega),ltm];simp
       have hb1:m+1<(P.take (m+1)++x::(P.drop (m+1)++R)).length:=by omega
       have hb2:m<(P.take (m+1)++x::(P.drop (m+1)++R)).length:=by omega
       have e1:(P.take (m+1)++x::(P.drop (m+1)++R))[m+1]=x:=by
        rw[List.getElem?_eq_getElem hb1]at g1;exact Option.some.inj g1
       have e2:(P.take (m+1)++x::(P.drop (m+1)++R))[m]=P[m]:=by
        rw[List.getElem?_eq_getElem hb2]at g2;exact Option.some.inj g2
       have hw:wrap .i64 (((m+1:Nat):Int) - 1)=(m:Int):=by rw[wrap_ok (by omega)];omega
       rw[dt (by omega),cond_true,gin_nat hb1,gget_nat hb1,hw,gin_nat hb2,gget_nat hb2,e1,e2];simp only[Option.bind_some];by_cases q:x<P[m]
       ·left
        rw[dt q,cond_true,gset_nat,List.length_set,gin_nat hb2,gget_nat (by rw[List.length_set];exact hb2)];simp only[Option.bind_some];rw[gset_nat];refine⟨_,rfl,⟨m,rfl,by omega,?_,?_⟩,by simp only;omega⟩
        ·simp only;have edr:P.drop m=P[m]::P.drop (m+1):=List.drop_eq_getElem_cons hm;rw[edr,etk,List.append_assoc];rw[List.set_append_right _ _ (by omega),List.set_append_right _ _ (by omega),ltm];have:m+1 - m=1:=by omega
         rw[this,Nat.sub_self];simp;rw[edr];rfl
        ·have edr:P.drop m=P[m]::P.drop (m+1):=List.drop_eq_getElem_cons hm;rw[edr];intro y qy;rcases List.mem_cons.1 qy with e | e
         ·rw[e];exact q
         ·exact hy y e
       ·right
        rw[df q,cond_false];have:=done (by
         intro y qy;rw[etk]at qy;have hs' :(P.take (m+1)).Pairwise (·<=·):=hs.sublist (List.take_sublist _ _);rw[etk,List.pairwise_append]at hs';rcases List.mem_append.1 qy with e | e
         ·have:=hs'.2.2 y e P[m] (by simp);omega
         ·have:=List.mem_singleton.1 e;omega)
        exact⟨_,rfl,_,rfl,this.1,this.2⟩) ((n:Int),acc) ⟨n,rfl,Nat.le_refl _,by
         simp only;have ltn:(acc.take n).length=n:=by rw[List.length_take];omega
         have d0:(acc.take n).drop n=[]:=by rw[List.drop_eq_nil_iff];omega
         have d1:(acc.take n).take n=acc.take n:=List.take_of_length_le (by omega);rw[d0,d1,List.nil_append,<-List.drop_eq_getElem_cons hn,List.take_append_drop],by
         have d0:(acc.take n).drop n=[]:=by rw[List.drop_eq_nil_iff,List.length_take];omega
         rw[d0];simp⟩
    obtain⟨r,rfl,g3,g4⟩:=g2;dsimp only at g1;rw[g1];rw[joinO_inl,wrap_ok (by omega)];have e3:((n:Int)+1).toNat=n+1:=by omega
    refine⟨_,rfl,⟨by simp only;omega,g3.trans hp,by simp only[e3];exact g4⟩,by simp only;omega⟩
   ·right
    rw[df hi,cond_false];refine⟨acc,rfl,hp,?_⟩;rw[List.take_of_length_le (by omega)]at hs;exact hs) (1,xs) ⟨by simp,List.Perm.refl _,by
     simp only;cases xs with
     | nil=>simp
     | cons a r=>simp⟩
 exact⟨o,h1,h2⟩
end Go.Pf
/-
  Own work. Cuts by a line, plainly.
-/
namespace Go.Pf
open Go Go.Pu
set_option linter.unusedVariables false
end Go.Pf
/-
  Own work. A connection's nodes, plainly.
-/
namespace Go.Pf
open Go Go.Pu
set_option linter.unusedVariables false
end Go.Pf
/-
  Own work. The nodes that lead into a node: the program's and the reference's, plainly.
-/
namespace Go.Pf
open Go Go.Pu
set_option linter.unusedVariables false
def opp (dir:Int):Int:=(dir+2) % 4
def wn (d:Dev)(s dir trk:Int):Int:=if 0<=s/\0<=stp d s dir (1+trk % 2)then s*per d+7+dir*d.2.2.1+trk else -1
def skipP (d:Dev)(p wd wt dir trk:Int):Prop:=(7<=p/\(dir=opp wd\/(trk≠wt/\trk≠(wt+1) % d.2.2.1)))\/(p<7/\1<d.2.2.1/\(trk+p) % 2=1)
instance (d:Dev)(p wd wt dir trk:Int):Decidable (skipP d p wd wt dir trk):=by unfold skipP;exact inferInstance
def pos1 (v:Int):List Int:=if 0<=v then [v]else []
def oneP (d:Dev)(t p dir trk:Int)(j:Nat):List Int:=if 7<=p/\(j:Int)+1<1+trk % 2 then []else pos1 (wn d (stp d t (opp dir) ((j:Int)+1)) dir trk)
def candP (d:Dev)(t p wd wt:Int)(dir trk:Nat):List Int:=if skipP d p wd wt dir trk then []else fm (1+(trk:Int) % 2).toNat (oneP d t p dir trk)
def dirP (d:Dev)(t p wd wt:Int)(dir:Nat):List Int:=fm d.2.2.1.toNat (candP d t p wd wt dir)
def rawP (d:Dev)(t p wd wt:Int):List Int:=fm 4 (dirP d t p wd wt)
def outsP (d:Dev)(t:Int):List Int:=if 1<outP (tk d t)then [t*per d+5,t*per d+6]else [t*per d+5]
def s0P (d:Dev)(n:Int):List Int:=if 7<=nPin d n then outsP d (nTile d n)else []
def rawN (d:Dev)(n:Int):List Int:=s0P d n++rawP d (nTile d n) (nPin d n) (wDir d n) (wTrk d n)
def srcsP (d:Dev)(n:Int):List Int:=if rnOkP d n/\¬(nPin d n=5\/nPin d n=6)then insL [] (rawN d n)else []
end Go.Pf
/-
  Own work. Costs, paths' costs, routes, plainly.
-/
namespace Go.Pf
open Go Go.Pu
set_option linter.unusedVariables false
def costsP (d:Dev)(cs:List Int):Prop:=DOk d/\(cs.length:Int)=nodesN d/\∀c∈cs,1<=c/\c<=100000
instance (d:Dev)(cs:List Int):Decidable (costsP d cs):=by unfold costsP;exact inferInstance
def pAt (xs:List Int)(i:Int):Int:=xs.getD i.toNat 0
def roOk (d:Dev)(src:Int)(snks ns ps:List Int)(k:Nat):Prop:=
 rnOkP d (nsAt ns k)/\nsAt ns k∉ns.take k/\(if k=0 then nsAt ns 0=src/\nsAt ps 0=0/\(nPin d (nsAt ns 0)=5\/nPin d (nsAt ns 0)=6)
  else(0<=nsAt ps k/\nsAt ps k<(k:Int))/\pAt ns (nsAt ps k)∈srcsP d (nsAt ns k)/\(nPin d (nsAt ns k)<5->nsAt ns k∈snks))
instance (d:Dev)(src:Int)(snks ns ps:List Int)(k:Nat):Decidable (roOk d src snks ns ps k):=by unfold roOk;exact inferInstance
theorem nsAt_get {ns:List Int}{k:Nat}(h:k<ns.length):gget 0 ns (k:Int)=some (nsAt ns k):=by rw[gget_nat h,ns_at h]
end Go.Pf
/-
  Own work. Cheapest distances in a graph, plainly: what they are, and that they are unique; loops with results that are only described; the program's queue.
-/
namespace Go.Pf
open Go Go.Pu
set_option linter.unusedVariables false
def psum (p:Int->Nat):List Int->Nat
 | []=>0
 | a::r=>p a+psum p r
def cnt (D:List Int):Nat:=psum (fun x=>if 0<=x then 1 else 0) D
end Go.Pf
/-
  Own work. Networks of look-up tables: when they are well formed; how often their nodes are used.
-/
namespace Go.Pf
open Go Go.Pu
set_option linter.unusedVariables false
def belowP (xs:List Int)(m:Int):Bool:=xs.all fun x=>decide (0<=x/\x<m)
theorem belowP_mem {xs:List Int}{m:Int}(h:belowP xs m=true):∀x∈xs,0<=x/\x<m:=fun x hx=>of_decide_eq_true (List.all_eq_true.1 h x hx)
theorem below_eq (xs:List Int)(m:Int):belowP xs m=if(List.range xs.length).all (fun k=>if hk:k<xs.length then decide (0<=xs[k]/\xs[k]<m)else true)=true then true else false:=by
 rw[all_range_list xs (fun x=>decide (0<=x/\x<m)) _ (fun k hk=>by rw[dif_pos hk])];show belowP xs m=if belowP xs m=true then true else false
 cases belowP xs m<;>rfl
theorem below_spec (xs:List Int)(m:Int)(hl:xs.length<=1048576):spec_l20Below (xs,m)=some (belowP xs m):=by
 unfold spec_l20Below;rw[below_eq];refine loop_all xs.length (fun k=>(k:Int)) _ false true (fun k hk hok=> ?_) (fun k hk hok=> ?_) ?_
 ·rw[dif_pos hk]at hok;have hok:=of_decide_eq_true hok
  try dsimp only
  rw[dt (show(k:Int)<(xs.length:Int)by omega),cond_true,gget_nat hk];simp only[Option.bind_some];rw[df (show ¬xs[k]<0 by omega),cond_false,df (show ¬m<=xs[k]by omega),cond_false,wrap_ok (by omega)];rfl
 ·rw[dif_pos hk]at hok;have hok:=of_decide_eq_false hok
  try dsimp only
  rw[dt (show(k:Int)<(xs.length:Int)by omega),cond_true,gget_nat hk];simp only[Option.bind_some];by_cases g:xs[k]<0
  ·rw[dt g];rfl
  ·rw[df g,cond_false,dt (show m<=xs[k]by omega)];rfl
 ·try dsimp only
  rw[df (by omega),cond_false];rfl
theorem below_impl (xs:List Int)(m:Int)(hl:xs.length<=1048576)(hm: -1000<=m/\m<=10000000):impl_nodesBelow (xs,m)=some (belowP xs m):=by
 unfold impl_nodesBelow;rw[below_eq]
 try dsimp only
 refine loop_all xs.length (fun k=>(k:Int)) _ false true (fun k hk hok=> ?_) (fun k hk hok=> ?_) ?_
 ·rw[dif_pos hk]at hok;have hok:=of_decide_eq_true hok
  try dsimp only
  rw[dt (show(k:Int)<(xs.length:Int)by omega),cond_true,gget_nat hk];simp only[Option.bind_some];rw[wrap_ok (z:=m - 1) (by omega),inR_impl];simp only[Option.bind_some];rw[dt (by omega),Bool.not_true,cond_false,wrap_ok (by omega)];rfl
 ·rw[dif_pos hk]at hok;have hok:=of_decide_eq_false hok
  try dsimp only
  rw[dt (show(k:Int)<(xs.length:Int)by omega),cond_true,gget_nat hk];simp only[Option.bind_some];rw[wrap_ok (z:=m - 1) (by omega),inR_impl];simp only[Option.bind_some];rw[df (by omega)];rfl
 ·try dsimp only
  rw[df (by omega),cond_false];rfl
def lnOk (n:Net):Prop:=(0<=n.1/\n.1<=20)/\n.2.1.length<=12/\n.2.2.1.length<=400/\n.2.2.2.length<=16
instance (n:Net):Decidable (lnOk n):=by unfold lnOk;exact inferInstance
def fstP (n:Net):Int:=1+n.1+n.2.1.length
def lnV (n:Net):Int:=fstP n+n.2.2.1.length
def lnP (n:Net):Int:=if lnOk n then lnV n else 0
theorem lnV_le {n:Net}(h:lnOk n):(1<=fstP n/\fstP n<=33)/\1<=lnV n/\lnV n<=433:=by
 obtain⟨h1,h2,h3,h4⟩:=h;unfold lnV fstP;omega
theorem ln_spec (n:Net):spec_LutNodes n=some (lnP n):=by
 unfold spec_LutNodes lnP
 try dsimp only
 rw[inR_spec];simp only[Option.bind_some];by_cases h1:0<=n.1/\n.1<=20
 rotate_left
 ·rw[df h1,if_neg (fun e=>h1 e.1)];rfl
 rw[dt h1,Bool.not_true,cond_false];by_cases h2:12<(n.2.1.length:Int)
 ·rw[dt h2,if_neg (fun e=>by have:=e.2.1;omega)];rfl
 rw[df h2,cond_false];by_cases h3:400<(n.2.2.1.length:Int)
 ·rw[dt h3,if_neg (fun e=>by have:=e.2.2.1;omega)];rfl
 rw[df h3,cond_false];by_cases h4:16<(n.2.2.2.length:Int)
 ·rw[dt h4,if_neg (fun e=>by have:=e.2.2.2;omega)];rfl
 rw[df h4,cond_false,if_pos ⟨h1,by omega,by omega,by omega⟩,wrap_ok (z:=1+n.1) (by omega),wrap_ok (z:=1+n.1+(n.2.1.length:Int)) (by omega),wrap_ok (by omega)];rfl
theorem lnv_impl {n:Net}(h:lnOk n):impl_lutNodes n=some (lnV n):=by
 obtain⟨h1,h2,h3,h4⟩:=h;unfold impl_lutNodes
 try dsimp only
 rw[wrap_ok (z:=1+n.1) (by omega),wrap_ok (z:=1+n.1+(n.2.1.length:Int)) (by omega),wrap_ok (by omega)];rfl
theorem ln_impl (n:Net):impl_LutNodes n=some (lnP n):=by
 unfold impl_LutNodes lnP
 try dsimp only
 rw[inR_impl];simp only[Option.bind_some];by_cases h1:0<=n.1/\n.1<=20
 rotate_left
 ·rw[df h1,if_neg (fun e=>h1 e.1)];rfl
 rw[dt h1,Bool.not_true,cond_false];by_cases h2:12<(n.2.1.length:Int)
 ·rw[dt h2,if_neg (fun e=>by have:=e.2.1;omega)];rfl
 rw[df h2,cond_false];by_cases h3:400<(n.2.2.1.length:Int)
 ·rw[dt h3,if_neg (fun e=>by have:=e.2.2.1;omega)];rfl
 rw[df h3,cond_false];by_cases h4:16<(n.2.2.2.length:Int)
 ·rw[dt h4,if_neg (fun e=>by have:=e.2.2.2;omega)];rfl
 have hl:lnOk n:=⟨h1,by omega,by omega,by omega⟩;rw[df h4,cond_false,if_pos hl,lnv_impl hl];rfl
theorem fst_spec {n:Net}(h:lnOk n):spec_l20First n=some (fstP n):=by
 obtain⟨h1,h2,h3,h4⟩:=h;unfold spec_l20First
 try dsimp only
 rw[wrap_ok (z:=1+n.1) (by omega),wrap_ok (by omega)];rfl
theorem fst_impl {n:Net}(h:lnOk n):impl_firstLut n=some (fstP n):=fst_spec h
def fullP (k:Int):Int:=if k=0 then 1 else if k=1 then 3 else if k=2 then 15 else if k=3 then 255 else 65535
def tblP (k t:Int):Prop:=(0<=k/\k<=4)/\0<=t/\t<=fullP k
instance (k t:Int):Decidable (tblP k t):=by unfold tblP;exact inferInstance
theorem full_cases {k:Int}(h:0<=k/\k<=4):spec_l02Full k=some (fullP k):=by
 have:k=0\/k=1\/k=2\/k=3\/k=4:=by omega
 rcases this with rfl | rfl | rfl | rfl | rfl<;>rfl
theorem tbl_spec (k t:Int):spec_TableOk (k,t)=some (decide (tblP k t)):=by
 unfold spec_TableOk;rw[inR_spec];simp only[Option.bind_some];by_cases h:0<=k/\k<=4
 rotate_left
 ·rw[df h,df (show ¬tblP k t from fun e=>h e.1)];rfl
 rw[dt h,cond_true];by_cases h2:0<=t
 rotate_left
 ·rw[df h2,df (show ¬tblP k t from fun e=>h2 e.2.1)];rfl
 rw[dt h2,cond_true,full_cases h];simp only[Option.bind_some]
 congr 1
 rw[decide_eq_decide];exact⟨fun e=>⟨h,h2,e⟩,fun e=>e.2.2⟩
theorem tbl_impl (k t:Int):impl_TableOk (k,t)=some (decide (tblP k t)):=by
 unfold impl_TableOk;rw[inR_impl];simp only[Option.bind_some];by_cases h:0<=k/\k<=4
 rotate_left
 ·rw[df h,df (show ¬tblP k t from fun e=>h e.1)];rfl
 rw[dt h,cond_true];have hf:(gshift true .u64 1 (wrap .u64 k)).bind (fun v3=>(gshift true .i64 1 v3).bind fun v4=>some (wrap .i64 (v4 - 1)))=some (fullP k):=by
  have:k=0\/k=1\/k=2\/k=3\/k=4:=by omega
  rcases this with rfl | rfl | rfl | rfl | rfl<;>rfl
 have hf2:∀g:Int->Option Bool,(gshift true .u64 1 (wrap .u64 k)).bind (fun v3=>(gshift true .i64 1 v3).bind fun v4=>g (wrap .i64 (v4 - 1)))=((gshift true .u64 1 (wrap .u64 k)).bind (fun v3=>(gshift true .i64 1 v3).bind fun v4=>some (wrap .i64 (v4 - 1)))).bind g:=by
  intro g;cases gshift true .u64 1 (wrap .u64 k)with
  | none=>rfl
  | some v=>
   simp only[Option.bind_some];cases gshift true .i64 1 v<;>rfl
 have:=hf2 (fun v5=>(impl_inRange (t,(0,v5))).bind fun v6=>some v6)
 try dsimp only
 rw[this,hf];simp only[Option.bind_some];rw[inR_impl];simp only[Option.bind_some]
 congr 1
 rw[decide_eq_decide];exact⟨fun e=>⟨h,e⟩,fun e=>e.2⟩
def seqP (s:Seq):Prop:=(s.1=0/\(0<=s.2.1/\s.2.1<=1)/\s.2.2.length=1)\/(s.1=1/\(0<=s.2.1/\s.2.1<=31)/\s.2.2.length=4)
instance (s:Seq):Decidable (seqP s):=by unfold seqP;exact inferInstance
theorem seq_impl (s:Seq):impl_seqOk s=some (decide (seqP s)):=by
 unfold impl_seqOk
 try dsimp only
 rw[inR_impl,inR_impl];simp only[Option.bind_some];by_cases h0:s.1=0
 ·rw[dt h0,cond_true];by_cases h1:0<=s.2.1/\s.2.1<=1
  ·rw[dt h1,cond_true]
   congr 1
   rw[decide_eq_decide];exact⟨fun e=>Or.inl ⟨h0,h1,by omega⟩,fun e=>by rcases e with e | e<;>omega⟩
  ·rw[df h1,df (show ¬seqP s from fun e=>by rcases e with e | e<;>omega)];rfl
 ·rw[df h0,cond_false];by_cases h1:s.1=1
  ·rw[dt h1,cond_true];by_cases h2:0<=s.2.1/\s.2.1<=31
   ·rw[dt h2,cond_true]
    congr 1
    rw[decide_eq_decide];exact⟨fun e=>Or.inr ⟨h1,h2,by omega⟩,fun e=>by rcases e with e | e<;>omega⟩
   ·rw[df h2,df (show ¬seqP s from fun e=>by rcases e with e | e<;>omega)];rfl
  ·rw[df h1,df (show ¬seqP s from fun e=>by rcases e with e | e<;>omega)];rfl
def sqAt (ss:List Seq)(k:Nat):Seq:=ss.getD k (0,(0,[]))
def ltAt (ls:List Lut)(k:Nat):Lut:=ls.getD k ([],0)
theorem sq_get {ss:List Seq}{k:Nat}(h:k<ss.length):gget ((0,(0,[])):Seq) ss (k:Int)=some (sqAt ss k)/\sqAt ss k∈ss:=by
 unfold sqAt;rw[gget_nat h,List.getD,List.getElem?_eq_getElem h];exact⟨rfl,List.getElem_mem h⟩
theorem lt_get {ls:List Lut}{k:Nat}(h:k<ls.length):gget (([],0):Lut) ls (k:Int)=some (ltAt ls k)/\ltAt ls k∈ls:=by
 unfold ltAt;rw[gget_nat h,List.getD,List.getElem?_eq_getElem h];exact⟨rfl,List.getElem_mem h⟩
def sqOk (n:Net)(k:Nat):Prop:=seqP (sqAt n.2.1 k)/\belowP (sqAt n.2.1 k).2.2 (lnV n)=true
def ltOk (n:Net)(k:Nat):Prop:=tblP ((ltAt n.2.2.1 k).1.length:Int) (ltAt n.2.2.1 k).2/\belowP (ltAt n.2.2.1 k).1 (fstP n+k)=true
instance (n:Net)(k:Nat):Decidable (sqOk n k):=by unfold sqOk;exact inferInstance
instance (n:Net)(k:Nat):Decidable (ltOk n k):=by unfold ltOk;exact inferInstance
def netP (n:Net):Bool:=
 if lnOk n/\belowP n.2.2.2 (lnV n)=true then(if(List.range n.2.1.length).all (fun k=>decide (sqOk n k))=true then(if(List.range n.2.2.1.length).all (fun k=>decide (ltOk n k))=true then true else false)else false)else false
theorem netP_all {n:Net}(h:netP n=true):lnOk n/\belowP n.2.2.2 (lnV n)=true/\(∀k,k<n.2.1.length->sqOk n k)/\(∀k,k<n.2.2.1.length->ltOk n k):=by
 unfold netP at h;split at h
 rotate_left
 ·simp at h
 rename_i h1;split at h
 rotate_left
 ·simp at h
 rename_i h2;split at h
 rotate_left
 ·simp at h
 rename_i h3;exact⟨h1.1,h1.2,fun k hk=>of_decide_eq_true (List.all_eq_true.1 h2 k (List.mem_range.2 hk)),fun k hk=>of_decide_eq_true (List.all_eq_true.1 h3 k (List.mem_range.2 hk))⟩
theorem net_spec (n:Net)(h:NetB n):spec_LutNetOk n=some (netP n):=by
 unfold spec_LutNetOk netP;rw[ln_spec];simp only[Option.bind_some];by_cases hl:lnOk n
 rotate_left
 ·have e:lnP n=0:=by unfold lnP;rw[if_neg hl]
  rw[dt e,if_neg (fun e=>hl e.1)];rfl
 have e:lnP n=lnV n:=by unfold lnP;rw[if_pos hl]
 have hv:=lnV_le hl;rw[e,df (show ¬lnV n=0 by omega),cond_false,below_spec _ _ h.2.2];simp only[Option.bind_some];cases ho:belowP n.2.2.2 (lnV n)with
 | false=>rw[if_neg (by simp)];rfl
 | true=>
 rw[if_pos ⟨hl,rfl⟩,Bool.not_true,cond_false];have hl2:=hl.2.1;have hl3:=hl.2.2.1;refine loop_all n.2.1.length (fun k=>(k:Int)) _ false _ (fun k hk hok=> ?_) (fun k hk hok=> ?_) ?_
 ·have hok:=of_decide_eq_true hok;obtain⟨g1,g2⟩:=sq_get hk;have gl:=h.1.at g2;obtain⟨o1,o2⟩:=hok
  try dsimp only
  rw[dt (show(k:Int)<(n.2.1.length:Int)by omega),cond_true,g1];simp only[Option.bind_some];rw[below_spec _ _ gl,inR_spec,inR_spec,o2,wrap_ok (by omega)];simp only[Option.bind_some];generalize sqAt n.2.1 k=s at*;rcases o1 with⟨p1,p2,p3⟩ | ⟨p1,p2,p3⟩
  ·rw[dt p1,cond_true,dt p2,cond_true,dt (show(s.2.2.length:Int)=1 by omega)];rfl
  ·rw[df (show ¬s.1=0 by omega),cond_false,dt p1,cond_true,dt p2,cond_true,dt (show(s.2.2.length:Int)=4 by omega)];rfl
 ·have hok:=of_decide_eq_false hok;obtain⟨g1,g2⟩:=sq_get hk;have gl:=h.1.at g2;unfold sqOk at hok
  try dsimp only
  rw[dt (show(k:Int)<(n.2.1.length:Int)by omega),cond_true,g1];simp only[Option.bind_some];rw[below_spec _ _ gl,inR_spec,inR_spec,wrap_ok (by omega)];simp only[Option.bind_some];generalize sqAt n.2.1 k=s at*;by_cases h0:s.1=0
  ·rw[dt h0,cond_true,df (show ¬s.1=1 by omega)];by_cases h1:0<=s.2.1/\s.2.1<=1
   ·rw[dt h1,cond_true];by_cases h2:(s.2.2.length:Int)=1
    ·rw[dt h2,cond_true];cases hb:belowP s.2.2 (lnV n)with
     | false=>rfl
     | true=>exact absurd ⟨Or.inl ⟨h0,h1,by omega⟩,hb⟩ hok
    ·rw[df h2];rfl
   ·rw[df h1];rfl
  ·rw[df h0,cond_false];by_cases h1:s.1=1
   ·rw[dt h1,cond_true];by_cases h2:0<=s.2.1/\s.2.1<=31
    ·rw[dt h2,cond_true];by_cases h3:(s.2.2.length:Int)=4
     ·rw[dt h3];cases hb:belowP s.2.2 (lnV n)with
      | false=>rfl
      | true=>exact absurd ⟨Or.inr ⟨h1,h2,by omega⟩,hb⟩ hok
     ·rw[df h3];rfl
    ·rw[df h2];rfl
   ·rw[df h1];rfl
 ·try dsimp only
  rw[df (by omega),cond_false];refine(Option.map_eq_some_iff).2 ⟨_,?_,rfl⟩;refine loop_all n.2.2.1.length (fun k=>(k:Int)) _ false true (fun k hk hok=> ?_) (fun k hk hok=> ?_) ?_
  ·have hok:=of_decide_eq_true hok;obtain⟨g1,g2⟩:=lt_get hk;have gl:=h.2.1.at g2;obtain⟨o1,o2⟩:=hok
   try dsimp only
   rw[dt (show(k:Int)<(n.2.2.1.length:Int)by omega),cond_true,g1];simp only[Option.bind_some];rw[tbl_spec,fst_spec hl];simp only[Option.bind_some];rw[dt o1,Bool.not_true,cond_false,wrap_ok (z:=fstP n+(k:Int)) (by omega),below_spec _ _ gl,o2,wrap_ok (by omega)];rfl
  ·have hok:=of_decide_eq_false hok;obtain⟨g1,g2⟩:=lt_get hk;have gl:=h.2.1.at g2;unfold ltOk at hok
   try dsimp only
   rw[dt (show(k:Int)<(n.2.2.1.length:Int)by omega),cond_true,g1];simp only[Option.bind_some];rw[tbl_spec,fst_spec hl];simp only[Option.bind_some];by_cases o1:tblP ((ltAt n.2.2.1 k).1.length:Int) (ltAt n.2.2.1 k).2
   rotate_left
   ·rw[df o1];rfl
   rw[dt o1,Bool.not_true,cond_false,wrap_ok (z:=fstP n+(k:Int)) (by omega),below_spec _ _ gl];simp only[Option.bind_some];cases hb:belowP (ltAt n.2.2.1 k).1 (fstP n+k)with
   | false=>rfl
   | true=>exact absurd ⟨o1,hb⟩ hok
  ·try dsimp only
   rw[df (by omega),cond_false];rfl
theorem net_impl (n:Net)(h:NetB n):impl_LutNetOk n=some (netP n):=by
 unfold impl_LutNetOk netP;rw[ln_impl];simp only[Option.bind_some];by_cases hl:lnOk n
 rotate_left
 ·have e:lnP n=0:=by unfold lnP;rw[if_neg hl]
  rw[dt e,if_neg (fun e=>hl e.1)];rfl
 have e:lnP n=lnV n:=by unfold lnP;rw[if_pos hl]
 have hv:=lnV_le hl;rw[e,df (show ¬lnV n=0 by omega),cond_false,below_impl _ _ h.2.2 (by omega)];simp only[Option.bind_some];cases ho:belowP n.2.2.2 (lnV n)with
 | false=>rw[if_neg (by simp)];rfl
 | true=>
 rw[if_pos ⟨hl,rfl⟩,Bool.not_true,cond_false];have hl2:=hl.2.1;have hl3:=hl.2.2.1;refine loop_all n.2.1.length (fun k=>(k:Int)) _ false _ (fun k hk hok=> ?_) (fun k hk hok=> ?_) ?_
 ·have hok:=of_decide_eq_true hok;obtain⟨g1,g2⟩:=sq_get hk;have gl:=h.1.at g2;obtain⟨o1,o2⟩:=hok
  try dsimp only
  rw[dt (show(k:Int)<(n.2.1.length:Int)by omega),cond_true,g1];simp only[Option.bind_some];rw[seq_impl,dt o1,below_impl _ _ gl (by omega),o2,wrap_ok (by omega)];rfl
 ·have hok:=of_decide_eq_false hok;obtain⟨g1,g2⟩:=sq_get hk;have gl:=h.1.at g2;unfold sqOk at hok
  try dsimp only
  rw[dt (show(k:Int)<(n.2.1.length:Int)by omega),cond_true,g1];simp only[Option.bind_some];rw[seq_impl,below_impl _ _ gl (by omega)];simp only[Option.bind_some];by_cases o1:seqP (sqAt n.2.1 k)
  ·rw[dt o1,Bool.not_true,cond_false];cases hb:belowP (sqAt n.2.1 k).2.2 (lnV n)with
   | false=>rfl
   | true=>exact absurd ⟨o1,hb⟩ hok
  ·rw[df o1];rfl
 ·try dsimp only
  rw[df (by omega),cond_false];refine(Option.map_eq_some_iff).2 ⟨_,?_,rfl⟩;refine loop_all n.2.2.1.length (fun k=>(k:Int)) _ false true (fun k hk hok=> ?_) (fun k hk hok=> ?_) ?_
  ·have hok:=of_decide_eq_true hok;obtain⟨g1,g2⟩:=lt_get hk;have gl:=h.2.1.at g2;obtain⟨o1,o2⟩:=hok;have o11:=o1.1
   try dsimp only
   rw[dt (show(k:Int)<(n.2.2.1.length:Int)by omega),cond_true,g1];simp only[Option.bind_some];rw[df (show ¬4<((ltAt n.2.2.1 k).1.length:Int)by omega),cond_false,fst_impl hl];simp only[Option.bind_some];rw[wrap_ok (z:=fstP n+(k:Int)) (by omega),below_impl _ _ gl (by omega),o2,tbl_impl,dt o1,wrap_ok (by omega)];rfl
  ·have hok:=of_decide_eq_false hok;obtain⟨g1,g2⟩:=lt_get hk;have gl:=h.2.1.at g2;unfold ltOk at hok
   try dsimp only
   rw[dt (show(k:Int)<(n.2.2.1.length:Int)by omega),cond_true,g1];simp only[Option.bind_some];by_cases o0:4<((ltAt n.2.2.1 k).1.length:Int)
   ·rw[dt o0];rfl
   rw[df o0,cond_false,fst_impl hl];simp only[Option.bind_some];rw[wrap_ok (z:=fstP n+(k:Int)) (by omega),below_impl _ _ gl (by omega),tbl_impl];simp only[Option.bind_some];cases hb:belowP (ltAt n.2.2.1 k).1 (fstP n+k)with
   | false=>rfl
   | true=>
    rw[Bool.not_true,cond_false,df (show ¬tblP ((ltAt n.2.2.1 k).1.length:Int) (ltAt n.2.2.1 k).2 from fun e=>hok ⟨e,hb⟩)];rfl
  ·try dsimp only
   rw[df (by omega),cond_false];rfl
def inc1 (c:List Int)(x:Int):List Int:=gset c x (wrap .i64 (nsAt c x.toNat+1))
def incL (c xs:List Int):List Int:=xs.foldl inc1 c
theorem inc1_len (c:List Int)(x:Int):(inc1 c x).length=c.length:=by unfold inc1 gset;rw[List.length_set]
theorem incL_len (c xs:List Int):(incL c xs).length=c.length:=by
 induction xs generalizing c with
 | nil=>rfl
 | cons a r ih=>show(incL (inc1 c a) r).length=_;rw[ih,inc1_len]
theorem incL_take (c xs:List Int)(k:Nat)(h:k<xs.length):incL c (xs.take (k+1))=inc1 (incL c (xs.take k)) (nsAt xs k):=by
 unfold incL;rw[take_at h,List.foldl_append];rfl
def incA (c:List Int)(xss:Nat->List Int):Nat->List Int
 | 0=>c
 | k+1=>incL (incA c xss k) (xss k)
theorem incA_len (c:List Int)(xss:Nat->List Int)(k:Nat):(incA c xss k).length=c.length:=by
 induction k with
 | zero=>rfl
 | succ k ih=>show(incL _ _).length=_;rw[incL_len,ih]
def usesP (n:Net):List Int:=incL (incA (incA (List.replicate (lnV n).toNat 0) (fun k=>(ltAt n.2.2.1 k).1) n.2.2.1.length) (fun k=>(sqAt n.2.1 k).2.2) n.2.1.length) n.2.2.2
theorem usesP_len (n:Net):(usesP n).length=(lnV n).toNat:=by
 unfold usesP;rw[incL_len,incA_len,incA_len];simp
theorem gget_ns {c:List Int}{x:Int}(h0:0<=x)(h1:x<(c.length:Int)):gget 0 c x=some (nsAt c x.toNat):=gget_some h0 h1
theorem uses_spec {n:Net}(hb:NetB n)(h:netP n=true):spec_l28Uses n=some (usesP n):=by
 obtain⟨hl,ho,hs,ht⟩:=netP_all h;have hv:=lnV_le hl;unfold spec_l28Uses usesP;have e:lnP n=lnV n:=by unfold lnP;rw[if_pos hl]
 obtain⟨N,hN⟩:∃N:Nat,lnV n=(N:Int):=⟨(lnV n).toNat,by omega⟩;rw[ln_spec,e,hN];simp only[Option.bind_some];rw[gmake_nat (by omega) (by omega),Int.toNat_natCast];simp only[Option.bind_some];have hc0:(List.replicate N (0:Int)).length=N:=by simp
 generalize List.replicate N (0:Int)=c0 at*;have hl2:=hl.2.1;have hl3:=hl.2.2.1;have hl4:=hl.2.2.2;refine loop_upto n.2.2.1.length (fun k=>((k:Int),incA c0 (fun k=>(ltAt n.2.2.1 k).1) k)) (fun k hk=> ?_) ?_
 ·obtain⟨g1,g2⟩:=lt_get hk;have gl:=hb.2.1.at g2;have gm:=belowP_mem (ht k hk).2;have hcl:=incA_len c0 (fun k=>(ltAt n.2.2.1 k).1) k;have hfl:fstP n+k<lnV n:=by unfold lnV;omega
  try dsimp only
  rw[dt (show(k:Int)<(n.2.2.1.length:Int)by omega),cond_true];have ee:incA c0 (fun k=>(ltAt n.2.2.1 k).1) (k+1)=incL (incA c0 (fun k=>(ltAt n.2.2.1 k).1) k) (ltAt n.2.2.1 k).1:=rfl;rw[ee];generalize incA c0 (fun k=>(ltAt n.2.2.1 k).1) k=c at*;refine loop_upto (ltAt n.2.2.1 k).1.length (fun j=>((j:Int),incL c ((ltAt n.2.2.1 k).1.take j))) (fun j hj=> ?_) ?_
  ·have hm:=gm _ (List.getElem_mem hj);rw[ns_at hj]at hm;have hil:=incL_len c ((ltAt n.2.2.1 k).1.take j)
   try dsimp only
   rw[g1];simp only[Option.bind_some];rw[dt (show(j:Int)<((ltAt n.2.2.1 k).1.length:Int)by omega),cond_true,nsAt_get hj];simp only[Option.bind_some];rw[gin_some hm.1 (by omega),gget_ns hm.1 (by omega)];simp only[Option.bind_some];rw[incL_take _ _ _ hj,wrap_ok (z:=(j:Int)+1) (by omega)];rfl
  ·try dsimp only
   rw[g1];simp only[Option.bind_some];rw[df (show ¬((ltAt n.2.2.1 k).1.length:Int)<((ltAt n.2.2.1 k).1.length:Int)by omega),cond_false,List.take_of_length_le (Nat.le_refl _),wrap_ok (by omega)];rfl
 try dsimp only
 rw[df (show ¬(n.2.2.1.length:Int)<(n.2.2.1.length:Int)by omega),cond_false];refine(Option.map_eq_some_iff).2 ⟨_,?_,rfl⟩;have hc1:=incA_len c0 (fun k=>(ltAt n.2.2.1 k).1) n.2.2.1.length;generalize incA c0 (fun k=>(ltAt n.2.2.1 k).1) n.2.2.1.length=c1 at*;refine loop_upto n.2.1.length (fun k=>((k:Int),incA c1 (fun k=>(sqAt n.2.1 k).2.2) k)) (fun k hk=> ?_) ?_
 ·obtain⟨g1,g2⟩:=sq_get hk;have gl:=hb.1.at g2;have gm:=belowP_mem (hs k hk).2;have hcl:=incA_len c1 (fun k=>(sqAt n.2.1 k).2.2) k
  try dsimp only
  rw[dt (show(k:Int)<(n.2.1.length:Int)by omega),cond_true];have ee:incA c1 (fun k=>(sqAt n.2.1 k).2.2) (k+1)=incL (incA c1 (fun k=>(sqAt n.2.1 k).2.2) k) (sqAt n.2.1 k).2.2:=rfl;rw[ee];generalize incA c1 (fun k=>(sqAt n.2.1 k).2.2) k=c at*;refine loop_upto (sqAt n.2.1 k).2.2.length (fun j=>((j:Int),incL c ((sqAt n.2.1 k).2.2.take j))) (fun j hj=> ?_) ?_
  ·have hm:=gm _ (List.getElem_mem hj);rw[ns_at hj]at hm;have hil:=incL_len c ((sqAt n.2.1 k).2.2.take j)
   try dsimp only
   rw[g1];simp only[Option.bind_some];rw[dt (show(j:Int)<((sqAt n.2.1 k).2.2.length:Int)by omega),cond_true,nsAt_get hj];simp only[Option.bind_some];rw[gin_some hm.1 (by omega),gget_ns hm.1 (by omega)];simp only[Option.bind_some];rw[incL_take _ _ _ hj,wrap_ok (z:=(j:Int)+1) (by omega)];rfl
  ·try dsimp only
   rw[g1];simp only[Option.bind_some];rw[df (show ¬((sqAt n.2.1 k).2.2.length:Int)<((sqAt n.2.1 k).2.2.length:Int)by omega),cond_false,List.take_of_length_le (Nat.le_refl _),wrap_ok (by omega)];rfl
 try dsimp only
 rw[df (show ¬(n.2.1.length:Int)<(n.2.1.length:Int)by omega),cond_false];refine(Option.map_eq_some_iff).2 ⟨_,?_,rfl⟩;have hc2:=incA_len c1 (fun k=>(sqAt n.2.1 k).2.2) n.2.1.length;generalize incA c1 (fun k=>(sqAt n.2.1 k).2.2) n.2.1.length=c2 at*;have gm:=belowP_mem ho;refine loop_upto n.2.2.2.length (fun j=>((j:Int),incL c2 (n.2.2.2.take j))) (fun j hj=> ?_) ?_
 ·have hm:=gm _ (List.getElem_mem hj);rw[ns_at hj]at hm;have hil:=incL_len c2 (n.2.2.2.take j)
  try dsimp only
  rw[dt (show(j:Int)<(n.2.2.2.length:Int)by omega),cond_true,nsAt_get hj];simp only[Option.bind_some];rw[gin_some hm.1 (by omega),gget_ns hm.1 (by omega)];simp only[Option.bind_some];rw[incL_take _ _ _ hj,wrap_ok (z:=(j:Int)+1) (by omega)];rfl
 ·try dsimp only
  rw[df (by omega),cond_false,List.take_of_length_le (Nat.le_refl _)];rfl
theorem uses_impl {n:Net}(hb:NetB n)(h:netP n=true):impl_useCounts n=some (usesP n):=by
 obtain⟨hl,ho,hs,ht⟩:=netP_all h;have hv:=lnV_le hl;unfold impl_useCounts usesP;obtain⟨N,hN⟩:∃N:Nat,lnV n=(N:Int):=⟨(lnV n).toNat,by omega⟩;rw[lnv_impl hl,hN];simp only[Option.bind_some];rw[gmake_nat (by omega) (by omega),Int.toNat_natCast];simp only[Option.bind_some];have hc0:(List.replicate N (0:Int)).length=N:=by simp
 generalize List.replicate N (0:Int)=c0 at*;have hl2:=hl.2.1;have hl3:=hl.2.2.1;have hl4:=hl.2.2.2;refine loop_upto n.2.2.1.length (fun k=>((k:Int),incA c0 (fun k=>(ltAt n.2.2.1 k).1) k)) (fun k hk=> ?_) ?_
 ·obtain⟨g1,g2⟩:=lt_get hk;have gl:=hb.2.1.at g2;have gm:=belowP_mem (ht k hk).2;have hcl:=incA_len c0 (fun k=>(ltAt n.2.2.1 k).1) k;have hfl:fstP n+k<lnV n:=by unfold lnV;omega
  try dsimp only
  rw[dt (show(k:Int)<(n.2.2.1.length:Int)by omega),cond_true,g1];simp only[Option.bind_some];have ee:incA c0 (fun k=>(ltAt n.2.2.1 k).1) (k+1)=incL (incA c0 (fun k=>(ltAt n.2.2.1 k).1) k) (ltAt n.2.2.1 k).1:=rfl;rw[ee];generalize incA c0 (fun k=>(ltAt n.2.2.1 k).1) k=c at*;refine loop_upto (ltAt n.2.2.1 k).1.length (fun j=>((j:Int),incL c ((ltAt n.2.2.1 k).1.take j))) (fun j hj=> ?_) ?_
  ·have hm:=gm _ (List.getElem_mem hj);rw[ns_at hj]at hm;have hil:=incL_len c ((ltAt n.2.2.1 k).1.take j)
   try dsimp only
   rw[dt (show(j:Int)<((ltAt n.2.2.1 k).1.length:Int)by omega),cond_true,nsAt_get hj];simp only[Option.bind_some];rw[gin_some hm.1 (by omega),gget_ns hm.1 (by omega)];simp only[Option.bind_some];rw[incL_take _ _ _ hj,wrap_ok (z:=(j:Int)+1) (by omega)];rfl
  ·try dsimp only
   rw[df (show ¬((ltAt n.2.2.1 k).1.length:Int)<((ltAt n.2.2.1 k).1.length:Int)by omega),cond_false,List.take_of_length_le (Nat.le_refl _),wrap_ok (by omega)];rfl
 try dsimp only
 rw[df (show ¬(n.2.2.1.length:Int)<(n.2.2.1.length:Int)by omega),cond_false];refine(Option.map_eq_some_iff).2 ⟨_,?_,rfl⟩;have hc1:=incA_len c0 (fun k=>(ltAt n.2.2.1 k).1) n.2.2.1.length;generalize incA c0 (fun k=>(ltAt n.2.2.1 k).1) n.2.2.1.length=c1 at*;refine loop_upto n.2.1.length (fun k=>((k:Int),incA c1 (fun k=>(sqAt n.2.1 k).2.2) k)) (fun k hk=> ?_) ?_
 ·obtain⟨g1,g2⟩:=sq_get hk;have gl:=hb.1.at g2;have gm:=belowP_mem (hs k hk).2;have hcl:=incA_len c1 (fun k=>(sqAt n.2.1 k).2.2) k
  try dsimp only
  rw[dt (show(k:Int)<(n.2.1.length:Int)by omega),cond_true,g1];simp only[Option.bind_some];have ee:incA c1 (fun k=>(sqAt n.2.1 k).2.2) (k+1)=incL (incA c1 (fun k=>(sqAt n.2.1 k).2.2) k) (sqAt n.2.1 k).2.2:=rfl;rw[ee];generalize incA c1 (fun k=>(sqAt n.2.1 k).2.2) k=c at*;refine loop_upto (sqAt n.2.1 k).2.2.length (fun j=>((j:Int),incL c ((sqAt n.2.1 k).2.2.take j))) (fun j hj=> ?_) ?_
  ·have hm:=gm _ (List.getElem_mem hj);rw[ns_at hj]at hm;have hil:=incL_len c ((sqAt n.2.1 k).2.2.take j)
   try dsimp only
   rw[dt (show(j:Int)<((sqAt n.2.1 k).2.2.length:Int)by omega),cond_true,nsAt_get hj];simp only[Option.bind_some];rw[gin_some hm.1 (by omega),gget_ns hm.1 (by omega)];simp only[Option.bind_some];rw[incL_take _ _ _ hj,wrap_ok (z:=(j:Int)+1) (by omega)];rfl
  ·try dsimp only
   rw[df (show ¬((sqAt n.2.1 k).2.2.length:Int)<((sqAt n.2.1 k).2.2.length:Int)by omega),cond_false,List.take_of_length_le (Nat.le_refl _),wrap_ok (by omega)];rfl
 try dsimp only
 rw[df (show ¬(n.2.1.length:Int)<(n.2.1.length:Int)by omega),cond_false];refine(Option.map_eq_some_iff).2 ⟨_,?_,rfl⟩;have hc2:=incA_len c1 (fun k=>(sqAt n.2.1 k).2.2) n.2.1.length;generalize incA c1 (fun k=>(sqAt n.2.1 k).2.2) n.2.1.length=c2 at*;have gm:=belowP_mem ho;refine loop_upto n.2.2.2.length (fun j=>((j:Int),incL c2 (n.2.2.2.take j))) (fun j hj=> ?_) ?_
 ·have hm:=gm _ (List.getElem_mem hj);rw[ns_at hj]at hm;have hil:=incL_len c2 (n.2.2.2.take j)
  try dsimp only
  rw[dt (show(j:Int)<(n.2.2.2.length:Int)by omega),cond_true,nsAt_get hj];simp only[Option.bind_some];rw[gin_some hm.1 (by omega),gget_ns hm.1 (by omega)];simp only[Option.bind_some];rw[incL_take _ _ _ hj,wrap_ok (z:=(j:Int)+1) (by omega)];rfl
 ·try dsimp only
  rw[df (by omega),cond_false,List.take_of_length_le (Nat.le_refl _)];rfl
end Go.Pf
/-
  Own work. Logic elements, plainly: when they are well formed, their output, their inputs.
-/
namespace Go.Pf
open Go Go.Pu
set_option linter.unusedVariables false
abbrev Le:=Int×Int
def leOk (n:Net)(e:Le):Prop:=
 ((-1<=e.1/\e.1<=(n.2.2.1.length:Int) - 1)/\(-1<=e.2/\e.2<=(n.2.1.length:Int) - 1)/\¬(e.1<0/\e.2<0))/\
 (0<=e.2->(sqAt n.2.1 e.2.toNat).1=0)/\(0<=e.1->0<=e.2->nsAt (sqAt n.2.1 e.2.toNat).2.2 0=fstP n+e.1/\nsAt (usesP n) (fstP n+e.1).toNat=1)
instance (n:Net)(e:Le):Decidable (leOk n e):=by unfold leOk;exact inferInstance
theorem le_impl {n:Net}(hb:NetB n)(h:netP n=true)(e:Le):impl_leOk (n,e)=some (decide (leOk n e)):=by
 obtain⟨hl,ho,hs,ht⟩:=netP_all h;have hv:=lnV_le hl;have hul:=usesP_len n;have hl2:=hl.2.1;have hl3:=hl.2.2.1;obtain⟨l,s⟩:=e;unfold impl_leOk
 try dsimp only
 rw[wrap_ok (z:=(n.2.2.1.length:Int) - 1) (by omega),wrap_ok (z:=(n.2.1.length:Int) - 1) (by omega),inR_impl,inR_impl];simp only[Option.bind_some];by_cases c1: -1<=l/\l<=(n.2.2.1.length:Int) - 1
 rotate_left
 ·rw[df c1,df (show ¬leOk n (l,s)from fun e=>c1 e.1.1)];rfl
 rw[dt c1,Bool.not_true,cond_false];by_cases c2: -1<=s/\s<=(n.2.1.length:Int) - 1
 rotate_left
 ·rw[df c2,df (show ¬leOk n (l,s)from fun e=>c2 e.1.2.1)];rfl
 rw[dt c2,Bool.not_true,cond_false];by_cases c3:s<0
 ·rw[dt (show s= -1 by omega),df (show ¬0<=s by omega)];by_cases c4:l<0
  ·rw[dt (show l= -1 by omega),df (show ¬leOk n (l,s)from fun e=>e.1.2.2 ⟨c4,c3⟩)];rfl
  ·rw[df (show ¬l= -1 by omega),dt (show 0<=l by omega),dt (show leOk n (l,s)from⟨⟨c1,c2,fun e=>c4 e.1⟩,fun e=>absurd e (by simp only;omega),fun _ e=>absurd e (by simp only;omega)⟩)];rfl
 ·obtain⟨m,rfl⟩:∃m:Nat,s=(m:Int):=⟨s.toNat,by omega⟩;have hm:m<n.2.1.length:=by omega
  obtain⟨g1,g2⟩:=sq_get hm;have hsm:=(hs m hm).1;rw[df (show ¬(m:Int)= -1 by omega),dt (show 0<=(m:Int)by omega),cond_true,g1];simp only[Option.bind_some];have pre:∀X:Option Bool,joinO ((bif decide (l= -1)then(bif false then(Option.map Sum.inr (some false))else some (.inl ()))else some (.inl ())):Option (Unit⊕Bool)) (fun _=>X)=X:=by
   intro X;cases decide (l= -1)<;>rfl
  rw[pre];by_cases c5:(sqAt n.2.1 m).1≠0
  ·rw[dt c5,df (show ¬leOk n (l,(m:Int))from fun e=>c5 (by have:=e.2.1 (by simp only;omega);simp only[Int.toNat_natCast]at this;exact this))];rfl
  have c5:(sqAt n.2.1 m).1=0:=Decidable.byContradiction c5;rw[df (fun e=>e c5),cond_false];by_cases c6:l<0
  ·rw[df (show ¬0<=l by omega),dt (show leOk n (l,(m:Int))from⟨⟨c1,c2,fun e=>c3 e.2⟩,fun _=>by simp only[Int.toNat_natCast];exact c5,fun e=>absurd e (by simp only;omega)⟩)];rfl
  rw[dt (show 0<=l by omega),cond_true,cond_true,fst_impl hl];have hlen:(sqAt n.2.1 m).2.2.length=1:=by rcases hsm with q | q<;>omega
  have g0:gget 0 (sqAt n.2.1 m).2.2 0=some (nsAt (sqAt n.2.1 m).2.2 0):=nsAt_get (show 0<(sqAt n.2.1 m).2.2.length by omega);simp only[Option.bind_some];rw[g0,wrap_ok (z:=fstP n+l) (by omega)];simp only[Option.bind_some];by_cases c7:nsAt (sqAt n.2.1 m).2.2 0=fstP n+l
  ·have hfl:fstP n+l<lnV n:=by unfold lnV;omega
   rw[dt c7,cond_true,uses_impl hb h];simp only[Option.bind_some];rw[gin_some (by omega) (by omega),gget_ns (by omega) (by omega)];simp only[Option.bind_some]
   congr 1
   rw[decide_eq_decide];exact⟨fun e=>⟨⟨c1,c2,fun q=>c3 q.2⟩,fun _=>by simp only[Int.toNat_natCast];exact c5,fun _ _=>by simp only[Int.toNat_natCast];exact⟨c7,e⟩⟩,fun e=>(e.2.2 (by simp only;omega) (by simp only;omega)).2⟩
  ·rw[df c7,df (show ¬leOk n (l,(m:Int))from fun e=>c7 (by have:=(e.2.2 (by simp only;omega) (by simp only;omega)).1;simp only[Int.toNat_natCast]at this;exact this))];rfl
def lokP (n:Net)(e:Le):Bool:=netP n && decide (leOk n e)
def outLe (n:Net)(e:Le):Int:=if 0<=e.2 then 1+n.1+e.2 else fstP n+e.1
theorem outLe_r {n:Net}(hl:lnOk n){e:Le}(h:leOk n e):1<=outLe n e/\outLe n e<lnV n:=by
 obtain⟨⟨h1,h2,h3⟩,_⟩:=h;have h0:=hl.1;unfold outLe lnV fstP;split<;>omega
theorem out_spec {n:Net}(hl:lnOk n){e:Le}(h:leOk n e):spec_l28Out (n,e)=some (outLe n e):=by
 obtain⟨⟨h1,h2,h3⟩,_⟩:=h;have h0:=hl.1;have hl2:=hl.2.1;have hl3:=hl.2.2.1;have hv:=lnV_le hl;unfold spec_l28Out outLe
 try dsimp only
 by_cases c:0<=e.2
 ·rw[dt c,cond_true,if_pos c,wrap_ok (z:=1+n.1) (by omega),wrap_ok (by omega)]
 ·rw[df c,cond_false,if_neg c,fst_spec hl];simp only[Option.bind_some];rw[wrap_ok (by omega)]
theorem out_impl {n:Net}(hl:lnOk n){e:Le}(h:leOk n e):impl_leOutput (n,e)=some (outLe n e):=out_spec hl h
def setP (xs ex:List Int):List Int:=insL [] (xs.filter fun x=>decide (0<x/\x∉ex))
theorem setP_mem {xs ex:List Int}{y:Int}:y∈setP xs ex↔y∈xs/\0<y/\y∉ex:=by
 unfold setP;rw[mem_insL,List.mem_filter];simp
theorem setP_len (xs ex:List Int):(setP xs ex).length<=xs.length:=by
 have h1:=insL_len [] (xs.filter fun x=>decide (0<x/\x∉ex));have h2:=List.length_filter_le (fun x=>decide (0<x/\x∉ex)) xs;unfold setP;simp only[List.length_nil]at h1;omega
theorem set28_spec (xs ex:List Int)(hl:xs.length<=100000000)(hex:ex.length<=100000000):spec_l28Set (xs,ex)=some (setP xs ex):=by
 obtain⟨o,s1,s2,s3⟩:=sort_spec xs (by omega);have hol:=s2.length_eq;unfold spec_l28Set;rw[s1];simp only[Option.bind_some];have key:∀X:Option (List Int),(∃r,X=some r/\(Asc r/\∀y,y∈r↔y∈o/\0<y/\y∉ex))->X=some (setP xs ex):=by
  rintro X ⟨r,h1,h2,h3⟩
  rw[h1]
  congr 1
  have hs:Asc (setP xs ex):=asc_insL asc_nil;exact asc_ext h2 hs (fun y=>by rw[h3,setP_mem,s2.mem_iff])
 refine key _ ?_
 refine loop_spec (fun s:Int×List Int=>(0<=s.1/\s.1<=(o.length:Int))/\Asc s.2/\(s.2.length:Int)<=s.1/\∀y,y∈s.2↔y∈o.take s.1.toNat/\0<y/\y∉ex) _ (fun s=>(o.length - s.1).toNat) (fun s hI=> ?_) (0,[]) ⟨⟨by simp,by simp⟩,asc_nil,by simp,fun y=>by simp⟩;obtain⟨i,acc⟩:=s;obtain⟨⟨i0,i1⟩,hA,hAl,hm⟩:=hI;simp only at i0 i1 hA hAl hm
 try dsimp only
 by_cases hi:i<(o.length:Int)
 rotate_left
 ·right
  rw[df hi,cond_false];refine⟨acc,rfl,hA,fun y=> ?_⟩;rw[hm,List.take_of_length_le (by omega)]
 left
 obtain⟨k,rfl⟩:∃k:Nat,i=(k:Int):=⟨i.toNat,by omega⟩;have hk:k<o.length:=by omega
 have hsucc:((k:Int)+1).toNat=k+1:=by omega
 rw[Int.toNat_natCast]at hm;rw[dt hi,cond_true,gin_nat hk,nsAt_get hk,wrap_ok (z:=(k:Int)+1) (by omega)];simp only[Option.bind_some];have hle:∀y∈o.take k,y<=nsAt o k:=by
  intro y hy;obtain⟨j,hj,rfl⟩:=List.getElem_of_mem hy;rw[List.length_take]at hj;rw[List.getElem_take,<-ns_at hk];exact List.pairwise_iff_getElem.1 s3 j k (by omega) hk (by omega)
 generalize hv:nsAt o k=v at*;have skip:¬(0<v/\v∉ex)->∀y,y∈acc↔y∈o.take (k+1)/\0<y/\y∉ex:=by
  intro hno y;rw[hm,take_at hk,hv,List.mem_append,List.mem_singleton]
  constructor
  ·rintro⟨q1,q2⟩;exact⟨Or.inl q1,q2⟩
  ·rintro⟨q1 | q1,q2⟩
   ·exact⟨q1,q2⟩
   ·subst q1;exact absurd q2 hno
 by_cases c1:0<v
 rotate_left
 ·rw[df c1,cond_false];exact⟨_,rfl,⟨⟨by simp only;omega,by simp only;omega⟩,hA,by simp only;omega,by simp only;rw[hsucc];exact skip (fun e=>c1 e.1)⟩,by simp only;omega⟩
 rw[dt c1,cond_true,has_spec _ _ (by omega)];simp only[Option.bind_some];by_cases c2:v∈ex
 ·rw[dt c2,Bool.not_true,cond_false];exact⟨_,rfl,⟨⟨by simp only;omega,by simp only;omega⟩,hA,by simp only;omega,by simp only;rw[hsucc];exact skip (fun e=>e.2 c2)⟩,by simp only;omega⟩
 rw[df c2,Bool.not_false,cond_true];have add:(∀y∈acc,y<v)->Asc (acc++[v])/\∀y,y∈acc++[v]↔y∈o.take (k+1)/\0<y/\y∉ex:=by
  intro hlt;refine⟨?_,fun y=> ?_⟩
  ·unfold Asc;rw[List.pairwise_append];exact⟨hA,by simp,fun x hx y hy=>by rw[List.mem_singleton.1 hy];exact hlt x hx⟩
  ·rw[take_at hk,hv,List.mem_append,List.mem_append,hm,List.mem_singleton]
   constructor
   ·rintro(⟨q1,q2⟩ | q)
    ·exact⟨Or.inl q1,q2⟩
    ·subst q;exact⟨Or.inr rfl,c1,c2⟩
   ·rintro⟨q1 | q1,q2⟩
    ·exact Or.inl ⟨q1,q2⟩
    ·exact Or.inr q1
 by_cases c3:(acc.length:Int)=0
 ·have hnil:acc=[]:=List.length_eq_zero_iff.1 (by omega);obtain⟨a1,a2⟩:=add (by rw[hnil];simp);rw[dt c3,cond_true,gapp_ok (by simp;omega)];simp only[Option.bind_some];exact⟨_,rfl,⟨⟨by simp only;omega,by simp only;omega⟩,a1,by simp only[List.length_append,List.length_cons,List.length_nil];omega,by simp only;rw[hsucc];exact a2⟩,by simp only;omega⟩
 rw[df c3,cond_false,wrap_ok (z:=(acc.length:Int) - 1) (by omega)];have el:(acc.length:Int) - 1=((acc.length - 1:Nat):Int):=by omega
 have hlast:acc.length - 1<acc.length:=by omega
 rw[el,gin_nat hlast,nsAt_get hlast];simp only[Option.bind_some];have hmax:∀y∈acc,y<=nsAt acc (acc.length - 1):=by
  intro y hy;obtain⟨j,hj,rfl⟩:=List.getElem_of_mem hy;rw[<-ns_at hlast];by_cases q:j=acc.length - 1
  ·subst q;exact Int.le_refl _
  ·exact Int.le_of_lt (List.pairwise_iff_getElem.1 hA j (acc.length - 1) hj hlast (by omega))
 have hlm:nsAt acc (acc.length - 1)∈acc:=by rw[<-ns_at hlast];exact List.getElem_mem hlast
 have hlv:=hle _ ((hm _).1 hlm).1;by_cases c4:nsAt acc (acc.length - 1)≠v
 ·obtain⟨a1,a2⟩:=add (fun y hy=>by have:=hmax y hy;omega);rw[dt c4,cond_true,gapp_ok (by simp;omega)];simp only[Option.bind_some];exact⟨_,rfl,⟨⟨by simp only;omega,by simp only;omega⟩,a1,by simp only[List.length_append,List.length_cons,List.length_nil];omega,by simp only;rw[hsucc];exact a2⟩,by simp only;omega⟩
 ·have c4:nsAt acc (acc.length - 1)=v:=Decidable.byContradiction c4;rw[df (fun e=>e c4),cond_false];refine⟨_,rfl,⟨⟨by simp only;omega,by simp only;omega⟩,hA,by simp only;omega,fun y=> ?_⟩,by simp only;omega⟩;simp only;rw[hsucc,take_at hk,hv,List.mem_append,List.mem_singleton,hm]
  constructor
  ·rintro⟨q1,q2⟩;exact⟨Or.inl q1,q2⟩
  ·rintro⟨q1 | q1,q2⟩
   ·exact⟨q1,q2⟩
   ·subst q1;rw[c4]at hlm;exact(hm _).1 hlm
def insX (n:Net)(e:Le):List Int:=if 0<=e.1 then(ltAt n.2.2.1 e.1.toNat).1 else(sqAt n.2.1 e.2.toNat).2.2
def insLe (n:Net)(e:Le):List Int:=setP (insX n e) []
theorem insX_ok {n:Net}(h:netP n=true){e:Le}(he:leOk n e):(insX n e).length<=4/\∀x∈insX n e,0<=x/\x<lnV n:=by
 obtain⟨hl,ho,hs,ht⟩:=netP_all h;obtain⟨⟨h1,h2,h3⟩,_⟩:=he;unfold insX;by_cases c:0<=e.1
 ·rw[if_pos c];have hk:e.1.toNat<n.2.2.1.length:=by omega
  obtain⟨t1,t2⟩:=ht _ hk;have t3:=t1.1;refine⟨by omega,fun x hx=> ?_⟩;have:=belowP_mem t2 x hx;unfold lnV;omega
 ·rw[if_neg c];have hk:e.2.toNat<n.2.1.length:=by omega
  obtain⟨t1,t2⟩:=hs _ hk;refine⟨by rcases t1 with q | q<;>omega,belowP_mem t2⟩
theorem insLe_len {n:Net}(h:netP n=true){e:Le}(he:leOk n e):(insLe n e).length<=4:=by
 have h1:=(insX_ok h he).1;have h2:=setP_len (insX n e) [];unfold insLe;omega
theorem ins_spec {n:Net}(h:netP n=true){e:Le}(he:leOk n e):spec_l28Ins (n,e)=some (insLe n e):=by
 have hx:=(insX_ok h he).1;have he' :=he;obtain⟨⟨h1,h2,h3⟩,_⟩:=he';unfold spec_l28Ins insLe;unfold insX at*
 try dsimp only
 by_cases c:0<=e.1
 ·rw[if_pos c]at hx ⊢;have hk:e.1.toNat<n.2.2.1.length:=by omega
  obtain⟨g1,g2⟩:=lt_get hk;have e1:((e.1.toNat:Nat):Int)=e.1:=by omega
  rw[e1]at g1;rw[dt c,cond_true,g1];simp only[Option.bind_some];rw[set28_spec _ _ (by omega) (by simp)];rfl
 ·rw[if_neg c]at hx ⊢;have hk:e.2.toNat<n.2.1.length:=by omega
  obtain⟨g1,g2⟩:=sq_get hk;have e1:((e.2.toNat:Nat):Int)=e.2:=by omega
  rw[e1]at g1;rw[df c,cond_false,g1];simp only[Option.bind_some];rw[set28_spec _ _ (by omega) (by simp)];rfl
theorem filt_insL (xs:List Int)(hx:∀x∈xs,0<=x):insL [] (xs.filter fun x=>decide (x≠0))=setP xs []:=by
 unfold setP
 congr 1
 apply List.filter_congr;intro x hm;have:=hx x hm;rw[decide_eq_decide]
 constructor
 ·intro q;exact⟨by omega,by simp⟩
 ·intro q;omega
theorem ins_impl {n:Net}(h:netP n=true){e:Le}(he:leOk n e):impl_leInputs (n,e)=some (insLe n e):=by
 obtain⟨hx,hxr⟩:=insX_ok h he;have he' :=he;obtain⟨⟨h1,h2,h3⟩,_⟩:=he';unfold impl_leInputs insLe;have hj:(bif decide (0<=e.1)then(
  (gget (([],0):Lut) n.2.2.1 e.1).bind fun v2=>
  some (.inl v2.1))else
  (gget ((0,(0,[])):Seq) n.2.1 e.2).bind fun v2=>
  some ((.inl v2.2.2):List Int⊕List Int))=some (.inl (insX n e)):=by
  unfold insX;by_cases c:0<=e.1
  ·have hk:e.1.toNat<n.2.2.1.length:=by omega
   obtain⟨g1,g2⟩:=lt_get hk;have e1:((e.1.toNat:Nat):Int)=e.1:=by omega
   rw[e1]at g1;rw[dt c,cond_true,g1,if_pos c];rfl
  ·have hk:e.2.toNat<n.2.1.length:=by omega
   obtain⟨g1,g2⟩:=sq_get hk;have e1:((e.2.toNat:Nat):Int)=e.2:=by omega
   rw[e1]at g1;rw[df c,cond_false,g1,if_neg c];rfl
 try dsimp only
 rw[hj,joinO_inl,<-filt_insL _ (fun x hm=>(hxr x hm).1)];generalize insX n e=xs at*
 try dsimp only
 refine loop_upto xs.length (fun k=>(insL [] ((xs.take k).filter fun x=>decide (x≠0)),(k:Int))) (fun k hk=> ?_) ?_
 ·have hil:=insL_len [] ((xs.take k).filter fun x=>decide (x≠0));have hfl:=List.length_filter_le (fun x=>decide (x≠0)) (xs.take k);rw[List.length_take]at hfl;simp only[List.length_nil]at hil
  try dsimp only
  rw[dt (show(k:Int)<(xs.length:Int)by omega),cond_true,nsAt_get hk];simp only[Option.bind_some];rw[take_at hk,List.filter_append,insL_app,wrap_ok (by omega)];by_cases c:nsAt xs k≠0
  ·rw[dt c,cond_true,insert_impl _ _ (by omega)];simp only[Option.bind_some];have ef:[nsAt xs k].filter (fun x=>decide (x≠0))=[nsAt xs k]:=by simp[c]
   rw[ef,insL_one];rfl
  ·have c:nsAt xs k=0:=Decidable.byContradiction c;rw[df (fun e=>e c),cond_false];have ef:[nsAt xs k].filter (fun x=>decide (x≠0))=[]:=by simp[c]
   rw[ef,insL_nil];rfl
 ·try dsimp only
  rw[df (by omega),cond_false,List.take_of_length_le (Nat.le_refl _)];rfl
def lins (n:Net)(e:Le):List Int:=if lokP n e=true then insLe n e else []
end Go.Pf
/-
  Own work. Blocks, plainly: items that exist, their outputs, their pins.
-/
namespace Go.Pf
open Go Go.Pu
set_option linter.unusedVariables false
abbrev Blk:=Int×(Int×List Le)
def leAt (ls:List Le)(k:Nat):Le:=ls.getD k (0,0)
theorem le_get {ls:List Le}{k:Nat}(h:k<ls.length):gget ((0,0):Le) ls (k:Int)=some (leAt ls k):=by
 unfold leAt;rw[gget_nat h,List.getD,List.getElem?_eq_getElem h];rfl
theorem le_eq {ls:List Le}{k:Nat}(h:k<ls.length):ls[k]=leAt ls k:=by
 unfold leAt;rw[List.getD,List.getElem?_eq_getElem h];rfl
def lesP (n:Net)(ls:List Le):Bool:=ls.all fun e=>decide (leOk n e)
theorem lesP_at {n:Net}{ls:List Le}(h:lesP n ls=true){k:Nat}(hk:k<ls.length):leOk n (leAt ls k):=by
 rw[<-le_eq hk];exact of_decide_eq_true (List.all_eq_true.1 h _ (List.getElem_mem hk))
theorem les_eq (n:Net)(ls:List Le):lesP n ls=if(List.range ls.length).all (fun k=>if hk:k<ls.length then decide (leOk n ls[k])else true)=true then true else false:=by
 rw[all_range_list ls (fun e=>decide (leOk n e)) _ (fun k hk=>by rw[dif_pos hk])];show lesP n ls=if lesP n ls=true then true else false
 cases lesP n ls<;>rfl
def itemP (n:Net)(b:Blk):Bool:=
 if b.1=0 then decide (0<=b.2.1/\b.2.1<n.1)else if b.1=1 then decide (0<=b.2.1/\b.2.1<(n.2.2.2.length:Int))else if b.1=2 then decide (0<=b.2.1/\b.2.1<(n.2.1.length:Int))else if b.1=3 then lesP n b.2.2 else false
theorem item_impl {n:Net}{b:Blk}(hb:NetB n)(h:netP n=true)(hl:b.2.2.length<=1048576):impl_itemExists (n,b)=some (itemP n b):=by
 obtain⟨hln,_⟩:=netP_all h;have h0:=hln.1;have h2:=hln.2.1;have h4:=hln.2.2.2;unfold impl_itemExists itemP
 try dsimp only
 by_cases k0:b.1=0
 ·rw[dt k0,cond_true,if_pos k0,wrap_ok (z:=n.1 - 1) (by omega),inR_impl];simp only[Option.bind_some]
  congr 1
  rw[decide_eq_decide];omega
 rw[df k0,cond_false,if_neg k0];by_cases k1:b.1=1
 ·rw[dt k1,cond_true,if_pos k1,wrap_ok (z:=(n.2.2.2.length:Int) - 1) (by omega),inR_impl];simp only[Option.bind_some]
  congr 1
  rw[decide_eq_decide];omega
 rw[df k1,cond_false,if_neg k1];by_cases k2:b.1=2
 ·rw[dt k2,cond_true,if_pos k2,wrap_ok (z:=(n.2.1.length:Int) - 1) (by omega),inR_impl];simp only[Option.bind_some]
  congr 1
  rw[decide_eq_decide];omega
 rw[df k2,cond_false,if_neg k2];by_cases k3:b.1=3
 rotate_left
 ·rw[df k3,cond_false,if_neg k3]
 rw[dt k3,cond_true,if_pos k3,les_eq];refine loop_all b.2.2.length (fun k=>(k:Int)) _ false true (fun k hk hok=> ?_) (fun k hk hok=> ?_) ?_
 ·rw[dif_pos hk]at hok;rw[le_eq hk]at hok
  try dsimp only
  rw[dt (show(k:Int)<(b.2.2.length:Int)by omega),cond_true,le_get hk];simp only[Option.bind_some];rw[le_impl hb h];simp only[Option.bind_some];rw[hok,Bool.not_true,cond_false,wrap_ok (by omega)];rfl
 ·rw[dif_pos hk]at hok;rw[le_eq hk]at hok
  try dsimp only
  rw[dt (show(k:Int)<(b.2.2.length:Int)by omega),cond_true,le_get hk];simp only[Option.bind_some];rw[le_impl hb h];simp only[Option.bind_some];rw[hok];rfl
 ·try dsimp only
  rw[df (by omega),cond_false];rfl
def outsL (n:Net)(ls:List Le)(k:Nat):List Int:=(ls.take k).map (outLe n)
theorem le_take {ls:List Le}{k:Nat}(h:k<ls.length):ls.take (k+1)=ls.take k++[leAt ls k]:=by rw[take_succ' ls k h,le_eq h]
theorem outsL_succ (n:Net){ls:List Le}{k:Nat}(h:k<ls.length):outsL n ls (k+1)=outsL n ls k++[outLe n (leAt ls k)]:=by
 unfold outsL;rw[le_take h,List.map_append];rfl
theorem outsL_len (n:Net)(ls:List Le)(k:Nat):(outsL n ls k).length<=k:=by unfold outsL;simp;omega
def outN (n:Net)(b:Blk):List Int:=if b.1=0 then [1+b.2.1]else if b.1=1 then []else if b.1=2 then [1+n.1+b.2.1]else outsL n b.2.2 b.2.2.length
theorem item3 {n:Net}{b:Blk}(h:itemP n b=true)(k0:¬b.1=0)(k1:¬b.1=1)(k2:¬b.1=2):b.1=3/\lesP n b.2.2=true:=by
 unfold itemP at h;rw[if_neg k0,if_neg k1,if_neg k2]at h;split at h
 ·rename_i q;exact⟨q,h⟩
 ·simp at h
theorem outN_impl (n:Net)(b:Blk)(hb:NetB n)(hl:b.2.2.length<=1048576):impl_OutNodes (n,b)=some (if(netP n && itemP n b)=true then outN n b else []):=by
 unfold impl_OutNodes;rw[net_impl n hb];simp only[Option.bind_some];cases hn:netP n with
 | false=>rfl
 | true=>
  rw[Bool.not_true,cond_false,item_impl hb hn hl,Bool.true_and];simp only[Option.bind_some];cases hi:itemP n b with
  | false=>rfl
  | true=>
  obtain⟨hln,_⟩:=netP_all hn;have h0:=hln.1;have h2:=hln.2.1;rw[Bool.not_true,cond_false,if_pos rfl];unfold impl_outNodes outN
  try dsimp only
  by_cases k0:b.1=0
  ·unfold itemP at hi;rw[if_pos k0]at hi;have hi:=of_decide_eq_true hi;rw[dt k0,cond_true,if_pos k0,wrap_ok (by omega)];rfl
  rw[df k0,cond_false,if_neg k0];by_cases k1:b.1=1
  ·rw[dt k1,cond_true,if_pos k1];rfl
  rw[df k1,cond_false,if_neg k1];by_cases k2:b.1=2
  ·unfold itemP at hi;rw[if_neg k0,if_neg k1,if_pos k2]at hi;have hi:=of_decide_eq_true hi;rw[dt k2,cond_true,if_pos k2,wrap_ok (z:=1+n.1) (by omega),wrap_ok (by omega)];rfl
  rw[df k2,cond_false,if_neg k2];obtain⟨k3,hls⟩:=item3 hi k0 k1 k2;have key:∀X:Option (List Int),X=some (outsL n b.2.2 b.2.2.length)->(X.bind fun v5=>some v5)=some (outsL n b.2.2 b.2.2.length):=by
   intro X e;rw[e];rfl
  refine key _ ?_
  refine loop_upto b.2.2.length (fun k=>(outsL n b.2.2 k,(k:Int))) (fun k hk=> ?_) ?_
  ·have hol:=outsL_len n b.2.2 k
   try dsimp only
   rw[dt (show(k:Int)<(b.2.2.length:Int)by omega),cond_true,le_get hk];simp only[Option.bind_some];rw[out_impl hln (lesP_at hls hk)];simp only[Option.bind_some];rw[gapp_ok (by simp only[List.length_cons,List.length_nil];omega),<-outsL_succ n hk];simp only[Option.bind_some];rw[wrap_ok (by omega)];rfl
  ·try dsimp only
   rw[df (by omega),cond_false];rfl
def insA (n:Net)(ls:List Le):Nat->List Int
 | 0=>[]
 | k+1=>insA n ls k++insLe n (leAt ls k)
theorem insA_len {n:Net}(h:netP n=true){ls:List Le}(hls:lesP n ls=true)(k:Nat)(hk:k<=ls.length):(insA n ls k).length<=4*k:=by
 induction k with
 | zero=>simp[insA]
 | succ k ih=>
  have h1:=insLe_len h (lesP_at hls (show k<ls.length by omega));have h2:=ih (by omega);show(insA n ls k++insLe n (leAt ls k)).length<=_;rw[List.length_append];omega
theorem insA_mem {n:Net}(h:netP n=true){ls:List Le}(hls:lesP n ls=true)(k:Nat)(hk:k<=ls.length):∀x∈insA n ls k,0<x/\x<lnV n:=by
 induction k with
 | zero=>simp[insA]
 | succ k ih=>
  intro x hx;rcases List.mem_append.1 hx with q | q
  ·exact ih (by omega) x q
  ·have h1:=setP_mem.1 q;have h2:=(insX_ok h (lesP_at hls (show k<ls.length by omega))).2 x h1.1;omega
def pinsP (n:Net)(ls:List Le):List Int:=setP (insA n ls ls.length) (outsL n ls ls.length)
theorem pins_spec {n:Net}(hb:NetB n)(h:netP n=true){ls:List Le}(hls:lesP n ls=true)(hl:ls.length<=1048576):spec_l28Pins (n,ls)=some (pinsP n ls):=by
 obtain⟨hln,_⟩:=netP_all h;unfold spec_l28Pins;refine loop_upto ls.length (fun k=>((k:Int),(insA n ls k,outsL n ls k))) (fun k hk=> ?_) ?_
 ·have hol:=outsL_len n ls k;have hil:=insA_len h hls k (by omega);have h1:=insLe_len h (lesP_at hls hk)
  try dsimp only
  rw[dt (show(k:Int)<(ls.length:Int)by omega),cond_true,le_get hk];simp only[Option.bind_some];rw[ins_spec h (lesP_at hls hk)];simp only[Option.bind_some];rw[gapp_ok (by omega)];simp only[Option.bind_some];rw[out_spec hln (lesP_at hls hk)];simp only[Option.bind_some];rw[gapp_ok (by simp only[List.length_cons,List.length_nil];omega),<-outsL_succ n hk];simp only[Option.bind_some];rw[wrap_ok (by omega)];rfl
 ·have hol:=outsL_len n ls ls.length;have hil:=insA_len h hls ls.length (by omega)
  try dsimp only
  rw[df (by omega),cond_false,set28_spec _ _ (by omega) (by omega)];rfl
theorem pins3_impl {n:Net}{b:Blk}(hb:NetB n)(h:netP n=true)(hls:lesP n b.2.2=true)(hl:b.2.2.length<=1048576)(k3:b.1=3):impl_pinNodes (n,b)=some (pinsP n b.2.2):=by
 obtain⟨hln,_⟩:=netP_all h;unfold impl_pinNodes
 try dsimp only
 rw[df (show ¬b.1=0 by omega),cond_false,df (show ¬b.1=1 by omega),cond_false,df (show ¬b.1=2 by omega),cond_false];generalize b.2.2=ls at*;refine loop_upto ls.length (fun k=>(outsL n ls k,(k:Int))) (fun k hk=> ?_) ?_
 ·have hol:=outsL_len n ls k
  try dsimp only
  rw[dt (show(k:Int)<(ls.length:Int)by omega),cond_true,le_get hk];simp only[Option.bind_some];rw[out_impl hln (lesP_at hls hk)];simp only[Option.bind_some];rw[gapp_ok (by simp only[List.length_cons,List.length_nil];omega),<-outsL_succ n hk];simp only[Option.bind_some];rw[wrap_ok (by omega)];rfl
 try dsimp only
 rw[df (show ¬(ls.length:Int)<(ls.length:Int)by omega),cond_false];refine(Option.map_eq_some_iff).2 ⟨_,?_,rfl⟩;have hol:=outsL_len n ls ls.length;have conv:pinsP n ls=insL [] ((insA n ls ls.length).filter fun x=>decide (x∉outsL n ls ls.length)):=by
  unfold pinsP setP
  congr 1
  apply List.filter_congr;intro x hx;have:=insA_mem h hls _ (Nat.le_refl _) x hx;rw[decide_eq_decide];exact⟨fun q=>q.2,fun q=>⟨this.1,q⟩⟩
 rw[conv];generalize hO:outsL n ls ls.length=O at*;refine loop_upto ls.length (fun k=>(insL [] ((insA n ls k).filter fun x=>decide (x∉O)),(k:Int))) (fun k hk=> ?_) ?_
 ·have hil:=insA_len h hls k (by omega);have h1:=insLe_len h (lesP_at hls hk);have e1:insA n ls (k+1)=insA n ls k++insLe n (leAt ls k):=rfl
  try dsimp only
  rw[dt (show(k:Int)<(ls.length:Int)by omega),cond_true,le_get hk];simp only[Option.bind_some];rw[ins_impl h (lesP_at hls hk)];simp only[Option.bind_some];rw[e1];generalize insA n ls k=A at*;generalize insLe n (leAt ls k)=X at*;have e0:((0:Int),insL [] (A.filter fun x=>decide (x∉O)))=(fun j:Nat=>((j:Int),insL [] ((A++X.take j).filter fun x=>decide (x∉O)))) 0:=by simp
  rw[e0];refine loop_upto X.length (fun j=>((j:Int),insL [] ((A++X.take j).filter fun x=>decide (x∉O)))) (fun j hj=> ?_) ?_
  ·have hil2:=insL_len [] ((A++X.take j).filter fun x=>decide (x∉O));have hfl:=List.length_filter_le (fun x=>decide (x∉O)) (A++X.take j);rw[List.length_append,List.length_take]at hfl;simp only[List.length_nil]at hil2
   try dsimp only
   rw[dt (show(j:Int)<(X.length:Int)by omega),cond_true,gin_nat hj,nsAt_get hj];simp only[Option.bind_some];rw[has_impl _ _ (by omega),take_at hj,<-List.append_assoc,List.filter_append (A++X.take j),insL_app,wrap_ok (by omega)];simp only[Option.bind_some];by_cases c:nsAt X j∈O
   ·have ef:[nsAt X j].filter (fun x=>decide (x∉O))=[]:=by simp[c]
    rw[dt c,Bool.not_true,cond_false,ef,insL_nil];rfl
   ·have ef:[nsAt X j].filter (fun x=>decide (x∉O))=[nsAt X j]:=by simp[c]
    rw[df c,Bool.not_false,cond_true,insert_impl _ _ (by omega),ef,insL_one];rfl
  ·try dsimp only
   rw[df (by omega),cond_false,List.take_of_length_le (Nat.le_refl _),wrap_ok (by omega)];rfl
 ·try dsimp only
  rw[df (by omega),cond_false];rfl
def pinN (n:Net)(b:Blk):List Int:=if b.1=0 then []else if b.1=1 then [nsAt n.2.2.2 b.2.1.toNat]else if b.1=2 then(sqAt n.2.1 b.2.1.toNat).2.2 else pinsP n b.2.2
theorem pinN_impl {n:Net}{b:Blk}(hb:NetB n)(h:netP n=true)(hi:itemP n b=true)(hl:b.2.2.length<=1048576):impl_pinNodes (n,b)=some (pinN n b):=by
 by_cases k3:b.1=3
 ·have hls:=(item3 hi (by omega) (by omega) (by omega)).2;rw[pins3_impl hb h hls hl k3];unfold pinN;rw[if_neg (by omega),if_neg (by omega),if_neg (by omega)]
 unfold impl_pinNodes pinN;unfold itemP at hi
 try dsimp only
 by_cases k0:b.1=0
 ·rw[dt k0,if_pos k0];rfl
 rw[if_neg k0]at hi;rw[df k0,cond_false,if_neg k0];by_cases k1:b.1=1
 ·rw[if_pos k1]at hi;have hi:=of_decide_eq_true hi;rw[dt k1,cond_true,if_pos k1,gget_ns hi.1 hi.2];rfl
 rw[if_neg k1]at hi;rw[df k1,cond_false,if_neg k1];by_cases k2:b.1=2
 ·rw[if_pos k2]at hi;have hi:=of_decide_eq_true hi;have hk:b.2.1.toNat<n.2.1.length:=by omega
  obtain⟨g1,g2⟩:=sq_get hk;have e1:((b.2.1.toNat:Nat):Int)=b.2.1:=by omega
  rw[e1]at g1;have hlen:=hb.1.at g2;rw[dt k2,cond_true,if_pos k2,g1];simp only[Option.bind_some];unfold impl_copyInts;rw[gapp_ok (by simp;omega)];rfl
 ·rw[if_neg k2,if_neg k3]at hi;simp at hi
theorem pinNodes_impl (n:Net)(b:Blk)(hb:NetB n)(hl:b.2.2.length<=1048576):impl_PinNodes (n,b)=some (if(netP n && itemP n b)=true then pinN n b else []):=by
 unfold impl_PinNodes;rw[net_impl n hb];simp only[Option.bind_some];cases hn:netP n with
 | false=>rfl
 | true=>
  rw[Bool.not_true,cond_false,item_impl hb hn hl,Bool.true_and];simp only[Option.bind_some];cases hi:itemP n b with
  | false=>rfl
  | true=>
   rw[Bool.not_true,cond_false,if_pos rfl,pinN_impl hb hn hi hl];rfl
def blk0 (n:Net)(b:Blk):Bool:=
 if b.1=3 then decide (b.2.1=0/\(1<=b.2.2.length/\b.2.2.length<=2)/\(pinsP n b.2.2).length<=5)else decide (b.2.2.length=0/\(b.1=2->(sqAt n.2.1 b.2.1.toNat).1=1))
def blkP (n:Net)(b:Blk):Bool:=(netP n && itemP n b) && blk0 n b
theorem blk_implV {n:Net}(b:Blk)(hb:NetB n)(hn:netP n=true)(hl:b.2.2.length<=1048576):impl_blockOk (n,b)=some (itemP n b && blk0 n b):=by
 unfold impl_blockOk;rw[item_impl hb hn hl];simp only[Option.bind_some];cases hi:itemP n b with
 | false=>rfl
 | true=>
  rw[Bool.not_true,cond_false,Bool.true_and];unfold blk0;by_cases k3:b.1=3
  ·have hls:=(item3 hi (by omega) (by omega) (by omega)).2;rw[df (fun e=>e k3),cond_false,if_pos k3];by_cases c0:b.2.1=0
   rotate_left
   ·rw[df c0,df (show ¬(b.2.1=0/\_)from fun e=>c0 e.1)];rfl
   rw[dt c0,cond_true,inR_impl];simp only[Option.bind_some];by_cases c1:1<=(b.2.2.length:Int)/\(b.2.2.length:Int)<=2
   rotate_left
   ·rw[df c1,df (show ¬(b.2.1=0/\(1<=b.2.2.length/\b.2.2.length<=2)/\_)from fun e=>c1 (by have:=e.2.1;omega))];rfl
   rw[dt c1,cond_true,pins3_impl hb hn hls hl k3];simp only[Option.bind_some]
   congr 1
   rw[decide_eq_decide];exact⟨fun e=>⟨c0,by omega,by omega⟩,fun e=>by have:=e.2.2;omega⟩
  ·rw[dt k3,cond_true,if_neg k3];by_cases c0:(b.2.2.length:Int)=0
   rotate_left
   ·rw[df c0,df (show ¬(b.2.2.length=0/\_)from fun e=>c0 (by have:=e.1;omega))];rfl
   rw[dt c0,cond_true];by_cases k2:b.1≠2
   ·rw[dt k2,cond_true,dt (show b.2.2.length=0/\(b.1=2->(sqAt n.2.1 b.2.1.toNat).1=1)from⟨by omega,fun e=>absurd e k2⟩)]
   ·have k2:b.1=2:=Decidable.byContradiction k2;unfold itemP at hi;rw[if_neg (by omega),if_neg (by omega),if_pos k2]at hi;have hi:=of_decide_eq_true hi;have hk:b.2.1.toNat<n.2.1.length:=by omega
    obtain⟨g1,g2⟩:=sq_get hk;have e1:((b.2.1.toNat:Nat):Int)=b.2.1:=by omega
    rw[e1]at g1;rw[df (fun e=>e k2),cond_false,g1];simp only[Option.bind_some]
    congr 1
    rw[decide_eq_decide];exact⟨fun e=>⟨by omega,fun _=>e⟩,fun e=>e.2 k2⟩
theorem blk_impl (n:Net)(b:Blk)(hb:NetB n)(hl:b.2.2.length<=1048576):impl_BlockOk (n,b)=some (blkP n b):=by
 unfold impl_BlockOk blkP;rw[net_impl n hb];simp only[Option.bind_some];cases hn:netP n with
 | false=>rfl
 | true=>
  rw[cond_true,blk_implV b hb hn hl,Bool.true_and];rfl
end Go.Pf
/-
  Own work. Packings, plainly: every item once.
-/
namespace Go.Pf
open Go Go.Pu
set_option linter.unusedVariables false
def BkB (b:Int)(x:Blk):Prop:=(x.2.2.length:Int)<=b
def BksB (bs:List Blk):Prop:=bs.length<=1048576/\∀b∈bs,BkB (1048576 - bs.length) b
theorem BksB.at {bs:List Blk}(h:BksB bs){b:Blk}(hb:b∈bs):b.2.2.length<=1048576:=by
 have:=h.2 b hb;unfold BkB at this;omega
def bkAt (bs:List Blk)(k:Nat):Blk:=bs.getD k (0,(0,[]))
theorem bk_get {bs:List Blk}{k:Nat}(h:k<bs.length):gget ((0,(0,[])):Blk) bs (k:Int)=some (bkAt bs k)/\bkAt bs k∈bs:=by
 have e:bkAt bs k=bs[k]:=by unfold bkAt;rw[List.getD,List.getElem?_eq_getElem h];rfl
 rw[e];exact⟨gget_nat h,List.getElem_mem h⟩
abbrev P4:=List Int×(List Int×(List Int×List Int))
def leT (s:List Int×List Int)(e:Le):List Int×List Int:=(if 0<=e.2 then inc1 s.1 e.2 else s.1,if 0<=e.1 then inc1 s.2 e.1 else s.2)
def leA (ls:List Le)(s:List Int×List Int)(j:Nat):List Int×List Int:=(ls.take j).foldl leT s
theorem leT_len (s:List Int×List Int)(e:Le):(leT s e).1.length=s.1.length/\(leT s e).2.length=s.2.length:=by
 unfold leT
 constructor
 ·show(if 0<=e.2 then inc1 s.1 e.2 else s.1).length=_;split
  ·exact inc1_len _ _
  ·rfl
 ·show(if 0<=e.1 then inc1 s.2 e.1 else s.2).length=_;split
  ·exact inc1_len _ _
  ·rfl
theorem leF_len (ls:List Le):∀(s:List Int×List Int),(ls.foldl leT s).1.length=s.1.length/\(ls.foldl leT s).2.length=s.2.length:=by
 induction ls with
 | nil=>exact fun _=>⟨rfl,rfl⟩
 | cons e r ih=>
  intro s;rw[List.foldl_cons];have h1:=ih (leT s e);have h2:=leT_len s e;exact⟨h1.1.trans h2.1,h1.2.trans h2.2⟩
theorem leA_succ (ls:List Le)(s:List Int×List Int){j:Nat}(h:j<ls.length):leA ls s (j+1)=leT (leA ls s j) (leAt ls j):=by
 unfold leA;rw[le_take h,List.foldl_append];rfl
def kindT (b:Blk)(s:P4):List Int×(List Int×List Int):=if b.1=0 then(inc1 s.1 b.2.1,(s.2.1,s.2.2.1))else if b.1=1 then(s.1,(inc1 s.2.1 b.2.1,s.2.2.1))else if b.1=2 then(s.1,(s.2.1,inc1 s.2.2.1 b.2.1))else(s.1,(s.2.1,s.2.2.1))
def pkT (s:P4)(b:Blk):P4:=((kindT b s).1,((kindT b s).2.1,leA b.2.2 ((kindT b s).2.2,s.2.2.2) b.2.2.length))
theorem kindT_len (b:Blk)(s:P4):(kindT b s).1.length=s.1.length/\(kindT b s).2.1.length=s.2.1.length/\(kindT b s).2.2.length=s.2.2.1.length:=by
 unfold kindT;split
 ·exact⟨inc1_len _ _,rfl,rfl⟩
 split
 ·exact⟨rfl,inc1_len _ _,rfl⟩
 split
 ·exact⟨rfl,rfl,inc1_len _ _⟩
 ·exact⟨rfl,rfl,rfl⟩
def P4Ok (n:Net)(s:P4):Prop:=s.1.length=n.1.toNat/\s.2.1.length=n.2.2.2.length/\s.2.2.1.length=n.2.1.length/\s.2.2.2.length=n.2.2.1.length
theorem pkT_ok {n:Net}{s:P4}(b:Blk)(h:P4Ok n s):P4Ok n (pkT s b):=by
 obtain⟨h1,h2,h3,h4⟩:=h;obtain⟨k1,k2,k3⟩:=kindT_len b s;have hl:=leF_len (b.2.2.take b.2.2.length) ((kindT b s).2.2,s.2.2.2);exact⟨k1.trans h1,k2.trans h2,(hl.1.trans k3).trans h3,hl.2.trans h4⟩
def pk0 (n:Net):P4:=(List.replicate n.1.toNat 0,(List.replicate n.2.2.2.length 0,(List.replicate n.2.1.length 0,List.replicate n.2.2.1.length 0)))
theorem pk0_ok (n:Net):P4Ok n (pk0 n):=by unfold P4Ok pk0;simp
def pkA (n:Net)(bs:List Blk)(k:Nat):P4:=(bs.take k).foldl pkT (pk0 n)
theorem pkF_ok {n:Net}(bs:List Blk):∀(s:P4),P4Ok n s->P4Ok n (bs.foldl pkT s):=by
 induction bs with
 | nil=>exact fun _ h=>h
 | cons e r ih=>exact fun s h=>ih _ (pkT_ok e h)
theorem pkA_ok (n:Net)(bs:List Blk)(k:Nat):P4Ok n (pkA n bs k):=pkF_ok _ _ (pk0_ok n)
theorem pkA_succ (n:Net)(bs:List Blk){k:Nat}(h:k<bs.length):pkA n bs (k+1)=pkT (pkA n bs k) (bkAt bs k):=by
 unfold pkA;have e:bkAt bs k=bs[k]:=by unfold bkAt;rw[List.getD,List.getElem?_eq_getElem h];rfl
 rw[take_succ' bs k h,List.foldl_append,e];rfl
def once (xs:List Int):Bool:=xs.all fun x=>decide (x=1)
def once4 (s:P4):Bool:=once s.1 && (once s.2.1 && (once s.2.2.1 && once s.2.2.2))
def bkOk (n:Net)(b:Blk):Bool:=itemP n b && blk0 n b
def packP (n:Net)(bs:List Blk):Bool:=netP n && (decide (bs.length<=64) && (bs.all (bkOk n) && once4 (pkA n bs bs.length)))
theorem once_eq (xs:List Int):once xs=if(List.range xs.length).all (fun k=>if hk:k<xs.length then decide (xs[k]=1)else true)=true then true else false:=by
 rw[all_range_list xs (fun e=>decide (e=1)) _ (fun k hk=>by rw[dif_pos hk])];show once xs=if once xs=true then true else false
 cases once xs<;>rfl
theorem once_impl (xs:List Int)(hl:xs.length<=1048576):impl_onceEach xs=some (once xs):=by
 rw[once_eq];unfold impl_onceEach;refine loop_all xs.length (fun k=>(k:Int)) _ false true (fun k hk hok=> ?_) (fun k hk hok=> ?_) ?_
 ·rw[dif_pos hk]at hok;have hok:=of_decide_eq_true hok
  try dsimp only
  rw[dt (show(k:Int)<(xs.length:Int)by omega),cond_true,gget_nat hk];simp only[Option.bind_some];rw[df (fun e=>e hok),cond_false,wrap_ok (by omega)];rfl
 ·rw[dif_pos hk]at hok;have hok:=of_decide_eq_false hok
  try dsimp only
  rw[dt (show(k:Int)<(xs.length:Int)by omega),cond_true,gget_nat hk];simp only[Option.bind_some];rw[dt hok];rfl
 ·try dsimp only
  rw[df (by omega),cond_false];rfl
def lesIn (n:Net)(ls:List Le):Prop:=∀j,j<ls.length->(leAt ls j).1<(n.2.2.1.length:Int)/\(leAt ls j).2<(n.2.1.length:Int)
theorem bk_les {n:Net}{b:Blk}(h:bkOk n b=true):lesIn n b.2.2:=by
 unfold bkOk at h;rw[Bool.and_eq_true]at h;obtain⟨h1,h2⟩:=h;intro j hj;by_cases k3:b.1=3
 ·have:=(lesP_at (item3 h1 (by omega) (by omega) (by omega)).2 hj).1;omega
 ·unfold blk0 at h2;rw[if_neg k3]at h2;have:=of_decide_eq_true h2;omega
theorem le_loop_impl {n:Net}{ls:List Le}(hl:ls.length<=1048576)(hi:lesIn n ls)(s:List Int×List Int)(h1:s.1.length=n.2.1.length)(h2:s.2.length=n.2.2.1.length)(i:Int)(p o:List Int):
 Pu.loop (fun(v15:(Int×(List Int×List Int)))=>
  let v16:Bool:=decide (v15.1<(ls.length:Int))
  bif v16 then(
   (gget (0,0) ls v15.1).bind fun v17=>
   let v18:Bool:=decide (0<=v17.1)
   bif v18 then(
    (gin (v15.2.2).length v17.1).bind fun _=>
    (gget 0 v15.2.2 v17.1).bind fun v20=>
    let v21:Int:=wrap .i64 (v20+1)
    (gin (v15.2.2).length v17.1).bind fun _=>
    (gget 0 v15.2.2 v17.1).bind fun v23=>
    let v24:Int:=v21
    let v25:List Int:=gset v15.2.2 v17.1 v24
    let v26:Bool:=decide (0<=v17.2)
    bif v26 then(
     (gin (v15.2.1).length v17.2).bind fun _=>
     (gget 0 v15.2.1 v17.2).bind fun v28=>
     let v29:Int:=wrap .i64 (v28+1)
     (gin (v15.2.1).length v17.2).bind fun _=>
     (gget 0 v15.2.1 v17.2).bind fun v31=>
     let v32:Int:=v29
     let v33:List Int:=gset v15.2.1 v17.2 v32
     let v34:Int:=wrap .i64 (v15.1+1)
     some (.inl (v34,(v33,v25))))else
    let v27:Int:=wrap .i64 (v15.1+1)
    some (.inl (v27,(v15.2.1,v25))))else
   let v19:Bool:=decide (0<=v17.2)
   bif v19 then(
    (gin (v15.2.1).length v17.2).bind fun _=>
    (gget 0 v15.2.1 v17.2).bind fun v21=>
    let v22:Int:=wrap .i64 (v21+1)
    (gin (v15.2.1).length v17.2).bind fun _=>
    (gget 0 v15.2.1 v17.2).bind fun v24=>
    let v25:Int:=v22
    let v26:List Int:=gset v15.2.1 v17.2 v25
    let v27:Int:=wrap .i64 (v15.1+1)
    some (.inl (v27,(v26,v15.2.2))))else
   let v20:Int:=wrap .i64 (v15.1+1)
   some (.inl (v20,v15.2)))else
  Option.map Sum.inr (
   let v17:Int:=wrap .i64 (i+1)
   some (.inl (v17,(p,(o,v15.2)))))) (0,s)=(some (.inl (wrap .i64 (i+1),(p,(o,leA ls s ls.length)))):Option ((Int×P4)⊕Bool)):=by
 refine loop_upto ls.length (fun j=>((j:Int),leA ls s j)) (fun j hj=> ?_) ?_
 ·obtain⟨q1,q2⟩:=leF_len (ls.take j) s
  change (leA ls s j).1.length=_ at q1
  change (leA ls s j).2.length=_ at q2
  have hij:=hi j hj;rw[leA_succ ls s hj];generalize leA ls s j=t at*
  try dsimp only
  rw[dt (show(j:Int)<(ls.length:Int)by omega),cond_true,le_get hj];simp only[Option.bind_some];generalize leAt ls j=e at*;unfold leT;by_cases c1:0<=e.1
  ·rw[dt c1,cond_true,gin_some c1 (by omega),gget_ns c1 (by omega),if_pos c1];simp only[Option.bind_some];by_cases c2:0<=e.2
   ·rw[dt c2,cond_true,gin_some c2 (by omega),gget_ns c2 (by omega),if_pos c2];simp only[Option.bind_some];rw[wrap_ok (z:=(j:Int)+1) (by omega)];rfl
   ·rw[df c2,cond_false,if_neg c2,wrap_ok (z:=(j:Int)+1) (by omega)];rfl
  ·rw[df c1,cond_false,if_neg c1];by_cases c2:0<=e.2
   ·rw[dt c2,cond_true,gin_some c2 (by omega),gget_ns c2 (by omega),if_pos c2];simp only[Option.bind_some];rw[wrap_ok (z:=(j:Int)+1) (by omega)];rfl
   ·rw[df c2,cond_false,if_neg c2,wrap_ok (z:=(j:Int)+1) (by omega)];rfl
 ·try dsimp only
  rw[df (by omega),cond_false];rfl
theorem bks_eq (n:Net)(bs:List Blk)(x:Bool):(bs.all (bkOk n) && x)=if(List.range bs.length).all (fun k=>bkOk n (bkAt bs k))=true then x else false:=by
 rw[all_range_list bs (bkOk n) _ (fun k hk=>by
  show bkOk n (bkAt bs k)=_;unfold bkAt;rw[List.getD,List.getElem?_eq_getElem hk];rfl)]
 cases bs.all (bkOk n)<;>rfl
theorem bk_item {n:Net}{b:Blk}(h:bkOk n b=true):(b.1=0->0<=b.2.1/\b.2.1<n.1)/\(b.1=1->0<=b.2.1/\b.2.1<(n.2.2.2.length:Int))/\(b.1=2->0<=b.2.1/\b.2.1<(n.2.1.length:Int)):=by
 unfold bkOk at h;rw[Bool.and_eq_true]at h;have h1:=h.1;unfold itemP at h1;refine⟨fun e=> ?_,fun e=> ?_,fun e=> ?_⟩
 ·rw[if_pos e]at h1;exact of_decide_eq_true h1
 ·rw[if_neg (by omega),if_pos e]at h1;exact of_decide_eq_true h1
 ·rw[if_neg (by omega),if_neg (by omega),if_pos e]at h1;exact of_decide_eq_true h1
theorem join_in {α β:Type}(a:α)(k:α->Option β):joinO (some (.inl a)) k=k a:=rfl
theorem pack_impl (n:Net)(bs:List Blk)(hb:NetB n)(hs:BksB bs):impl_PackOk (n,bs)=some (packP n bs):=by
 have hbl:=hs.1;unfold impl_PackOk packP
 try dsimp only
 rw[net_impl n hb];simp only[Option.bind_some];cases hn:netP n with
 | false=>rfl
 | true=>
  obtain⟨hln,_⟩:=netP_all hn;obtain⟨l1,l2,l3,l4⟩:=hln;rw[Bool.not_true,cond_false,Bool.true_and];by_cases c:64<(bs.length:Int)
  ·rw[dt c,df (show ¬bs.length<=64 by omega)];rfl
  have m1:gmake 8 (0:Int) n.1=some (List.replicate n.1.toNat 0):=by
   have:=gmake_nat (b:=8) (d:=(0:Int)) (n:=n.1.toNat) (by omega) (by omega);rw[show((n.1.toNat:Nat):Int)=n.1 by omega]at this;exact this
  rw[df c,cond_false,dt (show bs.length<=64 by omega),Bool.true_and,m1,gmake_nat (b:=8) (d:=(0:Int)) (n:=n.2.2.2.length) (by omega) (by omega),gmake_nat (b:=8) (d:=(0:Int)) (n:=n.2.1.length) (by omega) (by omega),gmake_nat (b:=8) (d:=(0:Int)) (n:=n.2.2.1.length) (by omega) (by omega)];simp only[Option.bind_some];rw[both_same,join_in,both_same,join_in,bks_eq];refine loop_all bs.length (fun k=>((k:Int),pkA n bs k)) _ false _ (fun k hk hok=> ?_) (fun k hk hok=> ?_) ?_
  ·obtain⟨g1,g2⟩:=bk_get hk;have hlen:=hs.at g2;obtain⟨q1,q2,q3,q4⟩:=pkA_ok n bs k;have hin:=bk_les hok;obtain⟨i0,i1,i2⟩:=bk_item hok;rw[pkA_succ n bs hk];generalize pkA n bs k=s at*;generalize bkAt bs k=b at*
   try dsimp only
   rw[dt (show(k:Int)<(bs.length:Int)by omega),cond_true,g1];simp only[Option.bind_some];rw[blk_implV b hb hn hlen];simp only[Option.bind_some];have hok' :(itemP n b && blk0 n b)=true:=hok;have fin:∀p o q:List Int,kindT b s=(p,(o,q))->q.length=n.2.1.length->(some (Sum.inl (wrap .i64 ((k:Int)+1),(p,(o,leA b.2.2 (q,s.2.2.2) b.2.2.length)))):Option ((Int×P4)⊕Bool))=some (Sum.inl (((k+1:Nat):Int),pkT s b)):=by
    intro p o q e _;unfold pkT;rw[e,wrap_ok (by omega)];rfl
   rw[hok',Bool.not_true,cond_false];by_cases k0:b.1=0
   ·have:=i0 k0;rw[dt k0,cond_true,gin_some (by omega) (by omega),gget_ns (by omega) (by omega)];simp only[Option.bind_some];rw[join_in];refine(le_loop_impl hlen hin (s.2.2.1,s.2.2.2) q3 q4 (k:Int) _ _).trans (fin _ _ _ ?_ q3);unfold kindT;rw[if_pos k0];rfl
   rw[df k0,cond_false];by_cases k1:b.1=1
   ·have:=i1 k1;rw[dt k1,cond_true,gin_some (by omega) (by omega),gget_ns (by omega) (by omega)];simp only[Option.bind_some];rw[join_in];refine(le_loop_impl hlen hin (s.2.2.1,s.2.2.2) q3 q4 (k:Int) _ _).trans (fin _ _ _ ?_ q3);unfold kindT;rw[if_neg k0,if_pos k1];rfl
   rw[df k1,cond_false];by_cases k2:b.1=2
   ·have:=i2 k2;rw[dt k2,cond_true,gin_some (by omega) (by omega),gget_ns (by omega) (by omega)];simp only[Option.bind_some];rw[join_in];refine(le_loop_impl hlen hin (inc1 s.2.2.1 b.2.1,s.2.2.2) ((inc1_len _ _).trans q3) q4 (k:Int) _ _).trans (fin _ _ _ ?_ ((inc1_len _ _).trans q3));unfold kindT;rw[if_neg k0,if_neg k1,if_pos k2]
   rw[df k2,cond_false,join_in];refine(le_loop_impl hlen hin (s.2.2.1,s.2.2.2) q3 q4 (k:Int) _ _).trans (fin _ _ _ ?_ q3);unfold kindT;rw[if_neg k0,if_neg k1,if_neg k2]
  ·obtain⟨g1,g2⟩:=bk_get hk;have hlen:=hs.at g2;have hok' :(itemP n (bkAt bs k) && blk0 n (bkAt bs k))=false:=hok
   try dsimp only
   rw[dt (show(k:Int)<(bs.length:Int)by omega),cond_true,g1];simp only[Option.bind_some];rw[blk_implV _ hb hn hlen];simp only[Option.bind_some];rw[hok'];rfl
  ·obtain⟨q1,q2,q3,q4⟩:=pkA_ok n bs bs.length;unfold once4;generalize pkA n bs bs.length=s at*
   try dsimp only
   rw[df (show ¬(bs.length:Int)<(bs.length:Int)by omega),cond_false,once_impl _ (by omega),once_impl _ (by omega),once_impl _ (by omega),once_impl _ (by omega)];simp only[Option.bind_some];cases once s.1<;>cases once s.2.1<;>cases once s.2.2.1<;>rfl
end Go.Pf
/-
  Own work. The laws' marks in lists of connections and of blocks: what is marked is held.
-/
namespace Go.Pf
open Go Go.Pu
set_option linter.unusedVariables false
end Go.Pf
/-
  Own work. The laws' helpers for lists of connections: sizes within the budget, marks.
-/
namespace Go.Pf
open Go Go.Pu
set_option linter.unusedVariables false
def CnB (b:Int)(c:Conn):Prop:=(c.2.2.length:Int)<=b
def CnsB (cs:List Conn):Prop:=cs.length<=1048576/\∀c∈cs,CnB (1048576 - cs.length) c
theorem CnsB.ok {cs:List Conn}(h:CnsB cs):CnsOk cs:=⟨h.1,fun c hc=>by
 have:=h.2 c hc;unfold CnB at this;unfold CnOk;omega⟩
end Go.Pf
/-
  Own work. The connections of a packing, plainly.
-/
namespace Go.Pf
open Go Go.Pu
set_option linter.unusedVariables false
theorem mapS {α β:Type}{X:Option β}{o:β}(h:X=some o):Option.map (Sum.inr:β->α⊕β) X=some (.inr o):=by rw[h];rfl
end Go.Pf
/-
  Own work. Packing, plainly.
-/
namespace Go.Pf
open Go Go.Pu
set_option linter.unusedVariables false
def elT (n:Net):Nat->List Le×List Bool
 | 0=>([],List.replicate n.2.2.1.length false)
 | k+1=>if(sqAt n.2.1 k).1≠0 then elT n k else
  if 0<=nsAt (sqAt n.2.1 k).2.2 0 - fstP n/\nsAt (usesP n) (nsAt (sqAt n.2.1 k).2.2 0).toNat=1 then
   ((elT n k).1++[(nsAt (sqAt n.2.1 k).2.2 0 - fstP n,(k:Int))],gset (elT n k).2 (nsAt (sqAt n.2.1 k).2.2 0 - fstP n) true)
  else((elT n k).1++[(-1,(k:Int))],(elT n k).2)
def bAu (U:List Bool)(k:Nat):Bool:=U.getD k false
theorem bAu_get {U:List Bool}{k:Nat}(h:k<U.length):gget false U (k:Int)=some (bAu U k):=by
 unfold bAu;rw[gget_nat h,List.getD,List.getElem?_eq_getElem h];rfl
def elL (n:Net):Nat->List Le
 | 0=>(elT n n.2.1.length).1
 | k+1=>if bAu (elT n n.2.1.length).2 k=false then elL n k++[((k:Int),-1)]else elL n k
def elP (n:Net):List Le:=elL n n.2.2.1.length
theorem elT_ok {n:Net}(hn:netP n=true):∀k,k<=n.2.1.length->(elT n k).1.length<=k/\(elT n k).2.length=n.2.2.1.length/\∀e∈(elT n k).1,leOk n e:=by
 obtain⟨hln,_,hs,_⟩:=netP_all hn;have hv:=lnV_le hln;intro k
 induction k with
 | zero=>intro _;simp[elT]
 | succ k ih=>
  intro hk;obtain⟨i1,i2,i3⟩:=ih (by omega);have hsk:=hs k (by omega);unfold elT;by_cases c0:(sqAt n.2.1 k).1≠0
  ·rw[if_pos c0];exact⟨by omega,i2,i3⟩
  have c0:(sqAt n.2.1 k).1=0:=Decidable.byContradiction c0;rw[if_neg (fun e=>e c0)];have hlen:(sqAt n.2.1 k).2.2.length=1:=by rcases hsk.1 with q | q<;>omega
  have hx:=belowP_mem hsk.2 (nsAt (sqAt n.2.1 k).2.2 0) (by
   rw[<-ns_at (show 0<(sqAt n.2.1 k).2.2.length by omega)];exact List.getElem_mem _)
  have hlv:lnV n=fstP n+n.2.2.1.length:=rfl;by_cases c1:0<=nsAt (sqAt n.2.1 k).2.2 0 - fstP n/\nsAt (usesP n) (nsAt (sqAt n.2.1 k).2.2 0).toNat=1
  ·rw[if_pos c1];refine⟨by simp;omega,by show(gset _ _ _).length=_;unfold gset;rw[List.length_set];exact i2,fun e he=> ?_⟩;rcases List.mem_append.1 he with q | q
   ·exact i3 e q
   ·rw[List.mem_singleton]at q;subst q;refine⟨⟨⟨by simp only;omega,by simp only;omega⟩,⟨by simp only;omega,by simp only;omega⟩,by simp only;omega⟩,fun _=> ?_,fun _ _=> ?_⟩
    ·simp only[Int.toNat_natCast];exact c0
    ·simp only[Int.toNat_natCast];refine⟨by omega,?_⟩;rw[show fstP n+(nsAt (sqAt n.2.1 k).2.2 0 - fstP n)=nsAt (sqAt n.2.1 k).2.2 0 by omega];exact c1.2
  ·rw[if_neg c1];refine⟨by simp;omega,i2,fun e he=> ?_⟩;rcases List.mem_append.1 he with q | q
   ·exact i3 e q
   ·rw[List.mem_singleton]at q;subst q;refine⟨⟨⟨by simp only;omega,by simp only;omega⟩,⟨by simp only;omega,by simp only;omega⟩,by simp only;omega⟩,fun _=> ?_,fun h=>absurd h (by simp only;omega)⟩;simp only[Int.toNat_natCast];exact c0
theorem elL_ok {n:Net}(hn:netP n=true):∀k,k<=n.2.2.1.length->(elL n k).length<=12+k/\∀e∈elL n k,leOk n e:=by
 obtain⟨hln,_⟩:=netP_all hn;obtain⟨h1,h2,h3⟩:=elT_ok hn n.2.1.length (Nat.le_refl _);have hl2:=hln.2.1;intro k
 induction k with
 | zero=>intro _;exact⟨by show(elT n n.2.1.length).1.length<=_;omega,h3⟩
 | succ k ih=>
  intro hk;obtain⟨i1,i2⟩:=ih (by omega);show(if bAu (elT n n.2.1.length).2 k=false then elL n k++[((k:Int),-1)]else elL n k).length<=_/\∀e∈(if bAu (elT n n.2.1.length).2 k=false then elL n k++[((k:Int),-1)]else elL n k),leOk n e;split
  ·refine⟨by simp;omega,fun e he=> ?_⟩;rcases List.mem_append.1 he with q | q
   ·exact i2 e q
   ·rw[List.mem_singleton]at q;subst q;exact⟨⟨⟨by simp only;omega,by simp only;omega⟩,⟨by simp only;omega,by simp only;omega⟩,by simp only;omega⟩,fun h=>absurd h (by simp only;omega),fun _ h=>absurd h (by simp only;omega)⟩
  ·exact⟨by omega,i2⟩
theorem gapp16l {xs ys:List Le}(h:xs.length+ys.length<=1000000000):gapp 16 xs ys=some (xs++ys):=gapp_some (by omega) (by omega)
theorem gapp40 {xs ys:List Blk}(h:xs.length+ys.length<=1000000000):gapp 40 xs ys=some (xs++ys):=gapp_some (by omega) (by omega)
theorem el_impl {n:Net}(hb:NetB n)(hn:netP n=true):impl_elements n=some (elP n):=by
 obtain⟨hln,_,hs,_⟩:=netP_all hn;have hv:=lnV_le hln;have hl2:=hln.2.1;have hl3:=hln.2.2.1;have hul:=usesP_len n;have hlv:lnV n=fstP n+n.2.2.1.length:=rfl;unfold impl_elements;rw[uses_impl hb hn];simp only[Option.bind_some];rw[gmake_nat (by omega) (by omega)];simp only[Option.bind_some];refine loop_upto n.2.1.length (fun k=>((k:Int),elT n k)) (fun k hk=> ?_) ?_
 ·obtain⟨i1,i2,_⟩:=elT_ok hn k (by omega);have hsk:=hs k hk;obtain⟨g1,g2⟩:=sq_get hk
  try dsimp only
  rw[dt (show(k:Int)<(n.2.1.length:Int)by omega),cond_true,g1];simp only[Option.bind_some];rw[show elT n (k+1)=if(sqAt n.2.1 k).1≠0 then elT n k else
  if 0<=nsAt (sqAt n.2.1 k).2.2 0 - fstP n/\nsAt (usesP n) (nsAt (sqAt n.2.1 k).2.2 0).toNat=1 then
   ((elT n k).1++[(nsAt (sqAt n.2.1 k).2.2 0 - fstP n,(k:Int))],gset (elT n k).2 (nsAt (sqAt n.2.1 k).2.2 0 - fstP n) true)
  else((elT n k).1++[(-1,(k:Int))],(elT n k).2)from rfl]
  generalize elT n k=t at*;by_cases c0:(sqAt n.2.1 k).1≠0
  ·rw[dt c0,cond_true,if_pos c0,wrap_ok (by omega)];rfl
  rw[df c0,cond_false,if_neg c0];have c0:(sqAt n.2.1 k).1=0:=Decidable.byContradiction c0;have hlen:(sqAt n.2.1 k).2.2.length=1:=by rcases hsk.1 with q | q<;>omega
  have g0:gget 0 (sqAt n.2.1 k).2.2 0=some (nsAt (sqAt n.2.1 k).2.2 0):=nsAt_get (show 0<(sqAt n.2.1 k).2.2.length by omega);have hx:=belowP_mem hsk.2 (nsAt (sqAt n.2.1 k).2.2 0) (by
   rw[<-ns_at (show 0<(sqAt n.2.1 k).2.2.length by omega)];exact List.getElem_mem _)
  rw[g0];generalize nsAt (sqAt n.2.1 k).2.2 0=x at*;simp only[Option.bind_some];rw[fst_impl hln];simp only[Option.bind_some];rw[wrap_ok (z:=x - fstP n) (by omega)];by_cases c1:0<=x - fstP n
  ·rw[dt c1,cond_true,gin_some hx.1 (by omega),gget_ns hx.1 (by omega)];simp only[Option.bind_some];by_cases c2:nsAt (usesP n) x.toNat=1
   ·have gb:gget false t.2 (x - fstP n)=some (t.2.getD (x - fstP n).toNat false):=gget_some c1 (by omega);rw[dt c2,cond_true,if_pos ⟨c1,c2⟩,gin_some c1 (by omega),gb];simp only[Option.bind_some];rw[gapp16l (by simp only[List.length_cons,List.length_nil];omega)];simp only[Option.bind_some];rw[wrap_ok (z:=(k:Int)+1) (by omega)];rfl
   ·rw[df c2,cond_false,if_neg (fun e=>c2 e.2),gapp16l (by simp only[List.length_cons,List.length_nil];omega)];simp only[Option.bind_some];rw[wrap_ok (z:=(k:Int)+1) (by omega)];rfl
  ·rw[df c1,cond_false,if_neg (fun e=>c1 e.1),gapp16l (by simp only[List.length_cons,List.length_nil];omega)];simp only[Option.bind_some];rw[wrap_ok (z:=(k:Int)+1) (by omega)];rfl
 ·obtain⟨i1,i2,_⟩:=elT_ok hn n.2.1.length (Nat.le_refl _)
  try dsimp only
  rw[df (show ¬(n.2.1.length:Int)<(n.2.1.length:Int)by omega),cond_false];refine mapS ?_
  refine loop_upto n.2.2.1.length (fun k=>((k:Int),elL n k)) (fun k hk=> ?_) ?_
  ·have hel:=(elL_ok hn k (by omega)).1
   try dsimp only
   rw[dt (show(k:Int)<(n.2.2.1.length:Int)by omega),cond_true,gin_nat (by omega),bAu_get (by omega)];simp only[Option.bind_some];show _=some (Sum.inl (((k+1:Nat):Int),if bAu (elT n n.2.1.length).2 k=false then elL n k++[((k:Int),-1)]else elL n k));cases hu:bAu (elT n n.2.1.length).2 k with
   | true=>rw[Bool.not_true,cond_false,if_neg (by simp),wrap_ok (by omega)];rfl
   | false=>
    rw[Bool.not_false,cond_true,if_pos rfl,gapp16l (by simp only[List.length_cons,List.length_nil];omega)];simp only[Option.bind_some];rw[wrap_ok (by omega)];rfl
  ·try dsimp only
   rw[df (show ¬(n.2.2.1.length:Int)<(n.2.2.1.length:Int)by omega),cond_false];rfl
theorem el_spec {n:Net}(hb:NetB n)(hn:netP n=true):spec_l28Les n=some (elP n):=by
 obtain⟨hln,_,hs,_⟩:=netP_all hn;have hv:=lnV_le hln;have hl2:=hln.2.1;have hl3:=hln.2.2.1;have hul:=usesP_len n;have hlv:lnV n=fstP n+n.2.2.1.length:=rfl;unfold spec_l28Les;rw[uses_spec hb hn];simp only[Option.bind_some];rw[gmake_nat (by omega) (by omega)];simp only[Option.bind_some];refine loop_upto n.2.1.length (fun k=>((k:Int),elT n k)) (fun k hk=> ?_) ?_
 ·obtain⟨i1,i2,_⟩:=elT_ok hn k (by omega);have hsk:=hs k hk;obtain⟨g1,g2⟩:=sq_get hk
  try dsimp only
  rw[dt (show(k:Int)<(n.2.1.length:Int)by omega),cond_true,g1];simp only[Option.bind_some];rw[show elT n (k+1)=if(sqAt n.2.1 k).1≠0 then elT n k else
  if 0<=nsAt (sqAt n.2.1 k).2.2 0 - fstP n/\nsAt (usesP n) (nsAt (sqAt n.2.1 k).2.2 0).toNat=1 then
   ((elT n k).1++[(nsAt (sqAt n.2.1 k).2.2 0 - fstP n,(k:Int))],gset (elT n k).2 (nsAt (sqAt n.2.1 k).2.2 0 - fstP n) true)
  else((elT n k).1++[(-1,(k:Int))],(elT n k).2)from rfl]
  generalize elT n k=t at*;by_cases c0:(sqAt n.2.1 k).1≠0
  ·rw[dt c0,cond_true,if_pos c0,wrap_ok (by omega)];rfl
  rw[df c0,cond_false,if_neg c0];have c0:(sqAt n.2.1 k).1=0:=Decidable.byContradiction c0;have hlen:(sqAt n.2.1 k).2.2.length=1:=by rcases hsk.1 with q | q<;>omega
  have g0:gget 0 (sqAt n.2.1 k).2.2 0=some (nsAt (sqAt n.2.1 k).2.2 0):=nsAt_get (show 0<(sqAt n.2.1 k).2.2.length by omega);have hx:=belowP_mem hsk.2 (nsAt (sqAt n.2.1 k).2.2 0) (by
   rw[<-ns_at (show 0<(sqAt n.2.1 k).2.2.length by omega)];exact List.getElem_mem _)
  rw[g0];generalize nsAt (sqAt n.2.1 k).2.2 0=x at*;simp only[Option.bind_some];rw[fst_spec hln];simp only[Option.bind_some];rw[wrap_ok (z:=x - fstP n) (by omega)];by_cases c1:0<=x - fstP n
  ·rw[dt c1,cond_true,gin_some hx.1 (by omega),gget_ns hx.1 (by omega)];simp only[Option.bind_some];by_cases c2:nsAt (usesP n) x.toNat=1
   ·have gb:gget false t.2 (x - fstP n)=some (t.2.getD (x - fstP n).toNat false):=gget_some c1 (by omega);rw[dt c2,cond_true,if_pos ⟨c1,c2⟩,gin_some c1 (by omega),gb];simp only[Option.bind_some];rw[gapp16l (by simp only[List.length_cons,List.length_nil];omega)];simp only[Option.bind_some];rw[wrap_ok (z:=(k:Int)+1) (by omega)];rfl
   ·rw[df c2,cond_false,if_neg (fun e=>c2 e.2),gapp16l (by simp only[List.length_cons,List.length_nil];omega)];simp only[Option.bind_some];rw[wrap_ok (z:=(k:Int)+1) (by omega)];rfl
  ·rw[df c1,cond_false,if_neg (fun e=>c1 e.1),gapp16l (by simp only[List.length_cons,List.length_nil];omega)];simp only[Option.bind_some];rw[wrap_ok (z:=(k:Int)+1) (by omega)];rfl
 ·obtain⟨i1,i2,_⟩:=elT_ok hn n.2.1.length (Nat.le_refl _)
  try dsimp only
  rw[df (show ¬(n.2.1.length:Int)<(n.2.1.length:Int)by omega),cond_false];refine mapS ?_
  refine loop_upto n.2.2.1.length (fun k=>((k:Int),elL n k)) (fun k hk=> ?_) ?_
  ·have hel:=(elL_ok hn k (by omega)).1
   try dsimp only
   rw[dt (show(k:Int)<(n.2.2.1.length:Int)by omega),cond_true,gin_nat (by omega),bAu_get (by omega)];simp only[Option.bind_some];show _=some (Sum.inl (((k+1:Nat):Int),if bAu (elT n n.2.1.length).2 k=false then elL n k++[((k:Int),-1)]else elL n k));cases hu:bAu (elT n n.2.1.length).2 k with
   | true=>rw[Bool.not_true,cond_false,if_neg (by simp),wrap_ok (by omega)];rfl
   | false=>
    rw[Bool.not_false,cond_true,if_pos rfl,gapp16l (by simp only[List.length_cons,List.length_nil];omega)];simp only[Option.bind_some];rw[wrap_ok (by omega)];rfl
  ·try dsimp only
   rw[df (show ¬(n.2.2.1.length:Int)<(n.2.2.1.length:Int)by omega),cond_false];rfl
def ndsLe (n:Net)(e:Le):List Int:=ins (insLe n e) (outLe n e)
def cmA (xs ys:List Int):Nat->Int
 | 0=>0
 | k+1=>if nsAt xs k∈ys then cmA xs ys k+1 else cmA xs ys k
theorem cmA_le (xs ys:List Int)(k:Nat):0<=cmA xs ys k/\cmA xs ys k<=k:=by
 induction k with
 | zero=>simp[cmA]
 | succ k ih=>unfold cmA;split<;>omega
def com (n:Net)(e r:Le):Int:=cmA (ndsLe n e) (ndsLe n r) (ndsLe n e).length
theorem nds_len {n:Net}(h:netP n=true){e:Le}(he:leOk n e):(ndsLe n e).length<=5:=by
 have h1:=insLe_len h he;have h2:=ins_len (insLe n e) (outLe n e);unfold ndsLe;omega
theorem nds_impl {n:Net}(h:netP n=true){e:Le}(he:leOk n e):impl_leNodes (n,e)=some (ndsLe n e):=by
 have h1:=insLe_len h he;unfold impl_leNodes;rw[ins_impl h he,out_impl (netP_all h).1 he];simp only[Option.bind_some];rw[insert_impl _ _ (by omega)];rfl
theorem com_impl {n:Net}(h:netP n=true){e r:Le}(he:leOk n e)(hr:leOk n r):impl_commonCount (ndsLe n e,ndsLe n r)=some (com n e r):=by
 have h1:=nds_len h he;have h2:=nds_len h hr;unfold impl_commonCount com;generalize ndsLe n e=xs at*;generalize ndsLe n r=ys at*;refine loop_upto xs.length (fun k=>(cmA xs ys k,(k:Int))) (fun k hk=> ?_) ?_
 ·have hc:=cmA_le xs ys k
  try dsimp only
  rw[dt (show(k:Int)<(xs.length:Int)by omega),cond_true,nsAt_get hk];simp only[Option.bind_some];rw[has_impl _ _ (by omega)];simp only[Option.bind_some];show _=some (Sum.inl ((if nsAt xs k∈ys then cmA xs ys k+1 else cmA xs ys k),((k+1:Nat):Int)));by_cases c:nsAt xs k∈ys
  ·rw[dt c,cond_true,if_pos c,wrap_ok (z:=cmA xs ys k+1) (by omega),wrap_ok (z:=(k:Int)+1) (by omega)];rfl
  ·rw[df c,cond_false,if_neg c,wrap_ok (z:=(k:Int)+1) (by omega)];rfl
 ·try dsimp only
  rw[df (by omega),cond_false];rfl
theorem com_spec {n:Net}(h:netP n=true){e r:Le}(he:leOk n e)(hr:leOk n r):spec_l28Common (n,(e,r))=some (com n e r):=by
 have h1:=insLe_len h he;have h2:=insLe_len h hr;have h3:=nds_len h he;have ho:=outLe_r (netP_all h).1 he;unfold spec_l28Common com
 try dsimp only
 rw[ins_spec h he,out_spec (netP_all h).1 he,ins_spec h hr,out_spec (netP_all h).1 hr];simp only[Option.bind_some];rw[gapp_ok (by simp only[List.length_cons,List.length_nil];omega)];simp only[Option.bind_some];rw[gapp_ok (by simp only[List.length_cons,List.length_nil];omega)];simp only[Option.bind_some];rw[set28_spec _ _ (by simp only[List.length_append,List.length_cons,List.length_nil];omega) (by simp)];simp only[Option.bind_some];have e1:setP (insLe n e++[outLe n e]) []=ndsLe n e:=by
  refine asc_ext (asc_insL asc_nil) (asc_ins (asc_insL asc_nil)) fun x=> ?_
  rw[setP_mem,List.mem_append,List.mem_singleton];unfold ndsLe;rw[mem_ins]
  constructor
  ·rintro⟨q | q,_⟩
   ·exact .inr q
   ·exact .inl q
  ·rintro(q | q)
   ·exact⟨.inr q,by omega,by simp⟩
   ·exact⟨.inl q,(setP_mem.1 q).2.1,by simp⟩
 have e2:∀x,(x∈insLe n r++[outLe n r])↔x∈ndsLe n r:=fun x=>by
  unfold ndsLe;rw[mem_ins,List.mem_append,List.mem_singleton];exact⟨fun q=>q.symm,fun q=>q.symm⟩
 rw[e1];have h4:(insLe n r++[outLe n r]).length<=5:=by simp;omega
 generalize insLe n r++[outLe n r]=zs at*;generalize ndsLe n e=xs at*;generalize ndsLe n r=ys at*;refine loop_upto xs.length (fun k=>(cmA xs ys k,(k:Int))) (fun k hk=> ?_) ?_
 ·have hc:=cmA_le xs ys k
  try dsimp only
  rw[dt (show(k:Int)<(xs.length:Int)by omega),cond_true,gin_nat hk,nsAt_get hk];simp only[Option.bind_some];rw[has_spec _ _ (by omega)];simp only[Option.bind_some];show _=some (Sum.inl ((if nsAt xs k∈ys then cmA xs ys k+1 else cmA xs ys k),((k+1:Nat):Int)));by_cases c:nsAt xs k∈ys
  ·rw[dt ((e2 _).2 c),if_pos c];show(some (1:Int)).bind _=_;simp only[Option.bind_some];rw[wrap_ok (z:=cmA xs ys k+1) (by omega),wrap_ok (z:=(k:Int)+1) (by omega)];rfl
  ·rw[df (fun q=>c ((e2 _).1 q)),if_neg c];show(some (0:Int)).bind _=_;simp only[Option.bind_some];rw[wrap_ok (z:=cmA xs ys k+0) (by omega),wrap_ok (z:=(k:Int)+1) (by omega),Int.add_zero];rfl
 ·try dsimp only
  rw[df (by omega),cond_false];rfl
end Go.Pf
/-
  Own work. Packing, plainly: the search for partners.
-/
namespace Go.Pf
open Go Go.Pu
set_option linter.unusedVariables false
def scP (n:Net)(e:Le)(rest:List Le):Nat->Int×Int
 | 0=>(-1,-1)
 | k+1=>if(pinsP n [e,leAt rest k]).length<=5/\(scP n e rest k).2<com n e (leAt rest k)then((k:Int),com n e (leAt rest k))else scP n e rest k
theorem com_le {n:Net}(h:netP n=true){e r:Le}(he:leOk n e):0<=com n e r/\com n e r<=5:=by
 have h1:=nds_len h he;have h2:=cmA_le (ndsLe n e) (ndsLe n r) (ndsLe n e).length;unfold com;omega
theorem scP_ok {n:Net}(h:netP n=true){e:Le}(he:leOk n e)(rest:List Le)(k:Nat): -1<=(scP n e rest k).1/\(scP n e rest k).1<k∧-1<=(scP n e rest k).2/\(scP n e rest k).2<=5:=by
 induction k with
 | zero=>simp[scP]
 | succ k ih=>
  unfold scP;split
  ·have:=com_le h (r:=leAt rest k) he;exact⟨by simp only;omega,by simp only;omega,by simp only;omega,by simp only;omega⟩
  ·omega
inductive Packs (n:Net):List Blk->List Le->List Blk->Prop
 | nil (bs:List Blk):Packs n bs [] bs
 | two (bs:List Blk) (e:Le) (rest:List Le) (b:Nat) (out:List Blk):(scP n e rest rest.length).1=(b:Int)->b<rest.length->Packs n (bs++[(3,(0,[e,leAt rest b]))]) (rest.take b++rest.drop (b+1)) out->Packs n bs (e::rest) out
 | one (bs:List Blk) (e:Le) (rest:List Le) (out:List Blk):(scP n e rest rest.length).1<0->Packs n (bs++[(3,(0,[e]))]) rest out->Packs n bs (e::rest) out
theorem packs_ex {n:Net}(h:netP n=true):∀(m:Nat) (bs:List Blk) (left:List Le),left.length<=m->(∀e∈left,leOk n e)->∃out,Packs n bs left out
 | _,bs,[],_,_=>⟨bs,.nil bs⟩
 | 0,bs,e::rest,hm,_=>by simp at hm
 | m+1,bs,e::rest,hm,ho=>by
  have hs:=scP_ok h (ho e (by simp)) rest rest.length;simp only[List.length_cons]at hm;by_cases c:(scP n e rest rest.length).1<0
  ·obtain⟨out,hp⟩:=packs_ex h m (bs++[(3,(0,[e]))]) rest (by omega) (fun x hx=>ho x (by simp[hx]));exact⟨out,.one bs e rest out c hp⟩
  ·obtain⟨b,hb⟩:∃b:Nat,(scP n e rest rest.length).1=(b:Int):=⟨(scP n e rest rest.length).1.toNat,by omega⟩;obtain⟨out,hp⟩:=packs_ex h m (bs++[(3,(0,[e,leAt rest b]))]) (rest.take b++rest.drop (b+1)) (by simp;omega) (fun x hx=>by
    rcases List.mem_append.1 hx with q | q
    ·exact ho x (List.mem_cons_of_mem _ (List.mem_of_mem_take q))
    ·exact ho x (List.mem_cons_of_mem _ (List.mem_of_mem_drop q)))
   exact⟨out,.two bs e rest b out hb (by omega) hp⟩
theorem packs_grow {n:Net}{bs:List Blk}{left:List Le}{out:List Blk}(h:Packs n bs left out):bs.length<=out.length/\(left≠[]->bs.length<out.length)/\((∀b∈bs,b.2.2.length<=2)->∀b∈out,b.2.2.length<=2):=by
 induction h with
 | nil bs=>exact⟨Nat.le_refl _,fun q=>absurd rfl q,fun q=>q⟩
 | two bs e rest b out _ _ _ ih=>
  obtain⟨i1,_,i3⟩:=ih;rw[List.length_append]at i1;simp only[List.length_cons,List.length_nil]at i1;refine⟨by omega,fun _=>by omega,fun q=>i3 fun x hx=> ?_⟩;rcases List.mem_append.1 hx with p | p
  ·exact q x p
  ·rw[List.mem_singleton]at p;subst p;simp
 | one bs e rest out _ _ ih=>
  obtain⟨i1,_,i3⟩:=ih;rw[List.length_append]at i1;simp only[List.length_cons,List.length_nil]at i1;refine⟨by omega,fun _=>by omega,fun q=>i3 fun x hx=> ?_⟩;rcases List.mem_append.1 hx with p | p
  ·exact q x p
  ·rw[List.mem_singleton]at p;subst p;simp
def finP (out:List Blk):List Blk×Bool:=if 64<(out.length:Int)then([],false)else(out,true)
noncomputable def pkF (v0:Net):(List Blk×List Le)->Option ((List Blk×List Le)⊕(List Blk×Bool)):=(fun(v12:(List (Int×(Int×List (Int×Int)))×List (Int×Int)))=>
 let v13:Int:=((v12.2).length:Int)
 let v14:Bool:=decide (0<v13)
 bif v14 then(
  (gin (v12.2).length 0).bind fun _=>
  (gget (0,0) v12.2 0).bind fun v16=>
  let v17:List (Int×Int):=[v16]
  (impl_leNodes (v0,v16)).bind fun v18=>
  Pu.loop (fun(v19:(Int×(Int×Int)))=>
   let v20:Int:=((v12.2).length:Int)
   let v21:Bool:=decide (v19.2.2<v20)
   bif v21 then(
    joinO (
     (gin (v12.2).length v19.2.2).bind fun _=>
     (gget (0,0) v12.2 v19.2.2).bind fun v23=>
     let v24:List (Int×Int):=[v16,v23]
     some (.inl v24)) (fun(v22:List (Int×Int))=>
     (gin (v12.2).length v19.2.2).bind fun _=>
     (gget (0,0) v12.2 v19.2.2).bind fun v24=>
     (impl_leNodes (v0,v24)).bind fun v25=>
     (impl_commonCount (v18,v25)).bind fun v26=>
     (impl_pinNodes (v0,(3,(0,v22)))).bind fun v27=>
     let v28:Int:=((v27).length:Int)
     let v29:Bool:=decide (v28<=5)
     bif v29 then(
      let v30:Bool:=decide (v19.2.1<v26)
      bif v30 then(
       let v31:Int:=wrap .i64 (v19.2.2+1)
       some (.inl (v19.2.2,(v26,v31))))else
      let v31:Int:=wrap .i64 (v19.2.2+1)
      some (.inl (v19.1,(v19.2.1,v31))))else
     let v30:Int:=wrap .i64 (v19.2.2+1)
     some (.inl (v19.1,(v19.2.1,v30)))))else
   Option.map Sum.inr (
    let v22:Bool:=decide (0<v19.1)
    bif v22 then(
     (gin (v12.2).length v19.1).bind fun _=>
     (gget (0,0) v12.2 v19.1).bind fun v24=>
     let v25:List (Int×Int):=[v24]
     (gapp 16 v17 v25).bind fun v26=>
     (gslice v12.2 0 v19.1).bind fun v27=>
     let v28:Int:=wrap .i64 (v19.1+1)
     (gslice v12.2 v28 ((v12.2).length:Int)).bind fun v29=>
     (gapp 16 v27 v29).bind fun v30=>
     (gslice v30 1 ((v30).length:Int)).bind fun v31=>
     let v32:List (Int×(Int×List (Int×Int))):=[(3,(0,v26))]
     (gapp 40 v12.1 v32).bind fun v33=>
     some (.inl (v33,v31)))else
    (gslice v12.2 1 ((v12.2).length:Int)).bind fun v23=>
    let v24:List (Int×(Int×List (Int×Int))):=[(3,(0,v17))]
    (gapp 40 v12.1 v24).bind fun v25=>
    some (.inl (v25,v23)))) ((-1),((-1),1)))else
 Option.map Sum.inr (
  let v15:Int:=((v12.1).length:Int)
  let v16:Bool:=decide (64<v15)
  bif v16 then(
   some (([]:List (Int×(Int×List (Int×Int)))),false))else
  some (v12.1,true)))
def b1 (b:Int):Int:=if b<0 then -1 else b+1
theorem les2 {n:Net}{e r:Le}(he:leOk n e)(hr:leOk n r):lesP n [e,r]=true:=by
 unfold lesP;simp[he,hr]
theorem les1 {n:Net}{e:Le}(he:leOk n e):lesP n [e]=true:=by
 unfold lesP;simp[he]
theorem leAt_cons (e:Le)(rest:List Le)(k:Nat):leAt (e::rest) (k+1)=leAt rest k:=by unfold leAt;simp
theorem leAt_mem {ls:List Le}{k:Nat}(h:k<ls.length):leAt ls k∈ls:=by rw[<-le_eq h];exact List.getElem_mem h
theorem gslice_preL {xs:List Le}{k:Nat}(h:k<=xs.length):gslice xs 0 (k:Int)=some (xs.take k):=by
 unfold gslice;rw[if_pos ⟨by omega,by omega,by omega⟩];simp
theorem gslice_sufL {xs:List Le}{k:Nat}(h:k<=xs.length):gslice xs (k:Int) (xs.length:Int)=some (xs.drop k):=by
 unfold gslice;rw[if_pos ⟨by omega,by omega,by omega⟩];simp
theorem pkF_scan {n:Net}(hb:NetB n)(hn:netP n=true)(e:Le)(rest:List Le)(bs:List Blk)(ho:∀x∈e::rest,leOk n x)(hl:rest.length<=1000)(hbl:bs.length<=1000):
 pkF n (bs,e::rest)=some (.inl (if 0<b1 (scP n e rest rest.length).1 then(bs++[(3,(0,[e,leAt rest (scP n e rest rest.length).1.toNat]))],rest.take (scP n e rest rest.length).1.toNat++rest.drop ((scP n e rest rest.length).1.toNat+1))else(bs++[(3,(0,[e]))],rest))):=by
 have he:=ho e (by simp);unfold pkF;have hg0:gget ((0,0):Le) (e::rest) 0=some e:=by rw[gget_some (by omega) (by simp only[List.length_cons];omega)];rfl
 have hi0:gin (e::rest).length 0=some ():=gin_some (by omega) (by simp only[List.length_cons];omega)
 try dsimp only
 rw[dt (show 0<((e::rest).length:Int)by simp only[List.length_cons];omega),cond_true,hi0,hg0];simp only[Option.bind_some];rw[nds_impl hn he];simp only[Option.bind_some];refine loop_upto rest.length (fun k=>(b1 (scP n e rest k).1,((scP n e rest k).2,((1+k:Nat):Int)))) (fun k hk=> ?_) ?_
 ·have hsc:=scP_ok hn he rest k;have hr:=ho (leAt rest k) (List.mem_cons_of_mem _ (leAt_mem hk));have hk2:1+k<(e::rest).length:=by simp only[List.length_cons];omega
  have hgk:gget ((0,0):Le) (e::rest) ((1+k:Nat):Int)=some (leAt rest k):=by
   rw[le_get hk2,Nat.add_comm,leAt_cons]
  have hik:gin (e::rest).length ((1+k:Nat):Int)=some ():=gin_nat hk2;have hit:itemP n (3,(0,[e,leAt rest k]))=true:=les2 he hr;have hpin:pinN n (3,(0,[e,leAt rest k]))=pinsP n [e,leAt rest k]:=rfl
  try dsimp only
  rw[dt (show((1+k:Nat):Int)<((e::rest).length:Int)by omega),cond_true,hik,hgk];simp only[Option.bind_some];rw[join_in,nds_impl hn hr];simp only[Option.bind_some];rw[com_impl hn he hr];simp only[Option.bind_some];rw[pinN_impl hb hn hit (by simp),hpin];simp only[Option.bind_some];show _=some (Sum.inl (b1 (if(pinsP n [e,leAt rest k]).length<=5/\(scP n e rest k).2<com n e (leAt rest k)then((k:Int),com n e (leAt rest k))else scP n e rest k).1,((if(pinsP n [e,leAt rest k]).length<=5/\(scP n e rest k).2<com n e (leAt rest k)then((k:Int),com n e (leAt rest k))else scP n e rest k).2,((1+(k+1):Nat):Int))));have hw:wrap .i64 (((1+k:Nat):Int)+1)=((1+(k+1):Nat):Int):=by rw[wrap_ok (by omega)];omega
  by_cases c1:((pinsP n [e,leAt rest k]).length:Int)<=5
  ·rw[dt c1,cond_true];by_cases c2:(scP n e rest k).2<com n e (leAt rest k)
   ·rw[dt c2,cond_true,if_pos ⟨by omega,c2⟩,hw];have e1:b1 (k:Int)=((1+k:Nat):Int):=by unfold b1;rw[if_neg (by omega)];omega
    rw[e1]
   ·rw[df c2,cond_false,if_neg (fun q=>c2 q.2),hw]
  ·rw[df c1,cond_false,if_neg (fun q=>c1 (by omega)),hw]
 ·have hsc:=scP_ok hn he rest rest.length;generalize scP n e rest rest.length=s at*;have hlen:((1+rest.length:Nat):Int)=((e::rest).length:Int):=by simp only[List.length_cons];omega
  try dsimp only
  rw[hlen,df (show ¬((e::rest).length:Int)<((e::rest).length:Int)by omega),cond_false];refine mapS ?_
  by_cases c:s.1<0
  ·have e1:b1 s.1= -1:=by unfold b1;rw[if_pos c]
   have hs1:gslice (e::rest) 1 ((e::rest).length:Int)=some rest:=gslice_sufL (k:=1) (by simp only[List.length_cons];omega);rw[e1,df (show ¬(0:Int)< -1 by omega),cond_false,if_neg (show ¬(0:Int)< -1 by omega),hs1];simp only[Option.bind_some];rw[gapp40 (by simp only[List.length_cons,List.length_nil];omega)];rfl
  ·obtain⟨b,hb'⟩:∃b:Nat,s.1=(b:Int):=⟨s.1.toNat,by omega⟩;have e1:b1 s.1=((b+1:Nat):Int):=by unfold b1;rw[if_neg c,hb'];omega
   have hbr:b<rest.length:=by omega
   have hbl2:b+1<(e::rest).length:=by simp only[List.length_cons];omega
   rw[e1,dt (show(0:Int)<((b+1:Nat):Int)by omega),cond_true,if_pos (show(0:Int)<((b+1:Nat):Int)by omega),gin_nat hbl2,le_get hbl2,leAt_cons];simp only[Option.bind_some];rw[gapp16l (by simp),gslice_preL (show b+1<=(e::rest).length by omega),wrap_ok (by omega)];simp only[Option.bind_some];have e2:(((b+1:Nat):Int)+1)=((b+2:Nat):Int):=by omega
   rw[e2,gslice_sufL (show b+2<=(e::rest).length by omega)];simp only[Option.bind_some];rw[gapp16l (by rw[List.length_take,List.length_drop];omega)];simp only[Option.bind_some];have e3:∀zs:List Le,zs=(e::rest).take (b+1)++(e::rest).drop (b+2)->gslice zs 1 (zs.length:Int)=some (rest.take b++rest.drop (b+1)):=fun zs hz=>by
    subst hz;rw[show(1:Int)=((1:Nat):Int)from rfl,gslice_sufL (by simp)];rfl
   rw[e3 _ rfl];simp only[Option.bind_some];rw[gapp40 (by simp only[List.length_cons,List.length_nil];omega),hb',Int.toNat_natCast];rfl
theorem loop_inl {σ ω:Type}{f:σ->Option (σ⊕ω)}{s s' :σ}(h:f s=some (.inl s')):loop f s=loop f s' :=by rw[loop_eq,h]
theorem loop_inr {σ ω:Type}{f:σ->Option (σ⊕ω)}{s:σ}{o:ω}(h:f s=some (.inr o)):loop f s=some o:=by rw[loop_eq,h]
theorem pkF_run {n:Net}(hb:NetB n)(hn:netP n=true){bs:List Blk}{left:List Le}{out:List Blk}(h:Packs n bs left out):(∀x∈left,leOk n x)->bs.length+left.length<=1000->loop (pkF n) (bs,left)=some (finP out):=by
 induction h with
 | nil bs=>
  intro _ _;refine loop_inr ?_
  unfold pkF finP
  try dsimp only
  rw[df (show ¬0<(([]:List Le).length:Int)by simp),cond_false];by_cases c:64<(bs.length:Int)
  ·rw[dt c,cond_true,if_pos c];rfl
  ·rw[df c,cond_false,if_neg c];rfl
 | two bs e rest b out h1 h2 _ ih=>
  intro ho hl;simp only[List.length_cons]at hl;have hs:=pkF_scan hb hn e rest bs ho (by omega) (by omega);rw[h1,show b1 ((b:Nat):Int)=((b+1:Nat):Int)by unfold b1;rw[if_neg (by omega)];omega,if_pos (show(0:Int)<((b+1:Nat):Int)by omega),Int.toNat_natCast]at hs;rw[loop_inl hs];refine ih (fun x hx=> ?_) ?_
  ·rcases List.mem_append.1 hx with q | q
   ·exact ho x (List.mem_cons_of_mem _ (List.mem_of_mem_take q))
   ·exact ho x (List.mem_cons_of_mem _ (List.mem_of_mem_drop q))
  ·simp only[List.length_append,List.length_cons,List.length_nil,List.length_take,List.length_drop];omega
 | one bs e rest out h1 _ ih=>
  intro ho hl;simp only[List.length_cons]at hl;have hs:=pkF_scan hb hn e rest bs ho (by omega) (by omega);rw[show b1 (scP n e rest rest.length).1= -1 by unfold b1;rw[if_pos h1],if_neg (show ¬(0:Int)< -1 by omega)]at hs;rw[loop_inl hs];refine ih (fun x hx=>ho x (List.mem_cons_of_mem _ hx)) ?_
  simp only[List.length_append,List.length_cons,List.length_nil];omega
end Go.Pf
/-
  Own work. Packing, plainly: the reference's loop.
-/
namespace Go.Pf
open Go Go.Pu
set_option linter.unusedVariables false
def lft (N:Nat)(U:List Bool)(i:Nat):List Nat:=(List.range' i (N - i)).filter fun j=> !bAu U j
theorem lft_end (N:Nat)(U:List Bool):lft N U N=[]:=by unfold lft;rw[Nat.sub_self];rfl
theorem lft_cons {N i:Nat}(h:i<N)(U:List Bool):lft N U i=if bAu U i=true then lft N U (i+1)else i::lft N U (i+1):=by
 unfold lft;rw[show N - i=(N - (i+1))+1 by omega,List.range'_succ,List.filter_cons];cases bAu U i<;>rfl
theorem lft_mem {N i:Nat}{U:List Bool}{j:Nat}(h:j∈lft N U i):i<=j/\j<N/\bAu U j=false:=by
 unfold lft at h;rw[List.mem_filter,List.mem_range'_1]at h;obtain⟨h1,h2⟩:=h;refine⟨by omega,by omega,by simpa using h2⟩
theorem lft_len (N:Nat)(U:List Bool)(i:Nat):(lft N U i).length<=N - i:=by
 unfold lft;exact Nat.le_trans (List.length_filter_le _ _) (by rw[List.length_range'];exact Nat.le_refl _)
theorem filt_ne:∀(I:List Nat) (b:Nat) (h:b<I.length),I.Nodup->I.filter (fun j=> !(j==I[b]))=I.take b++I.drop (b+1)
 | [],b,h,_=>by simp at h
 | x::xs,0,h,hn=>by
  rw[List.nodup_cons]at hn;rw[List.filter_cons,if_neg (by simp)];show xs.filter (fun j=> !(j==x))=[]++xs;rw[List.nil_append];refine List.filter_eq_self.2 fun a ha=> ?_
  have:a≠x:=fun e=>hn.1 (by rw[<-e];exact ha)
  simp[this]
 | x::xs,b+1,h,hn=>by
  rw[List.nodup_cons]at hn;have hb:b<xs.length:=by simpa using h
  have hx:x≠xs[b]:=fun e=>hn.1 (by rw[e];exact List.getElem_mem hb)
  rw[List.filter_cons,if_pos (by simpa using hx)];show x::xs.filter (fun j=> !(j==xs[b]))=x::(xs.take b++xs.drop (b+1));rw[filt_ne xs b hb hn.2]
theorem bAu_set {U:List Bool}{a:Nat}(h:a<U.length)(j:Nat):bAu (U.set a true) j=if j=a then true else bAu U j:=by
 unfold bAu;rw[List.getD,List.getD,List.getElem?_set];by_cases c:a=j
 ·subst c;simp[h]
 ·rw[if_neg c,if_neg (fun e=>c e.symm)]
theorem lft_set {N i:Nat}{U:List Bool}(hU:U.length=N){b:Nat}(hb:b<(lft N U i).length):lft N (U.set ((lft N U i).getD b 0) true) i=(lft N U i).take b++(lft N U i).drop (b+1):=by
 have hn:(lft N U i).Nodup:=List.Pairwise.sublist List.filter_sublist (List.nodup_range' (s:=i) (n:=N - i));have e:(lft N U i).getD b 0=(lft N U i)[b]:=by rw[List.getD,List.getElem?_eq_getElem hb];rfl
 rw[<-filt_ne _ b hb hn,e];have ha:=(lft_mem (List.getElem_mem hb)).2.1;generalize (lft N U i)[b]=a at*;unfold lft;rw[List.filter_filter];refine List.filter_congr fun j hj=> ?_
 rw[bAu_set (by omega)];by_cases c:j=a
 ·subst c;simp
 ·rw[if_neg c];simp[c]
def cntF (U:List Bool)(i t:Nat):Nat:=((List.range' i t).filter fun j=> !bAu U j).length
theorem cntF_succ (U:List Bool)(i t:Nat):cntF U i (t+1)=if bAu U (i+t)=true then cntF U i t else cntF U i t+1:=by
 unfold cntF;rw[List.range'_concat,List.filter_append,List.length_append,Nat.one_mul];cases h:bAu U (i+t)<;>simp[h]
theorem lft_at {N i t:Nat}(U:List Bool)(h:i+t<N)(hf:bAu U (i+t)=false):cntF U i t<(lft N U i).length/\(lft N U i).getD (cntF U i t) 0=i+t:=by
 have e:lft N U i=((List.range' i t).filter fun j=> !bAu U j)++((i+t)::lft N U (i+t+1)):=by
  have h1:=lft_cons (N:=N) (i:=i+t) h U;rw[if_neg (by simp[hf])]at h1;rw[<-h1];unfold lft;rw[<-List.filter_append,show N - i=t+(N - (i+t))by omega,<-List.range'_append,Nat.one_mul]
 have e2:cntF U i t=((List.range' i t).filter fun j=> !bAu U j).length:=rfl;rw[e,e2];refine⟨by rw[List.length_append,List.length_cons];omega,?_⟩;rw[List.getD,List.getElem?_append_right (Nat.le_refl _),Nat.sub_self];rfl
def absI (I:List Nat)(b:Int):Int:=if b<0 then -1 else((I.getD b.toNat 0:Nat):Int)
theorem leAt_map (les:List Le){I:List Nat}{k:Nat}(h:k<I.length):leAt (I.map (leAt les)) k=leAt les (I.getD k 0):=by
 rw[show leAt (I.map (leAt les)) k=(I.map (leAt les)).getD k (0,0)from rfl,List.getD,List.getElem?_map,List.getD,List.getElem?_eq_getElem h];rfl
noncomputable def pkG (v0:Net)(v11:List Le):(Int×(List Blk×List Bool))->Option ((Int×(List Blk×List Bool))⊕(List Blk×Bool)):=(fun(v14:(Int×(List (Int×(Int×List (Int×Int)))×List Bool)))=>
 let v15:Int:=((v11).length:Int)
 let v16:Bool:=decide (v14.1<v15)
 bif v16 then(
  (gin (v14.2.2).length v14.1).bind fun _=>
  (gget false v14.2.2 v14.1).bind fun v18=>
  bif v18 then(
   let v19:Int:=wrap .i64 (v14.1+1)
   some (.inl (v19,v14.2)))else
  let v19:Int:=((v14.2.1).length:Int)
  let v20:Bool:=decide (v19=64)
  bif v20 then(
   Option.map Sum.inr (
    some (([]:List (Int×(Int×List (Int×Int)))),false)))else
  let v21:Int:=wrap .i64 (v14.1+1)
  Pu.loop (fun(v22:(Int×(Int×Int)))=>
   let v23:Int:=((v11).length:Int)
   let v24:Bool:=decide (v22.1<v23)
   bif v24 then(
    (gin (v14.2.2).length v22.1).bind fun _=>
    (gget false v14.2.2 v22.1).bind fun v26=>
    bif v26 then(
     let v27:Int:=wrap .i64 (v22.1+1)
     some (.inl (v27,v22.2)))else
    (gin (v11).length v14.1).bind fun _=>
    (gget (0,0) v11 v14.1).bind fun v28=>
    (gin (v11).length v22.1).bind fun _=>
    (gget (0,0) v11 v22.1).bind fun v30=>
    let v31:List (Int×Int):=[v28,v30]
    (spec_l28Pins (v0,v31)).bind fun v32=>
    let v33:Int:=((v32).length:Int)
    let v34:Bool:=decide (5<v33)
    bif v34 then(
     let v35:Int:=wrap .i64 (v22.1+1)
     some (.inl (v35,v22.2)))else
    (gin (v11).length v14.1).bind fun _=>
    (gget (0,0) v11 v14.1).bind fun v36=>
    (gin (v11).length v22.1).bind fun _=>
    (gget (0,0) v11 v22.1).bind fun v38=>
    (spec_l28Common (v0,(v36,v38))).bind fun v39=>
    let v40:Bool:=decide (v22.2.2<v39)
    bif v40 then(
     let v41:Int:=wrap .i64 (v22.1+1)
     some (.inl (v41,(v22.1,v39))))else
    let v41:Int:=wrap .i64 (v22.1+1)
    some (.inl (v41,v22.2)))else
   Option.map Sum.inr (
    (gin (v11).length v14.1).bind fun _=>
    (gget (0,0) v11 v14.1).bind fun v26=>
    let v27:List (Int×Int):=[v26]
    let v28:Bool:=decide (0<=v22.2.1)
    bif v28 then(
     (gin (v11).length v22.2.1).bind fun _=>
     (gget (0,0) v11 v22.2.1).bind fun v30=>
     let v31:List (Int×Int):=[v30]
     (gapp 16 v27 v31).bind fun v32=>
     (gin (v14.2.2).length v22.2.1).bind fun _=>
     (gget false v14.2.2 v22.2.1).bind fun v34=>
     let v35:Bool:=true
     let v36:List Bool:=gset v14.2.2 v22.2.1 v35
     let v37:List (Int×(Int×List (Int×Int))):=[(3,(0,v32))]
     (gapp 40 v14.2.1 v37).bind fun v38=>
     let v39:Int:=wrap .i64 (v14.1+1)
     some (.inl (v39,(v38,v36))))else
    let v29:List (Int×(Int×List (Int×Int))):=[(3,(0,v27))]
    (gapp 40 v14.2.1 v29).bind fun v30=>
    let v31:Int:=wrap .i64 (v14.1+1)
    some (.inl (v31,(v30,v14.2.2))))) (v21,((-1),(-1))))else
 Option.map Sum.inr (
  let v17:Int:=((v14.2.1).length:Int)
  let v18:Bool:=decide (v17<=64)
  some (v14.2.1,v18)))
theorem pkG_scan {n:Net}(hb:NetB n)(hn:netP n=true)(les:List Le)(bs:List Blk)(U:List Bool)(i:Nat)(ho:∀x∈les,leOk n x)(hl:les.length<=1000)(hU:U.length=les.length)(hi:i<les.length)(hf:bAu U i=false)(hbl:bs.length<64)(I:List Nat)(hI:I=lft les.length U (i+1))(e:Le)(hee:e=leAt les i)(rest:List Le)(hre:rest=I.map (leAt les)):
 pkG n les ((i:Int),(bs,U))=some (.inl (if 0<=(scP n e rest rest.length).1 then(((i+1:Nat):Int),(bs++[(3,(0,[e,leAt rest (scP n e rest rest.length).1.toNat]))],U.set (I.getD (scP n e rest rest.length).1.toNat 0) true))else(((i+1:Nat):Int),(bs++[(3,(0,[e]))],U)))):=by
 have he:leOk n e:=by rw[hee];exact ho _ (leAt_mem hi)
 have hIl:I.length<=les.length - (i+1):=by rw[hI];exact lft_len _ _ _
 have hrl:rest.length=I.length:=by rw[hre,List.length_map]
 have hge:gget ((0,0):Le) les (i:Int)=some e:=by rw[le_get hi,hee]
 have hgi:gin les.length (i:Int)=some ():=gin_nat hi;unfold pkG
 try dsimp only
 rw[dt (show(i:Int)<(les.length:Int)by omega),cond_true,gin_nat (show i<U.length by omega),bAu_get (by omega),hf];simp only[Option.bind_some];rw[cond_false,df (show ¬(bs.length:Int)=64 by omega),cond_false,wrap_ok (by omega)];have e0:((i:Int)+1,((-1:Int),(-1:Int)))=(fun t:Nat=>(((i+1+t:Nat):Int),(absI I (scP n e rest (cntF U (i+1) t)).1,(scP n e rest (cntF U (i+1) t)).2))) 0:=by
  simp[cntF,scP,absI]
 rw[e0];refine loop_upto (les.length - (i+1)) (fun t:Nat=>(((i+1+t:Nat):Int),(absI I (scP n e rest (cntF U (i+1) t)).1,(scP n e rest (cntF U (i+1) t)).2))) (fun t ht=> ?_) ?_
 ·have hj:i+1+t<les.length:=by omega
  have hs:=cntF_succ U (i+1) t;have hw:wrap .i64 (((i+1+t:Nat):Int)+1)=((i+1+(t+1):Nat):Int):=by rw[wrap_ok (by omega)];omega
  try dsimp only
  rw[dt (show((i+1+t:Nat):Int)<(les.length:Int)by omega),cond_true,gin_nat (show i+1+t<U.length by omega),bAu_get (show i+1+t<U.length by omega)];simp only[Option.bind_some];cases hu:bAu U (i+1+t)with
  | true=>
   rw[hu,if_pos rfl]at hs;rw[cond_true,hs,hw]
  | false=>
   rw[hu,if_neg (by simp)]at hs;obtain⟨a1,a2⟩:=lft_at U hj hu;rw[<-hI]at a1 a2;have hr:leAt rest (cntF U (i+1) t)=leAt les (i+1+t):=by rw[hre,leAt_map les a1,a2]
   have hro:=ho _ (leAt_mem hj);have hgj:gget ((0,0):Le) les ((i+1+t:Nat):Int)=some (leAt les (i+1+t)):=le_get hj;have hgj2:gin les.length ((i+1+t:Nat):Int)=some ():=gin_nat hj;rw[cond_false,hge,hgj,hgi,hgj2];simp only[Option.bind_some];rw[pins_spec hb hn (les2 he hro) (by simp)];simp only[Option.bind_some];rw[hs];show _=some (Sum.inl (((i+1+(t+1):Nat):Int),(absI I (if(pinsP n [e,leAt rest (cntF U (i+1) t)]).length<=5/\(scP n e rest (cntF U (i+1) t)).2<com n e (leAt rest (cntF U (i+1) t))then(((cntF U (i+1) t:Nat):Int),com n e (leAt rest (cntF U (i+1) t)))else scP n e rest (cntF U (i+1) t)).1,(if(pinsP n [e,leAt rest (cntF U (i+1) t)]).length<=5/\(scP n e rest (cntF U (i+1) t)).2<com n e (leAt rest (cntF U (i+1) t))then(((cntF U (i+1) t:Nat):Int),com n e (leAt rest (cntF U (i+1) t)))else scP n e rest (cntF U (i+1) t)).2)));rw[hr];by_cases c1:5<((pinsP n [e,leAt les (i+1+t)]).length:Int)
   ·rw[dt c1,cond_true,if_neg (fun q=>by omega),hw]
   ·rw[df c1,cond_false,com_spec hn he hro];simp only[Option.bind_some];by_cases c2:(scP n e rest (cntF U (i+1) t)).2<com n e (leAt les (i+1+t))
    ·have e1:absI I ((cntF U (i+1) t:Nat):Int)=((i+1+t:Nat):Int):=by
      unfold absI;rw[if_neg (by omega),Int.toNat_natCast,a2]
     rw[dt c2,cond_true,if_pos ⟨by omega,c2⟩,hw,e1]
    ·rw[df c2,cond_false,if_neg (fun q=>c2 q.2),hw]
 ·have hc:cntF U (i+1) (les.length - (i+1))=rest.length:=by rw[hrl,hI];rfl
  have hsc:=scP_ok hn he rest rest.length;rw[hc];generalize scP n e rest rest.length=s at*;have hlen:((i+1+(les.length - (i+1)):Nat):Int)=(les.length:Int):=by omega
  try dsimp only
  rw[hlen,df (show ¬(les.length:Int)<(les.length:Int)by omega),cond_false];refine mapS ?_
  rw[hge,hgi];simp only[Option.bind_some];by_cases c:s.1<0
  ·have e1:absI I s.1= -1:=by unfold absI;rw[if_pos c]
   rw[e1,df (show ¬(0:Int)≤-1 by omega),cond_false,if_neg (show ¬0<=s.1 by omega),gapp40 (by simp only[List.length_cons,List.length_nil];omega)];rfl
  ·obtain⟨b,hb'⟩:∃b:Nat,s.1=(b:Int):=⟨s.1.toNat,by omega⟩;have hbI:b<I.length:=by omega
   have hm:I.getD b 0∈I:=by rw[List.getD,List.getElem?_eq_getElem hbI];exact List.getElem_mem hbI
   have ha:I.getD b 0<les.length:=by
    have q:∀j∈I,j<les.length:=fun j hj=>by rw[hI]at hj;exact(lft_mem hj).2.1
    exact q _ hm
   have hr:leAt rest b=leAt les (I.getD b 0):=by rw[hre,leAt_map les hbI]
   have e1:absI I s.1=((I.getD b 0:Nat):Int):=by unfold absI;rw[if_neg c,hb',Int.toNat_natCast]
   rw[e1,dt (show(0:Int)<=((I.getD b 0:Nat):Int)by omega),cond_true,if_pos (show 0<=s.1 by omega),gin_nat ha,le_get ha,hb',Int.toNat_natCast,hr];generalize I.getD b 0=a at*;simp only[Option.bind_some];rw[gapp16l (by simp),gin_nat (show a<U.length by omega),bAu_get (show a<U.length by omega)];simp only[Option.bind_some];rw[gapp40 (by simp only[List.length_cons,List.length_nil];omega),gset_nat];rfl
theorem pkG_run {n:Net}(hb:NetB n)(hn:netP n=true)(les:List Le)(ho:∀x∈les,leOk n x)(hl:les.length<=1000):∀(m i:Nat) (bs:List Blk) (U:List Bool) (out:List Blk),i+m=les.length->U.length=les.length->bs.length<=64->Packs n bs ((lft les.length U i).map (leAt les)) out->loop (pkG n les) ((i:Int),(bs,U))=some (finP out)
 | 0,i,bs,U,out,hm,hU,hbl,hp=>by
  have e:i=les.length:=by omega
  subst e;rw[lft_end]at hp;have eo:out=bs:=by cases hp;rfl
  subst eo;refine loop_inr ?_
  unfold pkG finP
  try dsimp only
  rw[df (show ¬(les.length:Int)<(les.length:Int)by omega),cond_false,dt (show(out.length:Int)<=64 by omega),if_neg (by omega)];rfl
 | m+1,i,bs,U,out,hm,hU,hbl,hp=>by
  have hi:i<les.length:=by omega
  cases hf:bAu U i with
  | true=>
   rw[lft_cons hi,if_pos hf]at hp;have hs:pkG n les ((i:Int),(bs,U))=some (.inl (((i+1:Nat):Int),(bs,U))):=by
    unfold pkG
    try dsimp only
    rw[dt (show(i:Int)<(les.length:Int)by omega),cond_true,gin_nat (show i<U.length by omega),bAu_get (by omega),hf];simp only[Option.bind_some];rw[cond_true,wrap_ok (by omega)];rfl
   rw[loop_inl hs];exact pkG_run hb hn les ho hl m (i+1) bs U out (by omega) hU hbl hp
  | false=>
   rw[lft_cons hi,if_neg (by simp[hf])]at hp;by_cases c64:bs.length=64
   ·have hg:=(packs_grow hp).2.1 (by simp);refine loop_inr ?_
    unfold pkG finP
    try dsimp only
    rw[dt (show(i:Int)<(les.length:Int)by omega),cond_true,gin_nat (show i<U.length by omega),bAu_get (by omega),hf];simp only[Option.bind_some];rw[cond_false,dt (show(bs.length:Int)=64 by omega),cond_true,if_pos (by omega)];rfl
   ·have hs:=pkG_scan hb hn les bs U i ho hl hU hi hf (by omega) _ rfl _ rfl _ rfl;rw[List.map_cons]at hp;generalize hI:lft les.length U (i+1)=I at*;generalize hre:I.map (leAt les)=rest at*;have hrl:rest.length=I.length:=by rw[<-hre,List.length_map]
    generalize hee:leAt les i=e at*;cases hp with
    | two _ _ _ b _ h1 h2 h3=>
     rw[h1,if_pos (by omega),Int.toNat_natCast]at hs;rw[loop_inl hs];refine pkG_run hb hn les ho hl m (i+1) _ _ out (by omega) (by rw[List.length_set];exact hU) (by simp only[List.length_append,List.length_cons,List.length_nil];omega) ?_
     have h4:=lft_set (i:=i+1) hU (b:=b) (by rw[hI];omega);rw[hI]at h4;rw[h4,List.map_append,List.map_take,List.map_drop,hre];exact h3
    | one _ _ _ _ h1 h2=>
     rw[if_neg (by omega)]at hs;rw[loop_inl hs];refine pkG_run hb hn les ho hl m (i+1) _ _ out (by omega) hU (by simp only[List.length_append,List.length_cons,List.length_nil];omega) ?_
     rw[hI,hre];exact h2
end Go.Pf
/-
  Own work. Packing, plainly: both functions.
-/
namespace Go.Pf
open Go Go.Pu
set_option linter.unusedVariables false
def pdA:Nat->List Blk
 | 0=>[]
 | k+1=>pdA k++[(0,((k:Int),[]))]
def otA (n:Net):Nat->List Blk
 | 0=>pdA n.1.toNat
 | k+1=>otA n k++[(1,((k:Int),[]))]
def sqA (n:Net):Nat->List Blk
 | 0=>otA n n.2.2.2.length
 | k+1=>if(sqAt n.2.1 k).1=1 then sqA n k++[(2,((k:Int),[]))]else sqA n k
def B2 (bs:List Blk):Prop:=∀b∈bs,b.2.2.length<=2
theorem B2.app {bs:List Blk}(h:B2 bs){x:Blk}(hx:x.2.2.length<=2):B2 (bs++[x]):=fun b hb=>by
 rcases List.mem_append.1 hb with q | q
 ·exact h b q
 ·rw[List.mem_singleton]at q;rw[q];exact hx
theorem pdA_ok (k:Nat):(pdA k).length=k/\B2 (pdA k):=by
 induction k with
 | zero=>exact⟨rfl,fun b hb=>by cases hb⟩
 | succ k ih=>
  show(pdA k++[(0,((k:Int),[]))]).length=_/\B2 (pdA k++[(0,((k:Int),[]))]);exact⟨by rw[List.length_append];simp only[List.length_cons,List.length_nil];omega,ih.2.app (by simp)⟩
theorem otA_ok (n:Net)(k:Nat):(otA n k).length=n.1.toNat+k/\B2 (otA n k):=by
 induction k with
 | zero=>exact pdA_ok _
 | succ k ih=>
  show(otA n k++[(1,((k:Int),[]))]).length=_/\B2 (otA n k++[(1,((k:Int),[]))]);exact⟨by rw[List.length_append];simp only[List.length_cons,List.length_nil];omega,ih.2.app (by simp)⟩
theorem sqA_ok (n:Net)(k:Nat):(sqA n k).length<=n.1.toNat+n.2.2.2.length+k/\B2 (sqA n k):=by
 induction k with
 | zero=>
  have:=otA_ok n n.2.2.2.length;exact⟨by show(otA n n.2.2.2.length).length<=_;omega,this.2⟩
 | succ k ih=>
  show(if(sqAt n.2.1 k).1=1 then sqA n k++[(2,((k:Int),[]))]else sqA n k).length<=_/\B2 (if(sqAt n.2.1 k).1=1 then sqA n k++[(2,((k:Int),[]))]else sqA n k);split
  ·exact⟨by rw[List.length_append];simp only[List.length_cons,List.length_nil];omega,ih.2.app (by simp)⟩
  ·exact⟨by omega,ih.2⟩
theorem pack_run2 (n:Net)(hb:NetB n):(netP n=false/\impl_Pack n=some ([],false)/\spec_Pack n=some ([],false))\/(netP n=true/\∃out,Packs n (sqA n n.2.1.length) (elP n) out/\impl_Pack n=some (finP out)/\spec_Pack n=some (finP out)):=by
 cases hn:netP n with
 | false=>
  refine .inl ⟨rfl,?_,?_⟩
  ·unfold impl_Pack;rw[net_impl n hb,hn];rfl
  ·unfold spec_Pack;rw[net_spec n hb,hn];rfl
 | true=>
  obtain⟨hln,_⟩:=netP_all hn;obtain⟨l1,l2,l3,l4⟩:=hln;obtain⟨hel,heo⟩:=elL_ok hn n.2.2.1.length (Nat.le_refl _)
  change (elP n).length<=_ at hel
  change ∀e∈elP n,leOk n e at heo
  obtain⟨hsq,hs2⟩:=sqA_ok n n.2.1.length;obtain⟨out,hp⟩:=packs_ex hn (elP n).length (sqA n n.2.1.length) (elP n) (Nat.le_refl _) heo;refine .inr ⟨rfl,out,hp,?_,?_⟩
  ·unfold impl_Pack;rw[net_impl n hb,hn];simp only[Option.bind_some];rw[Bool.not_true,cond_false];refine loop_upto n.1.toNat (fun k=>(pdA k,(k:Int))) (fun k hk=> ?_) ?_
   ·have hpl:=(pdA_ok k).1
    try dsimp only
    rw[dt (show(k:Int)<n.1 by omega),cond_true,gapp40 (by simp only[List.length_cons,List.length_nil];omega)];simp only[Option.bind_some];rw[wrap_ok (by omega)];rfl
   try dsimp only
   rw[df (show ¬((n.1.toNat:Nat):Int)<n.1 by omega),cond_false];refine mapS ?_
   refine loop_upto n.2.2.2.length (fun k=>((k:Int),otA n k)) (fun k hk=> ?_) ?_
   ·have hpl:=(otA_ok n k).1
    try dsimp only
    rw[dt (show(k:Int)<(n.2.2.2.length:Int)by omega),cond_true,gapp40 (by simp only[List.length_cons,List.length_nil];omega)];simp only[Option.bind_some];rw[wrap_ok (by omega)];rfl
   try dsimp only
   rw[df (show ¬(n.2.2.2.length:Int)<(n.2.2.2.length:Int)by omega),cond_false];refine mapS ?_
   refine loop_upto n.2.1.length (fun k=>((k:Int),sqA n k)) (fun k hk=> ?_) ?_
   ·have hpl:=(sqA_ok n k).1
    try dsimp only
    rw[dt (show(k:Int)<(n.2.1.length:Int)by omega),cond_true,(sq_get hk).1];simp only[Option.bind_some];show _=some (Sum.inl (((k+1:Nat):Int),if(sqAt n.2.1 k).1=1 then sqA n k++[(2,((k:Int),[]))]else sqA n k));by_cases c:(sqAt n.2.1 k).1=1
    ·rw[dt c,cond_true,if_pos c,gapp40 (by simp only[List.length_cons,List.length_nil];omega)];simp only[Option.bind_some];rw[wrap_ok (by omega)];rfl
    ·rw[df c,cond_false,if_neg c,wrap_ok (by omega)];rfl
   try dsimp only
   rw[df (show ¬(n.2.1.length:Int)<(n.2.1.length:Int)by omega),cond_false];refine mapS ?_
   rw[el_impl hb hn];simp only[Option.bind_some];exact pkF_run hb hn hp heo (by omega)
  ·unfold spec_Pack;rw[net_spec n hb,hn];simp only[Option.bind_some];rw[Bool.not_true,cond_false];refine loop_upto n.1.toNat (fun k=>((k:Int),pdA k)) (fun k hk=> ?_) ?_
   ·have hpl:=(pdA_ok k).1
    try dsimp only
    rw[dt (show(k:Int)<n.1 by omega),cond_true,gapp40 (by simp only[List.length_cons,List.length_nil];omega)];simp only[Option.bind_some];rw[wrap_ok (by omega)];rfl
   try dsimp only
   rw[df (show ¬((n.1.toNat:Nat):Int)<n.1 by omega),cond_false];refine mapS ?_
   refine loop_upto n.2.2.2.length (fun k=>((k:Int),otA n k)) (fun k hk=> ?_) ?_
   ·have hpl:=(otA_ok n k).1
    try dsimp only
    rw[dt (show(k:Int)<(n.2.2.2.length:Int)by omega),cond_true,gapp40 (by simp only[List.length_cons,List.length_nil];omega)];simp only[Option.bind_some];rw[wrap_ok (by omega)];rfl
   try dsimp only
   rw[df (show ¬(n.2.2.2.length:Int)<(n.2.2.2.length:Int)by omega),cond_false];refine mapS ?_
   refine loop_upto n.2.1.length (fun k=>((k:Int),sqA n k)) (fun k hk=> ?_) ?_
   ·have hpl:=(sqA_ok n k).1
    try dsimp only
    rw[dt (show(k:Int)<(n.2.1.length:Int)by omega),cond_true,(sq_get hk).1];simp only[Option.bind_some];show _=some (Sum.inl (((k+1:Nat):Int),if(sqAt n.2.1 k).1=1 then sqA n k++[(2,((k:Int),[]))]else sqA n k));by_cases c:(sqAt n.2.1 k).1=1
    ·rw[dt c,cond_true,if_pos c,gapp40 (by simp only[List.length_cons,List.length_nil];omega)];simp only[Option.bind_some];rw[wrap_ok (by omega)];rfl
    ·rw[df c,cond_false,if_neg c,wrap_ok (by omega)];rfl
   try dsimp only
   rw[df (show ¬(n.2.1.length:Int)<(n.2.1.length:Int)by omega),cond_false];refine mapS ?_
   rw[el_spec hb hn];simp only[Option.bind_some];rw[gmake_nat (by omega) (by omega)];simp only[Option.bind_some];have hU:∀j,bAu (List.replicate (elP n).length false) j=false:=fun j=>by
    unfold bAu;rw[List.getD,List.getElem?_replicate];split<;>rfl
   have hl:(lft (elP n).length (List.replicate (elP n).length false) 0).map (leAt (elP n))=elP n:=by
    unfold lft;rw[List.filter_eq_self.2 (fun j _=>by rw[hU j];rfl)];refine List.ext_getElem (by simp) fun j h1 h2=> ?_
    simp only[List.getElem_map,List.getElem_range',Nat.zero_add,Nat.one_mul];exact(le_eq h2).symm
   refine pkG_run hb hn (elP n) heo (by omega) (elP n).length 0 _ _ out (by omega) (by simp) (by omega) ?_
   rw[hl];exact hp
end Go.Pf
/-
  Own work. Packings, plainly: what the packer gives is legal and holds every item once.
-/
namespace Go.Pf
open Go Go.Pu
set_option linter.unusedVariables false
theorem inc1_at {c:List Int}{x:Int}(x0:0<=x)(x1:x<(c.length:Int))(j:Nat):nsAt (inc1 c x) j=if x=(j:Int)then wrap .i64 (nsAt c j+1)else nsAt c j:=by
 unfold inc1 gset nsAt;by_cases h:x=(j:Int)
 ·subst h;rw[if_pos rfl,List.getD,Int.toNat_natCast,List.getElem?_set_self (by omega)];rfl
 ·rw[if_neg h,List.getD,List.getElem?_set_ne (by omega)];rfl
theorem incL_at:∀(xs:List Int) (c:List Int),(∀x∈xs,0<=x/\x<(c.length:Int))->∀j:Nat,0<=nsAt c j->nsAt c j+(xs.count (j:Int):Nat)<=1000000000->nsAt (incL c xs) j=nsAt c j+(xs.count (j:Int):Nat)
 | [],c,_,j,_,_=>by simp[incL]
 | x::xs,c,h,j,h0,h1=>by
  have hx:=h x (by simp);have e:incL c (x::xs)=incL (inc1 c x) xs:=rfl;have ea:=inc1_at hx.1 hx.2 j;rw[List.count_cons]at h1 ⊢;by_cases hj:x=(j:Int)
  ·rw[if_pos hj,wrap_ok (by omega)]at ea;rw[if_pos (by simp[hj])]at h1 ⊢;rw[e,incL_at xs (inc1 c x) (fun y hy=>by rw[inc1_len];exact h y (by simp[hy])) j (by omega) (by omega),ea];omega
  ·rw[if_neg hj]at ea;rw[if_neg (by simp[hj])]at h1 ⊢;rw[e,incL_at xs (inc1 c x) (fun y hy=>by rw[inc1_len];exact h y (by simp[hy])) j (by omega) (by omega),ea];omega
theorem nsAt_rep0 (N j:Nat):nsAt (List.replicate N 0) j=0:=by
 unfold nsAt;rw[List.getD,List.getElem?_replicate];split<;>rfl
theorem once_of {N:Nat}{xs:List Int}(h:∀x∈xs,0<=x/\x<(N:Int))(h1:∀j:Nat,j<N->xs.count (j:Int)=1):once (incL (List.replicate N 0) xs)=true:=by
 unfold once;refine List.all_eq_true.2 fun v hv=>decide_eq_true ?_
 obtain⟨j,hj,rfl⟩:=List.getElem_of_mem hv;rw[incL_len,List.length_replicate]at hj;have e:=nsAt_rep0 N j;rw[ns_at (by rw[incL_len,List.length_replicate];exact hj),incL_at xs _ (by rw[List.length_replicate];exact h) j (by omega) (by rw[h1 j hj];omega),e,h1 j hj];rfl
theorem incL_app (c xs ys:List Int):incL c (xs++ys)=incL (incL c xs) ys:=List.foldl_append
theorem incA_L (c:List Int)(f:Nat->List Int)(k:Nat):incA c f k=incL c ((List.range k).flatMap f):=by
 induction k with
 | zero=>rfl
 | succ k ih=>
  show incL (incA c f k) (f k)=_;rw[ih,List.range_succ,List.flatMap_append,incL_app];simp
def lf1 (e:Le):List Int:=if 0<=e.1 then [e.1]else []
def lf2 (e:Le):List Int:=if 0<=e.2 then [e.2]else []
def i0 (b:Blk):List Int:=if b.1=0 then [b.2.1]else []
def i1 (b:Blk):List Int:=if b.1=1 then [b.2.1]else []
def i2 (b:Blk):List Int:=(if b.1=2 then [b.2.1]else [])++b.2.2.flatMap lf2
def i3 (b:Blk):List Int:=b.2.2.flatMap lf1
theorem leT_L (ls:List Le):∀s:List Int×List Int,ls.foldl leT s=(incL s.1 (ls.flatMap lf2),incL s.2 (ls.flatMap lf1)):=by
 induction ls with
 | nil=>intro s;rfl
 | cons e r ih=>
  intro s;rw[List.foldl_cons,ih,List.flatMap_cons,List.flatMap_cons,incL_app,incL_app];unfold leT lf1 lf2;split<;>split<;>rfl
theorem pkT_L (s:P4)(b:Blk):pkT s b=(incL s.1 (i0 b),(incL s.2.1 (i1 b),(incL s.2.2.1 (i2 b),incL s.2.2.2 (i3 b)))):=by
 unfold pkT leA;rw[List.take_length,leT_L];unfold kindT i0 i1 i2 i3;rw[incL_app];by_cases k0:b.1=0
 ·rw[if_pos k0,if_pos k0,if_neg (show ¬b.1=1 by omega),if_neg (show ¬b.1=2 by omega)];rfl
 rw[if_neg k0,if_neg k0];by_cases k1:b.1=1
 ·rw[if_pos k1,if_pos k1,if_neg (show ¬b.1=2 by omega)];rfl
 rw[if_neg k1,if_neg k1];by_cases k2:b.1=2
 ·rw[if_pos k2,if_pos k2];rfl
 rw[if_neg k2,if_neg k2];rfl
theorem pkF_L (bs:List Blk):∀s:P4,bs.foldl pkT s=(incL s.1 (bs.flatMap i0),(incL s.2.1 (bs.flatMap i1),(incL s.2.2.1 (bs.flatMap i2),incL s.2.2.2 (bs.flatMap i3)))):=by
 induction bs with
 | nil=>intro s;rfl
 | cons b r ih=>
  intro s;rw[List.foldl_cons,ih,pkT_L];simp only[List.flatMap_cons,incL_app]
theorem pkA_L (n:Net)(bs:List Blk):pkA n bs bs.length=(incL (pk0 n).1 (bs.flatMap i0),(incL (pk0 n).2.1 (bs.flatMap i1),(incL (pk0 n).2.2.1 (bs.flatMap i2),incL (pk0 n).2.2.2 (bs.flatMap i3)))):=by
 unfold pkA;rw[List.take_length,pkF_L]
theorem scP_pins (n:Net)(e:Le)(rest:List Le):∀(k b:Nat),(scP n e rest k).1=(b:Int)->b<k/\(pinsP n [e,leAt rest b]).length<=5
 | 0,b,h=>by simp only[scP]at h;omega
 | k+1,b,h=>by
  unfold scP at h;split at h
  ·rename_i hc;have e:k=b:=by simp only at h;omega
   subst e;exact⟨by omega,hc.1⟩
  ·have:=scP_pins n e rest k b h;exact⟨by omega,this.2⟩
theorem bk1 {n:Net}(h:netP n=true){e:Le}(he:leOk n e):bkOk n (3,(0,[e]))=true:=by
 have h1:=insA_len h (les1 he) 1 (by simp);have h2:=setP_len (insA n [e] 1) (outsL n [e] 1);have h3:(pinsP n [e]).length<=5:=by
  unfold pinsP;simp only[List.length_cons,List.length_nil,Nat.zero_add];omega
 unfold bkOk itemP blk0;simp[les1 he,h3]
theorem bk2 {n:Net}{e r:Le}(he:leOk n e)(hr:leOk n r)(h3:(pinsP n [e,r]).length<=5):bkOk n (3,(0,[e,r]))=true:=by
 unfold bkOk itemP blk0;simp[les2 he hr,h3]
theorem packs_bk {n:Net}(h:netP n=true){bs:List Blk}{left:List Le}{out:List Blk}(hp:Packs n bs left out):(∀b∈bs,bkOk n b=true)->(∀e∈left,leOk n e)->∀b∈out,bkOk n b=true:=by
 induction hp with
 | nil bs=>exact fun h1 _=>h1
 | two bs e rest b out h1 h2 _ ih=>
  intro hb hl;have hr:leAt rest b∈rest:=by rw[<-le_eq h2];exact List.getElem_mem h2
  refine ih (fun x hx=> ?_) (fun x hx=> ?_)
  ·rcases List.mem_append.1 hx with q | q
   ·exact hb x q
   ·rw[List.mem_singleton.1 q];exact bk2 (hl e (by simp)) (hl _ (List.mem_cons_of_mem _ hr)) (scP_pins n e rest _ b h1).2
  ·rcases List.mem_append.1 hx with q | q
   ·exact hl x (List.mem_cons_of_mem _ (List.mem_of_mem_take q))
   ·exact hl x (List.mem_cons_of_mem _ (List.mem_of_mem_drop q))
 | one bs e rest out h1 _ ih=>
  intro hb hl;refine ih (fun x hx=> ?_) (fun x hx=>hl x (List.mem_cons_of_mem _ hx));rcases List.mem_append.1 hx with q | q
  ·exact hb x q
  ·rw[List.mem_singleton.1 q];exact bk1 h (hl e (by simp))
theorem packs_cnt {n:Net}{f:Blk->List Int}{g:Le->List Int}(hf:∀ls,f (3,(0,ls))=ls.flatMap g){bs:List Blk}{left:List Le}{out:List Blk}(hp:Packs n bs left out)(x:Int):(out.flatMap f).count x=(bs.flatMap f).count x+(left.flatMap g).count x:=by
 induction hp with
 | nil bs=>simp
 | two bs e rest b out h1 h2 _ ih=>
  have hr:rest=rest.take b++(leAt rest b::rest.drop (b+1)):=by
   rw[<-le_eq h2,List.getElem_cons_drop,List.take_append_drop]
  rw[ih,List.flatMap_append,List.count_append,List.flatMap_append,List.count_append];have e2:((e::rest).flatMap g).count x=(g e).count x+(((rest.take b).flatMap g).count x+((g (leAt rest b)).count x+((rest.drop (b+1)).flatMap g).count x)):=by
   conv=>lhs;rw[hr]
   rw[List.flatMap_cons,List.count_append,List.flatMap_append,List.count_append,List.flatMap_cons,List.count_append]
  rw[e2];simp only[List.flatMap_cons,List.flatMap_nil,List.append_nil,hf,List.count_append];omega
 | one bs e rest out h1 _ ih=>
  rw[ih,List.flatMap_append,List.count_append];simp only[List.flatMap_cons,List.flatMap_nil,List.append_nil,hf,List.count_append];omega
def lgc (bs:List Blk):Nat:=bs.countP fun b=>decide (b.1=3)
theorem packs_len {n:Net}{bs:List Blk}{left:List Le}{out:List Blk}(hp:Packs n bs left out):lgc out+bs.length=lgc bs+out.length/\out.length<=bs.length+left.length:=by
 induction hp with
 | nil bs=>exact⟨rfl,by simp⟩
 | two bs e rest b out h1 h2 _ ih=>
  obtain⟨q1,q2⟩:=ih;have e1:lgc (bs++[(3,(0,[e,leAt rest b]))])=lgc bs+1:=by unfold lgc;rw[List.countP_append];rfl
  rw[e1]at q1;simp only[List.length_append,List.length_cons,List.length_nil,List.length_take,List.length_drop]at q1 q2 ⊢;omega
 | one bs e rest out h1 _ ih=>
  obtain⟨q1,q2⟩:=ih;have e1:lgc (bs++[(3,(0,[e]))])=lgc bs+1:=by unfold lgc;rw[List.countP_append];rfl
  rw[e1]at q1;simp only[List.length_append,List.length_cons,List.length_nil]at q1 q2 ⊢;omega
def rmP (n:Net):Nat->Nat
 | 0=>0
 | k+1=>if(sqAt n.2.1 k).1=1 then rmP n k+1 else rmP n k
theorem rmP_le (n:Net)(k:Nat):rmP n k<=k:=by
 induction k with
 | zero=>simp[rmP]
 | succ k ih=>unfold rmP;split<;>omega
theorem pdA_all (k:Nat):(∀b∈pdA k,∃j:Nat,j<k/\b=(0,((j:Int),[])))/\∀x:Int,((pdA k).flatMap i0).count x=if 0<=x/\x<(k:Int)then 1 else 0:=by
 induction k with
 | zero=>exact⟨fun b hb=>(by cases hb),fun x=>by rw[if_neg (by omega)];rfl⟩
 | succ k ih=>
  refine⟨fun b hb=> ?_,fun x=> ?_⟩
  ·rcases List.mem_append.1 (show b∈pdA k++[(0,((k:Int),[]))]from hb)with q | q
   ·obtain⟨j,h1,h2⟩:=ih.1 b q;exact⟨j,by omega,h2⟩
   ·exact⟨k,by omega,List.mem_singleton.1 q⟩
  ·show((pdA k++[(0,((k:Int),[]))]).flatMap i0).count x=_;rw[List.flatMap_append,List.count_append,ih.2 x];show _+([(k:Int)]).count x=_;rw[List.count_singleton];by_cases c:x=(k:Int)
   ·subst c;rw[if_neg (by omega),if_pos (by simp),if_pos (by omega)]
   ·rw[if_neg (show ¬((k:Int)==x)=true by simp;omega)];by_cases c2:0<=x/\x<(k:Int)
    ·rw[if_pos c2,if_pos (by omega)]
    ·rw[if_neg c2,if_neg (by omega)]
theorem cnt_none {f:Blk->List Int}:∀{bs:List Blk},(∀b∈bs,f b=[])->bs.flatMap f=[]
 | [],_=>rfl
 | b::bs,h=>by rw[List.flatMap_cons,h b (by simp),cnt_none (fun x hx=>h x (by simp[hx]))];rfl
theorem otA_all (n:Net)(k:Nat):(∀b∈otA n k,(∃j:Nat,j<n.1.toNat/\b=(0,((j:Int),[])))\/∃j:Nat,j<k/\b=(1,((j:Int),[])))/\(otA n k).flatMap i0=(pdA n.1.toNat).flatMap i0/\∀x:Int,((otA n k).flatMap i1).count x=if 0<=x/\x<(k:Int)then 1 else 0:=by
 induction k with
 | zero=>
  refine⟨fun b hb=> .inl ((pdA_all _).1 b hb),rfl,fun x=> ?_⟩;rw[if_neg (by omega)];show((pdA n.1.toNat).flatMap i1).count x=0;rw[cnt_none fun b hb=>by obtain⟨j,_,rfl⟩:=(pdA_all _).1 b hb;rfl];rfl
 | succ k ih=>
  refine⟨fun b hb=> ?_,?_,fun x=> ?_⟩
  ·rcases List.mem_append.1 (show b∈otA n k++[(1,((k:Int),[]))]from hb)with q | q
   ·rcases ih.1 b q with h | ⟨j,h1,h2⟩
    ·exact .inl h
    ·exact .inr ⟨j,by omega,h2⟩
   ·exact .inr ⟨k,by omega,List.mem_singleton.1 q⟩
  ·show(otA n k++[(1,((k:Int),[]))]).flatMap i0=_;rw[List.flatMap_append,ih.2.1];exact List.append_nil _
  ·show((otA n k++[(1,((k:Int),[]))]).flatMap i1).count x=_;rw[List.flatMap_append,List.count_append,ih.2.2 x];show _+([(k:Int)]).count x=_;rw[List.count_singleton];by_cases c:x=(k:Int)
   ·subst c;rw[if_neg (by omega),if_pos (by simp),if_pos (by omega)]
   ·rw[if_neg (show ¬((k:Int)==x)=true by simp;omega)];by_cases c2:0<=x/\x<(k:Int)
    ·rw[if_pos c2,if_pos (by omega)]
    ·rw[if_neg c2,if_neg (by omega)]
def kdC (n:Net)(kd:Int)(k:Nat)(x:Int):Nat:=if 0<=x/\x<(k:Int)/\(sqAt n.2.1 x.toNat).1=kd then 1 else 0
theorem kdC_succ (n:Net)(kd:Int)(k:Nat)(x:Int):kdC n kd (k+1) x=kdC n kd k x+if x=(k:Int)/\(sqAt n.2.1 k).1=kd then 1 else 0:=by
 unfold kdC;by_cases c:x=(k:Int)
 ·subst c;rw[if_neg (show ¬(0<=(k:Int)/\(k:Int)<(k:Int)/\(sqAt n.2.1 (k:Int).toNat).1=kd)by omega),Int.toNat_natCast];by_cases c2:(sqAt n.2.1 k).1=kd
  ·rw[if_pos ⟨by omega,by omega,c2⟩,if_pos ⟨rfl,c2⟩]
  ·rw[if_neg (fun h=>c2 h.2.2),if_neg (fun h=>c2 h.2)]
 ·rw[if_neg (show ¬(x=(k:Int)/\(sqAt n.2.1 k).1=kd)from fun h=>c h.1)];by_cases c2:0<=x/\x<(k:Int)/\(sqAt n.2.1 x.toNat).1=kd
  ·rw[if_pos c2,if_pos ⟨c2.1,by omega,c2.2.2⟩]
  ·rw[if_neg c2,if_neg (fun h=>c2 ⟨h.1,by omega,h.2.2⟩)]
theorem sqA_all (n:Net)(k:Nat):(∀b∈sqA n k,(∃j:Nat,j<n.1.toNat/\b=(0,((j:Int),[])))\/(∃j:Nat,j<n.2.2.2.length/\b=(1,((j:Int),[])))\/∃j:Nat,j<k/\(sqAt n.2.1 j).1=1/\b=(2,((j:Int),[])))/\(sqA n k).flatMap i0=(pdA n.1.toNat).flatMap i0/\(sqA n k).flatMap i1=(otA n n.2.2.2.length).flatMap i1/\(∀x:Int,((sqA n k).flatMap i2).count x=kdC n 1 k x)/\(sqA n k).length=n.1.toNat+n.2.2.2.length+rmP n k:=by
 induction k with
 | zero=>
  have ho:=otA_all n n.2.2.2.length;refine⟨fun b hb=> ?_,ho.2.1,rfl,fun x=> ?_,(otA_ok n n.2.2.2.length).1⟩
  ·rcases ho.1 b hb with h | h
   ·exact .inl h
   ·exact .inr (.inl h)
  ·show((otA n n.2.2.2.length).flatMap i2).count x=_;rw[cnt_none fun b hb=>by rcases ho.1 b hb with⟨j,_,rfl⟩ | ⟨j,_,rfl⟩<;>rfl];unfold kdC;rw[if_neg (by omega)];rfl
 | succ k ih=>
  obtain⟨h1,h2,h3,h4,h5⟩:=ih;have hs:sqA n (k+1)=if(sqAt n.2.1 k).1=1 then sqA n k++[(2,((k:Int),[]))]else sqA n k:=rfl
  have hr:rmP n (k+1)=if(sqAt n.2.1 k).1=1 then rmP n k+1 else rmP n k:=rfl
  by_cases c:(sqAt n.2.1 k).1=1
  ·rw[if_pos c]at hs hr;rw[hs,hr];refine⟨fun b hb=> ?_,?_,?_,fun x=> ?_,?_⟩
   ·rcases List.mem_append.1 hb with q | q
    ·rcases h1 b q with h | h | ⟨j,h,h'⟩
     ·exact .inl h
     ·exact .inr (.inl h)
     ·exact .inr (.inr ⟨j,by omega,h'⟩)
    ·exact .inr (.inr ⟨k,by omega,c,List.mem_singleton.1 q⟩)
   ·rw[List.flatMap_append,h2];exact List.append_nil _
   ·rw[List.flatMap_append,h3];exact List.append_nil _
   ·rw[List.flatMap_append,List.count_append,h4 x,kdC_succ];show _+([(k:Int)]).count x=_;rw[List.count_singleton];by_cases e:x=(k:Int)
    ·rw[if_pos (by simp[e]),if_pos ⟨e,c⟩]
    ·rw[if_neg (show ¬((k:Int)==x)=true by simp;omega),if_neg (fun h=>e h.1)]
   ·rw[List.length_append,h5];simp only[List.length_cons,List.length_nil];omega
  ·rw[if_neg c]at hs hr;rw[hs,hr];refine⟨fun b hb=> ?_,h2,h3,fun x=> ?_,h5⟩
   ·rcases h1 b hb with h | h | ⟨j,h,h'⟩
    ·exact .inl h
    ·exact .inr (.inl h)
    ·exact .inr (.inr ⟨j,by omega,h'⟩)
   ·rw[h4 x,kdC_succ,if_neg (fun h=>c h.2)];rfl
end Go.Pf
