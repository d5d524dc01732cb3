/-
  Own work: parts Pl, PbA, Pln, Dvc, Drw, Tot, Nta, Ntc, Ntd, Dvd, Path, LawPathTo, Dve, Hlp, Pla, Use, Net, Srt, Cut, Cna, Src, Rok, plain lemmas.
-/
import Derived.Test.YthjfdjekombkkaaGreatPu3
import Derived.Test.YthjfdjekombkkaaGreatD
/-
  Own work. Plain lemmas on loops, lists and wrapped integers (no program in sight).
-/
namespace Go.Pu
open Go
theorem loop_spec {σ ω:Type}{f:σ->Option (σ⊕ω)}(I:σ->Prop)(Q:ω->Prop)(μ:σ->Nat)(h:∀s,I s->(∃s',f s=some (.inl s')/\I s'∧μ s' <μ s)\/(∃o,f s=some (.inr o)/\Q o)):
 ∀s,I s->∃o,loop f s=some o/\Q o:=by
 have key:∀n s,μ s<n->I s->∃o,loop f s=some o/\Q o:=by
  intro n
  induction n with
  | zero=>intro s hs;omega
  | succ n ih=>
   intro s hs hi;rcases h s hi with⟨s',h1,h2,h3⟩ | ⟨o,h1,h2⟩
   ·obtain⟨o,h4,h5⟩:=ih s' (by omega) h2;exact⟨o,by rw[loop_eq,h1];exact h4,h5⟩
   ·exact⟨o,by rw[loop_eq,h1],h2⟩
 exact fun s hi=>key _ s (Nat.lt_succ_self _) hi
theorem wrap_id {z:Int}(h1: -9223372036854775808<=z)(h2:z<=9223372036854775807):wrap .i64 z=z:=by
 unfold wrap IntKind.wrap;simp[IntKind.bits,IntKind.signed];omega
theorem gget_some {α:Type}{d:α}{xs:List α}{i:Int}(h0:0<=i)(h1:i<(xs.length:Int)):gget d xs i=some (xs.getD i.toNat d):=by
 unfold gget;rw[if_pos ⟨h0,h1⟩]
theorem gin_some {n:Nat}{i:Int}(h0:0<=i)(h1:i<(n:Int)):gin n i=some ():=by
 unfold gin;rw[if_pos ⟨h0,h1⟩]
theorem gapp_some {α:Type}{b:Nat}{xs ys:List α}(h:(xs.length+ys.length)*b<=140737488355328)(h2:xs.length+ys.length<=140737488355328):gapp b xs ys=some (xs++ys):=by
 unfold gapp gfit;rw[if_pos (by simp[h,h2])]
end Go.Pu
/-
  Own work. Plain lemmas on loops over lists (no program in sight).
-/
namespace Go.Pf
open Go Go.Pu
theorem gget_nat {α:Type}{d:α}{xs:List α}{k:Nat}(h:k<xs.length):gget d xs (k:Int)=some (xs[k]'h):=by
 rw[gget_some (by omega) (by omega)];simp[List.getD,h]
theorem gin_nat {n k:Nat}(h:k<n):gin n (k:Int)=some ():=gin_some (by omega) (by omega)
theorem gset_nat {α:Type}(xs:List α)(k:Nat)(x:α):gset xs (k:Int) x=xs.set k x:=rfl
theorem dt {p:Prop} [Decidable p] (h:p):decide p=true:=decide_eq_true h
theorem df {p:Prop} [Decidable p] (h:¬p):decide p=false:=decide_eq_false h
theorem gmake_nat {α:Type}{b:Nat}{d:α}{n:Nat}(h:n*b<=140737488355328)(h2:n<=140737488355328):gmake b d (n:Int)=some (List.replicate n d):=by
 unfold gmake gfit;rw[if_pos (by constructor;omega;simp;omega)];simp
theorem wrap_ok {z:Int}(h: -9223372036854775808<=z/\z<=9223372036854775807):wrap .i64 z=z:=wrap_id h.1 h.2
theorem loop_run {σ ω:Type}{f:σ->Option (σ⊕ω)}(S:Nat->σ){o:ω}:∀(m n:Nat),(∀k,m<=k->k<m+n->f (S k)=some (.inl (S (k+1))))->f (S (m+n))=some (.inr o)->loop f (S m)=some o
 | m,0,_,h=>by rw[loop_eq,Nat.add_zero]at*;rw[h]
 | m,n+1,h1,h2=>by
  rw[loop_eq,h1 m (Nat.le_refl _) (by omega)];exact loop_run S (m+1) n (fun k q1 q2=>h1 k (by omega) (by omega)) (by rw[show m+1+n=m+(n+1)from by omega];exact h2)
theorem loop_upto {σ ω:Type}{f:σ->Option (σ⊕ω)}(n:Nat)(S:Nat->σ){o:ω}(h1:∀k,k<n->f (S k)=some (.inl (S (k+1))))(h2:f (S n)=some (.inr o)):loop f (S 0)=some o:=
 loop_run S 0 n (fun k _ h=>h1 k (by omega)) (by rw[Nat.zero_add];exact h2)
theorem loop_all {σ ω:Type}{f:σ->Option (σ⊕ω)}(n:Nat)(S:Nat->σ)(ok:Nat->Bool)(bad good:ω)(h1:∀k,k<n->ok k=true->f (S k)=some (.inl (S (k+1))))(h2:∀k,k<n->ok k=false->f (S k)=some (.inr bad))(h3:f (S n)=some (.inr good)):
 loop f (S 0)=some (if(List.range n).all ok then good else bad):=by
 have key:∀(m j:Nat),j+m=n->loop f (S j)=some (if(List.range' j m).all ok then good else bad):=by
  intro m
  induction m with
  | zero=>
   intro j hj;rw[loop_eq];have:j=n:=by omega
   subst this;rw[h3];simp
  | succ m ih=>
   intro j hj;rw[loop_eq,List.range'_succ,List.all_cons];cases hok:ok j with
   | true=>rw[h1 j (by omega) hok];simp only[Bool.true_and];exact ih (j+1) (by omega)
   | false=>rw[h2 j (by omega) hok];simp
 have:=key n 0 (by omega);rw[this,List.range_eq_range']
theorem all_range_list {α:Type}(xs:List α)(p:α->Bool)(ok:Nat->Bool)(h:∀k (hk:k<xs.length),ok k=p xs[k]):(List.range xs.length).all ok=xs.all p:=by
 rw[Bool.eq_iff_iff,List.all_eq_true,List.all_eq_true]
 constructor
 ·intro h1 x hx;obtain⟨k,hk,rfl⟩:=List.getElem_of_mem hx;rw[<-h k hk];exact h1 k (List.mem_range.2 hk)
 ·intro h1 k hk;have hk:=List.mem_range.1 hk;rw[h k hk];exact h1 _ (List.getElem_mem hk)
theorem take_succ' {α:Type}(xs:List α)(k:Nat)(h:k<xs.length):xs.take (k+1)=xs.take k++[xs[k]]:=(List.take_append_getElem h).symm
end Go.Pf
/-
  Own work. Plain laws of the small functions of the laws' file (lists of ints compared, marked, held).
-/
namespace Go.Pf
open Go Go.Pu
def marks (k:Int)(n:Nat):List Int:=(List.range n).map fun(j:Nat)=>k+(j:Int)
end Go.Pf
/-
  Own work. The device's functions, plainly.
-/
namespace Go.Pf
open Go Go.Pu
theorem inR_spec (x a b:Int):spec_l01In (x,(a,b))=some (decide (a<=x/\x<=b)):=by
 unfold spec_l01In;dsimp only;by_cases h:a<=x
 ·rw[dt h,cond_true];by_cases h2:x<=b
  ·rw[dt h2,dt ⟨h,h2⟩]
  ·rw[df h2,df (fun e=>h2 e.2)]
 ·rw[df h,cond_false,df (fun e=>h e.1)]
theorem inR_impl (x a b:Int):impl_inRange (x,(a,b))=some (decide (a<=x/\x<=b)):=inR_spec x a b
def DOk (d:Int×(Int×(Int×Int))):Prop:=(3<=d.1/\d.1<=6)/\(3<=d.2.1/\d.2.1<=6)/\(1<=d.2.2.1/\d.2.2.1<=4)/\(d.2.2.2= -1\/(1<=d.2.2.2/\d.2.2.2<=d.1 - 2))
instance (d:Int×(Int×(Int×Int))):Decidable (DOk d):=by unfold DOk;exact inferInstance
theorem devOk_spec (d:Int×(Int×(Int×Int))):spec_DeviceOk d=some (decide (DOk d)):=by
 obtain⟨W,H,T,S⟩:=d;unfold spec_DeviceOk DOk;simp only[inR_spec,Option.bind_some];by_cases h1:3<=W/\W<=6
 ·by_cases h2:3<=H/\H<=6
  ·by_cases h3:1<=T/\T<=4
   ·by_cases h4:S= -1
    ·simp[h1,h2,h3,h4]
    ·rw[wrap_ok (by omega)];simp[h1,h2,h3,h4]
   ·simp[h1,h2,h3]
  ·simp[h1,h2]
 ·simp[h1]
theorem devOk_impl (d:Int×(Int×(Int×Int))):impl_DeviceOk d=some (decide (DOk d)):=devOk_spec d
theorem mul_le36 {a b:Int}(ha:3<=a/\a<=6)(hb:3<=b/\b<=6):9<=a*b/\a*b<=36:=by
 have:a=3\/a=4\/a=5\/a=6:=by omega
 rcases this with rfl | rfl | rfl | rfl<;>omega
theorem grem_nn {a b:Int}(ha:0<=a)(hb:0<b):grem a b=some (a % b):=by
 unfold grem;rw[if_neg (by omega),Int.tmod_eq_emod_of_nonneg ha]
theorem gdiv_nn {a b:Int}(ha:0<=a)(ha2:a<=9223372036854775807)(hb:0<b):gdiv .i64 a b=some (a/b):=by
 have h1:0<=a/b:=Int.ediv_nonneg ha (by omega);have h2:a/b<=a:=Int.ediv_le_self _ ha;unfold gdiv;rw[if_neg (by omega),Int.tdiv_eq_ediv_of_nonneg ha,wrap_ok (by omega)]
def tkp (d:Int×(Int×(Int×Int)))(t:Int):Int:=
 if t % d.1=0\/t/d.1=0\/t % d.1=d.1 - 1\/t/d.1=d.2.1 - 1 then 0 else if t % d.1=d.2.2.2 then 2 else 1
theorem tkp_ge (d:Int×(Int×(Int×Int)))(t:Int):0<=tkp d t:=by
 unfold tkp;split;omega;split<;>omega
def tk (d:Int×(Int×(Int×Int)))(t:Int):Int:=if DOk d/\0<=t/\t<d.1*d.2.1 then tkp d t else -1
theorem tk_spec (d:Int×(Int×(Int×Int)))(t:Int)(ht:t<=9223372036854775807):spec_TileKind (d,t)=some (tk d t):=by
 unfold spec_TileKind tk;simp only[devOk_spec,Option.bind_some];by_cases h:DOk d
 ·have hd:=h;obtain⟨W,H,T,S⟩:=d;obtain⟨h1,h2,h3,h4⟩:=h;simp only at h1 h2 h3 h4;have hm:=mul_le36 h1 h2;simp only[dt hd,Bool.not_true,cond_false];rw[wrap_ok (by omega)];by_cases h0:t<0
  ·rw[dt h0,cond_true,if_neg (by omega)]
  ·rw[df h0,cond_false];by_cases h5:W*H<=t
   ·rw[dt h5,cond_true,if_neg (by omega)]
   ·rw[df h5,cond_false,if_pos ⟨hd,by omega,by omega⟩,grem_nn (by omega) (by omega),gdiv_nn (by omega) ht (by omega)];simp only[Option.bind_some];rw[wrap_ok (by omega),wrap_ok (by omega)];unfold tkp;simp only;by_cases q1:t % W=0
    ·simp[q1]
    by_cases q2:t/W=0
    ·simp[q1,q2]
    by_cases q3:t % W=W - 1
    ·rw[df q1,cond_false,df q2,cond_false,dt q3,cond_true,if_pos (by simp[q3])]
    by_cases q4:t/W=H - 1
    ·rw[df q1,cond_false,df q2,cond_false,df q3,cond_false,dt q4,cond_true,if_pos (by simp[q4])]
    rw[df q1,cond_false,df q2,cond_false,df q3,cond_false,df q4,cond_false,if_neg (by simp[q1,q2,q3,q4])];by_cases q5:t % W=S
    ·rw[dt q5,cond_true,if_pos q5]
    ·rw[df q5,cond_false,if_neg q5]
 ·simp[h]
theorem tileKind_impl (d:Int×(Int×(Int×Int)))(t:Int)(h:DOk d)(ht0:0<=t)(ht:t<=9223372036854775807):impl_tileKind (d,t)=some (tkp d t):=by
 unfold impl_tileKind;obtain⟨W,H,T,S⟩:=d;obtain⟨h1,h2,h3,h4⟩:=h;simp only at h1 h2 h3 h4;dsimp only;rw[grem_nn (by omega) (by omega),gdiv_nn (by omega) ht (by omega)];simp only[Option.bind_some];rw[wrap_ok (by omega),wrap_ok (by omega)];unfold tkp;simp only;by_cases q1:t % W=0
 ·simp[q1]
 by_cases q3:t % W=W - 1
 ·rw[df q1,cond_false,dt q3,cond_true,if_pos (by simp[q3])]
 by_cases q2:t/W=0
 ·rw[df q1,cond_false,df q3,cond_false,dt q2,cond_true,if_pos (by simp[q2])]
 by_cases q4:t/W=H - 1
 ·rw[df q1,cond_false,df q3,cond_false,df q2,cond_false,dt q4,cond_true,if_pos (by simp[q4])]
 rw[df q1,cond_false,df q3,cond_false,df q2,cond_false,df q4,cond_false,if_neg (by simp[q1,q2,q3,q4])];by_cases q5:t % W=S
 ·rw[dt q5,cond_true,if_pos q5]
 ·rw[df q5,cond_false,if_neg q5]
theorem tileOk_impl (d:Int×(Int×(Int×Int)))(t:Int):impl_tileOk (d,t)=some (decide (DOk d/\0<=t/\t<d.1*d.2.1)):=by
 unfold impl_tileOk;simp only[devOk_impl,Option.bind_some];by_cases h:DOk d
 ·have hm:=mul_le36 h.1 h.2.1;simp only[dt h,cond_true];rw[wrap_ok (z:=d.1*d.2.1) (by omega),wrap_ok (by omega),inR_impl,Option.bind_some]
  congr 1
  by_cases q:0<=t/\t<d.1*d.2.1
  ·rw[dt (by omega),dt ⟨h,q⟩]
  ·rw[df (by omega),df (fun e=>q e.2)]
 ·simp[h]
theorem tk_impl (d:Int×(Int×(Int×Int)))(t:Int)(ht:t<=9223372036854775807):impl_TileKind (d,t)=some (tk d t):=by
 unfold impl_TileKind tk;simp only[tileOk_impl,Option.bind_some];by_cases h:DOk d/\0<=t/\t<d.1*d.2.1
 ·rw[dt h];simp only[Bool.not_true,cond_false];rw[tileKind_impl d t h.1 h.2.1 ht,if_pos h];rfl
 ·rw[df h,if_neg h];rfl
def per (d:Int×(Int×(Int×Int))):Int:=7+4*d.2.2.1
theorem per_spec {d:Int×(Int×(Int×Int))}(h:DOk d):spec_l27Per d=some (per d):=by
 unfold spec_l27Per per;have:=h.2.2.1;dsimp only;rw[wrap_ok (z:=4*d.2.2.1) (by omega),wrap_ok (by omega)]
theorem per_impl {d:Int×(Int×(Int×Int))}(h:DOk d):impl_perTile d=some (per d):=per_spec h
def nodesN (d:Int×(Int×(Int×Int))):Int:=d.1*d.2.1*per d
theorem per_le {d:Int×(Int×(Int×Int))}(h:DOk d):11<=per d/\per d<=23:=by
 have:=h.2.2.1;unfold per;omega
theorem nodesN_le {d:Int×(Int×(Int×Int))}(h:DOk d):99<=nodesN d/\nodesN d<=828:=by
 have hm:=mul_le36 h.1 h.2.1;have hp:=per_le h;unfold nodesN;generalize d.1*d.2.1=n at*;generalize per d=p at*;have h1:n*p<=36*23:=Int.mul_le_mul hm.2 hp.2 (by omega) (by omega);have h2:9*11<=n*p:=Int.mul_le_mul hm.1 hp.1 (by omega) (by omega);omega
theorem routeNodes_spec (d:Int×(Int×(Int×Int))):spec_RouteNodes d=some (if DOk d then nodesN d else 0):=by
 unfold spec_RouteNodes;simp only[devOk_spec,Option.bind_some];by_cases h:DOk d
 ·have hm:=mul_le36 h.1 h.2.1;have hn:=nodesN_le h;rw[dt h,if_pos h];simp only[Bool.not_true,cond_false,per_spec h,Option.bind_some];rw[wrap_ok (z:=d.1*d.2.1) (by omega)];unfold nodesN at*;rw[wrap_ok (by omega)]
 ·simp[h]
theorem routeNodes_impl {d:Int×(Int×(Int×Int))}(h:DOk d):impl_routeNodes d=some (nodesN d):=by
 unfold impl_routeNodes;have hm:=mul_le36 h.1 h.2.1;have hn:=nodesN_le h;simp only[per_impl h,Option.bind_some];rw[wrap_ok (z:=d.1*d.2.1) (by omega)];unfold nodesN at*;rw[wrap_ok (by omega)]
def inP (k:Int):Int:=if k=0 then 1 else if k=1 then 5 else if k=2 then 4 else 0
theorem inPins_spec (k:Int):spec_InPins k=some (inP k):=by
 unfold spec_InPins inP;by_cases h0:k=0
 ·simp[h0]
 ·by_cases h1:k=1
  ·simp[h1]
  ·by_cases h2:k=2
   ·simp[h2]
   ·simp[h0,h1,h2]
theorem inPins_impl (k:Int):impl_InPins k=some (inP k):=inPins_spec k
def outP (k:Int):Int:=if k=0 then 1 else if k=1 then 2 else if k=2 then 1 else 0
theorem outPins_spec (k:Int):spec_OutPins k=some (outP k):=by
 unfold spec_OutPins outP;by_cases h0:k=0
 ·simp[h0]
 ·by_cases h1:k=1
  ·simp[h1]
  ·by_cases h2:k=2
   ·simp[h2]
   ·simp[h0,h1,h2]
theorem outPins_impl (k:Int):impl_OutPins k=some (outP k):=outPins_spec k
end Go.Pf
/-
  Own work. Draws, plainly: the cursor.
-/
namespace Go.Pf
open Go Go.Pu
set_option linter.unusedVariables false
theorem gand_le (x:Int){m:Nat}(hm:m<4611686018427387904):0<=gand .i64 x (m:Int)/\gand .i64 x (m:Int)<=(m:Int):=by
 unfold gand;have h0:(BitVec.ofInt 64 x &&& BitVec.ofInt 64 (m:Int)).toNat<=m:=by
  rw[BitVec.toNat_and];refine Nat.le_trans Nat.and_le_right ?_
  rw[BitVec.toNat_ofInt];have:((m:Int) % ((2 ^ 64:Nat):Int)).toNat=m:=by omega
  omega
 show 0<=wrap .i64 ((BitVec.ofInt 64 x &&& BitVec.ofInt 64 (m:Int)).toNat:Int)/\wrap .i64 ((BitVec.ofInt 64 x &&& BitVec.ofInt 64 (m:Int)).toNat:Int)<=(m:Int);rw[wrap_ok (by omega)];omega
theorem gshift_ok (a:Int){b:Int}(h:0<=b/\b<64):∃z,gshift false .i64 a b=some z:=by
 unfold gshift;rw[if_pos (show 0<=b/\b<((IntKind.i64).bits:Int)from h)];exact⟨_,rfl⟩
abbrev Cur:=Int×Int
def CurOk (b:List Int)(c:Cur):Prop:=0<=c.1/\c.1<=(b.length:Int)
def CdOk (b:List Int):Prop:=b.length<=1048576
theorem byte_ok {b:List Int}{c:Cur}(hb:CdOk b)(hc:CurOk b c):∃x c',spec_l01Byte (b,c)=some (x,c')/\CurOk b c'∧0<=x/\x<=255:=by
 unfold CdOk at hb;unfold CurOk at hc;unfold spec_l01Byte;dsimp only;obtain⟨z1,h1⟩:=gshift_ok (wrap .i64 (wrap .i64 (c.2*6364136223846793005)+1442695040888963407)) (b:=33) (by omega);obtain⟨z2,h2⟩:=gshift_ok (wrap .i64 (wrap .i64 (c.2*6364136223846793005)+1442695040888963407)) (b:=45) (by omega);rw[h1,h2];simp only[Option.bind_some];by_cases q:c.1<(b.length:Int)
 ·rw[dt q,cond_true,gget_some (by omega) q];simp only[Option.bind_some];refine⟨_,_,rfl,?_,?_⟩
  ·rw[wrap_ok (by omega)];exact⟨by simp only;omega,by simp only;omega⟩
  ·exact gand_le _ (m:=255) (by omega)
 ·rw[df q,cond_false];exact⟨_,_,rfl,hc,gand_le _ (m:=255) (by omega)⟩
theorem grem_in {a n:Int}(h0:0<=a)(hn:0<n):∃z,grem a n=some z/\0<=z/\z<n:=by
 refine⟨a % n,grem_nn h0 hn,Int.emod_nonneg _ (by omega),Int.emod_lt_of_pos _ hn⟩
theorem below_ok {b:List Int}{c:Cur}(hb:CdOk b)(hc:CurOk b c)(n:Int):∃x c',spec_l01Below ((b,c),n)=some (x,c')/\CurOk b c'∧(n<=0->x=0)/\(0<n->0<=x/\x<n):=by
 unfold spec_l01Below;dsimp only;by_cases h1:n<=0
 ·rw[dt h1,cond_true];exact⟨0,c,rfl,hc,fun _=>rfl,fun h=>by omega⟩
 rw[df h1,cond_false];by_cases h2:n<=256
 ·rw[dt h2,cond_true];obtain⟨x,c1,e1,k1,x0,x1⟩:=byte_ok hb hc;rw[e1];simp only[Option.bind_some];obtain⟨z,e2,z0,z1⟩:=grem_in x0 (show 0<n by omega);rw[e2];exact⟨z,c1,rfl,k1,fun h=>by omega,fun _=>⟨z0,z1⟩⟩
 ·rw[df h2,cond_false];obtain⟨x,c1,e1,k1,x0,x1⟩:=byte_ok hb hc;obtain⟨y,c2,e2,k2,y0,y1⟩:=byte_ok hb k1;obtain⟨u,c3,e3,k3,u0,u1⟩:=byte_ok hb k2;obtain⟨w,c4,e4,k4,w0,w1⟩:=byte_ok hb k3;rw[e1];simp only[Option.bind_some];rw[e2];simp only[Option.bind_some];rw[e3];simp only[Option.bind_some];rw[e4];simp only[Option.bind_some];rw[wrap_ok (z:=x*16777216) (by omega),wrap_ok (z:=y*65536) (by omega),wrap_ok (z:=x*16777216+y*65536) (by omega),wrap_ok (z:=u*256) (by omega),wrap_ok (z:=x*16777216+y*65536+u*256) (by omega),wrap_ok (z:=x*16777216+y*65536+u*256+w) (by omega)];obtain⟨z,e5,z0,z1⟩:=grem_in (show 0<=x*16777216+y*65536+u*256+w by omega) (show 0<n by omega);rw[e5];exact⟨z,c4,rfl,k4,fun h=>by omega,fun _=>⟨z0,z1⟩⟩
theorem once_ok {b:List Int}{c:Cur}(hb:CdOk b)(hc:CurOk b c)(n:Int):∃x c',spec_l01Once ((b,c),n)=some (x,c')/\CurOk b c' :=by
 unfold spec_l01Once;obtain⟨x,c1,e1,k1,_⟩:=below_ok hb hc n;rw[e1];exact⟨_,c1,rfl,k1⟩
theorem pick_ok {b:List Int}{c:Cur}(hb:CdOk b)(hc:CurOk b c){l:List Int}(hl:0<l.length):∃x c',spec_l01PickInt ((b,c),l)=some (x,c')/\CurOk b c'∧x∈l:=by
 unfold spec_l01PickInt;dsimp only;obtain⟨x,c1,e1,k1,_,x1⟩:=below_ok hb hc (l.length:Int);have x1:=x1 (by omega);rw[e1];simp only[Option.bind_some];obtain⟨n,rfl⟩:∃n:Nat,x=(n:Int):=⟨x.toNat,by omega⟩;have hn:n<l.length:=by omega
 rw[gget_nat hn];exact⟨_,c1,rfl,k1,List.getElem_mem hn⟩
theorem new_ok {b:List Int}(hb:CdOk b):∃c,spec_l01New b=some c/\CurOk b c:=by
 unfold CdOk at hb;have key:∃o:Int⊕Cur,Pu.loop (fun(v3:(Int×Int))=>
  let v4:Int:=((b).length:Int)
  let v5:Bool:=decide (v3.2<v4)
  bif v5 then(
   let v6:Bool:=decide (v3.2<4000)
   bif v6 then(
    let v7:Int:=wrap .i64 (v3.1*131)
    (gget 0 b v3.2).bind fun v8=>
    let v9:Int:=wrap .i64 v8
    let v10:Int:=wrap .i64 (v7+v9)
    let v11:Int:=wrap .i64 (v10+7)
    let v12:Int:=gand .i64 v11 1073741823
    let v13:Int:=wrap .i64 (v3.2+1)
    some (.inl (v12,v13)))else
   Option.map Sum.inr (
    some (.inl v3.1)))else
  Option.map Sum.inr (
   some (.inl v3.1))) (wrap .i64 (33117+(b.length:Int)),0)=some o/\∃z,o= .inl z:=by
  refine loop_spec (fun s:Int×Int=>0<=s.2/\s.2<=(b.length:Int)) (fun o:Int⊕Cur=>∃z:Int,o= .inl z) (fun s=>((b.length:Int) - s.2).toNat) (fun s hs=> ?_) _ ⟨by simp,by simp⟩;obtain⟨h,i⟩:=s;obtain⟨i0,i1⟩:=hs;simp only at i0 i1;dsimp only;by_cases h1:i<(b.length:Int)
  ·rw[dt h1,cond_true];by_cases h2:i<4000
   ·left
    rw[dt h2,cond_true,gget_some i0 h1];simp only[Option.bind_some];refine⟨_,rfl,⟨?_,?_⟩,?_⟩
    ·simp only;rw[wrap_ok (by omega)];omega
    ·simp only;rw[wrap_ok (by omega)];omega
    ·simp only;rw[wrap_ok (by omega)];omega
   ·right
    rw[df h2,cond_false];exact⟨_,rfl,_,rfl⟩
  ·right
   rw[df h1,cond_false];exact⟨_,rfl,_,rfl⟩
 obtain⟨o,h1,z,rfl⟩:=key;unfold spec_l01New;dsimp only at h1 ⊢;rw[h1];exact⟨(0,z),rfl,by unfold CurOk;simp⟩
theorem big_ok (b:List Int):laws_big b=some (decide (1048576<(b.length:Int))):=rfl
end Go.Pf
/-
  Own work. Results that are there and have a property: no panic, and an end.
-/
namespace Go.Pf
open Go Go.Pu
set_option linter.unusedVariables false
def Tot {α:Type}(X:Option α)(Q:α->Prop):Prop:=∃o,X=some o/\Q o
def SumP {α β:Type}(A:α->Prop)(Q:β->Prop):α⊕β->Prop
 | .inl a=>A a
 | .inr b=>Q b
section
variable {α β σ ω:Type}
theorem Tot.ret {a:α}{Q:α->Prop}(h:Q a):Tot (some a) Q:=⟨a,rfl,h⟩
theorem Tot.bind {X:Option α}{k:α->Option β}{A:α->Prop}{Q:β->Prop}(h:Tot X A)(hk:∀a,A a->Tot (k a) Q):Tot (X.bind k) Q:=by
 obtain⟨o,h1,h2⟩:=h;rw[h1];exact hk o h2
theorem Tot.bindEq {X:Option α}{k:α->Option β}{a:α}{Q:β->Prop}(h:X=some a)(hk:Tot (k a) Q):Tot (X.bind k) Q:=by rw[h];exact hk
theorem Tot.ite {c:Bool}{a b:Option α}{Q:α->Prop}(h1:c=true->Tot a Q)(h2:c=false->Tot b Q):Tot (bif c then a else b) Q:=by
 cases c with
 | true=>exact h1 rfl
 | false=>exact h2 rfl
theorem Tot.nite {c:Bool}{a b:Option α}{Q:α->Prop}(h1:c=false->Tot a Q)(h2:c=true->Tot b Q):Tot (bif !c then a else b) Q:=by
 cases c with
 | true=>exact h2 rfl
 | false=>exact h1 rfl
theorem Tot.dite {p:Prop} [Decidable p] {a b:Option α}{Q:α->Prop}(h1:p->Tot a Q)(h2:¬p->Tot b Q):Tot (bif decide p then a else b) Q:=by
 by_cases h:p
 ·rw[dt h];exact h1 h
 ·rw[df h];exact h2 h
theorem Tot.ndite {p:Prop} [Decidable p] {a b:Option α}{Q:α->Prop}(h1:¬p->Tot a Q)(h2:p->Tot b Q):Tot (bif !decide p then a else b) Q:=by
 by_cases h:p
 ·rw[dt h];exact h2 h
 ·rw[df h];exact h1 h
theorem Tot.exit {X:Option β}{A:α->Prop}{Q:β->Prop}(h:Tot X Q):Tot (Option.map (Sum.inr:β->α⊕β) X) (SumP A Q):=by
 obtain⟨o,h1,h2⟩:=h;rw[h1];exact⟨_,rfl,h2⟩
theorem Tot.next {s:σ}{A:σ->Prop}{Q:ω->Prop}(h:A s):Tot (some (Sum.inl s:σ⊕ω)) (SumP A Q):=⟨_,rfl,h⟩
theorem Tot.join {X:Option (α⊕β)}{k:α->Option β}{A:α->Prop}{Q:β->Prop}(h:Tot X (SumP A Q))(hk:∀a,A a->Tot (k a) Q):Tot (joinO X k) Q:=by
 obtain⟨o,h1,h2⟩:=h;rw[h1];cases o with
 | inl a=>exact hk a h2
 | inr b=>exact⟨b,rfl,h2⟩
theorem Tot.lp {f:σ->Option (σ⊕ω)}(I:σ->Prop)(μ:σ->Nat){Q:ω->Prop}{s0:σ}(h0:I s0)(h:∀s,I s->Tot (f s) (SumP (fun s' =>I s'∧μ s' <μ s) Q)):Tot (loop f s0) Q:=by
 refine loop_spec I Q μ (fun s hs=> ?_) s0 h0;obtain⟨o,h1,h2⟩:=h s hs;cases o with
 | inl s' =>exact .inl ⟨s',h1,h2.1,h2.2⟩
 | inr o=>exact .inr ⟨o,h1,h2⟩
theorem Tot.get {d:α}{xs:List α}{i:Int}{k:α->Option β}{Q:β->Prop}(h0:0<=i)(h1:i<(xs.length:Int))(hk:∀y,y=xs.getD i.toNat d->y∈xs->Tot (k y) Q):Tot ((gget d xs i).bind k) Q:=by
 rw[gget_some h0 h1];refine hk _ rfl ?_
 rw[List.getD,List.getElem?_eq_getElem (by omega)];exact List.getElem_mem _
theorem Tot.gin {n:Nat}{i:Int}{k:Unit->Option β}{Q:β->Prop}(h0:0<=i)(h1:i<(n:Int))(hk:Tot (k ()) Q):Tot ((gin n i).bind k) Q:=by
 unfold Pu.gin;rw[if_pos ⟨h0,h1⟩];exact hk
theorem Tot.app {b:Nat}{xs ys:List α}{k:List α->Option β}{Q:β->Prop}(h:xs.length+ys.length<=1000000000)(hb:b<=100)(hk:Tot (k (xs++ys)) Q):Tot ((gapp b xs ys).bind k) Q:=by
 rw[gapp_some (by
  have:(xs.length+ys.length)*b<=1000000000*100:=Nat.mul_le_mul h hb;omega) (by omega)]
 exact hk
theorem Tot.make {b:Nat}{d:α}{n:Int}{k:List α->Option β}{Q:β->Prop}(h0:0<=n)(h1:n<=1000000)(hb:b<=100)(hk:Tot (k (List.replicate n.toNat d)) Q):Tot ((gmake b d n).bind k) Q:=by
 have e:n=(n.toNat:Int):=by omega
 rw[e,gmake_nat (by
  have:n.toNat*b<=1000000*100:=Nat.mul_le_mul (by omega) hb;omega) (by omega)]
 exact hk
theorem Tot.div2 {a:Int}{k:Int->Option β}{Q:β->Prop}(h0:0<=a)(h1:a<=9223372036854775807)(hk:Tot (k (a/2)) Q):Tot ((gdiv .i64 a 2).bind k) Q:=by
 rw[gdiv_nn h0 h1 (by omega)];exact hk
theorem Tot.rem {a b:Int}{k:Int->Option β}{Q:β->Prop}(h0:0<=a)(hb:0<b)(hk:Tot (k (a % b)) Q):Tot ((grem a b).bind k) Q:=by
 rw[grem_nn h0 hb];exact hk
theorem Tot.below {b:List Int}{c:Cur}{n:Int}{k:Int×Cur->Option β}{Q:β->Prop}(hb:CdOk b)(hc:CurOk b c)(hk:∀x c',CurOk b c'→(n<=0->x=0)->(0<n->0<=x/\x<n)->Tot (k (x,c')) Q):Tot ((spec_l01Below ((b,c),n)).bind k) Q:=by
 obtain⟨x,c',e,k1,k2,k3⟩:=below_ok hb hc n;rw[e];exact hk x c' k1 k2 k3
theorem Tot.once {b:List Int}{c:Cur}{n:Int}{k:Bool×Cur->Option β}{Q:β->Prop}(hb:CdOk b)(hc:CurOk b c)(hk:∀x c',CurOk b c'→Tot (k (x,c')) Q):Tot ((spec_l01Once ((b,c),n)).bind k) Q:=by
 obtain⟨x,c',e,k1⟩:=once_ok hb hc n;rw[e];exact hk x c' k1
theorem Tot.pick {b:List Int}{c:Cur}{l:List Int}{k:Int×Cur->Option β}{Q:β->Prop}(hb:CdOk b)(hc:CurOk b c)(hl:0<l.length)(hk:∀x c',CurOk b c'→x∈l->Tot (k (x,c')) Q):Tot ((spec_l01PickInt ((b,c),l)).bind k) Q:=by
 obtain⟨x,c',e,k1,k2⟩:=pick_ok hb hc hl;rw[e];exact hk x c' k1 k2
end
theorem gset_len {α:Type}(xs:List α)(i:Int)(x:α):(gset xs i x).length=xs.length:=by unfold gset;rw[List.length_set]
theorem gset_mem {α:Type}{xs:List α}{i:Int}{x y:α}(h:y∈gset xs i x):y∈xs\/y=x:=List.mem_or_eq_of_mem_set h
theorem getD_mem {α:Type}{xs:List α}{n:Nat}{d:α}(h:n<xs.length):xs.getD n d∈xs:=by
 rw[List.getD,List.getElem?_eq_getElem h];exact List.getElem_mem h
end Go.Pf
/-
  Own work. Draws, plainly: nets; which are valid; roots; copies.
-/
namespace Go.Pf
open Go Go.Pu
set_option linter.unusedVariables false
theorem wrap_in (z:Int): -9223372036854775808<=wrap .i64 z/\wrap .i64 z<=9223372036854775807:=by
 unfold wrap;have h:IntKind.wrap .i64 z=(z+9223372036854775808) % 18446744073709551616 - 9223372036854775808:=by
  rw[IntKind.wrap_i64]
 rw[h];omega
abbrev SSeq:=Int×(Int×List Int)
abbrev SAnd:=Int×Int
abbrev SNet:=Int×(List SSeq×(List SAnd×List Int))
def I64 (x:Int):Prop:= -9223372036854775808<=x/\x<=9223372036854775807
structure NB (n:SNet):Prop where
 sq:n.2.1.length<=1000
 ins:∀s∈n.2.1,s.2.2.length<=1000/\∀x∈s.2.2,I64 x
 an:n.2.2.1.length<=1000
 ands:∀a∈n.2.2.1,I64 a.1/\I64 a.2
 ot:n.2.2.2.length<=1000
 outs:∀x∈n.2.2.2,I64 x
def firstOf (n:SNet):Int:=1+n.1+(n.2.1.length:Int)
def nodesOf (n:SNet):Int:=firstOf n+(n.2.2.1.length:Int)
def Lit (x m:Int):Prop:=0<=x/\x<2*m
structure NOk (n:SNet):Prop where
 inp:0<=n.1/\n.1<=20
 sq:n.2.1.length<=12
 an:n.2.2.1.length<=300
 ot:n.2.2.2.length<=16
 ins:∀s∈n.2.1,s.2.2.length<=4/\∀x∈s.2.2,Lit x (nodesOf n)
 outs:∀x∈n.2.2.2,Lit x (nodesOf n)
 ands:∀i,i<n.2.2.1.length->Lit (n.2.2.1.getD i (0,0)).1 (firstOf n+(i:Int))/\Lit (n.2.2.1.getD i (0,0)).2 (firstOf n+(i:Int))
def capsOk (n:SNet):Prop:=(0<=n.1/\n.1<=20)/\n.2.1.length<=12/\n.2.2.1.length<=300/\n.2.2.2.length<=16
instance (n:SNet):Decidable (capsOk n):=by unfold capsOk;infer_instance
theorem NOk.caps {n:SNet}(h:NOk n):capsOk n:=⟨h.inp,h.sq,h.an,h.ot⟩
theorem nodeCount_ok (n:SNet):spec_NodeCount n=some (if capsOk n then nodesOf n else 0):=by
 unfold spec_NodeCount;dsimp only;rw[inR_spec];simp only[Option.bind_some];by_cases h1:0<=n.1/\n.1<=20
 rotate_left
 ·rw[df h1,if_neg (fun e:capsOk n=>h1 e.1)];rfl
 rw[dt h1];simp only[Bool.not_true,cond_false];by_cases h2:n.2.1.length<=12
 rotate_left
 ·rw[dt (by omega),if_neg (fun e:capsOk n=>h2 e.2.1)];rfl
 rw[df (by omega),cond_false];by_cases h3:n.2.2.1.length<=300
 rotate_left
 ·rw[dt (by omega),if_neg (fun e:capsOk n=>h3 e.2.2.1)];rfl
 rw[df (by omega),cond_false];by_cases h4:n.2.2.2.length<=16
 rotate_left
 ·rw[dt (by omega),if_neg (fun e:capsOk n=>h4 e.2.2.2)];rfl
 rw[df (by omega),cond_false,if_pos (show capsOk n from⟨h1,h2,h3,h4⟩),wrap_ok (z:=1+n.1) (by omega),wrap_ok (z:=1+n.1+(n.2.1.length:Int)) (by omega),wrap_ok (by omega)];rfl
theorem nodeCount_nok {n:SNet}(h:NOk n):spec_NodeCount n=some (nodesOf n):=by rw[nodeCount_ok,if_pos h.caps]
theorem first_caps {n:SNet}(h:capsOk n):spec_l08First n=some (firstOf n):=by
 unfold spec_l08First;obtain⟨h1,h2,_⟩:=h;dsimp only;rw[wrap_ok (z:=1+n.1) (by omega),wrap_ok (by omega)];rfl
theorem first_nok {n:SNet}(h:NOk n):spec_l08First n=some (firstOf n):=first_caps h.caps
theorem caps_bd {n:SNet}(h:capsOk n):(1<=firstOf n/\firstOf n<=33)/\(1<=nodesOf n/\nodesOf n<=333)/\nodesOf n=firstOf n+(n.2.2.1.length:Int):=by
 obtain⟨h1,h2,h3,_⟩:=h;unfold nodesOf firstOf;omega
theorem lit_ok {x m:Int}(hx:I64 x):spec_l08Lit (x,m)=some (decide (0<=x/\x/2<m)):=by
 unfold spec_l08Lit;dsimp only;unfold I64 at hx;by_cases h:0<=x
 ·rw[dt h,cond_true,gdiv_nn h hx.2 (by omega)];simp only[Option.bind_some];by_cases q:x/2<m
  ·rw[dt q,dt ⟨h,q⟩]
  ·rw[df q,df (fun e=>q e.2)]
 ·rw[df h,df (fun e=>h e.1)];rfl
def rootsTo (n:SNet)(k:Nat):List Int:=n.2.2.2++(n.2.1.take k).flatMap (·.2.2)
def rootsOf (n:SNet):List Int:=rootsTo n n.2.1.length
theorem flat_len {xs:List SSeq}{K:Nat}(h:∀s∈xs,s.2.2.length<=K):(xs.flatMap (·.2.2)).length<=xs.length*K:=by
 induction xs with
 | nil=>simp
 | cons x xs ih=>
  have h1:=h x (by simp);have h2:=ih (fun s hs=>h s (by simp[hs]));rw[List.flatMap_cons,List.length_append,List.length_cons,Nat.succ_mul];omega
theorem roots_len {n:SNet}(h:NB n)(k:Nat):(rootsTo n k).length<=1001000:=by
 unfold rootsTo;have h1:=flat_len (xs:=n.2.1.take k) (K:=1000) (fun s hs=>(h.ins s (List.mem_of_mem_take hs)).1);have h2:(n.2.1.take k).length<=1000:=by rw[List.length_take];have:=h.sq;omega
 have h3:(n.2.1.take k).length*1000<=1000*1000:=Nat.mul_le_mul_right _ h2;have h4:=h.ot;rw[List.length_append];omega
theorem roots_ok {n:SNet}(h:NB n):spec_l08Roots n=some (rootsOf n):=by
 unfold spec_l08Roots;dsimp only;have ho:=h.ot;rw[gapp_some (by simp only[List.length_nil];omega) (by simp only[List.length_nil];omega)];simp only[Option.bind_some,List.nil_append];have e0:((0:Int),n.2.2.2)=(fun k:Nat=>((k:Int),rootsTo n k)) 0:=by simp[rootsTo]
 rw[e0];have hs:=h.sq;refine loop_upto n.2.1.length (fun k=>((k:Int),rootsTo n k)) (fun k hk=> ?_) ?_
 ·have h1:=roots_len h k;have h2:=(h.ins n.2.1[k] (List.getElem_mem hk)).1
  try dsimp only
  rw[dt (by omega),cond_true,gget_nat hk];simp only[Option.bind_some];rw[gapp_some (by omega) (by omega)];simp only[Option.bind_some];rw[wrap_ok (by omega)];have e:rootsTo n (k+1)=rootsTo n k++n.2.1[k].2.2:=by
   unfold rootsTo;rw[take_succ' n.2.1 k hk,List.flatMap_append];simp
  rw[e];rfl
 ·try dsimp only
  rw[df (by omega),cond_false];rfl
theorem roots_mem {n:SNet}{x:Int}:x∈rootsOf n↔x∈n.2.2.2\/∃s∈n.2.1,x∈s.2.2:=by
 unfold rootsOf rootsTo;rw[List.take_length,List.mem_append,List.mem_flatMap]
theorem take_all {α:Type}{xs:List α}{P:α->Prop}{i:Int}(h0:0<=i)(hi:i<(xs.length:Int)){d:α}(h:∀x∈xs.take i.toNat,P x)(hy:P (xs.getD i.toNat d)):∀x∈xs.take (i+1).toNat,P x:=fun x hx=>by
 have e:(i+1).toNat=i.toNat+1:=by omega
 rw[e,take_succ' xs i.toNat (by omega),List.mem_append,List.mem_singleton]at hx;rcases hx with hx | rfl
 ·exact h x hx
 ·rw[List.getD,List.getElem?_eq_getElem (by omega)]at hy;exact hy
theorem netOk_tot {n:SNet}(hb:NB n):Tot (spec_NetOk n) (fun b=>b=true->NOk n):=by
 unfold spec_NetOk;dsimp only;rw[nodeCount_ok];simp only[Option.bind_some];by_cases hc:capsOk n
 rotate_left
 ·rw[if_neg hc,dt rfl,cond_true];exact Tot.ret (fun h=>by cases h)
 obtain⟨hf,hn,hfn⟩:=caps_bd hc;rw[if_pos hc,df (by omega),cond_false];have hsq:=hc.2.1;have han:=hc.2.2.1;have fals:∀{α:Type} {A:α->Prop},Tot (Option.map (Sum.inr:Bool->α⊕Bool) (some false)) (SumP A (fun b=>b=true->NOk n)):=Tot.exit (Tot.ret (fun h=>by cases h));refine Tot.lp (fun i=>(0<=i/\i<=(n.2.1.length:Int))/\∀s∈n.2.1.take i.toNat,s.2.2.length<=4) (fun i=>((n.2.1.length:Int) - i).toNat) ⟨⟨by omega,by omega⟩,fun s hs=>by simp at hs⟩ (fun i hi=> ?_);obtain⟨⟨i0,i1⟩,hi2⟩:=hi;refine Tot.dite (fun h1=> ?_) (fun h1=> ?_)
 ·refine Tot.get i0 h1 fun s hs hm=> ?_
  have step:s.2.2.length<=4->Tot (some (Sum.inl (wrap .i64 (i+1)):Int⊕Bool)) (SumP (fun s' =>(((0<=s'∧s'≤(n.2.1.length:Int))/\∀s∈n.2.1.take s'.toNat,s.2.2.length<=4)/\((n.2.1.length:Int) - s').toNat<((n.2.1.length:Int) - i).toNat)) (fun b=>b=true->NOk n)):=fun h4=>by
   rw[wrap_ok (by omega)];exact Tot.next ⟨⟨⟨by omega,by omega⟩,take_all i0 h1 hi2 (by rw[<-hs];exact h4)⟩,by omega⟩
  rw[inR_spec];simp only[Option.bind_some];rw[inR_spec];simp only[Option.bind_some];refine Tot.dite (fun _=> ?_) (fun _=> ?_)
  ·refine Tot.dite (fun _=> ?_) (fun _=> ?_)
   ·refine Tot.dite (fun h4=>step (by omega)) (fun _=> ?_);refine Tot.dite (fun _=> ?_) (fun _=>fals);refine Tot.dite (fun _=> ?_) (fun _=>fals);exact Tot.ndite (fun _=>fals) (fun h4=>step (by omega))
   ·refine Tot.dite (fun _=> ?_) (fun _=>fals);refine Tot.dite (fun _=> ?_) (fun _=>fals);exact Tot.ndite (fun _=>fals) (fun h4=>step (by omega))
  ·refine Tot.dite (fun _=> ?_) (fun _=>fals);refine Tot.dite (fun _=> ?_) (fun _=>fals);exact Tot.ndite (fun _=>fals) (fun h4=>step (by omega))
 refine Tot.exit ?_
 have e1:i.toNat=n.2.1.length:=by omega
 rw[e1,List.take_length]at hi2;rw[roots_ok hb];simp only[Option.bind_some];have hrl:(rootsOf n).length<=1001000:=roots_len hb _;have hri:∀x∈rootsOf n,I64 x:=fun x hx=>by
  rcases roots_mem.1 hx with h | ⟨s,hs,h⟩
  ·exact hb.outs x h
  ·exact(hb.ins s hs).2 x h
 refine Tot.lp (fun i=>(0<=i/\i<=((rootsOf n).length:Int))/\∀x∈(rootsOf n).take i.toNat,Lit x (nodesOf n)) (fun i=>(((rootsOf n).length:Int) - i).toNat) ⟨⟨by omega,by omega⟩,fun s hs=>by simp at hs⟩ (fun j hj=> ?_);obtain⟨⟨j0,j1⟩,hj2⟩:=hj;refine Tot.dite (fun h2=> ?_) (fun h2=> ?_)
 ·refine Tot.gin j0 h2 (Tot.get j0 h2 fun x hx hm=> ?_);rw[lit_ok (hri x hm)];simp only[Option.bind_some];refine Tot.ndite (fun _=>fals) (fun h4=> ?_);rw[wrap_ok (by omega)];exact Tot.next ⟨⟨⟨by omega,by omega⟩,take_all j0 h2 hj2 (by rw[<-hx];unfold Lit;omega)⟩,by omega⟩
 refine Tot.exit ?_
 have e2:j.toNat=(rootsOf n).length:=by omega
 rw[e2,List.take_length]at hj2;refine Tot.lp (fun i=>(0<=i/\i<=(n.2.2.1.length:Int))/\∀k:Nat,(k:Int)<i->Lit (n.2.2.1.getD k (0,0)).1 (firstOf n+(k:Int))/\Lit (n.2.2.1.getD k (0,0)).2 (firstOf n+(k:Int))) (fun i=>((n.2.2.1.length:Int) - i).toNat) ⟨⟨by omega,by omega⟩,fun k hk=>by omega⟩ (fun k hk=> ?_);obtain⟨⟨k0,k1⟩,hk2⟩:=hk;refine Tot.dite (fun h3=> ?_) (fun h3=> ?_)
 ·refine Tot.get k0 h3 fun a ha hm=> ?_
  have hab:=hb.ands a hm;rw[first_caps hc];simp only[Option.bind_some];rw[wrap_ok (z:=firstOf n+k) (by omega),lit_ok hab.1];simp only[Option.bind_some];refine Tot.ndite (fun _=>fals) (fun h4=> ?_);refine Tot.get k0 h3 fun a2 ha2 hm2=> ?_
  have ea:a2=a:=by rw[ha,ha2]
  subst ea;rw[lit_ok hab.2];simp only[Option.bind_some];refine Tot.ndite (fun _=>fals) (fun h5=> ?_);rw[wrap_ok (z:=k+1) (by omega)];refine Tot.next ⟨⟨⟨by omega,by omega⟩,fun q hq=> ?_⟩,by omega⟩;by_cases c:(q:Int)<k
  ·exact hk2 q c
  ·have e3:k.toNat=q:=by omega
   rw[e3]at ha;rw[<-ha];unfold Lit;have:k=(q:Int):=by omega
   omega
 refine Tot.exit (Tot.ret fun _=> ?_);refine⟨hc.1,hsq,han,hc.2.2.2,fun s hs=>⟨hi2 s hs,fun x hx=>hj2 x (roots_mem.2 (.inr ⟨s,hs,hx⟩))⟩,fun x hx=>hj2 x (roots_mem.2 (.inl hx)),fun q hq=>hk2 q (by omega)⟩
end Go.Pf
/-
  Own work. Draws, plainly: copies of nets, hashing, sweeping.
-/
namespace Go.Pf
open Go Go.Pu
set_option linter.unusedVariables false
theorem gxor_in (a b:Int):I64 (gxor .i64 a b):=wrap_in _
def SqB (xs:List SSeq):Prop:=xs.length<=1000/\∀s∈xs,s.2.2.length<=1000/\∀x∈s.2.2,I64 x
theorem copySeqs_ok {xs:List SSeq}(h:SqB xs):spec_l08CopySeqs xs=some xs:=by
 have hl:=h.1;unfold spec_l08CopySeqs;have e0:((0:Int),([]:List SSeq))=(fun k:Nat=>((k:Int),xs.take k)) 0:=by simp
 dsimp only;rw[e0];refine Eq.trans (loop_upto xs.length (fun k=>((k:Int),xs.take k)) (o:=xs.take xs.length) (fun k hk=> ?_) ?_) (by rw[List.take_length])
 ·have h2:=(h.2 xs[k] (List.getElem_mem hk)).1;have htl:(xs.take k).length<=k:=by rw[List.length_take];omega
  try dsimp only
  rw[dt (by omega),cond_true,gget_nat hk];simp only[Option.bind_some];rw[gapp_some (by simp only[List.length_nil];omega) (by simp only[List.length_nil];omega)];simp only[Option.bind_some,List.nil_append];rw[gapp_some (by simp only[List.length_singleton];omega) (by simp only[List.length_singleton];omega)];simp only[Option.bind_some,joinO];rw[wrap_ok (by omega),take_succ' xs k hk];rfl
 ·try dsimp only
  rw[df (by omega),cond_false];rfl
theorem NB.sqb {n:SNet}(h:NB n):SqB n.2.1:=⟨h.sq,h.ins⟩
theorem copy_ok {n:SNet}(h:NB n):spec_l08Copy n=some n:=by
 unfold spec_l08Copy;have ha:=h.an;have ho:=h.ot;rw[copySeqs_ok h.sqb];simp only[Option.bind_some];rw[gapp_some (by simp only[List.length_nil];omega) (by simp only[List.length_nil];omega)];simp only[Option.bind_some];rw[gapp_some (by simp only[List.length_nil];omega) (by simp only[List.length_nil];omega)];rfl
theorem NOk.nb {n:SNet}(h:NOk n):NB n:=by
 have hc:=caps_bd h.caps;refine⟨by have:=h.sq;omega,fun s hs=>⟨by have:=(h.ins s hs).1;omega,fun x hx=> ?_⟩,by have:=h.an;omega,fun a ha=> ?_,by have:=h.ot;omega,fun x hx=> ?_⟩
 ·have:=(h.ins s hs).2 x hx;unfold Lit at this;unfold I64;omega
 ·obtain⟨i,hi,rfl⟩:=List.getElem_of_mem ha;have:=h.ands i hi;rw[List.getD,List.getElem?_eq_getElem hi]at this;simp only[Option.getD_some]at this;unfold Lit at this;unfold I64;omega
 ·have:=h.outs x hx;unfold Lit at this;unfold I64;omega
structure EmptyOf (n:SNet)(r:SNet×List Int):Prop where
 inp:r.1.1=n.1
 sq:r.1.2.1.length=n.2.1.length
 ins:∀s∈r.1.2.1,s.2.2.length<=4/\∀x∈s.2.2,I64 x
 an:r.1.2.2.1=[]
 ot:r.1.2.2.2=[]
 to:(r.2.length:Int)=firstOf n
theorem empty_tot {n:SNet}(h:NOk n):Tot (spec_l10Empty n) (EmptyOf n):=by
 unfold spec_l10Empty;have hc:=caps_bd h.caps;have hsq:=h.sq;refine Tot.join (A:=fun v=>v=n.2.1) (Tot.bindEq (copySeqs_ok h.nb.sqb) (Tot.next rfl)) fun v hv=> ?_
 subst hv;refine Tot.lp (fun s=>(0<=s.1/\s.1<=firstOf n)/\(s.2.length:Int)=s.1) (fun s=>(firstOf n - s.1).toNat) ⟨⟨by simp only;omega,by simp only;omega⟩,by simp⟩ (fun s hs=> ?_);obtain⟨i,to⟩:=s;obtain⟨⟨i0,i1⟩,hl⟩:=hs;simp only at i0 i1 hl;refine Tot.bindEq (first_nok h) ?_
 dsimp only;refine Tot.dite (fun h1=> ?_) (fun h1=> ?_)
 ·refine Tot.app (by simp only[List.length_singleton];omega) (by omega) ?_
  rw[wrap_ok (z:=i+1) (by omega)];exact Tot.next ⟨⟨⟨by simp only;omega,by simp only;omega⟩,by simp only[List.length_append,List.length_singleton];omega⟩,by simp only;omega⟩
 refine Tot.exit ?_
 refine Tot.lp (fun s=>(0<=s.1/\s.1<=(n.2.1.length:Int))/\s.2.length=n.2.1.length/\∀q∈s.2,q.2.2.length<=4/\∀x∈q.2.2,I64 x) (fun s=>((n.2.1.length:Int) - s.1).toNat) ⟨⟨by simp only;omega,by simp only;omega⟩,rfl,fun q hq=>⟨(h.ins q hq).1,(h.nb.ins q hq).2⟩⟩ (fun s hs=> ?_);obtain⟨k,sq⟩:=s;obtain⟨⟨k0,k1⟩,hl2,hq⟩:=hs;simp only at k0 k1 hl2 hq;dsimp only;refine Tot.dite (fun h2=> ?_) (fun h2=> ?_)
 ·refine Tot.gin k0 h2 (Tot.get k0 h2 fun y hy hm=> ?_);have hym:=hq y hm;refine Tot.make (by omega) (by omega) (by omega) ?_
  refine Tot.gin k0 h2 (Tot.get k0 h2 fun y2 hy2 hm2=> ?_);rw[wrap_ok (z:=k+1) (by omega)];refine Tot.next ⟨⟨⟨by simp only;omega,by simp only;omega⟩,by simp only[gset_len];exact hl2,fun q hq2=> ?_⟩,by simp only;omega⟩;rcases gset_mem hq2 with hq2 | rfl
  ·exact hq q hq2
  ·refine⟨by simp only[List.length_replicate];omega,fun x hx=> ?_⟩;simp only at hx;rw[List.eq_of_mem_replicate hx];unfold I64;omega
 exact Tot.exit (Tot.ret ⟨rfl,hl2,hq,rfl,rfl,by simp only;omega⟩)
theorem map10_tot {to lits:List Int}(hl:lits.length<=1000)(h:∀x∈lits,0<=x/\x/2<(to.length:Int)/\x<=9223372036854775807):Tot (spec_l10Map (to,lits)) (fun r=>r.length=lits.length/\∀x∈r,I64 x):=by
 unfold spec_l10Map;dsimp only;refine Tot.lp (fun s=>(0<=s.1/\s.1<=(lits.length:Int))/\(s.2.length:Int)=s.1/\∀x∈s.2,I64 x) (fun s=>((lits.length:Int) - s.1).toNat) ⟨⟨by simp only;omega,by simp only;omega⟩,by simp,fun x hx=>by simp at hx⟩ (fun s hs=> ?_);obtain⟨i,r⟩:=s;obtain⟨⟨i0,i1⟩,hr,hx⟩:=hs;simp only at i0 i1 hr hx;dsimp only;refine Tot.dite (fun h1=> ?_) (fun h1=> ?_)
 ·refine Tot.get i0 h1 fun y hy hm=> ?_
  obtain⟨y0,y1,y2⟩:=h y hm;refine Tot.div2 y0 y2 ?_
  refine Tot.get (by omega) y1 fun z _ _=> ?_
  refine Tot.get i0 h1 fun w _ _=> ?_
  refine Tot.app (by simp only[List.length_singleton];omega) (by omega) ?_
  rw[wrap_ok (z:=i+1) (by omega)];refine Tot.next ⟨⟨⟨by simp only;omega,by simp only;omega⟩,by simp only[List.length_append,List.length_singleton];omega,fun x hx2=> ?_⟩,by simp only;omega⟩;rcases List.mem_append.1 hx2 with hx2 | hx2
  ·exact hx x hx2
  ·rw[List.mem_singleton.1 hx2];exact gxor_in _ _
 exact Tot.exit (Tot.ret ⟨by omega,hx⟩)
structure AddOf (n:SNet)(r:SNet×Int):Prop where
 inp:r.1.1=n.1
 sq:r.1.2.1=n.2.1
 ot:r.1.2.2.2=n.2.2.2
 an:r.1.2.2.1.length<=n.2.2.1.length+1
 ands:∀a∈r.1.2.2.1,I64 a.1/\I64 a.2
 lit:I64 r.2
theorem addAnd_tot {n:SNet}(h:NB n){a b:Int}(ha:I64 a)(hb:I64 b):Tot (spec_AddAnd (n,(a,b))) (AddOf n):=by
 unfold spec_AddAnd;dsimp only;have han:=h.an;have base:∀x,I64 x->AddOf n (n,x):=fun x hx=>⟨rfl,rfl,rfl,Nat.le_succ _,h.ands,hx⟩
 have lit:∀x,I64 x->Tot (some ((n,x):SNet×Int)) (AddOf n):=fun x hx=>Tot.ret (base x hx)
 have m1:I64 (-1):=by unfold I64;omega
 have z0:I64 0:=by unfold I64;omega
 refine Tot.bindEq (copy_ok h) ?_
 refine Tot.bindEq (nodeCount_ok n) ?_
 refine Tot.bind (netOk_tot h) fun ok hok=> ?_
 refine Tot.nite (fun _=>lit _ m1) (fun ho=> ?_);have hok:=hok ho;have hc:=caps_bd hok.caps;rw[if_pos hok.caps,lit_ok ha];refine Tot.bindEq rfl ?_
 refine Tot.ndite (fun _=>lit _ m1) (fun ha2=> ?_);rw[lit_ok hb];refine Tot.bindEq rfl ?_
 refine Tot.ndite (fun _=>lit _ m1) (fun hb2=> ?_);refine Tot.dite (fun _=>lit _ z0) (fun _=> ?_);refine Tot.dite (fun _=>lit _ z0) (fun _=> ?_);refine Tot.dite (fun _=>lit _ z0) (fun _=> ?_);refine Tot.dite (fun _=>lit _ hb) (fun _=> ?_);refine Tot.dite (fun _=>lit _ hb) (fun _=> ?_);refine Tot.dite (fun _=>lit _ ha) (fun _=> ?_);refine Tot.lp (fun i=>0<=i/\i<=(n.2.2.1.length:Int)) (fun i=>((n.2.2.1.length:Int) - i).toNat) ⟨by omega,by omega⟩ (fun i hi=> ?_);obtain⟨i0,i1⟩:=hi;refine Tot.dite (fun h1=> ?_) (fun h1=> ?_)
 ·refine Tot.get i0 h1 fun y _ _=> ?_
  refine Tot.ite (fun _=> ?_) (fun _=> ?_)
  ·refine Tot.bindEq (first_nok hok) ?_
   exact Tot.exit (lit _ (wrap_in _))
  ·rw[wrap_ok (z:=i+1) (by omega)];exact Tot.next ⟨⟨by omega,by omega⟩,by omega⟩
 refine Tot.exit ?_
 refine Tot.dite (fun _=>lit _ m1) (fun _=> ?_);refine Tot.app (by simp only[List.length_singleton];omega) (by omega) ?_
 refine Tot.ret ⟨rfl,rfl,rfl,by simp,fun q hq=> ?_,wrap_in _⟩;simp only at hq;rcases List.mem_append.1 hq with hq | hq
 ·exact h.ands q hq
 ·rw[List.mem_singleton.1 hq];refine⟨?_,?_⟩
  ·simp only;split;exact hb;exact ha
  ·simp only;split;exact hb;exact ha
end Go.Pf
/-
  Own work. Draws, plainly: cones, sweeping, hashing, drawn nets.
-/
namespace Go.Pf
open Go Go.Pu
set_option linter.unusedVariables false
def Low (m:Int)(xs:List Bool):Prop:=∀k:Nat,m<(k:Int)->xs.getD k false=false
theorem low_set {m:Int}{xs:List Bool}{i:Int}(h:Low m xs)(h0:0<=i)(hi:i<=m)(b:Bool):Low m (gset xs i b):=fun k hk=>by
 unfold gset;rw[List.getD,List.getElem?_set_ne (by omega)];exact h k hk
theorem and_at {n:SNet}(h:NOk n){i:Int}(h0:0<=i)(h1:i<(n.2.2.1.length:Int)):Lit (n.2.2.1.getD i.toNat (0,0)).1 (firstOf n+i)/\Lit (n.2.2.1.getD i.toNat (0,0)).2 (firstOf n+i):=by
 have:=h.ands i.toNat (by omega);have e:(i.toNat:Int)=i:=by omega
 rw[e]at this;exact this
theorem mark_tot {n:SNet}(h:NOk n){marks:List Bool}(hm:(marks.length:Int)=nodesOf n){m:Int}(hl:Low m marks):Tot (spec_l08Mark (n,marks)) (fun r=>(r.length:Int)=nodesOf n/\Low m r):=by
 unfold spec_l08Mark;dsimp only;have hc:=caps_bd h.caps;have han:=h.an;refine Tot.app (by simp only[List.length_nil];omega) (by omega) ?_
 rw[List.nil_append,wrap_ok (by omega)];refine Tot.lp (fun s=>(-1<=s.1/\s.1<(n.2.2.1.length:Int))/\(s.2.length:Int)=nodesOf n/\Low m s.2) (fun s=>(s.1+1).toNat) ⟨⟨by simp only;omega,by simp only;omega⟩,hm,hl⟩ (fun s hs=> ?_);obtain⟨i,r⟩:=s;obtain⟨⟨i0,i1⟩,hr,hlr⟩:=hs;simp only at i0 i1 hr hlr;dsimp only;refine Tot.dite (fun h1=> ?_) (fun h1=> ?_)
 ·refine Tot.bindEq (first_nok h) ?_
  rw[wrap_ok (z:=firstOf n+i) (by omega),wrap_ok (z:=i - 1) (by omega)];refine Tot.gin (by omega) (by omega) (Tot.get (by omega) (by omega) fun b hb _=> ?_);refine Tot.ite (fun hbt=> ?_) (fun _=> ?_)
  ·have hle:firstOf n+i<=m:=by
    by_cases c:m<firstOf n+i
    ·have:=hlr (firstOf n+i).toNat (by omega);rw[hb,this]at hbt;cases hbt
    ·omega
   refine Tot.get h1 i1 fun a ha _=> ?_
   have haa:=and_at h h1 i1;rw[<-ha]at haa;unfold Lit at haa;refine Tot.div2 (by omega) (by omega) ?_
   refine Tot.gin (by omega) (by omega) (Tot.get (by omega) (by omega) fun _ _ _=> ?_);refine Tot.get h1 i1 fun a2 ha2 _=> ?_
   have e:a2=a:=by rw[ha,ha2]
   subst e;refine Tot.div2 (by omega) (by omega) ?_
   refine Tot.gin (by omega) (by rw[gset_len];omega) (Tot.get (by omega) (by rw[gset_len];omega) fun _ _ _=> ?_);refine Tot.next ⟨⟨⟨by simp only;omega,by simp only;omega⟩,by simp only[gset_len];exact hr,low_set (low_set hlr (by omega) (by omega) _) (by omega) (by omega) _⟩,by simp only;omega⟩
  ·exact Tot.next ⟨⟨⟨by simp only;omega,by simp only;omega⟩,hr,hlr⟩,by simp only;omega⟩
 exact Tot.exit (Tot.ret ⟨hr,hlr⟩)
theorem reached_tot {n:SNet}(h:NOk n):Tot (spec_Reached n) (fun r=>r=[]\/(r.length:Int)=nodesOf n):=by
 unfold spec_Reached;have hc:=caps_bd h.caps;refine Tot.bind (netOk_tot h.nb) fun ok hok=> ?_
 dsimp only;refine Tot.nite (fun _=>Tot.ret (.inl rfl)) (fun _=> ?_);refine Tot.bindEq (nodeCount_nok h) ?_
 refine Tot.make (by omega) (by omega) (by omega) ?_
 refine Tot.bindEq (roots_ok h.nb) ?_
 have hrl:(rootsOf n).length<=1001000:=roots_len h.nb _;refine Tot.lp (fun s=>(0<=s.1/\s.1<=((rootsOf n).length:Int))/\(s.2.length:Int)=nodesOf n) (fun s=>(((rootsOf n).length:Int) - s.1).toNat) ⟨⟨by simp only;omega,by simp only;omega⟩,by simp only[List.length_replicate];omega⟩ (fun s hs=> ?_);obtain⟨i,r⟩:=s;obtain⟨⟨i0,i1⟩,hr⟩:=hs;simp only at i0 i1 hr;dsimp only;refine Tot.dite (fun h1=> ?_) (fun h1=> ?_)
 ·refine Tot.gin i0 h1 (Tot.get i0 h1 fun x _ hx=> ?_);have hlx:Lit x (nodesOf n):=by
   rcases roots_mem.1 hx with q | ⟨s,hs,q⟩
   ·exact h.outs x q
   ·exact(h.ins s hs).2 x q
  unfold Lit at hlx;refine Tot.div2 (by omega) (by omega) ?_
  refine Tot.gin (by omega) (by omega) (Tot.get (by omega) (by omega) fun _ _ _=> ?_);rw[wrap_ok (z:=i+1) (by omega)];exact Tot.next ⟨⟨⟨by simp only;omega,by simp only;omega⟩,by simp only[gset_len];exact hr⟩,by simp only;omega⟩
 refine Tot.exit ?_
 refine Tot.bind (mark_tot h hr (m:=1000000) (fun k hk=> ?_)) fun r hr=>Tot.ret (.inr hr.1)
 rw[List.getD,List.getElem?_eq_none (by omega)];rfl
theorem reached_nok {n:SNet}(h:NOk n)(hk:spec_NetOk n=some true):Tot (spec_Reached n) (fun r=>(r.length:Int)=nodesOf n):=by
 obtain⟨o,h1,h2⟩:=reached_tot h;refine⟨o,h1,?_⟩;rcases h2 with h2 | h2
 ·exfalso
  subst h2;unfold spec_Reached at h1;rw[hk]at h1;simp only[Option.bind_some,Bool.not_true,cond_false]at h1;rw[nodeCount_nok h]at h1;have hc:=caps_bd h.caps;have hrl:(rootsOf n).length<=1001000:=roots_len h.nb _;have key:Tot (spec_Reached n) (fun r=>(r.length:Int)=nodesOf n):=by
   unfold spec_Reached;refine Tot.bindEq hk ?_
   dsimp only;refine Tot.nite (fun e=>by cases e) (fun _=> ?_);refine Tot.bindEq (nodeCount_nok h) ?_
   refine Tot.make (by omega) (by omega) (by omega) ?_
   refine Tot.bindEq (roots_ok h.nb) ?_
   refine Tot.lp (fun s=>(0<=s.1/\s.1<=((rootsOf n).length:Int))/\(s.2.length:Int)=nodesOf n) (fun s=>(((rootsOf n).length:Int) - s.1).toNat) ⟨⟨by simp only;omega,by simp only;omega⟩,by simp only[List.length_replicate];omega⟩ (fun s hs=> ?_);obtain⟨i,r⟩:=s;obtain⟨⟨i0,i1⟩,hr⟩:=hs;simp only at i0 i1 hr;dsimp only;refine Tot.dite (fun h1=> ?_) (fun h1=> ?_)
   ·refine Tot.gin i0 h1 (Tot.get i0 h1 fun x _ hx=> ?_);have hlx:Lit x (nodesOf n):=by
     rcases roots_mem.1 hx with q | ⟨s,hs,q⟩
     ·exact h.outs x q
     ·exact(h.ins s hs).2 x q
    unfold Lit at hlx;refine Tot.div2 (by omega) (by omega) ?_
    refine Tot.gin (by omega) (by omega) (Tot.get (by omega) (by omega) fun _ _ _=> ?_);rw[wrap_ok (z:=i+1) (by omega)];exact Tot.next ⟨⟨⟨by simp only;omega,by simp only;omega⟩,by simp only[gset_len];exact hr⟩,by simp only;omega⟩
   refine Tot.exit ?_
   refine Tot.bind (mark_tot h hr (m:=1000000) (fun k hk=> ?_)) fun r hr=>Tot.ret hr.1
   rw[List.getD,List.getElem?_eq_none (by omega)];rfl
  obtain⟨o,k1,k2⟩:=key;unfold spec_Reached at k1;rw[hk]at k1;simp only[Option.bind_some,Bool.not_true,cond_false]at k1;rw[nodeCount_nok h]at k1;rw[h1]at k1;cases k1;simp only[List.length_nil]at k2;omega
 ·exact h2
theorem cone_tot {n:SNet}(h:NB n){v:Int}:Tot (spec_Cone (n,v)) (fun r=>r.length<=1000/\∀x∈r,0<=x/\x<=v/\NOk n/\v<nodesOf n):=by
 unfold spec_Cone;dsimp only;refine Tot.bind (netOk_tot h) fun ok hok=> ?_
 refine Tot.nite (fun _=>Tot.ret ⟨by simp,fun x hx=>(by cases hx)⟩) (fun ho=> ?_);have hn:=hok ho;have hc:=caps_bd hn.caps;refine Tot.dite (fun _=>Tot.ret ⟨by simp,fun x hx=>(by cases hx)⟩) (fun v0=> ?_);refine Tot.bindEq (nodeCount_nok hn) ?_
 refine Tot.dite (fun _=>Tot.ret ⟨by simp,fun x hx=>(by cases hx)⟩) (fun v1=> ?_);refine Tot.bindEq (nodeCount_nok hn) ?_
 refine Tot.make (by omega) (by omega) (by omega) ?_
 refine Tot.gin (by omega) (by rw[List.length_replicate];omega) (Tot.get (by omega) (by rw[List.length_replicate];omega) fun _ _ _=> ?_);refine Tot.bind (mark_tot hn (m:=v) (by rw[gset_len,List.length_replicate];omega) (low_set (fun k hk=> ?_) (by omega) (Int.le_refl _) _)) fun r hr=> ?_
 ·rw[List.getD];by_cases q:k<(nodesOf n).toNat
  ·rw[List.getElem?_replicate,if_pos q];rfl
  ·rw[List.getElem?_eq_none (by rw[List.length_replicate];omega)];rfl
 obtain⟨hr1,hr2⟩:=hr;refine Tot.lp (fun s=>(0<=s.1/\s.1<=(r.length:Int))/\(s.2.length:Int)<=s.1/\∀x∈s.2,0<=x/\x<=v) (fun s=>((r.length:Int) - s.1).toNat) ⟨⟨by simp only;omega,by simp only;omega⟩,by simp,fun x hx=>by simp at hx⟩ (fun s hs=> ?_);obtain⟨i,q⟩:=s;obtain⟨⟨i0,i1⟩,hq,hx⟩:=hs;simp only at i0 i1 hq hx;dsimp only;refine Tot.dite (fun h1=> ?_) (fun h1=> ?_)
 ·refine Tot.gin i0 h1 (Tot.get i0 h1 fun b hb _=> ?_);rw[wrap_ok (z:=i+1) (by omega)];refine Tot.ite (fun hbt=> ?_) (fun _=> ?_)
  ·refine Tot.app (by simp only[List.length_singleton];omega) (by omega) ?_
   refine Tot.next ⟨⟨⟨by simp only;omega,by simp only;omega⟩,by simp only[List.length_append,List.length_singleton];omega,fun x hx2=> ?_⟩,by simp only;omega⟩;rcases List.mem_append.1 hx2 with hx2 | hx2
   ·exact hx x hx2
   ·rw[List.mem_singleton.1 hx2];refine⟨i0,?_⟩;by_cases c:v<i
    ·have:=hr2 i.toNat (by omega);rw[hb,this]at hbt;cases hbt
    ·omega
  ·exact Tot.next ⟨⟨⟨by simp only;omega,by simp only;omega⟩,by simp only;omega,hx⟩,by simp only;omega⟩
 exact Tot.exit (Tot.ret ⟨by omega,fun x hx2=>⟨(hx x hx2).1,(hx x hx2).2,hn,by omega⟩⟩)
theorem nb_empty:NB (0,([],([],[]))):=⟨by simp,fun s hs=>(by cases hs),by simp,fun s hs=>(by cases hs),by simp,fun s hs=>(by cases hs)⟩
theorem lit_map {x m:Int}{L:Nat}(h:Lit x m)(hL:(L:Int)=m)(hm:m<=1000):0<=x/\x/2<(L:Int)/\x<=9223372036854775807:=by
 unfold Lit at h;omega
theorem sweep_tot {n:SNet}(h:NB n):Tot (spec_Sweep n) NB:=by
 unfold spec_Sweep;obtain⟨ok,hk,hok⟩:=netOk_tot h;refine Tot.bindEq hk ?_
 dsimp only;refine Tot.nite (fun _=>Tot.ret nb_empty) (fun ho=> ?_);subst ho;have hn:=hok rfl;have hc:=caps_bd hn.caps;have hsq:=hn.sq;have han:=hn.an;refine Tot.bind (reached_nok hn hk) fun keep hkeep=> ?_
 refine Tot.bind (empty_tot hn) fun r hr=> ?_
 obtain⟨⟨ri,rs,ra,ro⟩,to⟩:=r;obtain⟨q1,q2,q3,q4,q5,q6⟩:=hr;simp only at q1 q2 q3 q4 q5 q6;subst q1 q4 q5;refine Tot.bindEq (first_nok hn) ?_
 refine Tot.lp (fun s=>(0<=s.1/\s.1<=(n.2.2.1.length:Int))/\(s.2.1.length:Int)=firstOf n+s.1/\(s.2.2.2.length:Int)<=s.1/\(∀a∈s.2.2.2,I64 a.1/\I64 a.2)/\(0<=s.2.2.1/\s.2.2.1<=firstOf n+s.1)) (fun s=>((n.2.2.1.length:Int) - s.1).toNat) ⟨⟨by simp only;omega,by simp only;omega⟩,by simp only;omega,by simp,fun a ha=>by simp at ha,by simp only;omega,by simp only;omega⟩ (fun s hs=> ?_);obtain⟨i,to,nx,as⟩:=s;obtain⟨⟨i0,i1⟩,hto,has,haa,nx0,nx1⟩:=hs;simp only at i0 i1 hto has haa nx0 nx1;dsimp only;refine Tot.dite (fun h1=> ?_) (fun h1=> ?_)
 ·refine Tot.bindEq (first_nok hn) ?_
  rw[wrap_ok (z:=firstOf n+i) (by omega),wrap_ok (z:=i+1) (by omega)];refine Tot.gin (by omega) (by omega) (Tot.get (by omega) (by omega) fun b _ _=> ?_);refine Tot.nite (fun _=> ?_) (fun _=> ?_)
  ·refine Tot.app (by simp only[List.length_singleton];omega) (by omega) ?_
   exact Tot.next ⟨⟨⟨by simp only;omega,by simp only;omega⟩,by simp only[List.length_append,List.length_singleton];omega,by simp only;omega,haa,by simp only;omega,by simp only;omega⟩,by simp only;omega⟩
  ·refine Tot.get i0 h1 fun a ha _=> ?_
   refine Tot.get i0 h1 fun a2 ha2 _=> ?_
   have e:a2=a:=by rw[ha,ha2]
   subst e;have hl:=and_at hn i0 h1;rw[<-ha]at hl;refine Tot.bind (map10_tot (by simp) (fun x hx=> ?_)) fun v hv=> ?_
   ·simp only[List.mem_cons,List.not_mem_nil,or_false]at hx;rcases hx with rfl | rfl
    ·exact lit_map hl.1 hto (by omega)
    ·exact lit_map hl.2 hto (by omega)
   obtain⟨hv1,hv2⟩:=hv;simp only[List.length_cons,List.length_nil]at hv1;refine Tot.gin (by omega) (by omega) (Tot.get (by omega) (by omega) fun x _ hx=> ?_);refine Tot.gin (by omega) (by omega) (Tot.get (by omega) (by omega) fun y _ hy=> ?_);refine Tot.app (by simp only[List.length_singleton];omega) (by omega) ?_
   refine Tot.app (by simp only[List.length_singleton];omega) (by omega) ?_
   rw[wrap_ok (z:=nx+1) (by omega)];refine Tot.next ⟨⟨⟨by simp only;omega,by simp only;omega⟩,by simp only[List.length_append,List.length_singleton];omega,by simp only[List.length_append,List.length_singleton];omega,fun a ha2=> ?_,by simp only;omega,by simp only;omega⟩,by simp only;omega⟩;rcases List.mem_append.1 ha2 with ha2 | ha2
   ·exact haa a ha2
   ·rw[List.mem_singleton.1 ha2];exact⟨hv2 x hx,hv2 y hy⟩
 refine Tot.exit ?_
 have hto2:(to.length:Int)=nodesOf n:=by omega
 refine Tot.lp (fun s=>(0<=s.1/\s.1<=(n.2.1.length:Int))/\s.2.length=n.2.1.length/\∀q∈s.2,q.2.2.length<=4/\∀x∈q.2.2,I64 x) (fun s=>((n.2.1.length:Int) - s.1).toNat) ⟨⟨by simp only;omega,by simp only;omega⟩,q2,q3⟩ (fun s hs=> ?_);obtain⟨k,sq⟩:=s;obtain⟨⟨k0,k1⟩,hl2,hq⟩:=hs;simp only at k0 k1 hl2 hq;dsimp only;refine Tot.dite (fun h2=> ?_) (fun h2=> ?_)
 ·refine Tot.get k0 (by omega) fun y _ hm=> ?_
  refine Tot.bind (map10_tot (by have:=(hn.ins y hm).1;omega) (fun x hx=>lit_map ((hn.ins y hm).2 x hx) hto2 (by omega))) fun v hv=> ?_
  refine Tot.gin k0 h2 (Tot.get k0 h2 fun y2 _ _=> ?_);rw[wrap_ok (z:=k+1) (by omega)];refine Tot.next ⟨⟨⟨by simp only;omega,by simp only;omega⟩,by simp only[gset_len];exact hl2,fun q hq2=> ?_⟩,by simp only;omega⟩;rcases gset_mem hq2 with hq2 | rfl
  ·exact hq q hq2
  ·exact⟨by simp only;rw[hv.1];exact(hn.ins y hm).1,hv.2⟩
 refine Tot.exit ?_
 refine Tot.bind (map10_tot (by have:=hn.ot;omega) (fun x hx=>lit_map (hn.outs x hx) hto2 (by omega))) fun v hv=> ?_
 exact Tot.ret ⟨by simp only;omega,fun s hs=>⟨by have:=(hq s hs).1;omega,(hq s hs).2⟩,by simp only;omega,haa,by simp only;rw[hv.1];have:=hn.ot;omega,hv.2⟩
theorem finish_tot {o n:SNet}(ho:NB o)(hn:NOk n)(hsq:o.2.1.length=n.2.1.length){to:List Int}(hto:(to.length:Int)=nodesOf n):Tot (spec_l10Finish (o,(n,to))) (fun r=>NB r.1):=by
 unfold spec_l10Finish;dsimp only;have hc:=caps_bd hn.caps;have hs12:=hn.sq;refine Tot.lp (fun s=>(0<=s.1/\s.1<=(n.2.1.length:Int))/\s.2.length=n.2.1.length/\∀q∈s.2,q.2.2.length<=1000/\∀x∈q.2.2,I64 x) (fun s=>((n.2.1.length:Int) - s.1).toNat) ⟨⟨by simp only;omega,by simp only;omega⟩,hsq,ho.ins⟩ (fun s hs=> ?_);obtain⟨k,sq⟩:=s;obtain⟨⟨k0,k1⟩,hl2,hq⟩:=hs;simp only at k0 k1 hl2 hq;dsimp only;refine Tot.dite (fun h2=> ?_) (fun h2=> ?_)
 ·refine Tot.get k0 (by omega) fun y _ hm=> ?_
  refine Tot.bind (map10_tot (by have:=(hn.ins y hm).1;omega) (fun x hx=>lit_map ((hn.ins y hm).2 x hx) hto (by omega))) fun v hv=> ?_
  refine Tot.gin k0 h2 (Tot.get k0 h2 fun y2 _ _=> ?_);rw[wrap_ok (z:=k+1) (by omega)];refine Tot.next ⟨⟨⟨by simp only;omega,by simp only;omega⟩,by simp only[gset_len];exact hl2,fun q hq2=> ?_⟩,by simp only;omega⟩;rcases gset_mem hq2 with hq2 | rfl
  ·exact hq q hq2
  ·exact⟨by simp only;rw[hv.1];have:=(hn.ins y hm).1;omega,hv.2⟩
 refine Tot.exit ?_
 refine Tot.bind (map10_tot (by have:=hn.ot;omega) (fun x hx=>lit_map (hn.outs x hx) hto (by omega))) fun v hv=> ?_
 refine Tot.bind (sweep_tot (n:=(o.1,(sq,(o.2.2.1,v)))) ⟨by simp only;omega,hq,ho.an,ho.ands,by simp only;rw[hv.1];have:=hn.ot;omega,hv.2⟩) fun r hr=> ?_
 exact Tot.ret hr
theorem hash_tot {n:SNet}(h:NB n):Tot (spec_Hash n) NB:=by
 unfold spec_Hash;refine Tot.bind (netOk_tot h) fun ok hok=> ?_
 dsimp only;refine Tot.nite (fun _=>Tot.ret nb_empty) (fun ho=> ?_);have hn:=hok ho;have hc:=caps_bd hn.caps;have hsq:=hn.sq;have han:=hn.an;refine Tot.bind (empty_tot hn) fun r hr=> ?_
 obtain⟨⟨ri,rs,ra,ro⟩,to⟩:=r;obtain⟨q1,q2,q3,q4,q5,q6⟩:=hr;simp only at q1 q2 q3 q4 q5 q6;subst q1 q4 q5;refine Tot.lp (fun s=>(0<=s.1/\s.1<=(n.2.2.1.length:Int))/\s.2.1.length=n.2.1.length/\NB (s.2.2.2.2.2,(s.2.1,(s.2.2.1,s.2.2.2.1)))/\(s.2.2.1.length:Int)<=s.1/\(s.2.2.2.2.1.length:Int)=firstOf n+s.1) (fun s=>((n.2.2.1.length:Int) - s.1).toNat)
  ⟨⟨by simp only;omega,by simp only;omega⟩,q2,⟨by simp only;omega,fun s hs=>⟨by have:=(q3 s hs).1;omega,(q3 s hs).2⟩,by simp,fun a ha=>(by cases ha),by simp,fun a ha=>(by cases ha)⟩,by simp,by simp only;omega⟩ (fun s hs=> ?_)
 obtain⟨i,sq,as,os,to,inp⟩:=s;obtain⟨⟨i0,i1⟩,hl,hb,hal,htl⟩:=hs;simp only at i0 i1 hl hb hal htl;dsimp only;refine Tot.dite (fun h1=> ?_) (fun h1=> ?_)
 ·have hlit:=and_at hn i0 h1;refine Tot.get i0 h1 fun a ha _=> ?_
  rw[<-ha]at hlit;unfold Lit at hlit;refine Tot.div2 (by omega) (by omega) ?_
  refine Tot.gin (by omega) (by omega) (Tot.get (by omega) (by omega) fun x _ _=> ?_);refine Tot.get i0 h1 fun a2 _ _=> ?_
  refine Tot.get i0 h1 fun a3 ha3 _=> ?_
  have e:a3=a:=by rw[ha,ha3]
  subst e;refine Tot.div2 (by omega) (by omega) ?_
  refine Tot.gin (by omega) (by omega) (Tot.get (by omega) (by omega) fun y _ _=> ?_);refine Tot.get i0 h1 fun a4 _ _=> ?_
  refine Tot.bind (addAnd_tot hb (gxor_in _ _) (gxor_in _ _)) fun r hr=> ?_
  obtain⟨⟨mi,ms,ma,mo⟩,z⟩:=r;obtain⟨r1,r2,r3,r4,r5,r6⟩:=hr;simp only at r1 r2 r3 r4 r5 r6;subst r1 r2 r3;refine Tot.app (by simp only[List.length_singleton];omega) (by omega) ?_
  rw[wrap_ok (z:=i+1) (by omega)];refine Tot.next ⟨⟨⟨by simp only;omega,by simp only;omega⟩,hl,⟨hb.sq,hb.ins,by simp only;omega,r5,hb.ot,hb.outs⟩,by simp only;omega,by simp only[List.length_append,List.length_singleton];omega⟩,by simp only;omega⟩
 refine Tot.exit ?_
 refine Tot.bind (finish_tot hb hn hl (by omega)) fun r hr=>Tot.ret hr
end Go.Pf
/-
  Own work. The device's routing nodes, plainly.
-/
namespace Go.Pf
open Go Go.Pu
def stpX (d:Int×(Int×(Int×Int)))(t dir len:Int):Int:=t % d.1+(if dir=0 then len else if dir=2 then -len else 0)
def stpY (d:Int×(Int×(Int×Int)))(t dir len:Int):Int:=t/d.1+(if dir=1 then len else if dir=3 then -len else 0)
def stp (d:Int×(Int×(Int×Int)))(t dir len:Int):Int:=
 if(0<=stpX d t dir len/\stpX d t dir len<=d.1 - 1)/\(0<=stpY d t dir len/\stpY d t dir len<=d.2.1 - 1)then stpY d t dir len*d.1+stpX d t dir len else -1
theorem tile_xy {d:Int×(Int×(Int×Int))}{t:Int}(h:DOk d)(h0:0<=t)(h1:t<d.1*d.2.1):(0<=t % d.1/\t % d.1<d.1)/\(0<=t/d.1/\t/d.1<d.2.1)/\t=t/d.1*d.1+t % d.1:=by
 have hw:=h.1;refine⟨⟨Int.emod_nonneg _ (by omega),Int.emod_lt_of_pos _ (by omega)⟩,⟨Int.ediv_nonneg h0 (by omega),Int.ediv_lt_of_lt_mul (by omega) (by rw[Int.mul_comm];exact h1)⟩,?_⟩;have:=Int.emod_add_mul_ediv t d.1;rw[Int.mul_comm]at this;omega
theorem mul_small {a b:Int}(ha:0<=a/\a<=5)(hb:3<=b/\b<=6):0<=a*b/\a*b<=30:=by
 have:b=3\/b=4\/b=5\/b=6:=by omega
 rcases this with rfl | rfl | rfl | rfl<;>omega
theorem stp_fin {d:Int×(Int×(Int×Int))}(h:DOk d)(x y:Int):
 ((impl_inRange (x,(0,wrap .i64 (d.1 - 1)))).bind fun v5=>
 let v6:Bool:= !v5
 bif v6 then(
  some (-1))else
 let v7:Int:=wrap .i64 (d.2.1 - 1)
 (impl_inRange (y,(0,v7))).bind fun v8=>
 let v9:Bool:= !v8
 bif v9 then(
  some (-1))else
 let v10:Int:=wrap .i64 (y*d.1)
 let v11:Int:=wrap .i64 (v10+x)
 some v11)=some (if(0<=x/\x<=d.1 - 1)/\(0<=y/\y<=d.2.1 - 1)then y*d.1+x else -1):=by
 have hw:=h.1;have hh:=h.2.1
 rw[wrap_ok (by omega),inR_impl];simp only[Option.bind_some];rw[wrap_ok (z:=d.2.1 - 1) (by omega),inR_impl];simp only[Option.bind_some];by_cases q:0<=x/\x<=d.1 - 1
 ·by_cases q2:0<=y/\y<=d.2.1 - 1
  ·have hs:=mul_small (a:=y) (b:=d.1) (by omega) hw;rw[if_pos ⟨q,q2⟩,dt q,dt q2,wrap_ok (z:=y*d.1) (by omega),wrap_ok (by omega)];rfl
  ·rw[if_neg (fun e=>q2 e.2),dt q,df q2];rfl
 ·rw[if_neg (fun e=>q e.1),df q];rfl
theorem stp_impl {d:Int×(Int×(Int×Int))}{t dir len:Int}(h:DOk d)(h0:0<=t)(h1:t<d.1*d.2.1)(hd:0<=dir/\dir<=3)(hl:0<=len/\len<=6):impl_tileStep (d,(t,(dir,len)))=some (stp d t dir len):=by
 unfold impl_tileStep;have hw:=h.1;have hh:=h.2.1
 have hm:=mul_le36 h.1 h.2.1;obtain⟨⟨hx0,hx1⟩,⟨hy0,hy1⟩,_⟩:=tile_xy h h0 h1;dsimp only;rw[grem_nn h0 (by omega),gdiv_nn h0 (by omega) (by omega)];simp only[Option.bind_some];have fin:∀x y,x=stpX d t dir len->y=stpY d t dir len->joinO (some (Sum.inl (x,y))) (fun(v3:(Int×Int))=>
  let v4:Int:=wrap .i64 (d.1 - 1)
  (impl_inRange (v3.1,(0,v4))).bind fun v5=>
  let v6:Bool:= !v5
  bif v6 then(
   some (-1))else
  let v7:Int:=wrap .i64 (d.2.1 - 1)
  (impl_inRange (v3.2,(0,v7))).bind fun v8=>
  let v9:Bool:= !v8
  bif v9 then(
   some (-1))else
  let v10:Int:=wrap .i64 (v3.2*d.1)
  let v11:Int:=wrap .i64 (v10+v3.1)
  some v11)=some (stp d t dir len):=by
  intro x y hx hy;subst hx hy;exact stp_fin h _ _
 have hc:dir=0\/dir=1\/dir=2\/dir=3:=by omega
 rcases hc with rfl | rfl | rfl | rfl
 ·rw[dt rfl,cond_true,wrap_ok (by omega)];exact fin _ _ (by simp[stpX]) (by simp[stpY])
 ·rw[df (by omega),cond_false,dt rfl,cond_true,wrap_ok (by omega)];exact fin _ _ (by simp[stpX]) (by simp[stpY])
 ·rw[df (by omega),cond_false,df (by omega),cond_false,dt rfl,cond_true,wrap_ok (by omega)];exact fin _ _ (by simp[stpX];omega) (by simp[stpY])
 ·rw[df (by omega),cond_false,df (by omega),cond_false,df (by omega),cond_false,wrap_ok (by omega)];exact fin _ _ (by simp[stpX]) (by simp[stpY];omega)
theorem stp_spec {d:Int×(Int×(Int×Int))}{t dir len:Int}(h:DOk d)(h0:0<=t)(h1:t<d.1*d.2.1)(hd:0<=dir/\dir<=3)(hl:0<=len/\len<=6):spec_TileStep (d,(t,(dir,len)))=some (stp d t dir len):=by
 unfold spec_TileStep;have hw:=h.1;have hh:=h.2.1
 have hm:=mul_le36 h.1 h.2.1;obtain⟨⟨hx0,hx1⟩,⟨hy0,hy1⟩,_⟩:=tile_xy h h0 h1;have ht:tk d t=tkp d t:=by unfold tk;rw[if_pos ⟨h,h0,h1⟩]
 have ht0:=tkp_ge d t;simp only[tk_spec d t (by omega),Option.bind_some,ht,inR_spec];rw[df (by omega),cond_false,dt hd,dt hl,grem_nn h0 (by omega),gdiv_nn h0 (by omega) (by omega)];simp only[Option.bind_some,Bool.not_true,cond_false];have fin:∀x y,x=stpX d t dir len->y=stpY d t dir len->((spec_l01In (x,(0,wrap .i64 (d.1 - 1)))).bind fun v5=>
  let v6:Bool:= !v5
  bif v6 then(
   some (-1))else
  let v7:Int:=wrap .i64 (d.2.1 - 1)
  (spec_l01In (y,(0,v7))).bind fun v8=>
  let v9:Bool:= !v8
  bif v9 then(
   some (-1))else
  let v10:Int:=wrap .i64 (y*d.1)
  let v11:Int:=wrap .i64 (v10+x)
  some v11)=some (stp d t dir len):=by
  intro x y hx hy;subst hx hy;exact stp_fin h _ _
 simp only[inR_spec,Option.bind_some]at fin;have hc:dir=0\/dir=1\/dir=2\/dir=3:=by omega
 have ex:∃a b:Int,gget 0 [1,0,(-1),0] dir=some a/\gget 0 [0,1,0,(-1)] dir=some b/\gin 4 dir=some ()/\wrap .i64 (t % d.1+wrap .i64 (a*len))=stpX d t dir len/\wrap .i64 (t/d.1+wrap .i64 (b*len))=stpY d t dir len:=by
  rcases hc with rfl | rfl | rfl | rfl
  ·exact⟨1,0,rfl,rfl,rfl,by rw[wrap_ok (z:=1*len) (by omega),wrap_ok (by omega)];simp[stpX],by rw[wrap_ok (z:=0*len) (by omega),wrap_ok (by omega)];simp[stpY]⟩
  ·exact⟨0,1,rfl,rfl,rfl,by rw[wrap_ok (z:=0*len) (by omega),wrap_ok (by omega)];simp[stpX],by rw[wrap_ok (z:=1*len) (by omega),wrap_ok (by omega)];simp[stpY]⟩
  ·exact⟨-1,0,rfl,rfl,rfl,by rw[wrap_ok (z:= -1*len) (by omega),wrap_ok (by omega)];simp[stpX],by rw[wrap_ok (z:=0*len) (by omega),wrap_ok (by omega)];simp[stpY]⟩
  ·exact⟨0,-1,rfl,rfl,rfl,by rw[wrap_ok (z:=0*len) (by omega),wrap_ok (by omega)];simp[stpX],by rw[wrap_ok (z:= -1*len) (by omega),wrap_ok (by omega)];simp[stpY]⟩
 obtain⟨a,b,ea,eb,eg,ex,ey⟩:=ex;simp only[List.length_cons,List.length_nil,Nat.zero_add,Nat.reduceAdd,ea,eb,eg,Option.bind_some,ex,ey];exact fin _ _ rfl rfl
def nTile (d:Int×(Int×(Int×Int)))(n:Int):Int:=n/per d
def nPin (d:Int×(Int×(Int×Int)))(n:Int):Int:=n % per d
def wDir (d:Int×(Int×(Int×Int)))(n:Int):Int:=(nPin d n - 7)/d.2.2.1
def wTrk (d:Int×(Int×(Int×Int)))(n:Int):Int:=(nPin d n - 7) % d.2.2.1
theorem node_tp {d:Int×(Int×(Int×Int))}{n:Int}(h:DOk d)(h0:0<=n)(h1:n<nodesN d):(0<=nTile d n/\nTile d n<d.1*d.2.1)/\(0<=nPin d n/\nPin d n<per d)/\n=nTile d n*per d+nPin d n:=by
 have hp:=per_le h;unfold nTile nPin;refine⟨⟨Int.ediv_nonneg h0 (by omega),Int.ediv_lt_of_lt_mul (by omega) (by exact h1)⟩,⟨Int.emod_nonneg _ (by omega),Int.emod_lt_of_pos _ (by omega)⟩,?_⟩;have:=Int.emod_add_mul_ediv n (per d);rw[Int.mul_comm]at this;omega
theorem wire_dt {d:Int×(Int×(Int×Int))}{n:Int}(h:DOk d)(h0:0<=n)(h7:7<=nPin d n)(h1:n<nodesN d):(0<=wDir d n/\wDir d n<=3)/\(0<=wTrk d n/\wTrk d n<d.2.2.1)/\nPin d n=7+wDir d n*d.2.2.1+wTrk d n:=by
 have ht:=h.2.2.1;obtain⟨_,⟨hp0,hp1⟩,_⟩:=node_tp h h0 h1;unfold wDir wTrk;have e:(nPin d n - 7)/d.2.2.1<4:=Int.ediv_lt_of_lt_mul (by omega) (by unfold per at hp1;omega);refine⟨⟨Int.ediv_nonneg (by omega) (by omega),by omega⟩,⟨Int.emod_nonneg _ (by omega),Int.emod_lt_of_pos _ (by omega)⟩,?_⟩;have:=Int.emod_add_mul_ediv (nPin d n - 7) d.2.2.1;rw[Int.mul_comm]at this;omega
theorem nplace_impl {d:Int×(Int×(Int×Int))}{n:Int}(h:DOk d)(h0:0<=n)(h1:n<=9223372036854775807):impl_nodePlace (d,n)=some (nTile d n,nPin d n):=by
 have hp:=per_le h;unfold impl_nodePlace;simp only[per_impl h,Option.bind_some];rw[gdiv_nn h0 h1 (by omega),grem_nn h0 (by omega)];rfl
theorem wireLen_impl {k:Int}(h0:0<=k):impl_wireLength k=some (1+k % 2):=by
 unfold impl_wireLength;dsimp only;rw[grem_nn h0 (by omega)];simp only[Option.bind_some];rw[wrap_ok (by omega)]
theorem wireOf_impl {d:Int×(Int×(Int×Int))}{n:Int}(h:DOk d)(h0:0<=n)(h1:n<=9223372036854775807)(h7:7<=nPin d n):impl_wireOf (d,n)=some (nTile d n,(wDir d n,(wTrk d n,true))):=by
 have hp:=per_le h;have ht:=h.2.2.1;have:nPin d n<per d:=Int.emod_lt_of_pos _ (by omega);unfold impl_wireOf;simp only[nplace_impl h h0 h1,Option.bind_some];rw[wrap_ok (by omega),gdiv_nn (by omega) (by omega) (by omega),grem_nn (by omega) (by omega),dt h7];rfl
theorem l27Wire_spec {d:Int×(Int×(Int×Int))}{n:Int}(h:DOk d)(h0:0<=n)(h7:7<=nPin d n):spec_l27Wire (d,n)=some (wDir d n,wTrk d n):=by
 have hp:=per_le h;have ht:=h.2.2.1;have:nPin d n<per d:=Int.emod_lt_of_pos _ (by omega);unfold spec_l27Wire;simp only[per_spec h,Option.bind_some];rw[grem_nn h0 (by omega)];simp only[Option.bind_some];have e:n % per d=nPin d n:=rfl;rw[e,wrap_ok (by omega),gdiv_nn (by omega) (by omega) (by omega),grem_nn (by omega) (by omega)];rfl
def rnOkP (d:Int×(Int×(Int×Int)))(n:Int):Prop:=DOk d/\0<=n/\n<nodesN d/\
 (if nPin d n<5 then nPin d n<inP (tkp d (nTile d n))else if nPin d n<7 then nPin d n - 5<outP (tkp d (nTile d n))else 0<=stp d (nTile d n) (wDir d n) (1+wTrk d n % 2))
instance (d:Int×(Int×(Int×Int)))(n:Int):Decidable (rnOkP d n):=by unfold rnOkP;exact inferInstance
theorem rnOk_spec (d:Int×(Int×(Int×Int)))(n:Int):spec_RouteNodeOk (d,n)=some (decide (rnOkP d n)):=by
 unfold spec_RouteNodeOk;simp only[routeNodes_spec,Option.bind_some];by_cases h0:n<0
 ·rw[dt h0,cond_true,df (fun e=>by have:=e.2.1;omega)]
 rw[df h0,cond_false];by_cases h:DOk d
 ·rw[if_pos h];by_cases h1:nodesN d<=n
  ·rw[dt h1,cond_true,df (fun e=>by have:=e.2.2.1;omega)]
  have hn:=nodesN_le h;have hm:=mul_le36 h.1 h.2.1;have hp:=per_le h;obtain⟨⟨ht0,ht1⟩,⟨hp0,hp1⟩,_⟩:=node_tp h (n:=n) (by omega) (by omega);simp only[df h1,cond_false,per_spec h,Option.bind_some];rw[gdiv_nn (by omega) (by omega) (by omega),grem_nn (by omega) (by omega)];have e1:n/per d=nTile d n:=rfl;have e2:n % per d=nPin d n:=rfl;have e3:tk d (nTile d n)=tkp d (nTile d n):=by unfold tk;rw[if_pos ⟨h,ht0,ht1⟩]
  simp only[Option.bind_some,e1,e2,tk_spec d (nTile d n) (by omega),e3,inPins_spec,outPins_spec];by_cases q5:nPin d n<5
  ·rw[dt q5,cond_true]
   congr 1
   rw[decide_eq_decide];unfold rnOkP;rw[if_pos q5]
   exact⟨fun e=>⟨h,by omega,by omega,e⟩,fun e=>e.2.2.2⟩
  rw[df q5,cond_false];by_cases q7:nPin d n<7
  ·rw[dt q7,cond_true,wrap_ok (by omega)]
   congr 1
   rw[decide_eq_decide];unfold rnOkP;rw[if_neg q5,if_pos q7]
   exact⟨fun e=>⟨h,by omega,by omega,e⟩,fun e=>e.2.2.2⟩
  obtain⟨⟨hd0,hd1⟩,⟨hk0,hk1⟩,_⟩:=wire_dt h (n:=n) (by omega) (by omega) (by omega);have ht:=h.2.2.1;rw[df q7,cond_false,l27Wire_spec h (by omega) (by omega)];simp only[Option.bind_some];rw[grem_nn hk0 (by omega)];simp only[Option.bind_some];rw[wrap_ok (by omega),stp_spec h ht0 ht1 ⟨hd0,hd1⟩ (by omega)];simp only[Option.bind_some]
  congr 1
  rw[decide_eq_decide];unfold rnOkP;rw[if_neg q5,if_neg q7]
  exact⟨fun e=>⟨h,by omega,by omega,e⟩,fun e=>e.2.2.2⟩
 ·rw[if_neg h,dt (by omega),cond_true,df (fun e=>h e.1)]
theorem rnOk_impl (d:Int×(Int×(Int×Int)))(n:Int):impl_RouteNodeOk (d,n)=some (decide (rnOkP d n)):=by
 unfold impl_RouteNodeOk;simp only[devOk_impl,Option.bind_some];by_cases h:DOk d
 ·have hn:=nodesN_le h;have hm:=mul_le36 h.1 h.2.1;have hp:=per_le h;simp only[dt h,Bool.not_true,cond_false,routeNodes_impl h,Option.bind_some];rw[wrap_ok (by omega),inR_impl];simp only[Option.bind_some];by_cases h1:0<=n/\n<=nodesN d - 1
  ·obtain⟨⟨ht0,ht1⟩,⟨hp0,hp1⟩,_⟩:=node_tp h (n:=n) (by omega) (by omega);simp only[dt h1,Bool.not_true,cond_false,nplace_impl h h1.1 (by omega),Option.bind_some];rw[tileKind_impl d _ h ht0 (by omega)];simp only[Option.bind_some,inPins_impl,outPins_impl];by_cases q5:nPin d n<5
   ·rw[dt q5,cond_true]
    congr 1
    rw[decide_eq_decide];unfold rnOkP;rw[if_pos q5]
    exact⟨fun e=>⟨h,by omega,by omega,e⟩,fun e=>e.2.2.2⟩
   rw[df q5,cond_false];by_cases q7:nPin d n<7
   ·rw[dt q7,cond_true,wrap_ok (by omega)]
    congr 1
    rw[decide_eq_decide];unfold rnOkP;rw[if_neg q5,if_pos q7]
    exact⟨fun e=>⟨h,by omega,by omega,e⟩,fun e=>e.2.2.2⟩
   obtain⟨⟨hd0,hd1⟩,⟨hk0,hk1⟩,_⟩:=wire_dt h (n:=n) (by omega) (by omega) (by omega);have ht:=h.2.2.1;rw[df q7,cond_false,wireOf_impl h (by omega) (by omega) (by omega)];simp only[Option.bind_some];rw[wireLen_impl hk0];simp only[Option.bind_some];rw[stp_impl h ht0 ht1 ⟨hd0,hd1⟩ (by omega)];simp only[Option.bind_some]
   congr 1
   rw[decide_eq_decide];unfold rnOkP;rw[if_neg q5,if_neg q7]
   exact⟨fun e=>⟨h,by omega,by omega,e⟩,fun e=>e.2.2.2⟩
  ·rw[df h1];simp only[Bool.not_false,cond_true];rw[df (fun e=>h1 ⟨e.2.1,by have:=e.2.2.1;omega⟩)]
 ·rw[df h];simp only[Bool.not_false,cond_true];rw[df (fun e=>h e.1)]
def isWireP (d:Int×(Int×(Int×Int)))(n:Int):Prop:=rnOkP d n/\7<=nPin d n
instance (d:Int×(Int×(Int×Int)))(n:Int):Decidable (isWireP d n):=by unfold isWireP;exact inferInstance
end Go.Pf
/-
  Own work. Paths by predecessors: the program's and the reference's, plainly.
-/
namespace Go.Pf
open Go Go.Pu
noncomputable def revF (p:List Int)(v:Int×List Int):Option ((Int×List Int)⊕List Int):=
 let v14:Bool:=decide (0<=v.1)
 bif v14 then(
  (gin (p).length v.1).bind fun _=>
  (gget 0 p v.1).bind fun v16=>
  let v17:List Int:=[v16]
  (gapp 8 v.2 v17).bind fun v18=>
  let v19:Int:=wrap .i64 (v.1 - 1)
  some (.inl (v19,v18)))else
 Option.map Sum.inr (
  some v.2)
theorem rev_ok (p:List Int):∀(n:Nat) (acc:List Int),n<=p.length->p.length<=2097152->acc.length+n<=4194304->loop (revF p) ((n:Int) - 1,acc)=some (acc++(p.take n).reverse)
 | 0,acc,_,_,_=>by
  rw[loop_eq];simp[revF]
 | n+1,acc,hn,hp,ha=>by
  rw[loop_eq];have e1:decide ((0:Int)<=((n+1:Nat):Int) - 1)=true:=decide_eq_true (by omega);have hi:((n+1:Nat):Int) - 1=(n:Int):=by omega
  simp only[revF,e1,cond_true];rw[hi,gin_some (by omega) (by omega),gget_some (by omega) (by omega)];simp only[Option.bind_some];rw[gapp_some (by simp;omega) (by simp;omega)];simp only[Option.bind_some];rw[wrap_id (by omega) (by omega)];rw[rev_ok p n _ (by omega) hp (by simp;omega)];have hlt:n<p.length:=by omega
  have:p.take (n+1)=p.take n++[p[n]]:=by rw[List.take_append_getElem hlt]
  rw[this,List.reverse_append];simp[List.getD,hlt]
end Go.Pf
/-
  Own work. The law of paths, plainly: it says true.
-/
namespace Go.Pf
open Go Go.Pu
end Go.Pf
/-
  Own work. Wires: what they reach, and how many a route has; helpers of the laws.
-/
namespace Go.Pf
open Go Go.Pu
theorem gapp_ok {xs ys:List Int}(h:xs.length+ys.length<=10000000000):gapp 8 xs ys=some (xs++ys):=gapp_some (by omega) (by omega)
def reach (d:Int×(Int×(Int×Int)))(n:Int)(k:Nat):List Int:=(List.range k).map fun(j:Nat)=>stp d (nTile d n) (wDir d n) ((j:Int)+1)
def reaches (d:Int×(Int×(Int×Int)))(n:Int):List Int:=if isWireP d n then reach d n (1+wTrk d n % 2).toNat else []
end Go.Pf
/-
  Own work. The laws' helpers for lists: sizes, copies, comparisons.
-/
namespace Go.Pf
open Go Go.Pu
set_option linter.unusedVariables false
abbrev Dev:=Int×(Int×(Int×Int))
abbrev Pin:=Int×Int
abbrev Conn:=Int×(Pin×List Pin)
def CnOk (c:Conn):Prop:=c.2.2.length<=1048576
def CnsOk (xs:List Conn):Prop:=xs.length<=1048576/\∀x∈xs,CnOk x
end Go.Pf
/-
  Own work. Placements, plainly.
-/
namespace Go.Pf
open Go Go.Pu
def bt (k:Int):Int:=if k=0 then 0 else if k=1 then 0 else if k=2 then 2 else if k=3 then 1 else -1
theorem bt_spec (k:Int):spec_BlockTile k=some (bt k):=by
 unfold spec_BlockTile bt;by_cases h0:k=0
 ·simp[h0]
 ·by_cases h1:k=1
  ·simp[h1]
  ·by_cases h2:k=2
   ·simp[h2]
   ·by_cases h3:k=3
    ·simp[h3]
    ·simp[h0,h1,h2,h3]
theorem bt_impl (k:Int):impl_BlockTile k=some (bt k):=bt_spec k
theorem has_impl (xs:List Int)(x:Int)(h:xs.length<=4611686018427387904):impl_hasInt (xs,x)=some (decide (x∈xs)):=by
 unfold impl_hasInt;dsimp only;have e:=loop_all (f:=fun(v2:Int)=>
  let v3:Bool:=decide (v2<(xs.length:Int))
  bif v3 then(
   (gget 0 xs v2).bind fun v4=>
   let v5:Bool:=decide (v4=x)
   bif v5 then(
    Option.map Sum.inr (
     some true))else
   let v6:Int:=wrap .i64 (v2+1)
   some (.inl v6))else
  Option.map Sum.inr (
   some false)) xs.length (fun k=>(k:Int)) (fun k=>if hk:k<xs.length then decide (xs[k]≠x)else true) true false (fun k hk hok=>by
   rw[dif_pos hk]at hok;have hne:=of_decide_eq_true hok;dsimp only;rw[dt (by omega),cond_true,gget_nat hk];simp only[Option.bind_some];rw[df hne,cond_false,wrap_ok (by omega)];rfl) (fun k hk hok=>by
   rw[dif_pos hk]at hok;have he:=of_decide_eq_false hok;dsimp only;rw[dt (by omega),cond_true,gget_nat hk];simp only[Option.bind_some];rw[dt (by simpa using he),cond_true];rfl) (by
   dsimp only;rw[df (by omega),cond_false];rfl)
 rw[all_range_list xs (fun y=>decide (y≠x)) _ (fun k hk=>by rw[dif_pos hk])]at e;refine Eq.trans e ?_
 congr 1
 by_cases hm:x∈xs
 ·rw[dt hm,if_neg];intro ha;rw[List.all_eq_true]at ha;exact of_decide_eq_true (ha x hm) rfl
 ·rw[df hm,if_pos];rw[List.all_eq_true];intro y hy;exact decide_eq_true (fun e=>hm (e▸hy))
theorem has_spec (xs:List Int)(x:Int)(h:xs.length<=4611686018427387904):spec_l13Has (xs,x)=some (decide (x∈xs)):=has_impl xs x h
def plOk (d:Int×(Int×(Int×Int)))(bs ps:List Int)(k:Nat):Bool:=
 if h:k<bs.length/\k<ps.length then decide (0<=tk d (ps[k]'h.2)/\tk d (ps[k]'h.2)=bt (bs[k]'h.1)/\ps[k]'h.2∉ps.take k)else true
def placeP (d:Int×(Int×(Int×Int)))(bs ps:List Int):Bool:=decide (DOk d/\bs.length<=64/\ps.length=bs.length) && (List.range bs.length).all (plOk d bs ps)
def seenA (N:Nat)(xs:List Int):List Bool:=(List.range N).map fun(t:Nat)=>decide ((t:Int)∈xs)
theorem seenA_get (N:Nat)(xs:List Int)(t:Nat)(h:t<N):gget false (seenA N xs) (t:Int)=some (decide ((t:Int)∈xs)):=by
 unfold seenA;rw[gget_nat (by simpa using h)];simp
theorem seenA_len (N:Nat)(xs:List Int):(seenA N xs).length=N:=by simp[seenA]
theorem seenA_set (N:Nat)(xs:List Int)(t:Nat)(_h:t<N):gset (seenA N xs) (t:Int) true=seenA N (xs++[(t:Int)]):=by
 rw[gset_nat];apply List.ext_getElem?;intro j;by_cases hj:j<N
 ·by_cases he:t=j
  ·subst he;rw[List.getElem?_set_self (by rw[seenA_len];exact hj)];simp[seenA,hj]
  ·rw[List.getElem?_set_ne he];simp only[seenA,List.getElem?_map,List.getElem?_range hj,Option.map_some,List.mem_append,List.mem_singleton]
   congr 1
   rw[decide_eq_decide]
   constructor
   ·exact fun q=>Or.inl q
   ·rintro(q | q)
    ·exact q
    ·omega
 ·rw[List.getElem?_eq_none (by rw[List.length_set,seenA_len];omega),List.getElem?_eq_none (by rw[seenA_len];omega)]
theorem seenA_nil (N:Nat):List.replicate N false=seenA N []:=by
 apply List.ext_getElem?;intro j;by_cases hj:j<N
 ·simp[seenA,hj]
 ·rw[List.getElem?_eq_none (by simp;omega),List.getElem?_eq_none (by rw[seenA_len];omega)]
theorem gslice_pre {xs:List Int}{k:Nat}(h:k<=xs.length):gslice xs 0 (k:Int)=some (xs.take k):=by
 unfold gslice;rw[if_pos (by omega)];simp
theorem place_impl (d:Int×(Int×(Int×Int)))(bs ps:List Int)(hp:∀p∈ps,p<=9223372036854775807):impl_PlaceOk (d,(bs,ps))=some (placeP d bs ps):=by
 unfold impl_PlaceOk placeP;simp only[devOk_impl,Option.bind_some];by_cases h:DOk d
 ·rw[dt h];simp only[Bool.not_true,cond_false];by_cases h2:bs.length<=64
  ·rw[df (by omega),cond_false];by_cases h3:ps.length=bs.length
   ·rw[df (by omega),cond_false,dt ⟨h,h2,h3⟩,Bool.true_and];have e:=loop_all (f:=fun(v9:Int)=>
  let v10:Bool:=decide (v9<(ps.length:Int))
  bif v10 then(
   (gget 0 ps v9).bind fun v11=>
   (gget 0 bs v9).bind fun v12=>
   (impl_BlockTile v12).bind fun v13=>
   let v14:Bool:=decide (v13<0)
   bif v14 then(
    Option.map Sum.inr (
     some false))else
   (impl_TileKind (d,v11)).bind fun v15=>
   let v16:Bool:=decide (v15≠v13)
   bif v16 then(
    Option.map Sum.inr (
     some false))else
   (gslice ps 0 v9).bind fun v17=>
   (impl_hasInt (v17,v11)).bind fun v18=>
   bif v18 then(
    Option.map Sum.inr (
     some false))else
   let v19:Int:=wrap .i64 (v9+1)
   some (.inl v19))else
  Option.map Sum.inr (
   some true)) bs.length (fun k:Nat=>(k:Int)) (plOk d bs ps) false true (fun k hk hok=>by
    have hkp:k<ps.length:=by omega
    unfold plOk at hok;rw[dif_pos ⟨hk,hkp⟩]at hok;obtain⟨q1,q2,q3⟩:=of_decide_eq_true hok;dsimp only;rw[dt (by omega),cond_true,gget_nat hkp,gget_nat hk];simp only[Option.bind_some];rw[tk_impl d _ (hp _ (List.getElem_mem hkp)),bt_impl,gslice_pre (by omega)];simp only[Option.bind_some];rw[df (by omega),cond_false,df (by omega),cond_false,has_impl _ _ (by rw[List.length_take];omega),df q3];simp only[Option.bind_some,cond_false];rw[wrap_ok (by omega)];rfl) (fun k hk hok=>by
    have hkp:k<ps.length:=by omega
    unfold plOk at hok;rw[dif_pos ⟨hk,hkp⟩]at hok;have q:=of_decide_eq_false hok;dsimp only;rw[dt (by omega),cond_true,gget_nat hkp,gget_nat hk];simp only[Option.bind_some];rw[tk_impl d _ (hp _ (List.getElem_mem hkp)),bt_impl,gslice_pre (by omega)];simp only[Option.bind_some];by_cases q1:bt bs[k]<0
    ·rw[dt q1,cond_true];rfl
    rw[df q1,cond_false];by_cases q2:tk d ps[k]=bt bs[k]
    ·have q3:ps[k]∈ps.take k:=by
      refine Decidable.byContradiction (fun c=>q ⟨by omega,q2,c⟩)
     rw[df (by omega),cond_false,has_impl _ _ (by rw[List.length_take];omega),dt q3];rfl
    ·rw[dt q2,cond_true];rfl) (by
    dsimp only;rw[df (by omega),cond_false];rfl)
    refine Eq.trans e ?_
    cases (List.range bs.length).all (plOk d bs ps)<;>rfl
   ·rw[dt (by omega),cond_true,df (fun e=>h3 e.2.2)];rfl
  ·rw[dt (by omega),cond_true,df (fun e=>h2 e.2.1)];rfl
 ·rw[df h];simp only[Bool.not_false,cond_true];rw[df (fun e=>h e.1)];rfl
end Go.Pf
/-
  Own work. Routes' use of nodes, plainly.
-/
namespace Go.Pf
open Go Go.Pu
set_option linter.unusedVariables false
abbrev Rt:=List Int×List Int
def RtOk (r:Rt):Prop:=r.1.length<=1048576/\r.2.length<=1048576
def RtB (b:Int)(r:Rt):Prop:=(r.1.length:Int)+(r.2.length:Int)<=b
def RtsOk (rs:List Rt):Prop:=rs.length<=1048576/\∀r∈rs,RtOk r
def RtsB (rs:List Rt):Prop:=rs.length<=1048576/\∀r∈rs,RtB (1048576 - rs.length) r
theorem RtsB.ok {rs:List Rt}(h:RtsB rs):RtsOk rs:=⟨h.1,fun r hr=>by
 have:=h.2 r hr;unfold RtB at this;exact⟨by omega,by omega⟩⟩
theorem mget_mset (m:List (Int×Bool))(k:Int)(b:Bool)(x:Int):mget (mset m k b) x=if x=k then b else mget m x:=by
 induction m with
 | nil=>
  unfold mset mget;by_cases h:x=k
  ·subst h;simp
  ·rw[if_neg h];have:(k==x)=false:=by simp;omega
   simp[this]
 | cons e m ih=>
  unfold mset;by_cases hk:k=e.1
  ·rw[if_pos (by simpa using hk)];by_cases h:x=k
   ·subst h;simp[mget]
   ·rw[if_neg h];have h1:(k==x)=false:=by simp;omega
    have h2:(e.1==x)=false:=by simp;omega
    simp[mget,h1,h2]
  ·rw[if_neg (by simpa using hk)];by_cases he:e.1=x
   ·rw[if_neg (by omega)];have h2:(e.1==x)=true:=by simp;exact he
    simp[mget,h2]
   ·have h2:(e.1==x)=false:=by simp;exact he
    have e1:mget (e::mset m k b) x=mget (mset m k b) x:=by simp[mget,h2]
    have e2:mget (e::m) x=mget m x:=by simp[mget,h2]
    rw[e1,e2];exact ih
def nsAt (ns:List Int)(j:Nat):Int:=ns.getD j 0
def inN (N:Nat)(x:Int):Prop:=0<=x/\x<(N:Int)
instance (N:Nat)(x:Int):Decidable (inN N x):=by unfold inN;exact inferInstance
def cnT (N:Nat)(ns:List Int)(c0:List Int):Nat->List Int
 | 0=>c0
 | j+1=>if inN N (nsAt ns j)/\nsAt ns j∉ns.take j then gset (cnT N ns c0 j) (nsAt ns j) (wrap .i64 ((cnT N ns c0 j).getD (nsAt ns j).toNat 0+1))else cnT N ns c0 j
theorem cnT_len (N:Nat)(ns:List Int)(c0:List Int)(j:Nat):(cnT N ns c0 j).length=c0.length:=by
 induction j with
 | zero=>rfl
 | succ j ih=>
  unfold cnT;split
  ·unfold gset;rw[List.length_set];exact ih
  ·exact ih
def mpT (N:Nat)(ns:List Int):Nat->List (Int×Bool)
 | 0=>[]
 | j+1=>if inN N (nsAt ns j)/\nsAt ns j∉ns.take j then mset (mpT N ns j) (nsAt ns j) true else mpT N ns j
theorem take_at {ns:List Int}{j:Nat}(h:j<ns.length):ns.take (j+1)=ns.take j++[nsAt ns j]:=by
 rw[take_succ' ns j h];unfold nsAt;rw[List.getD,List.getElem?_eq_getElem h];rfl
theorem mpT_get (N:Nat)(ns:List Int)(x:Int)(j:Nat):j<=ns.length->mget (mpT N ns j) x=decide (inN N x/\x∈ns.take j):=by
 induction j with
 | zero=>intro _;simp[mpT,mget]
 | succ j ih=>
  intro hj;have ih:=ih (by omega);rw[take_at (by omega)];unfold mpT;by_cases q:inN N (nsAt ns j)/\nsAt ns j∉ns.take j
  ·rw[if_pos q,mget_mset,ih];by_cases hx:x=nsAt ns j
   ·rw[if_pos hx];subst hx;rw[dt ⟨q.1,by simp⟩]
   ·rw[if_neg hx,decide_eq_decide];simp[hx]
  ·rw[if_neg q,ih,decide_eq_decide]
   constructor
   ·exact fun e=>⟨e.1,by simp[e.2]⟩
   ·rintro⟨e1,e2⟩
    refine⟨e1,?_⟩;rcases List.mem_append.1 e2 with e3 | e3
    ·exact e3
    ·have hx:=List.mem_singleton.1 e3;subst hx;exact Decidable.byContradiction fun c=>q ⟨e1,c⟩
theorem seenA_out (N:Nat)(xs:List Int)(x:Int)(h:¬(inN N x/\x∉xs)):seenA N (xs++[x])=seenA N xs:=by
 unfold seenA;apply List.map_congr_left;intro t ht;have ht:=List.mem_range.1 ht;rw[decide_eq_decide]
 constructor
 ·intro e;rcases List.mem_append.1 e with e3 | e3
  ·exact e3
  ·have hx:=List.mem_singleton.1 e3;exact Decidable.byContradiction fun c=>h ⟨⟨by omega,by omega⟩,by rw[<-hx];exact c⟩
 ·exact fun e=>List.mem_append_left _ e
def ldT (N:Nat)(rs:List Rt)(skip:Int):Nat->List Int
 | 0=>List.replicate N 0
 | k+1=>if(k:Int)=skip then ldT N rs skip k else cnT N (rs.getD k ([],[])).1 (ldT N rs skip k) (rs.getD k ([],[])).1.length
theorem ldT_len (N:Nat)(rs:List Rt)(skip:Int)(k:Nat):(ldT N rs skip k).length=N:=by
 induction k with
 | zero=>simp[ldT]
 | succ k ih=>unfold ldT;split;exact ih;rw[cnT_len];exact ih
theorem rs_at {rs:List Rt}{k:Nat}(h:k<rs.length):rs.getD k ([],[])=rs[k]:=by rw[List.getD,List.getElem?_eq_getElem h];rfl
theorem ns_at {ns:List Int}{j:Nat}(h:j<ns.length):ns[j]=nsAt ns j:=by unfold nsAt;rw[List.getD,List.getElem?_eq_getElem h];rfl
theorem load_spec (N:Nat)(rs:List Rt)(skip:Int)(hN:N<=1048576)(h:RtsOk rs):spec_l34Load ((N:Int),(rs,skip))=some (ldT N rs skip rs.length):=by
 obtain⟨hl,hr⟩:=h;unfold spec_l34Load;dsimp only;rw[gmake_nat (by omega) (by omega)];simp only[Option.bind_some];refine loop_upto rs.length (fun k=>((k:Int),ldT N rs skip k)) (fun k hk=> ?_) ?_
 ·dsimp only;rw[dt (by omega),cond_true];by_cases q:(k:Int)=skip
  ·rw[dt q,cond_true,wrap_ok (by omega)];have e:ldT N rs skip (k+1)=ldT N rs skip k:=by show(if _ then _ else _)=_;rw[if_pos q]
   rw[e];rfl
  rw[df q,cond_false,gmake_nat (by omega) (by omega)];simp only[Option.bind_some];have e:ldT N rs skip (k+1)=cnT N (rs[k]).1 (ldT N rs skip k) (rs[k]).1.length:=by
   show(if _ then _ else _)=_;rw[if_neg q,rs_at hk]
  rw[e];have hrk:=(hr _ (List.getElem_mem hk)).1;generalize hns:(rs[k]).1=ns at*;have hc:=ldT_len N rs skip k;generalize ldT N rs skip k=c0 at*;have e0:((0:Int),(c0,List.replicate N false))=(fun j:Nat=>((j:Int),(cnT N ns c0 j,seenA N (ns.take j)))) 0:=by
   simp only[List.take_zero];rw[seenA_nil];rfl
  rw[e0];refine loop_upto ns.length (fun j=>((j:Int),(cnT N ns c0 j,seenA N (ns.take j)))) (fun j hj=> ?_) ?_
  ·have hcl:=cnT_len N ns c0 j;dsimp only;rw[gget_nat hk];simp only[Option.bind_some];rw[hns,dt (by omega),cond_true,gget_nat hj,ns_at hj,take_at hj,wrap_ok (z:=(j:Int)+1) (by omega)];simp only[Option.bind_some];by_cases q1:inN N (nsAt ns j)/\nsAt ns j∉ns.take j
   ·obtain⟨⟨x0,x1⟩,q2⟩:=q1;have e2:cnT N ns c0 (j+1)=gset (cnT N ns c0 j) (nsAt ns j) (wrap .i64 ((cnT N ns c0 j).getD (nsAt ns j).toNat 0+1)):=by
     show(if _ then _ else _)=_;rw[if_pos ⟨⟨x0,x1⟩,q2⟩]
    rw[e2];obtain⟨t,ht⟩:∃t:Nat,nsAt ns j=(t:Int):=⟨(nsAt ns j).toNat,by omega⟩;rw[ht]at q2 x0 x1 ⊢;rw[dt x0,cond_true,dt x1,cond_true,seenA_len,gin_nat (by omega),seenA_get _ _ _ (by omega),df q2];simp only[Option.bind_some,Bool.not_false,cond_true];rw[gin_nat (by omega),gget_some (by omega) (by omega),seenA_set _ _ _ (by omega)];rfl
   ·have e2:cnT N ns c0 (j+1)=cnT N ns c0 j:=by
     show(if _ then _ else _)=_;rw[if_neg q1]
    rw[e2,seenA_out _ _ _ q1];by_cases x0:0<=nsAt ns j
    ·by_cases x1:nsAt ns j<(N:Int)
     ·have q2:nsAt ns j∈ns.take j:=Decidable.byContradiction fun c=>q1 ⟨⟨x0,x1⟩,c⟩
      rw[dt x0,cond_true,dt x1,cond_true];obtain⟨t,ht⟩:∃t:Nat,nsAt ns j=(t:Int):=⟨(nsAt ns j).toNat,by omega⟩;rw[ht]at q2 x1 ⊢;rw[seenA_len,gin_nat (by omega),seenA_get _ _ _ (by omega),dt q2];rfl
     ·rw[dt x0,cond_true,df x1];rfl
    ·rw[df x0];rfl
  ·dsimp only;rw[gget_nat hk];simp only[Option.bind_some];rw[hns,df (by omega),cond_false,wrap_ok (by omega)];rfl
 ·dsimp only;rw[df (by omega),cond_false];rfl
theorem usage_impl (N:Nat)(rs:List Rt)(hN:N<=1048576)(h:RtsOk rs):impl_usage ((N:Int),rs)=some (ldT N rs (-1) rs.length):=by
 obtain⟨hl,hr⟩:=h;unfold impl_usage;dsimp only;rw[gmake_nat (by omega) (by omega)];simp only[Option.bind_some];refine loop_upto rs.length (fun k=>((k:Int),ldT N rs (-1) k)) (fun k hk=> ?_) ?_
 ·dsimp only;rw[dt (by omega),cond_true,gget_nat hk];simp only[Option.bind_some];have e:ldT N rs (-1) (k+1)=cnT N (rs[k]).1 (ldT N rs (-1) k) (rs[k]).1.length:=by
   show(if _ then _ else _)=_;rw[if_neg (by omega),rs_at hk]
  rw[e];have hrk:=(hr _ (List.getElem_mem hk)).1;generalize hns:(rs[k]).1=ns at*;have hc:=ldT_len N rs (-1) k;generalize ldT N rs (-1) k=c0 at*;refine loop_upto ns.length (fun j=>((j:Int),(cnT N ns c0 j,mpT N ns j))) (fun j hj=> ?_) ?_
  ·have hcl:=cnT_len N ns c0 j;dsimp only;rw[dt (by omega),cond_true,gget_nat hj,ns_at hj,wrap_ok (z:=(j:Int)+1) (by omega),wrap_ok (z:=(N:Int) - 1) (by omega)];simp only[Option.bind_some];rw[inR_impl,mpT_get N ns _ j (by omega)];simp only[Option.bind_some];by_cases q1:inN N (nsAt ns j)/\nsAt ns j∉ns.take j
   ·have e2:cnT N ns c0 (j+1)=gset (cnT N ns c0 j) (nsAt ns j) (wrap .i64 ((cnT N ns c0 j).getD (nsAt ns j).toNat 0+1)):=by
     show(if _ then _ else _)=_;rw[if_pos q1]
    have e3:mpT N ns (j+1)=mset (mpT N ns j) (nsAt ns j) true:=by
     show(if _ then _ else _)=_;rw[if_pos q1]
    rw[e2,e3];obtain⟨⟨x0,x1⟩,q2⟩:=q1;rw[dt (show 0<=nsAt ns j/\nsAt ns j<=(N:Int) - 1 by omega),df (show ¬(inN N (nsAt ns j)/\nsAt ns j∈ns.take j)from fun e=>q2 e.2)];simp only[Bool.not_false,cond_true];rw[gin_some x0 (by omega),gget_some x0 (by omega)];rfl
   ·have e2:cnT N ns c0 (j+1)=cnT N ns c0 j:=by
     show(if _ then _ else _)=_;rw[if_neg q1]
    have e3:mpT N ns (j+1)=mpT N ns j:=by
     show(if _ then _ else _)=_;rw[if_neg q1]
    rw[e2,e3];by_cases x0:inN N (nsAt ns j)
    ·have q2:nsAt ns j∈ns.take j:=Decidable.byContradiction fun c=>q1 ⟨x0,c⟩
     rw[dt (show 0<=nsAt ns j/\nsAt ns j<=(N:Int) - 1 by unfold inN at x0;omega),dt (show inN N (nsAt ns j)/\nsAt ns j∈ns.take j from⟨x0,q2⟩)];rfl
    ·rw[df (show ¬(0<=nsAt ns j/\nsAt ns j<=(N:Int) - 1)by unfold inN at x0;omega)];rfl
  ·dsimp only;rw[df (by omega),cond_false,wrap_ok (by omega)];rfl
 ·dsimp only;rw[df (by omega),cond_false];rfl
end Go.Pf
/-
  Own work. Networks of look-up tables: the laws' helpers (sizes, copies, comparisons, marks).
-/
namespace Go.Pf
open Go Go.Pu
set_option linter.unusedVariables false
abbrev Seq:=Int×(Int×List Int)
abbrev Lut:=List Int×Int
abbrev Net:=Int×(List Seq×(List Lut×List Int))
def SeqB (b:Int)(s:Seq):Prop:=(s.2.2.length:Int)<=b
def LutB (b:Int)(l:Lut):Prop:=(l.1.length:Int)<=b
def SeqsB (ss:List Seq):Prop:=ss.length<=1048576/\∀s∈ss,SeqB (1048576 - ss.length) s
def LutsB (ls:List Lut):Prop:=ls.length<=1048576/\∀l∈ls,LutB (1048576 - ls.length) l
def NetB (n:Net):Prop:=SeqsB n.2.1/\LutsB n.2.2.1/\n.2.2.2.length<=1048576
theorem SeqsB.at {ss:List Seq}(h:SeqsB ss){s:Seq}(hs:s∈ss):s.2.2.length<=1048576:=by
 have:=h.2 s hs;unfold SeqB at this;omega
theorem LutsB.at {ls:List Lut}(h:LutsB ls){l:Lut}(hl:l∈ls):l.1.length<=1048576:=by
 have:=h.2 l hl;unfold LutB at this;omega
end Go.Pf
/-
  Own work. Sorting and inserting, plainly: the reference's sort and the program's insertion into an ascending list.
-/
namespace Go.Pf
open Go Go.Pu
set_option linter.unusedVariables false
theorem joinO_inl {α β:Type}(a:α)(k:α->Option β):joinO (some (.inl a)) k=k a:=rfl
def fm (n:Nat)(g:Nat->List Int):List Int:=(List.range n).flatMap g
theorem fm_zero (g:Nat->List Int):fm 0 g=[]:=rfl
theorem fm_succ (n:Nat)(g:Nat->List Int):fm (n+1) g=fm n g++g n:=by
 unfold fm;rw[List.range_succ,List.flatMap_append];simp
theorem mem_fm {n:Nat}{g:Nat->List Int}{x:Int}:x∈fm n g↔∃k,k<n/\x∈g k:=by
 unfold fm;simp[List.mem_flatMap]
theorem fm_len {n:Nat}{g:Nat->List Int}{b:Nat}(h:∀k,k<n->(g k).length<=b):(fm n g).length<=n*b:=by
 induction n with
 | zero=>simp[fm_zero]
 | succ n ih=>
  rw[fm_succ,List.length_append,Nat.succ_mul];have h1:=ih (fun k hk=>h k (by omega));have h2:=h n (by omega);omega
theorem fm_nodup {n:Nat}{g:Nat->List Int}(h1:∀k,k<n->(g k).Nodup)(h2:∀j k,j<k->k<n->∀x∈g j,∀y∈g k,x≠y):(fm n g).Nodup:=by
 induction n with
 | zero=>simp[fm_zero]
 | succ n ih=>
  rw[fm_succ,List.nodup_append];refine⟨ih (fun k hk=>h1 k (by omega)) (fun j k hj hk=>h2 j k hj (by omega)),h1 n (by omega),fun x hx y hy=> ?_⟩;obtain⟨j,hj,hx⟩:=mem_fm.1 hx;exact h2 j n hj (by omega) x hx y hy
def Asc (xs:List Int):Prop:=xs.Pairwise (·<·)
theorem asc_ext {xs ys:List Int}(hx:Asc xs)(hy:Asc ys)(h:∀x,x∈xs↔x∈ys):xs=ys:=by
 induction xs generalizing ys with
 | nil=>
  cases ys with
  | nil=>rfl
  | cons b r=>exact absurd ((h b).2 (by simp)) (by simp)
 | cons a xs ih=>
  cases ys with
  | nil=>exact absurd ((h a).1 (by simp)) (by simp)
  | cons b ys=>
   unfold Asc at hx hy;rw[List.pairwise_cons]at hx hy;have e:a=b:=by
    rcases List.mem_cons.1 ((h a).1 (by simp))with e | e
    ·exact e
    rcases List.mem_cons.1 ((h b).2 (by simp))with e' | e'
    ·exact e'.symm
    have:=hy.1 a e;have:=hx.1 b e';omega
   subst e
   congr 1
   refine ih hx.2 hy.2 (fun x=>⟨fun q=> ?_,fun q=> ?_⟩)
   ·rcases List.mem_cons.1 ((h x).1 (List.mem_cons_of_mem _ q))with e | e
    ·have:=hx.1 x q;omega
    ·exact e
   ·rcases List.mem_cons.1 ((h x).2 (List.mem_cons_of_mem _ q))with e | e
    ·have:=hy.1 x q;omega
    ·exact e
def ins:List Int->Int->List Int
 | [],x=>[x]
 | a::r,x=>if a<x then a::ins r x else if a=x then a::r else x::a::r
theorem ins_cons (a:Int)(r:List Int)(x:Int):ins (a::r) x=if a<x then a::ins r x else if a=x then a::r else x::a::r:=rfl
theorem mem_ins {l:List Int}{x y:Int}:y∈ins l x↔y=x\/y∈l:=by
 induction l with
 | nil=>simp[ins]
 | cons a r ih=>
  unfold ins;split
  ·simp only[List.mem_cons,ih]
   constructor
   ·rintro(e | e | e)
    ·exact Or.inr (Or.inl e)
    ·exact Or.inl e
    ·exact Or.inr (Or.inr e)
   ·rintro(e | e | e)
    ·exact Or.inr (Or.inl e)
    ·exact Or.inl e
    ·exact Or.inr (Or.inr e)
  split
  ·rename_i e;subst e;simp
  ·simp
theorem asc_ins {l:List Int}{x:Int}(h:Asc l):Asc (ins l x):=by
 induction l with
 | nil=>simp[ins,Asc]
 | cons a r ih=>
  unfold Asc at*;have h' :=h;rw[List.pairwise_cons]at h;unfold ins;split
  ·rw[List.pairwise_cons];refine⟨fun y hy=> ?_,ih h.2⟩;rcases mem_ins.1 hy with e | e
   ·omega
   ·exact h.1 y e
  split
  ·exact h'
  ·rw[List.pairwise_cons];refine⟨fun y hy=> ?_,h'⟩;rcases List.mem_cons.1 hy with e | e
   ·omega
   ·have:=h.1 y e;omega
theorem ins_len (l:List Int)(x:Int):(ins l x).length<=l.length+1:=by
 induction l with
 | nil=>simp[ins]
 | cons a r ih=>
  unfold ins;split
  ·simp only[List.length_cons];omega
  split
  ·simp only[List.length_cons];omega
  ·simp only[List.length_cons];omega
def insL (l xs:List Int):List Int:=xs.foldl ins l
theorem insL_nil (l:List Int):insL l []=l:=rfl
theorem insL_app (l xs ys:List Int):insL l (xs++ys)=insL (insL l xs) ys:=by unfold insL;rw[List.foldl_append]
theorem insL_one (l:List Int)(x:Int):insL l [x]=ins l x:=rfl
theorem asc_insL {l xs:List Int}(h:Asc l):Asc (insL l xs):=by
 induction xs generalizing l with
 | nil=>exact h
 | cons a r ih=>exact ih (asc_ins h)
theorem mem_insL {l xs:List Int}{y:Int}:y∈insL l xs↔y∈l\/y∈xs:=by
 induction xs generalizing l with
 | nil=>simp[insL]
 | cons a r ih=>
  show y∈insL (ins l a) r↔_;rw[ih,mem_ins,List.mem_cons]
  constructor
  ·rintro((e | e) | e)
   ·exact Or.inr (Or.inl e)
   ·exact Or.inl e
   ·exact Or.inr (Or.inr e)
  ·rintro(e | e | e)
   ·exact Or.inl (Or.inr e)
   ·exact Or.inl (Or.inl e)
   ·exact Or.inr e
theorem insL_len (l xs:List Int):(insL l xs).length<=l.length+xs.length:=by
 induction xs generalizing l with
 | nil=>simp[insL]
 | cons a r ih=>
  have h1:=ih (ins l a);have h2:=ins_len l a;show(insL (ins l a) r).length<=_;simp only[List.length_cons];omega
theorem asc_nil:Asc []:=List.Pairwise.nil
theorem ins_split {l1 l2:List Int}{x:Int}(h:∀y∈l1,y<x):ins (l1++l2) x=l1++ins l2 x:=by
 induction l1 with
 | nil=>rfl
 | cons a r ih=>
  show ins (a::(r++l2)) x=a::(r++ins l2 x);rw[<-ih (fun y hy=>h y (List.mem_cons_of_mem _ hy))];have:=h a (by simp);rw[ins_cons,if_pos this]
theorem gslice_suf {xs:List Int}{k:Nat}(h:k<=xs.length):gslice xs (k:Int) (xs.length:Int)=some (xs.drop k):=by
 unfold gslice;rw[if_pos ⟨by omega,by omega,by omega⟩];simp
theorem insert_impl (l:List Int)(x:Int)(h:l.length<=1000000000):impl_insertInt (l,x)=some (ins l x):=by
 have key:∀m:Nat,m<=l.length->(∀k (hk:k<m) (q:k<l.length),l[k]<x)->(∀q:m<l.length,¬l[m]<x)->impl_insertInt (l,x)=some (ins l x):=by
  intro m hm h1 h2;have hlt:∀y∈l.take m,y<x:=by
   intro y hy;obtain⟨k,hk,rfl⟩:=List.getElem_of_mem hy;rw[List.length_take]at hk;rw[List.getElem_take];exact h1 k (by omega) (by omega)
  have e0:ins l x=l.take m++ins (l.drop m) x:=by
   rw[<-ins_split hlt,List.take_append_drop]
  unfold impl_insertInt;dsimp only;have hloop:Pu.loop (fun(v1:Int)=>
   let v2:Int:=((l).length:Int)
   let v3:Bool:=decide (v1<v2)
   bif v3 then(
    (gin (l).length v1).bind fun _=>
    (gget 0 l v1).bind fun v5=>
    let v6:Bool:=decide (v5<x)
    bif v6 then(
     let v7:Int:=wrap .i64 (v1+1)
     some (.inl v7))else
    Option.map Sum.inr (
     some (.inl v1)))else
   Option.map Sum.inr (
    some (.inl v1))) 0=some ((.inl (m:Int)):Int⊕List Int):=by
   refine loop_upto m (fun k=>(k:Int)) (fun k hk=> ?_) ?_
   ·dsimp only;rw[dt (by omega),cond_true,gin_nat (by omega),gget_nat (show k<l.length by omega)];simp only[Option.bind_some];rw[dt (h1 k hk (by omega)),cond_true,wrap_ok (by omega)];rfl
   ·dsimp only;by_cases q:m<l.length
    ·rw[dt (by omega),cond_true,gin_nat q,gget_nat q];simp only[Option.bind_some];rw[df (h2 q),cond_false];rfl
    ·rw[df (by omega),cond_false];rfl
  dsimp only at hloop;rw[hloop];rw[joinO_inl];by_cases q:m<l.length
  ·rw[dt (show(m:Int)<(l.length:Int)by omega),cond_true,gin_nat q,gget_nat q];simp only[Option.bind_some];have ed:l.drop m=l[m]::l.drop (m+1):=List.drop_eq_getElem_cons q;by_cases e:l[m]=x
   ·rw[dt e,cond_true,e0]
    conv=>lhs;rw[<-List.take_append_drop m l]
    rw[ed];unfold ins;rw[if_neg (h2 q),if_pos e]
   ·rw[df e,cond_false,gslice_pre (by omega)];simp only[Option.bind_some];rw[gapp_ok (by simp;omega)];simp only[Option.bind_some];rw[gapp_ok (by simp;omega),gslice_suf (by omega)];simp only[Option.bind_some];rw[gapp_ok (by simp;omega),e0,ed];unfold ins;rw[if_neg (h2 q),if_neg e];simp
  ·rw[df (show ¬(m:Int)<(l.length:Int)by omega),cond_false,gslice_pre (by omega)];simp only[Option.bind_some];rw[gapp_ok (by simp;omega)];simp only[Option.bind_some];rw[gapp_ok (by simp;omega),gslice_suf (by omega)];simp only[Option.bind_some];rw[gapp_ok (by simp;omega),e0];have:l.drop m=[]:=by rw[List.drop_eq_nil_iff];omega
   rw[this];simp[ins]
 have hw:∀(r:List Int),∃m:Nat,m<=r.length/\(∀k (hk:k<m) (q:k<r.length),r[k]<x)/\(∀q:m<r.length,¬r[m]<x):=by
  intro r
  induction r with
  | nil=>exact⟨0,by simp,fun k hk=>by omega,fun q=>by simp at q⟩
  | cons a r ih=>
   obtain⟨m,h1,h2,h3⟩:=ih;by_cases q:a<x
   ·refine⟨m+1,by simp only[List.length_cons];omega,fun k hk q' => ?_,fun q' => ?_⟩
    ·cases k with
     | zero=>exact q
     | succ k=>simp only[List.getElem_cons_succ];exact h2 k (by omega) (by simp only[List.length_cons]at q';omega)
    ·simp only[List.getElem_cons_succ];exact h3 (by simp only[List.length_cons]at q';omega)
   ·exact⟨0,by omega,fun k hk=>by omega,fun _=>q⟩
 obtain⟨m,h1,h2,h3⟩:=hw l;exact key m h1 h2 h3
theorem sort_spec (xs:List Int)(h:xs.length<=1000000000):∃o,spec_l27Sort xs=some o/\o.Perm xs/\o.Pairwise (·<=·):=by
 unfold spec_l27Sort;rw[gapp_ok (by simp;omega)];simp only[Option.bind_some,List.nil_append];obtain⟨o,h1,h2⟩:=loop_spec (f:=fun(v2:(Int×List Int))=>
  let v3:Int:=((v2.2).length:Int)
  let v4:Bool:=decide (v2.1<v3)
  bif v4 then(
   joinO (
    Pu.loop (fun(v5:(Int×List Int))=>
     let v6:Bool:=decide (0<v5.1)
     bif v6 then(
      (gin (v5.2).length v5.1).bind fun _=>
      (gget 0 v5.2 v5.1).bind fun v8=>
      let v9:Int:=wrap .i64 (v5.1 - 1)
      (gin (v5.2).length v9).bind fun _=>
      (gget 0 v5.2 v9).bind fun v11=>
      let v12:Bool:=decide (v8<v11)
      bif v12 then(
       (gin (v5.2).length v5.1).bind fun _=>
       (gget 0 v5.2 v5.1).bind fun v14=>
       let v15:Int:=wrap .i64 (v5.1 - 1)
       (gin (v5.2).length v15).bind fun _=>
       (gget 0 v5.2 v15).bind fun v17=>
       (gin (v5.2).length v5.1).bind fun _=>
       (gget 0 v5.2 v5.1).bind fun v19=>
       let v20:Int:=v17
       let v21:List Int:=gset v5.2 v5.1 v20
       let v22:Int:=wrap .i64 (v5.1 - 1)
       (gin (v21).length v22).bind fun _=>
       (gget 0 v21 v22).bind fun v24=>
       let v25:Int:=v14
       let v26:List Int:=gset v21 v22 v25
       let v27:Int:=wrap .i64 (v5.1 - 1)
       some (.inl (v27,v26)))else
      Option.map Sum.inr (
       some (.inl v5.2)))else
     Option.map Sum.inr (
      some (.inl v5.2))) v2) (fun(v5:List Int)=>
    let v6:Int:=wrap .i64 (v2.1+1)
    some (.inl (v6,v5))))else
  Option.map Sum.inr (
   some v2.2)) (fun s=>1<=s.1/\s.2.Perm xs/\(s.2.take s.1.toNat).Pairwise (·<=·)) (fun o=>o.Perm xs/\o.Pairwise (·<=·)) (fun s=>(xs.length - s.1).toNat) (fun s hs=>by
   obtain⟨i,acc⟩:=s;obtain⟨i0,hp,hs⟩:=hs;simp only at i0 hp hs;have hlen:=hp.length_eq;dsimp only;by_cases hi:i<(acc.length:Int)
   ·left
    rw[dt hi,cond_true];obtain⟨n,rfl⟩:∃n:Nat,i=(n:Int):=⟨i.toNat,by omega⟩;have hn:n<acc.length:=by omega
    rw[Int.toNat_natCast]at hs;obtain⟨o,g1,g2⟩:=loop_spec (f:=fun(v5:(Int×List Int))=>
     let v6:Bool:=decide (0<v5.1)
     bif v6 then(
      (gin (v5.2).length v5.1).bind fun _=>
      (gget 0 v5.2 v5.1).bind fun v8=>
      let v9:Int:=wrap .i64 (v5.1 - 1)
      (gin (v5.2).length v9).bind fun _=>
      (gget 0 v5.2 v9).bind fun v11=>
      let v12:Bool:=decide (v8<v11)
      bif v12 then(
       (gin (v5.2).length v5.1).bind fun _=>
       (gget 0 v5.2 v5.1).bind fun v14=>
       let v15:Int:=wrap .i64 (v5.1 - 1)
       (gin (v5.2).length v15).bind fun _=>
       (gget 0 v5.2 v15).bind fun v17=>
       (gin (v5.2).length v5.1).bind fun _=>
       (gget 0 v5.2 v5.1).bind fun v19=>
       let v20:Int:=v17
       let v21:List Int:=gset v5.2 v5.1 v20
       let v22:Int:=wrap .i64 (v5.1 - 1)
       (gin (v21).length v22).bind fun _=>
       (gget 0 v21 v22).bind fun v24=>
       let v25:Int:=v14
       let v26:List Int:=gset v21 v22 v25
       let v27:Int:=wrap .i64 (v5.1 - 1)
       some (.inl (v27,v26)))else
      Option.map Sum.inr (
       some ((.inl v5.2):List Int⊕((Int×List Int)⊕List Int))))else
     Option.map Sum.inr (
      some (.inl v5.2))) (fun s=>∃j:Nat,s.1=(j:Int)/\j<=n/\s.2=(acc.take n).take j++acc[n]::((acc.take n).drop j++acc.drop (n+1))/\∀y∈(acc.take n).drop j,acc[n]<y) (fun o=>∃r,o= .inl r/\r.Perm acc/\(r.take (n+1)).Pairwise (·<=·)) (fun s=>s.1.toNat) (fun s hs2=>by
      obtain⟨z,a⟩:=s;obtain⟨j,ej,hj,ea,hy⟩:=hs2;simp only at ej ea;subst ej ea;dsimp only;have ltn:(acc.take n).length=n:=by rw[List.length_take];omega
      generalize hP:acc.take n=P at*;generalize hR:acc.drop (n+1)=R at*;generalize hx:acc[n]=x at*;have hacc:acc=P++x::R:=by
       rw[<-hP,<-hR,<-hx,<-List.drop_eq_getElem_cons hn,List.take_append_drop]
      have ltj:(P.take j).length=j:=by rw[List.length_take];omega
      have done:(∀y∈P.take j,y<=x)->(P.take j++x::(P.drop j++R)).Perm acc/\((P.take j++x::(P.drop j++R)).take (n+1)).Pairwise (·<=·):=by
       intro hle
       constructor
       ·rw[hacc];have e1:(P.take j++x::(P.drop j++R)).Perm (x::(P.take j++(P.drop j++R))):=List.perm_middle;refine e1.trans ?_
        rw[<-List.append_assoc,List.take_append_drop];exact List.perm_middle.symm
       ·have e2:(P.take j++x::(P.drop j++R)).take (n+1)=P.take j++x::P.drop j:=by
         have:P.take j++x::(P.drop j++R)=(P.take j++x::P.drop j)++R:=by simp
         rw[this,List.take_left'];simp only[List.length_append,List.length_cons,ltj,List.length_drop,ltn];omega
        rw[e2,List.pairwise_append];have hs' :(P.take j++P.drop j).Pairwise (·<=·):=by rw[List.take_append_drop];exact hs
        rw[List.pairwise_append]at hs';refine⟨hs'.1,?_,?_⟩
        ·rw[List.pairwise_cons];exact⟨fun y q=>Int.le_of_lt (hy y q),hs'.2.1⟩
        ·intro y q z q2;rcases List.mem_cons.1 q2 with e | e
         ·rw[e];exact hle y q
         ·exact hs'.2.2 y q z e
      by_cases j0:j=0
      ·right
       subst j0;rw[df (by omega),cond_false];have:=done (by simp);exact⟨_,rfl,_,rfl,this.1,this.2⟩
      ·obtain⟨m,rfl⟩:∃m,j=m+1:=⟨j - 1,by omega⟩;have hm:m<P.length:=by omega
       have etk:P.take (m+1)=P.take m++[P[m]]:=take_succ' P m hm;have ltm:(P.take m).length=m:=by rw[List.length_take];omega
       have lall:(P.take (m+1)++x::(P.drop (m+1)++R)).length=acc.length:=by
        rw[hacc];simp only[List.length_append,List.length_cons,List.length_take,List.length_drop,ltn];omega
       have g1:(P.take (m+1)++x::(P.drop (m+1)++R))[m+1]? =some x:=by
        rw[List.getElem?_append_right (by omega),ltj];simp
       have g2:(P.take (m+1)++x::(P.drop (m+1)++R))[m]? =some P[m]:=by
        rw[List.getElem?_append_left (by omega),etk,List.getElem?_append_right (by omega),ltm];simp
       have hb1:m+1<(P.take (m+1)++x::(P.drop (m+1)++R)).length:=by omega
       have hb2:m<(P.take (m+1)++x::(P.drop (m+1)++R)).length:=by omega
       have e1:(P.take (m+1)++x::(P.drop (m+1)++R))[m+1]=x:=by
        rw[List.getElem?_eq_getElem hb1]at g1;exact Option.some.inj g1
       have e2:(P.take (m+1)++x::(P.drop (m+1)++R))[m]=P[m]:=by
        rw[List.getElem?_eq_getElem hb2]at g2;exact Option.some.inj g2
       have hw:wrap .i64 (((m+1:Nat):Int) - 1)=(m:Int):=by rw[wrap_ok (by omega)];omega
       rw[dt (by omega),cond_true,gin_nat hb1,gget_nat hb1,hw,gin_nat hb2,gget_nat hb2,e1,e2];simp only[Option.bind_some];by_cases q:x<P[m]
       ·left
        rw[dt q,cond_true,gset_nat,List.length_set,gin_nat hb2,gget_nat (by rw[List.length_set];exact hb2)];simp only[Option.bind_some];rw[gset_nat];refine⟨_,rfl,⟨m,rfl,by omega,?_,?_⟩,by simp only;omega⟩
        ·simp only;have edr:P.drop m=P[m]::P.drop (m+1):=List.drop_eq_getElem_cons hm;rw[edr,etk,List.append_assoc];rw[List.set_append_right _ _ (by omega),List.set_append_right _ _ (by omega),ltm];have:m+1 - m=1:=by omega
         rw[this,Nat.sub_self];simp;rw[edr];rfl
        ·have edr:P.drop m=P[m]::P.drop (m+1):=List.drop_eq_getElem_cons hm;rw[edr];intro y qy;rcases List.mem_cons.1 qy with e | e
         ·rw[e];exact q
         ·exact hy y e
       ·right
        rw[df q,cond_false];have:=done (by
         intro y qy;rw[etk]at qy;have hs' :(P.take (m+1)).Pairwise (·<=·):=hs.sublist (List.take_sublist _ _);rw[etk,List.pairwise_append]at hs';rcases List.mem_append.1 qy with e | e
         ·have:=hs'.2.2 y e P[m] (by simp);omega
         ·have:=List.mem_singleton.1 e;omega)
        exact⟨_,rfl,_,rfl,this.1,this.2⟩) ((n:Int),acc) ⟨n,rfl,Nat.le_refl _,by
         simp only;have ltn:(acc.take n).length=n:=by rw[List.length_take];omega
         have d0:(acc.take n).drop n=[]:=by rw[List.drop_eq_nil_iff];omega
         have d1:(acc.take n).take n=acc.take n:=List.take_of_length_le (by omega);rw[d0,d1,List.nil_append,<-List.drop_eq_getElem_cons hn,List.take_append_drop],by
         have d0:(acc.take n).drop n=[]:=by rw[List.drop_eq_nil_iff,List.length_take];omega
         rw[d0];simp⟩
    obtain⟨r,rfl,g3,g4⟩:=g2;dsimp only at g1;rw[g1];rw[joinO_inl,wrap_ok (by omega)];have e3:((n:Int)+1).toNat=n+1:=by omega
    refine⟨_,rfl,⟨by simp only;omega,g3.trans hp,by simp only[e3];exact g4⟩,by simp only;omega⟩
   ·right
    rw[df hi,cond_false];refine⟨acc,rfl,hp,?_⟩;rw[List.take_of_length_le (by omega)]at hs;exact hs) (1,xs) ⟨by simp,List.Perm.refl _,by
     simp only;cases xs with
     | nil=>simp
     | cons a r=>simp⟩
 exact⟨o,h1,h2⟩
theorem sort_nodup {xs:List Int}(h:xs.length<=1000000000)(hn:xs.Nodup):spec_l27Sort xs=some (insL [] xs):=by
 obtain⟨o,h1,h2,h3⟩:=sort_spec xs h;rw[h1]
 congr 1
 have hn2:o.Nodup:=h2.nodup_iff.2 hn;have ha:Asc o:=by
  unfold Asc;have:=List.Pairwise.and h3 hn2;exact this.imp (fun q=>by omega)
 exact asc_ext ha (asc_insL asc_nil) (fun x=>by rw[mem_insL,h2.mem_iff];simp)
end Go.Pf
/-
  Own work. Cuts by a line, plainly.
-/
namespace Go.Pf
open Go Go.Pu
set_option linter.unusedVariables false
theorem stp_ok {d:Int×(Int×(Int×Int))}{t dir len:Int}(h:DOk d)(h0:0<=stp d t dir len):stp d t dir len % d.1=stpX d t dir len/\stp d t dir len/d.1=stpY d t dir len/\stp d t dir len<d.1*d.2.1/\((0<=stpX d t dir len/\stpX d t dir len<=d.1 - 1)/\(0<=stpY d t dir len/\stpY d t dir len<=d.2.1 - 1)):=by
 have hw:=h.1;have e:stp d t dir len=if(0<=stpX d t dir len/\stpX d t dir len<=d.1 - 1)/\(0<=stpY d t dir len/\stpY d t dir len<=d.2.1 - 1)then stpY d t dir len*d.1+stpX d t dir len else -1:=rfl
 by_cases q:(0<=stpX d t dir len/\stpX d t dir len<=d.1 - 1)/\(0<=stpY d t dir len/\stpY d t dir len<=d.2.1 - 1)
 ·rw[if_pos q]at e;rw[e];generalize stpX d t dir len=x at*;generalize stpY d t dir len=y at*;have e1:(y*d.1+x) % d.1=x:=by
   rw[Int.add_comm,Int.add_mul_emod_self_right];exact Int.emod_eq_of_lt (by omega) (by omega)
  have e2:(y*d.1+x)/d.1=y:=by
   rw[Int.add_comm,Int.add_mul_ediv_right _ _ (by omega)];rw[Int.ediv_eq_zero_of_lt (by omega) (by omega)];omega
  refine⟨e1,e2,?_,q⟩;have h1:y*d.1<=(d.2.1 - 1)*d.1:=Int.mul_le_mul_of_nonneg_right (by omega) (by omega);have h2:(d.2.1 - 1)*d.1=d.1*d.2.1 - d.1:=by rw[Int.sub_mul,Int.one_mul,Int.mul_comm]
  omega
 ·rw[if_neg q]at e;omega
end Go.Pf
/-
  Own work. A connection's nodes, plainly.
-/
namespace Go.Pf
open Go Go.Pu
set_option linter.unusedVariables false
def outPinP (d:Dev)(t k:Int):Int:=if 0<=k/\k<outP (tk d t)then t*per d+5+k else -1
def inPinP (d:Dev)(t k:Int):Int:=if 0<=k/\k<inP (tk d t)then t*per d+k else -1
theorem outP_le (k:Int):0<=outP k/\outP k<=2/\(0<outP k->0<=k):=by
 unfold outP;split;omega;split;omega;split<;>omega
theorem inP_le (k:Int):0<=inP k/\inP k<=5/\(0<inP k->0<=k):=by
 unfold inP;split;omega;split;omega;split<;>omega
theorem tk_in {d:Dev}{t:Int}(h:0<=tk d t):DOk d/\0<=t/\t<d.1*d.2.1/\tk d t=tkp d t/\(0<=t*per d/\t*per d<=828):=by
 have e:tk d t=if DOk d/\0<=t/\t<d.1*d.2.1 then tkp d t else -1:=rfl
 by_cases q:DOk d/\0<=t/\t<d.1*d.2.1
 ·rw[if_pos q]at e;have hm:=mul_le36 q.1.1 q.1.2.1;have hp:=per_le q.1;have h1:t*per d<=36*23:=Int.mul_le_mul (by omega) (by omega) (by omega) (by omega);have h2:0<=t*per d:=Int.mul_nonneg (by omega) (by omega);exact⟨q.1,q.2.1,q.2.2,e,h2,by omega⟩
 ·rw[if_neg q]at e;omega
theorem outPin_spec (d:Dev)(t k:Int)(ht:t<=9223372036854775807):spec_OutPin (d,(t,k))=some (outPinP d t k):=by
 unfold spec_OutPin outPinP;have ho:=outP_le (tk d t);by_cases h0:k<0
 ·simp only[dt h0,cond_true];rw[if_neg (by omega)]
 ·simp only[df h0,cond_false];rw[tk_spec d t ht];simp only[Option.bind_some,outPins_spec];by_cases h1:outP (tk d t)<=k
  ·rw[dt h1,cond_true,if_neg (by omega)]
  ·obtain⟨hd,_,_,_,q0,q1⟩:=tk_in (d:=d) (t:=t) (ho.2.2 (by omega));rw[df h1,cond_false,per_spec hd,if_pos ⟨by omega,by omega⟩];simp only[Option.bind_some];rw[wrap_ok (z:=t*per d) (by omega),wrap_ok (z:=t*per d+5) (by omega),wrap_ok (by omega)]
theorem outPin_impl (d:Dev)(t k:Int)(ht:t<=9223372036854775807):impl_OutPin (d,(t,k))=some (outPinP d t k):=by
 unfold impl_OutPin outPinP;have ho:=outP_le (tk d t);dsimp only;rw[tileOk_impl];simp only[Option.bind_some];by_cases h:DOk d/\0<=t/\t<d.1*d.2.1
 ·have e:tk d t=tkp d t:=by unfold tk;rw[if_pos h]
  have hk:=tkp_ge d t;obtain⟨hd,_,_,_,q0,q1⟩:=tk_in (d:=d) (t:=t) (by omega);rw[dt h,tileKind_impl d t hd h.2.1 ht];simp only[Bool.not_true,cond_false,Option.bind_some];rw[outPins_impl];simp only[Option.bind_some];rw[<-e,wrap_ok (z:=outP (tk d t) - 1) (by omega),inR_impl];simp only[Option.bind_some];by_cases h1:0<=k/\k<outP (tk d t)
  ·rw[dt (by omega),if_pos h1,per_impl hd];simp only[Bool.not_true,cond_false,Option.bind_some];rw[wrap_ok (z:=t*per d) (by omega),wrap_ok (z:=t*per d+5) (by omega),wrap_ok (by omega)]
  ·rw[df (by omega),if_neg h1];rfl
 ·have e:tk d t= -1:=by unfold tk;rw[if_neg h]
  rw[df h,if_neg (by rw[e];unfold outP;simp)];rfl
theorem inPin_spec (d:Dev)(t k:Int)(ht:t<=9223372036854775807):spec_InPin (d,(t,k))=some (inPinP d t k):=by
 unfold spec_InPin inPinP;have ho:=inP_le (tk d t);by_cases h0:k<0
 ·simp only[dt h0,cond_true];rw[if_neg (by omega)]
 ·simp only[df h0,cond_false];rw[tk_spec d t ht];simp only[Option.bind_some,inPins_spec];by_cases h1:inP (tk d t)<=k
  ·rw[dt h1,cond_true,if_neg (by omega)]
  ·obtain⟨hd,_,_,_,q0,q1⟩:=tk_in (d:=d) (t:=t) (ho.2.2 (by omega));rw[df h1,cond_false,per_spec hd,if_pos ⟨by omega,by omega⟩];simp only[Option.bind_some];rw[wrap_ok (z:=t*per d) (by omega),wrap_ok (by omega)]
theorem inPin_impl (d:Dev)(t k:Int)(ht:t<=9223372036854775807):impl_InPin (d,(t,k))=some (inPinP d t k):=by
 unfold impl_InPin inPinP;have ho:=inP_le (tk d t);dsimp only;rw[tileOk_impl];simp only[Option.bind_some];by_cases h:DOk d/\0<=t/\t<d.1*d.2.1
 ·have e:tk d t=tkp d t:=by unfold tk;rw[if_pos h]
  have hk:=tkp_ge d t;obtain⟨hd,_,_,_,q0,q1⟩:=tk_in (d:=d) (t:=t) (by omega);rw[dt h,tileKind_impl d t hd h.2.1 ht];simp only[Bool.not_true,cond_false,Option.bind_some];rw[inPins_impl];simp only[Option.bind_some];rw[<-e,wrap_ok (z:=inP (tk d t) - 1) (by omega),inR_impl];simp only[Option.bind_some];by_cases h1:0<=k/\k<inP (tk d t)
  ·rw[dt (by omega),if_pos h1,per_impl hd];simp only[Bool.not_true,cond_false,Option.bind_some];rw[wrap_ok (z:=t*per d) (by omega),wrap_ok (by omega)]
  ·rw[df (by omega),if_neg h1];rfl
 ·have e:tk d t= -1:=by unfold tk;rw[if_neg h]
  rw[df h,if_neg (by rw[e];unfold inP;simp)];rfl
def psAt (ps:List Int)(i:Int):Int:=ps.getD i.toNat 0
def PsR (ps:List Int):Prop:=∀p∈ps,p<=9223372036854775807
theorem psAt_le {ps:List Int}(h:PsR ps)(i:Int):psAt ps i<=9223372036854775807:=by
 unfold psAt;by_cases hi:i.toNat<ps.length
 ·rw[List.getD,List.getElem?_eq_getElem hi];exact h _ (List.getElem_mem hi)
 ·rw[List.getD,List.getElem?_eq_none (by omega)];simp
def srcP (d:Dev)(ps:List Int)(p:Pin):Int:=if 0<=p.1/\p.1<(ps.length:Int)then outPinP d (psAt ps p.1) p.2 else -1
theorem src_spec (d:Dev)(ps:List Int)(c:Conn)(hp:PsR ps):spec_SourceNode (d,(ps,c))=some (srcP d ps c.2.1):=by
 unfold spec_SourceNode srcP;dsimp only;by_cases h0:c.2.1.1<0
 ·rw[dt h0,cond_true,if_neg (by omega)]
 rw[df h0,cond_false];by_cases h1:(ps.length:Int)<=c.2.1.1
 ·rw[dt h1,cond_true,if_neg (by omega)]
 rw[df h1,cond_false,gget_some (by omega) (by omega),if_pos (by omega)];simp only[Option.bind_some];exact(congrArg (fun o=>o.bind fun v5=>some v5) (outPin_spec d (psAt ps c.2.1.1) c.2.1.2 (psAt_le hp _))).trans rfl
theorem src_impl (d:Dev)(ps:List Int)(c:Conn)(hp:PsR ps)(hl:ps.length<=1048576):impl_SourceNode (d,(ps,c))=some (srcP d ps c.2.1):=by
 unfold impl_SourceNode srcP;dsimp only;rw[wrap_ok (by omega),inR_impl];simp only[Option.bind_some];by_cases h:0<=c.2.1.1/\c.2.1.1<(ps.length:Int)
 ·rw[dt (by omega),if_pos h,gget_some (by omega) (by omega)];simp only[Bool.not_true,cond_false,Option.bind_some];exact(congrArg (fun o=>o.bind fun v5=>some v5) (outPin_impl d (psAt ps c.2.1.1) c.2.1.2 (psAt_le hp _))).trans rfl
 ·rw[df (by omega),if_neg h];rfl
def snkP (d:Dev)(ps:List Int)(p:Pin):Int:=if 0<=p.1/\p.1<(ps.length:Int)then inPinP d (psAt ps p.1) p.2 else -1
def snksP (d:Dev)(ps:List Int)(ss:List Pin):List Int:=if(ss.all fun p=>decide (0<=snkP d ps p))=true then ss.map (snkP d ps)else []
theorem snks_len (d:Dev)(ps:List Int)(ss:List Pin):(snksP d ps ss).length<=ss.length:=by
 unfold snksP;split<;>simp
theorem snks_spec (d:Dev)(ps:List Int)(c:Conn)(hp:PsR ps)(hl:c.2.2.length<=1048576):spec_SinkNodes (d,(ps,c))=some (snksP d ps c.2.2):=by
 unfold spec_SinkNodes snksP;obtain⟨c1,c2,ss⟩:=c;simp only at hl;dsimp only;refine Eq.trans (loop_all ss.length (fun k:Nat=>((k:Int),(ss.take k).map (snkP d ps))) (fun k=>if h:k<ss.length then decide (0<=snkP d ps ss[k])else true) [] (ss.map (snkP d ps)) (fun k hk hok=> ?_) (fun k hk hok=> ?_) ?_) ?_
 ·rw[dif_pos hk]at hok;have q:=of_decide_eq_true hok;dsimp only;rw[dt (by omega),cond_true,gget_nat hk,take_succ' ss k hk,List.map_append];simp only[Option.bind_some];unfold snkP at q ⊢;by_cases h:0<=(ss[k]).1/\(ss[k]).1<(ps.length:Int)
  ·rw[if_pos h]at q;rw[df (by omega),cond_false,df (by omega),cond_false,gget_some h.1 h.2];simp only[Option.bind_some];have e:=inPin_spec d (psAt ps (ss[k]).1) (ss[k]).2 (psAt_le hp _);unfold psAt at e q ⊢;rw[e];simp only[Option.bind_some];rw[df (by omega),cond_false,gapp_some (by simp;omega) (by simp;omega)];simp only[Option.bind_some,List.map_cons,List.map_nil];rw[wrap_ok (by omega),if_pos h];rfl
  ·rw[if_neg h]at q;omega
 ·rw[dif_pos hk]at hok;have q:=of_decide_eq_false hok;dsimp only;rw[dt (by omega),cond_true,gget_nat hk];simp only[Option.bind_some];unfold snkP at q;by_cases h0:(ss[k]).1<0
  ·rw[dt h0];rfl
  rw[df h0,cond_false];by_cases h1:(ps.length:Int)<=(ss[k]).1
  ·rw[dt h1];rfl
  rw[if_pos (by omega)]at q;rw[df h1,cond_false,gget_some (by omega) (by omega)];simp only[Option.bind_some];have e:=inPin_spec d (psAt ps (ss[k]).1) (ss[k]).2 (psAt_le hp _);unfold psAt at e q;rw[e];simp only[Option.bind_some];rw[dt (by omega)];rfl
 ·dsimp only;rw[df (by omega),cond_false,List.take_length];rfl
 ·rw[all_range_list ss (fun p=>decide (0<=snkP d ps p)) _ (fun k hk=>by rw[dif_pos hk])]
theorem snks_impl (d:Dev)(ps:List Int)(c:Conn)(hp:PsR ps)(hpl:ps.length<=1048576)(hl:c.2.2.length<=1048576):impl_SinkNodes (d,(ps,c))=some (snksP d ps c.2.2):=by
 unfold impl_SinkNodes snksP;obtain⟨c1,c2,ss⟩:=c;simp only at hl;dsimp only;refine Eq.trans (loop_all ss.length (fun k:Nat=>((ss.take k).map (snkP d ps),(k:Int))) (fun k=>if h:k<ss.length then decide (0<=snkP d ps ss[k])else true) [] (ss.map (snkP d ps)) (fun k hk hok=> ?_) (fun k hk hok=> ?_) ?_) ?_
 ·rw[dif_pos hk]at hok;have q:=of_decide_eq_true hok;dsimp only;rw[dt (by omega),cond_true,gget_nat hk,take_succ' ss k hk,List.map_append];simp only[Option.bind_some];unfold snkP at q ⊢;by_cases h:0<=(ss[k]).1/\(ss[k]).1<(ps.length:Int)
  ·rw[if_pos h]at q;rw[wrap_ok (z:=(ps.length:Int) - 1) (by omega),inR_impl];simp only[Option.bind_some];rw[dt (by omega),gget_some h.1 h.2];simp only[Bool.not_true,cond_false,Option.bind_some];have e:=inPin_impl d (psAt ps (ss[k]).1) (ss[k]).2 (psAt_le hp _);unfold psAt at e q ⊢;rw[e];simp only[Option.bind_some];rw[df (by omega),cond_false,gapp_some (by simp;omega) (by simp;omega)];simp only[Option.bind_some,List.map_cons,List.map_nil];rw[wrap_ok (by omega),if_pos h];rfl
  ·rw[if_neg h]at q;omega
 ·rw[dif_pos hk]at hok;have q:=of_decide_eq_false hok;dsimp only;rw[dt (by omega),cond_true,gget_nat hk];simp only[Option.bind_some];unfold snkP at q;rw[wrap_ok (z:=(ps.length:Int) - 1) (by omega),inR_impl];simp only[Option.bind_some];by_cases h:0<=(ss[k]).1/\(ss[k]).1<(ps.length:Int)
  ·rw[if_pos h]at q;rw[dt (by omega),gget_some (by omega) (by omega)];simp only[Bool.not_true,cond_false,Option.bind_some];have e:=inPin_impl d (psAt ps (ss[k]).1) (ss[k]).2 (psAt_le hp _);unfold psAt at e q;rw[e];simp only[Option.bind_some];rw[dt (by omega)];rfl
  ·rw[df (by omega)];rfl
 ·dsimp only;rw[df (by omega),cond_false,List.take_length];rfl
 ·rw[all_range_list ss (fun p=>decide (0<=snkP d ps p)) _ (fun k hk=>by rw[dif_pos hk])]
end Go.Pf
/-
  Own work. The nodes that lead into a node: the program's and the reference's, plainly.
-/
namespace Go.Pf
open Go Go.Pu
set_option linter.unusedVariables false
def opp (dir:Int):Int:=(dir+2) % 4
def wn (d:Dev)(s dir trk:Int):Int:=if 0<=s/\0<=stp d s dir (1+trk % 2)then s*per d+7+dir*d.2.2.1+trk else -1
theorem wn_le {d:Dev}{s dir trk:Int}(h:DOk d)(h1:s<d.1*d.2.1)(hdir:0<=dir/\dir<=3)(ht:0<=trk/\trk<d.2.2.1)(hs:0<=s):(0<=s*per d/\s*per d<=828)/\(0<=dir*d.2.2.1/\dir*d.2.2.1<=12/\dir*d.2.2.1+d.2.2.1<=4*d.2.2.1)/\s*per d+per d<=nodesN d:=by
 have hm:=mul_le36 h.1 h.2.1;have hp:=per_le h;have hT:=h.2.2.1;have h2:s*per d<=36*23:=Int.mul_le_mul (by omega) (by omega) (by omega) (by omega);have h3:0<=s*per d:=Int.mul_nonneg (by omega) (by omega);have h4:(s+1)*per d<=d.1*d.2.1*per d:=Int.mul_le_mul_of_nonneg_right (by omega) (by omega);rw[Int.add_mul,Int.one_mul]at h4;refine⟨⟨h3,by omega⟩,?_,h4⟩;have:dir=0\/dir=1\/dir=2\/dir=3:=by omega
 rcases this with rfl | rfl | rfl | rfl<;>omega
theorem wn_spec {d:Dev}{s dir trk:Int}(h:DOk d)(h1:s<d.1*d.2.1)(hdir:0<=dir/\dir<=3)(ht:0<=trk/\trk<d.2.2.1):spec_WireNode (d,(s,(dir,trk)))=some (wn d s dir trk):=by
 unfold spec_WireNode wn;have hm:=mul_le36 h.1 h.2.1;have hT:=h.2.2.1;dsimp only;rw[tk_spec d s (by omega)];simp only[Option.bind_some];by_cases h0:0<=s
 ·have e:tk d s=tkp d s:=by unfold tk;rw[if_pos ⟨h,h0,h1⟩]
  have hk:=tkp_ge d s;obtain⟨hw1,hw2,_⟩:=wn_le h h1 hdir ht h0;rw[df (by omega),cond_false,df (by omega),cond_false,df (by omega),cond_false,grem_nn ht.1 (by omega)];simp only[Option.bind_some];rw[wrap_ok (z:=1+trk % 2) (by omega),stp_spec h h0 h1 hdir (by omega)];simp only[Option.bind_some];by_cases q:stp d s dir (1+trk % 2)<0
  ·rw[dt q,cond_true,if_neg (by omega)]
  ·rw[df q,cond_false,if_pos ⟨h0,by omega⟩,per_spec h];simp only[Option.bind_some];rw[wrap_ok (z:=dir*d.2.2.1) (by omega),wrap_ok (z:=s*per d) (by omega),wrap_ok (z:=s*per d+7) (by omega),wrap_ok (z:=s*per d+7+dir*d.2.2.1) (by omega),wrap_ok (by omega)]
 ·have e:tk d s= -1:=by unfold tk;rw[if_neg (by omega)]
  rw[dt (by omega),cond_true,if_neg (by omega)]
theorem wn_impl {d:Dev}{s dir trk:Int}(h:DOk d)(h1:s<d.1*d.2.1)(hdir:0<=dir/\dir<=3)(ht:0<=trk/\trk<d.2.2.1):impl_WireNode (d,(s,(dir,trk)))=some (wn d s dir trk):=by
 unfold impl_WireNode wn;have hm:=mul_le36 h.1 h.2.1;have hT:=h.2.2.1;dsimp only;rw[tileOk_impl];simp only[Option.bind_some];by_cases h0:0<=s
 ·obtain⟨hw1,hw2,_⟩:=wn_le h h1 hdir ht h0;rw[dt ⟨h,h0,h1⟩,Bool.not_true,cond_false,inR_impl];simp only[Option.bind_some];rw[dt hdir,Bool.not_true,cond_false,wrap_ok (z:=d.2.2.1 - 1) (by omega),inR_impl];simp only[Option.bind_some];rw[dt (by omega),Bool.not_true,cond_false,wireLen_impl ht.1];simp only[Option.bind_some];rw[stp_impl h h0 h1 hdir (by omega)];simp only[Option.bind_some];by_cases q:stp d s dir (1+trk % 2)<0
  ·rw[dt q,cond_true,if_neg (by omega)]
  ·rw[df q,cond_false,if_pos ⟨h0,by omega⟩,per_impl h];simp only[Option.bind_some];rw[wrap_ok (z:=dir*d.2.2.1) (by omega),wrap_ok (z:=s*per d) (by omega),wrap_ok (z:=s*per d+7) (by omega),wrap_ok (z:=s*per d+7+dir*d.2.2.1) (by omega),wrap_ok (by omega)]
 ·rw[df (fun e=>h0 e.2.1),Bool.not_false,cond_true,if_neg (by omega)]
theorem stp_lt {d:Dev}{t dir len:Int}(h:DOk d):stp d t dir len<d.1*d.2.1:=by
 have hm:=mul_le36 h.1 h.2.1;by_cases q:0<=stp d t dir len
 ·exact(stp_ok h q).2.2.1
 ·omega
theorem wn_dec {d:Dev}{s dir trk:Int}(h:DOk d)(h1:s<d.1*d.2.1)(hdir:0<=dir/\dir<=3)(ht:0<=trk/\trk<d.2.2.1)(h0:0<=wn d s dir trk):0<=s/\nTile d (wn d s dir trk)=s/\7<=nPin d (wn d s dir trk)/\wDir d (wn d s dir trk)=dir/\wTrk d (wn d s dir trk)=trk/\wn d s dir trk<nodesN d:=by
 have hT:=h.2.2.1;have hp:=per_le h;by_cases q:0<=s/\0<=stp d s dir (1+trk % 2)
 ·obtain⟨hw1,hw2,hw3⟩:=wn_le h h1 hdir ht q.1;have e:wn d s dir trk=s*per d+(7+dir*d.2.2.1+trk):=by unfold wn;rw[if_pos q];omega
  have hper:per d=7+4*d.2.2.1:=rfl;have e1:nTile d (wn d s dir trk)=s:=by
   unfold nTile;rw[e,Int.add_comm,Int.add_mul_ediv_right _ _ (by omega),Int.ediv_eq_zero_of_lt (by omega) (by omega)];omega
  have e2:nPin d (wn d s dir trk)=7+dir*d.2.2.1+trk:=by
   unfold nPin;rw[e,Int.add_comm,Int.add_mul_emod_self_right,Int.emod_eq_of_lt (by omega) (by omega)]
  have e3:wDir d (wn d s dir trk)=dir:=by
   unfold wDir;rw[e2]
   have:7+dir*d.2.2.1+trk - 7=trk+dir*d.2.2.1:=by omega
   rw[this,Int.add_mul_ediv_right _ _ (by omega),Int.ediv_eq_zero_of_lt (by omega) (by omega)];omega
  have e4:wTrk d (wn d s dir trk)=trk:=by
   unfold wTrk;rw[e2]
   have:7+dir*d.2.2.1+trk - 7=trk+dir*d.2.2.1:=by omega
   rw[this,Int.add_mul_emod_self_right,Int.emod_eq_of_lt (by omega) (by omega)]
  exact⟨q.1,e1,by omega,e3,e4,by omega⟩
 ·unfold wn at h0;rw[if_neg q]at h0;omega
theorem stp_back {d:Dev}{t dir len:Int}(h:DOk d)(h0:0<=t)(h1:t<d.1*d.2.1)(hdir:0<=dir/\dir<=3)(hs:0<=stp d t (opp dir) len):stp d (stp d t (opp dir) len) dir len=t:=by
 obtain⟨e1,e2,e3,_⟩:=stp_ok h hs;obtain⟨⟨x0,x1⟩,⟨y0,y1⟩,et⟩:=tile_xy h h0 h1;have ex:stpX d (stp d t (opp dir) len) dir len=t % d.1:=by
  unfold stpX at*;rw[e1];unfold opp
  have:dir=0\/dir=1\/dir=2\/dir=3:=by omega
  rcases this with rfl | rfl | rfl | rfl<;>simp<;>omega
 have ey:stpY d (stp d t (opp dir) len) dir len=t/d.1:=by
  unfold stpY at*;rw[e2];unfold opp
  have:dir=0\/dir=1\/dir=2\/dir=3:=by omega
  rcases this with rfl | rfl | rfl | rfl<;>simp<;>omega
 generalize stp d t (opp dir) len=s at*;unfold stp;rw[ex,ey,if_pos ⟨⟨by omega,by omega⟩,⟨by omega,by omega⟩⟩];omega
theorem stp_inj {d:Dev}{t dir a b:Int}(h:DOk d)(hdir:0<=dir/\dir<=3)(ha:0<=stp d t dir a)(hb:0<=stp d t dir b)(e:stp d t dir a=stp d t dir b):a=b:=by
 obtain⟨e1,e2,_,_⟩:=stp_ok h ha;obtain⟨g1,g2,_,_⟩:=stp_ok h hb;rw[e]at e1 e2;rw[e1]at g1;rw[e2]at g2
 unfold stpX at g1;unfold stpY at g2
 have:dir=0\/dir=1\/dir=2\/dir=3:=by omega
 rcases this with rfl | rfl | rfl | rfl<;>simp at g1 g2<;>omega
def skipP (d:Dev)(p wd wt dir trk:Int):Prop:=(7<=p/\(dir=opp wd\/(trk≠wt/\trk≠(wt+1) % d.2.2.1)))\/(p<7/\1<d.2.2.1/\(trk+p) % 2=1)
instance (d:Dev)(p wd wt dir trk:Int):Decidable (skipP d p wd wt dir trk):=by unfold skipP;exact inferInstance
def pos1 (v:Int):List Int:=if 0<=v then [v]else []
theorem mem_pos1 {v x:Int}:x∈pos1 v↔0<=v/\x=v:=by
 unfold pos1;split
 ·rename_i q;simp[q]
 ·rename_i q;simp;omega
theorem pos1_len (v:Int):(pos1 v).length<=1:=by unfold pos1;split<;>simp
def oneP (d:Dev)(t p dir trk:Int)(j:Nat):List Int:=if 7<=p/\(j:Int)+1<1+trk % 2 then []else pos1 (wn d (stp d t (opp dir) ((j:Int)+1)) dir trk)
def candP (d:Dev)(t p wd wt:Int)(dir trk:Nat):List Int:=if skipP d p wd wt dir trk then []else fm (1+(trk:Int) % 2).toNat (oneP d t p dir trk)
def dirP (d:Dev)(t p wd wt:Int)(dir:Nat):List Int:=fm d.2.2.1.toNat (candP d t p wd wt dir)
def rawP (d:Dev)(t p wd wt:Int):List Int:=fm 4 (dirP d t p wd wt)
theorem candP_skip {d:Dev}{t p wd wt:Int}{dir trk:Nat}(h:skipP d p wd wt dir trk):candP d t p wd wt dir trk=[]:=by unfold candP;rw[if_pos h]
theorem oneP_len (d:Dev)(t p dir trk:Int)(j:Nat):(oneP d t p dir trk j).length<=1:=by
 unfold oneP;split;simp;exact pos1_len _
theorem candP_len (d:Dev)(t p wd wt:Int)(dir trk:Nat):(candP d t p wd wt dir trk).length<=2:=by
 unfold candP;split
 ·simp
 ·have:=fm_len (n:=(1+(trk:Int) % 2).toNat) (g:=oneP d t p dir trk) (b:=1) (fun k _=>oneP_len _ _ _ _ _ _);omega
theorem dirP_len {d:Dev}(h:DOk d)(t p wd wt:Int)(dir:Nat):(dirP d t p wd wt dir).length<=8:=by
 have hT:=h.2.2.1;have:=fm_len (n:=d.2.2.1.toNat) (g:=candP d t p wd wt dir) (b:=2) (fun k _=>candP_len _ _ _ _ _ _ _);unfold dirP;omega
theorem mem_oneP {d:Dev}{t p dir trk x:Int}{j:Nat}(h:x∈oneP d t p dir trk j):0<=x/\x=wn d (stp d t (opp dir) ((j:Int)+1)) dir trk:=by
 unfold oneP at h;split at h
 ·simp at h
 ·have:=mem_pos1.1 h;omega
theorem mem_candP {d:Dev}{t p wd wt x:Int}{dir trk:Nat}(h:x∈candP d t p wd wt dir trk):∃j:Nat,x∈oneP d t p dir trk j:=by
 unfold candP at h;split at h
 ·simp at h
 ·obtain⟨j,_,hj⟩:=mem_fm.1 h;exact⟨j,hj⟩
theorem oneP_dec {d:Dev}{t p x:Int}{dir trk j:Nat}(h:DOk d)(hdir:dir<4)(ht:(trk:Int)<d.2.2.1)(hx:x∈oneP d t p dir trk j):0<=stp d t (opp dir) ((j:Int)+1)/\nTile d x=stp d t (opp dir) ((j:Int)+1)/\7<=nPin d x/\wDir d x=dir/\wTrk d x=trk/\(0<=x/\x<nodesN d):=by
 obtain⟨h0,e⟩:=mem_oneP hx;have:=wn_dec (s:=stp d t (opp dir) ((j:Int)+1)) (dir:=(dir:Int)) (trk:=(trk:Int)) h (stp_lt h) (by omega) ⟨by omega,ht⟩ (by rw[<-e];exact h0);rw[<-e]at this;exact⟨this.1,this.2.1,this.2.2.1,this.2.2.2.1,this.2.2.2.2.1,h0,this.2.2.2.2.2⟩
theorem opp_r {dir:Int}(h:0<=dir/\dir<=3):0<=opp dir/\opp dir<=3:=by unfold opp;omega
theorem rawP_nodup {d:Dev}(h:DOk d)(t p wd wt:Int):(rawP d t p wd wt).Nodup:=by
 have hT:=h.2.2.1;refine fm_nodup (fun dir hdir=>fm_nodup (fun trk ht=> ?_) ?_) ?_
 ·unfold candP;split
  ·simp
  ·refine fm_nodup (fun j _=> ?_) (fun i j hij _ x hx y hy e=> ?_)
   ·unfold oneP pos1;split;simp;split<;>simp
   ·have a:=oneP_dec h hdir (by omega) hx;have b:=oneP_dec h hdir (by omega) hy;rw[e]at a;have:=stp_inj (dir:=opp dir) h (opp_r (by omega)) a.1 b.1 (by rw[<-a.2.1,<-b.2.1]);omega
 ·intro j k hjk hk x hx y hy e;obtain⟨i1,hx⟩:=mem_candP hx;obtain⟨i2,hy⟩:=mem_candP hy;have a:=oneP_dec h hdir (by omega) hx;have b:=oneP_dec h hdir (by omega) hy;rw[e]at a;have:=a.2.2.2.2.1;have:=b.2.2.2.2.1;omega
 ·intro j k hjk hk x hx y hy e;obtain⟨t1,q1,hx⟩:=mem_fm.1 hx;obtain⟨t2,q2,hy⟩:=mem_fm.1 hy;obtain⟨i1,hx⟩:=mem_candP hx;obtain⟨i2,hy⟩:=mem_candP hy;have a:=oneP_dec h (by omega) (by omega) hx;have b:=oneP_dec h hk (by omega) hy;rw[e]at a;have:=a.2.2.2.1;have:=b.2.2.2.1;omega
def outsP (d:Dev)(t:Int):List Int:=if 1<outP (tk d t)then [t*per d+5,t*per d+6]else [t*per d+5]
def s0P (d:Dev)(n:Int):List Int:=if 7<=nPin d n then outsP d (nTile d n)else []
def rawN (d:Dev)(n:Int):List Int:=s0P d n++rawP d (nTile d n) (nPin d n) (wDir d n) (wTrk d n)
def srcsP (d:Dev)(n:Int):List Int:=if rnOkP d n/\¬(nPin d n=5\/nPin d n=6)then insL [] (rawN d n)else []
theorem s0P_len (d:Dev)(n:Int):(s0P d n).length<=2:=by
 unfold s0P outsP;split
 ·split<;>simp
 ·simp
theorem rawP_len {d:Dev}(h:DOk d)(t p wd wt:Int):(rawP d t p wd wt).length<=32:=fm_len (fun k _=>dirP_len h t p wd wt k)
theorem rawN_len {d:Dev}(h:DOk d)(n:Int):(rawN d n).length<=34:=by
 have:=s0P_len d n;have:=rawP_len h (nTile d n) (nPin d n) (wDir d n) (wTrk d n);unfold rawN;rw[List.length_append];omega
theorem srcsP_len (d:Dev)(n:Int):(srcsP d n).length<=34:=by
 unfold srcsP;split
 ·rename_i q;have:=insL_len [] (rawN d n);have:=rawN_len q.1.1 n;simp only[List.length_nil]at*;omega
 ·simp
theorem tk_of {d:Dev}{t:Int}(h:DOk d/\0<=t/\t<d.1*d.2.1):tk d t=0\/tk d t=1\/tk d t=2:=by
 unfold tk;rw[if_pos h];unfold tkp;split;omega;split<;>omega
theorem outP_one {d:Dev}{t:Int}(h:DOk d/\0<=t/\t<d.1*d.2.1):1<=outP (tk d t):=by
 rcases tk_of h with e | e | e<;>rw[e]<;>decide
theorem rawN_nodup {d:Dev}{n:Int}(h:rnOkP d n):(rawN d n).Nodup:=by
 have hd:=h.1;obtain⟨⟨ht0,ht1⟩,_,_⟩:=node_tp hd h.2.1 h.2.2.1;unfold rawN;rw[List.nodup_append];refine⟨?_,rawP_nodup hd _ _ _ _,?_⟩
 ·unfold s0P outsP;split
  ·split<;>simp<;>omega
  ·simp
 ·intro x hx y hy e;have hT:=hd.2.2.1;have hp:=per_le hd;obtain⟨dir,q0,hy⟩:=mem_fm.1 hy;obtain⟨t2,q2,hy⟩:=mem_fm.1 hy;obtain⟨i2,hy⟩:=mem_candP hy;have b:=(oneP_dec hd q0 (by omega) hy).2.2.1;rw[<-e]at b;unfold s0P at hx;split at hx
  ·have:x=nTile d n*per d+5\/x=nTile d n*per d+6:=by
    unfold outsP at hx;split at hx<;>simp at hx<;>omega
   unfold nPin at b;rcases this with e2 | e2
   ·rw[e2,Int.add_comm,Int.add_mul_emod_self_right,Int.emod_eq_of_lt (by omega) (by omega)]at b;omega
   ·rw[e2,Int.add_comm,Int.add_mul_emod_self_right,Int.emod_eq_of_lt (by omega) (by omega)]at b;omega
  ·simp at hx
theorem outPin_at {d:Dev}{t k:Int}(h:0<=k/\k<outP (tk d t)):outPinP d t k=t*per d+5+k:=by unfold outPinP;rw[if_pos h]
theorem srcs_spec (d:Dev)(n:Int):spec_Sources (d,n)=some (srcsP d n):=by
 unfold spec_Sources srcsP;simp only[rnOk_spec,Option.bind_some];by_cases h:rnOkP d n
 rotate_left
 ·rw[df h,if_neg (fun e=>h e.1)];rfl
 have hd:=h.1;have hT:=hd.2.2.1;have hp:=per_le hd;have hn:=nodesN_le hd;have h2:=h.2.2.1;have hm:=mul_le36 hd.1 hd.2.1;obtain⟨⟨ht0,ht1⟩,⟨hp0,hp1⟩,_⟩:=node_tp hd h.2.1 h.2.2.1;simp only[dt h,Bool.not_true,cond_false,per_spec hd,Option.bind_some];rw[gdiv_nn h.2.1 (by omega) (by omega),grem_nn h.2.1 (by omega)];have e1:n/per d=nTile d n:=rfl;have e2:n % per d=nPin d n:=rfl;simp only[Option.bind_some,e1,e2];by_cases q5:nPin d n=5
 ·rw[dt q5,if_neg (fun e=>e.2 (Or.inl q5))];rfl
 rw[df q5,cond_false];by_cases q6:nPin d n=6
 ·rw[dt q6,if_neg (fun e=>e.2 (Or.inr q6))];rfl
 rw[df q6,cond_false,if_pos ⟨h,by omega⟩];have hjoin:∃a b,(7<=nPin d n->a=wDir d n/\b=wTrk d n)/\(bif decide (7<=nPin d n)then(
  (spec_l27Wire (d,n)).bind fun v10=>
  (spec_OutPin (d,(nTile d n,0))).bind fun v11=>
  let v12:List Int:=[v11]
  (gapp 8 ([]:List Int) v12).bind fun v13=>
  (spec_TileKind (d,nTile d n)).bind fun v14=>
  (spec_OutPins v14).bind fun v15=>
  let v16:Bool:=decide (1<v15)
  bif v16 then(
   (spec_OutPin (d,(nTile d n,1))).bind fun v17=>
   let v18:List Int:=[v17]
   (gapp 8 v13 v18).bind fun v19=>
   some (.inl (v10.1,(v10.2,v19))))else
  some (.inl (v10.1,(v10.2,v13))))else
  some ((.inl (0,(0,([]:List Int)))):(Int×(Int×List Int))⊕List Int))=some (.inl (a,(b,s0P d n))):=by
  by_cases h7:7<=nPin d n
  ·refine⟨wDir d n,wTrk d n,fun _=>⟨rfl,rfl⟩,?_⟩;have ho:=outP_one (d:=d) (t:=nTile d n) ⟨hd,ht0,ht1⟩;rw[dt h7,cond_true,l27Wire_spec hd h.2.1 h7];simp only[Option.bind_some];rw[outPin_spec d (nTile d n) 0 (by omega),outPin_at (by omega)];simp only[Option.bind_some];rw[gapp_ok (by simp),tk_spec d (nTile d n) (by omega)];simp only[Option.bind_some];rw[outPins_spec];simp only[Option.bind_some];unfold s0P outsP;rw[if_pos h7];by_cases q:1<outP (tk d (nTile d n))
   ·rw[dt q,cond_true,if_pos q,outPin_spec d (nTile d n) 1 (by omega),outPin_at (by omega)];simp only[Option.bind_some];rw[gapp_ok (by simp)];simp only[Option.bind_some,List.nil_append,List.cons_append,Int.add_zero];have:nTile d n*per d+5+1=nTile d n*per d+6:=by omega
    rw[this]
   ·rw[df q,cond_false,if_neg q];simp only[List.nil_append,Int.add_zero]
  ·refine⟨0,0,fun e=>absurd e h7,?_⟩;rw[df h7,cond_false];unfold s0P;rw[if_neg h7]
 obtain⟨a,b,hab,hjoin⟩:=hjoin;dsimp only at hjoin;rw[hjoin];rw[joinO_inl];dsimp only;have hs0:=s0P_len d n;have wdr:7<=nPin d n->(0<=a/\a<=3)/\(0<=b/\b<d.2.2.1):=by
  intro h7;obtain⟨hdir,hk,_⟩:=wire_dt hd h.2.1 h7 h.2.2.1;rw[(hab h7).1,(hab h7).2];exact⟨hdir,hk⟩
 have e00:((0:Int),s0P d n)=(fun k:Nat=>((k:Int),s0P d n++fm k (dirP d (nTile d n) (nPin d n) (wDir d n) (wTrk d n)))) 0:=by
  dsimp only;rw[fm_zero,List.append_nil];rfl
 rw[e00];refine loop_upto 4 (fun k=>((k:Int),s0P d n++fm k (dirP d (nTile d n) (nPin d n) (wDir d n) (wTrk d n)))) (fun dir hdir=> ?_) ?_
 ·dsimp only;rw[dt (by omega),cond_true];have l1:=fm_len (n:=dir) (g:=dirP d (nTile d n) (nPin d n) (wDir d n) (wTrk d n)) (b:=8) (fun k _=>dirP_len hd _ _ _ _ k);rw[fm_succ,<-List.append_assoc];have l0:(s0P d n++fm dir (dirP d (nTile d n) (nPin d n) (wDir d n) (wTrk d n))).length<=34:=by rw[List.length_append];omega
  generalize s0P d n++fm dir (dirP d (nTile d n) (nPin d n) (wDir d n) (wTrk d n))=A at*;unfold dirP;have e0:((0:Int),A)=(fun k:Nat=>((k:Int),A++fm k (candP d (nTile d n) (nPin d n) (wDir d n) (wTrk d n) dir))) 0:=by
   dsimp only;rw[fm_zero,List.append_nil];rfl
  rw[e0];refine loop_upto d.2.2.1.toNat (fun k=>((k:Int),A++fm k (candP d (nTile d n) (nPin d n) (wDir d n) (wTrk d n) dir))) (fun trk ht=> ?_) ?_
  ·dsimp only;rw[dt (by omega),cond_true];have l1:=fm_len (n:=trk) (g:=candP d (nTile d n) (nPin d n) (wDir d n) (wTrk d n) dir) (b:=2) (fun k _=>candP_len _ _ _ _ _ _ _);rw[fm_succ,<-List.append_assoc];have l0:(A++fm trk (candP d (nTile d n) (nPin d n) (wDir d n) (wTrk d n) dir)).length<=50:=by rw[List.length_append];omega
   generalize A++fm trk (candP d (nTile d n) (nPin d n) (wDir d n) (wTrk d n) dir)=B at*;have inner:¬skipP d (nPin d n) (wDir d n) (wTrk d n) dir trk->Pu.loop (fun(v15:(Int×List Int))=>
    (grem (trk:Int) 2).bind fun v16=>
    let v17:Int:=wrap .i64 (1+v16)
    let v18:Bool:=decide (v15.1<=v17)
    bif v18 then(
     let v19:Bool:=decide (7<=nPin d n)
     bif v19 then(
      (grem (trk:Int) 2).bind fun v20=>
      let v21:Int:=wrap .i64 (1+v20)
      let v22:Bool:=decide (v15.1<v21)
      bif v22 then(
       let v23:Int:=wrap .i64 (v15.1+1)
       some (.inl (v23,v15.2)))else
      let v23:Int:=wrap .i64 ((dir:Int)+2)
      (grem v23 4).bind fun v24=>
      (spec_TileStep (d,(nTile d n,(v24,v15.1)))).bind fun v25=>
      (spec_WireNode (d,(v25,((dir:Int),(trk:Int))))).bind fun v26=>
      let v27:Bool:=decide (0<=v26)
      bif v27 then(
       let v28:List Int:=[v26]
       (gapp 8 v15.2 v28).bind fun v29=>
       let v30:Int:=wrap .i64 (v15.1+1)
       some (.inl (v30,v29)))else
      let v28:Int:=wrap .i64 (v15.1+1)
      some (.inl (v28,v15.2)))else
     let v20:Int:=wrap .i64 ((dir:Int)+2)
     (grem v20 4).bind fun v21=>
     (spec_TileStep (d,(nTile d n,(v21,v15.1)))).bind fun v22=>
     (spec_WireNode (d,(v22,((dir:Int),(trk:Int))))).bind fun v23=>
     let v24:Bool:=decide (0<=v23)
     bif v24 then(
      let v25:List Int:=[v23]
      (gapp 8 v15.2 v25).bind fun v26=>
      let v27:Int:=wrap .i64 (v15.1+1)
      some (.inl (v27,v26)))else
     let v25:Int:=wrap .i64 (v15.1+1)
     some (.inl (v25,v15.2)))else
    Option.map Sum.inr (
     let v19:Int:=wrap .i64 ((trk:Int)+1)
     some ((.inl (v19,v15.2)):(Int×List Int)⊕((Int×List Int)⊕List Int)))) (1,B)=some (.inl (((trk+1:Nat):Int),B++candP d (nTile d n) (nPin d n) (wDir d n) (wTrk d n) dir trk)):=by
    intro hs;unfold candP;rw[if_neg hs];have e0:((1:Int),B)=(fun k:Nat=>((k:Int)+1,B++fm k (oneP d (nTile d n) (nPin d n) dir trk))) 0:=by
     dsimp only;rw[fm_zero,List.append_nil];rfl
    rw[e0];refine loop_upto (1+(trk:Int) % 2).toNat (fun k=>((k:Int)+1,B++fm k (oneP d (nTile d n) (nPin d n) dir trk))) (fun j hj=> ?_) ?_
    ·dsimp only;rw[grem_nn (by omega) (by omega)];simp only[Option.bind_some];rw[wrap_ok (z:=1+(trk:Int) % 2) (by omega),dt (by omega),cond_true,wrap_ok (z:=(dir:Int)+2) (by omega),grem_nn (by omega) (by omega),wrap_ok (z:=(j:Int)+1+1) (by omega)];simp only[Option.bind_some];have eo:((dir:Int)+2) % 4=opp dir:=rfl;rw[eo,stp_spec hd ht0 ht1 (opp_r (by omega)) (by omega)];simp only[Option.bind_some];rw[wn_spec hd (stp_lt hd) (by omega) (by omega)];simp only[Option.bind_some];have l1:=fm_len (n:=j) (g:=oneP d (nTile d n) (nPin d n) dir trk) (b:=1) (fun k _=>oneP_len _ _ _ _ _ _);rw[fm_succ,<-List.append_assoc];have l0:(B++fm j (oneP d (nTile d n) (nPin d n) dir trk)).length<=60:=by rw[List.length_append];omega
     generalize B++fm j (oneP d (nTile d n) (nPin d n) dir trk)=C at*;unfold oneP pos1;by_cases h7:7<=nPin d n
     ·rw[dt h7,cond_true];by_cases hl:(j:Int)+1<1+(trk:Int) % 2
      ·rw[dt hl,cond_true,if_pos ⟨h7,hl⟩,List.append_nil];rfl
      ·rw[df hl,cond_false,if_neg (fun e=>hl e.2)];by_cases hv:0<=wn d (stp d (nTile d n) (opp dir) ((j:Int)+1)) dir trk
       ·rw[dt hv,cond_true,if_pos hv,gapp_ok (by simp;omega)];rfl
       ·rw[df hv,cond_false,if_neg hv,List.append_nil];rfl
     ·rw[df h7,cond_false,if_neg (fun e=>h7 e.1)];by_cases hv:0<=wn d (stp d (nTile d n) (opp dir) ((j:Int)+1)) dir trk
      ·rw[dt hv,cond_true,if_pos hv,gapp_ok (by simp;omega)];rfl
      ·rw[df hv,cond_false,if_neg hv,List.append_nil];rfl
    ·dsimp only;rw[grem_nn (by omega) (by omega)];simp only[Option.bind_some];rw[wrap_ok (z:=1+(trk:Int) % 2) (by omega),df (by omega),cond_false,wrap_ok (z:=(trk:Int)+1) (by omega)];rfl
   dsimp only at inner;by_cases h7:7<=nPin d n
   ·obtain⟨ea,eb⟩:=hab h7;obtain⟨hra,hrb⟩:=wdr h7;rw[dt h7]at inner;rw[dt h7,cond_true,wrap_ok (z:=a+2) (by omega),grem_nn (by omega) (by omega)];simp only[Option.bind_some];have eo:(a+2) % 4=opp (wDir d n):=by rw[<-ea];rfl
    rw[eo];by_cases g1:(dir:Int)=opp (wDir d n)
    ·rw[dt g1,cond_true,wrap_ok (z:=(trk:Int)+1) (by omega)];rw[candP_skip (Or.inl ⟨h7,Or.inl g1⟩),List.append_nil];rfl
    rw[df g1,cond_false];by_cases g2:(trk:Int)≠b
    ·rw[dt g2,cond_true,wrap_ok (z:=b+1) (by omega),grem_nn (by omega) (by omega)];simp only[Option.bind_some];by_cases g3:(trk:Int)≠(b+1) % d.2.2.1
     ·rw[dt g3,cond_true,wrap_ok (z:=(trk:Int)+1) (by omega)];rw[candP_skip (Or.inl ⟨h7,Or.inr ⟨by rw[<-eb];exact g2,by rw[<-eb];exact g3⟩⟩),List.append_nil];rfl
     ·rw[df g3,cond_false,df (show ¬nPin d n<7 by omega),cond_false];refine inner ?_
      unfold skipP;rw[<-eb]
      rintro(⟨_,e | e⟩ | ⟨e,_⟩)
      ·exact g1 e
      ·exact g3 e.2
      ·omega
    ·rw[df g2,cond_false,df (show ¬nPin d n<7 by omega),cond_false];refine inner ?_
     unfold skipP;rw[<-eb]
     rintro(⟨_,e | e⟩ | ⟨e,_⟩)
     ·exact g1 e
     ·exact g2 e.1
     ·omega
   ·rw[df h7]at inner;rw[df h7,cond_false,dt (show nPin d n<7 by omega),cond_true];by_cases g1:1<d.2.2.1
    ·rw[dt g1,cond_true,wrap_ok (z:=(trk:Int)+nPin d n) (by omega),grem_nn (by omega) (by omega)];simp only[Option.bind_some];by_cases g2:((trk:Int)+nPin d n) % 2=1
     ·rw[dt g2,cond_true,wrap_ok (z:=(trk:Int)+1) (by omega)];rw[candP_skip (Or.inr ⟨by omega,g1,g2⟩),List.append_nil];rfl
     ·rw[df g2,cond_false];refine inner ?_
      rintro(⟨e,_⟩ | ⟨_,_,e⟩)
      ·omega
      ·exact g2 e
    ·rw[df g1,cond_false];refine inner ?_
     rintro(⟨e,_⟩ | ⟨_,e,_⟩)
     ·omega
     ·exact g1 e
  ·dsimp only;rw[df (by omega),cond_false,wrap_ok (z:=(dir:Int)+1) (by omega)];rfl
 ·dsimp only;rw[df (by omega),cond_false];have hl:=rawN_len hd n;have hnd:=rawN_nodup h;unfold rawN rawP at*;rw[sort_nodup (by omega) hnd];rfl
theorem ins_pos (l:List Int)(v:Int):(if 0<=v then ins l v else l)=insL l (pos1 v):=by
 unfold pos1;split
 ·rfl
 ·rfl
theorem pinSrcs_impl {d:Dev}(h:DOk d){t p:Int}(ht0:0<=t)(ht1:t<d.1*d.2.1)(hp:0<=p/\p<5)(wd wt:Int):impl_pinSources (d,(t,p))=some (insL [] (rawP d t p wd wt)):=by
 unfold impl_pinSources;have hT:=h.2.2.1;have hlen:∀(xs:List Int),xs.length<=100->(insL [] xs).length<=100:=by
  intro xs hx;have:=insL_len [] xs;simp at this;omega
 refine loop_upto 4 (fun k=>(insL [] (fm k (dirP d t p wd wt)),(k:Int))) (fun dir hdir=> ?_) ?_
 ·dsimp only;rw[dt (by omega),cond_true];have l1:=fm_len (n:=dir) (g:=dirP d t p wd wt) (b:=8) (fun k _=>dirP_len h _ _ _ _ k);rw[fm_succ];generalize fm dir (dirP d t p wd wt)=A at*;unfold dirP;have e0:((0:Int),insL [] A)=(fun k:Nat=>((k:Int),insL [] (A++fm k (candP d t p wd wt dir)))) 0:=by
   dsimp only;rw[fm_zero,List.append_nil];rfl
  rw[e0];refine loop_upto d.2.2.1.toNat (fun k=>((k:Int),insL [] (A++fm k (candP d t p wd wt dir)))) (fun trk ht=> ?_) ?_
  ·dsimp only;rw[dt (by omega),cond_true];have l1:=fm_len (n:=trk) (g:=candP d t p wd wt dir) (b:=2) (fun k _=>candP_len _ _ _ _ _ _ _);rw[fm_succ,<-List.append_assoc];have l0:(A++fm trk (candP d t p wd wt dir)).length<=50:=by rw[List.length_append];omega
   generalize A++fm trk (candP d t p wd wt dir)=B at*;have inner:¬skipP d p wd wt dir trk->Pu.loop (fun(v6:(Int×List Int))=>
    (impl_wireLength (trk:Int)).bind fun v7=>
    let v8:Bool:=decide (v6.1<=v7)
    bif v8 then(
     let v9:Int:=wrap .i64 ((dir:Int)+2)
     (grem v9 4).bind fun v10=>
     (impl_tileStep (d,(t,(v10,v6.1)))).bind fun v11=>
     let v12:Bool:=decide (v11<0)
     bif v12 then(
      let v13:Int:=wrap .i64 (v6.1+1)
      some (.inl (v13,v6.2)))else
     (impl_WireNode (d,(v11,((dir:Int),(trk:Int))))).bind fun v13=>
     let v14:Bool:=decide (0<=v13)
     bif v14 then(
      (impl_insertInt (v6.2,v13)).bind fun v15=>
      let v16:Int:=wrap .i64 (v6.1+1)
      some (.inl (v16,v15)))else
     let v15:Int:=wrap .i64 (v6.1+1)
     some (.inl (v15,v6.2)))else
    Option.map Sum.inr (
     let v9:Int:=wrap .i64 ((trk:Int)+1)
     some ((.inl (v9,v6.2)):(Int×List Int)⊕((List Int×Int)⊕List Int)))) (1,insL [] B)=some (.inl (((trk+1:Nat):Int),insL [] (B++candP d t p wd wt dir trk))):=by
    intro hs;unfold candP;rw[if_neg hs];have e0:((1:Int),insL [] B)=(fun k:Nat=>((k:Int)+1,insL [] (B++fm k (oneP d t p dir trk)))) 0:=by
     dsimp only;rw[fm_zero,List.append_nil];rfl
    rw[e0];refine loop_upto (1+(trk:Int) % 2).toNat (fun k=>((k:Int)+1,insL [] (B++fm k (oneP d t p dir trk)))) (fun j hj=> ?_) ?_
    ·dsimp only;rw[wireLen_impl (by omega)];simp only[Option.bind_some];rw[dt (by omega),cond_true,wrap_ok (z:=(dir:Int)+2) (by omega),grem_nn (by omega) (by omega),wrap_ok (z:=(j:Int)+1+1) (by omega)];simp only[Option.bind_some];have eo:((dir:Int)+2) % 4=opp dir:=rfl;rw[eo,stp_impl h ht0 ht1 (opp_r (by omega)) (by omega)];simp only[Option.bind_some];have l1:=fm_len (n:=j) (g:=oneP d t p dir trk) (b:=1) (fun k _=>oneP_len _ _ _ _ _ _);rw[fm_succ,<-List.append_assoc];have l0:(B++fm j (oneP d t p dir trk)).length<=60:=by rw[List.length_append];omega
     have l2:=hlen _ (Nat.le_trans l0 (by decide));generalize B++fm j (oneP d t p dir trk)=C at*;rw[insL_app];unfold oneP;rw[if_neg (fun e=>by omega)];by_cases q:stp d t (opp dir) ((j:Int)+1)<0
     ·rw[dt q,cond_true];have:wn d (stp d t (opp dir) ((j:Int)+1)) dir trk= -1:=by unfold wn;rw[if_neg (by omega)]
      rw[this];rfl
     rw[df q,cond_false,wn_impl h (stp_lt h) (by omega) (by omega)];simp only[Option.bind_some];rw[<-ins_pos];by_cases hv:0<=wn d (stp d t (opp dir) ((j:Int)+1)) dir trk
     ·rw[dt hv,cond_true,if_pos hv,insert_impl _ _ (by omega)];rfl
     ·rw[df hv,cond_false,if_neg hv];rfl
    ·dsimp only;rw[wireLen_impl (by omega)];simp only[Option.bind_some];rw[df (by omega),cond_false,wrap_ok (z:=(trk:Int)+1) (by omega)];rfl
   dsimp only at inner;by_cases g1:1<d.2.2.1
   ·rw[dt g1,cond_true,wrap_ok (z:=(trk:Int)+p) (by omega),grem_nn (by omega) (by omega)];simp only[Option.bind_some];by_cases g2:((trk:Int)+p) % 2≠0
    ·rw[dt g2,cond_true,wrap_ok (z:=(trk:Int)+1) (by omega)];rw[candP_skip (Or.inr ⟨by omega,g1,by omega⟩),List.append_nil];rfl
    ·rw[df g2,cond_false];refine inner ?_
     rintro(⟨e,_⟩ | ⟨_,_,e⟩)
     ·omega
     ·omega
   ·rw[df g1,cond_false];refine inner ?_
    rintro(⟨e,_⟩ | ⟨_,e,_⟩)
    ·omega
    ·exact g1 e
  ·dsimp only;rw[df (by omega),cond_false,wrap_ok (z:=(dir:Int)+1) (by omega)];rfl
 ·dsimp only;rw[df (by omega),cond_false];rfl
def outI (d:Dev)(t:Int)(k:Nat):List Int:=pos1 (outPinP d t k)
def trkI (d:Dev)(wt:Int)(i:Nat):Int:=if i=0 then wt else(wt+1) % d.2.2.1
def oneI (d:Dev)(t wt:Int)(dir i:Nat):List Int:=if 0<=stp d t (opp dir) (1+trkI d wt i % 2)then [wn d (stp d t (opp dir) (1+trkI d wt i % 2)) dir (trkI d wt i)]else []
def candI (d:Dev)(t wd wt:Int)(dir:Nat):List Int:=if(dir:Int)=opp wd then []else fm 2 (oneI d t wt dir)
def rawI (d:Dev)(t wd wt:Int):List Int:=fm 2 (outI d t)++fm 4 (candI d t wd wt)
theorem oneI_len (d:Dev)(t wt:Int)(dir i:Nat):(oneI d t wt dir i).length<=1:=by unfold oneI;split<;>simp
theorem candI_len (d:Dev)(t wd wt:Int)(dir:Nat):(candI d t wd wt dir).length<=2:=by
 unfold candI;split
 ·simp
 ·exact fm_len (fun k _=>oneI_len _ _ _ _ _)
theorem trkI_r {d:Dev}(h:DOk d){wt:Int}(hwt:0<=wt/\wt<d.2.2.1)(i:Nat):0<=trkI d wt i/\trkI d wt i<d.2.2.1:=by
 have hT:=h.2.2.1;unfold trkI;split
 ·exact hwt
 ·exact⟨Int.emod_nonneg _ (by omega),Int.emod_lt_of_pos _ (by omega)⟩
theorem mem_out {d:Dev}{n x:Int}(h:DOk d/\0<=nTile d n/\nTile d n<d.1*d.2.1)(h7:7<=nPin d n):x∈fm 2 (outI d (nTile d n))↔x∈s0P d n:=by
 have ho:=outP_one h;have ho2:=outP_le (tk d (nTile d n));have hp:=per_le h.1;have hm:0<=nTile d n*per d:=Int.mul_nonneg (by omega) (by omega);have e0:outPinP d (nTile d n) ((0:Nat):Int)=nTile d n*per d+5:=by
  rw[outPin_at ⟨by omega,by omega⟩];simp
 have ef:fm 2 (outI d (nTile d n))=outI d (nTile d n) 0++outI d (nTile d n) 1:=by rw[fm_succ,fm_succ,fm_zero];rfl
 rw[ef];unfold outI;rw[e0,List.mem_append,mem_pos1,mem_pos1];unfold s0P outsP;rw[if_pos h7];by_cases q:1<outP (tk d (nTile d n))
 ·rw[if_pos q,outPin_at (by omega)];simp;omega
 ·rw[if_neg q];have:outPinP d (nTile d n) ((1:Nat):Int)= -1:=by unfold outPinP;rw[if_neg (by omega)]
  rw[this];simp;omega
theorem mem_cand {d:Dev}{t p wd wt x:Int}{dir:Nat}(h:DOk d)(ht0:0<=t)(ht1:t<d.1*d.2.1)(h7:7<=p)(hdir:dir<4)(hwt:0<=wt/\wt<d.2.2.1):x∈candI d t wd wt dir↔x∈dirP d t p wd wt dir:=by
 have hT:=h.2.2.1
 constructor
 ·intro hx;unfold candI at hx;split at hx
  ·simp at hx
  rename_i hne;obtain⟨i,hi,hx⟩:=mem_fm.1 hx;unfold oneI at hx;split at hx
  rotate_left
  ·simp at hx
  rename_i hs;have hx:=List.mem_singleton.1 hx;obtain⟨hb0,hb1⟩:=trkI_r h hwt i;have hb:trkI d wt i=wt\/trkI d wt i=(wt+1) % d.2.2.1:=by unfold trkI;split;exact Or.inl rfl;exact Or.inr rfl
  generalize trkI d wt i=b at*;obtain⟨n,rfl⟩:∃n:Nat,b=(n:Int):=⟨b.toNat,by omega⟩;have hback:=stp_back (dir:=(dir:Int)) h ht0 ht1 (by omega) hs;have hv:0<=wn d (stp d t (opp dir) (1+(n:Int) % 2)) dir n:=by
   unfold wn;rw[if_pos ⟨hs,by rw[hback];exact ht0⟩];have hp:=per_le h;have m1:=Int.mul_nonneg hs (show 0<=per d by omega);have m2:=Int.mul_nonneg (show 0<=(dir:Int)by omega) (show 0<=d.2.2.1 by omega);omega
  refine mem_fm.2 ⟨n,by omega,?_⟩;unfold candP;rw[if_neg (by
   rintro(⟨_,e | e⟩ | ⟨e,_⟩)
   ·exact hne e
   ·rcases hb with e1 | e1
    ·exact e.1 e1
    ·exact e.2 e1
   ·omega)]
  refine mem_fm.2 ⟨((n:Int) % 2).toNat,by omega,?_⟩;unfold oneP;have ej:(((n:Int) % 2).toNat:Int)+1=1+(n:Int) % 2:=by omega
  rw[if_neg (by omega),ej,mem_pos1];exact⟨hv,hx⟩
 ·intro hx;obtain⟨n,hn,hx⟩:=mem_fm.1 hx;unfold candP at hx;split at hx
  ·simp at hx
  rename_i hs;obtain⟨j,hj,hx⟩:=mem_fm.1 hx;unfold oneP at hx;split at hx
  ·simp at hx
  rename_i hl;have ej:(j:Int)+1=1+(n:Int) % 2:=by omega
  rw[ej]at hx;obtain⟨hv,hx⟩:=mem_pos1.1 hx;have hs0:=(wn_dec (s:=stp d t (opp dir) (1+(n:Int) % 2)) (dir:=(dir:Int)) (trk:=(n:Int)) h (stp_lt h) (by omega) (by omega) hv).1;unfold candI;have hne:¬(dir:Int)=opp wd:=fun e=>hs (Or.inl ⟨h7,Or.inl e⟩)
  rw[if_neg hne];have hb:∃i,i<2/\trkI d wt i=(n:Int):=by
   by_cases q:(n:Int)=wt
   ·exact⟨0,by omega,by unfold trkI;rw[if_pos rfl];exact q.symm⟩
   ·refine⟨1,by omega,?_⟩;unfold trkI;rw[if_neg (by omega)]
    by_cases q2:(n:Int)=(wt+1) % d.2.2.1
    ·exact q2.symm
    ·exact absurd (Or.inl ⟨h7,Or.inr ⟨q,q2⟩⟩) hs
  obtain⟨i,hi,hb⟩:=hb;refine mem_fm.2 ⟨i,hi,?_⟩;unfold oneI;rw[hb,if_pos hs0];exact List.mem_singleton.2 hx
theorem mem_raw {d:Dev}{n x:Int}(h:rnOkP d n)(h7:7<=nPin d n):x∈rawI d (nTile d n) (wDir d n) (wTrk d n)↔x∈rawN d n:=by
 have hd:=h.1;obtain⟨⟨ht0,ht1⟩,_,_⟩:=node_tp hd h.2.1 h.2.2.1;obtain⟨hdir,hk,_⟩:=wire_dt hd h.2.1 h7 h.2.2.1;unfold rawI rawN;rw[List.mem_append,List.mem_append,mem_out ⟨hd,ht0,ht1⟩ h7];have:x∈fm 4 (candI d (nTile d n) (wDir d n) (wTrk d n))↔x∈rawP d (nTile d n) (nPin d n) (wDir d n) (wTrk d n):=by
  unfold rawP;rw[mem_fm,mem_fm]
  constructor
  ·rintro⟨k,hk1,hk2⟩
   exact⟨k,hk1,(mem_cand hd ht0 ht1 h7 hk1 hk).1 hk2⟩
  ·rintro⟨k,hk1,hk2⟩
   exact⟨k,hk1,(mem_cand hd ht0 ht1 h7 hk1 hk).2 hk2⟩
 rw[this]
theorem wireSrcs_impl {d:Dev}(h:DOk d){t wd wt:Int}(ht0:0<=t)(ht1:t<d.1*d.2.1)(hwd:0<=wd/\wd<=3)(hwt:0<=wt/\wt<d.2.2.1):impl_wireSources (d,(t,(wd,wt)))=some (insL [] (rawI d t wd wt)):=by
 unfold impl_wireSources rawI;have hT:=h.2.2.1;have hm:=mul_le36 h.1 h.2.1;have hlen:∀(xs:List Int),xs.length<=100->(insL [] xs).length<=100:=by
  intro xs hx;have:=insL_len [] xs;simp at this;omega
 refine loop_upto 2 (fun k=>(insL [] (fm k (outI d t)),(k:Int))) (fun k hk=> ?_) ?_
 ·dsimp only;rw[dt (by omega),cond_true,outPin_impl d t k (by omega)];simp only[Option.bind_some];have l1:=fm_len (n:=k) (g:=outI d t) (b:=1) (fun k _=>pos1_len _);have l2:=hlen (fm k (outI d t)) (by omega);rw[fm_succ,insL_app,show outI d t k=pos1 (outPinP d t k)from rfl,<-ins_pos,wrap_ok (z:=(k:Int)+1) (by omega)];by_cases q:0<=outPinP d t k
  ·rw[dt q,cond_true,if_pos q,insert_impl _ _ (by omega)];rfl
  ·rw[df q,cond_false,if_neg q];rfl
 ·dsimp only;rw[df (by omega),cond_false];have l1:=fm_len (n:=2) (g:=outI d t) (b:=1) (fun k _=>pos1_len _);generalize fm 2 (outI d t)=A at*;have e0:((0:Int),insL [] A)=(fun k:Nat=>((k:Int),insL [] (A++fm k (candI d t wd wt)))) 0:=by
   dsimp only;rw[fm_zero,List.append_nil];rfl
  rw[e0];refine(Option.map_eq_some_iff).2 ⟨_,?_,rfl⟩;refine loop_upto 4 (fun k=>((k:Int),insL [] (A++fm k (candI d t wd wt)))) (fun dir hdir=> ?_) ?_
  ·dsimp only;rw[dt (by omega),cond_true,wrap_ok (z:=wd+2) (by omega),grem_nn (by omega) (by omega)];simp only[Option.bind_some];have eo:(wd+2) % 4=opp wd:=rfl;rw[eo,fm_succ,<-List.append_assoc];have l2:=fm_len (n:=dir) (g:=candI d t wd wt) (b:=2) (fun k _=>candI_len _ _ _ _ _);have l0:(A++fm dir (candI d t wd wt)).length<=50:=by rw[List.length_append];omega
   generalize A++fm dir (candI d t wd wt)=B at*;unfold candI;by_cases q:(dir:Int)=opp wd
   ·rw[dt q,cond_true,if_pos q,List.append_nil,wrap_ok (z:=(dir:Int)+1) (by omega)];rfl
   rw[df q,cond_false,if_neg q,wrap_ok (z:=wt+1) (by omega),grem_nn (by omega) (by omega)];simp only[Option.bind_some];have e0:((0:Int),insL [] B)=(fun k:Nat=>((k:Int),insL [] (B++fm k (oneI d t wt dir)))) 0:=by
    dsimp only;rw[fm_zero,List.append_nil];rfl
   rw[e0];refine loop_upto 2 (fun k=>((k:Int),insL [] (B++fm k (oneI d t wt dir)))) (fun i hi=> ?_) ?_
   ·obtain⟨hb0,hb1⟩:=trkI_r h hwt i;have eg:gget 0 [wt,(wt+1) % d.2.2.1] (i:Int)=some (trkI d wt i):=by
     have:i=0\/i=1:=by omega
     rcases this with rfl | rfl<;>rfl
    have l3:=fm_len (n:=i) (g:=oneI d t wt dir) (b:=1) (fun k _=>oneI_len _ _ _ _ _);have l4:(B++fm i (oneI d t wt dir)).length<=60:=by rw[List.length_append];omega
    have l5:=hlen _ (Nat.le_trans l4 (by decide));dsimp only[List.length_cons,List.length_nil];rw[dt (by omega),cond_true,gin_nat (by omega),eg];simp only[Option.bind_some];rw[wrap_ok (z:=(dir:Int)+2) (by omega),grem_nn (by omega) (by omega),wireLen_impl hb0];simp only[Option.bind_some];have eo:((dir:Int)+2) % 4=opp dir:=rfl;rw[eo,stp_impl h ht0 ht1 (opp_r (by omega)) (by omega)];simp only[Option.bind_some];rw[fm_succ,<-List.append_assoc];generalize B++fm i (oneI d t wt dir)=C at*;rw[insL_app];unfold oneI;rw[wrap_ok (z:=(i:Int)+1) (by omega)];by_cases q2:0<=stp d t (opp dir) (1+trkI d wt i % 2)
    ·rw[dt q2,cond_true,if_pos q2,wn_impl h (stp_lt h) (by omega) ⟨hb0,hb1⟩];simp only[Option.bind_some];rw[insert_impl _ _ (by omega)];rfl
    ·rw[df q2,cond_false,if_neg q2];rfl
   ·dsimp only[List.length_cons,List.length_nil];rw[df (by omega),cond_false,wrap_ok (z:=(dir:Int)+1) (by omega)];rfl
  ·dsimp only;rw[df (by omega),cond_false];rfl
theorem srcs_impl (d:Dev)(n:Int):impl_Sources (d,n)=some (srcsP d n):=by
 unfold impl_Sources srcsP;simp only[rnOk_impl,Option.bind_some];by_cases h:rnOkP d n
 rotate_left
 ·rw[df h,if_neg (fun e=>h e.1)];rfl
 have hd:=h.1;have hT:=hd.2.2.1;have hp:=per_le hd;have hn:=nodesN_le hd;have h2:=h.2.2.1;obtain⟨⟨ht0,ht1⟩,⟨hp0,hp1⟩,_⟩:=node_tp hd h.2.1 h.2.2.1;simp only[dt h,Bool.not_true,cond_false,nplace_impl hd h.2.1 (by omega),Option.bind_some];by_cases q5:nPin d n<5
 ·rw[dt q5,cond_true,if_pos ⟨h,by omega⟩,pinSrcs_impl hd ht0 ht1 ⟨hp0,q5⟩ (wDir d n) (wTrk d n)];simp only[Option.bind_some];unfold rawN s0P;rw[if_neg (by omega),List.nil_append]
 rw[df q5,cond_false];by_cases q7:nPin d n<7
 ·rw[dt q7,if_neg (fun e=>e.2 (by omega))];rfl
 rw[df q7,cond_false,if_pos ⟨h,by omega⟩,wireOf_impl hd h.2.1 (by omega) (by omega)];simp only[Option.bind_some];obtain⟨hdir,hk,_⟩:=wire_dt hd h.2.1 (by omega) h.2.2.1;rw[wireSrcs_impl hd ht0 ht1 hdir hk];simp only[Option.bind_some]
 congr 1
 exact asc_ext (asc_insL asc_nil) (asc_insL asc_nil) (fun x=>by rw[mem_insL,mem_insL,mem_raw h (by omega)])
end Go.Pf
/-
  Own work. Costs, paths' costs, routes, plainly.
-/
namespace Go.Pf
open Go Go.Pu
set_option linter.unusedVariables false
def costsP (d:Dev)(cs:List Int):Prop:=DOk d/\(cs.length:Int)=nodesN d/\∀c∈cs,1<=c/\c<=100000
instance (d:Dev)(cs:List Int):Decidable (costsP d cs):=by unfold costsP;exact inferInstance
theorem srcs_rn {d:Dev}{n x:Int}(h:x∈srcsP d n):rnOkP d n:=by
 unfold srcsP at h;split at h
 ·rename_i q;exact q.1
 ·simp at h
def pAt (xs:List Int)(i:Int):Int:=xs.getD i.toNat 0
def roOk (d:Dev)(src:Int)(snks ns ps:List Int)(k:Nat):Prop:=
 rnOkP d (nsAt ns k)/\nsAt ns k∉ns.take k/\(if k=0 then nsAt ns 0=src/\nsAt ps 0=0/\(nPin d (nsAt ns 0)=5\/nPin d (nsAt ns 0)=6)
  else(0<=nsAt ps k/\nsAt ps k<(k:Int))/\pAt ns (nsAt ps k)∈srcsP d (nsAt ns k)/\(nPin d (nsAt ns k)<5->nsAt ns k∈snks))
instance (d:Dev)(src:Int)(snks ns ps:List Int)(k:Nat):Decidable (roOk d src snks ns ps k):=by unfold roOk;exact inferInstance
def rnN (d:Dev):Int:=if DOk d then nodesN d else 0
theorem rnN_le (d:Dev):0<=rnN d/\rnN d<=828:=by
 unfold rnN;split
 ·rename_i h;have:=nodesN_le h;omega
 ·omega
def allIn (snks ns:List Int):Bool:=snks.all fun s=>decide (s∈ns)
def roP (d:Dev)(src:Int)(snks ns ps:List Int):Bool:=
 if(1<=(ns.length:Int)/\(ns.length:Int)<=rnN d)/\ps.length=ns.length then(if(List.range ns.length).all (fun k=>decide (roOk d src snks ns ps k))=true then allIn snks ns else false)else false
theorem nsAt_get {ns:List Int}{k:Nat}(h:k<ns.length):gget 0 ns (k:Int)=some (nsAt ns k):=by rw[gget_nat h,ns_at h]
theorem isOut_impl (d:Dev)(n:Int)(h:n<=9223372036854775807):impl_isOutPin (d,n)=some (decide (rnOkP d n/\(nPin d n=5\/nPin d n=6))):=by
 unfold impl_isOutPin;rw[rnOk_impl];simp only[Option.bind_some];by_cases q:rnOkP d n
 ·rw[dt q,Bool.not_true,cond_false,nplace_impl q.1 q.2.1 h];simp only[Option.bind_some];by_cases q5:nPin d n=5
  ·rw[dt q5,dt (show rnOkP d n/\(nPin d n=5\/nPin d n=6)from⟨q,Or.inl q5⟩)];rfl
  ·rw[df q5,cond_false]
   congr 1
   rw[decide_eq_decide];exact⟨fun e=>⟨q,Or.inr e⟩,fun e=>by omega⟩
 ·rw[df q,df (show ¬(rnOkP d n/\_)from fun e=>q e.1)];rfl
theorem isIn_impl (d:Dev)(n:Int)(h:n<=9223372036854775807):impl_isInPin (d,n)=some (decide (rnOkP d n/\nPin d n<5)):=by
 unfold impl_isInPin;rw[rnOk_impl];simp only[Option.bind_some];by_cases q:rnOkP d n
 ·rw[dt q,Bool.not_true,cond_false,nplace_impl q.1 q.2.1 h];simp only[Option.bind_some]
  congr 1
  rw[decide_eq_decide];exact⟨fun e=>⟨q,e⟩,fun e=>e.2⟩
 ·rw[df q,df (show ¬(rnOkP d n/\_)from fun e=>q e.1)];rfl
def mpA (ns:List Int):Nat->List (Int×Bool)
 | 0=>[]
 | k+1=>mset (mpA ns k) (nsAt ns k) true
theorem mpA_get (ns:List Int)(x:Int)(k:Nat)(h:k<=ns.length):mget (mpA ns k) x=decide (x∈ns.take k):=by
 induction k with
 | zero=>simp[mpA,mget]
 | succ k ih=>
  show mget (mset (mpA ns k) (nsAt ns k) true) x=_;rw[mget_mset,ih (by omega),take_at (by omega)];by_cases q:x=nsAt ns k
  ·rw[if_pos q,dt (by simp[q])]
  ·rw[if_neg q,decide_eq_decide];simp[q]
theorem ro_impl (d:Dev)(src:Int)(snks ns ps:List Int)(hsl:snks.length<=1048576)(hsr:src<=9223372036854775807):impl_RouteOk (d,(src,(snks,(ns,ps))))=some (roP d src snks ns ps):=by
 have hN:=rnN_le d;unfold impl_RouteOk roP;have eRN:impl_RouteNodes d=some (rnN d):=by
  unfold impl_RouteNodes rnN;rw[devOk_impl];simp only[Option.bind_some];by_cases h:DOk d
  ·rw[dt h,if_pos h,routeNodes_impl h];rfl
  ·rw[df h,if_neg h];rfl
 simp only[eRN,Option.bind_some];by_cases h1:(ns.length:Int)<1
 ·rw[dt h1,if_neg (fun e=>by omega)];rfl
 rw[df h1,cond_false];by_cases h1b:rnN d<(ns.length:Int)
 ·rw[dt h1b,if_neg (fun e=>by omega)];rfl
 rw[df h1b,cond_false];by_cases h2:ps.length=ns.length
 rotate_left
 ·rw[dt (by omega),if_neg (fun e=>h2 e.2)];rfl
 rw[df (show ¬(ps.length:Int)≠(ns.length:Int)by omega),if_pos ⟨by omega,h2⟩,cond_false];have ep:gget 0 ps 0=some (nsAt ps 0):=nsAt_get (show 0<ps.length by omega);have en:gget 0 ns 0=some (nsAt ns 0):=nsAt_get (show 0<ns.length by omega);have bad:¬roOk d src snks ns ps 0->(if(List.range ns.length).all (fun k=>decide (roOk d src snks ns ps k))=true then allIn snks ns else false)=false:=by
  intro e;rw[if_neg];intro q;exact e (of_decide_eq_true (List.all_eq_true.1 q 0 (List.mem_range.2 (by omega))))
 rw[en];simp only[Option.bind_some];by_cases h3:nsAt ns 0=src
 rotate_left
 ·rw[dt h3,bad (fun e=>h3 (by have:=e.2.2;rw[if_pos rfl]at this;exact this.1))];rfl
 rw[df (fun e=>e h3),cond_false,isOut_impl d src hsr];simp only[Option.bind_some];by_cases h4:rnOkP d src/\(nPin d src=5\/nPin d src=6)
 rotate_left
 ·rw[df h4,bad (fun e=>h4 (by have:=e.2.2;rw[if_pos rfl]at this;rw[<-h3];exact⟨e.1,this.2.2⟩))];rfl
 rw[dt h4,Bool.not_true,cond_false,ep];simp only[Option.bind_some];by_cases h5:nsAt ps 0=0
 rotate_left
 ·rw[dt h5,bad (fun e=>h5 (by have:=e.2.2;rw[if_pos rfl]at this;exact this.2.1))];rfl
 rw[df (fun e=>e h5),cond_false];have inSmall:∀n,rnOkP d n->n<=9223372036854775807:=by
  intro n q;have:=q.2.2.1;have:=nodesN_le q.1;omega
 refine loop_all ns.length (fun k=>((k:Int),mpA ns k)) (fun k=>decide (roOk d src snks ns ps k)) false (allIn snks ns) (fun k hk hok=> ?_) (fun k hk hok=> ?_) ?_
 ·have hok:=of_decide_eq_true hok;obtain⟨g1,g2,g3⟩:=hok
  try dsimp only
  rw[dt (show(k:Int)<(ns.length:Int)by omega),cond_true,nsAt_get hk];simp only[Option.bind_some];rw[rnOk_impl];simp only[Option.bind_some];rw[dt g1,Bool.not_true,cond_false,mpA_get _ _ _ (by omega),df g2,cond_false,wrap_ok (z:=(k:Int)+1) (by omega),isIn_impl _ _ (inSmall _ g1)];simp only[Option.bind_some];by_cases k0:k=0
  ·subst k0;rw[if_pos rfl]at g3;rw[df (show ¬(0:Int)<((0:Nat):Int)by simp),cond_false,df (fun e=>by have:=e.2;omega),cond_false];rfl
  ·rw[if_neg k0]at g3;obtain⟨g3,g4,g5⟩:=g3;rw[dt (show(0:Int)<(k:Int)by omega),cond_true,nsAt_get (show k<ps.length by omega)];simp only[Option.bind_some];rw[wrap_ok (z:=(k:Int) - 1) (by omega),inR_impl];simp only[Option.bind_some];rw[dt (by omega),Bool.not_true,cond_false,gget_some (xs:=ns) g3.1 (by omega)];simp only[Option.bind_some];rw[srcs_impl];simp only[Option.bind_some];rw[has_impl _ _ (Nat.le_trans (srcsP_len _ _) (by decide))];simp only[Option.bind_some];rw[dt (show ns.getD (nsAt ps k).toNat 0∈srcsP d (nsAt ns k)from g4),Bool.not_true,cond_false];by_cases q:nPin d (nsAt ns k)<5
   ·rw[dt ⟨g1,q⟩,cond_true,has_impl _ _ (by omega)];simp only[Option.bind_some];rw[dt (g5 q),Bool.not_true,cond_false];rfl
   ·rw[df (fun e=>q e.2),cond_false];rfl
 ·have hok:=of_decide_eq_false hok
  try dsimp only
  rw[dt (show(k:Int)<(ns.length:Int)by omega),cond_true,nsAt_get hk];simp only[Option.bind_some];rw[rnOk_impl];simp only[Option.bind_some];by_cases g1:rnOkP d (nsAt ns k)
  rotate_left
  ·rw[df g1];rfl
  rw[dt g1,Bool.not_true,cond_false,mpA_get _ _ _ (by omega)];by_cases g2:nsAt ns k∈ns.take k
  ·rw[dt g2];rfl
  rw[df g2,cond_false];by_cases k0:k=0
  ·subst k0;exact absurd ⟨g1,g2,by rw[if_pos rfl];exact⟨h3,h5,by rw[h3];exact h4.2⟩⟩ hok
  rw[dt (show(0:Int)<(k:Int)by omega),cond_true,nsAt_get (show k<ps.length by omega)];simp only[Option.bind_some];rw[wrap_ok (z:=(k:Int) - 1) (by omega),inR_impl];simp only[Option.bind_some];by_cases g3:0<=nsAt ps k/\nsAt ps k<=(k:Int) - 1
  rotate_left
  ·rw[df g3];rfl
  rw[dt g3,Bool.not_true,cond_false,gget_some (xs:=ns) g3.1 (by omega)];simp only[Option.bind_some];rw[srcs_impl];simp only[Option.bind_some];rw[has_impl _ _ (Nat.le_trans (srcsP_len _ _) (by decide))];simp only[Option.bind_some];have ea:ns.getD (nsAt ps k).toNat 0=pAt ns (nsAt ps k):=rfl;rw[ea];by_cases g5:pAt ns (nsAt ps k)∈srcsP d (nsAt ns k)
  rotate_left
  ·rw[df g5];rfl
  rw[dt g5,Bool.not_true,cond_false,isIn_impl _ _ (inSmall _ g1)];simp only[Option.bind_some];by_cases q:nPin d (nsAt ns k)<5
  ·rw[dt ⟨g1,q⟩,cond_true,has_impl _ _ (by omega)];simp only[Option.bind_some];by_cases g6:nsAt ns k∈snks
   ·exact absurd ⟨g1,g2,by rw[if_neg k0];exact⟨⟨g3.1,by omega⟩,g5,fun _=>g6⟩⟩ hok
   rw[df g6];rfl
  ·exact absurd ⟨g1,g2,by rw[if_neg k0];exact⟨⟨g3.1,by omega⟩,g5,fun e=>absurd e q⟩⟩ hok
 ·try dsimp only
  rw[df (by omega),cond_false];refine(Option.map_eq_some_iff).2 ⟨_,?_,rfl⟩;have e:allIn snks ns=if(List.range snks.length).all (fun k=>if hk:k<snks.length then decide (snks[k]∈ns)else true)=true then true else false:=by
   rw[all_range_list snks (fun s=>decide (s∈ns)) _ (fun k hk=>by rw[dif_pos hk])];show allIn snks ns=if allIn snks ns=true then true else false
   cases allIn snks ns<;>rfl
  rw[e];have hmg:∀x,mget (mpA ns ns.length) x=decide (x∈ns):=fun x=>by rw[mpA_get _ _ _ (Nat.le_refl _),List.take_of_length_le (Nat.le_refl _)]
  refine loop_all snks.length (fun k=>(k:Int)) _ false true (fun k hk hok=> ?_) (fun k hk hok=> ?_) ?_
  ·rw[dif_pos hk]at hok
   try dsimp only
   rw[dt (show(k:Int)<(snks.length:Int)by omega),cond_true,gget_nat hk];simp only[Option.bind_some,hmg];rw[hok,Bool.not_true,cond_false,wrap_ok (by omega)];rfl
  ·rw[dif_pos hk]at hok
   try dsimp only
   rw[dt (show(k:Int)<(snks.length:Int)by omega),cond_true,gget_nat hk];simp only[Option.bind_some,hmg];rw[hok];rfl
  ·try dsimp only
   rw[df (by omega),cond_false];rfl
end Go.Pf
