/-
  Own work: parts Dsa, Ntb, Nte, Ntf, Ntg, Nth, LawNearestFree, Lep, Blk, Pko, Mkh, Mcs, Cno, Pck, plain lemmas.
-/
import Derived.Test.YthjfdjekombkkaaGreatQ0
/-
  Own work. Cheapest distances in a graph, plainly: what they are, and that they are unique; loops with results that are only described; the program's queue.
-/
namespace Go.Pf
open Go Go.Pu
set_option linter.unusedVariables false
theorem loop_uptoE {σ ω:Type}{f:σ->Option (σ⊕ω)}(n:Nat)(S:Nat->σ)(Q:ω->Prop)(h1:∀k,k<n->f (S k)=some (.inl (S (k+1))))(h2:∃o,f (S n)=some (.inr o)/\Q o):∃o,loop f (S 0)=some o/\Q o:=by
 obtain⟨o,h2,h3⟩:=h2;exact⟨o,loop_upto n S h1 h2,h3⟩
theorem mapE {α β:Type}{X:Option β}{Q:β->Prop}(h:∃o,X=some o/\Q o):∃o,Option.map (Sum.inr:β->α⊕β) X=some (.inr o)/\Q o:=by
 obtain⟨o,h1,h2⟩:=h;exact⟨o,by rw[h1];rfl,h2⟩
theorem stepE {α β:Type}{X:Option (α⊕β)}{A:α->Prop}(h:∃o,X=some o/\∃s,o= .inl s/\A s):∃s,X=some (.inl s)/\A s:=by
 obtain⟨o,h1,s,h2,h3⟩:=h;exact⟨s,by rw[h1,h2],h3⟩
theorem joinE {α β:Type}{X:Option (α⊕β)}{k:α->Option β}{Q:β->Prop}(A:α->Prop)(h:∃o,X=some o/\∃a,o= .inl a/\A a)(h2:∀a,A a->∃p,k a=some p/\Q p):∃p,joinO X k=some p/\Q p:=by
 obtain⟨o,h1,a,e,ha⟩:=h;subst e;rw[h1];exact h2 a ha
def psum (p:Int->Nat):List Int->Nat
 | []=>0
 | a::r=>p a+psum p r
theorem psum_set (p:Int->Nat):∀(D:List Int) (k:Nat) (x:Int),k<D.length->psum p (D.set k x)+p (nsAt D k)=psum p D+p x
 | [],k,x,h=>by simp at h
 | a::r,0,x,_=>by
  have e:nsAt (a::r) 0=a:=rfl;rw[e];show p x+psum p r+p a=p a+psum p r+p x;omega
 | a::r,k+1,x,h=>by
  have ih:=psum_set p r k x (by simp only[List.length_cons]at h;omega);have e:nsAt (a::r) (k+1)=nsAt r k:=rfl;rw[e];show p a+psum p (r.set k x)+_=p a+psum p r+p x;omega
theorem psum_le (p:Int->Nat)(M:Nat):∀(D:List Int),(∀x∈D,p x<=M)->psum p D<=M*D.length
 | [],_=>by simp[psum]
 | a::r,h=>by
  have ih:=psum_le p M r (fun x hx=>h x (List.mem_cons_of_mem _ hx));have h1:=h a (by simp);show p a+psum p r<=M*(r.length+1);rw[Nat.mul_add];omega
theorem nsAt_set {D:List Int}{k:Nat}(x:Int)(j:Nat)(h:k<D.length):nsAt (D.set k x) j=if j=k then x else nsAt D j:=by
 unfold nsAt;rw[List.getD_eq_getElem?_getD,List.getD_eq_getElem?_getD];by_cases e:j=k
 ·rw[if_pos e,e,List.getElem?_set_self h];rfl
 ·rw[if_neg e,List.getElem?_set_ne (by omega)]
theorem nsAt_mem {D:List Int}{x:Int}(h:x∈D):∃k,k<D.length/\nsAt D k=x:=by
 obtain⟨k,hk,rfl⟩:=List.getElem_of_mem h;exact⟨k,hk,(ns_at hk).symm⟩
def cnt (D:List Int):Nat:=psum (fun x=>if 0<=x then 1 else 0) D
theorem cnt_le (D:List Int):cnt D<=D.length:=by
 have:=psum_le (fun x=>if 0<=x then 1 else 0) 1 D (fun x _=>by split<;>omega);unfold cnt;omega
theorem cnt_set {D:List Int}{k:Nat}{x:Int}(h:k<D.length)(hx:0<=x):cnt D<=cnt (D.set k x)/\(nsAt D k<0->cnt (D.set k x)=cnt D+1):=by
 have:=psum_set (fun x=>if 0<=x then 1 else 0) D k x h;unfold cnt;rw[if_pos hx]at this;refine⟨?_,fun q=> ?_⟩
 ·split at this<;>omega
 ·rw[if_neg (by omega)]at this;omega
def pw (x:Int):Nat:=if x<0 then 82800001 else x.toNat
def pot (D:List Int):Nat:=psum pw D
def gAt (G:List (List Int))(v:Nat):List Int:=G.getD v []
def GrOk (N:Nat)(G:List (List Int)):Prop:=G.length=N/\N<=828/\∀v,v<N->(gAt G v).length<=828/\∀x∈gAt G v,0<=x/\x<(N:Int)
def CsOk (N:Nat)(cs:List Int):Prop:=cs.length=N/\∀v,v<N->1<=nsAt cs v/\nsAt cs v<=100000
def DInv (N:Nat)(G:List (List Int))(cs ss D:List Int):Prop:=
 D.length=N/\(∀v,v<N→-1<=nsAt D v/\nsAt D v<=100000*(cnt D:Int))/\
 (∀v,v<N->0<=nsAt D v->((v:Int)∈ss/\nsAt D v=0)\/∃u:Nat,u<N/\(u:Int)∈gAt G v/\0<=nsAt D u/\nsAt D u+nsAt cs v<=nsAt D v)
def St0 (ss D:List Int):Prop:=∀s∈ss,nsAt D s.toNat=0
def Sat (cs D:List Int)(u v:Nat):Prop:=0<=nsAt D v/\nsAt D v<=nsAt D u+nsAt cs v
def IsDist (N:Nat)(G:List (List Int))(cs ss D:List Int):Prop:=
 DInv N G cs ss D/\St0 ss D/\∀u v:Nat,u<N->v<N->(u:Int)∈gAt G v->0<=nsAt D u->Sat cs D u v
theorem DInv.bound {N:Nat}{G:List (List Int)}{cs ss D:List Int}(hG:GrOk N G)(h:DInv N G cs ss D){v:Nat}(hv:v<N): -1<=nsAt D v/\nsAt D v<=82800000:=by
 have h1:=h.2.1 v hv;have h2:=cnt_le D;have h3:=h.1;have h4:=hG.2.1;omega
theorem dist_le {N:Nat}{G:List (List Int)}{cs ss D E:List Int}(hc:CsOk N cs)(hD:IsDist N G cs ss D)(hE:IsDist N G cs ss E):∀(n:Nat) (v:Nat),v<N->nsAt D v=(n:Int)->0<=nsAt E v/\nsAt E v<=nsAt D v:=by
 intro n
 induction n using Nat.strongRecOn with
 | ind n ih=>
  intro v hv e;rcases hD.1.2.2 v hv (by omega)with⟨h1,h2⟩ | ⟨u,hu,hm,h0,h1⟩
  ·have:=hE.2.1 _ h1;rw[Int.toNat_natCast]at this;omega
  ·have hcv:=hc.2 v hv;obtain⟨m,hm2⟩:∃m:Nat,nsAt D u=(m:Int):=⟨(nsAt D u).toNat,by omega⟩;have:=ih m (by omega) u hu hm2;have h3:=hE.2.2 u v hu hv hm this.1;unfold Sat at h3;omega
theorem dist_uniq {N:Nat}{G:List (List Int)}{cs ss D E:List Int}(hc:CsOk N cs)(hD:IsDist N G cs ss D)(hE:IsDist N G cs ss E):D=E:=by
 have hl1:=hD.1.1;have hl2:=hE.1.1;apply List.ext_getElem (by omega);intro v h1 h2;rw[ns_at h1,ns_at h2];have b1:=hD.1.2.1 v (by omega);have b2:=hE.1.2.1 v (by omega);by_cases q:0<=nsAt D v
 ·obtain⟨m,hm⟩:∃m:Nat,nsAt D v=(m:Int):=⟨(nsAt D v).toNat,by omega⟩;have a:=dist_le hc hD hE m v (by omega) hm;obtain⟨m2,hm2⟩:∃m:Nat,nsAt E v=(m:Int):=⟨(nsAt E v).toNat,by omega⟩;have b:=dist_le hc hE hD m2 v (by omega) hm2;omega
 ·by_cases q2:0<=nsAt E v
  ·obtain⟨m2,hm2⟩:∃m:Nat,nsAt E v=(m:Int):=⟨(nsAt E v).toNat,by omega⟩;have b:=dist_le hc hE hD m2 v (by omega) hm2;omega
  ·omega
theorem relax {N:Nat}{G:List (List Int)}{cs ss D:List Int}{u v:Nat}(hG:GrOk N G)(hc:CsOk N cs)(h:DInv N G cs ss D)(hu:u<N)(hv:v<N)(he:(u:Int)∈gAt G v)(h0:0<=nsAt D u)(hlt:nsAt D v<0\/nsAt D u+nsAt cs v<nsAt D v):
 DInv N G cs ss (D.set v (nsAt D u+nsAt cs v))/\pot (D.set v (nsAt D u+nsAt cs v))<pot D/\u≠v:=by
 have hl:=h.1;have hcv:=hc.2 v hv;have hne:u≠v:=by intro e;subst e;omega
 have hvl:v<D.length:=by omega
 have hcs:=cnt_set (D:=D) (k:=v) (x:=nsAt D u+nsAt cs v) hvl (by omega);have hcl:=cnt_le (D.set v (nsAt D u+nsAt cs v));rw[List.length_set]at hcl;have hN:=hG.2.1;have bu:=h.2.1 u hu;have bv:=h.2.1 v hv;have hnew:nsAt D u+nsAt cs v<=100000*(cnt (D.set v (nsAt D u+nsAt cs v)):Int):=by
  by_cases q:nsAt D v<0
  ·have:=hcs.2 q;omega
  ·omega
 refine⟨⟨by rw[List.length_set];exact hl,fun w hw=> ?_,fun w hw=> ?_⟩,?_,hne⟩
 ·rw[nsAt_set _ _ hvl];by_cases q:w=v
  ·rw[if_pos q];exact⟨by omega,hnew⟩
  ·rw[if_neg q];have:=h.2.1 w hw;omega
 ·rw[nsAt_set _ w hvl];by_cases q:w=v
  ·rw[if_pos q];intro _
   right
   refine⟨u,hu,by rw[q];exact he,?_,?_⟩
   ·rw[nsAt_set _ _ hvl,if_neg hne];exact h0
   ·rw[nsAt_set _ _ hvl,if_neg hne,q];omega
  ·rw[if_neg q];intro hw0;rcases h.2.2 w hw hw0 with e | ⟨u',hu',hm,g0,g1⟩
   ·exact Or.inl e
   ·right
    refine⟨u',hu',hm,?_,?_⟩
    ·rw[nsAt_set _ _ hvl];split
     ·omega
     ·exact g0
    ·rw[nsAt_set _ _ hvl];split
     ·rename_i q2;subst q2;omega
     ·exact g1
 ·have:=psum_set pw D v (nsAt D u+nsAt cs v) hvl;have hp:pw (nsAt D u+nsAt cs v)<pw (nsAt D v):=by
   unfold pw;rw[if_neg (by omega)];split<;>omega
  unfold pot;omega
theorem setStart {N:Nat}{G:List (List Int)}{cs ss D:List Int}{v:Nat}(hG:GrOk N G)(h:DInv N G cs ss D)(hv:v<N)(hs:(v:Int)∈ss):
 DInv N G cs ss (D.set v 0)/\pot (D.set v 0)<=pot D/\(nsAt D v≠0->pot (D.set v 0)<pot D):=by
 have hl:=h.1;have hvl:v<D.length:=by omega
 have hcs:=cnt_set (D:=D) (k:=v) (x:=0) hvl (by omega);refine⟨⟨by rw[List.length_set];exact hl,fun w hw=> ?_,fun w hw=> ?_⟩,?_,?_⟩
 ·rw[nsAt_set _ _ hvl];have:=h.2.1 w hw;split<;>omega
 ·rw[nsAt_set _ w hvl];by_cases q:w=v
  ·rw[if_pos q];intro _
   left
   rw[q];exact⟨hs,rfl⟩
  ·rw[if_neg q];intro hw0;rcases h.2.2 w hw hw0 with e | ⟨u',hu',hm,g0,g1⟩
   ·exact Or.inl e
   ·right
    refine⟨u',hu',hm,?_,?_⟩
    ·rw[nsAt_set _ _ hvl];split
     ·omega
     ·exact g0
    ·rw[nsAt_set _ _ hvl];split
     ·rename_i q2;subst q2;omega
     ·exact g1
 ·have:=psum_set pw D v 0 hvl;have:pw 0=0:=rfl;unfold pot;omega
 ·intro q;have:=psum_set pw D v 0 hvl;have:pw 0=0:=rfl;have hp:0<pw (nsAt D v):=by unfold pw;split<;>omega
  unfold pot;omega
theorem nsAt_rep (n:Nat)(x:Int){k:Nat}(h:k<n):nsAt (List.replicate n x) k=x:=by
 unfold nsAt;rw[List.getD,List.getElem?_replicate,if_pos h];rfl
theorem dInit (N:Nat)(G:List (List Int))(cs ss:List Int):DInv N G cs ss (List.replicate N (-1)):=by
 refine⟨by simp,fun v hv=> ?_,fun v hv h0=> ?_⟩
 ·rw[nsAt_rep _ _ hv];omega
 ·rw[nsAt_rep _ _ hv]at h0;omega
theorem pot_le {N:Nat}{G:List (List Int)}{cs ss D:List Int}(hG:GrOk N G)(h:DInv N G cs ss D):pot D<=82800001*828:=by
 have h1:=psum_le pw 82800001 D (fun x hx=>by
  obtain⟨k,hk,e⟩:=nsAt_mem hx;have:=h.bound hG (v:=k) (by have:=h.1;omega);unfold pw;split<;>omega)
 have h2:=h.1;have h3:=hG.2.1;have h4:82800001*D.length<=82800001*828:=Nat.mul_le_mul_left _ (by omega);unfold pot;omega
abbrev Qe:=Int×Int
theorem push_ok (q:List Qe)(x:Qe)(h:q.length<=100000000000):∃o,impl_pushQueue (q,x)=some o/\o.Perm (x::q):=by
 unfold impl_pushQueue;dsimp only;rw[gapp_some (by simp only[List.length_cons,List.length_nil];omega) (by simp only[List.length_cons,List.length_nil];omega)];simp only[Option.bind_some];have hlen:(q++[x]).length=q.length+1:=by simp
 have hperm:(q++[x]).Perm (x::q):=by
  have:=List.perm_append_comm (l₁:=q) (l₂:=[x]);exact this
 have hw:wrap .i64 (((q++[x]).length:Int) - 1)=(q.length:Int):=by rw[hlen,wrap_ok (by omega)];omega
 rw[hw];generalize q++[x]=q0 at*;refine joinE (fun a=>a.Perm (x::q)) ?_ (fun a ha=>⟨a,rfl,ha⟩);refine loop_spec (fun s:Int×List Qe=>(0<=s.1/\s.1<q0.length)/\s.2.Perm q0) (fun o=>∃a:List Qe,o=Sum.inl a/\a.Perm (x::q)) (fun s=>s.1.toNat) (fun s hs=> ?_) ((q.length:Int),q0) ⟨⟨by simp only;omega,by simp only;omega⟩,List.Perm.refl _⟩;obtain⟨i,a⟩:=s;obtain⟨⟨i0,i1⟩,hp⟩:=hs;simp only at i0 i1 hp;have hal:=hp.length_eq;obtain⟨n,rfl⟩:∃n:Nat,i=(n:Int):=⟨i.toNat,by omega⟩;dsimp only;by_cases hi:0<(n:Int)
 ·rw[dt hi,cond_true,wrap_ok (z:=(n:Int) - 1) (by omega),gdiv_nn (by omega) (by omega) (by omega)];simp only[Option.bind_some];have em:((n:Int) - 1)/2=(((n - 1)/2:Nat):Int):=by omega
  have hm:(n - 1)/2<a.length:=by omega
  have hn:n<a.length:=by omega
  rw[em,gin_nat hm,gget_nat hm,gin_nat hn,gget_nat hn];simp only[Option.bind_some];by_cases g:(a[(n - 1)/2]).1<=(a[n]).1
  ·right
   rw[dt g,cond_true];exact⟨_,rfl,_,rfl,hp.trans hperm⟩
  ·left
   rw[df g,cond_false,gset_nat,List.length_set,gin_nat hn,gget_nat (by rw[List.length_set];exact hn)];simp only[Option.bind_some];rw[gset_nat];refine⟨_,rfl,⟨⟨by simp only;omega,by simp only;omega⟩,?_⟩,by simp only;omega⟩;simp only;exact(List.set_set_perm hm hn).trans hp
 ·right
  rw[df hi,cond_false];exact⟨_,rfl,_,rfl,hp.trans hperm⟩
theorem pop_ok (q:List Qe)(h:q≠[])(hl:q.length<=100000000000):∃o,impl_popQueue q=some o/\(o.2::o.1).Perm q:=by
 unfold impl_popQueue;have h1:0<q.length:=List.length_pos_iff.2 h;have g0:gget ((0,0):Qe) q 0=some q[0]:=gget_nat h1;have i0:gin q.length 0=some ():=gin_nat h1;have hw:wrap .i64 ((q.length:Int) - 1)=((q.length - 1:Nat):Int):=by rw[wrap_ok (by omega)];omega
 dsimp only;rw[i0,g0,hw,gin_nat (by omega),gget_nat (show q.length - 1<q.length by omega)];simp only[Option.bind_some];have es:gset q 0 (q[q.length - 1])=q.set 0 (q[q.length - 1]):=rfl;rw[es];have esl:gslice (q.set 0 (q[q.length - 1])) 0 ((q.length - 1:Nat):Int)=some ((q.set 0 (q[q.length - 1])).take (q.length - 1)):=by
  unfold gslice;rw[if_pos ⟨by omega,by omega,by rw[List.length_set];omega⟩];simp
 rw[esl];simp only[Option.bind_some];have hperm:(q[0]::(q.set 0 (q[q.length - 1])).take (q.length - 1)).Perm q:=by
  cases q with
  | nil=>simp at h1
  | cons a r=>
   cases hr:r.reverse with
   | nil=>
    have:r=[]:=by simpa using hr
    subst this;simp
   | cons z m=>
    have er:r=m.reverse++[z]:=by
     have:=congrArg List.reverse hr;simpa using this
    subst er;simp;have:=List.perm_append_comm (l₁:=m.reverse) (l₂:=[z]);exact this.symm
 have hlen:((q.set 0 (q[q.length - 1])).take (q.length - 1)).length=q.length - 1:=by simp
 generalize (q.set 0 (q[q.length - 1])).take (q.length - 1)=a0 at*
 clear hw es esl g0 i0
 generalize q[0]=top at*;generalize hL:q.length - 1=L at*;refine joinE (fun a=>(top::a).Perm q) ?_ (fun a ha=>⟨(a,top),rfl,ha⟩);refine loop_spec (fun s:Int×List Qe=>(0<=s.1/\(s.1<L\/s.1=0))/\s.2.Perm a0) (fun o=>∃a:List Qe,o=Sum.inl a/\(top::a).Perm q) (fun s=>(L - s.1).toNat) (fun s hs=> ?_) (0,a0) ⟨⟨by simp,by simp⟩,List.Perm.refl _⟩;obtain⟨i,a⟩:=s;obtain⟨⟨j0,j1⟩,hp⟩:=hs;simp only at j0 j1 hp;have hal:=hp.length_eq;have hfin:(top::a).Perm q:=(hp.cons top).trans hperm;have hpl:=hperm.length_eq;simp only[List.length_cons]at hpl;obtain⟨n,rfl⟩:∃n:Nat,i=(n:Int):=⟨i.toNat,by omega⟩;dsimp only;have e2:wrap .i64 (wrap .i64 (2*(n:Int))+1)=((2*n+1:Nat):Int):=by rw[wrap_ok (z:=2*(n:Int)) (by omega),wrap_ok (by omega)];omega
 rw[e2];by_cases hi:(L:Int)<=((2*n+1:Nat):Int)
 ·right
  rw[dt hi,cond_true];exact⟨_,rfl,_,rfl,hfin⟩
 rw[df hi,cond_false];have e3:wrap .i64 (((2*n+1:Nat):Int)+1)=((2*n+2:Nat):Int):=by rw[wrap_ok (by omega)];omega
 rw[e3];have hn:n<a.length:=by omega
 have hm1:2*n+1<a.length:=by omega
 have pick:∃m:Nat,(m=2*n+1\/m=2*n+2)/\m<a.length/\(bif decide (((2*n+2:Nat):Int)<(L:Int))then(
  (gin (a).length ((2*n+2:Nat):Int)).bind fun _=>
  (gget ((0,0):Qe) a ((2*n+2:Nat):Int)).bind fun v20=>
  (gin (a).length ((2*n+1:Nat):Int)).bind fun _=>
  (gget ((0,0):Qe) a ((2*n+1:Nat):Int)).bind fun v22=>
  let v23:Bool:=decide (v20.1<v22.1)
  bif v23 then(
   some (.inl ((2*n+2:Nat):Int)))else
  some (.inl ((2*n+1:Nat):Int)))else
  some ((.inl ((2*n+1:Nat):Int)):Int⊕((Int×List Qe)⊕(List Qe⊕(List Qe×Qe)))))=some (.inl (m:Int)):=by
  by_cases g:((2*n+2:Nat):Int)<(L:Int)
  ·have hm2:2*n+2<a.length:=by omega
   rw[dt g,cond_true,gin_nat hm2,gget_nat hm2,gin_nat hm1,gget_nat hm1];simp only[Option.bind_some];by_cases g2:(a[2*n+2]).1<(a[2*n+1]).1
   ·rw[dt g2];exact⟨2*n+2,Or.inr rfl,hm2,rfl⟩
   ·rw[df g2];exact⟨2*n+1,Or.inl rfl,hm1,rfl⟩
  ·rw[df g];exact⟨2*n+1,Or.inl rfl,hm1,rfl⟩
 obtain⟨m,hm,hma,pick⟩:=pick;dsimp only at pick;rw[pick,joinO_inl,gin_nat hn,gget_nat hn,gin_nat hma,gget_nat hma];simp only[Option.bind_some];by_cases g:(a[n]).1<=(a[m]).1
 ·right
  rw[dt g,cond_true];exact⟨_,rfl,_,rfl,hfin⟩
 ·left
  rw[df g,cond_false,gset_nat,List.length_set,gin_nat hma,gget_nat (by rw[List.length_set];exact hma)];simp only[Option.bind_some];rw[gset_nat];refine⟨_,rfl,⟨⟨by simp only;omega,by simp only;omega⟩,?_⟩,by simp only;omega⟩;simp only;exact(List.set_set_perm hn hma).trans hp
end Go.Pf
/-
  Own work. Networks of look-up tables: when they are well formed; how often their nodes are used.
-/
namespace Go.Pf
open Go Go.Pu
set_option linter.unusedVariables false
def belowP (xs:List Int)(m:Int):Bool:=xs.all fun x=>decide (0<=x/\x<m)
theorem belowP_mem {xs:List Int}{m:Int}(h:belowP xs m=true):∀x∈xs,0<=x/\x<m:=fun x hx=>of_decide_eq_true (List.all_eq_true.1 h x hx)
theorem below_eq (xs:List Int)(m:Int):belowP xs m=if(List.range xs.length).all (fun k=>if hk:k<xs.length then decide (0<=xs[k]/\xs[k]<m)else true)=true then true else false:=by
 rw[all_range_list xs (fun x=>decide (0<=x/\x<m)) _ (fun k hk=>by rw[dif_pos hk])];show belowP xs m=if belowP xs m=true then true else false
 cases belowP xs m<;>rfl
theorem below_spec (xs:List Int)(m:Int)(hl:xs.length<=1048576):spec_l20Below (xs,m)=some (belowP xs m):=by
 unfold spec_l20Below;rw[below_eq];refine loop_all xs.length (fun k=>(k:Int)) _ false true (fun k hk hok=> ?_) (fun k hk hok=> ?_) ?_
 ·rw[dif_pos hk]at hok;have hok:=of_decide_eq_true hok
  try dsimp only
  rw[dt (show(k:Int)<(xs.length:Int)by omega),cond_true,gget_nat hk];simp only[Option.bind_some];rw[df (show ¬xs[k]<0 by omega),cond_false,df (show ¬m<=xs[k]by omega),cond_false,wrap_ok (by omega)];rfl
 ·rw[dif_pos hk]at hok;have hok:=of_decide_eq_false hok
  try dsimp only
  rw[dt (show(k:Int)<(xs.length:Int)by omega),cond_true,gget_nat hk];simp only[Option.bind_some];by_cases g:xs[k]<0
  ·rw[dt g];rfl
  ·rw[df g,cond_false,dt (show m<=xs[k]by omega)];rfl
 ·try dsimp only
  rw[df (by omega),cond_false];rfl
theorem below_impl (xs:List Int)(m:Int)(hl:xs.length<=1048576)(hm: -1000<=m/\m<=10000000):impl_nodesBelow (xs,m)=some (belowP xs m):=by
 unfold impl_nodesBelow;rw[below_eq]
 try dsimp only
 refine loop_all xs.length (fun k=>(k:Int)) _ false true (fun k hk hok=> ?_) (fun k hk hok=> ?_) ?_
 ·rw[dif_pos hk]at hok;have hok:=of_decide_eq_true hok
  try dsimp only
  rw[dt (show(k:Int)<(xs.length:Int)by omega),cond_true,gget_nat hk];simp only[Option.bind_some];rw[wrap_ok (z:=m - 1) (by omega),inR_impl];simp only[Option.bind_some];rw[dt (by omega),Bool.not_true,cond_false,wrap_ok (by omega)];rfl
 ·rw[dif_pos hk]at hok;have hok:=of_decide_eq_false hok
  try dsimp only
  rw[dt (show(k:Int)<(xs.length:Int)by omega),cond_true,gget_nat hk];simp only[Option.bind_some];rw[wrap_ok (z:=m - 1) (by omega),inR_impl];simp only[Option.bind_some];rw[df (by omega)];rfl
 ·try dsimp only
  rw[df (by omega),cond_false];rfl
def lnOk (n:Net):Prop:=(0<=n.1/\n.1<=20)/\n.2.1.length<=12/\n.2.2.1.length<=400/\n.2.2.2.length<=16
instance (n:Net):Decidable (lnOk n):=by unfold lnOk;exact inferInstance
def fstP (n:Net):Int:=1+n.1+n.2.1.length
def lnV (n:Net):Int:=fstP n+n.2.2.1.length
def lnP (n:Net):Int:=if lnOk n then lnV n else 0
theorem lnV_le {n:Net}(h:lnOk n):(1<=fstP n/\fstP n<=33)/\1<=lnV n/\lnV n<=433:=by
 obtain⟨h1,h2,h3,h4⟩:=h;unfold lnV fstP;omega
theorem ln_spec (n:Net):spec_LutNodes n=some (lnP n):=by
 unfold spec_LutNodes lnP
 try dsimp only
 rw[inR_spec];simp only[Option.bind_some];by_cases h1:0<=n.1/\n.1<=20
 rotate_left
 ·rw[df h1,if_neg (fun e=>h1 e.1)];rfl
 rw[dt h1,Bool.not_true,cond_false];by_cases h2:12<(n.2.1.length:Int)
 ·rw[dt h2,if_neg (fun e=>by have:=e.2.1;omega)];rfl
 rw[df h2,cond_false];by_cases h3:400<(n.2.2.1.length:Int)
 ·rw[dt h3,if_neg (fun e=>by have:=e.2.2.1;omega)];rfl
 rw[df h3,cond_false];by_cases h4:16<(n.2.2.2.length:Int)
 ·rw[dt h4,if_neg (fun e=>by have:=e.2.2.2;omega)];rfl
 rw[df h4,cond_false,if_pos ⟨h1,by omega,by omega,by omega⟩,wrap_ok (z:=1+n.1) (by omega),wrap_ok (z:=1+n.1+(n.2.1.length:Int)) (by omega),wrap_ok (by omega)];rfl
theorem lnv_impl {n:Net}(h:lnOk n):impl_lutNodes n=some (lnV n):=by
 obtain⟨h1,h2,h3,h4⟩:=h;unfold impl_lutNodes
 try dsimp only
 rw[wrap_ok (z:=1+n.1) (by omega),wrap_ok (z:=1+n.1+(n.2.1.length:Int)) (by omega),wrap_ok (by omega)];rfl
theorem ln_impl (n:Net):impl_LutNodes n=some (lnP n):=by
 unfold impl_LutNodes lnP
 try dsimp only
 rw[inR_impl];simp only[Option.bind_some];by_cases h1:0<=n.1/\n.1<=20
 rotate_left
 ·rw[df h1,if_neg (fun e=>h1 e.1)];rfl
 rw[dt h1,Bool.not_true,cond_false];by_cases h2:12<(n.2.1.length:Int)
 ·rw[dt h2,if_neg (fun e=>by have:=e.2.1;omega)];rfl
 rw[df h2,cond_false];by_cases h3:400<(n.2.2.1.length:Int)
 ·rw[dt h3,if_neg (fun e=>by have:=e.2.2.1;omega)];rfl
 rw[df h3,cond_false];by_cases h4:16<(n.2.2.2.length:Int)
 ·rw[dt h4,if_neg (fun e=>by have:=e.2.2.2;omega)];rfl
 have hl:lnOk n:=⟨h1,by omega,by omega,by omega⟩;rw[df h4,cond_false,if_pos hl,lnv_impl hl];rfl
theorem fst_spec {n:Net}(h:lnOk n):spec_l20First n=some (fstP n):=by
 obtain⟨h1,h2,h3,h4⟩:=h;unfold spec_l20First
 try dsimp only
 rw[wrap_ok (z:=1+n.1) (by omega),wrap_ok (by omega)];rfl
theorem fst_impl {n:Net}(h:lnOk n):impl_firstLut n=some (fstP n):=fst_spec h
def fullP (k:Int):Int:=if k=0 then 1 else if k=1 then 3 else if k=2 then 15 else if k=3 then 255 else 65535
def tblP (k t:Int):Prop:=(0<=k/\k<=4)/\0<=t/\t<=fullP k
instance (k t:Int):Decidable (tblP k t):=by unfold tblP;exact inferInstance
theorem full_cases {k:Int}(h:0<=k/\k<=4):spec_l02Full k=some (fullP k):=by
 have:k=0\/k=1\/k=2\/k=3\/k=4:=by omega
 rcases this with rfl | rfl | rfl | rfl | rfl<;>rfl
theorem tbl_spec (k t:Int):spec_TableOk (k,t)=some (decide (tblP k t)):=by
 unfold spec_TableOk;rw[inR_spec];simp only[Option.bind_some];by_cases h:0<=k/\k<=4
 rotate_left
 ·rw[df h,df (show ¬tblP k t from fun e=>h e.1)];rfl
 rw[dt h,cond_true];by_cases h2:0<=t
 rotate_left
 ·rw[df h2,df (show ¬tblP k t from fun e=>h2 e.2.1)];rfl
 rw[dt h2,cond_true,full_cases h];simp only[Option.bind_some]
 congr 1
 rw[decide_eq_decide];exact⟨fun e=>⟨h,h2,e⟩,fun e=>e.2.2⟩
theorem tbl_impl (k t:Int):impl_TableOk (k,t)=some (decide (tblP k t)):=by
 unfold impl_TableOk;rw[inR_impl];simp only[Option.bind_some];by_cases h:0<=k/\k<=4
 rotate_left
 ·rw[df h,df (show ¬tblP k t from fun e=>h e.1)];rfl
 rw[dt h,cond_true];have hf:(gshift true .u64 1 (wrap .u64 k)).bind (fun v3=>(gshift true .i64 1 v3).bind fun v4=>some (wrap .i64 (v4 - 1)))=some (fullP k):=by
  have:k=0\/k=1\/k=2\/k=3\/k=4:=by omega
  rcases this with rfl | rfl | rfl | rfl | rfl<;>rfl
 have hf2:∀g:Int->Option Bool,(gshift true .u64 1 (wrap .u64 k)).bind (fun v3=>(gshift true .i64 1 v3).bind fun v4=>g (wrap .i64 (v4 - 1)))=((gshift true .u64 1 (wrap .u64 k)).bind (fun v3=>(gshift true .i64 1 v3).bind fun v4=>some (wrap .i64 (v4 - 1)))).bind g:=by
  intro g;cases gshift true .u64 1 (wrap .u64 k)with
  | none=>rfl
  | some v=>
   simp only[Option.bind_some];cases gshift true .i64 1 v<;>rfl
 have:=hf2 (fun v5=>(impl_inRange (t,(0,v5))).bind fun v6=>some v6)
 try dsimp only
 rw[this,hf];simp only[Option.bind_some];rw[inR_impl];simp only[Option.bind_some]
 congr 1
 rw[decide_eq_decide];exact⟨fun e=>⟨h,e⟩,fun e=>e.2⟩
def seqP (s:Seq):Prop:=(s.1=0/\(0<=s.2.1/\s.2.1<=1)/\s.2.2.length=1)\/(s.1=1/\(0<=s.2.1/\s.2.1<=31)/\s.2.2.length=4)
instance (s:Seq):Decidable (seqP s):=by unfold seqP;exact inferInstance
theorem seq_impl (s:Seq):impl_seqOk s=some (decide (seqP s)):=by
 unfold impl_seqOk
 try dsimp only
 rw[inR_impl,inR_impl];simp only[Option.bind_some];by_cases h0:s.1=0
 ·rw[dt h0,cond_true];by_cases h1:0<=s.2.1/\s.2.1<=1
  ·rw[dt h1,cond_true]
   congr 1
   rw[decide_eq_decide];exact⟨fun e=>Or.inl ⟨h0,h1,by omega⟩,fun e=>by rcases e with e | e<;>omega⟩
  ·rw[df h1,df (show ¬seqP s from fun e=>by rcases e with e | e<;>omega)];rfl
 ·rw[df h0,cond_false];by_cases h1:s.1=1
  ·rw[dt h1,cond_true];by_cases h2:0<=s.2.1/\s.2.1<=31
   ·rw[dt h2,cond_true]
    congr 1
    rw[decide_eq_decide];exact⟨fun e=>Or.inr ⟨h1,h2,by omega⟩,fun e=>by rcases e with e | e<;>omega⟩
   ·rw[df h2,df (show ¬seqP s from fun e=>by rcases e with e | e<;>omega)];rfl
  ·rw[df h1,df (show ¬seqP s from fun e=>by rcases e with e | e<;>omega)];rfl
def sqAt (ss:List Seq)(k:Nat):Seq:=ss.getD k (0,(0,[]))
def ltAt (ls:List Lut)(k:Nat):Lut:=ls.getD k ([],0)
theorem sq_get {ss:List Seq}{k:Nat}(h:k<ss.length):gget ((0,(0,[])):Seq) ss (k:Int)=some (sqAt ss k)/\sqAt ss k∈ss:=by
 unfold sqAt;rw[gget_nat h,List.getD,List.getElem?_eq_getElem h];exact⟨rfl,List.getElem_mem h⟩
theorem lt_get {ls:List Lut}{k:Nat}(h:k<ls.length):gget (([],0):Lut) ls (k:Int)=some (ltAt ls k)/\ltAt ls k∈ls:=by
 unfold ltAt;rw[gget_nat h,List.getD,List.getElem?_eq_getElem h];exact⟨rfl,List.getElem_mem h⟩
def sqOk (n:Net)(k:Nat):Prop:=seqP (sqAt n.2.1 k)/\belowP (sqAt n.2.1 k).2.2 (lnV n)=true
def ltOk (n:Net)(k:Nat):Prop:=tblP ((ltAt n.2.2.1 k).1.length:Int) (ltAt n.2.2.1 k).2/\belowP (ltAt n.2.2.1 k).1 (fstP n+k)=true
instance (n:Net)(k:Nat):Decidable (sqOk n k):=by unfold sqOk;exact inferInstance
instance (n:Net)(k:Nat):Decidable (ltOk n k):=by unfold ltOk;exact inferInstance
def netP (n:Net):Bool:=
 if lnOk n/\belowP n.2.2.2 (lnV n)=true then(if(List.range n.2.1.length).all (fun k=>decide (sqOk n k))=true then(if(List.range n.2.2.1.length).all (fun k=>decide (ltOk n k))=true then true else false)else false)else false
theorem netP_all {n:Net}(h:netP n=true):lnOk n/\belowP n.2.2.2 (lnV n)=true/\(∀k,k<n.2.1.length->sqOk n k)/\(∀k,k<n.2.2.1.length->ltOk n k):=by
 unfold netP at h;split at h
 rotate_left
 ·simp at h
 rename_i h1;split at h
 rotate_left
 ·simp at h
 rename_i h2;split at h
 rotate_left
 ·simp at h
 rename_i h3;exact⟨h1.1,h1.2,fun k hk=>of_decide_eq_true (List.all_eq_true.1 h2 k (List.mem_range.2 hk)),fun k hk=>of_decide_eq_true (List.all_eq_true.1 h3 k (List.mem_range.2 hk))⟩
theorem net_spec (n:Net)(h:NetB n):spec_LutNetOk n=some (netP n):=by
 unfold spec_LutNetOk netP;rw[ln_spec];simp only[Option.bind_some];by_cases hl:lnOk n
 rotate_left
 ·have e:lnP n=0:=by unfold lnP;rw[if_neg hl]
  rw[dt e,if_neg (fun e=>hl e.1)];rfl
 have e:lnP n=lnV n:=by unfold lnP;rw[if_pos hl]
 have hv:=lnV_le hl;rw[e,df (show ¬lnV n=0 by omega),cond_false,below_spec _ _ h.2.2];simp only[Option.bind_some];cases ho:belowP n.2.2.2 (lnV n)with
 | false=>rw[if_neg (by simp)];rfl
 | true=>
 rw[if_pos ⟨hl,rfl⟩,Bool.not_true,cond_false];have hl2:=hl.2.1;have hl3:=hl.2.2.1;refine loop_all n.2.1.length (fun k=>(k:Int)) _ false _ (fun k hk hok=> ?_) (fun k hk hok=> ?_) ?_
 ·have hok:=of_decide_eq_true hok;obtain⟨g1,g2⟩:=sq_get hk;have gl:=h.1.at g2;obtain⟨o1,o2⟩:=hok
  try dsimp only
  rw[dt (show(k:Int)<(n.2.1.length:Int)by omega),cond_true,g1];simp only[Option.bind_some];rw[below_spec _ _ gl,inR_spec,inR_spec,o2,wrap_ok (by omega)];simp only[Option.bind_some];generalize sqAt n.2.1 k=s at*;rcases o1 with⟨p1,p2,p3⟩ | ⟨p1,p2,p3⟩
  ·rw[dt p1,cond_true,dt p2,cond_true,dt (show(s.2.2.length:Int)=1 by omega)];rfl
  ·rw[df (show ¬s.1=0 by omega),cond_false,dt p1,cond_true,dt p2,cond_true,dt (show(s.2.2.length:Int)=4 by omega)];rfl
 ·have hok:=of_decide_eq_false hok;obtain⟨g1,g2⟩:=sq_get hk;have gl:=h.1.at g2;unfold sqOk at hok
  try dsimp only
  rw[dt (show(k:Int)<(n.2.1.length:Int)by omega),cond_true,g1];simp only[Option.bind_some];rw[below_spec _ _ gl,inR_spec,inR_spec,wrap_ok (by omega)];simp only[Option.bind_some];generalize sqAt n.2.1 k=s at*;by_cases h0:s.1=0
  ·rw[dt h0,cond_true,df (show ¬s.1=1 by omega)];by_cases h1:0<=s.2.1/\s.2.1<=1
   ·rw[dt h1,cond_true];by_cases h2:(s.2.2.length:Int)=1
    ·rw[dt h2,cond_true];cases hb:belowP s.2.2 (lnV n)with
     | false=>rfl
     | true=>exact absurd ⟨Or.inl ⟨h0,h1,by omega⟩,hb⟩ hok
    ·rw[df h2];rfl
   ·rw[df h1];rfl
  ·rw[df h0,cond_false];by_cases h1:s.1=1
   ·rw[dt h1,cond_true];by_cases h2:0<=s.2.1/\s.2.1<=31
    ·rw[dt h2,cond_true];by_cases h3:(s.2.2.length:Int)=4
     ·rw[dt h3];cases hb:belowP s.2.2 (lnV n)with
      | false=>rfl
      | true=>exact absurd ⟨Or.inr ⟨h1,h2,by omega⟩,hb⟩ hok
     ·rw[df h3];rfl
    ·rw[df h2];rfl
   ·rw[df h1];rfl
 ·try dsimp only
  rw[df (by omega),cond_false];refine(Option.map_eq_some_iff).2 ⟨_,?_,rfl⟩;refine loop_all n.2.2.1.length (fun k=>(k:Int)) _ false true (fun k hk hok=> ?_) (fun k hk hok=> ?_) ?_
  ·have hok:=of_decide_eq_true hok;obtain⟨g1,g2⟩:=lt_get hk;have gl:=h.2.1.at g2;obtain⟨o1,o2⟩:=hok
   try dsimp only
   rw[dt (show(k:Int)<(n.2.2.1.length:Int)by omega),cond_true,g1];simp only[Option.bind_some];rw[tbl_spec,fst_spec hl];simp only[Option.bind_some];rw[dt o1,Bool.not_true,cond_false,wrap_ok (z:=fstP n+(k:Int)) (by omega),below_spec _ _ gl,o2,wrap_ok (by omega)];rfl
  ·have hok:=of_decide_eq_false hok;obtain⟨g1,g2⟩:=lt_get hk;have gl:=h.2.1.at g2;unfold ltOk at hok
   try dsimp only
   rw[dt (show(k:Int)<(n.2.2.1.length:Int)by omega),cond_true,g1];simp only[Option.bind_some];rw[tbl_spec,fst_spec hl];simp only[Option.bind_some];by_cases o1:tblP ((ltAt n.2.2.1 k).1.length:Int) (ltAt n.2.2.1 k).2
   rotate_left
   ·rw[df o1];rfl
   rw[dt o1,Bool.not_true,cond_false,wrap_ok (z:=fstP n+(k:Int)) (by omega),below_spec _ _ gl];simp only[Option.bind_some];cases hb:belowP (ltAt n.2.2.1 k).1 (fstP n+k)with
   | false=>rfl
   | true=>exact absurd ⟨o1,hb⟩ hok
  ·try dsimp only
   rw[df (by omega),cond_false];rfl
theorem net_impl (n:Net)(h:NetB n):impl_LutNetOk n=some (netP n):=by
 unfold impl_LutNetOk netP;rw[ln_impl];simp only[Option.bind_some];by_cases hl:lnOk n
 rotate_left
 ·have e:lnP n=0:=by unfold lnP;rw[if_neg hl]
  rw[dt e,if_neg (fun e=>hl e.1)];rfl
 have e:lnP n=lnV n:=by unfold lnP;rw[if_pos hl]
 have hv:=lnV_le hl;rw[e,df (show ¬lnV n=0 by omega),cond_false,below_impl _ _ h.2.2 (by omega)];simp only[Option.bind_some];cases ho:belowP n.2.2.2 (lnV n)with
 | false=>rw[if_neg (by simp)];rfl
 | true=>
 rw[if_pos ⟨hl,rfl⟩,Bool.not_true,cond_false];have hl2:=hl.2.1;have hl3:=hl.2.2.1;refine loop_all n.2.1.length (fun k=>(k:Int)) _ false _ (fun k hk hok=> ?_) (fun k hk hok=> ?_) ?_
 ·have hok:=of_decide_eq_true hok;obtain⟨g1,g2⟩:=sq_get hk;have gl:=h.1.at g2;obtain⟨o1,o2⟩:=hok
  try dsimp only
  rw[dt (show(k:Int)<(n.2.1.length:Int)by omega),cond_true,g1];simp only[Option.bind_some];rw[seq_impl,dt o1,below_impl _ _ gl (by omega),o2,wrap_ok (by omega)];rfl
 ·have hok:=of_decide_eq_false hok;obtain⟨g1,g2⟩:=sq_get hk;have gl:=h.1.at g2;unfold sqOk at hok
  try dsimp only
  rw[dt (show(k:Int)<(n.2.1.length:Int)by omega),cond_true,g1];simp only[Option.bind_some];rw[seq_impl,below_impl _ _ gl (by omega)];simp only[Option.bind_some];by_cases o1:seqP (sqAt n.2.1 k)
  ·rw[dt o1,Bool.not_true,cond_false];cases hb:belowP (sqAt n.2.1 k).2.2 (lnV n)with
   | false=>rfl
   | true=>exact absurd ⟨o1,hb⟩ hok
  ·rw[df o1];rfl
 ·try dsimp only
  rw[df (by omega),cond_false];refine(Option.map_eq_some_iff).2 ⟨_,?_,rfl⟩;refine loop_all n.2.2.1.length (fun k=>(k:Int)) _ false true (fun k hk hok=> ?_) (fun k hk hok=> ?_) ?_
  ·have hok:=of_decide_eq_true hok;obtain⟨g1,g2⟩:=lt_get hk;have gl:=h.2.1.at g2;obtain⟨o1,o2⟩:=hok;have o11:=o1.1
   try dsimp only
   rw[dt (show(k:Int)<(n.2.2.1.length:Int)by omega),cond_true,g1];simp only[Option.bind_some];rw[df (show ¬4<((ltAt n.2.2.1 k).1.length:Int)by omega),cond_false,fst_impl hl];simp only[Option.bind_some];rw[wrap_ok (z:=fstP n+(k:Int)) (by omega),below_impl _ _ gl (by omega),o2,tbl_impl,dt o1,wrap_ok (by omega)];rfl
  ·have hok:=of_decide_eq_false hok;obtain⟨g1,g2⟩:=lt_get hk;have gl:=h.2.1.at g2;unfold ltOk at hok
   try dsimp only
   rw[dt (show(k:Int)<(n.2.2.1.length:Int)by omega),cond_true,g1];simp only[Option.bind_some];by_cases o0:4<((ltAt n.2.2.1 k).1.length:Int)
   ·rw[dt o0];rfl
   rw[df o0,cond_false,fst_impl hl];simp only[Option.bind_some];rw[wrap_ok (z:=fstP n+(k:Int)) (by omega),below_impl _ _ gl (by omega),tbl_impl];simp only[Option.bind_some];cases hb:belowP (ltAt n.2.2.1 k).1 (fstP n+k)with
   | false=>rfl
   | true=>
    rw[Bool.not_true,cond_false,df (show ¬tblP ((ltAt n.2.2.1 k).1.length:Int) (ltAt n.2.2.1 k).2 from fun e=>hok ⟨e,hb⟩)];rfl
  ·try dsimp only
   rw[df (by omega),cond_false];rfl
def inc1 (c:List Int)(x:Int):List Int:=gset c x (wrap .i64 (nsAt c x.toNat+1))
def incL (c xs:List Int):List Int:=xs.foldl inc1 c
theorem inc1_len (c:List Int)(x:Int):(inc1 c x).length=c.length:=by unfold inc1 gset;rw[List.length_set]
theorem incL_len (c xs:List Int):(incL c xs).length=c.length:=by
 induction xs generalizing c with
 | nil=>rfl
 | cons a r ih=>show(incL (inc1 c a) r).length=_;rw[ih,inc1_len]
theorem incL_take (c xs:List Int)(k:Nat)(h:k<xs.length):incL c (xs.take (k+1))=inc1 (incL c (xs.take k)) (nsAt xs k):=by
 unfold incL;rw[take_at h,List.foldl_append];rfl
def incA (c:List Int)(xss:Nat->List Int):Nat->List Int
 | 0=>c
 | k+1=>incL (incA c xss k) (xss k)
theorem incA_len (c:List Int)(xss:Nat->List Int)(k:Nat):(incA c xss k).length=c.length:=by
 induction k with
 | zero=>rfl
 | succ k ih=>show(incL _ _).length=_;rw[incL_len,ih]
def usesP (n:Net):List Int:=incL (incA (incA (List.replicate (lnV n).toNat 0) (fun k=>(ltAt n.2.2.1 k).1) n.2.2.1.length) (fun k=>(sqAt n.2.1 k).2.2) n.2.1.length) n.2.2.2
theorem usesP_len (n:Net):(usesP n).length=(lnV n).toNat:=by
 unfold usesP;rw[incL_len,incA_len,incA_len];simp
theorem gget_ns {c:List Int}{x:Int}(h0:0<=x)(h1:x<(c.length:Int)):gget 0 c x=some (nsAt c x.toNat):=gget_some h0 h1
theorem uses_spec {n:Net}(hb:NetB n)(h:netP n=true):spec_l28Uses n=some (usesP n):=by
 obtain⟨hl,ho,hs,ht⟩:=netP_all h;have hv:=lnV_le hl;unfold spec_l28Uses usesP;have e:lnP n=lnV n:=by unfold lnP;rw[if_pos hl]
 obtain⟨N,hN⟩:∃N:Nat,lnV n=(N:Int):=⟨(lnV n).toNat,by omega⟩;rw[ln_spec,e,hN];simp only[Option.bind_some];rw[gmake_nat (by omega) (by omega),Int.toNat_natCast];simp only[Option.bind_some];have hc0:(List.replicate N (0:Int)).length=N:=by simp
 generalize List.replicate N (0:Int)=c0 at*;have hl2:=hl.2.1;have hl3:=hl.2.2.1;have hl4:=hl.2.2.2;refine loop_upto n.2.2.1.length (fun k=>((k:Int),incA c0 (fun k=>(ltAt n.2.2.1 k).1) k)) (fun k hk=> ?_) ?_
 ·obtain⟨g1,g2⟩:=lt_get hk;have gl:=hb.2.1.at g2;have gm:=belowP_mem (ht k hk).2;have hcl:=incA_len c0 (fun k=>(ltAt n.2.2.1 k).1) k;have hfl:fstP n+k<lnV n:=by unfold lnV;omega
  try dsimp only
  rw[dt (show(k:Int)<(n.2.2.1.length:Int)by omega),cond_true];have ee:incA c0 (fun k=>(ltAt n.2.2.1 k).1) (k+1)=incL (incA c0 (fun k=>(ltAt n.2.2.1 k).1) k) (ltAt n.2.2.1 k).1:=rfl;rw[ee];generalize incA c0 (fun k=>(ltAt n.2.2.1 k).1) k=c at*;refine loop_upto (ltAt n.2.2.1 k).1.length (fun j=>((j:Int),incL c ((ltAt n.2.2.1 k).1.take j))) (fun j hj=> ?_) ?_
  ·have hm:=gm _ (List.getElem_mem hj);rw[ns_at hj]at hm;have hil:=incL_len c ((ltAt n.2.2.1 k).1.take j)
   try dsimp only
   rw[g1];simp only[Option.bind_some];rw[dt (show(j:Int)<((ltAt n.2.2.1 k).1.length:Int)by omega),cond_true,nsAt_get hj];simp only[Option.bind_some];rw[gin_some hm.1 (by omega),gget_ns hm.1 (by omega)];simp only[Option.bind_some];rw[incL_take _ _ _ hj,wrap_ok (z:=(j:Int)+1) (by omega)];rfl
  ·try dsimp only
   rw[g1];simp only[Option.bind_some];rw[df (show ¬((ltAt n.2.2.1 k).1.length:Int)<((ltAt n.2.2.1 k).1.length:Int)by omega),cond_false,List.take_of_length_le (Nat.le_refl _),wrap_ok (by omega)];rfl
 try dsimp only
 rw[df (show ¬(n.2.2.1.length:Int)<(n.2.2.1.length:Int)by omega),cond_false];refine(Option.map_eq_some_iff).2 ⟨_,?_,rfl⟩;have hc1:=incA_len c0 (fun k=>(ltAt n.2.2.1 k).1) n.2.2.1.length;generalize incA c0 (fun k=>(ltAt n.2.2.1 k).1) n.2.2.1.length=c1 at*;refine loop_upto n.2.1.length (fun k=>((k:Int),incA c1 (fun k=>(sqAt n.2.1 k).2.2) k)) (fun k hk=> ?_) ?_
 ·obtain⟨g1,g2⟩:=sq_get hk;have gl:=hb.1.at g2;have gm:=belowP_mem (hs k hk).2;have hcl:=incA_len c1 (fun k=>(sqAt n.2.1 k).2.2) k
  try dsimp only
  rw[dt (show(k:Int)<(n.2.1.length:Int)by omega),cond_true];have ee:incA c1 (fun k=>(sqAt n.2.1 k).2.2) (k+1)=incL (incA c1 (fun k=>(sqAt n.2.1 k).2.2) k) (sqAt n.2.1 k).2.2:=rfl;rw[ee];generalize incA c1 (fun k=>(sqAt n.2.1 k).2.2) k=c at*;refine loop_upto (sqAt n.2.1 k).2.2.length (fun j=>((j:Int),incL c ((sqAt n.2.1 k).2.2.take j))) (fun j hj=> ?_) ?_
  ·have hm:=gm _ (List.getElem_mem hj);rw[ns_at hj]at hm;have hil:=incL_len c ((sqAt n.2.1 k).2.2.take j)
   try dsimp only
   rw[g1];simp only[Option.bind_some];rw[dt (show(j:Int)<((sqAt n.2.1 k).2.2.length:Int)by omega),cond_true,nsAt_get hj];simp only[Option.bind_some];rw[gin_some hm.1 (by omega),gget_ns hm.1 (by omega)];simp only[Option.bind_some];rw[incL_take _ _ _ hj,wrap_ok (z:=(j:Int)+1) (by omega)];rfl
  ·try dsimp only
   rw[g1];simp only[Option.bind_some];rw[df (show ¬((sqAt n.2.1 k).2.2.length:Int)<((sqAt n.2.1 k).2.2.length:Int)by omega),cond_false,List.take_of_length_le (Nat.le_refl _),wrap_ok (by omega)];rfl
 try dsimp only
 rw[df (show ¬(n.2.1.length:Int)<(n.2.1.length:Int)by omega),cond_false];refine(Option.map_eq_some_iff).2 ⟨_,?_,rfl⟩;have hc2:=incA_len c1 (fun k=>(sqAt n.2.1 k).2.2) n.2.1.length;generalize incA c1 (fun k=>(sqAt n.2.1 k).2.2) n.2.1.length=c2 at*;have gm:=belowP_mem ho;refine loop_upto n.2.2.2.length (fun j=>((j:Int),incL c2 (n.2.2.2.take j))) (fun j hj=> ?_) ?_
 ·have hm:=gm _ (List.getElem_mem hj);rw[ns_at hj]at hm;have hil:=incL_len c2 (n.2.2.2.take j)
  try dsimp only
  rw[dt (show(j:Int)<(n.2.2.2.length:Int)by omega),cond_true,nsAt_get hj];simp only[Option.bind_some];rw[gin_some hm.1 (by omega),gget_ns hm.1 (by omega)];simp only[Option.bind_some];rw[incL_take _ _ _ hj,wrap_ok (z:=(j:Int)+1) (by omega)];rfl
 ·try dsimp only
  rw[df (by omega),cond_false,List.take_of_length_le (Nat.le_refl _)];rfl
theorem uses_impl {n:Net}(hb:NetB n)(h:netP n=true):impl_useCounts n=some (usesP n):=by
 obtain⟨hl,ho,hs,ht⟩:=netP_all h;have hv:=lnV_le hl;unfold impl_useCounts usesP;obtain⟨N,hN⟩:∃N:Nat,lnV n=(N:Int):=⟨(lnV n).toNat,by omega⟩;rw[lnv_impl hl,hN];simp only[Option.bind_some];rw[gmake_nat (by omega) (by omega),Int.toNat_natCast];simp only[Option.bind_some];have hc0:(List.replicate N (0:Int)).length=N:=by simp
 generalize List.replicate N (0:Int)=c0 at*;have hl2:=hl.2.1;have hl3:=hl.2.2.1;have hl4:=hl.2.2.2;refine loop_upto n.2.2.1.length (fun k=>((k:Int),incA c0 (fun k=>(ltAt n.2.2.1 k).1) k)) (fun k hk=> ?_) ?_
 ·obtain⟨g1,g2⟩:=lt_get hk;have gl:=hb.2.1.at g2;have gm:=belowP_mem (ht k hk).2;have hcl:=incA_len c0 (fun k=>(ltAt n.2.2.1 k).1) k;have hfl:fstP n+k<lnV n:=by unfold lnV;omega
  try dsimp only
  rw[dt (show(k:Int)<(n.2.2.1.length:Int)by omega),cond_true,g1];simp only[Option.bind_some];have ee:incA c0 (fun k=>(ltAt n.2.2.1 k).1) (k+1)=incL (incA c0 (fun k=>(ltAt n.2.2.1 k).1) k) (ltAt n.2.2.1 k).1:=rfl;rw[ee];generalize incA c0 (fun k=>(ltAt n.2.2.1 k).1) k=c at*;refine loop_upto (ltAt n.2.2.1 k).1.length (fun j=>((j:Int),incL c ((ltAt n.2.2.1 k).1.take j))) (fun j hj=> ?_) ?_
  ·have hm:=gm _ (List.getElem_mem hj);rw[ns_at hj]at hm;have hil:=incL_len c ((ltAt n.2.2.1 k).1.take j)
   try dsimp only
   rw[dt (show(j:Int)<((ltAt n.2.2.1 k).1.length:Int)by omega),cond_true,nsAt_get hj];simp only[Option.bind_some];rw[gin_some hm.1 (by omega),gget_ns hm.1 (by omega)];simp only[Option.bind_some];rw[incL_take _ _ _ hj,wrap_ok (z:=(j:Int)+1) (by omega)];rfl
  ·try dsimp only
   rw[df (show ¬((ltAt n.2.2.1 k).1.length:Int)<((ltAt n.2.2.1 k).1.length:Int)by omega),cond_false,List.take_of_length_le (Nat.le_refl _),wrap_ok (by omega)];rfl
 try dsimp only
 rw[df (show ¬(n.2.2.1.length:Int)<(n.2.2.1.length:Int)by omega),cond_false];refine(Option.map_eq_some_iff).2 ⟨_,?_,rfl⟩;have hc1:=incA_len c0 (fun k=>(ltAt n.2.2.1 k).1) n.2.2.1.length;generalize incA c0 (fun k=>(ltAt n.2.2.1 k).1) n.2.2.1.length=c1 at*;refine loop_upto n.2.1.length (fun k=>((k:Int),incA c1 (fun k=>(sqAt n.2.1 k).2.2) k)) (fun k hk=> ?_) ?_
 ·obtain⟨g1,g2⟩:=sq_get hk;have gl:=hb.1.at g2;have gm:=belowP_mem (hs k hk).2;have hcl:=incA_len c1 (fun k=>(sqAt n.2.1 k).2.2) k
  try dsimp only
  rw[dt (show(k:Int)<(n.2.1.length:Int)by omega),cond_true,g1];simp only[Option.bind_some];have ee:incA c1 (fun k=>(sqAt n.2.1 k).2.2) (k+1)=incL (incA c1 (fun k=>(sqAt n.2.1 k).2.2) k) (sqAt n.2.1 k).2.2:=rfl;rw[ee];generalize incA c1 (fun k=>(sqAt n.2.1 k).2.2) k=c at*;refine loop_upto (sqAt n.2.1 k).2.2.length (fun j=>((j:Int),incL c ((sqAt n.2.1 k).2.2.take j))) (fun j hj=> ?_) ?_
  ·have hm:=gm _ (List.getElem_mem hj);rw[ns_at hj]at hm;have hil:=incL_len c ((sqAt n.2.1 k).2.2.take j)
   try dsimp only
   rw[dt (show(j:Int)<((sqAt n.2.1 k).2.2.length:Int)by omega),cond_true,nsAt_get hj];simp only[Option.bind_some];rw[gin_some hm.1 (by omega),gget_ns hm.1 (by omega)];simp only[Option.bind_some];rw[incL_take _ _ _ hj,wrap_ok (z:=(j:Int)+1) (by omega)];rfl
  ·try dsimp only
   rw[df (show ¬((sqAt n.2.1 k).2.2.length:Int)<((sqAt n.2.1 k).2.2.length:Int)by omega),cond_false,List.take_of_length_le (Nat.le_refl _),wrap_ok (by omega)];rfl
 try dsimp only
 rw[df (show ¬(n.2.1.length:Int)<(n.2.1.length:Int)by omega),cond_false];refine(Option.map_eq_some_iff).2 ⟨_,?_,rfl⟩;have hc2:=incA_len c1 (fun k=>(sqAt n.2.1 k).2.2) n.2.1.length;generalize incA c1 (fun k=>(sqAt n.2.1 k).2.2) n.2.1.length=c2 at*;have gm:=belowP_mem ho;refine loop_upto n.2.2.2.length (fun j=>((j:Int),incL c2 (n.2.2.2.take j))) (fun j hj=> ?_) ?_
 ·have hm:=gm _ (List.getElem_mem hj);rw[ns_at hj]at hm;have hil:=incL_len c2 (n.2.2.2.take j)
  try dsimp only
  rw[dt (show(j:Int)<(n.2.2.2.length:Int)by omega),cond_true,nsAt_get hj];simp only[Option.bind_some];rw[gin_some hm.1 (by omega),gget_ns hm.1 (by omega)];simp only[Option.bind_some];rw[incL_take _ _ _ hj,wrap_ok (z:=(j:Int)+1) (by omega)];rfl
 ·try dsimp only
  rw[df (by omega),cond_false,List.take_of_length_le (Nat.le_refl _)];rfl
end Go.Pf
/-
  Own work. Draws, plainly: drawn nets, cuts, their tables, LUT networks out of mapped nets.
-/
namespace Go.Pf
open Go Go.Pu
set_option linter.unusedVariables false
theorem sized_tot {b:List Int}{c:Cur}(hb:CdOk b)(hc:CurOk b c){p q r:Int}(hp:p<=100)(hq:0<=q/\q<=100)(hr:0<=r/\r<=100):Tot (spec_l08Sized ((b,c),(p,(q,r)))) (fun o=>NB o.1/\CurOk b o.2):=by
 unfold spec_l08Sized;dsimp only;refine Tot.below hb hc fun x1 c1 k1 z1 y1=> ?_
 have hx1:0<=x1/\x1<=100:=by
  by_cases h:0<p
  ·have:=y1 h;omega
  ·have:=z1 (by omega);omega
 rw[wrap_ok (z:=1+x1) (by omega),wrap_ok (z:=q+1) (by omega),wrap_ok (z:=r+1) (by omega),wrap_ok (z:=1+(1+x1)) (by omega)];refine Tot.below hb k1 fun x2 c2 k2 _ y2=> ?_
 have hx2:=y2 (by omega);refine Tot.below hb k2 fun x3 c3 k3 _ y3=> ?_
 have hx3:=y3 (by omega);simp only;rw[wrap_ok (z:=1+(1+x1)+x2) (by omega)];refine Tot.lp (fun s=>(0<=s.1/\s.1<=x3)/\CurOk b (s.2.1,s.2.2.1)/\(s.2.2.2.length:Int)<=s.1/\∀a∈s.2.2.2,I64 a.1/\I64 a.2) (fun s=>(x3 - s.1).toNat) ⟨⟨by simp only;omega,by simp only;omega⟩,k3,by simp,fun a ha=>by cases ha⟩ (fun s hs=> ?_);obtain⟨i,u,v,as⟩:=s;obtain⟨⟨i0,i1⟩,hcu,hl,ha⟩:=hs;simp only at i0 i1 hcu hl ha;dsimp only;refine Tot.dite (fun h1=> ?_) (fun h1=> ?_)
 ·rw[wrap_ok (z:=1+(1+x1)+x2+i) (by omega),wrap_ok (z:=2*(1+(1+x1)+x2+i)) (by omega),wrap_ok (z:=i+1) (by omega)];refine Tot.below hb hcu fun x4 c4 k4 _ _=> ?_
  refine Tot.below hb k4 fun x5 c5 k5 _ y5=> ?_
  have hx5:=y5 (by omega);refine Tot.app (by simp only[List.length_singleton];omega) (by omega) ?_
  refine Tot.next ⟨⟨⟨by simp only;omega,by simp only;omega⟩,k5,by simp only[List.length_append,List.length_singleton];omega,fun a ham=> ?_⟩,by simp only;omega⟩;rcases List.mem_append.1 ham with ham | ham
  ·exact ha a ham
  ·rw[List.mem_singleton.1 ham];exact⟨wrap_in _,by unfold I64;simp only;omega⟩
 refine Tot.exit ?_
 rw[wrap_ok (z:=1+(1+x1)+x2+x3) (by omega),wrap_ok (z:=2*(1+(1+x1)+x2+x3)) (by omega)];refine Tot.lp (fun s=>(0<=s.1/\s.1<=x2)/\CurOk b (s.2.1,s.2.2.1)/\(s.2.2.2.length:Int)<=s.1/\∀a∈s.2.2.2,a.2.2.length<=4/\∀x∈a.2.2,I64 x) (fun s=>(x2 - s.1).toNat) ⟨⟨by simp only;omega,by simp only;omega⟩,hcu,by simp,fun a ha=>by cases ha⟩ (fun s hs=> ?_);obtain⟨j,u2,v2,sq⟩:=s;obtain⟨⟨j0,j1⟩,hcu2,hl2,hs2⟩:=hs;simp only at j0 j1 hcu2 hl2 hs2;dsimp only;refine Tot.dite (fun h2=> ?_) (fun h2=> ?_)
 ·have bel:∀x,0<=x/\x<2*(1+(1+x1)+x2+x3)->I64 x:=fun x hx=>by unfold I64;omega
  refine Tot.join (A:=fun a=>CurOk b (a.1,a.2.1)/\(a.2.2.length:Int)<=j+1/\∀q∈a.2.2,q.2.2.length<=4/\∀x∈q.2.2,I64 x) ?_ fun a ha2=> ?_
  ·refine Tot.once hb hcu2 fun f c6 k6=> ?_
   refine Tot.ite (fun _=> ?_) (fun _=> ?_)
   ·refine Tot.below hb k6 fun x7 c7 k7 _ _=> ?_
    refine Tot.below hb k7 fun x8 c8 k8 _ y8=> ?_
    refine Tot.below hb k8 fun x9 c9 k9 _ y9=> ?_
    refine Tot.below hb k9 fun xa ca ka _ ya=> ?_
    refine Tot.below hb ka fun xb cb kb _ yb=> ?_
    refine Tot.app (by simp only[List.length_singleton];omega) (by omega) ?_
    refine Tot.next ⟨kb,by simp only[List.length_append,List.length_singleton];omega,fun q hq=> ?_⟩;rcases List.mem_append.1 hq with hq | hq
    ·exact hs2 q hq
    ·rw[List.mem_singleton.1 hq];refine⟨by simp,fun x hx=> ?_⟩;simp only[List.mem_cons,List.not_mem_nil,or_false]at hx;rcases hx with rfl | rfl | rfl | rfl
     ·exact bel _ (y8 (by omega))
     ·exact bel _ (y9 (by omega))
     ·exact bel _ (ya (by omega))
     ·exact bel _ (yb (by omega))
   ·refine Tot.below hb k6 fun x7 c7 k7 _ _=> ?_
    refine Tot.below hb k7 fun x8 c8 k8 _ _=> ?_
    refine Tot.app (by simp only[List.length_singleton];omega) (by omega) ?_
    refine Tot.next ⟨k8,by simp only[List.length_append,List.length_singleton];omega,fun q hq=> ?_⟩;rcases List.mem_append.1 hq with hq | hq
    ·exact hs2 q hq
    ·rw[List.mem_singleton.1 hq];refine⟨by simp,fun x hx=> ?_⟩;rw[List.mem_singleton.1 hx];exact wrap_in _
  ·rw[wrap_ok (z:=j+1) (by omega)];exact Tot.next ⟨⟨⟨by simp only;omega,by simp only;omega⟩,ha2.1,ha2.2.1,ha2.2.2⟩,by simp only;omega⟩
 refine Tot.exit ?_
 refine Tot.below hb hcu2 fun x6 c6 k6 _ y6=> ?_
 have hx6:=y6 (by omega);refine Tot.lp (fun s=>(-1<=s.1/\s.1<=4)/\CurOk b (s.2.1,s.2.2.1)/\(s.2.2.2.length:Int)+s.1<=4/\∀x∈s.2.2.2,I64 x) (fun s=>(s.1+1).toNat) ⟨⟨by simp only;omega,by simp only;omega⟩,k6,by simp only[List.length_nil];omega,fun a ha=>by cases ha⟩ (fun s hs=> ?_);obtain⟨k,u3,v3,os⟩:=s;obtain⟨⟨m0,m1⟩,hcu3,hl3,ho3⟩:=hs;simp only at m0 m1 hcu3 hl3 ho3;dsimp only;refine Tot.dite (fun h3=> ?_) (fun h3=> ?_)
 ·refine Tot.below hb hcu3 fun x7 c7 k7 _ _=> ?_
  refine Tot.app (by simp only[List.length_singleton];omega) (by omega) ?_
  rw[wrap_ok (z:=k - 1) (by omega)];refine Tot.next ⟨⟨⟨by simp only;omega,by simp only;omega⟩,k7,by simp only[List.length_append,List.length_singleton];omega,fun x hx=> ?_⟩,by simp only;omega⟩;rcases List.mem_append.1 hx with hx | hx
  ·exact ho3 x hx
  ·rw[List.mem_singleton.1 hx];exact wrap_in _
 exact Tot.exit (Tot.ret ⟨⟨by simp only;omega,fun s hs=>⟨by have:=(hs2 s hs).1;omega,(hs2 s hs).2⟩,by simp only;omega,ha,by simp only;omega,ho3⟩,hcu3⟩)
theorem has13 (xs:List Int)(x:Int)(h:xs.length<=1000000):spec_l13Has (xs,x)=some (decide (x∈xs)):=has_spec xs x (by omega)
structure CutIn (n:SNet)(v:Int)(cut:List Int):Prop where
 ok:NOk n
 v0:0<=v
 v1:v<nodesOf n
 len:cut.length<=4
 mem:∀x∈cut,0<=x/\x<=v
theorem cutOk_tot {n:SNet}(h:NB n){v:Int}{cut:List Int}(hl:cut.length<=1000000):Tot (spec_CutOk (n,(v,cut))) (fun r=>r=true->CutIn n v cut):=by
 unfold spec_CutOk;dsimp only;have fals:Tot (some false) (fun r=>r=true->CutIn n v cut):=Tot.ret (fun h=>by cases h);refine Tot.bind (netOk_tot h) fun ok hok=> ?_
 refine Tot.nite (fun _=>fals) (fun ho=> ?_);have hn:=hok ho;have hc:=caps_bd hn.caps;refine Tot.dite (fun _=>fals) (fun v0=> ?_);refine Tot.bindEq (nodeCount_nok hn) ?_
 refine Tot.dite (fun _=>fals) (fun v1=> ?_);refine Tot.dite (fun _=>fals) (fun h4=> ?_);refine Tot.bind (cone_tot h) fun cone hcone=> ?_
 refine Tot.lp (fun i=>(0<=i/\i<=(cut.length:Int))/\∀x∈cut.take i.toNat,0<=x/\x<=v) (fun i=>((cut.length:Int) - i).toNat) ⟨⟨by omega,by omega⟩,fun s hs=>by simp at hs⟩ (fun i hi=> ?_);obtain⟨⟨i0,i1⟩,hi⟩:=hi;refine Tot.dite (fun h1=> ?_) (fun h1=> ?_)
 ·refine Tot.get i0 h1 fun x hx _=> ?_
  rw[has13 _ _ (by omega)];refine Tot.bindEq rfl ?_
  refine Tot.ndite (fun _=>Tot.exit fals) (fun hm=> ?_);have hxm:=hcone.2 x hm;rw[wrap_ok (z:=i+1) (by omega)];have nxt:Tot (some (Sum.inl (i+1):Int⊕Bool)) (SumP (fun i' =>((0<=i'∧i'≤(cut.length:Int))/\∀x∈cut.take i'.toNat,0<=x/\x<=v)/\((cut.length:Int) - i').toNat<((cut.length:Int) - i).toNat) (fun r=>r=true->CutIn n v cut)):=
   Tot.next ⟨⟨⟨by omega,by omega⟩,take_all i0 h1 hi (by rw[<-hx];exact⟨hxm.1,hxm.2.1⟩)⟩,by omega⟩
  refine Tot.dite (fun hi0=> ?_) (fun _=>nxt);refine Tot.get i0 h1 fun y _ _=> ?_
  rw[wrap_ok (z:=i - 1) (by omega)];refine Tot.get (by omega) (by omega) fun z _ _=> ?_
  exact Tot.dite (fun _=>Tot.exit fals) (fun _=>nxt)
 refine Tot.exit ?_
 have e1:i.toNat=cut.length:=by omega
 rw[e1,List.take_length]at hi;refine Tot.bindEq (nodeCount_nok hn) ?_
 refine Tot.make (by omega) (by omega) (by omega) ?_
 refine Tot.gin (by omega) (by rw[List.length_replicate];omega) (Tot.get (by omega) (by rw[List.length_replicate];omega) fun _ _ _=> ?_);refine Tot.lp (fun s=>(0<=s.1/\s.1<=v)/\(s.2.length:Int)=nodesOf n) (fun s=>s.1.toNat) ⟨⟨by simp only;omega,by simp only;omega⟩,by simp only[gset_len,List.length_replicate];omega⟩ (fun s hs=> ?_);obtain⟨k,op⟩:=s;obtain⟨⟨k0,k1⟩,hop⟩:=hs;simp only at k0 k1 hop;dsimp only;refine Tot.dite (fun h2=> ?_) (fun h2=> ?_)
 ·rw[wrap_ok (z:=k - 1) (by omega)];refine Tot.gin (by omega) (by omega) (Tot.get (by omega) (by omega) fun _ _ _=> ?_);have nxt:∀q:List Bool,(q.length:Int)=nodesOf n->Tot (some (Sum.inl (k - 1,q):(Int×List Bool)⊕Bool)) (SumP (fun s' =>((0<=s'.1/\s'.1<=v)/\(s'.2.length:Int)=nodesOf n)/\s'.1.toNat<k.toNat) (fun r=>r=true->CutIn n v cut)):=fun q hq=>
   Tot.next ⟨⟨⟨by simp only;omega,by simp only;omega⟩,hq⟩,by simp only;omega⟩
  refine Tot.nite (fun _=>nxt op hop) (fun _=> ?_);rw[has13 _ _ (by omega)];refine Tot.bindEq rfl ?_
  refine Tot.dite (fun _=>nxt op hop) (fun _=> ?_);refine Tot.bindEq (first_nok hn) ?_
  refine Tot.dite (fun _=>Tot.exit fals) (fun hkf=> ?_);refine Tot.bindEq (first_nok hn) ?_
  rw[wrap_ok (z:=k - firstOf n) (by omega)];refine Tot.get (by omega) (by omega) fun a ha _=> ?_
  have hl2:=and_at hn (show 0<=k - firstOf n by omega) (by omega);rw[<-ha]at hl2;unfold Lit at hl2;refine Tot.div2 (by omega) (by omega) ?_
  refine Tot.gin (by omega) (by omega) (Tot.get (by omega) (by omega) fun _ _ _=> ?_);refine Tot.div2 (by omega) (by omega) ?_
  refine Tot.gin (by omega) (by rw[gset_len];omega) (Tot.get (by omega) (by rw[gset_len];omega) fun _ _ _=> ?_);exact nxt _ (by rw[gset_len,gset_len];exact hop)
 exact Tot.exit (Tot.ret fun _=>⟨hn,by omega,by omega,by omega,hi⟩)
structure MapIn (n:SNet)(cuts:List (List Int)):Prop where
 ok:NOk n
 len:cuts.length=n.2.2.1.length
 cut:∀i,i<cuts.length->(cuts.getD i []).length<=4/\∀x∈cuts.getD i [],0<=x/\x<firstOf n+(i:Int)
theorem mapOk_tot {n:SNet}(h:NB n){cuts:List (List Int)}(hl:∀c∈cuts,c.length<=1000):Tot (spec_MappingOk (n,cuts)) (fun r=>r=true->MapIn n cuts):=by
 unfold spec_MappingOk;dsimp only;have fals:Tot (some false) (fun r=>r=true->MapIn n cuts):=Tot.ret (fun h=>by cases h);refine Tot.bind (netOk_tot h) fun ok hok=> ?_
 refine Tot.nite (fun _=>fals) (fun ho=> ?_);have hn:=hok ho;have hc:=caps_bd hn.caps;have han:=hn.an;refine Tot.dite (fun _=>fals) (fun hlen=> ?_);have hlen:cuts.length=n.2.2.1.length:=by omega
 refine Tot.lp (fun i=>(0<=i/\i<=(cuts.length:Int))/\∀k:Nat,(k:Int)<i->(cuts.getD k []).length<=4/\∀x∈cuts.getD k [],0<=x/\x<firstOf n+(k:Int)) (fun i=>((cuts.length:Int) - i).toNat) ⟨⟨by omega,by omega⟩,fun k hk=>by omega⟩ (fun i hi=> ?_);obtain⟨⟨i0,i1⟩,hi⟩:=hi;refine Tot.dite (fun h1=> ?_) (fun h1=> ?_)
 ·refine Tot.get i0 h1 fun c hcd hm=> ?_
  have hcl:=hl c hm;refine Tot.bindEq (first_nok hn) ?_
  rw[wrap_ok (z:=firstOf n+i) (by omega),wrap_ok (z:=i+1) (by omega)];refine Tot.bind (cutOk_tot h (by omega)) fun b hb=> ?_
  refine Tot.nite (fun _=>Tot.exit fals) (fun hbt=> ?_);have hcut:=hb hbt;refine Tot.get i0 h1 fun c2 hc2 _=> ?_
  have e:c2=c:=by rw[hcd,hc2]
  subst e;refine Tot.bindEq (first_nok hn) ?_
  rw[wrap_ok (z:=firstOf n+i) (by omega),has13 _ _ (by omega)];refine Tot.bindEq rfl ?_
  refine Tot.dite (fun _=>Tot.exit fals) (fun hnm=> ?_);refine Tot.next ⟨⟨⟨by omega,by omega⟩,fun k hk=> ?_⟩,by omega⟩;by_cases q:(k:Int)<i
  ·exact hi k q
  ·have e3:i.toNat=k:=by omega
   rw[e3]at hcd;rw[<-hcd];refine⟨hcut.len,fun x hx=> ?_⟩;have hx2:=hcut.mem x hx;have hne:x≠firstOf n+i:=fun e=>by subst e;exact hnm hx
   omega
 exact Tot.exit (Tot.ret fun _=>⟨hn,hlen,fun k hk=>hi k (by omega)⟩)
theorem bit_tot {v:List Int}{x:Int}(h0:0<=x)(h1:x/2<(v.length:Int))(h2:x<=9223372036854775807):Tot (spec_l09Bit (v,x)) (fun _=>True):=by
 unfold spec_l09Bit;dsimp only;refine Tot.div2 h0 h2 ?_
 refine Tot.get (by omega) h1 fun _ _ _=> ?_
 exact Tot.ret trivial
theorem shl_one {k:Int}(h:0<=k/\k<=4):∃m:Int,gshift true .i64 1 k=some m/\1<=m/\m<=16:=by
 have:k=0\/k=1\/k=2\/k=3\/k=4:=by omega
 rcases this with rfl | rfl | rfl | rfl | rfl
 ·exact⟨1,rfl,by omega,by omega⟩
 ·exact⟨2,rfl,by omega,by omega⟩
 ·exact⟨4,rfl,by omega,by omega⟩
 ·exact⟨8,rfl,by omega,by omega⟩
 ·exact⟨16,rfl,by omega,by omega⟩
theorem shift_tot {β:Type}{l:Bool}{a b:Int}{k:Int->Option β}{Q:β->Prop}(h:0<=b/\b<64)(hk:∀z,Tot (k z) Q):Tot ((gshift l .i64 a b).bind k) Q:=by
 unfold gshift;rw[if_pos (show 0<=b/\b<((IntKind.i64).bits:Int)from h)];exact hk _
theorem cutTable_tot {n:SNet}(h:NB n){v:Int}{cut:List Int}(hl:cut.length<=1000000):Tot (spec_CutTable (n,(v,cut))) (fun _=>True):=by
 unfold spec_CutTable;dsimp only;refine Tot.bind (cutOk_tot h hl) fun b hb=> ?_
 refine Tot.nite (fun _=>Tot.ret trivial) (fun hbt=> ?_);obtain⟨hn,v0,v1,h4,hmem⟩:=hb hbt;have hc:=caps_bd hn.caps;obtain⟨M,hM,hM0,hM1⟩:=shl_one (k:=(cut.length:Int)) (by omega);rw[hM];refine Tot.lp (fun s=>0<=s.1/\s.1<=M) (fun s=>(M - s.1).toNat) ⟨by simp only;omega,by simp only;omega⟩ (fun s hs=> ?_);obtain⟨i,acc⟩:=s;obtain⟨i0,i1⟩:=hs;simp only at i0 i1;refine Tot.bindEq rfl ?_
 dsimp only;refine Tot.dite (fun h1=> ?_) (fun h1=>Tot.exit (Tot.ret trivial));refine Tot.bindEq (nodeCount_nok hn) ?_
 refine Tot.make (by omega) (by omega) (by omega) ?_
 refine Tot.lp (fun s=>(0<=s.1/\s.1<=v+1)/\(s.2.length:Int)=nodesOf n) (fun s=>(v+1 - s.1).toNat) ⟨⟨by simp only;omega,by simp only;omega⟩,by simp only[List.length_replicate];omega⟩ (fun s hs=> ?_);obtain⟨k,vs⟩:=s;obtain⟨⟨k0,k1⟩,hv⟩:=hs;simp only at k0 k1 hv;dsimp only;refine Tot.dite (fun h2=> ?_) (fun h2=> ?_)
 ·refine Tot.lp (fun s=>(0<=s.2.1/\s.2.1<=(cut.length:Int))/\(s.2.2.length:Int)=nodesOf n) (fun s=>((cut.length:Int) - s.2.1).toNat) ⟨⟨by simp only;omega,by simp only;omega⟩,hv⟩ (fun s hs=> ?_);obtain⟨st,j,ws⟩:=s;obtain⟨⟨j0,j1⟩,hw⟩:=hs;simp only at j0 j1 hw;dsimp only;refine Tot.dite (fun h3=> ?_) (fun h3=> ?_)
  ·rw[wrap_ok (z:=j+1) (by omega)];refine Tot.get j0 h3 fun x _ _=> ?_
   refine Tot.dite (fun _=> ?_) (fun _=> ?_)
   ·refine shift_tot (by omega) fun z=> ?_
    refine Tot.gin (by omega) (by omega) (Tot.get (by omega) (by omega) fun _ _ _=> ?_);exact Tot.next ⟨⟨⟨by simp only;omega,by simp only;omega⟩,by simp only[gset_len];exact hw⟩,by simp only;omega⟩
   ·exact Tot.next ⟨⟨⟨by simp only;omega,by simp only;omega⟩,hw⟩,by simp only;omega⟩
  refine Tot.exit ?_
  rw[wrap_ok (z:=k+1) (by omega)];have nxt:∀q:List Int,(q.length:Int)=nodesOf n->Tot (some (Sum.inl (k+1,q):(Int×List Int)⊕((Int×Int)⊕(Int×Int)))) (SumP (fun s' =>((0<=s'.1/\s'.1<=v+1)/\(s'.2.length:Int)=nodesOf n)/\(v+1 - s'.1).toNat<(v+1 - k).toNat) (SumP (fun s' =>(0<=s'.1/\s'.1<=M)/\(M - s'.1).toNat<(M - i).toNat) (fun _=>True))):=fun q hq=>
   Tot.next ⟨⟨⟨by simp only;omega,by simp only;omega⟩,hq⟩,by simp only;omega⟩
  refine Tot.nite (fun _=> ?_) (fun _=>nxt ws hw);refine Tot.bindEq (first_nok hn) ?_
  refine Tot.dite (fun hkf=> ?_) (fun _=>nxt ws hw);refine Tot.bindEq (first_nok hn) ?_
  rw[wrap_ok (z:=k - firstOf n) (by omega)];refine Tot.get (by omega) (by omega) fun a ha _=> ?_
  have hl2:=and_at hn (show 0<=k - firstOf n by omega) (by omega);rw[<-ha]at hl2;unfold Lit at hl2;refine Tot.bind (bit_tot (by omega) (by omega) (by omega)) fun _ _=> ?_
  refine Tot.bind (bit_tot (by omega) (by omega) (by omega)) fun _ _=> ?_
  refine Tot.gin (by omega) (by omega) (Tot.get (by omega) (by omega) fun _ _ _=> ?_);exact nxt _ (by rw[gset_len];exact hw)
 refine Tot.exit ?_
 refine Tot.gin (by omega) (by omega) (Tot.get (by omega) (by omega) fun _ _ _=> ?_);refine shift_tot (by omega) fun z=> ?_
 rw[wrap_ok (z:=i+1) (by omega)];exact Tot.next ⟨⟨by simp only;omega,by simp only;omega⟩,by simp only;omega⟩
theorem tableNot_tot (t:Int×Int):Tot (spec_TableNot t) (fun _=>True):=by
 unfold spec_TableNot;refine Tot.bindEq (tbl_spec t.1 t.2) ?_
 dsimp only;refine Tot.ndite (fun _=>Tot.ret trivial) (fun h=> ?_);refine Tot.bindEq (full_cases h.1) ?_
 exact Tot.ret trivial
theorem nodes20_tot {to list:List Int}(hl:list.length<=1000)(h:∀x∈list,0<=x/\x<(to.length:Int)):Tot (spec_l20Nodes (to,list)) (fun r=>r.length=list.length):=by
 unfold spec_l20Nodes;dsimp only;refine Tot.lp (fun s=>(0<=s.1/\s.1<=(list.length:Int))/\(s.2.length:Int)=s.1) (fun s=>((list.length:Int) - s.1).toNat) ⟨⟨by simp only;omega,by simp only;omega⟩,by simp⟩ (fun s hs=> ?_);obtain⟨i,r⟩:=s;obtain⟨⟨i0,i1⟩,hr⟩:=hs;simp only at i0 i1 hr;dsimp only;refine Tot.dite (fun h1=> ?_) (fun h1=> ?_)
 ·refine Tot.get i0 h1 fun y hy hm=> ?_
  refine Tot.get (h y hm).1 (h y hm).2 fun z _ _=> ?_
  refine Tot.app (by simp only[List.length_singleton];omega) (by omega) ?_
  rw[wrap_ok (z:=i+1) (by omega)];exact Tot.next ⟨⟨⟨by simp only;omega,by simp only;omega⟩,by simp only[List.length_append,List.length_singleton];omega⟩,by simp only;omega⟩
 exact Tot.exit (Tot.ret (by omega))
theorem roots20_tot {to neg list:List Int}{m:Int}(hl:list.length<=1000)(ht:(to.length:Int)=m)(hng:(neg.length:Int)=m)(h:∀x∈list,Lit x m)(hm:m<=1000):Tot (spec_l20Roots (to,(neg,list))) (fun r=>r.length=list.length):=by
 unfold spec_l20Roots;dsimp only;refine Tot.lp (fun s=>(0<=s.1/\s.1<=(list.length:Int))/\(s.2.length:Int)=s.1) (fun s=>((list.length:Int) - s.1).toNat) ⟨⟨by simp only;omega,by simp only;omega⟩,by simp⟩ (fun s hs=> ?_);obtain⟨i,r⟩:=s;obtain⟨⟨i0,i1⟩,hr⟩:=hs;simp only at i0 i1 hr;dsimp only;refine Tot.dite (fun h1=> ?_) (fun h1=> ?_)
 ·rw[wrap_ok (z:=i+1) (by omega)];refine Tot.get i0 h1 fun y hy hm=> ?_
  have hy2:=h y hm;unfold Lit at hy2;refine Tot.rem (by omega) (by omega) ?_
  refine Tot.dite (fun _=> ?_) (fun _=> ?_)
  ·refine Tot.get i0 h1 fun y2 hy2' _=> ?_
   have e:y2=y:=by rw[hy,hy2']
   subst e;refine Tot.div2 (by omega) (by omega) ?_
   refine Tot.get (by omega) (by omega) fun z _ _=> ?_
   refine Tot.app (by simp only[List.length_singleton];omega) (by omega) ?_
   exact Tot.next ⟨⟨⟨by simp only;omega,by simp only;omega⟩,by simp only[List.length_append,List.length_singleton];omega⟩,by simp only;omega⟩
  ·refine Tot.get i0 h1 fun y2 hy2' _=> ?_
   have e:y2=y:=by rw[hy,hy2']
   subst e;refine Tot.div2 (by omega) (by omega) ?_
   refine Tot.get (by omega) (by omega) fun z _ _=> ?_
   refine Tot.app (by simp only[List.length_singleton];omega) (by omega) ?_
   exact Tot.next ⟨⟨⟨by simp only;omega,by simp only;omega⟩,by simp only[List.length_append,List.length_singleton];omega⟩,by simp only;omega⟩
 exact Tot.exit (Tot.ret (by omega))
end Go.Pf
/-
  Own work. Draws, plainly: LUT networks out of mapped nets.
-/
namespace Go.Pf
open Go Go.Pu
set_option linter.unusedVariables false
structure LB (l:Net):Prop where
 sq:l.2.1.length<=1000
 ins:∀s∈l.2.1,List.length s.2.2<=1000
 lt:l.2.2.1.length<=1000
 lins:∀x∈l.2.2.1,List.length x.1<=1000
 ot:l.2.2.2.length<=1000
theorem LB.netB {l:Net}(h:LB l):NetB l:=by
 obtain⟨h1,h2,h3,h4,h5⟩:=h;refine⟨⟨by omega,fun s hs=> ?_⟩,⟨by omega,fun x hx=> ?_⟩,by omega⟩
 ·have:=h2 s hs;unfold SeqB;omega
 ·have:=h4 x hx;unfold LutB;omega
theorem lb_empty:LB (0,([],([],[]))):=⟨by simp,fun s hs=>(by cases hs),by simp,fun s hs=>(by cases hs),by simp⟩
theorem toLuts_tot {n:SNet}(h:NB n){cuts:List (List Int)}(hl:∀c∈cuts,c.length<=1000):Tot (spec_ToLuts (n,cuts)) (fun r=>LB r.1):=by
 unfold spec_ToLuts;dsimp only;refine Tot.bind (mapOk_tot h hl) fun b hb=> ?_
 refine Tot.nite (fun _=>Tot.ret lb_empty) (fun hbt=> ?_);obtain⟨hn,hlen,hcut⟩:=hb hbt;have hc:=caps_bd hn.caps;have han:=hn.an;have hsq:=hn.sq;have hot:=hn.ot;have cutAt:∀{i:Int} {c:List Int},0<=i->i<(cuts.length:Int)->c=cuts.getD i.toNat []->c.length<=4/\∀x∈c,0<=x/\x<firstOf n+i:=fun {i c} i0 i1 e=>by
  have:=hcut i.toNat (by omega);rw[<-e]at this;have e2:(i.toNat:Int)=i:=by omega
  rw[e2]at this;exact this
 refine Tot.bindEq (nodeCount_nok hn) ?_
 refine Tot.bindEq (first_nok hn) ?_
 refine Tot.make (by omega) (by omega) (by omega) ?_
 refine Tot.make (by omega) (by omega) (by omega) ?_
 refine Tot.bindEq (roots_ok h) ?_
 have hrl:(rootsOf n).length<=1001000:=roots_len h _;have hri:∀x∈rootsOf n,Lit x (nodesOf n):=fun x hx=>by
  rcases roots_mem.1 hx with q | ⟨s,hs,q⟩
  ·exact hn.outs x q
  ·exact(hn.ins s hs).2 x q
 refine Tot.lp (fun s=>(0<=s.1/\s.1<=((rootsOf n).length:Int))/\(s.2.1.length:Int)=nodesOf n/\(s.2.2.length:Int)=nodesOf n) (fun s=>(((rootsOf n).length:Int) - s.1).toNat) ⟨⟨by simp only;omega,by simp only;omega⟩,by simp only[List.length_replicate];omega,by simp only[List.length_replicate];omega⟩ (fun s hs=> ?_);obtain⟨i,pos,neg⟩:=s;obtain⟨⟨i0,i1⟩,hp,hg⟩:=hs;simp only at i0 i1 hp hg;dsimp only;refine Tot.dite (fun h1=> ?_) (fun h1=> ?_)
 ·rw[wrap_ok (z:=i+1) (by omega)];refine Tot.gin i0 h1 (Tot.get i0 h1 fun x hx hm=> ?_);have hxl:=hri x hm;unfold Lit at hxl;refine Tot.rem (by omega) (by omega) ?_
  refine Tot.dite (fun _=> ?_) (fun _=> ?_)
  ·refine Tot.gin i0 h1 (Tot.get i0 h1 fun y hy _=> ?_);have e:y=x:=by rw[hx,hy]
   subst e;refine Tot.div2 (by omega) (by omega) ?_
   refine Tot.gin (by omega) (by omega) (Tot.get (by omega) (by omega) fun _ _ _=> ?_);exact Tot.next ⟨⟨⟨by simp only;omega,by simp only;omega⟩,by simp only[gset_len];exact hp,hg⟩,by simp only;omega⟩
  ·refine Tot.gin i0 h1 (Tot.get i0 h1 fun y hy _=> ?_);have e:y=x:=by rw[hx,hy]
   subst e;refine Tot.div2 (by omega) (by omega) ?_
   refine Tot.gin (by omega) (by omega) (Tot.get (by omega) (by omega) fun _ _ _=> ?_);exact Tot.next ⟨⟨⟨by simp only;omega,by simp only;omega⟩,hp,by simp only[gset_len];exact hg⟩,by simp only;omega⟩
 refine Tot.exit ?_
 clear h1 i0 i1
 rw[wrap_ok (by omega)];refine Tot.lp (fun s=>(-1<=s.1/\s.1<(cuts.length:Int))/\(s.2.length:Int)=nodesOf n) (fun s=>(s.1+1).toNat) ⟨⟨by simp only;omega,by simp only;omega⟩,hp⟩ (fun s hs=> ?_);obtain⟨i,need⟩:=s;obtain⟨⟨i0,i1⟩,hnd⟩:=hs;simp only at i0 i1 hnd;dsimp only;refine Tot.dite (fun h1=> ?_) (fun h1=> ?_)
 ·refine Tot.join (A:=fun a:List Bool=>(a.length:Int)=nodesOf n) ?_ fun a ha=> ?_
  ·refine Tot.lp (fun s=>(0<=s.1/\s.1<=4)/\(s.2.length:Int)=nodesOf n) (fun s=>(4 - s.1).toNat) ⟨⟨by simp only;omega,by simp only;omega⟩,hnd⟩ (fun s hs=> ?_);obtain⟨k,nd⟩:=s;obtain⟨⟨k0,k1⟩,hk⟩:=hs;simp only at k0 k1 hk;dsimp only;refine Tot.get h1 i1 fun c hcd hm=> ?_
   obtain⟨hc4,hcx⟩:=cutAt h1 i1 hcd;refine Tot.dite (fun h2=> ?_) (fun h2=>Tot.exit (Tot.next hk));rw[wrap_ok (z:=firstOf n+i) (by omega),wrap_ok (z:=k+1) (by omega)];refine Tot.gin (by omega) (by omega) (Tot.get (by omega) (by omega) fun _ _ _=> ?_);have inner:Tot (((gget [] cuts i).bind fun v25=>(gget 0 v25 k).bind fun v26=>(gin nd.length v26).bind fun _=>(gget false nd v26).bind fun v28=>some (Sum.inl (k+1,gset nd v26 true):(Int×List Bool)⊕(List Bool⊕((Int×List Bool)⊕(Net×Bool))))))
    (SumP (fun s' =>((0<=s'.1/\s'.1<=4)/\(s'.2.length:Int)=nodesOf n)/\(4 - s'.1).toNat<(4 - k).toNat) (SumP (fun a:List Bool=>(a.length:Int)=nodesOf n) (SumP (fun s' =>((-1<=s'.1/\s'.1<(cuts.length:Int))/\(s'.2.length:Int)=nodesOf n)/\(s'.1+1).toNat<(i+1).toNat) (fun r=>LB r.1)))):=by
    refine Tot.get h1 i1 fun c2 hc2 _=> ?_
    have e:c2=c:=by rw[hcd,hc2]
    subst e;refine Tot.get k0 h2 fun x _ hxm=> ?_
    have hx:=hcx x hxm;refine Tot.gin (by omega) (by omega) (Tot.get (by omega) (by omega) fun _ _ _=> ?_);exact Tot.next ⟨⟨⟨by simp only;omega,by simp only;omega⟩,by simp only[gset_len];exact hk⟩,by simp only;omega⟩
   refine Tot.ite (fun _=>inner) (fun _=> ?_);refine Tot.gin (by omega) (by omega) (Tot.get (by omega) (by omega) fun _ _ _=> ?_);refine Tot.ite (fun _=>inner) (fun _=>Tot.exit (Tot.next hk))
  ·rw[wrap_ok (z:=i - 1) (by omega)];exact Tot.next ⟨⟨⟨by simp only;omega,by simp only;omega⟩,ha⟩,by simp only;omega⟩
 refine Tot.exit ?_
 clear h1 i0 i1
 refine Tot.make (by omega) (by omega) (by omega) ?_
 refine Tot.lp (fun s=>(0<=s.1/\s.1<=firstOf n)/\(s.2.length:Int)=s.1) (fun s=>(firstOf n - s.1).toNat) ⟨⟨by simp only;omega,by simp only;omega⟩,by simp⟩ (fun s hs=> ?_);obtain⟨i,to⟩:=s;obtain⟨⟨i0,i1⟩,hto⟩:=hs;simp only at i0 i1 hto;dsimp only;refine Tot.dite (fun h1=> ?_) (fun h1=> ?_)
 ·refine Tot.app (by simp only[List.length_singleton];omega) (by omega) ?_
  rw[wrap_ok (z:=i+1) (by omega)];exact Tot.next ⟨⟨⟨by simp only;omega,by simp only;omega⟩,by simp only[List.length_append,List.length_singleton];omega⟩,by simp only;omega⟩
 refine Tot.exit ?_
 have hto:(to.length:Int)=firstOf n:=by omega
 clear h1 i0 i1
 refine Tot.lp (fun s=>(0<=s.1/\s.1<=(cuts.length:Int))/\(s.2.2.length:Int)=firstOf n+s.1/\(s.2.1.length:Int)<=s.1/\∀x∈s.2.1,List.length x.1<=4) (fun s=>((cuts.length:Int) - s.1).toNat) ⟨⟨by simp only;omega,by simp only;omega⟩,by simp only;omega,by simp,fun x hx=>(by cases hx)⟩ (fun s hs=> ?_);obtain⟨i,luts,to2⟩:=s;obtain⟨⟨i0,i1⟩,ht2,hll,hlx⟩:=hs;simp only at i0 i1 ht2 hll hlx;dsimp only;refine Tot.dite (fun h1=> ?_) (fun h1=> ?_)
 ·refine Tot.app (by simp only[List.length_singleton];omega) (by omega) ?_
  rw[wrap_ok (z:=firstOf n+i) (by omega),wrap_ok (z:=i+1) (by omega)];refine Tot.gin (by omega) (by omega) (Tot.get (by omega) (by omega) fun _ _ _=> ?_);refine Tot.ite (fun _=> ?_) (fun _=> ?_)
  ·refine Tot.get i0 h1 fun c hcd hm=> ?_
   obtain⟨hc4,hcx⟩:=cutAt i0 h1 hcd;refine Tot.bind (cutTable_tot h (by omega)) fun t _=> ?_
   refine Tot.get i0 h1 fun c2 hc2 _=> ?_
   have e:c2=c:=by rw[hcd,hc2]
   subst e;refine Tot.bind (nodes20_tot (by omega) (fun x hx=> ?_)) fun r hr=> ?_
   ·have:=hcx x hx;rw[List.length_append,List.length_singleton];omega
   refine Tot.app (by simp only[List.length_singleton];omega) (by omega) ?_
   refine Tot.next ⟨⟨⟨by simp only;omega,by simp only;omega⟩,by simp only[List.length_append,List.length_singleton];omega,by simp only[List.length_append,List.length_singleton];omega,fun x hx=> ?_⟩,by simp only;omega⟩;rcases List.mem_append.1 hx with hx | hx
   ·exact hlx x hx
   ·rw[List.mem_singleton.1 hx];simp only;omega
  ·exact Tot.next ⟨⟨⟨by simp only;omega,by simp only;omega⟩,by simp only[List.length_append,List.length_singleton];omega,by simp only;omega,hlx⟩,by simp only;omega⟩
 refine Tot.exit ?_
 have ht2:(to2.length:Int)=nodesOf n:=by omega
 have hll:luts.length<=300:=by omega
 clear h1 i0 i1
 refine Tot.lp (fun s=>(0<=s.1/\s.1<=nodesOf n)/\(s.2.1.length:Int)=nodesOf n/\(s.2.2.length:Int)<=300+s.1/\∀x∈s.2.2,List.length x.1<=4) (fun s=>(nodesOf n - s.1).toNat) ⟨⟨by simp only;omega,by simp only;omega⟩,by simp only[List.length_replicate];omega,by simp only;omega,hlx⟩ (fun s hs=> ?_);obtain⟨k,ng,ls⟩:=s;obtain⟨⟨k0,k1⟩,hng,hls,hlsx⟩:=hs;simp only at k0 k1 hng hls hlsx;dsimp only;refine Tot.dite (fun h1=> ?_) (fun h1=> ?_)
 ·rw[wrap_ok (z:=k+1) (by omega)];refine Tot.gin (by omega) (by omega) (Tot.get (by omega) (by omega) fun _ _ _=> ?_);refine Tot.nite (fun _=> ?_) (fun _=> ?_)
  ·exact Tot.next ⟨⟨⟨by simp only;omega,by simp only;omega⟩,hng,by simp only;omega,hlsx⟩,by simp only;omega⟩
  refine Tot.gin (by omega) (by omega) (Tot.get (by omega) (by omega) fun _ _ _=> ?_);refine Tot.dite (fun hkf=> ?_) (fun _=> ?_)
  ·rw[wrap_ok (z:=k - firstOf n) (by omega)];refine Tot.get (by omega) (by omega) fun c hcd hm=> ?_
   obtain⟨hc4,hcx⟩:=cutAt (show 0<=k - firstOf n by omega) (by omega) hcd;refine Tot.bind (cutTable_tot h (by omega)) fun t _=> ?_
   refine Tot.bind (tableNot_tot t) fun t2 _=> ?_
   refine Tot.get (by omega) (by omega) fun c2 hc2 _=> ?_
   have e:c2=c:=by rw[hcd,hc2]
   subst e;refine Tot.bind (nodes20_tot (by omega) (fun x hx=> ?_)) fun r hr=> ?_
   ·have:=hcx x hx;omega
   refine Tot.app (by simp only[List.length_singleton];omega) (by omega) ?_
   refine Tot.next ⟨⟨⟨by simp only;omega,by simp only;omega⟩,by simp only[gset_len];exact hng,by simp only[List.length_append,List.length_singleton];omega,fun x hx=> ?_⟩,by simp only;omega⟩;rcases List.mem_append.1 hx with hx | hx
   ·exact hlsx x hx
   ·rw[List.mem_singleton.1 hx];simp only;omega
  ·refine Tot.dite (fun _=> ?_) (fun _=> ?_)
   ·refine Tot.app (by simp only[List.length_singleton];omega) (by omega) ?_
    refine Tot.next ⟨⟨⟨by simp only;omega,by simp only;omega⟩,by simp only[gset_len];exact hng,by simp only[List.length_append,List.length_singleton];omega,fun x hx=> ?_⟩,by simp only;omega⟩;rcases List.mem_append.1 hx with hx | hx
    ·exact hlsx x hx
    ·rw[List.mem_singleton.1 hx];simp
   ·refine Tot.app (by simp only[List.length_singleton];omega) (by omega) ?_
    refine Tot.next ⟨⟨⟨by simp only;omega,by simp only;omega⟩,by simp only[gset_len];exact hng,by simp only[List.length_append,List.length_singleton];omega,fun x hx=> ?_⟩,by simp only;omega⟩;rcases List.mem_append.1 hx with hx | hx
    ·exact hlsx x hx
    ·rw[List.mem_singleton.1 hx];simp
 refine Tot.exit ?_
 have hls:ls.length<=700:=by omega
 clear h1 k0 k1
 refine Tot.lp (fun s=>(0<=s.1/\s.1<=(n.2.1.length:Int))/\(s.2.length:Int)<=s.1/\∀x∈s.2,List.length x.2.2<=4) (fun s=>((n.2.1.length:Int) - s.1).toNat) ⟨⟨by simp only;omega,by simp only;omega⟩,by simp,fun x hx=>(by cases hx)⟩ (fun s hs=> ?_);obtain⟨i,sq⟩:=s;obtain⟨⟨i0,i1⟩,hl2,hx2⟩:=hs;simp only at i0 i1 hl2 hx2;dsimp only;refine Tot.dite (fun h1=> ?_) (fun h1=> ?_)
 ·refine Tot.get i0 h1 fun a _ _=> ?_
  refine Tot.get i0 h1 fun b2 _ _=> ?_
  refine Tot.get i0 h1 fun y _ hym=> ?_
  have hyi:=hn.ins y hym;refine Tot.bind (roots20_tot (by omega) ht2 hng hyi.2 (by omega)) fun r hr=> ?_
  refine Tot.app (by simp only[List.length_singleton];omega) (by omega) ?_
  rw[wrap_ok (z:=i+1) (by omega)];refine Tot.next ⟨⟨⟨by simp only;omega,by simp only;omega⟩,by simp only[List.length_append,List.length_singleton];omega,fun x hx=> ?_⟩,by simp only;omega⟩;rcases List.mem_append.1 hx with hx | hx
  ·exact hx2 x hx
  ·rw[List.mem_singleton.1 hx];simp only;omega
 refine Tot.exit ?_
 refine Tot.bind (roots20_tot (by omega) ht2 hng hn.outs (by omega)) fun r hr=> ?_
 exact Tot.ret ⟨by simp only;omega,fun s hs=>by have:=hx2 s hs;omega,by simp only;omega,fun x hx=>by have:=hlsx x hx;omega,by simp only;omega⟩
end Go.Pf
/-
  Own work. Draws, plainly: least cuts by flow, labels, depth-optimal mappings.
-/
namespace Go.Pf
open Go Go.Pu
set_option linter.unusedVariables false
theorem fan_tot {n:SNet}(h:NOk n){k:Int}(k0:0<=k)(k1:k<nodesOf n):Tot (spec_l17Fan (n,k)) (fun r=>r.length<=2/\∀x∈r,0<=x/\x<nodesOf n):=by
 unfold spec_l17Fan;dsimp only;have hc:=caps_bd h.caps;refine Tot.bindEq (first_nok h) ?_
 refine Tot.dite (fun _=>Tot.ret ⟨by simp,fun x hx=>(by cases hx)⟩) (fun hf=> ?_);refine Tot.bindEq (first_nok h) ?_
 rw[wrap_ok (z:=k - firstOf n) (by omega)];refine Tot.get (by omega) (by omega) fun a ha _=> ?_
 have hl:=and_at h (show 0<=k - firstOf n by omega) (by omega);rw[<-ha]at hl;unfold Lit at hl;refine Tot.dite (fun _=> ?_) (fun _=> ?_)
 ·refine Tot.div2 (by omega) (by omega) ?_
  refine Tot.app (by simp) (by omega) ?_
  refine Tot.dite (fun _=> ?_) (fun _=> ?_)
  ·refine Tot.div2 (by omega) (by omega) ?_
   refine Tot.app (by simp) (by omega) ?_
   refine Tot.ret ⟨by simp,fun x hx=> ?_⟩;simp only[List.nil_append,List.cons_append,List.mem_cons,List.not_mem_nil,or_false]at hx;rcases hx with rfl | rfl<;>omega
  ·refine Tot.ret ⟨by simp,fun x hx=> ?_⟩;simp only[List.nil_append,List.mem_cons,List.not_mem_nil,or_false]at hx;subst hx;omega
 ·refine Tot.dite (fun _=> ?_) (fun _=>Tot.ret ⟨by simp,fun x hx=>(by cases hx)⟩);refine Tot.div2 (by omega) (by omega) ?_
  refine Tot.app (by simp) (by omega) ?_
  refine Tot.ret ⟨by simp,fun x hx=> ?_⟩;simp only[List.nil_append,List.mem_cons,List.not_mem_nil,or_false]at hx;subst hx;omega
structure SI (M:Nat)(b q:List Int):Prop where
 len:b.length=M
 mem:∀x∈q,(0<=x/\x<(M:Int))/\b.getD x.toNat 0≠-2
 chain:∀j,j<q.length->b.getD (q.getD j 0).toNat 0= -1\/∃i,i<j/\b.getD (q.getD j 0).toNat 0=q.getD i 0
 cnt:q.length+b.count (-2)=M
theorem count_set:∀(b:List Int) (i:Nat) (v:Int),i<b.length->b.getD i 0= -2->v≠-2->(b.set i v).count (-2)+1=b.count (-2)
 | [],i,v,h,_,_=>by simp at h
 | x::b,0,v,_,h,hv=>by
  simp at h;subst h;simp[List.count_cons,hv]
 | x::b,i+1,v,h,h2,hv=>by
  have ih:=count_set b i v (by simpa using h) (by simpa using h2) hv;simp only[List.set_cons_succ,List.count_cons];omega
theorem getD_app_l {xs ys:List Int}{i:Nat}(h:i<xs.length):(xs++ys).getD i 0=xs.getD i 0:=by
 simp[List.getD,List.getElem?_append_left h]
theorem SI.qlen {M:Nat}{b q:List Int}(h:SI M b q):q.length<=M:=by have:=h.cnt;omega
theorem SI.push {M:Nat}{b q:List Int}(h:SI M b q){x v:Int}(x0:0<=x/\x<(M:Int))(hx:b.getD x.toNat 0= -2)(hv:v= -1\/v∈q):SI M (gset b x v) (q++[x]):=by
 have hv2:v≠-2:=by
  rcases hv with rfl | hv
  ·omega
  ·have:=(h.mem v hv).1;omega
 have hxl:x.toNat<b.length:=by rw[h.len];omega
 have hne:∀y∈q,y.toNat≠x.toNat:=fun y hy e=>by
  have:=(h.mem y hy).2;rw[e,hx]at this;exact this rfl
 have g1:∀y∈q,(gset b x v).getD y.toNat 0=b.getD y.toNat 0:=fun y hy=>by
  unfold gset;rw[List.getD,List.getElem?_set_ne (Ne.symm (hne y hy))];rfl
 have g2:(gset b x v).getD x.toNat 0=v:=by
  unfold gset;rw[List.getD,List.getElem?_set_self hxl];rfl
 refine⟨by rw[gset_len];exact h.len,fun y hy=> ?_,fun j hj=> ?_,?_⟩
 ·rcases List.mem_append.1 hy with hy | hy
  ·rw[g1 y hy];exact h.mem y hy
  ·rw[List.mem_singleton.1 hy,g2];exact⟨x0,hv2⟩
 ·rw[List.length_append,List.length_singleton]at hj;by_cases c:j<q.length
  ·rw[getD_app_l c,g1 _ (getD_mem c)];rcases h.chain j c with e | ⟨i,hi,e⟩
   ·exact .inl e
   ·exact .inr ⟨i,hi,by rw[e,getD_app_l (by omega)]⟩
  ·have e:j=q.length:=by omega
   subst e;have e2:(q++[x]).getD q.length 0=x:=by simp[List.getD]
   rw[e2,g2];rcases hv with rfl | hv
   ·exact .inl rfl
   ·obtain⟨i,hi,rfl⟩:=List.getElem_of_mem hv;exact .inr ⟨i,hi,by rw[getD_app_l hi,List.getD,List.getElem?_eq_getElem hi];rfl⟩
 ·have:=count_set b x.toNat v hxl hx hv2;have h2:=h.cnt;unfold gset;rw[List.length_append,List.length_singleton];omega
theorem SI.start (M:Nat):SI M (List.replicate M (-2)) []:=⟨by simp,fun x hx=>(by cases hx),fun j hj=>by simp at hj,by simp⟩
theorem SI.back {M:Nat}{b q:List Int}(h:SI M b q){x:Int}(hx:x∈q):b.getD x.toNat 0= -1\/(b.getD x.toNat 0∈q/\q.idxOf (b.getD x.toNat 0)<q.idxOf x):=by
 have hj:q.idxOf x<q.length:=List.idxOf_lt_length_of_mem hx;have e:q.getD (q.idxOf x) 0=x:=by
  rw[List.getD,List.getElem?_eq_getElem hj,List.getElem_idxOf];rfl
 have hc:=h.chain _ hj;rw[e]at hc;rcases hc with hc | ⟨i,hi,hc⟩
 ·exact .inl hc
 ·right
  have hil:i<q.length:=by omega
  have hm:q.getD i 0∈q:=getD_mem hil;rw[hc];refine⟨hm,Nat.lt_of_le_of_lt ?_ hi⟩;have e2:q.getD i 0=q[i]:=by rw[List.getD,List.getElem?_eq_getElem hil];rfl
  rw[e2];by_cases c:q.idxOf q[i]<=i
  ·exact c
  ·exfalso
   have:=List.not_of_lt_findIdx (xs:=q) (p:=fun y=>y==q[i]) (i:=i) (by unfold List.idxOf at c;omega);simp at this
def AbOk (n:SNet)(ab:List Int):Prop:=(ab.length:Int)=nodesOf n/\∀y∈ab,-1<=y/\y<nodesOf n
theorem search_tot {n:SNet}(h:NOk n){up us:List Bool}{ab:List Int}(hu:(up.length:Int)=nodesOf n)(hs:(us.length:Int)=nodesOf n)(ha:AbOk n ab):Tot (spec_l17Search (n,(up,(us,ab)))) (fun r=>∃q,SI (2*nodesOf n).toNat r.1 q/\(r.2= -1\/r.2∈q)):=by
 unfold spec_l17Search;dsimp only;have hc:=caps_bd h.caps;obtain⟨M,hM⟩:∃M:Nat,2*nodesOf n=(M:Int):=⟨(2*nodesOf n).toNat,by omega⟩;have hM2:(2*nodesOf n).toNat=M:=by omega
 rw[hM2];refine Tot.lp (fun s=>(0<=s.1/\s.1<=(M:Int))/\s.2=List.replicate s.1.toNat (-2)) (fun s=>((M:Int) - s.1).toNat) ⟨⟨by simp only;omega,by simp only;omega⟩,by simp⟩ (fun s hs0=> ?_);obtain⟨i,b⟩:=s;obtain⟨⟨i0,i1⟩,hb⟩:=hs0;simp only at i0 i1 hb;refine Tot.bindEq (nodeCount_nok h) ?_
 dsimp only;rw[wrap_ok (z:=2*nodesOf n) (by omega)];refine Tot.dite (fun h1=> ?_) (fun h1=> ?_)
 ·subst hb;refine Tot.app (by simp only[List.length_singleton,List.length_replicate];omega) (by omega) ?_
  rw[wrap_ok (z:=i+1) (by omega)];refine Tot.next ⟨⟨⟨by simp only;omega,by simp only;omega⟩,?_⟩,by simp only;omega⟩;simp only;rw[show(i+1).toNat=i.toNat+1 by omega,List.replicate_succ']
 refine Tot.exit ?_
 have hiM:i.toNat=M:=by omega
 rw[hiM]at hb
 clear h1 i0 i1
 refine Tot.lp (fun s=>(0<=s.1/\s.1<=nodesOf n)/\SI M s.2.1 s.2.2) (fun s=>(nodesOf n - s.1).toNat) ⟨⟨by simp only;omega,by simp only;omega⟩,by simp only;rw[hb];exact SI.start M⟩ (fun s hs0=> ?_);obtain⟨k,b1,q1⟩:=s;obtain⟨⟨k0,k1⟩,hsi⟩:=hs0;simp only at k0 k1 hsi;refine Tot.bindEq (nodeCount_nok h) ?_
 dsimp only;refine Tot.dite (fun h1=> ?_) (fun h1=> ?_)
 ·refine Tot.bind (fan_tot h k0 h1) fun fan hfan=> ?_
  refine Tot.join (A:=fun a:List Int×List Int=>SI M a.1 a.2) ?_ fun a ha2=> ?_
  ·refine Tot.lp (fun s=>(0<=s.1/\s.1<=(fan.length:Int))/\SI M s.2.1 s.2.2) (fun s=>((fan.length:Int) - s.1).toNat) ⟨⟨by simp only;omega,by simp only;omega⟩,hsi⟩ (fun s hs0=> ?_);obtain⟨j,b2,q2⟩:=s;obtain⟨⟨j0,j1⟩,hsi2⟩:=hs0;simp only at j0 j1 hsi2;dsimp only;have hql:=hsi2.qlen;have hbl:=hsi2.len;have ex:∀{β:Type} {A:β->Prop} {Q:((Int×(List Int×List Int))⊕(List Int×Int))->Prop},Tot (Option.map (Sum.inr:((List Int×List Int)⊕((Int×(List Int×List Int))⊕(List Int×Int)))->β⊕_) (some (.inl (b2,q2)))) (SumP A (SumP (fun a:List Int×List Int=>SI M a.1 a.2) Q)):=Tot.exit (Tot.next hsi2);refine Tot.dite (fun h2=> ?_) (fun h2=>ex);rw[wrap_ok (z:=j+1) (by omega)];refine Tot.get k0 (by omega) fun _ _ _=> ?_
   refine Tot.ite (fun _=> ?_) (fun _=>ex);refine Tot.gin j0 h2 (Tot.get j0 h2 fun x hx hxm=> ?_);have hxr:=hfan.2 x hxm;refine Tot.get hxr.1 (by omega) fun _ _ _=> ?_
   refine Tot.nite (fun _=> ?_) (fun _=> ?_)
   ·refine Tot.gin j0 h2 (Tot.get j0 h2 fun x2 hx2 _=> ?_);have e:x2=x:=by rw[hx,hx2]
    subst e;rw[wrap_ok (z:=2*x2) (by omega)];refine Tot.gin (by omega) (by omega) (Tot.get (by omega) (by omega) fun y hy _=> ?_);refine Tot.dite (fun hy2=> ?_) (fun _=> ?_)
    ·refine Tot.gin j0 h2 (Tot.get j0 h2 fun x3 hx3 _=> ?_);have e:x3=x2:=by rw[hx,hx3]
     subst e;rw[wrap_ok (z:=2*x3) (by omega)];refine Tot.gin (by omega) (by omega) (Tot.get (by omega) (by omega) fun _ _ _=> ?_);refine Tot.gin j0 h2 (Tot.get j0 h2 fun x4 hx4 _=> ?_);have e:x4=x3:=by rw[hx,hx4]
     subst e;rw[wrap_ok (z:=2*x4) (by omega)];refine Tot.app (by simp only[List.length_singleton];omega) (by omega) ?_
     exact Tot.next ⟨⟨⟨by simp only;omega,by simp only;omega⟩,hsi2.push (by omega) (by rw[<-hy];exact hy2) (.inl rfl)⟩,by simp only;omega⟩
    ·exact Tot.next ⟨⟨⟨by simp only;omega,by simp only;omega⟩,hsi2⟩,by simp only;omega⟩
   ·exact Tot.next ⟨⟨⟨by simp only;omega,by simp only;omega⟩,hsi2⟩,by simp only;omega⟩
  ·rw[wrap_ok (z:=k+1) (by omega)];exact Tot.next ⟨⟨⟨by simp only;omega,by simp only;omega⟩,ha2⟩,by simp only;omega⟩
 refine Tot.exit ?_
 clear h1 k0 k1
 refine Tot.lp (fun s=>(0<=s.1/\s.1<=(s.2.2.length:Int))/\SI M s.2.1 s.2.2) (fun s=>((M:Int) - s.1).toNat) ⟨⟨by simp only;omega,by simp only;omega⟩,hsi⟩ (fun s hs0=> ?_);obtain⟨c,b2,q2⟩:=s;obtain⟨⟨c0,c1⟩,hsi2⟩:=hs0;simp only at c0 c1 hsi2;have hql:=hsi2.qlen;have hbl:=hsi2.len;dsimp only;refine Tot.dite (fun h1=> ?_) (fun h1=>Tot.exit (Tot.ret ⟨q2,hsi2,.inl rfl⟩));refine Tot.gin c0 h1 (Tot.get c0 h1 fun x hx hxm=> ?_);have hxr:=(hsi2.mem x hxm).1;refine Tot.div2 (by omega) (by omega) ?_
 have hk:0<=x/2/\x/2<nodesOf n:=by omega
 refine Tot.join (A:=fun nx:List Int=>nx.length<=3/\∀y∈nx,0<=y/\y<(M:Int)) ?_ fun nx hnx=> ?_
 ·refine Tot.gin c0 h1 (Tot.get c0 h1 fun x2 hx2 _=> ?_);have e:x2=x:=by rw[hx,hx2]
  subst e;refine Tot.rem (by omega) (by omega) ?_
  refine Tot.dite (fun _=> ?_) (fun _=> ?_)
  ·refine Tot.get hk.1 (by omega) fun _ _ _=> ?_
   refine Tot.nite (fun _=> ?_) (fun _=> ?_)
   ·rw[wrap_ok (z:=2*(x2/2)) (by omega),wrap_ok (z:=2*(x2/2)+1) (by omega)];refine Tot.app (by simp) (by omega) ?_
    refine Tot.next ⟨by simp,fun y hy=> ?_⟩;simp only[List.nil_append,List.mem_singleton]at hy;subst hy;omega
   ·refine Tot.get hk.1 (by rw[ha.1];omega) fun w hw _=> ?_
    refine Tot.dite (fun hw0=> ?_) (fun _=>Tot.next ⟨by simp,fun y hy=>(by cases hy)⟩);refine Tot.get hk.1 (by rw[ha.1];omega) fun w2 hw2 hwm=> ?_
    have e:w2=w:=by rw[hw,hw2]
    subst e;have hwr:=ha.2 w2 hwm;rw[wrap_ok (z:=2*w2) (by omega),wrap_ok (z:=2*w2+1) (by omega)];refine Tot.app (by simp) (by omega) ?_
    refine Tot.next ⟨by simp,fun y hy=> ?_⟩;simp only[List.nil_append,List.mem_singleton]at hy;subst hy;omega
  ·refine Tot.bindEq (first_nok h) ?_
   refine Tot.dite (fun _=> ?_) (fun _=> ?_)
   ·refine Tot.gin c0 h1 (Tot.get c0 h1 fun x3 hx3 hx3m=> ?_);exact Tot.exit (Tot.exit (Tot.ret ⟨q2,hsi2,.inr hx3m⟩))
   ·refine Tot.bind (fan_tot h hk.1 hk.2) fun fan hfan=> ?_
    refine Tot.lp (fun s=>(0<=s.1/\s.1<=(fan.length:Int))/\(s.2.length:Int)=s.1/\∀y∈s.2,0<=y/\y<(M:Int)) (fun s=>((fan.length:Int) - s.1).toNat) ⟨⟨by simp only;omega,by simp only;omega⟩,by simp,fun y hy=>(by cases hy)⟩ (fun s hs0=> ?_);obtain⟨j,nx⟩:=s;obtain⟨⟨j0,j1⟩,hnl,hny⟩:=hs0;simp only at j0 j1 hnl hny;have hf2:=hfan.1;dsimp only;refine Tot.dite (fun h2=> ?_) (fun h2=> ?_)
    ·refine Tot.gin j0 h2 (Tot.get j0 h2 fun y hy hym=> ?_);have hyr:=hfan.2 y hym;rw[wrap_ok (z:=2*y) (by omega),wrap_ok (z:=j+1) (by omega)];refine Tot.app (by simp only[List.length_singleton];omega) (by omega) ?_
     refine Tot.next ⟨⟨⟨by simp only;omega,by simp only;omega⟩,by simp only[List.length_append,List.length_singleton];omega,fun z hz=> ?_⟩,by simp only;omega⟩;rcases List.mem_append.1 hz with hz | hz
     ·exact hny z hz
     ·rw[List.mem_singleton.1 hz];omega
    ·refine Tot.exit ?_
     refine Tot.get hk.1 (by omega) fun _ _ _=> ?_
     refine Tot.ite (fun _=> ?_) (fun _=> ?_)
     ·rw[wrap_ok (z:=2*(x2/2)) (by omega)];refine Tot.app (by simp only[List.length_singleton];omega) (by omega) ?_
      refine Tot.next ⟨by simp only[List.length_append,List.length_singleton];omega,fun z hz=> ?_⟩;rcases List.mem_append.1 hz with hz | hz
      ·exact hny z hz
      ·rw[List.mem_singleton.1 hz];omega
     ·exact Tot.next ⟨by omega,hny⟩
 ·refine Tot.lp (fun s=>(0<=s.1/\s.1<=(nx.length:Int))/\SI M s.2.1 s.2.2/\c<(s.2.2.length:Int)) (fun s=>((nx.length:Int) - s.1).toNat) ⟨⟨by simp only;omega,by simp only;omega⟩,hsi2,h1⟩ (fun s hs0=> ?_);obtain⟨j,b3,q3⟩:=s;obtain⟨⟨j0,j1⟩,hsi3,hcq⟩:=hs0;simp only at j0 j1 hsi3 hcq;have hql3:=hsi3.qlen;have hbl3:=hsi3.len;have hn3:=hnx.1;dsimp only;refine Tot.dite (fun h2=> ?_) (fun h2=> ?_)
  ·rw[wrap_ok (z:=j+1) (by omega)];refine Tot.gin j0 h2 (Tot.get j0 h2 fun y hy hym=> ?_);have hyr:=hnx.2 y hym;refine Tot.gin hyr.1 (by omega) (Tot.get hyr.1 (by omega) fun w hw _=> ?_);refine Tot.dite (fun hw2=> ?_) (fun _=> ?_)
   ·refine Tot.gin j0 h2 (Tot.get j0 h2 fun y2 hy2 _=> ?_);have e:y2=y:=by rw[hy,hy2]
    subst e;refine Tot.gin c0 hcq (Tot.get c0 hcq fun z _ hzm=> ?_);refine Tot.gin hyr.1 (by omega) (Tot.get hyr.1 (by omega) fun _ _ _=> ?_);refine Tot.gin j0 h2 (Tot.get j0 h2 fun y3 hy3 _=> ?_);have e:y3=y2:=by rw[hy,hy3]
    subst e;refine Tot.app (by simp only[List.length_singleton];omega) (by omega) ?_
    exact Tot.next ⟨⟨⟨by simp only;omega,by simp only;omega⟩,hsi3.push hyr (by rw[<-hw];exact hw2) (.inr hzm),by simp only[List.length_append,List.length_singleton];omega⟩,by simp only;omega⟩
   ·exact Tot.next ⟨⟨⟨by simp only;omega,by simp only;omega⟩,hsi3,hcq⟩,by simp only;omega⟩
  ·refine Tot.exit ?_
   rw[wrap_ok (z:=c+1) (by omega)];exact Tot.next ⟨⟨⟨by simp only;omega,by simp only;omega⟩,hsi3⟩,by simp only;omega⟩
end Go.Pf
/-
  Own work. Draws, plainly: least cuts, labels, depth-optimal mappings.
-/
namespace Go.Pf
open Go Go.Pu
set_option linter.unusedVariables false
theorem cut17_tot {n:SNet}(h:NOk n){labels:List Int}(hlab:(labels.length:Int)=nodesOf n){v ht:Int}(v0:0<=v)(v1:v<nodesOf n):Tot (spec_l17Cut (n,(labels,(v,ht)))) (fun r=>r.1.length<=1000):=by
 unfold spec_l17Cut;dsimp only;have hc:=caps_bd h.caps;refine Tot.bind (cone_tot h.nb) fun cone hcone=> ?_
 refine Tot.bindEq (nodeCount_nok h) ?_
 refine Tot.make (by omega) (by omega) (by omega) ?_
 refine Tot.lp (fun s=>(0<=s.1/\s.1<=(cone.length:Int))/\(s.2.length:Int)=nodesOf n) (fun s=>((cone.length:Int) - s.1).toNat) ⟨⟨by simp only;omega,by simp only;omega⟩,by simp only[List.length_replicate];omega⟩ (fun s hs=> ?_);obtain⟨i,up⟩:=s;obtain⟨⟨i0,i1⟩,hup⟩:=hs;simp only at i0 i1 hup;have hcl:=hcone.1;dsimp only;refine Tot.dite (fun h1=> ?_) (fun h1=> ?_)
 ·rw[wrap_ok (z:=i+1) (by omega)];refine Tot.gin i0 h1 (Tot.get i0 h1 fun x hx hxm=> ?_);have hxr:=hcone.2 x hxm;refine Tot.gin i0 h1 (Tot.get i0 h1 fun x2 _ _=> ?_);refine Tot.dite (fun _=> ?_) (fun _=> ?_)
  ·refine Tot.gin (by omega) (by omega) (Tot.get (by omega) (by omega) fun _ _ _=> ?_);exact Tot.next ⟨⟨⟨by simp only;omega,by simp only;omega⟩,by simp only[gset_len];exact hup⟩,by simp only;omega⟩
  ·refine Tot.gin i0 h1 (Tot.get i0 h1 fun x3 hx3 _=> ?_);have e:x3=x:=by rw[hx,hx3]
   subst e;refine Tot.get (by omega) (by omega) fun _ _ _=> ?_
   refine Tot.gin (by omega) (by omega) (Tot.get (by omega) (by omega) fun _ _ _=> ?_);exact Tot.next ⟨⟨⟨by simp only;omega,by simp only;omega⟩,by simp only[gset_len];exact hup⟩,by simp only;omega⟩
 refine Tot.exit ?_
 clear h1 i0 i1
 refine Tot.bindEq (nodeCount_nok h) ?_
 refine Tot.make (by omega) (by omega) (by omega) ?_
 refine Tot.bindEq (nodeCount_nok h) ?_
 refine Tot.make (by omega) (by omega) (by omega) ?_
 refine Tot.lp (fun i=>0<=i/\i<=firstOf n) (fun i=>(firstOf n - i).toNat) ⟨by omega,by omega⟩ (fun j hj=> ?_);obtain⟨j0,j1⟩:=hj;refine Tot.bindEq (first_nok h) ?_
 refine Tot.dite (fun h1=> ?_) (fun h1=> ?_)
 ·refine Tot.gin j0 (by omega) (Tot.get j0 (by omega) fun _ _ _=> ?_);refine Tot.ite (fun _=>Tot.exit (Tot.ret (by simp))) (fun _=> ?_);rw[wrap_ok (z:=j+1) (by omega)];exact Tot.next ⟨⟨by omega,by omega⟩,by omega⟩
 refine Tot.exit ?_
 clear h1 j0 j1
 refine Tot.lp (fun s=>(0<=s.1/\s.1<=5)/\(s.2.1.length:Int)=nodesOf n/\AbOk n s.2.2) (fun s=>(5 - s.1).toNat) ⟨⟨by simp only;omega,by simp only;omega⟩,by simp only[List.length_replicate];omega,by simp only[List.length_replicate];omega,fun y hy=>by rw[List.eq_of_mem_replicate hy];omega⟩ (fun s hs=> ?_);obtain⟨fl,us,ab⟩:=s;obtain⟨⟨f0,f1⟩,hus,hab⟩:=hs;simp only at f0 f1 hus hab;dsimp only;refine Tot.dite (fun h1=> ?_) (fun h1=>Tot.exit (Tot.ret (by simp)));refine Tot.bind (search_tot h hup hus hab) fun r hr=> ?_
 obtain⟨b,at0⟩:=r;obtain⟨q,hsi,hat⟩:=hr;simp only at hsi hat;obtain⟨M,hM⟩:∃M:Nat,2*nodesOf n=(M:Int):=⟨(2*nodesOf n).toNat,by omega⟩;have hM2:(2*nodesOf n).toNat=M:=by omega
 rw[hM2]at hsi;have hbl:=hsi.len;dsimp only;refine Tot.dite (fun h2=> ?_) (fun h2=> ?_)
 ·refine Tot.lp (fun s=>(0<=s.1/\s.1<=nodesOf n)/\(s.2.length:Int)<=s.1) (fun s=>(nodesOf n - s.1).toNat) ⟨⟨by simp only;omega,by simp only;omega⟩,by simp⟩ (fun s hs=> ?_);obtain⟨k,out⟩:=s;obtain⟨⟨k0,k1⟩,ho⟩:=hs;simp only at k0 k1 ho;refine Tot.bindEq (nodeCount_nok h) ?_
  dsimp only;refine Tot.dite (fun h3=> ?_) (fun h3=> ?_)
  ·rw[wrap_ok (z:=2*k) (by omega),wrap_ok (z:=k+1) (by omega),wrap_ok (z:=2*k+1) (by omega)];refine Tot.gin (by omega) (by omega) (Tot.get (by omega) (by omega) fun _ _ _=> ?_);refine Tot.dite (fun _=> ?_) (fun _=> ?_)
   ·refine Tot.gin (by omega) (by omega) (Tot.get (by omega) (by omega) fun _ _ _=> ?_);refine Tot.dite (fun _=> ?_) (fun _=> ?_)
    ·refine Tot.app (by simp only[List.length_singleton];omega) (by omega) ?_
     exact Tot.next ⟨⟨⟨by simp only;omega,by simp only;omega⟩,by simp only[List.length_append,List.length_singleton];omega⟩,by simp only;omega⟩
    ·exact Tot.next ⟨⟨⟨by simp only;omega,by simp only;omega⟩,by simp only;omega⟩,by simp only;omega⟩
   ·exact Tot.next ⟨⟨⟨by simp only;omega,by simp only;omega⟩,by simp only;omega⟩,by simp only;omega⟩
  ·exact Tot.exit (Tot.exit (Tot.ret (by simp only;omega)))
 ·refine Tot.lp (fun s=>(s.1= -1\/s.1∈q)/\(s.2.1.length:Int)=nodesOf n/\AbOk n s.2.2) (fun s=>if s.1<0 then 0 else q.idxOf s.1+1) ⟨hat,hus,hab⟩ (fun s hs=> ?_);obtain⟨at1,us1,ab1⟩:=s;obtain⟨ha1,hus1,hab1⟩:=hs;simp only at ha1 hus1 hab1;dsimp only;refine Tot.dite (fun h3=> ?_) (fun h3=> ?_)
  ·have ham:at1∈q:=by
    rcases ha1 with e | e
    ·omega
    ·exact e
   have har:=(hsi.mem at1 ham).1;have hback:=hsi.back ham;refine Tot.gin h3 (by omega) (Tot.get h3 (by omega) fun fr hfr _=> ?_);rw[<-hfr]at hback;have hfrr: -1<=fr/\fr<(M:Int):=by
    rcases hback with e | ⟨e,_⟩
    ·omega
    ·have:=(hsi.mem fr e).1;omega
   refine Tot.div2 h3 (by omega) ?_
   have hk:0<=at1/2/\at1/2<nodesOf n:=by omega
   refine Tot.join (A:=fun a:List Bool=>(a.length:Int)=nodesOf n) ?_ fun us2 hus2=> ?_
   ·refine Tot.rem h3 (by omega) ?_
    refine Tot.dite (fun _=> ?_) (fun _=>Tot.next hus1);refine Tot.dite (fun _=> ?_) (fun _=>Tot.next hus1);refine Tot.gin hk.1 (by omega) (Tot.get hk.1 (by omega) fun _ _ _=> ?_);exact Tot.next (by rw[gset_len];exact hus1)
   refine Tot.join (A:=fun a:List Bool=>(a.length:Int)=nodesOf n) ?_ fun us3 hus3=> ?_
   ·refine Tot.rem h3 (by omega) ?_
    refine Tot.dite (fun _=> ?_) (fun _=>Tot.next hus2);refine Tot.dite (fun _=> ?_) (fun _=>Tot.next hus2);refine Tot.gin hk.1 (by omega) (Tot.get hk.1 (by omega) fun _ _ _=> ?_);exact Tot.next (by rw[gset_len];exact hus2)
   have abset:∀{ab:List Int} {y:Int},AbOk n ab→-1<=y/\y<nodesOf n->AbOk n (gset ab (at1/2) y):=fun {ab y} hA hy=>⟨by rw[gset_len];exact hA.1,fun z hz=>by
    rcases gset_mem hz with hz | rfl
    ·exact hA.2 z hz
    ·exact hy⟩
   refine Tot.join (A:=fun a:List Int=>AbOk n a) ?_ fun ab2 hab2=> ?_
   ·refine Tot.rem h3 (by omega) ?_
    refine Tot.dite (fun _=> ?_) (fun _=>Tot.next hab1);refine Tot.dite (fun _=> ?_) (fun _=>Tot.next hab1);refine Tot.gin hk.1 (by rw[hab1.1];omega) (Tot.get hk.1 (by rw[hab1.1];omega) fun _ _ _=> ?_);exact Tot.next (abset hab1 (by omega))
   have nxt:∀ab',AbOk n ab'→Tot (some (Sum.inl (fr,(us3,ab')):(Int×(List Bool×List Int))⊕((Int×(List Bool×List Int))⊕(List Int×Bool)))) (SumP (fun s' =>((s'.1= -1\/s'.1∈q)/\(s'.2.1.length:Int)=nodesOf n/\AbOk n s'.2.2)/\(if s'.1<0 then 0 else q.idxOf s'.1+1)<(if at1<0 then 0 else q.idxOf at1+1)) (SumP (fun s' =>((0<=s'.1/\s'.1<=5)/\(s'.2.1.length:Int)=nodesOf n/\AbOk n s'.2.2)/\(5 - s'.1).toNat<(5 - fl).toNat) (fun r=>r.1.length<=1000))):=fun ab' hA=>by
    refine Tot.next ⟨⟨?_,hus3,hA⟩,?_⟩
    ·rcases hback with e | ⟨e,_⟩
     ·exact .inl e
     ·exact .inr e
    ·simp only;rw[if_neg (show ¬at1<0 by omega)];rcases hback with e | ⟨_,e⟩
     ·rw[if_pos (by omega)];omega
     ·split<;>omega
   refine Tot.rem h3 (by omega) ?_
   refine Tot.dite (fun _=> ?_) (fun _=>nxt ab2 hab2);refine Tot.dite (fun hf0=> ?_) (fun _=>nxt ab2 hab2);refine Tot.dite (fun _=> ?_) (fun _=>nxt ab2 hab2);refine Tot.div2 hf0 (by omega) ?_
   refine Tot.gin hk.1 (by rw[hab2.1];omega) (Tot.get hk.1 (by rw[hab2.1];omega) fun _ _ _=> ?_);exact nxt _ (abset hab2 (by omega))
  ·refine Tot.exit ?_
   rw[wrap_ok (z:=fl+1) (by omega)];exact Tot.next ⟨⟨⟨by simp only;omega,by simp only;omega⟩,hus1,hab1⟩,by simp only;omega⟩
theorem labels_tot {n:SNet}(h:NOk n)(hk:spec_NetOk n=some true):Tot (spec_Labels n) (fun r=>(r.length:Int)=nodesOf n):=by
 unfold spec_Labels;have hc:=caps_bd h.caps;refine Tot.bindEq hk ?_
 dsimp only;refine Tot.nite (fun e=>by cases e) (fun _=> ?_);refine Tot.bindEq (nodeCount_nok h) ?_
 refine Tot.make (by omega) (by omega) (by omega) ?_
 refine Tot.bindEq (first_nok h) ?_
 refine Tot.lp (fun s=>(firstOf n<=s.1/\s.1<=nodesOf n)/\(s.2.length:Int)=nodesOf n) (fun s=>(nodesOf n - s.1).toNat) ⟨⟨by simp only;omega,by simp only;omega⟩,by simp only[List.length_replicate];omega⟩ (fun s hs=> ?_);obtain⟨k,lb⟩:=s;obtain⟨⟨k0,k1⟩,hl⟩:=hs;simp only at k0 k1 hl;refine Tot.bindEq (nodeCount_nok h) ?_
 dsimp only;refine Tot.dite (fun h1=> ?_) (fun h1=>Tot.exit (Tot.ret hl));refine Tot.bindEq (first_nok h) ?_
 rw[wrap_ok (z:=k - firstOf n) (by omega),wrap_ok (z:=k+1) (by omega)];refine Tot.get (by omega) (by omega) fun a ha _=> ?_
 have hlit:=and_at h (show 0<=k - firstOf n by omega) (by omega);rw[<-ha]at hlit;unfold Lit at hlit;refine Tot.div2 (by omega) (by omega) ?_
 refine Tot.gin (by omega) (by omega) (Tot.get (by omega) (by omega) fun _ _ _=> ?_);refine Tot.div2 (by omega) (by omega) ?_
 refine Tot.gin (by omega) (by omega) (Tot.get (by omega) (by omega) fun _ _ _=> ?_);refine Tot.gin (by omega) (by omega) (Tot.get (by omega) (by omega) fun _ _ _=> ?_);have nxt:∀q:List Int,(q.length:Int)=nodesOf n->Tot (some (Sum.inl (k+1,q):(Int×List Int)⊕List Int)) (SumP (fun s' =>((firstOf n<=s'.1/\s'.1<=nodesOf n)/\(s'.2.length:Int)=nodesOf n)/\(nodesOf n - s'.1).toNat<(nodesOf n - k).toNat) (fun r=>(r.length:Int)=nodesOf n)):=fun q hq=>
  Tot.next ⟨⟨⟨by simp only;omega,by simp only;omega⟩,hq⟩,by simp only;omega⟩
 refine Tot.dite (fun _=> ?_) (fun _=>nxt _ (by rw[gset_len];exact hl));refine Tot.bind (cut17_tot h (by rw[gset_len];exact hl) (by omega) (by omega)) fun r _=> ?_
 refine Tot.ite (fun _=> ?_) (fun _=>nxt _ (by rw[gset_len];exact hl));refine Tot.gin (by omega) (by rw[gset_len];omega) (Tot.get (by omega) (by rw[gset_len];omega) fun _ _ _=> ?_);exact nxt _ (by rw[gset_len,gset_len];exact hl)
theorem depthMap_tot {n:SNet}(hb:NB n):Tot (spec_DepthMapping n) (fun r=>r.length<=1000/\∀c∈r,c.length<=1000):=by
 unfold spec_DepthMapping;obtain⟨ok,hk,hok⟩:=netOk_tot hb;refine Tot.bindEq hk ?_
 dsimp only;refine Tot.nite (fun _=>Tot.ret ⟨by simp,fun c hc=>(by cases hc)⟩) (fun ho=> ?_);subst ho;have h:=hok rfl;have hc:=caps_bd h.caps;refine Tot.bind (labels_tot h hk) fun lb hlb=> ?_
 refine Tot.bindEq (first_nok h) ?_
 refine Tot.lp (fun s=>(firstOf n<=s.1/\s.1<=nodesOf n)/\(s.2.length:Int)<=s.1/\∀c∈s.2,c.length<=1000) (fun s=>(nodesOf n - s.1).toNat) ⟨⟨by simp only;omega,by simp only;omega⟩,by simp only[List.length_nil];omega,fun c hc=>(by cases hc)⟩ (fun s hs=> ?_);obtain⟨k,cs⟩:=s;obtain⟨⟨k0,k1⟩,hl,hcs⟩:=hs;simp only at k0 k1 hl hcs;refine Tot.bindEq (nodeCount_nok h) ?_
 dsimp only;refine Tot.dite (fun h1=> ?_) (fun h1=>Tot.exit (Tot.ret ⟨by omega,hcs⟩));refine Tot.gin (by omega) (by omega) (Tot.get (by omega) (by omega) fun _ _ _=> ?_);refine Tot.bind (cut17_tot h hlb (by omega) h1) fun r hr=> ?_
 refine Tot.app (by simp only[List.length_singleton];omega) (by omega) ?_
 rw[wrap_ok (z:=k+1) (by omega)];refine Tot.next ⟨⟨⟨by simp only;omega,by simp only;omega⟩,by simp only[List.length_append,List.length_singleton];omega,fun c hc2=> ?_⟩,by simp only;omega⟩;rcases List.mem_append.1 hc2 with hc2 | hc2
 ·exact hcs c hc2
 ·rw[List.mem_singleton.1 hc2];exact hr
end Go.Pf
/-
  Own work. The law of the nearest free tile, plainly: it says true.
-/
namespace Go.Pf
open Go Go.Pu
def tilesTo (d:Dev)(k:Int)(n:Nat):List Int:=((List.range n).map fun(t:Nat)=>(t:Int)).filter fun t=>decide (tkp d t=k)
theorem tilesTo_succ (d:Dev)(k:Int)(n:Nat):tilesTo d k (n+1)=if tkp d n=k then tilesTo d k n++[(n:Int)]else tilesTo d k n:=by
 unfold tilesTo;rw[List.range_succ,List.map_append,List.filter_append];by_cases h:tkp d n=k
 ·rw[if_pos h];simp[h]
 ·rw[if_neg h];simp[h]
theorem tilesTo_len (d:Dev)(k:Int)(n:Nat):(tilesTo d k n).length<=n:=by
 unfold tilesTo;refine Nat.le_trans (List.length_filter_le _ _) ?_
 simp
def tilesP (d:Dev)(k:Int):List Int:=if DOk d then tilesTo d k (d.1*d.2.1).toNat else []
theorem tiles_spec (d:Dev)(k:Int):spec_TilesOf (d,k)=some (tilesP d k):=by
 unfold spec_TilesOf tilesP;simp only[devOk_spec,Option.bind_some];by_cases h:DOk d
 ·rw[dt h,if_pos h];simp only[Bool.not_true,cond_false];have hm:=mul_le36 h.1 h.2.1;refine loop_upto (d.1*d.2.1).toNat (fun n=>((n:Int),tilesTo d k n)) (fun n hn=> ?_) ?_
  ·have hl:=tilesTo_len d k n;have e:tk d n=tkp d n:=by unfold tk;rw[if_pos ⟨h,by omega,by omega⟩]
   dsimp only;rw[wrap_ok (z:=d.1*d.2.1) (by omega),dt (by omega),cond_true,tk_spec d n (by omega),e,tilesTo_succ];simp only[Option.bind_some];by_cases q:tkp d n=k
   ·rw[dt q,cond_true,if_pos q,gapp_some (by simp;omega) (by simp;omega)];simp only[Option.bind_some];rw[wrap_ok (by omega)];rfl
   ·rw[df q,cond_false,if_neg q,wrap_ok (by omega)];rfl
  ·dsimp only;rw[wrap_ok (z:=d.1*d.2.1) (by omega),df (by omega),cond_false];rfl
 ·rw[df h,if_neg h];rfl
theorem tilesP_len (d:Dev)(k:Int):(tilesP d k).length<=36:=by
 unfold tilesP;split
 ·rename_i h;have hm:=mul_le36 h.1 h.2.1;have:=tilesTo_len d k (d.1*d.2.1).toNat;omega
 ·simp
end Go.Pf
/-
  Own work. Logic elements, plainly: when they are well formed, their output, their inputs.
-/
namespace Go.Pf
open Go Go.Pu
set_option linter.unusedVariables false
abbrev Le:=Int×Int
def leOk (n:Net)(e:Le):Prop:=
 ((-1<=e.1/\e.1<=(n.2.2.1.length:Int) - 1)/\(-1<=e.2/\e.2<=(n.2.1.length:Int) - 1)/\¬(e.1<0/\e.2<0))/\
 (0<=e.2->(sqAt n.2.1 e.2.toNat).1=0)/\(0<=e.1->0<=e.2->nsAt (sqAt n.2.1 e.2.toNat).2.2 0=fstP n+e.1/\nsAt (usesP n) (fstP n+e.1).toNat=1)
instance (n:Net)(e:Le):Decidable (leOk n e):=by unfold leOk;exact inferInstance
theorem le_spec {n:Net}(hb:NetB n)(h:netP n=true)(e:Le):spec_l28Le (n,e)=some (decide (leOk n e)):=by
 obtain⟨hl,ho,hs,ht⟩:=netP_all h;have hv:=lnV_le hl;have hul:=usesP_len n;have hl2:=hl.2.1;have hl3:=hl.2.2.1;obtain⟨l,s⟩:=e;unfold spec_l28Le
 try dsimp only
 rw[wrap_ok (z:=(n.2.2.1.length:Int) - 1) (by omega),wrap_ok (z:=(n.2.1.length:Int) - 1) (by omega),inR_spec,inR_spec];simp only[Option.bind_some];by_cases c1: -1<=l/\l<=(n.2.2.1.length:Int) - 1
 rotate_left
 ·rw[df c1,df (show ¬leOk n (l,s)from fun e=>c1 e.1.1)];rfl
 rw[dt c1,Bool.not_true,cond_false];by_cases c2: -1<=s/\s<=(n.2.1.length:Int) - 1
 rotate_left
 ·rw[df c2,df (show ¬leOk n (l,s)from fun e=>c2 e.1.2.1)];rfl
 rw[dt c2,Bool.not_true,cond_false];by_cases c3:s<0
 ·rw[dt c3,df (show ¬0<=s by omega)];by_cases c4:l<0
  ·rw[dt c4,df (show ¬leOk n (l,s)from fun e=>e.1.2.2 ⟨c4,c3⟩)];rfl
  ·rw[df c4,dt (show leOk n (l,s)from⟨⟨c1,c2,fun e=>c4 e.1⟩,fun e=>absurd e (by simp only;omega),fun _ e=>absurd e (by simp only;omega)⟩)];rfl
 ·obtain⟨m,rfl⟩:∃m:Nat,s=(m:Int):=⟨s.toNat,by omega⟩;have hm:m<n.2.1.length:=by omega
  obtain⟨g1,g2⟩:=sq_get hm;have hsm:=(hs m hm).1;rw[df c3,dt (show 0<=(m:Int)by omega),cond_true,g1];simp only[Option.bind_some];have pre:∀X:Option Bool,joinO ((bif decide (l<0)then(bif false then(Option.map Sum.inr (some false))else some (.inl ()))else some (.inl ())):Option (Unit⊕Bool)) (fun _=>X)=X:=by
   intro X;cases decide (l<0)<;>rfl
  rw[pre];by_cases c5:(sqAt n.2.1 m).1≠0
  ·rw[dt c5,df (show ¬leOk n (l,(m:Int))from fun e=>c5 (by have:=e.2.1 (by simp only;omega);simp only[Int.toNat_natCast]at this;exact this))];rfl
  have c5:(sqAt n.2.1 m).1=0:=Decidable.byContradiction c5;rw[df (fun e=>e c5),cond_false];by_cases c6:l<0
  ·rw[dt c6,dt (show leOk n (l,(m:Int))from⟨⟨c1,c2,fun e=>c3 e.2⟩,fun _=>by simp only[Int.toNat_natCast];exact c5,fun e=>absurd e (by simp only;omega)⟩)];rfl
  rw[df c6,cond_false,cond_false,fst_spec hl];have hlen:(sqAt n.2.1 m).2.2.length=1:=by rcases hsm with q | q<;>omega
  have g0:gget 0 (sqAt n.2.1 m).2.2 0=some (nsAt (sqAt n.2.1 m).2.2 0):=nsAt_get (show 0<(sqAt n.2.1 m).2.2.length by omega);simp only[Option.bind_some];rw[g0,wrap_ok (z:=fstP n+l) (by omega)];simp only[Option.bind_some];by_cases c7:nsAt (sqAt n.2.1 m).2.2 0=fstP n+l
  ·have hfl:fstP n+l<lnV n:=by unfold lnV;omega
   rw[dt c7,cond_true,uses_spec hb h];simp only[Option.bind_some];rw[gin_some (by omega) (by omega),gget_ns (by omega) (by omega)];simp only[Option.bind_some]
   congr 1
   rw[decide_eq_decide];exact⟨fun e=>⟨⟨c1,c2,fun q=>c3 q.2⟩,fun _=>by simp only[Int.toNat_natCast];exact c5,fun _ _=>by simp only[Int.toNat_natCast];exact⟨c7,e⟩⟩,fun e=>(e.2.2 (by simp only;omega) (by simp only;omega)).2⟩
  ·rw[df c7,df (show ¬leOk n (l,(m:Int))from fun e=>c7 (by have:=(e.2.2 (by simp only;omega) (by simp only;omega)).1;simp only[Int.toNat_natCast]at this;exact this))];rfl
def lokP (n:Net)(e:Le):Bool:=netP n && decide (leOk n e)
def outLe (n:Net)(e:Le):Int:=if 0<=e.2 then 1+n.1+e.2 else fstP n+e.1
theorem outLe_r {n:Net}(hl:lnOk n){e:Le}(h:leOk n e):1<=outLe n e/\outLe n e<lnV n:=by
 obtain⟨⟨h1,h2,h3⟩,_⟩:=h;have h0:=hl.1;unfold outLe lnV fstP;split<;>omega
theorem out_spec {n:Net}(hl:lnOk n){e:Le}(h:leOk n e):spec_l28Out (n,e)=some (outLe n e):=by
 obtain⟨⟨h1,h2,h3⟩,_⟩:=h;have h0:=hl.1;have hl2:=hl.2.1;have hl3:=hl.2.2.1;have hv:=lnV_le hl;unfold spec_l28Out outLe
 try dsimp only
 by_cases c:0<=e.2
 ·rw[dt c,cond_true,if_pos c,wrap_ok (z:=1+n.1) (by omega),wrap_ok (by omega)]
 ·rw[df c,cond_false,if_neg c,fst_spec hl];simp only[Option.bind_some];rw[wrap_ok (by omega)]
theorem out_impl {n:Net}(hl:lnOk n){e:Le}(h:leOk n e):impl_leOutput (n,e)=some (outLe n e):=out_spec hl h
def setP (xs ex:List Int):List Int:=insL [] (xs.filter fun x=>decide (0<x/\x∉ex))
theorem setP_mem {xs ex:List Int}{y:Int}:y∈setP xs ex↔y∈xs/\0<y/\y∉ex:=by
 unfold setP;rw[mem_insL,List.mem_filter];simp
theorem setP_len (xs ex:List Int):(setP xs ex).length<=xs.length:=by
 have h1:=insL_len [] (xs.filter fun x=>decide (0<x/\x∉ex));have h2:=List.length_filter_le (fun x=>decide (0<x/\x∉ex)) xs;unfold setP;simp only[List.length_nil]at h1;omega
theorem set28_spec (xs ex:List Int)(hl:xs.length<=100000000)(hex:ex.length<=100000000):spec_l28Set (xs,ex)=some (setP xs ex):=by
 obtain⟨o,s1,s2,s3⟩:=sort_spec xs (by omega);have hol:=s2.length_eq;unfold spec_l28Set;rw[s1];simp only[Option.bind_some];have key:∀X:Option (List Int),(∃r,X=some r/\(Asc r/\∀y,y∈r↔y∈o/\0<y/\y∉ex))->X=some (setP xs ex):=by
  rintro X ⟨r,h1,h2,h3⟩
  rw[h1]
  congr 1
  have hs:Asc (setP xs ex):=asc_insL asc_nil;exact asc_ext h2 hs (fun y=>by rw[h3,setP_mem,s2.mem_iff])
 refine key _ ?_
 refine loop_spec (fun s:Int×List Int=>(0<=s.1/\s.1<=(o.length:Int))/\Asc s.2/\(s.2.length:Int)<=s.1/\∀y,y∈s.2↔y∈o.take s.1.toNat/\0<y/\y∉ex) _ (fun s=>(o.length - s.1).toNat) (fun s hI=> ?_) (0,[]) ⟨⟨by simp,by simp⟩,asc_nil,by simp,fun y=>by simp⟩;obtain⟨i,acc⟩:=s;obtain⟨⟨i0,i1⟩,hA,hAl,hm⟩:=hI;simp only at i0 i1 hA hAl hm
 try dsimp only
 by_cases hi:i<(o.length:Int)
 rotate_left
 ·right
  rw[df hi,cond_false];refine⟨acc,rfl,hA,fun y=> ?_⟩;rw[hm,List.take_of_length_le (by omega)]
 left
 obtain⟨k,rfl⟩:∃k:Nat,i=(k:Int):=⟨i.toNat,by omega⟩;have hk:k<o.length:=by omega
 have hsucc:((k:Int)+1).toNat=k+1:=by omega
 rw[Int.toNat_natCast]at hm;rw[dt hi,cond_true,gin_nat hk,nsAt_get hk,wrap_ok (z:=(k:Int)+1) (by omega)];simp only[Option.bind_some];have hle:∀y∈o.take k,y<=nsAt o k:=by
  intro y hy;obtain⟨j,hj,rfl⟩:=List.getElem_of_mem hy;rw[List.length_take]at hj;rw[List.getElem_take,<-ns_at hk];exact List.pairwise_iff_getElem.1 s3 j k (by omega) hk (by omega)
 generalize hv:nsAt o k=v at*;have skip:¬(0<v/\v∉ex)->∀y,y∈acc↔y∈o.take (k+1)/\0<y/\y∉ex:=by
  intro hno y;rw[hm,take_at hk,hv,List.mem_append,List.mem_singleton]
  constructor
  ·rintro⟨q1,q2⟩;exact⟨Or.inl q1,q2⟩
  ·rintro⟨q1 | q1,q2⟩
   ·exact⟨q1,q2⟩
   ·subst q1;exact absurd q2 hno
 by_cases c1:0<v
 rotate_left
 ·rw[df c1,cond_false];exact⟨_,rfl,⟨⟨by simp only;omega,by simp only;omega⟩,hA,by simp only;omega,by simp only;rw[hsucc];exact skip (fun e=>c1 e.1)⟩,by simp only;omega⟩
 rw[dt c1,cond_true,has_spec _ _ (by omega)];simp only[Option.bind_some];by_cases c2:v∈ex
 ·rw[dt c2,Bool.not_true,cond_false];exact⟨_,rfl,⟨⟨by simp only;omega,by simp only;omega⟩,hA,by simp only;omega,by simp only;rw[hsucc];exact skip (fun e=>e.2 c2)⟩,by simp only;omega⟩
 rw[df c2,Bool.not_false,cond_true];have add:(∀y∈acc,y<v)->Asc (acc++[v])/\∀y,y∈acc++[v]↔y∈o.take (k+1)/\0<y/\y∉ex:=by
  intro hlt;refine⟨?_,fun y=> ?_⟩
  ·unfold Asc;rw[List.pairwise_append];exact⟨hA,by simp,fun x hx y hy=>by rw[List.mem_singleton.1 hy];exact hlt x hx⟩
  ·rw[take_at hk,hv,List.mem_append,List.mem_append,hm,List.mem_singleton]
   constructor
   ·rintro(⟨q1,q2⟩ | q)
    ·exact⟨Or.inl q1,q2⟩
    ·subst q;exact⟨Or.inr rfl,c1,c2⟩
   ·rintro⟨q1 | q1,q2⟩
    ·exact Or.inl ⟨q1,q2⟩
    ·exact Or.inr q1
 by_cases c3:(acc.length:Int)=0
 ·have hnil:acc=[]:=List.length_eq_zero_iff.1 (by omega);obtain⟨a1,a2⟩:=add (by rw[hnil];simp);rw[dt c3,cond_true,gapp_ok (by simp;omega)];simp only[Option.bind_some];exact⟨_,rfl,⟨⟨by simp only;omega,by simp only;omega⟩,a1,by simp only[List.length_append,List.length_cons,List.length_nil];omega,by simp only;rw[hsucc];exact a2⟩,by simp only;omega⟩
 rw[df c3,cond_false,wrap_ok (z:=(acc.length:Int) - 1) (by omega)];have el:(acc.length:Int) - 1=((acc.length - 1:Nat):Int):=by omega
 have hlast:acc.length - 1<acc.length:=by omega
 rw[el,gin_nat hlast,nsAt_get hlast];simp only[Option.bind_some];have hmax:∀y∈acc,y<=nsAt acc (acc.length - 1):=by
  intro y hy;obtain⟨j,hj,rfl⟩:=List.getElem_of_mem hy;rw[<-ns_at hlast];by_cases q:j=acc.length - 1
  ·subst q;exact Int.le_refl _
  ·exact Int.le_of_lt (List.pairwise_iff_getElem.1 hA j (acc.length - 1) hj hlast (by omega))
 have hlm:nsAt acc (acc.length - 1)∈acc:=by rw[<-ns_at hlast];exact List.getElem_mem hlast
 have hlv:=hle _ ((hm _).1 hlm).1;by_cases c4:nsAt acc (acc.length - 1)≠v
 ·obtain⟨a1,a2⟩:=add (fun y hy=>by have:=hmax y hy;omega);rw[dt c4,cond_true,gapp_ok (by simp;omega)];simp only[Option.bind_some];exact⟨_,rfl,⟨⟨by simp only;omega,by simp only;omega⟩,a1,by simp only[List.length_append,List.length_cons,List.length_nil];omega,by simp only;rw[hsucc];exact a2⟩,by simp only;omega⟩
 ·have c4:nsAt acc (acc.length - 1)=v:=Decidable.byContradiction c4;rw[df (fun e=>e c4),cond_false];refine⟨_,rfl,⟨⟨by simp only;omega,by simp only;omega⟩,hA,by simp only;omega,fun y=> ?_⟩,by simp only;omega⟩;simp only;rw[hsucc,take_at hk,hv,List.mem_append,List.mem_singleton,hm]
  constructor
  ·rintro⟨q1,q2⟩;exact⟨Or.inl q1,q2⟩
  ·rintro⟨q1 | q1,q2⟩
   ·exact⟨q1,q2⟩
   ·subst q1;rw[c4]at hlm;exact(hm _).1 hlm
def insX (n:Net)(e:Le):List Int:=if 0<=e.1 then(ltAt n.2.2.1 e.1.toNat).1 else(sqAt n.2.1 e.2.toNat).2.2
def insLe (n:Net)(e:Le):List Int:=setP (insX n e) []
theorem insX_ok {n:Net}(h:netP n=true){e:Le}(he:leOk n e):(insX n e).length<=4/\∀x∈insX n e,0<=x/\x<lnV n:=by
 obtain⟨hl,ho,hs,ht⟩:=netP_all h;obtain⟨⟨h1,h2,h3⟩,_⟩:=he;unfold insX;by_cases c:0<=e.1
 ·rw[if_pos c];have hk:e.1.toNat<n.2.2.1.length:=by omega
  obtain⟨t1,t2⟩:=ht _ hk;have t3:=t1.1;refine⟨by omega,fun x hx=> ?_⟩;have:=belowP_mem t2 x hx;unfold lnV;omega
 ·rw[if_neg c];have hk:e.2.toNat<n.2.1.length:=by omega
  obtain⟨t1,t2⟩:=hs _ hk;refine⟨by rcases t1 with q | q<;>omega,belowP_mem t2⟩
theorem insLe_len {n:Net}(h:netP n=true){e:Le}(he:leOk n e):(insLe n e).length<=4:=by
 have h1:=(insX_ok h he).1;have h2:=setP_len (insX n e) [];unfold insLe;omega
theorem ins_spec {n:Net}(h:netP n=true){e:Le}(he:leOk n e):spec_l28Ins (n,e)=some (insLe n e):=by
 have hx:=(insX_ok h he).1;have he' :=he;obtain⟨⟨h1,h2,h3⟩,_⟩:=he';unfold spec_l28Ins insLe;unfold insX at*
 try dsimp only
 by_cases c:0<=e.1
 ·rw[if_pos c]at hx ⊢;have hk:e.1.toNat<n.2.2.1.length:=by omega
  obtain⟨g1,g2⟩:=lt_get hk;have e1:((e.1.toNat:Nat):Int)=e.1:=by omega
  rw[e1]at g1;rw[dt c,cond_true,g1];simp only[Option.bind_some];rw[set28_spec _ _ (by omega) (by simp)];rfl
 ·rw[if_neg c]at hx ⊢;have hk:e.2.toNat<n.2.1.length:=by omega
  obtain⟨g1,g2⟩:=sq_get hk;have e1:((e.2.toNat:Nat):Int)=e.2:=by omega
  rw[e1]at g1;rw[df c,cond_false,g1];simp only[Option.bind_some];rw[set28_spec _ _ (by omega) (by simp)];rfl
theorem filt_insL (xs:List Int)(hx:∀x∈xs,0<=x):insL [] (xs.filter fun x=>decide (x≠0))=setP xs []:=by
 unfold setP
 congr 1
 apply List.filter_congr;intro x hm;have:=hx x hm;rw[decide_eq_decide]
 constructor
 ·intro q;exact⟨by omega,by simp⟩
 ·intro q;omega
theorem ins_impl {n:Net}(h:netP n=true){e:Le}(he:leOk n e):impl_leInputs (n,e)=some (insLe n e):=by
 obtain⟨hx,hxr⟩:=insX_ok h he;have he' :=he;obtain⟨⟨h1,h2,h3⟩,_⟩:=he';unfold impl_leInputs insLe;have hj:(bif decide (0<=e.1)then(
  (gget (([],0):Lut) n.2.2.1 e.1).bind fun v2=>
  some (.inl v2.1))else
  (gget ((0,(0,[])):Seq) n.2.1 e.2).bind fun v2=>
  some ((.inl v2.2.2):List Int⊕List Int))=some (.inl (insX n e)):=by
  unfold insX;by_cases c:0<=e.1
  ·have hk:e.1.toNat<n.2.2.1.length:=by omega
   obtain⟨g1,g2⟩:=lt_get hk;have e1:((e.1.toNat:Nat):Int)=e.1:=by omega
   rw[e1]at g1;rw[dt c,cond_true,g1,if_pos c];rfl
  ·have hk:e.2.toNat<n.2.1.length:=by omega
   obtain⟨g1,g2⟩:=sq_get hk;have e1:((e.2.toNat:Nat):Int)=e.2:=by omega
   rw[e1]at g1;rw[df c,cond_false,g1,if_neg c];rfl
 try dsimp only
 rw[hj,joinO_inl,<-filt_insL _ (fun x hm=>(hxr x hm).1)];generalize insX n e=xs at*
 try dsimp only
 refine loop_upto xs.length (fun k=>(insL [] ((xs.take k).filter fun x=>decide (x≠0)),(k:Int))) (fun k hk=> ?_) ?_
 ·have hil:=insL_len [] ((xs.take k).filter fun x=>decide (x≠0));have hfl:=List.length_filter_le (fun x=>decide (x≠0)) (xs.take k);rw[List.length_take]at hfl;simp only[List.length_nil]at hil
  try dsimp only
  rw[dt (show(k:Int)<(xs.length:Int)by omega),cond_true,nsAt_get hk];simp only[Option.bind_some];rw[take_at hk,List.filter_append,insL_app,wrap_ok (by omega)];by_cases c:nsAt xs k≠0
  ·rw[dt c,cond_true,insert_impl _ _ (by omega)];simp only[Option.bind_some];have ef:[nsAt xs k].filter (fun x=>decide (x≠0))=[nsAt xs k]:=by simp[c]
   rw[ef,insL_one];rfl
  ·have c:nsAt xs k=0:=Decidable.byContradiction c;rw[df (fun e=>e c),cond_false];have ef:[nsAt xs k].filter (fun x=>decide (x≠0))=[]:=by simp[c]
   rw[ef,insL_nil];rfl
 ·try dsimp only
  rw[df (by omega),cond_false,List.take_of_length_le (Nat.le_refl _)];rfl
def lins (n:Net)(e:Le):List Int:=if lokP n e=true then insLe n e else []
end Go.Pf
/-
  Own work. Blocks, plainly: items that exist, their outputs, their pins.
-/
namespace Go.Pf
open Go Go.Pu
set_option linter.unusedVariables false
abbrev Blk:=Int×(Int×List Le)
theorem nodup_le' :∀(N:Nat) (xs:List Int),xs.Nodup->(∀x∈xs,0<=x/\x<(N:Int))->xs.length<=N
 | 0,xs,_,h=>by
  cases xs with
  | nil=>simp
  | cons a r=>have:=h a (by simp);omega
 | N+1,xs,hn,h=>by
  have h1:=nodup_le' N (xs.erase (N:Int)) (hn.erase _) (fun x hx=>by
   have:=(List.Nodup.mem_erase_iff hn).1 hx;have:=h x this.2;omega)
  have h2:=List.length_erase (a:=(N:Int)) (l:=xs);split at h2<;>omega
theorem asc_nodup {xs:List Int}(h:Asc xs):xs.Nodup:=h.imp (fun q e=>by omega)
def leAt (ls:List Le)(k:Nat):Le:=ls.getD k (0,0)
theorem le_get {ls:List Le}{k:Nat}(h:k<ls.length):gget ((0,0):Le) ls (k:Int)=some (leAt ls k):=by
 unfold leAt;rw[gget_nat h,List.getD,List.getElem?_eq_getElem h];rfl
theorem le_eq {ls:List Le}{k:Nat}(h:k<ls.length):ls[k]=leAt ls k:=by
 unfold leAt;rw[List.getD,List.getElem?_eq_getElem h];rfl
def lesP (n:Net)(ls:List Le):Bool:=ls.all fun e=>decide (leOk n e)
theorem lesP_at {n:Net}{ls:List Le}(h:lesP n ls=true){k:Nat}(hk:k<ls.length):leOk n (leAt ls k):=by
 rw[<-le_eq hk];exact of_decide_eq_true (List.all_eq_true.1 h _ (List.getElem_mem hk))
theorem les_eq (n:Net)(ls:List Le):lesP n ls=if(List.range ls.length).all (fun k=>if hk:k<ls.length then decide (leOk n ls[k])else true)=true then true else false:=by
 rw[all_range_list ls (fun e=>decide (leOk n e)) _ (fun k hk=>by rw[dif_pos hk])];show lesP n ls=if lesP n ls=true then true else false
 cases lesP n ls<;>rfl
def itemP (n:Net)(b:Blk):Bool:=
 if b.1=0 then decide (0<=b.2.1/\b.2.1<n.1)else if b.1=1 then decide (0<=b.2.1/\b.2.1<(n.2.2.2.length:Int))else if b.1=2 then decide (0<=b.2.1/\b.2.1<(n.2.1.length:Int))else if b.1=3 then lesP n b.2.2 else false
theorem and2 (a c:Prop) [Decidable a] [Decidable c]:(bif decide a then some (decide c)else some false)=some (decide (a/\c)):=by
 by_cases h:a
 ·simp[h]
 ·simp[h]
theorem known_spec (n:Net)(b:Blk)(hb:NetB n)(hl:b.2.2.length<=1048576):spec_l28Known (n,b)=some (netP n && itemP n b):=by
 unfold spec_l28Known;rw[net_spec n hb];simp only[Option.bind_some];cases h:netP n with
 | false=>rfl
 | true=>
  rw[Bool.not_true,cond_false,Bool.true_and];unfold itemP;by_cases k0:b.1=0
  ·rw[dt k0,cond_true,if_pos k0];exact and2 _ _
  rw[df k0,cond_false,if_neg k0];by_cases k1:b.1=1
  ·rw[dt k1,cond_true,if_pos k1];exact and2 _ _
  rw[df k1,cond_false,if_neg k1];by_cases k2:b.1=2
  ·rw[dt k2,cond_true,if_pos k2];exact and2 _ _
  rw[df k2,cond_false,if_neg k2];have e:(if b.1=3 then lesP n b.2.2 else false)=if(List.range b.2.2.length).all (fun k=>if hk:k<b.2.2.length then decide (leOk n b.2.2[k])else true)=true then decide (b.1=3)else false:=by
   have:=les_eq n b.2.2;by_cases k3:b.1=3
   ·rw[if_pos k3,dt k3];exact this
   ·rw[if_neg k3,df k3];split<;>rfl
  rw[e];refine loop_all b.2.2.length (fun k=>(k:Int)) _ false _ (fun k hk hok=> ?_) (fun k hk hok=> ?_) ?_
  ·rw[dif_pos hk]at hok;rw[le_eq hk]at hok
   try dsimp only
   rw[dt (show(k:Int)<(b.2.2.length:Int)by omega),cond_true,le_get hk];simp only[Option.bind_some];rw[le_spec hb h];simp only[Option.bind_some];rw[hok,Bool.not_true,cond_false,wrap_ok (by omega)];rfl
  ·rw[dif_pos hk]at hok;rw[le_eq hk]at hok
   try dsimp only
   rw[dt (show(k:Int)<(b.2.2.length:Int)by omega),cond_true,le_get hk];simp only[Option.bind_some];rw[le_spec hb h];simp only[Option.bind_some];rw[hok];rfl
  ·try dsimp only
   rw[df (by omega),cond_false];rfl
def outsL (n:Net)(ls:List Le)(k:Nat):List Int:=(ls.take k).map (outLe n)
theorem le_take {ls:List Le}{k:Nat}(h:k<ls.length):ls.take (k+1)=ls.take k++[leAt ls k]:=by rw[take_succ' ls k h,le_eq h]
theorem outsL_succ (n:Net){ls:List Le}{k:Nat}(h:k<ls.length):outsL n ls (k+1)=outsL n ls k++[outLe n (leAt ls k)]:=by
 unfold outsL;rw[le_take h,List.map_append];rfl
theorem outsL_len (n:Net)(ls:List Le)(k:Nat):(outsL n ls k).length<=k:=by unfold outsL;simp;omega
def outN (n:Net)(b:Blk):List Int:=if b.1=0 then [1+b.2.1]else if b.1=1 then []else if b.1=2 then [1+n.1+b.2.1]else outsL n b.2.2 b.2.2.length
theorem item3 {n:Net}{b:Blk}(h:itemP n b=true)(k0:¬b.1=0)(k1:¬b.1=1)(k2:¬b.1=2):b.1=3/\lesP n b.2.2=true:=by
 unfold itemP at h;rw[if_neg k0,if_neg k1,if_neg k2]at h;split at h
 ·rename_i q;exact⟨q,h⟩
 ·simp at h
theorem outN_spec (n:Net)(b:Blk)(hb:NetB n)(hl:b.2.2.length<=1048576):spec_OutNodes (n,b)=some (if(netP n && itemP n b)=true then outN n b else []):=by
 unfold spec_OutNodes;rw[known_spec n b hb hl];simp only[Option.bind_some];cases hk:(netP n && itemP n b)with
 | false=>rfl
 | true=>
  rw[Bool.and_eq_true]at hk;obtain⟨hn,hi⟩:=hk;obtain⟨hln,_⟩:=netP_all hn;have h0:=hln.1;have h2:=hln.2.1;rw[Bool.not_true,cond_false,if_pos rfl];unfold outN;by_cases k0:b.1=0
  ·unfold itemP at hi;rw[if_pos k0]at hi;have hi:=of_decide_eq_true hi;rw[dt k0,cond_true,if_pos k0,wrap_ok (by omega)]
  rw[df k0,cond_false,if_neg k0];by_cases k1:b.1=1
  ·rw[dt k1,cond_true,if_pos k1]
  rw[df k1,cond_false,if_neg k1];by_cases k2:b.1=2
  ·unfold itemP at hi;rw[if_neg k0,if_neg k1,if_pos k2]at hi;have hi:=of_decide_eq_true hi;rw[dt k2,cond_true,if_pos k2,wrap_ok (z:=1+n.1) (by omega),wrap_ok (by omega)]
  rw[df k2,cond_false,if_neg k2];obtain⟨k3,hls⟩:=item3 hi k0 k1 k2;refine loop_upto b.2.2.length (fun k=>((k:Int),outsL n b.2.2 k)) (fun k hk=> ?_) ?_
  ·have hol:=outsL_len n b.2.2 k
   try dsimp only
   rw[dt (show(k:Int)<(b.2.2.length:Int)by omega),cond_true,le_get hk];simp only[Option.bind_some];rw[out_spec hln (lesP_at hls hk)];simp only[Option.bind_some];rw[gapp_ok (by simp only[List.length_cons,List.length_nil];omega),<-outsL_succ n hk];simp only[Option.bind_some];rw[wrap_ok (by omega)];rfl
  ·try dsimp only
   rw[df (by omega),cond_false];rfl
def insA (n:Net)(ls:List Le):Nat->List Int
 | 0=>[]
 | k+1=>insA n ls k++insLe n (leAt ls k)
theorem insA_len {n:Net}(h:netP n=true){ls:List Le}(hls:lesP n ls=true)(k:Nat)(hk:k<=ls.length):(insA n ls k).length<=4*k:=by
 induction k with
 | zero=>simp[insA]
 | succ k ih=>
  have h1:=insLe_len h (lesP_at hls (show k<ls.length by omega));have h2:=ih (by omega);show(insA n ls k++insLe n (leAt ls k)).length<=_;rw[List.length_append];omega
theorem insA_mem {n:Net}(h:netP n=true){ls:List Le}(hls:lesP n ls=true)(k:Nat)(hk:k<=ls.length):∀x∈insA n ls k,0<x/\x<lnV n:=by
 induction k with
 | zero=>simp[insA]
 | succ k ih=>
  intro x hx;rcases List.mem_append.1 hx with q | q
  ·exact ih (by omega) x q
  ·have h1:=setP_mem.1 q;have h2:=(insX_ok h (lesP_at hls (show k<ls.length by omega))).2 x h1.1;omega
def pinsP (n:Net)(ls:List Le):List Int:=setP (insA n ls ls.length) (outsL n ls ls.length)
theorem pinsP_len {n:Net}(h:netP n=true){ls:List Le}(hls:lesP n ls=true):(pinsP n ls).length<=433:=by
 have hv:=lnV_le (netP_all h).1;have:=nodup_le' 433 (pinsP n ls) (asc_nodup (asc_insL asc_nil)) (fun x hx=>by
  have h1:=setP_mem.1 hx;have h2:=insA_mem h hls _ (Nat.le_refl _) x h1.1;omega)
 exact this
theorem pins_spec {n:Net}(hb:NetB n)(h:netP n=true){ls:List Le}(hls:lesP n ls=true)(hl:ls.length<=1048576):spec_l28Pins (n,ls)=some (pinsP n ls):=by
 obtain⟨hln,_⟩:=netP_all h;unfold spec_l28Pins;refine loop_upto ls.length (fun k=>((k:Int),(insA n ls k,outsL n ls k))) (fun k hk=> ?_) ?_
 ·have hol:=outsL_len n ls k;have hil:=insA_len h hls k (by omega);have h1:=insLe_len h (lesP_at hls hk)
  try dsimp only
  rw[dt (show(k:Int)<(ls.length:Int)by omega),cond_true,le_get hk];simp only[Option.bind_some];rw[ins_spec h (lesP_at hls hk)];simp only[Option.bind_some];rw[gapp_ok (by omega)];simp only[Option.bind_some];rw[out_spec hln (lesP_at hls hk)];simp only[Option.bind_some];rw[gapp_ok (by simp only[List.length_cons,List.length_nil];omega),<-outsL_succ n hk];simp only[Option.bind_some];rw[wrap_ok (by omega)];rfl
 ·have hol:=outsL_len n ls ls.length;have hil:=insA_len h hls ls.length (by omega)
  try dsimp only
  rw[df (by omega),cond_false,set28_spec _ _ (by omega) (by omega)];rfl
theorem pins3_impl {n:Net}{b:Blk}(hb:NetB n)(h:netP n=true)(hls:lesP n b.2.2=true)(hl:b.2.2.length<=1048576)(k3:b.1=3):impl_pinNodes (n,b)=some (pinsP n b.2.2):=by
 obtain⟨hln,_⟩:=netP_all h;unfold impl_pinNodes
 try dsimp only
 rw[df (show ¬b.1=0 by omega),cond_false,df (show ¬b.1=1 by omega),cond_false,df (show ¬b.1=2 by omega),cond_false];generalize b.2.2=ls at*;refine loop_upto ls.length (fun k=>(outsL n ls k,(k:Int))) (fun k hk=> ?_) ?_
 ·have hol:=outsL_len n ls k
  try dsimp only
  rw[dt (show(k:Int)<(ls.length:Int)by omega),cond_true,le_get hk];simp only[Option.bind_some];rw[out_impl hln (lesP_at hls hk)];simp only[Option.bind_some];rw[gapp_ok (by simp only[List.length_cons,List.length_nil];omega),<-outsL_succ n hk];simp only[Option.bind_some];rw[wrap_ok (by omega)];rfl
 try dsimp only
 rw[df (show ¬(ls.length:Int)<(ls.length:Int)by omega),cond_false];refine(Option.map_eq_some_iff).2 ⟨_,?_,rfl⟩;have hol:=outsL_len n ls ls.length;have conv:pinsP n ls=insL [] ((insA n ls ls.length).filter fun x=>decide (x∉outsL n ls ls.length)):=by
  unfold pinsP setP
  congr 1
  apply List.filter_congr;intro x hx;have:=insA_mem h hls _ (Nat.le_refl _) x hx;rw[decide_eq_decide];exact⟨fun q=>q.2,fun q=>⟨this.1,q⟩⟩
 rw[conv];generalize hO:outsL n ls ls.length=O at*;refine loop_upto ls.length (fun k=>(insL [] ((insA n ls k).filter fun x=>decide (x∉O)),(k:Int))) (fun k hk=> ?_) ?_
 ·have hil:=insA_len h hls k (by omega);have h1:=insLe_len h (lesP_at hls hk);have e1:insA n ls (k+1)=insA n ls k++insLe n (leAt ls k):=rfl
  try dsimp only
  rw[dt (show(k:Int)<(ls.length:Int)by omega),cond_true,le_get hk];simp only[Option.bind_some];rw[ins_impl h (lesP_at hls hk)];simp only[Option.bind_some];rw[e1];generalize insA n ls k=A at*;generalize insLe n (leAt ls k)=X at*;have e0:((0:Int),insL [] (A.filter fun x=>decide (x∉O)))=(fun j:Nat=>((j:Int),insL [] ((A++X.take j).filter fun x=>decide (x∉O)))) 0:=by simp
  rw[e0];refine loop_upto X.length (fun j=>((j:Int),insL [] ((A++X.take j).filter fun x=>decide (x∉O)))) (fun j hj=> ?_) ?_
  ·have hil2:=insL_len [] ((A++X.take j).filter fun x=>decide (x∉O));have hfl:=List.length_filter_le (fun x=>decide (x∉O)) (A++X.take j);rw[List.length_append,List.length_take]at hfl;simp only[List.length_nil]at hil2
   try dsimp only
   rw[dt (show(j:Int)<(X.length:Int)by omega),cond_true,gin_nat hj,nsAt_get hj];simp only[Option.bind_some];rw[has_impl _ _ (by omega),take_at hj,<-List.append_assoc,List.filter_append (A++X.take j),insL_app,wrap_ok (by omega)];simp only[Option.bind_some];by_cases c:nsAt X j∈O
   ·have ef:[nsAt X j].filter (fun x=>decide (x∉O))=[]:=by simp[c]
    rw[dt c,Bool.not_true,cond_false,ef,insL_nil];rfl
   ·have ef:[nsAt X j].filter (fun x=>decide (x∉O))=[nsAt X j]:=by simp[c]
    rw[df c,Bool.not_false,cond_true,insert_impl _ _ (by omega),ef,insL_one];rfl
  ·try dsimp only
   rw[df (by omega),cond_false,List.take_of_length_le (Nat.le_refl _),wrap_ok (by omega)];rfl
 ·try dsimp only
  rw[df (by omega),cond_false];rfl
def pinN (n:Net)(b:Blk):List Int:=if b.1=0 then []else if b.1=1 then [nsAt n.2.2.2 b.2.1.toNat]else if b.1=2 then(sqAt n.2.1 b.2.1.toNat).2.2 else pinsP n b.2.2
theorem pinN_len {n:Net}{b:Blk}(h:netP n=true)(hi:itemP n b=true):(pinN n b).length<=433:=by
 unfold pinN;by_cases k0:b.1=0
 ·rw[if_pos k0];simp
 rw[if_neg k0];by_cases k1:b.1=1
 ·rw[if_pos k1];simp
 rw[if_neg k1];by_cases k2:b.1=2
 ·rw[if_pos k2];unfold itemP at hi;rw[if_neg k0,if_neg k1,if_pos k2]at hi;have hi:=of_decide_eq_true hi;obtain⟨_,_,hs,_⟩:=netP_all h;have:=(hs b.2.1.toNat (by omega)).1;rcases this with q | q<;>omega
 rw[if_neg k2];exact pinsP_len h (item3 hi k0 k1 k2).2
theorem pinN_impl {n:Net}{b:Blk}(hb:NetB n)(h:netP n=true)(hi:itemP n b=true)(hl:b.2.2.length<=1048576):impl_pinNodes (n,b)=some (pinN n b):=by
 by_cases k3:b.1=3
 ·have hls:=(item3 hi (by omega) (by omega) (by omega)).2;rw[pins3_impl hb h hls hl k3];unfold pinN;rw[if_neg (by omega),if_neg (by omega),if_neg (by omega)]
 unfold impl_pinNodes pinN;unfold itemP at hi
 try dsimp only
 by_cases k0:b.1=0
 ·rw[dt k0,if_pos k0];rfl
 rw[if_neg k0]at hi;rw[df k0,cond_false,if_neg k0];by_cases k1:b.1=1
 ·rw[if_pos k1]at hi;have hi:=of_decide_eq_true hi;rw[dt k1,cond_true,if_pos k1,gget_ns hi.1 hi.2];rfl
 rw[if_neg k1]at hi;rw[df k1,cond_false,if_neg k1];by_cases k2:b.1=2
 ·rw[if_pos k2]at hi;have hi:=of_decide_eq_true hi;have hk:b.2.1.toNat<n.2.1.length:=by omega
  obtain⟨g1,g2⟩:=sq_get hk;have e1:((b.2.1.toNat:Nat):Int)=b.2.1:=by omega
  rw[e1]at g1;have hlen:=hb.1.at g2;rw[dt k2,cond_true,if_pos k2,g1];simp only[Option.bind_some];unfold impl_copyInts;rw[gapp_ok (by simp;omega)];rfl
 ·rw[if_neg k2,if_neg k3]at hi;simp at hi
theorem pinNodes_spec (n:Net)(b:Blk)(hb:NetB n)(hl:b.2.2.length<=1048576):spec_PinNodes (n,b)=some (if(netP n && itemP n b)=true then pinN n b else []):=by
 unfold spec_PinNodes;rw[known_spec n b hb hl];simp only[Option.bind_some];cases hk:(netP n && itemP n b)with
 | false=>rfl
 | true=>
  rw[Bool.and_eq_true]at hk;obtain⟨hn,hi⟩:=hk;rw[Bool.not_true,cond_false,if_pos rfl];have hi' :=hi;unfold itemP at hi;unfold pinN;by_cases k0:b.1=0
  ·rw[dt k0,if_pos k0];rfl
  rw[if_neg k0]at hi;rw[df k0,cond_false,if_neg k0];by_cases k1:b.1=1
  ·rw[if_pos k1]at hi;have hi:=of_decide_eq_true hi;rw[dt k1,cond_true,if_pos k1,gget_ns hi.1 hi.2];rfl
  rw[if_neg k1]at hi;rw[df k1,cond_false,if_neg k1];by_cases k2:b.1=2
  ·rw[if_pos k2]at hi;have hi:=of_decide_eq_true hi;have hk:b.2.1.toNat<n.2.1.length:=by omega
   obtain⟨g1,g2⟩:=sq_get hk;have e1:((b.2.1.toNat:Nat):Int)=b.2.1:=by omega
   rw[e1]at g1;have hlen:=hb.1.at g2;rw[dt k2,cond_true,if_pos k2,g1];simp only[Option.bind_some];rw[gapp_ok (by simp;omega)];rfl
  rw[df k2,cond_false,if_neg k2,pins_spec hb hn (item3 hi' k0 k1 k2).2 hl];rfl
def blk0 (n:Net)(b:Blk):Bool:=
 if b.1=3 then decide (b.2.1=0/\(1<=b.2.2.length/\b.2.2.length<=2)/\(pinsP n b.2.2).length<=5)else decide (b.2.2.length=0/\(b.1=2->(sqAt n.2.1 b.2.1.toNat).1=1))
def blkP (n:Net)(b:Blk):Bool:=(netP n && itemP n b) && blk0 n b
theorem blk_spec (n:Net)(b:Blk)(hb:NetB n)(hl:b.2.2.length<=1048576):spec_BlockOk (n,b)=some (blkP n b):=by
 unfold spec_BlockOk blkP;rw[known_spec n b hb hl];simp only[Option.bind_some];cases hk:(netP n && itemP n b)with
 | false=>rfl
 | true=>
  rw[Bool.and_eq_true]at hk;obtain⟨hn,hi⟩:=hk;rw[Bool.not_true,cond_false,Bool.true_and];unfold blk0;by_cases k3:b.1=3
  ·have hls:=(item3 hi (by omega) (by omega) (by omega)).2;rw[dt k3,cond_true,if_pos k3];by_cases c0:b.2.1=0
   rotate_left
   ·rw[df c0,df (show ¬(b.2.1=0/\_)from fun e=>c0 e.1)];rfl
   rw[dt c0,cond_true,inR_spec];simp only[Option.bind_some];by_cases c1:1<=(b.2.2.length:Int)/\(b.2.2.length:Int)<=2
   rotate_left
   ·rw[df c1,df (show ¬(b.2.1=0/\(1<=b.2.2.length/\b.2.2.length<=2)/\_)from fun e=>c1 (by have:=e.2.1;omega))];rfl
   rw[dt c1,cond_true,pins_spec hb hn hls hl];simp only[Option.bind_some]
   congr 1
   rw[decide_eq_decide];exact⟨fun e=>⟨c0,by omega,by omega⟩,fun e=>by have:=e.2.2;omega⟩
  ·rw[df k3,cond_false,if_neg k3];by_cases c0:(b.2.2.length:Int)=0
   rotate_left
   ·rw[df c0,df (show ¬(b.2.2.length=0/\_)from fun e=>c0 (by have:=e.1;omega))];rfl
   rw[dt c0,cond_true];by_cases k2:b.1≠2
   ·rw[dt k2,cond_true,dt (show b.2.2.length=0/\(b.1=2->(sqAt n.2.1 b.2.1.toNat).1=1)from⟨by omega,fun e=>absurd e k2⟩)]
   ·have k2:b.1=2:=Decidable.byContradiction k2;unfold itemP at hi;rw[if_neg (by omega),if_neg (by omega),if_pos k2]at hi;have hi:=of_decide_eq_true hi;have hk:b.2.1.toNat<n.2.1.length:=by omega
    obtain⟨g1,g2⟩:=sq_get hk;have e1:((b.2.1.toNat:Nat):Int)=b.2.1:=by omega
    rw[e1]at g1;rw[df (fun e=>e k2),cond_false,g1];simp only[Option.bind_some]
    congr 1
    rw[decide_eq_decide];exact⟨fun e=>⟨by omega,fun _=>e⟩,fun e=>e.2 k2⟩
end Go.Pf
/-
  Own work. Packings, plainly: every item once.
-/
namespace Go.Pf
open Go Go.Pu
set_option linter.unusedVariables false
def BkB (b:Int)(x:Blk):Prop:=(x.2.2.length:Int)<=b
def BksB (bs:List Blk):Prop:=bs.length<=1048576/\∀b∈bs,BkB (1048576 - bs.length) b
theorem BksB.at {bs:List Blk}(h:BksB bs){b:Blk}(hb:b∈bs):b.2.2.length<=1048576:=by
 have:=h.2 b hb;unfold BkB at this;omega
def bkAt (bs:List Blk)(k:Nat):Blk:=bs.getD k (0,(0,[]))
theorem bk_get {bs:List Blk}{k:Nat}(h:k<bs.length):gget ((0,(0,[])):Blk) bs (k:Int)=some (bkAt bs k)/\bkAt bs k∈bs:=by
 have e:bkAt bs k=bs[k]:=by unfold bkAt;rw[List.getD,List.getElem?_eq_getElem h];rfl
 rw[e];exact⟨gget_nat h,List.getElem_mem h⟩
abbrev P4:=List Int×(List Int×(List Int×List Int))
def leT (s:List Int×List Int)(e:Le):List Int×List Int:=(if 0<=e.2 then inc1 s.1 e.2 else s.1,if 0<=e.1 then inc1 s.2 e.1 else s.2)
def leA (ls:List Le)(s:List Int×List Int)(j:Nat):List Int×List Int:=(ls.take j).foldl leT s
theorem leT_len (s:List Int×List Int)(e:Le):(leT s e).1.length=s.1.length/\(leT s e).2.length=s.2.length:=by
 unfold leT
 constructor
 ·show(if 0<=e.2 then inc1 s.1 e.2 else s.1).length=_;split
  ·exact inc1_len _ _
  ·rfl
 ·show(if 0<=e.1 then inc1 s.2 e.1 else s.2).length=_;split
  ·exact inc1_len _ _
  ·rfl
theorem leF_len (ls:List Le):∀(s:List Int×List Int),(ls.foldl leT s).1.length=s.1.length/\(ls.foldl leT s).2.length=s.2.length:=by
 induction ls with
 | nil=>exact fun _=>⟨rfl,rfl⟩
 | cons e r ih=>
  intro s;rw[List.foldl_cons];have h1:=ih (leT s e);have h2:=leT_len s e;exact⟨h1.1.trans h2.1,h1.2.trans h2.2⟩
theorem leA_succ (ls:List Le)(s:List Int×List Int){j:Nat}(h:j<ls.length):leA ls s (j+1)=leT (leA ls s j) (leAt ls j):=by
 unfold leA;rw[le_take h,List.foldl_append];rfl
def kindT (b:Blk)(s:P4):List Int×(List Int×List Int):=if b.1=0 then(inc1 s.1 b.2.1,(s.2.1,s.2.2.1))else if b.1=1 then(s.1,(inc1 s.2.1 b.2.1,s.2.2.1))else if b.1=2 then(s.1,(s.2.1,inc1 s.2.2.1 b.2.1))else(s.1,(s.2.1,s.2.2.1))
def pkT (s:P4)(b:Blk):P4:=((kindT b s).1,((kindT b s).2.1,leA b.2.2 ((kindT b s).2.2,s.2.2.2) b.2.2.length))
theorem kindT_len (b:Blk)(s:P4):(kindT b s).1.length=s.1.length/\(kindT b s).2.1.length=s.2.1.length/\(kindT b s).2.2.length=s.2.2.1.length:=by
 unfold kindT;split
 ·exact⟨inc1_len _ _,rfl,rfl⟩
 split
 ·exact⟨rfl,inc1_len _ _,rfl⟩
 split
 ·exact⟨rfl,rfl,inc1_len _ _⟩
 ·exact⟨rfl,rfl,rfl⟩
def P4Ok (n:Net)(s:P4):Prop:=s.1.length=n.1.toNat/\s.2.1.length=n.2.2.2.length/\s.2.2.1.length=n.2.1.length/\s.2.2.2.length=n.2.2.1.length
theorem pkT_ok {n:Net}{s:P4}(b:Blk)(h:P4Ok n s):P4Ok n (pkT s b):=by
 obtain⟨h1,h2,h3,h4⟩:=h;obtain⟨k1,k2,k3⟩:=kindT_len b s;have hl:=leF_len (b.2.2.take b.2.2.length) ((kindT b s).2.2,s.2.2.2);exact⟨k1.trans h1,k2.trans h2,(hl.1.trans k3).trans h3,hl.2.trans h4⟩
def pk0 (n:Net):P4:=(List.replicate n.1.toNat 0,(List.replicate n.2.2.2.length 0,(List.replicate n.2.1.length 0,List.replicate n.2.2.1.length 0)))
theorem pk0_ok (n:Net):P4Ok n (pk0 n):=by unfold P4Ok pk0;simp
def pkA (n:Net)(bs:List Blk)(k:Nat):P4:=(bs.take k).foldl pkT (pk0 n)
theorem pkF_ok {n:Net}(bs:List Blk):∀(s:P4),P4Ok n s->P4Ok n (bs.foldl pkT s):=by
 induction bs with
 | nil=>exact fun _ h=>h
 | cons e r ih=>exact fun s h=>ih _ (pkT_ok e h)
theorem pkA_ok (n:Net)(bs:List Blk)(k:Nat):P4Ok n (pkA n bs k):=pkF_ok _ _ (pk0_ok n)
theorem pkA_succ (n:Net)(bs:List Blk){k:Nat}(h:k<bs.length):pkA n bs (k+1)=pkT (pkA n bs k) (bkAt bs k):=by
 unfold pkA;have e:bkAt bs k=bs[k]:=by unfold bkAt;rw[List.getD,List.getElem?_eq_getElem h];rfl
 rw[take_succ' bs k h,List.foldl_append,e];rfl
def once (xs:List Int):Bool:=xs.all fun x=>decide (x=1)
def once4 (s:P4):Bool:=once s.1 && (once s.2.1 && (once s.2.2.1 && once s.2.2.2))
def bkOk (n:Net)(b:Blk):Bool:=itemP n b && blk0 n b
def packP (n:Net)(bs:List Blk):Bool:=netP n && (decide (bs.length<=64) && (bs.all (bkOk n) && once4 (pkA n bs bs.length)))
theorem once_eq (xs:List Int):once xs=if(List.range xs.length).all (fun k=>if hk:k<xs.length then decide (xs[k]=1)else true)=true then true else false:=by
 rw[all_range_list xs (fun e=>decide (e=1)) _ (fun k hk=>by rw[dif_pos hk])];show once xs=if once xs=true then true else false
 cases once xs<;>rfl
theorem once_loop (xs:List Int)(hl:xs.length<=1048576):(Pu.loop (fun(v18:Int)=>
 let v19:Int:=((xs).length:Int)
 let v20:Bool:=decide (v18<v19)
 bif v20 then(
  (gin (xs).length v18).bind fun _=>
  (gget 0 xs v18).bind fun v22=>
  let v23:Bool:=decide (v22≠1)
  bif v23 then(
   Option.map Sum.inr (
    some false))else
  let v24:Int:=wrap .i64 (v18+1)
  some (.inl v24))else
 Option.map Sum.inr (
  some true)) 0)=some (once xs):=by
 rw[once_eq];refine loop_all xs.length (fun k=>(k:Int)) _ false true (fun k hk hok=> ?_) (fun k hk hok=> ?_) ?_
 ·rw[dif_pos hk]at hok;have hok:=of_decide_eq_true hok
  try dsimp only
  rw[dt (show(k:Int)<(xs.length:Int)by omega),cond_true,gin_nat hk,gget_nat hk];simp only[Option.bind_some];rw[df (fun e=>e hok),cond_false,wrap_ok (by omega)];rfl
 ·rw[dif_pos hk]at hok;have hok:=of_decide_eq_false hok
  try dsimp only
  rw[dt (show(k:Int)<(xs.length:Int)by omega),cond_true,gin_nat hk,gget_nat hk];simp only[Option.bind_some];rw[dt hok];rfl
 ·try dsimp only
  rw[df (by omega),cond_false];rfl
theorem once_app (xs ys:List Int):once (xs++ys)=(once xs && once ys):=by unfold once;rw[List.all_append]
def lesIn (n:Net)(ls:List Le):Prop:=∀j,j<ls.length->(leAt ls j).1<(n.2.2.1.length:Int)/\(leAt ls j).2<(n.2.1.length:Int)
theorem bk_les {n:Net}{b:Blk}(h:bkOk n b=true):lesIn n b.2.2:=by
 unfold bkOk at h;rw[Bool.and_eq_true]at h;obtain⟨h1,h2⟩:=h;intro j hj;by_cases k3:b.1=3
 ·have:=(lesP_at (item3 h1 (by omega) (by omega) (by omega)).2 hj).1;omega
 ·unfold blk0 at h2;rw[if_neg k3]at h2;have:=of_decide_eq_true h2;omega
theorem le_loop_spec {n:Net}{ls:List Le}(hl:ls.length<=1048576)(hi:lesIn n ls)(s:List Int×List Int)(h1:s.1.length=n.2.1.length)(h2:s.2.length=n.2.2.1.length)(i:Int)(p o:List Int):
 Pu.loop (fun(v19:(Int×(List Int×List Int)))=>
  let v20:Int:=((ls).length:Int)
  let v21:Bool:=decide (v19.1<v20)
  bif v21 then(
   (gget (0,0) ls v19.1).bind fun v22=>
   let v23:Bool:=decide (0<=v22.1)
   bif v23 then(
    (gget (0,0) ls v19.1).bind fun v24=>
    (gin (v19.2.2).length v24.1).bind fun _=>
    (gget 0 v19.2.2 v24.1).bind fun v26=>
    let v27:Int:=wrap .i64 (v26+1)
    (gin (v19.2.2).length v24.1).bind fun _=>
    (gget 0 v19.2.2 v24.1).bind fun v29=>
    let v30:Int:=v27
    let v31:List Int:=gset v19.2.2 v24.1 v30
    (gget (0,0) ls v19.1).bind fun v32=>
    let v33:Bool:=decide (0<=v32.2)
    bif v33 then(
     (gget (0,0) ls v19.1).bind fun v34=>
     (gin (v19.2.1).length v34.2).bind fun _=>
     (gget 0 v19.2.1 v34.2).bind fun v36=>
     let v37:Int:=wrap .i64 (v36+1)
     (gin (v19.2.1).length v34.2).bind fun _=>
     (gget 0 v19.2.1 v34.2).bind fun v39=>
     let v40:Int:=v37
     let v41:List Int:=gset v19.2.1 v34.2 v40
     let v42:Int:=wrap .i64 (v19.1+1)
     some (.inl (v42,(v41,v31))))else
    let v34:Int:=wrap .i64 (v19.1+1)
    some (.inl (v34,(v19.2.1,v31))))else
   (gget (0,0) ls v19.1).bind fun v24=>
   let v25:Bool:=decide (0<=v24.2)
   bif v25 then(
    (gget (0,0) ls v19.1).bind fun v26=>
    (gin (v19.2.1).length v26.2).bind fun _=>
    (gget 0 v19.2.1 v26.2).bind fun v28=>
    let v29:Int:=wrap .i64 (v28+1)
    (gin (v19.2.1).length v26.2).bind fun _=>
    (gget 0 v19.2.1 v26.2).bind fun v31=>
    let v32:Int:=v29
    let v33:List Int:=gset v19.2.1 v26.2 v32
    let v34:Int:=wrap .i64 (v19.1+1)
    some (.inl (v34,(v33,v19.2.2))))else
   let v26:Int:=wrap .i64 (v19.1+1)
   some (.inl (v26,v19.2)))else
  Option.map Sum.inr (
   let v22:Int:=wrap .i64 (i+1)
   some (.inl (v22,(p,(o,v19.2)))))) (0,s)=(some (.inl (wrap .i64 (i+1),(p,(o,leA ls s ls.length)))):Option ((Int×P4)⊕Bool)):=by
 refine loop_upto ls.length (fun j=>((j:Int),leA ls s j)) (fun j hj=> ?_) ?_
 ·obtain⟨q1,q2⟩:=leF_len (ls.take j) s
  change (leA ls s j).1.length=_ at q1
  change (leA ls s j).2.length=_ at q2
  have hij:=hi j hj;rw[leA_succ ls s hj];generalize leA ls s j=t at*
  try dsimp only
  rw[dt (show(j:Int)<(ls.length:Int)by omega),cond_true,le_get hj];simp only[Option.bind_some];generalize leAt ls j=e at*;unfold leT;by_cases c1:0<=e.1
  ·rw[dt c1,cond_true,gin_some c1 (by omega),gget_ns c1 (by omega),if_pos c1];simp only[Option.bind_some];by_cases c2:0<=e.2
   ·rw[dt c2,cond_true,gin_some c2 (by omega),gget_ns c2 (by omega),if_pos c2];simp only[Option.bind_some];rw[wrap_ok (z:=(j:Int)+1) (by omega)];rfl
   ·rw[df c2,cond_false,if_neg c2,wrap_ok (z:=(j:Int)+1) (by omega)];rfl
  ·rw[df c1,cond_false,if_neg c1];by_cases c2:0<=e.2
   ·rw[dt c2,cond_true,gin_some c2 (by omega),gget_ns c2 (by omega),if_pos c2];simp only[Option.bind_some];rw[wrap_ok (z:=(j:Int)+1) (by omega)];rfl
   ·rw[df c2,cond_false,if_neg c2,wrap_ok (z:=(j:Int)+1) (by omega)];rfl
 ·try dsimp only
  rw[df (by omega),cond_false];rfl
theorem bks_eq (n:Net)(bs:List Blk)(x:Bool):(bs.all (bkOk n) && x)=if(List.range bs.length).all (fun k=>bkOk n (bkAt bs k))=true then x else false:=by
 rw[all_range_list bs (bkOk n) _ (fun k hk=>by
  show bkOk n (bkAt bs k)=_;unfold bkAt;rw[List.getD,List.getElem?_eq_getElem hk];rfl)]
 cases bs.all (bkOk n)<;>rfl
theorem bk_item {n:Net}{b:Blk}(h:bkOk n b=true):(b.1=0->0<=b.2.1/\b.2.1<n.1)/\(b.1=1->0<=b.2.1/\b.2.1<(n.2.2.2.length:Int))/\(b.1=2->0<=b.2.1/\b.2.1<(n.2.1.length:Int)):=by
 unfold bkOk at h;rw[Bool.and_eq_true]at h;have h1:=h.1;unfold itemP at h1;refine⟨fun e=> ?_,fun e=> ?_,fun e=> ?_⟩
 ·rw[if_pos e]at h1;exact of_decide_eq_true h1
 ·rw[if_neg (by omega),if_pos e]at h1;exact of_decide_eq_true h1
 ·rw[if_neg (by omega),if_neg (by omega),if_pos e]at h1;exact of_decide_eq_true h1
theorem join_in {α β:Type}(a:α)(k:α->Option β):joinO (some (.inl a)) k=k a:=rfl
theorem pack_spec (n:Net)(bs:List Blk)(hb:NetB n)(hs:BksB bs):spec_PackOk (n,bs)=some (packP n bs):=by
 have hbl:=hs.1;unfold spec_PackOk packP
 try dsimp only
 rw[net_spec n hb];simp only[Option.bind_some];cases hn:netP n with
 | false=>rfl
 | true=>
  obtain⟨hln,_⟩:=netP_all hn;obtain⟨l1,l2,l3,l4⟩:=hln;rw[Bool.not_true,cond_false,Bool.true_and];by_cases c:64<(bs.length:Int)
  ·rw[dt c,df (show ¬bs.length<=64 by omega)];rfl
  have m1:gmake 8 (0:Int) n.1=some (List.replicate n.1.toNat 0):=by
   have:=gmake_nat (b:=8) (d:=(0:Int)) (n:=n.1.toNat) (by omega) (by omega);rw[show((n.1.toNat:Nat):Int)=n.1 by omega]at this;exact this
  rw[df c,cond_false,dt (show bs.length<=64 by omega),Bool.true_and,m1,gmake_nat (b:=8) (d:=(0:Int)) (n:=n.2.2.2.length) (by omega) (by omega),gmake_nat (b:=8) (d:=(0:Int)) (n:=n.2.1.length) (by omega) (by omega),gmake_nat (b:=8) (d:=(0:Int)) (n:=n.2.2.1.length) (by omega) (by omega)];simp only[Option.bind_some];rw[bks_eq];refine loop_all bs.length (fun k=>((k:Int),pkA n bs k)) _ false _ (fun k hk hok=> ?_) (fun k hk hok=> ?_) ?_
  ·obtain⟨g1,g2⟩:=bk_get hk;have hlen:=hs.at g2;obtain⟨q1,q2,q3,q4⟩:=pkA_ok n bs k;have hin:=bk_les hok;obtain⟨i0,i1,i2⟩:=bk_item hok;rw[pkA_succ n bs hk];generalize pkA n bs k=s at*;generalize bkAt bs k=b at*;have hok' :blkP n b=true:=by unfold blkP;rw[hn,Bool.true_and];exact hok
   try dsimp only
   rw[dt (show(k:Int)<(bs.length:Int)by omega),cond_true,g1];simp only[Option.bind_some];rw[blk_spec n b hb hlen];simp only[Option.bind_some];have fin:∀p o q:List Int,kindT b s=(p,(o,q))->q.length=n.2.1.length->(some (Sum.inl (wrap .i64 ((k:Int)+1),(p,(o,leA b.2.2 (q,s.2.2.2) b.2.2.length)))):Option ((Int×P4)⊕Bool))=some (Sum.inl (((k+1:Nat):Int),pkT s b)):=by
    intro p o q e _;unfold pkT;rw[e,wrap_ok (by omega)];rfl
   rw[hok',Bool.not_true,cond_false];by_cases k0:b.1=0
   ·have:=i0 k0;rw[dt k0,cond_true,gin_some (by omega) (by omega),gget_ns (by omega) (by omega)];simp only[Option.bind_some];rw[join_in];refine(le_loop_spec hlen hin (s.2.2.1,s.2.2.2) q3 q4 (k:Int) _ _).trans (fin _ _ _ ?_ q3);unfold kindT;rw[if_pos k0];rfl
   rw[df k0,cond_false];by_cases k1:b.1=1
   ·have:=i1 k1;rw[dt k1,cond_true,gin_some (by omega) (by omega),gget_ns (by omega) (by omega)];simp only[Option.bind_some];rw[join_in];refine(le_loop_spec hlen hin (s.2.2.1,s.2.2.2) q3 q4 (k:Int) _ _).trans (fin _ _ _ ?_ q3);unfold kindT;rw[if_neg k0,if_pos k1];rfl
   rw[df k1,cond_false];by_cases k2:b.1=2
   ·have:=i2 k2;rw[dt k2,cond_true,gin_some (by omega) (by omega),gget_ns (by omega) (by omega)];simp only[Option.bind_some];rw[join_in];refine(le_loop_spec hlen hin (inc1 s.2.2.1 b.2.1,s.2.2.2) ((inc1_len _ _).trans q3) q4 (k:Int) _ _).trans (fin _ _ _ ?_ ((inc1_len _ _).trans q3));unfold kindT;rw[if_neg k0,if_neg k1,if_pos k2]
   rw[df k2,cond_false,join_in];refine(le_loop_spec hlen hin (s.2.2.1,s.2.2.2) q3 q4 (k:Int) _ _).trans (fin _ _ _ ?_ q3);unfold kindT;rw[if_neg k0,if_neg k1,if_neg k2]
  ·obtain⟨g1,g2⟩:=bk_get hk;have hlen:=hs.at g2;have hok' :blkP n (bkAt bs k)=false:=by unfold blkP;rw[hn,Bool.true_and];exact hok
   try dsimp only
   rw[dt (show(k:Int)<(bs.length:Int)by omega),cond_true,g1];simp only[Option.bind_some];rw[blk_spec n _ hb hlen];simp only[Option.bind_some];rw[hok'];rfl
  ·obtain⟨q1,q2,q3,q4⟩:=pkA_ok n bs bs.length;unfold once4;generalize pkA n bs bs.length=s at*
   try dsimp only
   rw[df (show ¬(bs.length:Int)<(bs.length:Int)by omega),cond_false,gapp_ok (by omega)];simp only[Option.bind_some];rw[gapp_ok (by rw[List.length_append];omega)];simp only[Option.bind_some];rw[gapp_ok (by rw[List.length_append,List.length_append];omega)];simp only[Option.bind_some];refine(congrArg (Option.map Sum.inr) (once_loop (((s.1++s.2.1)++s.2.2.1)++s.2.2.2) (by simp only[List.length_append];omega))).trans ?_
   rw[once_app,once_app,once_app,Bool.and_assoc,Bool.and_assoc];rfl
end Go.Pf
/-
  Own work. The laws' marks in lists of connections and of blocks: what is marked is held.
-/
namespace Go.Pf
open Go Go.Pu
set_option linter.unusedVariables false
end Go.Pf
/-
  Own work. The laws' helpers for lists of connections: sizes within the budget, marks.
-/
namespace Go.Pf
open Go Go.Pu
set_option linter.unusedVariables false
def CnB (b:Int)(c:Conn):Prop:=(c.2.2.length:Int)<=b
def CnsB (cs:List Conn):Prop:=cs.length<=1048576/\∀c∈cs,CnB (1048576 - cs.length) c
theorem CnsB.ok {cs:List Conn}(h:CnsB cs):CnsOk cs:=⟨h.1,fun c hc=>by
 have:=h.2 c hc;unfold CnB at this;unfold CnOk;omega⟩
end Go.Pf
/-
  Own work. The connections of a packing, plainly.
-/
namespace Go.Pf
open Go Go.Pu
set_option linter.unusedVariables false
def mtA (x p:Int)(xs:List Int)(acc:List Pin):Nat->List Pin
 | 0=>acc
 | j+1=>if nsAt xs j=x then mtA x p xs acc j++[(p,(j:Int))]else mtA x p xs acc j
theorem mtA_len (x p:Int)(xs:List Int)(acc:List Pin)(j:Nat):(mtA x p xs acc j).length<=acc.length+j:=by
 induction j with
 | zero=>exact Nat.le_refl _
 | succ j ih=>
  show(if nsAt xs j=x then mtA x p xs acc j++[(p,(j:Int))]else mtA x p xs acc j).length<=_;split
  ·rw[List.length_append];simp only[List.length_cons,List.length_nil];omega
  ·omega
def skA (x:Int)(PS:List (List Int)):Nat->List Pin
 | 0=>[]
 | p+1=>mtA x (p:Int) (gAt PS p) (skA x PS p) (gAt PS p).length
def PsOk (PS:List (List Int)):Prop:=PS.length<=64/\∀p,p<PS.length->(gAt PS p).length<=433
theorem skA_len {x:Int}{PS:List (List Int)}(h:PsOk PS)(p:Nat)(hp:p<=PS.length):(skA x PS p).length<=433*p:=by
 induction p with
 | zero=>simp[skA]
 | succ p ih=>
  have h1:=ih (by omega);have h2:=mtA_len x (p:Int) (gAt PS p) (skA x PS p) (gAt PS p).length;have h3:=h.2 p (by omega);show(mtA x (p:Int) (gAt PS p) (skA x PS p) (gAt PS p).length).length<=_;omega
theorem gAt_gt {PS:List (List Int)}{p:Nat}(h:p<PS.length):gget ([]:List Int) PS (p:Int)=some (gAt PS p):=by
 unfold gAt;rw[gget_nat h,List.getD,List.getElem?_eq_getElem h];rfl
def cnA (PS:List (List Int))(b:Int)(os:List Int)(acc:List Conn):Nat->List Conn
 | 0=>acc
 | j+1=>if 0<((skA (nsAt os j) PS PS.length).length:Int)then cnA PS b os acc j++[(nsAt os j,((b,(j:Int)),skA (nsAt os j) PS PS.length))]else cnA PS b os acc j
theorem cnA_len (PS:List (List Int))(b:Int)(os:List Int)(acc:List Conn)(j:Nat):(cnA PS b os acc j).length<=acc.length+j:=by
 induction j with
 | zero=>exact Nat.le_refl _
 | succ j ih=>
  show(if 0<((skA (nsAt os j) PS PS.length).length:Int)then cnA PS b os acc j++[(nsAt os j,((b,(j:Int)),skA (nsAt os j) PS PS.length))]else cnA PS b os acc j).length<=_;split
  ·rw[List.length_append];simp only[List.length_cons,List.length_nil];omega
  ·omega
def ctA (n:Net)(bs:List Blk)(PS:List (List Int)):Nat->List Conn
 | 0=>[]
 | b+1=>cnA PS (b:Int) (outN n (bkAt bs b)) (ctA n bs PS b) (outN n (bkAt bs b)).length
def psA (n:Net)(bs:List Blk)(k:Nat):List (List Int):=(bs.take k).map (pinN n)
theorem psA_len (n:Net)(bs:List Blk){k:Nat}(h:k<=bs.length):(psA n bs k).length=k:=by unfold psA;simp;omega
theorem psA_succ (n:Net)(bs:List Blk){k:Nat}(h:k<bs.length):psA n bs (k+1)=psA n bs k++[pinN n (bkAt bs k)]:=by
 have e:bkAt bs k=bs[k]:=by unfold bkAt;rw[List.getD,List.getElem?_eq_getElem h];rfl
 unfold psA;rw[take_succ' bs k h,List.map_append,e];rfl
def connsP (n:Net)(bs:List Blk):List Conn:=if packP n bs=true then ctA n bs (psA n bs bs.length) bs.length else []
theorem packP_all {n:Net}{bs:List Blk}(h:packP n bs=true):netP n=true/\bs.length<=64/\∀k,k<bs.length->bkOk n (bkAt bs k)=true:=by
 unfold packP at h;simp only[Bool.and_eq_true,decide_eq_true_eq,List.all_eq_true]at h;exact⟨h.1,h.2.1,fun k hk=>h.2.2.1 _ (bk_get hk).2⟩
theorem bkOk_item {n:Net}{b:Blk}(h:bkOk n b=true):itemP n b=true:=by
 unfold bkOk at h;rw[Bool.and_eq_true]at h;exact h.1
theorem bkOk_len {n:Net}{b:Blk}(h:bkOk n b=true):b.2.2.length<=2:=by
 unfold bkOk at h;rw[Bool.and_eq_true]at h;have h2:=h.2;unfold blk0 at h2;split at h2
 ·have:=of_decide_eq_true h2;omega
 ·have:=of_decide_eq_true h2;omega
theorem outN_len {n:Net}{b:Blk}(h:bkOk n b=true):(outN n b).length<=2:=by
 have h2:=bkOk_len h;unfold outN;split
 ·simp
 split
 ·simp
 split
 ·simp
 ·exact Nat.le_trans (outsL_len n b.2.2 _) h2
theorem psA_ok {n:Net}{bs:List Blk}(h:packP n bs=true):PsOk (psA n bs bs.length):=by
 obtain⟨hn,hl,hk⟩:=packP_all h;refine⟨by rw[psA_len n bs (Nat.le_refl _)];exact hl,fun p hp=> ?_⟩;rw[psA_len n bs (Nat.le_refl _)]at hp;have e:gAt (psA n bs bs.length) p=pinN n (bkAt bs p):=by
  have e:bkAt bs p=bs[p]:=by unfold bkAt;rw[List.getD,List.getElem?_eq_getElem hp];rfl
  unfold gAt psA;rw[List.take_length,List.getD,List.getElem?_map,List.getElem?_eq_getElem hp,e];rfl
 rw[e];exact pinN_len hn (bkOk_item (hk p hp))
theorem ctA_len {n:Net}{bs:List Blk}(h:packP n bs=true)(PS:List (List Int))(k:Nat)(hk:k<=bs.length):(ctA n bs PS k).length<=2*k:=by
 induction k with
 | zero=>simp[ctA]
 | succ k ih=>
  have h1:=ih (by omega);have h2:=outN_len ((packP_all h).2.2 k (by omega));have h3:=cnA_len PS (k:Int) (outN n (bkAt bs k)) (ctA n bs PS k) (outN n (bkAt bs k)).length;show(cnA PS (k:Int) (outN n (bkAt bs k)) (ctA n bs PS k) (outN n (bkAt bs k)).length).length<=_;omega
theorem mapS {α β:Type}{X:Option β}{o:β}(h:X=some o):Option.map (Sum.inr:β->α⊕β) X=some (.inr o):=by rw[h];rfl
theorem gapp24c {xs ys:List (List Int)}(h:xs.length+ys.length<=1000000000):gapp 24 xs ys=some (xs++ys):=gapp_some (by omega) (by omega)
theorem gapp16p {xs ys:List Pin}(h:xs.length+ys.length<=1000000000):gapp 16 xs ys=some (xs++ys):=gapp_some (by omega) (by omega)
theorem gapp48 {xs ys:List Conn}(h:xs.length+ys.length<=1000000000):gapp 48 xs ys=some (xs++ys):=gapp_some (by omega) (by omega)
theorem conns_spec (n:Net)(bs:List Blk)(hb:NetB n)(hs:BksB bs):spec_ConnsOf (n,bs)=some (connsP n bs):=by
 unfold spec_ConnsOf connsP;rw[pack_spec n bs hb hs];simp only[Option.bind_some];cases hp:packP n bs with
 | false=>rfl
 | true=>
  obtain⟨hn,hl,hk⟩:=packP_all hp;rw[Bool.not_true,cond_false,if_pos rfl];have both2:∀k,k<bs.length->(netP n && itemP n (bkAt bs k))=true:=fun k hkl=>by rw[hn,bkOk_item (hk k hkl)];rfl
  refine loop_upto bs.length (fun k=>((k:Int),psA n bs k)) (fun k hkl=> ?_) ?_
  ·obtain⟨g1,g2⟩:=bk_get hkl;have hpl:=psA_len n bs (show k<=bs.length by omega)
   try dsimp only
   rw[dt (show(k:Int)<(bs.length:Int)by omega),cond_true,g1];simp only[Option.bind_some];rw[pinNodes_spec n _ hb (hs.at g2),if_pos (both2 k hkl)];simp only[Option.bind_some];rw[gapp24c (by simp only[List.length_cons,List.length_nil];omega),<-psA_succ n bs hkl];simp only[Option.bind_some];rw[wrap_ok (by omega)];rfl
  ·have hPS:=psA_ok hp;generalize psA n bs bs.length=PS at*
   try dsimp only
   rw[df (show ¬(bs.length:Int)<(bs.length:Int)by omega),cond_false];refine mapS ?_
   refine loop_upto bs.length (fun k=>((k:Int),ctA n bs PS k)) (fun k hkl=> ?_) ?_
   ·obtain⟨g1,g2⟩:=bk_get hkl;have hol:=outN_len (hk k hkl);have hct:=ctA_len hp PS k (by omega)
    try dsimp only
    rw[dt (show(k:Int)<(bs.length:Int)by omega),cond_true,g1];simp only[Option.bind_some];rw[outN_spec n _ hb (hs.at g2),if_pos (both2 k hkl)];simp only[Option.bind_some];show _=some (Sum.inl (((k+1:Nat):Int),cnA PS (k:Int) (outN n (bkAt bs k)) (ctA n bs PS k) (outN n (bkAt bs k)).length));generalize outN n (bkAt bs k)=os at*;generalize ctA n bs PS k=acc at*;refine loop_upto os.length (fun j=>((j:Int),cnA PS (k:Int) os acc j)) (fun j hj=> ?_) ?_
    ·have hcl:=cnA_len PS (k:Int) os acc j
     try dsimp only
     rw[dt (show(j:Int)<(os.length:Int)by omega),cond_true,gin_nat hj,nsAt_get hj];simp only[Option.bind_some];show _=some (Sum.inl (((j+1:Nat):Int),if 0<((skA (nsAt os j) PS PS.length).length:Int)then cnA PS (k:Int) os acc j++[(nsAt os j,(((k:Int),(j:Int)),skA (nsAt os j) PS PS.length))]else cnA PS (k:Int) os acc j));generalize nsAt os j=x at*;generalize cnA PS (k:Int) os acc j=cs at*;refine loop_upto PS.length (fun p=>((p:Int),skA x PS p)) (fun p hpp=> ?_) ?_
     ·have hsl:=skA_len (x:=x) hPS p (by omega);have hpl:=hPS.2 p hpp;have hPl:=hPS.1
      try dsimp only
      rw[dt (show(p:Int)<(PS.length:Int)by omega),cond_true];show _=some (Sum.inl (((p+1:Nat):Int),mtA x (p:Int) (gAt PS p) (skA x PS p) (gAt PS p).length));refine loop_upto (gAt PS p).length (fun i=>((i:Int),mtA x (p:Int) (gAt PS p) (skA x PS p) i)) (fun i hi=> ?_) ?_
      ·have hml:=mtA_len x (p:Int) (gAt PS p) (skA x PS p) i
       try dsimp only
       rw[gin_nat hpp,gAt_gt hpp];simp only[Option.bind_some];rw[dt (show(i:Int)<((gAt PS p).length:Int)by omega),cond_true,nsAt_get hi];simp only[Option.bind_some];show _=some (Sum.inl (((i+1:Nat):Int),if nsAt (gAt PS p) i=x then mtA x (p:Int) (gAt PS p) (skA x PS p) i++[((p:Int),(i:Int))]else mtA x (p:Int) (gAt PS p) (skA x PS p) i));by_cases c:nsAt (gAt PS p) i=x
       ·rw[dt c,cond_true,if_pos c,gapp16p (by simp only[List.length_cons,List.length_nil];omega)];simp only[Option.bind_some];rw[wrap_ok (by omega)];rfl
       ·rw[df c,cond_false,if_neg c,wrap_ok (by omega)];rfl
      ·try dsimp only
       rw[gin_nat hpp,gAt_gt hpp];simp only[Option.bind_some];rw[df (show ¬((gAt PS p).length:Int)<((gAt PS p).length:Int)by omega),cond_false,wrap_ok (by omega)];rfl
     ·have hsl:=skA_len (x:=x) hPS PS.length (by omega);have hPl:=hPS.1;generalize skA x PS PS.length=sk at*
      try dsimp only
      rw[df (show ¬(PS.length:Int)<(PS.length:Int)by omega),cond_false];by_cases c:0<(sk.length:Int)
      ·rw[dt c,cond_true,if_pos c,gapp48 (by simp only[List.length_cons,List.length_nil];omega)];simp only[Option.bind_some];rw[wrap_ok (by omega)];rfl
      ·rw[df c,cond_false,if_neg c,wrap_ok (by omega)];rfl
    ·try dsimp only
     rw[df (show ¬(os.length:Int)<(os.length:Int)by omega),cond_false,wrap_ok (by omega)];rfl
   ·try dsimp only
    rw[df (show ¬(bs.length:Int)<(bs.length:Int)by omega),cond_false];rfl
end Go.Pf
/-
  Own work. Packing, plainly.
-/
namespace Go.Pf
open Go Go.Pu
set_option linter.unusedVariables false
def elT (n:Net):Nat->List Le×List Bool
 | 0=>([],List.replicate n.2.2.1.length false)
 | k+1=>if(sqAt n.2.1 k).1≠0 then elT n k else
  if 0<=nsAt (sqAt n.2.1 k).2.2 0 - fstP n/\nsAt (usesP n) (nsAt (sqAt n.2.1 k).2.2 0).toNat=1 then
   ((elT n k).1++[(nsAt (sqAt n.2.1 k).2.2 0 - fstP n,(k:Int))],gset (elT n k).2 (nsAt (sqAt n.2.1 k).2.2 0 - fstP n) true)
  else((elT n k).1++[(-1,(k:Int))],(elT n k).2)
def bAu (U:List Bool)(k:Nat):Bool:=U.getD k false
theorem bAu_get {U:List Bool}{k:Nat}(h:k<U.length):gget false U (k:Int)=some (bAu U k):=by
 unfold bAu;rw[gget_nat h,List.getD,List.getElem?_eq_getElem h];rfl
def elL (n:Net):Nat->List Le
 | 0=>(elT n n.2.1.length).1
 | k+1=>if bAu (elT n n.2.1.length).2 k=false then elL n k++[((k:Int),-1)]else elL n k
def elP (n:Net):List Le:=elL n n.2.2.1.length
theorem elT_ok {n:Net}(hn:netP n=true):∀k,k<=n.2.1.length->(elT n k).1.length<=k/\(elT n k).2.length=n.2.2.1.length/\∀e∈(elT n k).1,leOk n e:=by
 obtain⟨hln,_,hs,_⟩:=netP_all hn;have hv:=lnV_le hln;intro k
 induction k with
 | zero=>intro _;simp[elT]
 | succ k ih=>
  intro hk;obtain⟨i1,i2,i3⟩:=ih (by omega);have hsk:=hs k (by omega);unfold elT;by_cases c0:(sqAt n.2.1 k).1≠0
  ·rw[if_pos c0];exact⟨by omega,i2,i3⟩
  have c0:(sqAt n.2.1 k).1=0:=Decidable.byContradiction c0;rw[if_neg (fun e=>e c0)];have hlen:(sqAt n.2.1 k).2.2.length=1:=by rcases hsk.1 with q | q<;>omega
  have hx:=belowP_mem hsk.2 (nsAt (sqAt n.2.1 k).2.2 0) (by
   rw[<-ns_at (show 0<(sqAt n.2.1 k).2.2.length by omega)];exact List.getElem_mem _)
  have hlv:lnV n=fstP n+n.2.2.1.length:=rfl;by_cases c1:0<=nsAt (sqAt n.2.1 k).2.2 0 - fstP n/\nsAt (usesP n) (nsAt (sqAt n.2.1 k).2.2 0).toNat=1
  ·rw[if_pos c1];refine⟨by simp;omega,by show(gset _ _ _).length=_;unfold gset;rw[List.length_set];exact i2,fun e he=> ?_⟩;rcases List.mem_append.1 he with q | q
   ·exact i3 e q
   ·rw[List.mem_singleton]at q;subst q;refine⟨⟨⟨by simp only;omega,by simp only;omega⟩,⟨by simp only;omega,by simp only;omega⟩,by simp only;omega⟩,fun _=> ?_,fun _ _=> ?_⟩
    ·simp only[Int.toNat_natCast];exact c0
    ·simp only[Int.toNat_natCast];refine⟨by omega,?_⟩;rw[show fstP n+(nsAt (sqAt n.2.1 k).2.2 0 - fstP n)=nsAt (sqAt n.2.1 k).2.2 0 by omega];exact c1.2
  ·rw[if_neg c1];refine⟨by simp;omega,i2,fun e he=> ?_⟩;rcases List.mem_append.1 he with q | q
   ·exact i3 e q
   ·rw[List.mem_singleton]at q;subst q;refine⟨⟨⟨by simp only;omega,by simp only;omega⟩,⟨by simp only;omega,by simp only;omega⟩,by simp only;omega⟩,fun _=> ?_,fun h=>absurd h (by simp only;omega)⟩;simp only[Int.toNat_natCast];exact c0
theorem elL_ok {n:Net}(hn:netP n=true):∀k,k<=n.2.2.1.length->(elL n k).length<=12+k/\∀e∈elL n k,leOk n e:=by
 obtain⟨hln,_⟩:=netP_all hn;obtain⟨h1,h2,h3⟩:=elT_ok hn n.2.1.length (Nat.le_refl _);have hl2:=hln.2.1;intro k
 induction k with
 | zero=>intro _;exact⟨by show(elT n n.2.1.length).1.length<=_;omega,h3⟩
 | succ k ih=>
  intro hk;obtain⟨i1,i2⟩:=ih (by omega);show(if bAu (elT n n.2.1.length).2 k=false then elL n k++[((k:Int),-1)]else elL n k).length<=_/\∀e∈(if bAu (elT n n.2.1.length).2 k=false then elL n k++[((k:Int),-1)]else elL n k),leOk n e;split
  ·refine⟨by simp;omega,fun e he=> ?_⟩;rcases List.mem_append.1 he with q | q
   ·exact i2 e q
   ·rw[List.mem_singleton]at q;subst q;exact⟨⟨⟨by simp only;omega,by simp only;omega⟩,⟨by simp only;omega,by simp only;omega⟩,by simp only;omega⟩,fun h=>absurd h (by simp only;omega),fun _ h=>absurd h (by simp only;omega)⟩
  ·exact⟨by omega,i2⟩
theorem gapp16l {xs ys:List Le}(h:xs.length+ys.length<=1000000000):gapp 16 xs ys=some (xs++ys):=gapp_some (by omega) (by omega)
theorem gapp40 {xs ys:List Blk}(h:xs.length+ys.length<=1000000000):gapp 40 xs ys=some (xs++ys):=gapp_some (by omega) (by omega)
theorem el_impl {n:Net}(hb:NetB n)(hn:netP n=true):impl_elements n=some (elP n):=by
 obtain⟨hln,_,hs,_⟩:=netP_all hn;have hv:=lnV_le hln;have hl2:=hln.2.1;have hl3:=hln.2.2.1;have hul:=usesP_len n;have hlv:lnV n=fstP n+n.2.2.1.length:=rfl;unfold impl_elements;rw[uses_impl hb hn];simp only[Option.bind_some];rw[gmake_nat (by omega) (by omega)];simp only[Option.bind_some];refine loop_upto n.2.1.length (fun k=>((k:Int),elT n k)) (fun k hk=> ?_) ?_
 ·obtain⟨i1,i2,_⟩:=elT_ok hn k (by omega);have hsk:=hs k hk;obtain⟨g1,g2⟩:=sq_get hk
  try dsimp only
  rw[dt (show(k:Int)<(n.2.1.length:Int)by omega),cond_true,g1];simp only[Option.bind_some];rw[show elT n (k+1)=if(sqAt n.2.1 k).1≠0 then elT n k else
  if 0<=nsAt (sqAt n.2.1 k).2.2 0 - fstP n/\nsAt (usesP n) (nsAt (sqAt n.2.1 k).2.2 0).toNat=1 then
   ((elT n k).1++[(nsAt (sqAt n.2.1 k).2.2 0 - fstP n,(k:Int))],gset (elT n k).2 (nsAt (sqAt n.2.1 k).2.2 0 - fstP n) true)
  else((elT n k).1++[(-1,(k:Int))],(elT n k).2)from rfl]
  generalize elT n k=t at*;by_cases c0:(sqAt n.2.1 k).1≠0
  ·rw[dt c0,cond_true,if_pos c0,wrap_ok (by omega)];rfl
  rw[df c0,cond_false,if_neg c0];have c0:(sqAt n.2.1 k).1=0:=Decidable.byContradiction c0;have hlen:(sqAt n.2.1 k).2.2.length=1:=by rcases hsk.1 with q | q<;>omega
  have g0:gget 0 (sqAt n.2.1 k).2.2 0=some (nsAt (sqAt n.2.1 k).2.2 0):=nsAt_get (show 0<(sqAt n.2.1 k).2.2.length by omega);have hx:=belowP_mem hsk.2 (nsAt (sqAt n.2.1 k).2.2 0) (by
   rw[<-ns_at (show 0<(sqAt n.2.1 k).2.2.length by omega)];exact List.getElem_mem _)
  rw[g0];generalize nsAt (sqAt n.2.1 k).2.2 0=x at*;simp only[Option.bind_some];rw[fst_impl hln];simp only[Option.bind_some];rw[wrap_ok (z:=x - fstP n) (by omega)];by_cases c1:0<=x - fstP n
  ·rw[dt c1,cond_true,gin_some hx.1 (by omega),gget_ns hx.1 (by omega)];simp only[Option.bind_some];by_cases c2:nsAt (usesP n) x.toNat=1
   ·have gb:gget false t.2 (x - fstP n)=some (t.2.getD (x - fstP n).toNat false):=gget_some c1 (by omega);rw[dt c2,cond_true,if_pos ⟨c1,c2⟩,gin_some c1 (by omega),gb];simp only[Option.bind_some];rw[gapp16l (by simp only[List.length_cons,List.length_nil];omega)];simp only[Option.bind_some];rw[wrap_ok (z:=(k:Int)+1) (by omega)];rfl
   ·rw[df c2,cond_false,if_neg (fun e=>c2 e.2),gapp16l (by simp only[List.length_cons,List.length_nil];omega)];simp only[Option.bind_some];rw[wrap_ok (z:=(k:Int)+1) (by omega)];rfl
  ·rw[df c1,cond_false,if_neg (fun e=>c1 e.1),gapp16l (by simp only[List.length_cons,List.length_nil];omega)];simp only[Option.bind_some];rw[wrap_ok (z:=(k:Int)+1) (by omega)];rfl
 ·obtain⟨i1,i2,_⟩:=elT_ok hn n.2.1.length (Nat.le_refl _)
  try dsimp only
  rw[df (show ¬(n.2.1.length:Int)<(n.2.1.length:Int)by omega),cond_false];refine mapS ?_
  refine loop_upto n.2.2.1.length (fun k=>((k:Int),elL n k)) (fun k hk=> ?_) ?_
  ·have hel:=(elL_ok hn k (by omega)).1
   try dsimp only
   rw[dt (show(k:Int)<(n.2.2.1.length:Int)by omega),cond_true,gin_nat (by omega),bAu_get (by omega)];simp only[Option.bind_some];show _=some (Sum.inl (((k+1:Nat):Int),if bAu (elT n n.2.1.length).2 k=false then elL n k++[((k:Int),-1)]else elL n k));cases hu:bAu (elT n n.2.1.length).2 k with
   | true=>rw[Bool.not_true,cond_false,if_neg (by simp),wrap_ok (by omega)];rfl
   | false=>
    rw[Bool.not_false,cond_true,if_pos rfl,gapp16l (by simp only[List.length_cons,List.length_nil];omega)];simp only[Option.bind_some];rw[wrap_ok (by omega)];rfl
  ·try dsimp only
   rw[df (show ¬(n.2.2.1.length:Int)<(n.2.2.1.length:Int)by omega),cond_false];rfl
theorem el_spec {n:Net}(hb:NetB n)(hn:netP n=true):spec_l28Les n=some (elP n):=by
 obtain⟨hln,_,hs,_⟩:=netP_all hn;have hv:=lnV_le hln;have hl2:=hln.2.1;have hl3:=hln.2.2.1;have hul:=usesP_len n;have hlv:lnV n=fstP n+n.2.2.1.length:=rfl;unfold spec_l28Les;rw[uses_spec hb hn];simp only[Option.bind_some];rw[gmake_nat (by omega) (by omega)];simp only[Option.bind_some];refine loop_upto n.2.1.length (fun k=>((k:Int),elT n k)) (fun k hk=> ?_) ?_
 ·obtain⟨i1,i2,_⟩:=elT_ok hn k (by omega);have hsk:=hs k hk;obtain⟨g1,g2⟩:=sq_get hk
  try dsimp only
  rw[dt (show(k:Int)<(n.2.1.length:Int)by omega),cond_true,g1];simp only[Option.bind_some];rw[show elT n (k+1)=if(sqAt n.2.1 k).1≠0 then elT n k else
  if 0<=nsAt (sqAt n.2.1 k).2.2 0 - fstP n/\nsAt (usesP n) (nsAt (sqAt n.2.1 k).2.2 0).toNat=1 then
   ((elT n k).1++[(nsAt (sqAt n.2.1 k).2.2 0 - fstP n,(k:Int))],gset (elT n k).2 (nsAt (sqAt n.2.1 k).2.2 0 - fstP n) true)
  else((elT n k).1++[(-1,(k:Int))],(elT n k).2)from rfl]
  generalize elT n k=t at*;by_cases c0:(sqAt n.2.1 k).1≠0
  ·rw[dt c0,cond_true,if_pos c0,wrap_ok (by omega)];rfl
  rw[df c0,cond_false,if_neg c0];have c0:(sqAt n.2.1 k).1=0:=Decidable.byContradiction c0;have hlen:(sqAt n.2.1 k).2.2.length=1:=by rcases hsk.1 with q | q<;>omega
  have g0:gget 0 (sqAt n.2.1 k).2.2 0=some (nsAt (sqAt n.2.1 k).2.2 0):=nsAt_get (show 0<(sqAt n.2.1 k).2.2.length by omega);have hx:=belowP_mem hsk.2 (nsAt (sqAt n.2.1 k).2.2 0) (by
   rw[<-ns_at (show 0<(sqAt n.2.1 k).2.2.length by omega)];exact List.getElem_mem _)
  rw[g0];generalize nsAt (sqAt n.2.1 k).2.2 0=x at*;simp only[Option.bind_some];rw[fst_spec hln];simp only[Option.bind_some];rw[wrap_ok (z:=x - fstP n) (by omega)];by_cases c1:0<=x - fstP n
  ·rw[dt c1,cond_true,gin_some hx.1 (by omega),gget_ns hx.1 (by omega)];simp only[Option.bind_some];by_cases c2:nsAt (usesP n) x.toNat=1
   ·have gb:gget false t.2 (x - fstP n)=some (t.2.getD (x - fstP n).toNat false):=gget_some c1 (by omega);rw[dt c2,cond_true,if_pos ⟨c1,c2⟩,gin_some c1 (by omega),gb];simp only[Option.bind_some];rw[gapp16l (by simp only[List.length_cons,List.length_nil];omega)];simp only[Option.bind_some];rw[wrap_ok (z:=(k:Int)+1) (by omega)];rfl
   ·rw[df c2,cond_false,if_neg (fun e=>c2 e.2),gapp16l (by simp only[List.length_cons,List.length_nil];omega)];simp only[Option.bind_some];rw[wrap_ok (z:=(k:Int)+1) (by omega)];rfl
  ·rw[df c1,cond_false,if_neg (fun e=>c1 e.1),gapp16l (by simp only[List.length_cons,List.length_nil];omega)];simp only[Option.bind_some];rw[wrap_ok (z:=(k:Int)+1) (by omega)];rfl
 ·obtain⟨i1,i2,_⟩:=elT_ok hn n.2.1.length (Nat.le_refl _)
  try dsimp only
  rw[df (show ¬(n.2.1.length:Int)<(n.2.1.length:Int)by omega),cond_false];refine mapS ?_
  refine loop_upto n.2.2.1.length (fun k=>((k:Int),elL n k)) (fun k hk=> ?_) ?_
  ·have hel:=(elL_ok hn k (by omega)).1
   try dsimp only
   rw[dt (show(k:Int)<(n.2.2.1.length:Int)by omega),cond_true,gin_nat (by omega),bAu_get (by omega)];simp only[Option.bind_some];show _=some (Sum.inl (((k+1:Nat):Int),if bAu (elT n n.2.1.length).2 k=false then elL n k++[((k:Int),-1)]else elL n k));cases hu:bAu (elT n n.2.1.length).2 k with
   | true=>rw[Bool.not_true,cond_false,if_neg (by simp),wrap_ok (by omega)];rfl
   | false=>
    rw[Bool.not_false,cond_true,if_pos rfl,gapp16l (by simp only[List.length_cons,List.length_nil];omega)];simp only[Option.bind_some];rw[wrap_ok (by omega)];rfl
  ·try dsimp only
   rw[df (show ¬(n.2.2.1.length:Int)<(n.2.2.1.length:Int)by omega),cond_false];rfl
def ndsLe (n:Net)(e:Le):List Int:=ins (insLe n e) (outLe n e)
def cmA (xs ys:List Int):Nat->Int
 | 0=>0
 | k+1=>if nsAt xs k∈ys then cmA xs ys k+1 else cmA xs ys k
theorem cmA_le (xs ys:List Int)(k:Nat):0<=cmA xs ys k/\cmA xs ys k<=k:=by
 induction k with
 | zero=>simp[cmA]
 | succ k ih=>unfold cmA;split<;>omega
def com (n:Net)(e r:Le):Int:=cmA (ndsLe n e) (ndsLe n r) (ndsLe n e).length
theorem nds_len {n:Net}(h:netP n=true){e:Le}(he:leOk n e):(ndsLe n e).length<=5:=by
 have h1:=insLe_len h he;have h2:=ins_len (insLe n e) (outLe n e);unfold ndsLe;omega
theorem nds_impl {n:Net}(h:netP n=true){e:Le}(he:leOk n e):impl_leNodes (n,e)=some (ndsLe n e):=by
 have h1:=insLe_len h he;unfold impl_leNodes;rw[ins_impl h he,out_impl (netP_all h).1 he];simp only[Option.bind_some];rw[insert_impl _ _ (by omega)];rfl
theorem com_impl {n:Net}(h:netP n=true){e r:Le}(he:leOk n e)(hr:leOk n r):impl_commonCount (ndsLe n e,ndsLe n r)=some (com n e r):=by
 have h1:=nds_len h he;have h2:=nds_len h hr;unfold impl_commonCount com;generalize ndsLe n e=xs at*;generalize ndsLe n r=ys at*;refine loop_upto xs.length (fun k=>(cmA xs ys k,(k:Int))) (fun k hk=> ?_) ?_
 ·have hc:=cmA_le xs ys k
  try dsimp only
  rw[dt (show(k:Int)<(xs.length:Int)by omega),cond_true,nsAt_get hk];simp only[Option.bind_some];rw[has_impl _ _ (by omega)];simp only[Option.bind_some];show _=some (Sum.inl ((if nsAt xs k∈ys then cmA xs ys k+1 else cmA xs ys k),((k+1:Nat):Int)));by_cases c:nsAt xs k∈ys
  ·rw[dt c,cond_true,if_pos c,wrap_ok (z:=cmA xs ys k+1) (by omega),wrap_ok (z:=(k:Int)+1) (by omega)];rfl
  ·rw[df c,cond_false,if_neg c,wrap_ok (z:=(k:Int)+1) (by omega)];rfl
 ·try dsimp only
  rw[df (by omega),cond_false];rfl
theorem com_spec {n:Net}(h:netP n=true){e r:Le}(he:leOk n e)(hr:leOk n r):spec_l28Common (n,(e,r))=some (com n e r):=by
 have h1:=insLe_len h he;have h2:=insLe_len h hr;have h3:=nds_len h he;have ho:=outLe_r (netP_all h).1 he;unfold spec_l28Common com
 try dsimp only
 rw[ins_spec h he,out_spec (netP_all h).1 he,ins_spec h hr,out_spec (netP_all h).1 hr];simp only[Option.bind_some];rw[gapp_ok (by simp only[List.length_cons,List.length_nil];omega)];simp only[Option.bind_some];rw[gapp_ok (by simp only[List.length_cons,List.length_nil];omega)];simp only[Option.bind_some];rw[set28_spec _ _ (by simp only[List.length_append,List.length_cons,List.length_nil];omega) (by simp)];simp only[Option.bind_some];have e1:setP (insLe n e++[outLe n e]) []=ndsLe n e:=by
  refine asc_ext (asc_insL asc_nil) (asc_ins (asc_insL asc_nil)) fun x=> ?_
  rw[setP_mem,List.mem_append,List.mem_singleton];unfold ndsLe;rw[mem_ins]
  constructor
  ·rintro⟨q | q,_⟩
   ·exact .inr q
   ·exact .inl q
  ·rintro(q | q)
   ·exact⟨.inr q,by omega,by simp⟩
   ·exact⟨.inl q,(setP_mem.1 q).2.1,by simp⟩
 have e2:∀x,(x∈insLe n r++[outLe n r])↔x∈ndsLe n r:=fun x=>by
  unfold ndsLe;rw[mem_ins,List.mem_append,List.mem_singleton];exact⟨fun q=>q.symm,fun q=>q.symm⟩
 rw[e1];have h4:(insLe n r++[outLe n r]).length<=5:=by simp;omega
 generalize insLe n r++[outLe n r]=zs at*;generalize ndsLe n e=xs at*;generalize ndsLe n r=ys at*;refine loop_upto xs.length (fun k=>(cmA xs ys k,(k:Int))) (fun k hk=> ?_) ?_
 ·have hc:=cmA_le xs ys k
  try dsimp only
  rw[dt (show(k:Int)<(xs.length:Int)by omega),cond_true,gin_nat hk,nsAt_get hk];simp only[Option.bind_some];rw[has_spec _ _ (by omega)];simp only[Option.bind_some];show _=some (Sum.inl ((if nsAt xs k∈ys then cmA xs ys k+1 else cmA xs ys k),((k+1:Nat):Int)));by_cases c:nsAt xs k∈ys
  ·rw[dt ((e2 _).2 c),if_pos c];show(some (1:Int)).bind _=_;simp only[Option.bind_some];rw[wrap_ok (z:=cmA xs ys k+1) (by omega),wrap_ok (z:=(k:Int)+1) (by omega)];rfl
  ·rw[df (fun q=>c ((e2 _).1 q)),if_neg c];show(some (0:Int)).bind _=_;simp only[Option.bind_some];rw[wrap_ok (z:=cmA xs ys k+0) (by omega),wrap_ok (z:=(k:Int)+1) (by omega),Int.add_zero];rfl
 ·try dsimp only
  rw[df (by omega),cond_false];rfl
end Go.Pf
