/-
  Own work: parts Src, Rok, Dsa, Ntb, Nte, Ntf, Ntg, Nth, LawNearestFree, Lep, Blk, plain lemmas.
-/
import Derived.Test.YthjfdjekombkkaaGreatQ0
/-
  Own work. The nodes that lead into a node: the program's and the reference's, plainly.
-/
namespace Go.Pf
open Go Go.Pu
set_option linter.unusedVariables false
def opp (dir:Int):Int:=(dir+2) % 4
def wn (d:Dev)(s dir trk:Int):Int:=if 0<=s/\0<=stp d s dir (1+trk % 2)then s*per d+7+dir*d.2.2.1+trk else -1
theorem Aob {d:Dev}{s dir trk:Int}(h:DOk d)(h1:s<d.1*d.2.1)(hdir:0<=dir/\dir<=3)(ht:0<=trk/\trk<d.2.2.1)(hs:0<=s):(0<=s*per d/\s*per d<=828)/\(0<=dir*d.2.2.1/\dir*d.2.2.1<=12/\dir*d.2.2.1+d.2.2.1<=4*d.2.2.1)/\s*per d+per d<=Aq d:=by
 have hm:=By h.1 h.2.1;have hp:=Dk h;have hT:=h.2.2.1;have h2:s*per d<=36*23:=Int.mul_le_mul (by omega) (by omega) (by omega) (by omega);have h3:0<=s*per d:=Int.mul_nonneg (by omega) (by omega);have h4:(s+1)*per d<=d.1*d.2.1*per d:=Int.mul_le_mul_of_nonneg_right (by omega) (by omega);rw[Int.add_mul,Int.one_mul]at h4;refine⟨⟨h3,by omega⟩,?_,h4⟩;have:dir=0\/dir=1\/dir=2\/dir=3:=by omega
 rcases this with rfl | rfl | rfl | rfl<;>omega
theorem Avv {d:Dev}{s dir trk:Int}(h:DOk d)(h1:s<d.1*d.2.1)(hdir:0<=dir/\dir<=3)(ht:0<=trk/\trk<d.2.2.1):Fa (d,(s,(dir,trk)))=some (wn d s dir trk):=by
 unfold Fa wn;have hm:=By h.1 h.2.1;have hT:=h.2.2.1;dsimp only;rw[Ql d s (by omega)];simp only[Aa];by_cases h0:0<=s
 ·have e:tk d s=tkp d s:=by unfold tk;rw[if_pos ⟨h,h0,h1⟩]
  have hk:=Ab1 d s;obtain⟨hw1,hw2,_⟩:=Aob h h1 hdir ht h0;rw[df (by omega),cond_false,df (by omega),cond_false,df (by omega),cond_false,Bx ht.1 (by omega)];simp only[Aa];rw[Aj (z:=1+trk % 2) (by omega),Wp h h0 h1 hdir (by omega)];simp only[Aa];by_cases q:stp d s dir (1+trk % 2)<0
  ·rw[dt q,cond_true,if_neg (by omega)]
  ·rw[df q,cond_false,if_pos ⟨h0,by omega⟩,Hb h];simp only[Aa];rw[Aj (z:=dir*d.2.2.1) (by omega),Aj (z:=s*per d) (by omega),Aj (z:=s*per d+7) (by omega),Aj (z:=s*per d+7+dir*d.2.2.1) (by omega),Aj (by omega)]
 ·have e:tk d s= -1:=by unfold tk;rw[if_neg (by omega)]
  rw[dt (by omega),cond_true,if_neg (by omega)]
theorem Aoc {d:Dev}{s dir trk:Int}(h:DOk d)(h1:s<d.1*d.2.1)(hdir:0<=dir/\dir<=3)(ht:0<=trk/\trk<d.2.2.1):Gk (d,(s,(dir,trk)))=some (wn d s dir trk):=by
 unfold Gk wn;have hm:=By h.1 h.2.1;have hT:=h.2.2.1;dsimp only;rw[Sh];simp only[Aa];by_cases h0:0<=s
 ·obtain⟨hw1,hw2,_⟩:=Aob h h1 hdir ht h0;rw[dt ⟨h,h0,h1⟩,Bool.not_true,cond_false,B4];simp only[Aa];rw[dt hdir,Bool.not_true,cond_false,Aj (z:=d.2.2.1 - 1) (by omega),B4];simp only[Aa];rw[dt (by omega),Bool.not_true,cond_false,F8 ht.1];simp only[Aa];rw[Sl h h0 h1 hdir (by omega)];simp only[Aa];by_cases q:stp d s dir (1+trk % 2)<0
  ·rw[dt q,cond_true,if_neg (by omega)]
  ·rw[df q,cond_false,if_pos ⟨h0,by omega⟩,Si h];simp only[Aa];rw[Aj (z:=dir*d.2.2.1) (by omega),Aj (z:=s*per d) (by omega),Aj (z:=s*per d+7) (by omega),Aj (z:=s*per d+7+dir*d.2.2.1) (by omega),Aj (by omega)]
 ·rw[df (fun e=>h0 e.2.1),Bool.not_false,cond_true,if_neg (by omega)]
theorem Aci {d:Dev}{t dir len:Int}(h:DOk d):stp d t dir len<d.1*d.2.1:=by
 have hm:=By h.1 h.2.1;by_cases q:0<=stp d t dir len
 ·exact(Og h q).2.2.1
 ·omega
theorem As3 {d:Dev}{s dir trk:Int}(h:DOk d)(h1:s<d.1*d.2.1)(hdir:0<=dir/\dir<=3)(ht:0<=trk/\trk<d.2.2.1)(h0:0<=wn d s dir trk):0<=s/\A5 d (wn d s dir trk)=s/\7<=Bn d (wn d s dir trk)/\Fb d (wn d s dir trk)=dir/\Dt d (wn d s dir trk)=trk/\wn d s dir trk<Aq d:=by
 have hT:=h.2.2.1;have hp:=Dk h;by_cases q:0<=s/\0<=stp d s dir (1+trk % 2)
 ·obtain⟨hw1,hw2,hw3⟩:=Aob h h1 hdir ht q.1;have e:wn d s dir trk=s*per d+(7+dir*d.2.2.1+trk):=by unfold wn;rw[if_pos q];omega
  have hper:per d=7+4*d.2.2.1:=rfl;have e1:A5 d (wn d s dir trk)=s:=by
   unfold A5;rw[e,Int.add_comm,Int.add_mul_ediv_right _ _ (by omega),Int.ediv_eq_zero_of_lt (by omega) (by omega)];omega
  have e2:Bn d (wn d s dir trk)=7+dir*d.2.2.1+trk:=by
   unfold Bn;rw[e,Int.add_comm,Int.add_mul_emod_self_right,Int.emod_eq_of_lt (by omega) (by omega)]
  have e3:Fb d (wn d s dir trk)=dir:=by
   unfold Fb;rw[e2]
   have:7+dir*d.2.2.1+trk - 7=trk+dir*d.2.2.1:=by omega
   rw[this,Int.add_mul_ediv_right _ _ (by omega),Int.ediv_eq_zero_of_lt (by omega) (by omega)];omega
  have e4:Dt d (wn d s dir trk)=trk:=by
   unfold Dt;rw[e2]
   have:7+dir*d.2.2.1+trk - 7=trk+dir*d.2.2.1:=by omega
   rw[this,Int.add_mul_emod_self_right,Int.emod_eq_of_lt (by omega) (by omega)]
  exact⟨q.1,e1,by omega,e3,e4,by omega⟩
 ·unfold wn at h0;rw[if_neg q]at h0;omega
theorem As4 {d:Dev}{t dir len:Int}(h:DOk d)(h0:0<=t)(h1:t<d.1*d.2.1)(hdir:0<=dir/\dir<=3)(hs:0<=stp d t (opp dir) len):stp d (stp d t (opp dir) len) dir len=t:=by
 obtain⟨e1,e2,e3,_⟩:=Og h hs;obtain⟨⟨x0,x1⟩,⟨y0,y1⟩,et⟩:=Z6 h h0 h1;have ex:Gq d (stp d t (opp dir) len) dir len=t % d.1:=by
  unfold Gq at*;rw[e1];unfold opp
  have:dir=0\/dir=1\/dir=2\/dir=3:=by omega
  rcases this with rfl | rfl | rfl | rfl<;>simp<;>omega
 have ey:Gg d (stp d t (opp dir) len) dir len=t/d.1:=by
  unfold Gg at*;rw[e2];unfold opp
  have:dir=0\/dir=1\/dir=2\/dir=3:=by omega
  rcases this with rfl | rfl | rfl | rfl<;>simp<;>omega
 generalize stp d t (opp dir) len=s at*;unfold stp;rw[ex,ey,if_pos ⟨⟨by omega,by omega⟩,⟨by omega,by omega⟩⟩];omega
theorem Avw {d:Dev}{t dir a b:Int}(h:DOk d)(hdir:0<=dir/\dir<=3)(ha:0<=stp d t dir a)(hb:0<=stp d t dir b)(e:stp d t dir a=stp d t dir b):a=b:=by
 obtain⟨e1,e2,_,_⟩:=Og h ha;obtain⟨g1,g2,_,_⟩:=Og h hb;rw[e]at e1 e2;rw[e1]at g1;rw[e2]at g2
 unfold Gq at g1;unfold Gg at g2
 have:dir=0\/dir=1\/dir=2\/dir=3:=by omega
 rcases this with rfl | rfl | rfl | rfl<;>simp at g1 g2<;>omega
def Y6 (d:Dev)(p wd wt dir trk:Int):Prop:=(7<=p/\(dir=opp wd\/(trk≠wt/\trk≠(wt+1) % d.2.2.1)))\/(p<7/\1<d.2.2.1/\(trk+p) % 2=1)
instance (d:Dev)(p wd wt dir trk:Int):Decidable (Y6 d p wd wt dir trk):=by unfold Y6;exact inferInstance
def Acj (v:Int):List Int:=if 0<=v then [v]else []
theorem Su {v x:Int}:x∈Acj v↔0<=v/\x=v:=by
 unfold Acj;split
 ·rename_i q;simp[q]
 ·rename_i q;simp;omega
theorem Ack (v:Int):(Acj v).length<=1:=by unfold Acj;split<;>simp
def M7 (d:Dev)(t p dir trk:Int)(j:Nat):List Int:=if 7<=p/\(j:Int)+1<1+trk % 2 then []else Acj (wn d (stp d t (opp dir) ((j:Int)+1)) dir trk)
def Gh (d:Dev)(t p wd wt:Int)(dir trk:Nat):List Int:=if Y6 d p wd wt dir trk then []else fm (1+(trk:Int) % 2).toNat (M7 d t p dir trk)
def Wy (d:Dev)(t p wd wt:Int)(dir:Nat):List Int:=fm d.2.2.1.toNat (Gh d t p wd wt dir)
def Amc (d:Dev)(t p wd wt:Int):List Int:=fm 4 (Wy d t p wd wt)
theorem Qp {d:Dev}{t p wd wt:Int}{dir trk:Nat}(h:Y6 d p wd wt dir trk):Gh d t p wd wt dir trk=[]:=by unfold Gh;rw[if_pos h]
theorem Acl (d:Dev)(t p dir trk:Int)(j:Nat):(M7 d t p dir trk j).length<=1:=by
 unfold M7;split;simp;exact Ack _
theorem Yc (d:Dev)(t p wd wt:Int)(dir trk:Nat):(Gh d t p wd wt dir trk).length<=2:=by
 unfold Gh;split
 ·simp
 ·have:=Jr (n:=(1+(trk:Int) % 2).toNat) (g:=M7 d t p dir trk) (b:=1) (fun k _=>Acl _ _ _ _ _ _);omega
theorem Acm {d:Dev}(h:DOk d)(t p wd wt:Int)(dir:Nat):(Wy d t p wd wt dir).length<=8:=by
 have hT:=h.2.2.1;have:=Jr (n:=d.2.2.1.toNat) (g:=Gh d t p wd wt dir) (b:=2) (fun k _=>Yc _ _ _ _ _ _ _);unfold Wy;omega
theorem As5 {d:Dev}{t p dir trk x:Int}{j:Nat}(h:x∈M7 d t p dir trk j):0<=x/\x=wn d (stp d t (opp dir) ((j:Int)+1)) dir trk:=by
 unfold M7 at h;split at h
 ·simp at h
 ·have:=Su.1 h;omega
theorem J7 {d:Dev}{t p wd wt x:Int}{dir trk:Nat}(h:x∈Gh d t p wd wt dir trk):∃j:Nat,x∈M7 d t p dir trk j:=by
 unfold Gh at h;split at h
 ·simp at h
 ·obtain⟨j,_,hj⟩:=Gr.1 h;exact⟨j,hj⟩
theorem Jt {d:Dev}{t p x:Int}{dir trk j:Nat}(h:DOk d)(hdir:dir<4)(ht:(trk:Int)<d.2.2.1)(hx:x∈M7 d t p dir trk j):0<=stp d t (opp dir) ((j:Int)+1)/\A5 d x=stp d t (opp dir) ((j:Int)+1)/\7<=Bn d x/\Fb d x=dir/\Dt d x=trk/\(0<=x/\x<Aq d):=by
 obtain⟨h0,e⟩:=As5 hx;have:=As3 (s:=stp d t (opp dir) ((j:Int)+1)) (dir:=(dir:Int)) (trk:=(trk:Int)) h (Aci h) (by omega) ⟨by omega,ht⟩ (by rw[<-e];exact h0);rw[<-e]at this;exact⟨this.1,this.2.1,this.2.2.1,this.2.2.2.1,this.2.2.2.2.1,h0,this.2.2.2.2.2⟩
theorem Aod {dir:Int}(h:0<=dir/\dir<=3):0<=opp dir/\opp dir<=3:=by unfold opp;omega
theorem Amd {d:Dev}(h:DOk d)(t p wd wt:Int):(Amc d t p wd wt).Nodup:=by
 have hT:=h.2.2.1;refine Aca (fun dir hdir=>Aca (fun trk ht=> ?_) ?_) ?_
 ·unfold Gh;split
  ·simp
  ·refine Aca (fun j _=> ?_) (fun i j hij _ x hx y hy e=> ?_)
   ·unfold M7 Acj;split;simp;split<;>simp
   ·have a:=Jt h hdir (by omega) hx;have b:=Jt h hdir (by omega) hy;rw[e]at a;have:=Avw (dir:=opp dir) h (Aod (by omega)) a.1 b.1 (by rw[<-a.2.1,<-b.2.1]);omega
 ·intro j k hjk hk x hx y hy e;obtain⟨i1,hx⟩:=J7 hx;obtain⟨i2,hy⟩:=J7 hy;have a:=Jt h hdir (by omega) hx;have b:=Jt h hdir (by omega) hy;rw[e]at a;have:=a.2.2.2.2.1;have:=b.2.2.2.2.1;omega
 ·intro j k hjk hk x hx y hy e;obtain⟨t1,q1,hx⟩:=Gr.1 hx;obtain⟨t2,q2,hy⟩:=Gr.1 hy;obtain⟨i1,hx⟩:=J7 hx;obtain⟨i2,hy⟩:=J7 hy;have a:=Jt h (by omega) (by omega) hx;have b:=Jt h hk (by omega) hy;rw[e]at a;have:=a.2.2.2.1;have:=b.2.2.2.1;omega
def Y7 (d:Dev)(t:Int):List Int:=if 1<Q5 (tk d t)then [t*per d+5,t*per d+6]else [t*per d+5]
def s0P (d:Dev)(n:Int):List Int:=if 7<=Bn d n then Y7 d (A5 d n)else []
def Zj (d:Dev)(n:Int):List Int:=s0P d n++Amc d (A5 d n) (Bn d n) (Fb d n) (Dt d n)
def Hd (d:Dev)(n:Int):List Int:=if Hc d n/\¬(Bn d n=5\/Bn d n=6)then E1 [] (Zj d n)else []
theorem Aoe (d:Dev)(n:Int):(s0P d n).length<=2:=by
 unfold s0P Y7;split
 ·split<;>simp
 ·simp
theorem As6 {d:Dev}(h:DOk d)(t p wd wt:Int):(Amc d t p wd wt).length<=32:=Jr (fun k _=>Acm h t p wd wt k)
theorem Ajr {d:Dev}(h:DOk d)(n:Int):(Zj d n).length<=34:=by
 have:=Aoe d n;have:=As6 h (A5 d n) (Bn d n) (Fb d n) (Dt d n);unfold Zj;rw[Ad];omega
theorem Afe (d:Dev)(n:Int):(Hd d n).length<=34:=by
 unfold Hd;split
 ·rename_i q;have:=Pa [] (Zj d n);have:=Ajr q.1.1 n;simp only[Ac]at*;omega
 ·simp
theorem Azn {d:Dev}{t:Int}(h:DOk d/\0<=t/\t<d.1*d.2.1):tk d t=0\/tk d t=1\/tk d t=2:=by
 unfold tk;rw[if_pos h];unfold tkp;split;omega;split<;>omega
theorem Ajs {d:Dev}{t:Int}(h:DOk d/\0<=t/\t<d.1*d.2.1):1<=Q5 (tk d t):=by
 rcases Azn h with e | e | e<;>rw[e]<;>decide
theorem Ame {d:Dev}{n:Int}(h:Hc d n):(Zj d n).Nodup:=by
 have hd:=h.1;obtain⟨⟨ht0,ht1⟩,_,_⟩:=Ii hd h.2.1 h.2.2.1;unfold Zj;rw[List.nodup_append];refine⟨?_,Amd hd _ _ _ _,?_⟩
 ·unfold s0P Y7;split
  ·split<;>simp<;>omega
  ·simp
 ·intro x hx y hy e;have hT:=hd.2.2.1;have hp:=Dk hd;obtain⟨dir,q0,hy⟩:=Gr.1 hy;obtain⟨t2,q2,hy⟩:=Gr.1 hy;obtain⟨i2,hy⟩:=J7 hy;have b:=(Jt hd q0 (by omega) hy).2.2.1;rw[<-e]at b;unfold s0P at hx;split at hx
  ·have:x=A5 d n*per d+5\/x=A5 d n*per d+6:=by
    unfold Y7 at hx;split at hx<;>simp at hx<;>omega
   unfold Bn at b;rcases this with e2 | e2
   ·rw[e2,Int.add_comm,Int.add_mul_emod_self_right,Int.emod_eq_of_lt (by omega) (by omega)]at b;omega
   ·rw[e2,Int.add_comm,Int.add_mul_emod_self_right,Int.emod_eq_of_lt (by omega) (by omega)]at b;omega
  ·simp at hx
theorem T2 {d:Dev}{t k:Int}(h:0<=k/\k<Q5 (tk d t)):Ca d t k=t*per d+5+k:=by unfold Ca;rw[if_pos h]
theorem Aqi (d:Dev)(n:Int):Lp (d,n)=some (Hd d n):=by
 unfold Lp Hd;simp only[Ae9,Aa];by_cases h:Hc d n
 rotate_left
 ·rw[df h,if_neg (fun e=>h e.1)];rfl
 have hd:=h.1;have hT:=hd.2.2.1;have hp:=Dk hd;have hn:=Bo hd;have h2:=h.2.2.1;have hm:=By hd.1 hd.2.1;obtain⟨⟨ht0,ht1⟩,⟨hp0,hp1⟩,_⟩:=Ii hd h.2.1 h.2.2.1;simp only[dt h,Bool.not_true,cond_false,Hb hd,Aa];rw[Ez h.2.1 (by omega) (by omega),Bx h.2.1 (by omega)];have e1:n/per d=A5 d n:=rfl;have e2:n % per d=Bn d n:=rfl;simp only[Aa,e1,e2];by_cases q5:Bn d n=5
 ·rw[dt q5,if_neg (fun e=>e.2 (Or.inl q5))];rfl
 rw[df q5,cond_false];by_cases q6:Bn d n=6
 ·rw[dt q6,if_neg (fun e=>e.2 (Or.inr q6))];rfl
 rw[df q6,cond_false,if_pos ⟨h,by omega⟩];have hjoin:∃a b,(7<=Bn d n->a=Fb d n/\b=Dt d n)/\(bif decide (7<=Bn d n)then(
  (F5 (d,n)).bind fun v10=>
  (Fy (d,(A5 d n,0))).bind fun v11=>
  let v12:List Int:=[v11]
  (A3 8 ([]:List Int) v12).bind fun v13=>
  (Ce (d,A5 d n)).bind fun v14=>
  (F4 v14).bind fun v15=>
  let v16:Bool:=decide (1<v15)
  bif v16 then(
   (Fy (d,(A5 d n,1))).bind fun v17=>
   let v18:List Int:=[v17]
   (A3 8 v13 v18).bind fun v19=>
   some (.inl (v10.1,(v10.2,v19))))else
  some (.inl (v10.1,(v10.2,v13))))else
  some ((.inl (0,(0,([]:List Int)))):(Int×(Int×List Int))⊕List Int))=some (.inl (a,(b,s0P d n))):=by
  by_cases h7:7<=Bn d n
  ·refine⟨Fb d n,Dt d n,fun _=>⟨rfl,rfl⟩,?_⟩;have ho:=Ajs (d:=d) (t:=A5 d n) ⟨hd,ht0,ht1⟩;rw[dt h7,cond_true,Qn hd h.2.1 h7];simp only[Aa];rw[Sr d (A5 d n) 0 (by omega),T2 (by omega)];simp only[Aa];rw[gapp_ok (by simp),Ql d (A5 d n) (by omega)];simp only[Aa];rw[Lx];simp only[Aa];unfold s0P Y7;rw[if_pos h7];by_cases q:1<Q5 (tk d (A5 d n))
   ·rw[dt q,cond_true,if_pos q,Sr d (A5 d n) 1 (by omega),T2 (by omega)];simp only[Aa];rw[gapp_ok (by simp)];simp only[Aa,List.nil_append,List.cons_append,Int.add_zero];have:A5 d n*per d+5+1=A5 d n*per d+6:=by omega
    rw[this]
   ·rw[df q,cond_false,if_neg q];simp only[List.nil_append,Int.add_zero]
  ·refine⟨0,0,fun e=>absurd e h7,?_⟩;rw[df h7,cond_false];unfold s0P;rw[if_neg h7]
 obtain⟨a,b,hab,hjoin⟩:=hjoin;dsimp only at hjoin;rw[hjoin];rw[J6];dsimp only;have hs0:=Aoe d n;have wdr:7<=Bn d n->(0<=a/\a<=3)/\(0<=b/\b<d.2.2.1):=by
  intro h7;obtain⟨hdir,hk,_⟩:=Nv hd h.2.1 h7 h.2.2.1;rw[(hab h7).1,(hab h7).2];exact⟨hdir,hk⟩
 have e00:((0:Int),s0P d n)=(fun k:Nat=>((k:Int),s0P d n++fm k (Wy d (A5 d n) (Bn d n) (Fb d n) (Dt d n)))) 0:=by
  dsimp only;rw[Kn,List.append_nil];rfl
 rw[e00];refine Ao 4 (fun k=>((k:Int),s0P d n++fm k (Wy d (A5 d n) (Bn d n) (Fb d n) (Dt d n)))) (fun dir hdir=> ?_) ?_
 ·dsimp only;rw[dt (by omega),cond_true];have l1:=Jr (n:=dir) (g:=Wy d (A5 d n) (Bn d n) (Fb d n) (Dt d n)) (b:=8) (fun k _=>Acm hd _ _ _ _ k);rw[Hs,<-List.append_assoc];have l0:(s0P d n++fm dir (Wy d (A5 d n) (Bn d n) (Fb d n) (Dt d n))).length<=34:=by rw[Ad];omega
  generalize s0P d n++fm dir (Wy d (A5 d n) (Bn d n) (Fb d n) (Dt d n))=A at*;unfold Wy;have e0:((0:Int),A)=(fun k:Nat=>((k:Int),A++fm k (Gh d (A5 d n) (Bn d n) (Fb d n) (Dt d n) dir))) 0:=by
   dsimp only;rw[Kn,List.append_nil];rfl
  rw[e0];refine Ao d.2.2.1.toNat (fun k=>((k:Int),A++fm k (Gh d (A5 d n) (Bn d n) (Fb d n) (Dt d n) dir))) (fun trk ht=> ?_) ?_
  ·dsimp only;rw[dt (by omega),cond_true];have l1:=Jr (n:=trk) (g:=Gh d (A5 d n) (Bn d n) (Fb d n) (Dt d n) dir) (b:=2) (fun k _=>Yc _ _ _ _ _ _ _);rw[Hs,<-List.append_assoc];have l0:(A++fm trk (Gh d (A5 d n) (Bn d n) (Fb d n) (Dt d n) dir)).length<=50:=by rw[Ad];omega
   generalize A++fm trk (Gh d (A5 d n) (Bn d n) (Fb d n) (Dt d n) dir)=B at*;have inner:¬Y6 d (Bn d n) (Fb d n) (Dt d n) dir trk->Pu.loop (fun(v15:(Int×List Int))=>
    (Dd (trk:Int) 2).bind fun v16=>
    let v17:Int:=wrap .i64 (1+v16)
    let v18:Bool:=decide (v15.1<=v17)
    bif v18 then(
     let v19:Bool:=decide (7<=Bn d n)
     bif v19 then(
      (Dd (trk:Int) 2).bind fun v20=>
      let v21:Int:=wrap .i64 (1+v20)
      let v22:Bool:=decide (v15.1<v21)
      bif v22 then(
       let v23:Int:=wrap .i64 (v15.1+1)
       some (.inl (v23,v15.2)))else
      let v23:Int:=wrap .i64 ((dir:Int)+2)
      (Dd v23 4).bind fun v24=>
      (Cz (d,(A5 d n,(v24,v15.1)))).bind fun v25=>
      (Fa (d,(v25,((dir:Int),(trk:Int))))).bind fun v26=>
      let v27:Bool:=decide (0<=v26)
      bif v27 then(
       let v28:List Int:=[v26]
       (A3 8 v15.2 v28).bind fun v29=>
       let v30:Int:=wrap .i64 (v15.1+1)
       some (.inl (v30,v29)))else
      let v28:Int:=wrap .i64 (v15.1+1)
      some (.inl (v28,v15.2)))else
     let v20:Int:=wrap .i64 ((dir:Int)+2)
     (Dd v20 4).bind fun v21=>
     (Cz (d,(A5 d n,(v21,v15.1)))).bind fun v22=>
     (Fa (d,(v22,((dir:Int),(trk:Int))))).bind fun v23=>
     let v24:Bool:=decide (0<=v23)
     bif v24 then(
      let v25:List Int:=[v23]
      (A3 8 v15.2 v25).bind fun v26=>
      let v27:Int:=wrap .i64 (v15.1+1)
      some (.inl (v27,v26)))else
     let v25:Int:=wrap .i64 (v15.1+1)
     some (.inl (v25,v15.2)))else
    Option.map Sum.inr (
     let v19:Int:=wrap .i64 ((trk:Int)+1)
     some ((.inl (v19,v15.2)):(Int×List Int)⊕((Int×List Int)⊕List Int)))) (1,B)=some (.inl (((trk+1:Nat):Int),B++Gh d (A5 d n) (Bn d n) (Fb d n) (Dt d n) dir trk)):=by
    intro hs;unfold Gh;rw[if_neg hs];have e0:((1:Int),B)=(fun k:Nat=>((k:Int)+1,B++fm k (M7 d (A5 d n) (Bn d n) dir trk))) 0:=by
     dsimp only;rw[Kn,List.append_nil];rfl
    rw[e0];refine Ao (1+(trk:Int) % 2).toNat (fun k=>((k:Int)+1,B++fm k (M7 d (A5 d n) (Bn d n) dir trk))) (fun j hj=> ?_) ?_
    ·dsimp only;rw[Bx (by omega) (by omega)];simp only[Aa];rw[Aj (z:=1+(trk:Int) % 2) (by omega),dt (by omega),cond_true,Aj (z:=(dir:Int)+2) (by omega),Bx (by omega) (by omega),Aj (z:=(j:Int)+1+1) (by omega)];simp only[Aa];have eo:((dir:Int)+2) % 4=opp dir:=rfl;rw[eo,Wp hd ht0 ht1 (Aod (by omega)) (by omega)];simp only[Aa];rw[Avv hd (Aci hd) (by omega) (by omega)];simp only[Aa];have l1:=Jr (n:=j) (g:=M7 d (A5 d n) (Bn d n) dir trk) (b:=1) (fun k _=>Acl _ _ _ _ _ _);rw[Hs,<-List.append_assoc];have l0:(B++fm j (M7 d (A5 d n) (Bn d n) dir trk)).length<=60:=by rw[Ad];omega
     generalize B++fm j (M7 d (A5 d n) (Bn d n) dir trk)=C at*;unfold M7 Acj;by_cases h7:7<=Bn d n
     ·rw[dt h7,cond_true];by_cases hl:(j:Int)+1<1+(trk:Int) % 2
      ·rw[dt hl,cond_true,if_pos ⟨h7,hl⟩,List.append_nil];rfl
      ·rw[df hl,cond_false,if_neg (fun e=>hl e.2)];by_cases hv:0<=wn d (stp d (A5 d n) (opp dir) ((j:Int)+1)) dir trk
       ·rw[dt hv,cond_true,if_pos hv,gapp_ok (by simp;omega)];rfl
       ·rw[df hv,cond_false,if_neg hv,List.append_nil];rfl
     ·rw[df h7,cond_false,if_neg (fun e=>h7 e.1)];by_cases hv:0<=wn d (stp d (A5 d n) (opp dir) ((j:Int)+1)) dir trk
      ·rw[dt hv,cond_true,if_pos hv,gapp_ok (by simp;omega)];rfl
      ·rw[df hv,cond_false,if_neg hv,List.append_nil];rfl
    ·dsimp only;rw[Bx (by omega) (by omega)];simp only[Aa];rw[Aj (z:=1+(trk:Int) % 2) (by omega),df (by omega),cond_false,Aj (z:=(trk:Int)+1) (by omega)];rfl
   dsimp only at inner;by_cases h7:7<=Bn d n
   ·obtain⟨ea,eb⟩:=hab h7;obtain⟨hra,hrb⟩:=wdr h7;rw[dt h7]at inner;rw[dt h7,cond_true,Aj (z:=a+2) (by omega),Bx (by omega) (by omega)];simp only[Aa];have eo:(a+2) % 4=opp (Fb d n):=by rw[<-ea];rfl
    rw[eo];by_cases g1:(dir:Int)=opp (Fb d n)
    ·rw[dt g1,cond_true,Aj (z:=(trk:Int)+1) (by omega)];rw[Qp (Or.inl ⟨h7,Or.inl g1⟩),List.append_nil];rfl
    rw[df g1,cond_false];by_cases g2:(trk:Int)≠b
    ·rw[dt g2,cond_true,Aj (z:=b+1) (by omega),Bx (by omega) (by omega)];simp only[Aa];by_cases g3:(trk:Int)≠(b+1) % d.2.2.1
     ·rw[dt g3,cond_true,Aj (z:=(trk:Int)+1) (by omega)];rw[Qp (Or.inl ⟨h7,Or.inr ⟨by rw[<-eb];exact g2,by rw[<-eb];exact g3⟩⟩),List.append_nil];rfl
     ·rw[df g3,cond_false,df (show ¬Bn d n<7 by omega),cond_false];refine inner ?_
      unfold Y6;rw[<-eb]
      rintro(⟨_,e | e⟩ | ⟨e,_⟩)
      ·exact g1 e
      ·exact g3 e.2
      ·omega
    ·rw[df g2,cond_false,df (show ¬Bn d n<7 by omega),cond_false];refine inner ?_
     unfold Y6;rw[<-eb]
     rintro(⟨_,e | e⟩ | ⟨e,_⟩)
     ·exact g1 e
     ·exact g2 e.1
     ·omega
   ·rw[df h7]at inner;rw[df h7,cond_false,dt (show Bn d n<7 by omega),cond_true];by_cases g1:1<d.2.2.1
    ·rw[dt g1,cond_true,Aj (z:=(trk:Int)+Bn d n) (by omega),Bx (by omega) (by omega)];simp only[Aa];by_cases g2:((trk:Int)+Bn d n) % 2=1
     ·rw[dt g2,cond_true,Aj (z:=(trk:Int)+1) (by omega)];rw[Qp (Or.inr ⟨by omega,g1,g2⟩),List.append_nil];rfl
     ·rw[df g2,cond_false];refine inner ?_
      rintro(⟨e,_⟩ | ⟨_,_,e⟩)
      ·omega
      ·exact g2 e
    ·rw[df g1,cond_false];refine inner ?_
     rintro(⟨e,_⟩ | ⟨_,e,_⟩)
     ·omega
     ·exact g1 e
  ·dsimp only;rw[df (by omega),cond_false,Aj (z:=(dir:Int)+1) (by omega)];rfl
 ·dsimp only;rw[df (by omega),cond_false];have hl:=Ajr hd n;have hnd:=Ame h;unfold Zj Amc at*;rw[Ama (by omega) hnd];rfl
theorem Aof (l:List Int)(v:Int):(if 0<=v then ins l v else l)=E1 l (Acj v):=by
 unfold Acj;split
 ·rfl
 ·rfl
theorem Ag3 {d:Dev}(h:DOk d){t p:Int}(ht0:0<=t)(ht1:t<d.1*d.2.1)(hp:0<=p/\p<5)(wd wt:Int):If (d,(t,p))=some (E1 [] (Amc d t p wd wt)):=by
 unfold If;have hT:=h.2.2.1;have hlen:∀(xs:List Int),xs.length<=100->(E1 [] xs).length<=100:=by
  intro xs hx;have:=Pa [] xs;simp at this;omega
 refine Ao 4 (fun k=>(E1 [] (fm k (Wy d t p wd wt)),(k:Int))) (fun dir hdir=> ?_) ?_
 ·dsimp only;rw[dt (by omega),cond_true];have l1:=Jr (n:=dir) (g:=Wy d t p wd wt) (b:=8) (fun k _=>Acm h _ _ _ _ k);rw[Hs];generalize fm dir (Wy d t p wd wt)=A at*;unfold Wy;have e0:((0:Int),E1 [] A)=(fun k:Nat=>((k:Int),E1 [] (A++fm k (Gh d t p wd wt dir)))) 0:=by
   dsimp only;rw[Kn,List.append_nil];rfl
  rw[e0];refine Ao d.2.2.1.toNat (fun k=>((k:Int),E1 [] (A++fm k (Gh d t p wd wt dir)))) (fun trk ht=> ?_) ?_
  ·dsimp only;rw[dt (by omega),cond_true];have l1:=Jr (n:=trk) (g:=Gh d t p wd wt dir) (b:=2) (fun k _=>Yc _ _ _ _ _ _ _);rw[Hs,<-List.append_assoc];have l0:(A++fm trk (Gh d t p wd wt dir)).length<=50:=by rw[Ad];omega
   generalize A++fm trk (Gh d t p wd wt dir)=B at*;have inner:¬Y6 d p wd wt dir trk->Pu.loop (fun(v6:(Int×List Int))=>
    (Cs (trk:Int)).bind fun v7=>
    let v8:Bool:=decide (v6.1<=v7)
    bif v8 then(
     let v9:Int:=wrap .i64 ((dir:Int)+2)
     (Dd v9 4).bind fun v10=>
     (Dh (d,(t,(v10,v6.1)))).bind fun v11=>
     let v12:Bool:=decide (v11<0)
     bif v12 then(
      let v13:Int:=wrap .i64 (v6.1+1)
      some (.inl (v13,v6.2)))else
     (Gk (d,(v11,((dir:Int),(trk:Int))))).bind fun v13=>
     let v14:Bool:=decide (0<=v13)
     bif v14 then(
      (Cd (v6.2,v13)).bind fun v15=>
      let v16:Int:=wrap .i64 (v6.1+1)
      some (.inl (v16,v15)))else
     let v15:Int:=wrap .i64 (v6.1+1)
     some (.inl (v15,v6.2)))else
    Option.map Sum.inr (
     let v9:Int:=wrap .i64 ((trk:Int)+1)
     some ((.inl (v9,v6.2)):(Int×List Int)⊕((List Int×Int)⊕List Int)))) (1,E1 [] B)=some (.inl (((trk+1:Nat):Int),E1 [] (B++Gh d t p wd wt dir trk))):=by
    intro hs;unfold Gh;rw[if_neg hs];have e0:((1:Int),E1 [] B)=(fun k:Nat=>((k:Int)+1,E1 [] (B++fm k (M7 d t p dir trk)))) 0:=by
     dsimp only;rw[Kn,List.append_nil];rfl
    rw[e0];refine Ao (1+(trk:Int) % 2).toNat (fun k=>((k:Int)+1,E1 [] (B++fm k (M7 d t p dir trk)))) (fun j hj=> ?_) ?_
    ·dsimp only;rw[F8 (by omega)];simp only[Aa];rw[dt (by omega),cond_true,Aj (z:=(dir:Int)+2) (by omega),Bx (by omega) (by omega),Aj (z:=(j:Int)+1+1) (by omega)];simp only[Aa];have eo:((dir:Int)+2) % 4=opp dir:=rfl;rw[eo,Sl h ht0 ht1 (Aod (by omega)) (by omega)];simp only[Aa];have l1:=Jr (n:=j) (g:=M7 d t p dir trk) (b:=1) (fun k _=>Acl _ _ _ _ _ _);rw[Hs,<-List.append_assoc];have l0:(B++fm j (M7 d t p dir trk)).length<=60:=by rw[Ad];omega
     have l2:=hlen _ (Nat.le_trans l0 (by decide));generalize B++fm j (M7 d t p dir trk)=C at*;rw[Sn];unfold M7;rw[if_neg (fun e=>by omega)];by_cases q:stp d t (opp dir) ((j:Int)+1)<0
     ·rw[dt q,cond_true];have:wn d (stp d t (opp dir) ((j:Int)+1)) dir trk= -1:=by unfold wn;rw[if_neg (by omega)]
      rw[this];rfl
     rw[df q,cond_false,Aoc h (Aci h) (by omega) (by omega)];simp only[Aa];rw[<-Aof];by_cases hv:0<=wn d (stp d t (opp dir) ((j:Int)+1)) dir trk
     ·rw[dt hv,cond_true,if_pos hv,I4 _ _ (by omega)];rfl
     ·rw[df hv,cond_false,if_neg hv];rfl
    ·dsimp only;rw[F8 (by omega)];simp only[Aa];rw[df (by omega),cond_false,Aj (z:=(trk:Int)+1) (by omega)];rfl
   dsimp only at inner;by_cases g1:1<d.2.2.1
   ·rw[dt g1,cond_true,Aj (z:=(trk:Int)+p) (by omega),Bx (by omega) (by omega)];simp only[Aa];by_cases g2:((trk:Int)+p) % 2≠0
    ·rw[dt g2,cond_true,Aj (z:=(trk:Int)+1) (by omega)];rw[Qp (Or.inr ⟨by omega,g1,by omega⟩),List.append_nil];rfl
    ·rw[df g2,cond_false];refine inner ?_
     rintro(⟨e,_⟩ | ⟨_,_,e⟩)
     ·omega
     ·omega
   ·rw[df g1,cond_false];refine inner ?_
    rintro(⟨e,_⟩ | ⟨_,e,_⟩)
    ·omega
    ·exact g1 e
  ·dsimp only;rw[df (by omega),cond_false,Aj (z:=(dir:Int)+1) (by omega)];rfl
 ·dsimp only;rw[df (by omega),cond_false];rfl
def Zk (d:Dev)(t:Int)(k:Nat):List Int:=Acj (Ca d t k)
def U6 (d:Dev)(wt:Int)(i:Nat):Int:=if i=0 then wt else(wt+1) % d.2.2.1
def Acn (d:Dev)(t wt:Int)(dir i:Nat):List Int:=if 0<=stp d t (opp dir) (1+U6 d wt i % 2)then [wn d (stp d t (opp dir) (1+U6 d wt i % 2)) dir (U6 d wt i)]else []
def Pc (d:Dev)(t wd wt:Int)(dir:Nat):List Int:=if(dir:Int)=opp wd then []else fm 2 (Acn d t wt dir)
def Avx (d:Dev)(t wd wt:Int):List Int:=fm 2 (Zk d t)++fm 4 (Pc d t wd wt)
theorem Ajt (d:Dev)(t wt:Int)(dir i:Nat):(Acn d t wt dir i).length<=1:=by unfold Acn;split<;>simp
theorem Aqj (d:Dev)(t wd wt:Int)(dir:Nat):(Pc d t wd wt dir).length<=2:=by
 unfold Pc;split
 ·simp
 ·exact Jr (fun k _=>Ajt _ _ _ _ _)
theorem As7 {d:Dev}(h:DOk d){wt:Int}(hwt:0<=wt/\wt<d.2.2.1)(i:Nat):0<=U6 d wt i/\U6 d wt i<d.2.2.1:=by
 have hT:=h.2.2.1;unfold U6;split
 ·exact hwt
 ·exact⟨Int.emod_nonneg _ (by omega),Int.emod_lt_of_pos _ (by omega)⟩
theorem Avy {d:Dev}{n x:Int}(h:DOk d/\0<=A5 d n/\A5 d n<d.1*d.2.1)(h7:7<=Bn d n):x∈fm 2 (Zk d (A5 d n))↔x∈s0P d n:=by
 have ho:=Ajs h;have ho2:=Wv (tk d (A5 d n));have hp:=Dk h.1;have hm:0<=A5 d n*per d:=Int.mul_nonneg (by omega) (by omega);have e0:Ca d (A5 d n) ((0:Nat):Int)=A5 d n*per d+5:=by
  rw[T2 ⟨by omega,by omega⟩];simp
 have ef:fm 2 (Zk d (A5 d n))=Zk d (A5 d n) 0++Zk d (A5 d n) 1:=by rw[Hs,Hs,Kn];rfl
 rw[ef];unfold Zk;rw[e0,List.mem_append,Su,Su];unfold s0P Y7;rw[if_pos h7];by_cases q:1<Q5 (tk d (A5 d n))
 ·rw[if_pos q,T2 (by omega)];simp;omega
 ·rw[if_neg q];have:Ca d (A5 d n) ((1:Nat):Int)= -1:=by unfold Ca;rw[if_neg (by omega)]
  rw[this];simp;omega
theorem Aju {d:Dev}{t p wd wt x:Int}{dir:Nat}(h:DOk d)(ht0:0<=t)(ht1:t<d.1*d.2.1)(h7:7<=p)(hdir:dir<4)(hwt:0<=wt/\wt<d.2.2.1):x∈Pc d t wd wt dir↔x∈Wy d t p wd wt dir:=by
 have hT:=h.2.2.1
 constructor
 ·intro hx;unfold Pc at hx;split at hx
  ·simp at hx
  rename_i hne;obtain⟨i,hi,hx⟩:=Gr.1 hx;unfold Acn at hx;split at hx
  rotate_left
  ·simp at hx
  rename_i hs;have hx:=List.mem_singleton.1 hx;obtain⟨hb0,hb1⟩:=As7 h hwt i;have hb:U6 d wt i=wt\/U6 d wt i=(wt+1) % d.2.2.1:=by unfold U6;split;exact Or.inl rfl;exact Or.inr rfl
  generalize U6 d wt i=b at*;obtain⟨n,rfl⟩:∃n:Nat,b=(n:Int):=⟨b.toNat,by omega⟩;have hback:=As4 (dir:=(dir:Int)) h ht0 ht1 (by omega) hs;have hv:0<=wn d (stp d t (opp dir) (1+(n:Int) % 2)) dir n:=by
   unfold wn;rw[if_pos ⟨hs,by rw[hback];exact ht0⟩];have hp:=Dk h;have m1:=Int.mul_nonneg hs (show 0<=per d by omega);have m2:=Int.mul_nonneg (show 0<=(dir:Int)by omega) (show 0<=d.2.2.1 by omega);omega
  refine Gr.2 ⟨n,by omega,?_⟩;unfold Gh;rw[if_neg (by
   rintro(⟨_,e | e⟩ | ⟨e,_⟩)
   ·exact hne e
   ·rcases hb with e1 | e1
    ·exact e.1 e1
    ·exact e.2 e1
   ·omega)]
  refine Gr.2 ⟨((n:Int) % 2).toNat,by omega,?_⟩;unfold M7;have ej:(((n:Int) % 2).toNat:Int)+1=1+(n:Int) % 2:=by omega
  rw[if_neg (by omega),ej,Su];exact⟨hv,hx⟩
 ·intro hx;obtain⟨n,hn,hx⟩:=Gr.1 hx;unfold Gh at hx;split at hx
  ·simp at hx
  rename_i hs;obtain⟨j,hj,hx⟩:=Gr.1 hx;unfold M7 at hx;split at hx
  ·simp at hx
  rename_i hl;have ej:(j:Int)+1=1+(n:Int) % 2:=by omega
  rw[ej]at hx;obtain⟨hv,hx⟩:=Su.1 hx;have hs0:=(As3 (s:=stp d t (opp dir) (1+(n:Int) % 2)) (dir:=(dir:Int)) (trk:=(n:Int)) h (Aci h) (by omega) (by omega) hv).1;unfold Pc;have hne:¬(dir:Int)=opp wd:=fun e=>hs (Or.inl ⟨h7,Or.inl e⟩)
  rw[if_neg hne];have hb:∃i,i<2/\U6 d wt i=(n:Int):=by
   by_cases q:(n:Int)=wt
   ·exact⟨0,by omega,by unfold U6;rw[if_pos rfl];exact q.symm⟩
   ·refine⟨1,by omega,?_⟩;unfold U6;rw[if_neg (by omega)]
    by_cases q2:(n:Int)=(wt+1) % d.2.2.1
    ·exact q2.symm
    ·exact absurd (Or.inl ⟨h7,Or.inr ⟨q,q2⟩⟩) hs
  obtain⟨i,hi,hb⟩:=hb;refine Gr.2 ⟨i,hi,?_⟩;unfold Acn;rw[hb,if_pos hs0];exact List.mem_singleton.2 hx
theorem Avz {d:Dev}{n x:Int}(h:Hc d n)(h7:7<=Bn d n):x∈Avx d (A5 d n) (Fb d n) (Dt d n)↔x∈Zj d n:=by
 have hd:=h.1;obtain⟨⟨ht0,ht1⟩,_,_⟩:=Ii hd h.2.1 h.2.2.1;obtain⟨hdir,hk,_⟩:=Nv hd h.2.1 h7 h.2.2.1;unfold Avx Zj;rw[List.mem_append,List.mem_append,Avy ⟨hd,ht0,ht1⟩ h7];have:x∈fm 4 (Pc d (A5 d n) (Fb d n) (Dt d n))↔x∈Amc d (A5 d n) (Bn d n) (Fb d n) (Dt d n):=by
  unfold Amc;rw[Gr,Gr]
  constructor
  ·rintro⟨k,hk1,hk2⟩
   exact⟨k,hk1,(Aju hd ht0 ht1 h7 hk1 hk).1 hk2⟩
  ·rintro⟨k,hk1,hk2⟩
   exact⟨k,hk1,(Aju hd ht0 ht1 h7 hk1 hk).2 hk2⟩
 rw[this]
theorem Ad8 {d:Dev}(h:DOk d){t wd wt:Int}(ht0:0<=t)(ht1:t<d.1*d.2.1)(hwd:0<=wd/\wd<=3)(hwt:0<=wt/\wt<d.2.2.1):Hk (d,(t,(wd,wt)))=some (E1 [] (Avx d t wd wt)):=by
 unfold Hk Avx;have hT:=h.2.2.1;have hm:=By h.1 h.2.1;have hlen:∀(xs:List Int),xs.length<=100->(E1 [] xs).length<=100:=by
  intro xs hx;have:=Pa [] xs;simp at this;omega
 refine Ao 2 (fun k=>(E1 [] (fm k (Zk d t)),(k:Int))) (fun k hk=> ?_) ?_
 ·dsimp only;rw[dt (by omega),cond_true,Y5 d t k (by omega)];simp only[Aa];have l1:=Jr (n:=k) (g:=Zk d t) (b:=1) (fun k _=>Ack _);have l2:=hlen (fm k (Zk d t)) (by omega);rw[Hs,Sn,show Zk d t k=Acj (Ca d t k)from rfl,<-Aof,Aj (z:=(k:Int)+1) (by omega)];by_cases q:0<=Ca d t k
  ·rw[dt q,cond_true,if_pos q,I4 _ _ (by omega)];rfl
  ·rw[df q,cond_false,if_neg q];rfl
 ·dsimp only;rw[df (by omega),cond_false];have l1:=Jr (n:=2) (g:=Zk d t) (b:=1) (fun k _=>Ack _);generalize fm 2 (Zk d t)=A at*;have e0:((0:Int),E1 [] A)=(fun k:Nat=>((k:Int),E1 [] (A++fm k (Pc d t wd wt)))) 0:=by
   dsimp only;rw[Kn,List.append_nil];rfl
  rw[e0];refine(Option.map_eq_some_iff).2 ⟨_,?_,rfl⟩;refine Ao 4 (fun k=>((k:Int),E1 [] (A++fm k (Pc d t wd wt)))) (fun dir hdir=> ?_) ?_
  ·dsimp only;rw[dt (by omega),cond_true,Aj (z:=wd+2) (by omega),Bx (by omega) (by omega)];simp only[Aa];have eo:(wd+2) % 4=opp wd:=rfl;rw[eo,Hs,<-List.append_assoc];have l2:=Jr (n:=dir) (g:=Pc d t wd wt) (b:=2) (fun k _=>Aqj _ _ _ _ _);have l0:(A++fm dir (Pc d t wd wt)).length<=50:=by rw[Ad];omega
   generalize A++fm dir (Pc d t wd wt)=B at*;unfold Pc;by_cases q:(dir:Int)=opp wd
   ·rw[dt q,cond_true,if_pos q,List.append_nil,Aj (z:=(dir:Int)+1) (by omega)];rfl
   rw[df q,cond_false,if_neg q,Aj (z:=wt+1) (by omega),Bx (by omega) (by omega)];simp only[Aa];have e0:((0:Int),E1 [] B)=(fun k:Nat=>((k:Int),E1 [] (B++fm k (Acn d t wt dir)))) 0:=by
    dsimp only;rw[Kn,List.append_nil];rfl
   rw[e0];refine Ao 2 (fun k=>((k:Int),E1 [] (B++fm k (Acn d t wt dir)))) (fun i hi=> ?_) ?_
   ·obtain⟨hb0,hb1⟩:=As7 h hwt i;have eg:Ak 0 [wt,(wt+1) % d.2.2.1] (i:Int)=some (U6 d wt i):=by
     have:i=0\/i=1:=by omega
     rcases this with rfl | rfl<;>rfl
    have l3:=Jr (n:=i) (g:=Acn d t wt dir) (b:=1) (fun k _=>Ajt _ _ _ _ _);have l4:(B++fm i (Acn d t wt dir)).length<=60:=by rw[Ad];omega
    have l5:=hlen _ (Nat.le_trans l4 (by decide));dsimp only[Ab,Ac];rw[dt (by omega),cond_true,As (by omega),eg];simp only[Aa];rw[Aj (z:=(dir:Int)+2) (by omega),Bx (by omega) (by omega),F8 hb0];simp only[Aa];have eo:((dir:Int)+2) % 4=opp dir:=rfl;rw[eo,Sl h ht0 ht1 (Aod (by omega)) (by omega)];simp only[Aa];rw[Hs,<-List.append_assoc];generalize B++fm i (Acn d t wt dir)=C at*;rw[Sn];unfold Acn;rw[Aj (z:=(i:Int)+1) (by omega)];by_cases q2:0<=stp d t (opp dir) (1+U6 d wt i % 2)
    ·rw[dt q2,cond_true,if_pos q2,Aoc h (Aci h) (by omega) ⟨hb0,hb1⟩];simp only[Aa];rw[I4 _ _ (by omega)];rfl
    ·rw[df q2,cond_false,if_neg q2];rfl
   ·dsimp only[Ab,Ac];rw[df (by omega),cond_false,Aj (z:=(dir:Int)+1) (by omega)];rfl
  ·dsimp only;rw[df (by omega),cond_false];rfl
theorem Aqk (d:Dev)(n:Int):Lq (d,n)=some (Hd d n):=by
 unfold Lq Hd;simp only[Afa,Aa];by_cases h:Hc d n
 rotate_left
 ·rw[df h,if_neg (fun e=>h e.1)];rfl
 have hd:=h.1;have hT:=hd.2.2.1;have hp:=Dk hd;have hn:=Bo hd;have h2:=h.2.2.1;obtain⟨⟨ht0,ht1⟩,⟨hp0,hp1⟩,_⟩:=Ii hd h.2.1 h.2.2.1;simp only[dt h,Bool.not_true,cond_false,K9 hd h.2.1 (by omega),Aa];by_cases q5:Bn d n<5
 ·rw[dt q5,cond_true,if_pos ⟨h,by omega⟩,Ag3 hd ht0 ht1 ⟨hp0,q5⟩ (Fb d n) (Dt d n)];simp only[Aa];unfold Zj s0P;rw[if_neg (by omega),List.nil_append]
 rw[df q5,cond_false];by_cases q7:Bn d n<7
 ·rw[dt q7,if_neg (fun e=>e.2 (by omega))];rfl
 rw[df q7,cond_false,if_pos ⟨h,by omega⟩,Nw hd h.2.1 (by omega) (by omega)];simp only[Aa];obtain⟨hdir,hk,_⟩:=Nv hd h.2.1 (by omega) h.2.2.1;rw[Ad8 hd ht0 ht1 hdir hk];simp only[Aa]
 congr 1
 exact Z7 (M4 Js) (M4 Js) (fun x=>by rw[O9,O9,Avz h (by omega)])
end Go.Pf
/-
  Own work. Costs, paths' costs, routes, plainly.
-/
namespace Go.Pf
open Go Go.Pu
set_option linter.unusedVariables false
def As8 (d:Dev)(cs:List Int):Prop:=DOk d/\(cs.length:Int)=Aq d/\∀c∈cs,1<=c/\c<=100000
instance (d:Dev)(cs:List Int):Decidable (As8 d cs):=by unfold As8;exact inferInstance
theorem Ag4 {d:Dev}{n x:Int}(h:x∈Hd d n):Hc d n:=by
 unfold Hd at h;split at h
 ·rename_i q;exact q.1
 ·simp at h
def pAt (xs:List Int)(i:Int):Int:=xs.getD i.toNat 0
def As9 (d:Dev)(src:Int)(snks ns ps:List Int)(k:Nat):Prop:=
 Hc d (Am ns k)/\Am ns k∉ns.take k/\(if k=0 then Am ns 0=src/\Am ps 0=0/\(Bn d (Am ns 0)=5\/Bn d (Am ns 0)=6)
  else(0<=Am ps k/\Am ps k<(k:Int))/\pAt ns (Am ps k)∈Hd d (Am ns k)/\(Bn d (Am ns k)<5->Am ns k∈snks))
instance (d:Dev)(src:Int)(snks ns ps:List Int)(k:Nat):Decidable (As9 d src snks ns ps k):=by unfold As9;exact inferInstance
def rnN (d:Dev):Int:=if DOk d then Aq d else 0
theorem Ayk (d:Dev):0<=rnN d/\rnN d<=828:=by
 unfold rnN;split
 ·rename_i h;have:=Bo h;omega
 ·omega
def Axg (snks ns:List Int):Bool:=snks.all fun s=>decide (s∈ns)
def roP (d:Dev)(src:Int)(snks ns ps:List Int):Bool:=
 if(1<=(ns.length:Int)/\(ns.length:Int)<=rnN d)/\ps.length=ns.length then(if(List.range ns.length).all (fun k=>decide (As9 d src snks ns ps k))=true then Axg snks ns else false)else false
theorem A0 {ns:List Int}{k:Nat}(h:k<ns.length):Ak 0 ns (k:Int)=some (Am ns k):=by rw[Ar h,Dm h]
end Go.Pf
/-
  Own work. Cheapest distances in a graph, plainly: what they are, and that they are unique; loops with results that are only described; the program's queue.
-/
namespace Go.Pf
open Go Go.Pu
set_option linter.unusedVariables false
theorem Aco {σ ω:Type}{f:σ->Option (σ⊕ω)}(n:Nat)(S:Nat->σ)(Q:ω->Prop)(h1:∀k,k<n->f (S k)=some (.inl (S (k+1))))(h2:∃o,f (S n)=some (.inr o)/\Q o):∃o,loop f (S 0)=some o/\Q o:=by
 obtain⟨o,h2,h3⟩:=h2;exact⟨o,Ao n S h1 h2,h3⟩
theorem Ata {α β:Type}{X:Option β}{Q:β->Prop}(h:∃o,X=some o/\Q o):∃o,Option.map (Sum.inr:β->α⊕β) X=some (.inr o)/\Q o:=by
 obtain⟨o,h1,h2⟩:=h;exact⟨o,by rw[h1];rfl,h2⟩
theorem Acp {α β:Type}{X:Option (α⊕β)}{A:α->Prop}(h:∃o,X=some o/\∃s,o= .inl s/\A s):∃s,X=some (.inl s)/\A s:=by
 obtain⟨o,h1,s,h2,h3⟩:=h;exact⟨s,by rw[h1,h2],h3⟩
theorem Atb {α β:Type}{X:Option (α⊕β)}{k:α->Option β}{Q:β->Prop}(A:α->Prop)(h:∃o,X=some o/\∃a,o= .inl a/\A a)(h2:∀a,A a->∃p,k a=some p/\Q p):∃p,B1 X k=some p/\Q p:=by
 obtain⟨o,h1,a,e,ha⟩:=h;subst e;rw[h1];exact h2 a ha
def Zl (p:Int->Nat):List Int->Nat
 | []=>0
 | a::r=>p a+Zl p r
theorem Sv (p:Int->Nat):∀(D:List Int) (k:Nat) (x:Int),k<D.length->Zl p (D.set k x)+p (Am D k)=Zl p D+p x
 | [],k,x,h=>by simp at h
 | a::r,0,x,_=>by
  have e:Am (a::r) 0=a:=rfl;rw[e];show p x+Zl p r+p a=p a+Zl p r+p x;omega
 | a::r,k+1,x,h=>by
  have ih:=Sv p r k x (by simp only[Ab]at h;omega);have e:Am (a::r) (k+1)=Am r k:=rfl;rw[e];show p a+Zl p (r.set k x)+_=p a+Zl p r+p x;omega
theorem Ag5 (p:Int->Nat)(M:Nat):∀(D:List Int),(∀x∈D,p x<=M)->Zl p D<=M*D.length
 | [],_=>by simp[Zl]
 | a::r,h=>by
  have ih:=Ag5 p M r (fun x hx=>h x (List.mem_cons_of_mem _ hx));have h1:=h a (by simp);show p a+Zl p r<=M*(r.length+1);rw[Nat.mul_add];omega
theorem C6 {D:List Int}{k:Nat}(x:Int)(j:Nat)(h:k<D.length):Am (D.set k x) j=if j=k then x else Am D j:=by
 unfold Am;rw[List.getD_eq_getElem?_getD,List.getD_eq_getElem?_getD];by_cases e:j=k
 ·rw[if_pos e,e,List.getElem?_set_self h];rfl
 ·rw[if_neg e,List.getElem?_set_ne (by omega)]
theorem Ib {D:List Int}{x:Int}(h:x∈D):∃k,k<D.length/\Am D k=x:=by
 obtain⟨k,hk,rfl⟩:=List.getElem_of_mem h;exact⟨k,hk,(Dm hk).symm⟩
def cnt (D:List Int):Nat:=Zl (fun x=>if 0<=x then 1 else 0) D
theorem Atc (D:List Int):cnt D<=D.length:=by
 have:=Ag5 (fun x=>if 0<=x then 1 else 0) 1 D (fun x _=>by split<;>omega);unfold cnt;omega
theorem Aog {D:List Int}{k:Nat}{x:Int}(h:k<D.length)(hx:0<=x):cnt D<=cnt (D.set k x)/\(Am D k<0->cnt (D.set k x)=cnt D+1):=by
 have:=Sv (fun x=>if 0<=x then 1 else 0) D k x h;unfold cnt;rw[if_pos hx]at this;refine⟨?_,fun q=> ?_⟩
 ·split at this<;>omega
 ·rw[if_neg (by omega)]at this;omega
def pw (x:Int):Nat:=if x<0 then 82800001 else x.toNat
def pot (D:List Int):Nat:=Zl pw D
def gAt (G:List (List Int))(v:Nat):List Int:=G.getD v []
def Wz (N:Nat)(G:List (List Int)):Prop:=G.length=N/\N<=828/\∀v,v<N->(gAt G v).length<=828/\∀x∈gAt G v,0<=x/\x<(N:Int)
def Zm (N:Nat)(cs:List Int):Prop:=cs.length=N/\∀v,v<N->1<=Am cs v/\Am cs v<=100000
def Q7 (N:Nat)(G:List (List Int))(cs ss D:List Int):Prop:=
 D.length=N/\(∀v,v<N→-1<=Am D v/\Am D v<=100000*(cnt D:Int))/\
 (∀v,v<N->0<=Am D v->((v:Int)∈ss/\Am D v=0)\/∃u:Nat,u<N/\(u:Int)∈gAt G v/\0<=Am D u/\Am D u+Am cs v<=Am D v)
def St0 (ss D:List Int):Prop:=∀s∈ss,Am D s.toNat=0
def Sat (cs D:List Int)(u v:Nat):Prop:=0<=Am D v/\Am D v<=Am D u+Am cs v
def M8 (N:Nat)(G:List (List Int))(cs ss D:List Int):Prop:=
 Q7 N G cs ss D/\St0 ss D/\∀u v:Nat,u<N->v<N->(u:Int)∈gAt G v->0<=Am D u->Sat cs D u v
theorem Q7.bound {N:Nat}{G:List (List Int)}{cs ss D:List Int}(hG:Wz N G)(h:Q7 N G cs ss D){v:Nat}(hv:v<N): -1<=Am D v/\Am D v<=82800000:=by
 have h1:=h.2.1 v hv;have h2:=Atc D;have h3:=h.1;have h4:=hG.2.1;omega
theorem Ag6 {N:Nat}{G:List (List Int)}{cs ss D E:List Int}(hc:Zm N cs)(hD:M8 N G cs ss D)(hE:M8 N G cs ss E):∀(n:Nat) (v:Nat),v<N->Am D v=(n:Int)->0<=Am E v/\Am E v<=Am D v:=by
 intro n
 induction n using Nat.strongRecOn with
 | ind n ih=>
  intro v hv e;rcases hD.1.2.2 v hv (by omega)with⟨h1,h2⟩ | ⟨u,hu,hm,h0,h1⟩
  ·have:=hE.2.1 _ h1;rw[Int.toNat_natCast]at this;omega
  ·have hcv:=hc.2 v hv;obtain⟨m,hm2⟩:∃m:Nat,Am D u=(m:Int):=⟨(Am D u).toNat,by omega⟩;have:=ih m (by omega) u hu hm2;have h3:=hE.2.2 u v hu hv hm this.1;unfold Sat at h3;omega
theorem Aql {N:Nat}{G:List (List Int)}{cs ss D E:List Int}(hc:Zm N cs)(hD:M8 N G cs ss D)(hE:M8 N G cs ss E):D=E:=by
 have hl1:=hD.1.1;have hl2:=hE.1.1;apply List.ext_getElem (by omega);intro v h1 h2;rw[Dm h1,Dm h2];have b1:=hD.1.2.1 v (by omega);have b2:=hE.1.2.1 v (by omega);by_cases q:0<=Am D v
 ·obtain⟨m,hm⟩:∃m:Nat,Am D v=(m:Int):=⟨(Am D v).toNat,by omega⟩;have a:=Ag6 hc hD hE m v (by omega) hm;obtain⟨m2,hm2⟩:∃m:Nat,Am E v=(m:Int):=⟨(Am E v).toNat,by omega⟩;have b:=Ag6 hc hE hD m2 v (by omega) hm2;omega
 ·by_cases q2:0<=Am E v
  ·obtain⟨m2,hm2⟩:∃m:Nat,Am E v=(m:Int):=⟨(Am E v).toNat,by omega⟩;have b:=Ag6 hc hE hD m2 v (by omega) hm2;omega
  ·omega
theorem Axh {N:Nat}{G:List (List Int)}{cs ss D:List Int}{u v:Nat}(hG:Wz N G)(hc:Zm N cs)(h:Q7 N G cs ss D)(hu:u<N)(hv:v<N)(he:(u:Int)∈gAt G v)(h0:0<=Am D u)(hlt:Am D v<0\/Am D u+Am cs v<Am D v):
 Q7 N G cs ss (D.set v (Am D u+Am cs v))/\pot (D.set v (Am D u+Am cs v))<pot D/\u≠v:=by
 have hl:=h.1;have hcv:=hc.2 v hv;have hne:u≠v:=by intro e;subst e;omega
 have hvl:v<D.length:=by omega
 have hcs:=Aog (D:=D) (k:=v) (x:=Am D u+Am cs v) hvl (by omega);have hcl:=Atc (D.set v (Am D u+Am cs v));rw[List.length_set]at hcl;have hN:=hG.2.1;have bu:=h.2.1 u hu;have bv:=h.2.1 v hv;have hnew:Am D u+Am cs v<=100000*(cnt (D.set v (Am D u+Am cs v)):Int):=by
  by_cases q:Am D v<0
  ·have:=hcs.2 q;omega
  ·omega
 refine⟨⟨by rw[List.length_set];exact hl,fun w hw=> ?_,fun w hw=> ?_⟩,?_,hne⟩
 ·rw[C6 _ _ hvl];by_cases q:w=v
  ·rw[if_pos q];exact⟨by omega,hnew⟩
  ·rw[if_neg q];have:=h.2.1 w hw;omega
 ·rw[C6 _ w hvl];by_cases q:w=v
  ·rw[if_pos q];intro _
   right
   refine⟨u,hu,by rw[q];exact he,?_,?_⟩
   ·rw[C6 _ _ hvl,if_neg hne];exact h0
   ·rw[C6 _ _ hvl,if_neg hne,q];omega
  ·rw[if_neg q];intro hw0;rcases h.2.2 w hw hw0 with e | ⟨u',hu',hm,g0,g1⟩
   ·exact Or.inl e
   ·right
    refine⟨u',hu',hm,?_,?_⟩
    ·rw[C6 _ _ hvl];split
     ·omega
     ·exact g0
    ·rw[C6 _ _ hvl];split
     ·rename_i q2;subst q2;omega
     ·exact g1
 ·have:=Sv pw D v (Am D u+Am cs v) hvl;have hp:pw (Am D u+Am cs v)<pw (Am D v):=by
   unfold pw;rw[if_neg (by omega)];split<;>omega
  unfold pot;omega
theorem Ajv {N:Nat}{G:List (List Int)}{cs ss D:List Int}{v:Nat}(hG:Wz N G)(h:Q7 N G cs ss D)(hv:v<N)(hs:(v:Int)∈ss):
 Q7 N G cs ss (D.set v 0)/\pot (D.set v 0)<=pot D/\(Am D v≠0->pot (D.set v 0)<pot D):=by
 have hl:=h.1;have hvl:v<D.length:=by omega
 have hcs:=Aog (D:=D) (k:=v) (x:=0) hvl (by omega);refine⟨⟨by rw[List.length_set];exact hl,fun w hw=> ?_,fun w hw=> ?_⟩,?_,?_⟩
 ·rw[C6 _ _ hvl];have:=h.2.1 w hw;split<;>omega
 ·rw[C6 _ w hvl];by_cases q:w=v
  ·rw[if_pos q];intro _
   left
   rw[q];exact⟨hs,rfl⟩
  ·rw[if_neg q];intro hw0;rcases h.2.2 w hw hw0 with e | ⟨u',hu',hm,g0,g1⟩
   ·exact Or.inl e
   ·right
    refine⟨u',hu',hm,?_,?_⟩
    ·rw[C6 _ _ hvl];split
     ·omega
     ·exact g0
    ·rw[C6 _ _ hvl];split
     ·rename_i q2;subst q2;omega
     ·exact g1
 ·have:=Sv pw D v 0 hvl;have:pw 0=0:=rfl;unfold pot;omega
 ·intro q;have:=Sv pw D v 0 hvl;have:pw 0=0:=rfl;have hp:0<pw (Am D v):=by unfold pw;split<;>omega
  unfold pot;omega
theorem Sw (n:Nat)(x:Int){k:Nat}(h:k<n):Am (List.replicate n x) k=x:=by
 unfold Am;rw[List.getD,List.getElem?_replicate,if_pos h];rfl
theorem Axi (N:Nat)(G:List (List Int))(cs ss:List Int):Q7 N G cs ss (List.replicate N (-1)):=by
 refine⟨by simp,fun v hv=> ?_,fun v hv h0=> ?_⟩
 ·rw[Sw _ _ hv];omega
 ·rw[Sw _ _ hv]at h0;omega
theorem Ayl {N:Nat}{G:List (List Int)}{cs ss D:List Int}(hG:Wz N G)(h:Q7 N G cs ss D):pot D<=82800001*828:=by
 have h1:=Ag5 pw 82800001 D (fun x hx=>by
  obtain⟨k,hk,e⟩:=Ib hx;have:=h.bound hG (v:=k) (by have:=h.1;omega);unfold pw;split<;>omega)
 have h2:=h.1;have h3:=hG.2.1;have h4:82800001*D.length<=82800001*828:=Nat.mul_le_mul_left _ (by omega);unfold pot;omega
abbrev Qe:=Int×Int
theorem Aoh (q:List Qe)(x:Qe)(h:q.length<=100000000000):∃o,Eg (q,x)=some o/\o.Perm (x::q):=by
 unfold Eg;dsimp only;rw[Br (by simp only[Ab,Ac];omega) (by simp only[Ab,Ac];omega)];simp only[Aa];have hlen:(q++[x]).length=q.length+1:=by simp
 have hperm:(q++[x]).Perm (x::q):=by
  have:=List.perm_append_comm (l₁:=q) (l₂:=[x]);exact this
 have hw:wrap .i64 (((q++[x]).length:Int) - 1)=(q.length:Int):=by rw[hlen,Aj (by omega)];omega
 rw[hw];generalize q++[x]=q0 at*;refine Atb (fun a=>a.Perm (x::q)) ?_ (fun a ha=>⟨a,rfl,ha⟩);refine B6 (fun s:Int×List Qe=>(0<=s.1/\s.1<q0.length)/\s.2.Perm q0) (fun o=>∃a:List Qe,o=Sum.inl a/\a.Perm (x::q)) (fun s=>s.1.toNat) (fun s hs=> ?_) ((q.length:Int),q0) ⟨⟨by simp only;omega,by simp only;omega⟩,List.Perm.refl _⟩;obtain⟨i,a⟩:=s;obtain⟨⟨i0,i1⟩,hp⟩:=hs;simp only at i0 i1 hp;have hal:=hp.length_eq;obtain⟨n,rfl⟩:∃n:Nat,i=(n:Int):=⟨i.toNat,by omega⟩;dsimp only;by_cases hi:0<(n:Int)
 ·rw[dt hi,cond_true,Aj (z:=(n:Int) - 1) (by omega),Ez (by omega) (by omega) (by omega)];simp only[Aa];have em:((n:Int) - 1)/2=(((n - 1)/2:Nat):Int):=by omega
  have hm:(n - 1)/2<a.length:=by omega
  have hn:n<a.length:=by omega
  rw[em,As hm,Ar hm,As hn,Ar hn];simp only[Aa];by_cases g:(a[(n - 1)/2]).1<=(a[n]).1
  ·right
   rw[dt g,cond_true];exact⟨_,rfl,_,rfl,hp.trans hperm⟩
  ·left
   rw[df g,cond_false,B8,List.length_set,As hn,Ar (by rw[List.length_set];exact hn)];simp only[Aa];rw[B8];refine⟨_,rfl,⟨⟨by simp only;omega,by simp only;omega⟩,?_⟩,by simp only;omega⟩;simp only;exact(List.set_set_perm hm hn).trans hp
 ·right
  rw[df hi,cond_false];exact⟨_,rfl,_,rfl,hp.trans hperm⟩
theorem Aym (q:List Qe)(h:q≠[])(hl:q.length<=100000000000):∃o,Kb q=some o/\(o.2::o.1).Perm q:=by
 unfold Kb;have h1:0<q.length:=List.length_pos_iff.2 h;have g0:Ak ((0,0):Qe) q 0=some q[0]:=Ar h1;have i0:gin q.length 0=some ():=As h1;have hw:wrap .i64 ((q.length:Int) - 1)=((q.length - 1:Nat):Int):=by rw[Aj (by omega)];omega
 dsimp only;rw[i0,g0,hw,As (by omega),Ar (show q.length - 1<q.length by omega)];simp only[Aa];have es:A8 q 0 (q[q.length - 1])=q.set 0 (q[q.length - 1]):=rfl;rw[es];have esl:Bs (q.set 0 (q[q.length - 1])) 0 ((q.length - 1:Nat):Int)=some ((q.set 0 (q[q.length - 1])).take (q.length - 1)):=by
  unfold Bs;rw[if_pos ⟨by omega,by omega,by rw[List.length_set];omega⟩];simp
 rw[esl];simp only[Aa];have hperm:(q[0]::(q.set 0 (q[q.length - 1])).take (q.length - 1)).Perm q:=by
  cases q with
  | nil=>simp at h1
  | cons a r=>
   cases hr:r.reverse with
   | nil=>
    have:r=[]:=by simpa using hr
    subst this;simp
   | cons z m=>
    have er:r=m.reverse++[z]:=by
     have:=congrArg List.reverse hr;simpa using this
    subst er;simp;have:=List.perm_append_comm (l₁:=m.reverse) (l₂:=[z]);exact this.symm
 have hlen:((q.set 0 (q[q.length - 1])).take (q.length - 1)).length=q.length - 1:=by simp
 generalize (q.set 0 (q[q.length - 1])).take (q.length - 1)=a0 at*
 clear hw es esl g0 i0
 generalize q[0]=top at*;generalize hL:q.length - 1=L at*;refine Atb (fun a=>(top::a).Perm q) ?_ (fun a ha=>⟨(a,top),rfl,ha⟩);refine B6 (fun s:Int×List Qe=>(0<=s.1/\(s.1<L\/s.1=0))/\s.2.Perm a0) (fun o=>∃a:List Qe,o=Sum.inl a/\(top::a).Perm q) (fun s=>(L - s.1).toNat) (fun s hs=> ?_) (0,a0) ⟨⟨by simp,by simp⟩,List.Perm.refl _⟩;obtain⟨i,a⟩:=s;obtain⟨⟨j0,j1⟩,hp⟩:=hs;simp only at j0 j1 hp;have hal:=hp.length_eq;have hfin:(top::a).Perm q:=(hp.cons top).trans hperm;have hpl:=hperm.length_eq;simp only[Ab]at hpl;obtain⟨n,rfl⟩:∃n:Nat,i=(n:Int):=⟨i.toNat,by omega⟩;dsimp only;have e2:wrap .i64 (wrap .i64 (2*(n:Int))+1)=((2*n+1:Nat):Int):=by rw[Aj (z:=2*(n:Int)) (by omega),Aj (by omega)];omega
 rw[e2];by_cases hi:(L:Int)<=((2*n+1:Nat):Int)
 ·right
  rw[dt hi,cond_true];exact⟨_,rfl,_,rfl,hfin⟩
 rw[df hi,cond_false];have e3:wrap .i64 (((2*n+1:Nat):Int)+1)=((2*n+2:Nat):Int):=by rw[Aj (by omega)];omega
 rw[e3];have hn:n<a.length:=by omega
 have hm1:2*n+1<a.length:=by omega
 have pick:∃m:Nat,(m=2*n+1\/m=2*n+2)/\m<a.length/\(bif decide (((2*n+2:Nat):Int)<(L:Int))then(
  (gin (a).length ((2*n+2:Nat):Int)).bind fun _=>
  (Ak ((0,0):Qe) a ((2*n+2:Nat):Int)).bind fun v20=>
  (gin (a).length ((2*n+1:Nat):Int)).bind fun _=>
  (Ak ((0,0):Qe) a ((2*n+1:Nat):Int)).bind fun v22=>
  let v23:Bool:=decide (v20.1<v22.1)
  bif v23 then(
   some (.inl ((2*n+2:Nat):Int)))else
  some (.inl ((2*n+1:Nat):Int)))else
  some ((.inl ((2*n+1:Nat):Int)):Int⊕((Int×List Qe)⊕(List Qe⊕(List Qe×Qe)))))=some (.inl (m:Int)):=by
  by_cases g:((2*n+2:Nat):Int)<(L:Int)
  ·have hm2:2*n+2<a.length:=by omega
   rw[dt g,cond_true,As hm2,Ar hm2,As hm1,Ar hm1];simp only[Aa];by_cases g2:(a[2*n+2]).1<(a[2*n+1]).1
   ·rw[dt g2];exact⟨2*n+2,Or.inr rfl,hm2,rfl⟩
   ·rw[df g2];exact⟨2*n+1,Or.inl rfl,hm1,rfl⟩
  ·rw[df g];exact⟨2*n+1,Or.inl rfl,hm1,rfl⟩
 obtain⟨m,hm,hma,pick⟩:=pick;dsimp only at pick;rw[pick,J6,As hn,Ar hn,As hma,Ar hma];simp only[Aa];by_cases g:(a[n]).1<=(a[m]).1
 ·right
  rw[dt g,cond_true];exact⟨_,rfl,_,rfl,hfin⟩
 ·left
  rw[df g,cond_false,B8,List.length_set,As hma,Ar (by rw[List.length_set];exact hma)];simp only[Aa];rw[B8];refine⟨_,rfl,⟨⟨by simp only;omega,by simp only;omega⟩,?_⟩,by simp only;omega⟩;simp only;exact(List.set_set_perm hn hma).trans hp
end Go.Pf
/-
  Own work. Networks of look-up tables: when they are well formed; how often their nodes are used.
-/
namespace Go.Pf
open Go Go.Pu
set_option linter.unusedVariables false
def Gs (xs:List Int)(m:Int):Bool:=xs.all fun x=>decide (0<=x/\x<m)
theorem Ej {xs:List Int}{m:Int}(h:Gs xs m=true):∀x∈xs,0<=x/\x<m:=fun x hx=>of_decide_eq_true (List.all_eq_true.1 h x hx)
theorem Ajw (xs:List Int)(m:Int):Gs xs m=if(List.range xs.length).all (fun k=>if hk:k<xs.length then decide (0<=xs[k]/\xs[k]<m)else true)=true then true else false:=by
 rw[Bt xs (fun x=>decide (0<=x/\x<m)) _ (fun k hk=>by rw[dif_pos hk])];show Gs xs m=if Gs xs m=true then true else false
 cases Gs xs m<;>rfl
theorem M9 (xs:List Int)(m:Int)(hl:xs.length<=1048576):Di (xs,m)=some (Gs xs m):=by
 unfold Di;rw[Ajw];refine Cl xs.length (fun k=>(k:Int)) _ false true (fun k hk hok=> ?_) (fun k hk hok=> ?_) ?_
 ·rw[dif_pos hk]at hok;have hok:=of_decide_eq_true hok
  try dsimp only
  rw[dt (show(k:Int)<(xs.length:Int)by omega),cond_true,Ar hk];simp only[Aa];rw[df (show ¬xs[k]<0 by omega),cond_false,df (show ¬m<=xs[k]by omega),cond_false,Aj (by omega)];rfl
 ·rw[dif_pos hk]at hok;have hok:=of_decide_eq_false hok
  try dsimp only
  rw[dt (show(k:Int)<(xs.length:Int)by omega),cond_true,Ar hk];simp only[Aa];by_cases g:xs[k]<0
  ·rw[dt g];rfl
  ·rw[df g,cond_false,dt (show m<=xs[k]by omega)];rfl
 ·try dsimp only
  rw[df (by omega),cond_false];rfl
theorem Na (xs:List Int)(m:Int)(hl:xs.length<=1048576)(hm: -1000<=m/\m<=10000000):Gf (xs,m)=some (Gs xs m):=by
 unfold Gf;rw[Ajw]
 try dsimp only
 refine Cl xs.length (fun k=>(k:Int)) _ false true (fun k hk hok=> ?_) (fun k hk hok=> ?_) ?_
 ·rw[dif_pos hk]at hok;have hok:=of_decide_eq_true hok
  try dsimp only
  rw[dt (show(k:Int)<(xs.length:Int)by omega),cond_true,Ar hk];simp only[Aa];rw[Aj (z:=m - 1) (by omega),B4];simp only[Aa];rw[dt (by omega),Bool.not_true,cond_false,Aj (by omega)];rfl
 ·rw[dif_pos hk]at hok;have hok:=of_decide_eq_false hok
  try dsimp only
  rw[dt (show(k:Int)<(xs.length:Int)by omega),cond_true,Ar hk];simp only[Aa];rw[Aj (z:=m - 1) (by omega),B4];simp only[Aa];rw[df (by omega)];rfl
 ·try dsimp only
  rw[df (by omega),cond_false];rfl
def U7 (n:Net):Prop:=(0<=n.1/\n.1<=20)/\n.2.1.length<=12/\n.2.2.1.length<=400/\n.2.2.2.length<=16
instance (n:Net):Decidable (U7 n):=by unfold U7;exact inferInstance
def Em (n:Net):Int:=1+n.1+n.2.1.length
def lnV (n:Net):Int:=Em n+n.2.2.1.length
def lnP (n:Net):Int:=if U7 n then lnV n else 0
theorem Oh {n:Net}(h:U7 n):(1<=Em n/\Em n<=33)/\1<=lnV n/\lnV n<=433:=by
 obtain⟨h1,h2,h3,h4⟩:=h;unfold lnV Em;omega
theorem Aoi (n:Net):H4 n=some (lnP n):=by
 unfold H4 lnP
 try dsimp only
 rw[Co];simp only[Aa];by_cases h1:0<=n.1/\n.1<=20
 rotate_left
 ·rw[df h1,if_neg (fun e=>h1 e.1)];rfl
 rw[dt h1,Bool.not_true,cond_false];by_cases h2:12<(n.2.1.length:Int)
 ·rw[dt h2,if_neg (fun e=>by have:=e.2.1;omega)];rfl
 rw[df h2,cond_false];by_cases h3:400<(n.2.2.1.length:Int)
 ·rw[dt h3,if_neg (fun e=>by have:=e.2.2.1;omega)];rfl
 rw[df h3,cond_false];by_cases h4:16<(n.2.2.2.length:Int)
 ·rw[dt h4,if_neg (fun e=>by have:=e.2.2.2;omega)];rfl
 rw[df h4,cond_false,if_pos ⟨h1,by omega,by omega,by omega⟩,Aj (z:=1+n.1) (by omega),Aj (z:=1+n.1+(n.2.1.length:Int)) (by omega),Aj (by omega)];rfl
theorem Ajx {n:Net}(h:U7 n):Kd n=some (lnV n):=by
 obtain⟨h1,h2,h3,h4⟩:=h;unfold Kd
 try dsimp only
 rw[Aj (z:=1+n.1) (by omega),Aj (z:=1+n.1+(n.2.1.length:Int)) (by omega),Aj (by omega)];rfl
theorem Av0 (n:Net):Ob n=some (lnP n):=by
 unfold Ob lnP
 try dsimp only
 rw[B4];simp only[Aa];by_cases h1:0<=n.1/\n.1<=20
 rotate_left
 ·rw[df h1,if_neg (fun e=>h1 e.1)];rfl
 rw[dt h1,Bool.not_true,cond_false];by_cases h2:12<(n.2.1.length:Int)
 ·rw[dt h2,if_neg (fun e=>by have:=e.2.1;omega)];rfl
 rw[df h2,cond_false];by_cases h3:400<(n.2.2.1.length:Int)
 ·rw[dt h3,if_neg (fun e=>by have:=e.2.2.1;omega)];rfl
 rw[df h3,cond_false];by_cases h4:16<(n.2.2.2.length:Int)
 ·rw[dt h4,if_neg (fun e=>by have:=e.2.2.2;omega)];rfl
 have hl:U7 n:=⟨h1,by omega,by omega,by omega⟩;rw[df h4,cond_false,if_pos hl,Ajx hl];rfl
theorem Pd {n:Net}(h:U7 n):D7 n=some (Em n):=by
 obtain⟨h1,h2,h3,h4⟩:=h;unfold D7
 try dsimp only
 rw[Aj (z:=1+n.1) (by omega),Aj (by omega)];rfl
theorem Acq {n:Net}(h:U7 n):Ke n=some (Em n):=Pd h
def Atd (k:Int):Int:=if k=0 then 1 else if k=1 then 3 else if k=2 then 15 else if k=3 then 255 else 65535
def Ad9 (k t:Int):Prop:=(0<=k/\k<=4)/\0<=t/\t<=Atd k
instance (k t:Int):Decidable (Ad9 k t):=by unfold Ad9;exact inferInstance
theorem Acr {k:Int}(h:0<=k/\k<=4):Lr k=some (Atd k):=by
 have:k=0\/k=1\/k=2\/k=3\/k=4:=by omega
 rcases this with rfl | rfl | rfl | rfl | rfl<;>rfl
theorem Acs (k t:Int):Jl (k,t)=some (decide (Ad9 k t)):=by
 unfold Jl;rw[Co];simp only[Aa];by_cases h:0<=k/\k<=4
 rotate_left
 ·rw[df h,df (show ¬Ad9 k t from fun e=>h e.1)];rfl
 rw[dt h,cond_true];by_cases h2:0<=t
 rotate_left
 ·rw[df h2,df (show ¬Ad9 k t from fun e=>h2 e.2.1)];rfl
 rw[dt h2,cond_true,Acr h];simp only[Aa]
 congr 1
 rw[decide_eq_decide];exact⟨fun e=>⟨h,h2,e⟩,fun e=>e.2.2⟩
theorem Ajy (k t:Int):Qi (k,t)=some (decide (Ad9 k t)):=by
 unfold Qi;rw[B4];simp only[Aa];by_cases h:0<=k/\k<=4
 rotate_left
 ·rw[df h,df (show ¬Ad9 k t from fun e=>h e.1)];rfl
 rw[dt h,cond_true];have hf:(Dv true .u64 1 (wrap .u64 k)).bind (fun v3=>(Dv true .i64 1 v3).bind fun v4=>some (wrap .i64 (v4 - 1)))=some (Atd k):=by
  have:k=0\/k=1\/k=2\/k=3\/k=4:=by omega
  rcases this with rfl | rfl | rfl | rfl | rfl<;>rfl
 have hf2:∀g:Int->Option Bool,(Dv true .u64 1 (wrap .u64 k)).bind (fun v3=>(Dv true .i64 1 v3).bind fun v4=>g (wrap .i64 (v4 - 1)))=((Dv true .u64 1 (wrap .u64 k)).bind (fun v3=>(Dv true .i64 1 v3).bind fun v4=>some (wrap .i64 (v4 - 1)))).bind g:=by
  intro g;cases Dv true .u64 1 (wrap .u64 k)with
  | none=>rfl
  | some v=>
   simp only[Aa];cases Dv true .i64 1 v<;>rfl
 have:=hf2 (fun v5=>(A1 (t,(0,v5))).bind fun v6=>some v6)
 try dsimp only
 rw[this,hf];simp only[Aa];rw[B4];simp only[Aa]
 congr 1
 rw[decide_eq_decide];exact⟨fun e=>⟨h,e⟩,fun e=>e.2⟩
def Ajz (s:Seq):Prop:=(s.1=0/\(0<=s.2.1/\s.2.1<=1)/\s.2.2.length=1)\/(s.1=1/\(0<=s.2.1/\s.2.1<=31)/\s.2.2.length=4)
instance (s:Seq):Decidable (Ajz s):=by unfold Ajz;exact inferInstance
theorem Aj0 (s:Seq):U3 s=some (decide (Ajz s)):=by
 unfold U3
 try dsimp only
 rw[B4,B4];simp only[Aa];by_cases h0:s.1=0
 ·rw[dt h0,cond_true];by_cases h1:0<=s.2.1/\s.2.1<=1
  ·rw[dt h1,cond_true]
   congr 1
   rw[decide_eq_decide];exact⟨fun e=>Or.inl ⟨h0,h1,by omega⟩,fun e=>by rcases e with e | e<;>omega⟩
  ·rw[df h1,df (show ¬Ajz s from fun e=>by rcases e with e | e<;>omega)];rfl
 ·rw[df h0,cond_false];by_cases h1:s.1=1
  ·rw[dt h1,cond_true];by_cases h2:0<=s.2.1/\s.2.1<=31
   ·rw[dt h2,cond_true]
    congr 1
    rw[decide_eq_decide];exact⟨fun e=>Or.inr ⟨h1,h2,by omega⟩,fun e=>by rcases e with e | e<;>omega⟩
   ·rw[df h2,df (show ¬Ajz s from fun e=>by rcases e with e | e<;>omega)];rfl
  ·rw[df h1,df (show ¬Ajz s from fun e=>by rcases e with e | e<;>omega)];rfl
def Bm (ss:List Seq)(k:Nat):Seq:=ss.getD k (0,(0,[]))
def E3 (ls:List Lut)(k:Nat):Lut:=ls.getD k ([],0)
theorem Hw {ss:List Seq}{k:Nat}(h:k<ss.length):Ak ((0,(0,[])):Seq) ss (k:Int)=some (Bm ss k)/\Bm ss k∈ss:=by
 unfold Bm;rw[Ar h,List.getD,List.getElem?_eq_getElem h];exact⟨rfl,List.getElem_mem h⟩
theorem Sx {ls:List Lut}{k:Nat}(h:k<ls.length):Ak (([],0):Lut) ls (k:Int)=some (E3 ls k)/\E3 ls k∈ls:=by
 unfold E3;rw[Ar h,List.getD,List.getElem?_eq_getElem h];exact⟨rfl,List.getElem_mem h⟩
def Aqm (n:Net)(k:Nat):Prop:=Ajz (Bm n.2.1 k)/\Gs (Bm n.2.1 k).2.2 (lnV n)=true
def Aqn (n:Net)(k:Nat):Prop:=Ad9 ((E3 n.2.2.1 k).1.length:Int) (E3 n.2.2.1 k).2/\Gs (E3 n.2.2.1 k).1 (Em n+k)=true
instance (n:Net)(k:Nat):Decidable (Aqm n k):=by unfold Aqm;exact inferInstance
instance (n:Net)(k:Nat):Decidable (Aqn n k):=by unfold Aqn;exact inferInstance
def Du (n:Net):Bool:=
 if U7 n/\Gs n.2.2.2 (lnV n)=true then(if(List.range n.2.1.length).all (fun k=>decide (Aqm n k))=true then(if(List.range n.2.2.1.length).all (fun k=>decide (Aqn n k))=true then true else false)else false)else false
theorem Cx {n:Net}(h:Du n=true):U7 n/\Gs n.2.2.2 (lnV n)=true/\(∀k,k<n.2.1.length->Aqm n k)/\(∀k,k<n.2.2.1.length->Aqn n k):=by
 unfold Du at h;split at h
 rotate_left
 ·simp at h
 rename_i h1;split at h
 rotate_left
 ·simp at h
 rename_i h2;split at h
 rotate_left
 ·simp at h
 rename_i h3;exact⟨h1.1,h1.2,fun k hk=>of_decide_eq_true (List.all_eq_true.1 h2 k (List.mem_range.2 hk)),fun k hk=>of_decide_eq_true (List.all_eq_true.1 h3 k (List.mem_range.2 hk))⟩
theorem W0 (n:Net)(h:M3 n):Gl n=some (Du n):=by
 unfold Gl Du;rw[Aoi];simp only[Aa];by_cases hl:U7 n
 rotate_left
 ·have e:lnP n=0:=by unfold lnP;rw[if_neg hl]
  rw[dt e,if_neg (fun e=>hl e.1)];rfl
 have e:lnP n=lnV n:=by unfold lnP;rw[if_pos hl]
 have hv:=Oh hl;rw[e,df (show ¬lnV n=0 by omega),cond_false,M9 _ _ h.2.2];simp only[Aa];cases ho:Gs n.2.2.2 (lnV n)with
 | false=>rw[if_neg (by simp)];rfl
 | true=>
 rw[if_pos ⟨hl,rfl⟩,Bool.not_true,cond_false];have hl2:=hl.2.1;have hl3:=hl.2.2.1;refine Cl n.2.1.length (fun k=>(k:Int)) _ false _ (fun k hk hok=> ?_) (fun k hk hok=> ?_) ?_
 ·have hok:=of_decide_eq_true hok;obtain⟨g1,g2⟩:=Hw hk;have gl:=h.1.at g2;obtain⟨o1,o2⟩:=hok
  try dsimp only
  rw[dt (show(k:Int)<(n.2.1.length:Int)by omega),cond_true,g1];simp only[Aa];rw[M9 _ _ gl,Co,Co,o2,Aj (by omega)];simp only[Aa];generalize Bm n.2.1 k=s at*;rcases o1 with⟨p1,p2,p3⟩ | ⟨p1,p2,p3⟩
  ·rw[dt p1,cond_true,dt p2,cond_true,dt (show(s.2.2.length:Int)=1 by omega)];rfl
  ·rw[df (show ¬s.1=0 by omega),cond_false,dt p1,cond_true,dt p2,cond_true,dt (show(s.2.2.length:Int)=4 by omega)];rfl
 ·have hok:=of_decide_eq_false hok;obtain⟨g1,g2⟩:=Hw hk;have gl:=h.1.at g2;unfold Aqm at hok
  try dsimp only
  rw[dt (show(k:Int)<(n.2.1.length:Int)by omega),cond_true,g1];simp only[Aa];rw[M9 _ _ gl,Co,Co,Aj (by omega)];simp only[Aa];generalize Bm n.2.1 k=s at*;by_cases h0:s.1=0
  ·rw[dt h0,cond_true,df (show ¬s.1=1 by omega)];by_cases h1:0<=s.2.1/\s.2.1<=1
   ·rw[dt h1,cond_true];by_cases h2:(s.2.2.length:Int)=1
    ·rw[dt h2,cond_true];cases hb:Gs s.2.2 (lnV n)with
     | false=>rfl
     | true=>exact absurd ⟨Or.inl ⟨h0,h1,by omega⟩,hb⟩ hok
    ·rw[df h2];rfl
   ·rw[df h1];rfl
  ·rw[df h0,cond_false];by_cases h1:s.1=1
   ·rw[dt h1,cond_true];by_cases h2:0<=s.2.1/\s.2.1<=31
    ·rw[dt h2,cond_true];by_cases h3:(s.2.2.length:Int)=4
     ·rw[dt h3];cases hb:Gs s.2.2 (lnV n)with
      | false=>rfl
      | true=>exact absurd ⟨Or.inr ⟨h1,h2,by omega⟩,hb⟩ hok
     ·rw[df h3];rfl
    ·rw[df h2];rfl
   ·rw[df h1];rfl
 ·try dsimp only
  rw[df (by omega),cond_false];refine(Option.map_eq_some_iff).2 ⟨_,?_,rfl⟩;refine Cl n.2.2.1.length (fun k=>(k:Int)) _ false true (fun k hk hok=> ?_) (fun k hk hok=> ?_) ?_
  ·have hok:=of_decide_eq_true hok;obtain⟨g1,g2⟩:=Sx hk;have gl:=h.2.1.at g2;obtain⟨o1,o2⟩:=hok
   try dsimp only
   rw[dt (show(k:Int)<(n.2.2.1.length:Int)by omega),cond_true,g1];simp only[Aa];rw[Acs,Pd hl];simp only[Aa];rw[dt o1,Bool.not_true,cond_false,Aj (z:=Em n+(k:Int)) (by omega),M9 _ _ gl,o2,Aj (by omega)];rfl
  ·have hok:=of_decide_eq_false hok;obtain⟨g1,g2⟩:=Sx hk;have gl:=h.2.1.at g2;unfold Aqn at hok
   try dsimp only
   rw[dt (show(k:Int)<(n.2.2.1.length:Int)by omega),cond_true,g1];simp only[Aa];rw[Acs,Pd hl];simp only[Aa];by_cases o1:Ad9 ((E3 n.2.2.1 k).1.length:Int) (E3 n.2.2.1 k).2
   rotate_left
   ·rw[df o1];rfl
   rw[dt o1,Bool.not_true,cond_false,Aj (z:=Em n+(k:Int)) (by omega),M9 _ _ gl];simp only[Aa];cases hb:Gs (E3 n.2.2.1 k).1 (Em n+k)with
   | false=>rfl
   | true=>exact absurd ⟨o1,hb⟩ hok
  ·try dsimp only
   rw[df (by omega),cond_false];rfl
theorem Aj1 (n:Net)(h:M3 n):Oc n=some (Du n):=by
 unfold Oc Du;rw[Av0];simp only[Aa];by_cases hl:U7 n
 rotate_left
 ·have e:lnP n=0:=by unfold lnP;rw[if_neg hl]
  rw[dt e,if_neg (fun e=>hl e.1)];rfl
 have e:lnP n=lnV n:=by unfold lnP;rw[if_pos hl]
 have hv:=Oh hl;rw[e,df (show ¬lnV n=0 by omega),cond_false,Na _ _ h.2.2 (by omega)];simp only[Aa];cases ho:Gs n.2.2.2 (lnV n)with
 | false=>rw[if_neg (by simp)];rfl
 | true=>
 rw[if_pos ⟨hl,rfl⟩,Bool.not_true,cond_false];have hl2:=hl.2.1;have hl3:=hl.2.2.1;refine Cl n.2.1.length (fun k=>(k:Int)) _ false _ (fun k hk hok=> ?_) (fun k hk hok=> ?_) ?_
 ·have hok:=of_decide_eq_true hok;obtain⟨g1,g2⟩:=Hw hk;have gl:=h.1.at g2;obtain⟨o1,o2⟩:=hok
  try dsimp only
  rw[dt (show(k:Int)<(n.2.1.length:Int)by omega),cond_true,g1];simp only[Aa];rw[Aj0,dt o1,Na _ _ gl (by omega),o2,Aj (by omega)];rfl
 ·have hok:=of_decide_eq_false hok;obtain⟨g1,g2⟩:=Hw hk;have gl:=h.1.at g2;unfold Aqm at hok
  try dsimp only
  rw[dt (show(k:Int)<(n.2.1.length:Int)by omega),cond_true,g1];simp only[Aa];rw[Aj0,Na _ _ gl (by omega)];simp only[Aa];by_cases o1:Ajz (Bm n.2.1 k)
  ·rw[dt o1,Bool.not_true,cond_false];cases hb:Gs (Bm n.2.1 k).2.2 (lnV n)with
   | false=>rfl
   | true=>exact absurd ⟨o1,hb⟩ hok
  ·rw[df o1];rfl
 ·try dsimp only
  rw[df (by omega),cond_false];refine(Option.map_eq_some_iff).2 ⟨_,?_,rfl⟩;refine Cl n.2.2.1.length (fun k=>(k:Int)) _ false true (fun k hk hok=> ?_) (fun k hk hok=> ?_) ?_
  ·have hok:=of_decide_eq_true hok;obtain⟨g1,g2⟩:=Sx hk;have gl:=h.2.1.at g2;obtain⟨o1,o2⟩:=hok;have o11:=o1.1
   try dsimp only
   rw[dt (show(k:Int)<(n.2.2.1.length:Int)by omega),cond_true,g1];simp only[Aa];rw[df (show ¬4<((E3 n.2.2.1 k).1.length:Int)by omega),cond_false,Acq hl];simp only[Aa];rw[Aj (z:=Em n+(k:Int)) (by omega),Na _ _ gl (by omega),o2,Ajy,dt o1,Aj (by omega)];rfl
  ·have hok:=of_decide_eq_false hok;obtain⟨g1,g2⟩:=Sx hk;have gl:=h.2.1.at g2;unfold Aqn at hok
   try dsimp only
   rw[dt (show(k:Int)<(n.2.2.1.length:Int)by omega),cond_true,g1];simp only[Aa];by_cases o0:4<((E3 n.2.2.1 k).1.length:Int)
   ·rw[dt o0];rfl
   rw[df o0,cond_false,Acq hl];simp only[Aa];rw[Aj (z:=Em n+(k:Int)) (by omega),Na _ _ gl (by omega),Ajy];simp only[Aa];cases hb:Gs (E3 n.2.2.1 k).1 (Em n+k)with
   | false=>rfl
   | true=>
    rw[Bool.not_true,cond_false,df (show ¬Ad9 ((E3 n.2.2.1 k).1.length:Int) (E3 n.2.2.1 k).2 from fun e=>hok ⟨e,hb⟩)];rfl
  ·try dsimp only
   rw[df (by omega),cond_false];rfl
def Yd (c:List Int)(x:Int):List Int:=A8 c x (wrap .i64 (Am c x.toNat+1))
def Q8 (c xs:List Int):List Int:=xs.foldl Yd c
theorem La (c:List Int)(x:Int):(Yd c x).length=c.length:=by unfold Yd A8;rw[List.length_set]
theorem Lb (c xs:List Int):(Q8 c xs).length=c.length:=by
 induction xs generalizing c with
 | nil=>rfl
 | cons a r ih=>show(Q8 (Yd c a) r).length=_;rw[ih,La]
theorem Ma (c xs:List Int)(k:Nat)(h:k<xs.length):Q8 c (xs.take (k+1))=Yd (Q8 c (xs.take k)) (Am xs k):=by
 unfold Q8;rw[D3 h,List.foldl_append];rfl
def Ly (c:List Int)(xss:Nat->List Int):Nat->List Int
 | 0=>c
 | k+1=>Q8 (Ly c xss k) (xss k)
theorem Ic (c:List Int)(xss:Nat->List Int)(k:Nat):(Ly c xss k).length=c.length:=by
 induction k with
 | zero=>rfl
 | succ k ih=>show(Q8 _ _).length=_;rw[Lb,ih]
def Pe (n:Net):List Int:=Q8 (Ly (Ly (List.replicate (lnV n).toNat 0) (fun k=>(E3 n.2.2.1 k).1) n.2.2.1.length) (fun k=>(Bm n.2.1 k).2.2) n.2.1.length) n.2.2.2
theorem Ye (n:Net):(Pe n).length=(lnV n).toNat:=by
 unfold Pe;rw[Lb,Ic,Ic];simp
theorem E4 {c:List Int}{x:Int}(h0:0<=x)(h1:x<(c.length:Int)):Ak 0 c x=some (Am c x.toNat):=Bq h0 h1
theorem Aff {n:Net}(hb:M3 n)(h:Du n=true):Ho n=some (Pe n):=by
 obtain⟨hl,ho,hs,ht⟩:=Cx h;have hv:=Oh hl;unfold Ho Pe;have e:lnP n=lnV n:=by unfold lnP;rw[if_pos hl]
 obtain⟨N,hN⟩:∃N:Nat,lnV n=(N:Int):=⟨(lnV n).toNat,by omega⟩;rw[Aoi,e,hN];simp only[Aa];rw[Bz (by omega) (by omega),Int.toNat_natCast];simp only[Aa];have hc0:(List.replicate N (0:Int)).length=N:=by simp
 generalize List.replicate N (0:Int)=c0 at*;have hl2:=hl.2.1;have hl3:=hl.2.2.1;have hl4:=hl.2.2.2;refine Ao n.2.2.1.length (fun k=>((k:Int),Ly c0 (fun k=>(E3 n.2.2.1 k).1) k)) (fun k hk=> ?_) ?_
 ·obtain⟨g1,g2⟩:=Sx hk;have gl:=hb.2.1.at g2;have gm:=Ej (ht k hk).2;have hcl:=Ic c0 (fun k=>(E3 n.2.2.1 k).1) k;have hfl:Em n+k<lnV n:=by unfold lnV;omega
  try dsimp only
  rw[dt (show(k:Int)<(n.2.2.1.length:Int)by omega),cond_true];have ee:Ly c0 (fun k=>(E3 n.2.2.1 k).1) (k+1)=Q8 (Ly c0 (fun k=>(E3 n.2.2.1 k).1) k) (E3 n.2.2.1 k).1:=rfl;rw[ee];generalize Ly c0 (fun k=>(E3 n.2.2.1 k).1) k=c at*;refine Ao (E3 n.2.2.1 k).1.length (fun j=>((j:Int),Q8 c ((E3 n.2.2.1 k).1.take j))) (fun j hj=> ?_) ?_
  ·have hm:=gm _ (List.getElem_mem hj);rw[Dm hj]at hm;have hil:=Lb c ((E3 n.2.2.1 k).1.take j)
   try dsimp only
   rw[g1];simp only[Aa];rw[dt (show(j:Int)<((E3 n.2.2.1 k).1.length:Int)by omega),cond_true,A0 hj];simp only[Aa];rw[Cn hm.1 (by omega),E4 hm.1 (by omega)];simp only[Aa];rw[Ma _ _ _ hj,Aj (z:=(j:Int)+1) (by omega)];rfl
  ·try dsimp only
   rw[g1];simp only[Aa];rw[df (show ¬((E3 n.2.2.1 k).1.length:Int)<((E3 n.2.2.1 k).1.length:Int)by omega),cond_false,List.take_of_length_le (Nat.le_refl _),Aj (by omega)];rfl
 try dsimp only
 rw[df (show ¬(n.2.2.1.length:Int)<(n.2.2.1.length:Int)by omega),cond_false];refine(Option.map_eq_some_iff).2 ⟨_,?_,rfl⟩;have hc1:=Ic c0 (fun k=>(E3 n.2.2.1 k).1) n.2.2.1.length;generalize Ly c0 (fun k=>(E3 n.2.2.1 k).1) n.2.2.1.length=c1 at*;refine Ao n.2.1.length (fun k=>((k:Int),Ly c1 (fun k=>(Bm n.2.1 k).2.2) k)) (fun k hk=> ?_) ?_
 ·obtain⟨g1,g2⟩:=Hw hk;have gl:=hb.1.at g2;have gm:=Ej (hs k hk).2;have hcl:=Ic c1 (fun k=>(Bm n.2.1 k).2.2) k
  try dsimp only
  rw[dt (show(k:Int)<(n.2.1.length:Int)by omega),cond_true];have ee:Ly c1 (fun k=>(Bm n.2.1 k).2.2) (k+1)=Q8 (Ly c1 (fun k=>(Bm n.2.1 k).2.2) k) (Bm n.2.1 k).2.2:=rfl;rw[ee];generalize Ly c1 (fun k=>(Bm n.2.1 k).2.2) k=c at*;refine Ao (Bm n.2.1 k).2.2.length (fun j=>((j:Int),Q8 c ((Bm n.2.1 k).2.2.take j))) (fun j hj=> ?_) ?_
  ·have hm:=gm _ (List.getElem_mem hj);rw[Dm hj]at hm;have hil:=Lb c ((Bm n.2.1 k).2.2.take j)
   try dsimp only
   rw[g1];simp only[Aa];rw[dt (show(j:Int)<((Bm n.2.1 k).2.2.length:Int)by omega),cond_true,A0 hj];simp only[Aa];rw[Cn hm.1 (by omega),E4 hm.1 (by omega)];simp only[Aa];rw[Ma _ _ _ hj,Aj (z:=(j:Int)+1) (by omega)];rfl
  ·try dsimp only
   rw[g1];simp only[Aa];rw[df (show ¬((Bm n.2.1 k).2.2.length:Int)<((Bm n.2.1 k).2.2.length:Int)by omega),cond_false,List.take_of_length_le (Nat.le_refl _),Aj (by omega)];rfl
 try dsimp only
 rw[df (show ¬(n.2.1.length:Int)<(n.2.1.length:Int)by omega),cond_false];refine(Option.map_eq_some_iff).2 ⟨_,?_,rfl⟩;have hc2:=Ic c1 (fun k=>(Bm n.2.1 k).2.2) n.2.1.length;generalize Ly c1 (fun k=>(Bm n.2.1 k).2.2) n.2.1.length=c2 at*;have gm:=Ej ho;refine Ao n.2.2.2.length (fun j=>((j:Int),Q8 c2 (n.2.2.2.take j))) (fun j hj=> ?_) ?_
 ·have hm:=gm _ (List.getElem_mem hj);rw[Dm hj]at hm;have hil:=Lb c2 (n.2.2.2.take j)
  try dsimp only
  rw[dt (show(j:Int)<(n.2.2.2.length:Int)by omega),cond_true,A0 hj];simp only[Aa];rw[Cn hm.1 (by omega),E4 hm.1 (by omega)];simp only[Aa];rw[Ma _ _ _ hj,Aj (z:=(j:Int)+1) (by omega)];rfl
 ·try dsimp only
  rw[df (by omega),cond_false,List.take_of_length_le (Nat.le_refl _)];rfl
theorem Aqo {n:Net}(hb:M3 n)(h:Du n=true):Mz n=some (Pe n):=by
 obtain⟨hl,ho,hs,ht⟩:=Cx h;have hv:=Oh hl;unfold Mz Pe;obtain⟨N,hN⟩:∃N:Nat,lnV n=(N:Int):=⟨(lnV n).toNat,by omega⟩;rw[Ajx hl,hN];simp only[Aa];rw[Bz (by omega) (by omega),Int.toNat_natCast];simp only[Aa];have hc0:(List.replicate N (0:Int)).length=N:=by simp
 generalize List.replicate N (0:Int)=c0 at*;have hl2:=hl.2.1;have hl3:=hl.2.2.1;have hl4:=hl.2.2.2;refine Ao n.2.2.1.length (fun k=>((k:Int),Ly c0 (fun k=>(E3 n.2.2.1 k).1) k)) (fun k hk=> ?_) ?_
 ·obtain⟨g1,g2⟩:=Sx hk;have gl:=hb.2.1.at g2;have gm:=Ej (ht k hk).2;have hcl:=Ic c0 (fun k=>(E3 n.2.2.1 k).1) k;have hfl:Em n+k<lnV n:=by unfold lnV;omega
  try dsimp only
  rw[dt (show(k:Int)<(n.2.2.1.length:Int)by omega),cond_true,g1];simp only[Aa];have ee:Ly c0 (fun k=>(E3 n.2.2.1 k).1) (k+1)=Q8 (Ly c0 (fun k=>(E3 n.2.2.1 k).1) k) (E3 n.2.2.1 k).1:=rfl;rw[ee];generalize Ly c0 (fun k=>(E3 n.2.2.1 k).1) k=c at*;refine Ao (E3 n.2.2.1 k).1.length (fun j=>((j:Int),Q8 c ((E3 n.2.2.1 k).1.take j))) (fun j hj=> ?_) ?_
  ·have hm:=gm _ (List.getElem_mem hj);rw[Dm hj]at hm;have hil:=Lb c ((E3 n.2.2.1 k).1.take j)
   try dsimp only
   rw[dt (show(j:Int)<((E3 n.2.2.1 k).1.length:Int)by omega),cond_true,A0 hj];simp only[Aa];rw[Cn hm.1 (by omega),E4 hm.1 (by omega)];simp only[Aa];rw[Ma _ _ _ hj,Aj (z:=(j:Int)+1) (by omega)];rfl
  ·try dsimp only
   rw[df (show ¬((E3 n.2.2.1 k).1.length:Int)<((E3 n.2.2.1 k).1.length:Int)by omega),cond_false,List.take_of_length_le (Nat.le_refl _),Aj (by omega)];rfl
 try dsimp only
 rw[df (show ¬(n.2.2.1.length:Int)<(n.2.2.1.length:Int)by omega),cond_false];refine(Option.map_eq_some_iff).2 ⟨_,?_,rfl⟩;have hc1:=Ic c0 (fun k=>(E3 n.2.2.1 k).1) n.2.2.1.length;generalize Ly c0 (fun k=>(E3 n.2.2.1 k).1) n.2.2.1.length=c1 at*;refine Ao n.2.1.length (fun k=>((k:Int),Ly c1 (fun k=>(Bm n.2.1 k).2.2) k)) (fun k hk=> ?_) ?_
 ·obtain⟨g1,g2⟩:=Hw hk;have gl:=hb.1.at g2;have gm:=Ej (hs k hk).2;have hcl:=Ic c1 (fun k=>(Bm n.2.1 k).2.2) k
  try dsimp only
  rw[dt (show(k:Int)<(n.2.1.length:Int)by omega),cond_true,g1];simp only[Aa];have ee:Ly c1 (fun k=>(Bm n.2.1 k).2.2) (k+1)=Q8 (Ly c1 (fun k=>(Bm n.2.1 k).2.2) k) (Bm n.2.1 k).2.2:=rfl;rw[ee];generalize Ly c1 (fun k=>(Bm n.2.1 k).2.2) k=c at*;refine Ao (Bm n.2.1 k).2.2.length (fun j=>((j:Int),Q8 c ((Bm n.2.1 k).2.2.take j))) (fun j hj=> ?_) ?_
  ·have hm:=gm _ (List.getElem_mem hj);rw[Dm hj]at hm;have hil:=Lb c ((Bm n.2.1 k).2.2.take j)
   try dsimp only
   rw[dt (show(j:Int)<((Bm n.2.1 k).2.2.length:Int)by omega),cond_true,A0 hj];simp only[Aa];rw[Cn hm.1 (by omega),E4 hm.1 (by omega)];simp only[Aa];rw[Ma _ _ _ hj,Aj (z:=(j:Int)+1) (by omega)];rfl
  ·try dsimp only
   rw[df (show ¬((Bm n.2.1 k).2.2.length:Int)<((Bm n.2.1 k).2.2.length:Int)by omega),cond_false,List.take_of_length_le (Nat.le_refl _),Aj (by omega)];rfl
 try dsimp only
 rw[df (show ¬(n.2.1.length:Int)<(n.2.1.length:Int)by omega),cond_false];refine(Option.map_eq_some_iff).2 ⟨_,?_,rfl⟩;have hc2:=Ic c1 (fun k=>(Bm n.2.1 k).2.2) n.2.1.length;generalize Ly c1 (fun k=>(Bm n.2.1 k).2.2) n.2.1.length=c2 at*;have gm:=Ej ho;refine Ao n.2.2.2.length (fun j=>((j:Int),Q8 c2 (n.2.2.2.take j))) (fun j hj=> ?_) ?_
 ·have hm:=gm _ (List.getElem_mem hj);rw[Dm hj]at hm;have hil:=Lb c2 (n.2.2.2.take j)
  try dsimp only
  rw[dt (show(j:Int)<(n.2.2.2.length:Int)by omega),cond_true,A0 hj];simp only[Aa];rw[Cn hm.1 (by omega),E4 hm.1 (by omega)];simp only[Aa];rw[Ma _ _ _ hj,Aj (z:=(j:Int)+1) (by omega)];rfl
 ·try dsimp only
  rw[df (by omega),cond_false,List.take_of_length_le (Nat.le_refl _)];rfl
end Go.Pf
/-
  Own work. Draws, plainly: drawn nets, cuts, their tables, LUT networks out of mapped nets.
-/
namespace Go.Pf
open Go Go.Pu
set_option linter.unusedVariables false
theorem Aqp {b:List Int}{c:Cur}(hb:M2 b)(hc:B5 b c){p q r:Int}(hp:p<=100)(hq:0<=q/\q<=100)(hr:0<=r/\r<=100):Tot (Kj ((b,c),(p,(q,r)))) (fun o=>NB o.1/\B5 b o.2):=by
 unfold Kj;dsimp only;refine Tot.below hb hc fun x1 c1 k1 z1 y1=> ?_
 have hx1:0<=x1/\x1<=100:=by
  by_cases h:0<p
  ·have:=y1 h;omega
  ·have:=z1 (by omega);omega
 rw[Aj (z:=1+x1) (by omega),Aj (z:=q+1) (by omega),Aj (z:=r+1) (by omega),Aj (z:=1+(1+x1)) (by omega)];refine Tot.below hb k1 fun x2 c2 k2 _ y2=> ?_
 have hx2:=y2 (by omega);refine Tot.below hb k2 fun x3 c3 k3 _ y3=> ?_
 have hx3:=y3 (by omega);simp only;rw[Aj (z:=1+(1+x1)+x2) (by omega)];refine Tot.lp (fun s=>(0<=s.1/\s.1<=x3)/\B5 b (s.2.1,s.2.2.1)/\(s.2.2.2.length:Int)<=s.1/\∀a∈s.2.2.2,I64 a.1/\I64 a.2) (fun s=>(x3 - s.1).toNat) ⟨⟨by simp only;omega,by simp only;omega⟩,k3,by simp,fun a ha=>by cases ha⟩ (fun s hs=> ?_);obtain⟨i,u,v,as⟩:=s;obtain⟨⟨i0,i1⟩,hcu,hl,ha⟩:=hs;simp only at i0 i1 hcu hl ha;dsimp only;refine Tot.dite (fun h1=> ?_) (fun h1=> ?_)
 ·rw[Aj (z:=1+(1+x1)+x2+i) (by omega),Aj (z:=2*(1+(1+x1)+x2+i)) (by omega),Aj (z:=i+1) (by omega)];refine Tot.below hb hcu fun x4 c4 k4 _ _=> ?_
  refine Tot.below hb k4 fun x5 c5 k5 _ y5=> ?_
  have hx5:=y5 (by omega);refine Tot.app (by simp only[Af];omega) (by omega) ?_
  refine Tot.next ⟨⟨⟨by simp only;omega,by simp only;omega⟩,k5,by simp only[Ad,Af];omega,fun a ham=> ?_⟩,by simp only;omega⟩;rcases List.mem_append.1 ham with ham | ham
  ·exact ha a ham
  ·rw[List.mem_singleton.1 ham];exact⟨Tu _,by unfold I64;simp only;omega⟩
 refine Tot.exit ?_
 rw[Aj (z:=1+(1+x1)+x2+x3) (by omega),Aj (z:=2*(1+(1+x1)+x2+x3)) (by omega)];refine Tot.lp (fun s=>(0<=s.1/\s.1<=x2)/\B5 b (s.2.1,s.2.2.1)/\(s.2.2.2.length:Int)<=s.1/\∀a∈s.2.2.2,a.2.2.length<=4/\∀x∈a.2.2,I64 x) (fun s=>(x2 - s.1).toNat) ⟨⟨by simp only;omega,by simp only;omega⟩,hcu,by simp,fun a ha=>by cases ha⟩ (fun s hs=> ?_);obtain⟨j,u2,v2,sq⟩:=s;obtain⟨⟨j0,j1⟩,hcu2,hl2,hs2⟩:=hs;simp only at j0 j1 hcu2 hl2 hs2;dsimp only;refine Tot.dite (fun h2=> ?_) (fun h2=> ?_)
 ·have bel:∀x,0<=x/\x<2*(1+(1+x1)+x2+x3)->I64 x:=fun x hx=>by unfold I64;omega
  refine Tot.join (A:=fun a=>B5 b (a.1,a.2.1)/\(a.2.2.length:Int)<=j+1/\∀q∈a.2.2,q.2.2.length<=4/\∀x∈q.2.2,I64 x) ?_ fun a ha2=> ?_
  ·refine Tot.once hb hcu2 fun f c6 k6=> ?_
   refine Tot.ite (fun _=> ?_) (fun _=> ?_)
   ·refine Tot.below hb k6 fun x7 c7 k7 _ _=> ?_
    refine Tot.below hb k7 fun x8 c8 k8 _ y8=> ?_
    refine Tot.below hb k8 fun x9 c9 k9 _ y9=> ?_
    refine Tot.below hb k9 fun xa ca ka _ ya=> ?_
    refine Tot.below hb ka fun xb cb kb _ yb=> ?_
    refine Tot.app (by simp only[Af];omega) (by omega) ?_
    refine Tot.next ⟨kb,by simp only[Ad,Af];omega,fun q hq=> ?_⟩;rcases List.mem_append.1 hq with hq | hq
    ·exact hs2 q hq
    ·rw[List.mem_singleton.1 hq];refine⟨by simp,fun x hx=> ?_⟩;simp only[List.mem_cons,List.not_mem_nil,or_false]at hx;rcases hx with rfl | rfl | rfl | rfl
     ·exact bel _ (y8 (by omega))
     ·exact bel _ (y9 (by omega))
     ·exact bel _ (ya (by omega))
     ·exact bel _ (yb (by omega))
   ·refine Tot.below hb k6 fun x7 c7 k7 _ _=> ?_
    refine Tot.below hb k7 fun x8 c8 k8 _ _=> ?_
    refine Tot.app (by simp only[Af];omega) (by omega) ?_
    refine Tot.next ⟨k8,by simp only[Ad,Af];omega,fun q hq=> ?_⟩;rcases List.mem_append.1 hq with hq | hq
    ·exact hs2 q hq
    ·rw[List.mem_singleton.1 hq];refine⟨by simp,fun x hx=> ?_⟩;rw[List.mem_singleton.1 hx];exact Tu _
  ·rw[Aj (z:=j+1) (by omega)];exact Tot.next ⟨⟨⟨by simp only;omega,by simp only;omega⟩,ha2.1,ha2.2.1,ha2.2.2⟩,by simp only;omega⟩
 refine Tot.exit ?_
 refine Tot.below hb hcu2 fun x6 c6 k6 _ y6=> ?_
 have hx6:=y6 (by omega);refine Tot.lp (fun s=>(-1<=s.1/\s.1<=4)/\B5 b (s.2.1,s.2.2.1)/\(s.2.2.2.length:Int)+s.1<=4/\∀x∈s.2.2.2,I64 x) (fun s=>(s.1+1).toNat) ⟨⟨by simp only;omega,by simp only;omega⟩,k6,by simp only[Ac];omega,fun a ha=>by cases ha⟩ (fun s hs=> ?_);obtain⟨k,u3,v3,os⟩:=s;obtain⟨⟨m0,m1⟩,hcu3,hl3,ho3⟩:=hs;simp only at m0 m1 hcu3 hl3 ho3;dsimp only;refine Tot.dite (fun h3=> ?_) (fun h3=> ?_)
 ·refine Tot.below hb hcu3 fun x7 c7 k7 _ _=> ?_
  refine Tot.app (by simp only[Af];omega) (by omega) ?_
  rw[Aj (z:=k - 1) (by omega)];refine Tot.next ⟨⟨⟨by simp only;omega,by simp only;omega⟩,k7,by simp only[Ad,Af];omega,fun x hx=> ?_⟩,by simp only;omega⟩;rcases List.mem_append.1 hx with hx | hx
  ·exact ho3 x hx
  ·rw[List.mem_singleton.1 hx];exact Tu _
 exact Tot.exit (Tot.ret ⟨⟨by simp only;omega,fun s hs=>⟨by have:=(hs2 s hs).1;omega,(hs2 s hs).2⟩,by simp only;omega,ha,by simp only;omega,ho3⟩,hcu3⟩)
theorem Ate (xs:List Int)(x:Int)(h:xs.length<=1000000):D6 (xs,x)=some (decide (x∈xs)):=Wq xs x (by omega)
structure Aoj (n:Eb)(v:Int)(cut:List Int):Prop where
 ok:NOk n
 v0:0<=v
 v1:v<Av n
 len:cut.length<=4
 mem:∀x∈cut,0<=x/\x<=v
theorem Afg {n:Eb}(h:NB n){v:Int}{cut:List Int}(hl:cut.length<=1000000):Tot (M1 (n,(v,cut))) (fun r=>r=true->Aoj n v cut):=by
 unfold M1;dsimp only;have fals:Tot (some false) (fun r=>r=true->Aoj n v cut):=Tot.ret (fun h=>by cases h);refine Tot.bind (I3 h) fun ok hok=> ?_
 refine Tot.nite (fun _=>fals) (fun ho=> ?_);have hn:=hok ho;have hc:=Dl hn.caps;refine Tot.dite (fun _=>fals) (fun v0=> ?_);refine Tot.bindEq (Bi hn) ?_
 refine Tot.dite (fun _=>fals) (fun v1=> ?_);refine Tot.dite (fun _=>fals) (fun h4=> ?_);refine Tot.bind (Ajj h) fun cone hcone=> ?_
 refine Tot.lp (fun i=>(0<=i/\i<=(cut.length:Int))/\∀x∈cut.take i.toNat,0<=x/\x<=v) (fun i=>((cut.length:Int) - i).toNat) ⟨⟨by omega,by omega⟩,fun s hs=>by simp at hs⟩ (fun i hi=> ?_);obtain⟨⟨i0,i1⟩,hi⟩:=hi;refine Tot.dite (fun h1=> ?_) (fun h1=> ?_)
 ·refine Tot.get i0 h1 fun x hx _=> ?_
  rw[Ate _ _ (by omega)];refine Tot.bindEq rfl ?_
  refine Tot.ndite (fun _=>Tot.exit fals) (fun hm=> ?_);have hxm:=hcone.2 x hm;rw[Aj (z:=i+1) (by omega)];have nxt:Tot (some (Sum.inl (i+1):Int⊕Bool)) (Q6 (fun i' =>((0<=i'∧i'≤(cut.length:Int))/\∀x∈cut.take i'.toNat,0<=x/\x<=v)/\((cut.length:Int) - i').toNat<((cut.length:Int) - i).toNat) (fun r=>r=true->Aoj n v cut)):=
   Tot.next ⟨⟨⟨by omega,by omega⟩,Ab5 i0 h1 hi (by rw[<-hx];exact⟨hxm.1,hxm.2.1⟩)⟩,by omega⟩
  refine Tot.dite (fun hi0=> ?_) (fun _=>nxt);refine Tot.get i0 h1 fun y _ _=> ?_
  rw[Aj (z:=i - 1) (by omega)];refine Tot.get (by omega) (by omega) fun z _ _=> ?_
  exact Tot.dite (fun _=>Tot.exit fals) (fun _=>nxt)
 refine Tot.exit ?_
 have e1:i.toNat=cut.length:=by omega
 rw[e1,List.take_length]at hi;refine Tot.bindEq (Bi hn) ?_
 refine Tot.make (by omega) (by omega) (by omega) ?_
 refine Tot.gin (by omega) (by rw[List.length_replicate];omega) (Tot.get (by omega) (by rw[List.length_replicate];omega) fun _ _ _=> ?_);refine Tot.lp (fun s=>(0<=s.1/\s.1<=v)/\(s.2.length:Int)=Av n) (fun s=>s.1.toNat) ⟨⟨by simp only;omega,by simp only;omega⟩,by simp only[Bh,List.length_replicate];omega⟩ (fun s hs=> ?_);obtain⟨k,op⟩:=s;obtain⟨⟨k0,k1⟩,hop⟩:=hs;simp only at k0 k1 hop;dsimp only;refine Tot.dite (fun h2=> ?_) (fun h2=> ?_)
 ·rw[Aj (z:=k - 1) (by omega)];refine Tot.gin (by omega) (by omega) (Tot.get (by omega) (by omega) fun _ _ _=> ?_);have nxt:∀q:List Bool,(q.length:Int)=Av n->Tot (some (Sum.inl (k - 1,q):(Int×List Bool)⊕Bool)) (Q6 (fun s' =>((0<=s'.1/\s'.1<=v)/\(s'.2.length:Int)=Av n)/\s'.1.toNat<k.toNat) (fun r=>r=true->Aoj n v cut)):=fun q hq=>
   Tot.next ⟨⟨⟨by simp only;omega,by simp only;omega⟩,hq⟩,by simp only;omega⟩
  refine Tot.nite (fun _=>nxt op hop) (fun _=> ?_);rw[Ate _ _ (by omega)];refine Tot.bindEq rfl ?_
  refine Tot.dite (fun _=>nxt op hop) (fun _=> ?_);refine Tot.bindEq (Cj hn) ?_
  refine Tot.dite (fun _=>Tot.exit fals) (fun hkf=> ?_);refine Tot.bindEq (Cj hn) ?_
  rw[Aj (z:=k - Bc n) (by omega)];refine Tot.get (by omega) (by omega) fun a ha _=> ?_
  have hl2:=U4 hn (show 0<=k - Bc n by omega) (by omega);rw[<-ha]at hl2;unfold Lit at hl2;refine Tot.div2 (by omega) (by omega) ?_
  refine Tot.gin (by omega) (by omega) (Tot.get (by omega) (by omega) fun _ _ _=> ?_);refine Tot.div2 (by omega) (by omega) ?_
  refine Tot.gin (by omega) (by rw[Bh];omega) (Tot.get (by omega) (by rw[Bh];omega) fun _ _ _=> ?_);exact nxt _ (by rw[Bh,Bh];exact hop)
 exact Tot.exit (Tot.ret fun _=>⟨hn,by omega,by omega,by omega,hi⟩)
structure Axj (n:Eb)(cuts:List (List Int)):Prop where
 ok:NOk n
 len:cuts.length=n.2.2.1.length
 cut:∀i,i<cuts.length->(cuts.getD i []).length<=4/\∀x∈cuts.getD i [],0<=x/\x<Bc n+(i:Int)
theorem Aqq {n:Eb}(h:NB n){cuts:List (List Int)}(hl:∀c∈cuts,c.length<=1000):Tot (Jp (n,cuts)) (fun r=>r=true->Axj n cuts):=by
 unfold Jp;dsimp only;have fals:Tot (some false) (fun r=>r=true->Axj n cuts):=Tot.ret (fun h=>by cases h);refine Tot.bind (I3 h) fun ok hok=> ?_
 refine Tot.nite (fun _=>fals) (fun ho=> ?_);have hn:=hok ho;have hc:=Dl hn.caps;have han:=hn.an;refine Tot.dite (fun _=>fals) (fun hlen=> ?_);have hlen:cuts.length=n.2.2.1.length:=by omega
 refine Tot.lp (fun i=>(0<=i/\i<=(cuts.length:Int))/\∀k:Nat,(k:Int)<i->(cuts.getD k []).length<=4/\∀x∈cuts.getD k [],0<=x/\x<Bc n+(k:Int)) (fun i=>((cuts.length:Int) - i).toNat) ⟨⟨by omega,by omega⟩,fun k hk=>by omega⟩ (fun i hi=> ?_);obtain⟨⟨i0,i1⟩,hi⟩:=hi;refine Tot.dite (fun h1=> ?_) (fun h1=> ?_)
 ·refine Tot.get i0 h1 fun c hcd hm=> ?_
  have hcl:=hl c hm;refine Tot.bindEq (Cj hn) ?_
  rw[Aj (z:=Bc n+i) (by omega),Aj (z:=i+1) (by omega)];refine Tot.bind (Afg h (by omega)) fun b hb=> ?_
  refine Tot.nite (fun _=>Tot.exit fals) (fun hbt=> ?_);have hcut:=hb hbt;refine Tot.get i0 h1 fun c2 hc2 _=> ?_
  have e:c2=c:=by rw[hcd,hc2]
  subst e;refine Tot.bindEq (Cj hn) ?_
  rw[Aj (z:=Bc n+i) (by omega),Ate _ _ (by omega)];refine Tot.bindEq rfl ?_
  refine Tot.dite (fun _=>Tot.exit fals) (fun hnm=> ?_);refine Tot.next ⟨⟨⟨by omega,by omega⟩,fun k hk=> ?_⟩,by omega⟩;by_cases q:(k:Int)<i
  ·exact hi k q
  ·have e3:i.toNat=k:=by omega
   rw[e3]at hcd;rw[<-hcd];refine⟨hcut.len,fun x hx=> ?_⟩;have hx2:=hcut.mem x hx;have hne:x≠Bc n+i:=fun e=>by subst e;exact hnm hx
   omega
 exact Tot.exit (Tot.ret fun _=>⟨hn,hlen,fun k hk=>hi k (by omega)⟩)
theorem Aok {v:List Int}{x:Int}(h0:0<=x)(h1:x/2<(v.length:Int))(h2:x<=9223372036854775807):Tot (K6 (v,x)) (fun _=>True):=by
 unfold K6;dsimp only;refine Tot.div2 h0 h2 ?_
 refine Tot.get (by omega) h1 fun _ _ _=> ?_
 exact Tot.ret trivial
theorem Av1 {k:Int}(h:0<=k/\k<=4):∃m:Int,Dv true .i64 1 k=some m/\1<=m/\m<=16:=by
 have:k=0\/k=1\/k=2\/k=3\/k=4:=by omega
 rcases this with rfl | rfl | rfl | rfl | rfl
 ·exact⟨1,rfl,by omega,by omega⟩
 ·exact⟨2,rfl,by omega,by omega⟩
 ·exact⟨4,rfl,by omega,by omega⟩
 ·exact⟨8,rfl,by omega,by omega⟩
 ·exact⟨16,rfl,by omega,by omega⟩
theorem Afh {β:Type}{l:Bool}{a b:Int}{k:Int->Option β}{Q:β->Prop}(h:0<=b/\b<64)(hk:∀z,Tot (k z) Q):Tot ((Dv l .i64 a b).bind k) Q:=by
 unfold Dv;rw[if_pos (show 0<=b/\b<((IntKind.i64).bits:Int)from h)];exact hk _
theorem W1 {n:Eb}(h:NB n){v:Int}{cut:List Int}(hl:cut.length<=1000000):Tot (Ia (n,(v,cut))) (fun _=>True):=by
 unfold Ia;dsimp only;refine Tot.bind (Afg h hl) fun b hb=> ?_
 refine Tot.nite (fun _=>Tot.ret trivial) (fun hbt=> ?_);obtain⟨hn,v0,v1,h4,hmem⟩:=hb hbt;have hc:=Dl hn.caps;obtain⟨M,hM,hM0,hM1⟩:=Av1 (k:=(cut.length:Int)) (by omega);rw[hM];refine Tot.lp (fun s=>0<=s.1/\s.1<=M) (fun s=>(M - s.1).toNat) ⟨by simp only;omega,by simp only;omega⟩ (fun s hs=> ?_);obtain⟨i,acc⟩:=s;obtain⟨i0,i1⟩:=hs;simp only at i0 i1;refine Tot.bindEq rfl ?_
 dsimp only;refine Tot.dite (fun h1=> ?_) (fun h1=>Tot.exit (Tot.ret trivial));refine Tot.bindEq (Bi hn) ?_
 refine Tot.make (by omega) (by omega) (by omega) ?_
 refine Tot.lp (fun s=>(0<=s.1/\s.1<=v+1)/\(s.2.length:Int)=Av n) (fun s=>(v+1 - s.1).toNat) ⟨⟨by simp only;omega,by simp only;omega⟩,by simp only[List.length_replicate];omega⟩ (fun s hs=> ?_);obtain⟨k,vs⟩:=s;obtain⟨⟨k0,k1⟩,hv⟩:=hs;simp only at k0 k1 hv;dsimp only;refine Tot.dite (fun h2=> ?_) (fun h2=> ?_)
 ·refine Tot.lp (fun s=>(0<=s.2.1/\s.2.1<=(cut.length:Int))/\(s.2.2.length:Int)=Av n) (fun s=>((cut.length:Int) - s.2.1).toNat) ⟨⟨by simp only;omega,by simp only;omega⟩,hv⟩ (fun s hs=> ?_);obtain⟨st,j,ws⟩:=s;obtain⟨⟨j0,j1⟩,hw⟩:=hs;simp only at j0 j1 hw;dsimp only;refine Tot.dite (fun h3=> ?_) (fun h3=> ?_)
  ·rw[Aj (z:=j+1) (by omega)];refine Tot.get j0 h3 fun x _ _=> ?_
   refine Tot.dite (fun _=> ?_) (fun _=> ?_)
   ·refine Afh (by omega) fun z=> ?_
    refine Tot.gin (by omega) (by omega) (Tot.get (by omega) (by omega) fun _ _ _=> ?_);exact Tot.next ⟨⟨⟨by simp only;omega,by simp only;omega⟩,by simp only[Bh];exact hw⟩,by simp only;omega⟩
   ·exact Tot.next ⟨⟨⟨by simp only;omega,by simp only;omega⟩,hw⟩,by simp only;omega⟩
  refine Tot.exit ?_
  rw[Aj (z:=k+1) (by omega)];have nxt:∀q:List Int,(q.length:Int)=Av n->Tot (some (Sum.inl (k+1,q):(Int×List Int)⊕((Int×Int)⊕(Int×Int)))) (Q6 (fun s' =>((0<=s'.1/\s'.1<=v+1)/\(s'.2.length:Int)=Av n)/\(v+1 - s'.1).toNat<(v+1 - k).toNat) (Q6 (fun s' =>(0<=s'.1/\s'.1<=M)/\(M - s'.1).toNat<(M - i).toNat) (fun _=>True))):=fun q hq=>
   Tot.next ⟨⟨⟨by simp only;omega,by simp only;omega⟩,hq⟩,by simp only;omega⟩
  refine Tot.nite (fun _=> ?_) (fun _=>nxt ws hw);refine Tot.bindEq (Cj hn) ?_
  refine Tot.dite (fun hkf=> ?_) (fun _=>nxt ws hw);refine Tot.bindEq (Cj hn) ?_
  rw[Aj (z:=k - Bc n) (by omega)];refine Tot.get (by omega) (by omega) fun a ha _=> ?_
  have hl2:=U4 hn (show 0<=k - Bc n by omega) (by omega);rw[<-ha]at hl2;unfold Lit at hl2;refine Tot.bind (Aok (by omega) (by omega) (by omega)) fun _ _=> ?_
  refine Tot.bind (Aok (by omega) (by omega) (by omega)) fun _ _=> ?_
  refine Tot.gin (by omega) (by omega) (Tot.get (by omega) (by omega) fun _ _ _=> ?_);exact nxt _ (by rw[Bh];exact hw)
 refine Tot.exit ?_
 refine Tot.gin (by omega) (by omega) (Tot.get (by omega) (by omega) fun _ _ _=> ?_);refine Afh (by omega) fun z=> ?_
 rw[Aj (z:=i+1) (by omega)];exact Tot.next ⟨⟨by simp only;omega,by simp only;omega⟩,by simp only;omega⟩
theorem Ag7 (t:Int×Int):Tot (Ki t) (fun _=>True):=by
 unfold Ki;refine Tot.bindEq (Acs t.1 t.2) ?_
 dsimp only;refine Tot.ndite (fun _=>Tot.ret trivial) (fun h=> ?_);refine Tot.bindEq (Acr h.1) ?_
 exact Tot.ret trivial
theorem Y8 {to list:List Int}(hl:list.length<=1000)(h:∀x∈list,0<=x/\x<(to.length:Int)):Tot (H7 (to,list)) (fun r=>r.length=list.length):=by
 unfold H7;dsimp only;refine Tot.lp (fun s=>(0<=s.1/\s.1<=(list.length:Int))/\(s.2.length:Int)=s.1) (fun s=>((list.length:Int) - s.1).toNat) ⟨⟨by simp only;omega,by simp only;omega⟩,by simp⟩ (fun s hs=> ?_);obtain⟨i,r⟩:=s;obtain⟨⟨i0,i1⟩,hr⟩:=hs;simp only at i0 i1 hr;dsimp only;refine Tot.dite (fun h1=> ?_) (fun h1=> ?_)
 ·refine Tot.get i0 h1 fun y hy hm=> ?_
  refine Tot.get (h y hm).1 (h y hm).2 fun z _ _=> ?_
  refine Tot.app (by simp only[Af];omega) (by omega) ?_
  rw[Aj (z:=i+1) (by omega)];exact Tot.next ⟨⟨⟨by simp only;omega,by simp only;omega⟩,by simp only[Ad,Af];omega⟩,by simp only;omega⟩
 exact Tot.exit (Tot.ret (by omega))
theorem Y9 {to neg list:List Int}{m:Int}(hl:list.length<=1000)(ht:(to.length:Int)=m)(hng:(neg.length:Int)=m)(h:∀x∈list,Lit x m)(hm:m<=1000):Tot (H8 (to,(neg,list))) (fun r=>r.length=list.length):=by
 unfold H8;dsimp only;refine Tot.lp (fun s=>(0<=s.1/\s.1<=(list.length:Int))/\(s.2.length:Int)=s.1) (fun s=>((list.length:Int) - s.1).toNat) ⟨⟨by simp only;omega,by simp only;omega⟩,by simp⟩ (fun s hs=> ?_);obtain⟨i,r⟩:=s;obtain⟨⟨i0,i1⟩,hr⟩:=hs;simp only at i0 i1 hr;dsimp only;refine Tot.dite (fun h1=> ?_) (fun h1=> ?_)
 ·rw[Aj (z:=i+1) (by omega)];refine Tot.get i0 h1 fun y hy hm=> ?_
  have hy2:=h y hm;unfold Lit at hy2;refine Tot.rem (by omega) (by omega) ?_
  refine Tot.dite (fun _=> ?_) (fun _=> ?_)
  ·refine Tot.get i0 h1 fun y2 hy2' _=> ?_
   have e:y2=y:=by rw[hy,hy2']
   subst e;refine Tot.div2 (by omega) (by omega) ?_
   refine Tot.get (by omega) (by omega) fun z _ _=> ?_
   refine Tot.app (by simp only[Af];omega) (by omega) ?_
   exact Tot.next ⟨⟨⟨by simp only;omega,by simp only;omega⟩,by simp only[Ad,Af];omega⟩,by simp only;omega⟩
  ·refine Tot.get i0 h1 fun y2 hy2' _=> ?_
   have e:y2=y:=by rw[hy,hy2']
   subst e;refine Tot.div2 (by omega) (by omega) ?_
   refine Tot.get (by omega) (by omega) fun z _ _=> ?_
   refine Tot.app (by simp only[Af];omega) (by omega) ?_
   exact Tot.next ⟨⟨⟨by simp only;omega,by simp only;omega⟩,by simp only[Ad,Af];omega⟩,by simp only;omega⟩
 exact Tot.exit (Tot.ret (by omega))
end Go.Pf
/-
  Own work. Draws, plainly: LUT networks out of mapped nets.
-/
namespace Go.Pf
open Go Go.Pu
set_option linter.unusedVariables false
structure LB (l:Net):Prop where
 sq:l.2.1.length<=1000
 ins:∀s∈l.2.1,List.length s.2.2<=1000
 lt:l.2.2.1.length<=1000
 lins:∀x∈l.2.2.1,List.length x.1<=1000
 ot:l.2.2.2.length<=1000
theorem LB.netB {l:Net}(h:LB l):M3 l:=by
 obtain⟨h1,h2,h3,h4,h5⟩:=h;refine⟨⟨by omega,fun s hs=> ?_⟩,⟨by omega,fun x hx=> ?_⟩,by omega⟩
 ·have:=h2 s hs;unfold Ayi;omega
 ·have:=h4 x hx;unfold Ayj;omega
theorem Aj2:LB (0,([],([],[]))):=⟨by simp,fun s hs=>(by cases hs),by simp,fun s hs=>(by cases hs),by simp⟩
theorem Amf {n:Eb}(h:NB n){cuts:List (List Int)}(hl:∀c∈cuts,c.length<=1000):Tot (Nt (n,cuts)) (fun r=>LB r.1):=by
 unfold Nt;dsimp only;refine Tot.bind (Aqq h hl) fun b hb=> ?_
 refine Tot.nite (fun _=>Tot.ret Aj2) (fun hbt=> ?_);obtain⟨hn,hlen,hcut⟩:=hb hbt;have hc:=Dl hn.caps;have han:=hn.an;have hsq:=hn.sq;have hot:=hn.ot;have cutAt:∀{i:Int} {c:List Int},0<=i->i<(cuts.length:Int)->c=cuts.getD i.toNat []->c.length<=4/\∀x∈c,0<=x/\x<Bc n+i:=fun {i c} i0 i1 e=>by
  have:=hcut i.toNat (by omega);rw[<-e]at this;have e2:(i.toNat:Int)=i:=by omega
  rw[e2]at this;exact this
 refine Tot.bindEq (Bi hn) ?_
 refine Tot.bindEq (Cj hn) ?_
 refine Tot.make (by omega) (by omega) (by omega) ?_
 refine Tot.make (by omega) (by omega) (by omega) ?_
 refine Tot.bindEq (Wo h) ?_
 have hrl:(D2 n).length<=1001000:=O6 h _;have hri:∀x∈D2 n,Lit x (Av n):=fun x hx=>by
  rcases L9.1 hx with q | ⟨s,hs,q⟩
  ·exact hn.outs x q
  ·exact(hn.ins s hs).2 x q
 refine Tot.lp (fun s=>(0<=s.1/\s.1<=((D2 n).length:Int))/\(s.2.1.length:Int)=Av n/\(s.2.2.length:Int)=Av n) (fun s=>(((D2 n).length:Int) - s.1).toNat) ⟨⟨by simp only;omega,by simp only;omega⟩,by simp only[List.length_replicate];omega,by simp only[List.length_replicate];omega⟩ (fun s hs=> ?_);obtain⟨i,pos,neg⟩:=s;obtain⟨⟨i0,i1⟩,hp,hg⟩:=hs;simp only at i0 i1 hp hg;dsimp only;refine Tot.dite (fun h1=> ?_) (fun h1=> ?_)
 ·rw[Aj (z:=i+1) (by omega)];refine Tot.gin i0 h1 (Tot.get i0 h1 fun x hx hm=> ?_);have hxl:=hri x hm;unfold Lit at hxl;refine Tot.rem (by omega) (by omega) ?_
  refine Tot.dite (fun _=> ?_) (fun _=> ?_)
  ·refine Tot.gin i0 h1 (Tot.get i0 h1 fun y hy _=> ?_);have e:y=x:=by rw[hx,hy]
   subst e;refine Tot.div2 (by omega) (by omega) ?_
   refine Tot.gin (by omega) (by omega) (Tot.get (by omega) (by omega) fun _ _ _=> ?_);exact Tot.next ⟨⟨⟨by simp only;omega,by simp only;omega⟩,by simp only[Bh];exact hp,hg⟩,by simp only;omega⟩
  ·refine Tot.gin i0 h1 (Tot.get i0 h1 fun y hy _=> ?_);have e:y=x:=by rw[hx,hy]
   subst e;refine Tot.div2 (by omega) (by omega) ?_
   refine Tot.gin (by omega) (by omega) (Tot.get (by omega) (by omega) fun _ _ _=> ?_);exact Tot.next ⟨⟨⟨by simp only;omega,by simp only;omega⟩,hp,by simp only[Bh];exact hg⟩,by simp only;omega⟩
 refine Tot.exit ?_
 clear h1 i0 i1
 rw[Aj (by omega)];refine Tot.lp (fun s=>(-1<=s.1/\s.1<(cuts.length:Int))/\(s.2.length:Int)=Av n) (fun s=>(s.1+1).toNat) ⟨⟨by simp only;omega,by simp only;omega⟩,hp⟩ (fun s hs=> ?_);obtain⟨i,need⟩:=s;obtain⟨⟨i0,i1⟩,hnd⟩:=hs;simp only at i0 i1 hnd;dsimp only;refine Tot.dite (fun h1=> ?_) (fun h1=> ?_)
 ·refine Tot.join (A:=fun a:List Bool=>(a.length:Int)=Av n) ?_ fun a ha=> ?_
  ·refine Tot.lp (fun s=>(0<=s.1/\s.1<=4)/\(s.2.length:Int)=Av n) (fun s=>(4 - s.1).toNat) ⟨⟨by simp only;omega,by simp only;omega⟩,hnd⟩ (fun s hs=> ?_);obtain⟨k,nd⟩:=s;obtain⟨⟨k0,k1⟩,hk⟩:=hs;simp only at k0 k1 hk;dsimp only;refine Tot.get h1 i1 fun c hcd hm=> ?_
   obtain⟨hc4,hcx⟩:=cutAt h1 i1 hcd;refine Tot.dite (fun h2=> ?_) (fun h2=>Tot.exit (Tot.next hk));rw[Aj (z:=Bc n+i) (by omega),Aj (z:=k+1) (by omega)];refine Tot.gin (by omega) (by omega) (Tot.get (by omega) (by omega) fun _ _ _=> ?_);have inner:Tot (((Ak [] cuts i).bind fun v25=>(Ak 0 v25 k).bind fun v26=>(gin nd.length v26).bind fun _=>(Ak false nd v26).bind fun v28=>some (Sum.inl (k+1,A8 nd v26 true):(Int×List Bool)⊕(List Bool⊕((Int×List Bool)⊕(Net×Bool))))))
    (Q6 (fun s' =>((0<=s'.1/\s'.1<=4)/\(s'.2.length:Int)=Av n)/\(4 - s'.1).toNat<(4 - k).toNat) (Q6 (fun a:List Bool=>(a.length:Int)=Av n) (Q6 (fun s' =>((-1<=s'.1/\s'.1<(cuts.length:Int))/\(s'.2.length:Int)=Av n)/\(s'.1+1).toNat<(i+1).toNat) (fun r=>LB r.1)))):=by
    refine Tot.get h1 i1 fun c2 hc2 _=> ?_
    have e:c2=c:=by rw[hcd,hc2]
    subst e;refine Tot.get k0 h2 fun x _ hxm=> ?_
    have hx:=hcx x hxm;refine Tot.gin (by omega) (by omega) (Tot.get (by omega) (by omega) fun _ _ _=> ?_);exact Tot.next ⟨⟨⟨by simp only;omega,by simp only;omega⟩,by simp only[Bh];exact hk⟩,by simp only;omega⟩
   refine Tot.ite (fun _=>inner) (fun _=> ?_);refine Tot.gin (by omega) (by omega) (Tot.get (by omega) (by omega) fun _ _ _=> ?_);refine Tot.ite (fun _=>inner) (fun _=>Tot.exit (Tot.next hk))
  ·rw[Aj (z:=i - 1) (by omega)];exact Tot.next ⟨⟨⟨by simp only;omega,by simp only;omega⟩,ha⟩,by simp only;omega⟩
 refine Tot.exit ?_
 clear h1 i0 i1
 refine Tot.make (by omega) (by omega) (by omega) ?_
 refine Tot.lp (fun s=>(0<=s.1/\s.1<=Bc n)/\(s.2.length:Int)=s.1) (fun s=>(Bc n - s.1).toNat) ⟨⟨by simp only;omega,by simp only;omega⟩,by simp⟩ (fun s hs=> ?_);obtain⟨i,to⟩:=s;obtain⟨⟨i0,i1⟩,hto⟩:=hs;simp only at i0 i1 hto;dsimp only;refine Tot.dite (fun h1=> ?_) (fun h1=> ?_)
 ·refine Tot.app (by simp only[Af];omega) (by omega) ?_
  rw[Aj (z:=i+1) (by omega)];exact Tot.next ⟨⟨⟨by simp only;omega,by simp only;omega⟩,by simp only[Ad,Af];omega⟩,by simp only;omega⟩
 refine Tot.exit ?_
 have hto:(to.length:Int)=Bc n:=by omega
 clear h1 i0 i1
 refine Tot.lp (fun s=>(0<=s.1/\s.1<=(cuts.length:Int))/\(s.2.2.length:Int)=Bc n+s.1/\(s.2.1.length:Int)<=s.1/\∀x∈s.2.1,List.length x.1<=4) (fun s=>((cuts.length:Int) - s.1).toNat) ⟨⟨by simp only;omega,by simp only;omega⟩,by simp only;omega,by simp,fun x hx=>(by cases hx)⟩ (fun s hs=> ?_);obtain⟨i,luts,to2⟩:=s;obtain⟨⟨i0,i1⟩,ht2,hll,hlx⟩:=hs;simp only at i0 i1 ht2 hll hlx;dsimp only;refine Tot.dite (fun h1=> ?_) (fun h1=> ?_)
 ·refine Tot.app (by simp only[Af];omega) (by omega) ?_
  rw[Aj (z:=Bc n+i) (by omega),Aj (z:=i+1) (by omega)];refine Tot.gin (by omega) (by omega) (Tot.get (by omega) (by omega) fun _ _ _=> ?_);refine Tot.ite (fun _=> ?_) (fun _=> ?_)
  ·refine Tot.get i0 h1 fun c hcd hm=> ?_
   obtain⟨hc4,hcx⟩:=cutAt i0 h1 hcd;refine Tot.bind (W1 h (by omega)) fun t _=> ?_
   refine Tot.get i0 h1 fun c2 hc2 _=> ?_
   have e:c2=c:=by rw[hcd,hc2]
   subst e;refine Tot.bind (Y8 (by omega) (fun x hx=> ?_)) fun r hr=> ?_
   ·have:=hcx x hx;rw[Ad,Af];omega
   refine Tot.app (by simp only[Af];omega) (by omega) ?_
   refine Tot.next ⟨⟨⟨by simp only;omega,by simp only;omega⟩,by simp only[Ad,Af];omega,by simp only[Ad,Af];omega,fun x hx=> ?_⟩,by simp only;omega⟩;rcases List.mem_append.1 hx with hx | hx
   ·exact hlx x hx
   ·rw[List.mem_singleton.1 hx];simp only;omega
  ·exact Tot.next ⟨⟨⟨by simp only;omega,by simp only;omega⟩,by simp only[Ad,Af];omega,by simp only;omega,hlx⟩,by simp only;omega⟩
 refine Tot.exit ?_
 have ht2:(to2.length:Int)=Av n:=by omega
 have hll:luts.length<=300:=by omega
 clear h1 i0 i1
 refine Tot.lp (fun s=>(0<=s.1/\s.1<=Av n)/\(s.2.1.length:Int)=Av n/\(s.2.2.length:Int)<=300+s.1/\∀x∈s.2.2,List.length x.1<=4) (fun s=>(Av n - s.1).toNat) ⟨⟨by simp only;omega,by simp only;omega⟩,by simp only[List.length_replicate];omega,by simp only;omega,hlx⟩ (fun s hs=> ?_);obtain⟨k,ng,ls⟩:=s;obtain⟨⟨k0,k1⟩,hng,hls,hlsx⟩:=hs;simp only at k0 k1 hng hls hlsx;dsimp only;refine Tot.dite (fun h1=> ?_) (fun h1=> ?_)
 ·rw[Aj (z:=k+1) (by omega)];refine Tot.gin (by omega) (by omega) (Tot.get (by omega) (by omega) fun _ _ _=> ?_);refine Tot.nite (fun _=> ?_) (fun _=> ?_)
  ·exact Tot.next ⟨⟨⟨by simp only;omega,by simp only;omega⟩,hng,by simp only;omega,hlsx⟩,by simp only;omega⟩
  refine Tot.gin (by omega) (by omega) (Tot.get (by omega) (by omega) fun _ _ _=> ?_);refine Tot.dite (fun hkf=> ?_) (fun _=> ?_)
  ·rw[Aj (z:=k - Bc n) (by omega)];refine Tot.get (by omega) (by omega) fun c hcd hm=> ?_
   obtain⟨hc4,hcx⟩:=cutAt (show 0<=k - Bc n by omega) (by omega) hcd;refine Tot.bind (W1 h (by omega)) fun t _=> ?_
   refine Tot.bind (Ag7 t) fun t2 _=> ?_
   refine Tot.get (by omega) (by omega) fun c2 hc2 _=> ?_
   have e:c2=c:=by rw[hcd,hc2]
   subst e;refine Tot.bind (Y8 (by omega) (fun x hx=> ?_)) fun r hr=> ?_
   ·have:=hcx x hx;omega
   refine Tot.app (by simp only[Af];omega) (by omega) ?_
   refine Tot.next ⟨⟨⟨by simp only;omega,by simp only;omega⟩,by simp only[Bh];exact hng,by simp only[Ad,Af];omega,fun x hx=> ?_⟩,by simp only;omega⟩;rcases List.mem_append.1 hx with hx | hx
   ·exact hlsx x hx
   ·rw[List.mem_singleton.1 hx];simp only;omega
  ·refine Tot.dite (fun _=> ?_) (fun _=> ?_)
   ·refine Tot.app (by simp only[Af];omega) (by omega) ?_
    refine Tot.next ⟨⟨⟨by simp only;omega,by simp only;omega⟩,by simp only[Bh];exact hng,by simp only[Ad,Af];omega,fun x hx=> ?_⟩,by simp only;omega⟩;rcases List.mem_append.1 hx with hx | hx
    ·exact hlsx x hx
    ·rw[List.mem_singleton.1 hx];simp
   ·refine Tot.app (by simp only[Af];omega) (by omega) ?_
    refine Tot.next ⟨⟨⟨by simp only;omega,by simp only;omega⟩,by simp only[Bh];exact hng,by simp only[Ad,Af];omega,fun x hx=> ?_⟩,by simp only;omega⟩;rcases List.mem_append.1 hx with hx | hx
    ·exact hlsx x hx
    ·rw[List.mem_singleton.1 hx];simp
 refine Tot.exit ?_
 have hls:ls.length<=700:=by omega
 clear h1 k0 k1
 refine Tot.lp (fun s=>(0<=s.1/\s.1<=(n.2.1.length:Int))/\(s.2.length:Int)<=s.1/\∀x∈s.2,List.length x.2.2<=4) (fun s=>((n.2.1.length:Int) - s.1).toNat) ⟨⟨by simp only;omega,by simp only;omega⟩,by simp,fun x hx=>(by cases hx)⟩ (fun s hs=> ?_);obtain⟨i,sq⟩:=s;obtain⟨⟨i0,i1⟩,hl2,hx2⟩:=hs;simp only at i0 i1 hl2 hx2;dsimp only;refine Tot.dite (fun h1=> ?_) (fun h1=> ?_)
 ·refine Tot.get i0 h1 fun a _ _=> ?_
  refine Tot.get i0 h1 fun b2 _ _=> ?_
  refine Tot.get i0 h1 fun y _ hym=> ?_
  have hyi:=hn.ins y hym;refine Tot.bind (Y9 (by omega) ht2 hng hyi.2 (by omega)) fun r hr=> ?_
  refine Tot.app (by simp only[Af];omega) (by omega) ?_
  rw[Aj (z:=i+1) (by omega)];refine Tot.next ⟨⟨⟨by simp only;omega,by simp only;omega⟩,by simp only[Ad,Af];omega,fun x hx=> ?_⟩,by simp only;omega⟩;rcases List.mem_append.1 hx with hx | hx
  ·exact hx2 x hx
  ·rw[List.mem_singleton.1 hx];simp only;omega
 refine Tot.exit ?_
 refine Tot.bind (Y9 (by omega) ht2 hng hn.outs (by omega)) fun r hr=> ?_
 exact Tot.ret ⟨by simp only;omega,fun s hs=>by have:=hx2 s hs;omega,by simp only;omega,fun x hx=>by have:=hlsx x hx;omega,by simp only;omega⟩
end Go.Pf
/-
  Own work. Draws, plainly: least cuts by flow, labels, depth-optimal mappings.
-/
namespace Go.Pf
open Go Go.Pu
set_option linter.unusedVariables false
theorem Aol {n:Eb}(h:NOk n){k:Int}(k0:0<=k)(k1:k<Av n):Tot (K7 (n,k)) (fun r=>r.length<=2/\∀x∈r,0<=x/\x<Av n):=by
 unfold K7;dsimp only;have hc:=Dl h.caps;refine Tot.bindEq (Cj h) ?_
 refine Tot.dite (fun _=>Tot.ret ⟨by simp,fun x hx=>(by cases hx)⟩) (fun hf=> ?_);refine Tot.bindEq (Cj h) ?_
 rw[Aj (z:=k - Bc n) (by omega)];refine Tot.get (by omega) (by omega) fun a ha _=> ?_
 have hl:=U4 h (show 0<=k - Bc n by omega) (by omega);rw[<-ha]at hl;unfold Lit at hl;refine Tot.dite (fun _=> ?_) (fun _=> ?_)
 ·refine Tot.div2 (by omega) (by omega) ?_
  refine Tot.app (by simp) (by omega) ?_
  refine Tot.dite (fun _=> ?_) (fun _=> ?_)
  ·refine Tot.div2 (by omega) (by omega) ?_
   refine Tot.app (by simp) (by omega) ?_
   refine Tot.ret ⟨by simp,fun x hx=> ?_⟩;simp only[List.nil_append,List.cons_append,List.mem_cons,List.not_mem_nil,or_false]at hx;rcases hx with rfl | rfl<;>omega
  ·refine Tot.ret ⟨by simp,fun x hx=> ?_⟩;simp only[List.nil_append,List.mem_cons,List.not_mem_nil,or_false]at hx;subst hx;omega
 ·refine Tot.dite (fun _=> ?_) (fun _=>Tot.ret ⟨by simp,fun x hx=>(by cases hx)⟩);refine Tot.div2 (by omega) (by omega) ?_
  refine Tot.app (by simp) (by omega) ?_
  refine Tot.ret ⟨by simp,fun x hx=> ?_⟩;simp only[List.nil_append,List.mem_cons,List.not_mem_nil,or_false]at hx;subst hx;omega
structure SI (M:Nat)(b q:List Int):Prop where
 len:b.length=M
 mem:∀x∈q,(0<=x/\x<(M:Int))/\b.getD x.toNat 0≠-2
 chain:∀j,j<q.length->b.getD (q.getD j 0).toNat 0= -1\/∃i,i<j/\b.getD (q.getD j 0).toNat 0=q.getD i 0
 cnt:q.length+b.count (-2)=M
theorem Afi:∀(b:List Int) (i:Nat) (v:Int),i<b.length->b.getD i 0= -2->v≠-2->(b.set i v).count (-2)+1=b.count (-2)
 | [],i,v,h,_,_=>by simp at h
 | x::b,0,v,_,h,hv=>by
  simp at h;subst h;simp[List.count_cons,hv]
 | x::b,i+1,v,h,h2,hv=>by
  have ih:=Afi b i v (by simpa using h) (by simpa using h2) hv;simp only[List.set_cons_succ,List.count_cons];omega
theorem U8 {xs ys:List Int}{i:Nat}(h:i<xs.length):(xs++ys).getD i 0=xs.getD i 0:=by
 simp[List.getD,List.getElem?_append_left h]
theorem SI.qlen {M:Nat}{b q:List Int}(h:SI M b q):q.length<=M:=by have:=h.cnt;omega
theorem SI.push {M:Nat}{b q:List Int}(h:SI M b q){x v:Int}(x0:0<=x/\x<(M:Int))(hx:b.getD x.toNat 0= -2)(hv:v= -1\/v∈q):SI M (A8 b x v) (q++[x]):=by
 have hv2:v≠-2:=by
  rcases hv with rfl | hv
  ·omega
  ·have:=(h.mem v hv).1;omega
 have hxl:x.toNat<b.length:=by rw[h.len];omega
 have hne:∀y∈q,y.toNat≠x.toNat:=fun y hy e=>by
  have:=(h.mem y hy).2;rw[e,hx]at this;exact this rfl
 have g1:∀y∈q,(A8 b x v).getD y.toNat 0=b.getD y.toNat 0:=fun y hy=>by
  unfold A8;rw[List.getD,List.getElem?_set_ne (Ne.symm (hne y hy))];rfl
 have g2:(A8 b x v).getD x.toNat 0=v:=by
  unfold A8;rw[List.getD,List.getElem?_set_self hxl];rfl
 refine⟨by rw[Bh];exact h.len,fun y hy=> ?_,fun j hj=> ?_,?_⟩
 ·rcases List.mem_append.1 hy with hy | hy
  ·rw[g1 y hy];exact h.mem y hy
  ·rw[List.mem_singleton.1 hy,g2];exact⟨x0,hv2⟩
 ·rw[Ad,Af]at hj;by_cases c:j<q.length
  ·rw[U8 c,g1 _ (Ab2 c)];rcases h.chain j c with e | ⟨i,hi,e⟩
   ·exact .inl e
   ·exact .inr ⟨i,hi,by rw[e,U8 (by omega)]⟩
  ·have e:j=q.length:=by omega
   subst e;have e2:(q++[x]).getD q.length 0=x:=by simp[List.getD]
   rw[e2,g2];rcases hv with rfl | hv
   ·exact .inl rfl
   ·obtain⟨i,hi,rfl⟩:=List.getElem_of_mem hv;exact .inr ⟨i,hi,by rw[U8 hi,List.getD,List.getElem?_eq_getElem hi];rfl⟩
 ·have:=Afi b x.toNat v hxl hx hv2;have h2:=h.cnt;unfold A8;rw[Ad,Af];omega
theorem SI.start (M:Nat):SI M (List.replicate M (-2)) []:=⟨by simp,fun x hx=>(by cases hx),fun j hj=>by simp at hj,by simp⟩
theorem SI.back {M:Nat}{b q:List Int}(h:SI M b q){x:Int}(hx:x∈q):b.getD x.toNat 0= -1\/(b.getD x.toNat 0∈q/\q.idxOf (b.getD x.toNat 0)<q.idxOf x):=by
 have hj:q.idxOf x<q.length:=List.idxOf_lt_length_of_mem hx;have e:q.getD (q.idxOf x) 0=x:=by
  rw[List.getD,List.getElem?_eq_getElem hj,List.getElem_idxOf];rfl
 have hc:=h.chain _ hj;rw[e]at hc;rcases hc with hc | ⟨i,hi,hc⟩
 ·exact .inl hc
 ·right
  have hil:i<q.length:=by omega
  have hm:q.getD i 0∈q:=Ab2 hil;rw[hc];refine⟨hm,Nat.lt_of_le_of_lt ?_ hi⟩;have e2:q.getD i 0=q[i]:=by rw[List.getD,List.getElem?_eq_getElem hil];rfl
  rw[e2];by_cases c:q.idxOf q[i]<=i
  ·exact c
  ·exfalso
   have:=List.not_of_lt_findIdx (xs:=q) (p:=fun y=>y==q[i]) (i:=i) (by unfold List.idxOf at c;omega);simp at this
def Ag8 (n:Eb)(ab:List Int):Prop:=(ab.length:Int)=Av n/\∀y∈ab,-1<=y/\y<Av n
theorem Amg {n:Eb}(h:NOk n){up us:List Bool}{ab:List Int}(hu:(up.length:Int)=Av n)(hs:(us.length:Int)=Av n)(ha:Ag8 n ab):Tot (Jn (n,(up,(us,ab)))) (fun r=>∃q,SI (2*Av n).toNat r.1 q/\(r.2= -1\/r.2∈q)):=by
 unfold Jn;dsimp only;have hc:=Dl h.caps;obtain⟨M,hM⟩:∃M:Nat,2*Av n=(M:Int):=⟨(2*Av n).toNat,by omega⟩;have hM2:(2*Av n).toNat=M:=by omega
 rw[hM2];refine Tot.lp (fun s=>(0<=s.1/\s.1<=(M:Int))/\s.2=List.replicate s.1.toNat (-2)) (fun s=>((M:Int) - s.1).toNat) ⟨⟨by simp only;omega,by simp only;omega⟩,by simp⟩ (fun s hs0=> ?_);obtain⟨i,b⟩:=s;obtain⟨⟨i0,i1⟩,hb⟩:=hs0;simp only at i0 i1 hb;refine Tot.bindEq (Bi h) ?_
 dsimp only;rw[Aj (z:=2*Av n) (by omega)];refine Tot.dite (fun h1=> ?_) (fun h1=> ?_)
 ·subst hb;refine Tot.app (by simp only[Af,List.length_replicate];omega) (by omega) ?_
  rw[Aj (z:=i+1) (by omega)];refine Tot.next ⟨⟨⟨by simp only;omega,by simp only;omega⟩,?_⟩,by simp only;omega⟩;simp only;rw[show(i+1).toNat=i.toNat+1 by omega,List.replicate_succ']
 refine Tot.exit ?_
 have hiM:i.toNat=M:=by omega
 rw[hiM]at hb
 clear h1 i0 i1
 refine Tot.lp (fun s=>(0<=s.1/\s.1<=Av n)/\SI M s.2.1 s.2.2) (fun s=>(Av n - s.1).toNat) ⟨⟨by simp only;omega,by simp only;omega⟩,by simp only;rw[hb];exact SI.start M⟩ (fun s hs0=> ?_);obtain⟨k,b1,q1⟩:=s;obtain⟨⟨k0,k1⟩,hsi⟩:=hs0;simp only at k0 k1 hsi;refine Tot.bindEq (Bi h) ?_
 dsimp only;refine Tot.dite (fun h1=> ?_) (fun h1=> ?_)
 ·refine Tot.bind (Aol h k0 h1) fun fan hfan=> ?_
  refine Tot.join (A:=fun a:List Int×List Int=>SI M a.1 a.2) ?_ fun a ha2=> ?_
  ·refine Tot.lp (fun s=>(0<=s.1/\s.1<=(fan.length:Int))/\SI M s.2.1 s.2.2) (fun s=>((fan.length:Int) - s.1).toNat) ⟨⟨by simp only;omega,by simp only;omega⟩,hsi⟩ (fun s hs0=> ?_);obtain⟨j,b2,q2⟩:=s;obtain⟨⟨j0,j1⟩,hsi2⟩:=hs0;simp only at j0 j1 hsi2;dsimp only;have hql:=hsi2.qlen;have hbl:=hsi2.len;have ex:∀{β:Type} {A:β->Prop} {Q:((Int×(List Int×List Int))⊕(List Int×Int))->Prop},Tot (Option.map (Sum.inr:((List Int×List Int)⊕((Int×(List Int×List Int))⊕(List Int×Int)))->β⊕_) (some (.inl (b2,q2)))) (Q6 A (Q6 (fun a:List Int×List Int=>SI M a.1 a.2) Q)):=Tot.exit (Tot.next hsi2);refine Tot.dite (fun h2=> ?_) (fun h2=>ex);rw[Aj (z:=j+1) (by omega)];refine Tot.get k0 (by omega) fun _ _ _=> ?_
   refine Tot.ite (fun _=> ?_) (fun _=>ex);refine Tot.gin j0 h2 (Tot.get j0 h2 fun x hx hxm=> ?_);have hxr:=hfan.2 x hxm;refine Tot.get hxr.1 (by omega) fun _ _ _=> ?_
   refine Tot.nite (fun _=> ?_) (fun _=> ?_)
   ·refine Tot.gin j0 h2 (Tot.get j0 h2 fun x2 hx2 _=> ?_);have e:x2=x:=by rw[hx,hx2]
    subst e;rw[Aj (z:=2*x2) (by omega)];refine Tot.gin (by omega) (by omega) (Tot.get (by omega) (by omega) fun y hy _=> ?_);refine Tot.dite (fun hy2=> ?_) (fun _=> ?_)
    ·refine Tot.gin j0 h2 (Tot.get j0 h2 fun x3 hx3 _=> ?_);have e:x3=x2:=by rw[hx,hx3]
     subst e;rw[Aj (z:=2*x3) (by omega)];refine Tot.gin (by omega) (by omega) (Tot.get (by omega) (by omega) fun _ _ _=> ?_);refine Tot.gin j0 h2 (Tot.get j0 h2 fun x4 hx4 _=> ?_);have e:x4=x3:=by rw[hx,hx4]
     subst e;rw[Aj (z:=2*x4) (by omega)];refine Tot.app (by simp only[Af];omega) (by omega) ?_
     exact Tot.next ⟨⟨⟨by simp only;omega,by simp only;omega⟩,hsi2.push (by omega) (by rw[<-hy];exact hy2) (.inl rfl)⟩,by simp only;omega⟩
    ·exact Tot.next ⟨⟨⟨by simp only;omega,by simp only;omega⟩,hsi2⟩,by simp only;omega⟩
   ·exact Tot.next ⟨⟨⟨by simp only;omega,by simp only;omega⟩,hsi2⟩,by simp only;omega⟩
  ·rw[Aj (z:=k+1) (by omega)];exact Tot.next ⟨⟨⟨by simp only;omega,by simp only;omega⟩,ha2⟩,by simp only;omega⟩
 refine Tot.exit ?_
 clear h1 k0 k1
 refine Tot.lp (fun s=>(0<=s.1/\s.1<=(s.2.2.length:Int))/\SI M s.2.1 s.2.2) (fun s=>((M:Int) - s.1).toNat) ⟨⟨by simp only;omega,by simp only;omega⟩,hsi⟩ (fun s hs0=> ?_);obtain⟨c,b2,q2⟩:=s;obtain⟨⟨c0,c1⟩,hsi2⟩:=hs0;simp only at c0 c1 hsi2;have hql:=hsi2.qlen;have hbl:=hsi2.len;dsimp only;refine Tot.dite (fun h1=> ?_) (fun h1=>Tot.exit (Tot.ret ⟨q2,hsi2,.inl rfl⟩));refine Tot.gin c0 h1 (Tot.get c0 h1 fun x hx hxm=> ?_);have hxr:=(hsi2.mem x hxm).1;refine Tot.div2 (by omega) (by omega) ?_
 have hk:0<=x/2/\x/2<Av n:=by omega
 refine Tot.join (A:=fun nx:List Int=>nx.length<=3/\∀y∈nx,0<=y/\y<(M:Int)) ?_ fun nx hnx=> ?_
 ·refine Tot.gin c0 h1 (Tot.get c0 h1 fun x2 hx2 _=> ?_);have e:x2=x:=by rw[hx,hx2]
  subst e;refine Tot.rem (by omega) (by omega) ?_
  refine Tot.dite (fun _=> ?_) (fun _=> ?_)
  ·refine Tot.get hk.1 (by omega) fun _ _ _=> ?_
   refine Tot.nite (fun _=> ?_) (fun _=> ?_)
   ·rw[Aj (z:=2*(x2/2)) (by omega),Aj (z:=2*(x2/2)+1) (by omega)];refine Tot.app (by simp) (by omega) ?_
    refine Tot.next ⟨by simp,fun y hy=> ?_⟩;simp only[List.nil_append,List.mem_singleton]at hy;subst hy;omega
   ·refine Tot.get hk.1 (by rw[ha.1];omega) fun w hw _=> ?_
    refine Tot.dite (fun hw0=> ?_) (fun _=>Tot.next ⟨by simp,fun y hy=>(by cases hy)⟩);refine Tot.get hk.1 (by rw[ha.1];omega) fun w2 hw2 hwm=> ?_
    have e:w2=w:=by rw[hw,hw2]
    subst e;have hwr:=ha.2 w2 hwm;rw[Aj (z:=2*w2) (by omega),Aj (z:=2*w2+1) (by omega)];refine Tot.app (by simp) (by omega) ?_
    refine Tot.next ⟨by simp,fun y hy=> ?_⟩;simp only[List.nil_append,List.mem_singleton]at hy;subst hy;omega
  ·refine Tot.bindEq (Cj h) ?_
   refine Tot.dite (fun _=> ?_) (fun _=> ?_)
   ·refine Tot.gin c0 h1 (Tot.get c0 h1 fun x3 hx3 hx3m=> ?_);exact Tot.exit (Tot.exit (Tot.ret ⟨q2,hsi2,.inr hx3m⟩))
   ·refine Tot.bind (Aol h hk.1 hk.2) fun fan hfan=> ?_
    refine Tot.lp (fun s=>(0<=s.1/\s.1<=(fan.length:Int))/\(s.2.length:Int)=s.1/\∀y∈s.2,0<=y/\y<(M:Int)) (fun s=>((fan.length:Int) - s.1).toNat) ⟨⟨by simp only;omega,by simp only;omega⟩,by simp,fun y hy=>(by cases hy)⟩ (fun s hs0=> ?_);obtain⟨j,nx⟩:=s;obtain⟨⟨j0,j1⟩,hnl,hny⟩:=hs0;simp only at j0 j1 hnl hny;have hf2:=hfan.1;dsimp only;refine Tot.dite (fun h2=> ?_) (fun h2=> ?_)
    ·refine Tot.gin j0 h2 (Tot.get j0 h2 fun y hy hym=> ?_);have hyr:=hfan.2 y hym;rw[Aj (z:=2*y) (by omega),Aj (z:=j+1) (by omega)];refine Tot.app (by simp only[Af];omega) (by omega) ?_
     refine Tot.next ⟨⟨⟨by simp only;omega,by simp only;omega⟩,by simp only[Ad,Af];omega,fun z hz=> ?_⟩,by simp only;omega⟩;rcases List.mem_append.1 hz with hz | hz
     ·exact hny z hz
     ·rw[List.mem_singleton.1 hz];omega
    ·refine Tot.exit ?_
     refine Tot.get hk.1 (by omega) fun _ _ _=> ?_
     refine Tot.ite (fun _=> ?_) (fun _=> ?_)
     ·rw[Aj (z:=2*(x2/2)) (by omega)];refine Tot.app (by simp only[Af];omega) (by omega) ?_
      refine Tot.next ⟨by simp only[Ad,Af];omega,fun z hz=> ?_⟩;rcases List.mem_append.1 hz with hz | hz
      ·exact hny z hz
      ·rw[List.mem_singleton.1 hz];omega
     ·exact Tot.next ⟨by omega,hny⟩
 ·refine Tot.lp (fun s=>(0<=s.1/\s.1<=(nx.length:Int))/\SI M s.2.1 s.2.2/\c<(s.2.2.length:Int)) (fun s=>((nx.length:Int) - s.1).toNat) ⟨⟨by simp only;omega,by simp only;omega⟩,hsi2,h1⟩ (fun s hs0=> ?_);obtain⟨j,b3,q3⟩:=s;obtain⟨⟨j0,j1⟩,hsi3,hcq⟩:=hs0;simp only at j0 j1 hsi3 hcq;have hql3:=hsi3.qlen;have hbl3:=hsi3.len;have hn3:=hnx.1;dsimp only;refine Tot.dite (fun h2=> ?_) (fun h2=> ?_)
  ·rw[Aj (z:=j+1) (by omega)];refine Tot.gin j0 h2 (Tot.get j0 h2 fun y hy hym=> ?_);have hyr:=hnx.2 y hym;refine Tot.gin hyr.1 (by omega) (Tot.get hyr.1 (by omega) fun w hw _=> ?_);refine Tot.dite (fun hw2=> ?_) (fun _=> ?_)
   ·refine Tot.gin j0 h2 (Tot.get j0 h2 fun y2 hy2 _=> ?_);have e:y2=y:=by rw[hy,hy2]
    subst e;refine Tot.gin c0 hcq (Tot.get c0 hcq fun z _ hzm=> ?_);refine Tot.gin hyr.1 (by omega) (Tot.get hyr.1 (by omega) fun _ _ _=> ?_);refine Tot.gin j0 h2 (Tot.get j0 h2 fun y3 hy3 _=> ?_);have e:y3=y2:=by rw[hy,hy3]
    subst e;refine Tot.app (by simp only[Af];omega) (by omega) ?_
    exact Tot.next ⟨⟨⟨by simp only;omega,by simp only;omega⟩,hsi3.push hyr (by rw[<-hw];exact hw2) (.inr hzm),by simp only[Ad,Af];omega⟩,by simp only;omega⟩
   ·exact Tot.next ⟨⟨⟨by simp only;omega,by simp only;omega⟩,hsi3,hcq⟩,by simp only;omega⟩
  ·refine Tot.exit ?_
   rw[Aj (z:=c+1) (by omega)];exact Tot.next ⟨⟨⟨by simp only;omega,by simp only;omega⟩,hsi3⟩,by simp only;omega⟩
end Go.Pf
/-
  Own work. Draws, plainly: least cuts, labels, depth-optimal mappings.
-/
namespace Go.Pf
open Go Go.Pu
set_option linter.unusedVariables false
theorem Afj {n:Eb}(h:NOk n){labels:List Int}(hlab:(labels.length:Int)=Av n){v ht:Int}(v0:0<=v)(v1:v<Av n):Tot (K8 (n,(labels,(v,ht)))) (fun r=>r.1.length<=1000):=by
 unfold K8;dsimp only;have hc:=Dl h.caps;refine Tot.bind (Ajj h.nb) fun cone hcone=> ?_
 refine Tot.bindEq (Bi h) ?_
 refine Tot.make (by omega) (by omega) (by omega) ?_
 refine Tot.lp (fun s=>(0<=s.1/\s.1<=(cone.length:Int))/\(s.2.length:Int)=Av n) (fun s=>((cone.length:Int) - s.1).toNat) ⟨⟨by simp only;omega,by simp only;omega⟩,by simp only[List.length_replicate];omega⟩ (fun s hs=> ?_);obtain⟨i,up⟩:=s;obtain⟨⟨i0,i1⟩,hup⟩:=hs;simp only at i0 i1 hup;have hcl:=hcone.1;dsimp only;refine Tot.dite (fun h1=> ?_) (fun h1=> ?_)
 ·rw[Aj (z:=i+1) (by omega)];refine Tot.gin i0 h1 (Tot.get i0 h1 fun x hx hxm=> ?_);have hxr:=hcone.2 x hxm;refine Tot.gin i0 h1 (Tot.get i0 h1 fun x2 _ _=> ?_);refine Tot.dite (fun _=> ?_) (fun _=> ?_)
  ·refine Tot.gin (by omega) (by omega) (Tot.get (by omega) (by omega) fun _ _ _=> ?_);exact Tot.next ⟨⟨⟨by simp only;omega,by simp only;omega⟩,by simp only[Bh];exact hup⟩,by simp only;omega⟩
  ·refine Tot.gin i0 h1 (Tot.get i0 h1 fun x3 hx3 _=> ?_);have e:x3=x:=by rw[hx,hx3]
   subst e;refine Tot.get (by omega) (by omega) fun _ _ _=> ?_
   refine Tot.gin (by omega) (by omega) (Tot.get (by omega) (by omega) fun _ _ _=> ?_);exact Tot.next ⟨⟨⟨by simp only;omega,by simp only;omega⟩,by simp only[Bh];exact hup⟩,by simp only;omega⟩
 refine Tot.exit ?_
 clear h1 i0 i1
 refine Tot.bindEq (Bi h) ?_
 refine Tot.make (by omega) (by omega) (by omega) ?_
 refine Tot.bindEq (Bi h) ?_
 refine Tot.make (by omega) (by omega) (by omega) ?_
 refine Tot.lp (fun i=>0<=i/\i<=Bc n) (fun i=>(Bc n - i).toNat) ⟨by omega,by omega⟩ (fun j hj=> ?_);obtain⟨j0,j1⟩:=hj;refine Tot.bindEq (Cj h) ?_
 refine Tot.dite (fun h1=> ?_) (fun h1=> ?_)
 ·refine Tot.gin j0 (by omega) (Tot.get j0 (by omega) fun _ _ _=> ?_);refine Tot.ite (fun _=>Tot.exit (Tot.ret (by simp))) (fun _=> ?_);rw[Aj (z:=j+1) (by omega)];exact Tot.next ⟨⟨by omega,by omega⟩,by omega⟩
 refine Tot.exit ?_
 clear h1 j0 j1
 refine Tot.lp (fun s=>(0<=s.1/\s.1<=5)/\(s.2.1.length:Int)=Av n/\Ag8 n s.2.2) (fun s=>(5 - s.1).toNat) ⟨⟨by simp only;omega,by simp only;omega⟩,by simp only[List.length_replicate];omega,by simp only[List.length_replicate];omega,fun y hy=>by rw[List.eq_of_mem_replicate hy];omega⟩ (fun s hs=> ?_);obtain⟨fl,us,ab⟩:=s;obtain⟨⟨f0,f1⟩,hus,hab⟩:=hs;simp only at f0 f1 hus hab;dsimp only;refine Tot.dite (fun h1=> ?_) (fun h1=>Tot.exit (Tot.ret (by simp)));refine Tot.bind (Amg h hup hus hab) fun r hr=> ?_
 obtain⟨b,at0⟩:=r;obtain⟨q,hsi,hat⟩:=hr;simp only at hsi hat;obtain⟨M,hM⟩:∃M:Nat,2*Av n=(M:Int):=⟨(2*Av n).toNat,by omega⟩;have hM2:(2*Av n).toNat=M:=by omega
 rw[hM2]at hsi;have hbl:=hsi.len;dsimp only;refine Tot.dite (fun h2=> ?_) (fun h2=> ?_)
 ·refine Tot.lp (fun s=>(0<=s.1/\s.1<=Av n)/\(s.2.length:Int)<=s.1) (fun s=>(Av n - s.1).toNat) ⟨⟨by simp only;omega,by simp only;omega⟩,by simp⟩ (fun s hs=> ?_);obtain⟨k,out⟩:=s;obtain⟨⟨k0,k1⟩,ho⟩:=hs;simp only at k0 k1 ho;refine Tot.bindEq (Bi h) ?_
  dsimp only;refine Tot.dite (fun h3=> ?_) (fun h3=> ?_)
  ·rw[Aj (z:=2*k) (by omega),Aj (z:=k+1) (by omega),Aj (z:=2*k+1) (by omega)];refine Tot.gin (by omega) (by omega) (Tot.get (by omega) (by omega) fun _ _ _=> ?_);refine Tot.dite (fun _=> ?_) (fun _=> ?_)
   ·refine Tot.gin (by omega) (by omega) (Tot.get (by omega) (by omega) fun _ _ _=> ?_);refine Tot.dite (fun _=> ?_) (fun _=> ?_)
    ·refine Tot.app (by simp only[Af];omega) (by omega) ?_
     exact Tot.next ⟨⟨⟨by simp only;omega,by simp only;omega⟩,by simp only[Ad,Af];omega⟩,by simp only;omega⟩
    ·exact Tot.next ⟨⟨⟨by simp only;omega,by simp only;omega⟩,by simp only;omega⟩,by simp only;omega⟩
   ·exact Tot.next ⟨⟨⟨by simp only;omega,by simp only;omega⟩,by simp only;omega⟩,by simp only;omega⟩
  ·exact Tot.exit (Tot.exit (Tot.ret (by simp only;omega)))
 ·refine Tot.lp (fun s=>(s.1= -1\/s.1∈q)/\(s.2.1.length:Int)=Av n/\Ag8 n s.2.2) (fun s=>if s.1<0 then 0 else q.idxOf s.1+1) ⟨hat,hus,hab⟩ (fun s hs=> ?_);obtain⟨at1,us1,ab1⟩:=s;obtain⟨ha1,hus1,hab1⟩:=hs;simp only at ha1 hus1 hab1;dsimp only;refine Tot.dite (fun h3=> ?_) (fun h3=> ?_)
  ·have ham:at1∈q:=by
    rcases ha1 with e | e
    ·omega
    ·exact e
   have har:=(hsi.mem at1 ham).1;have hback:=hsi.back ham;refine Tot.gin h3 (by omega) (Tot.get h3 (by omega) fun fr hfr _=> ?_);rw[<-hfr]at hback;have hfrr: -1<=fr/\fr<(M:Int):=by
    rcases hback with e | ⟨e,_⟩
    ·omega
    ·have:=(hsi.mem fr e).1;omega
   refine Tot.div2 h3 (by omega) ?_
   have hk:0<=at1/2/\at1/2<Av n:=by omega
   refine Tot.join (A:=fun a:List Bool=>(a.length:Int)=Av n) ?_ fun us2 hus2=> ?_
   ·refine Tot.rem h3 (by omega) ?_
    refine Tot.dite (fun _=> ?_) (fun _=>Tot.next hus1);refine Tot.dite (fun _=> ?_) (fun _=>Tot.next hus1);refine Tot.gin hk.1 (by omega) (Tot.get hk.1 (by omega) fun _ _ _=> ?_);exact Tot.next (by rw[Bh];exact hus1)
   refine Tot.join (A:=fun a:List Bool=>(a.length:Int)=Av n) ?_ fun us3 hus3=> ?_
   ·refine Tot.rem h3 (by omega) ?_
    refine Tot.dite (fun _=> ?_) (fun _=>Tot.next hus2);refine Tot.dite (fun _=> ?_) (fun _=>Tot.next hus2);refine Tot.gin hk.1 (by omega) (Tot.get hk.1 (by omega) fun _ _ _=> ?_);exact Tot.next (by rw[Bh];exact hus2)
   have abset:∀{ab:List Int} {y:Int},Ag8 n ab→-1<=y/\y<Av n->Ag8 n (A8 ab (at1/2) y):=fun {ab y} hA hy=>⟨by rw[Bh];exact hA.1,fun z hz=>by
    rcases Sk hz with hz | rfl
    ·exact hA.2 z hz
    ·exact hy⟩
   refine Tot.join (A:=fun a:List Int=>Ag8 n a) ?_ fun ab2 hab2=> ?_
   ·refine Tot.rem h3 (by omega) ?_
    refine Tot.dite (fun _=> ?_) (fun _=>Tot.next hab1);refine Tot.dite (fun _=> ?_) (fun _=>Tot.next hab1);refine Tot.gin hk.1 (by rw[hab1.1];omega) (Tot.get hk.1 (by rw[hab1.1];omega) fun _ _ _=> ?_);exact Tot.next (abset hab1 (by omega))
   have nxt:∀ab',Ag8 n ab'→Tot (some (Sum.inl (fr,(us3,ab')):(Int×(List Bool×List Int))⊕((Int×(List Bool×List Int))⊕(List Int×Bool)))) (Q6 (fun s' =>((s'.1= -1\/s'.1∈q)/\(s'.2.1.length:Int)=Av n/\Ag8 n s'.2.2)/\(if s'.1<0 then 0 else q.idxOf s'.1+1)<(if at1<0 then 0 else q.idxOf at1+1)) (Q6 (fun s' =>((0<=s'.1/\s'.1<=5)/\(s'.2.1.length:Int)=Av n/\Ag8 n s'.2.2)/\(5 - s'.1).toNat<(5 - fl).toNat) (fun r=>r.1.length<=1000))):=fun ab' hA=>by
    refine Tot.next ⟨⟨?_,hus3,hA⟩,?_⟩
    ·rcases hback with e | ⟨e,_⟩
     ·exact .inl e
     ·exact .inr e
    ·simp only;rw[if_neg (show ¬at1<0 by omega)];rcases hback with e | ⟨_,e⟩
     ·rw[if_pos (by omega)];omega
     ·split<;>omega
   refine Tot.rem h3 (by omega) ?_
   refine Tot.dite (fun _=> ?_) (fun _=>nxt ab2 hab2);refine Tot.dite (fun hf0=> ?_) (fun _=>nxt ab2 hab2);refine Tot.dite (fun _=> ?_) (fun _=>nxt ab2 hab2);refine Tot.div2 hf0 (by omega) ?_
   refine Tot.gin hk.1 (by rw[hab2.1];omega) (Tot.get hk.1 (by rw[hab2.1];omega) fun _ _ _=> ?_);exact nxt _ (abset hab2 (by omega))
  ·refine Tot.exit ?_
   rw[Aj (z:=fl+1) (by omega)];exact Tot.next ⟨⟨⟨by simp only;omega,by simp only;omega⟩,hus1,hab1⟩,by simp only;omega⟩
theorem Amh {n:Eb}(h:NOk n)(hk:C3 n=some true):Tot (Ns n) (fun r=>(r.length:Int)=Av n):=by
 unfold Ns;have hc:=Dl h.caps;refine Tot.bindEq hk ?_
 dsimp only;refine Tot.nite (fun e=>by cases e) (fun _=> ?_);refine Tot.bindEq (Bi h) ?_
 refine Tot.make (by omega) (by omega) (by omega) ?_
 refine Tot.bindEq (Cj h) ?_
 refine Tot.lp (fun s=>(Bc n<=s.1/\s.1<=Av n)/\(s.2.length:Int)=Av n) (fun s=>(Av n - s.1).toNat) ⟨⟨by simp only;omega,by simp only;omega⟩,by simp only[List.length_replicate];omega⟩ (fun s hs=> ?_);obtain⟨k,lb⟩:=s;obtain⟨⟨k0,k1⟩,hl⟩:=hs;simp only at k0 k1 hl;refine Tot.bindEq (Bi h) ?_
 dsimp only;refine Tot.dite (fun h1=> ?_) (fun h1=>Tot.exit (Tot.ret hl));refine Tot.bindEq (Cj h) ?_
 rw[Aj (z:=k - Bc n) (by omega),Aj (z:=k+1) (by omega)];refine Tot.get (by omega) (by omega) fun a ha _=> ?_
 have hlit:=U4 h (show 0<=k - Bc n by omega) (by omega);rw[<-ha]at hlit;unfold Lit at hlit;refine Tot.div2 (by omega) (by omega) ?_
 refine Tot.gin (by omega) (by omega) (Tot.get (by omega) (by omega) fun _ _ _=> ?_);refine Tot.div2 (by omega) (by omega) ?_
 refine Tot.gin (by omega) (by omega) (Tot.get (by omega) (by omega) fun _ _ _=> ?_);refine Tot.gin (by omega) (by omega) (Tot.get (by omega) (by omega) fun _ _ _=> ?_);have nxt:∀q:List Int,(q.length:Int)=Av n->Tot (some (Sum.inl (k+1,q):(Int×List Int)⊕List Int)) (Q6 (fun s' =>((Bc n<=s'.1/\s'.1<=Av n)/\(s'.2.length:Int)=Av n)/\(Av n - s'.1).toNat<(Av n - k).toNat) (fun r=>(r.length:Int)=Av n)):=fun q hq=>
  Tot.next ⟨⟨⟨by simp only;omega,by simp only;omega⟩,hq⟩,by simp only;omega⟩
 refine Tot.dite (fun _=> ?_) (fun _=>nxt _ (by rw[Bh];exact hl));refine Tot.bind (Afj h (by rw[Bh];exact hl) (by omega) (by omega)) fun r _=> ?_
 refine Tot.ite (fun _=> ?_) (fun _=>nxt _ (by rw[Bh];exact hl));refine Tot.gin (by omega) (by rw[Bh];omega) (Tot.get (by omega) (by rw[Bh];omega) fun _ _ _=> ?_);exact nxt _ (by rw[Bh,Bh];exact hl)
theorem Ag9 {n:Eb}(hb:NB n):Tot (Gv n) (fun r=>r.length<=1000/\∀c∈r,c.length<=1000):=by
 unfold Gv;obtain⟨ok,hk,hok⟩:=I3 hb;refine Tot.bindEq hk ?_
 dsimp only;refine Tot.nite (fun _=>Tot.ret ⟨by simp,fun c hc=>(by cases hc)⟩) (fun ho=> ?_);subst ho;have h:=hok rfl;have hc:=Dl h.caps;refine Tot.bind (Amh h hk) fun lb hlb=> ?_
 refine Tot.bindEq (Cj h) ?_
 refine Tot.lp (fun s=>(Bc n<=s.1/\s.1<=Av n)/\(s.2.length:Int)<=s.1/\∀c∈s.2,c.length<=1000) (fun s=>(Av n - s.1).toNat) ⟨⟨by simp only;omega,by simp only;omega⟩,by simp only[Ac];omega,fun c hc=>(by cases hc)⟩ (fun s hs=> ?_);obtain⟨k,cs⟩:=s;obtain⟨⟨k0,k1⟩,hl,hcs⟩:=hs;simp only at k0 k1 hl hcs;refine Tot.bindEq (Bi h) ?_
 dsimp only;refine Tot.dite (fun h1=> ?_) (fun h1=>Tot.exit (Tot.ret ⟨by omega,hcs⟩));refine Tot.gin (by omega) (by omega) (Tot.get (by omega) (by omega) fun _ _ _=> ?_);refine Tot.bind (Afj h hlb (by omega) h1) fun r hr=> ?_
 refine Tot.app (by simp only[Af];omega) (by omega) ?_
 rw[Aj (z:=k+1) (by omega)];refine Tot.next ⟨⟨⟨by simp only;omega,by simp only;omega⟩,by simp only[Ad,Af];omega,fun c hc2=> ?_⟩,by simp only;omega⟩;rcases List.mem_append.1 hc2 with hc2 | hc2
 ·exact hcs c hc2
 ·rw[List.mem_singleton.1 hc2];exact hr
end Go.Pf
/-
  Own work. The law of the nearest free tile, plainly: it says true.
-/
namespace Go.Pf
open Go Go.Pu
def Ij (d:Dev)(k:Int)(n:Nat):List Int:=((List.range n).map fun(t:Nat)=>(t:Int)).filter fun t=>decide (tkp d t=k)
theorem Aha (d:Dev)(k:Int)(n:Nat):Ij d k (n+1)=if tkp d n=k then Ij d k n++[(n:Int)]else Ij d k n:=by
 unfold Ij;rw[List.range_succ,List.map_append,List.filter_append];by_cases h:tkp d n=k
 ·rw[if_pos h];simp[h]
 ·rw[if_neg h];simp[h]
theorem Za (d:Dev)(k:Int)(n:Nat):(Ij d k n).length<=n:=by
 unfold Ij;refine Nat.le_trans (List.length_filter_le _ _) ?_
 simp
def Fd (d:Dev)(k:Int):List Int:=if DOk d then Ij d k (d.1*d.2.1).toNat else []
theorem Acu (d:Dev)(k:Int):Jf (d,k)=some (Fd d k):=by
 unfold Jf Fd;simp only[F7,Aa];by_cases h:DOk d
 ·rw[dt h,if_pos h];simp only[Bool.not_true,cond_false];have hm:=By h.1 h.2.1;refine Ao (d.1*d.2.1).toNat (fun n=>((n:Int),Ij d k n)) (fun n hn=> ?_) ?_
  ·have hl:=Za d k n;have e:tk d n=tkp d n:=by unfold tk;rw[if_pos ⟨h,by omega,by omega⟩]
   dsimp only;rw[Aj (z:=d.1*d.2.1) (by omega),dt (by omega),cond_true,Ql d n (by omega),e,Aha];simp only[Aa];by_cases q:tkp d n=k
   ·rw[dt q,cond_true,if_pos q,Br (by simp;omega) (by simp;omega)];simp only[Aa];rw[Aj (by omega)];rfl
   ·rw[df q,cond_false,if_neg q,Aj (by omega)];rfl
  ·dsimp only;rw[Aj (z:=d.1*d.2.1) (by omega),df (by omega),cond_false];rfl
 ·rw[df h,if_neg h];rfl
theorem Ami (d:Dev)(k:Int):(Fd d k).length<=36:=by
 unfold Fd;split
 ·rename_i h;have hm:=By h.1 h.2.1;have:=Za d k (d.1*d.2.1).toNat;omega
 ·simp
end Go.Pf
/-
  Own work. Logic elements, plainly: when they are well formed, their output, their inputs.
-/
namespace Go.Pf
open Go Go.Pu
set_option linter.unusedVariables false
abbrev Le:=Int×Int
def Fe (n:Net)(e:Le):Prop:=
 ((-1<=e.1/\e.1<=(n.2.2.1.length:Int) - 1)/\(-1<=e.2/\e.2<=(n.2.1.length:Int) - 1)/\¬(e.1<0/\e.2<0))/\
 (0<=e.2->(Bm n.2.1 e.2.toNat).1=0)/\(0<=e.1->0<=e.2->Am (Bm n.2.1 e.2.toNat).2.2 0=Em n+e.1/\Am (Pe n) (Em n+e.1).toNat=1)
instance (n:Net)(e:Le):Decidable (Fe n e):=by unfold Fe;exact inferInstance
theorem Aom {n:Net}(hb:M3 n)(h:Du n=true)(e:Le):Qj (n,e)=some (decide (Fe n e)):=by
 obtain⟨hl,ho,hs,ht⟩:=Cx h;have hv:=Oh hl;have hul:=Ye n;have hl2:=hl.2.1;have hl3:=hl.2.2.1;obtain⟨l,s⟩:=e;unfold Qj
 try dsimp only
 rw[Aj (z:=(n.2.2.1.length:Int) - 1) (by omega),Aj (z:=(n.2.1.length:Int) - 1) (by omega),Co,Co];simp only[Aa];by_cases c1: -1<=l/\l<=(n.2.2.1.length:Int) - 1
 rotate_left
 ·rw[df c1,df (show ¬Fe n (l,s)from fun e=>c1 e.1.1)];rfl
 rw[dt c1,Bool.not_true,cond_false];by_cases c2: -1<=s/\s<=(n.2.1.length:Int) - 1
 rotate_left
 ·rw[df c2,df (show ¬Fe n (l,s)from fun e=>c2 e.1.2.1)];rfl
 rw[dt c2,Bool.not_true,cond_false];by_cases c3:s<0
 ·rw[dt c3,df (show ¬0<=s by omega)];by_cases c4:l<0
  ·rw[dt c4,df (show ¬Fe n (l,s)from fun e=>e.1.2.2 ⟨c4,c3⟩)];rfl
  ·rw[df c4,dt (show Fe n (l,s)from⟨⟨c1,c2,fun e=>c4 e.1⟩,fun e=>absurd e (by simp only;omega),fun _ e=>absurd e (by simp only;omega)⟩)];rfl
 ·obtain⟨m,rfl⟩:∃m:Nat,s=(m:Int):=⟨s.toNat,by omega⟩;have hm:m<n.2.1.length:=by omega
  obtain⟨g1,g2⟩:=Hw hm;have hsm:=(hs m hm).1;rw[df c3,dt (show 0<=(m:Int)by omega),cond_true,g1];simp only[Aa];have pre:∀X:Option Bool,B1 ((bif decide (l<0)then(bif false then(Option.map Sum.inr (some false))else some (.inl ()))else some (.inl ())):Option (Unit⊕Bool)) (fun _=>X)=X:=by
   intro X;cases decide (l<0)<;>rfl
  rw[pre];by_cases c5:(Bm n.2.1 m).1≠0
  ·rw[dt c5,df (show ¬Fe n (l,(m:Int))from fun e=>c5 (by have:=e.2.1 (by simp only;omega);simp only[Int.toNat_natCast]at this;exact this))];rfl
  have c5:(Bm n.2.1 m).1=0:=Decidable.byContradiction c5;rw[df (fun e=>e c5),cond_false];by_cases c6:l<0
  ·rw[dt c6,dt (show Fe n (l,(m:Int))from⟨⟨c1,c2,fun e=>c3 e.2⟩,fun _=>by simp only[Int.toNat_natCast];exact c5,fun e=>absurd e (by simp only;omega)⟩)];rfl
  rw[df c6,cond_false,cond_false,Pd hl];have hlen:(Bm n.2.1 m).2.2.length=1:=by rcases hsm with q | q<;>omega
  have g0:Ak 0 (Bm n.2.1 m).2.2 0=some (Am (Bm n.2.1 m).2.2 0):=A0 (show 0<(Bm n.2.1 m).2.2.length by omega);simp only[Aa];rw[g0,Aj (z:=Em n+l) (by omega)];simp only[Aa];by_cases c7:Am (Bm n.2.1 m).2.2 0=Em n+l
  ·have hfl:Em n+l<lnV n:=by unfold lnV;omega
   rw[dt c7,cond_true,Aff hb h];simp only[Aa];rw[Cn (by omega) (by omega),E4 (by omega) (by omega)];simp only[Aa]
   congr 1
   rw[decide_eq_decide];exact⟨fun e=>⟨⟨c1,c2,fun q=>c3 q.2⟩,fun _=>by simp only[Int.toNat_natCast];exact c5,fun _ _=>by simp only[Int.toNat_natCast];exact⟨c7,e⟩⟩,fun e=>(e.2.2 (by simp only;omega) (by simp only;omega)).2⟩
  ·rw[df c7,df (show ¬Fe n (l,(m:Int))from fun e=>c7 (by have:=(e.2.2 (by simp only;omega) (by simp only;omega)).1;simp only[Int.toNat_natCast]at this;exact this))];rfl
def A41 (n:Net)(e:Le):Bool:=Du n && decide (Fe n e)
def Ny (n:Net)(e:Le):Int:=if 0<=e.2 then 1+n.1+e.2 else Em n+e.1
theorem Av2 {n:Net}(hl:U7 n){e:Le}(h:Fe n e):1<=Ny n e/\Ny n e<lnV n:=by
 obtain⟨⟨h1,h2,h3⟩,_⟩:=h;have h0:=hl.1;unfold Ny lnV Em;split<;>omega
theorem Sy {n:Net}(hl:U7 n){e:Le}(h:Fe n e):G7 (n,e)=some (Ny n e):=by
 obtain⟨⟨h1,h2,h3⟩,_⟩:=h;have h0:=hl.1;have hl2:=hl.2.1;have hl3:=hl.2.2.1;have hv:=Oh hl;unfold G7 Ny
 try dsimp only
 by_cases c:0<=e.2
 ·rw[dt c,cond_true,if_pos c,Aj (z:=1+n.1) (by omega),Aj (by omega)]
 ·rw[df c,cond_false,if_neg c,Pd hl];simp only[Aa];rw[Aj (by omega)]
theorem Aj3 {n:Net}(hl:U7 n){e:Le}(h:Fe n e):Oa (n,e)=some (Ny n e):=Sy hl h
def Yf (xs ex:List Int):List Int:=E1 [] (xs.filter fun x=>decide (0<x/\x∉ex))
theorem Sz {xs ex:List Int}{y:Int}:y∈Yf xs ex↔y∈xs/\0<y/\y∉ex:=by
 unfold Yf;rw[O9,List.mem_filter];simp
theorem Atf (xs ex:List Int):(Yf xs ex).length<=xs.length:=by
 have h1:=Pa [] (xs.filter fun x=>decide (0<x/\x∉ex));have h2:=List.length_filter_le (fun x=>decide (0<x/\x∉ex)) xs;unfold Yf;simp only[Ac]at h1;omega
theorem Qq (xs ex:List Int)(hl:xs.length<=100000000)(hex:ex.length<=100000000):G8 (xs,ex)=some (Yf xs ex):=by
 obtain⟨o,s1,s2,s3⟩:=Afc xs (by omega);have hol:=s2.length_eq;unfold G8;rw[s1];simp only[Aa];have key:∀X:Option (List Int),(∃r,X=some r/\(Asc r/\∀y,y∈r↔y∈o/\0<y/\y∉ex))->X=some (Yf xs ex):=by
  rintro X ⟨r,h1,h2,h3⟩
  rw[h1]
  congr 1
  have hs:Asc (Yf xs ex):=M4 Js;exact Z7 h2 hs (fun y=>by rw[h3,Sz,s2.mem_iff])
 refine key _ ?_
 refine B6 (fun s:Int×List Int=>(0<=s.1/\s.1<=(o.length:Int))/\Asc s.2/\(s.2.length:Int)<=s.1/\∀y,y∈s.2↔y∈o.take s.1.toNat/\0<y/\y∉ex) _ (fun s=>(o.length - s.1).toNat) (fun s hI=> ?_) (0,[]) ⟨⟨by simp,by simp⟩,Js,by simp,fun y=>by simp⟩;obtain⟨i,acc⟩:=s;obtain⟨⟨i0,i1⟩,hA,hAl,hm⟩:=hI;simp only at i0 i1 hA hAl hm
 try dsimp only
 by_cases hi:i<(o.length:Int)
 rotate_left
 ·right
  rw[df hi,cond_false];refine⟨acc,rfl,hA,fun y=> ?_⟩;rw[hm,List.take_of_length_le (by omega)]
 left
 obtain⟨k,rfl⟩:∃k:Nat,i=(k:Int):=⟨i.toNat,by omega⟩;have hk:k<o.length:=by omega
 have hsucc:((k:Int)+1).toNat=k+1:=by omega
 rw[Int.toNat_natCast]at hm;rw[dt hi,cond_true,As hk,A0 hk,Aj (z:=(k:Int)+1) (by omega)];simp only[Aa];have hle:∀y∈o.take k,y<=Am o k:=by
  intro y hy;obtain⟨j,hj,rfl⟩:=List.getElem_of_mem hy;rw[List.length_take]at hj;rw[List.getElem_take,<-Dm hk];exact List.pairwise_iff_getElem.1 s3 j k (by omega) hk (by omega)
 generalize hv:Am o k=v at*;have skip:¬(0<v/\v∉ex)->∀y,y∈acc↔y∈o.take (k+1)/\0<y/\y∉ex:=by
  intro hno y;rw[hm,D3 hk,hv,List.mem_append,List.mem_singleton]
  constructor
  ·rintro⟨q1,q2⟩;exact⟨Or.inl q1,q2⟩
  ·rintro⟨q1 | q1,q2⟩
   ·exact⟨q1,q2⟩
   ·subst q1;exact absurd q2 hno
 by_cases c1:0<v
 rotate_left
 ·rw[df c1,cond_false];exact⟨_,rfl,⟨⟨by simp only;omega,by simp only;omega⟩,hA,by simp only;omega,by simp only;rw[hsucc];exact skip (fun e=>c1 e.1)⟩,by simp only;omega⟩
 rw[dt c1,cond_true,Wq _ _ (by omega)];simp only[Aa];by_cases c2:v∈ex
 ·rw[dt c2,Bool.not_true,cond_false];exact⟨_,rfl,⟨⟨by simp only;omega,by simp only;omega⟩,hA,by simp only;omega,by simp only;rw[hsucc];exact skip (fun e=>e.2 c2)⟩,by simp only;omega⟩
 rw[df c2,Bool.not_false,cond_true];have add:(∀y∈acc,y<v)->Asc (acc++[v])/\∀y,y∈acc++[v]↔y∈o.take (k+1)/\0<y/\y∉ex:=by
  intro hlt;refine⟨?_,fun y=> ?_⟩
  ·unfold Asc;rw[List.pairwise_append];exact⟨hA,by simp,fun x hx y hy=>by rw[List.mem_singleton.1 hy];exact hlt x hx⟩
  ·rw[D3 hk,hv,List.mem_append,List.mem_append,hm,List.mem_singleton]
   constructor
   ·rintro(⟨q1,q2⟩ | q)
    ·exact⟨Or.inl q1,q2⟩
    ·subst q;exact⟨Or.inr rfl,c1,c2⟩
   ·rintro⟨q1 | q1,q2⟩
    ·exact Or.inl ⟨q1,q2⟩
    ·exact Or.inr q1
 by_cases c3:(acc.length:Int)=0
 ·have hnil:acc=[]:=List.length_eq_zero_iff.1 (by omega);obtain⟨a1,a2⟩:=add (by rw[hnil];simp);rw[dt c3,cond_true,gapp_ok (by simp;omega)];simp only[Aa];exact⟨_,rfl,⟨⟨by simp only;omega,by simp only;omega⟩,a1,by simp only[Ad,Ab,Ac];omega,by simp only;rw[hsucc];exact a2⟩,by simp only;omega⟩
 rw[df c3,cond_false,Aj (z:=(acc.length:Int) - 1) (by omega)];have el:(acc.length:Int) - 1=((acc.length - 1:Nat):Int):=by omega
 have hlast:acc.length - 1<acc.length:=by omega
 rw[el,As hlast,A0 hlast];simp only[Aa];have hmax:∀y∈acc,y<=Am acc (acc.length - 1):=by
  intro y hy;obtain⟨j,hj,rfl⟩:=List.getElem_of_mem hy;rw[<-Dm hlast];by_cases q:j=acc.length - 1
  ·subst q;exact Int.le_refl _
  ·exact Int.le_of_lt (List.pairwise_iff_getElem.1 hA j (acc.length - 1) hj hlast (by omega))
 have hlm:Am acc (acc.length - 1)∈acc:=by rw[<-Dm hlast];exact List.getElem_mem hlast
 have hlv:=hle _ ((hm _).1 hlm).1;by_cases c4:Am acc (acc.length - 1)≠v
 ·obtain⟨a1,a2⟩:=add (fun y hy=>by have:=hmax y hy;omega);rw[dt c4,cond_true,gapp_ok (by simp;omega)];simp only[Aa];exact⟨_,rfl,⟨⟨by simp only;omega,by simp only;omega⟩,a1,by simp only[Ad,Ab,Ac];omega,by simp only;rw[hsucc];exact a2⟩,by simp only;omega⟩
 ·have c4:Am acc (acc.length - 1)=v:=Decidable.byContradiction c4;rw[df (fun e=>e c4),cond_false];refine⟨_,rfl,⟨⟨by simp only;omega,by simp only;omega⟩,hA,by simp only;omega,fun y=> ?_⟩,by simp only;omega⟩;simp only;rw[hsucc,D3 hk,hv,List.mem_append,List.mem_singleton,hm]
  constructor
  ·rintro⟨q1,q2⟩;exact⟨Or.inl q1,q2⟩
  ·rintro⟨q1 | q1,q2⟩
   ·exact⟨q1,q2⟩
   ·subst q1;rw[c4]at hlm;exact(hm _).1 hlm
def Ahb (n:Net)(e:Le):List Int:=if 0<=e.1 then(E3 n.2.2.1 e.1.toNat).1 else(Bm n.2.1 e.2.toNat).2.2
def Lc (n:Net)(e:Le):List Int:=Yf (Ahb n e) []
theorem Z9 {n:Net}(h:Du n=true){e:Le}(he:Fe n e):(Ahb n e).length<=4/\∀x∈Ahb n e,0<=x/\x<lnV n:=by
 obtain⟨hl,ho,hs,ht⟩:=Cx h;obtain⟨⟨h1,h2,h3⟩,_⟩:=he;unfold Ahb;by_cases c:0<=e.1
 ·rw[if_pos c];have hk:e.1.toNat<n.2.2.1.length:=by omega
  obtain⟨t1,t2⟩:=ht _ hk;have t3:=t1.1;refine⟨by omega,fun x hx=> ?_⟩;have:=Ej t2 x hx;unfold lnV;omega
 ·rw[if_neg c];have hk:e.2.toNat<n.2.1.length:=by omega
  obtain⟨t1,t2⟩:=hs _ hk;refine⟨by rcases t1 with q | q<;>omega,Ej t2⟩
theorem J8 {n:Net}(h:Du n=true){e:Le}(he:Fe n e):(Lc n e).length<=4:=by
 have h1:=(Z9 h he).1;have h2:=Atf (Ahb n e) [];unfold Lc;omega
theorem Acv {n:Net}(h:Du n=true){e:Le}(he:Fe n e):I2 (n,e)=some (Lc n e):=by
 have hx:=(Z9 h he).1;have he' :=he;obtain⟨⟨h1,h2,h3⟩,_⟩:=he';unfold I2 Lc;unfold Ahb at*
 try dsimp only
 by_cases c:0<=e.1
 ·rw[if_pos c]at hx ⊢;have hk:e.1.toNat<n.2.2.1.length:=by omega
  obtain⟨g1,g2⟩:=Sx hk;have e1:((e.1.toNat:Nat):Int)=e.1:=by omega
  rw[e1]at g1;rw[dt c,cond_true,g1];simp only[Aa];rw[Qq _ _ (by omega) (by simp)];rfl
 ·rw[if_neg c]at hx ⊢;have hk:e.2.toNat<n.2.1.length:=by omega
  obtain⟨g1,g2⟩:=Hw hk;have e1:((e.2.toNat:Nat):Int)=e.2:=by omega
  rw[e1]at g1;rw[df c,cond_false,g1];simp only[Aa];rw[Qq _ _ (by omega) (by simp)];rfl
theorem Aqr (xs:List Int)(hx:∀x∈xs,0<=x):E1 [] (xs.filter fun x=>decide (x≠0))=Yf xs []:=by
 unfold Yf
 congr 1
 apply List.filter_congr;intro x hm;have:=hx x hm;rw[decide_eq_decide]
 constructor
 ·intro q;exact⟨by omega,by simp⟩
 ·intro q;omega
theorem Aj4 {n:Net}(h:Du n=true){e:Le}(he:Fe n e):Kf (n,e)=some (Lc n e):=by
 obtain⟨hx,hxr⟩:=Z9 h he;have he' :=he;obtain⟨⟨h1,h2,h3⟩,_⟩:=he';unfold Kf Lc;have hj:(bif decide (0<=e.1)then(
  (Ak (([],0):Lut) n.2.2.1 e.1).bind fun v2=>
  some (.inl v2.1))else
  (Ak ((0,(0,[])):Seq) n.2.1 e.2).bind fun v2=>
  some ((.inl v2.2.2):List Int⊕List Int))=some (.inl (Ahb n e)):=by
  unfold Ahb;by_cases c:0<=e.1
  ·have hk:e.1.toNat<n.2.2.1.length:=by omega
   obtain⟨g1,g2⟩:=Sx hk;have e1:((e.1.toNat:Nat):Int)=e.1:=by omega
   rw[e1]at g1;rw[dt c,cond_true,g1,if_pos c];rfl
  ·have hk:e.2.toNat<n.2.1.length:=by omega
   obtain⟨g1,g2⟩:=Hw hk;have e1:((e.2.toNat:Nat):Int)=e.2:=by omega
   rw[e1]at g1;rw[df c,cond_false,g1,if_neg c];rfl
 try dsimp only
 rw[hj,J6,<-Aqr _ (fun x hm=>(hxr x hm).1)];generalize Ahb n e=xs at*
 try dsimp only
 refine Ao xs.length (fun k=>(E1 [] ((xs.take k).filter fun x=>decide (x≠0)),(k:Int))) (fun k hk=> ?_) ?_
 ·have hil:=Pa [] ((xs.take k).filter fun x=>decide (x≠0));have hfl:=List.length_filter_le (fun x=>decide (x≠0)) (xs.take k);rw[List.length_take]at hfl;simp only[Ac]at hil
  try dsimp only
  rw[dt (show(k:Int)<(xs.length:Int)by omega),cond_true,A0 hk];simp only[Aa];rw[D3 hk,List.filter_append,Sn,Aj (by omega)];by_cases c:Am xs k≠0
  ·rw[dt c,cond_true,I4 _ _ (by omega)];simp only[Aa];have ef:[Am xs k].filter (fun x=>decide (x≠0))=[Am xs k]:=by simp[c]
   rw[ef,Ajo];rfl
  ·have c:Am xs k=0:=Decidable.byContradiction c;rw[df (fun e=>e c),cond_false];have ef:[Am xs k].filter (fun x=>decide (x≠0))=[]:=by simp[c]
   rw[ef,Ajn];rfl
 ·try dsimp only
  rw[df (by omega),cond_false,List.take_of_length_le (Nat.le_refl _)];rfl
def lins (n:Net)(e:Le):List Int:=if A41 n e=true then Lc n e else []
end Go.Pf
/-
  Own work. Blocks, plainly: items that exist, their outputs, their pins.
-/
namespace Go.Pf
open Go Go.Pu
set_option linter.unusedVariables false
abbrev Blk:=Int×(Int×List Le)
theorem Afk :∀(N:Nat) (xs:List Int),xs.Nodup->(∀x∈xs,0<=x/\x<(N:Int))->xs.length<=N
 | 0,xs,_,h=>by
  cases xs with
  | nil=>simp
  | cons a r=>have:=h a (by simp);omega
 | N+1,xs,hn,h=>by
  have h1:=Afk N (xs.erase (N:Int)) (hn.erase _) (fun x hx=>by
   have:=(List.Nodup.mem_erase_iff hn).1 hx;have:=h x this.2;omega)
  have h2:=List.length_erase (a:=(N:Int)) (l:=xs);split at h2<;>omega
theorem Aqs {xs:List Int}(h:Asc xs):xs.Nodup:=h.imp (fun q e=>by omega)
def Cp (ls:List Le)(k:Nat):Le:=ls.getD k (0,0)
theorem Lh {ls:List Le}{k:Nat}(h:k<ls.length):Ak ((0,0):Le) ls (k:Int)=some (Cp ls k):=by
 unfold Cp;rw[Ar h,List.getD,List.getElem?_eq_getElem h];rfl
theorem Afl {ls:List Le}{k:Nat}(h:k<ls.length):ls[k]=Cp ls k:=by
 unfold Cp;rw[List.getD,List.getElem?_eq_getElem h];rfl
def U9 (n:Net)(ls:List Le):Bool:=ls.all fun e=>decide (Fe n e)
theorem Ko {n:Net}{ls:List Le}(h:U9 n ls=true){k:Nat}(hk:k<ls.length):Fe n (Cp ls k):=by
 rw[<-Afl hk];exact of_decide_eq_true (List.all_eq_true.1 h _ (List.getElem_mem hk))
theorem Ayn (n:Net)(ls:List Le):U9 n ls=if(List.range ls.length).all (fun k=>if hk:k<ls.length then decide (Fe n ls[k])else true)=true then true else false:=by
 rw[Bt ls (fun e=>decide (Fe n e)) _ (fun k hk=>by rw[dif_pos hk])];show U9 n ls=if U9 n ls=true then true else false
 cases U9 n ls<;>rfl
def Gw (n:Net)(b:Blk):Bool:=
 if b.1=0 then decide (0<=b.2.1/\b.2.1<n.1)else if b.1=1 then decide (0<=b.2.1/\b.2.1<(n.2.2.2.length:Int))else if b.1=2 then decide (0<=b.2.1/\b.2.1<(n.2.1.length:Int))else if b.1=3 then U9 n b.2.2 else false
theorem Ayo (a c:Prop) [Decidable a] [Decidable c]:(bif decide a then some (decide c)else some false)=some (decide (a/\c)):=by
 by_cases h:a
 ·simp[h]
 ·simp[h]
theorem Va (n:Net)(b:Blk)(hb:M3 n)(hl:b.2.2.length<=1048576):Gn (n,b)=some (Du n && Gw n b):=by
 unfold Gn;rw[W0 n hb];simp only[Aa];cases h:Du n with
 | false=>rfl
 | true=>
  rw[Bool.not_true,cond_false,Bool.true_and];unfold Gw;by_cases k0:b.1=0
  ·rw[dt k0,cond_true,if_pos k0];exact Ayo _ _
  rw[df k0,cond_false,if_neg k0];by_cases k1:b.1=1
  ·rw[dt k1,cond_true,if_pos k1];exact Ayo _ _
  rw[df k1,cond_false,if_neg k1];by_cases k2:b.1=2
  ·rw[dt k2,cond_true,if_pos k2];exact Ayo _ _
  rw[df k2,cond_false,if_neg k2];have e:(if b.1=3 then U9 n b.2.2 else false)=if(List.range b.2.2.length).all (fun k=>if hk:k<b.2.2.length then decide (Fe n b.2.2[k])else true)=true then decide (b.1=3)else false:=by
   have:=Ayn n b.2.2;by_cases k3:b.1=3
   ·rw[if_pos k3,dt k3];exact this
   ·rw[if_neg k3,df k3];split<;>rfl
  rw[e];refine Cl b.2.2.length (fun k=>(k:Int)) _ false _ (fun k hk hok=> ?_) (fun k hk hok=> ?_) ?_
  ·rw[dif_pos hk]at hok;rw[Afl hk]at hok
   try dsimp only
   rw[dt (show(k:Int)<(b.2.2.length:Int)by omega),cond_true,Lh hk];simp only[Aa];rw[Aom hb h];simp only[Aa];rw[hok,Bool.not_true,cond_false,Aj (by omega)];rfl
  ·rw[dif_pos hk]at hok;rw[Afl hk]at hok
   try dsimp only
   rw[dt (show(k:Int)<(b.2.2.length:Int)by omega),cond_true,Lh hk];simp only[Aa];rw[Aom hb h];simp only[Aa];rw[hok];rfl
  ·try dsimp only
   rw[df (by omega),cond_false];rfl
def Q4 (n:Net)(ls:List Le)(k:Nat):List Int:=(ls.take k).map (Ny n)
theorem Aon {ls:List Le}{k:Nat}(h:k<ls.length):ls.take (k+1)=ls.take k++[Cp ls k]:=by rw[Bu ls k h,Afl h]
theorem Vb (n:Net){ls:List Le}{k:Nat}(h:k<ls.length):Q4 n ls (k+1)=Q4 n ls k++[Ny n (Cp ls k)]:=by
 unfold Q4;rw[Aon h,List.map_append];rfl
theorem Mb (n:Net)(ls:List Le)(k:Nat):(Q4 n ls k).length<=k:=by unfold Q4;simp;omega
def Qr (n:Net)(b:Blk):List Int:=if b.1=0 then [1+b.2.1]else if b.1=1 then []else if b.1=2 then [1+n.1+b.2.1]else Q4 n b.2.2 b.2.2.length
theorem Afm {n:Net}{b:Blk}(h:Gw n b=true)(k0:¬b.1=0)(k1:¬b.1=1)(k2:¬b.1=2):b.1=3/\U9 n b.2.2=true:=by
 unfold Gw at h;rw[if_neg k0,if_neg k1,if_neg k2]at h;split at h
 ·rename_i q;exact⟨q,h⟩
 ·simp at h
theorem Aqt (n:Net)(b:Blk)(hb:M3 n)(hl:b.2.2.length<=1048576):Kg (n,b)=some (if(Du n && Gw n b)=true then Qr n b else []):=by
 unfold Kg;rw[Va n b hb hl];simp only[Aa];cases hk:(Du n && Gw n b)with
 | false=>rfl
 | true=>
  rw[Ai]at hk;obtain⟨hn,hi⟩:=hk;obtain⟨hln,_⟩:=Cx hn;have h0:=hln.1;have h2:=hln.2.1;rw[Bool.not_true,cond_false,if_pos rfl];unfold Qr;by_cases k0:b.1=0
  ·unfold Gw at hi;rw[if_pos k0]at hi;have hi:=of_decide_eq_true hi;rw[dt k0,cond_true,if_pos k0,Aj (by omega)]
  rw[df k0,cond_false,if_neg k0];by_cases k1:b.1=1
  ·rw[dt k1,cond_true,if_pos k1]
  rw[df k1,cond_false,if_neg k1];by_cases k2:b.1=2
  ·unfold Gw at hi;rw[if_neg k0,if_neg k1,if_pos k2]at hi;have hi:=of_decide_eq_true hi;rw[dt k2,cond_true,if_pos k2,Aj (z:=1+n.1) (by omega),Aj (by omega)]
  rw[df k2,cond_false,if_neg k2];obtain⟨k3,hls⟩:=Afm hi k0 k1 k2;refine Ao b.2.2.length (fun k=>((k:Int),Q4 n b.2.2 k)) (fun k hk=> ?_) ?_
  ·have hol:=Mb n b.2.2 k
   try dsimp only
   rw[dt (show(k:Int)<(b.2.2.length:Int)by omega),cond_true,Lh hk];simp only[Aa];rw[Sy hln (Ko hls hk)];simp only[Aa];rw[gapp_ok (by simp only[Ab,Ac];omega),<-Vb n hk];simp only[Aa];rw[Aj (by omega)];rfl
  ·try dsimp only
   rw[df (by omega),cond_false];rfl
def Yg (n:Net)(ls:List Le):Nat->List Int
 | 0=>[]
 | k+1=>Yg n ls k++Lc n (Cp ls k)
theorem Acw {n:Net}(h:Du n=true){ls:List Le}(hls:U9 n ls=true)(k:Nat)(hk:k<=ls.length):(Yg n ls k).length<=4*k:=by
 induction k with
 | zero=>simp[Yg]
 | succ k ih=>
  have h1:=J8 h (Ko hls (show k<ls.length by omega));have h2:=ih (by omega);show(Yg n ls k++Lc n (Cp ls k)).length<=_;rw[Ad];omega
theorem Aj5 {n:Net}(h:Du n=true){ls:List Le}(hls:U9 n ls=true)(k:Nat)(hk:k<=ls.length):∀x∈Yg n ls k,0<x/\x<lnV n:=by
 induction k with
 | zero=>simp[Yg]
 | succ k ih=>
  intro x hx;rcases List.mem_append.1 hx with q | q
  ·exact ih (by omega) x q
  ·have h1:=Sz.1 q;have h2:=(Z9 h (Ko hls (show k<ls.length by omega))).2 x h1.1;omega
def Lk (n:Net)(ls:List Le):List Int:=Yf (Yg n ls ls.length) (Q4 n ls ls.length)
theorem Aqu {n:Net}(h:Du n=true){ls:List Le}(hls:U9 n ls=true):(Lk n ls).length<=433:=by
 have hv:=Oh (Cx h).1;have:=Afk 433 (Lk n ls) (Aqs (M4 Js)) (fun x hx=>by
  have h1:=Sz.1 hx;have h2:=Aj5 h hls _ (Nat.le_refl _) x h1.1;omega)
 exact this
theorem Yh {n:Net}(hb:M3 n)(h:Du n=true){ls:List Le}(hls:U9 n ls=true)(hl:ls.length<=1048576):F6 (n,ls)=some (Lk n ls):=by
 obtain⟨hln,_⟩:=Cx h;unfold F6;refine Ao ls.length (fun k=>((k:Int),(Yg n ls k,Q4 n ls k))) (fun k hk=> ?_) ?_
 ·have hol:=Mb n ls k;have hil:=Acw h hls k (by omega);have h1:=J8 h (Ko hls hk)
  try dsimp only
  rw[dt (show(k:Int)<(ls.length:Int)by omega),cond_true,Lh hk];simp only[Aa];rw[Acv h (Ko hls hk)];simp only[Aa];rw[gapp_ok (by omega)];simp only[Aa];rw[Sy hln (Ko hls hk)];simp only[Aa];rw[gapp_ok (by simp only[Ab,Ac];omega),<-Vb n hk];simp only[Aa];rw[Aj (by omega)];rfl
 ·have hol:=Mb n ls ls.length;have hil:=Acw h hls ls.length (by omega)
  try dsimp only
  rw[df (by omega),cond_false,Qq _ _ (by omega) (by omega)];rfl
theorem Amj {n:Net}{b:Blk}(hb:M3 n)(h:Du n=true)(hls:U9 n b.2.2=true)(hl:b.2.2.length<=1048576)(k3:b.1=3):Gm (n,b)=some (Lk n b.2.2):=by
 obtain⟨hln,_⟩:=Cx h;unfold Gm
 try dsimp only
 rw[df (show ¬b.1=0 by omega),cond_false,df (show ¬b.1=1 by omega),cond_false,df (show ¬b.1=2 by omega),cond_false];generalize b.2.2=ls at*;refine Ao ls.length (fun k=>(Q4 n ls k,(k:Int))) (fun k hk=> ?_) ?_
 ·have hol:=Mb n ls k
  try dsimp only
  rw[dt (show(k:Int)<(ls.length:Int)by omega),cond_true,Lh hk];simp only[Aa];rw[Aj3 hln (Ko hls hk)];simp only[Aa];rw[gapp_ok (by simp only[Ab,Ac];omega),<-Vb n hk];simp only[Aa];rw[Aj (by omega)];rfl
 try dsimp only
 rw[df (show ¬(ls.length:Int)<(ls.length:Int)by omega),cond_false];refine(Option.map_eq_some_iff).2 ⟨_,?_,rfl⟩;have hol:=Mb n ls ls.length;have conv:Lk n ls=E1 [] ((Yg n ls ls.length).filter fun x=>decide (x∉Q4 n ls ls.length)):=by
  unfold Lk Yf
  congr 1
  apply List.filter_congr;intro x hx;have:=Aj5 h hls _ (Nat.le_refl _) x hx;rw[decide_eq_decide];exact⟨fun q=>q.2,fun q=>⟨this.1,q⟩⟩
 rw[conv];generalize hO:Q4 n ls ls.length=O at*;refine Ao ls.length (fun k=>(E1 [] ((Yg n ls k).filter fun x=>decide (x∉O)),(k:Int))) (fun k hk=> ?_) ?_
 ·have hil:=Acw h hls k (by omega);have h1:=J8 h (Ko hls hk);have e1:Yg n ls (k+1)=Yg n ls k++Lc n (Cp ls k):=rfl
  try dsimp only
  rw[dt (show(k:Int)<(ls.length:Int)by omega),cond_true,Lh hk];simp only[Aa];rw[Aj4 h (Ko hls hk)];simp only[Aa];rw[e1];generalize Yg n ls k=A at*;generalize Lc n (Cp ls k)=X at*;have e0:((0:Int),E1 [] (A.filter fun x=>decide (x∉O)))=(fun j:Nat=>((j:Int),E1 [] ((A++X.take j).filter fun x=>decide (x∉O)))) 0:=by simp
  rw[e0];refine Ao X.length (fun j=>((j:Int),E1 [] ((A++X.take j).filter fun x=>decide (x∉O)))) (fun j hj=> ?_) ?_
  ·have hil2:=Pa [] ((A++X.take j).filter fun x=>decide (x∉O));have hfl:=List.length_filter_le (fun x=>decide (x∉O)) (A++X.take j);rw[Ad,List.length_take]at hfl;simp only[Ac]at hil2
   try dsimp only
   rw[dt (show(j:Int)<(X.length:Int)by omega),cond_true,As hj,A0 hj];simp only[Aa];rw[O8 _ _ (by omega),D3 hj,<-List.append_assoc,List.filter_append (A++X.take j),Sn,Aj (by omega)];simp only[Aa];by_cases c:Am X j∈O
   ·have ef:[Am X j].filter (fun x=>decide (x∉O))=[]:=by simp[c]
    rw[dt c,Bool.not_true,cond_false,ef,Ajn];rfl
   ·have ef:[Am X j].filter (fun x=>decide (x∉O))=[Am X j]:=by simp[c]
    rw[df c,Bool.not_false,cond_true,I4 _ _ (by omega),ef,Ajo];rfl
  ·try dsimp only
   rw[df (by omega),cond_false,List.take_of_length_le (Nat.le_refl _),Aj (by omega)];rfl
 ·try dsimp only
  rw[df (by omega),cond_false];rfl
def W2 (n:Net)(b:Blk):List Int:=if b.1=0 then []else if b.1=1 then [Am n.2.2.2 b.2.1.toNat]else if b.1=2 then(Bm n.2.1 b.2.1.toNat).2.2 else Lk n b.2.2
theorem Atg {n:Net}{b:Blk}(h:Du n=true)(hi:Gw n b=true):(W2 n b).length<=433:=by
 unfold W2;by_cases k0:b.1=0
 ·rw[if_pos k0];simp
 rw[if_neg k0];by_cases k1:b.1=1
 ·rw[if_pos k1];simp
 rw[if_neg k1];by_cases k2:b.1=2
 ·rw[if_pos k2];unfold Gw at hi;rw[if_neg k0,if_neg k1,if_pos k2]at hi;have hi:=of_decide_eq_true hi;obtain⟨_,_,hs,_⟩:=Cx h;have:=(hs b.2.1.toNat (by omega)).1;rcases this with q | q<;>omega
 rw[if_neg k2];exact Aqu h (Afm hi k0 k1 k2).2
theorem Aqv {n:Net}{b:Blk}(hb:M3 n)(h:Du n=true)(hi:Gw n b=true)(hl:b.2.2.length<=1048576):Gm (n,b)=some (W2 n b):=by
 by_cases k3:b.1=3
 ·have hls:=(Afm hi (by omega) (by omega) (by omega)).2;rw[Amj hb h hls hl k3];unfold W2;rw[if_neg (by omega),if_neg (by omega),if_neg (by omega)]
 unfold Gm W2;unfold Gw at hi
 try dsimp only
 by_cases k0:b.1=0
 ·rw[dt k0,if_pos k0];rfl
 rw[if_neg k0]at hi;rw[df k0,cond_false,if_neg k0];by_cases k1:b.1=1
 ·rw[if_pos k1]at hi;have hi:=of_decide_eq_true hi;rw[dt k1,cond_true,if_pos k1,E4 hi.1 hi.2];rfl
 rw[if_neg k1]at hi;rw[df k1,cond_false,if_neg k1];by_cases k2:b.1=2
 ·rw[if_pos k2]at hi;have hi:=of_decide_eq_true hi;have hk:b.2.1.toNat<n.2.1.length:=by omega
  obtain⟨g1,g2⟩:=Hw hk;have e1:((b.2.1.toNat:Nat):Int)=b.2.1:=by omega
  rw[e1]at g1;have hlen:=hb.1.at g2;rw[dt k2,cond_true,if_pos k2,g1];simp only[Aa];unfold Ue;rw[gapp_ok (by simp;omega)];rfl
 ·rw[if_neg k2,if_neg k3]at hi;simp at hi
theorem Aea (n:Net)(b:Blk)(hb:M3 n)(hl:b.2.2.length<=1048576):Kh (n,b)=some (if(Du n && Gw n b)=true then W2 n b else []):=by
 unfold Kh;rw[Va n b hb hl];simp only[Aa];cases hk:(Du n && Gw n b)with
 | false=>rfl
 | true=>
  rw[Ai]at hk;obtain⟨hn,hi⟩:=hk;rw[Bool.not_true,cond_false,if_pos rfl];have hi' :=hi;unfold Gw at hi;unfold W2;by_cases k0:b.1=0
  ·rw[dt k0,if_pos k0];rfl
  rw[if_neg k0]at hi;rw[df k0,cond_false,if_neg k0];by_cases k1:b.1=1
  ·rw[if_pos k1]at hi;have hi:=of_decide_eq_true hi;rw[dt k1,cond_true,if_pos k1,E4 hi.1 hi.2];rfl
  rw[if_neg k1]at hi;rw[df k1,cond_false,if_neg k1];by_cases k2:b.1=2
  ·rw[if_pos k2]at hi;have hi:=of_decide_eq_true hi;have hk:b.2.1.toNat<n.2.1.length:=by omega
   obtain⟨g1,g2⟩:=Hw hk;have e1:((b.2.1.toNat:Nat):Int)=b.2.1:=by omega
   rw[e1]at g1;have hlen:=hb.1.at g2;rw[dt k2,cond_true,if_pos k2,g1];simp only[Aa];rw[gapp_ok (by simp;omega)];rfl
  rw[df k2,cond_false,if_neg k2,Yh hb hn (Afm hi' k0 k1 k2).2 hl];rfl
def Aqw (n:Net)(b:Blk):Bool:=
 if b.1=3 then decide (b.2.1=0/\(1<=b.2.2.length/\b.2.2.length<=2)/\(Lk n b.2.2).length<=5)else decide (b.2.2.length=0/\(b.1=2->(Bm n.2.1 b.2.1.toNat).1=1))
def Aqx (n:Net)(b:Blk):Bool:=(Du n && Gw n b) && Aqw n b
theorem Aj6 (n:Net)(b:Blk)(hb:M3 n)(hl:b.2.2.length<=1048576):Ls (n,b)=some (Aqx n b):=by
 unfold Ls Aqx;rw[Va n b hb hl];simp only[Aa];cases hk:(Du n && Gw n b)with
 | false=>rfl
 | true=>
  rw[Ai]at hk;obtain⟨hn,hi⟩:=hk;rw[Bool.not_true,cond_false,Bool.true_and];unfold Aqw;by_cases k3:b.1=3
  ·have hls:=(Afm hi (by omega) (by omega) (by omega)).2;rw[dt k3,cond_true,if_pos k3];by_cases c0:b.2.1=0
   rotate_left
   ·rw[df c0,df (show ¬(b.2.1=0/\_)from fun e=>c0 e.1)];rfl
   rw[dt c0,cond_true,Co];simp only[Aa];by_cases c1:1<=(b.2.2.length:Int)/\(b.2.2.length:Int)<=2
   rotate_left
   ·rw[df c1,df (show ¬(b.2.1=0/\(1<=b.2.2.length/\b.2.2.length<=2)/\_)from fun e=>c1 (by have:=e.2.1;omega))];rfl
   rw[dt c1,cond_true,Yh hb hn hls hl];simp only[Aa]
   congr 1
   rw[decide_eq_decide];exact⟨fun e=>⟨c0,by omega,by omega⟩,fun e=>by have:=e.2.2;omega⟩
  ·rw[df k3,cond_false,if_neg k3];by_cases c0:(b.2.2.length:Int)=0
   rotate_left
   ·rw[df c0,df (show ¬(b.2.2.length=0/\_)from fun e=>c0 (by have:=e.1;omega))];rfl
   rw[dt c0,cond_true];by_cases k2:b.1≠2
   ·rw[dt k2,cond_true,dt (show b.2.2.length=0/\(b.1=2->(Bm n.2.1 b.2.1.toNat).1=1)from⟨by omega,fun e=>absurd e k2⟩)]
   ·have k2:b.1=2:=Decidable.byContradiction k2;unfold Gw at hi;rw[if_neg (by omega),if_neg (by omega),if_pos k2]at hi;have hi:=of_decide_eq_true hi;have hk:b.2.1.toNat<n.2.1.length:=by omega
    obtain⟨g1,g2⟩:=Hw hk;have e1:((b.2.1.toNat:Nat):Int)=b.2.1:=by omega
    rw[e1]at g1;rw[df (fun e=>e k2),cond_false,g1];simp only[Aa]
    congr 1
    rw[decide_eq_decide];exact⟨fun e=>⟨by omega,fun _=>e⟩,fun e=>e.2 k2⟩
end Go.Pf
